/- Parts of a proof, one behind the other: WPu, PPu, WPi, Pf, WCp, PCp, WCo1, WCo2, PCo2, WCo3, PCo3, WPa, Ga, WOa, WMd, PMd, WMy, PMz, Tc, PPa, WPb, PPb, WSpw, PSpw, WPc, PPc, WPd, PPd, WDa, WDb, PDb, WDc, PDc, WDd, PDd, WDe, Gb, WEa, WMw, PMw, WTj, WKm, PKm, Nm, WTi, WUa, PUa, WOb, WUb. No conditions. -/
import Derived.Shelf.Strconv.Itoa0
import Derived.Test.YtifiiigbedjceaaGreatTuP
open Go.IntKind (wrap)
namespace Go.Proofs.YtifiiigbedjceaaGreat
noncomputable section
section
section
variable {w0:World} {F0:Nat->Prop} {K:Kp} {ac:List Act} {Q:Exit->Act->World->Prop} {cX:C0} {aX:Act}
open Go.Shelf
theorem A7y{n:Nat}(h:n<B6):N6 (Fin.ofNat B6 n)=Fin.ofNat pN n:=by
 apply Fin.ext
 show (n % B6) % pN=n % pN;rw[Nat.mod_eq_of_lt h]
theorem A2a(n:Int)(h1:0<=n)(h2:n<18446744073709551616):K2 Tryz.prog 68 [.v (.c (.int .u64 n))] (.v (.a [.ob (.p (Fin.ofNat pN n.toNat))])) []:=by
 refine (A6 VU Tryz.func68 (C8p n) ⟨h1,h2,A4,A4,A4,A4,A4,A4,A4,A4,A4,A4,C4⟩).conv (fun _ _ h=>h) fun y v hd=>?_
 rw[Nat.add_zero,A7y (by unfold B6;omega)] at hd
 exact hd
theorem B1b(x:Fp):K2 Tryz.prog 133 [.v (.a [.ob (.p x)])] (.v (.c (.bool (decide (x=0))))) []:=by
 refine (A6 VU Tryz.func133 (D7r _) trivial).conv (fun _ _ h=>h) fun y v hd=>?_
 rw[if_pos rfl] at hd;exact hd
def Iz:B2
 | [.v (.c (.int .u64 n))]=>some ([0<=n,n<18446744073709551616],.v (.a [.ob (.p (Fin.ofNat pN n.toNat))]),[])
 | _=>none
def D4r:D6:=qeF.set (E0 qeF.fn 68 Iz)
theorem C7p:A7 Tryz.prog D4r:=A8 VU 68 Iz (A2 Tryz.func68 rfl rfl) fun args o r es h ho=>by
 unfold Iz at h;split at h
 ·cases h;exact A2a _ ho.1 ho.2.1
 ·cases h
def Qi:B2
 | [.v (.a [.ob (.p x)])]=>some ([],.v (.a [.ob (.p (0-x))]),[])
 | _=>none
def D4s:D6:=D4r.set (E0 D4r.fn 134 Qi)
theorem C7q:A7 Tryz.prog D4s:=A8 C7p 134 Qi (A2 Tryz.func134 rfl rfl) fun args o r es h _=>by
 unfold Qi at h;split at h
 ·cases h;exact A6 VU Tryz.func134 (D9i _) trivial
 ·cases h
def MH:B2
 | [.v (.a [.ob (.p x)])]=>some ([],.v (.c (.bool (decide (x=0)))),[])
 | _=>none
def qeG:D6:=D4s.set (E0 D4s.fn 133 MH)
theorem D4t:A7 Tryz.prog qeG:=A8 C7q 133 MH (A2 Tryz.func133 rfl rfl) fun args o r es h _=>by
 unfold MH at h;split at h
 ·cases h;exact B1b _
 ·cases h
def E5x:Ren:=⟨fun n=>if n=129 then 110 else 0,fun t=>if t=46 then 177 else if t=53 then 25 else t,fun g=>g⟩
theorem D9f:Lays.n129 Tryz.prog E5x:=
  { mixed:=by kernel_rfl
    f129:=by kernel_rfl
    t3:=by kernel_rfl
    a3:=fun _=>by kernel_rfl
    z3:=fun _=>by kernel_rfl
    v3:=fun _=>by kernel_rfl
    t4:=by kernel_rfl
    a4:=fun _=>by kernel_rfl
    z4:=fun _=>by kernel_rfl
    v4:=fun _=>by kernel_rfl
    t5:=by kernel_rfl
    a5:=fun _=>by kernel_rfl
    z5:=fun _=>by kernel_rfl
    v5:=fun _=>by kernel_rfl
    t9:=by kernel_rfl
    a9:=fun _=>by kernel_rfl
    z9:=fun _=>by kernel_rfl
    v9:=fun _=>by kernel_rfl
    t46:=by kernel_rfl
    a46:=fun _=>by kernel_rfl
    z46:=fun _=>by kernel_rfl
    v46:=fun _=>by kernel_rfl
    t53:=by kernel_rfl
    a53:=fun _=>by kernel_rfl
    z53:=fun _=>by kernel_rfl
    v53:=fun _=>by kernel_rfl }
theorem A8l(n:Int)(h0:0<=n)(h1:n<18446744073709551616):K2 Tryz.prog 110 [.v (.c (.int .u64 n))] (.v (.c (.int .i64 (Lib.bitLen n.toNat:Nat)))) []:=
 B3m fun x vs hd=>by
  cases hd with | cons d1 hd=>
  cases hd
  rw[M9 d1];exact ⟨_,Any.bits_Len64 D9f n x.w h0 (by omega),⟨rfl,0,rfl⟩⟩
def Vh:B2
 | [.v (.c (.int .u64 n))]=>some ([0<=n,n<18446744073709551616],.v (.c (.int .i64 (Lib.bitLen n.toNat:Nat))),[])
 | _=>none
def C7r:D6:=qeG.set (E0 qeG.fn 110 Vh)
theorem A5u:A7 Tryz.prog C7r:=A8 D4t 110 Vh (A2 Tryz.func110 rfl rfl) fun args o r es h ho=>by
 unfold Vh at h;split at h
 ·cases h;exact A8l _ ho.1 ho.2.1
 ·cases h
theorem ct(l:List Int):let b:Int:=l.length;let a:=ite ((16:Int)<b) (16:Int) b;C2 C7r Tryz.f109 3000 [.v (.c (.sl (.u64 l)))] [] [] []=(some ([(0<=a),(a<=a),(a<=b)],((.ci (.sl (.u64 (List.take (a).toNat (List.drop 0 l))))),[]))):=by intros;kernel_rfl
theorem C2z(l:List Int)(hl:l.length<=16):K2 Tryz.prog 109 [.v (.c (.sl (.u64 l)))] (.v (.c (.sl (.u64 l)))) []:=by
 have r:=ct l;dsimp only at r;have e:(if (16:Int)<((l.length:Nat):Int) then (16:Int) else ((l.length:Nat):Int))=((l.length:Nat):Int):=if_neg (by omega)
 rw[e,Int.toNat_natCast,List.drop_zero,List.take_length] at r;exact A6 A5u Tryz.func109 r ⟨by omega,Int.le_refl _,Int.le_refl _,C4⟩
def UJ:B2
 | [.v (.c (.sl (.u64 l)))]=>some ([l.length<=16],.v (.c (.sl (.u64 l))),[])
 | _=>none
def A9s:D6:=C7r.set (E0 C7r.fn 109 UJ)
theorem JU:A7 Tryz.prog A9s:=A8 A5u 109 UJ (A2 Tryz.func109 rfl rfl) fun args o r es h ho=>by
 unfold UJ at h;split at h
 ·cases h;exact C2z _ ho.1
 ·cases h
def nbS(l:List Int)(i :Int):St:=B0 26 [0,3] [(.ci (.sl (.u64 l))),.v (.c (.int .i64 i))] [] [] 144 [] []
def HQ:List KI:=(run A9s false 3000 (⟨[.code (B5 Tryz.f96)],.normal,D2 Tryz.f96.ntmps [.v (.c (.sl (.u64 dF)))]⟩:G5) []).cfg.k
theorem E3r(l:List Int):A5 [(l.length<=16)]->Sg Tryz.prog (D2 Tryz.f96.ntmps [.v (.c (.sl (.u64 l)))]) (nbS l (wrap .i64 ((l.length:Int)-1))) .normal (HQ) ([.code (B5 Tryz.f96)]):=E4 false 3000 [] JU
theorem nbN(l:List Int)(i:Int):A5 [((decide (i >= (0:Int)))=true),(0<=i),(i<(l.length:Int)),(((l.getD i.toNat 0) != (0:Int))=false)]->Sg Tryz.prog (nbS l i) (St.z (nbS l (wrap .i64 (i-1))) 304) .normal (D4 HQ) (B7 HQ):=E4 false 3000 [true,false] JU
theorem C5o(l:List Int)(i:Int):let a:=l.getD i.toNat 0;let b:=i<(l.length:Int);E2 A9s Tryz.f96 false 3000 (⟨B7 HQ,.normal,nbS l i⟩) [true,true] [] []=(some ([((decide (i >= (0:Int)))=true),(0<=i),b,((a != (0:Int))=true),(0<=i),b,(0<=a),(a<(18446744073709551616:Int))],((.ii (wrap .i64 ((wrap .i64 ((64:Int)*i))+(((Lib.bitLen (a).toNat):Nat):Int)))),[]))):=by intros;kernel_rfl
theorem C5n(l:List Int)(i:Int):E2 A9s Tryz.f96 false 3000 (⟨B7 HQ,.normal,nbS l i⟩) [false] [] []=(some ([((decide (i >= (0:Int)))=false)],((.ii 0),[]))):=by kernel_rfl
theorem B1t(l:List Int)(hl:l.length<=16)(hlim:Dy l):K2 Tryz.prog 96 [.v (.c (.sl (.u64 l)))] (.v (.c (.int .i64 (U1 l l.length:Nat)))) []:=by
 refine H2 (fn:=Tryz.f96) (c:=B5 Tryz.f96) Tryz.func96 rfl rfl fun x a hk hF hs=>?_
 refine E3r l ⟨hl,C4⟩ hs fun ac cY aY hs1=>?_
 rw[A9 (by omega) (by omega)] at hs1
 refine C5 (ι:={ n:Nat // n<=l.length∧U1 l n=U1 l l.length }) (fun n=>nbS l ((n.1:Int)-1)) (fun n=>n.1) (c:=X5 HQ) (k:=X8 HQ) (by kernel_rfl) (fun n ih ac cY aY hs=>?_) ⟨l.length,Nat.le_refl _,rfl⟩ (hs1.nx _)
 obtain ⟨n,hn,he⟩:=n;simp only at ih hs
 cases n with
 | zero=>
  rw[<-he];exact H4 JU hk hF (C5n l _) ⟨by simp,C4⟩ (fun y v hd=>hd) hs
 | succ n=>
  have e1:((n+1:Nat):Int)-1=(n:Int):=by omega
  rw[e1] at hs;have hg:=PV hlim n;by_cases h0:l.getD n 0=0
  ·refine nbN l _ ⟨by simp,by omega,by omega,by rw[Int.toNat_natCast,h0];rfl,C4⟩ hs fun ac cZ aZ hs2=>?_
   rw[A9 (by omega) (by omega)] at hs2
   refine ih ⟨n,by omega,?_⟩ (Nat.lt_succ_self n) ac cZ aZ (hs2.nx _)
   rw[<-he];show _=if l.getD n 0≠0 then _ else U1 l n
   rw[if_neg (by simpa using h0)]
  ·have r:=C5o l (n:Int)
   dsimp only at r;have hb:U1 l l.length=64*n+Lib.bitLen (l.getD n 0).toNat:=by
    rw[<-he];show (if l.getD n 0≠0 then _ else U1 l n)=_
    rw[if_pos h0]
   have hle:=Sl (l.getD n 0).toNat;rw[Int.toNat_natCast] at r;have e2:wrap IntKind.i64 (wrap IntKind.i64 ((64:Int)*(n:Int))+((Lib.bitLen (l.getD n 0).toNat:Nat):Int))=((U1 l l.length:Nat):Int):=by
    rw[hb];generalize Lib.bitLen (l.getD n 0).toNat=B at *;rw[A9 (n:=(64:Int)*(n:Int)) (by omega) (by omega),A9 (by omega) (by omega)]
    omega
   rw[e2] at r;have hne:(l.getD n 0 != (0:Int))=true:=by simpa using h0
   exact H4 JU hk hF r ⟨by simp,by omega,by omega,hne,by omega,by omega,hg.1,hg.2,C4⟩ (fun y v hd=>hd) hs
def Oh:B2
 | [.v (.c (.sl (.u64 l)))]=>some ([l.length<=16,Dy l],.v (.c (.int .i64 (U1 l l.length:Nat))),[])
 | _=>none
def qeH:D6:=A9s.set (E0 A9s.fn 96 Oh)
theorem AO:A7 Tryz.prog qeH:=A8 JU 96 Oh (A2 Tryz.func96 rfl rfl) fun args o r es h ho=>by
 unfold Oh at h;split at h
 ·cases h;exact B1t _ ho.1 ho.2.1
 ·cases h
def D1b:List KI:=(run qeH false 3000 (⟨[.code (B5 Tryz.f95)],.normal,⟨Hm [.v (.c (.val (.func (.yield dF) #[] #[]))),.v (.c (.ptr 0 0))],one (.fl [.val dF]),Tryz.f95.ntmps,16,[]⟩⟩:G5) []).cfg.k
theorem bt(l:Nat)(v:Value):let a:=Array.mk ([]:List Value);A5 []->Sg Tryz.prog (⟨Hm [.v (.c (.val (.func (.yield l) #[] #[]))),.v (.c (.ptr 0 0))],one (.fl [.val v]),Tryz.f95.ntmps,16,[]⟩) (B0 24 [0,1,4] [(.ci (.val (Value.func (Fn.yield l) a a))),.pt 0 0,(.ci (.val v))] [0] [(B9 [(.val v)])] 32 [] []) .normal (D1b) ([.code (B5 Tryz.f95)]):=E4 false 3000 [] AO
def btA(l:Nat)(v:Value)(e:List Int):St:=B0 24 [0,1,4] [(.ci (.val (Value.func (Fn.yield l) (Array.mk ([]:List Value)) (Array.mk ([]:List Value))))),.pt 0 0,.v (.c (.sl (.u64 e)))] [0] [(B9 [(.val v)])] 32 [] []
def buS(l:Nat)(v:Value)(i :Int):St:=B0 24 [0,1,3] [(.ci (.val (Value.func (Fn.yield l) (Array.mk ([]:List Value)) (Array.mk ([]:List Value))))),.pt 0 0,.v (.c (.int .i64 i))] [0] [(B9 [(.val v)])] 80 [] []
def Zr:List KI:=(run qeH false 3000 (⟨D1b,.normal,btA dF dF dF⟩:G5) []).cfg.k
theorem bu(l:Nat)(v:Value)(e:List Int):A5 [(e.length<=16),(Dy e)]->Sg Tryz.prog (btA l v e) (buS l v (wrap .i64 ((((U1 e e.length):Nat):Int)-1))) .normal (Zr) (D1b):=E4 false 3000 [] AO
def D1c:List KI:=(run qeH false 3000 (⟨B7 Zr,.normal,buS dF dF dF⟩:G5) [true]).cfg.k
theorem bv(l:Nat)(v:Value)(i:Int):let b:=Array.mk ([]:List Value);let a:=Value.func (Fn.yield l) b b;A5 [((decide (i >= (0:Int)))=true),((64:Int)≠(0:Int))]->Sg Tryz.prog (buS l v i) (B0 24 [0,1,3,11,12,14] [(.ci (.val a)),.pt 0 0,.ii i,(.ci (.val a)),(.ci (.val v)),(.ii (wrap .i64 (Int.tdiv i (64:Int))))] [0] [(B9 [(.val v)])] 176 [] []) .normal (D1c) (B7 Zr):=E4 false 3000 [true] AO
def bvA(l:Nat)(v:Value)(e:List Int)(i :Int):St:=B0 24 [0,1,3,11,12,14] [(.ci (.val (Value.func (Fn.yield l) (Array.mk ([]:List Value)) (Array.mk ([]:List Value))))),.pt 0 0,.ii i,(.ci (.val (Value.func (Fn.yield l) (Array.mk ([]:List Value)) (Array.mk ([]:List Value))))),.v (.c (.sl (.u64 e))),(.ii (wrap .i64 (Int.tdiv i (64:Int))))] [0] [(B9 [(.val v)])] 176 [] []
def D8c:List KI:=(run qeH false 3000 (⟨D1c,.normal,bvA dF dF dF dF⟩:G5) []).cfg.k
theorem bw(l:Nat)(v:Value)(e:List Int)(i:Int):let c:=Array.mk ([]:List Value);let a:=Value.func (Fn.yield l) c c;let d:Int:=64;let b:=wrap .i64 (Int.tdiv i d);let f:=Int.tmod i d;A5 [(0<=b),(b<(e.length:Int)),(d≠(0:Int)),(0<=f)]->Sg Tryz.prog (bvA l v e i) (B0 24 [0,1,3,11,21] [(.ci (.val a)),.pt 0 0,.ii i,(.ci (.val a)),(.ci (.bool ((E1 BinOp.and IntKind.u64 (Int.fdiv (List.getD e (b).toNat 0) ((2:Int) ^ (Min.min (f).toNat 64))) (1:Int)) == (1:Int))))] [0] [(B9 [(.val v)])] 288 [] []) .normal (D8c) (D1c):=E4 false 3000 [] AO
theorem bX(l:Nat)(v:Value)(i:Int):A5 [((decide (i >= (0:Int)))=false)]->Sg Tryz.prog (buS l v i) (B0 24 [] [] [0] [(B9 [(.val v)])] 112 [] []) .normal ([]) (B7 Zr):=E4 false 3000 [false] AO
theorem bB(l:Nat)(v:Value)(i:Int)(b:Bool):A5 []->Sg Tryz.prog (⟨M7 (C7 .top [0,1,3,11,21] [(.ci (.val (.func (.yield l) #[] #[]))),.v (.c (.ptr 0 0)),.v (.c (.int .i64 i)),(.ci (.val (.func (.yield l) #[] #[]))),.v (.c (.bool b))]) 22 (.ci (.lit true)),one (.fl [.val v]),24,400,[]⟩) (St.z (buS l v (wrap .i64 (i-1))) 464) .normal (D4 Zr) (J4 D8c):=E4 false 3000 [] AO
theorem Vq (v : Value) (w : World) : (method (Tryz.prog.types.size + Made.depth) 97 v "Times").run Tryz.prog w = .ok (97, v) w := by kernel_rfl
theorem XR (v : Value) (w : World) : (method (Tryz.prog.types.size + Made.depth) 97 v "Plus").run Tryz.prog w = .ok (98, v) w := by kernel_rfl
theorem Vp (v : Value) (w : World) : (method (Tryz.prog.types.size + Made.depth) 97 v "Minus").run Tryz.prog w = .ok (112, v) w := by kernel_rfl
theorem RP (v : Value) (w : World) : (method (Tryz.prog.types.size + Made.depth) 97 v "IsZero").run Tryz.prog w = .ok (133, v) w := by kernel_rfl
theorem Nu (v : Value) (w : World) : (method (Tryz.prog.types.size + Made.depth) 97 v "Negative").run Tryz.prog w = .ok (134, v) w := by kernel_rfl
theorem PZ (v : Value) (w : World) : (method (Tryz.prog.types.size + Made.depth) 97 v "Inverse").run Tryz.prog w = .ok (132, v) w := by kernel_rfl
def D1z (t : Nat) : Option (List (String × Nat)) := if t = 97 then some [("Times", 97), ("Plus", 98), ("Minus", 112), ("IsZero", 133), ("Negative", 134), ("Inverse", 132)] else none
def qeI:D6:={ qeH with inv:=D1z }
theorem FW:A7 Tryz.prog qeI:=by
 refine ⟨AO.ty,AO.mixed,AO.fn,AO.mu,AO.inl,AO.ex,fun t l h=>?_⟩
 have h:D1z t=some l:=h;unfold D1z at h;split at h
 ·rename_i ht
  cases h
  subst ht;refine ⟨by kernel_rfl,fun name g hg v args w=>?_⟩
  unfold BB at hg;split at hg
  ·rename_i hn
   cases hg
   subst hn;simp only[callMethod,Sem.run_bind,run_program,Result.andThen_ok,Vq]
  unfold BB at hg;split at hg
  ·rename_i hn
   cases hg
   subst hn;simp only[callMethod,Sem.run_bind,run_program,Result.andThen_ok,XR]
  unfold BB at hg;split at hg
  ·rename_i hn
   cases hg
   subst hn;simp only[callMethod,Sem.run_bind,run_program,Result.andThen_ok,Vp]
  unfold BB at hg;split at hg
  ·rename_i hn
   cases hg
   subst hn;simp only[callMethod,Sem.run_bind,run_program,Result.andThen_ok,RP]
  unfold BB at hg;split at hg
  ·rename_i hn
   cases hg
   subst hn;simp only[callMethod,Sem.run_bind,run_program,Result.andThen_ok,Nu]
  unfold BB at hg;split at hg
  ·rename_i hn
   cases hg
   subst hn;simp only[callMethod,Sem.run_bind,run_program,Result.andThen_ok,PZ]
  cases hg
 ·cases h
def qpS(a:Fp)(e:List Int)(o:Fp):St:=B0 23 [3,6,7,11] [.pt 16 0,.pt 48 0,.pt 80 0,(.ci (.clo 95 [(128,0)]))] [16,48,80,128] [(B9 [.ob (.p a)]),(B9 [(.ob (.p (0:Fp)))]),some (.fl [.ob (.p o)]),(B9 [.sl (.u64 e)])] 192 [] []
def VV:List KI:=(run qeI false 3000 (⟨[.code (B5 Tryz.f135)],.normal,D2 Tryz.f135.ntmps [.v (.a [.ob (.p dF)]),.v (.a [.ob (.p 1)]),.v (.c (.sl (.u64 dF)))]⟩:G5) []).cfg.k
theorem qp(a:Fp)(e:List Int):A5 []->Sg Tryz.prog (D2 Tryz.f135.ntmps [.v (.a [.ob (.p a)]),.v (.a [.ob (.p 1)]),.v (.c (.sl (.u64 e)))]) (qpS a e (1:Fp)) .normal (VV) ([.code (B5 Tryz.f135)]):=E4 false 3000 [] FW
def qpB(a:Fp)(e:List Int)(o:Fp)(z:Bool):St:=B0 23 [3,6,7,8] [.pt 16 0,.pt 48 0,.pt 80 0,(.ci (.bool z))] [16,48,80,128] [(B9 [.ob (.p a)]),(B9 [(.ob (.p (0:Fp)))]),some (.fl [.ob (.p o)]),(B9 [.sl (.u64 e)])] 208 [[3,6,7,11]] [([.pt 16 0,.pt 48 0,.pt 80 0,(.ci (.clo 95 [(128,0)]))],23)]
theorem qpA(a:Fp)(e:List Int)(o:Fp)(z:Bool){ρ:Option Nat}(ho:A5 [])(hs:Sim w0 F0 K ac (Y6 (qpS a e o) [(12,.v (.c (.bool z)))]) cX aX)(hK:∀cY aY,Sim w0 F0 K ac (qpB a e o z) cY aY->Wq Tryz.prog Q ([]) ac Exit.normal aY cY.w ρ):Wq Tryz.prog Q ([.code (rfA VV)]) ac .normal aX cX.w ρ :=
 J5 (unroll:=false) (n:=3000) (path:=[]) (o:=⟨_,_,_,_,_,_,_⟩) FW (by kernel_rfl) (by kernel_rfl) ho (by kernel_rfl) (by kernel_rfl) hs hK
def qpE(a:Fp)(e:List Int)(o:Fp):St:=B0 23 [6] [.pt 48 0] [16,48,80,128] [(B9 [.ob (.p a)]),(B9 [(.ob (.p (0:Fp)))]),some (.fl [.ob (.p o)]),(B9 [.sl (.u64 e)])] 384 [[3,6,7,11]] [([.pt 16 0,.pt 48 0,.pt 80 0,(.ci (.clo 95 [(128,0)]))],23)]
theorem qpC(a:Fp)(e:List Int)(o:Fp)(z:Bool){ρ:Option Nat}(ho:A5 [(z=true)])(hs:Sim w0 F0 K ac (qpB a e o z) cX aX)(hK:∀cY aY,Sim w0 F0 K ac (qpE a e ((o*o)*a)) cY aY->Wq Tryz.prog Q ([]) ac Exit.normal aY cY.w ρ):Wq Tryz.prog Q ([.code (rfB VV)]) ac .normal aX cX.w ρ :=
 J5 (unroll:=false) (n:=3000) (path:=[true]) (o:=⟨_,_,_,_,_,_,_⟩) FW (by kernel_rfl) (by kernel_rfl) ho (by kernel_rfl) (by kernel_rfl) hs hK
theorem qpD(a:Fp)(e:List Int)(o:Fp)(z:Bool){ρ:Option Nat}(ho:A5 [(z=false)])(hs:Sim w0 F0 K ac (qpB a e o z) cX aX)(hK:∀cY aY,Sim w0 F0 K ac (St.z (qpE a e (o*o)) 304) cY aY->Wq Tryz.prog Q ([]) ac Exit.normal aY cY.w ρ):Wq Tryz.prog Q ([.code (rfB VV)]) ac .normal aX cX.w ρ :=
 J5 (unroll:=false) (n:=3000) (path:=[false]) (o:=⟨_,_,_,_,_,_,_⟩) FW (by kernel_rfl) (by kernel_rfl) ho (by kernel_rfl) (by kernel_rfl) hs hK
def qpZ(o:Fp):St:=B0 23 [6] [.pt 48 0] [48] [some (.fl [.ob (.p o)])] 224 [] []
theorem qpX(a:Fp)(e:List Int)(o:Fp):A5 []->Sg Tryz.prog (qpS a e o) (qpZ o) .ret ([]) (rfR VV):=E4 false 3000 [] FW
theorem C7t(o:Fp):E2 qeI Tryz.f135 false 3000 (⟨[],.ret,qpZ o⟩) [] [] []=(some ([],((.v (.a [.ob (.p o)])),[]))):=by kernel_rfl
end
end
section
theorem E1u{m:Nat}:E1 BinOp.and IntKind.u64 (m:Int) (1:Int)=((m % 2:Nat):Int):=by
 show wrap IntKind.u64 ((BitVec.ofInt 64 (m:Int) &&& BitVec.ofInt 64 ((1:Nat):Int)).toNat:Int)=_;rw[BitVec.ofInt_natCast,BitVec.ofInt_natCast,BitVec.toNat_and,BitVec.toNat_ofNat,BitVec.toNat_ofNat];have e:1 % 2 ^ 64=2 ^ 1-1:=by decide
 rw[e,Nat.and_two_pow_sub_one_eq_mod,Kz];omega
theorem B1s{e:List Int}(h:Dy e){i:Nat}(hi:i<1024):(E1 BinOp.and IntKind.u64 (Int.fdiv (List.getD e (wrap IntKind.i64 (Int.tdiv (i:Int) (64:Int))).toNat (0:Int)) ((2:Int) ^ (Min.min (Int.tmod (i:Int) (64:Int)).toNat 64))) (1:Int) == (1:Int))=decide (V8 e / 2 ^ i % 2=1):=by
 have e1:Int.tdiv (i:Int) (64:Int)=((i / 64:Nat):Int):=Int.tdiv_eq_ediv_of_nonneg (by omega)
 have e2:Int.tmod (i:Int) (64:Int)=((i % 64:Nat):Int):=Int.tmod_eq_emod_of_nonneg (by omega)
 have e3:Min.min (((i % 64:Nat):Int)).toNat 64=i % 64:=by omega
 have hg:=PV h (i / 64);rw[e1,A9 (by omega) (by omega),Int.toNat_natCast,e2,e3,Yd h i]
 obtain ⟨g,hg2⟩:=Int.eq_ofNat_of_zero_le hg.1;have hp:((2:Int) ^ (i % 64))=((2 ^ (i % 64):Nat):Int):=by simp
 rw[hg2,hp,Int.fdiv_eq_ediv_of_nonneg _ (Int.natCast_nonneg _),<-Int.natCast_ediv,E1u,Int.toNat_natCast];generalize g / 2 ^ (i % 64)=m;by_cases hm:m % 2=1
 ·rw[hm];rfl
 ·have:m % 2=0:=by omega
  rw[this];rfl
def A3a(z:Bool):List Value:=[.bool z]
theorem Sm{x:C0}{p:Nat}{e:List Int}{M:List Bool->Nat->Option En}(hl:e.length<=16)(hlim:Dy e)(hM:∀s,M s p=some (.fl [.sl (.u64 e)])) :
  MK Tryz.prog x 95 [(p,0)] A3a (btL (V8 e) (U1 e e.length) (U1 e e.length)) M:=by
 intro l J W hgrow hread hyield hJ;have hcl:=Og e e.length;generalize hc:U1 e e.length=c at *;generalize hN:V8 e=N at *;have key:Wq Tryz.prog (bodyPost Tryz.prog Tryz.f95 fun e' W' => (∃v,e' = Ending.returned v)∧J (btL N c c) W') [.code (B5 Tryz.f95)] [] .normal { tmps:=[Value.func (.yield l) #[] #[],.pointer (some ⟨x.β p,0,none⟩)].toArray++Array.replicate 22 undef,defers:=[] } W:=?_
 ·exact calls_of_wp (c:=B5 Tryz.f95) Tryz.func95 rfl ((wpIn_wide (n:=0)).1 key.wp)
 obtain ⟨y,rfl,hm,hcp⟩:=hread [] W hJ;obtain ⟨hr,hβ⟩:=hcp (p,0) List.mem_cons_self;have hr:y.k p = .real:=hr;have hβ:y.β p=x.β p:=hβ;have hargs:J7 (D5 y p) [.v (.c (.val (.func (.yield l) #[] #[]))),.v (.c (.ptr 0 0))] [.func (.yield l) #[] #[],.pointer (some ⟨x.β p,0,none⟩)]:=
  .cons ⟨rfl,0,rfl,rfl⟩ (.cons ⟨rfl,0,rfl,by show _=[Value.pointer (some ⟨y.β p,0,none⟩)];rw[hβ]⟩ .nil)
 obtain ⟨v,hv,hbox⟩:=B1w hm (hM []) hr;have hs:=KY (nx:=16) (nt:=24) (a:={ tmps:=[Value.func (.yield l) #[] #[],.pointer (some ⟨x.β p,0,none⟩)].toArray++Array.replicate 22 undef,defers:=[] }) hm (hM []) hr hbox rfl (by simp) (AX hargs 22)
 change Wq Tryz.prog _ _ _ _ _ (D5 y p).w
 refine bt l v trivial hs fun ac cY aY hs1=>?_
 have hmb:P0 (D5 y p) (one (.fl [.val v])):=Dt hm (hM _) hr hbox;obtain ⟨hg1,_,_⟩:=CZ hmb rfl hs1 rfl;have hsl:cY.D (.sl (.u64 e)) [v]:=SH hg1 (fun b hb=>hs1.base.f0 b hb) hm.fw rfl hv
 have hs2:=hs1.slots (svs' := [.v (.c (.val (.func (.yield l) #[] #[]))),.v (.c (.ptr 0 0)),.v (.c (.sl (.u64 e)))]) ⟨fun _ h=>h,fun _ h=>h,WY rfl hsl,C4⟩
 refine bu l v e ⟨hl,hlim,C4⟩ hs2 fun ac cZ aZ hs3=>?_
 rw[hc,A9 (by omega) (by omega)] at hs3
 let I:{ t:Nat // t<=c } -> List Act->Act->World->Prop:=fun t ac a w=>∃y z v,z.w=w∧y.k p = .real∧y.β p=x.β p∧P0 y (M (btL N c t.1))∧J (btL N c t.1) y.w∧y.D (.sl (.u64 e)) [v]∧P0 (D5 y p) (one (.fl [.val v]))∧Sim y.w y.F (HA (D5 y p)) ac (buS l v ((c:Int)-1-(t.1:Int))) z a
 refine I5 I (fun t=>c-t.1) (c:=X5 Zr) (k:=X8 Zr) (by kernel_rfl) (fun t ih ac b w hI=>?_) ⟨0,Nat.zero_le _⟩ ⟨y,cZ,v,rfl,hr,hβ,hm,hJ,hv,hmb,by
   show Sim _ _ _ _ (buS l v ((c:Int)-1-((0:Nat):Int))) _ _;rw[show (c:Int)-1-((0:Nat):Int)=(c:Int)-1 from by omega]
   exact hs3.nx _⟩
 obtain ⟨t,ht⟩:=t;obtain ⟨y,z,v,rfl,hr,hβ,hm,hJ,hv,hmb,hs⟩:=hI;simp only at hm hJ hs ih
 by_cases h:t<c
 ·obtain ⟨i,hi⟩:∃i:Nat,i=c-1-t:=⟨_,rfl⟩
  have ei:(c:Int)-1-(t:Int)=(i:Int):=by omega
  rw[ei] at hs;refine bv l v _ ⟨by simp,A4,C4⟩ hs fun ac cV aV hs4=>?_
  obtain ⟨hg4,_,_⟩:=CZ hmb rfl hs4 rfl;have hsl4:cV.D (.sl (.u64 e)) [v]:=SH hg4 (fun b hb=>hs4.base.f0 b hb) hm.fw rfl hv
  have hs5:=hs4.slots (svs' := [.v (.c (.val (.func (.yield l) #[] #[]))),.v (.c (.ptr 0 0)),.v (.c (.int .i64 (i:Int))),.v (.c (.val (.func (.yield l) #[] #[]))),.v (.c (.sl (.u64 e))),.v (.c (.int .i64 (wrap IntKind.i64 (Int.tdiv (i:Int) (64:Int)))))])
   ⟨fun _ h=>h,fun _ h=>h,fun _ h=>h,fun _ h=>h,WY rfl hsl4,fun _ h=>h,C4⟩
  have e1:Int.tdiv (i:Int) (64:Int)=((i / 64:Nat):Int):=Int.tdiv_eq_ediv_of_nonneg (by omega)
  have e2:Int.tmod (i:Int) (64:Int)=((i % 64:Nat):Int):=Int.tmod_eq_emod_of_nonneg (by omega)
  refine bw l v e _ ⟨by rw[e1,A9 (by omega) (by omega)];omega,by rw[e1,A9 (by omega) (by omega)];omega,A4,by rw[e2];omega,C4⟩ hs5 fun ac cU aU hs6=>?_
  rw[B1s hlim (by omega:i<1024),hN] at hs6
  obtain ⟨hg,hk2,hβ2⟩:=CZ hmb rfl hs6 rfl;have hJ2:=hgrow _ _ _ hJ hg;have e3:btL N c (t+1)=btL N c t++[decide (N / 2 ^ i % 2=1)]:=by rw[Oj,hi]
  obtain ⟨r,hr1⟩:=C2q N c (n:=c) (t:=t+1) h;refine Ey (R:=fun W' => J (btL N c (t+1)) W') (dst:=some 22) (f:=.tmp 11) (args:=[.tmp 21]) (by kernel_rfl) hs6 (l:=l) rfl (vs:=A3a (decide (N / 2 ^ i % 2=1))) ?_ ?_ fun W' hJ3=>?_
  ·have h21:=NS (hs6.t 21)
   show [aU.tmps.getD 21 undef]=_;rw[h21];rfl
  ·have:=hyield (btL N c t) (decide (N / 2 ^ i % 2=1)) _ hJ2 ⟨r,by rw[hr1,e3,List.append_assoc];rfl⟩
   rw[<-e3] at this;exact this
  ·obtain ⟨y3,rfl,hm3,hc3⟩:=hread _ _ hJ3
   obtain ⟨hr3,hβ3⟩:=hc3 (p,0) List.mem_cons_self;have hr3:y3.k p = .real:=hr3;have hβ3:y3.β p=x.β p:=hβ3;obtain ⟨v3,hv3,hbox3⟩:=B1w hm3 (hM _) hr3;have hmb3:P0 (D5 y3 p) (one (.fl [.val v3])):=Dt hm3 (hM _) hr3 hbox3;have hs7:=PO (nx' := 400) (dst:=22) (b:=true) hs6 (by kernel_rfl) rfl hm3 (hM _) hr3 hbox3 (by rw[hβ2,hβ];exact hβ3.symm) A4
   change Wq Tryz.prog _ _ _ _ _ (D5 y3 p).w
   refine bB l v3 _ _ trivial hs7 fun ac cT aT hs8=>?_
   have e4:wrap IntKind.i64 ((i:Int)-1)=(c:Int)-1-((t+1:Nat):Int):=by rw[A9 (by omega) (by omega)];omega
   rw[e4] at hs8;exact ih ⟨t+1,by omega⟩ (by show c-(t+1)<c-t;omega) ac aT _ ⟨y3,cT,v3,rfl,hr3,hβ3,hm3,hJ3,hv3,hmb3,hs8.nx _⟩
 ·have e5:t=c:=by omega
  subst e5;refine bX l v _ ⟨by simp;omega,C4⟩ hs fun ac cV aV hs4=>?_
  obtain ⟨hg,_,_⟩:=CZ hmb rfl hs4 rfl;exact ⟨Va AO hs4 rfl rfl rfl (fun v=>⟨⟨v,rfl⟩,hgrow _ _ _ hJ hg⟩) (.inr rfl)⟩
def B1y(z:Bool):List SV:=[.v (.c (.bool z))]
theorem D4m(a:Fp)(l:List Bool)(z:Bool):pw a (pv (l++[z]))=if z=true then pw a (pv l)*pw a (pv l)*a else pw a (pv l)*pw a (pv l):=by
 rw[VS,Nat.two_mul]
 cases z with
 | true=>
  rw[if_pos rfl,<-R9];rfl
 | false=>
  rw[if_neg A4,<-R9];rfl
theorem A1d(a:Fp)(e:List Int)(hl:e.length<=16)(hlim:Dy e) :
  K2 Tryz.prog 135 [.v (.a [.ob (.p a)]),.v (.a [.ob (.p 1)]),.v (.c (.sl (.u64 e)))] (.v (.a [.ob (.p (pw a (V8 e)))])) []:=by
 refine BY (fn:=Tryz.f135) (c:=B5 Tryz.f135) Tryz.func135 rfl rfl fun x b hk hF hs=>?_
 refine qp a e trivial hs fun ac cY aY hs1=>?_
 obtain ⟨e1,e2⟩:=GG (k:=VV) (by kernel_rfl)
 rw[e1];have eP:(rfP VV).toList=[12]:=by kernel_rfl
 have eG:rfG VV = .tmp 11:=by kernel_rfl
 refine Cm (ps:=rfP VV) e2 hs1 (gf:=95) (caps:=[(128,0)]) (A2 Tryz.func95 rfl rfl) (fun pre=>qpS a e (pw a (pv pre))) (fun s=>by rw[eG];rfl) ⟨_,rfl⟩ (btL (V8 e) (U1 e e.length) (U1 e e.length)) B1y A3a
  (fun y z=>.cons ⟨rfl,0,rfl⟩ .nil) (fun z=>by rw[<-Array.length_toList,eP];rfl) (fun pre p hp=>?_) (Sm hl hlim fun s=>rfl) (fun pre z=>qpB a e (pw a (pv pre)) z)
  (fun pre z=>qpE a e (pw a (pv (pre++[z])))) (fun pre z=>⟨_,rfl⟩) (fun pre z hz w1 F1 K1 as1 Q1 l y b hs2 hQ=>?_) (fun pre z hz w1 F1 K1 as1 Q1 l y b hs2 hQ=>?_) fun D y hs2 hD hFD hd=>?_
 ·rw[eP] at hp
  have h23:(qpS a e (pw a (pv pre))).nt=23:=rfl;rw[h23];simp only[List.mem_cons,List.not_mem_nil,or_false] at hp;subst hp;decide
 ·rw[eP] at hs2
  exact qpA a e _ z trivial hs2 fun cZ aZ hs3=>⟨hQ _ _ (hs3.nx _)⟩
 ·rw[D4m] at hQ
  cases z with
  | true=>exact qpC a e _ true ⟨rfl,C4⟩ hs2 fun cZ aZ hs3=>⟨hQ _ _ (hs3.nx _)⟩
  | false=>exact qpD a e _ false ⟨rfl,C4⟩ hs2 fun cZ aZ hs3=>⟨hQ _ _ (hs3.nx _)⟩
 ·have hs3:=hs2.marked rfl rfl D
  have hN:V8 e<2 ^ U1 e e.length:=by
   have:=A5g hlim e.length (Nat.le_refl _)
   rwa [List.take_length] at this
  rw[VR hN _ (Nat.le_refl _),Nat.sub_self,Nat.pow_zero,Nat.div_one] at hs2 hs3;generalize pw a (V8 e)=o at hs2 hs3 ⊢
  refine qpX a e o trivial hs3 fun ac cV aV hs6=>⟨?_⟩
  have hs7:Sim y.w y.F (BM y AD (AK D)) ac (qpZ o) cV aV:=hs6;exact Ec FW hk hF (C7t o) trivial (fun y v hd=>hd) hs2 hD hFD hd rfl hs7
end
section
theorem Yq(a u:Fp)(e:List Int)(hu:u=1)(hl:e.length<=16)(hlim:Dy e) :
  K2 Tryz.prog 135 [.v (.a [.ob (.p a)]),.v (.a [.ob (.p u)]),.v (.c (.sl (.u64 e)))] (.v (.a [.ob (.p (pw a (V8 e)))])) []:=by
 subst hu;exact A1d a e hl hlim
def Ia:B2
 | [.v (.a [.ob (.p a)]),.v (.a [.ob (.p u)]),.v (.c (.sl (.u64 e)))]=>some ([u=1,e.length<=16,Dy e],.v (.a [.ob (.p (pw a (V8 e)))]),[])
 | _=>none
def C7s:D6:=qeI.set (E0 qeI.fn 135 Ia)
theorem A5v:A7 Tryz.prog C7s:=A8 FW 135 Ia (A2 Tryz.func135 rfl rfl) fun args o r es h ho=>by
 unfold Ia at h;split at h
 ·cases h;exact Yq _ _ _ ho.1 ho.2.1 ho.2.2.1
 ·cases h
theorem D8x(a:Fp):C2 C7s Tryz.f132 3000 [.v (.a [.ob (.p a)])] [] [] []=(some ([(0<=(0:Int)),(0<(6:Int)),(0<6),(0<=(0:Int)),(0<(6:Int)),(0<=(1:Int)),((1:Int)<(18446744073709551616:Int)),((Fin.ofNat pN 1)=(1:Fp)),(6<=16),(Dy [(13402431016077863593:Int),(2210141511517208575:Int),(7435674573564081700:Int),(7239337960414712511:Int),(5412103778470702295:Int),(1873798617647539866:Int)])],((.v (.a [(.ob (.p (pw a 4002409555221667393417789825735904156556882819939007885332058136124031650490837864442687629129015664037894272559785)))])),[]))):=by kernel_rfl
def ivP(a:Fp):Fp:=pw a (pN-2)
theorem Vb(x:Fp)(hx:x≠0):x*ivP x=1:=by
 have h:=Pg x hx;have e:pN-1=(pN-2)+1:=by decide
 rw[e] at h;have h2:ivP x*x=1:=h;rw[Z5];exact h2
theorem B4i(a:Fp):K2 Tryz.prog 132 [.v (.a [.ob (.p a)])] (.v (.a [.ob (.p (ivP a))])) []:=by
 have e:4002409555221667393417789825735904156556882819939007885332058136124031650490837864442687629129015664037894272559785=pN-2:=by decide +kernel
 have r:=D8x a;rw[e] at r;refine A6 A5v Tryz.func132 r ⟨A4,A4,A4,A4,A4,A4,A4,rfl,A4,?_,C4⟩
 intro x hx;simp only[List.mem_cons,List.not_mem_nil,or_false] at hx;rcases hx with rfl | rfl | rfl | rfl | rfl | rfl<;>decide
def PN:B2
 | [.v (.a [.ob (.p a)])]=>some ([],.v (.a [.ob (.p (ivP a))]),[])
 | _=>none
def qeJ:D6:=C7s.set (E0 C7s.fn 132 PN)
theorem P9:A7 Tryz.prog qeJ:=A8 A5v 132 PN (A2 Tryz.func132 rfl rfl) fun args o r es h _=>by
 unfold PN at h;split at h
 ·cases h;exact B4i _
 ·cases h
theorem twA(x y z:Fp):C2 qeJ Tryz.f72 3000 [.v (.a [.ob (.p x),.ob (.p y),.ob (.p z)])] [true] [] []=(some ([((decide (z=(0:Fp)))=true)],((.v (.a [.ob (.p x),.ob (.p y),.ob (.p z)])),[]))):=by kernel_rfl
theorem twB(x y z:Fp):let c:=(y*y)*(y*y);let b:=(((x+(y*y))*(x+(y*y)))-(x*x))-c;let d:=((x*x)+(x*x))+(x*x);let f:=((d*d)-(b+b))-(b+b);C2 qeJ Tryz.f72 3000 [.v (.a [.ob (.p x),.ob (.p y),.ob (.p z)])] [false] [] []=(some ([((decide (z=(0:Fp)))=false)],((.v (.a [(.ob (.p f)),(.ob (.p ((d*((b+b)-f))-(((c+c)+(c+c))+((c+c)+(c+c)))))),(.ob (.p ((y*z)+(y*z))))])),[]))):=by intros;kernel_rfl
theorem ngP(x y z:Fp):C2 qeJ Tryz.f114 3000 [.v (.a [.ob (.p x),.ob (.p y),.ob (.p z)])] [] [] []=(some ([],((.v (.a [.ob (.p x),(.ob (.p ((0:Fp)-y))),.ob (.p z)])),[]))):=by kernel_rfl
end
section
def fp1:Fp:=Fin.ofNat pN 1
def fp4:Fp:=Fin.ofNat pN 4
section
variable {r:Nat} [NeZero r]
theorem ZK(n:Nat):(Fin.ofNat r n).val=n % r:=rfl
end
theorem C4c(x:U6):(N6 x).val=x.val % pN:=ZK _
theorem Z3(x:Fp):N6 (G9 x)=x:=by
 apply Fin.ext
 rw[C4c,Yk];exact Nat.mod_eq_of_lt x.isLt
section
variable {r:Nat} [NeZero r]
theorem A5t(x:Fin r):∀n,pw (x*x*x) n=pw x n*pw x n*pw x n
 | 0=>by show (1:Fin r)=1*1*1;grind
 | n+1=>by
  show pw (x*x*x) n*(x*x*x)=pw x n*x*(pw x n*x)*(pw x n*x);rw[A5t x n];grind
theorem B9h(x:Fin r)(n:Nat):pw (x*x*x) n=pw x (n+n+n):=by
 rw[R9,R9,A5t]
theorem A0l{a b:Fin r}(h:a+b=0):a=0-b:=by grind
end
theorem Yi:(1:Fp)≠0:=by decide +kernel
theorem C1p:(1:Fp)+1≠0:=by decide +kernel
theorem C3r:fp1=1:=by decide +kernel
theorem E3s:(0:Fp)-fp4=Fin.ofNat pN (pN-4):=by decide +kernel
theorem D6v:pN-1=(pN-1) / 3+(pN-1) / 3+(pN-1) / 3:=by decide +kernel
theorem XV:(Fin.ofNat pN (pN-4)).val=pN-4:=by decide +kernel
theorem B6t:Lq pN (pN-4) 384 ((pN-1) / 3)≠1:=by decide +kernel
theorem C1b:(pN-1) / 3<2 ^ 384:=by decide +kernel
theorem TM:((1:Fp):Nat)=1:=by decide +kernel
theorem C2y(c:Fp)(hc:pw c ((pN-1) / 3)≠1)(h0:c≠0)(x:Fp):x*x*x≠c:=by
 intro h;by_cases hx:x=0
 ·apply h0
  rw[<-h,hx];exact mul_zero6
 ·apply hc
  rw[<-h,B9h,<-D6v];exact Pg x hx
where mul_zero6:(0:Fp)*0*0=0:=by decide +kernel
instance fldP:Fld Fp:=
  { (inferInstance:MJ (Fin pN)) with
    inv:=ivP
    mul_inv:=Vb
    one_ne:=Yi }
section
variable {F:Type} [Fld F]
end
end
section
theorem B0v(x y z:Fp):K2 Tryz.prog 72 [.v (.a [.ob (.p x),.ob (.p y),.ob (.p z)])] (.v (.a (M5 (jtw (x,y,z))))) []:=by
 by_cases h:z=0
 ·have e:jtw (x,y,z)=(x,y,z):=if_pos h
  rw[e];exact A6 P9 Tryz.func72 (twA x y z) ⟨decide_eq_true h,C4⟩
 ·unfold jtw
  rw[if_neg h];exact A6 P9 Tryz.func72 (twB x y z) ⟨decide_eq_false h,C4⟩
def WF:B2
 | [.v (.a [.ob (.p x),.ob (.p y),.ob (.p z)])]=>some ([],.v (.a (M5 (jtw (x,y,z)))),[])
 | _=>none
def qsA:D6:=qeJ.set (E0 qeJ.fn 72 WF)
theorem D4u:A7 Tryz.prog qsA:=A8 P9 72 WF (A2 Tryz.func72 rfl rfl) fun args o r es h _=>by
 unfold WF at h;split at h
 ·cases h;exact B0v _ _ _
 ·cases h
def Vv:B2
 | [.v (.a [.ob (.p x),.ob (.p y),.ob (.p z)])]=>some ([],.v (.a (M5 (jng (x,y,z)))),[])
 | _=>none
def qsB:D6:=qsA.set (E0 qsA.fn 114 Vv)
theorem LU:A7 Tryz.prog qsB:=A8 D4u 114 Vv (A2 Tryz.func114 rfl rfl) fun args o r es h _=>by
 unfold Vv at h;split at h
 ·cases h;exact A6 P9 Tryz.func114 (ngP _ _ _) trivial
 ·cases h
theorem plA(x y z u v w:Fp):C2 qsB Tryz.f70 3000 [.v (.a [.ob (.p x),.ob (.p y),.ob (.p z)]),.v (.a [.ob (.p u),.ob (.p v),.ob (.p w)])] [true] [] []=(some ([((decide (z=(0:Fp)))=true)],((.v (.a [.ob (.p u),.ob (.p v),.ob (.p w)])),[]))):=by kernel_rfl
theorem plB(x y z u v w:Fp):C2 qsB Tryz.f70 3000 [.v (.a [.ob (.p x),.ob (.p y),.ob (.p z)]),.v (.a [.ob (.p u),.ob (.p v),.ob (.p w)])] [false,true] [] []=(some ([((decide (z=(0:Fp)))=false),((decide (w=(0:Fp)))=true)],((.v (.a [.ob (.p x),.ob (.p y),.ob (.p z)])),[]))):=by kernel_rfl
theorem plC(x y z u v w:Fp):let b:=jtw (x,(y,z));let c:Fp:=0;C2 qsB Tryz.f70 3000 [.v (.a [.ob (.p x),.ob (.p y),.ob (.p z)]),.v (.a [.ob (.p u),.ob (.p v),.ob (.p w)])] [false,false,true,true] [] []=(some ([((decide (z=c))=false),((decide (w=c))=false),((decide (((u*(z*z))-(x*(w*w)))=c))=true),((decide ((((v*(z*z))*z)-((y*(w*w))*w))=c))=true)],((.v (.a [(.ob (.p (Prod.fst b))),(.ob (.p (Prod.fst (Prod.snd b)))),(.ob (.p (Prod.snd (Prod.snd b))))])),[]))):=by intros;kernel_rfl
theorem plD(x y z u v w:Fp):let b:Fp:=0;C2 qsB Tryz.f70 3000 [.v (.a [.ob (.p x),.ob (.p y),.ob (.p z)]),.v (.a [.ob (.p u),.ob (.p v),.ob (.p w)])] [false,false,true,false] [] []=(some ([((decide (z=b))=false),((decide (w=b))=false),((decide (((u*(z*z))-(x*(w*w)))=b))=true),((decide ((((v*(z*z))*z)-((y*(w*w))*w))=b))=false)],((.v (.a [.ob (.p x),.ob (.p y),(.ob (.p b))])),[]))):=by intros;kernel_rfl
theorem plE(x y z u v w:Fp):let b:=(u*(z*z))-(x*(w*w));let c:=((v*(z*z))*z)-((y*(w*w))*w);let d:=(x*(w*w))*(b*b);let f:=(((c*c)-((b*b)*b))-d)-d;C2 qsB Tryz.f70 3000 [.v (.a [.ob (.p x),.ob (.p y),.ob (.p z)]),.v (.a [.ob (.p u),.ob (.p v),.ob (.p w)])] [false,false,false] [] []=(some ([((decide (z=(0:Fp)))=false),((decide (w=(0:Fp)))=false),((decide (b=(0:Fp)))=false)],((.v (.a [(.ob (.p f)),(.ob (.p ((c*(d-f))-(((y*(w*w))*w)*((b*b)*b))))),(.ob (.p ((b*z)*w)))])),[]))):=by intros;kernel_rfl
end
section
theorem A1b(x y z u v w:Fp):K2 Tryz.prog 70 [.v (.a [.ob (.p x),.ob (.p y),.ob (.p z)]),.v (.a [.ob (.p u),.ob (.p v),.ob (.p w)])] (.v (.a (M5 (jpl (x,y,z) (u,v,w))))) []:=by
 by_cases h:z=0
 ·have e:jpl (x,y,z) (u,v,w)=(u,v,w):=if_pos h
  rw[e];exact A6 LU Tryz.func70 (plA x y z u v w) ⟨decide_eq_true h,C4⟩
 ·by_cases h2:w=0
  ·have e:jpl (x,y,z) (u,v,w)=(x,y,z):=(if_neg h).trans (if_pos h2)
   rw[e];exact A6 LU Tryz.func70 (plB x y z u v w) ⟨decide_eq_false h,decide_eq_true h2,C4⟩
  ·unfold jpl
   rw[if_neg h,if_neg h2];dsimp only;by_cases h3:u*(z*z)-x*(w*w)=0
   ·rw[if_pos h3]
    by_cases h4:v*(z*z)*z-y*(w*w)*w=0
    ·rw[if_pos h4]
     exact A6 LU Tryz.func70 (plC x y z u v w) ⟨decide_eq_false h,decide_eq_false h2,decide_eq_true h3,decide_eq_true h4,C4⟩
    ·rw[if_neg h4]
     exact A6 LU Tryz.func70 (plD x y z u v w) ⟨decide_eq_false h,decide_eq_false h2,decide_eq_true h3,decide_eq_false h4,C4⟩
   ·rw[if_neg h3]
    exact A6 LU Tryz.func70 (plE x y z u v w) ⟨decide_eq_false h,decide_eq_false h2,decide_eq_false h3,C4⟩
end
section
def VL:B2
 | [.v (.a [.ob (.p x),.ob (.p y),.ob (.p z)]),.v (.a [.ob (.p u),.ob (.p v),.ob (.p w)])]=>some ([],.v (.a (M5 (jpl (x,y,z) (u,v,w)))),[])
 | _=>none
def qsC:D6:=qsB.set (E0 qsB.fn 70 VL)
theorem Ih:A7 Tryz.prog qsC:=A8 LU 70 VL (A2 Tryz.func70 rfl rfl) fun args o r es h _=>by
 unfold VL at h;split at h
 ·cases h;exact A1b _ _ _ _ _ _
 ·cases h
def B4d(T:Nat->Option Func)(f:Nat):Option Func:=if f=66 then some Tryz.f66 else T f
def qsD:D6:={ qsC with inl:=B4d qsC.inl }
theorem EP:A7 Tryz.prog qsD:=by
 refine ⟨Ih.ty,Ih.mixed,Ih.fn,Ih.mu,fun f fn h=>?_,Ih.ex,Ih.inv⟩
 have h:B4d qsC.inl f=some fn:=h;unfold B4d at h;split at h
 ·rename_i hf;cases h;subst hf;exact ⟨Tryz.func66,A2 Tryz.func66 rfl rfl⟩
 exact Ih.inl f fn h
theorem igA(x y:U6)(i:Bool):let b:=(1:Int)<(18446744073709551616:Int);let c:=Fin.ofNat pN 1;C2 qsD Tryz.f38 3000 [.v (.a [.ob (.fp x),.ob (.fp y),.bool i])] [true] [] []=(some ([(i=true),(0<=(1:Int)),b,(0<=(1:Int)),b],((.v (.a [(.ob (.p c)),(.ob (.p c)),(.ob (.p (0:Fp)))])),[]))):=by intros;kernel_rfl
theorem igB(x y:U6)(i:Bool):C2 qsD Tryz.f38 3000 [.v (.a [.ob (.fp x),.ob (.fp y),.bool i])] [false] [] []=(some ([(i=false),(0<=(1:Int)),((1:Int)<(18446744073709551616:Int))],((.v (.a [(.ob (.p (N6 x))),(.ob (.p (N6 y))),(.ob (.p (Fin.ofNat pN 1)))])),[]))):=by kernel_rfl
theorem ogA(x y z:Fp):C2 qsD Tryz.f37 3000 [.v (.a [.ob (.p x),.ob (.p y),.ob (.p z)])] [true,true] [] []=(some ([((decide (z=(0:Fp)))=true)],((.v (.a [(.ob (.fp (0:U6))),(.ob (.fp (0:U6))),(.lit true)])),[]))):=by kernel_rfl
theorem ogB(x y z:Fp):let b:=ivP z;C2 qsD Tryz.f37 3000 [.v (.a [.ob (.p x),.ob (.p y),.ob (.p z)])] [false,false] [] []=(some ([((decide (z=(0:Fp)))=false)],((.v (.a [(.ob (.fp (G9 (x*(b*b))))),(.ob (.fp (G9 ((y*(b*b))*b)))),(.lit false)])),[]))):=by intros;kernel_rfl
theorem onA(x y:U6)(i:Bool):let b:=Bool.and (decide (x=(0:U6))) (Bool.and (decide (y=(0:U6))) (i == true));C2 qsD Tryz.f65 3000 [.v (.a [.ob (.fp x),.ob (.fp y),.bool i])] [true] [] []=(some ([(i=true)],((.ci (.bool (ite (true=true) b (Bool.not b)))),[]))):=by intros;kernel_rfl
theorem onB(x y:U6)(i:Bool):let d:=decide ((G9 (N6 y))=y);let f:=true=true;let g:=N6 x;let b:=decide (((N6 y)*(N6 y))=(((g*g)*g)+(Fin.ofNat pN 4)));let c:=decide ((G9 g)=x);C2 qsD Tryz.f65 3000 [.v (.a [.ob (.fp x),.ob (.fp y),.bool i])] [false,true,true] [] []=(some ([(i=false),((ite f c (Bool.not c))=true),((ite f d (Bool.not d))=true),(0<=(4:Int)),((4:Int)<(18446744073709551616:Int))],((.ci (.bool (ite f b (Bool.not b)))),[]))):=by intros;kernel_rfl
theorem onC(x y:U6)(i:Bool):let b:=decide ((G9 (N6 x))=x);let c:=decide ((G9 (N6 y))=y);C2 qsD Tryz.f65 3000 [.v (.a [.ob (.fp x),.ob (.fp y),.bool i])] [false,true,false] [] []=(some ([(i=false),((ite (true=true) b (Bool.not b))=true),((ite (true=true) c (Bool.not c))=false)],((.ci (.lit false)),[]))):=by intros;kernel_rfl
theorem onD(x y:U6)(i:Bool):let b:=decide ((G9 (N6 x))=x);C2 qsD Tryz.f65 3000 [.v (.a [.ob (.fp x),.ob (.fp y),.bool i])] [false,false,false] [] []=(some ([(i=false),((ite (true=true) b (Bool.not b))=false)],((.ci (.lit false)),[]))):=by intros;kernel_rfl
end
section
def onG(a:G0):Bool:=
 if a.inf then decide (a.x=0) && decide (a.y=0)
 else decide (G9 (N6 a.x)=a.x) && (decide (G9 (N6 a.y)=a.y) && decide (N6 a.y*N6 a.y=N6 a.x*N6 a.x*N6 a.x+fp4))
def inG(a:G0):Fp×Fp×Fp:=if a.inf then (fp1,fp1,0) else (N6 a.x,N6 a.y,fp1)
def GV(t:Fp×Fp×Fp):G0:=
 if t.2.2=0 then ⟨0,0,true⟩ else ⟨G9 (t.1*(ivP t.2.2*ivP t.2.2)),G9 (t.2.1*(ivP t.2.2*ivP t.2.2)*ivP t.2.2),false⟩
theorem GK{x:C0}{i j:It}{b:Bool}{v:Value}(h:B8 x (.v (.a [i,j,.lit b])) v):B8 x (.v (.a [i,j,.bool b])) v:=by
 obtain ⟨cs,e,c1,r1,e1,h1,c2,r2,e2,h2,c3,r3,e3,⟨d,h3⟩,h4⟩:=h;refine ⟨cs,e,c1,r1,e1,h1,c2,r2,e2,h2,c3,r3,e3,⟨d,?_⟩,h4⟩
 cases d<;>exact h3
theorem C3z(x y:U6)(i:Bool):K2 Tryz.prog 38 [.v (.a [.ob (.fp x),.ob (.fp y),.bool i])] (.v (.a (M5 (inG ⟨x,y,i⟩)))) []:=by
 cases i with
 | true=>exact A6 EP Tryz.func38 (igA x y true) ⟨rfl,A4,A4,A4,A4,C4⟩
 | false=>exact A6 EP Tryz.func38 (igB x y false) ⟨rfl,A4,A4,C4⟩
theorem B8a(x y z:Fp):K2 Tryz.prog 37 [.v (.a [.ob (.p x),.ob (.p y),.ob (.p z)])] (.v (.a (GV (x,y,z)).its)) []:=by
 by_cases h:z=0
 ·have e:GV (x,y,z)=⟨0,0,true⟩:=if_pos h
  rw[e];exact (A6 EP Tryz.func37 (ogA x y z) ⟨decide_eq_true h,C4⟩).conv (fun _ _ h=>h) fun y v hd=>GK hd
 ·unfold GV
  rw[if_neg h];exact (A6 EP Tryz.func37 (ogB x y z) ⟨decide_eq_false h,C4⟩).conv (fun _ _ h=>h) fun y v hd=>GK hd
theorem C6p(x y:U6)(i:Bool):K2 Tryz.prog 65 [.v (.a [.ob (.fp x),.ob (.fp y),.bool i])] (.v (.c (.bool (onG ⟨x,y,i⟩)))) []:=by
 cases i with
 | true=>
  have r:=onA x y true;dsimp only at r;rw[if_pos rfl] at r;have e:onG ⟨x,y,true⟩=((decide (x=0)) && ((decide (y=0)) && (true == true))):=by
   show (decide (x=0) && decide (y=0))=_;simp
  rw[e];exact A6 EP Tryz.func65 r ⟨rfl,C4⟩
 | false=>
  by_cases h1:G9 (N6 x)=x
  ·by_cases h2:G9 (N6 y)=y
   ·have r:=onB x y false
    dsimp only at r;rw[if_pos rfl,if_pos rfl,if_pos rfl] at r;have e:onG ⟨x,y,false⟩=decide (N6 y*N6 y=N6 x*N6 x*N6 x+Fin.ofNat pN 4):=by
     show (decide (G9 (N6 x)=x) && (decide (G9 (N6 y)=y) && decide (N6 y*N6 y=N6 x*N6 x*N6 x+fp4)))=_;rw[decide_eq_true h1,decide_eq_true h2];rfl
    rw[e];exact A6 EP Tryz.func65 r ⟨rfl,decide_eq_true h1,decide_eq_true h2,A4,A4,C4⟩
   ·have r:=onC x y false
    dsimp only at r;rw[if_pos rfl,if_pos rfl] at r;have e:onG ⟨x,y,false⟩=false:=by
     show (decide (G9 (N6 x)=x) && (decide (G9 (N6 y)=y) && decide (N6 y*N6 y=N6 x*N6 x*N6 x+fp4)))=_;rw[decide_eq_false h2,Bool.false_and,Bool.and_false]
    rw[e];exact (A6 EP Tryz.func65 r ⟨rfl,decide_eq_true h1,decide_eq_false h2,C4⟩).conv (fun _ _ h=>h) fun y v hd=>V0 rfl hd
  ·have r:=onD x y false
   dsimp only at r;rw[if_pos rfl] at r;have e:onG ⟨x,y,false⟩=false:=by
    show (decide (G9 (N6 x)=x) && (decide (G9 (N6 y)=y) && decide (N6 y*N6 y=N6 x*N6 x*N6 x+fp4)))=_;rw[decide_eq_false h1,Bool.false_and]
   rw[e];exact (A6 EP Tryz.func65 r ⟨rfl,decide_eq_false h1,C4⟩).conv (fun _ _ h=>h) fun y v hd=>V0 rfl hd
def UV:B2
 | [.v (.a [.ob (.fp x),.ob (.fp y),.bool i])]=>some ([],.v (.a (M5 (inG ⟨x,y,i⟩))),[])
 | _=>none
def qsE:D6:=qsD.set (E0 qsD.fn 38 UV)
theorem D4v:A7 Tryz.prog qsE:=A8 EP 38 UV (A2 Tryz.func38 rfl rfl) fun args o r es h _=>by
 unfold UV at h;split at h
 ·cases h;exact C3z _ _ _
 ·cases h
def Qx:B2
 | [.v (.a [.ob (.p x),.ob (.p y),.ob (.p z)])]=>some ([],.v (.a (GV (x,y,z)).its),[])
 | _=>none
def qsF:D6:=qsE.set (E0 qsE.fn 37 Qx)
theorem D4w:A7 Tryz.prog qsF:=A8 D4v 37 Qx (A2 Tryz.func37 rfl rfl) fun args o r es h _=>by
 unfold Qx at h;split at h
 ·cases h;exact B8a _ _ _
 ·cases h
def VF:B2
 | [.v (.a [.ob (.fp x),.ob (.fp y),.bool i])]=>some ([],.v (.c (.bool (onG ⟨x,y,i⟩))),[])
 | _=>none
def qsG:D6:=qsF.set (E0 qsF.fn 65 VF)
theorem A1j:A7 Tryz.prog qsG:=A8 D4w 65 VF (A2 Tryz.func65 rfl rfl) fun args o r es h _=>by
 unfold VF at h;split at h
 ·cases h;exact C6p _ _ _
 ·cases h
theorem riR(x y:U6)(i:Bool):C2 qsG Tryz.f36 3000 [.v (.a [.ob (.fp x),.ob (.fp y),.bool i])] [] [] []=(some ([],((.ci (.bool (onG (G0.mk x y i)))),[]))):=by kernel_rfl
theorem geR  : C2 qsG Tryz.f14 3000 [] [] [] []=(some ([(0<=(18103045581585958587:Int)),((18103045581585958587:Int)<(18446744073709551616:Int)),(0<=(7806400890582735599:Int)),((7806400890582735599:Int)<(18446744073709551616:Int)),(0<=(11623291730934869080:Int)),((11623291730934869080:Int)<(18446744073709551616:Int)),(0<=(14080658508445169925:Int)),((14080658508445169925:Int)<(18446744073709551616:Int)),(0<=(2780237799254240271:Int)),((2780237799254240271:Int)<(18446744073709551616:Int)),(0<=(1725392847304644500:Int)),((1725392847304644500:Int)<(18446744073709551616:Int)),(0<=(912580534683953121:Int)),((912580534683953121:Int)<(18446744073709551616:Int)),(0<=(15005087156090211044:Int)),((15005087156090211044:Int)<(18446744073709551616:Int)),(0<=(61670280795567085:Int)),((61670280795567085:Int)<(18446744073709551616:Int)),(0<=(18227722000993880822:Int)),((18227722000993880822:Int)<(18446744073709551616:Int)),(0<=(11573741888802228964:Int)),((11573741888802228964:Int)<(18446744073709551616:Int)),(0<=(627113611842199793:Int)),((627113611842199793:Int)<(18446744073709551616:Int))],((.v (.a [(.ob (.fp (Fin.ofNat B6 3685416753713387016781088315183077757961620795782546409894578378688607592378376318836054947676345821548104185464507))),(.ob (.fp (Fin.ofNat B6 1339506544944476473020471379941921221584933875938349620426543736416511423956333506472724655353366534992391756441569))),(.lit false)])),[]))):=by kernel_rfl
end
section
def E2a:U6:=Fin.ofNat B6 3685416753713387016781088315183077757961620795782546409894578378688607592378376318836054947676345821548104185464507
def E2b:U6:=Fin.ofNat B6 1339506544944476473020471379941921221584933875938349620426543736416511423956333506472724655353366534992391756441569
def BK:G0:=⟨E2a,E2b,false⟩
theorem C3s:K2 Tryz.prog 14 [] (.v (.a BK.its)) []:=
 (A6 A1j Tryz.func14 geR (by simp [A5])).conv (fun _ _ h=>h) fun y v hd=>GK hd
end
section
def Iq:B2
 | [.v (.a [.ob (.fp x),.ob (.fp y),.bool i])]=>some ([],.v (.c (.bool (onG ⟨x,y,i⟩))),[])
 | _=>none
def qtA:D6:=qsG.set (E0 qsG.fn 36 Iq)
theorem D4x:A7 Tryz.prog qtA:=A8 A1j 36 Iq (A2 Tryz.func36 rfl rfl) fun args o r es h _=>by
 unfold Iq at h;split at h
 ·cases h;exact A6 A1j Tryz.func36 (riR _ _ _) trivial
 ·cases h
def Pv:B2
 | []=>some ([],.v (.a BK.its),[])
 | _=>none
def qtC:D6:=qtA.set (E0 qtA.fn 14 Pv)
theorem D4y:A7 Tryz.prog qtC:=A8 D4x 14 Pv (A2 Tryz.func14 rfl rfl) fun args o r es h _=>by
 unfold Pv at h;split at h
 ·cases h;exact C3s
 ·cases h
def qtG:D6:=qtC
theorem Bq:A7 Tryz.prog qtG:=D4y
end
section
theorem FP{x:C0}{i j k:It}{b:Bool}{v:Value}(h:B8 x (.t [.a [i,j,.lit b],.c k]) v):B8 x (.t [.a [i,j,.bool b],.c k]) v:=by
 obtain ⟨vs,e,h1⟩:=h
 cases h1 with | cons d1 ds=>
 exact ⟨_,e,.cons (GK d1) ds⟩
end
section
section
variable {w0:World} {F0:Nat->Prop} {K:Kp} {ac:List Act} {Q:Exit->Act->World->Prop} {cX:C0} {aX:Act}
def A0f:List KI:=(run qtG false 3000 (⟨[.code (B5 Tryz.f44)],.normal,D2 Tryz.f44.ntmps [.v (.a [.ob (.p (dF:Fp×Fp×Fp).1),.ob (.p (dF:Fp×Fp×Fp).2.1),.ob (.p (dF:Fp×Fp×Fp).2.2)])]⟩:G5) []).cfg.k
theorem mv(a:Fp×Fp×Fp):A5 []->Sg Tryz.prog (D2 Tryz.f44.ntmps [.v (.a [.ob (.p a.1),.ob (.p a.2.1),.ob (.p a.2.2)])]) (B0 30 [1,3,6] [.pt 16 0,(.ci (.val (Value.slice Option.none 0 0))),.ii 0] [16] [(B9 [(.ob (.p (Prod.fst a))),(.ob (.p (Prod.fst (Prod.snd a)))),(.ob (.p (Prod.snd (Prod.snd a))))])] 80 [] []) .normal (A0f) ([.code (B5 Tryz.f44)]):=E4 false 3000 [] Bq
def mvS(a:Fp×Fp×Fp)(R:List (List (Fp×Fp×Fp)))(n:Nat)(i:Int):St:=B0 30 [1,3,6] [.pt 16 0,.v (.c (.slc 17 0 n 288)),.v (.c (.int .i64 i))] [16,17] [(B9 [(.ob (.p (Prod.fst a))),(.ob (.p (Prod.fst (Prod.snd a)))),(.ob (.p (Prod.snd (Prod.snd a))))]),some (.sq (.ptt R))] 80 [] []
def Qe:List KI:=(run qtG false 3000 ((fun (a:Fp×Fp×Fp) (R:List (List (Fp×Fp×Fp))) (n:Nat) (i:Int)=>(⟨B7 A0f,.normal,mvS a R n i⟩:G5)) default default default default) [true]).cfg.k
theorem mvA(a:Fp×Fp×Fp)(R:List (List (Fp×Fp×Fp)))(n:Nat)(i:Int):let b:Fp:=0;A5 [((decide (i<(64:Int)))=true)]->Sg Tryz.prog (mvS a R n i) (B0 30 [1,3,4,5,6] [.pt 16 0,(.ci (.slc 17 0 n 288)),.pt 96 0,.ii 1,.ii i] [16,17,96] [(B9 [(.ob (.p (Prod.fst a))),(.ob (.p (Prod.fst (Prod.snd a)))),(.ob (.p (Prod.snd (Prod.snd a))))]),(D9 (Sq.ptt R)),(B9 [(.ob (.p b)),(.ob (.p b)),(.ob (.p b)),(.ob (.p b)),(.ob (.p b)),(.ob (.p b)),(.ob (.p b)),(.ob (.p b)),(.ob (.p b)),(.ob (.p b)),(.ob (.p b)),(.ob (.p b)),(.ob (.p b)),(.ob (.p b)),(.ob (.p b)),(.ob (.p b)),(.ob (.p b)),(.ob (.p b)),(.ob (.p b)),(.ob (.p b)),(.ob (.p b)),(.ob (.p b)),(.ob (.p b)),(.ob (.p b)),(.ob (.p b)),(.ob (.p b)),(.ob (.p b)),(.ob (.p b)),(.ob (.p b)),(.ob (.p b)),(.ob (.p b)),(.ob (.p b)),(.ob (.p b)),(.ob (.p b)),(.ob (.p b)),(.ob (.p b)),(.ob (.p b)),(.ob (.p b)),(.ob (.p b)),(.ob (.p b)),(.ob (.p b)),(.ob (.p b)),(.ob (.p b)),(.ob (.p b)),(.ob (.p b)),(.ob (.p b)),(.ob (.p b)),(.ob (.p b))])] 128 [] []) .normal (Qe) (B7 A0f):=E4 false 3000 [true] Bq
theorem C5m(a:Fp×Fp×Fp)(R:List (List (Fp×Fp×Fp)))(n:Nat)(i:Int):E2 qtG Tryz.f44 false 3000 (⟨B7 A0f,.normal,mvS a R n i⟩) [false] [] [17]=(some ([((decide (i<(64:Int)))=false),(n=R.length)],((.ci (.sl (Sq.ptt R))),[]))):=by kernel_rfl
def mvT(a:Fp×Fp×Fp)(R:List (List (Fp×Fp×Fp)))(n:Nat)(i:Int)(L:List (Fp×Fp×Fp))(d:Int):St:=B0 30 [1,3,4,5,6] [.pt 16 0,(.ci (.slc 17 0 n 288)),.pt 96 0,.v (.c (.int .i64 d)),.ii i] [16,17,96] [(B9 [(.ob (.p (Prod.fst a))),(.ob (.p (Prod.fst (Prod.snd a)))),(.ob (.p (Prod.snd (Prod.snd a))))]),(D9 (Sq.ptt R)),some (.sq (.pt L))] 128 [] []
theorem mvB(a:Fp×Fp×Fp)(R:List (List (Fp×Fp×Fp)))(n:Nat)(i:Int)(L:List (Fp×Fp×Fp))(d:Int):let b:=wrap .i64 (d-1);let c:Int:=16;A5 [((decide (d<c))=true),(0<=b),(b<c),(0=0),((b).toNat<L.length),(0<=d),(d<c),(0=0),((d).toNat<L.length)]->Sg Tryz.prog (mvT a R n i L d) (St.z (mvT a R n i (List.set L (d).toNat (jpl (List.getD L (b).toNat E7) a)) (wrap .i64 (d+1))) 352) .normal (D4 Qe) (B7 Qe):=E4 false 3000 [true] Bq
def mvU(a:Fp×Fp×Fp)(R:List (List (Fp×Fp×Fp)))(n:Nat)(i:Int)(L:List (Fp×Fp×Fp))(d:Int):St:=B0 30 [1,3,4,5,6] [.pt 16 0,(.ci (.slc 17 0 n 288)),.pt 96 0,.v (.c (.int .i64 d)),.ii i] [16,17,96] [(B9 [(.ob (.p (Prod.fst a))),(.ob (.p (Prod.fst (Prod.snd a)))),(.ob (.p (Prod.snd (Prod.snd a))))]),(D9 (Sq.ptt R)),some (.sq (.ptt [L]))] 128 [] []
def D0k:List KI:=(run qtG false 19 ((fun (a:Fp×Fp×Fp) (R:List (List (Fp×Fp×Fp))) (n:Nat) (i:Int) (L:List (Fp×Fp×Fp)) (d:Int)=>(⟨B7 Qe,.normal,mvU a R n i L d⟩:G5)) default default default default default default) [false]).cfg.k
theorem mvC(a:Fp×Fp×Fp)(R:List (List (Fp×Fp×Fp)))(n:Nat)(i:Int)(L:List (Fp×Fp×Fp))(d:Int):let b:=R.length+1;A5 [((decide (d<(16:Int)))=false),(0<1),((b*2304)<=140737488355328),(b<=maxLen),(n=R.length),(1=1)]->Sg Tryz.prog (mvU a R n i L d) (B0 30 [1,3,4,6] [.pt 16 0,(.ci (.slc 17 0 b 288)),.pt 96 0,.ii i] [16,17,96] [(B9 [(.ob (.p (Prod.fst a))),(.ob (.p (Prod.fst (Prod.snd a)))),(.ob (.p (Prod.snd (Prod.snd a))))]),(D9 (Sq.ptt (R++[[(List.getD L 0 E7),(List.getD L 1 E7),(List.getD L 2 E7),(List.getD L 3 E7),(List.getD L 4 E7),(List.getD L 5 E7),(List.getD L 6 E7),(List.getD L 7 E7),(List.getD L 8 E7),(List.getD L 9 E7),(List.getD L 10 E7),(List.getD L 11 E7),(List.getD L 12 E7),(List.getD L 13 E7),(List.getD L 14 E7),(List.getD L 15 E7)]]))),(D9 (Sq.ptt [L]))] 240 [] []) .normal (D0k) (B7 Qe):=E4 false 19 [false] Bq
def mvV(a:Fp×Fp×Fp)(R:List (List (Fp×Fp×Fp)))(n:Nat)(i:Int)(L:List (Fp×Fp×Fp))(d:Int):St:=B0 30 [1,3,4,6] [.pt 16 0,(.ci (.slc 17 0 (R.length+1) 288)),.pt 96 0,.ii i] [16,17,96] [(B9 [(.ob (.p (Prod.fst a))),(.ob (.p (Prod.fst (Prod.snd a)))),(.ob (.p (Prod.snd (Prod.snd a))))]),(D9 (Sq.ptt (R++[[(List.getD L 0 E7),(List.getD L 1 E7),(List.getD L 2 E7),(List.getD L 3 E7),(List.getD L 4 E7),(List.getD L 5 E7),(List.getD L 6 E7),(List.getD L 7 E7),(List.getD L 8 E7),(List.getD L 9 E7),(List.getD L 10 E7),(List.getD L 11 E7),(List.getD L 12 E7),(List.getD L 13 E7),(List.getD L 14 E7),(List.getD L 15 E7)]]))),some (.sq (.pt L))] 240 [] []
theorem mvD(a:Fp×Fp×Fp)(R:List (List (Fp×Fp×Fp)))(n:Nat)(i:Int)(L:List (Fp×Fp×Fp))(d:Int):let b:=List.getD L 15 E7;A5 [(0<=(15:Int)),((15:Int)<(16:Int)),(0=0),(15<L.length)]->Sg Tryz.prog (mvV a R n i L d) (St.z (mvS (jpl b a) (R++[[(List.getD L 0 E7),(List.getD L 1 E7),(List.getD L 2 E7),(List.getD L 3 E7),(List.getD L 4 E7),(List.getD L 5 E7),(List.getD L 6 E7),(List.getD L 7 E7),(List.getD L 8 E7),(List.getD L 9 E7),(List.getD L 10 E7),(List.getD L 11 E7),(List.getD L 12 E7),(List.getD L 13 E7),(List.getD L 14 E7),b]]) (R.length+1) (wrap .i64 (i+1))) 352) .normal (D4 A0f) (D0k):=E4 false 3000 [] Bq
end
end
section
theorem E0g(x:Fp):x*x*x+fp4≠0:=by
 intro h;have h:=A0l h;rw[E3s] at h;refine C2y _ (fun e=>?_) (fun e=>?_) x h
 ·have:=congrArg Fin.val e
  rw[GN _ 384 _ C1b,XV,TM] at this;exact B6t this
 ·have:=congrArg Fin.val e
  rw[XV] at this;revert this
  decide +kernel
theorem cv1:Cv fp4:=⟨C1p,E0g⟩
def pG(a:G0):Pt Fp:=if a.inf then none else some (N6 a.x,N6 a.y)
def gP:Pt Fp->G0
 | none=>⟨0,0,true⟩
 | some p=>⟨G9 p.1,G9 p.2,false⟩
theorem E0p:∀P:Pt Fp,pG (gP P)=P
 | none=>rfl
 | some p=>by
  show some (N6 (G9 p.1),N6 (G9 p.2))=some p;rw[Z3,Z3]
theorem Qr{a:G0}(h:onG a=true):gP (pG a)=a∧OnC fp4 (pG a):=by
 obtain ⟨x,y,i⟩:=a
 cases i with
 | true=>
  have h:(decide (x=0) && decide (y=0))=true:=h;rw[Bool.and_eq_true,decide_eq_true_eq,decide_eq_true_eq] at h;obtain ⟨rfl,rfl⟩:=h;exact ⟨rfl,True.intro⟩
 | false=>
  have h:(decide (G9 (N6 x)=x) && (decide (G9 (N6 y)=y) && decide (N6 y*N6 y=N6 x*N6 x*N6 x+fp4)))=true:=h;rw[Bool.and_eq_true,Bool.and_eq_true,decide_eq_true_eq,decide_eq_true_eq,decide_eq_true_eq] at h;obtain ⟨h1,h2,h3⟩:=h;refine ⟨?_,h3⟩
  show (⟨G9 (N6 x),G9 (N6 y),false⟩:G0)=⟨x,y,false⟩;rw[h1,h2]
theorem D3w:∀{P:Pt Fp},OnC fp4 P->onG (gP P)=true
 | none,_=>by
  show (decide ((0:U6)=0) && decide ((0:U6)=0))=true;rw[decide_eq_true rfl];rfl
 | some p,h=>by
  have h:p.2*p.2=p.1*p.1*p.1+fp4:=h;show (decide (G9 (N6 (G9 p.1))=G9 p.1) && (decide (G9 (N6 (G9 p.2))=G9 p.2) && decide (N6 (G9 p.2)*N6 (G9 p.2)=N6 (G9 p.1)*N6 (G9 p.1)*N6 (G9 p.1)+fp4)))=true;rw[Z3,Z3,decide_eq_true rfl,decide_eq_true rfl,decide_eq_true h];rfl
theorem A0u:(1:Fp)*1=1:=by decide +kernel
theorem UW(a:G0):Jc (pG a) (inG a):=by
 obtain ⟨x,y,i⟩:=a
 cases i with
 | true=>exact (rfl:(0:Fp)=0)
 | false=>
  show Jc (some (N6 x,N6 y)) (N6 x,N6 y,fp1);rw[C3r];refine ⟨Yi,?_,?_⟩
  ·show N6 x=N6 x*(1*1)
   rw[A0u];exact (Ei _).symm
  ·show N6 y=N6 y*(1*1*1)
   rw[A0u,A0u];exact (Ei _).symm
theorem NI{P:Pt Fp}{t:Fp×Fp×Fp}(h:Jc P t):GV t=gP P:=by
 rw[<-D2d P t h];unfold GV jpt;by_cases hz:t.2.2=0
 ·rw[if_pos hz,if_pos hz];rfl
 ·rw[if_neg hz,if_neg hz];rfl
end
section
def qvA:D6:=qtG
theorem D4z:A7 Tryz.prog qvA:=Bq
def qvF:D6:=qvA
theorem DI:A7 Tryz.prog qvF:=D4z
end
section
section
variable {w0:World} {F0:Nat->Prop} {K:Kp} {ac:List Act} {Q:Exit->Act->World->Prop} {cX:C0} {aX:Act}
def RH:List KI:=(run qeJ false 3000 (⟨[.code (B5 Tryz.f100)],.normal,⟨Hm [.v (.c (.val (.func (.yield dF) #[] #[]))),.v (.c (.ptr 0 0))],one (.fl [.ob (.fr dF)]),Tryz.f100.ntmps,16,[]⟩⟩:G5) []).cfg.k
theorem dg(l:Nat)(k:U4):let a:=Array.mk ([]:List Value);A5 []->Sg Tryz.prog (⟨Hm [.v (.c (.val (.func (.yield l) #[] #[]))),.v (.c (.ptr 0 0))],one (.fl [.ob (.fr k)]),Tryz.f100.ntmps,16,[]⟩) (B0 32 [0,1,3,4] [(.ci (.val (Value.func (Fn.yield l) a a))),.pt 0 0,(.ci (.lit false)),.ii 63] [0] [(B9 [.ob (.fr k)])] 48 [] []) .normal (RH) ([.code (B5 Tryz.f100)]):=E4 false 3000 [] P9
def dgS(l:Nat)(k:U4)(g:Bool)(i :Int):St:=B0 32 [0,1,3,4] [(.ci (.val (Value.func (Fn.yield l) (Array.mk ([]:List Value)) (Array.mk ([]:List Value))))),.pt 0 0,.v (.c (.bool g)),.v (.c (.int .i64 i))] [0] [(B9 [.ob (.fr k)])] 48 [] []
def A3o:List KI:=(run qeJ false 3000 (⟨B7 RH,.normal,dgS dF dF dF dF⟩:G5) [true,true,true]).cfg.k
section
variable (l:Nat) (k:U4) (g:Bool) (i:Int)
theorem dgY:let d:Int:=16;let a:=wrap .i64 (Int.tdiv i d);let c:=wrap .i64 ((4:Int)*(Int.tmod i d));let f:=Array.mk ([]:List Value);let b:=Value.func (Fn.yield l) f f;A5 [((decide (i >= (0:Int)))=true),(d≠(0:Int)),(0<=a),(a<(4:Int)),((0+((a).toNat*1))<(Ob.k (.fr k))),(d≠(0:Int)),(0<=c),(g=true)]->Sg Tryz.prog (dgS l k g i) (B0 32 [0,1,3,4,26,27,28] [(.ci (.val b)),.pt 0 0,(.ci (.lit true)),.ii i,(.ci (.lit true)),(.ci (.val b)),(.ii (wrap .i64 (E1 BinOp.and IntKind.u64 (Int.fdiv (A1 (Ob.n (.fr k)) (0+((a).toNat*1))) ((2:Int) ^ (Min.min (c).toNat 64))) (15:Int))))] [0] [(B9 [.ob (.fr k)])] 416 [] []) .normal (A3o) (B7 RH):=E4 false 3000 [true,true,true] P9
theorem dgZ:let f:Int:=0;let h:Int:=16;let b:=wrap .i64 (Int.tdiv i h);let d:=wrap .i64 ((4:Int)*(Int.tmod i h));let a:=wrap .i64 (E1 BinOp.and IntKind.u64 (Int.fdiv (A1 (Ob.n (.fr k)) (0+((b).toNat*1))) ((2:Int) ^ (Min.min (d).toNat 64))) (15:Int));let j:=Array.mk ([]:List Value);let c:=Value.func (Fn.yield l) j j;let m:=decide (a > f);A5 [((decide (i >= f))=true),(h≠f),(0<=b),(b<(4:Int)),((0+((b).toNat*1))<(Ob.k (.fr k))),(h≠f),(0<=d),(g=false),(m=true)]->Sg Tryz.prog (dgS l k g i) (B0 32 [0,1,3,4,26,27,28] [(.ci (.val c)),.pt 0 0,(.ci (.bool m)),.ii i,(.ci (.lit true)),(.ci (.val c)),(.ii a)] [0] [(B9 [.ob (.fr k)])] 416 [] []) .normal (A3o) (B7 RH):=E4 false 3000 [true,false,true] P9
theorem dgN:let d:Int:=16;let b:=wrap .i64 (Int.tdiv i d);let c:=wrap .i64 ((4:Int)*(Int.tmod i d));let f:Int:=0;let a:=decide ((wrap .i64 (E1 BinOp.and IntKind.u64 (Int.fdiv (A1 (Ob.n (.fr k)) (0+((b).toNat*1))) ((2:Int) ^ (Min.min (c).toNat 64))) (15:Int))) > f);A5 [((decide (i >= f))=true),(d≠f),(0<=b),(b<(4:Int)),((0+((b).toNat*1))<(Ob.k (.fr k))),(d≠f),(0<=c),(g=false),(a=false)]->Sg Tryz.prog (dgS l k g i) (St.z (dgS l k a (wrap .i64 (i-1))) 512) .normal (D4 RH) (B7 RH):=E4 false 3000 [true,false,false] P9
theorem dgX:A5 [((decide (i >= (0:Int)))=false)]->Sg Tryz.prog (dgS l k g i) (B0 32 [] [] [0] [(B9 [.ob (.fr k)])] 80 [] []) .normal ([]) (B7 RH):=E4 false 3000 [false] P9
end
theorem dgB(l:Nat)(k:U4)(i d:Int):A5 []->Sg Tryz.prog (⟨M7 (C7 .top [0,1,3,4,26,27,28] [(.ci (.val (.func (.yield l) #[] #[]))),.pt 0 0,(.ci (.bool true)),.ii i,(.ci (.lit true)),(.ci (.val (.func (.yield l) #[] #[]))),.ii d]) 29 (.ci (.lit true)),one (.fl [.ob (.fr k)]),32,400,[]⟩) (St.z (dgS l k true (wrap .i64 (i-1))) 480) .normal (D4 RH) (J4 A3o):=E4 false 3000 [] P9
end
end
section
def A3i(d:Nat):List Value:=[.int .i64 (d:Int)]
def B2w(d:Nat):List SV:=[.v (.c (.int .i64 (d:Int)))]
theorem MN{x:C0}{p:Nat}{k:U4}{M:List Nat->Nat->Option En}(hM:∀s,M s p=some (.fl [.ob (.fr k)])) :
  MK Tryz.prog x 100 [(p,0)] A3i (Am k.val 64) M:=by
 intro l J W hgrow hread hyield hJ;have key:Wq Tryz.prog (bodyPost Tryz.prog Tryz.f100 fun e' W' => (∃v,e' = Ending.returned v)∧J (Am k.val 64) W') [.code (B5 Tryz.f100)] [] .normal { tmps:=[Value.func (.yield l) #[] #[],.pointer (some ⟨x.β p,0,none⟩)].toArray++Array.replicate 30 undef,defers:=[] } W:=?_
 ·exact calls_of_wp (c:=B5 Tryz.f100) Tryz.func100 rfl ((wpIn_wide (n:=0)).1 key.wp)
 obtain ⟨y,rfl,hm,hcp⟩:=hread [] W hJ;obtain ⟨hr,hβ⟩:=hcp (p,0) List.mem_cons_self;have hr:y.k p = .real:=hr;have hβ:y.β p=x.β p:=hβ;have hargs:J7 (D5 y p) [.v (.c (.val (.func (.yield l) #[] #[]))),.v (.c (.ptr 0 0))] [.func (.yield l) #[] #[],.pointer (some ⟨x.β p,0,none⟩)]:=
  .cons ⟨rfl,0,rfl,rfl⟩ (.cons ⟨rfl,0,rfl,by show _=[Value.pointer (some ⟨y.β p,0,none⟩)];rw[hβ]⟩ .nil)
 have hpure:∀y:C0,∀(cs:Array Value) ty,y.w.heap[y.β p]? = some (.cells cs ty (0,0))->C9 y (.fl [.ob (.fr k)]) cs.toList->C9 (D5 y p) (.fl [.ob (.fr k)]) cs.toList:=fun y cs ty _ h=>JS rfl h
 have hs:=KY (nx:=16) (nt:=32) (a:={ tmps:=[Value.func (.yield l) #[] #[],.pointer (some ⟨x.β p,0,none⟩)].toArray++Array.replicate 30 undef,defers:=[] }) hm (hM []) hr (hpure y) rfl (by simp) (AX hargs 30)
 change Wq Tryz.prog _ _ _ _ _ (D5 y p).w
 refine dg l k trivial hs fun ac cY aY hs1=>?_
 have hmb:P0 (D5 y p) (one (.fl [.ob (.fr k)])):=Dt hm (hM _) hr (hpure y);have hs2:=hs1.slots (svs' := [.v (.c (.val (.func (.yield l) #[] #[]))),.v (.c (.ptr 0 0)),.v (.c (.bool false)),.v (.c (.int .i64 63))]) ⟨fun _ h=>h,fun _ h=>h,fun _ h=>V0 rfl h,fun _ h=>h,C4⟩
 let I:{ t:Nat // t<=64 } -> List Act->Act->World->Prop:=fun t ac a w=>∃y z,z.w=w∧y.k p = .real∧y.β p=x.β p∧P0 y (M (Am k.val t.1))∧J (Am k.val t.1) y.w∧P0 (D5 y p) (one (.fl [.ob (.fr k)]))∧Sim y.w y.F (HA (D5 y p)) ac (dgS l k (!(Am k.val t.1).isEmpty) ((63:Int)-(t.1:Int))) z a
 refine I5 I (fun t=>64-t) (c:=X5 RH) (k:=X8 RH) (by kernel_rfl) (fun t ih ac b w hI=>?_) ⟨0,Nat.zero_le _⟩ ⟨y,cY,rfl,hr,hβ,hm,hJ,hmb,hs2.nx _⟩
 obtain ⟨t,ht⟩:=t;obtain ⟨y,z,rfl,hr,hβ,hm,hJ,hmb,hs⟩:=hI;simp only at hm hJ hs ih
 by_cases h:t<64
 ·obtain ⟨i,hi⟩:∃i:Nat,i=63-t:=⟨_,rfl⟩
  have ei:(63:Int)-(t:Int)=(i:Int):=by omega
  have hi64:i<64:=by omega
  rw[ei] at hs;have hdig:=B2x k hi64;have hpl:=SJ hi64;have ho1:decide ((i:Int) >= 0)=true:=decide_eq_true (by omega)
  have ho2:(0:Int)<=wrap IntKind.i64 (Int.tdiv (i:Int) 16):=by rw[hpl];omega
  have ho3:wrap IntKind.i64 (Int.tdiv (i:Int) 16)<4:=by rw[hpl];omega
  have ho4:0+(wrap IntKind.i64 (Int.tdiv (i:Int) 16)).toNat*1<Ob.k (Ob.fr k):=by rw[hpl];show _<4;omega
  have ho5:=SK i;have e4:wrap IntKind.i64 ((i:Int)-1)=(63:Int)-((t+1:Nat):Int):=by rw[A9 (by omega) (by omega)];omega
  obtain ⟨d,hd⟩:∃d,k.val / 16 ^ i % 16=d:=⟨_,rfl⟩
  rw[hd] at hdig;have hd' : k.val / 16 ^ (63-t) % 16=d:=by rw[<-hi];exact hd
  have give:∀(ac:List Act) (cU:C0) (aU:Act),Am k.val (t+1)=Am k.val t++[d]->Sim y.w y.F (HA (D5 y p)) ac (B0 32 [0,1,3,4,26,27,28] [.v (.c (.val (.func (.yield l) #[] #[]))),.v (.c (.ptr 0 0)),.v (.c (.bool true)),.v (.c (.int .i64 (i:Int))),.v (.c (.lit true)),.v (.c (.val (.func (.yield l) #[] #[]))),.v (.c (.int .i64 (d:Int)))] [0] [some (.fl [.ob (.fr k)])] 416 [] []) cU aU ->
    Wq Tryz.prog (bodyPost Tryz.prog Tryz.f100 fun e' W' => (∃v,e' = Ending.returned v)∧J (Am k.val 64) W') A3o ac .normal aU cU.w:=by
   intro ac cU aU e3 hs6;obtain ⟨hg,hk2,hβ2⟩:=CZ hmb rfl hs6 rfl;have hJ2:=hgrow _ _ _ hJ hg;obtain ⟨r,hr1⟩:=A3k k.val (m:=64) (t:=t+1) h;refine Ey (R:=fun W' => J (Am k.val (t+1)) W') (dst:=some 29) (f:=.tmp 27) (args:=[.tmp 28]) (by kernel_rfl) hs6 (l:=l) rfl (vs:=A3i d) ?_ ?_ fun W' hJ3=>?_
   ·have h21:=M9 (hs6.t 28)
    show [aU.tmps.getD 28 undef]=_;rw[h21];rfl
   ·have:=hyield (Am k.val t) d _ hJ2 ⟨r,by rw[hr1,e3,List.append_assoc];rfl⟩
    rw[<-e3] at this;exact this
   ·obtain ⟨y3,rfl,hm3,hc3⟩:=hread _ _ hJ3
    obtain ⟨hr3,hβ3⟩:=hc3 (p,0) List.mem_cons_self;have hr3:y3.k p = .real:=hr3;have hβ3:y3.β p=x.β p:=hβ3;have hmb3:P0 (D5 y3 p) (one (.fl [.ob (.fr k)])):=Dt hm3 (hM _) hr3 (hpure y3);have hs7:=PO (nx' := 400) (dst:=29) (b:=true) hs6 (by kernel_rfl) rfl hm3 (hM _) hr3 (hpure y3) (by rw[hβ2,hβ];exact hβ3.symm) A4
    change Wq Tryz.prog _ _ _ _ _ (D5 y3 p).w
    refine dgB l k _ _ trivial hs7 fun ac cT aT hs8=>?_
    rw[e4] at hs8;have hne:(!(Am k.val (t+1)).isEmpty)=true:=by rw[e3];simp
    refine ih ⟨t+1,by omega⟩ (by show 64-(t+1)<64-t;omega) ac aT _ ⟨y3,cT,rfl,hr3,hβ3,hm3,hJ3,hmb3,?_⟩
    show Sim _ _ _ _ (dgS l k (!(Am k.val (t+1)).isEmpty) _) _ _;rw[hne];exact hs8.nx _
  by_cases hg:(Am k.val t).isEmpty=true
  ·rw[hg] at hs
   by_cases hz:d=0
   ·have e3:Am k.val (t+1)=[]:=IS hg (by rw[hd',hz])
    refine dgN l k _ _ ⟨ho1,A4,ho2,ho3,ho4,A4,ho5,rfl,by rw[hdig,hz];rfl,C4⟩ hs fun ac cT aT hs8=>?_
    rw[e4,hdig,hz] at hs8;have e5:Am k.val (t+1)=Am k.val t:=by rw[e3,List.isEmpty_iff.1 hg]
    refine ih ⟨t+1,by omega⟩ (by show 64-(t+1)<64-t;omega) ac aT _ ⟨y,cT,rfl,hr,hβ,?_,?_,hmb,?_⟩
    ·show P0 y (M (Am k.val (t+1)))
     rw[e5];exact hm
    ·show J (Am k.val (t+1)) y.w
     rw[e5];exact hJ
    ·show Sim _ _ _ _ (dgS l k (!(Am k.val (t+1)).isEmpty) _) _ _
     rw[e3];exact hs8.nx _
   ·have e3:Am k.val (t+1)=Am k.val t++[d]:=by
     rw[<-hd'];exact OE fun hc=>hz (by rw[<-hd'];exact hc.2)
    have hp0:decide ((d:Int) > 0)=true:=decide_eq_true (by omega)
    refine dgZ l k _ _ ⟨ho1,A4,ho2,ho3,ho4,A4,ho5,rfl,by rw[hdig];exact hp0,C4⟩ hs fun ac cU aU hs6=>?_
    rw[hdig,hp0] at hs6;exact give ac cU aU e3 (hs6.nx _)
  ·have hg:(Am k.val t).isEmpty=false:=Bool.eq_false_iff.2 hg
   rw[hg] at hs;have e3:Am k.val (t+1)=Am k.val t++[d]:=by
    rw[<-hd'];exact OE fun hc=>by rw[hg] at hc;exact absurd hc.1 A4
   refine dgY l k _ _ ⟨ho1,A4,ho2,ho3,ho4,A4,ho5,rfl,C4⟩ hs fun ac cU aU hs6=>?_
   rw[hdig] at hs6;have hs6' := hs6.slots (svs' := [.v (.c (.val (.func (.yield l) #[] #[]))),.v (.c (.ptr 0 0)),.v (.c (.bool true)),.v (.c (.int .i64 (i:Int))),.v (.c (.lit true)),.v (.c (.val (.func (.yield l) #[] #[]))),.v (.c (.int .i64 (d:Int)))])
    ⟨fun _ h=>h,fun _ h=>h,fun _ h=>V0 rfl h,fun _ h=>h,fun _ h=>h,fun _ h=>h,fun _ h=>h,C4⟩
   exact give ac cU aU e3 (hs6'.nx _)
 ·have e5:t=64:=by omega
  subst e5;refine dgX l k _ _ ⟨A4,C4⟩ hs fun ac cV aV hs4=>?_
  obtain ⟨hg,_,_⟩:=CZ hmb rfl hs4 rfl;exact ⟨Va P9 hs4 rfl rfl rfl (fun v=>⟨⟨v,rfl⟩,hgrow _ _ _ hJ hg⟩) (.inr rfl)⟩
end
section
section
variable {w0:World} {F0:Nat->Prop} {K:Kp} {ac:List Act} {Q:Exit->Act->World->Prop} {cX:C0} {aX:Act}
def A0g:List KI:=(run qvF false 3000 (⟨[.code (B5 Tryz.f39)],.normal,D2 Tryz.f39.ntmps [.v (.a [.ob (.p dF),.ob (.p dF),.ob (.p dF)]),.v (.a [.ob (.fr dF)])]⟩:G5) []).cfg.k
theorem my(x y z:Fp)(k:U4):let b:Fp:=0;A5 [(0<=(0:Int)),(0<(16:Int))]->Sg Tryz.prog (D2 Tryz.f39.ntmps [.v (.a [.ob (.p x),.ob (.p y),.ob (.p z)]),.v (.a [.ob (.fr k)])]) (B0 43 [2,3,4,5,6] [.pt 16 0,.pt 32 0,.pt 48 0,.pt 64 0,.ii 1] [16,32,48,64] [(B9 [.ob (.p x),.ob (.p y),.ob (.p z)]),(B9 [.ob (.fr k)]),(B9 [(.ob (.p b)),(.ob (.p b)),(.ob (.p b))]),(B9 [.ob (.p x),.ob (.p y),(.ob (.p b)),(.ob (.p b)),(.ob (.p b)),(.ob (.p b)),(.ob (.p b)),(.ob (.p b)),(.ob (.p b)),(.ob (.p b)),(.ob (.p b)),(.ob (.p b)),(.ob (.p b)),(.ob (.p b)),(.ob (.p b)),(.ob (.p b)),(.ob (.p b)),(.ob (.p b)),(.ob (.p b)),(.ob (.p b)),(.ob (.p b)),(.ob (.p b)),(.ob (.p b)),(.ob (.p b)),(.ob (.p b)),(.ob (.p b)),(.ob (.p b)),(.ob (.p b)),(.ob (.p b)),(.ob (.p b)),(.ob (.p b)),(.ob (.p b)),(.ob (.p b)),(.ob (.p b)),(.ob (.p b)),(.ob (.p b)),(.ob (.p b)),(.ob (.p b)),(.ob (.p b)),(.ob (.p b)),(.ob (.p b)),(.ob (.p b)),(.ob (.p b)),(.ob (.p b)),(.ob (.p b)),(.ob (.p b)),(.ob (.p b)),(.ob (.p b))])] 208 [] []) .normal (A0g) ([.code (B5 Tryz.f39)]):=E4 false 3000 [] DI
def myS(x y z:Fp)(k:U4)(L:List (Fp×Fp×Fp))(i:Int):St:=B0 43 [2,3,4,5,6] [.pt 16 0,.pt 32 0,.pt 48 0,.pt 64 0,.v (.c (.int .i64 i))] [16,32,48,64] [(B9 [.ob (.p x),.ob (.p y),.ob (.p z)]),(B9 [.ob (.fr k)]),(B9 [(.ob (.p (0:Fp))),(.ob (.p (0:Fp))),(.ob (.p (0:Fp)))]),some (.sq (.pt L))] 208 [] []
theorem myA(x y z:Fp)(k:U4)(L:List (Fp×Fp×Fp))(i:Int):let a:=wrap .i64 (i-1);let b:Int:=16;A5 [((decide (i<b))=true),(0<=a),(a<b),(0=0),((a).toNat<L.length),(0<=i),(i<b),(0=0),((i).toNat<L.length)]->Sg Tryz.prog (myS x y z k L i) (St.z (myS x y z k (List.set L (i).toNat (jpl (List.getD L (a).toNat E7) (x,(y,z)))) (wrap .i64 (i+1))) 432) .normal (D4 A0g) (B7 A0g):=E4 false 3000 [true] DI
def JB:List KI:=(run qvF false 3000 (⟨B7 A0g,.normal,myS dF dF dF dF dF dF⟩:G5) [false]).cfg.k
theorem myB(x y z:Fp)(k:U4)(L:List (Fp×Fp×Fp))(i:Int):let a:=List.getD L 0 E7;A5 [((decide (i<(16:Int)))=false),(0<=(0:Int)),(0<(16:Int)),(0=0),(0<L.length)]->Sg Tryz.prog (myS x y z k L i) (B0 43 [4,5,7,30] [.pt 48 0,.pt 64 0,.pt 272 0,(.ci (.clo 100 [(320,0)]))] [48,64,272,320] [(B9 [(.ob (.p (0:Fp))),(.ob (.p (0:Fp))),(.ob (.p (0:Fp)))]),(D9 (Sq.pt L)),(B9 [(.ob (.p (Prod.fst a))),(.ob (.p (Prod.fst (Prod.snd a)))),(.ob (.p (Prod.snd (Prod.snd a))))]),(B9 [.ob (.fr k)])] 384 [] []) .normal (JB) (B7 A0g):=E4 false 3000 [false] DI
def myR(k:U4)(L:List (Fp×Fp×Fp))(o:Fp×Fp×Fp):St:=B0 43 [4,5,7,30] [.pt 48 0,.pt 64 0,.pt 272 0,(.ci (.clo 100 [(320,0)]))] [48,64,272,320] [(B9 [(.ob (.p (0:Fp))),(.ob (.p (0:Fp))),(.ob (.p (0:Fp)))]),(D9 (Sq.pt L)),some (.fl [.ob (.p o.1),.ob (.p o.2.1),.ob (.p o.2.2)]),(B9 [.ob (.fr k)])] 384 [] []
theorem mrA(k:U4)(L:List (Fp×Fp×Fp))(o:Fp×Fp×Fp)(d:Int){ρ:Option Nat}(ho:A5 [])(hs:Sim w0 F0 K ac (Y6 (myR k L o) [(31,.v (.c (.int .i64 d)))]) cX aX)(hK:∀cY aY,Sim w0 F0 K ac (B0 43 [4,5,7,8] [.pt 48 0,.pt 64 0,.pt 272 0,.ii d] [48,64,272,320] [(B9 [(.ob (.p (0:Fp))),(.ob (.p (0:Fp))),(.ob (.p (0:Fp)))]),(D9 (Sq.pt L)),(B9 [(.ob (.p (Prod.fst o))),(.ob (.p (Prod.fst (Prod.snd o)))),(.ob (.p (Prod.snd (Prod.snd o))))]),(B9 [.ob (.fr k)])] 400 [[4,5,7,30]] [([.pt 48 0,.pt 64 0,.pt 272 0,(.ci (.clo 100 [(320,0)]))],43)]) cY aY->Wq Tryz.prog Q ([]) ac Exit.normal aY cY.w ρ):Wq Tryz.prog Q ([.code (rfA JB)]) ac .normal aX cX.w ρ :=
 J5 (unroll:=false) (n:=3000) (path:=[]) (o:=⟨_,_,_,_,_,_,_⟩) DI (by kernel_rfl) (by kernel_rfl) ho (by kernel_rfl) (by kernel_rfl) hs hK
def mrB(k:U4)(L:List (Fp×Fp×Fp))(o:Fp×Fp×Fp)(d:Int):St:=B0 43 [4,5,7,8] [.pt 48 0,.pt 64 0,.pt 272 0,.ii d] [48,64,272,320] [(B9 [(.ob (.p (0:Fp))),(.ob (.p (0:Fp))),(.ob (.p (0:Fp)))]),(D9 (Sq.pt L)),some (.fl [.ob (.p o.1),.ob (.p o.2.1),.ob (.p o.2.2)]),(B9 [.ob (.fr k)])] 400 [[4,5,7,30]] [([.pt 48 0,.pt 64 0,.pt 272 0,(.ci (.clo 100 [(320,0)]))],43)]
def TD:List KI:=(run qvF false 3000 (⟨[.code (rfB JB)],.normal,mrB dF dF dF dF⟩:G5) []).cfg.k
theorem mrC(k:U4)(L:List (Fp×Fp×Fp))(o:Fp×Fp×Fp)(d:Int){ρ:Option Nat}(ho:A5 [])(hs:Sim w0 F0 K ac (mrB k L o d) cX aX)(hK:∀cY aY,Sim w0 F0 K ac (B0 43 [4,5,7,8,32] [.pt 48 0,.pt 64 0,.pt 272 0,.ii d,.ii 0] [48,64,272,320] [(B9 [(.ob (.p (0:Fp))),(.ob (.p (0:Fp))),(.ob (.p (0:Fp)))]),(D9 (Sq.pt L)),(B9 [(.ob (.p (Prod.fst o))),(.ob (.p (Prod.fst (Prod.snd o)))),(.ob (.p (Prod.snd (Prod.snd o))))]),(B9 [.ob (.fr k)])] 416 [[4,5,7,30]] [([.pt 48 0,.pt 64 0,.pt 272 0,(.ci (.clo 100 [(320,0)]))],43)]) cY aY->Wq Tryz.prog Q (TD) ac Exit.normal aY cY.w ρ):Wq Tryz.prog Q ([.code (rfB JB)]) ac .normal aX cX.w ρ :=
 J5 (unroll:=false) (n:=3000) (path:=[]) (o:=⟨_,_,_,_,_,_,_⟩) DI (by kernel_rfl) (by kernel_rfl) ho (by kernel_rfl) (by kernel_rfl) hs hK
def mrS(k:U4)(L:List (Fp×Fp×Fp))(o:Fp×Fp×Fp)(d j:Int):St:=B0 43 [4,5,7,8,32] [.pt 48 0,.pt 64 0,.pt 272 0,.ii d,.v (.c (.int .i64 j))] [48,64,272,320] [(B9 [(.ob (.p (0:Fp))),(.ob (.p (0:Fp))),(.ob (.p (0:Fp)))]),(D9 (Sq.pt L)),some (.fl [.ob (.p o.1),.ob (.p o.2.1),.ob (.p o.2.2)]),(B9 [.ob (.fr k)])] 416 [[4,5,7,30]] [([.pt 48 0,.pt 64 0,.pt 272 0,(.ci (.clo 100 [(320,0)]))],43)]
theorem mrD(k:U4)(L:List (Fp×Fp×Fp))(o:Fp×Fp×Fp)(d j:Int){ρ:Option Nat}:let a:=Prod.snd (jtw o);(A5 [((decide (j<(4:Int)))=true)])->(Sim w0 F0 K ac (mrS k L o d j) cX aX)->(∀cY aY,Sim w0 F0 K ac (B0 43 [4,5,7,8,32] [.pt 48 0,.pt 64 0,.pt 272 0,.ii d,(.ii (wrap .i64 (j+1)))] [48,64,272,320] [(B9 [(.ob (.p (0:Fp))),(.ob (.p (0:Fp))),(.ob (.p (0:Fp)))]),(D9 (Sq.pt L)),(B9 [(.ob (.p (Prod.fst (jtw o)))),(.ob (.p (Prod.fst a))),(.ob (.p (Prod.snd a)))]),(B9 [.ob (.fr k)])] 512 [[4,5,7,30]] [([.pt 48 0,.pt 64 0,.pt 272 0,(.ci (.clo 100 [(320,0)]))],43)]) cY aY->Wq Tryz.prog Q (D4 TD) ac Exit.normal aY cY.w ρ)->Wq Tryz.prog Q (B7 TD) ac .normal aX cX.w ρ :=fun ho hs hK=>
 J5 (unroll:=false) (n:=3000) (path:=[true]) (o:=⟨_,_,_,_,_,_,_⟩) DI (by kernel_rfl) (by kernel_rfl) ho (by kernel_rfl) (by kernel_rfl) hs hK
theorem mrE(k:U4)(L:List (Fp×Fp×Fp))(o:Fp×Fp×Fp)(d j:Int){ρ:Option Nat}:let a:=jpl o (List.getD L (d).toNat E7);(A5 [((decide (j<(4:Int)))=false),(0<=d),(d<(16:Int)),(0=0),((d).toNat<L.length)])->(Sim w0 F0 K ac (mrS k L o d j) cX aX)->(∀cY aY,Sim w0 F0 K ac (B0 43 [4] [.pt 48 0] [48,64,272,320] [(B9 [(.ob (.p (0:Fp))),(.ob (.p (0:Fp))),(.ob (.p (0:Fp)))]),(D9 (Sq.pt L)),(B9 [(.ob (.p (Prod.fst a))),(.ob (.p (Prod.fst (Prod.snd a)))),(.ob (.p (Prod.snd (Prod.snd a))))]),(B9 [.ob (.fr k)])] 528 [[4,5,7,30]] [([.pt 48 0,.pt 64 0,.pt 272 0,(.ci (.clo 100 [(320,0)]))],43)]) cY aY->Wq Tryz.prog Q ([]) ac Exit.normal aY cY.w ρ)->Wq Tryz.prog Q (B7 TD) ac .normal aX cX.w ρ :=fun ho hs hK=>
 J5 (unroll:=false) (n:=3000) (path:=[false]) (o:=⟨_,_,_,_,_,_,_⟩) DI (by kernel_rfl) (by kernel_rfl) ho (by kernel_rfl) (by kernel_rfl) hs hK
def mrF(k:U4)(L:List (Fp×Fp×Fp))(o:Fp×Fp×Fp):St:=B0 43 [4] [.pt 48 0] [48,64,272,320] [(B9 [(.ob (.p (0:Fp))),(.ob (.p (0:Fp))),(.ob (.p (0:Fp)))]),(D9 (Sq.pt L)),some (.fl [.ob (.p o.1),.ob (.p o.2.1),.ob (.p o.2.2)]),(B9 [.ob (.fr k)])] 528 [[4,5,7,30]] [([.pt 48 0,.pt 64 0,.pt 272 0,(.ci (.clo 100 [(320,0)]))],43)]
theorem mrX(k:U4)(L:List (Fp×Fp×Fp))(o:Fp×Fp×Fp):A5 []->Sg Tryz.prog (myR k L o) (B0 43 [4] [.pt 48 0] [48] [(B9 [(.ob (.p (Prod.fst o))),(.ob (.p (Prod.fst (Prod.snd o)))),(.ob (.p (Prod.snd (Prod.snd o))))])] 416 [] []) .ret ([]) (rfR JB):=E4 false 3000 [] DI
def mrZ(o:Fp×Fp×Fp):St:=B0 43 [4] [.pt 48 0] [48] [some (.fl [.ob (.p o.1),.ob (.p o.2.1),.ob (.p o.2.2)])] 416 [] []
theorem C5i(o:Fp×Fp×Fp):E2 qvF Tryz.f39 false 3000 (⟨[],.ret,mrZ o⟩) [] [] []=(some ([],((.v (.a [(.ob (.p (Prod.fst o))),(.ob (.p (Prod.fst (Prod.snd o)))),(.ob (.p (Prod.snd (Prod.snd o))))])),[]))):=by kernel_rfl
end
end
section
theorem FA{x:C0}(L:List (Fp×Fp×Fp)):∀(n i:Nat) (cs:List Value),C6 x.D (J9 L i n) cs->cs.length=n*18∧∀j,j<n->∃c,C6 x.D (M5 (L.getD (i+j) E7)) c∧∀(q:Nat) (v:Value),c[q]? = some v->cs[j*18+q]? = some v
 | 0,i,cs,h=>by
  have h:cs=[]:=h;subst h;exact ⟨rfl,fun j hj=>absurd hj (Nat.not_lt_zero _)⟩
 | n+1,i,cs,h=>by
  obtain ⟨c1,r1,e1,h1,c2,r2,e2,h2,c3,r3,e3,h3,h4⟩:=h;obtain ⟨hl,hj⟩:=FA L n (i+1) r3 h4;have l1:c1.length=6:=AW h1;have l2:c2.length=6:=AW h2;have l3:c3.length=6:=AW h3;subst e1 e2 e3;refine ⟨by simp only[List.length_append];omega,fun j hjn=>?_⟩
  cases j with
  | zero=>
   refine ⟨c1++(c2++(c3++[])),⟨c1,_,rfl,h1,c2,_,rfl,h2,c3,_,rfl,h3,rfl⟩,fun q v hq=>?_⟩
   rw[List.append_nil] at hq;have hlt:q<(c1++(c2++c3)).length:=by
    rcases Nat.lt_or_ge q (c1++(c2++c3)).length with h | h
    ·exact h
    ·rw[List.getElem?_eq_none h] at hq;cases hq
   rw[Nat.zero_mul,Nat.zero_add,<-hq];have e:c1++(c2++(c3++r3))=(c1++(c2++c3))++r3:=by simp
   rw[e,List.getElem?_append_left hlt]
  | succ j=>
   obtain ⟨c,hc,hv⟩:=hj j (by omega)
   rw[show i+1+j=i+(j+1) from by omega] at hc
   refine ⟨c,hc,fun q v hq=>?_⟩
   have e:c1++(c2++(c3++r3))=(c1++(c2++c3))++r3:=by simp
   have hl18:(c1++(c2++c3)).length=18:=by simp only[List.length_append];omega
   rw[e,List.getElem?_append_right (by rw[hl18];omega),hl18,show (j+1)*18+q-18=j*18+q from by omega]
   exact hv q v hq
theorem C0t{x:C0}(L:List (Fp×Fp×Fp))(h:L.length=16)(cs:List Value)(hc:C9 x (.fl (J9 L 0 16)) cs):C9 x (.sq (.pt L)) cs:=by
 obtain ⟨hl,hj⟩:=FA L 16 0 cs hc;refine ⟨?_,fun i hi=>?_⟩
 ·show L.length*18<=cs.length
  rw[h,hl];exact Nat.le_refl _
 ·have hi:i<L.length:=hi
  rw[h] at hi;obtain ⟨c,h1,h2⟩:=hj i hi;rw[Nat.zero_add] at h1;exact ⟨c,h1,h2⟩
def E1d(x y:Fp):List (Fp×Fp×Fp):=(x,y,0)::List.replicate 15 E7
theorem B5j(x y z:Fp)(k:U4):K2 Tryz.prog 39 [.v (.a [.ob (.p x),.ob (.p y),.ob (.p z)]),.v (.a [.ob (.fr k)])] (.v (.a (M5 (jmn (x,y,z) (Am k.val 64))))) []:=by
 refine BY (fn:=Tryz.f39) (c:=B5 Tryz.f39) Tryz.func39 rfl rfl fun x0 a0 hk hF hs=>?_
 refine my x y z k ⟨A4,A4,C4⟩ hs fun ac cY aY hs1=>?_
 have hs2:=hs1.blocks (ens' := [some (.fl [.ob (.p x),.ob (.p y),.ob (.p z)]),some (.fl [.ob (.fr k)]),some (.fl [.ob (.p 0),.ob (.p 0),.ob (.p 0)]),some (.sq (.pt (E1d x y)))])
  ⟨.inl rfl,.inl rfl,.inl rfl,.inr ⟨_,_,_,rfl,rfl,rfl,fun cs h=>C0t _ rfl cs h⟩,C4⟩
 refine C5 (ι:={ p:Nat×List (Fp×Fp×Fp) // 1<=p.1∧p.1<=16∧p.2.length=16∧∀j,j<p.1->p.2.getD j E7=Ah (x,y,z) j }) (fun p=>myS x y z k p.1.2 (p.1.1:Int)) (fun p=>16-p.1.1) (c:=X5 A0g) (k:=X8 A0g) (by kernel_rfl) (fun p ih ac cY aY hs=>?_)
  ⟨(1,E1d x y),Nat.le_refl 1,by show (1:Nat)<=16;omega,rfl,fun j hj=>by
   have:j=0:=by have hj:j<1:=hj;omega
   subst this;rfl⟩ (hs2.nx _)
 obtain ⟨⟨i,L⟩,h1,h16,hL,htab⟩:=p;simp only at ih hs h1 h16 hL htab
 by_cases hi:i<16
 ·have e1:wrap IntKind.i64 ((i:Int)-1)=((i-1:Nat):Int):=by rw[A9 (by omega) (by omega)];omega
  have e2:wrap IntKind.i64 ((i:Int)+1)=((i+1:Nat):Int):=by rw[A9 (by omega) (by omega)];omega
  refine myA x y z k L i ⟨decide_eq_true (by omega),by rw[e1];omega,by rw[e1];omega,rfl,by rw[e1,Int.toNat_natCast,hL];omega,by omega,by omega,rfl,by rw[Int.toNat_natCast,hL];exact hi,C4⟩ hs fun ac cZ aZ hs3=>?_
  rw[e1,e2,Int.toNat_natCast,Int.toNat_natCast,htab (i-1) (by omega)] at hs3
  have e3:jpl (Ah (x,y,z) (i-1)) (x,y,z)=Ah (x,y,z) i:=by
   obtain ⟨m,rfl⟩:∃m,i=m+1:=⟨i-1,by omega⟩
   rfl
  rw[e3] at hs3;refine ih ⟨(i+1,L.set i (Ah (x,y,z) i)),by show 1<=i+1;omega,hi,by show (L.set i _).length=16;rw[List.length_set];exact hL,fun j hj=>?_⟩ (by show 16-(i+1)<16-i;omega) ac cZ aZ (hs3.nx _)
  have hj:j<i+1:=hj;show (L.set i (Ah (x,y,z) i)).getD j E7=_;by_cases e:j=i
  ·subst e
   simp [List.getD,hL,hi]
  ·have:(L.set i (Ah (x,y,z) i)).getD j E7=L.getD j E7:=by
    simp [List.getD,List.getElem?_set_ne (Ne.symm e)]
   rw[this];exact htab j (by omega)
 ·have:i=16:=by omega
  subst this;refine myB x y z k L _ ⟨A4,A4,A4,rfl,by rw[hL];decide,C4⟩ hs fun ac cZ aZ hs3=>?_
  rw[htab 0 (by decide)] at hs3
  obtain ⟨e1,e2⟩:=GG (k:=JB) (by kernel_rfl)
  rw[e1];have eP:(rfP JB).toList=[31]:=by kernel_rfl
  have eG:rfG JB = .tmp 30:=by kernel_rfl
  refine Cm (ps:=rfP JB) e2 hs3 (gf:=100) (caps:=[(320,0)]) (A2 Tryz.func100 rfl rfl) (fun pre=>myR k L (pre.foldl (jst (x,y,z)) (Ah (x,y,z) 0))) (fun s=>by rw[eG];rfl) ⟨_,rfl⟩ (Am k.val 64) B2w A3i
   (fun y z=>.cons ⟨rfl,0,rfl⟩ .nil) (fun z=>by rw[<-Array.length_toList,eP];rfl) (fun pre p hp=>?_) (MN fun s=>rfl) (fun pre d=>mrB k L (pre.foldl (jst (x,y,z)) (Ah (x,y,z) 0)) d)
   (fun pre d=>mrF k L ((pre++[d]).foldl (jst (x,y,z)) (Ah (x,y,z) 0))) (fun pre d=>⟨_,rfl⟩) (fun pre d hd w1 F1 K1 as1 Q1 l y1 b hs4 hQ=>?_) (fun pre d hd w1 F1 K1 as1 Q1 l y1 b hs4 hQ=>?_) fun D y1 hs4 hD hFD hd=>?_
  ·rw[eP] at hp
   have h43:(myR k L (pre.foldl (jst (x,y,z)) (Ah (x,y,z) 0))).nt=43:=rfl;rw[h43];simp only[List.mem_cons,List.not_mem_nil,or_false] at hp;subst hp;decide
  ·rw[eP] at hs4
   exact mrA k L _ d trivial hs4 fun cZ aZ hs5=>⟨hQ _ _ (hs5.nx _)⟩
  ·have hd16:d<16:=by
    obtain ⟨r,hr⟩:=hd;exact ZF (n:=k.val) 64 d (by rw[hr];simp)
   rw[List.foldl_append] at hQ;generalize pre.foldl (jst (x,y,z)) (Ah (x,y,z) 0)=o at hs4 hQ;have hst:List.foldl (jst (x,y,z)) o [d]=jpl (Ef 4 o) (L.getD d E7):=by
    rw[htab d hd16];rfl
   rw[hst] at hQ;refine mrC k L o d trivial hs4 fun cV aV hs5=>?_
   let I:{ j:Nat // j<=4 } -> List Act->Act->World->Prop:=fun j ac a w=>ac=as1∧∃z,z.w=w∧Sim w1 F1 K1 as1 (mrS k L (Ef j.1 o) d (j.1:Int)) z a
   refine I5 (ρ:=some l) I (fun j=>4-j.1) (c:=X5 TD) (k:=X8 TD) (by kernel_rfl) (fun j ih ac aV w hI=>?_) ⟨0,Nat.zero_le _⟩ ⟨rfl,cV,rfl,hs5.nx _⟩
   obtain ⟨j,hj⟩:=j;obtain ⟨rfl,cV,rfl,hs6⟩:=hI;simp only at ih hs6
   by_cases hj4:j<4
   ·refine mrD k L _ d j ⟨decide_eq_true (by omega),C4⟩ hs6 fun cU aU hs7=>?_
    rw[A9 (n:=(j:Int)+1) (by omega) (by omega)] at hs7
    exact ih ⟨j+1,hj4⟩ (by show 4-(j+1)<4-j;omega) _ aU _ ⟨rfl,cU,rfl,hs7.nx _⟩
   ·have:j=4:=by omega
    subst this;refine mrE k L _ d _ ⟨A4,by omega,by omega,rfl,by rw[Int.toNat_natCast,hL];exact hd16,C4⟩ hs6 fun cU aU hs7=>?_
    rw[Int.toNat_natCast] at hs7;exact ⟨hQ _ _ (hs7.nx _)⟩
  ·have hs5:=hs4.marked rfl rfl D
   show Wq _ _ _ _ _ _ _ _;have ej:(Am k.val 64).foldl (jst (x,y,z)) (Ah (x,y,z) 0)=jmn (x,y,z) (Am k.val 64):=rfl;rw[ej] at hs4 hs5;generalize jmn (x,y,z) (Am k.val 64)=o at hs4 hs5 ⊢
   refine mrX k L o trivial hs5 fun ac cV aV hs6=>⟨?_⟩
   have hs7:Sim y1.w y1.F (BM y1 AD (AK D)) ac (mrZ o) cV aV:=hs6;exact Ec DI hk hF (C5i o) trivial (fun y v hd=>hd) hs4 hD hFD hd rfl hs7
end
section
theorem D0s{x:C0}(L:List (Fp×Fp×Fp))(h:L.length=16)(cs:List Value)(hc:C9 x (.fl (J9 L 0 16)) cs):C9 x (.sq (.pt L)) cs:=by
 obtain ⟨hl,hj⟩:=FA L 16 0 cs hc;refine ⟨?_,fun i hi=>?_⟩
 ·show L.length*18<=cs.length
  rw[h,hl];exact Nat.le_refl _
 ·have hi:i<L.length:=hi
  rw[h] at hi;obtain ⟨c,h1,h2⟩:=hj i hi;rw[Nat.zero_add] at h1;exact ⟨c,h1,h2⟩
theorem Xv{x:C0}(L:List (Fp×Fp×Fp)):∀(n k:Nat) (cs:List Value),(∀j,j<n->∃c,C6 x.D (M5 (L.getD (k+j) E7)) c∧∀(q:Nat) (v:Value),c[q]? = some v->cs[j*18+q]? = some v) ->
  ∃c,C6 x.D (J9 L k n) c∧∀(q:Nat) (v:Value),c[q]? = some v->cs[q]? = some v
 | 0,k,cs,_=>⟨[],rfl,fun q v h=>by simp at h⟩
 | n+1,k,cs,h=>by
  obtain ⟨c0,h0,g0⟩:=h 0 (Nat.zero_lt_succ _);rw[Nat.add_zero] at h0;obtain ⟨c,hc,g⟩:=Xv L n (k+1) (cs.drop 18) fun j hj=>by
   obtain ⟨c,h1,h2⟩:=h (j+1) (by omega)
   rw[show k+(j+1)=k+1+j from by omega] at h1
   refine ⟨c,h1,fun q v hq=>?_⟩
   rw[List.getElem?_drop,<-h2 q v hq];congr 1
   omega
  obtain ⟨c1,r1,e1,h1,c2,r2,e2,h2,c3,r3,e3,h3,h4⟩:=h0;have h4:r3=[]:=h4;have l1:c1.length=6:=AW h1;have l2:c2.length=6:=AW h2;have l3:c3.length=6:=AW h3;subst e1 e2 e3 h4;refine ⟨c1++(c2++(c3++c)),⟨c1,_,rfl,h1,c2,_,rfl,h2,c3,_,rfl,h3,hc⟩,fun q v hq=>?_⟩
  have e:c1++(c2++(c3++c))=(c1++(c2++(c3++[])))++c:=by simp
  have hl:(c1++(c2++(c3++[]))).length=18:=by simp only[List.length_append,List.length_nil];omega
  rw[e] at hq;by_cases hq18:q<18
  ·rw[List.getElem?_append_left (by omega)] at hq
   have:=g0 q v hq
   rwa [Nat.zero_mul,Nat.zero_add] at this
  ·rw[List.getElem?_append_right (by omega),hl] at hq
   have:=g _ v hq
   rw[List.getElem?_drop] at this;rwa [show 18+(q-18)=q from by omega] at this
theorem D4i{x:C0}(L:List (Fp×Fp×Fp))(h:L.length=16)(cs:List Value)(hc:C9 x (.sq (.pt L)) cs):C9 x (.sq (.ptt [L])) cs:=by
 obtain ⟨hl,hj⟩:=hc;have hl:L.length*18<=cs.length:=hl;rw[h] at hl;obtain ⟨c,h1,h2⟩:=Xv L 16 0 cs fun j hj16=>by
  obtain ⟨c,g1,g2⟩:=hj j (by show j<L.length;omega)
  refine ⟨c,?_,g2⟩
  rw[Nat.zero_add];exact g1
 refine ⟨by show 1*288<=cs.length;omega,fun i hi=>?_⟩
 have hi:i<1:=hi;obtain rfl:i=0:=by omega
 refine ⟨c,h1,fun q v hq=>?_⟩
 rw[Nat.zero_mul,Nat.zero_add];exact h2 q v hq
theorem D4j{x:C0}(L:List (Fp×Fp×Fp))(h:L.length=16)(cs:List Value)(hc:C9 x (.sq (.ptt [L])) cs):C9 x (.sq (.pt L)) cs:=by
 obtain ⟨hl,hj⟩:=hc;have hl:1*288<=cs.length:=hl;obtain ⟨c,h1,h2⟩:=hj 0 (Nat.zero_lt_succ _);obtain ⟨_,g⟩:=FA L 16 0 c h1;refine ⟨by show L.length*18<=cs.length;omega,fun i hi=>?_⟩
 have hi:i<L.length:=hi;obtain ⟨c',g1,g2⟩:=g i (by omega)
 rw[Nat.zero_add] at g1;refine ⟨c',g1,fun q v hq=>?_⟩
 have:=h2 _ v (g2 q v hq)
 rwa [Nat.zero_mul,Nat.zero_add] at this
def B2q(x:C0):List (Option En)->List (Option En)->Prop
 | [],[]=>True
 | e::l,e' :: l' => (e=e' ∨ ∃q q',e=some (.sq q)∧e' = some (.sq q')∧(q.n=0->q'.n=0)∧∀cs,C9 x (.sq q) cs->C9 x (.sq q') cs)∧B2q x l l'
 | _,_=>False
theorem OA{x:C0}:∀{ml:List Nat} {ens ens' : List (Option En)},B2q x ens ens' -> ∀p,C7 none ml ens p=C7 none ml ens' p∨∃q q',C7 none ml ens p=some (.sq q)∧C7 none ml ens' p=some (.sq q')∧(q.n=0->q'.n=0)∧∀cs,C9 x (.sq q) cs->C9 x (.sq q') cs
 | [],_,_,_,_=>.inl rfl
 | _::_,[],[],_,_=>.inl rfl
 | _::_,[],_::_,h,_=>h.elim
 | _::_,_::_,[],h,_=>h.elim
 | t::tl,e::l,e' :: l',h,p=>by
  simp only[C7];by_cases hp:p=t
  ·simp only[hp,if_true];exact h.1
  ·simp only[hp,if_false];exact OA h.2 p
theorem Sim.rows{w0:World}{F0:Nat->Prop}{K:Kp}{ac:List Act}{nt nx:Nat}{tl:List Nat}{svs:List SV}{ml:List Nat}{ens ens' : List (Option En)}{ftl:List (List Nat)}{fsv:List (List SV×Nat)}{x:C0}{a:Act}
  (hs:Sim w0 F0 K ac (B0 nt tl svs ml ens nx ftl fsv) x a) (h:B2q x ens ens'):Sim w0 F0 K ac (B0 nt tl svs ml ens' nx ftl fsv) x a:=by
 have hm:=hs.mem;refine ⟨hs.defers,hs.nt,hs.t,?_,hs.base,hs.frs⟩
 have key:=OA (ml:=ml) h;refine ⟨fun p=>?_,fun p l hp=>?_,fun p q hp hn=>?_,fun p e hp hr=>?_,hm.inj,hm.own,hm.fw⟩
 ·rw[<-hm.dom p]
  show C7 none ml ens' p=none↔C7 none ml ens p=none;rcases key p with e | ⟨q,q',e1,e2,_⟩
  ·rw[e]
  ·rw[e1,e2]
   constructor<;>(intro h;cases h)
 ·have hp:C7 none ml ens' p=some (.fl l):=hp
  rcases key p with e | ⟨q,q',e1,e2,_⟩
  ·rw[<-e] at hp;exact hm.fl p l hp
  ·rw[e2] at hp;cases hp
 ·have hp:C7 none ml ens' p=some (.sq q):=hp
  rcases key p with e | ⟨q1,q',e1,e2,h0,_⟩
  ·rw[<-e] at hp;exact hm.nil p q hp hn
  ·rw[e2] at hp
   cases hp
   exact h0 (hm.nil p q1 e1 hn)
 ·have hp:C7 none ml ens' p=some e:=hp
  rcases key p with e0 | ⟨q,q',e1,e2,_,hc⟩
  ·rw[<-e0] at hp;exact hm.ent p e hp hr
  ·rw[e2] at hp
   cases hp
   obtain ⟨cs,ty,h1,h2⟩:=hm.ent p _ e1 hr;exact ⟨cs,ty,h1,hc _ h2⟩
def rwL(a:Fp×Fp×Fp):List (Fp×Fp×Fp):=(List.range 16).map (LW E7 a)
def tbL(a:Fp×Fp×Fp)(n:Nat):List (List (Fp×Fp×Fp)):=(List.range n).map fun i=>rwL (baT E7 a i)
theorem Wj(a:Fp×Fp×Fp):(rwL a).length=16:=rfl
theorem Wi(a:Fp×Fp×Fp){d:Nat}(h:d<16):(rwL a).getD d E7=LW E7 a d:=by
 unfold rwL;rw[List.getD_eq_getElem?_getD,List.getElem?_map,List.getElem?_range h];rfl
theorem WA(a:Fp×Fp×Fp)(n:Nat):(tbL a n).length=n:=by
 unfold tbL;rw[List.length_map,List.length_range]
theorem C0y(a:Fp×Fp×Fp)(n:Nat):tbL a (n+1)=tbL a n++[rwL (baT E7 a n)]:=by
 unfold tbL;rw[List.range_succ,List.map_append];rfl
theorem A6g(a:Fp×Fp×Fp){n i:Nat}(h:i<n):(tbL a n).getD i []=rwL (baT E7 a i):=by
 unfold tbL;rw[List.getD_eq_getElem?_getD,List.getElem?_map,List.getElem?_range h];rfl
theorem C8k{L:List (Fp×Fp×Fp)}{a:Fp×Fp×Fp}(hl:L.length=16)(hg:∀j,j<16->L.getD j E7=LW E7 a j):L=rwL a:=by
 apply List.ext_getElem (by rw[hl,Wj])
 intro j h1 h2;have e:=hg j (by omega)
 rw[<-Wi a (by omega),List.getD_eq_getElem?_getD,List.getD_eq_getElem?_getD,List.getElem?_eq_getElem h1,List.getElem?_eq_getElem h2] at e
 exact e
theorem B1i{L:List (Fp×Fp×Fp)}(h:L.length=16):[L.getD 0 E7,L.getD 1 E7,L.getD 2 E7,L.getD 3 E7,L.getD 4 E7,L.getD 5 E7,L.getD 6 E7,L.getD 7 E7,L.getD 8 E7,L.getD 9 E7,L.getD 10 E7,L.getD 11 E7,L.getD 12 E7,L.getD 13 E7,L.getD 14 E7,L.getD 15 E7]=L:=by
 match L,h with
 | [_,_,_,_,_,_,_,_,_,_,_,_,_,_,_,_],_=>rfl
end
section
theorem B6l(a:Fp×Fp×Fp){N:Nat}(hN:N=64):K2 Tryz.prog 44 [.v (.a (M5 a))] (.v (.c (.sl (.ptt (tbL a N))))) []:=by
 refine H2 (fn:=Tryz.f44) (c:=B5 Tryz.f44) Tryz.func44 rfl rfl fun x0 a0 hk hF hs=>?_
 refine mv a trivial hs fun ac cY aY hs1=>?_
 have hs2:=hs1.nilRow (p:=17) (q:=.ptt []) rfl A4 rfl (ml' := [16,17]) (ens' := [some (.fl (M5 a)),some (.sq (.ptt []))]) (fun r=>UP A4)
  (svs' := [.v (.c (.ptr 16 0)),.v (.c (.slc 17 0 0 288)),.v (.c (.int .i64 0))]) ⟨.inl rfl,.inr ⟨288,rfl,rfl⟩,.inl rfl,C4⟩
 have hmax:65<=maxLen:=by decide
 change Wq Tryz.prog _ _ _ _ _ (G4 cY 17).w
 refine C5 (ι:={ i:Nat // i<=N }) (fun i=>mvS (baT E7 a i.1) (tbL a i.1) i.1 (i.1:Int)) (fun i=>N-i.1) (c:=X5 A0f) (k:=X8 A0f) (by kernel_rfl) (fun i ih ac cY aY hs=>?_) ⟨0,Nat.zero_le _⟩ (hs2.nx _)
 obtain ⟨i,hi⟩:=i;simp only at ih hs
 by_cases h:i<N
 ·have hnext:baT E7 a (i+1)=jpl (LW E7 (baT E7 a i) 15) (baT E7 a i):=rfl
  have htab:=C0y a i;have hlen:=WA a i;have ih2:=ih ⟨i+1,h⟩ (by show N-(i+1)<N-i;omega)
  dsimp only at ih2;rw[hnext,htab] at ih2;clear ih hnext htab;generalize baT E7 a i=o at hs ih2;generalize tbL a i=R at hs ih2 hlen;refine mvA o R i i ⟨decide_eq_true (by omega),C4⟩ hs fun ac cU aU hs3=>?_
  have hs4:=hs3.blocks (ens' := [some (.fl (M5 o)),some (.sq (.ptt R)),some (.sq (.pt (List.replicate 16 E7)))])
   ⟨.inl rfl,.inl rfl,.inr ⟨_,_,_,rfl,rfl,rfl,fun cs h=>D0s _ rfl cs h⟩,C4⟩
  refine C5 (ι:={ p:Nat×List (Fp×Fp×Fp) // 1<=p.1∧p.1<=16∧p.2.length=16∧∀j,j<p.1->p.2.getD j E7=LW E7 o j }) (fun p=>mvT o R i i p.1.2 (p.1.1:Int)) (fun p=>16-p.1.1) (c:=X5 Qe) (k:=X8 Qe) (by kernel_rfl) (fun p ih ac cY aY hs=>?_)
   ⟨(1,List.replicate 16 E7),Nat.le_refl _,A4,rfl,fun j hj=>by
    obtain rfl:j=0:=by have hj:j<1:=hj;omega
    rfl⟩ (hs4.nx _)
  obtain ⟨⟨d,L⟩,hd1,hd16,hL,hg⟩:=p;simp only at ih hs hd1 hd16 hL hg
  by_cases hd:d<16
  ·have ed:(wrap IntKind.i64 ((d:Int)-1))=((d-1:Nat):Int):=by rw[A9 (by omega) (by omega)];omega
   have ed2:(wrap IntKind.i64 ((d:Int)+1))=((d+1:Nat):Int):=by rw[A9 (by omega) (by omega)];rfl
   refine mvB o R i i L d ⟨decide_eq_true (by omega),by rw[ed];omega,by rw[ed];omega,rfl,by rw[ed,Int.toNat_natCast];omega,by omega,by omega,rfl,by rw[Int.toNat_natCast];omega,C4⟩ hs fun ac cV aV hs5=>?_
   rw[ed,ed2,Int.toNat_natCast,Int.toNat_natCast,hg (d-1) (by omega)] at hs5
   have er:jpl (LW E7 o (d-1)) o=LW E7 o d:=by
    obtain ⟨e,rfl⟩:∃e,d=e+1:=⟨d-1,by omega⟩
    rfl
   rw[er] at hs5;refine ih ⟨(d+1,L.set d (LW E7 o d)),by show 1<=d+1;omega,hd,(List.length_set ..).trans hL,fun j hj=>?_⟩ (by show 16-(d+1)<16-d;omega) ac cV aV (hs5.nx _)
   have hj:j<d+1:=hj;show (L.set d _).getD j E7=_;rw[Gg _ _ _ _ _ (by omega)]
   by_cases e:j=d
   ·subst e;rw[if_pos rfl]
   ·rw[if_neg e];exact hg j (by omega)
  ·obtain rfl:d=16:=by omega
   have eL:L=rwL o:=C8k hL hg;have h15:=Wi o (d:=15) A4;have h16:=Wj o;rw[<-eL] at ih2 h15 h16;have hs5:=hs.rows (ens' := [some (.fl (M5 o)),some (.sq (.ptt R)),some (.sq (.ptt [L]))])
    ⟨.inl rfl,.inl rfl,.inr ⟨_,_,rfl,rfl,fun h=>by have h:L.length=0:=h;omega,fun cs h=>D4i L h16 cs h⟩,C4⟩
   refine mvC o R i i L 16 ⟨A4,A4,by omega,by omega,by omega,rfl,C4⟩ (hs5.nx _) fun ac cV aV hs6=>?_
   rw[B1i h16] at hs6;have hs7:=hs6.rows (ens' := [some (.fl (M5 o)),some (.sq (.ptt (R++[L]))),some (.sq (.pt L))])
    ⟨.inl rfl,.inl rfl,.inr ⟨_,_,rfl,rfl,fun h=>Nat.noConfusion (show 1=0 from h),fun cs h=>D4j L h16 cs h⟩,C4⟩
   have hs8:Sim x0.w x0.F AD ac (mvV o R i i L 16) cV aV:=by
    unfold mvV;rw[B1i h16];exact hs7
   refine mvD o R i i L 16 ⟨A4,A4,rfl,by omega,C4⟩ hs8 fun ac cW aW hs9=>?_
   rw[B1i h16,h15,A9 (n:=(i:Int)+1) (by omega) (by omega),hlen] at hs9
   exact ih2 ac cW aW (hs9.nx _)
 ·obtain rfl:i=N:=by omega
  exact H4 Bq hk hF (C5m _ _ _ _) ⟨decide_eq_false (by omega),(WA a i).symm,C4⟩ (fun y v hd=>hd) hs
end
section
section
variable {w0:World} {F0:Nat->Prop} {K:Kp} {ac:List Act} {Q:Exit->Act->World->Prop} {cX:C0} {aX:Act}
def A0v:List KI:=(run qtG false 3000 ((fun (T:List (List (Fp×Fp×Fp))) (k:U4)=>(⟨[.code (B5 Tryz.f45)],.normal,D2 Tryz.f45.ntmps [.v (.c (.sl (.ptt T))),.v (.a [.ob (.fr k)])]⟩:G5)) default default) []).cfg.k
theorem pc(T:List (List (Fp×Fp×Fp)))(k:U4):let b:=B9 [(.ob (.p (0:Fp))),(.ob (.p (0:Fp))),(.ob (.p (0:Fp)))];A5 []->Sg Tryz.prog (D2 Tryz.f45.ntmps [.v (.c (.sl (.ptt T))),.v (.a [.ob (.fr k)])]) (B0 30 [3,4,5,8,9,10] [.pt 16 0,.pt 32 0,.pt 48 0,(.ci (.sl (Sq.ptt T))),(.ii (T.length:Int)),.ii 0] [16,32,48] [(B9 [.ob (.fr k)]),b,b] 112 [] []) .normal (A0v) ([.code (B5 Tryz.f45)]):=E4 false 3000 [] Bq
def pcS(T:List (List (Fp×Fp×Fp)))(k:U4)(o:Fp×Fp×Fp)(i:Int):St:=B0 30 [3,4,5,8,9,10] [.pt 16 0,.pt 32 0,.pt 48 0,(.ci (.sl (Sq.ptt T))),(.ii (T.length:Int)),.v (.c (.int .i64 i))] [16,32,48] [(B9 [.ob (.fr k)]),(B9 [(.ob (.p (0:Fp))),(.ob (.p (0:Fp))),(.ob (.p (0:Fp)))]),some (.fl [.ob (.p o.1),.ob (.p o.2.1),.ob (.p o.2.2)])] 112 [] []
def D0m:List KI:=(run qtG false 18 ((fun (T:List (List (Fp×Fp×Fp))) (k:U4) (o:Fp×Fp×Fp) (i:Int)=>(⟨B7 A0v,.normal,pcS T k o i⟩:G5)) default default default default) [true]).cfg.k
theorem pcA(T:List (List (Fp×Fp×Fp)))(k:U4)(o:Fp×Fp×Fp)(i:Int):let a:=List.getD T (i).toNat ([]:List (Prod Fp (Prod Fp Fp)));let b:=List.getD a 10 E7;let c:=List.getD a 11 E7;let d:=List.getD a 12 E7;let f:=List.getD a 13 E7;let g:=List.getD a 14 E7;let h:=List.getD a 15 E7;let j:=List.getD a 0 E7;let l:=List.getD a 1 E7;let m:=List.getD a 2 E7;let n:=List.getD a 3 E7;let q:=List.getD a 4 E7;let r:=List.getD a 5 E7;let s:=List.getD a 6 E7;let t:=List.getD a 7 E7;let u:=List.getD a 8 E7;let v:=List.getD a 9 E7;let w:Int:=T.length;A5 [((decide (i<w))=true),(0<=i),(i<w)]->Sg Tryz.prog (pcS T k o i) (B0 30 [3,4,5,6,7,8,9,10] [.pt 16 0,.pt 32 0,.pt 48 0,.ii i,.pt 176 0,(.ci (.sl (Sq.ptt T))),(.ii w),.ii i] [16,32,48,176] [(B9 [.ob (.fr k)]),(B9 [(.ob (.p (0:Fp))),(.ob (.p (0:Fp))),(.ob (.p (0:Fp)))]),(B9 [(.ob (.p (Prod.fst o))),(.ob (.p (Prod.fst (Prod.snd o)))),(.ob (.p (Prod.snd (Prod.snd o))))]),(B9 [(.ob (.p (Prod.fst j))),(.ob (.p (Prod.fst (Prod.snd j)))),(.ob (.p (Prod.snd (Prod.snd j)))),(.ob (.p (Prod.fst l))),(.ob (.p (Prod.fst (Prod.snd l)))),(.ob (.p (Prod.snd (Prod.snd l)))),(.ob (.p (Prod.fst m))),(.ob (.p (Prod.fst (Prod.snd m)))),(.ob (.p (Prod.snd (Prod.snd m)))),(.ob (.p (Prod.fst n))),(.ob (.p (Prod.fst (Prod.snd n)))),(.ob (.p (Prod.snd (Prod.snd n)))),(.ob (.p (Prod.fst q))),(.ob (.p (Prod.fst (Prod.snd q)))),(.ob (.p (Prod.snd (Prod.snd q)))),(.ob (.p (Prod.fst r))),(.ob (.p (Prod.fst (Prod.snd r)))),(.ob (.p (Prod.snd (Prod.snd r)))),(.ob (.p (Prod.fst s))),(.ob (.p (Prod.fst (Prod.snd s)))),(.ob (.p (Prod.snd (Prod.snd s)))),(.ob (.p (Prod.fst t))),(.ob (.p (Prod.fst (Prod.snd t)))),(.ob (.p (Prod.snd (Prod.snd t)))),(.ob (.p (Prod.fst u))),(.ob (.p (Prod.fst (Prod.snd u)))),(.ob (.p (Prod.snd (Prod.snd u)))),(.ob (.p (Prod.fst v))),(.ob (.p (Prod.fst (Prod.snd v)))),(.ob (.p (Prod.snd (Prod.snd v)))),(.ob (.p (Prod.fst b))),(.ob (.p (Prod.fst (Prod.snd b)))),(.ob (.p (Prod.snd (Prod.snd b)))),(.ob (.p (Prod.fst c))),(.ob (.p (Prod.fst (Prod.snd c)))),(.ob (.p (Prod.snd (Prod.snd c)))),(.ob (.p (Prod.fst d))),(.ob (.p (Prod.fst (Prod.snd d)))),(.ob (.p (Prod.snd (Prod.snd d)))),(.ob (.p (Prod.fst f))),(.ob (.p (Prod.fst (Prod.snd f)))),(.ob (.p (Prod.snd (Prod.snd f)))),(.ob (.p (Prod.fst g))),(.ob (.p (Prod.fst (Prod.snd g)))),(.ob (.p (Prod.snd (Prod.snd g)))),(.ob (.p (Prod.fst h))),(.ob (.p (Prod.fst (Prod.snd h)))),(.ob (.p (Prod.snd (Prod.snd h))))])] 224 [] []) .normal (D0m) (B7 A0v):=E4 false 18 [true] Bq
theorem C6y(T:List (List (Fp×Fp×Fp)))(k:U4)(o:Fp×Fp×Fp)(i:Int):E2 qtG Tryz.f45 false 3000 (⟨B7 A0v,.normal,pcS T k o i⟩) [false] [] []=(some ([((decide (i<(T.length:Int)))=false)],((.v (.a [(.ob (.p (Prod.fst o))),(.ob (.p (Prod.fst (Prod.snd o)))),(.ob (.p (Prod.snd (Prod.snd o))))])),[]))):=by kernel_rfl
def pcT(T:List (List (Fp×Fp×Fp)))(k:U4)(o:Fp×Fp×Fp)(i:Int)(L:List (Fp×Fp×Fp)):St:=B0 30 [3,4,5,6,7,8,9,10] [.pt 16 0,.pt 32 0,.pt 48 0,.ii i,.pt 176 0,(.ci (.sl (Sq.ptt T))),(.ii (T.length:Int)),.ii i] [16,32,48,176] [(B9 [.ob (.fr k)]),(B9 [(.ob (.p (0:Fp))),(.ob (.p (0:Fp))),(.ob (.p (0:Fp)))]),(B9 [(.ob (.p (Prod.fst o))),(.ob (.p (Prod.fst (Prod.snd o)))),(.ob (.p (Prod.snd (Prod.snd o))))]),some (.sq (.pt L))] 224 [] []
theorem pcB(T:List (List (Fp×Fp×Fp)))(k:U4)(o:Fp×Fp×Fp)(i:Int)(L:List (Fp×Fp×Fp)):let f:Int:=16;let b:=wrap .i64 (Int.tdiv i f);let d:=wrap .i64 ((4:Int)*(Int.tmod i f));let a:=E1 BinOp.and IntKind.u64 (Int.fdiv (A1 (Ob.n (.fr k)) (0+((b).toNat*1))) ((2:Int) ^ (Min.min (d).toNat 64))) (15:Int);let c:=jpl o (List.getD L (a).toNat E7);A5 [(f≠(0:Int)),(0<=b),(b<(4:Int)),((0+((b).toNat*1))<(Ob.k (.fr k))),(f≠(0:Int)),(0<=d),(0<=a),(a<f),(0=0),((a).toNat<L.length)]->Sg Tryz.prog (pcT T k o i L) (B0 30 [3,4,5,8,9,10] [.pt 16 0,.pt 32 0,.pt 48 0,(.ci (.sl (Sq.ptt T))),(.ii (T.length:Int)),(.ii (wrap .i64 (i+1)))] [16,32,48] [(B9 [.ob (.fr k)]),(B9 [(.ob (.p (0:Fp))),(.ob (.p (0:Fp))),(.ob (.p (0:Fp)))]),(B9 [(.ob (.p (Prod.fst c))),(.ob (.p (Prod.fst (Prod.snd c)))),(.ob (.p (Prod.snd (Prod.snd c))))])] 480 [] []) .normal (D4 A0v) (D0m):=E4 false 3000 [] Bq
end
end
section
theorem A7q(k:U4){i:Nat}(hi:i<64):E1 BinOp.and IntKind.u64 (Int.fdiv (A1 (Ob.n (Ob.fr k)) (0+(((wrap IntKind.i64 (Int.tdiv (i:Int) (16:Int)))).toNat*1))) ((2:Int) ^ (Min.min ((wrap IntKind.i64 ((4:Int)*(Int.tmod (i:Int) (16:Int))))).toNat 64))) (15:Int)=((k.val / 16 ^ i % 16:Nat):Int):=by
 have e1:Int.tdiv (i:Int) (16:Int)=((i / 16:Nat):Int):=Int.tdiv_eq_ediv_of_nonneg (by omega)
 have e2:Int.tmod (i:Int) (16:Int)=((i % 16:Nat):Int):=Int.tmod_eq_emod_of_nonneg (by omega)
 rw[e1,e2,A9 (n:=((i / 16:Nat):Int)) (by omega) (by omega),A9 (n:=(4:Int)*((i % 16:Nat):Int)) (by omega) (by omega),Int.toNat_natCast]
 have e3:Min.min ((4:Int)*((i % 16:Nat):Int)).toNat 64=4*(i % 16):=by omega
 have e4:0+i / 16*1=i / 16:=by omega
 rw[e3,e4];have hl:A1 (Ob.n (Ob.fr k)) (i / 16)=((k.val / 2 ^ (64*(i / 16)) % 18446744073709551616:Nat):Int):=rfl;rw[hl,<-A3p k.val i];generalize k.val / 2 ^ (64*(i / 16)) % 18446744073709551616=m;have hp:((2:Int) ^ (4*(i % 16)))=((2 ^ (4*(i % 16)):Nat):Int):=by simp
 rw[hp,Int.fdiv_eq_ediv_of_nonneg _ (Int.natCast_nonneg _),<-Int.natCast_ediv,C9x]
def pkL(T:List (List (Fp×Fp×Fp)))(v:Nat):Nat->Fp×Fp×Fp
 | 0=>E7
 | i+1=>jpl (pkL T v i) ((T.getD i []).getD (v / 16 ^ i % 16) E7)
theorem B8p(a:Fp×Fp×Fp)(v n:Nat):∀i,i<=n->pkL (tbL a n) v i=pkT E7 a v i
 | 0,_=>rfl
 | i+1,h=>by
  show jpl (pkL (tbL a n) v i) (((tbL a n).getD i []).getD (v / 16 ^ i % 16) E7)=jpl (pkT E7 a v i) (LW E7 (baT E7 a i) (v / 16 ^ i % 16));rw[B8p a v n i (by omega),A6g a (by omega),Wi _ (Nat.mod_lt _ A4)]
theorem B8m(T:List (List (Fp×Fp×Fp)))(k:U4){N:Nat}(hN:N=64)(hlen:T.length=N)(h16:∀i,i<N->(T.getD i []).length=16):K2 Tryz.prog 45 [.v (.c (.sl (.ptt T))),.v (.a [.ob (.fr k)])] (.v (.a (M5 (pkL T k.val N)))) []:=by
 refine H2 (fn:=Tryz.f45) (c:=B5 Tryz.f45) Tryz.func45 rfl rfl fun x0 a0 hk hF hs=>?_
 refine pc T k trivial hs fun ac cY aY hs1=>?_
 refine C5 (ι:={ i:Nat // i<=N }) (fun i=>pcS T k (pkL T k.val i.1) (i.1:Int)) (fun i=>N-i.1) (c:=X5 A0v) (k:=X8 A0v) (by kernel_rfl) (fun i ih ac cY aY hs=>?_) ⟨0,Nat.zero_le _⟩ (hs1.nx _)
 obtain ⟨i,hi⟩:=i;simp only at ih hs
 by_cases h:i<N
 ·have hnext:pkL T k.val (i+1)=jpl (pkL T k.val i) ((T.getD i []).getD (k.val / 16 ^ i % 16) E7):=rfl
  have hdl:k.val / 16 ^ i % 16<16:=Nat.mod_lt _ A4;have h16:=h16 i h;have hdig:=A7q k (i:=i) (by omega)
  have hpl:=SJ (i:=i) (by omega)
  have hsh:=SK i;have ih2:=ih ⟨i+1,h⟩ (by show N-(i+1)<N-i;omega)
  dsimp only at ih2;rw[hnext] at ih2;clear ih hnext;generalize pkL T k.val i=o at hs ih2;refine pcA T k o i ⟨decide_eq_true (by omega),by omega,by omega,C4⟩ hs fun ac cU aU hs3=>?_
  rw[Int.toNat_natCast] at hs3;generalize T.getD i []=L at ih2 h16 hs3;have hs4:=hs3.blocks (ens' := [some (.fl [.ob (.fr k)]),some (.fl (M5 E7)),some (.fl (M5 o)),some (.sq (.pt L))])
   ⟨.inl rfl,.inl rfl,.inl rfl,.inr ⟨_,_,_,rfl,rfl,rfl,fun cs h=>D0s L h16 cs h⟩,C4⟩
  refine pcB T k o i L ⟨A4,by rw[hpl];omega,by rw[hpl];omega,by rw[hpl,Int.toNat_natCast];show 0+i / 16*1<4;omega,A4,hsh,by rw[hdig];omega,by rw[hdig];omega,rfl,by rw[hdig,Int.toNat_natCast];omega,C4⟩ hs4 fun ac cV aV hs5=>?_
  rw[hdig,Int.toNat_natCast,A9 (n:=(i:Int)+1) (by omega) (by omega)] at hs5
  exact ih2 ac cV aV (hs5.nx _)
 ·obtain rfl:i=N:=by omega
  generalize pkL T k.val i=o at hs ⊢
  exact H4 Bq hk hF (C6y _ _ _ _) ⟨decide_eq_false (by omega),C4⟩ (fun y v hd=>hd) hs
end
section
section
variable {w0:World} {F0:Nat->Prop} {K:Kp} {ac:List Act} {Q:Exit->Act->World->Prop} {cX:C0} {aX:Act}
def pvA:D6:=qeI.or S4.gK
theorem Ie:A7 Tryz.prog pvA:=FD FW S4.A4f
theorem Vo (v : Value) (w : World) : (method (Tryz.prog.types.size + Made.depth) 86 v "Times").run Tryz.prog w = .ok (27, v) w := by kernel_rfl
def D2a (T : Nat → Option (List (String × Nat))) (t : Nat) : Option (List (String × Nat)) := if t = 86 then some [("Times", 27)] else T t
def pvB:D6:={ pvA with inv:=D2a pvA.inv }
theorem Ig:A7 Tryz.prog pvB:=by
 refine ⟨Ie.ty,Ie.mixed,Ie.fn,Ie.mu,Ie.inl,Ie.ex,fun t l h=>?_⟩
 have h:D2a pvA.inv t=some l:=h;unfold D2a at h;split at h
 ·rename_i ht
  cases h
  subst ht;refine ⟨by kernel_rfl,fun name g hg v args w=>?_⟩
  unfold BB at hg;split at hg
  ·rename_i hn
   cases hg
   subst hn;simp only[callMethod,Sem.run_bind,run_program,Result.andThen_ok,Vo]
  cases hg
 ·exact Ie.inv t l h
def pzS(a:Fr)(e:List Int)(o:Fr):St:=B0 23 [3,6,7,11] [.pt 16 0,.pt 48 0,.pt 80 0,(.ci (.clo 95 [(128,0)]))] [16,48,80,128] [(B9 [.ob (.s a)]),(B9 [(.ob (.s (0:Fr)))]),some (.fl [.ob (.s o)]),(B9 [.sl (.u64 e)])] 192 [] []
def VT:List KI:=(run pvB false 3000 (⟨[.code (B5 Tryz.f32)],.normal,D2 Tryz.f32.ntmps [.v (.a [.ob (.s dF)]),.v (.a [.ob (.s 1)]),.v (.c (.sl (.u64 dF)))]⟩:G5) []).cfg.k
theorem pz(a:Fr)(e:List Int):A5 []->Sg Tryz.prog (D2 Tryz.f32.ntmps [.v (.a [.ob (.s a)]),.v (.a [.ob (.s 1)]),.v (.c (.sl (.u64 e)))]) (pzS a e (1:Fr)) .normal (VT) ([.code (B5 Tryz.f32)]):=E4 false 3000 [] Ig
def pzB(a:Fr)(e:List Int)(o:Fr)(z:Bool):St:=B0 23 [3,6,7,8] [.pt 16 0,.pt 48 0,.pt 80 0,(.ci (.bool z))] [16,48,80,128] [(B9 [.ob (.s a)]),(B9 [(.ob (.s (0:Fr)))]),some (.fl [.ob (.s o)]),(B9 [.sl (.u64 e)])] 208 [[3,6,7,11]] [([.pt 16 0,.pt 48 0,.pt 80 0,(.ci (.clo 95 [(128,0)]))],23)]
theorem pzA(a:Fr)(e:List Int)(o:Fr)(z:Bool){ρ:Option Nat}(ho:A5 [])(hs:Sim w0 F0 K ac (Y6 (pzS a e o) [(12,.v (.c (.bool z)))]) cX aX)(hK:∀cY aY,Sim w0 F0 K ac (pzB a e o z) cY aY->Wq Tryz.prog Q ([]) ac Exit.normal aY cY.w ρ):Wq Tryz.prog Q ([.code (rfA VT)]) ac .normal aX cX.w ρ :=
 J5 (unroll:=false) (n:=3000) (path:=[]) (o:=⟨_,_,_,_,_,_,_⟩) Ig (by kernel_rfl) (by kernel_rfl) ho (by kernel_rfl) (by kernel_rfl) hs hK
def pzE(a:Fr)(e:List Int)(o:Fr):St:=B0 23 [6] [.pt 48 0] [16,48,80,128] [(B9 [.ob (.s a)]),(B9 [(.ob (.s (0:Fr)))]),some (.fl [.ob (.s o)]),(B9 [.sl (.u64 e)])] 384 [[3,6,7,11]] [([.pt 16 0,.pt 48 0,.pt 80 0,(.ci (.clo 95 [(128,0)]))],23)]
theorem pzC(a:Fr)(e:List Int)(o:Fr)(z:Bool){ρ:Option Nat}(ho:A5 [(z=true)])(hs:Sim w0 F0 K ac (pzB a e o z) cX aX)(hK:∀cY aY,Sim w0 F0 K ac (pzE a e ((o*o)*a)) cY aY->Wq Tryz.prog Q ([]) ac Exit.normal aY cY.w ρ):Wq Tryz.prog Q ([.code (rfB VT)]) ac .normal aX cX.w ρ :=
 J5 (unroll:=false) (n:=3000) (path:=[true]) (o:=⟨_,_,_,_,_,_,_⟩) Ig (by kernel_rfl) (by kernel_rfl) ho (by kernel_rfl) (by kernel_rfl) hs hK
theorem pzD(a:Fr)(e:List Int)(o:Fr)(z:Bool){ρ:Option Nat}(ho:A5 [(z=false)])(hs:Sim w0 F0 K ac (pzB a e o z) cX aX)(hK:∀cY aY,Sim w0 F0 K ac (St.z (pzE a e (o*o)) 304) cY aY->Wq Tryz.prog Q ([]) ac Exit.normal aY cY.w ρ):Wq Tryz.prog Q ([.code (rfB VT)]) ac .normal aX cX.w ρ :=
 J5 (unroll:=false) (n:=3000) (path:=[false]) (o:=⟨_,_,_,_,_,_,_⟩) Ig (by kernel_rfl) (by kernel_rfl) ho (by kernel_rfl) (by kernel_rfl) hs hK
def pzZ(o:Fr):St:=B0 23 [6] [.pt 48 0] [48] [some (.fl [.ob (.s o)])] 224 [] []
theorem pzX(a:Fr)(e:List Int)(o:Fr):A5 []->Sg Tryz.prog (pzS a e o) (pzZ o) .ret ([]) (rfR VT):=E4 false 3000 [] Ig
theorem C7k(o:Fr):E2 pvB Tryz.f32 false 3000 (⟨[],.ret,pzZ o⟩) [] [] []=(some ([],((.v (.a [.ob (.s o)])),[]))):=by kernel_rfl
end
end
section
theorem C7j(a:Fr)(l:List Bool)(z:Bool):pw a (pv (l++[z]))=if z=true then pw a (pv l)*pw a (pv l)*a else pw a (pv l)*pw a (pv l):=by
 rw[VS,Nat.two_mul]
 cases z with
 | true=>
  rw[if_pos rfl,<-R9];rfl
 | false=>
  rw[if_neg A4,<-R9];rfl
theorem QF(a:Fr)(e:List Int)(hl:e.length<=16)(hlim:Dy e) :
  K2 Tryz.prog 32 [.v (.a [.ob (.s a)]),.v (.a [.ob (.s 1)]),.v (.c (.sl (.u64 e)))] (.v (.a [.ob (.s (pw a (V8 e)))])) []:=by
 refine BY (fn:=Tryz.f32) (c:=B5 Tryz.f32) Tryz.func32 rfl rfl fun x b hk hF hs=>?_
 refine pz a e trivial hs fun ac cY aY hs1=>?_
 obtain ⟨e1,e2⟩:=GG (k:=VT) (by kernel_rfl)
 rw[e1];have eP:(rfP VT).toList=[12]:=by kernel_rfl
 have eG:rfG VT = .tmp 11:=by kernel_rfl
 refine Cm (ps:=rfP VT) e2 hs1 (gf:=95) (caps:=[(128,0)]) (A2 Tryz.func95 rfl rfl) (fun pre=>pzS a e (pw a (pv pre))) (fun s=>by rw[eG];rfl) ⟨_,rfl⟩ (btL (V8 e) (U1 e e.length) (U1 e e.length)) B1y A3a
  (fun y z=>.cons ⟨rfl,0,rfl⟩ .nil) (fun z=>by rw[<-Array.length_toList,eP];rfl) (fun pre p hp=>?_) (Sm hl hlim fun s=>rfl) (fun pre z=>pzB a e (pw a (pv pre)) z)
  (fun pre z=>pzE a e (pw a (pv (pre++[z])))) (fun pre z=>⟨_,rfl⟩) (fun pre z hz w1 F1 K1 as1 Q1 l y b hs2 hQ=>?_) (fun pre z hz w1 F1 K1 as1 Q1 l y b hs2 hQ=>?_) fun D y hs2 hD hFD hd=>?_
 ·rw[eP] at hp
  have h23:(pzS a e (pw a (pv pre))).nt=23:=rfl;rw[h23];simp only[List.mem_cons,List.not_mem_nil,or_false] at hp;subst hp;decide
 ·rw[eP] at hs2
  exact pzA a e _ z trivial hs2 fun cZ aZ hs3=>⟨hQ _ _ (hs3.nx _)⟩
 ·rw[C7j] at hQ
  cases z with
  | true=>exact pzC a e _ true ⟨rfl,C4⟩ hs2 fun cZ aZ hs3=>⟨hQ _ _ (hs3.nx _)⟩
  | false=>exact pzD a e _ false ⟨rfl,C4⟩ hs2 fun cZ aZ hs3=>⟨hQ _ _ (hs3.nx _)⟩
 ·have hs3:=hs2.marked rfl rfl D
  have hN:V8 e<2 ^ U1 e e.length:=by
   have:=A5g hlim e.length (Nat.le_refl _)
   rwa [List.take_length] at this
  rw[VR hN _ (Nat.le_refl _),Nat.sub_self,Nat.pow_zero,Nat.div_one] at hs2 hs3;generalize pw a (V8 e)=o at hs2 hs3 ⊢
  refine pzX a e o trivial hs3 fun ac cV aV hs6=>⟨?_⟩
  have hs7:Sim y.w y.F (BM y AD (AK D)) ac (pzZ o) cV aV:=hs6;exact Ec Ig hk hF (C7k o) trivial (fun y v hd=>hd) hs2 hD hFD hd rfl hs7
end
section
theorem Yr(a u:Fr)(e:List Int)(hu:u=1)(hl:e.length<=16)(hlim:Dy e) :
  K2 Tryz.prog 32 [.v (.a [.ob (.s a)]),.v (.a [.ob (.s u)]),.v (.c (.sl (.u64 e)))] (.v (.a [.ob (.s (pw a (V8 e)))])) []:=by
 subst hu;exact QF a e hl hlim
def Ib:B2
 | [.v (.a [.ob (.s a)]),.v (.a [.ob (.s u)]),.v (.c (.sl (.u64 e)))]=>some ([u=1,e.length<=16,Dy e],.v (.a [.ob (.s (pw a (V8 e)))]),[])
 | _=>none
def pvC:D6:=pvB.set (E0 pvB.fn 32 Ib)
theorem B9c:A7 Tryz.prog pvC:=A8 Ig 32 Ib (A2 Tryz.func32 rfl rfl) fun args o r es h ho=>by
 unfold Ib at h;split at h
 ·cases h;exact Yr _ _ _ ho.1 ho.2.1 ho.2.2.1
 ·cases h
theorem sm1  : C2 pvC Tryz.f30 3000 [.v (.c (.int .u64 1))] [] [] []=(some ([(0<=(1:Int)),((1:Int)<(18446744073709551616:Int)),(0<=(0:Int)),(0<(18446744073709551616:Int)),(0<=(0:Int)),(0<(18446744073709551616:Int)),(0<=(0:Int)),(0<(18446744073709551616:Int))],((.v (.a [(.ob (.s (S4.E8 (Fin.ofNat B4 1))))])),[]))):=by kernel_rfl
theorem A1z{n:Int}(h:n=1):K2 Tryz.prog 30 [.v (.c (.int .u64 n))] (.v (.a [.ob (.s 1)])) []:=by
 subst h;have r:=sm1;rw[show S4.E8 (Fin.ofNat B4 1)=1 from by decide +kernel] at r
 exact A6 B9c Tryz.func30 r ⟨A4,A4,A4,A4,A4,A4,A4,A4,C4⟩
def Iy:B2
 | [.v (.c (.int .u64 n))]=>some ([n=1],.v (.a [.ob (.s 1)]),[])
 | _=>none
def pvD:D6:=pvC.set (E0 pvC.fn 30 Iy)
theorem B9d:A7 Tryz.prog pvD:=A8 B9c 30 Iy (A2 Tryz.func30 rfl rfl) fun args o r es h ho=>by
 unfold Iy at h;split at h
 ·cases h;exact A1z ho.1
 ·cases h
theorem sml  : C2 pvD Tryz.f24 3000 [.v (.c (.int .i64 1))] [false] [] []=(some ([((decide ((1:Int)<(0:Int)))=false),((1:Int)=(1:Int))],((.v (.a [(.ob (.fr (S4.E6 (1:Fr))))])),[]))):=by kernel_rfl
end
section
theorem C8q{n:Int}(h:n=1):K2 Tryz.prog 24 [.v (.c (.int .i64 n))] (.v (.a [.ob (.fr (S4.E6 1))])) []:=by
 subst h;exact A6 B9d Tryz.func24 sml ⟨rfl,rfl,C4⟩
end
section
section
variable {w0:World} {F0:Nat->Prop} {K:Kp} {ac:List Act} {Q:Exit->Act->World->Prop} {cX:C0} {aX:Act}
def peA:D6:=pvD.or qtG
theorem D3y:A7 Tryz.prog peA:=FD B9d Bq
theorem A6f(a:Fp×Fp×Fp):∃T,T=tbL a 64:=⟨_,rfl⟩
def Me(a:Fp×Fp×Fp):List (List (Fp×Fp×Fp)):=Classical.choose (A6f a)
theorem NP(a:Fp×Fp×Fp):Me a=tbL a 64:=Classical.choose_spec (A6f a)
theorem A8y(a:Fp×Fp×Fp):K2 Tryz.prog 44 [.v (.a (M5 a))] (.v (.c (.sl (.ptt (Me a))))) []:=by
 rw[NP];exact B6l a (Eq.refl 64)
def Qd:B2
 | [.v (.a [.ob (.p a),.ob (.p b),.ob (.p c)])]=>some ([],.v (.c (.sl (.ptt (Me (a,b,c))))),[])
 | _=>none
def peB:D6:=peA.set (E0 peA.fn 44 Qd)
theorem D3z:A7 Tryz.prog peB:=A8 D3y 44 Qd (A2 Tryz.func44 rfl rfl) fun args o r es h _=>by
 unfold Qd at h;split at h
 ·cases h;exact A8y (_,_,_)
 ·cases h
def Wb(T:List (List (Fp×Fp×Fp))):Prop:=∀i,i<64->(T.getD i []).length=16
theorem A9k(T:List (List (Fp×Fp×Fp)))(k:U4)(h:T.length=64∧Wb T):K2 Tryz.prog 45 [.v (.c (.sl (.ptt T))),.v (.a [.ob (.fr k)])] (.v (.a (M5 (pkL T k.val 64)))) []:=B8m T k (Eq.refl 64) h.1 h.2
def Qz:B2
 | [.v (.c (.sl (.ptt T))),.v (.a [.ob (.fr k)])]=>some ([T.length=64,Wb T],.v (.a (M5 (pkL T k.val 64))),[])
 | _=>none
def peC:D6:=peB.set (E0 peB.fn 45 Qz)
theorem D4a:A7 Tryz.prog peC:=A8 D3z 45 Qz (A2 Tryz.func45 rfl rfl) fun args o r es h ho=>by
 unfold Qz at h;split at h
 ·cases h;exact A9k _ _ ⟨ho.1,ho.2.1⟩
 ·cases h
def ET:B2
 | [.v (.c (.int .i64 n))]=>some ([n=1],.v (.a [.ob (.fr (S4.E6 1))]),[])
 | _=>none
def peD:D6:=peC.set (E0 peC.fn 24 ET)
theorem D4b:A7 Tryz.prog peD:=A8 D4a 24 ET (A2 Tryz.func24 rfl rfl) fun args o r es h ho=>by
 unfold ET at h;split at h
 ·cases h;exact C8q ho.1
 ·cases h
def peE:D6:=peD
theorem HY:A7 Tryz.prog peE:=D4b
theorem pqA(a:G0)(k:U4)(n:Int):C2 peE Tryz.f16 3000 [.v (.a a.its),.v (.a [.ob (.fr k)]),.v (.c (.int .i64 n))] [true,true] [] []=(some ([((decide (n<(0:Int)))=true)],((.t [(.c (.val (Value.slice Option.none 0 0))),(.c (.int .i64 1))]),[]))):=by kernel_rfl
theorem pqB(a:G0)(k:U4)(n:Int):C2 peE Tryz.f16 3000 [.v (.a a.its),.v (.a [.ob (.fr k)]),.v (.c (.int .i64 n))] [false,true] [] []=(some ([((decide (n<(0:Int)))=false),((decide (n > (4096:Int)))=true)],((.t [(.c (.val (Value.slice Option.none 0 0))),(.c (.int .i64 1))]),[]))):=by kernel_rfl
theorem pqC(a:G0)(k:U4)(n:Int):C2 peE Tryz.f16 3000 [.v (.a a.its),.v (.a [.ob (.fr k)]),.v (.c (.int .i64 n))] [false,false,true] [] []=(some ([((decide (n<(0:Int)))=false),((decide (n > (4096:Int)))=false),((Bool.not (onG a))=true)],((.t [(.c (.val (Value.slice Option.none 0 0))),(.c (.int .i64 30))]),[]))):=by kernel_rfl
def TP:List KI:=(run peE false 3000 (⟨[.code (B5 Tryz.f16)],.normal,D2 Tryz.f16.ntmps [.v (.a [.ob (.fp dF),.ob (.fp dF),.bool dF]),.v (.a [.ob (.fr dF)]),.v (.c (.int .i64 dF))]⟩:G5) [false,false,false]).cfg.k
theorem pqD(x y:U6)(j:Bool)(k:U4)(n:Int):let b:=G0.mk x y j;A5 [((decide (n<(0:Int)))=false),((decide (n > (4096:Int)))=false),((Bool.not (onG b))=false),((1:Int)=(1:Int))]->Sg Tryz.prog (D2 Tryz.f16.ntmps [.v (.a [.ob (.fp x),.ob (.fp y),.bool j]),.v (.a [.ob (.fr k)]),.v (.c (.int .i64 n))]) (B0 42 [2,4,8,9,10] [.ii n,.pt 32 0,(.ci (.sl (Sq.ptt (Me (inG b))))),(.ci (.val (Value.slice Option.none 0 0))),.pt 352 0] [32,352] [(B9 [.ob (.fr k)]),(B9 [(.ob (.fr (S4.E6 (1:Fr))))])] 384 [] []) .normal (TP) ([.code (B5 Tryz.f16)]):=E4 false 3000 [false,false,false] HY
def pqS(k:U4)(n:Int)(T:List (List (Fp×Fp×Fp)))(L:List G0)(m:Nat)(q:U4):St:=B0 42 [2,4,8,9,10] [.ii n,.pt 32 0,.v (.c (.sl (.ptt T))),.v (.c (.slc 17 0 m 13)),.pt 352 0] [17,32,352] [some (.sq (.g1 L)),(B9 [.ob (.fr k)]),some (.fl [.ob (.fr q)])] 384 [] []
theorem pqE(k:U4)(n:Int)(T:List (List (Fp×Fp×Fp)))(L:List G0)(m:Nat)(q:U4):let a:=L.length+1;A5 [((decide (((m:Nat):Int)<n))=true),(T.length=64),(Wb T),((a*104)<=140737488355328),(a<=maxLen),(m=L.length),(1=1)]->Sg Tryz.prog (pqS k n T L m q) (B0 42 [2,4,8,9,10] [.ii n,.pt 32 0,(.ci (.sl (Sq.ptt T))),(.ci (.slc 17 0 a 13)),.pt 592 0] [17,32,592] [(D9 (Sq.g1 (L++[(GV (pkL T (Fin.val q) 64))]))),(B9 [.ob (.fr k)]),(B9 [(.ob (.fr (S4.E6 ((S4.E8 q)*(S4.E8 k)))))])] 688 [] []) .normal (D4 TP) (B7 TP):=E4 false 3000 [true] HY
theorem C7c(k:U4)(n:Int)(T:List (List (Fp×Fp×Fp)))(L:List G0)(m:Nat)(q:U4):E2 peE Tryz.f16 false 3000 (⟨B7 TP,.normal,pqS k n T L m q⟩) [false] [] [17]=(some ([((decide (((m:Nat):Int)<n))=false),(m=L.length)],((.t [(.c (.sl (Sq.g1 L))),(.c (.int .i64 0))]),[]))):=by kernel_rfl
end
end
section
def pwK(k:U4):Nat->U4
 | 0=>S4.E6 1
 | i+1=>S4.E6 (S4.E8 (pwK k i)*S4.E8 k)
def pwE(T:List (List (Fp×Fp×Fp)))(q:U4):G0:=GV (pkL T q.val 64)
def pwL(T:List (List (Fp×Fp×Fp)))(k:U4)(n:Nat):List G0:=(List.range n).map fun i=>pwE T (pwK k i)
theorem A5r(T:List (List (Fp×Fp×Fp)))(k:U4)(n:Nat):(pwL T k n).length=n:=by
 unfold pwL;rw[List.length_map,List.length_range]
theorem B9f(T:List (List (Fp×Fp×Fp)))(k:U4)(n:Nat):pwL T k (n+1)=pwL T k n++[pwE T (pwK k n)]:=by
 unfold pwL;rw[List.range_succ,List.map_append];rfl
theorem C7g(T:List (List (Fp×Fp×Fp)))(k:U4){n i:Nat}(h:i<n):(pwL T k n).getD i g10=pwE T (pwK k i):=by
 unfold pwL;rw[List.getD_eq_getElem?_getD,List.getElem?_map,List.getElem?_range h,Option.map_some,Option.getD_some]
theorem C0w(a:Fp×Fp×Fp):(Me a).length=64:=by rw[NP,WA]
theorem C0x(a:Fp×Fp×Fp):Wb (Me a):=fun i hi=>by rw[NP,A6g a hi,Wj]
def pwR(a:G0)(k:U4)(n:Int):List G0×Int:=if n<0∨n > 4096 then ([],1) else if onG a then (pwL (Me (inG a)) k n.toNat,0) else ([],30)
theorem C7h{a:G0}{k:U4}{n:Int}(h:n<0∨n > 4096):pwR a k n=([],1):=if_pos h
theorem C7i{a:G0}{k:U4}{n:Int}(h:¬(n<0∨n > 4096))(ha:onG a=false):pwR a k n=([],30):=by unfold pwR;rw[if_neg h,ha];rfl
theorem A1g{a:G0}{k:U4}{n:Int}(h:¬(n<0∨n > 4096))(ha:onG a=true):pwR a k n=(pwL (Me (inG a)) k n.toNat,0):=by unfold pwR;rw[if_neg h,ha];rfl
theorem B6y{x:C0}{j:V1}{v:Value}(h:B8 x (.t [.c (.val (.slice none 0 0)),j]) v):B8 x (.t [.c (.sl (.g1 [])),j]) v:=by
 obtain ⟨vs,e,hc⟩:=h
 cases hc with
 | cons h1 h2=>exact ⟨_,e,.cons (D3e (q:=.g1 []) rfl h1) h2⟩
theorem A9r(x y:U6)(j:Bool)(k:U4)(n:Nat)(h:n<=4096)(ha:onG ⟨x,y,j⟩=true):K2 Tryz.prog 16 [.v (.a [.ob (.fp x),.ob (.fp y),.bool j]),.v (.a [.ob (.fr k)]),.v (.c (.int .i64 (n:Int)))] (.t [.c (.sl (.g1 (pwL (Me (inG ⟨x,y,j⟩)) k n))),.c (.int .i64 0)]) []:=by
 refine H2 (fn:=Tryz.f16) (c:=B5 Tryz.f16) Tryz.func16 rfl rfl fun x0 a0 hk hF hs=>?_
 refine pqD x y j k n ⟨decide_eq_false (by omega),decide_eq_false (by omega),by rw[ha];rfl,rfl,C4⟩ hs fun ac cY aY hs1=>?_
 have h64:=C0w (inG ⟨x,y,j⟩);have h16:=C0x (inG ⟨x,y,j⟩);have hmax:4097<=maxLen:=by decide
 generalize Me (inG ⟨x,y,j⟩)=T at hs1 h64 h16 ⊢
 have hs2:=hs1.nilRow (p:=17) (q:=.g1 []) rfl A4 rfl (ml' := [17,32,352]) (ens' := [some (.sq (.g1 [])),some (.fl [.ob (.fr k)]),some (.fl [.ob (.fr (S4.E6 1))])]) (fun r=>rfl)
  (svs' := [.v (.c (.int .i64 (n:Int))),.v (.c (.ptr 32 0)),.v (.c (.sl (.ptt T))),.v (.c (.slc 17 0 0 13)),.v (.c (.ptr 352 0))]) ⟨.inl rfl,.inl rfl,.inl rfl,.inr ⟨13,rfl,rfl⟩,.inl rfl,C4⟩
 change Wq Tryz.prog _ _ _ _ _ (G4 cY 17).w
 refine C5 (ι:={ i:Nat // i<=n }) (fun i=>pqS k n T (pwL T k i.1) i.1 (pwK k i.1)) (fun i=>n-i.1) (c:=X5 TP) (k:=X8 TP) (by kernel_rfl) (fun i ih ac cY aY hs=>?_) ⟨0,Nat.zero_le _⟩ (hs2.nx _)
 obtain ⟨i,hi⟩:=i;simp only at ih hs
 have hlen:=A5r T k i;by_cases hin:i<n
 ·have hnext:pwK k (i+1)=S4.E6 (S4.E8 (pwK k i)*S4.E8 k):=rfl
  have hL:=B9f T k i;have ih2:=ih ⟨i+1,hin⟩ (by show n-(i+1)<n-i;omega)
  dsimp only at ih2;rw[hnext,hL] at ih2;clear ih hnext hL;generalize pwK k i=q at hs ih2;generalize pwL T k i=L at hs ih2 hlen;refine pqE k n T L i q ⟨decide_eq_true (by omega),h64,h16,by omega,by omega,hlen.symm,rfl,C4⟩ hs fun ac cU aU hs3=>?_
  rw[hlen] at hs3;have ep:GV (pkL T q.val 64)=pwE T q:=rfl;rw[ep] at hs3;generalize pwE T q=e at hs3 ih2;generalize S4.E6 (S4.E8 q*S4.E8 k)=q2 at hs3 ih2;have hs4:=hs3.move [17,32] 592 352 rfl ⟨_,rfl⟩ rfl rfl rfl rfl rfl (svs' := [.v (.c (.int .i64 (n:Int))),.v (.c (.ptr 32 0)),.v (.c (.sl (.ptt T))),.v (.c (.slc 17 0 (i+1) 13)),.v (.c (.ptr 352 0))])
   ⟨.inl ⟨rfl,rfl⟩,.inl ⟨rfl,rfl⟩,.inl ⟨rfl,rfl⟩,.inl ⟨rfl,rfl⟩,.inr ⟨0,rfl,rfl⟩,C4⟩ (ml' := [17,32,352]) (ens' := [some (.sq (.g1 (L++[e]))),some (.fl [.ob (.fr k)]),some (.fl [.ob (.fr q2)])]) (fun q=>by
    simp only[C7];by_cases h1:q=352<;>by_cases h2:q=592<;>by_cases h3:q=17<;>by_cases h4:q=32<;>simp_all)
  change Wq Tryz.prog _ _ _ _ _ (Be cU [17,32] 592 352).w
  exact ih2 ac _ aU (hs4.nx _)
 ·obtain rfl:i=n:=by omega
  generalize pwL T k i=L at hs hlen ⊢
  exact H4 HY hk hF (C7c k i T L i _) ⟨decide_eq_false (by omega),hlen.symm,C4⟩ (fun y v hd=>hd) hs
theorem Ic(a:G0)(k:U4)(n:Int):K2 Tryz.prog 16 [.v (.a a.its),.v (.a [.ob (.fr k)]),.v (.c (.int .i64 n))] (.t [.c (.sl (.g1 (pwR a k n).1)),.c (.int .i64 (pwR a k n).2)]) []:=by
 by_cases h:n<0∨n > 4096
 ·rw[C7h h]
  by_cases h1:n<0
  ·exact (A6 HY Tryz.func16 (pqA a k n) ⟨decide_eq_true h1,C4⟩).conv (fun _ _ h=>h) fun y v hd=>B6y hd
  ·exact (A6 HY Tryz.func16 (pqB a k n) ⟨decide_eq_false h1,decide_eq_true (by omega),C4⟩).conv (fun _ _ h=>h) fun y v hd=>B6y hd
 ·cases ha:onG a with
  | false=>
   rw[C7i h ha];exact (A6 HY Tryz.func16 (pqC a k n) ⟨decide_eq_false (by omega),decide_eq_false (by omega),by rw[ha];rfl,C4⟩).conv (fun _ _ h=>h) fun y v hd=>B6y hd
  | true=>
   rw[A1g h ha];obtain ⟨m,rfl⟩:∃m:Nat,n=(m:Int):=⟨n.toNat,by omega⟩
   rw[Int.toNat_natCast];exact A9r a.x a.y a.inf k m (by omega) ha
end
section
abbrev F2:=Q2 pN
def f2I(x:F2):List It:=[.ob (.p x.1),.ob (.p x.2)]
section
variable {r:Nat} [NeZero r]
theorem D9c(a b c d:Fin r):(a+b)*(c+d)-a*c-b*d=a*d+b*c:=by grind
end
theorem t2A(a b c d:Fp):C2 qeJ Tryz.f101 3000 [.v (.a [.ob (.p a),.ob (.p b)]),.v (.a [.ob (.p c),.ob (.p d)])] [] [] []=(some ([],((.v (.a [(.ob (.p ((a*c)-(b*d)))),(.ob (.p ((((a+b)*(c+d))-(a*c))-(b*d))))])),[]))):=by kernel_rfl
theorem p2A(a b c d:Fp):C2 qeJ Tryz.f102 3000 [.v (.a [.ob (.p a),.ob (.p b)]),.v (.a [.ob (.p c),.ob (.p d)])] [] [] []=(some ([],((.v (.a [(.ob (.p (a+c))),(.ob (.p (b+d)))])),[]))):=by kernel_rfl
theorem m2A(a b c d:Fp):C2 qeJ Tryz.f139 3000 [.v (.a [.ob (.p a),.ob (.p b)]),.v (.a [.ob (.p c),.ob (.p d)])] [] [] []=(some ([],((.v (.a [(.ob (.p (a-c))),(.ob (.p (b-d)))])),[]))):=by kernel_rfl
theorem n2A(a b:Fp):C2 qeJ Tryz.f140 3000 [.v (.a [.ob (.p a),.ob (.p b)])] [] [] []=(some ([],((.v (.a [(.ob (.p ((0:Fp)-a))),(.ob (.p ((0:Fp)-b)))])),[]))):=by kernel_rfl
theorem z2A(a b:Fp):let c:=Bool.and (decide (a=(0:Fp))) (decide (b=(0:Fp)));C2 qeJ Tryz.f138 3000 [.v (.a [.ob (.p a),.ob (.p b)])] [] [] []=(some ([],((.ci (.bool (ite (true=true) c (Bool.not c)))),[]))):=by intros;kernel_rfl
theorem E3y(a b:Fp):C2 qeJ Tryz.f141 3000 [.v (.a [.ob (.p a),.ob (.p b)])] [] [] []=(some ([],((.v (.a [(.ob (.p ((a*a)+(b*b))))])),[]))):=by kernel_rfl
theorem i2A(a b:U6):C2 qeJ Tryz.f78 3000 [.v (.a [.ob (.fp a),.ob (.fp b)])] [] [] []=(some ([],((.v (.a [(.ob (.p (N6 a))),(.ob (.p (N6 b)))])),[]))):=by kernel_rfl
theorem o2A(a b:Fp):C2 qeJ Tryz.f77 3000 [.v (.a [.ob (.p a),.ob (.p b)])] [] [] []=(some ([],((.v (.a [(.ob (.fp (G9 a))),(.ob (.fp (G9 b)))])),[]))):=by kernel_rfl
theorem A2j(a b c d:Fp):K2 Tryz.prog 101 [.v (.a [.ob (.p a),.ob (.p b)]),.v (.a [.ob (.p c),.ob (.p d)])] (.v (.a (f2I ((a,b)*(c,d))))) []:=by
 have r:=t2A a b c d;rw[D9c] at r;exact A6 P9 Tryz.func101 r trivial
theorem B1a(a b:Fp):K2 Tryz.prog 138 [.v (.a [.ob (.p a),.ob (.p b)])] (.v (.c (.bool (decide (((a,b):F2)=0))))) []:=by
 have r:=z2A a b;dsimp only at r;rw[if_pos rfl] at r;have e:decide (((a,b):F2)=0)=(decide (a=0) && decide (b=0)):=Ym a 0 b 0;rw[e];exact A6 P9 Tryz.func138 r trivial
def Q3(a b:U6):F2:=(N6 a,N6 b)
def IA:B2
 | [.v (.a [.ob (.p a),.ob (.p b)]),.v (.a [.ob (.p c),.ob (.p d)])]=>some ([],.v (.a (f2I ((a,b)*(c,d)))),[])
 | _=>none
def qxA:D6:=qeJ.set (E0 qeJ.fn 101 IA)
theorem D5a:A7 Tryz.prog qxA:=A8 P9 101 IA (A2 Tryz.func101 rfl rfl) fun args o r es h _=>by
 unfold IA at h;split at h
 ·cases h;exact A2j _ _ _ _
 ·cases h
def LM:B2
 | [.v (.a [.ob (.p a),.ob (.p b)]),.v (.a [.ob (.p c),.ob (.p d)])]=>some ([],.v (.a (f2I ((a,b)+(c,d)))),[])
 | _=>none
def qxB:D6:=qxA.set (E0 qxA.fn 102 LM)
theorem D5b:A7 Tryz.prog qxB:=A8 D5a 102 LM (A2 Tryz.func102 rfl rfl) fun args o r es h _=>by
 unfold LM at h;split at h
 ·cases h;exact A6 P9 Tryz.func102 (p2A _ _ _ _) trivial
 ·cases h
def HJ:B2
 | [.v (.a [.ob (.p a),.ob (.p b)]),.v (.a [.ob (.p c),.ob (.p d)])]=>some ([],.v (.a (f2I ((a,b)-(c,d)))),[])
 | _=>none
def qxC:D6:=qxB.set (E0 qxB.fn 139 HJ)
theorem D5c:A7 Tryz.prog qxC:=A8 D5b 139 HJ (A2 Tryz.func139 rfl rfl) fun args o r es h _=>by
 unfold HJ at h;split at h
 ·cases h;exact A6 P9 Tryz.func139 (m2A _ _ _ _) trivial
 ·cases h
def Qh:B2
 | [.v (.a [.ob (.p a),.ob (.p b)])]=>some ([],.v (.a (f2I (0-(a,b)))),[])
 | _=>none
def qxD:D6:=qxC.set (E0 qxC.fn 140 Qh)
theorem D5d:A7 Tryz.prog qxD:=A8 D5c 140 Qh (A2 Tryz.func140 rfl rfl) fun args o r es h _=>by
 unfold Qh at h;split at h
 ·cases h;exact A6 P9 Tryz.func140 (n2A _ _) trivial
 ·cases h
def MG:B2
 | [.v (.a [.ob (.p a),.ob (.p b)])]=>some ([],.v (.c (.bool (decide (((a,b):F2)=0)))),[])
 | _=>none
def qxE:D6:=qxD.set (E0 qxD.fn 138 MG)
theorem D5e:A7 Tryz.prog qxE:=A8 D5d 138 MG (A2 Tryz.func138 rfl rfl) fun args o r es h _=>by
 unfold MG at h;split at h
 ·cases h;exact B1a _ _
 ·cases h
def Lu:B2
 | [.v (.a [.ob (.p a),.ob (.p b)])]=>some ([],.v (.a [.ob (.p (nQ2 (a,b)))]),[])
 | _=>none
def qxF:D6:=qxE.set (E0 qxE.fn 141 Lu)
theorem D5f:A7 Tryz.prog qxF:=A8 D5e 141 Lu (A2 Tryz.func141 rfl rfl) fun args o r es h _=>by
 unfold Lu at h;split at h
 ·cases h;exact A6 P9 Tryz.func141 (E3y _ _) trivial
 ·cases h
def UU:B2
 | [.v (.a [.ob (.fp a),.ob (.fp b)])]=>some ([],.v (.a (f2I (Q3 a b))),[])
 | _=>none
def qxG:D6:=qxF.set (E0 qxF.fn 78 UU)
theorem D5g:A7 Tryz.prog qxG:=A8 D5f 78 UU (A2 Tryz.func78 rfl rfl) fun args o r es h _=>by
 unfold UU at h;split at h
 ·cases h;exact A6 P9 Tryz.func78 (i2A _ _) trivial
 ·cases h
def Qw:B2
 | [.v (.a [.ob (.p a),.ob (.p b)])]=>some ([],.v (.a [.ob (.fp (G9 a)),.ob (.fp (G9 b))]),[])
 | _=>none
def qxH:D6:=qxG.set (E0 qxG.fn 77 Qw)
theorem B9k:A7 Tryz.prog qxH:=A8 D5g 77 Qw (A2 Tryz.func77 rfl rfl) fun args o r es h _=>by
 unfold Qw at h;split at h
 ·cases h;exact A6 P9 Tryz.func77 (o2A _ _) trivial
 ·cases h
theorem v2A(a b:Fp):C2 qxH Tryz.f137 3000 [.v (.a [.ob (.p a),.ob (.p b)])] [] [] []=(some ([],((.v (.a [(.ob (.p (a*(ivP (nQ2 (a,b)))))),(.ob (.p ((0:Fp)-(b*(ivP (nQ2 (a,b)))))))])),[]))):=by kernel_rfl
def PM:B2
 | [.v (.a [.ob (.p a),.ob (.p b)])]=>some ([],.v (.a (f2I (Hz ivP (a,b)))),[])
 | _=>none
def qxI:D6:=qxH.set (E0 qxH.fn 137 PM)
theorem Ii:A7 Tryz.prog qxI:=A8 B9k 137 PM (A2 Tryz.func137 rfl rfl) fun args o r es h _=>by
 unfold PM at h;split at h
 ·cases h;exact A6 B9k Tryz.func137 (v2A _ _) trivial
 ·cases h
theorem RO (v : Value) (w : World) : (method (Tryz.prog.types.size + Made.depth) 113 v "Times").run Tryz.prog w = .ok (101, v) w := by kernel_rfl
theorem Vn (v : Value) (w : World) : (method (Tryz.prog.types.size + Made.depth) 113 v "Plus").run Tryz.prog w = .ok (102, v) w := by kernel_rfl
theorem RN (v : Value) (w : World) : (method (Tryz.prog.types.size + Made.depth) 113 v "Minus").run Tryz.prog w = .ok (139, v) w := by kernel_rfl
theorem PY (v : Value) (w : World) : (method (Tryz.prog.types.size + Made.depth) 113 v "IsZero").run Tryz.prog w = .ok (138, v) w := by kernel_rfl
theorem Lo (v : Value) (w : World) : (method (Tryz.prog.types.size + Made.depth) 113 v "Negative").run Tryz.prog w = .ok (140, v) w := by kernel_rfl
theorem Nq (v : Value) (w : World) : (method (Tryz.prog.types.size + Made.depth) 113 v "Inverse").run Tryz.prog w = .ok (137, v) w := by kernel_rfl
def B4h (T : Nat → Option (List (String × Nat))) (t : Nat) : Option (List (String × Nat)) := if t = 113 then some [("Times", 101), ("Plus", 102), ("Minus", 139), ("IsZero", 138), ("Negative", 140), ("Inverse", 137)] else T t
def qxJ:D6:={ qxI with inv:=B4h qxI.inv }
theorem VW:A7 Tryz.prog qxJ:=by
 refine ⟨Ii.ty,Ii.mixed,Ii.fn,Ii.mu,Ii.inl,Ii.ex,fun t l h=>?_⟩
 have h:B4h qxI.inv t=some l:=h;unfold B4h at h;split at h
 ·rename_i ht
  cases h
  subst ht;refine ⟨by kernel_rfl,fun name g hg v args w=>?_⟩
  unfold BB at hg;split at hg
  ·rename_i hn
   cases hg
   subst hn;simp only[callMethod,Sem.run_bind,run_program,Result.andThen_ok,RO]
  unfold BB at hg;split at hg
  ·rename_i hn
   cases hg
   subst hn;simp only[callMethod,Sem.run_bind,run_program,Result.andThen_ok,Vn]
  unfold BB at hg;split at hg
  ·rename_i hn
   cases hg
   subst hn;simp only[callMethod,Sem.run_bind,run_program,Result.andThen_ok,RN]
  unfold BB at hg;split at hg
  ·rename_i hn
   cases hg
   subst hn;simp only[callMethod,Sem.run_bind,run_program,Result.andThen_ok,PY]
  unfold BB at hg;split at hg
  ·rename_i hn
   cases hg
   subst hn;simp only[callMethod,Sem.run_bind,run_program,Result.andThen_ok,Lo]
  unfold BB at hg;split at hg
  ·rename_i hn
   cases hg
   subst hn;simp only[callMethod,Sem.run_bind,run_program,Result.andThen_ok,Nq]
  cases hg
 ·exact Ii.inv t l h
theorem E6v(a b c d e f:Fp):C2 qxJ Tryz.f80 3000 [.v (.a [.ob (.p a),.ob (.p b),.ob (.p c),.ob (.p d),.ob (.p e),.ob (.p f)])] [true] [] []=(some ([((decide ((e,f)=(0:(Prod (Fin pN) (Fin pN)))))=true)],((.v (.a [.ob (.p a),.ob (.p b),.ob (.p c),.ob (.p d),.ob (.p e),.ob (.p f)])),[]))):=by kernel_rfl
theorem E6w(a b c d e f:Fp):let l:=(c,d)*(c,d);let h:=l*l;let m:=(a,b)*(a,b);let g:=((((a,b)+l)*((a,b)+l))-m)-h;let i:=(m+m)+m;let k:=((i*i)-(g+g))-(g+g);let j:=(i*((g+g)-k))-(((h+h)+(h+h))+((h+h)+(h+h)));let n:=(c,d)*(e,f);C2 qxJ Tryz.f80 3000 [.v (.a [.ob (.p a),.ob (.p b),.ob (.p c),.ob (.p d),.ob (.p e),.ob (.p f)])] [false] [] []=(some ([((decide ((e,f)=(0:(Prod (Fin pN) (Fin pN)))))=false)],((.v (.a [(.ob (.p (Prod.fst k))),(.ob (.p (Prod.snd k))),(.ob (.p (Prod.fst j))),(.ob (.p (Prod.snd j))),(.ob (.p (Prod.fst (n+n)))),(.ob (.p (Prod.snd (n+n))))])),[]))):=by intros;kernel_rfl
theorem E3u(a b c d e f:Fp):let g:=(0:F2)-(c,d);C2 qxJ Tryz.f142 3000 [.v (.a [.ob (.p a),.ob (.p b),.ob (.p c),.ob (.p d),.ob (.p e),.ob (.p f)])] [] [] []=(some ([],((.v (.a [.ob (.p a),.ob (.p b),(.ob (.p (Prod.fst g))),(.ob (.p (Prod.snd g))),.ob (.p e),.ob (.p f)])),[]))):=by intros;kernel_rfl
end
section
theorem A2o(a b c d e f:Fp):K2 Tryz.prog 80 [.v (.a [.ob (.p a),.ob (.p b),.ob (.p c),.ob (.p d),.ob (.p e),.ob (.p f)])] (.v (.a (W8 (jtw (F:=F2) ((a,b),(c,d),(e,f)))))) []:=by
 by_cases h:((e,f):F2)=0
 ·have e0:jtw (F:=F2) ((a,b),(c,d),(e,f))=((a,b),(c,d),(e,f)):=if_pos h
  rw[e0];exact A6 VW Tryz.func80 (E6v a b c d e f) ⟨decide_eq_true h,C4⟩
 ·unfold jtw
  rw[if_neg h];exact A6 VW Tryz.func80 (E6w a b c d e f) ⟨decide_eq_false h,C4⟩
def WE:B2
 | [.v (.a [.ob (.p a),.ob (.p b),.ob (.p c),.ob (.p d),.ob (.p e),.ob (.p f)])]=>some ([],.v (.a (W8 (jtw (F:=F2) ((a,b),(c,d),(e,f))))),[])
 | _=>none
def qyA:D6:=qxJ.set (E0 qxJ.fn 80 WE)
theorem D5h:A7 Tryz.prog qyA:=A8 VW 80 WE (A2 Tryz.func80 rfl rfl) fun args o r es h _=>by
 unfold WE at h;split at h
 ·cases h;exact A2o _ _ _ _ _ _
 ·cases h
def Vu:B2
 | [.v (.a [.ob (.p a),.ob (.p b),.ob (.p c),.ob (.p d),.ob (.p e),.ob (.p f)])]=>some ([],.v (.a (W8 (jng (F:=F2) ((a,b),(c,d),(e,f))))),[])
 | _=>none
def qyB:D6:=qyA.set (E0 qyA.fn 142 Vu)
theorem LV:A7 Tryz.prog qyB:=A8 D5h 142 Vu (A2 Tryz.func142 rfl rfl) fun args o r es h _=>by
 unfold Vu at h;split at h
 ·cases h;exact A6 VW Tryz.func142 (E3u _ _ _ _ _ _) trivial
 ·cases h
theorem E5o(a b c d e f a' b' c' d' e' f' : Fp):C2 qyB Tryz.f79 3000 [.v (.a [.ob (.p a),.ob (.p b),.ob (.p c),.ob (.p d),.ob (.p e),.ob (.p f)]),.v (.a [.ob (.p a'),.ob (.p b'),.ob (.p c'),.ob (.p d'),.ob (.p e'),.ob (.p f')])] [true] [] []=(some ([((decide ((e,f)=(0:(Prod (Fin pN) (Fin pN)))))=true)],((.v (.a [(.ob (.p a')),(.ob (.p b')),(.ob (.p c')),(.ob (.p d')),(.ob (.p e')),(.ob (.p f'))])),[]))):=by kernel_rfl
theorem E5p(a b c d e f a' b' c' d' e' f' : Fp):let g:=Prod (Fin pN) (Fin pN);C2 qyB Tryz.f79 3000 [.v (.a [.ob (.p a),.ob (.p b),.ob (.p c),.ob (.p d),.ob (.p e),.ob (.p f)]),.v (.a [.ob (.p a'),.ob (.p b'),.ob (.p c'),.ob (.p d'),.ob (.p e'),.ob (.p f')])] [false,true] [] []=(some ([((decide ((e,f)=(0:g)))=false),((decide ((e',f')=(0:g)))=true)],((.v (.a [.ob (.p a),.ob (.p b),.ob (.p c),.ob (.p d),.ob (.p e),.ob (.p f)])),[]))):=by intros;kernel_rfl
theorem E5q(a b c d e f a' b' c' d' e' f' : Fp):let g:=jtw ((a,b),((c,d),(e,f)));let h:=Prod (Fin pN) (Fin pN);let i:=Prod.snd g;let j:=(e',f')*(e',f');C2 qyB Tryz.f79 3000 [.v (.a [.ob (.p a),.ob (.p b),.ob (.p c),.ob (.p d),.ob (.p e),.ob (.p f)]),.v (.a [.ob (.p a'),.ob (.p b'),.ob (.p c'),.ob (.p d'),.ob (.p e'),.ob (.p f')])] [false,false,true,true] [] []=(some ([((decide ((e,f)=(0:h)))=false),((decide ((e',f')=(0:h)))=false),((decide ((((a',b')*((e,f)*(e,f)))-((a,b)*j))=(0:h)))=true),((decide (((((c',d')*((e,f)*(e,f)))*(e,f))-(((c,d)*j)*(e',f')))=(0:h)))=true)],((.v (.a [(.ob (.p (Prod.fst (Prod.fst g)))),(.ob (.p (Prod.snd (Prod.fst g)))),(.ob (.p (Prod.fst (Prod.fst i)))),(.ob (.p (Prod.snd (Prod.fst i)))),(.ob (.p (Prod.fst (Prod.snd i)))),(.ob (.p (Prod.snd (Prod.snd i))))])),[]))):=by intros;kernel_rfl
theorem E5r(a b c d e f a' b' c' d' e' f' : Fp):let g:=Prod (Fin pN) (Fin pN);let h:=(e',f')*(e',f');C2 qyB Tryz.f79 3000 [.v (.a [.ob (.p a),.ob (.p b),.ob (.p c),.ob (.p d),.ob (.p e),.ob (.p f)]),.v (.a [.ob (.p a'),.ob (.p b'),.ob (.p c'),.ob (.p d'),.ob (.p e'),.ob (.p f')])] [false,false,true,false] [] []=(some ([((decide ((e,f)=(0:g)))=false),((decide ((e',f')=(0:g)))=false),((decide ((((a',b')*((e,f)*(e,f)))-((a,b)*h))=(0:g)))=true),((decide (((((c',d')*((e,f)*(e,f)))*(e,f))-(((c,d)*h)*(e',f')))=(0:g)))=false)],((.v (.a [.ob (.p a),.ob (.p b),.ob (.p c),.ob (.p d),(.ob (.p (0:Fp))),(.ob (.p (0:Fp)))])),[]))):=by intros;kernel_rfl
theorem E5s(a b c d e f a' b' c' d' e' f' : Fp):let j:=(e',f')*(e',f');let g:=((a',b')*((e,f)*(e,f)))-((a,b)*j);let l:=Prod (Fin pN) (Fin pN);let m:=((a,b)*j)*(g*g);let n:=((c,d)*j)*(e',f');let i:=(((c',d')*((e,f)*(e,f)))*(e,f))-n;let h:=(((i*i)-((g*g)*g))-m)-m;let k:=(i*(m-h))-(n*((g*g)*g));let o:=(g*(e,f))*(e',f');C2 qyB Tryz.f79 3000 [.v (.a [.ob (.p a),.ob (.p b),.ob (.p c),.ob (.p d),.ob (.p e),.ob (.p f)]),.v (.a [.ob (.p a'),.ob (.p b'),.ob (.p c'),.ob (.p d'),.ob (.p e'),.ob (.p f')])] [false,false,false] [] []=(some ([((decide ((e,f)=(0:l)))=false),((decide ((e',f')=(0:l)))=false),((decide (g=(0:l)))=false)],((.v (.a [(.ob (.p (Prod.fst h))),(.ob (.p (Prod.snd h))),(.ob (.p (Prod.fst k))),(.ob (.p (Prod.snd k))),(.ob (.p (Prod.fst o))),(.ob (.p (Prod.snd o)))])),[]))):=by intros;kernel_rfl
end
section
theorem Yo(a b c d e f a' b' c' d' e' f' : Fp):K2 Tryz.prog 79 [.v (.a [.ob (.p a),.ob (.p b),.ob (.p c),.ob (.p d),.ob (.p e),.ob (.p f)]),.v (.a [.ob (.p a'),.ob (.p b'),.ob (.p c'),.ob (.p d'),.ob (.p e'),.ob (.p f')])] (.v (.a (W8 (jpl (F:=F2) ((a,b),(c,d),(e,f)) ((a',b'),(c',d'),(e',f')))))) []:=by
 by_cases h:((e,f):F2)=0
 ·have e0:jpl (F:=F2) ((a,b),(c,d),(e,f)) ((a',b'),(c',d'),(e',f'))=((a',b'),(c',d'),(e',f')):=if_pos h
  rw[e0];exact A6 LV Tryz.func79 (E5o a b c d e f a' b' c' d' e' f') ⟨decide_eq_true h,C4⟩
 ·by_cases h2:((e',f'):F2)=0
  ·have e0:jpl (F:=F2) ((a,b),(c,d),(e,f)) ((a',b'),(c',d'),(e',f'))=((a,b),(c,d),(e,f)):=(if_neg h).trans (if_pos h2)
   rw[e0];exact A6 LV Tryz.func79 (E5p a b c d e f a' b' c' d' e' f') ⟨decide_eq_false h,decide_eq_true h2,C4⟩
  ·unfold jpl
   rw[if_neg h,if_neg h2];dsimp only;by_cases h3:((a',b'):F2)*(((e,f):F2)*((e,f):F2))-((a,b):F2)*(((e',f'):F2)*((e',f'):F2))=0
   ·rw[if_pos h3]
    by_cases h4:((c',d'):F2)*(((e,f):F2)*((e,f):F2))*((e,f):F2)-((c,d):F2)*(((e',f'):F2)*((e',f'):F2))*((e',f'):F2)=0
    ·rw[if_pos h4]
     exact A6 LV Tryz.func79 (E5q a b c d e f a' b' c' d' e' f') ⟨decide_eq_false h,decide_eq_false h2,decide_eq_true h3,decide_eq_true h4,C4⟩
    ·rw[if_neg h4]
     exact A6 LV Tryz.func79 (E5r a b c d e f a' b' c' d' e' f') ⟨decide_eq_false h,decide_eq_false h2,decide_eq_true h3,decide_eq_false h4,C4⟩
   ·rw[if_neg h3]
    exact A6 LV Tryz.func79 (E5s a b c d e f a' b' c' d' e' f') ⟨decide_eq_false h,decide_eq_false h2,decide_eq_false h3,C4⟩
end
section
def VK:B2
 | [.v (.a [.ob (.p a),.ob (.p b),.ob (.p c),.ob (.p d),.ob (.p e),.ob (.p f)]),.v (.a [.ob (.p a'),.ob (.p b'),.ob (.p c'),.ob (.p d'),.ob (.p e'),.ob (.p f')])]=>some ([],.v (.a (W8 (jpl (F:=F2) ((a,b),(c,d),(e,f)) ((a',b'),(c',d'),(e',f'))))),[])
 | _=>none
def qyC:D6:=qyB.set (E0 qyB.fn 79 VK)
theorem Ij:A7 Tryz.prog qyC:=A8 LV 79 VK (A2 Tryz.func79 rfl rfl) fun args o r es h _=>by
 unfold VK at h;split at h
 ·cases h;exact Yo _ _ _ _ _ _ _ _ _ _ _ _
 ·cases h
def B4e(T:Nat->Option Func)(f:Nat):Option Func:=if f=76 then some Tryz.f76 else T f
def qyD:D6:={ qyC with inl:=B4e qyC.inl }
theorem EQ:A7 Tryz.prog qyD:=by
 refine ⟨Ij.ty,Ij.mixed,Ij.fn,Ij.mu,fun f fn h=>?_,Ij.ex,Ij.inv⟩
 have h:B4e qyC.inl f=some fn:=h;unfold B4e at h;split at h
 ·rename_i hf;cases h;subst hf;exact ⟨Tryz.func76,A2 Tryz.func76 rfl rfl⟩
 exact Ij.inl f fn h
theorem E2c(a b c d:U6)(i:Bool):let f:=Fin.ofNat pN 1;let g:Fp:=0;C2 qyD Tryz.f48 3000 [.v (.a [.ob (.fp a),.ob (.fp b),.ob (.fp c),.ob (.fp d),.bool i])] [true] [] []=(some ([(0<=(1:Int)),((1:Int)<(18446744073709551616:Int)),(i=true)],((.v (.a [(.ob (.p f)),(.ob (.p g)),(.ob (.p f)),(.ob (.p g)),(.ob (.p g)),(.ob (.p g))])),[]))):=by intros;kernel_rfl
theorem E2d(a b c d:U6)(i:Bool):C2 qyD Tryz.f48 3000 [.v (.a [.ob (.fp a),.ob (.fp b),.ob (.fp c),.ob (.fp d),.bool i])] [false] [] []=(some ([(0<=(1:Int)),((1:Int)<(18446744073709551616:Int)),(i=false)],((.v (.a [(.ob (.p (Prod.fst (Q3 a b)))),(.ob (.p (Prod.snd (Q3 a b)))),(.ob (.p (Prod.fst (Q3 c d)))),(.ob (.p (Prod.snd (Q3 c d)))),(.ob (.p (Fin.ofNat pN 1))),(.ob (.p (0:Fp)))])),[]))):=by kernel_rfl
theorem E4o(a b c d e f:Fp):let g:U6:=0;C2 qyD Tryz.f47 3000 [.v (.a [.ob (.p a),.ob (.p b),.ob (.p c),.ob (.p d),.ob (.p e),.ob (.p f)])] [true,true] [] []=(some ([((decide ((e,f)=(0:(Prod (Fin pN) (Fin pN)))))=true)],((.v (.a [(.ob (.fp g)),(.ob (.fp g)),(.ob (.fp g)),(.ob (.fp g)),(.lit true)])),[]))):=by intros;kernel_rfl
theorem E4p(a b c d e f:Fp):let g:=Hz ivP (e,f);let h:=((c,d)*(g*g))*g;C2 qyD Tryz.f47 3000 [.v (.a [.ob (.p a),.ob (.p b),.ob (.p c),.ob (.p d),.ob (.p e),.ob (.p f)])] [false,false] [] []=(some ([((decide ((e,f)=(0:(Prod (Fin pN) (Fin pN)))))=false)],((.v (.a [(.ob (.fp (G9 (Prod.fst ((a,b)*(g*g)))))),(.ob (.fp (G9 (Prod.snd ((a,b)*(g*g)))))),(.ob (.fp (G9 (Prod.fst h)))),(.ob (.fp (G9 (Prod.snd h)))),(.lit false)])),[]))):=by intros;kernel_rfl
theorem E4q(a b c d:U6)(i:Bool):let g:U6:=0;let f:=Bool.and (decide (a=g)) (Bool.and (decide (b=g)) (Bool.and (decide (c=g)) (Bool.and (decide (d=g)) (i == true))));C2 qyD Tryz.f75 3000 [.v (.a [.ob (.fp a),.ob (.fp b),.ob (.fp c),.ob (.fp d),.bool i])] [true] [] []=(some ([(i=true)],((.ci (.bool (ite (true=true) f (Bool.not f)))),[]))):=by intros;kernel_rfl
theorem E4r(a b c d:U6)(i:Bool):let k:=Q3 c d;let h:=Bool.and (decide ((G9 (Prod.fst k))=c)) (decide ((G9 (Prod.snd k))=d));let l:=(4:Int)<(18446744073709551616:Int);let m:=Q3 a b;let g:=Bool.and (decide ((G9 (Prod.fst m))=a)) (decide ((G9 (Prod.snd m))=b));let n:=true=true;let o:=Fin.ofNat pN 4;let j:=((m*m)*m)+(o,o);let f:=Bool.and (decide ((Prod.fst (k*k))=(Prod.fst j))) (decide ((Prod.snd (k*k))=(Prod.snd j)));C2 qyD Tryz.f75 3000 [.v (.a [.ob (.fp a),.ob (.fp b),.ob (.fp c),.ob (.fp d),.bool i])] [false,true,true] [] []=(some ([(i=false),(0<=(4:Int)),l,(0<=(4:Int)),l,((ite n g (Bool.not g))=true),((ite n h (Bool.not h))=true)],((.ci (.bool (ite n f (Bool.not f)))),[]))):=by intros;kernel_rfl
theorem E4s(a b c d:U6)(i:Bool):let f:=Bool.and (decide ((G9 (Prod.fst (Q3 a b)))=a)) (decide ((G9 (Prod.snd (Q3 a b)))=b));let g:=Bool.and (decide ((G9 (Prod.fst (Q3 c d)))=c)) (decide ((G9 (Prod.snd (Q3 c d)))=d));let h:=(4:Int)<(18446744073709551616:Int);C2 qyD Tryz.f75 3000 [.v (.a [.ob (.fp a),.ob (.fp b),.ob (.fp c),.ob (.fp d),.bool i])] [false,true,false] [] []=(some ([(i=false),(0<=(4:Int)),h,(0<=(4:Int)),h,((ite (true=true) f (Bool.not f))=true),((ite (true=true) g (Bool.not g))=false)],((.ci (.lit false)),[]))):=by intros;kernel_rfl
theorem E4t(a b c d:U6)(i:Bool):let f:=Bool.and (decide ((G9 (Prod.fst (Q3 a b)))=a)) (decide ((G9 (Prod.snd (Q3 a b)))=b));let g:=(4:Int)<(18446744073709551616:Int);C2 qyD Tryz.f75 3000 [.v (.a [.ob (.fp a),.ob (.fp b),.ob (.fp c),.ob (.fp d),.bool i])] [false,false,false] [] []=(some ([(i=false),(0<=(4:Int)),g,(0<=(4:Int)),g,((ite (true=true) f (Bool.not f))=false)],((.ci (.lit false)),[]))):=by intros;kernel_rfl
end
section
def fq4:F2:=(fp4,fp4)
def JH(a:K5):Bool:=
 if a.inf then decide (a.xa=0) && (decide (a.xb=0) && (decide (a.ya=0) && decide (a.yb=0)))
 else (decide (G9 (N6 a.xa)=a.xa) && decide (G9 (N6 a.xb)=a.xb)) && ((decide (G9 (N6 a.ya)=a.ya) && decide (G9 (N6 a.yb)=a.yb)) && decide (Q3 a.ya a.yb*Q3 a.ya a.yb=Q3 a.xa a.xb*Q3 a.xa a.xb*Q3 a.xa a.xb+fq4))
def C3y(a:K5):F2×F2×F2:=if a.inf then ((fp1,0),(fp1,0),(0,0)) else (Q3 a.xa a.xb,Q3 a.ya a.yb,(fp1,0))
def TN(t:F2×F2×F2):K5:=
 if t.2.2=0 then ⟨0,0,0,0,true⟩ else
 ⟨G9 (t.1*(Hz ivP t.2.2*Hz ivP t.2.2)).1,G9 (t.1*(Hz ivP t.2.2*Hz ivP t.2.2)).2,G9 (t.2.1*(Hz ivP t.2.2*Hz ivP t.2.2)*Hz ivP t.2.2).1,G9 (t.2.1*(Hz ivP t.2.2*Hz ivP t.2.2)*Hz ivP t.2.2).2,false⟩
theorem GI{x:C0}{i j k l:It}{b:Bool}{v:Value}(h:B8 x (.v (.a [i,j,k,l,.lit b])) v):B8 x (.v (.a [i,j,k,l,.bool b])) v:=by
 obtain ⟨cs,e,c1,r1,e1,h1,c2,r2,e2,h2,c3,r3,e3,h3,c4,r4,e4,h4,c5,r5,e5,⟨d,h5⟩,h6⟩:=h;refine ⟨cs,e,c1,r1,e1,h1,c2,r2,e2,h2,c3,r3,e3,h3,c4,r4,e4,h4,c5,r5,e5,⟨d,?_⟩,h6⟩
 cases d<;>exact h5
theorem XM{x:C0}{i j k l m:It}{b:Bool}{v:Value}(h:B8 x (.t [.a [i,j,k,l,.lit b],.c m]) v):B8 x (.t [.a [i,j,k,l,.bool b],.c m]) v:=by
 obtain ⟨vs,e,h1⟩:=h
 cases h1 with | cons d1 ds=>
 exact ⟨_,e,.cons (GI d1) ds⟩
theorem B4a(a b c d:U6)(i:Bool):K2 Tryz.prog 48 [.v (.a [.ob (.fp a),.ob (.fp b),.ob (.fp c),.ob (.fp d),.bool i])] (.v (.a (W8 (C3y ⟨a,b,c,d,i⟩)))) []:=by
 cases i with
 | true=>exact A6 EQ Tryz.func48 (E2c a b c d true) ⟨A4,A4,rfl,C4⟩
 | false=>exact A6 EQ Tryz.func48 (E2d a b c d false) ⟨A4,A4,rfl,C4⟩
theorem A9i(a b c d e f:Fp):K2 Tryz.prog 47 [.v (.a [.ob (.p a),.ob (.p b),.ob (.p c),.ob (.p d),.ob (.p e),.ob (.p f)])] (.v (.a (TN ((a,b),(c,d),(e,f))).its)) []:=by
 by_cases h:((e,f):F2)=0
 ·have e0:TN ((a,b),(c,d),(e,f))=⟨0,0,0,0,true⟩:=if_pos h
  rw[e0];exact (A6 EQ Tryz.func47 (E4o a b c d e f) ⟨decide_eq_true h,C4⟩).conv (fun _ _ h=>h) fun y v hd=>GI hd
 ·unfold TN
  rw[if_neg h];exact (A6 EQ Tryz.func47 (E4p a b c d e f) ⟨decide_eq_false h,C4⟩).conv (fun _ _ h=>h) fun y v hd=>GI hd
theorem B7t(a b c d:U6):JH ⟨a,b,c,d,false⟩=((decide (G9 (N6 a)=a) && decide (G9 (N6 b)=b)) && ((decide (G9 (N6 c)=c) && decide (G9 (N6 d)=d)) && decide (Q3 c d*Q3 c d=Q3 a b*Q3 a b*Q3 a b+fq4))):=if_neg (fun h=>Bool.noConfusion h)
theorem B7v(a b c d:U6):JH ⟨a,b,c,d,true⟩=(decide (a=0) && (decide (b=0) && (decide (c=0) && (decide (d=0) && (true == true))))):=by
 show (decide (a=0) && (decide (b=0) && (decide (c=0) && decide (d=0))))=_;simp
theorem B7u(a b c d:U6)(i:Bool):K2 Tryz.prog 75 [.v (.a [.ob (.fp a),.ob (.fp b),.ob (.fp c),.ob (.fp d),.bool i])] (.v (.c (.bool (JH ⟨a,b,c,d,i⟩)))) []:=by
 cases i with
 | true=>
  have r:=E4q a b c d true;dsimp only at r;rw[if_pos rfl] at r;rw[B7v];exact A6 EQ Tryz.func75 r ⟨rfl,C4⟩
 | false=>
  rw[B7t]
  cases h1:(decide (G9 (N6 a)=a) && decide (G9 (N6 b)=b)) with
  | true=>
   rw[Bool.true_and]
   cases h2:(decide (G9 (N6 c)=c) && decide (G9 (N6 d)=d)) with
   | true=>
    rw[Bool.true_and];have r:=E4r a b c d false;dsimp only at r;rw[if_pos rfl,if_pos rfl,if_pos rfl] at r;have e:decide (Q3 c d*Q3 c d=Q3 a b*Q3 a b*Q3 a b+fq4)=_:=Ym (Q3 c d*Q3 c d).1 (Q3 a b*Q3 a b*Q3 a b+fq4).1 (Q3 c d*Q3 c d).2 (Q3 a b*Q3 a b*Q3 a b+fq4).2;rw[e];exact A6 EQ Tryz.func75 r ⟨rfl,A4,A4,A4,A4,h1,h2,C4⟩
   | false=>
    rw[Bool.false_and];have r:=E4s a b c d false;dsimp only at r;rw[if_pos rfl,if_pos rfl] at r;exact (A6 EQ Tryz.func75 r ⟨rfl,A4,A4,A4,A4,h1,h2,C4⟩).conv (fun _ _ h=>h) fun y v hd=>V0 rfl hd
  | false=>
   rw[Bool.false_and];have r:=E4t a b c d false;dsimp only at r;rw[if_pos rfl] at r;exact (A6 EQ Tryz.func75 r ⟨rfl,A4,A4,A4,A4,h1,C4⟩).conv (fun _ _ h=>h) fun y v hd=>V0 rfl hd
section
variable {r:Nat} [NeZero r]
end
end
section
def PI:B2
 | [.v (.a [.ob (.fp a),.ob (.fp b),.ob (.fp c),.ob (.fp d),.bool i])]=>some ([],.v (.a (W8 (C3y ⟨a,b,c,d,i⟩))),[])
 | _=>none
def qzA:D6:=qyD.set (E0 qyD.fn 48 PI)
theorem D5i:A7 Tryz.prog qzA:=A8 EQ 48 PI (A2 Tryz.func48 rfl rfl) fun args o r es h _=>by
 unfold PI at h;split at h
 ·cases h;exact B4a _ _ _ _ _
 ·cases h
def LJ:B2
 | [.v (.a [.ob (.p a),.ob (.p b),.ob (.p c),.ob (.p d),.ob (.p e),.ob (.p f)])]=>some ([],.v (.a (TN ((a,b),(c,d),(e,f))).its),[])
 | _=>none
def qzB:D6:=qzA.set (E0 qzA.fn 47 LJ)
theorem D5j:A7 Tryz.prog qzB:=A8 D5i 47 LJ (A2 Tryz.func47 rfl rfl) fun args o r es h _=>by
 unfold LJ at h;split at h
 ·cases h;exact A9i _ _ _ _ _ _
 ·cases h
def Qq:B2
 | [.v (.a [.ob (.fp a),.ob (.fp b),.ob (.fp c),.ob (.fp d),.bool i])]=>some ([],.v (.c (.bool (JH ⟨a,b,c,d,i⟩))),[])
 | _=>none
def qzH:D6:=qzB.set (E0 qzB.fn 75 Qq)
theorem A1l:A7 Tryz.prog qzH:=A8 D5j 75 Qq (A2 Tryz.func75 rfl rfl) fun args o r es h _=>by
 unfold Qq at h;split at h
 ·cases h;exact B7u _ _ _ _ _
 ·cases h
theorem E5y(a b c d:U6)(i:Bool):C2 qzH Tryz.f46 3000 [.v (.a [.ob (.fp a),.ob (.fp b),.ob (.fp c),.ob (.fp d),.bool i])] [] [] []=(some ([],((.ci (.bool (JH (K5.mk a b c d i)))),[]))):=by kernel_rfl
theorem E1z  : C2 qzH Tryz.f18 3000 [] [] [] []=(some ([(0<=(15312334153293348280:Int)),((15312334153293348280:Int)<(18446744073709551616:Int)),(0<=(841050694974028783:Int)),((841050694974028783:Int)<(18446744073709551616:Int)),(0<=(12993178926126977399:Int)),((12993178926126977399:Int)<(18446744073709551616:Int)),(0<=(14331714969349929730:Int)),((14331714969349929730:Int)<(18446744073709551616:Int)),(0<=(2740446039084699729:Int)),((2740446039084699729:Int)<(18446744073709551616:Int)),(0<=(165123225776229009:Int)),((165123225776229009:Int)<(18446744073709551616:Int)),(0<=(16549740192668593022:Int)),((16549740192668593022:Int)<(18446744073709551616:Int)),(0<=(3696594454104530263:Int)),((3696594454104530263:Int)<(18446744073709551616:Int)),(0<=(13103893525273989193:Int)),((13103893525273989193:Int)<(18446744073709551616:Int)),(0<=(6443473286224459290:Int)),((6443473286224459290:Int)<(18446744073709551616:Int)),(0<=(9055845637167730533:Int)),((9055845637167730533:Int)<(18446744073709551616:Int)),(0<=(1432192374203850592:Int)),((1432192374203850592:Int)<(18446744073709551616:Int)),(0<=(16254428414758889473:Int)),((16254428414758889473:Int)<(18446744073709551616:Int)),(0<=(10536956157198377609:Int)),((10536956157198377609:Int)<(18446744073709551616:Int)),(0<=(7873024875724591404:Int)),((7873024875724591404:Int)<(18446744073709551616:Int)),(0<=(12537348094477325223:Int)),((12537348094477325223:Int)<(18446744073709551616:Int)),(0<=(10144865889576432922:Int)),((10144865889576432922:Int)<(18446744073709551616:Int)),(0<=(929383263523139089:Int)),((929383263523139089:Int)<(18446744073709551616:Int)),(0<=(12297368366147926462:Int)),((12297368366147926462:Int)<(18446744073709551616:Int)),(0<=(4555124010822409633:Int)),((4555124010822409633:Int)<(18446744073709551616:Int)),(0<=(2771000935339432363:Int)),((2771000935339432363:Int)<(18446744073709551616:Int)),(0<=(14645187562128761775:Int)),((14645187562128761775:Int)<(18446744073709551616:Int)),(0<=(3651525051980876697:Int)),((3651525051980876697:Int)<(18446744073709551616:Int)),(0<=(434250606344352972:Int)),((434250606344352972:Int)<(18446744073709551616:Int))],((.v (.a [(.ob (.fp (Fin.ofNat B6 352701069587466618187139116011060144890029952792775240219908644239793785735715026873347600343865175952761926303160))),(.ob (.fp (Fin.ofNat B6 3059144344244213709971259814753781636986470325476647558659373206291635324768958432433509563104347017837885763365758))),(.ob (.fp (Fin.ofNat B6 1985150602287291935568054521177171638300868978215655730859378665066344726373823718423869104263333984641494340347905))),(.ob (.fp (Fin.ofNat B6 927553665492332455747201965776037880757740193453592970025027978793976877002675564980949289727957565575433344219582))),(.lit false)])),[]))):=by kernel_rfl
end
section
def MR:K5:=⟨Fin.ofNat B6 352701069587466618187139116011060144890029952792775240219908644239793785735715026873347600343865175952761926303160,Fin.ofNat B6 3059144344244213709971259814753781636986470325476647558659373206291635324768958432433509563104347017837885763365758,Fin.ofNat B6 1985150602287291935568054521177171638300868978215655730859378665066344726373823718423869104263333984641494340347905,Fin.ofNat B6 927553665492332455747201965776037880757740193453592970025027978793976877002675564980949289727957565575433344219582,false⟩
theorem B3q:K2 Tryz.prog 18 [] (.v (.a MR.its)) []:=
 (A6 A1l Tryz.func18 E1z (by simp [A5])).conv (fun _ _ h=>h) fun y v hd=>GI hd
end
section
def Ip:B2
 | [.v (.a [.ob (.fp a),.ob (.fp b),.ob (.fp c),.ob (.fp d),.bool i])]=>some ([],.v (.c (.bool (JH ⟨a,b,c,d,i⟩))),[])
 | _=>none
def rtA:D6:=qzH.set (E0 qzH.fn 46 Ip)
theorem D5y:A7 Tryz.prog rtA:=A8 A1l 46 Ip (A2 Tryz.func46 rfl rfl) fun args o r es h _=>by
 unfold Ip at h;split at h
 ·cases h;exact A6 A1l Tryz.func46 (E5y _ _ _ _ _) trivial
 ·cases h
def Pq:B2
 | []=>some ([],.v (.a MR.its),[])
 | _=>none
def rtC:D6:=rtA.set (E0 rtA.fn 18 Pq)
theorem D5z:A7 Tryz.prog rtC:=A8 D5y 18 Pq (A2 Tryz.func18 rfl rfl) fun args o r es h _=>by
 unfold Pq at h;split at h
 ·cases h;exact B3q
 ·cases h
def rtG:D6:=rtC
theorem D6a:A7 Tryz.prog rtG:=D5z
end
section
theorem D3d:(-1:Fp)=Fin.ofNat pN (pN-1):=by decide +kernel
theorem B6s:(Fin.ofNat pN (pN-1)).val=pN-1:=by decide +kernel
theorem B3x:pN-1=(pN-1) / 2+(pN-1) / 2:=by decide +kernel
theorem B6r:Lq pN (pN-1) 384 ((pN-1) / 2)≠1:=by decide +kernel
theorem C3w:(pN-1) / 2<2 ^ 384:=by decide +kernel
theorem C5t:(0:Fp)*0 ≠ -1:=by decide +kernel
theorem C5w(t:Fp):t*t ≠ -1:=by
 intro h;by_cases ht:t=0
 ·rw[ht] at h
  exact C5t h
 ·have e:=C1q t ((pN-1) / 2)
  rw[<-B3x,Pg t ht,h,D3d] at e;have:=congrArg Fin.val e
  rw[GN _ 384 _ C3w,B6s,TM] at this;exact B6r this
theorem B7x:(1:F2)≠0:=by decide +kernel
instance fldQ:Fld F2:=
  { (ringQ2:MJ (Q2 pN)) with
    inv:=Hz ivP
    mul_inv:=B4k ivP Vb (B6n ivP Vb C5w)
    one_ne:=B7x }
end
section
def rtL:D6:=rtG
theorem D6b:A7 Tryz.prog rtL:=D6a
def rtM:D6:=rtL
theorem DL:A7 Tryz.prog rtM:=D6b
end
section
section
variable {w0:World} {F0:Nat->Prop} {K:Kp} {ac:List Act} {Q:Exit->Act->World->Prop} {cX:C0} {aX:Act}
def A0r:List KI:=(run rtM false 3000 (⟨[.code (B5 Tryz.f49)],.normal,D2 Tryz.f49.ntmps [.v (.a [.ob (.p dF),.ob (.p dF),.ob (.p dF),.ob (.p dF),.ob (.p dF),.ob (.p dF)]),.v (.a [.ob (.fr dF)])]⟩:G5) []).cfg.k
theorem ny(a b c d e f:Fp)(k:U4):let g:Fp:=0;A5 [(0<=(0:Int)),(0<(16:Int))]->Sg Tryz.prog (D2 Tryz.f49.ntmps [.v (.a [.ob (.p a),.ob (.p b),.ob (.p c),.ob (.p d),.ob (.p e),.ob (.p f)]),.v (.a [.ob (.fr k)])]) (B0 43 [2,3,4,5,6] [.pt 16 0,.pt 32 0,.pt 48 0,.pt 64 0,.ii 1] [16,32,48,64] [(B9 [.ob (.p a),.ob (.p b),.ob (.p c),.ob (.p d),.ob (.p e),.ob (.p f)]),(B9 [.ob (.fr k)]),(B9 [(.ob (.p g)),(.ob (.p g)),(.ob (.p g)),(.ob (.p g)),(.ob (.p g)),(.ob (.p g))]),(B9 [.ob (.p a),.ob (.p b),.ob (.p c),.ob (.p d),(.ob (.p g)),(.ob (.p g)),(.ob (.p g)),(.ob (.p g)),(.ob (.p g)),(.ob (.p g)),(.ob (.p g)),(.ob (.p g)),(.ob (.p g)),(.ob (.p g)),(.ob (.p g)),(.ob (.p g)),(.ob (.p g)),(.ob (.p g)),(.ob (.p g)),(.ob (.p g)),(.ob (.p g)),(.ob (.p g)),(.ob (.p g)),(.ob (.p g)),(.ob (.p g)),(.ob (.p g)),(.ob (.p g)),(.ob (.p g)),(.ob (.p g)),(.ob (.p g)),(.ob (.p g)),(.ob (.p g)),(.ob (.p g)),(.ob (.p g)),(.ob (.p g)),(.ob (.p g)),(.ob (.p g)),(.ob (.p g)),(.ob (.p g)),(.ob (.p g)),(.ob (.p g)),(.ob (.p g)),(.ob (.p g)),(.ob (.p g)),(.ob (.p g)),(.ob (.p g)),(.ob (.p g)),(.ob (.p g)),(.ob (.p g)),(.ob (.p g)),(.ob (.p g)),(.ob (.p g)),(.ob (.p g)),(.ob (.p g)),(.ob (.p g)),(.ob (.p g)),(.ob (.p g)),(.ob (.p g)),(.ob (.p g)),(.ob (.p g)),(.ob (.p g)),(.ob (.p g)),(.ob (.p g)),(.ob (.p g)),(.ob (.p g)),(.ob (.p g)),(.ob (.p g)),(.ob (.p g)),(.ob (.p g)),(.ob (.p g)),(.ob (.p g)),(.ob (.p g)),(.ob (.p g)),(.ob (.p g)),(.ob (.p g)),(.ob (.p g)),(.ob (.p g)),(.ob (.p g)),(.ob (.p g)),(.ob (.p g)),(.ob (.p g)),(.ob (.p g)),(.ob (.p g)),(.ob (.p g)),(.ob (.p g)),(.ob (.p g)),(.ob (.p g)),(.ob (.p g)),(.ob (.p g)),(.ob (.p g)),(.ob (.p g)),(.ob (.p g)),(.ob (.p g)),(.ob (.p g)),(.ob (.p g)),(.ob (.p g))])] 208 [] []) .normal (A0r) ([.code (B5 Tryz.f49)]):=E4 false 3000 [] DL
def nyS(a b c d e f:Fp)(k:U4)(L:List (F2×F2×F2))(i:Int):St:=B0 43 [2,3,4,5,6] [.pt 16 0,.pt 32 0,.pt 48 0,.pt 64 0,.v (.c (.int .i64 i))] [16,32,48,64] [(B9 [.ob (.p a),.ob (.p b),.ob (.p c),.ob (.p d),.ob (.p e),.ob (.p f)]),(B9 [.ob (.fr k)]),(B9 [(.ob (.p (0:Fp))),(.ob (.p (0:Fp))),(.ob (.p (0:Fp))),(.ob (.p (0:Fp))),(.ob (.p (0:Fp))),(.ob (.p (0:Fp)))]),some (.sq (.pt2 L))] 208 [] []
theorem nyA(a b c d e f:Fp)(k:U4)(L:List (F2×F2×F2))(i:Int):let g:=wrap .i64 (i-1);let h:Int:=16;A5 [((decide (i<h))=true),(0<=g),(g<h),(0=0),((g).toNat<L.length),(0<=i),(i<h),(0=0),((i).toNat<L.length)]->Sg Tryz.prog (nyS a b c d e f k L i) (St.z (nyS a b c d e f k (List.set L (i).toNat (jpl (List.getD L (g).toNat EN) ((a,b),((c,d),(e,f))))) (wrap .i64 (i+1))) 432) .normal (D4 A0r) (B7 A0r):=E4 false 3000 [true] DL
def JE:List KI:=(run rtM false 3000 (⟨B7 A0r,.normal,nyS dF dF dF dF dF dF dF dF dF⟩:G5) [false]).cfg.k
theorem nyB(a b c d e f:Fp)(k:U4)(L:List (F2×F2×F2))(i:Int):let g:=List.getD L 0 EN;let h:=Prod.snd g;let j:Fp:=0;A5 [((decide (i<(16:Int)))=false),(0<=(0:Int)),(0<(16:Int)),(0=0),(0<L.length)]->Sg Tryz.prog (nyS a b c d e f k L i) (B0 43 [4,5,7,30] [.pt 48 0,.pt 64 0,.pt 272 0,(.ci (.clo 100 [(320,0)]))] [48,64,272,320] [(B9 [(.ob (.p j)),(.ob (.p j)),(.ob (.p j)),(.ob (.p j)),(.ob (.p j)),(.ob (.p j))]),(D9 (Sq.pt2 L)),(B9 [(.ob (.p (Prod.fst (Prod.fst g)))),(.ob (.p (Prod.snd (Prod.fst g)))),(.ob (.p (Prod.fst (Prod.fst h)))),(.ob (.p (Prod.snd (Prod.fst h)))),(.ob (.p (Prod.fst (Prod.snd h)))),(.ob (.p (Prod.snd (Prod.snd h))))]),(B9 [.ob (.fr k)])] 384 [] []) .normal (JE) (B7 A0r):=E4 false 3000 [false] DL
def nyR(k:U4)(L:List (F2×F2×F2))(o:F2×F2×F2):St:=B0 43 [4,5,7,30] [.pt 48 0,.pt 64 0,.pt 272 0,(.ci (.clo 100 [(320,0)]))] [48,64,272,320] [(B9 [(.ob (.p (0:Fp))),(.ob (.p (0:Fp))),(.ob (.p (0:Fp))),(.ob (.p (0:Fp))),(.ob (.p (0:Fp))),(.ob (.p (0:Fp)))]),(D9 (Sq.pt2 L)),some (.fl [.ob (.p o.1.1),.ob (.p o.1.2),.ob (.p o.2.1.1),.ob (.p o.2.1.2),.ob (.p o.2.2.1),.ob (.p o.2.2.2)]),(B9 [.ob (.fr k)])] 384 [] []
theorem nrA(k:U4)(L:List (F2×F2×F2))(o:F2×F2×F2)(d:Int){ρ:Option Nat}:let a:=Prod.snd o;let b:Fp:=0;(A5 [])->(Sim w0 F0 K ac (Y6 (nyR k L o) [(31,.v (.c (.int .i64 d)))]) cX aX)->(∀cY aY,Sim w0 F0 K ac (B0 43 [4,5,7,8] [.pt 48 0,.pt 64 0,.pt 272 0,.ii d] [48,64,272,320] [(B9 [(.ob (.p b)),(.ob (.p b)),(.ob (.p b)),(.ob (.p b)),(.ob (.p b)),(.ob (.p b))]),(D9 (Sq.pt2 L)),(B9 [(.ob (.p (Prod.fst (Prod.fst o)))),(.ob (.p (Prod.snd (Prod.fst o)))),(.ob (.p (Prod.fst (Prod.fst a)))),(.ob (.p (Prod.snd (Prod.fst a)))),(.ob (.p (Prod.fst (Prod.snd a)))),(.ob (.p (Prod.snd (Prod.snd a))))]),(B9 [.ob (.fr k)])] 400 [[4,5,7,30]] [([.pt 48 0,.pt 64 0,.pt 272 0,(.ci (.clo 100 [(320,0)]))],43)]) cY aY->Wq Tryz.prog Q ([]) ac Exit.normal aY cY.w ρ)->Wq Tryz.prog Q ([.code (rfA JE)]) ac .normal aX cX.w ρ :=fun ho hs hK=>
 J5 (unroll:=false) (n:=3000) (path:=[]) (o:=⟨_,_,_,_,_,_,_⟩) DL (by kernel_rfl) (by kernel_rfl) ho (by kernel_rfl) (by kernel_rfl) hs hK
def nrB(k:U4)(L:List (F2×F2×F2))(o:F2×F2×F2)(d:Int):St:=B0 43 [4,5,7,8] [.pt 48 0,.pt 64 0,.pt 272 0,.ii d] [48,64,272,320] [(B9 [(.ob (.p (0:Fp))),(.ob (.p (0:Fp))),(.ob (.p (0:Fp))),(.ob (.p (0:Fp))),(.ob (.p (0:Fp))),(.ob (.p (0:Fp)))]),(D9 (Sq.pt2 L)),some (.fl [.ob (.p o.1.1),.ob (.p o.1.2),.ob (.p o.2.1.1),.ob (.p o.2.1.2),.ob (.p o.2.2.1),.ob (.p o.2.2.2)]),(B9 [.ob (.fr k)])] 400 [[4,5,7,30]] [([.pt 48 0,.pt 64 0,.pt 272 0,(.ci (.clo 100 [(320,0)]))],43)]
def TG:List KI:=(run rtM false 3000 (⟨[.code (rfB JE)],.normal,nrB dF dF dF dF⟩:G5) []).cfg.k
theorem nrC(k:U4)(L:List (F2×F2×F2))(o:F2×F2×F2)(d:Int){ρ:Option Nat}:let a:=Prod.snd o;let b:Fp:=0;(A5 [])->(Sim w0 F0 K ac (nrB k L o d) cX aX)->(∀cY aY,Sim w0 F0 K ac (B0 43 [4,5,7,8,32] [.pt 48 0,.pt 64 0,.pt 272 0,.ii d,.ii 0] [48,64,272,320] [(B9 [(.ob (.p b)),(.ob (.p b)),(.ob (.p b)),(.ob (.p b)),(.ob (.p b)),(.ob (.p b))]),(D9 (Sq.pt2 L)),(B9 [(.ob (.p (Prod.fst (Prod.fst o)))),(.ob (.p (Prod.snd (Prod.fst o)))),(.ob (.p (Prod.fst (Prod.fst a)))),(.ob (.p (Prod.snd (Prod.fst a)))),(.ob (.p (Prod.fst (Prod.snd a)))),(.ob (.p (Prod.snd (Prod.snd a))))]),(B9 [.ob (.fr k)])] 416 [[4,5,7,30]] [([.pt 48 0,.pt 64 0,.pt 272 0,(.ci (.clo 100 [(320,0)]))],43)]) cY aY->Wq Tryz.prog Q (TG) ac Exit.normal aY cY.w ρ)->Wq Tryz.prog Q ([.code (rfB JE)]) ac .normal aX cX.w ρ :=fun ho hs hK=>
 J5 (unroll:=false) (n:=3000) (path:=[]) (o:=⟨_,_,_,_,_,_,_⟩) DL (by kernel_rfl) (by kernel_rfl) ho (by kernel_rfl) (by kernel_rfl) hs hK
def nrS(k:U4)(L:List (F2×F2×F2))(o:F2×F2×F2)(d j:Int):St:=B0 43 [4,5,7,8,32] [.pt 48 0,.pt 64 0,.pt 272 0,.ii d,.v (.c (.int .i64 j))] [48,64,272,320] [(B9 [(.ob (.p (0:Fp))),(.ob (.p (0:Fp))),(.ob (.p (0:Fp))),(.ob (.p (0:Fp))),(.ob (.p (0:Fp))),(.ob (.p (0:Fp)))]),(D9 (Sq.pt2 L)),some (.fl [.ob (.p o.1.1),.ob (.p o.1.2),.ob (.p o.2.1.1),.ob (.p o.2.1.2),.ob (.p o.2.2.1),.ob (.p o.2.2.2)]),(B9 [.ob (.fr k)])] 416 [[4,5,7,30]] [([.pt 48 0,.pt 64 0,.pt 272 0,(.ci (.clo 100 [(320,0)]))],43)]
theorem nrD(k:U4)(L:List (F2×F2×F2))(o:F2×F2×F2)(d j:Int){ρ:Option Nat}:let a:=Prod.snd (jtw o);let b:Fp:=0;let c:=Prod.fst (jtw o);(A5 [((decide (j<(4:Int)))=true)])->(Sim w0 F0 K ac (nrS k L o d j) cX aX)->(∀cY aY,Sim w0 F0 K ac (B0 43 [4,5,7,8,32] [.pt 48 0,.pt 64 0,.pt 272 0,.ii d,(.ii (wrap .i64 (j+1)))] [48,64,272,320] [(B9 [(.ob (.p b)),(.ob (.p b)),(.ob (.p b)),(.ob (.p b)),(.ob (.p b)),(.ob (.p b))]),(D9 (Sq.pt2 L)),(B9 [(.ob (.p (Prod.fst c))),(.ob (.p (Prod.snd c))),(.ob (.p (Prod.fst (Prod.fst a)))),(.ob (.p (Prod.snd (Prod.fst a)))),(.ob (.p (Prod.fst (Prod.snd a)))),(.ob (.p (Prod.snd (Prod.snd a))))]),(B9 [.ob (.fr k)])] 512 [[4,5,7,30]] [([.pt 48 0,.pt 64 0,.pt 272 0,(.ci (.clo 100 [(320,0)]))],43)]) cY aY->Wq Tryz.prog Q (D4 TG) ac Exit.normal aY cY.w ρ)->Wq Tryz.prog Q (B7 TG) ac .normal aX cX.w ρ :=fun ho hs hK=>
 J5 (unroll:=false) (n:=3000) (path:=[true]) (o:=⟨_,_,_,_,_,_,_⟩) DL (by kernel_rfl) (by kernel_rfl) ho (by kernel_rfl) (by kernel_rfl) hs hK
theorem nrE(k:U4)(L:List (F2×F2×F2))(o:F2×F2×F2)(d j:Int){ρ:Option Nat}:let a:=jpl o (List.getD L (d).toNat EN);let b:=Prod.snd a;let c:Fp:=0;(A5 [((decide (j<(4:Int)))=false),(0<=d),(d<(16:Int)),(0=0),((d).toNat<L.length)])->(Sim w0 F0 K ac (nrS k L o d j) cX aX)->(∀cY aY,Sim w0 F0 K ac (B0 43 [4] [.pt 48 0] [48,64,272,320] [(B9 [(.ob (.p c)),(.ob (.p c)),(.ob (.p c)),(.ob (.p c)),(.ob (.p c)),(.ob (.p c))]),(D9 (Sq.pt2 L)),(B9 [(.ob (.p (Prod.fst (Prod.fst a)))),(.ob (.p (Prod.snd (Prod.fst a)))),(.ob (.p (Prod.fst (Prod.fst b)))),(.ob (.p (Prod.snd (Prod.fst b)))),(.ob (.p (Prod.fst (Prod.snd b)))),(.ob (.p (Prod.snd (Prod.snd b))))]),(B9 [.ob (.fr k)])] 528 [[4,5,7,30]] [([.pt 48 0,.pt 64 0,.pt 272 0,(.ci (.clo 100 [(320,0)]))],43)]) cY aY->Wq Tryz.prog Q ([]) ac Exit.normal aY cY.w ρ)->Wq Tryz.prog Q (B7 TG) ac .normal aX cX.w ρ :=fun ho hs hK=>
 J5 (unroll:=false) (n:=3000) (path:=[false]) (o:=⟨_,_,_,_,_,_,_⟩) DL (by kernel_rfl) (by kernel_rfl) ho (by kernel_rfl) (by kernel_rfl) hs hK
def nrF(k:U4)(L:List (F2×F2×F2))(o:F2×F2×F2):St:=B0 43 [4] [.pt 48 0] [48,64,272,320] [(B9 [(.ob (.p (0:Fp))),(.ob (.p (0:Fp))),(.ob (.p (0:Fp))),(.ob (.p (0:Fp))),(.ob (.p (0:Fp))),(.ob (.p (0:Fp)))]),(D9 (Sq.pt2 L)),some (.fl [.ob (.p o.1.1),.ob (.p o.1.2),.ob (.p o.2.1.1),.ob (.p o.2.1.2),.ob (.p o.2.2.1),.ob (.p o.2.2.2)]),(B9 [.ob (.fr k)])] 528 [[4,5,7,30]] [([.pt 48 0,.pt 64 0,.pt 272 0,(.ci (.clo 100 [(320,0)]))],43)]
theorem nrX(k:U4)(L:List (F2×F2×F2))(o:F2×F2×F2):let a:=Prod.snd o;A5 []->Sg Tryz.prog (nyR k L o) (B0 43 [4] [.pt 48 0] [48] [(B9 [(.ob (.p (Prod.fst (Prod.fst o)))),(.ob (.p (Prod.snd (Prod.fst o)))),(.ob (.p (Prod.fst (Prod.fst a)))),(.ob (.p (Prod.snd (Prod.fst a)))),(.ob (.p (Prod.fst (Prod.snd a)))),(.ob (.p (Prod.snd (Prod.snd a))))])] 416 [] []) .ret ([]) (rfR JE):=E4 false 3000 [] DL
def nrZ(o:F2×F2×F2):St:=B0 43 [4] [.pt 48 0] [48] [some (.fl [.ob (.p o.1.1),.ob (.p o.1.2),.ob (.p o.2.1.1),.ob (.p o.2.1.2),.ob (.p o.2.2.1),.ob (.p o.2.2.2)])] 416 [] []
theorem C5y(o:F2×F2×F2):let b:=Prod.snd o;E2 rtM Tryz.f49 false 3000 (⟨[],.ret,nrZ o⟩) [] [] []=(some ([],((.v (.a [(.ob (.p (Prod.fst (Prod.fst o)))),(.ob (.p (Prod.snd (Prod.fst o)))),(.ob (.p (Prod.fst (Prod.fst b)))),(.ob (.p (Prod.snd (Prod.fst b)))),(.ob (.p (Prod.fst (Prod.snd b)))),(.ob (.p (Prod.snd (Prod.snd b))))])),[]))):=by intros;kernel_rfl
end
end
section
def UQ(l:List (F2×F2×F2)):Nat->Nat->List It
 | _,0=>[]
 | i,n+1=>.ob (.p (l.getD i EN).1.1) :: .ob (.p (l.getD i EN).1.2) :: .ob (.p (l.getD i EN).2.1.1) :: .ob (.p (l.getD i EN).2.1.2) :: .ob (.p (l.getD i EN).2.2.1) :: .ob (.p (l.getD i EN).2.2.2)::UQ l (i+1) n
theorem SA{x:C0}(L:List (F2×F2×F2)):∀(n i:Nat) (cs:List Value),C6 x.D (UQ L i n) cs->cs.length=n*36∧∀j,j<n->∃c,C6 x.D (W8 (L.getD (i+j) EN)) c∧∀(q:Nat) (v:Value),c[q]? = some v->cs[j*36+q]? = some v
 | 0,i,cs,h=>by
  have h:cs=[]:=h;subst h;exact ⟨rfl,fun j hj=>absurd hj (Nat.not_lt_zero _)⟩
 | n+1,i,cs,h=>by
  obtain ⟨c1,r1,e1,h1,c2,r2,e2,h2,c3,r3,e3,h3,c4,r4,e4,h4,c5,r5,e5,h5,c6,r6,e6,h6,h7⟩:=h;obtain ⟨hl,hj⟩:=SA L n (i+1) r6 h7;have l1:c1.length=6:=AW h1;have l2:c2.length=6:=AW h2;have l3:c3.length=6:=AW h3;have l4:c4.length=6:=AW h4;have l5:c5.length=6:=AW h5;have l6:c6.length=6:=AW h6;subst e1 e2 e3 e4 e5 e6;refine ⟨by simp only[List.length_append];omega,fun j hjn=>?_⟩
  have e:c1++(c2++(c3++(c4++(c5++(c6++r6)))))=(c1++(c2++(c3++(c4++(c5++c6)))))++r6:=by simp
  have hl36:(c1++(c2++(c3++(c4++(c5++c6))))).length=36:=by simp only[List.length_append];omega
  cases j with
  | zero=>
   refine ⟨c1++(c2++(c3++(c4++(c5++(c6++[]))))),⟨c1,_,rfl,h1,c2,_,rfl,h2,c3,_,rfl,h3,c4,_,rfl,h4,c5,_,rfl,h5,c6,_,rfl,h6,rfl⟩,fun q v hq=>?_⟩
   rw[List.append_nil] at hq;have hlt:q<(c1++(c2++(c3++(c4++(c5++c6))))).length:=by
    rcases Nat.lt_or_ge q (c1++(c2++(c3++(c4++(c5++c6))))).length with h | h
    ·exact h
    ·rw[List.getElem?_eq_none h] at hq;cases hq
   rw[Nat.zero_mul,Nat.zero_add,<-hq,e,List.getElem?_append_left hlt]
  | succ j=>
   obtain ⟨c,hc,hv⟩:=hj j (by omega)
   rw[show i+1+j=i+(j+1) from by omega] at hc
   refine ⟨c,hc,fun q v hq=>?_⟩
   rw[e,List.getElem?_append_right (by rw[hl36];omega),hl36,show (j+1)*36+q-36=j*36+q from by omega]
   exact hv q v hq
theorem B0o{x:C0}(L:List (F2×F2×F2))(h:L.length=16)(cs:List Value)(hc:C9 x (.fl (UQ L 0 16)) cs):C9 x (.sq (.pt2 L)) cs:=by
 obtain ⟨hl,hj⟩:=SA L 16 0 cs hc;refine ⟨?_,fun i hi=>?_⟩
 ·show L.length*36<=cs.length
  rw[h,hl];exact Nat.le_refl _
 ·have hi:i<L.length:=hi
  rw[h] at hi;obtain ⟨c,h1,h2⟩:=hj i hi;rw[Nat.zero_add] at h1;exact ⟨c,h1,h2⟩
def D0r(x y:F2):List (F2×F2×F2):=(x,y,0)::List.replicate 15 EN
theorem A8s(a b c d e f:Fp)(k:U4):K2 Tryz.prog 49 [.v (.a [.ob (.p a),.ob (.p b),.ob (.p c),.ob (.p d),.ob (.p e),.ob (.p f)]),.v (.a [.ob (.fr k)])] (.v (.a (W8 (jmn (F:=F2) ((a,b),(c,d),(e,f)) (Am k.val 64))))) []:=by
 generalize hpa:(((a,b),(c,d),(e,f)):F2×F2×F2)=pa;refine BY (fn:=Tryz.f49) (c:=B5 Tryz.f49) Tryz.func49 rfl rfl fun x0 a0 hk hF hs=>?_
 refine ny a b c d e f k ⟨A4,A4,C4⟩ hs fun ac cY aY hs1=>?_
 have hs2:=hs1.blocks (ens' := [some (.fl [.ob (.p a),.ob (.p b),.ob (.p c),.ob (.p d),.ob (.p e),.ob (.p f)]),some (.fl [.ob (.fr k)]),some (.fl [.ob (.p 0),.ob (.p 0),.ob (.p 0),.ob (.p 0),.ob (.p 0),.ob (.p 0)]),some (.sq (.pt2 (D0r (a,b) (c,d))))])
  ⟨.inl rfl,.inl rfl,.inl rfl,.inr ⟨_,_,_,rfl,rfl,rfl,fun cs h=>B0o _ rfl cs h⟩,C4⟩
 refine C5 (ι:={ p:Nat×List (F2×F2×F2) // 1<=p.1∧p.1<=16∧p.2.length=16∧∀j,j<p.1->p.2.getD j EN=Ah pa j }) (fun p=>nyS a b c d e f k p.1.2 (p.1.1:Int)) (fun p=>16-p.1.1) (c:=X5 A0r) (k:=X8 A0r) (by kernel_rfl) (fun p ih ac cY aY hs=>?_)
  ⟨(1,D0r (a,b) (c,d)),Nat.le_refl 1,by show (1:Nat)<=16;omega,rfl,fun j hj=>by
   have:j=0:=by have hj:j<1:=hj;omega
   subst this;rw[<-hpa];rfl⟩ (hs2.nx _)
 obtain ⟨⟨i,L⟩,h1,h16,hL,htab⟩:=p;simp only at ih hs h1 h16 hL htab
 by_cases hi:i<16
 ·have e1:wrap IntKind.i64 ((i:Int)-1)=((i-1:Nat):Int):=by rw[A9 (by omega) (by omega)];omega
  have e2:wrap IntKind.i64 ((i:Int)+1)=((i+1:Nat):Int):=by rw[A9 (by omega) (by omega)];omega
  refine nyA a b c d e f k L i ⟨decide_eq_true (by omega),by rw[e1];omega,by rw[e1];omega,rfl,by rw[e1,Int.toNat_natCast,hL];omega,by omega,by omega,rfl,by rw[Int.toNat_natCast,hL];exact hi,C4⟩ hs fun ac cZ aZ hs3=>?_
  rw[e1,e2,Int.toNat_natCast,Int.toNat_natCast,htab (i-1) (by omega),hpa] at hs3
  have e3:jpl (Ah pa (i-1)) pa=Ah pa i:=by
   obtain ⟨m,rfl⟩:∃m,i=m+1:=⟨i-1,by omega⟩
   rfl
  rw[e3] at hs3;refine ih ⟨(i+1,L.set i (Ah pa i)),by show 1<=i+1;omega,hi,by show (L.set i _).length=16;rw[List.length_set];exact hL,fun j hj=>?_⟩ (by show 16-(i+1)<16-i;omega) ac cZ aZ (hs3.nx _)
  have hj:j<i+1:=hj;show (L.set i (Ah pa i)).getD j EN=_;by_cases e:j=i
  ·subst e
   simp [List.getD,hL,hi]
  ·have:(L.set i (Ah pa i)).getD j EN=L.getD j EN:=by
    simp [List.getD,List.getElem?_set_ne (Ne.symm e)]
   rw[this];exact htab j (by omega)
 ·have:i=16:=by omega
  subst this;refine nyB a b c d e f k L _ ⟨A4,A4,A4,rfl,by rw[hL];decide,C4⟩ hs fun ac cZ aZ hs3=>?_
  rw[htab 0 (by decide)] at hs3
  obtain ⟨e1,e2⟩:=GG (k:=JE) (by kernel_rfl)
  rw[e1];have eP:(rfP JE).toList=[31]:=by kernel_rfl
  have eG:rfG JE = .tmp 30:=by kernel_rfl
  refine Cm (ps:=rfP JE) e2 hs3 (gf:=100) (caps:=[(320,0)]) (A2 Tryz.func100 rfl rfl) (fun pre=>nyR k L (pre.foldl (jst pa) (Ah pa 0))) (fun s=>by rw[eG];rfl) ⟨_,rfl⟩ (Am k.val 64) B2w A3i
   (fun y z=>.cons ⟨rfl,0,rfl⟩ .nil) (fun z=>by rw[<-Array.length_toList,eP];rfl) (fun pre p hp=>?_) (MN fun s=>rfl) (fun pre d=>nrB k L (pre.foldl (jst pa) (Ah pa 0)) d)
   (fun pre d=>nrF k L ((pre++[d]).foldl (jst pa) (Ah pa 0))) (fun pre d=>⟨_,rfl⟩) (fun pre d hd w1 F1 K1 as1 Q1 l y1 b hs4 hQ=>?_) (fun pre d hd w1 F1 K1 as1 Q1 l y1 b hs4 hQ=>?_) fun D y1 hs4 hD hFD hd=>?_
  ·rw[eP] at hp
   have h43:(nyR k L (pre.foldl (jst pa) (Ah pa 0))).nt=43:=rfl;rw[h43];simp only[List.mem_cons,List.not_mem_nil,or_false] at hp;subst hp;decide
  ·rw[eP] at hs4
   exact nrA k L _ d trivial hs4 fun cZ aZ hs5=>⟨hQ _ _ (hs5.nx _)⟩
  ·have hd16:d<16:=by
    obtain ⟨r,hr⟩:=hd;exact ZF (n:=k.val) 64 d (by rw[hr];simp)
   rw[List.foldl_append] at hQ;generalize pre.foldl (jst pa) (Ah pa 0)=o at hs4 hQ;have hst:List.foldl (jst pa) o [d]=jpl (Ef 4 o) (L.getD d EN):=by
    rw[htab d hd16,List.foldl_cons,List.foldl_nil];exact C4i pa o d
   rw[hst] at hQ;refine nrC k L o d trivial hs4 fun cV aV hs5=>?_
   let I:{ j:Nat // j<=4 } -> List Act->Act->World->Prop:=fun j ac a w=>ac=as1∧∃z,z.w=w∧Sim w1 F1 K1 as1 (nrS k L (Ef j.1 o) d (j.1:Int)) z a
   refine I5 (ρ:=some l) I (fun j=>4-j.1) (c:=X5 TG) (k:=X8 TG) (by kernel_rfl) (fun j ih ac aV w hI=>?_) ⟨0,Nat.zero_le _⟩ ⟨rfl,cV,rfl,hs5.nx _⟩
   obtain ⟨j,hj⟩:=j;obtain ⟨rfl,cV,rfl,hs6⟩:=hI;simp only at ih hs6
   by_cases hj4:j<4
   ·have ej:jtw (Ef j o)=Ef (j+1) o:=(Tn j o).symm
    generalize Ef j o=o1 at hs6 ej;refine nrD k L _ d j ⟨decide_eq_true (by omega),C4⟩ hs6 fun cU aU hs7=>?_
    rw[A9 (n:=(j:Int)+1) (by omega) (by omega),ej] at hs7
    exact ih ⟨j+1,hj4⟩ (by show 4-(j+1)<4-j;omega) _ aU _ ⟨rfl,cU,rfl,hs7.nx _⟩
   ·have:j=4:=by omega
    subst this;refine nrE k L _ d _ ⟨A4,by omega,by omega,rfl,by rw[Int.toNat_natCast,hL];exact hd16,C4⟩ hs6 fun cU aU hs7=>?_
    rw[Int.toNat_natCast] at hs7;generalize jpl (Ef 4 o) (L.getD d EN)=q at hQ hs7;exact ⟨hQ _ _ (hs7.nx _)⟩
  ·have hs5:=hs4.marked rfl rfl D
   show Wq _ _ _ _ _ _ _ _;have ej:(Am k.val 64).foldl (jst pa) (Ah pa 0)=jmn pa (Am k.val 64):=rfl;rw[ej] at hs4 hs5;generalize jmn pa (Am k.val 64)=o at hs4 hs5 ⊢
   refine nrX k L o trivial hs5 fun ac cV aV hs6=>⟨?_⟩
   have hs7:Sim y1.w y1.F (BM y1 AD (AK D)) ac (nrZ o) cV aV:=hs6;exact Ec DL hk hF (C5y o) trivial (fun y v hd=>hd) hs4 hD hFD hd rfl hs7
end
section
def D0j(a:K5)(k:U4):K5:=TN (jmn (C3y a) (Am k.val 64))
def HI:B2
 | [.v (.a [.ob (.p a),.ob (.p b),.ob (.p c),.ob (.p d),.ob (.p e),.ob (.p f)]),.v (.a [.ob (.fr k)])]=>some ([],.v (.a (W8 (jmn (F:=F2) ((a,b),(c,d),(e,f)) (Am k.val 64)))),[])
 | _=>none
def ruA:D6:=rtM.set (E0 rtM.fn 49 HI)
theorem A1v:A7 Tryz.prog ruA:=A8 DL 49 HI (A2 Tryz.func49 rfl rfl) fun args o r es h _=>by
 unfold HI at h;split at h
 ·cases h;exact A8s _ _ _ _ _ _ _
 ·cases h
theorem E3g(a b c d:U6)(i:Bool)(k:U4):let f:U6:=0;C2 ruA Tryz.f17 3000 [.v (.a [.ob (.fp a),.ob (.fp b),.ob (.fp c),.ob (.fp d),.bool i]),.v (.a [.ob (.fr k)])] [true] [] []=(some ([((Bool.not (JH (K5.mk a b c d i)))=true)],((.t [(.a [(.ob (.fp f)),(.ob (.fp f)),(.ob (.fp f)),(.ob (.fp f)),(.lit false)]),(.c (.int .i64 30))]),[]))):=by intros;kernel_rfl
theorem E3h(a b c d:U6)(i:Bool)(k:U4):let g:=K5.mk a b c d i;let f:=TN (jmn (C3y g) (Am (Fin.val k) 64));C2 ruA Tryz.f17 3000 [.v (.a [.ob (.fp a),.ob (.fp b),.ob (.fp c),.ob (.fp d),.bool i]),.v (.a [.ob (.fr k)])] [false] [] []=(some ([((Bool.not (JH g))=false)],((.t [(.a [(.ob (.fp (K5.xa f))),(.ob (.fp (K5.xb f))),(.ob (.fp (K5.ya f))),(.ob (.fp (K5.yb f))),(.bool (K5.inf f))]),(.c (.int .i64 0))]),[]))):=by intros;kernel_rfl
def Lr(a:K5)(k:U4):K5×Int:=if JH a then (D0j a k,0) else (g20,30)
theorem A4v{a:K5}(k:U4)(ha:JH a=true):Lr a k=(D0j a k,0):=by unfold Lr;rw[ha];rfl
theorem B6f{a:K5}(k:U4)(ha:JH a=false):Lr a k=(g20,30):=by unfold Lr;rw[ha];rfl
theorem B6j(a b c d:U6)(i:Bool)(k:U4):K2 Tryz.prog 17 [.v (.a [.ob (.fp a),.ob (.fp b),.ob (.fp c),.ob (.fp d),.bool i]),.v (.a [.ob (.fr k)])] (.t [.a (Lr ⟨a,b,c,d,i⟩ k).1.its,.c (.int .i64 (Lr ⟨a,b,c,d,i⟩ k).2)]) []:=by
 by_cases h1:JH ⟨a,b,c,d,i⟩=true
 ·rw[A4v k h1]
  exact A6 A1v Tryz.func17 (E3h a b c d i k) ⟨by rw[h1];rfl,C4⟩
 ·have h1:JH ⟨a,b,c,d,i⟩=false:=Bool.eq_false_iff.2 h1
  rw[B6f k h1];exact (A6 A1v Tryz.func17 (E3g a b c d i k) ⟨by rw[h1];rfl,C4⟩).conv (fun _ _ h=>h) fun y v hd=>XM hd
def Qc:B2
 | [.v (.a [.ob (.fp a),.ob (.fp b),.ob (.fp c),.ob (.fp d),.bool i]),.v (.a [.ob (.fr k)])]=>some ([],.t [.a (Lr ⟨a,b,c,d,i⟩ k).1.its,.c (.int .i64 (Lr ⟨a,b,c,d,i⟩ k).2)],[])
 | _=>none
def ruC:D6:=ruA.set (E0 ruA.fn 17 Qc)
theorem D6c:A7 Tryz.prog ruC:=A8 A1v 17 Qc (A2 Tryz.func17 rfl rfl) fun args o r es h _=>by
 unfold Qc at h;split at h
 ·cases h;exact B6j _ _ _ _ _ _
 ·cases h
end
section
def kmA:D6:=peE.or ruC
theorem D2l:A7 Tryz.prog kmA:=FD HY D6c
def Z6:B2
 | [.v (.a [.ob (.fp x),.ob (.fp y),.bool j]),.v (.a [.ob (.fr k)]),.v (.c (.int .i64 n))]=>some ([],.t [.c (.sl (.g1 (pwR ⟨x,y,j⟩ k n).1)),.c (.int .i64 (pwR ⟨x,y,j⟩ k n).2)],[])
 | _=>none
def kmB:D6:=kmA.set (E0 kmA.fn 16 Z6)
theorem Ve:A7 Tryz.prog kmB:=A8 D2l 16 Z6 (A2 Tryz.func16 rfl rfl) fun args o r es h _=>by
 unfold Z6 at h;split at h
 ·cases h;exact Ic ⟨_,_,_⟩ _ _
 ·cases h
theorem mkA(k:U4)(n:Int):let b:U6:=0;C2 kmB Tryz.f6 3000 [.v (.a [.ob (.fr k)]),.v (.c (.int .i64 n))] [true] [] []=(some ([((decide (n<(1:Int)))=true)],((.t [(.a [(.sl (Sq.g1 ([]:List G0))),(.ob (.fp b)),(.ob (.fp b)),(.ob (.fp b)),(.ob (.fp b)),(.lit false)]),(.c (.int .i64 1))]),[]))):=by intros;kernel_rfl
theorem mkB(k:U4)(n:Int):let b:U6:=0;C2 kmB Tryz.f6 3000 [.v (.a [.ob (.fr k)]),.v (.c (.int .i64 n))] [false,true] [] []=(some ([((decide (n<(1:Int)))=false),((decide (n > (4096:Int)))=true)],((.t [(.a [(.sl (Sq.g1 ([]:List G0))),(.ob (.fp b)),(.ob (.fp b)),(.ob (.fp b)),(.ob (.fp b)),(.lit false)]),(.c (.int .i64 1))]),[]))):=by intros;kernel_rfl
theorem mkC(k:U4)(n:Int):let d:=Lr MR (S4.E6 (S4.E8 k));let b:=Prod.fst d;C2 kmB Tryz.f6 3000 [.v (.a [.ob (.fr k)]),.v (.c (.int .i64 n))] [false,false,false,false] [] []=(some ([((decide (n<(1:Int)))=false),((decide (n > (4096:Int)))=false),(((Prod.snd (pwR BK k n)) != (0:Int))=false),(((Prod.snd d) != (0:Int))=false)],((.t [(.a [(.sl (Sq.g1 (Prod.fst (pwR BK k n)))),(.ob (.fp (K5.xa b))),(.ob (.fp (K5.xb b))),(.ob (.fp (K5.ya b))),(.ob (.fp (K5.yb b))),(.bool (K5.inf b))]),(.c (.int .i64 0))]),[]))):=by intros;kernel_rfl
end
section
theorem TL:onG BK=true:=by decide +kernel
theorem D3x:JH MR=true:=by decide +kernel
theorem A4s{x:C0}{i1 i2 i3 i4 i5 k:It}{b:Bool}{v:Value}(h:B8 x (.t [.a [i1,i2,i3,i4,i5,.lit b],.c k]) v):B8 x (.t [.a [i1,i2,i3,i4,i5,.bool b],.c k]) v:=by
 obtain ⟨vs,e,hc⟩:=h
 cases hc with
 | cons h1 h2=>
  refine ⟨_,e,.cons ?_ h2⟩
  obtain ⟨cs,e0,c1,r1,e1,h1,c2,r2,e2,h2,c3,r3,e3,h3,c4,r4,e4,h4,c5,r5,e5,h5,c6,r6,e6,⟨d,h6⟩,h7⟩:=h1;exact ⟨cs,e0,c1,r1,e1,h1,c2,r2,e2,h2,c3,r3,e3,h3,c4,r4,e4,h4,c5,r5,e5,h5,c6,r6,e6,⟨d,by cases d<;>exact h6⟩,h7⟩
theorem B4v(k:U4)(n:Int):∃L,L=if n<1∨n > 4096 then [] else (pwR BK k n).1:=⟨_,rfl⟩
def kzL(k:U4)(n:Int):List G0:=Classical.choose (B4v k n)
theorem ZX(k:U4)(n:Int):kzL k n=if n<1∨n > 4096 then [] else (pwR BK k n).1:=Classical.choose_spec (B4v k n)
theorem B4x(k:U4)(n:Int):∃s,s=if n<1∨n > 4096 then g20 else (Lr MR (S4.E6 (S4.E8 k))).1:=⟨_,rfl⟩
def kzS(k:U4)(n:Int):K5:=Classical.choose (B4x k n)
theorem B4y(k:U4)(n:Int):kzS k n=if n<1∨n > 4096 then g20 else (Lr MR (S4.E6 (S4.E8 k))).1:=Classical.choose_spec (B4x k n)
def kzE(n:Int):Int:=if n<1∨n > 4096 then 1 else 0
theorem B5i(k:U4)(n:Int):K2 Tryz.prog 6 [.v (.a [.ob (.fr k)]),.v (.c (.int .i64 n))] (.t [.a (Du (kzL k n) (kzS k n)),.c (.int .i64 (kzE n))]) []:=by
 by_cases h:n<1∨n > 4096
 ·have e1:kzL k n=[]:=(ZX k n).trans (if_pos h)
  have e2:kzS k n=g20:=(B4y k n).trans (if_pos h);have e3:kzE n=1:=if_pos h;rw[e1,e2,e3];by_cases h1:n<1
  ·exact (A6 Ve Tryz.func6 (mkA k n) ⟨decide_eq_true h1,C4⟩).conv (fun _ _ h=>h) fun y v hd=>A4s hd
  ·exact (A6 Ve Tryz.func6 (mkB k n) ⟨decide_eq_false h1,decide_eq_true (by omega),C4⟩).conv (fun _ _ h=>h) fun y v hd=>A4s hd
 ·have e1:kzL k n=(pwR BK k n).1:=(ZX k n).trans (if_neg h)
  have e2:kzS k n=(Lr MR (S4.E6 (S4.E8 k))).1:=(B4y k n).trans (if_neg h);have e3:kzE n=0:=if_neg h;have f1:(pwR BK k n).2=0:=by rw[A1g (by omega) TL]
  have f2:(Lr MR (S4.E6 (S4.E8 k))).2=0:=by rw[A4v _ D3x]
  rw[e1,e2,e3];exact A6 Ve Tryz.func6 (mkC k n) ⟨decide_eq_false (by omega),decide_eq_false (by omega),by rw[f1];rfl,by rw[f2];rfl,C4⟩
end
section
def C5k(a:G0)(k:U4):G0:=GV (jmn (inG a) (Am k.val 64))
theorem C5l{a:G0}(ha:onG a=true)(k:U4):C5k a k=gP (L9 (pG a) k.val):=by
 unfold C5k;generalize hl:Am k.val 64=l;have h:=B4m cv1 (Qr ha).2 (UW a) l;have e:dgV l=k.val:=by rw[<-hl];exact D1k k
 rw[e] at h;exact NI h
end
section
instance:Inhabited G0:=⟨g10⟩
def Lj:B2
 | [.v (.a [.ob (.p x),.ob (.p y),.ob (.p z)]),.v (.a [.ob (.fr k)])]=>some ([],.v (.a (M5 (jmn (x,y,z) (Am k.val 64)))),[])
 | _=>none
def qwA:D6:=qvF.set (E0 qvF.fn 39 Lj)
theorem A1k:A7 Tryz.prog qwA:=A8 DI 39 Lj (A2 Tryz.func39 rfl rfl) fun args o r es h _=>by
 unfold Lj at h;split at h
 ·cases h;exact B5j _ _ _ _
 ·cases h
theorem muA(a b:U6)(i:Bool)(k:U4):C2 qwA Tryz.f13 3000 [.v (.a [.ob (.fp a),.ob (.fp b),.bool i]),.v (.a [.ob (.fr k)])] [true] [] []=(some ([((Bool.not (onG (G0.mk a b i)))=true)],((.t [(.a [(.ob (.fp (0:U6))),(.ob (.fp (0:U6))),(.lit false)]),(.c (.int .i64 30))]),[]))):=by kernel_rfl
theorem muB(a b:U6)(i:Bool)(k:U4):let f:=G0.mk a b i;let d:=GV (jmn (inG f) (Am (Fin.val k) 64));C2 qwA Tryz.f13 3000 [.v (.a [.ob (.fp a),.ob (.fp b),.bool i]),.v (.a [.ob (.fr k)])] [false] [] []=(some ([((Bool.not (onG f))=false)],((.t [(.a [(.ob (.fp (G0.x d))),(.ob (.fp (G0.y d))),(.bool (G0.inf d))]),(.c (.int .i64 0))]),[]))):=by intros;kernel_rfl
def muR(a:G0)(k:U4):G0×Int:=if onG a then (C5k a k,0) else (g10,30)
theorem B6g{a:G0}(k:U4)(ha:onG a=true):muR a k=(C5k a k,0):=by unfold muR;rw[ha];rfl
theorem C5j{a:G0}(k:U4)(ha:onG a=false):muR a k=(g10,30):=by unfold muR;rw[ha];rfl
theorem B6k(a b:U6)(i:Bool)(k:U4):K2 Tryz.prog 13 [.v (.a [.ob (.fp a),.ob (.fp b),.bool i]),.v (.a [.ob (.fr k)])] (.t [.a (muR ⟨a,b,i⟩ k).1.its,.c (.int .i64 (muR ⟨a,b,i⟩ k).2)]) []:=by
 by_cases h1:onG ⟨a,b,i⟩=true
 ·rw[B6g k h1]
  exact A6 A1k Tryz.func13 (muB a b i k) ⟨by rw[h1];rfl,C4⟩
 ·have h1:onG ⟨a,b,i⟩=false:=Bool.eq_false_iff.2 h1
  rw[C5j k h1];exact (A6 A1k Tryz.func13 (muA a b i k) ⟨by rw[h1];rfl,C4⟩).conv (fun _ _ h=>h) fun y v hd=>FP hd
def Qb:B2
 | [.v (.a [.ob (.fp a),.ob (.fp b),.bool i]),.v (.a [.ob (.fr k)])]=>some ([],.t [.a (muR ⟨a,b,i⟩ k).1.its,.c (.int .i64 (muR ⟨a,b,i⟩ k).2)],[])
 | _=>none
def qwC:D6:=qwA.set (E0 qwA.fn 13 Qb)
theorem B9j:A7 Tryz.prog qwC:=A8 A1k 13 Qb (A2 Tryz.func13 rfl rfl) fun args o r es h _=>by
 unfold Qb at h;split at h
 ·cases h;exact B6k _ _ _ _
 ·cases h
end
section
section
variable {w0:World} {F0:Nat->Prop} {K:Kp} {ac:List Act} {Q:Exit->Act->World->Prop} {cX:C0} {aX:Act}
def Xe:List KI:=(run AC false 3000 (⟨[.code (B5 Tryz.f107)],.normal,D2 Tryz.f107.ntmps [.v (.a [.ob (.fr dF)])]⟩:G5) []).cfg.k
theorem di(k:U4):A5 []->Sg Tryz.prog (D2 Tryz.f107.ntmps [.v (.a [.ob (.fr k)])]) (B0 49 [1,3,4,5] [.pt 16 0,(.ci (.val (Value.slice Option.none 0 0))),.ii 0,.ii 0] [16] [(B9 [.ob (.fr k)])] 96 [] []) .normal (Xe) ([.code (B5 Tryz.f107)]):=E4 false 3000 [] I1
def diS(k:U4)(L:List Int)(n:Nat)(c i :Int):St:=B0 49 [1,3,4,5] [.pt 16 0,.v (.c (.slc 17 0 n 1)),.v (.c (.int .i64 c)),.v (.c (.int .i64 i))] [16,17] [(B9 [.ob (.fr k)]),some (.sq (.int L))] 96 [] []
def diI(k:U4)(L:List Int)(n:Nat)(i d j :Int):St:=B0 49 [1,3,5,6,18] [.pt 16 0,(.ci (.slc 17 0 n 1)),.ii i,.v (.c (.int .i64 d)),.v (.c (.int .i64 j))] [16,17] [(B9 [.ob (.fr k)]),(D9 (.int L))] 240 [] []
def IU:List KI:=(run AC false 3000 (⟨B7 Xe,.normal,diS dF dF dF dF dF⟩:G5) [true]).cfg.k
theorem diA(k:U4)(L:List Int)(n:Nat)(c i:Int):A5 [((decide (i<(256:Int)))=true)]->Sg Tryz.prog (diS k L n c i) (diI k L n i c (0:Int)) .normal (IU) (B7 Xe):=E4 false 3000 [true] I1
section
variable (k:U4) (L:List Int) (n:Nat) (i d j:Int)
theorem diB:let b:=wrap .i64 (i+j);let c:Int:=64;let a:=wrap .i64 (Int.tdiv b c);let f:=Int.tmod b c;A5 [((decide (j<(5:Int)))=true),((decide (b<(256:Int)))=true),(c≠(0:Int)),(0<=a),(a<(4:Int)),((0+((a).toNat*1))<(Ob.k (.fr k))),(c≠(0:Int)),(0<=f),(0<=j)]->Sg Tryz.prog (diI k L n i d j) (St.z (diI k L n i (wrap .i64 (d+(wrap .i64 ((wrap .i64 (E1 BinOp.and IntKind.u64 (Int.fdiv (A1 (Ob.n (.fr k)) (0+((a).toNat*1))) ((2:Int) ^ (Min.min (f).toNat 64))) (1:Int)))*((2:Int) ^ (Min.min (j).toNat 64)))))) (wrap .i64 (j+1))) 640) .normal (D4 IU) (B7 IU):=E4 false 3000 [true,true] I1
theorem diC:A5 [((decide (j<(5:Int)))=true),((decide ((wrap .i64 (i+j))<(256:Int)))=false)]->Sg Tryz.prog (diI k L n i d j) (St.z (diI k L n i d (wrap .i64 (j+1))) 416) .normal (D4 IU) (B7 IU):=E4 false 3000 [true,false] I1
theorem diD:let a:=L.length+1;A5 [((decide (j<(5:Int)))=false),((decide (d > (16:Int)))=true),((a*8)<=140737488355328),(a<=maxLen),(n=L.length),(1=1)]->Sg Tryz.prog (diI k L n i d j) (St.z (diS k (L++[(wrap .i64 (d-(32:Int)))]) a (1:Int) (wrap .i64 (i+(5:Int)))) 496) .normal (D4 Xe) (B7 IU):=E4 false 3000 [false,true] I1
theorem diE:let a:=L.length+1;A5 [((decide (j<(5:Int)))=false),((decide (d > (16:Int)))=false),((a*8)<=140737488355328),(a<=maxLen),(n=L.length),(1=1)]->Sg Tryz.prog (diI k L n i d j) (St.z (diS k (L++[d]) a (0:Int) (wrap .i64 (i+(5:Int)))) 432) .normal (D4 Xe) (B7 IU):=E4 false 3000 [false,false] I1
end
theorem C3g(k:U4)(L:List Int)(n:Nat)(c i:Int):E2 AC Tryz.f107 false 3000 (⟨B7 Xe,.normal,diS k L n c i⟩) [false,false] [] [17]=(some ([((decide (i<(256:Int)))=false),((decide (c > (0:Int)))=false),(n=L.length)],((.ci (.sl (.int L))),[]))):=by kernel_rfl
end
end
section
theorem A6t(k:U4){m j:Nat}(h:m+j<256)(hj:j<5):wrap IntKind.i64 ((wrap IntKind.i64 (E1 BinOp.and IntKind.u64 (Int.fdiv (A1 (Ob.n (Ob.fr k)) (0+(((wrap IntKind.i64 (Int.tdiv (wrap IntKind.i64 ((m:Int)+(j:Int))) (64:Int)))).toNat*1))) ((2:Int) ^ (Min.min ((Int.tmod (wrap IntKind.i64 ((m:Int)+(j:Int))) (64:Int))).toNat 64))) (1:Int)))*((2:Int) ^ (Min.min ((j:Int)).toNat 64)))=((k.val / 2 ^ (m+j) % 2*2 ^ j:Nat):Int):=by
 rw[A9 (n:=(m:Int)+(j:Int)) (by omega) (by omega),<-Int.natCast_add]
 generalize hi:m+j=i at *;have e1:Int.tdiv (i:Int) (64:Int)=((i / 64:Nat):Int):=Int.tdiv_eq_ediv_of_nonneg (by omega)
 have e2:Int.tmod (i:Int) (64:Int)=((i % 64:Nat):Int):=Int.tmod_eq_emod_of_nonneg (by omega)
 rw[e1,e2,A9 (n:=((i / 64:Nat):Int)) (by omega) (by omega),Int.toNat_natCast,Int.toNat_natCast,Int.toNat_natCast]
 have e3:Min.min (i % 64) 64=i % 64:=by omega
 have e4:0+i / 64*1=i / 64:=by omega
 have e5:Min.min j 64=j:=by omega
 rw[e3,e4,e5];have hl:A1 (Ob.n (Ob.fr k)) (i / 64)=((k.val / 2 ^ (64*(i / 64)) % 18446744073709551616:Nat):Int):=rfl;rw[hl];have hb:k.val / 2 ^ (64*(i / 64)) % 18446744073709551616 / 2 ^ (i % 64) % 2=k.val / 2 ^ i % 2:=by
  have h64:18446744073709551616=2 ^ (i % 64)*(2*2 ^ (63-i % 64)):=by
   rw[<-Nat.pow_succ',<-Nat.pow_add,show i % 64+(63-i % 64+1)=64 from by omega]
  rw[h64,Nat.mod_mul_right_div_self,Nat.mod_mul_right_mod,Nat.div_div_eq_div_mul,<-Nat.pow_add,show 64*(i / 64)+i % 64=i from Nat.div_add_mod i 64]
 rw[<-hb];have hlt:k.val / 2 ^ (64*(i / 64)) % 18446744073709551616<18446744073709551616:=Nat.mod_lt _ A4;generalize k.val / 2 ^ (64*(i / 64)) % 18446744073709551616=w at *;have hp:((2:Int) ^ (i % 64))=((2 ^ (i % 64):Nat):Int):=by simp
 have hp2:((2:Int) ^ j)=((2 ^ j:Nat):Int):=by simp
 rw[hp,hp2,Int.fdiv_eq_ediv_of_nonneg _ (Int.natCast_nonneg _),<-Int.natCast_ediv];generalize w / 2 ^ (i % 64)=v;have ha:E1 BinOp.and IntKind.u64 (v:Int) (1:Int)=((v % 2:Nat):Int):=by
  show wrap IntKind.u64 ((BitVec.ofInt 64 (v:Int) &&& BitVec.ofInt 64 ((1:Nat):Int)).toNat:Int)=_;rw[BitVec.ofInt_natCast,BitVec.ofInt_natCast,BitVec.toNat_and,BitVec.toNat_ofNat,BitVec.toNat_ofNat];have e:1 % 2 ^ 64=2 ^ 1-1:=by decide
  rw[e,Nat.and_two_pow_sub_one_eq_mod];show (((v % 2 ^ 64 % 2 ^ 1:Nat):Int)) % 18446744073709551616=_;omega
 have h32:2 ^ j<=2 ^ 4:=Nat.pow_le_pow_right A4 (by omega)
 have h2:v % 2<2:=Nat.mod_lt _ A4;have hm:v % 2*2 ^ j<=1*2 ^ 4:=Nat.mul_le_mul (by omega) h32
 rw[ha,A9 (n:=((v % 2:Nat):Int)) (by omega) (by omega),<-Int.natCast_mul,A9 (by omega) (by omega)]
theorem C1y(k m j:Nat):k / 2 ^ m % 2 ^ (j+1)=k / 2 ^ m % 2 ^ j+k / 2 ^ (m+j) % 2*2 ^ j:=by
 rw[Nat.pow_succ,Nat.mod_mul,Nat.div_div_eq_div_mul,<-Nat.pow_add,Nat.mul_comm (2 ^ j)]
theorem D7q(k m:Nat):k / 2 ^ (5*m) % 2 ^ 5=k / 32 ^ m % 32:=by
 rw[Nat.pow_mul]
theorem C1r(k:U4):k.val<2 ^ 256:=by
 have h:B4=2 ^ 256:=by decide +kernel
 rw[<-h];exact k.isLt
theorem ZG(k:U4){N:Nat}(hN:N=52):K2 Tryz.prog 107 [.v (.a [.ob (.fr k)])] (.v (.c (.sl (.int (dgW k.val N).1)))) []:=by
 refine H2 (fn:=Tryz.f107) (c:=B5 Tryz.f107) Tryz.func107 rfl rfl fun x0 a0 hk hF hs=>?_
 refine di k trivial hs fun ac cY aY hs1=>?_
 have hs2:=hs1.nilRow (p:=17) (q:=.int []) rfl A4 rfl (ml' := [16,17]) (ens' := [some (.fl [.ob (.fr k)]),some (.sq (.int []))]) (fun r=>UP A4) (svs' := [.v (.c (.ptr 16 0)),.v (.c (.slc 17 0 0 1)),.v (.c (.int .i64 0)),.v (.c (.int .i64 0))]) ⟨.inl rfl,.inr ⟨1,rfl,rfl⟩,.inl rfl,.inl rfl,C4⟩
 change Wq Tryz.prog _ _ _ _ _ (G4 cY 17).w
 refine C5 (ι:={ m:Nat // m<=N }) (fun m=>diS k (dgW k.val m.1).1 m.1 ((dgW k.val m.1).2:Int) ((5*m.1:Nat):Int)) (fun m=>N-m.1) (c:=X5 Xe) (k:=X8 Xe) (by kernel_rfl) (fun m ih ac cY aY hs=>?_) ⟨0,Nat.zero_le _⟩ (hs2.nx _)
 obtain ⟨m,hm⟩:=m;simp only at ih hs
 have hc:=KQ k.val m;have hl:=Gx k.val m;by_cases h:m<N
 ·refine diA k _ m _ _ ⟨decide_eq_true (by omega),C4⟩ hs fun ac cZ aZ hs3=>?_
  have e0:(((dgW k.val m).2:Nat):Int)=(((dgW k.val m).2+k.val / 2 ^ (5*m) % 2 ^ 0:Nat):Int):=by rw[Nat.pow_zero,Nat.mod_one,Nat.add_zero]
  rw[e0] at hs3;refine C5 (ι:={ j:Nat // j<=5 }) (fun j=>diI k (dgW k.val m).1 m ((5*m:Nat):Int) (((dgW k.val m).2+k.val / 2 ^ (5*m) % 2 ^ j.1:Nat):Int) (j.1:Int)) (fun j=>5-j.1) (c:=X5 IU) (k:=X8 IU) (by kernel_rfl) (fun j ih2 ac cY aY hs=>?_) ⟨0,Nat.zero_le _⟩ (hs3.nx _)
  obtain ⟨j,hj⟩:=j;simp only at ih2 hs
  have hpj:k.val / 2 ^ (5*m) % 2 ^ j<2 ^ j:=Nat.mod_lt _ (Nat.two_pow_pos _);have hj5:2 ^ j<=2 ^ 5:=Nat.pow_le_pow_right A4 hj;by_cases hj2:j<5
  ·have ej:wrap IntKind.i64 ((j:Int)+1)=((j+1:Nat):Int):=by rw[A9 (by omega) (by omega)];rfl
   have hsum:=C1y k.val (5*m) j;by_cases hb:5*m+j<256
   ·have eb:=A6t k hb hj2
    have hw:wrap IntKind.i64 (((5*m:Nat):Int)+(j:Int))=((5*m+j:Nat):Int):=by rw[A9 (by omega) (by omega)];rfl
    have ht:Int.tdiv ((5*m+j:Nat):Int) 64=(((5*m+j) / 64:Nat):Int):=Int.tdiv_eq_ediv_of_nonneg (by omega)
    have ht2:Int.tmod ((5*m+j:Nat):Int) 64=(((5*m+j) % 64:Nat):Int):=Int.tmod_eq_emod_of_nonneg (by omega)
    have hw2:wrap IntKind.i64 (((5*m+j) / 64:Nat):Int)=(((5*m+j) / 64:Nat):Int):=A9 (by omega) (by omega)
    refine diB k _ m _ _ _ ⟨decide_eq_true (by omega),by rw[hw];exact decide_eq_true (by omega),A4,by rw[hw,ht,hw2];omega,by rw[hw,ht,hw2];omega,by rw[hw,ht,hw2,Int.toNat_natCast];show _<4;omega,A4,by rw[hw,ht2];omega,by omega,C4⟩ hs fun ac cU aU hs4=>?_
    rw[eb,ej] at hs4;have hbit:k.val / 2 ^ (5*m+j) % 2*2 ^ j<=1*2 ^ 5:=Nat.mul_le_mul (by omega) hj5
    rw[A9 (by omega) (by omega),<-Int.natCast_add,Nat.add_assoc,<-hsum] at hs4
    exact ih2 ⟨j+1,hj2⟩ (by show 5-(j+1)<5-j;omega) ac cU aU (hs4.nx _)
   ·have hw:wrap IntKind.i64 (((5*m:Nat):Int)+(j:Int))=((5*m+j:Nat):Int):=by rw[A9 (by omega) (by omega)];rfl
    refine diC k _ m _ _ _ ⟨decide_eq_true (by omega),by rw[hw];exact decide_eq_false (by omega),C4⟩ hs fun ac cU aU hs4=>?_
    have h0:k.val / 2 ^ (5*m+j)=0:=Nat.div_eq_of_lt (Nat.lt_of_lt_of_le (C1r k) (Nat.pow_le_pow_right A4 (by omega)))
    rw[h0,Nat.zero_mod,Nat.zero_mul,Nat.add_zero (k.val / 2 ^ (5*m) % 2 ^ j)] at hsum;rw[ej,<-hsum] at hs4;exact ih2 ⟨j+1,hj2⟩ (by show 5-(j+1)<5-j;omega) ac cU aU (hs4.nx _)
  ·have:j=5:=by omega
   subst this;rw[D7q,Nat.add_comm] at hs;have hw5:k.val / 32 ^ m % 32<32:=Nat.mod_lt _ A4;have e5:wrap IntKind.i64 (((5*m:Nat):Int)+5)=((5*(m+1):Nat):Int):=by rw[A9 (by omega) (by omega)];omega
   have hml:(dgW k.val m).1.length<=52:=by omega
   have hmax:(dgW k.val m).1.length+1<=maxLen:=Nat.le_trans (by omega) (show 53<=maxLen by decide)
   by_cases hg:k.val / 32 ^ m % 32+(dgW k.val m).2 > 16
   ·refine diD k _ m _ _ _ ⟨A4,decide_eq_true (by omega),by omega,hmax,hl.symm,rfl,C4⟩ hs fun ac cU aU hs4=>?_
    rw[e5,hl,A9 (by omega) (by omega)] at hs4
    refine ih ⟨m+1,h⟩ (by show N-(m+1)<N-m;omega) ac cU aU ?_
    show Sim _ _ _ _ (diS k (dgW k.val (m+1)).1 (m+1) ((dgW k.val (m+1)).2:Int) ((5*(m+1):Nat):Int)) _ _;rw[IT hg];exact hs4.nx _
   ·refine diE k _ m _ _ _ ⟨A4,decide_eq_false (by omega),by omega,hmax,hl.symm,rfl,C4⟩ hs fun ac cU aU hs4=>?_
    rw[e5,hl] at hs4;refine ih ⟨m+1,h⟩ (by show N-(m+1)<N-m;omega) ac cU aU ?_
    show Sim _ _ _ _ (diS k (dgW k.val (m+1)).1 (m+1) ((dgW k.val (m+1)).2:Int) ((5*(m+1):Nat):Int)) _ _;rw[BR hg];exact hs4.nx _
 ·obtain rfl:m=N:=by omega
  have h0:=(A3m hN (C1r k)).2;exact H4 I1 hk hF (C3g k (dgW k.val m).1 m ((dgW k.val m).2:Int) ((5*m:Nat):Int)) ⟨decide_eq_false (by omega),by rw[h0];decide,hl.symm,C4⟩ (fun y v hd=>hd) hs
end
section
def uaA:D6:=qwC.or S4.gK
theorem D7k:A7 Tryz.prog uaA:=FD B9j S4.A4f
def uaB:D6:=uaA
theorem D7l:A7 Tryz.prog uaB:=D7k
end
section
section
variable {w0:World} {F0:Nat->Prop} {K:Kp} {ac:List Act} {Q:Exit->Act->World->Prop} {cX:C0} {aX:Act}
def Ht:B2
 | [.v (.a [.ob (.fr k)])]=>some ([],.v (.c (.sl (.int (dgW k.val 52).1))),[])
 | _=>none
def ucA:D6:=uaB.set (E0 uaB.fn 107 Ht)
theorem IC:A7 Tryz.prog ucA:=A8 D7l 107 Ht (A2 Tryz.func107 rfl rfl) fun args o r es h _=>by
 unfold Ht at h;split at h
 ·cases h;exact ZG _ (Eq.refl 52)
 ·cases h
def B4g(T:Nat->Option Func)(f:Nat):Option Func:=if f=115 then some Tryz.f115 else T f
def ucB:D6:={ ucA with inl:=B4g ucA.inl }
theorem Gn:A7 Tryz.prog ucB:=by
 refine ⟨IC.ty,IC.mixed,IC.fn,IC.mu,fun f fn h=>?_,IC.ex,IC.inv⟩
 have h:B4g ucA.inl f=some fn:=h;unfold B4g at h;split at h
 ·rename_i hf;cases h;subst hf;exact ⟨Tryz.func115,A2 Tryz.func115 rfl rfl⟩
 exact IC.inl f fn h
def Np:List KI:=(run ucB false 3000 (⟨[.code (B5 Tryz.f108)],.normal,D2 Tryz.f108.ntmps [.v (.c (.sl (.pt dF))),.v (.c (.sl (.int dF)))]⟩:G5) []).cfg.k
theorem kb(P:List (Fp×Fp×Fp))(D:List Int):let a:Fp:=0;A5 []->Sg Tryz.prog (D2 Tryz.f108.ntmps [.v (.c (.sl (.pt P))),.v (.c (.sl (.int D)))]) (B0 45 [1,4,5,9,10,11] [(.ci (.sl (.int D))),.pt 16 0,.pt 32 0,(.ci (.sl (Sq.pt P))),(.ii (P.length:Int)),.ii 0] [16,32] [(B9 [(.ob (.p a)),(.ob (.p a)),(.ob (.p a))]),(B9 [(.ob (.p a)),(.ob (.p a)),(.ob (.p a)),(.ob (.p a)),(.ob (.p a)),(.ob (.p a)),(.ob (.p a)),(.ob (.p a)),(.ob (.p a)),(.ob (.p a)),(.ob (.p a)),(.ob (.p a)),(.ob (.p a)),(.ob (.p a)),(.ob (.p a)),(.ob (.p a)),(.ob (.p a)),(.ob (.p a)),(.ob (.p a)),(.ob (.p a)),(.ob (.p a)),(.ob (.p a)),(.ob (.p a)),(.ob (.p a)),(.ob (.p a)),(.ob (.p a)),(.ob (.p a)),(.ob (.p a)),(.ob (.p a)),(.ob (.p a)),(.ob (.p a)),(.ob (.p a)),(.ob (.p a)),(.ob (.p a)),(.ob (.p a)),(.ob (.p a)),(.ob (.p a)),(.ob (.p a)),(.ob (.p a)),(.ob (.p a)),(.ob (.p a)),(.ob (.p a)),(.ob (.p a)),(.ob (.p a)),(.ob (.p a)),(.ob (.p a)),(.ob (.p a)),(.ob (.p a)),(.ob (.p a)),(.ob (.p a)),(.ob (.p a))])] 96 [] []) .normal (Np) ([.code (B5 Tryz.f108)]):=E4 false 3000 [] Gn
def kbS(P:List (Fp×Fp×Fp))(D:List Int)(S:List (Fp×Fp×Fp))(i:Int):St:=B0 45 [1,4,5,9,10,11] [(.ci (.sl (.int D))),.pt 16 0,.pt 32 0,(.ci (.sl (Sq.pt P))),(.ii (P.length:Int)),.v (.c (.int .i64 i))] [16,32] [(B9 [(.ob (.p (0:Fp))),(.ob (.p (0:Fp))),(.ob (.p (0:Fp)))]),some (.sq (.pt S))] 96 [] []
theorem kbA(P:List (Fp×Fp×Fp))(D:List Int)(S:List (Fp×Fp×Fp))(i:Int):let a:=D.getD i.toNat 0;let b:=(a).toNat<S.length;let c:=i<(P.length:Int);A5 [((decide c)=true),(0<=i),c,(0<=i),(i<(D.length:Int)),((decide (a > (0:Int)))=true),(0<=a),(a<(17:Int)),(0=0),b,(0<=a),(a<(17:Int)),(0=0),b]->Sg Tryz.prog (kbS P D S i) (St.z (kbS P D (List.set S (a).toNat (jpl (List.getD S (a).toNat E7) (List.getD P (i).toNat E7))) (wrap .i64 (i+1))) 496) .normal (D4 Np) (B7 Np):=E4 false 3000 [true,true] Gn
theorem kbB(P:List (Fp×Fp×Fp))(D:List Int)(S:List (Fp×Fp×Fp))(i:Int):let b:=D.getD i.toNat 0;let a:=wrap .i64 ((0:Int)-b);let c:=(a).toNat<S.length;let d:=i<(P.length:Int);A5 [((decide d)=true),(0<=i),d,(0<=i),(i<(D.length:Int)),((decide (b > (0:Int)))=false),((decide (b<(0:Int)))=true),(0<=a),(a<(17:Int)),(0=0),c,(0<=a),(a<(17:Int)),(0=0),c]->Sg Tryz.prog (kbS P D S i) (St.z (kbS P D (List.set S (a).toNat (jpl (List.getD S (a).toNat E7) (jng (List.getD P (i).toNat E7)))) (wrap .i64 (i+1))) 592) .normal (D4 Np) (B7 Np):=E4 false 3000 [true,false,true] Gn
theorem kbC(P:List (Fp×Fp×Fp))(D:List Int)(S:List (Fp×Fp×Fp))(i:Int):let a:=i<(P.length:Int);let b:=D.getD i.toNat 0;A5 [((decide a)=true),(0<=i),a,(0<=i),(i<(D.length:Int)),((decide (b > (0:Int)))=false),((decide (b<(0:Int)))=false)]->Sg Tryz.prog (kbS P D S i) (St.z (kbS P D S (wrap .i64 (i+1))) 416) .normal (D4 Np) (B7 Np):=E4 false 3000 [true,false,false] Gn
def Tq:List KI:=(run ucB false 3000 (⟨B7 Np,.normal,kbS dF dF dF dF⟩:G5) [false]).cfg.k
theorem kbX(P:List (Fp×Fp×Fp))(D:List Int)(S:List (Fp×Fp×Fp))(i:Int):let a:=B9 [(.ob (.p (0:Fp))),(.ob (.p (0:Fp))),(.ob (.p (0:Fp)))];A5 [((decide (i<(P.length:Int)))=false)]->Sg Tryz.prog (kbS P D S i) (B0 21 [0,2,3,4,5] [.pt 32 0,.pt 112 0,.pt 128 0,.pt 144 0,.ii 16] [16,32,112,128,144] [a,(D9 (Sq.pt S)),a,a,a] 176 [[4]] [([.pt 16 0],45)]) .normal (Tq) (B7 Np):=E4 false 3000 [false] Gn
def kbT(S:List (Fp×Fp×Fp))(r o:Fp×Fp×Fp)(d:Int):St:=B0 21 [0,2,3,4,5] [.pt 32 0,.pt 112 0,.pt 128 0,.pt 144 0,.v (.c (.int .i64 d))] [16,32,112,128,144] [(B9 [(.ob (.p (0:Fp))),(.ob (.p (0:Fp))),(.ob (.p (0:Fp)))]),(D9 (Sq.pt S)),(B9 [(.ob (.p (0:Fp))),(.ob (.p (0:Fp))),(.ob (.p (0:Fp)))]),some (.fl [.ob (.p o.1),.ob (.p o.2.1),.ob (.p o.2.2)]),some (.fl [.ob (.p r.1),.ob (.p r.2.1),.ob (.p r.2.2)])] 176 [[4]] [([.pt 16 0],45)]
theorem kbU(S:List (Fp×Fp×Fp))(r o:Fp×Fp×Fp)(d:Int):let a:=jpl r (List.getD S (d).toNat E7);let b:=B9 [(.ob (.p (0:Fp))),(.ob (.p (0:Fp))),(.ob (.p (0:Fp)))];let c:=Prod.snd (jpl o a);A5 [((decide (d > (0:Int)))=true),(0<=d),(d<(17:Int)),(0=0),((d).toNat<S.length)]->Sg Tryz.prog (kbT S r o d) (B0 21 [0,2,3,4,5] [.pt 32 0,.pt 112 0,.pt 128 0,.pt 144 0,(.ii (wrap .i64 (d-1)))] [16,32,112,128,144] [b,(D9 (Sq.pt S)),b,(B9 [(.ob (.p (Prod.fst (jpl o a)))),(.ob (.p (Prod.fst c))),(.ob (.p (Prod.snd c)))]),(B9 [(.ob (.p (Prod.fst a))),(.ob (.p (Prod.fst (Prod.snd a)))),(.ob (.p (Prod.snd (Prod.snd a))))])] 448 [[4]] [([.pt 16 0],45)]) .normal (D4 Tq) (B7 Tq):=E4 false 3000 [true] Gn
theorem C4j(S:List (Fp×Fp×Fp))(r o:Fp×Fp×Fp)(d:Int):E2 ucB Tryz.f108 false 3000 (⟨B7 Tq,.normal,kbT S r o d⟩) [false] [] []=(some ([((decide (d > (0:Int)))=false)],((.v (.a [(.ob (.p (Prod.fst o))),(.ob (.p (Prod.fst (Prod.snd o)))),(.ob (.p (Prod.snd (Prod.snd o))))])),[]))):=by kernel_rfl
end
end
end
end Go.Proofs.YtifiiigbedjceaaGreat
