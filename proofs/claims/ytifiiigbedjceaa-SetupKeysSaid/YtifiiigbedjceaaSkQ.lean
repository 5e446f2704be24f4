/- Parts of a proof, one behind the other: WPu, PPu, WPi, WUa, PUa, Pf, WCp, PCp, WCo1, WCo2, WCo3, PCo3, Ga, WOa, PMz, WTi, WOb, WUb, PUb, WUc, PUc, WCk, PCk, WUd, PUd, WUe, PUe, WLc, WSpw, PSpw, DWo, DPo. No conditions. -/
import Derived.Shelf.Strconv.Itoa0
import Derived.Test.YtifiiigbedjceaaSkP
open Go.IntKind (wrap)
namespace Go.Proofs.Ytifiiigbedjceaa
noncomputable section
section
section
variable {w0:World} {F0:Nat->Prop} {K:Kp} {ac:List Act} {Q:Exit->Act->World->Prop} {cX:Ctx} {aX:Act}
open Go.Shelf

theorem D9y {n:Nat} (h:n<B6):inP (Fin.ofNat B6 n)=Fin.ofNat pN n:=by
 apply Fin.ext
 show (n % B6) % pN=n % pN;rw[Nat.mod_eq_of_lt h]
theorem D5n (n:Int) (h1:0<=n) (h2:n<18446744073709551616):FnD Try.prog 82 [.v (.c (.int .u64 n))] (.v (.a [.ob (.p (Fin.ofNat pN n.toNat))])) []:=by
 refine (A7 C6u Try.func82 (F7e n) ⟨h1,h2,by decide,by decide,by decide,by decide,by decide,by decide,by decide,by decide,by decide,by decide,trivial⟩).conv (fun _ _ h=>h) fun y v hd=>?_
 rw[Nat.add_zero,D9y (by unfold B6;omega)] at hd
 exact hd
theorem E2s (x:Fp):FnD Try.prog 113 [.v (.a [.ob (.p x)])] (.v (.c (.bool (decide (x=0))))) []:=by
 refine (A7 C6u Try.func113 (G4e _) trivial).conv (fun _ _ h=>h) fun y v hd=>?_
 rw[if_pos rfl] at hd;exact hd
def A9j:B7
 | [.v (.c (.int .u64 n))]=>some ([0<=n,n<18446744073709551616],.v (.a [.ob (.p (Fin.ofNat pN n.toNat))]),[])
 | _=>none
def G2f:Env:=qeF.set (E8 qeF.fn 82 A9j)
theorem F6e:A6 Try.prog G2f:=A9 C6u 82 A9j (A4 Try.func82 rfl rfl) fun args o r es h ho=>by
 unfold A9j at h;split at h
 ·cases h;exact D5n _ ho.1 ho.2.1
 ·cases h
def B9f:B7
 | [.v (.a [.ob (.p x)])]=>some ([],.v (.a [.ob (.p (0-x))]),[])
 | _=>none
def G2g:Env:=G2f.set (E8 G2f.fn 115 B9f)
theorem F6f:A6 Try.prog G2g:=A9 F6e 115 B9f (A4 Try.func115 rfl rfl) fun args o r es h _=>by
 unfold B9f at h;split at h
 ·cases h;exact A7 C6u Try.func115 (G5o _) trivial
 ·cases h
def B4j:B7
 | [.v (.a [.ob (.p x)])]=>some ([],.v (.c (.bool (decide (x=0)))),[])
 | _=>none
def qeG:Env:=G2g.set (E8 G2g.fn 113 B4j)
theorem G2h:A6 Try.prog qeG:=A9 F6f 113 B4j (A4 Try.func113 rfl rfl) fun args o r es h _=>by
 unfold B4j at h;split at h
 ·cases h;exact E2s _
 ·cases h

def H1r:Ren:=⟨fun n=>if n=129 then 94 else 0,fun t=>if t=46 then 138 else if t=53 then 26 else t,fun g=>g⟩
theorem G5k:Lays.n129 Try.prog H1r:=
  { mixed:=by kernel_rfl
    f129:=by kernel_rfl
    t3:=by kernel_rfl
    a3:=fun _=>by kernel_rfl
    z3:=fun _=>by kernel_rfl
    v3:=fun _=>by kernel_rfl
    t4:=by kernel_rfl
    a4:=fun _=>by kernel_rfl
    z4:=fun _=>by kernel_rfl
    v4:=fun _=>by kernel_rfl
    t5:=by kernel_rfl
    a5:=fun _=>by kernel_rfl
    z5:=fun _=>by kernel_rfl
    v5:=fun _=>by kernel_rfl
    t9:=by kernel_rfl
    a9:=fun _=>by kernel_rfl
    z9:=fun _=>by kernel_rfl
    v9:=fun _=>by kernel_rfl
    t46:=by kernel_rfl
    a46:=fun _=>by kernel_rfl
    z46:=fun _=>by kernel_rfl
    v46:=fun _=>by kernel_rfl
    t53:=by kernel_rfl
    a53:=fun _=>by kernel_rfl
    z53:=fun _=>by kernel_rfl
    v53:=fun _=>by kernel_rfl }
theorem E0m (n:Int) (h0:0<=n) (h1:n<18446744073709551616):FnD Try.prog 94 [.v (.c (.int .u64 n))] (.v (.c (.int .i64 (Lib.bitLen n.toNat:Nat)))) []:=
 E4r fun x vs hd=>by
  cases hd with | cons d1 hd=>
  cases hd
  rw[K3 d1];exact ⟨_,Any.bits_Len64 G5k n x.w h0 (by omega),⟨rfl,0,rfl⟩⟩
def C5k:B7
 | [.v (.c (.int .u64 n))]=>some ([0<=n,n<18446744073709551616],.v (.c (.int .i64 (Lib.bitLen n.toNat:Nat))),[])
 | _=>none
def F6g:Env:=qeG.set (E8 qeG.fn 94 C5k)
theorem D8b:A6 Try.prog F6g:=A9 G2h 94 C5k (A4 Try.func94 rfl rfl) fun args o r es h ho=>by
 unfold C5k at h;split at h
 ·cases h;exact E0m _ ho.1 ho.2.1
 ·cases h
theorem ct (l:List Int):let b:Int:=l.length;let a:=ite ((16:Int)<b) (16:Int) b;C9 F6g Try.f93 3000 [.v (.c (.sl (.u64 l)))] [] [] []=(some ([(0<=a),(a<=a),(a<=b)],((.ci (.sl (.u64 (List.take (a).toNat (List.drop 0 l))))),[]))):=by intros;kernel_rfl

theorem F2m (l:List Int) (hl:l.length<=16):FnD Try.prog 93 [.v (.c (.sl (.u64 l)))] (.v (.c (.sl (.u64 l)))) []:=by
 have r:=ct l;dsimp only at r;have e:(if (16:Int)<((l.length:Nat):Int) then (16:Int) else ((l.length:Nat):Int))=((l.length:Nat):Int):=if_neg (by omega)
 rw[e,Int.toNat_natCast,List.drop_zero,List.take_length] at r;exact A7 D8b Try.func93 r ⟨by omega,Int.le_refl _,Int.le_refl _,trivial⟩
def C4t:B7
 | [.v (.c (.sl (.u64 l)))]=>some ([l.length<=16],.v (.c (.sl (.u64 l))),[])
 | _=>none
def E1o:Env:=F6g.set (E8 F6g.fn 93 C4t)
theorem B1h:A6 Try.prog E1o:=A9 D8b 93 C4t (A4 Try.func93 rfl rfl) fun args o r es h ho=>by
 unfold C4t at h;split at h
 ·cases h;exact F2m _ ho.1
 ·cases h
def A8p:List KI:=(run E1o false 3000 (⟨[.code (B2 Try.f87)],.normal,D6 Try.f87.ntmps [.v (.c (.sl (.u64 dF)))]⟩:Cfg) []).cfg.k
theorem G9v (l:List Int):A3 [(l.length<=16)]->Sg Try.prog (D6 Try.f87.ntmps [.v (.c (.sl (.u64 l)))]) (A5 26 [0,3] [(.ci (.sl (.u64 l))),(.ii (wrap .i64 ((l.length:Int)-1)))] [] [] 144 [] []) .normal (A8p) ([.code (B2 Try.f87)]):=sgA false 3000 [] B1h
def nbS (l:List Int) (i :Int):St:=A5 26 [0,3] [(.ci (.sl (.u64 l))),.v (.c (.int .i64 i))] [] [] 144 [] []
theorem nbN (l:List Int) (i:Int):A3 [((decide (i >= (0:Int)))=true),(0<=i),(i<(l.length:Int)),(((l.getD i.toNat 0) != (0:Int))=false)]->Sg Try.prog (nbS l i) (A5 26 [0,3] [(.ci (.sl (.u64 l))),(.ii (wrap .i64 (i-1)))] [] [] 304 [] []) .normal (D5 A8p) (B5 A8p):=sgA false 3000 [true,false] B1h
theorem F4q (l:List Int) (i:Int):let a:=l.getD i.toNat 0;let b:=i<(l.length:Int);C2 E1o Try.f87 false 3000 (⟨B5 A8p,.normal,nbS l i⟩) [true,true] [] []=(some ([((decide (i >= (0:Int)))=true),(0<=i),b,((a != (0:Int))=true),(0<=i),b,(0<=a),(a<(18446744073709551616:Int))],((.ii (wrap .i64 ((wrap .i64 ((64:Int)*i))+(((Lib.bitLen (a).toNat):Nat):Int)))),[]))):=by intros;kernel_rfl
theorem F4p (l:List Int) (i:Int):C2 E1o Try.f87 false 3000 (⟨B5 A8p,.normal,nbS l i⟩) [false] [] []=(some ([((decide (i >= (0:Int)))=false)],((.ii (0:Int)),[]))):=by kernel_rfl
theorem E3g (l:List Int) (hl:l.length<=16) (hlim:A7d l):FnD Try.prog 87 [.v (.c (.sl (.u64 l)))] (.v (.c (.int .i64 (P1 l l.length:Nat)))) []:=by
 refine F5 (fn:=Try.f87) (c:=B2 Try.f87) Try.func87 rfl rfl fun x a hk hF hs=>?_
 refine G9v l ⟨hl,trivial⟩ hs fun ac cY aY hs1=>?_
 rw[B0 (by omega) (by omega)] at hs1
 refine C0 (ι:={ n:Nat // n<=l.length∧P1 l n=P1 l l.length }) (fun n=>nbS l ((n.1:Int)-1)) (fun n=>n.1) (c:=lpC A8p) (k:=lpR A8p) (by kernel_rfl) (fun n ih ac cY aY hs=>?_) ⟨l.length,Nat.le_refl _,rfl⟩ (hs1.nx _)
 obtain ⟨n,hn,he⟩:=n;simp only at ih hs
 cases n with
 | zero=>
  rw[<-he];exact C7 B1h hk hF (F4p l _) ⟨by simp,trivial⟩ (fun y v hd=>hd) hs
 | succ n=>
  have e1:((n+1:Nat):Int)-1=(n:Int):=by omega
  rw[e1] at hs;have hg:=B8w hlim n;by_cases h0:l.getD n 0=0
  ·refine nbN l _ ⟨by simp,by omega,by omega,by rw[Int.toNat_natCast,h0];rfl,trivial⟩ hs fun ac cZ aZ hs2=>?_
   rw[B0 (by omega) (by omega)] at hs2
   refine ih ⟨n,by omega,?_⟩ (Nat.lt_succ_self n) ac cZ aZ (hs2.nx _)
   rw[<-he];show _=if l.getD n 0≠0 then _ else P1 l n
   rw[if_neg (by simpa using h0)]
  ·have r:=F4q l (n:Int)
   dsimp only at r;have hb:P1 l l.length=64*n+Lib.bitLen (l.getD n 0).toNat:=by
    rw[<-he];show (if l.getD n 0≠0 then _ else P1 l n)=_
    rw[if_pos h0]
   have hle:=C1u (l.getD n 0).toNat;rw[Int.toNat_natCast] at r;have e2:wrap IntKind.i64 (wrap IntKind.i64 ((64:Int)*(n:Int))+((Lib.bitLen (l.getD n 0).toNat:Nat):Int))=((P1 l l.length:Nat):Int):=by
    rw[hb];generalize Lib.bitLen (l.getD n 0).toNat=B at *;rw[B0 (n:=(64:Int)*(n:Int)) (by omega) (by omega),B0 (by omega) (by omega)]
    omega
   rw[e2] at r;have hne:(l.getD n 0 != (0:Int))=true:=by simpa using h0
   exact C7 B1h hk hF r ⟨by simp,by omega,by omega,hne,by omega,by omega,hg.1,hg.2,trivial⟩ (fun y v hd=>hd) hs
def B6p:B7
 | [.v (.c (.sl (.u64 l)))]=>some ([l.length<=16,A7d l],.v (.c (.int .i64 (P1 l l.length:Nat))),[])
 | _=>none
def qeH:Env:=E1o.set (E8 E1o.fn 87 B6p)
theorem X8:A6 Try.prog qeH:=A9 B1h 87 B6p (A4 Try.func87 rfl rfl) fun args o r es h ho=>by
 unfold B6p at h;split at h
 ·cases h;exact E3g _ ho.1 ho.2.1
 ·cases h
def F8z:List KI:=(run qeH false 3000 (⟨[.code (B2 Try.f86)],.normal,⟨B2b [.v (.c (.val (.func (.yield dF) #[] #[]))),.v (.c (.ptr 0 0))],one (.fl [.val dF]),Try.f86.ntmps,16,[]⟩⟩:Cfg) []).cfg.k
theorem bt (l:Nat) (v:Value):let a:=Array.mk ([]:List Value);A3 []->Sg Try.prog (⟨B2b [.v (.c (.val (.func (.yield l) #[] #[]))),.v (.c (.ptr 0 0))],one (.fl [.val v]),Try.f86.ntmps,16,[]⟩) (A5 24 [0,1,4] [(.ci (.val (Value.func (Fn.yield l) a a))),.pt 0 0,(.ci (.val v))] [0] [(eF_ [(.val v)])] 32 [] []) .normal (F8z) ([.code (B2 Try.f86)]):=sgA false 3000 [] X8
def btA (l:Nat) (v:Value) (e:List Int):St:=A5 24 [0,1,4] [(.ci (.val (Value.func (Fn.yield l) (Array.mk ([]:List Value)) (Array.mk ([]:List Value))))),.pt 0 0,.v (.c (.sl (.u64 e)))] [0] [(eF_ [(.val v)])] 32 [] []
def D2p:List KI:=(run qeH false 3000 (⟨F8z,.normal,btA dF dF dF⟩:Cfg) []).cfg.k
theorem bu (l:Nat) (v:Value) (e:List Int):let a:=Array.mk ([]:List Value);A3 [(e.length<=16),(A7d e)]->Sg Try.prog (btA l v e) (A5 24 [0,1,3] [(.ci (.val (Value.func (Fn.yield l) a a))),.pt 0 0,(.ii (wrap .i64 ((((P1 e e.length):Nat):Int)-1)))] [0] [(eF_ [(.val v)])] 80 [] []) .normal (D2p) (F8z):=sgA false 3000 [] X8
def buS (l:Nat) (v:Value) (i :Int):St:=A5 24 [0,1,3] [(.ci (.val (Value.func (Fn.yield l) (Array.mk ([]:List Value)) (Array.mk ([]:List Value))))),.pt 0 0,.v (.c (.int .i64 i))] [0] [(eF_ [(.val v)])] 80 [] []
def F9a:List KI:=(run qeH false 3000 (⟨B5 D2p,.normal,buS dF dF dF⟩:Cfg) [true]).cfg.k
theorem bv (l:Nat) (v:Value) (i:Int):let b:=Array.mk ([]:List Value);let a:=Value.func (Fn.yield l) b b;A3 [((decide (i >= (0:Int)))=true),((64:Int)≠(0:Int))]->Sg Try.prog (buS l v i) (A5 24 [0,1,3,11,12,14] [(.ci (.val a)),.pt 0 0,.ii i,(.ci (.val a)),(.ci (.val v)),(.ii (wrap .i64 (Int.tdiv i (64:Int))))] [0] [(eF_ [(.val v)])] 176 [] []) .normal (F9a) (B5 D2p):=sgA false 3000 [true] X8
def bvA (l:Nat) (v:Value) (e:List Int) (i :Int):St:=A5 24 [0,1,3,11,12,14] [(.ci (.val (Value.func (Fn.yield l) (Array.mk ([]:List Value)) (Array.mk ([]:List Value))))),.pt 0 0,.ii i,(.ci (.val (Value.func (Fn.yield l) (Array.mk ([]:List Value)) (Array.mk ([]:List Value))))),.v (.c (.sl (.u64 e))),(.ii (wrap .i64 (Int.tdiv i (64:Int))))] [0] [(eF_ [(.val v)])] 176 [] []
def G4l:List KI:=(run qeH false 3000 (⟨F9a,.normal,bvA dF dF dF dF⟩:Cfg) []).cfg.k
theorem bw (l:Nat) (v:Value) (e:List Int) (i:Int):let c:=Array.mk ([]:List Value);let a:=Value.func (Fn.yield l) c c;let d:Int:=64;let b:=wrap .i64 (Int.tdiv i d);let f:=Int.tmod i d;A3 [(0<=b),(b<(e.length:Int)),(d≠(0:Int)),(0<=f)]->Sg Try.prog (bvA l v e i) (A5 24 [0,1,3,11,21] [(.ci (.val a)),.pt 0 0,.ii i,(.ci (.val a)),(.ci (.bool ((E7 BinOp.and IntKind.u64 (Int.fdiv (List.getD e (b).toNat 0) ((2:Int) ^ (Min.min (f).toNat 64))) (1:Int)) == (1:Int))))] [0] [(eF_ [(.val v)])] 288 [] []) .normal (G4l) (F9a):=sgA false 3000 [] X8
theorem bX (l:Nat) (v:Value) (i:Int):A3 [((decide (i >= (0:Int)))=false)]->Sg Try.prog (buS l v i) (A5 24 [] [] [0] [(eF_ [(.val v)])] 112 [] []) .normal ([]) (B5 D2p):=sgA false 3000 [false] X8
theorem bB (l:Nat) (v:Value) (i:Int) (b:Bool):let a:=Array.mk ([]:List Value);A3 []->Sg Try.prog (⟨J7 (E1 .top [0,1,3,11,21] [(.ci (.val (.func (.yield l) #[] #[]))),.v (.c (.ptr 0 0)),.v (.c (.int .i64 i)),(.ci (.val (.func (.yield l) #[] #[]))),.v (.c (.bool b))]) 22 (.ci (.lit true)),one (.fl [.val v]),24,400,[]⟩) (A5 24 [0,1,3] [(.ci (.val (Value.func (Fn.yield l) a a))),.pt 0 0,(.ii (wrap .i64 (i-1)))] [0] [(eF_ [(.val v)])] 464 [] []) .normal (D5 D2p) (I3 G4l):=sgA false 3000 [] X8

theorem C1i (v : Value) (w : World) : (method (Try.prog.types.size + Made.depth) 119 v "Times").run Try.prog w = .ok (88, v) w := by kernel_rfl
theorem C5r (v : Value) (w : World) : (method (Try.prog.types.size + Made.depth) 119 v "Plus").run Try.prog w = .ok (89, v) w := by kernel_rfl
theorem C1h (v : Value) (w : World) : (method (Try.prog.types.size + Made.depth) 119 v "Minus").run Try.prog w = .ok (114, v) w := by kernel_rfl
theorem B9b (v : Value) (w : World) : (method (Try.prog.types.size + Made.depth) 119 v "IsZero").run Try.prog w = .ok (113, v) w := by kernel_rfl
theorem B3b (v : Value) (w : World) : (method (Try.prog.types.size + Made.depth) 119 v "Negative").run Try.prog w = .ok (115, v) w := by kernel_rfl
theorem B5f (v : Value) (w : World) : (method (Try.prog.types.size + Made.depth) 119 v "Inverse").run Try.prog w = .ok (112, v) w := by kernel_rfl
def F9q (t : Nat) : Option (List (String × Nat)) := if t = 119 then some [("Times", 88), ("Plus", 89), ("Minus", 114), ("IsZero", 113), ("Negative", 115), ("Inverse", 112)] else none
def qeI:Env:={ qeH with inv:=F9q }
theorem A5w:A6 Try.prog qeI:=by
 refine ⟨X8.ty,X8.mixed,X8.fn,X8.mu,X8.inl,X8.ex,fun t l h=>?_⟩
 have h:F9q t=some l:=h;unfold F9q at h;split at h
 ·rename_i ht
  cases h
  subst ht;refine ⟨by kernel_rfl,fun name g hg v args w=>?_⟩
  unfold A7l at hg;split at hg
  ·rename_i hn
   cases hg
   subst hn;simp only[callMethod,Sem.run_bind,run_program,Result.andThen_ok,C1i]
  unfold A7l at hg;split at hg
  ·rename_i hn
   cases hg
   subst hn;simp only[callMethod,Sem.run_bind,run_program,Result.andThen_ok,C5r]
  unfold A7l at hg;split at hg
  ·rename_i hn
   cases hg
   subst hn;simp only[callMethod,Sem.run_bind,run_program,Result.andThen_ok,C1h]
  unfold A7l at hg;split at hg
  ·rename_i hn
   cases hg
   subst hn;simp only[callMethod,Sem.run_bind,run_program,Result.andThen_ok,B9b]
  unfold A7l at hg;split at hg
  ·rename_i hn
   cases hg
   subst hn;simp only[callMethod,Sem.run_bind,run_program,Result.andThen_ok,B3b]
  unfold A7l at hg;split at hg
  ·rename_i hn
   cases hg
   subst hn;simp only[callMethod,Sem.run_bind,run_program,Result.andThen_ok,B5f]
  cases hg
 ·cases h
def C6w:List KI:=(run qeI false 3000 (⟨[.code (B2 Try.f116)],.normal,D6 Try.f116.ntmps [.v (.a [.ob (.p dF)]),.v (.a [.ob (.p 1)]),.v (.c (.sl (.u64 dF)))]⟩:Cfg) []).cfg.k
theorem qp (a:Fp) (e:List Int):A3 []->Sg Try.prog (D6 Try.f116.ntmps [.v (.a [.ob (.p a)]),.v (.a [.ob (.p 1)]),.v (.c (.sl (.u64 e)))]) (A5 23 [3,6,7,11] [.pt 16 0,.pt 48 0,.pt 80 0,(.ci (.clo 86 [(128,0)]))] [16,48,80,128] [(eF_ [.ob (.p a)]),(eF_ [(.ob (.p (0:Fp)))]),(eF_ [(.ob (.p (1:Fp)))]),(eF_ [.sl (.u64 e)])] 192 [] []) .normal (C6w) ([.code (B2 Try.f116)]):=sgA false 3000 [] A5w
def qpS (a:Fp) (e:List Int) (o:Fp):St:=A5 23 [3,6,7,11] [.pt 16 0,.pt 48 0,.pt 80 0,(.ci (.clo 86 [(128,0)]))] [16,48,80,128] [(eF_ [.ob (.p a)]),(eF_ [(.ob (.p (0:Fp)))]),some (.fl [.ob (.p o)]),(eF_ [.sl (.u64 e)])] 192 [] []
theorem qpA (a:Fp) (e:List Int) (o:Fp) (z:Bool) {ρ:Option Nat} (ho:A3 []) (hs:Sim w0 F0 K ac (Y8 (qpS a e o) [(12,.v (.c (.bool z)))]) cX aX) (hK:∀cY aY,Sim w0 F0 K ac (A5 23 [3,6,7,8] [.pt 16 0,.pt 48 0,.pt 80 0,(.ci (.bool z))] [16,48,80,128] [(eF_ [.ob (.p a)]),(eF_ [(.ob (.p (0:Fp)))]),(eF_ [.ob (.p o)]),(eF_ [.sl (.u64 e)])] 208 [[3,6,7,11]] [([.pt 16 0,.pt 48 0,.pt 80 0,(.ci (.clo 86 [(128,0)]))],23)]) cY aY->Wq Try.prog Q ([]) ac Exit.normal aY cY.w ρ):Wq Try.prog Q ([.code (rfA C6w)]) ac .normal aX cX.w ρ :=
 N1 (unroll:=false) (n:=3000) (path:=[]) (o:=⟨_,_,_,_,_,_,_⟩) A5w (by kernel_rfl) (by kernel_rfl) ho (by kernel_rfl) (by kernel_rfl) hs hK
def qpB (a:Fp) (e:List Int) (o:Fp) (z:Bool):St:=A5 23 [3,6,7,8] [.pt 16 0,.pt 48 0,.pt 80 0,(.ci (.bool z))] [16,48,80,128] [(eF_ [.ob (.p a)]),(eF_ [(.ob (.p (0:Fp)))]),some (.fl [.ob (.p o)]),(eF_ [.sl (.u64 e)])] 208 [[3,6,7,11]] [([.pt 16 0,.pt 48 0,.pt 80 0,(.ci (.clo 86 [(128,0)]))],23)]
theorem qpC (a:Fp) (e:List Int) (o:Fp) (z:Bool) {ρ:Option Nat} (ho:A3 [(z=true)]) (hs:Sim w0 F0 K ac (qpB a e o z) cX aX) (hK:∀cY aY,Sim w0 F0 K ac (A5 23 [6] [.pt 48 0] [16,48,80,128] [(eF_ [.ob (.p a)]),(eF_ [(.ob (.p (0:Fp)))]),(eF_ [(.ob (.p ((o*o)*a)))]),(eF_ [.sl (.u64 e)])] 384 [[3,6,7,11]] [([.pt 16 0,.pt 48 0,.pt 80 0,(.ci (.clo 86 [(128,0)]))],23)]) cY aY->Wq Try.prog Q ([]) ac Exit.normal aY cY.w ρ):Wq Try.prog Q ([.code (rfB C6w)]) ac .normal aX cX.w ρ :=
 N1 (unroll:=false) (n:=3000) (path:=[true]) (o:=⟨_,_,_,_,_,_,_⟩) A5w (by kernel_rfl) (by kernel_rfl) ho (by kernel_rfl) (by kernel_rfl) hs hK
theorem qpD (a:Fp) (e:List Int) (o:Fp) (z:Bool) {ρ:Option Nat} (ho:A3 [(z=false)]) (hs:Sim w0 F0 K ac (qpB a e o z) cX aX) (hK:∀cY aY,Sim w0 F0 K ac (A5 23 [6] [.pt 48 0] [16,48,80,128] [(eF_ [.ob (.p a)]),(eF_ [(.ob (.p (0:Fp)))]),(eF_ [(.ob (.p (o*o)))]),(eF_ [.sl (.u64 e)])] 304 [[3,6,7,11]] [([.pt 16 0,.pt 48 0,.pt 80 0,(.ci (.clo 86 [(128,0)]))],23)]) cY aY->Wq Try.prog Q ([]) ac Exit.normal aY cY.w ρ):Wq Try.prog Q ([.code (rfB C6w)]) ac .normal aX cX.w ρ :=
 N1 (unroll:=false) (n:=3000) (path:=[false]) (o:=⟨_,_,_,_,_,_,_⟩) A5w (by kernel_rfl) (by kernel_rfl) ho (by kernel_rfl) (by kernel_rfl) hs hK
theorem qpX (a:Fp) (e:List Int) (o:Fp):A3 []->Sg Try.prog (qpS a e o) (A5 23 [6] [.pt 48 0] [48] [(eF_ [.ob (.p o)])] 224 [] []) .ret ([]) (rfR C6w):=sgA false 3000 [] A5w
def qpE (a:Fp) (e:List Int) (o:Fp):St:=A5 23 [6] [.pt 48 0] [16,48,80,128] [(eF_ [.ob (.p a)]),(eF_ [(.ob (.p (0:Fp)))]),some (.fl [.ob (.p o)]),(eF_ [.sl (.u64 e)])] 384 [[3,6,7,11]] [([.pt 16 0,.pt 48 0,.pt 80 0,(.ci (.clo 86 [(128,0)]))],23)]
def qpZ (o:Fp):St:=A5 23 [6] [.pt 48 0] [48] [some (.fl [.ob (.p o)])] 224 [] []
theorem F6i (o:Fp):C2 qeI Try.f116 false 3000 (⟨[],.ret,qpZ o⟩) [] [] []=(some ([],((.v (.a [.ob (.p o)])),[]))):=by kernel_rfl
end
end

section

theorem G7w {m:Nat}:E7 BinOp.and IntKind.u64 (m:Int) (1:Int)=((m % 2:Nat):Int):=by
 show wrap IntKind.u64 ((BitVec.ofInt 64 (m:Int) &&& BitVec.ofInt 64 ((1:Nat):Int)).toNat:Int)=_;rw[BitVec.ofInt_natCast,BitVec.ofInt_natCast,BitVec.toNat_and,BitVec.toNat_ofNat,BitVec.toNat_ofNat];have e:1 % 2 ^ 64=2 ^ 1-1:=by decide
 rw[e,Nat.and_two_pow_sub_one_eq_mod,B1x];omega

theorem E3f {e:List Int} (h:A7d e) {i:Nat} (hi:i<1024):(E7 BinOp.and IntKind.u64 (Int.fdiv (List.getD e (wrap IntKind.i64 (Int.tdiv (i:Int) (64:Int))).toNat (0:Int)) ((2:Int) ^ (Min.min (Int.tmod (i:Int) (64:Int)).toNat 64))) (1:Int) == (1:Int))=decide (W6 e / 2 ^ i % 2=1):=by
 have e1:Int.tdiv (i:Int) (64:Int)=((i / 64:Nat):Int):=Int.tdiv_eq_ediv_of_nonneg (by omega)
 have e2:Int.tmod (i:Int) (64:Int)=((i % 64:Nat):Int):=Int.tmod_eq_emod_of_nonneg (by omega)
 have e3:Min.min (((i % 64:Nat):Int)).toNat 64=i % 64:=by omega
 have hg:=B8w h (i / 64);rw[e1,B0 (by omega) (by omega),Int.toNat_natCast,e2,e3,D0j h i]
 obtain ⟨g,hg2⟩:=Int.eq_ofNat_of_zero_le hg.1;have hp:((2:Int) ^ (i % 64))=((2 ^ (i % 64):Nat):Int):=by simp
 rw[hg2,hp,Int.fdiv_eq_ediv_of_nonneg _ (Int.natCast_nonneg _),<-Int.natCast_ediv,G7w,Int.toNat_natCast];generalize g / 2 ^ (i % 64)=m;by_cases hm:m % 2=1
 ·rw[hm];rfl
 ·have:m % 2=0:=by omega
  rw[this];rfl

def D6j (z:Bool):List Value:=[.bool z]

theorem C1v {x:Ctx} {p:Nat} {e:List Int} {M:List Bool->Nat->Option En} (hl:e.length<=16) (hlim:A7d e) (hM:∀s,M s p=some (.fl [.sl (.u64 e)])) :
  B6e Try.prog x 86 [(p,0)] D6j (btL (W6 e) (P1 e e.length) (P1 e e.length)) M:=by
 intro l J W hgrow hread hyield hJ;have hcl:=B6o e e.length;generalize hc:P1 e e.length=c at *;generalize hN:W6 e=N at *;have key:Wq Try.prog (bodyPost Try.prog Try.f86 fun e' W' => (∃v,e' = Ending.returned v)∧J (btL N c c) W') [.code (B2 Try.f86)] [] .normal { tmps:=[Value.func (.yield l) #[] #[],.pointer (some ⟨x.β p,0,none⟩)].toArray++Array.replicate 22 undef,defers:=[] } W:=?_
 ·exact calls_of_wp (c:=B2 Try.f86) Try.func86 rfl ((wpIn_wide (n:=0)).1 key.wp)
 obtain ⟨y,rfl,hm,hcp⟩:=hread [] W hJ;obtain ⟨hr,hβ⟩:=hcp (p,0) List.mem_cons_self;have hr:y.k p = .real:=hr;have hβ:y.β p=x.β p:=hβ;have hargs:I0 (E0 y p) [.v (.c (.val (.func (.yield l) #[] #[]))),.v (.c (.ptr 0 0))] [.func (.yield l) #[] #[],.pointer (some ⟨x.β p,0,none⟩)]:=
  .cons ⟨rfl,0,rfl,rfl⟩ (.cons ⟨rfl,0,rfl,by show _=[Value.pointer (some ⟨y.β p,0,none⟩)];rw[hβ]⟩ .nil)
 obtain ⟨v,hv,hbox⟩:=E3i hm (hM []) hr;have hs:=B8n (nx:=16) (nt:=24) (a:={ tmps:=[Value.func (.yield l) #[] #[],.pointer (some ⟨x.β p,0,none⟩)].toArray++Array.replicate 22 undef,defers:=[] }) hm (hM []) hr hbox rfl (by simp) (A0y hargs 22)
 change Wq Try.prog _ _ _ _ _ (E0 y p).w
 refine bt l v trivial hs fun ac cY aY hs1=>?_
 have hmb:Mem (E0 y p) (one (.fl [.val v])):=A5k hm (hM _) hr hbox;obtain ⟨hg1,_,_⟩:=A6v hmb rfl hs1 rfl;have hsl:cY.D (.sl (.u64 e)) [v]:=C2d hg1 (fun b hb=>hs1.base.f0 b hb) hm.fw rfl hv
 have hs2:=hs1.slots (svs' := [.v (.c (.val (.func (.yield l) #[] #[]))),.v (.c (.ptr 0 0)),.v (.c (.sl (.u64 e)))]) ⟨fun _ h=>h,fun _ h=>h,C8j rfl hsl,trivial⟩
 refine bu l v e ⟨hl,hlim,trivial⟩ hs2 fun ac cZ aZ hs3=>?_
 rw[hc,B0 (by omega) (by omega)] at hs3
 let I:{ t:Nat // t<=c } -> List Act->Act->World->Prop:=fun t ac a w=>∃y z v,z.w=w∧y.k p = .real∧y.β p=x.β p∧Mem y (M (btL N c t.1))∧J (btL N c t.1) y.w∧y.D (.sl (.u64 e)) [v]∧Mem (E0 y p) (one (.fl [.val v]))∧Sim y.w y.F (B2t (E0 y p)) ac (buS l v ((c:Int)-1-(t.1:Int))) z a
 refine I2 I (fun t=>c-t.1) (c:=lpC D2p) (k:=lpR D2p) (by kernel_rfl) (fun t ih ac b w hI=>?_) ⟨0,Nat.zero_le _⟩ ⟨y,cZ,v,rfl,hr,hβ,hm,hJ,hv,hmb,by
   show Sim _ _ _ _ (buS l v ((c:Int)-1-((0:Nat):Int))) _ _;rw[show (c:Int)-1-((0:Nat):Int)=(c:Int)-1 from by omega]
   exact hs3.nx _⟩
 obtain ⟨t,ht⟩:=t;obtain ⟨y,z,v,rfl,hr,hβ,hm,hJ,hv,hmb,hs⟩:=hI;simp only at hm hJ hs ih
 by_cases h:t<c
 ·obtain ⟨i,hi⟩:∃i:Nat,i=c-1-t:=⟨_,rfl⟩
  have ei:(c:Int)-1-(t:Int)=(i:Int):=by omega
  rw[ei] at hs;refine bv l v _ ⟨by simp,by decide,trivial⟩ hs fun ac cV aV hs4=>?_
  obtain ⟨hg4,_,_⟩:=A6v hmb rfl hs4 rfl;have hsl4:cV.D (.sl (.u64 e)) [v]:=C2d hg4 (fun b hb=>hs4.base.f0 b hb) hm.fw rfl hv
  have hs5:=hs4.slots (svs' := [.v (.c (.val (.func (.yield l) #[] #[]))),.v (.c (.ptr 0 0)),.v (.c (.int .i64 (i:Int))),.v (.c (.val (.func (.yield l) #[] #[]))),.v (.c (.sl (.u64 e))),.v (.c (.int .i64 (wrap IntKind.i64 (Int.tdiv (i:Int) (64:Int)))))])
   ⟨fun _ h=>h,fun _ h=>h,fun _ h=>h,fun _ h=>h,C8j rfl hsl4,fun _ h=>h,trivial⟩
  have e1:Int.tdiv (i:Int) (64:Int)=((i / 64:Nat):Int):=Int.tdiv_eq_ediv_of_nonneg (by omega)
  have e2:Int.tmod (i:Int) (64:Int)=((i % 64:Nat):Int):=Int.tmod_eq_emod_of_nonneg (by omega)
  refine bw l v e _ ⟨by rw[e1,B0 (by omega) (by omega)];omega,by rw[e1,B0 (by omega) (by omega)];omega,by decide,by rw[e2];omega,trivial⟩ hs5 fun ac cU aU hs6=>?_
  rw[E3f hlim (by omega:i<1024),hN] at hs6
  obtain ⟨hg,hk2,hβ2⟩:=A6v hmb rfl hs6 rfl;have hJ2:=hgrow _ _ _ hJ hg;have e3:btL N c (t+1)=btL N c t++[decide (N / 2 ^ i % 2=1)]:=by rw[B6r,hi]
  obtain ⟨r,hr1⟩:=F2d N c (n:=c) (t:=t+1) h;refine A6k (R:=fun W' => J (btL N c (t+1)) W') (dst:=some 22) (f:=.tmp 11) (args:=[.tmp 21]) (by kernel_rfl) hs6 (l:=l) rfl (vs:=D6j (decide (N / 2 ^ i % 2=1))) ?_ ?_ fun W' hJ3=>?_
  ·have h21:=B6c (hs6.t 21)
   show [aU.tmps.getD 21 undef]=_;rw[h21];rfl
  ·have:=hyield (btL N c t) (decide (N / 2 ^ i % 2=1)) _ hJ2 ⟨r,by rw[hr1,e3,List.append_assoc];rfl⟩
   rw[<-e3] at this;exact this
  ·obtain ⟨y3,rfl,hm3,hc3⟩:=hread _ _ hJ3
   obtain ⟨hr3,hβ3⟩:=hc3 (p,0) List.mem_cons_self;have hr3:y3.k p = .real:=hr3;have hβ3:y3.β p=x.β p:=hβ3;obtain ⟨v3,hv3,hbox3⟩:=E3i hm3 (hM _) hr3;have hmb3:Mem (E0 y3 p) (one (.fl [.val v3])):=A5k hm3 (hM _) hr3 hbox3;have hs7:=C9p (nx' := 400) (dst:=22) (b:=true) hs6 (by kernel_rfl) rfl hm3 (hM _) hr3 hbox3 (by rw[hβ2,hβ];exact hβ3.symm) (by decide)
   change Wq Try.prog _ _ _ _ _ (E0 y3 p).w
   refine bB l v3 _ _ trivial hs7 fun ac cT aT hs8=>?_
   have e4:wrap IntKind.i64 ((i:Int)-1)=(c:Int)-1-((t+1:Nat):Int):=by rw[B0 (by omega) (by omega)];omega
   rw[e4] at hs8;exact ih ⟨t+1,by omega⟩ (by show c-(t+1)<c-t;omega) ac aT _ ⟨y3,cT,v3,rfl,hr3,hβ3,hm3,hJ3,hv3,hmb3,hs8.nx _⟩
 ·have e5:t=c:=by omega
  subst e5;refine bX l v _ ⟨by simp;omega,trivial⟩ hs fun ac cV aV hs4=>?_
  obtain ⟨hg,_,_⟩:=A6v hmb rfl hs4 rfl;exact ⟨D3t X8 hs4 rfl rfl rfl (fun v=>⟨⟨v,rfl⟩,hgrow _ _ _ hJ hg⟩) (.inr rfl)⟩

def E3k (z:Bool):List SV:=[.v (.c (.bool z))]

theorem G1z (a:Fp) (l:List Bool) (z:Bool):pw a (pv (l++[z]))=if z=true then pw a (pv l)*pw a (pv l)*a else pw a (pv l)*pw a (pv l):=by
 rw[C6s,Nat.two_mul]
 cases z with
 | true=>
  rw[if_pos rfl,<-S8];rfl
 | false=>
  rw[if_neg (by decide),<-S8]
  rfl

theorem D4t (a:Fp) (e:List Int) (hl:e.length<=16) (hlim:A7d e) :
  FnD Try.prog 116 [.v (.a [.ob (.p a)]),.v (.a [.ob (.p 1)]),.v (.c (.sl (.u64 e)))] (.v (.a [.ob (.p (pw a (W6 e)))])) []:=by
 refine A8b (fn:=Try.f116) (c:=B2 Try.f116) Try.func116 rfl rfl fun x b hk hF hs=>?_
 refine qp a e trivial hs fun ac cY aY hs1=>?_
 obtain ⟨e1,e2⟩:=B5r (k:=C6w) (by kernel_rfl)
 rw[e1];have eP:(rfP C6w).toList=[12]:=by kernel_rfl
 have eG:rfG C6w = .tmp 11:=by kernel_rfl
 refine A9b (ps:=rfP C6w) e2 hs1 (gf:=86) (caps:=[(128,0)]) (A4 Try.func86 rfl rfl) (fun pre=>qpS a e (pw a (pv pre))) (fun s=>by rw[eG];rfl) ⟨_,rfl⟩ (btL (W6 e) (P1 e e.length) (P1 e e.length)) E3k D6j
  (fun y z=>.cons ⟨rfl,0,rfl⟩ .nil) (fun z=>by rw[<-Array.length_toList,eP];rfl) (fun pre p hp=>?_) (C1v hl hlim fun s=>rfl) (fun pre z=>qpB a e (pw a (pv pre)) z)
  (fun pre z=>qpE a e (pw a (pv (pre++[z])))) (fun pre z=>⟨_,rfl⟩) (fun pre z hz w1 F1 K1 as1 Q1 l y b hs2 hQ=>?_) (fun pre z hz w1 F1 K1 as1 Q1 l y b hs2 hQ=>?_) fun D y hs2 hD hFD hd=>?_
 ·rw[eP] at hp
  have h23:(qpS a e (pw a (pv pre))).nt=23:=rfl;rw[h23];simp only[List.mem_cons,List.not_mem_nil,or_false] at hp;subst hp;decide
 ·rw[eP] at hs2
  exact qpA a e _ z trivial hs2 fun cZ aZ hs3=>⟨hQ _ _ (hs3.nx _)⟩
 ·rw[G1z] at hQ
  cases z with
  | true=>exact qpC a e _ true ⟨rfl,trivial⟩ hs2 fun cZ aZ hs3=>⟨hQ _ _ (hs3.nx _)⟩
  | false=>exact qpD a e _ false ⟨rfl,trivial⟩ hs2 fun cZ aZ hs3=>⟨hQ _ _ (hs3.nx _)⟩
 ·have hs3:=hs2.marked rfl rfl D
  have hN:W6 e<2 ^ P1 e e.length:=by
   have:=D7s hlim e.length (Nat.le_refl _)
   rwa [List.take_length] at this
  rw[C6r hN _ (Nat.le_refl _),Nat.sub_self,Nat.pow_zero,Nat.div_one] at hs2 hs3;generalize pw a (W6 e)=o at hs2 hs3 ⊢
  refine qpX a e o trivial hs3 fun ac cV aV hs6=>⟨?_⟩
  have hs7:Sim y.w y.F (A1z y Z8 (A1h D)) ac (qpZ o) cV aV:=hs6;exact B2p A5w hk hF (F6i o) trivial (fun y v hd=>hd) hs2 hD hFD hd rfl hs7

end

section

theorem D0u (a u:Fp) (e:List Int) (hu:u=1) (hl:e.length<=16) (hlim:A7d e) :
  FnD Try.prog 116 [.v (.a [.ob (.p a)]),.v (.a [.ob (.p u)]),.v (.c (.sl (.u64 e)))] (.v (.a [.ob (.p (pw a (W6 e)))])) []:=by
 subst hu;exact D4t a e hl hlim
def A8w:B7
 | [.v (.a [.ob (.p a)]),.v (.a [.ob (.p u)]),.v (.c (.sl (.u64 e)))]=>some ([u=1,e.length<=16,A7d e],.v (.a [.ob (.p (pw a (W6 e)))]),[])
 | _=>none
def F6h:Env:=qeI.set (E8 qeI.fn 116 A8w)
theorem D8c:A6 Try.prog F6h:=A9 A5w 116 A8w (A4 Try.func116 rfl rfl) fun args o r es h ho=>by
 unfold A8w at h;split at h
 ·cases h;exact D0u _ _ _ ho.1 ho.2.1 ho.2.2.1
 ·cases h
theorem G5e (a:Fp):C9 F6h Try.f112 3000 [.v (.a [.ob (.p a)])] [] [] []=(some ([(0<=(0:Int)),(0<(6:Int)),(0<6),(0<=(0:Int)),(0<(6:Int)),(0<=(1:Int)),((1:Int)<(18446744073709551616:Int)),((Fin.ofNat pN 1)=(1:Fp)),(6<=16),(A7d [(13402431016077863593:Int),(2210141511517208575:Int),(7435674573564081700:Int),(7239337960414712511:Int),(5412103778470702295:Int),(1873798617647539866:Int)])],((.v (.a [(.ob (.p (pw a 4002409555221667393417789825735904156556882819939007885332058136124031650490837864442687629129015664037894272559785)))])),[]))):=by kernel_rfl
/-- 1 divided by it; 0 of 0. -/
def ivP (a:Fp):Fp:=pw a (pN-2)
theorem F3j (x:Fp) (hx:x≠0):x*ivP x=1:=by
 have h:=E4p x hx;have e:pN-1=(pN-2)+1:=by decide
 rw[e] at h;have h2:ivP x*x=1:=h;rw[A1i];exact h2
theorem E5e (a:Fp):FnD Try.prog 112 [.v (.a [.ob (.p a)])] (.v (.a [.ob (.p (ivP a))])) []:=by
 have e:4002409555221667393417789825735904156556882819939007885332058136124031650490837864442687629129015664037894272559785=pN-2:=by decide +kernel
 have r:=G5e a;rw[e] at r;refine A7 D8c Try.func112 r ⟨by decide,by decide,by decide,by decide,by decide,by decide,by decide,rfl,by decide,?_,trivial⟩
 intro x hx;simp only[List.mem_cons,List.not_mem_nil,or_false] at hx;rcases hx with rfl | rfl | rfl | rfl | rfl | rfl<;>decide
def B8l:B7
 | [.v (.a [.ob (.p a)])]=>some ([],.v (.a [.ob (.p (ivP a))]),[])
 | _=>none
def qeJ:Env:=F6h.set (E8 F6h.fn 112 B8l)
theorem C6v:A6 Try.prog qeJ:=A9 D8c 112 B8l (A4 Try.func112 rfl rfl) fun args o r es h _=>by
 unfold B8l at h;split at h
 ·cases h;exact E5e _
 ·cases h
theorem twA (x y z:Fp):C9 qeJ Try.f79 3000 [.v (.a [.ob (.p x),.ob (.p y),.ob (.p z)])] [true] [] []=(some ([((decide (z=(0:Fp)))=true)],((.v (.a [.ob (.p x),.ob (.p y),.ob (.p z)])),[]))):=by kernel_rfl
theorem twB (x y z:Fp):let c:=(y*y)*(y*y);let b:=(((x+(y*y))*(x+(y*y)))-(x*x))-c;let d:=((x*x)+(x*x))+(x*x);let f:=((d*d)-(b+b))-(b+b);C9 qeJ Try.f79 3000 [.v (.a [.ob (.p x),.ob (.p y),.ob (.p z)])] [false] [] []=(some ([((decide (z=(0:Fp)))=false)],((.v (.a [(.ob (.p f)),(.ob (.p ((d*((b+b)-f))-(((c+c)+(c+c))+((c+c)+(c+c)))))),(.ob (.p ((y*z)+(y*z))))])),[]))):=by intros;kernel_rfl
theorem ngP (x y z:Fp):C9 qeJ Try.f91 3000 [.v (.a [.ob (.p x),.ob (.p y),.ob (.p z)])] [] [] []=(some ([],((.v (.a [.ob (.p x),(.ob (.p ((0:Fp)-y))),.ob (.p z)])),[]))):=by kernel_rfl
end

section
section
variable {w0:World} {F0:Nat->Prop} {K:Kp} {ac:List Act} {Q:Exit->Act->World->Prop} {cX:Ctx} {aX:Act}

def C8q:List KI:=(run X3 false 3000 (⟨[.code (B2 Try.f78)],.normal,D6 Try.f78.ntmps [.v (.a [.ob (.fr dF)])]⟩:Cfg) []).cfg.k
theorem di (k:U4):A3 []->Sg Try.prog (D6 Try.f78.ntmps [.v (.a [.ob (.fr k)])]) (A5 49 [1,3,4,5] [.pt 16 0,(.ci (.val (Value.slice Option.none 0 0))),.ii (0:Int),.ii (0:Int)] [16] [(eF_ [.ob (.fr k)])] 96 [] []) .normal (C8q) ([.code (B2 Try.f78)]):=sgA false 3000 [] G4
def diS (k:U4) (L:List Int) (n:Nat) (c i :Int):St:=A5 49 [1,3,4,5] [.pt 16 0,.v (.c (.slc 17 0 n 1)),.v (.c (.int .i64 c)),.v (.c (.int .i64 i))] [16,17] [(eF_ [.ob (.fr k)]),some (.sq (.int L))] 96 [] []
def B0b:List KI:=(run X3 false 3000 (⟨B5 C8q,.normal,diS dF dF dF dF dF⟩:Cfg) [true]).cfg.k
theorem diA (k:U4) (L:List Int) (n:Nat) (c i:Int):A3 [((decide (i<(256:Int)))=true)]->Sg Try.prog (diS k L n c i) (A5 49 [1,3,5,6,18] [.pt 16 0,(.ci (.slc 17 0 n 1)),.ii i,.ii c,.ii (0:Int)] [16,17] [(eF_ [.ob (.fr k)]),(eQ_ (.int L))] 240 [] []) .normal (B0b) (B5 C8q):=sgA false 3000 [true] G4
def diI (k:U4) (L:List Int) (n:Nat) (i d j :Int):St:=A5 49 [1,3,5,6,18] [.pt 16 0,(.ci (.slc 17 0 n 1)),.ii i,.v (.c (.int .i64 d)),.v (.c (.int .i64 j))] [16,17] [(eF_ [.ob (.fr k)]),(eQ_ (.int L))] 240 [] []
section
variable (k:U4) (L:List Int) (n:Nat) (i d j:Int)
theorem diB:let b:=wrap .i64 (i+j);let c:Int:=64;let a:=wrap .i64 (Int.tdiv b c);let f:=Int.tmod b c;A3 [((decide (j<(5:Int)))=true),((decide (b<(256:Int)))=true),(c≠(0:Int)),(0<=a),(a<(4:Int)),((0+((a).toNat*1))<(Ob.k (.fr k))),(c≠(0:Int)),(0<=f),(0<=j)]->Sg Try.prog (diI k L n i d j) (A5 49 [1,3,5,6,18] [.pt 16 0,(.ci (.slc 17 0 n 1)),.ii i,(.ii (wrap .i64 (d+(wrap .i64 ((wrap .i64 (E7 BinOp.and IntKind.u64 (Int.fdiv (A0 (Ob.n (.fr k)) (0+((a).toNat*1))) ((2:Int) ^ (Min.min (f).toNat 64))) (1:Int)))*((2:Int) ^ (Min.min (j).toNat 64))))))),(.ii (wrap .i64 (j+1)))] [16,17] [(eF_ [.ob (.fr k)]),(eQ_ (.int L))] 640 [] []) .normal (D5 B0b) (B5 B0b):=sgA false 3000 [true,true] G4
theorem diC:A3 [((decide (j<(5:Int)))=true),((decide ((wrap .i64 (i+j))<(256:Int)))=false)]->Sg Try.prog (diI k L n i d j) (A5 49 [1,3,5,6,18] [.pt 16 0,(.ci (.slc 17 0 n 1)),.ii i,.ii d,(.ii (wrap .i64 (j+1)))] [16,17] [(eF_ [.ob (.fr k)]),(eQ_ (.int L))] 416 [] []) .normal (D5 B0b) (B5 B0b):=sgA false 3000 [true,false] G4
theorem diD:let a:=L.length+1;A3 [((decide (j<(5:Int)))=false),((decide (d > (16:Int)))=true),((a*8)<=140737488355328),(a<=maxLen),(n=L.length),(1=1)]->Sg Try.prog (diI k L n i d j) (A5 49 [1,3,4,5] [.pt 16 0,(.ci (.slc 17 0 a 1)),.ii (1:Int),(.ii (wrap .i64 (i+(5:Int))))] [16,17] [(eF_ [.ob (.fr k)]),(eQ_ (.int (L++[(wrap .i64 (d-(32:Int)))])))] 496 [] []) .normal (D5 C8q) (B5 B0b):=sgA false 3000 [false,true] G4
theorem diE:let a:=L.length+1;A3 [((decide (j<(5:Int)))=false),((decide (d > (16:Int)))=false),((a*8)<=140737488355328),(a<=maxLen),(n=L.length),(1=1)]->Sg Try.prog (diI k L n i d j) (A5 49 [1,3,4,5] [.pt 16 0,(.ci (.slc 17 0 a 1)),.ii (0:Int),(.ii (wrap .i64 (i+(5:Int))))] [16,17] [(eF_ [.ob (.fr k)]),(eQ_ (.int (L++[d])))] 432 [] []) .normal (D5 C8q) (B5 B0b):=sgA false 3000 [false,false] G4
end
theorem F2s (k:U4) (L:List Int) (n:Nat) (c i:Int):C2 X3 Try.f78 false 3000 (⟨B5 C8q,.normal,diS k L n c i⟩) [false,false] [] [17]=(some ([((decide (i<(256:Int)))=false),((decide (c > (0:Int)))=false),(n=L.length)],((.ci (.sl (.int L))),[]))):=by kernel_rfl
end
end

section

/-- One bit, as it is reckoned. -/
theorem D8r (k:U4) {m j:Nat} (h:m+j<256) (hj:j<5):wrap IntKind.i64 ((wrap IntKind.i64 (E7 BinOp.and IntKind.u64 (Int.fdiv (A0 (Ob.n (Ob.fr k)) (0+(((wrap IntKind.i64 (Int.tdiv (wrap IntKind.i64 ((m:Int)+(j:Int))) (64:Int)))).toNat*1))) ((2:Int) ^ (Min.min ((Int.tmod (wrap IntKind.i64 ((m:Int)+(j:Int))) (64:Int))).toNat 64))) (1:Int)))*((2:Int) ^ (Min.min ((j:Int)).toNat 64)))=((k.val / 2 ^ (m+j) % 2*2 ^ j:Nat):Int):=by
 rw[B0 (n:=(m:Int)+(j:Int)) (by omega) (by omega),<-Int.natCast_add]
 generalize hi:m+j=i at *;have e1:Int.tdiv (i:Int) (64:Int)=((i / 64:Nat):Int):=Int.tdiv_eq_ediv_of_nonneg (by omega)
 have e2:Int.tmod (i:Int) (64:Int)=((i % 64:Nat):Int):=Int.tmod_eq_emod_of_nonneg (by omega)
 rw[e1,e2,B0 (n:=((i / 64:Nat):Int)) (by omega) (by omega),Int.toNat_natCast,Int.toNat_natCast,Int.toNat_natCast]
 have e3:Min.min (i % 64) 64=i % 64:=by omega
 have e4:0+i / 64*1=i / 64:=by omega
 have e5:Min.min j 64=j:=by omega
 rw[e3,e4,e5];have hl:A0 (Ob.n (Ob.fr k)) (i / 64)=((k.val / 2 ^ (64*(i / 64)) % 18446744073709551616:Nat):Int):=rfl;rw[hl];have hb:k.val / 2 ^ (64*(i / 64)) % 18446744073709551616 / 2 ^ (i % 64) % 2=k.val / 2 ^ i % 2:=by
  have h64:18446744073709551616=2 ^ (i % 64)*(2*2 ^ (63-i % 64)):=by
   rw[<-Nat.pow_succ',<-Nat.pow_add,show i % 64+(63-i % 64+1)=64 from by omega]
  rw[h64,Nat.mod_mul_right_div_self,Nat.mod_mul_right_mod,Nat.div_div_eq_div_mul,<-Nat.pow_add,show 64*(i / 64)+i % 64=i from Nat.div_add_mod i 64]
 rw[<-hb];have hlt:k.val / 2 ^ (64*(i / 64)) % 18446744073709551616<18446744073709551616:=Nat.mod_lt _ (by decide)
 generalize k.val / 2 ^ (64*(i / 64)) % 18446744073709551616=w at *;have hp:((2:Int) ^ (i % 64))=((2 ^ (i % 64):Nat):Int):=by simp
 have hp2:((2:Int) ^ j)=((2 ^ j:Nat):Int):=by simp
 rw[hp,hp2,Int.fdiv_eq_ediv_of_nonneg _ (Int.natCast_nonneg _),<-Int.natCast_ediv];generalize w / 2 ^ (i % 64)=v;have ha:E7 BinOp.and IntKind.u64 (v:Int) (1:Int)=((v % 2:Nat):Int):=by
  show wrap IntKind.u64 ((BitVec.ofInt 64 (v:Int) &&& BitVec.ofInt 64 ((1:Nat):Int)).toNat:Int)=_;rw[BitVec.ofInt_natCast,BitVec.ofInt_natCast,BitVec.toNat_and,BitVec.toNat_ofNat,BitVec.toNat_ofNat];have e:1 % 2 ^ 64=2 ^ 1-1:=by decide
  rw[e,Nat.and_two_pow_sub_one_eq_mod];show (((v % 2 ^ 64 % 2 ^ 1:Nat):Int)) % 18446744073709551616=_;omega
 have h32:2 ^ j<=2 ^ 4:=Nat.pow_le_pow_right (by decide) (by omega)
 have h2:v % 2<2:=Nat.mod_lt _ (by decide)
 have hm:v % 2*2 ^ j<=1*2 ^ 4:=Nat.mul_le_mul (by omega) h32
 rw[ha,B0 (n:=((v % 2:Nat):Int)) (by omega) (by omega),<-Int.natCast_mul,B0 (by omega) (by omega)]

theorem F1q (k m j:Nat):k / 2 ^ m % 2 ^ (j+1)=k / 2 ^ m % 2 ^ j+k / 2 ^ (m+j) % 2*2 ^ j:=by
 rw[Nat.pow_succ,Nat.mod_mul,Nat.div_div_eq_div_mul,<-Nat.pow_add,Nat.mul_comm (2 ^ j)]
theorem G4d (k m:Nat):k / 2 ^ (5*m) % 2 ^ 5=k / 32 ^ m % 32:=by
 rw[Nat.pow_mul]
theorem F8u (k:U4):k.val<2 ^ 256:=by
 have h:B4=2 ^ 256:=by decide +kernel
 rw[<-h];exact k.isLt

theorem D3f (k:U4) {N:Nat} (hN:N=52):FnD Try.prog 78 [.v (.a [.ob (.fr k)])] (.v (.c (.sl (.int (dgW k.val N).1)))) []:=by
 refine F5 (fn:=Try.f78) (c:=B2 Try.f78) Try.func78 rfl rfl fun x0 a0 hk hF hs=>?_
 refine di k trivial hs fun ac cY aY hs1=>?_
 have hs2:=hs1.nilRow (p:=17) (q:=.int []) rfl (by decide) rfl (ml' := [16,17]) (ens' := [some (.fl [.ob (.fr k)]),some (.sq (.int []))]) (fun r=>D7a (by decide)) (svs' := [.v (.c (.ptr 16 0)),.v (.c (.slc 17 0 0 1)),.v (.c (.int .i64 0)),.v (.c (.int .i64 0))]) ⟨.inl rfl,.inr ⟨1,rfl,rfl⟩,.inl rfl,.inl rfl,trivial⟩
 change Wq Try.prog _ _ _ _ _ (F9 cY 17).w
 refine C0 (ι:={ m:Nat // m<=N }) (fun m=>diS k (dgW k.val m.1).1 m.1 ((dgW k.val m.1).2:Int) ((5*m.1:Nat):Int)) (fun m=>N-m.1) (c:=lpC C8q) (k:=lpR C8q) (by kernel_rfl) (fun m ih ac cY aY hs=>?_) ⟨0,Nat.zero_le _⟩ (hs2.nx _)
 obtain ⟨m,hm⟩:=m;simp only at ih hs
 have hc:=B2j k.val m;have hl:=B0a k.val m;by_cases h:m<N
 ·refine diA k _ m _ _ ⟨decide_eq_true (by omega),trivial⟩ hs fun ac cZ aZ hs3=>?_
  have e0:(((dgW k.val m).2:Nat):Int)=(((dgW k.val m).2+k.val / 2 ^ (5*m) % 2 ^ 0:Nat):Int):=by rw[Nat.pow_zero,Nat.mod_one,Nat.add_zero]
  rw[e0] at hs3;refine C0 (ι:={ j:Nat // j<=5 }) (fun j=>diI k (dgW k.val m).1 m ((5*m:Nat):Int) (((dgW k.val m).2+k.val / 2 ^ (5*m) % 2 ^ j.1:Nat):Int) (j.1:Int)) (fun j=>5-j.1) (c:=lpC B0b) (k:=lpR B0b) (by kernel_rfl) (fun j ih2 ac cY aY hs=>?_) ⟨0,Nat.zero_le _⟩ (hs3.nx _)
  obtain ⟨j,hj⟩:=j;simp only at ih2 hs
  have hpj:k.val / 2 ^ (5*m) % 2 ^ j<2 ^ j:=Nat.mod_lt _ (Nat.two_pow_pos _);have hj5:2 ^ j<=2 ^ 5:=Nat.pow_le_pow_right (by decide) hj
  by_cases hj2:j<5
  ·have ej:wrap IntKind.i64 ((j:Int)+1)=((j+1:Nat):Int):=by rw[B0 (by omega) (by omega)];rfl
   have hsum:=F1q k.val (5*m) j;by_cases hb:5*m+j<256
   ·have eb:=D8r k hb hj2
    have hw:wrap IntKind.i64 (((5*m:Nat):Int)+(j:Int))=((5*m+j:Nat):Int):=by rw[B0 (by omega) (by omega)];rfl
    have ht:Int.tdiv ((5*m+j:Nat):Int) 64=(((5*m+j) / 64:Nat):Int):=Int.tdiv_eq_ediv_of_nonneg (by omega)
    have ht2:Int.tmod ((5*m+j:Nat):Int) 64=(((5*m+j) % 64:Nat):Int):=Int.tmod_eq_emod_of_nonneg (by omega)
    have hw2:wrap IntKind.i64 (((5*m+j) / 64:Nat):Int)=(((5*m+j) / 64:Nat):Int):=B0 (by omega) (by omega)
    refine diB k _ m _ _ _ ⟨decide_eq_true (by omega),by rw[hw];exact decide_eq_true (by omega),by decide,by rw[hw,ht,hw2];omega,by rw[hw,ht,hw2];omega,by rw[hw,ht,hw2,Int.toNat_natCast];show _<4;omega,by decide,by rw[hw,ht2];omega,by omega,trivial⟩ hs fun ac cU aU hs4=>?_
    rw[eb,ej] at hs4;have hbit:k.val / 2 ^ (5*m+j) % 2*2 ^ j<=1*2 ^ 5:=Nat.mul_le_mul (by omega) hj5
    rw[B0 (by omega) (by omega),<-Int.natCast_add,Nat.add_assoc,<-hsum] at hs4
    exact ih2 ⟨j+1,hj2⟩ (by show 5-(j+1)<5-j;omega) ac cU aU (hs4.nx _)
   ·have hw:wrap IntKind.i64 (((5*m:Nat):Int)+(j:Int))=((5*m+j:Nat):Int):=by rw[B0 (by omega) (by omega)];rfl
    refine diC k _ m _ _ _ ⟨decide_eq_true (by omega),by rw[hw];exact decide_eq_false (by omega),trivial⟩ hs fun ac cU aU hs4=>?_
    have h0:k.val / 2 ^ (5*m+j)=0:=Nat.div_eq_of_lt (Nat.lt_of_lt_of_le (F8u k) (Nat.pow_le_pow_right (by decide) (by omega)))
    rw[h0,Nat.zero_mod,Nat.zero_mul,Nat.add_zero (k.val / 2 ^ (5*m) % 2 ^ j)] at hsum;rw[ej,<-hsum] at hs4;exact ih2 ⟨j+1,hj2⟩ (by show 5-(j+1)<5-j;omega) ac cU aU (hs4.nx _)
  ·have:j=5:=by omega
   subst this;rw[G4d,Nat.add_comm] at hs;have hw5:k.val / 32 ^ m % 32<32:=Nat.mod_lt _ (by decide)
   have e5:wrap IntKind.i64 (((5*m:Nat):Int)+5)=((5*(m+1):Nat):Int):=by rw[B0 (by omega) (by omega)];omega
   have hml:(dgW k.val m).1.length<=52:=by omega
   have hmax:(dgW k.val m).1.length+1<=maxLen:=Nat.le_trans (by omega) (show 53<=maxLen by decide)
   by_cases hg:k.val / 32 ^ m % 32+(dgW k.val m).2 > 16
   ·refine diD k _ m _ _ _ ⟨by decide,decide_eq_true (by omega),by omega,hmax,hl.symm,rfl,trivial⟩ hs fun ac cU aU hs4=>?_
    rw[e5,hl,B0 (by omega) (by omega)] at hs4
    refine ih ⟨m+1,h⟩ (by show N-(m+1)<N-m;omega) ac cU aU ?_
    show Sim _ _ _ _ (diS k (dgW k.val (m+1)).1 (m+1) ((dgW k.val (m+1)).2:Int) ((5*(m+1):Nat):Int)) _ _;rw[A9z hg];exact hs4.nx _
   ·refine diE k _ m _ _ _ ⟨by decide,decide_eq_false (by omega),by omega,hmax,hl.symm,rfl,trivial⟩ hs fun ac cU aU hs4=>?_
    rw[e5,hl] at hs4;refine ih ⟨m+1,h⟩ (by show N-(m+1)<N-m;omega) ac cU aU ?_
    show Sim _ _ _ _ (diS k (dgW k.val (m+1)).1 (m+1) ((dgW k.val (m+1)).2:Int) ((5*(m+1):Nat):Int)) _ _;rw[A0v hg];exact hs4.nx _
 ·obtain rfl:m=N:=by omega
  have h0:=(F2r hN (F8u k)).2;exact C7 G4 hk hF (F2s k (dgW k.val m).1 m ((dgW k.val m).2:Int) ((5*m:Nat):Int)) ⟨decide_eq_false (by omega),by rw[h0];decide,hl.symm,trivial⟩ (fun y v hd=>hd) hs

end

section

def fp1:Fp:=Fin.ofNat pN 1
def fp4:Fp:=Fin.ofNat pN 4
section
variable {r:Nat} [NeZero r]
theorem D3j (n:Nat):(Fin.ofNat r n).val=n % r:=rfl
end

theorem F3f (x:U6):(inP x).val=x.val % pN:=D3j _
theorem B8i (x:Fp):inP (A0b x)=x:=by
 apply Fin.ext
 rw[F3f,D0q];exact Nat.mod_eq_of_lt x.isLt
section
variable {r:Nat} [NeZero r]
end

theorem E8t:(1:Fp)≠0:=by decide +kernel
instance fldP:Fld Fp:=
  { (inferInstance:C7v (Fin pN)) with
    inv:=ivP
    mul_inv:=F3j
    one_ne:=E8t }

section
variable {F:Type} [Fld F]
end

end

section

theorem E2p (x y z:Fp):FnD Try.prog 79 [.v (.a [.ob (.p x),.ob (.p y),.ob (.p z)])] (.v (.a (S7 (jtw (x,y,z))))) []:=by
 by_cases h:z=0
 ·have e:jtw (x,y,z)=(x,y,z):=if_pos h
  rw[e];exact A7 C6v Try.func79 (twA x y z) ⟨decide_eq_true h,trivial⟩
 ·unfold jtw
  rw[if_neg h];exact A7 C6v Try.func79 (twB x y z) ⟨decide_eq_false h,trivial⟩
def C7r:B7
 | [.v (.a [.ob (.p x),.ob (.p y),.ob (.p z)])]=>some ([],.v (.a (S7 (jtw (x,y,z)))),[])
 | _=>none
def qsA:Env:=qeJ.set (E8 qeJ.fn 79 C7r)
theorem G2i:A6 Try.prog qsA:=A9 C6v 79 C7r (A4 Try.func79 rfl rfl) fun args o r es h _=>by
 unfold C7r at h;split at h
 ·cases h;exact E2p _ _ _
 ·cases h
def C5v:B7
 | [.v (.a [.ob (.p x),.ob (.p y),.ob (.p z)])]=>some ([],.v (.a (S7 (jng (x,y,z)))),[])
 | _=>none
def qsB:Env:=qsA.set (E8 qsA.fn 91 C5v)
theorem B3x:A6 Try.prog qsB:=A9 G2i 91 C5v (A4 Try.func91 rfl rfl) fun args o r es h _=>by
 unfold C5v at h;split at h
 ·cases h;exact A7 C6v Try.func91 (ngP _ _ _) trivial
 ·cases h
theorem plA (x y z u v w:Fp):C9 qsB Try.f80 3000 [.v (.a [.ob (.p x),.ob (.p y),.ob (.p z)]),.v (.a [.ob (.p u),.ob (.p v),.ob (.p w)])] [true] [] []=(some ([((decide (z=(0:Fp)))=true)],((.v (.a [.ob (.p u),.ob (.p v),.ob (.p w)])),[]))):=by kernel_rfl
theorem plB (x y z u v w:Fp):C9 qsB Try.f80 3000 [.v (.a [.ob (.p x),.ob (.p y),.ob (.p z)]),.v (.a [.ob (.p u),.ob (.p v),.ob (.p w)])] [false,true] [] []=(some ([((decide (z=(0:Fp)))=false),((decide (w=(0:Fp)))=true)],((.v (.a [.ob (.p x),.ob (.p y),.ob (.p z)])),[]))):=by kernel_rfl
theorem plC (x y z u v w:Fp):let b:=jtw (x,(y,z));let c:Fp:=0;C9 qsB Try.f80 3000 [.v (.a [.ob (.p x),.ob (.p y),.ob (.p z)]),.v (.a [.ob (.p u),.ob (.p v),.ob (.p w)])] [false,false,true,true] [] []=(some ([((decide (z=c))=false),((decide (w=c))=false),((decide (((u*(z*z))-(x*(w*w)))=c))=true),((decide ((((v*(z*z))*z)-((y*(w*w))*w))=c))=true)],((.v (.a [(.ob (.p (Prod.fst b))),(.ob (.p (Prod.fst (Prod.snd b)))),(.ob (.p (Prod.snd (Prod.snd b))))])),[]))):=by intros;kernel_rfl
theorem plD (x y z u v w:Fp):let b:Fp:=0;C9 qsB Try.f80 3000 [.v (.a [.ob (.p x),.ob (.p y),.ob (.p z)]),.v (.a [.ob (.p u),.ob (.p v),.ob (.p w)])] [false,false,true,false] [] []=(some ([((decide (z=b))=false),((decide (w=b))=false),((decide (((u*(z*z))-(x*(w*w)))=b))=true),((decide ((((v*(z*z))*z)-((y*(w*w))*w))=b))=false)],((.v (.a [.ob (.p x),.ob (.p y),(.ob (.p b))])),[]))):=by intros;kernel_rfl
theorem plE (x y z u v w:Fp):let b:=(u*(z*z))-(x*(w*w));let c:=((v*(z*z))*z)-((y*(w*w))*w);let d:=(x*(w*w))*(b*b);let f:=(((c*c)-((b*b)*b))-d)-d;C9 qsB Try.f80 3000 [.v (.a [.ob (.p x),.ob (.p y),.ob (.p z)]),.v (.a [.ob (.p u),.ob (.p v),.ob (.p w)])] [false,false,false] [] []=(some ([((decide (z=(0:Fp)))=false),((decide (w=(0:Fp)))=false),((decide (b=(0:Fp)))=false)],((.v (.a [(.ob (.p f)),(.ob (.p ((c*(d-f))-(((y*(w*w))*w)*((b*b)*b))))),(.ob (.p ((b*z)*w)))])),[]))):=by intros;kernel_rfl
end

section

theorem D4r (x y z u v w:Fp):FnD Try.prog 80 [.v (.a [.ob (.p x),.ob (.p y),.ob (.p z)]),.v (.a [.ob (.p u),.ob (.p v),.ob (.p w)])] (.v (.a (S7 (jpl (x,y,z) (u,v,w))))) []:=by
 by_cases h:z=0
 ·have e:jpl (x,y,z) (u,v,w)=(u,v,w):=if_pos h
  rw[e];exact A7 B3x Try.func80 (plA x y z u v w) ⟨decide_eq_true h,trivial⟩
 ·by_cases h2:w=0
  ·have e:jpl (x,y,z) (u,v,w)=(x,y,z):=(if_neg h).trans (if_pos h2)
   rw[e];exact A7 B3x Try.func80 (plB x y z u v w) ⟨decide_eq_false h,decide_eq_true h2,trivial⟩
  ·unfold jpl
   rw[if_neg h,if_neg h2];dsimp only;by_cases h3:u*(z*z)-x*(w*w)=0
   ·rw[if_pos h3]
    by_cases h4:v*(z*z)*z-y*(w*w)*w=0
    ·rw[if_pos h4]
     exact A7 B3x Try.func80 (plC x y z u v w) ⟨decide_eq_false h,decide_eq_false h2,decide_eq_true h3,decide_eq_true h4,trivial⟩
    ·rw[if_neg h4]
     exact A7 B3x Try.func80 (plD x y z u v w) ⟨decide_eq_false h,decide_eq_false h2,decide_eq_true h3,decide_eq_false h4,trivial⟩
   ·rw[if_neg h3]
    exact A7 B3x Try.func80 (plE x y z u v w) ⟨decide_eq_false h,decide_eq_false h2,decide_eq_false h3,trivial⟩

end

section

def C6l:B7
 | [.v (.a [.ob (.p x),.ob (.p y),.ob (.p z)]),.v (.a [.ob (.p u),.ob (.p v),.ob (.p w)])]=>some ([],.v (.a (S7 (jpl (x,y,z) (u,v,w)))),[])
 | _=>none
def qsC:Env:=qsB.set (E8 qsB.fn 80 C6l)
theorem A8z:A6 Try.prog qsC:=A9 B3x 80 C6l (A4 Try.func80 rfl rfl) fun args o r es h _=>by
 unfold C6l at h;split at h
 ·cases h;exact D4r _ _ _ _ _ _
 ·cases h
def E5a (T:Nat->Option Func) (f:Nat):Option Func:=if f=76 then some Try.f76 else T f
def qsD:Env:={ qsC with inl:=E5a qsC.inl }
theorem A4m:A6 Try.prog qsD:=by
 refine ⟨A8z.ty,A8z.mixed,A8z.fn,A8z.mu,fun f fn h=>?_,A8z.ex,A8z.inv⟩
 have h:E5a qsC.inl f=some fn:=h;unfold E5a at h;split at h
 ·rename_i hf;cases h;subst hf;exact ⟨Try.func76,A4 Try.func76 rfl rfl⟩
 exact A8z.inl f fn h
theorem igA (x y:U6) (i:Bool):let b:=(1:Int)<(18446744073709551616:Int);let c:=Fin.ofNat pN 1;C9 qsD Try.f59 3000 [.v (.a [.ob (.fp x),.ob (.fp y),.bool i])] [true] [] []=(some ([(i=true),(0<=(1:Int)),b,(0<=(1:Int)),b],((.v (.a [(.ob (.p c)),(.ob (.p c)),(.ob (.p (0:Fp)))])),[]))):=by intros;kernel_rfl
theorem igB (x y:U6) (i:Bool):C9 qsD Try.f59 3000 [.v (.a [.ob (.fp x),.ob (.fp y),.bool i])] [false] [] []=(some ([(i=false),(0<=(1:Int)),((1:Int)<(18446744073709551616:Int))],((.v (.a [(.ob (.p (inP x))),(.ob (.p (inP y))),(.ob (.p (Fin.ofNat pN 1)))])),[]))):=by kernel_rfl
theorem ogA (x y z:Fp):C9 qsD Try.f56 3000 [.v (.a [.ob (.p x),.ob (.p y),.ob (.p z)])] [true,true] [] []=(some ([((decide (z=(0:Fp)))=true)],((.v (.a [(.ob (.fp (0:U6))),(.ob (.fp (0:U6))),(.lit true)])),[]))):=by kernel_rfl
theorem ogB (x y z:Fp):let b:=ivP z;C9 qsD Try.f56 3000 [.v (.a [.ob (.p x),.ob (.p y),.ob (.p z)])] [false,false] [] []=(some ([((decide (z=(0:Fp)))=false)],((.v (.a [(.ob (.fp (A0b (x*(b*b))))),(.ob (.fp (A0b ((y*(b*b))*b)))),(.lit false)])),[]))):=by intros;kernel_rfl
theorem onA (x y:U6) (i:Bool):let b:=Bool.and (decide (x=(0:U6))) (Bool.and (decide (y=(0:U6))) (i == true));C9 qsD Try.f75 3000 [.v (.a [.ob (.fp x),.ob (.fp y),.bool i])] [true] [] []=(some ([(i=true)],((.ci (.bool (ite (true=true) b (Bool.not b)))),[]))):=by intros;kernel_rfl
theorem onB (x y:U6) (i:Bool):let d:=decide ((A0b (inP y))=y);let f:=true=true;let g:=inP x;let b:=decide (((inP y)*(inP y))=(((g*g)*g)+(Fin.ofNat pN 4)));let c:=decide ((A0b g)=x);C9 qsD Try.f75 3000 [.v (.a [.ob (.fp x),.ob (.fp y),.bool i])] [false,true,true] [] []=(some ([(i=false),((ite f c (Bool.not c))=true),((ite f d (Bool.not d))=true),(0<=(4:Int)),((4:Int)<(18446744073709551616:Int))],((.ci (.bool (ite f b (Bool.not b)))),[]))):=by intros;kernel_rfl
theorem onC (x y:U6) (i:Bool):let b:=decide ((A0b (inP x))=x);let c:=decide ((A0b (inP y))=y);C9 qsD Try.f75 3000 [.v (.a [.ob (.fp x),.ob (.fp y),.bool i])] [false,true,false] [] []=(some ([(i=false),((ite (true=true) b (Bool.not b))=true),((ite (true=true) c (Bool.not c))=false)],((.ci (.lit false)),[]))):=by intros;kernel_rfl
theorem onD (x y:U6) (i:Bool):let b:=decide ((A0b (inP x))=x);C9 qsD Try.f75 3000 [.v (.a [.ob (.fp x),.ob (.fp y),.bool i])] [false,false,false] [] []=(some ([(i=false),((ite (true=true) b (Bool.not b))=false)],((.ci (.lit false)),[]))):=by intros;kernel_rfl
end

section

/-- Which points may be. -/
def onG (a:G1D):Bool:=
 if a.inf then decide (a.x=0) && decide (a.y=0)
 else decide (A0b (inP a.x)=a.x) && (decide (A0b (inP a.y)=a.y) && decide (inP a.y*inP a.y=inP a.x*inP a.x*inP a.x+fp4))
def inG (a:G1D):Fp×Fp×Fp:=if a.inf then (fp1,fp1,0) else (inP a.x,inP a.y,fp1)
def D4l (t:Fp×Fp×Fp):G1D:=
 if t.2.2=0 then ⟨0,0,true⟩ else ⟨A0b (t.1*(ivP t.2.2*ivP t.2.2)),A0b (t.2.1*(ivP t.2.2*ivP t.2.2)*ivP t.2.2),false⟩

theorem B2v {x:Ctx} {i j:It} {b:Bool} {v:Value} (h:B1 x (.v (.a [i,j,.lit b])) v):B1 x (.v (.a [i,j,.bool b])) v:=by
 obtain ⟨cs,e,c1,r1,e1,h1,c2,r2,e2,h2,c3,r3,e3,⟨d,h3⟩,h4⟩:=h;refine ⟨cs,e,c1,r1,e1,h1,c2,r2,e2,h2,c3,r3,e3,⟨d,?_⟩,h4⟩
 cases d<;>exact h3
theorem F3c (x y:U6) (i:Bool):FnD Try.prog 59 [.v (.a [.ob (.fp x),.ob (.fp y),.bool i])] (.v (.a (S7 (inG ⟨x,y,i⟩)))) []:=by
 cases i with
 | true=>exact A7 A4m Try.func59 (igA x y true) ⟨rfl,by decide,by decide,by decide,by decide,trivial⟩
 | false=>exact A7 A4m Try.func59 (igB x y false) ⟨rfl,by decide,by decide,trivial⟩

theorem E8w (x y z:Fp):FnD Try.prog 56 [.v (.a [.ob (.p x),.ob (.p y),.ob (.p z)])] (.v (.a (D4l (x,y,z)).its)) []:=by
 by_cases h:z=0
 ·have e:D4l (x,y,z)=⟨0,0,true⟩:=if_pos h
  rw[e];exact (A7 A4m Try.func56 (ogA x y z) ⟨decide_eq_true h,trivial⟩).conv (fun _ _ h=>h) fun y v hd=>B2v hd
 ·unfold D4l
  rw[if_neg h];exact (A7 A4m Try.func56 (ogB x y z) ⟨decide_eq_false h,trivial⟩).conv (fun _ _ h=>h) fun y v hd=>B2v hd

theorem F5m (x y:U6) (i:Bool):FnD Try.prog 75 [.v (.a [.ob (.fp x),.ob (.fp y),.bool i])] (.v (.c (.bool (onG ⟨x,y,i⟩)))) []:=by
 cases i with
 | true=>
  have r:=onA x y true;dsimp only at r;rw[if_pos rfl] at r;have e:onG ⟨x,y,true⟩=((decide (x=0)) && ((decide (y=0)) && (true == true))):=by
   show (decide (x=0) && decide (y=0))=_;simp
  rw[e];exact A7 A4m Try.func75 r ⟨rfl,trivial⟩
 | false=>
  by_cases h1:A0b (inP x)=x
  ·by_cases h2:A0b (inP y)=y
   ·have r:=onB x y false
    dsimp only at r;rw[if_pos rfl,if_pos rfl,if_pos rfl] at r;have e:onG ⟨x,y,false⟩=decide (inP y*inP y=inP x*inP x*inP x+Fin.ofNat pN 4):=by
     show (decide (A0b (inP x)=x) && (decide (A0b (inP y)=y) && decide (inP y*inP y=inP x*inP x*inP x+fp4)))=_;rw[decide_eq_true h1,decide_eq_true h2];rfl
    rw[e];exact A7 A4m Try.func75 r ⟨rfl,decide_eq_true h1,decide_eq_true h2,by decide,by decide,trivial⟩
   ·have r:=onC x y false
    dsimp only at r;rw[if_pos rfl,if_pos rfl] at r;have e:onG ⟨x,y,false⟩=false:=by
     show (decide (A0b (inP x)=x) && (decide (A0b (inP y)=y) && decide (inP y*inP y=inP x*inP x*inP x+fp4)))=_;rw[decide_eq_false h2,Bool.false_and,Bool.and_false]
    rw[e];exact (A7 A4m Try.func75 r ⟨rfl,decide_eq_true h1,decide_eq_false h2,trivial⟩).conv (fun _ _ h=>h) fun y v hd=>Z2 rfl hd
  ·have r:=onD x y false
   dsimp only at r;rw[if_pos rfl] at r;have e:onG ⟨x,y,false⟩=false:=by
    show (decide (A0b (inP x)=x) && (decide (A0b (inP y)=y) && decide (inP y*inP y=inP x*inP x*inP x+fp4)))=_;rw[decide_eq_false h1,Bool.false_and]
   rw[e];exact (A7 A4m Try.func75 r ⟨rfl,decide_eq_false h1,trivial⟩).conv (fun _ _ h=>h) fun y v hd=>Z2 rfl hd
def C5d:B7
 | [.v (.a [.ob (.fp x),.ob (.fp y),.bool i])]=>some ([],.v (.a (S7 (inG ⟨x,y,i⟩))),[])
 | _=>none
def qsE:Env:=qsD.set (E8 qsD.fn 59 C5d)
theorem G2j:A6 Try.prog qsE:=A9 A4m 59 C5d (A4 Try.func59 rfl rfl) fun args o r es h _=>by
 unfold C5d at h;split at h
 ·cases h;exact F3c _ _ _
 ·cases h
def B9p:B7
 | [.v (.a [.ob (.p x),.ob (.p y),.ob (.p z)])]=>some ([],.v (.a (D4l (x,y,z)).its),[])
 | _=>none
def qsF:Env:=qsE.set (E8 qsE.fn 56 B9p)
theorem G2k:A6 Try.prog qsF:=A9 G2j 56 B9p (A4 Try.func56 rfl rfl) fun args o r es h _=>by
 unfold B9p at h;split at h
 ·cases h;exact E8w _ _ _
 ·cases h
def C6g:B7
 | [.v (.a [.ob (.fp x),.ob (.fp y),.bool i])]=>some ([],.v (.c (.bool (onG ⟨x,y,i⟩))),[])
 | _=>none
def qsG:Env:=qsF.set (E8 qsF.fn 75 C6g)
theorem E9w:A6 Try.prog qsG:=A9 G2k 75 C6g (A4 Try.func75 rfl rfl) fun args o r es h _=>by
 unfold C6g at h;split at h
 ·cases h;exact F5m _ _ _
 ·cases h
theorem riR (x y:U6) (i:Bool):C9 qsG Try.f54 3000 [.v (.a [.ob (.fp x),.ob (.fp y),.bool i])] [] [] []=(some ([],((.ci (.bool (onG (G1D.mk x y i)))),[]))):=by kernel_rfl
end

section

def A9f:B7
 | [.v (.a [.ob (.fp x),.ob (.fp y),.bool i])]=>some ([],.v (.c (.bool (onG ⟨x,y,i⟩))),[])
 | _=>none
def qtA:Env:=qsG.set (E8 qsG.fn 54 A9f)
theorem G2l:A6 Try.prog qtA:=A9 E9w 54 A9f (A4 Try.func54 rfl rfl) fun args o r es h _=>by
 unfold A9f at h;split at h
 ·cases h;exact A7 E9w Try.func54 (riR _ _ _) trivial
 ·cases h
def qtC:Env:=qtA
theorem G2m:A6 Try.prog qtC:=G2l
def qtG:Env:=qtC
theorem G2n:A6 Try.prog qtG:=G2m
end

section

theorem B4q {x:Ctx} {i j k:It} {b:Bool} {v:Value} (h:B1 x (.t [.a [i,j,.lit b],.c k]) v):B1 x (.t [.a [i,j,.bool b],.c k]) v:=by
 obtain ⟨vs,e,h1⟩:=h
 cases h1 with | cons d1 ds=>
 exact ⟨_,e,.cons (B2v d1) ds⟩

end

section

/-- A point outside, as a point; and back. -/
def pG (a:G1D):Pt Fp:=if a.inf then none else some (inP a.x,inP a.y)
end

section

def qvA:Env:=qtG
theorem G2o:A6 Try.prog qvA:=G2n
def qvF:Env:=qvA
theorem G2p:A6 Try.prog qvF:=G2o
end

section

theorem C8c {x:Ctx} (L:List (Fp×Fp×Fp)):∀(n i:Nat) (cs:List Value),B8 x.D (J4 L i n) cs->cs.length=n*18∧∀j,j<n->∃c,B8 x.D (S7 (L.getD (i+j) pt0)) c∧∀(q:Nat) (v:Value),c[q]? = some v->cs[j*18+q]? = some v
 | 0,i,cs,h=>by
  have h:cs=[]:=h;subst h;exact ⟨rfl,fun j hj=>absurd hj (Nat.not_lt_zero _)⟩
 | n+1,i,cs,h=>by
  obtain ⟨c1,r1,e1,h1,c2,r2,e2,h2,c3,r3,e3,h3,h4⟩:=h;obtain ⟨hl,hj⟩:=C8c L n (i+1) r3 h4;have l1:c1.length=6:=B4l h1;have l2:c2.length=6:=B4l h2;have l3:c3.length=6:=B4l h3;subst e1 e2 e3;refine ⟨by simp only[List.length_append];omega,fun j hjn=>?_⟩
  cases j with
  | zero=>
   refine ⟨c1++(c2++(c3++[])),⟨c1,_,rfl,h1,c2,_,rfl,h2,c3,_,rfl,h3,rfl⟩,fun q v hq=>?_⟩
   rw[List.append_nil] at hq;have hlt:q<(c1++(c2++c3)).length:=by
    rcases Nat.lt_or_ge q (c1++(c2++c3)).length with h | h
    ·exact h
    ·rw[List.getElem?_eq_none h] at hq;cases hq
   rw[Nat.zero_mul,Nat.zero_add,<-hq];have e:c1++(c2++(c3++r3))=(c1++(c2++c3))++r3:=by simp
   rw[e,List.getElem?_append_left hlt]
  | succ j=>
   obtain ⟨c,hc,hv⟩:=hj j (by omega)
   rw[show i+1+j=i+(j+1) from by omega] at hc
   refine ⟨c,hc,fun q v hq=>?_⟩
   have e:c1++(c2++(c3++r3))=(c1++(c2++c3))++r3:=by simp
   have hl18:(c1++(c2++c3)).length=18:=by simp only[List.length_append];omega
   rw[e,List.getElem?_append_right (by rw[hl18];omega),hl18,show (j+1)*18+q-18=j*18+q from by omega]
   exact hv q v hq

end

section

instance:Inhabited G1D:=⟨g10⟩
def qwA:Env:=qvF
theorem G2q:A6 Try.prog qwA:=G2p
def qwC:Env:=qwA
theorem G2r:A6 Try.prog qwC:=G2q
end

section

def uaA:Env:=qwC.or S4.gK
theorem G3x:A6 Try.prog uaA:=C4x G2r S4.D7c
def uaB:Env:=uaA
theorem G3y:A6 Try.prog uaB:=G3x
end

section
section
variable {w0:World} {F0:Nat->Prop} {K:Kp} {ac:List Act} {Q:Exit->Act->World->Prop} {cX:Ctx} {aX:Act}

def A7z:B7
 | [.v (.a [.ob (.fr k)])]=>some ([],.v (.c (.sl (.int (dgW k.val 52).1))),[])
 | _=>none
def ucA:Env:=uaB.set (E8 uaB.fn 78 A7z)
theorem A9l:A6 Try.prog ucA:=A9 G3y 78 A7z (A4 Try.func78 rfl rfl) fun args o r es h _=>by
 unfold A7z at h;split at h
 ·cases h;exact D3f _ (Eq.refl 52)
 ·cases h
def E5c (T:Nat->Option Func) (f:Nat):Option Func:=if f=92 then some Try.f92 else T f
def ucB:Env:={ ucA with inl:=E5c ucA.inl }
theorem A6j:A6 Try.prog ucB:=by
 refine ⟨A9l.ty,A9l.mixed,A9l.fn,A9l.mu,fun f fn h=>?_,A9l.ex,A9l.inv⟩
 have h:E5c ucA.inl f=some fn:=h;unfold E5c at h;split at h
 ·rename_i hf;cases h;subst hf;exact ⟨Try.func92,A4 Try.func92 rfl rfl⟩
 exact A9l.inl f fn h
def B5e:List KI:=(run ucB false 3000 ((fun (P:List (Fp×Fp×Fp)) (D:List Int)=>(⟨[.code (B2 Try.f81)],.normal,D6 Try.f81.ntmps [.v (.c (.sl (.pt P))),.v (.c (.sl (.int D)))]⟩:Cfg)) default default) []).cfg.k
theorem kb (P:List (Fp×Fp×Fp)) (D:List Int):let a:Fp:=0;A3 []->Sg Try.prog (D6 Try.f81.ntmps [.v (.c (.sl (.pt P))),.v (.c (.sl (.int D)))]) (A5 45 [1,4,5,9,10,11] [(.ci (.sl (.int D))),.pt 16 0,.pt 32 0,(.ci (.sl (Sq.pt P))),(.ii (P.length:Int)),.ii (0:Int)] [16,32] [(eF_ [(.ob (.p a)),(.ob (.p a)),(.ob (.p a))]),(eF_ [(.ob (.p a)),(.ob (.p a)),(.ob (.p a)),(.ob (.p a)),(.ob (.p a)),(.ob (.p a)),(.ob (.p a)),(.ob (.p a)),(.ob (.p a)),(.ob (.p a)),(.ob (.p a)),(.ob (.p a)),(.ob (.p a)),(.ob (.p a)),(.ob (.p a)),(.ob (.p a)),(.ob (.p a)),(.ob (.p a)),(.ob (.p a)),(.ob (.p a)),(.ob (.p a)),(.ob (.p a)),(.ob (.p a)),(.ob (.p a)),(.ob (.p a)),(.ob (.p a)),(.ob (.p a)),(.ob (.p a)),(.ob (.p a)),(.ob (.p a)),(.ob (.p a)),(.ob (.p a)),(.ob (.p a)),(.ob (.p a)),(.ob (.p a)),(.ob (.p a)),(.ob (.p a)),(.ob (.p a)),(.ob (.p a)),(.ob (.p a)),(.ob (.p a)),(.ob (.p a)),(.ob (.p a)),(.ob (.p a)),(.ob (.p a)),(.ob (.p a)),(.ob (.p a)),(.ob (.p a)),(.ob (.p a)),(.ob (.p a)),(.ob (.p a))])] 96 [] []) .normal (B5e) ([.code (B2 Try.f81)]):=sgA false 3000 [] A6j
def kbS (P:List (Fp×Fp×Fp)) (D:List Int) (S:List (Fp×Fp×Fp)) (i:Int):St:=A5 45 [1,4,5,9,10,11] [(.ci (.sl (.int D))),.pt 16 0,.pt 32 0,(.ci (.sl (Sq.pt P))),(.ii (P.length:Int)),.v (.c (.int .i64 i))] [16,32] [(eF_ [(.ob (.p (0:Fp))),(.ob (.p (0:Fp))),(.ob (.p (0:Fp)))]),some (.sq (.pt S))] 96 [] []
theorem kbA (P:List (Fp×Fp×Fp)) (D:List Int) (S:List (Fp×Fp×Fp)) (i:Int):let a:=D.getD i.toNat 0;let b:Int:=P.length;let c:=(a).toNat<S.length;A3 [((decide (i<b))=true),(0<=i),(i<b),(0<=i),(i<(D.length:Int)),((decide (a > (0:Int)))=true),(0<=a),(a<(17:Int)),(0=0),c,(0<=a),(a<(17:Int)),(0=0),c]->Sg Try.prog (kbS P D S i) (A5 45 [1,4,5,9,10,11] [(.ci (.sl (.int D))),.pt 16 0,.pt 32 0,(.ci (.sl (Sq.pt P))),(.ii b),(.ii (wrap .i64 (i+1)))] [16,32] [(eF_ [(.ob (.p (0:Fp))),(.ob (.p (0:Fp))),(.ob (.p (0:Fp)))]),(eQ_ (Sq.pt (List.set S (a).toNat (jpl (List.getD S (a).toNat pt0) (List.getD P (i).toNat pt0)))))] 496 [] []) .normal (D5 B5e) (B5 B5e):=sgA false 3000 [true,true] A6j
theorem kbB (P:List (Fp×Fp×Fp)) (D:List Int) (S:List (Fp×Fp×Fp)) (i:Int):let b:=D.getD i.toNat 0;let a:=wrap .i64 ((0:Int)-b);let c:Int:=P.length;let d:=(a).toNat<S.length;A3 [((decide (i<c))=true),(0<=i),(i<c),(0<=i),(i<(D.length:Int)),((decide (b > (0:Int)))=false),((decide (b<(0:Int)))=true),(0<=a),(a<(17:Int)),(0=0),d,(0<=a),(a<(17:Int)),(0=0),d]->Sg Try.prog (kbS P D S i) (A5 45 [1,4,5,9,10,11] [(.ci (.sl (.int D))),.pt 16 0,.pt 32 0,(.ci (.sl (Sq.pt P))),(.ii c),(.ii (wrap .i64 (i+1)))] [16,32] [(eF_ [(.ob (.p (0:Fp))),(.ob (.p (0:Fp))),(.ob (.p (0:Fp)))]),(eQ_ (Sq.pt (List.set S (a).toNat (jpl (List.getD S (a).toNat pt0) (jng (List.getD P (i).toNat pt0))))))] 592 [] []) .normal (D5 B5e) (B5 B5e):=sgA false 3000 [true,false,true] A6j
theorem kbC (P:List (Fp×Fp×Fp)) (D:List Int) (S:List (Fp×Fp×Fp)) (i:Int):let a:Int:=P.length;let b:=D.getD i.toNat 0;A3 [((decide (i<a))=true),(0<=i),(i<a),(0<=i),(i<(D.length:Int)),((decide (b > (0:Int)))=false),((decide (b<(0:Int)))=false)]->Sg Try.prog (kbS P D S i) (A5 45 [1,4,5,9,10,11] [(.ci (.sl (.int D))),.pt 16 0,.pt 32 0,(.ci (.sl (Sq.pt P))),(.ii a),(.ii (wrap .i64 (i+1)))] [16,32] [(eF_ [(.ob (.p (0:Fp))),(.ob (.p (0:Fp))),(.ob (.p (0:Fp)))]),(eQ_ (Sq.pt S))] 416 [] []) .normal (D5 B5e) (B5 B5e):=sgA false 3000 [true,false,false] A6j
def C2o:List KI:=(run ucB false 3000 ((fun (P:List (Fp×Fp×Fp)) (D:List Int) (S:List (Fp×Fp×Fp)) (i:Int)=>(⟨B5 B5e,.normal,kbS P D S i⟩:Cfg)) default default default default) [false]).cfg.k
theorem kbX (P:List (Fp×Fp×Fp)) (D:List Int) (S:List (Fp×Fp×Fp)) (i:Int):let a:=eF_ [(.ob (.p (0:Fp))),(.ob (.p (0:Fp))),(.ob (.p (0:Fp)))];A3 [((decide (i<(P.length:Int)))=false)]->Sg Try.prog (kbS P D S i) (A5 21 [0,2,3,4,5] [.pt 32 0,.pt 112 0,.pt 128 0,.pt 144 0,.ii (16:Int)] [16,32,112,128,144] [a,(eQ_ (Sq.pt S)),a,a,a] 176 [[4]] [([.pt 16 0],45)]) .normal (C2o) (B5 B5e):=sgA false 3000 [false] A6j
def kbT (S:List (Fp×Fp×Fp)) (r o:Fp×Fp×Fp) (d:Int):St:=A5 21 [0,2,3,4,5] [.pt 32 0,.pt 112 0,.pt 128 0,.pt 144 0,.v (.c (.int .i64 d))] [16,32,112,128,144] [(eF_ [(.ob (.p (0:Fp))),(.ob (.p (0:Fp))),(.ob (.p (0:Fp)))]),(eQ_ (Sq.pt S)),(eF_ [(.ob (.p (0:Fp))),(.ob (.p (0:Fp))),(.ob (.p (0:Fp)))]),some (.fl [.ob (.p o.1),.ob (.p o.2.1),.ob (.p o.2.2)]),some (.fl [.ob (.p r.1),.ob (.p r.2.1),.ob (.p r.2.2)])] 176 [[4]] [([.pt 16 0],45)]
theorem kbU (S:List (Fp×Fp×Fp)) (r o:Fp×Fp×Fp) (d:Int):let a:=jpl r (List.getD S (d).toNat pt0);let b:=eF_ [(.ob (.p (0:Fp))),(.ob (.p (0:Fp))),(.ob (.p (0:Fp)))];let c:=Prod.snd (jpl o a);A3 [((decide (d > (0:Int)))=true),(0<=d),(d<(17:Int)),(0=0),((d).toNat<S.length)]->Sg Try.prog (kbT S r o d) (A5 21 [0,2,3,4,5] [.pt 32 0,.pt 112 0,.pt 128 0,.pt 144 0,(.ii (wrap .i64 (d-1)))] [16,32,112,128,144] [b,(eQ_ (Sq.pt S)),b,(eF_ [(.ob (.p (Prod.fst (jpl o a)))),(.ob (.p (Prod.fst c))),(.ob (.p (Prod.snd c)))]),(eF_ [(.ob (.p (Prod.fst a))),(.ob (.p (Prod.fst (Prod.snd a)))),(.ob (.p (Prod.snd (Prod.snd a))))])] 448 [[4]] [([.pt 16 0],45)]) .normal (D5 C2o) (B5 C2o):=sgA false 3000 [true] A6j
theorem F3m (S:List (Fp×Fp×Fp)) (r o:Fp×Fp×Fp) (d:Int):C2 ucB Try.f81 false 3000 (⟨B5 C2o,.normal,kbT S r o d⟩) [false] [] []=(some ([((decide (d > (0:Int)))=false)],((.v (.a [(.ob (.p (Prod.fst o))),(.ob (.p (Prod.fst (Prod.snd o)))),(.ob (.p (Prod.snd (Prod.snd o))))])),[]))):=by kernel_rfl
end
end

section

theorem E2i {x:Ctx} {n:Nat} (L:List (Fp×Fp×Fp)) (h:L.length=n) (cs:List Value) (hc:D9 x (.fl (J4 L 0 n)) cs):D9 x (.sq (.pt L)) cs:=by
 obtain ⟨hl,hj⟩:=C8c L n 0 cs hc;refine ⟨?_,fun i hi=>?_⟩
 ·show L.length*18<=cs.length
  rw[h,hl];exact Nat.le_refl _
 ·have hi:i<L.length:=hi
  rw[h] at hi;obtain ⟨c,h1,h2⟩:=hj i hi;rw[Nat.zero_add] at h1;exact ⟨c,h1,h2⟩

theorem C8a (P:List (Fp×Fp×Fp)) (D:List Int) (hl:D.length=P.length) (hp:P.length<=4611686018427387904) (hd:∀i,-16<=D.getD i 0∧D.getD i 0<=16) :
  FnD Try.prog 81 [.v (.c (.sl (.pt P))),.v (.c (.sl (.int D)))] (.v (.a (S7 (bkT pt0 P D)))) []:=by
 refine F5 (fn:=Try.f81) (c:=B2 Try.f81) Try.func81 rfl rfl fun x0 a0 hk hF hs=>?_
 refine kb P D trivial hs fun ac cY aY hs1=>?_
 have hs2:=hs1.blocks (ens' := [some (.fl [.ob (.p 0),.ob (.p 0),.ob (.p 0)]),some (.sq (.pt (List.replicate 17 pt0)))])
  ⟨.inl rfl,.inr ⟨_,_,_,rfl,rfl,rfl,fun cs h=>E2i (n:=17) _ rfl cs h⟩,trivial⟩
 have hlen:∀i,(bkN pt0 (List.replicate 17 pt0) P D i).length=17:=fun i=>(D6i ..).trans List.length_replicate
 refine C0 (ι:={ i:Nat // i<=P.length }) (fun i=>kbS P D (bkN pt0 (List.replicate 17 pt0) P D i.1) (i.1:Int)) (fun i=>P.length-i.1) (c:=lpC B5e) (k:=lpR B5e) (by kernel_rfl) (fun i ih ac cY aY hs=>?_) ⟨0,Nat.zero_le _⟩ (hs2.nx _)
 obtain ⟨i,hi⟩:=i;simp only at ih hs
 have hS:=hlen i;by_cases h:i<P.length
 ·have hnext:bkN pt0 (List.replicate 17 pt0) P D (i+1)=bkS pt0 (bkN pt0 (List.replicate 17 pt0) P D i) (P.getD i pt0) (D.getD i 0):=rfl
  have ei:wrap IntKind.i64 ((i:Int)+1)=((i+1:Nat):Int):=by rw[B0 (by omega) (by omega)];rfl
  have hdi:=hd i;have go:∀(S' : List (Fp×Fp×Fp)) (n:Nat) (ac:List Act) (cU:Ctx) (aU:Act),S' = bkN pt0 (List.replicate 17 pt0) P D (i+1)->Sim x0.w x0.F Z8 ac (kbS P D S' ((i+1:Nat):Int)) cU aU->Wq Try.prog (A9r Try.prog Try.f81 x0 (.v (.a (S7 (bkT pt0 P D)))) []) (D5 B5e) ac .normal aU cU.w:=by
   intro S' n ac cU aU e hs
   rw[e] at hs;exact ih ⟨i+1,h⟩ (by show P.length-(i+1)<P.length-i;omega) ac cU aU hs
  generalize bkN pt0 (List.replicate 17 pt0) P D i=S at hs hS hnext;generalize hd0:D.getD i 0=d at hdi hnext;by_cases hpos:d > 0
  ·refine kbA P D S i ⟨decide_eq_true (by omega),by omega,by omega,by omega,by omega,?_,?_,?_,rfl,?_,?_,?_,rfl,?_,trivial⟩ hs fun ac cU aU hs3=>?_
   all_goals try rw[Int.toNat_natCast,hd0]
   ·exact decide_eq_true hpos
   ·omega
   ·omega
   ·omega
   ·omega
   ·omega
   ·omega
   ·rw[Int.toNat_natCast,hd0,ei] at hs3
    refine go _ 0 ac cU aU ?_ (hs3.nx _)
    rw[hnext];exact (if_pos hpos).symm
  ·by_cases hneg:d<0
   ·have ew:wrap IntKind.i64 ((0:Int)-d) = -d:=by rw[B0 (by omega) (by omega)];omega
    refine kbB P D S i ⟨decide_eq_true (by omega),by omega,by omega,by omega,by omega,?_,?_,?_,?_,rfl,?_,?_,?_,rfl,?_,trivial⟩ hs fun ac cU aU hs3=>?_
    all_goals try rw[Int.toNat_natCast,hd0]
    ·exact decide_eq_false hpos
    ·exact decide_eq_true hneg
    all_goals try rw[ew]
    ·omega
    ·omega
    ·omega
    ·omega
    ·omega
    ·omega
    ·rw[Int.toNat_natCast,hd0,ew,ei] at hs3
     refine go _ 0 ac cU aU ?_ (hs3.nx _)
     rw[hnext];unfold bkS;rw[if_neg hpos,if_pos hneg]
   ·refine kbC P D S i ⟨decide_eq_true (by omega),by omega,by omega,by omega,by omega,?_,?_,trivial⟩ hs fun ac cU aU hs3=>?_
    all_goals try rw[Int.toNat_natCast,hd0]
    ·exact decide_eq_false hpos
    ·exact decide_eq_false hneg
    ·rw[ei] at hs3
     refine go _ 0 ac cU aU ?_ (hs3.nx _)
     rw[hnext];unfold bkS;rw[if_neg hpos,if_neg hneg]
 ·obtain rfl:i=P.length:=by omega
  have hT:bkT pt0 P D=toO pt0 (bkN pt0 (List.replicate 17 pt0) P D P.length) 16:=rfl;rw[hT];generalize bkN pt0 (List.replicate 17 pt0) P D P.length=S at hs hS ⊢
  refine kbX P D S _ ⟨decide_eq_false (by omega),trivial⟩ hs fun ac cU aU hs3=>?_
  refine C0 (ι:={ n:Nat // n<=16 }) (fun n=>kbT S (toR pt0 S n.1) (toO pt0 S n.1) ((16-n.1:Nat):Int)) (fun n=>16-n.1) (c:=lpC C2o) (k:=lpR C2o) (by kernel_rfl) (fun n ih2 ac cY aY hs=>?_) ⟨0,Nat.zero_le _⟩ (hs3.nx _)
  obtain ⟨n,hn⟩:=n;simp only at ih2 hs
  by_cases hn16:n<16
  ·refine kbU S _ _ _ ⟨decide_eq_true (by omega),by omega,by omega,rfl,by rw[Int.toNat_natCast,hS];omega,trivial⟩ hs fun ac cV aV hs4=>?_
   have en:wrap IntKind.i64 (((16-n:Nat):Int)-1)=((16-(n+1):Nat):Int):=by rw[B0 (by omega) (by omega)];omega
   have e1:jpl (toR pt0 S n) (S.getD (16-n) pt0)=toR pt0 S (n+1):=rfl;have e2:jpl (toO pt0 S n) (toR pt0 S (n+1))=toO pt0 S (n+1):=rfl;rw[Int.toNat_natCast,en,e1,e2] at hs4;exact ih2 ⟨n+1,hn16⟩ (by show 16-(n+1)<16-n;omega) ac cV aV (hs4.nx _)
  ·obtain rfl:n=16:=by omega
   exact C7 A6j hk hF (F3m S _ _ _) ⟨by decide,trivial⟩ (fun y v hd=>hd) hs

end

section
section
variable {w0:World} {F0:Nat->Prop} {K:Kp} {ac:List Act} {Q:Exit->Act->World->Prop} {cX:Ctx} {aX:Act}

theorem C4m (P:List (Fp×Fp×Fp)) (D:List Int) (h:D.length=P.length∧P.length<=4611686018427387904∧F2t D):FnD Try.prog 81 [.v (.c (.sl (.pt P))),.v (.c (.sl (.int D)))] (.v (.a (S7 (bkT pt0 P D)))) []:=C8a P D h.1 h.2.1 h.2.2
def A5b:B7
 | [.v (.c (.sl (.pt P))),.v (.c (.sl (.int D)))]=>some ([D.length=P.length,P.length<=4611686018427387904,F2t D],.v (.a (S7 (bkT pt0 P D))),[])
 | _=>none
def ucC:Env:=ucB.set (E8 ucB.fn 81 A5b)
theorem A3d:A6 Try.prog ucC:=A9 A6j 81 A5b (A4 Try.func81 rfl rfl) fun args o r es h ho=>by
 unfold A5b at h;split at h
 ·cases h;exact C4m _ _ ⟨ho.1,ho.2.1,ho.2.2.1⟩
 ·cases h
def D2m:List KI:=(run ucC false 3000 ((fun (P:List (Fp×Fp×Fp)) (k:List U4)=>(⟨[.code (B2 Try.f57)],.normal,D6 Try.f57.ntmps [.v (.c (.sl (.pt P))),.v (.c (.sl (.fr k)))]⟩:Cfg)) default default) []).cfg.k
theorem am (P:List (Fp×Fp×Fp)) (k:List U4):A3 []->Sg Try.prog (D6 Try.f57.ntmps [.v (.c (.sl (.pt P))),.v (.c (.sl (.fr k)))]) (A5 72 [0,1,4,5,6,15,16,17] [(.ci (.sl (Sq.pt P))),(.ci (.sl (.fr k))),.pt 16 0,(.ci (.val (Value.slice Option.none 0 0))),.ii (0:Int),(.ci (.sl (.fr k))),(.ii (k.length:Int)),.ii (0:Int)] [16] [(eF_ [(.ob (.p (0:Fp))),(.ob (.p (0:Fp))),(.ob (.p (0:Fp)))])] 112 [] []) .normal (D2m) ([.code (B2 Try.f57)]):=sgA false 3000 [] A3d
def amS (P:List (Fp×Fp×Fp)) (k:List U4) (R:List (List Int)) (n:Nat) (m i:Int):St:=A5 72 [0,1,4,5,6,15,16,17] [(.ci (.sl (Sq.pt P))),(.ci (.sl (.fr k))),.pt 16 0,.v (.c (.slc 17 0 n 1)),.v (.c (.int .i64 m)),(.ci (.sl (.fr k))),(.ii (k.length:Int)),.v (.c (.int .i64 i))] [16,17] [(eF_ [(.ob (.p (0:Fp))),(.ob (.p (0:Fp))),(.ob (.p (0:Fp)))]),some (.sq (.ints R))] 112 [] []
theorem amA (P:List (Fp×Fp×Fp)) (k:List U4) (R:List (List Int)) (n:Nat) (m i:Int):let a:=Prod.fst (dgW (Fin.val (k.getD i.toNat 0)) 52);let b:Int:=k.length;let c:=R.length+1;let d:Int:=(a.length:Nat);A3 [((decide (i<b))=true),(0<=i),(i<b),((c*24)<=140737488355328),(c<=maxLen),(n=R.length),(1=1)]->Sg Try.prog (amS P k R n m i) (A5 72 [0,1,4,5,6,15,16,17] [(.ci (.sl (Sq.pt P))),(.ci (.sl (.fr k))),.pt 16 0,(.ci (.slc 17 0 c 1)),(.ii (ite (d > m) d m)),(.ci (.sl (.fr k))),(.ii b),(.ii (wrap .i64 (i+1)))] [16,17] [(eF_ [(.ob (.p (0:Fp))),(.ob (.p (0:Fp))),(.ob (.p (0:Fp)))]),(eQ_ (.ints (R++[a])))] 432 [] []) .normal (D5 D2m) (B5 D2m):=sgA false 3000 [true] A3d
def B6g:List KI:=(run ucC false 3000 ((fun (P:List (Fp×Fp×Fp)) (k:List U4) (R:List (List Int)) (n:Nat) (m i:Int)=>(⟨B5 D2m,.normal,amS P k R n m i⟩:Cfg)) default default default default default default) [false]).cfg.k
theorem amB (P:List (Fp×Fp×Fp)) (k:List U4) (R:List (List Int)) (n:Nat) (m i:Int):let a:Int:=k.length;let b:=eF_ [(.ob (.p (0:Fp))),(.ob (.p (0:Fp))),(.ob (.p (0:Fp)))];A3 [((decide (i<a))=false),(0<=a),(a=a),(((8:Int)*a)<=(281474976710656:Int)),(a<=(9223372036854775807:Int))]->Sg Try.prog (amS P k R n m i) (A5 72 [0,4,5,10,11,12] [(.ci (.sl (Sq.pt P))),.pt 16 0,(.ci (.slc 17 0 n 1)),.pt 128 0,(.ci (.slc 176 0 (a).toNat 1)),(.ii (wrap .i64 (m-1)))] [16,17,128,176] [b,(eQ_ (.ints R)),b,(eQ_ (.int (List.replicate (a).toNat 0)))] 256 [] []) .normal (B6g) (B5 D2m):=sgA false 3000 [false] A3d
def amT (P:List (Fp×Fp×Fp)) (R:List (List Int)) (n q:Nat) (D:List Int) (o:Fp×Fp×Fp) (h:Int):St:=A5 72 [0,4,5,10,11,12] [(.ci (.sl (Sq.pt P))),.pt 16 0,(.ci (.slc 17 0 n 1)),.pt 128 0,.v (.c (.slc 176 0 q 1)),.v (.c (.int .i64 h))] [16,17,128,176] [(eF_ [(.ob (.p (0:Fp))),(.ob (.p (0:Fp))),(.ob (.p (0:Fp)))]),(eQ_ (.ints R)),some (.fl [.ob (.p o.1),.ob (.p o.2.1),.ob (.p o.2.2)]),some (.sq (.int D))] 256 [] []
def B6h:List KI:=(run ucC false 3000 ((fun (P:List (Fp×Fp×Fp)) (R:List (List Int)) (n q:Nat) (D:List Int) (o:Fp×Fp×Fp) (h:Int)=>(⟨B5 B6g,.normal,amT P R n q D o h⟩:Cfg)) default default default default default default default) [true]).cfg.k
theorem amC (P:List (Fp×Fp×Fp)) (R:List (List Int)) (n q:Nat) (D:List Int) (o:Fp×Fp×Fp) (h:Int):A3 [((decide (h >= (0:Int)))=true)]->Sg Try.prog (amT P R n q D o h) (A5 72 [0,4,5,10,11,12,41] [(.ci (.sl (Sq.pt P))),.pt 16 0,(.ci (.slc 17 0 n 1)),.pt 128 0,(.ci (.slc 176 0 q 1)),.ii h,.ii (0:Int)] [16,17,128,176] [(eF_ [(.ob (.p (0:Fp))),(.ob (.p (0:Fp))),(.ob (.p (0:Fp)))]),(eQ_ (.ints R)),(eF_ [(.ob (.p (Prod.fst o))),(.ob (.p (Prod.fst (Prod.snd o)))),(.ob (.p (Prod.snd (Prod.snd o))))]),(eQ_ (.int D))] 304 [] []) .normal (B6h) (B5 B6g):=sgA false 3000 [true] A3d
def amU (P:List (Fp×Fp×Fp)) (R:List (List Int)) (n q:Nat) (D:List Int) (o:Fp×Fp×Fp) (h j:Int):St:=A5 72 [0,4,5,10,11,12,41] [(.ci (.sl (Sq.pt P))),.pt 16 0,(.ci (.slc 17 0 n 1)),.pt 128 0,(.ci (.slc 176 0 q 1)),.ii h,.v (.c (.int .i64 j))] [16,17,128,176] [(eF_ [(.ob (.p (0:Fp))),(.ob (.p (0:Fp))),(.ob (.p (0:Fp)))]),(eQ_ (.ints R)),(eF_ [(.ob (.p (Prod.fst o))),(.ob (.p (Prod.fst (Prod.snd o)))),(.ob (.p (Prod.snd (Prod.snd o))))]),(eQ_ (.int D))] 304 [] []
theorem amD (P:List (Fp×Fp×Fp)) (R:List (List Int)) (n q:Nat) (D:List Int) (o:Fp×Fp×Fp) (h j:Int):let a:=Prod.snd (jtw o);A3 [((decide (j<(5:Int)))=true)]->Sg Try.prog (amU P R n q D o h j) (A5 72 [0,4,5,10,11,12,41] [(.ci (.sl (Sq.pt P))),.pt 16 0,(.ci (.slc 17 0 n 1)),.pt 128 0,(.ci (.slc 176 0 q 1)),.ii h,(.ii (wrap .i64 (j+1)))] [16,17,128,176] [(eF_ [(.ob (.p (0:Fp))),(.ob (.p (0:Fp))),(.ob (.p (0:Fp)))]),(eQ_ (.ints R)),(eF_ [(.ob (.p (Prod.fst (jtw o)))),(.ob (.p (Prod.fst a))),(.ob (.p (Prod.snd a)))]),(eQ_ (.int D))] 400 [] []) .normal (D5 B6h) (B5 B6h):=sgA false 3000 [true] A3d
def C1s:List KI:=(run ucC false 3000 ((fun (P:List (Fp×Fp×Fp)) (R:List (List Int)) (n q:Nat) (D:List Int) (o:Fp×Fp×Fp) (h j:Int)=>(⟨B5 B6h,.normal,amU P R n q D o h j⟩:Cfg)) default default default default default default default default) [false]).cfg.k
theorem amE (P:List (Fp×Fp×Fp)) (R:List (List Int)) (n q:Nat) (D:List Int) (o:Fp×Fp×Fp) (h j:Int):A3 [((decide (j<(5:Int)))=false),(q=D.length)]->Sg Try.prog (amU P R n q D o h j) (A5 72 [0,4,5,10,11,12,47,48,49] [(.ci (.sl (Sq.pt P))),.pt 16 0,(.ci (.slc 17 0 n 1)),.pt 128 0,(.ci (.slc 176 0 q 1)),.ii h,(.ci (.slc 17 0 n 1)),(.ii ((n:Nat):Int)),.ii (0:Int)] [16,17,128,176] [(eF_ [(.ob (.p (0:Fp))),(.ob (.p (0:Fp))),(.ob (.p (0:Fp)))]),(eQ_ (.ints R)),(eF_ [(.ob (.p (Prod.fst o))),(.ob (.p (Prod.fst (Prod.snd o)))),(.ob (.p (Prod.snd (Prod.snd o))))]),(eQ_ (.int (List.replicate D.length (0:Int))))] 400 [] []) .normal (C1s) (B5 B6h):=sgA false 3000 [false] A3d
def amV (P:List (Fp×Fp×Fp)) (R:List (List Int)) (n q:Nat) (D:List Int) (o:Fp×Fp×Fp) (h i:Int):St:=A5 72 [0,4,5,10,11,12,47,48,49] [(.ci (.sl (Sq.pt P))),.pt 16 0,(.ci (.slc 17 0 n 1)),.pt 128 0,(.ci (.slc 176 0 q 1)),.ii h,(.ci (.slc 17 0 n 1)),(.ii ((n:Nat):Int)),.v (.c (.int .i64 i))] [16,17,128,176] [(eF_ [(.ob (.p (0:Fp))),(.ob (.p (0:Fp))),(.ob (.p (0:Fp)))]),(eQ_ (.ints R)),(eF_ [(.ob (.p (Prod.fst o))),(.ob (.p (Prod.fst (Prod.snd o)))),(.ob (.p (Prod.snd (Prod.snd o))))]),some (.sq (.int D))] 400 [] []
theorem amF (P:List (Fp×Fp×Fp)) (R:List (List Int)) (n q:Nat) (D:List Int) (o:Fp×Fp×Fp) (h i:Int):let a:=List.getD R (i).toNat ([]:List Int);let b:Int:=(n:Nat);let c:=h<((a.length:Nat):Int);A3 [((decide (i<b))=true),(0<=i),(i<b),(0=0),((i).toNat<R.length),((decide c)=true),(0<=h),c,(0<=i),(i<((q:Nat):Int)),(0=0),((i).toNat<D.length)]->Sg Try.prog (amV P R n q D o h i) (A5 72 [0,4,5,10,11,12,47,48,49] [(.ci (.sl (Sq.pt P))),.pt 16 0,(.ci (.slc 17 0 n 1)),.pt 128 0,(.ci (.slc 176 0 q 1)),.ii h,(.ci (.slc 17 0 n 1)),(.ii b),(.ii (wrap .i64 (i+1)))] [16,17,128,176] [(eF_ [(.ob (.p (0:Fp))),(.ob (.p (0:Fp))),(.ob (.p (0:Fp)))]),(eQ_ (.ints R)),(eF_ [(.ob (.p (Prod.fst o))),(.ob (.p (Prod.fst (Prod.snd o)))),(.ob (.p (Prod.snd (Prod.snd o))))]),(eQ_ (.int (List.set D (i).toNat (List.getD a (h).toNat 0))))] 720 [] []) .normal (D5 C1s) (B5 C1s):=sgA false 3000 [true,true] A3d
theorem amH (P:List (Fp×Fp×Fp)) (R:List (List Int)) (n q:Nat) (D:List Int) (o:Fp×Fp×Fp) (h i:Int):let a:=jpl o (bkT pt0 P D);A3 [((decide (i<((n:Nat):Int)))=false),(0=0),(q=D.length),(1=1),(D.length=P.length),(P.length<=4611686018427387904),(F2t D)]->Sg Try.prog (amV P R n q D o h i) (A5 72 [0,4,5,10,11,12] [(.ci (.sl (Sq.pt P))),.pt 16 0,(.ci (.slc 17 0 n 1)),.pt 128 0,(.ci (.slc 176 0 q 1)),(.ii (wrap .i64 (h-1)))] [16,17,128,176] [(eF_ [(.ob (.p (0:Fp))),(.ob (.p (0:Fp))),(.ob (.p (0:Fp)))]),(eQ_ (.ints R)),(eF_ [(.ob (.p (Prod.fst a))),(.ob (.p (Prod.fst (Prod.snd a)))),(.ob (.p (Prod.snd (Prod.snd a))))]),(eQ_ (.int D))] 560 [] []) .normal (D5 B6g) (B5 C1s):=sgA false 3000 [false] A3d
theorem F1x (P:List (Fp×Fp×Fp)) (R:List (List Int)) (n q:Nat) (D:List Int) (o:Fp×Fp×Fp) (h:Int):C2 ucC Try.f57 false 3000 (⟨B5 B6g,.normal,amT P R n q D o h⟩) [false] [] []=(some ([((decide (h >= (0:Int)))=false)],((.v (.a [(.ob (.p (Prod.fst o))),(.ob (.p (Prod.fst (Prod.snd o)))),(.ob (.p (Prod.snd (Prod.snd o))))])),[]))):=by kernel_rfl
end
end

section

theorem F1w (P:List (Fp×Fp×Fp)) (k:List U4) (hk0:k.length=P.length) (hp:P.length<=4096) {N:Nat} (hN:N=52) :
  FnD Try.prog 57 [.v (.c (.sl (.pt P))),.v (.c (.sl (.fr k)))] (.v (.a (S7 (smJ N pt0 P k)))) []:=by
 refine F5 (fn:=Try.f57) (c:=B2 Try.f57) Try.func57 rfl rfl fun x0 a0 hk hF hs=>?_
 refine am P k trivial hs fun ac cY aY hs1=>?_
 have hs2:=hs1.nilRow (p:=17) (q:=.ints []) rfl (by decide) rfl (ml' := [16,17]) (ens' := [some (.fl [.ob (.p 0),.ob (.p 0),.ob (.p 0)]),some (.sq (.ints []))]) (fun r=>D7a (by decide))
  (svs' := [.v (.c (.sl (.pt P))),.v (.c (.sl (.fr k))),.v (.c (.ptr 16 0)),.v (.c (.slc 17 0 0 1)),.v (.c (.int .i64 0)),.v (.c (.sl (.fr k))),.v (.c (.int .i64 ((k.length:Nat):Int))),.v (.c (.int .i64 0))]) ⟨.inl rfl,.inl rfl,.inl rfl,.inr ⟨1,rfl,rfl⟩,.inl rfl,.inl rfl,.inl rfl,.inl rfl,trivial⟩
 have hL:=D6r N k;have hrow:=@F2q N k;have hget:=C4u N k;have hdig:=F2p N k;have hmax:4097<=maxLen:=by decide
 change Wq Try.prog _ _ _ _ _ (F9 cY 17).w
 refine C0 (ι:={ i:Nat // i<=k.length }) (fun i=>amS P k ((dgK N k).take i.1) i.1 (if i.1=0 then 0 else (N:Int)) (i.1:Int)) (fun i=>k.length-i.1) (c:=lpC D2m) (k:=lpR D2m) (by kernel_rfl) (fun i ih ac cY aY hs=>?_) ⟨0,Nat.zero_le _⟩ (hs2.nx _)
 obtain ⟨i,hi⟩:=i;simp only at ih hs
 have htl:((dgK N k).take i).length=i:=by rw[List.length_take,hL];omega
 by_cases h:i<k.length
 ·refine amA P k _ i _ i ⟨decide_eq_true (by omega),by omega,by omega,by rw[htl];omega,by rw[htl];omega,htl.symm,rfl,trivial⟩ hs fun ac cU aU hs3=>?_
  have ei:wrap IntKind.i64 ((i:Int)+1)=((i+1:Nat):Int):=by rw[B0 (by omega) (by omega)];rfl
  have e52:(dgW (k.getD i 0).val 52).1=(dgK N k).getD i []:=by rw[hget i h,hN]
  rw[Int.toNat_natCast,ei,htl,e52,E2j _ _ (by omega),hrow i h] at hs3
  have em:(if ((N:Nat):Int) > (if i=0 then 0 else (N:Int)) then ((N:Nat):Int) else (if i=0 then 0 else (N:Int)))=(if i+1=0 then 0 else (N:Int)):=by
   rw[if_neg (show ¬i+1=0 from by omega)]
   split<;>split<;>omega
  rw[em] at hs3;exact ih ⟨i+1,h⟩ (by show k.length-(i+1)<k.length-i;omega) ac cU aU (hs3.nx _)
 ·obtain rfl:i=k.length:=by omega
  have ht:(dgK N k).take k.length=dgK N k:=by rw[<-hL,List.take_length]
  rw[ht] at hs;have em:(if k.length=0 then 0 else (N:Int))=((D0b N k:Nat):Int):=by
   cases k with
   | nil=>rfl
   | cons x l=>rfl
  rw[em] at hs;have hm52:D0b N k<=52:=by
   cases k with
   | nil=>exact Nat.zero_le _
   | cons x l=>exact Nat.le_of_eq hN
  have hmN:0<k.length->D0b N k=N:=by
   intro h
   cases k with
   | nil=>cases h
   | cons x l=>rfl
  refine amB P k _ k.length _ _ ⟨decide_eq_false (by omega),by omega,rfl,by omega,by omega,trivial⟩ hs fun ac cU aU hs3=>?_
  rw[Int.toNat_natCast] at hs3;have hres:smJ N pt0 P k=alN pt0 P (dgK N k) (D0b N k) (D0b N k):=rfl;rw[hres];generalize dgK N k=L at hs3 hL hrow hdig ⊢
  generalize D0b N k=m at hs3 hm52 hmN ⊢
  have eh:wrap IntKind.i64 ((m:Int)-1)=(m:Int)-1-((0:Nat):Int):=by rw[B0 (by omega) (by omega)];omega
  rw[eh] at hs3;refine C0 (ι:={ p:Nat×List Int // p.1<=m∧p.2.length=k.length }) (fun p=>amT P L k.length k.length p.1.2 (alN pt0 P L m p.1.1) ((m:Int)-1-(p.1.1:Int))) (fun p=>m-p.1.1) (c:=lpC B6g) (k:=lpR B6g) (by kernel_rfl) (fun p ih2 ac cY aY hs=>?_) ⟨(0,List.replicate k.length 0),Nat.zero_le _,List.length_replicate⟩ (hs3.nx _)
  obtain ⟨⟨t,D⟩,ht1,hD⟩:=p;simp only at ih2 hs ht1 hD
  by_cases htm:t<m
  ·have hlt:m-(t+1)<m-t:=by omega
   obtain ⟨a,ha⟩:∃a:Nat,a=m-1-t:=⟨_,rfl⟩
   have ea:(m:Int)-1-(t:Int)=(a:Int):=by omega
   rw[ea] at hs;have hnext:alN pt0 P L m (t+1)=jpl (C1f 5 (alN pt0 P L m t)) (bkT pt0 P (A7q L a)):=by rw[ha];rfl
   generalize alN pt0 P L m t=o at hs hnext;refine amC P L _ _ D o _ ⟨decide_eq_true (by omega),trivial⟩ hs fun ac cZ aZ hs4=>?_
   refine C0 (ι:={ j:Nat // j<=5 }) (fun j=>amU P L k.length k.length D (C1f j.1 o) (a:Int) (j.1:Int)) (fun j=>5-j.1) (c:=lpC B6h) (k:=lpR B6h) (by kernel_rfl) (fun j ih3 ac cY aY hs=>?_) ⟨0,Nat.zero_le _⟩ (hs4.nx _)
   obtain ⟨j,hj⟩:=j;simp only at ih3 hs
   by_cases hj5:j<5
   ·have ej:jtw (C1f j o)=C1f (j+1) o:=(E0b j o).symm
    generalize C1f j o=o1 at hs ej;refine amD P L _ _ D _ _ _ ⟨decide_eq_true (by omega),trivial⟩ hs fun ac cV aV hs5=>?_
    rw[B0 (n:=(j:Int)+1) (by omega) (by omega),ej] at hs5
    exact ih3 ⟨j+1,hj5⟩ (by show 5-(j+1)<5-j;omega) ac cV aV (hs5.nx _)
   ·obtain rfl:j=5:=by omega
    generalize C1f 5 o=o5 at hs hnext;refine amE P L _ _ D _ _ _ ⟨by decide,hD.symm,trivial⟩ hs fun ac cV aV hs5=>?_
    refine C0 (ι:={ p:Nat×List Int // p.1<=k.length∧p.2.length=k.length∧∀j,j<p.1->p.2.getD j 0=(L.getD j []).getD a 0 }) (fun p=>amV P L k.length k.length p.1.2 o5 (a:Int) (p.1.1:Int)) (fun p=>k.length-p.1.1) (c:=lpC C1s) (k:=lpR C1s) (by kernel_rfl) (fun p ih4 ac cY aY hs=>?_)
     ⟨(0,List.replicate D.length 0),Nat.zero_le _,List.length_replicate.trans hD,fun j hj=>absurd hj (Nat.not_lt_zero j)⟩ (hs5.nx _)
    obtain ⟨⟨i,E⟩,hi1,hE,hEg⟩:=p;simp only at ih4 hs hi1 hE hEg
    by_cases hik:i<k.length
    ·have hri:=hrow i hik
     have hmn:=hmN (by omega)
     refine amF P L _ _ E _ _ _ ⟨decide_eq_true (by omega),by omega,by omega,rfl,by rw[Int.toNat_natCast];omega,by rw[Int.toNat_natCast,hri];exact decide_eq_true (by omega),by omega,by rw[Int.toNat_natCast,hri];omega,by omega,by omega,rfl,by rw[Int.toNat_natCast];omega,trivial⟩ hs fun ac cW aW hs6=>?_
     rw[Int.toNat_natCast,Int.toNat_natCast,B0 (n:=(i:Int)+1) (by omega) (by omega)] at hs6
     refine ih4 ⟨(i+1,E.set i ((L.getD i []).getD a 0)),hik,(List.length_set ..).trans hE,fun j hj=>?_⟩ (by show k.length-(i+1)<k.length-i;omega) ac cW aW (hs6.nx _)
     have hj:j<i+1:=hj;show (E.set i _).getD j 0=_;rw[D1k _ _ _ _ _ (by omega)]
     by_cases e:j=i
     ·subst e;rw[if_pos rfl]
     ·rw[if_neg e];exact hEg j (by omega)
    ·obtain rfl:i=k.length:=by omega
     have hrowE:E=A7q L a:=F6x (by omega) fun j hj=>hEg j (by omega)
     subst hrowE;have hds:F2t (A7q L a):=fun j=>by rw[C3o];exact hdig j a
     refine amH P L _ _ _ _ _ _ ⟨decide_eq_false (by omega),rfl,by omega,rfl,by omega,by omega,hds,trivial⟩ hs fun ac cW aW hs6=>?_
     have e7:wrap IntKind.i64 ((a:Int)-1)=(m:Int)-1-((t+1:Nat):Int):=by rw[B0 (by omega) (by omega)];omega
     rw[e7,<-hnext] at hs6;have ih5:=ih2 ⟨(t+1,A7q L a),htm,hE⟩ hlt;dsimp only at ih5;generalize alN pt0 P L m (t+1)=oN at hs6 ih5;exact ih5 ac cW aW (hs6.nx _)
  ·obtain rfl:t=m:=by omega
   exact C7 A3d hk hF (F1x P L _ _ D _ _) ⟨decide_eq_false (by omega),trivial⟩ (fun y v hd=>hd) hs

end

section

theorem tkA (a b:Int) (w:Bool):C9 X3 Try.f55 3000 [.v (.c (.int .i64 a)),.v (.c (.int .i64 b)),.v (.c (.bool w))] [true] [] []=(some ([((a != b)=true)],((.ii (3:Int)),[]))):=by kernel_rfl
theorem tkB (a b:Int) (w:Bool):C9 X3 Try.f55 3000 [.v (.c (.int .i64 a)),.v (.c (.int .i64 b)),.v (.c (.bool w))] [false,true] [] []=(some ([((a != b)=false),((decide (a > (4096:Int)))=true)],((.ii (2:Int)),[]))):=by kernel_rfl
theorem tkC (a b:Int) (w:Bool):C9 X3 Try.f55 3000 [.v (.c (.int .i64 a)),.v (.c (.int .i64 b)),.v (.c (.bool w))] [false,false,true] [] []=(some ([((a != b)=false),((decide (a > (4096:Int)))=false),(w=true)],((.ii (30:Int)),[]))):=by kernel_rfl
theorem tkD (a b:Int) (w:Bool):C9 X3 Try.f55 3000 [.v (.c (.int .i64 a)),.v (.c (.int .i64 b)),.v (.c (.bool w))] [false,false,false] [] []=(some ([((a != b)=false),((decide (a > (4096:Int)))=false),(w=false)],((.ii (0:Int)),[]))):=by kernel_rfl
end

section

theorem D9h (a b:Int) (w:Bool):FnD Try.prog 55 [.v (.c (.int .i64 a)),.v (.c (.int .i64 b)),.v (.c (.bool w))] (.v (.c (.int .i64 (A4u a b w)))) []:=by
 by_cases h:a=b
 ·by_cases h2:a > 4096
  ·rw[E3r h h2]
   exact A7 G4 Try.func55 (tkB a b w) ⟨by simp [h],decide_eq_true h2,trivial⟩
  ·cases w with
   | true=>rw[F8d h h2 rfl];exact A7 G4 Try.func55 (tkC a b true) ⟨by simp [h],decide_eq_false h2,rfl,trivial⟩
   | false=>rw[F2j h h2 rfl];exact A7 G4 Try.func55 (tkD a b false) ⟨by simp [h],decide_eq_false h2,rfl,trivial⟩
 ·rw[E3s h]
  exact A7 G4 Try.func55 (tkA a b w) ⟨by simp [h],trivial⟩

end

section
section
variable {w0:World} {F0:Nat->Prop} {K:Kp} {ac:List Act} {Q:Exit->Act->World->Prop} {cX:Ctx} {aX:Act}

theorem E2z (P:List (Fp×Fp×Fp)) (k:List U4) (h:k.length=P.length∧P.length<=4096):FnD Try.prog 57 [.v (.c (.sl (.pt P))),.v (.c (.sl (.fr k)))] (.v (.a (S7 (smJ 52 pt0 P k)))) []:=F1w P k h.1 h.2 (Eq.refl 52)
def C4g:B7
 | [.v (.c (.sl (.pt P))),.v (.c (.sl (.fr k)))]=>some ([k.length=P.length,P.length<=4096],.v (.a (S7 (smJ 52 pt0 P k))),[])
 | _=>none
def udA:Env:=ucC.set (E8 ucC.fn 57 C4g)
theorem C0x:A6 Try.prog udA:=A9 A3d 57 C4g (A4 Try.func57 rfl rfl) fun args o r es h ho=>by
 unfold C4g at h;split at h
 ·cases h;exact E2z _ _ ⟨ho.1,ho.2.1⟩
 ·cases h
def D9r:List KI:=(run udA false 3000 (⟨[.code (B2 Try.f58)],.normal,D6 Try.f58.ntmps [.v (.c (.sl (.g1 dF))),.v (.c (.clo 59 []))]⟩:Cfg) []).cfg.k
theorem ea (l:List G1D):let a:Int:=l.length;A3 [(0<=a),(a=a),(((144:Int)*a)<=(281474976710656:Int)),(a<=(9223372036854775807:Int))]->Sg Try.prog (D6 Try.f58.ntmps [.v (.c (.sl (.g1 l))),.v (.c (.clo 59 []))]) (A5 26 [1,5,11,12,13] [(.ci (.clo 59 ([]:List (Prod Nat Nat)))),(.ci (.slc 64 0 (a).toNat 18)),(.ci (.sl (Sq.g1 l))),(.ii a),.ii (0:Int)] [64] [(eQ_ (Sq.pt (List.replicate (a).toNat pt0)))] 144 [] []) .normal (D9r) ([.code (B2 Try.f58)]):=sgA false 3000 [] C0x
def eaS (l:List G1D) (L:List (Fp×Fp×Fp)) (n:Nat) (i:Int):St:=A5 26 [1,5,11,12,13] [(.ci (.clo 59 ([]:List (Prod Nat Nat)))),.v (.c (.slc 64 0 n 18)),(.ci (.sl (Sq.g1 l))),(.ii (l.length:Int)),.v (.c (.int .i64 i))] [64] [some (.sq (.pt L))] 144 [] []
theorem eaA (l:List G1D) (L:List (Fp×Fp×Fp)) (n:Nat) (i:Int):let a:Int:=l.length;A3 [((decide (i<a))=true),(0<=i),(i<a),(0<=i),(i<((n:Nat):Int)),(0=0),((i).toNat<L.length)]->Sg Try.prog (eaS l L n i) (A5 26 [1,5,11,12,13] [(.ci (.clo 59 ([]:List (Prod Nat Nat)))),(.ci (.slc 64 0 n 18)),(.ci (.sl (Sq.g1 l))),(.ii a),(.ii (wrap .i64 (i+1)))] [64] [(eQ_ (Sq.pt (List.set L (i).toNat (inG (List.getD l (i).toNat g10)))))] 400 [] []) .normal (D5 D9r) (B5 D9r):=sgA false 3000 [true] C0x
theorem F2u (l:List G1D) (L:List (Fp×Fp×Fp)) (n:Nat) (i:Int):C2 udA Try.f58 false 3000 (⟨B5 D9r,.normal,eaS l L n i⟩) [false] [] [64]=(some ([((decide (i<(l.length:Int)))=false),(n=L.length)],((.ci (.sl (Sq.pt L))),[]))):=by kernel_rfl
theorem H0a (a b:U6) (i:Bool):C9 udA Try.f53 3000 [.v (.a [.ob (.fp a),.ob (.fp b),.bool i])] [] [] []=(some ([],((.ci (.bool (Bool.not (onG (G1D.mk a b i))))),[]))):=by kernel_rfl
def B9i:B7
 | [.v (.a [.ob (.fp a),.ob (.fp b),.bool i])]=>some ([],.v (.c (.bool (!(onG ⟨a,b,i⟩)))),[])
 | _=>none
def udB:Env:=udA.set (E8 udA.fn 53 B9i)
theorem C0y:A6 Try.prog udB:=A9 C0x 53 B9i (A4 Try.func53 rfl rfl) fun args o r es h _=>by
 unfold B9i at h;split at h
 ·cases h;exact A7 C0x Try.func53 (H0a _ _ _) trivial
 ·cases h
def D3u:List KI:=(run udB false 3000 (⟨[.code (B2 Try.f74)],.normal,D6 Try.f74.ntmps [.v (.c (.sl (.g1 dF))),.v (.c (.clo 53 []))]⟩:Cfg) []).cfg.k
theorem iw (l:List G1D):A3 []->Sg Try.prog (D6 Try.f74.ntmps [.v (.c (.sl (.g1 l))),.v (.c (.clo 53 []))]) (A5 19 [0,1,7,8] [(.ci (.sl (Sq.g1 l))),(.ci (.clo 53 ([]:List (Prod Nat Nat)))),(.ii (l.length:Int)),.ii (0:Int)] [] [] 80 [] []) .normal (D3u) ([.code (B2 Try.f74)]):=sgA false 3000 [] C0y
def iwS (l:List G1D) (i :Int):St:=A5 19 [0,1,7,8] [(.ci (.sl (Sq.g1 l))),(.ci (.clo 53 ([]:List (Prod Nat Nat)))),(.ii (l.length:Int)),.v (.c (.int .i64 i))] [] [] 80 [] []
theorem iwA (l:List G1D) (i:Int):let a:Int:=l.length;A3 [((decide (i<a))=true),(0<=i),(i<a),((Bool.not (onG (List.getD l (i).toNat g10)))=false)]->Sg Try.prog (iwS l i) (A5 19 [0,1,7,8] [(.ci (.sl (Sq.g1 l))),(.ci (.clo 53 ([]:List (Prod Nat Nat)))),(.ii a),(.ii (wrap .i64 (i+1)))] [] [] 256 [] []) .normal (D5 D3u) (B5 D3u):=sgA false 3000 [true,false] C0y
theorem F3l (l:List G1D) (i:Int):let a:=i<(l.length:Int);C2 udB Try.f74 false 3000 (⟨B5 D3u,.normal,iwS l i⟩) [true,true] [] []=(some ([((decide a)=true),(0<=i),a,((Bool.not (onG (List.getD l (i).toNat g10)))=true)],((.ii i),[]))):=by intros;kernel_rfl
theorem F3k (l:List G1D) (i:Int):C2 udB Try.f74 false 3000 (⟨B5 D3u,.normal,iwS l i⟩) [false] [] []=(some ([((decide (i<(l.length:Int)))=false)],((.ii (-1)),[]))):=by kernel_rfl
end
end

section

theorem E4e (l:List G1D) (hl:l.length<=1048576):FnD Try.prog 58 [.v (.c (.sl (.g1 l))),.v (.c (.clo 59 []))] (.v (.c (.sl (.pt (l.map inG))))) []:=by
 refine F5 (fn:=Try.f58) (c:=B2 Try.f58) Try.func58 rfl rfl fun x0 a0 hk hF hs=>?_
 refine ea l ⟨by omega,rfl,by omega,by omega,trivial⟩ hs fun ac cY aY hs1=>?_
 rw[Int.toNat_natCast] at hs1;refine C0 (ι:={ p:Nat×List (Fp×Fp×Fp) // p.1<=l.length∧p.2.length=l.length∧∀j,j<p.1->p.2.getD j pt0=inG (l.getD j g10) }) (fun p=>eaS l p.1.2 l.length (p.1.1:Int)) (fun p=>l.length-p.1.1) (c:=lpC D9r) (k:=lpR D9r) (by kernel_rfl) (fun p ih ac cY aY hs=>?_)
  ⟨(0,List.replicate l.length pt0),Nat.zero_le _,List.length_replicate,fun j hj=>absurd hj (Nat.not_lt_zero j)⟩ (hs1.nx _)
 obtain ⟨⟨i,L⟩,hi,hL,hg⟩:=p;simp only at ih hs hi hL hg
 by_cases h:i<l.length
 ·refine eaA l L l.length i ⟨decide_eq_true (by omega),by omega,by omega,by omega,by omega,rfl,by rw[Int.toNat_natCast];omega,trivial⟩ hs fun ac cU aU hs2=>?_
  rw[Int.toNat_natCast,B0 (n:=(i:Int)+1) (by omega) (by omega)] at hs2
  refine ih ⟨(i+1,L.set i (inG (l.getD i g10))),h,(List.length_set ..).trans hL,fun j hj=>?_⟩ (by show l.length-(i+1)<l.length-i;omega) ac cU aU (hs2.nx _)
  have hj:j<i+1:=hj;show (L.set i _).getD j pt0=_;rw[D1k _ _ _ _ _ (by omega)]
  by_cases e:j=i
  ·subst e;rw[if_pos rfl]
  ·rw[if_neg e];exact hg j (by omega)
 ·obtain rfl:i=l.length:=by omega
  have e:L=l.map inG:=by
   apply List.ext_getElem (by rw[hL,List.length_map])
   intro j h1 h2;have e:=hg j (by omega)
   rw[<-E7d inG l g10 pt0 (by omega),List.getD_eq_getElem?_getD,List.getD_eq_getElem?_getD,List.getElem?_eq_getElem h1,List.getElem?_eq_getElem h2] at e
   exact e
  subst e;exact C7 C0x hk hF (F2u l _ _ _) ⟨decide_eq_false (by omega),hL.symm,trivial⟩ (fun y v hd=>hd) hs

/-- Where the first one lies that is so. -/
def A7j (p:G1D->Bool):List G1D->Nat->Int
 | [],_=>-1
 | a::l,i=>if p a then (i:Int) else A7j p l (i+1)
theorem C2i (p:G1D->Bool):∀(l:List G1D) (i:Nat),decide (A7j p l i >= 0)=l.any p
 | [],_=>rfl
 | a::l,i=>by
  show decide ((if p a then (i:Int) else A7j p l (i+1)) >= 0)=(p a || l.any p)
  cases h:p a with
  | true=>rw[if_pos rfl,Bool.true_or];exact decide_eq_true (Int.natCast_nonneg i)
  | false=>rw[if_neg Bool.false_ne_true,Bool.false_or];exact C2i p l (i+1)
def A7e (a:G1D):Bool:=!(onG a)
theorem D3l (p:G1D->Bool) (l:List G1D) (i:Nat) (h:i<l.length):A7j p (l.drop i) i=if p (l.getD i g10) then (i:Int) else A7j p (l.drop (i+1)) (i+1):=by
 rw[List.drop_eq_getElem_cons h,List.getD_eq_getElem?_getD,List.getElem?_eq_getElem h];rfl
theorem D9z (l:List G1D):FnD Try.prog 74 [.v (.c (.sl (.g1 l))),.v (.c (.clo 53 []))] (.v (.c (.int .i64 (A7j A7e l 0)))) []:=by
 refine F5 (fn:=Try.f74) (c:=B2 Try.f74) Try.func74 rfl rfl fun x0 a0 hk hF hs=>?_
 have hlen:l.length<=maxLen:=by
  have h0:=hs.t 0;exact F0q h0
 have hmax:maxLen<=9223372036854775807:=by decide
 refine iw l trivial hs fun ac cY aY hs1=>?_
 refine C0 (ι:={ i:Nat // i<=l.length∧A7j A7e (l.drop i) i=A7j A7e l 0 }) (fun i=>iwS l (i.1:Int)) (fun i=>l.length-i.1) (c:=lpC D3u) (k:=lpR D3u) (by kernel_rfl) (fun i ih ac cY aY hs=>?_) ⟨0,Nat.zero_le _,by rw[List.drop_zero]⟩ (hs1.nx _)
 obtain ⟨i,hi,he⟩:=i;simp only at ih hs
 by_cases h:i<l.length
 ·rw[D3l _ _ _ h] at he
  cases ho:A7e (l.getD i g10) with
  | true=>
   rw[ho,if_pos rfl] at he;rw[<-he];exact C7 C0y hk hF (F3l l i) ⟨decide_eq_true (by omega),by omega,by omega,by rw[Int.toNat_natCast];exact ho,trivial⟩ (fun y v hd=>hd) hs
  | false=>
   rw[ho,if_neg Bool.false_ne_true] at he;refine iwA l i ⟨decide_eq_true (by omega),by omega,by omega,by rw[Int.toNat_natCast];exact ho,trivial⟩ hs fun ac cU aU hs2=>?_
   rw[B0 (n:=(i:Int)+1) (by omega) (by omega)] at hs2
   exact ih ⟨i+1,h,he⟩ (by show l.length-(i+1)<l.length-i;omega) ac cU aU (hs2.nx _)
 ·obtain rfl:i=l.length:=by omega
  rw[List.drop_length] at he;rw[<-he];exact C7 C0y hk hF (F3k l _) ⟨decide_eq_false (by omega),trivial⟩ (fun y v hd=>hd) hs

end

section

def B7j:B7
 | [.v (.c (.sl (.g1 l))),.v (.c (.clo 59 []))]=>some ([l.length<=1048576],.v (.c (.sl (.pt (l.map inG)))),[])
 | _=>none
def ueA:Env:=udB.set (E8 udB.fn 58 B7j)
theorem G3z:A6 Try.prog ueA:=A9 C0y 58 B7j (A4 Try.func58 rfl rfl) fun args o r es h ho=>by
 unfold B7j at h;split at h
 ·cases h;exact E4e _ ho.1
 ·cases h
def B2q:B7
 | [.v (.c (.sl (.g1 l))),.v (.c (.clo 53 []))]=>some ([],.v (.c (.int .i64 (A7j A7e l 0))),[])
 | _=>none
def ueB:Env:=ueA.set (E8 ueA.fn 74 B2q)
theorem G4a:A6 Try.prog ueB:=A9 G3z 74 B2q (A4 Try.func74 rfl rfl) fun args o r es h _=>by
 unfold B2q at h;split at h
 ·cases h;exact D9z _
 ·cases h
def B2e:B7
 | [.v (.c (.int .i64 a)),.v (.c (.int .i64 b)),.v (.c (.bool w))]=>some ([],.v (.c (.int .i64 (A4u a b w))),[])
 | _=>none
def ueC:Env:=ueB.set (E8 ueB.fn 55 B2e)
theorem G4b:A6 Try.prog ueC:=A9 G4a 55 B2e (A4 Try.func55 rfl rfl) fun args o r es h _=>by
 unfold B2e at h;split at h
 ·cases h;exact D9h _ _ _
 ·cases h
def ueD:Env:=ueC
theorem F1l:A6 Try.prog ueD:=G4b
theorem cfR (l:List G1D):C9 ueD Try.f52 3000 [.v (.c (.sl (.g1 l))),.v (.c (.clo 53 []))] [] [] []=(some ([],((.ci (.bool (decide ((A7j A7e l 0) >= (0:Int))))),[]))):=by kernel_rfl
theorem C4s (l:List G1D):FnD Try.prog 52 [.v (.c (.sl (.g1 l))),.v (.c (.clo 53 []))] (.v (.c (.bool (l.any A7e)))) []:=by
 have r:=cfR l;rw[C2i] at r;exact A7 F1l Try.func52 r trivial
def A4a:B7
 | [.v (.c (.sl (.g1 l))),.v (.c (.clo 53 []))]=>some ([],.v (.c (.bool (l.any A7e))),[])
 | _=>none
def ueE:Env:=ueD.set (E8 ueD.fn 52 A4a)
theorem D5y:A6 Try.prog ueE:=A9 F1l 52 A4a (A4 Try.func52 rfl rfl) fun args o r es h _=>by
 unfold A4a at h;split at h
 ·cases h;exact C4s _
 ·cases h
theorem s1A (l:List G1D) (k:List U4):let b:=A4u (l.length:Int) (k.length:Int) (List.any l A7e);C9 ueE Try.f31 3000 [.v (.c (.sl (.g1 l))),.v (.c (.sl (.fr k)))] [true] [] []=(some ([((b != (0:Int))=true)],((.t [(.a [(.ob (.fp (0:U6))),(.ob (.fp (0:U6))),(.lit false)]),(.c (.int .i64 b))]),[]))):=by intros;kernel_rfl
theorem s1B (l:List G1D) (k:List U4):let d:=List.map inG l;let b:=D4l (smJ 52 pt0 d k);C9 ueE Try.f31 3000 [.v (.c (.sl (.g1 l))),.v (.c (.sl (.fr k)))] [false] [] []=(some ([(((A4u (l.length:Int) (k.length:Int) (List.any l A7e)) != (0:Int))=false),(l.length<=1048576),(k.length=d.length),(d.length<=4096)],((.t [(.a [(.ob (.fp (G1D.x b))),(.ob (.fp (G1D.y b))),(.bool (G1D.inf b))]),(.c (.int .i64 (0:Int)))]),[]))):=by intros;kernel_rfl
end

section

/-- What Sum1 tells. -/
def C7m (l:List G1D) (k:List U4):G1D×Int:=
 if A4u (l.length:Int) (k.length:Int) (l.any A7e)=0 then (D4l (smJ 52 pt0 (l.map inG) k),0) else (g10,A4u (l.length:Int) (k.length:Int) (l.any A7e))
theorem F7k {l:List G1D} {k:List U4} (h:A4u (l.length:Int) (k.length:Int) (l.any A7e)=0):C7m l k=(D4l (smJ 52 pt0 (l.map inG) k),0):=if_pos h
theorem F7j {l:List G1D} {k:List U4} (h:¬A4u (l.length:Int) (k.length:Int) (l.any A7e)=0):C7m l k=(g10,A4u (l.length:Int) (k.length:Int) (l.any A7e)):=if_neg h
theorem F1b (l:List G1D) (k:List U4):FnD Try.prog 31 [.v (.c (.sl (.g1 l))),.v (.c (.sl (.fr k)))] (.t [.a (C7m l k).1.its,.c (.int .i64 (C7m l k).2)]) []:=by
 by_cases h:A4u (l.length:Int) (k.length:Int) (l.any A7e)=0
 ·rw[F7k h]
  obtain ⟨h1,h2,h3⟩:=E3t h;exact A7 D5y Try.func31 (s1B l k) ⟨by rw[h];rfl,by omega,by rw[List.length_map];omega,by rw[List.length_map];omega,trivial⟩
 ·rw[F7j h]
  exact (A7 D5y Try.func31 (s1A l k) ⟨by simpa using h,trivial⟩).conv (fun _ _ h=>h) fun y v hd=>B4q hd

end

section

/-- A polynomial, trimmed. -/
def pTr (a:List U4):List U4:=(S4.A2p (a.map S4.inF)).map S4.I8
theorem F5x (a:List U4) (h:a.length<=8796093022208):FnD Try.prog 30 [.v (.c (.sl (.fr a)))] (.v (.c (.slc 0 0 (pTr a).length 4))) [.sq (.fr (pTr a))]:=by
 have e:(pTr a).length=(S4.A2p (a.map S4.inF)).length:=List.length_map ..;rw[e];exact S4.F1k a h
/-- The parts of a key. -/
def P6 (l:List G1D) (s:G2D):List It:=[.sl (.g1 l),.ob (.fp s.xa),.ob (.fp s.xb),.ob (.fp s.ya),.ob (.fp s.yb),.bool s.inf]
def F9z:Env:=ueE.or S4.hC
theorem F3o:A6 Try.prog F9z:=C4x D5y S4.F8j
def C0w:B7
 | [.v (.c (.sl (.fr a)))]=>some ([a.length<=8796093022208],.v (.c (.slc 0 0 (pTr a).length 4)),[.sq (.fr (pTr a))])
 | _=>none
def koA:Env:=F9z.set (E8 F9z.fn 30 C0w)
theorem G0a:A6 Try.prog koA:=A9 F3o 30 C0w (A4 Try.func30 rfl rfl) fun args o r es h ho=>by
 unfold C0w at h;split at h
 ·cases h;exact F5x _ ho.1
 ·cases h
def C0o:B7
 | [.v (.c (.sl (.g1 l))),.v (.c (.sl (.fr k)))]=>some ([],.t [.a (C7m l k).1.its,.c (.int .i64 (C7m l k).2)],[])
 | _=>none
def koB:Env:=koA.set (E8 koA.fn 31 C0o)
theorem D3w:A6 Try.prog koB:=A9 G0a 31 C0o (A4 Try.func31 rfl rfl) fun args o r es h _=>by
 unfold C0o at h;split at h
 ·cases h;exact F1b _ _
 ·cases h
theorem cmR (l:List G1D) (s:G2D) (a:List U4):let g:=pTr a;let d:Int:=(g.length:Nat);let b:=C7m (List.take (d).toNat (List.drop 0 l)) g;let f:=Prod.fst b;let h:Int:=l.length;C9 koB Try.f11 3000 [.v (.a (P6 l s)),.v (.c (.sl (.fr a)))] [false,false] [] []=(some ([((decide ((a.length:Int) > (262144:Int)))=false),(a.length<=8796093022208),((decide (d > h))=false),(0<=d),(d<=h),(0=0),(g.length=g.length),(4=4)],((.t [(.a [(.ob (.fp (G1D.x f))),(.ob (.fp (G1D.y f))),(.bool (G1D.inf f))]),(.c (.int .i64 (Prod.snd b)))]),[]))):=by intros;kernel_rfl
theorem cmK (l:List G1D) (s:G2D) (a:List U4):C9 koB Try.f11 3000 [.v (.a (P6 l s)),.v (.c (.sl (.fr a)))] [false,true] [] []=(some ([((decide ((a.length:Int) > (262144:Int)))=false),(a.length<=8796093022208),((decide ((((pTr a).length:Nat):Int) > (l.length:Int)))=true)],((.t [(.a [(.ob (.fp (0:U6))),(.ob (.fp (0:U6))),(.lit false)]),(.c (.int .i64 (50:Int)))]),[]))):=by kernel_rfl
/-- What Commit tells. -/
def cmt (l:List G1D) (a:List U4):G1D×Int:=if l.length<(pTr a).length then (g10,50) else C7m (l.take (pTr a).length) (pTr a)
theorem D2v (l:List G1D) (s:G2D) (a:List U4) (h1:a.length<=262144):FnD Try.prog 11 [.v (.a (P6 l s)),.v (.c (.sl (.fr a)))] (.t [.a (cmt l a).1.its,.c (.int .i64 (cmt l a).2)]) []:=by
 by_cases h2:l.length<(pTr a).length
 ·have e:cmt l a=(g10,50):=if_pos h2
  rw[e];exact (A7 D3w Try.func11 (cmK l s a) ⟨decide_eq_false (by omega),by omega,decide_eq_true (by omega),trivial⟩).conv (fun _ _ h=>h) fun y v hd=>B4q hd
 ·have e:cmt l a=C7m (l.take (pTr a).length) (pTr a):=if_neg h2
  have r:=cmR l s a;dsimp only at r;rw[Int.toNat_natCast,List.drop_zero] at r;rw[e];exact A7 D3w Try.func11 r ⟨decide_eq_false (by omega),by omega,decide_eq_false (by omega),by omega,by omega,rfl,rfl,rfl,trivial⟩
end

section
section
variable {w0:World} {F0:Nat->Prop} {K:Kp} {ac:List Act} {Q:Exit->Act->World->Prop} {cX:Ctx} {aX:Act}

def pvA:Env:=qeI.or S4.gK
theorem A8y:A6 Try.prog pvA:=C4x A5w S4.D7c
theorem C5s (v : Value) (w : World) : (method (Try.prog.types.size + Made.depth) 78 v "Times").run Try.prog w = .ok (21, v) w := by kernel_rfl
def F9r (T : Nat → Option (List (String × Nat))) (t : Nat) : Option (List (String × Nat)) := if t = 78 then some [("Times", 21)] else T t
def pvB:Env:={ pvA with inv:=F9r pvA.inv }
theorem B3v:A6 Try.prog pvB:=by
 refine ⟨A8y.ty,A8y.mixed,A8y.fn,A8y.mu,A8y.inl,A8y.ex,fun t l h=>?_⟩
 have h:F9r pvA.inv t=some l:=h;unfold F9r at h;split at h
 ·rename_i ht
  cases h
  subst ht;refine ⟨by kernel_rfl,fun name g hg v args w=>?_⟩
  unfold A7l at hg;split at hg
  ·rename_i hn
   cases hg
   subst hn;simp only[callMethod,Sem.run_bind,run_program,Result.andThen_ok,C5s]
  cases hg
 ·exact A8y.inv t l h
def C6t:List KI:=(run pvB false 3000 (⟨[.code (B2 Try.f49)],.normal,D6 Try.f49.ntmps [.v (.a [.ob (.s dF)]),.v (.a [.ob (.s 1)]),.v (.c (.sl (.u64 dF)))]⟩:Cfg) []).cfg.k
theorem pz (a:Fr) (e:List Int):A3 []->Sg Try.prog (D6 Try.f49.ntmps [.v (.a [.ob (.s a)]),.v (.a [.ob (.s 1)]),.v (.c (.sl (.u64 e)))]) (A5 23 [3,6,7,11] [.pt 16 0,.pt 48 0,.pt 80 0,(.ci (.clo 86 [(128,0)]))] [16,48,80,128] [(eF_ [.ob (.s a)]),(eF_ [(.ob (.s (0:Fr)))]),(eF_ [(.ob (.s (1:Fr)))]),(eF_ [.sl (.u64 e)])] 192 [] []) .normal (C6t) ([.code (B2 Try.f49)]):=sgA false 3000 [] B3v
def pzS (a:Fr) (e:List Int) (o:Fr):St:=A5 23 [3,6,7,11] [.pt 16 0,.pt 48 0,.pt 80 0,(.ci (.clo 86 [(128,0)]))] [16,48,80,128] [(eF_ [.ob (.s a)]),(eF_ [(.ob (.s (0:Fr)))]),some (.fl [.ob (.s o)]),(eF_ [.sl (.u64 e)])] 192 [] []
theorem pzA (a:Fr) (e:List Int) (o:Fr) (z:Bool) {ρ:Option Nat} (ho:A3 []) (hs:Sim w0 F0 K ac (Y8 (pzS a e o) [(12,.v (.c (.bool z)))]) cX aX) (hK:∀cY aY,Sim w0 F0 K ac (A5 23 [3,6,7,8] [.pt 16 0,.pt 48 0,.pt 80 0,(.ci (.bool z))] [16,48,80,128] [(eF_ [.ob (.s a)]),(eF_ [(.ob (.s (0:Fr)))]),(eF_ [.ob (.s o)]),(eF_ [.sl (.u64 e)])] 208 [[3,6,7,11]] [([.pt 16 0,.pt 48 0,.pt 80 0,(.ci (.clo 86 [(128,0)]))],23)]) cY aY->Wq Try.prog Q ([]) ac Exit.normal aY cY.w ρ):Wq Try.prog Q ([.code (rfA C6t)]) ac .normal aX cX.w ρ :=
 N1 (unroll:=false) (n:=3000) (path:=[]) (o:=⟨_,_,_,_,_,_,_⟩) B3v (by kernel_rfl) (by kernel_rfl) ho (by kernel_rfl) (by kernel_rfl) hs hK
def pzB (a:Fr) (e:List Int) (o:Fr) (z:Bool):St:=A5 23 [3,6,7,8] [.pt 16 0,.pt 48 0,.pt 80 0,(.ci (.bool z))] [16,48,80,128] [(eF_ [.ob (.s a)]),(eF_ [(.ob (.s (0:Fr)))]),some (.fl [.ob (.s o)]),(eF_ [.sl (.u64 e)])] 208 [[3,6,7,11]] [([.pt 16 0,.pt 48 0,.pt 80 0,(.ci (.clo 86 [(128,0)]))],23)]
theorem pzC (a:Fr) (e:List Int) (o:Fr) (z:Bool) {ρ:Option Nat} (ho:A3 [(z=true)]) (hs:Sim w0 F0 K ac (pzB a e o z) cX aX) (hK:∀cY aY,Sim w0 F0 K ac (A5 23 [6] [.pt 48 0] [16,48,80,128] [(eF_ [.ob (.s a)]),(eF_ [(.ob (.s (0:Fr)))]),(eF_ [(.ob (.s ((o*o)*a)))]),(eF_ [.sl (.u64 e)])] 384 [[3,6,7,11]] [([.pt 16 0,.pt 48 0,.pt 80 0,(.ci (.clo 86 [(128,0)]))],23)]) cY aY->Wq Try.prog Q ([]) ac Exit.normal aY cY.w ρ):Wq Try.prog Q ([.code (rfB C6t)]) ac .normal aX cX.w ρ :=
 N1 (unroll:=false) (n:=3000) (path:=[true]) (o:=⟨_,_,_,_,_,_,_⟩) B3v (by kernel_rfl) (by kernel_rfl) ho (by kernel_rfl) (by kernel_rfl) hs hK
theorem pzD (a:Fr) (e:List Int) (o:Fr) (z:Bool) {ρ:Option Nat} (ho:A3 [(z=false)]) (hs:Sim w0 F0 K ac (pzB a e o z) cX aX) (hK:∀cY aY,Sim w0 F0 K ac (A5 23 [6] [.pt 48 0] [16,48,80,128] [(eF_ [.ob (.s a)]),(eF_ [(.ob (.s (0:Fr)))]),(eF_ [(.ob (.s (o*o)))]),(eF_ [.sl (.u64 e)])] 304 [[3,6,7,11]] [([.pt 16 0,.pt 48 0,.pt 80 0,(.ci (.clo 86 [(128,0)]))],23)]) cY aY->Wq Try.prog Q ([]) ac Exit.normal aY cY.w ρ):Wq Try.prog Q ([.code (rfB C6t)]) ac .normal aX cX.w ρ :=
 N1 (unroll:=false) (n:=3000) (path:=[false]) (o:=⟨_,_,_,_,_,_,_⟩) B3v (by kernel_rfl) (by kernel_rfl) ho (by kernel_rfl) (by kernel_rfl) hs hK
theorem pzX (a:Fr) (e:List Int) (o:Fr):A3 []->Sg Try.prog (pzS a e o) (A5 23 [6] [.pt 48 0] [48] [(eF_ [.ob (.s o)])] 224 [] []) .ret ([]) (rfR C6t):=sgA false 3000 [] B3v
def pzE (a:Fr) (e:List Int) (o:Fr):St:=A5 23 [6] [.pt 48 0] [16,48,80,128] [(eF_ [.ob (.s a)]),(eF_ [(.ob (.s (0:Fr)))]),some (.fl [.ob (.s o)]),(eF_ [.sl (.u64 e)])] 384 [[3,6,7,11]] [([.pt 16 0,.pt 48 0,.pt 80 0,(.ci (.clo 86 [(128,0)]))],23)]
def pzZ (o:Fr):St:=A5 23 [6] [.pt 48 0] [48] [some (.fl [.ob (.s o)])] 224 [] []
theorem F5z (o:Fr):C2 pvB Try.f49 false 3000 (⟨[],.ret,pzZ o⟩) [] [] []=(some ([],((.v (.a [.ob (.s o)])),[]))):=by kernel_rfl
end
end

section

theorem F5y (a:Fr) (l:List Bool) (z:Bool):pw a (pv (l++[z]))=if z=true then pw a (pv l)*pw a (pv l)*a else pw a (pv l)*pw a (pv l):=by
 rw[C6s,Nat.two_mul]
 cases z with
 | true=>
  rw[if_pos rfl,<-S8];rfl
 | false=>
  rw[if_neg (by decide),<-S8]
  rfl

theorem D4u (a:Fr) (e:List Int) (hl:e.length<=16) (hlim:A7d e) :
  FnD Try.prog 49 [.v (.a [.ob (.s a)]),.v (.a [.ob (.s 1)]),.v (.c (.sl (.u64 e)))] (.v (.a [.ob (.s (pw a (W6 e)))])) []:=by
 refine A8b (fn:=Try.f49) (c:=B2 Try.f49) Try.func49 rfl rfl fun x b hk hF hs=>?_
 refine pz a e trivial hs fun ac cY aY hs1=>?_
 obtain ⟨e1,e2⟩:=B5r (k:=C6t) (by kernel_rfl)
 rw[e1];have eP:(rfP C6t).toList=[12]:=by kernel_rfl
 have eG:rfG C6t = .tmp 11:=by kernel_rfl
 refine A9b (ps:=rfP C6t) e2 hs1 (gf:=86) (caps:=[(128,0)]) (A4 Try.func86 rfl rfl) (fun pre=>pzS a e (pw a (pv pre))) (fun s=>by rw[eG];rfl) ⟨_,rfl⟩ (btL (W6 e) (P1 e e.length) (P1 e e.length)) E3k D6j
  (fun y z=>.cons ⟨rfl,0,rfl⟩ .nil) (fun z=>by rw[<-Array.length_toList,eP];rfl) (fun pre p hp=>?_) (C1v hl hlim fun s=>rfl) (fun pre z=>pzB a e (pw a (pv pre)) z)
  (fun pre z=>pzE a e (pw a (pv (pre++[z])))) (fun pre z=>⟨_,rfl⟩) (fun pre z hz w1 F1 K1 as1 Q1 l y b hs2 hQ=>?_) (fun pre z hz w1 F1 K1 as1 Q1 l y b hs2 hQ=>?_) fun D y hs2 hD hFD hd=>?_
 ·rw[eP] at hp
  have h23:(pzS a e (pw a (pv pre))).nt=23:=rfl;rw[h23];simp only[List.mem_cons,List.not_mem_nil,or_false] at hp;subst hp;decide
 ·rw[eP] at hs2
  exact pzA a e _ z trivial hs2 fun cZ aZ hs3=>⟨hQ _ _ (hs3.nx _)⟩
 ·rw[F5y] at hQ
  cases z with
  | true=>exact pzC a e _ true ⟨rfl,trivial⟩ hs2 fun cZ aZ hs3=>⟨hQ _ _ (hs3.nx _)⟩
  | false=>exact pzD a e _ false ⟨rfl,trivial⟩ hs2 fun cZ aZ hs3=>⟨hQ _ _ (hs3.nx _)⟩
 ·have hs3:=hs2.marked rfl rfl D
  have hN:W6 e<2 ^ P1 e e.length:=by
   have:=D7s hlim e.length (Nat.le_refl _)
   rwa [List.take_length] at this
  rw[C6r hN _ (Nat.le_refl _),Nat.sub_self,Nat.pow_zero,Nat.div_one] at hs2 hs3;generalize pw a (W6 e)=o at hs2 hs3 ⊢
  refine pzX a e o trivial hs3 fun ac cV aV hs6=>⟨?_⟩
  have hs7:Sim y.w y.F (A1z y Z8 (A1h D)) ac (pzZ o) cV aV:=hs6;exact B2p B3v hk hF (F5z o) trivial (fun y v hd=>hd) hs2 hD hFD hd rfl hs7

end

namespace S4
section
variable {w0:World} {F0:Nat->Prop} {K:Kp} {ac:List Act} {Q:Exit->Act->World->Prop} {cX:Ctx} {aX:Act}

def B0k (log:Int) (w:Fr):Prop:=0<log->I4 w (2 ^ (log.toNat-1)) = -1
def ntt (L:List Fr) (w:Fr) (n:Nat):List Fr:=G1h (fun q=>L.getD q 0) w n
def C6b:MuS:=fun off len es e rest=>
 match off,es,e,rest with
 | 0,4,.sq (.s L),[.v (.c (.int .i64 log)),.v (.a [.ob (.s w)])]=>some ([0<=log,log<=16,len=2 ^ log.toNat,L.length=len,B0k log w],.sq (.s (ntt L w len)))
 | _,_,_,_=>none
theorem G1i {L:List Fr} {log:Int} {w:Fr} {len:Nat} (ho:A3 [0<=log,log<=16,len=2 ^ log.toNat,L.length=len,B0k log w]):MuC Try.prog 26 0 len 4 (.sq (.s L)) [.v (.c (.int .i64 log)),.v (.a [.ob (.s w)])] (.sq (.s (ntt L w len))):=by
 obtain ⟨h0,h1,h2,h3,h4,_⟩:=ho;obtain ⟨k,rfl⟩:=Int.eq_ofNat_of_zero_le h0;have h2:len=2 ^ k:=h2;subst h2;have e:L=tab (2 ^ k) (fun q=>L.getD q 0):=by rw[<-h3];exact F1h L
 have:=C7q (fun q=>L.getD q 0) k w (by omega) (fun hk=>h4 (by omega))
 rw[<-e] at this;exact this
def dV:Env:={ dW with mu:=fun g=>if g=26 then some (mu1 C6b) else dW.mu g }
theorem G4p:A6 Try.prog dV:=
 B7m W9 26 C6b (A4 Try.func26 rfl rfl) fun off len es e rest o e' h ho _ _=>by
  unfold C6b at h;split at h
  ·cases h
   exact G1i ho
  ·cases h
theorem B5w (x:Fr):∀n,pw x n=I4 x n
 | 0=>rfl
 | n+1=>by
  show pw x n*x=I4 x n*x;rw[B5w x n]
theorem D4v (a u:Fr) (e:List Int) (hu:u=1) (hl:e.length<=16) (hlim:A7d e):FnD Try.prog 49 [.v (.a [.ob (.s a)]),.v (.a [.ob (.s u)]),.v (.c (.sl (.u64 e)))] (.v (.a [.ob (.s (I4 a (W6 e)))])) []:=by
 subst hu;rw[<-B5w];exact D4u a e hl hlim
def C6p:B7
 | [.v (.a [.ob (.s a)]),.v (.a [.ob (.s u)]),.v (.c (.sl (.u64 e)))]=>some ([u=1,e.length<=16,A7d e],.v (.a [.ob (.s (I4 a (W6 e)))]),[])
 | _=>none
def dX1:Env:=dV.set (E8 dV.fn 49 C6p)
theorem E3x:A6 Try.prog dX1:=A9 G4p 49 C6p (A4 Try.func49 rfl rfl) fun args o r es h ho=>by
 unfold C6p at h;split at h
 ·cases h;exact D4v _ _ _ ho.1 ho.2.1 ho.2.2.1
 ·cases h
theorem G8d (a:Fr):C9 dX1 Try.f27 3000 [.v (.a [.ob (.s a)])] [] [] []=(some ([(0<=(0:Int)),(0<(4:Int)),(0<4),(0<=(0:Int)),(0<(4:Int)),(0<=(1:Int)),((1:Int)<(18446744073709551616:Int)),((Fin.ofNat rN 1)=(1:Fr)),(4<=16),(A7d [(18446744069414584319:Int),(6034159408538082302:Int),(3691218898639771653:Int),(8353516859464449352:Int)])],((.v (.a [(.ob (.s (S4.I4 a 52435875175126190479447740508185965837690552500527637822603658699938581184511)))])),[]))):=by kernel_rfl
/-- 1 divided by it; 0 of 0. -/
def A4f (a:Fr):Fr:=I4 a (rN-2)
theorem F3i (a:Fr):FnD Try.prog 27 [.v (.a [.ob (.s a)])] (.v (.a [.ob (.s (A4f a))])) []:=by
 have e:52435875175126190479447740508185965837690552500527637822603658699938581184511=rN-2:=by decide +kernel
 have r:=G8d a;rw[e] at r;refine A7 E3x Try.func27 r ⟨by decide,by decide,by decide,by decide,by decide,by decide,by decide,rfl,by decide,?_,trivial⟩
 intro x hx;simp only[List.mem_cons,List.not_mem_nil,or_false] at hx;rcases hx with rfl | rfl | rfl | rfl<;>decide
def B2r:B7
 | [.v (.a [.ob (.s a)])]=>some ([],.v (.a [.ob (.s (A4f a))]),[])
 | _=>none
def dX:Env:=dX1.set (E8 dX1.fn 27 B2r)
theorem C8n:A6 Try.prog dX:=A9 E3x 27 B2r (A4 Try.func27 rfl rfl) fun args o r es h _=>by
 unfold B2r at h;split at h
 ·cases h;exact F3i _
 ·cases h
def A7v:List KI:=(run dX false 3000 (⟨[.code (B2 Try.f10)],.normal,D6 Try.f10.ntmps [.v (.a [.int .i64 dF,.ob (.fr dF)]),.v (.a [.ob (.fr dF)]),.v (.c (.sl (.fr dF)))]⟩:Cfg) [false,false,false]).cfg.k
theorem G7x (log:Int) (w s:U4) (l:List U4):let b:Int:=l.length;A3 [((Bool.not (S4.E9 log w))=false),(0<=log),((b != (wrap .i64 ((1:Int)*((2:Int) ^ (Min.min (log).toNat 64)))))=false),((decide ((S4.inF s)=(0:Fr)))=false),(0<=b),(b=b),(((32:Int)*b)<=(281474976710656:Int)),(b<=(9223372036854775807:Int))]->Sg Try.prog (D6 Try.f10.ntmps [.v (.a [.int .i64 log,.ob (.fr w)]),.v (.a [.ob (.fr s)]),.v (.c (.sl (.fr l)))]) (A5 82 [3,8,9,34,35,36] [.pt 16 0,.pt 112 0,(.ci (.slc 400 0 (b).toNat 4)),(.ci (.sl (.fr l))),(.ii b),.ii (0:Int)] [16,112,400] [(eF_ [(.int .i64 log),.ob (.fr w)]),(eF_ [(.ob (.s (S4.inF s)))]),(eQ_ (.s (List.replicate (b).toNat 0)))] 480 [] []) .normal (A7v) ([.code (B2 Try.f10)]):=sgA false 3000 [false,false,false] C8n
def cfS (log :Int) (w s:U4) (l:List U4) (N:Nat) (L:List Fr) (i:Nat):St:=A5 82 [3,8,9,34,35,36] [.pt 16 0,.pt 112 0,.v (.c (.slc 400 0 N 4)),(.ci (.sl (.fr l))),.v (.c (.int .i64 (N:Int))),.v (.c (.int .i64 (i:Int)))] [16,112,400] [(eF_ [(.int .i64 log),.ob (.fr w)]),(eF_ [(.ob (.s (S4.inF s)))]),some (.sq (.s L))] 480 [] []
section
variable (log:Int) (w s:U4) (l:List U4) (N:Nat) (L:List Fr) (i:Nat)
theorem cfN:let a:Int:=i;let b:Int:=(N:Nat);A3 [((decide (a<b))=true),(0<=a),(a<(l.length:Int)),(0<=a),(a<b),(0=0),((a).toNat<L.length)]->Sg Try.prog (cfS log w s l N L i) (A5 82 [3,8,9,34,35,36] [.pt 16 0,.pt 112 0,(.ci (.slc 400 0 N 4)),(.ci (.sl (.fr l))),(.ii b),(.ii (wrap .i64 (a+1)))] [16,112,400] [(eF_ [(.int .i64 log),.ob (.fr w)]),(eF_ [(.ob (.s (S4.inF s)))]),(eQ_ (.s (List.set L (a).toNat (S4.inF (List.getD l (a).toNat 0)))))] 720 [] []) .normal (D5 A7v) (B5 A7v):=sgA false 3000 [true] C8n
def B2d:List KI:=(run dX false 3000 (⟨B5 A7v,.normal,cfS dF dF dF dF dF dF dF⟩:Cfg) [false]).cfg.k
theorem G7y:let a:Int:=(N:Nat);let b:=wrap .u64 a;let c:=S4.A4f (S4.inF w);A3 [((decide ((i:Int)<a))=false),(0<=log),(log<=(16:Int)),(N=(2 ^ (log).toNat)),(L.length=N),(S4.B0k log c),(0<=b),(b<(18446744073709551616:Int))]->Sg Try.prog (cfS log w s l N L i) (A5 82 [9,12,13,63,64] [(.ci (.slc 400 0 N 4)),.pt 704 0,.pt 768 0,(.ii a),.ii (0:Int)] [400,704,768] [(eQ_ (.s (S4.ntt L c N))),(eF_ [(.ob (.s (S4.A4f (Fin.ofNat rN (b).toNat))))]),(eF_ [(.ob (.s (S4.A4f (S4.inF s))))])] 848 [] []) .normal (B2d) (B5 A7v):=sgA false 3000 [false] C8n
def chS (N:Nat) (L:List Fr) (x b:Fr) (i:Nat):St:=A5 82 [9,12,13,63,64] [.v (.c (.slc 400 0 N 4)),.pt 704 0,.pt 768 0,.v (.c (.int .i64 (N:Int))),.v (.c (.int .i64 (i:Int)))] [400,704,768] [some (.sq (.s L)),some (.fl [.ob (.s x)]),some (.fl [.ob (.s b)])] 848 [] []
end
theorem chN (N:Nat) (L:List Fr) (x b:Fr) (i:Nat):let a:Int:=i;let c:Int:=(N:Nat);let d:=(a).toNat<L.length;A3 [((decide (a<c))=true),(0<=a),(a<c),(0=0),d,(0<=a),(a<c),(0=0),d]->Sg Try.prog (chS N L x b i) (A5 82 [9,12,13,63,64] [(.ci (.slc 400 0 N 4)),.pt 704 0,.pt 768 0,(.ii c),(.ii (wrap .i64 (a+1)))] [400,704,768] [(eQ_ (.s (List.set L (a).toNat ((List.getD L (a).toNat 0)*x)))),(eF_ [(.ob (.s (x*b)))]),(eF_ [.ob (.s b)])] 1152 [] []) .normal (D5 B2d) (B5 B2d):=sgA false 3000 [true] C8n
theorem F2i (N:Nat) (L:List Fr) (x b:Fr) (i:Nat):C2 dX Try.f10 false 3000 (⟨B5 B2d,.normal,chS N L x b i⟩) [false] [880] []=(some ([((decide ((i:Int)<((N:Nat):Int)))=false),(0=0),(N=L.length),(4=4),(L.length<=8796093022208)],((.t [(.c (.slc 0 0 L.length 4)),(.c (.int .i64 (0:Int)))]),[(.sq (.fr (List.map S4.I8 L)))]))):=by kernel_rfl
end
end S4

namespace S4

def sqm (r w:Nat):Nat->Nat
 | 0=>w
 | n+1=>sqm r w n*sqm r w n % r
theorem C7j (w:Fr):∀n,(sqN w n).val=sqm rN w.val n
 | 0=>rfl
 | n+1=>by
  show ((sqN w n).val*(sqN w n).val) % rN=sqm rN w.val n*sqm rN w.val n % rN;rw[C7j w n]
theorem G7d:sqm rN 10238227357739495823651030575849232062558860180284477541189508159991286009131 32=1:=by kernel_rfl
theorem G3e:sqN A7p 32=1:=by
 apply Fin.ext
 rw[C7j];have hr:A7p.val=10238227357739495823651030575849232062558860180284477541189508159991286009131:=by kernel_rfl
 rw[hr];exact G7d
theorem G0z {r:Nat} [NeZero r] (a b c d:Fin r):a*b*(c*d)=a*c*(b*d):=by grind
theorem G3d:sqN A7p 31 = -1:=by
 apply Fin.ext
 rw[C7j];decide +kernel
theorem B3p (x:Fr) (q:Nat):∀n,I4 (I4 x q) n=I4 x (q*n)
 | 0=>rfl
 | n+1=>by
  show I4 (I4 x q) n*I4 x q=_;rw[B3p x q n,Nat.mul_succ,B1f]
theorem D0t (x y:Fr):∀n,I4 (x*y) n=I4 x n*I4 y n
 | 0=>(Fin.mul_one _).symm
 | n+1=>by
  show I4 (x*y) n*(x*y)=I4 x n*x*(I4 y n*y);rw[D0t x y n];exact G0z _ _ _ _
theorem B1o (x:Fr):∀n,sqN x n=I4 x (2 ^ n)
 | 0=>(Fin.one_mul _).symm
 | n+1=>by
  show sqN x n*sqN x n=_;rw[B1o x n,Nat.pow_succ,Nat.mul_two,B1f]
theorem E4a {log:Int} {w:U4} (h:E9 log w=true):B0k log (inF w):=by
 intro hp;obtain ⟨h0,h1,rfl⟩:=A0w h;rw[B8i,B1o,B3p,<-Nat.pow_add,show (32-log).toNat+(log.toNat-1)=31 from by omega,<-B1o]
 exact G3d
theorem F7d {log:Int} (h0:0<=log) (h1:log<=16):wrap .i64 ((1:Int)*((2:Int) ^ (min (log).toNat 64)))=((2 ^ log.toNat:Nat):Int):=by
 obtain ⟨k,rfl⟩:=Int.eq_ofNat_of_zero_le h0;exact D8g (by omega)
theorem E5d {x:Fr} (h:x≠0):x*A4f x=1:=by
 have:=E9j x h
 unfold G6t at this;rw[B5w] at this;exact this

theorem C9h (x y:Fr):x*y=y*x:=A1i x y
theorem C5b (x y z:Fr):x*y*z=x*(y*z):=A5q x y z
theorem D9w:(1:Fr)≠0:=by decide

theorem E4b {log:Int} {w:U4} (h:E9 log w=true):I4 (inF w) (2 ^ log.toNat)=1:=by
 obtain ⟨h0,h1,rfl⟩:=A0w h;rw[B8i,B1o,B3p,<-Nat.pow_add,show (32-log).toNat+log.toNat=32 from by omega,<-B1o]
 exact G3e

theorem pow_zero:∀{n:Nat},0<n->I4 (0:Fr) n=0
 | n+1,_=>by
  show I4 0 n*0=0;exact C9i _

theorem F9g {log:Int} {w:U4} (h:E9 log w=true):inF w≠0:=fun e=>by
 have h1:=E4b h;rw[e,pow_zero (Nat.two_pow_pos _)] at h1;exact D9w h1.symm

theorem F4v {a b:Fr} (h:a*b=1) (hb:b = -1):a = -1:=E0z h hb

theorem E4v {log:Int} {w:U4} (h:E9 log w=true):B0k log (A4f (inF w)):=by
 intro hp;have h1:=E4a h hp;have h2:=E5d (F9g h);have h3:I4 (A4f (inF w)) (2 ^ (log.toNat-1))*I4 (inF w) (2 ^ (log.toNat-1))=1:=by
  rw[<-D0t,C9h,h2,<-B5w,A5v]
 exact F4v h3 h1

/-- The coefficients of values. -/
def C4r (n:Nat) (w s:Fr) (V:List Fr):List Fr:=tab n (fun i=>sm (fun j=>V.getD j 0*I4 (A4f w) (i*j)) n*(A4f (Fin.ofNat rN n)*I4 (A4f s) i))
theorem B7c (n:Nat) (w s:Fr) (V:List Fr):(C4r n w s V).length=n:=B5z _ _

theorem D9m (log:Int) (w s:U4) (l:List U4) (hd:E9 log w=true) (hl:l.length=2 ^ log.toNat) (hs0:inF s≠0) :
  FnD Try.prog 10 [.v (.a [.int .i64 log,.ob (.fr w)]),.v (.a [.ob (.fr s)]),.v (.c (.sl (.fr l)))] (.t [.c (.slc 0 0 (2 ^ log.toNat) 4),.c (.int .i64 0)]) [.sq (.fr ((C4r (2 ^ log.toNat) (inF w) (inF s) (l.map inF)).map I8))]:=by
 obtain ⟨h0,h1,_⟩:=A0w hd;have hhalf:=E4v hd;have hp2:2 ^ log.toNat<=2 ^ 16:=Nat.pow_le_pow_right (by decide) (by omega)
 have hsh:=F7d h0 h1;obtain ⟨N,hN⟩:∃N,N=2 ^ log.toNat:=⟨_,rfl⟩
 rw[<-hN] at hl hp2 hsh ⊢
 refine F5 (fn:=Try.f10) (c:=B2 Try.f10) Try.func10 rfl rfl fun x a hk hF hs=>?_
 refine G7x log w s l ⟨by rw[hd];rfl,h0,by rw[hsh,hl];simp,decide_eq_false hs0,by omega,rfl,by omega,by omega,trivial⟩ hs fun ac cY aY hs1=>?_
 rw[Int.toNat_natCast,hl] at hs1;refine C0 (ι:={ i:Nat // i<=N }) (fun i=>cfS log w s l N ((List.range i.1).map (fun j=>inF (l.getD j 0))++List.replicate (N-i.1) 0) i.1) (fun i=>N-i.1) (c:=lpC A7v) (k:=lpR A7v) (by kernel_rfl) (fun i ih ac cY aY hs=>?_) ⟨0,Nat.zero_le _⟩ hs1
 obtain ⟨i,hi⟩:=i;simp only at ih hs
 have hlen:=A3k (fun j=>inF (l.getD j 0)) 0 hi
 by_cases h:i<N
 ·refine cfN log w s l N _ i ⟨by simp [h],by omega,by omega,by omega,by omega,rfl,by rw[hlen];omega,trivial⟩ hs fun ac cZ aZ hs2=>?_
  rw[Int.toNat_natCast,A3l (fun j=>inF (l.getD j 0)) _ h,B0 (by omega) (by omega)] at hs2
  exact ih ⟨i+1,by omega⟩ (by show N-(i+1)<N-i;omega) ac cZ aZ (hs2.nx _)
 ·have e:i=N:=by omega
  subst e;rw[Nat.sub_self,List.replicate_zero,List.append_nil] at hs;have hV:(List.range i).map (fun j=>inF (l.getD j 0))=l.map inF:=by rw[<-hl];exact A9a inF l 0
  rw[hV] at hs;have hVl:(l.map inF).length=i:=by rw[List.length_map,hl]
  refine G7y log w s l i _ i ⟨by simp,h0,h1,hN,hVl,hhalf,by rw[A1x (by omega) (by omega)];omega,by rw[A1x (by omega) (by omega)];omega,trivial⟩ hs fun ac cZ aZ hs2=>?_
  rw[A1x (by omega) (by omega),Int.toNat_natCast] at hs2
  let A:Nat->Fr:=fun q=>sm (fun j=>(l.map inF).getD j 0*I4 (A4f (inF w)) (q*j)) i
  have hA:ntt (l.map inF) (A4f (inF w)) i=tab i A:=rfl;rw[hA] at hs2;let X:Nat->Fr:=fun q=>A4f (Fin.ofNat rN i)*I4 (A4f (inF s)) q
  have hX0:X 0=A4f (Fin.ofNat rN i):=D3k _;rw[<-hX0] at hs2;have e0:tab i (fun q=>if q<0 then A q*X q else A q)=tab i A:=M7 fun q _=>if_neg (Nat.not_lt_zero q)
  rw[<-e0] at hs2;refine C0 (ι:={ q:Nat // q<=i }) (fun k=>chS i (tab i (fun q=>if q<k.1 then A q*X q else A q)) (X k.1) (A4f (inF s)) k.1) (fun k=>i-k.1) (c:=lpC B2d) (k:=lpR B2d) (by kernel_rfl) (fun k ih ac cY aY hs=>?_) ⟨0,Nat.zero_le _⟩ (hs2.nx _)
  ·obtain ⟨k,hk1⟩:=k
   simp only at ih hs
   have htl:(tab i (fun q=>if q<k then A q*X q else A q)).length=i:=B5z _ _
   by_cases h2:k<i
   ·refine chN i _ _ _ k ⟨by simp [h2],by omega,by omega,rfl,by rw[htl];omega,by omega,by omega,rfl,by rw[htl];omega,trivial⟩ hs fun ac cV aV hs3=>?_
    have hX:X k*A4f (inF s)=X (k+1):=C5b _ _ _;have hset:tab i (fun q=>if q=k then (if k<k then A k*X k else A k)*X k else if q<k then A q*X q else A q)=tab i (fun q=>if q<k+1 then A q*X q else A q):=M7 fun q _=>by
     by_cases g1:q=k
     ·subst g1;simp
     ·by_cases g2:q<k
      ·rw[if_neg g1,if_pos g2,if_pos (by omega)]
      ·rw[if_neg g1,if_neg g2,if_neg (by omega)]
    rw[Int.toNat_natCast,A7a h2,B1r,hX,hset,B0 (by omega) (by omega)] at hs3
    exact ih ⟨k+1,by omega⟩ (by show i-(k+1)<i-k;omega) ac cV aV (hs3.nx _)
   ·have e2:k=i:=by omega
    subst e2;have r:=F2i k (tab k (fun q=>if q<k then A q*X q else A q)) (X k) (A4f (inF s)) k
    have hC:tab k (fun q=>if q<k then A q*X q else A q)=C4r k (inF w) (inF s) (l.map inF):=M7 fun q hq=>if_pos hq
    rw[htl,hC] at r;rw[hC] at hs;exact C7 C8n hk hF r ⟨by simp,rfl,rfl,rfl,by omega,trivial⟩ (fun y v hd=>hd) hs

/-! There and back. -/
section
variable {log:Int} {w:U4}

end

end S4

end
end Go.Proofs.Ytifiiigbedjceaa
