/- Parts of a proof, one behind the other: WPu, PPu, WPi, Pf, WCp, PCp, WCo1, WCo2, PCo2, WCo3, PCo3, Ga, WOa, POa, WMd, PMd, WMy, PMz, Nm, WTi, WOb, WDa, WDb, PDb, WDc, PDc, WDd, PDd, WDe, Gb, WEa, WMw, PMw, WTj, WEb, WFa, WFb, WFc, PFc, WFd, PFd, WFe, PFe. No conditions. -/
import Derived.Shelf.Strconv.Itoa0
import Derived.Test.YtefimjofjjdndaaGreatKsN
open Go.IntKind (wrap)
namespace Go.Proofs.YtefimjofjjdndaaGreat
noncomputable section
section
section
variable {w0:World} {F0:Nat->Prop} {K:Kp} {ac:List Act} {Q:Exit->Act->World->Prop} {cX:Ctx} {aX:Act}
open Go.Shelf

theorem E4j {n:Nat} (h:n<B6):inP (Fin.ofNat B6 n)=Fin.ofNat pN n:=by
 apply Fin.ext
 show (n % B6) % pN=n % pN;rw[Nat.mod_eq_of_lt h]
theorem D6v (n:Int) (h1:0<=n) (h2:n<18446744073709551616):FnD Tryz.prog 77 [.v (.c (.int .u64 n))] (.v (.a [.ob (.p (Fin.ofNat pN n.toNat))])) []:=by
 refine (A2 B8s Tryz.func77 (F6w n) ⟨h1,h2,by decide,by decide,by decide,by decide,by decide,by decide,by decide,by decide,by decide,by decide,trivial⟩).conv (fun _ _ h=>h) fun y v hd=>?_
 rw[Nat.add_zero,E4j (by unfold B6;omega)] at hd
 exact hd
theorem E5r (x:Fp):FnD Tryz.prog 60 [.v (.a [.ob (.p x)])] (.v (.c (.bool (decide (x=0))))) []:=by
 refine (A2 B8s Tryz.func60 (G6i _) trivial).conv (fun _ _ h=>h) fun y v hd=>?_
 rw[if_pos rfl] at hd;exact hd
def A9g:B1
 | [.v (.c (.int .u64 n))]=>some ([0<=n,n<18446744073709551616],.v (.a [.ob (.p (Fin.ofNat pN n.toNat))]),[])
 | _=>none
def G8q:Env:=qeF.set (C7 qeF.fn 77 A9g)
theorem G2g:A6 Tryz.prog G8q:=A4 B8s 77 A9g (A3 Tryz.func77 rfl rfl) fun args o r es h ho=>by
 unfold A9g at h;split at h
 ·cases h;exact D6v _ ho.1 ho.2.1
 ·cases h
def B7k:B1
 | [.v (.a [.ob (.p x)])]=>some ([],.v (.a [.ob (.p (0-x))]),[])
 | _=>none
def G9y:Env:=G8q.set (C7 G8q.fn 135 B7k)
theorem F8f:A6 Tryz.prog G9y:=A4 G2g 135 B7k (A3 Tryz.func135 rfl rfl) fun args o r es h _=>by
 unfold B7k at h;split at h
 ·cases h;exact A2 B8s Tryz.func135 (H4c _) trivial
 ·cases h
def B3t:B1
 | [.v (.a [.ob (.p x)])]=>some ([],.v (.c (.bool (decide (x=0)))),[])
 | _=>none
def qeG:Env:=G9y.set (C7 G9y.fn 60 B3t)
theorem G7n:A6 Tryz.prog qeG:=A4 F8f 60 B3t (A3 Tryz.func60 rfl rfl) fun args o r es h _=>by
 unfold B3t at h;split at h
 ·cases h;exact E5r _
 ·cases h

def H7b:Ren:=⟨fun n=>if n=129 then 139 else 0,fun t=>if t=46 then 175 else if t=53 then 22 else t,fun g=>g⟩
theorem H1f:Lays.n129 Tryz.prog H7b:=
  { mixed:=by kernel_rfl
    f129:=by kernel_rfl
    t3:=by kernel_rfl
    a3:=fun _=>by kernel_rfl
    z3:=fun _=>by kernel_rfl
    v3:=fun _=>by kernel_rfl
    t4:=by kernel_rfl
    a4:=fun _=>by kernel_rfl
    z4:=fun _=>by kernel_rfl
    v4:=fun _=>by kernel_rfl
    t5:=by kernel_rfl
    a5:=fun _=>by kernel_rfl
    z5:=fun _=>by kernel_rfl
    v5:=fun _=>by kernel_rfl
    t9:=by kernel_rfl
    a9:=fun _=>by kernel_rfl
    z9:=fun _=>by kernel_rfl
    v9:=fun _=>by kernel_rfl
    t46:=by kernel_rfl
    a46:=fun _=>by kernel_rfl
    z46:=fun _=>by kernel_rfl
    v46:=fun _=>by kernel_rfl
    t53:=by kernel_rfl
    a53:=fun _=>by kernel_rfl
    z53:=fun _=>by kernel_rfl
    v53:=fun _=>by kernel_rfl }
theorem E5g (n:Int) (h0:0<=n) (h1:n<18446744073709551616):FnD Tryz.prog 139 [.v (.c (.int .u64 n))] (.v (.c (.int .i64 (Lib.bitLen n.toNat:Nat)))) []:=
 F3n fun x vs hd=>by
  cases hd with | cons d1 hd=>
  cases hd
  rw[S5 d1];exact ⟨_,Any.bits_Len64 H1f n x.w h0 (by omega),⟨rfl,0,rfl⟩⟩
def C7l:B1
 | [.v (.c (.int .u64 n))]=>some ([0<=n,n<18446744073709551616],.v (.c (.int .i64 (Lib.bitLen n.toNat:Nat))),[])
 | _=>none
def F5x:Env:=qeG.set (C7 qeG.fn 139 C7l)
theorem C5r:A6 Tryz.prog F5x:=A4 G7n 139 C7l (A3 Tryz.func139 rfl rfl) fun args o r es h ho=>by
 unfold C7l at h;split at h
 ·cases h;exact E5g _ ho.1 ho.2.1
 ·cases h
--@env F5x C5r
theorem ct (l:List Int):B2 F5x Tryz.f138 3000 [.v (.c (.sl (.u64 l)))] [] [] []=(some ([(0<=(ite ((16:Int)<(l.length:Int)) (16:Int) (l.length:Int))),((ite ((16:Int)<(l.length:Int)) (16:Int) (l.length:Int))<=(ite ((16:Int)<(l.length:Int)) (16:Int) (l.length:Int))),((ite ((16:Int)<(l.length:Int)) (16:Int) (l.length:Int))<=(l.length:Int))],((.ci (.sl (.u64 (List.take ((ite ((16:Int)<(l.length:Int)) (16:Int) (l.length:Int))).toNat (List.drop 0 l))))),[]))):=by kernel_rfl

theorem F8l (l:List Int) (hl:l.length<=16):FnD Tryz.prog 138 [.v (.c (.sl (.u64 l)))] (.v (.c (.sl (.u64 l)))) []:=by
 have r:=ct l;have e:(if (16:Int)<((l.length:Nat):Int) then (16:Int) else ((l.length:Nat):Int))=((l.length:Nat):Int):=if_neg (by omega)
 rw[e,Int.toNat_natCast,List.drop_zero,List.take_length] at r;exact A2 C5r Tryz.func138 r ⟨by omega,Int.le_refl _,Int.le_refl _,trivial⟩
def C7g:B1
 | [.v (.c (.sl (.u64 l)))]=>some ([l.length<=16],.v (.c (.sl (.u64 l))),[])
 | _=>none
def D7l:Env:=F5x.set (C7 F5x.fn 138 C7g)
theorem A6s:A6 Tryz.prog D7l:=A4 C5r 138 C7g (A3 Tryz.func138 rfl rfl) fun args o r es h ho=>by
 unfold C7g at h;split at h
 ·cases h;exact F8l _ ho.1
 ·cases h
--@env D7l A6s
def A7y:List KI:=(run D7l false 3000 ((fun (l:List Int)=>(⟨[.code (B7 Tryz.f124)],.normal,E4 Tryz.f124.ntmps [.v (.c (.sl (.u64 l)))]⟩:Cfg)) default) []).cfg.k
theorem H4n (l:List Int) (ho:A7 [(l.length<=16)]):Sg Tryz.prog (E4 Tryz.f124.ntmps [.v (.c (.sl (.u64 l)))]) (A8 26 [0,3] [(.ci (.sl (.u64 l))),(.ii (wrap .i64 ((l.length:Int)-1)))] [] [] 144 [] []) .normal (A7y) ([.code (B7 Tryz.f124)]):=fun hs hK=>
 A5 (unroll:=false) (n:=3000) (path:=[]) (o:=⟨_,_,_,_,_,_,_⟩) A6s (by kernel_rfl) (by kernel_rfl) ho hs hK
def nbS (l:List Int) (i:Int):St:=A8 26 [0,3] [(.ci (.sl (.u64 l))),.v (.c (.int .i64 i))] [] [] 144 [] []
theorem nbN (l:List Int) (i:Int) (ho:A7 [((decide (i >= (0:Int)))=true),(0<=i),(i<(l.length:Int)),(((l.getD i.toNat 0) != (0:Int))=false)]):Sg Tryz.prog (nbS l i) (A8 26 [0,3] [(.ci (.sl (.u64 l))),(.ii (wrap .i64 (i-1)))] [] [] 304 [] []) .normal (N8 A7y) (E7 A7y):=fun hs hK=>
 A5 (unroll:=false) (n:=3000) (path:=[true,false]) (o:=⟨_,_,_,_,_,_,_⟩) A6s (by kernel_rfl) (by kernel_rfl) ho hs hK
theorem F7o (l:List Int) (i:Int):I0 D7l Tryz.f124 false 3000 (⟨E7 A7y,.normal,nbS l i⟩) [true,true] [] []=(some ([((decide (i >= (0:Int)))=true),(0<=i),(i<(l.length:Int)),(((l.getD i.toNat 0) != (0:Int))=true),(0<=i),(i<(l.length:Int)),(0<=(l.getD i.toNat 0)),((l.getD i.toNat 0)<(18446744073709551616:Int))],((.ii (wrap .i64 ((wrap .i64 ((64:Int)*i))+(((Lib.bitLen ((l.getD i.toNat 0)).toNat):Nat):Int)))),[]))):=by kernel_rfl
theorem F7t (l:List Int) (i:Int):I0 D7l Tryz.f124 false 3000 (⟨E7 A7y,.normal,nbS l i⟩) [false] [] []=(some ([((decide (i >= (0:Int)))=false)],((.ii (0:Int)),[]))):=by kernel_rfl
theorem E9s (l:List Int) (hl:l.length<=16) (hlim:A3a l):FnD Tryz.prog 124 [.v (.c (.sl (.u64 l)))] (.v (.c (.int .i64 (L0 l l.length:Nat)))) []:=by
 refine M9 (fn:=Tryz.f124) (c:=B7 Tryz.f124) Tryz.func124 rfl rfl fun x a hk hF hs=>?_
 refine H4n l ⟨hl,trivial⟩ hs fun ac cY aY hs1=>?_
 rw[B9 (by omega) (by omega)] at hs1
 refine F4 (ι:={ n:Nat // n<=l.length∧L0 l n=L0 l l.length }) (fun n=>nbS l ((n.1:Int)-1)) (fun n=>n.1) (c:=lpC A7y) (k:=lpR A7y) (by kernel_rfl) (fun n ih ac cY aY hs=>?_) ⟨l.length,Nat.le_refl _,rfl⟩ (hs1.nx _)
 obtain ⟨n,hn,he⟩:=n;simp only at ih hs
 cases n with
 | zero=>
  rw[<-he];exact K9 A6s hk hF (F7t l _) ⟨by simp,trivial⟩ (fun y v hd=>hd) hs
 | succ n=>
  have e1:((n+1:Nat):Int)-1=(n:Int):=by omega
  rw[e1] at hs;have hg:=B7w hlim n;by_cases h0:l.getD n 0=0
  ·refine nbN l _ ⟨by simp,by omega,by omega,by rw[Int.toNat_natCast,h0];rfl,trivial⟩ hs fun ac cZ aZ hs2=>?_
   rw[B9 (by omega) (by omega)] at hs2
   refine ih ⟨n,by omega,?_⟩ (Nat.lt_succ_self n) ac cZ aZ (hs2.nx _)
   rw[<-he];show _=if l.getD n 0≠0 then _ else L0 l n
   rw[if_neg (by simpa using h0)]
  ·have r:=F7o l (n:Int)
   have hb:L0 l l.length=64*n+Lib.bitLen (l.getD n 0).toNat:=by
    rw[<-he];show (if l.getD n 0≠0 then _ else L0 l n)=_
    rw[if_pos h0]
   have hle:=C3h (l.getD n 0).toNat;rw[Int.toNat_natCast] at r;have e2:wrap IntKind.i64 (wrap IntKind.i64 ((64:Int)*(n:Int))+((Lib.bitLen (l.getD n 0).toNat:Nat):Int))=((L0 l l.length:Nat):Int):=by
    rw[hb];generalize Lib.bitLen (l.getD n 0).toNat=B at *;rw[B9 (n:=(64:Int)*(n:Int)) (by omega) (by omega),B9 (by omega) (by omega)]
    omega
   rw[e2] at r;have hne:(l.getD n 0 != (0:Int))=true:=by simpa using h0
   exact K9 A6s hk hF r ⟨by simp,by omega,by omega,hne,by omega,by omega,hg.1,hg.2,trivial⟩ (fun y v hd=>hd) hs
def C2b:B1
 | [.v (.c (.sl (.u64 l)))]=>some ([l.length<=16,A3a l],.v (.c (.int .i64 (L0 l l.length:Nat))),[])
 | _=>none
def qeH:Env:=D7l.set (C7 D7l.fn 124 C2b)
theorem V3:A6 Tryz.prog qeH:=A4 A6s 124 C2b (A3 Tryz.func124 rfl rfl) fun args o r es h ho=>by
 unfold C2b at h;split at h
 ·cases h;exact E9s _ ho.1 ho.2.1
 ·cases h
--@env qeH V3
def H0a:List KI:=(run qeH false 3000 ((fun (l:Nat) (v:Value)=>(⟨[.code (B7 Tryz.f123)],.normal,⟨B3a [.v (.c (.val (.func (.yield l) #[] #[]))),.v (.c (.ptr 0 0))],one (.fl [.val v]),Tryz.f123.ntmps,16,[]⟩⟩:Cfg)) default default) []).cfg.k
theorem bt (l:Nat) (v:Value) (ho:A7 []):Sg Tryz.prog (⟨B3a [.v (.c (.val (.func (.yield l) #[] #[]))),.v (.c (.ptr 0 0))],one (.fl [.val v]),Tryz.f123.ntmps,16,[]⟩) (A8 24 [0,1,4] [(.ci (.val (Value.func (Fn.yield l) (Array.mk ([]:List Value)) (Array.mk ([]:List Value))))),.pt 0 0,(.ci (.val v))] [0] [(eF_ [(.val v)])] 32 [] []) .normal (H0a) ([.code (B7 Tryz.f123)]):=fun hs hK=>
 A5 (unroll:=false) (n:=3000) (path:=[]) (o:=⟨_,_,_,_,_,_,_⟩) V3 (by kernel_rfl) (by kernel_rfl) ho hs hK
def btA (l:Nat) (v:Value) (e:List Int):St:=A8 24 [0,1,4] [(.ci (.val (Value.func (Fn.yield l) (Array.mk ([]:List Value)) (Array.mk ([]:List Value))))),.pt 0 0,.v (.c (.sl (.u64 e)))] [0] [(eF_ [(.val v)])] 32 [] []
def D8b:List KI:=(run qeH false 3000 ((fun (l:Nat) (v:Value) (e:List Int)=>(⟨H0a,.normal,btA l v e⟩:Cfg)) default default default) []).cfg.k
theorem bu (l:Nat) (v:Value) (e:List Int) (ho:A7 [(e.length<=16),(A3a e)]):Sg Tryz.prog (btA l v e) (A8 24 [0,1,3] [(.ci (.val (Value.func (Fn.yield l) (Array.mk ([]:List Value)) (Array.mk ([]:List Value))))),.pt 0 0,(.ii (wrap .i64 ((((L0 e e.length):Nat):Int)-1)))] [0] [(eF_ [(.val v)])] 80 [] []) .normal (D8b) (H0a):=fun hs hK=>
 A5 (unroll:=false) (n:=3000) (path:=[]) (o:=⟨_,_,_,_,_,_,_⟩) V3 (by kernel_rfl) (by kernel_rfl) ho hs hK
def buS (l:Nat) (v:Value) (i:Int):St:=A8 24 [0,1,3] [(.ci (.val (Value.func (Fn.yield l) (Array.mk ([]:List Value)) (Array.mk ([]:List Value))))),.pt 0 0,.v (.c (.int .i64 i))] [0] [(eF_ [(.val v)])] 80 [] []
def G4h:List KI:=(run qeH false 3000 ((fun (l:Nat) (v:Value) (i:Int)=>(⟨E7 D8b,.normal,buS l v i⟩:Cfg)) default default default) [true]).cfg.k
theorem bv (l:Nat) (v:Value) (i:Int) (ho:A7 [((decide (i >= (0:Int)))=true),((64:Int)≠(0:Int))]):Sg Tryz.prog (buS l v i) (A8 24 [0,1,3,11,12,14] [(.ci (.val (Value.func (Fn.yield l) (Array.mk ([]:List Value)) (Array.mk ([]:List Value))))),.pt 0 0,.ii i,(.ci (.val (Value.func (Fn.yield l) (Array.mk ([]:List Value)) (Array.mk ([]:List Value))))),(.ci (.val v)),(.ii (wrap .i64 (Int.tdiv i (64:Int))))] [0] [(eF_ [(.val v)])] 176 [] []) .normal (G4h) (E7 D8b):=fun hs hK=>
 A5 (unroll:=false) (n:=3000) (path:=[true]) (o:=⟨_,_,_,_,_,_,_⟩) V3 (by kernel_rfl) (by kernel_rfl) ho hs hK
def bvA (l:Nat) (v:Value) (e:List Int) (i:Int):St:=A8 24 [0,1,3,11,12,14] [(.ci (.val (Value.func (Fn.yield l) (Array.mk ([]:List Value)) (Array.mk ([]:List Value))))),.pt 0 0,.ii i,(.ci (.val (Value.func (Fn.yield l) (Array.mk ([]:List Value)) (Array.mk ([]:List Value))))),.v (.c (.sl (.u64 e))),(.ii (wrap .i64 (Int.tdiv i (64:Int))))] [0] [(eF_ [(.val v)])] 176 [] []
def H3y:List KI:=(run qeH false 3000 ((fun (l:Nat) (v:Value) (e:List Int) (i:Int)=>(⟨G4h,.normal,bvA l v e i⟩:Cfg)) default default default default) []).cfg.k
theorem bw (l:Nat) (v:Value) (e:List Int) (i:Int) (ho:A7 [(0<=(wrap .i64 (Int.tdiv i (64:Int)))),((wrap .i64 (Int.tdiv i (64:Int)))<(e.length:Int)),((64:Int)≠(0:Int)),(0<=(Int.tmod i (64:Int)))]):Sg Tryz.prog (bvA l v e i) (A8 24 [0,1,3,11,21] [(.ci (.val (Value.func (Fn.yield l) (Array.mk ([]:List Value)) (Array.mk ([]:List Value))))),.pt 0 0,.ii i,(.ci (.val (Value.func (Fn.yield l) (Array.mk ([]:List Value)) (Array.mk ([]:List Value))))),(.ci (.bool ((E5 BinOp.and IntKind.u64 (Int.fdiv (List.getD e ((wrap .i64 (Int.tdiv i (64:Int)))).toNat 0) ((2:Int) ^ (Min.min ((Int.tmod i (64:Int))).toNat 64))) (1:Int)) == (1:Int))))] [0] [(eF_ [(.val v)])] 288 [] []) .normal (H3y) (G4h):=fun hs hK=>
 A5 (unroll:=false) (n:=3000) (path:=[]) (o:=⟨_,_,_,_,_,_,_⟩) V3 (by kernel_rfl) (by kernel_rfl) ho hs hK
theorem bX (l:Nat) (v:Value) (i:Int) (ho:A7 [((decide (i >= (0:Int)))=false)]):Sg Tryz.prog (buS l v i) (A8 24 [] [] [0] [(eF_ [(.val v)])] 112 [] []) .normal ([]) (E7 D8b):=fun hs hK=>
 A5 (unroll:=false) (n:=3000) (path:=[false]) (o:=⟨_,_,_,_,_,_,_⟩) V3 (by kernel_rfl) (by kernel_rfl) ho hs hK
theorem bB (l:Nat) (v:Value) (i:Int) (b:Bool) (ho:A7 []):Sg Tryz.prog (⟨K8 (D1 .top [0,1,3,11,21] [(.ci (.val (.func (.yield l) #[] #[]))),.v (.c (.ptr 0 0)),.v (.c (.int .i64 i)),(.ci (.val (.func (.yield l) #[] #[]))),.v (.c (.bool b))]) 22 (.ci (.lit true)),one (.fl [.val v]),24,400,[]⟩) (A8 24 [0,1,3] [(.ci (.val (Value.func (Fn.yield l) (Array.mk ([]:List Value)) (Array.mk ([]:List Value))))),.pt 0 0,(.ii (wrap .i64 (i-1)))] [0] [(eF_ [(.val v)])] 464 [] []) .normal (N8 D8b) (X5 H3y):=fun hs hK=>
 A5 (unroll:=false) (n:=3000) (path:=[]) (o:=⟨_,_,_,_,_,_,_⟩) V3 (by kernel_rfl) (by kernel_rfl) ho hs hK

theorem D0d (v : Value) (w : World) : (method (Tryz.prog.types.size + Made.depth) 77 v "Times").run Tryz.prog w = .ok (105, v) w := by kernel_rfl
theorem D1g (v : Value) (w : World) : (method (Tryz.prog.types.size + Made.depth) 77 v "Plus").run Tryz.prog w = .ok (106, v) w := by kernel_rfl
theorem C9x (v : Value) (w : World) : (method (Tryz.prog.types.size + Made.depth) 77 v "Minus").run Tryz.prog w = .ok (132, v) w := by kernel_rfl
theorem C2l (v : Value) (w : World) : (method (Tryz.prog.types.size + Made.depth) 77 v "IsZero").run Tryz.prog w = .ok (60, v) w := by kernel_rfl
theorem B5l (v : Value) (w : World) : (method (Tryz.prog.types.size + Made.depth) 77 v "Negative").run Tryz.prog w = .ok (135, v) w := by kernel_rfl
theorem B7l (v : Value) (w : World) : (method (Tryz.prog.types.size + Made.depth) 77 v "Inverse").run Tryz.prog w = .ok (142, v) w := by kernel_rfl
def G6f (t : Nat) : Option (List (String × Nat)) := if t = 77 then some [("Times", 105), ("Plus", 106), ("Minus", 132), ("IsZero", 60), ("Negative", 135), ("Inverse", 142)] else none
def qeI:Env:={ qeH with inv:=G6f }
theorem A3l:A6 Tryz.prog qeI:=by
 refine ⟨V3.ty,V3.mixed,V3.fn,V3.mu,V3.inl,V3.ex,fun t l h=>?_⟩
 have h:G6f t=some l:=h;unfold G6f at h;split at h
 ·rename_i ht
  cases h
  subst ht;refine ⟨by kernel_rfl,fun name g hg v args w=>?_⟩
  unfold X9 at hg;split at hg
  ·rename_i hn
   cases hg
   subst hn;simp only[callMethod,Sem.run_bind,run_program,Result.andThen_ok,D0d]
  unfold X9 at hg;split at hg
  ·rename_i hn
   cases hg
   subst hn;simp only[callMethod,Sem.run_bind,run_program,Result.andThen_ok,D1g]
  unfold X9 at hg;split at hg
  ·rename_i hn
   cases hg
   subst hn;simp only[callMethod,Sem.run_bind,run_program,Result.andThen_ok,C9x]
  unfold X9 at hg;split at hg
  ·rename_i hn
   cases hg
   subst hn;simp only[callMethod,Sem.run_bind,run_program,Result.andThen_ok,C2l]
  unfold X9 at hg;split at hg
  ·rename_i hn
   cases hg
   subst hn;simp only[callMethod,Sem.run_bind,run_program,Result.andThen_ok,B5l]
  unfold X9 at hg;split at hg
  ·rename_i hn
   cases hg
   subst hn;simp only[callMethod,Sem.run_bind,run_program,Result.andThen_ok,B7l]
  cases hg
 ·cases h
--@env qeI A3l
def C8v:List KI:=(run qeI false 3000 ((fun (a:Fp) (e:List Int)=>(⟨[.code (B7 Tryz.f143)],.normal,E4 Tryz.f143.ntmps [.v (.a [.ob (.p a)]),.v (.a [.ob (.p 1)]),.v (.c (.sl (.u64 e)))]⟩:Cfg)) default default) []).cfg.k
theorem qp (a:Fp) (e:List Int) (ho:A7 []):Sg Tryz.prog (E4 Tryz.f143.ntmps [.v (.a [.ob (.p a)]),.v (.a [.ob (.p 1)]),.v (.c (.sl (.u64 e)))]) (A8 23 [3,6,7,11] [.pt 16 0,.pt 48 0,.pt 80 0,(.ci (.clo 123 [(128,0)]))] [16,48,80,128] [(eF_ [.ob (.p a)]),(eF_ [(.ob (.p (0:Fp)))]),(eF_ [(.ob (.p (1:Fp)))]),(eF_ [.sl (.u64 e)])] 192 [] []) .normal (C8v) ([.code (B7 Tryz.f143)]):=fun hs hK=>
 A5 (unroll:=false) (n:=3000) (path:=[]) (o:=⟨_,_,_,_,_,_,_⟩) A3l (by kernel_rfl) (by kernel_rfl) ho hs hK
def qpS (a:Fp) (e:List Int) (o:Fp):St:=A8 23 [3,6,7,11] [.pt 16 0,.pt 48 0,.pt 80 0,(.ci (.clo 123 [(128,0)]))] [16,48,80,128] [(eF_ [.ob (.p a)]),(eF_ [(.ob (.p (0:Fp)))]),some (.fl [.ob (.p o)]),(eF_ [.sl (.u64 e)])] 192 [] []
theorem qpA (a:Fp) (e:List Int) (o:Fp) (z:Bool) {ρ:Option Nat} (ho:A7 []) (hs:Sim w0 F0 K ac (U3 (qpS a e o) [(12,.v (.c (.bool z)))]) cX aX) (hK:∀cY aY,Sim w0 F0 K ac (A8 23 [3,6,7,8] [.pt 16 0,.pt 48 0,.pt 80 0,(.ci (.bool z))] [16,48,80,128] [(eF_ [.ob (.p a)]),(eF_ [(.ob (.p (0:Fp)))]),(eF_ [.ob (.p o)]),(eF_ [.sl (.u64 e)])] 208 [[3,6,7,11]] [([.pt 16 0,.pt 48 0,.pt 80 0,(.ci (.clo 123 [(128,0)]))],23)]) cY aY->Wq Tryz.prog Q ([]) ac Exit.normal aY cY.w ρ):Wq Tryz.prog Q ([.code (rfA C8v)]) ac .normal aX cX.w ρ :=
 F8 (unroll:=false) (n:=3000) (path:=[]) (o:=⟨_,_,_,_,_,_,_⟩) A3l (by kernel_rfl) (by kernel_rfl) ho (by kernel_rfl) (by kernel_rfl) hs hK
def qpB (a:Fp) (e:List Int) (o:Fp) (z:Bool):St:=A8 23 [3,6,7,8] [.pt 16 0,.pt 48 0,.pt 80 0,(.ci (.bool z))] [16,48,80,128] [(eF_ [.ob (.p a)]),(eF_ [(.ob (.p (0:Fp)))]),some (.fl [.ob (.p o)]),(eF_ [.sl (.u64 e)])] 208 [[3,6,7,11]] [([.pt 16 0,.pt 48 0,.pt 80 0,(.ci (.clo 123 [(128,0)]))],23)]
theorem qpC (a:Fp) (e:List Int) (o:Fp) (z:Bool) {ρ:Option Nat} (ho:A7 [(z=true)]) (hs:Sim w0 F0 K ac (qpB a e o z) cX aX) (hK:∀cY aY,Sim w0 F0 K ac (A8 23 [6] [.pt 48 0] [16,48,80,128] [(eF_ [.ob (.p a)]),(eF_ [(.ob (.p (0:Fp)))]),(eF_ [(.ob (.p ((o*o)*a)))]),(eF_ [.sl (.u64 e)])] 384 [[3,6,7,11]] [([.pt 16 0,.pt 48 0,.pt 80 0,(.ci (.clo 123 [(128,0)]))],23)]) cY aY->Wq Tryz.prog Q ([]) ac Exit.normal aY cY.w ρ):Wq Tryz.prog Q ([.code (rfB C8v)]) ac .normal aX cX.w ρ :=
 F8 (unroll:=false) (n:=3000) (path:=[true]) (o:=⟨_,_,_,_,_,_,_⟩) A3l (by kernel_rfl) (by kernel_rfl) ho (by kernel_rfl) (by kernel_rfl) hs hK
theorem qpD (a:Fp) (e:List Int) (o:Fp) (z:Bool) {ρ:Option Nat} (ho:A7 [(z=false)]) (hs:Sim w0 F0 K ac (qpB a e o z) cX aX) (hK:∀cY aY,Sim w0 F0 K ac (A8 23 [6] [.pt 48 0] [16,48,80,128] [(eF_ [.ob (.p a)]),(eF_ [(.ob (.p (0:Fp)))]),(eF_ [(.ob (.p (o*o)))]),(eF_ [.sl (.u64 e)])] 304 [[3,6,7,11]] [([.pt 16 0,.pt 48 0,.pt 80 0,(.ci (.clo 123 [(128,0)]))],23)]) cY aY->Wq Tryz.prog Q ([]) ac Exit.normal aY cY.w ρ):Wq Tryz.prog Q ([.code (rfB C8v)]) ac .normal aX cX.w ρ :=
 F8 (unroll:=false) (n:=3000) (path:=[false]) (o:=⟨_,_,_,_,_,_,_⟩) A3l (by kernel_rfl) (by kernel_rfl) ho (by kernel_rfl) (by kernel_rfl) hs hK
theorem qpX (a:Fp) (e:List Int) (o:Fp) (ho:A7 []):Sg Tryz.prog (qpS a e o) (A8 23 [6] [.pt 48 0] [48] [(eF_ [.ob (.p o)])] 224 [] []) .ret ([]) (rfR C8v):=fun hs hK=>
 A5 (unroll:=false) (n:=3000) (path:=[]) (o:=⟨_,_,_,_,_,_,_⟩) A3l (by kernel_rfl) (by kernel_rfl) ho hs hK
def qpE (a:Fp) (e:List Int) (o:Fp):St:=A8 23 [6] [.pt 48 0] [16,48,80,128] [(eF_ [.ob (.p a)]),(eF_ [(.ob (.p (0:Fp)))]),some (.fl [.ob (.p o)]),(eF_ [.sl (.u64 e)])] 384 [[3,6,7,11]] [([.pt 16 0,.pt 48 0,.pt 80 0,(.ci (.clo 123 [(128,0)]))],23)]
def qpZ (o:Fp):St:=A8 23 [6] [.pt 48 0] [48] [some (.fl [.ob (.p o)])] 224 [] []
theorem G1k (o:Fp):I0 qeI Tryz.f143 false 3000 (⟨[],.ret,qpZ o⟩) [] [] []=(some ([],((.v (.a [.ob (.p o)])),[]))):=by kernel_rfl
end
end

section

theorem H6i {m:Nat}:E5 BinOp.and IntKind.u64 (m:Int) (1:Int)=((m % 2:Nat):Int):=by
 show wrap IntKind.u64 ((BitVec.ofInt 64 (m:Int) &&& BitVec.ofInt 64 ((1:Nat):Int)).toNat:Int)=_;rw[BitVec.ofInt_natCast,BitVec.ofInt_natCast,BitVec.toNat_and,BitVec.toNat_ofNat,BitVec.toNat_ofNat];have e:1 % 2 ^ 64=2 ^ 1-1:=by decide
 rw[e,Nat.and_two_pow_sub_one_eq_mod,B6x];omega

theorem F1h {e:List Int} (h:A3a e) {i:Nat} (hi:i<1024):(E5 BinOp.and IntKind.u64 (Int.fdiv (List.getD e (wrap IntKind.i64 (Int.tdiv (i:Int) (64:Int))).toNat (0:Int)) ((2:Int) ^ (Min.min (Int.tmod (i:Int) (64:Int)).toNat 64))) (1:Int) == (1:Int))=decide (M6 e / 2 ^ i % 2=1):=by
 have e1:Int.tdiv (i:Int) (64:Int)=((i / 64:Nat):Int):=Int.tdiv_eq_ediv_of_nonneg (by omega)
 have e2:Int.tmod (i:Int) (64:Int)=((i % 64:Nat):Int):=Int.tmod_eq_emod_of_nonneg (by omega)
 have e3:Min.min (((i % 64:Nat):Int)).toNat 64=i % 64:=by omega
 have hg:=B7w h (i / 64);rw[e1,B9 (by omega) (by omega),Int.toNat_natCast,e2,e3,D2t h i]
 obtain ⟨g,hg2⟩:=Int.eq_ofNat_of_zero_le hg.1;have hp:((2:Int) ^ (i % 64))=((2 ^ (i % 64):Nat):Int):=by simp
 rw[hg2,hp,Int.fdiv_eq_ediv_of_nonneg _ (Int.natCast_nonneg _),<-Int.natCast_ediv,H6i,Int.toNat_natCast];generalize g / 2 ^ (i % 64)=m;by_cases hm:m % 2=1
 ·rw[hm];rfl
 ·have:m % 2=0:=by omega
  rw[this];rfl

def C0u (z:Bool):List Value:=[.bool z]

theorem A6k {x:Ctx} {p:Nat} {e:List Int} {M:List Bool->Nat->Option En} (hl:e.length<=16) (hlim:A3a e) (hM:∀s,M s p=some (.fl [.sl (.u64 e)])) :
  B0s Tryz.prog x 123 [(p,0)] C0u (btL (M6 e) (L0 e e.length) (L0 e e.length)) M:=by
 intro l J W hgrow hread hyield hJ;have hcl:=C0k e e.length;generalize hc:L0 e e.length=c at *;generalize hN:M6 e=N at *;have key:Wq Tryz.prog (bodyPost Tryz.prog Tryz.f123 fun e' W' => (∃v,e' = Ending.returned v)∧J (btL N c c) W') [.code (B7 Tryz.f123)] [] .normal { tmps:=[Value.func (.yield l) #[] #[],.pointer (some ⟨x.β p,0,none⟩)].toArray++Array.replicate 22 undef,defers:=[] } W:=?_
 ·exact calls_of_wp (c:=B7 Tryz.f123) Tryz.func123 rfl ((wpIn_wide (n:=0)).1 key.wp)
 obtain ⟨y,rfl,hm,hcp⟩:=hread [] W hJ;obtain ⟨hr,hβ⟩:=hcp (p,0) List.mem_cons_self;have hr:y.k p = .real:=hr;have hβ:y.β p=x.β p:=hβ;have hargs:H9 (D4 y p) [.v (.c (.val (.func (.yield l) #[] #[]))),.v (.c (.ptr 0 0))] [.func (.yield l) #[] #[],.pointer (some ⟨x.β p,0,none⟩)]:=
  .cons ⟨rfl,0,rfl,rfl⟩ (.cons ⟨rfl,0,rfl,by show _=[Value.pointer (some ⟨y.β p,0,none⟩)];rw[hβ]⟩ .nil)
 obtain ⟨v,hv,hbox⟩:=F6h hm (hM []) hr;have hs:=B2s (nx:=16) (nt:=24) (a:={ tmps:=[Value.func (.yield l) #[] #[],.pointer (some ⟨x.β p,0,none⟩)].toArray++Array.replicate 22 undef,defers:=[] }) hm (hM []) hr hbox rfl (by simp) (A2u hargs 22)
 change Wq Tryz.prog _ _ _ _ _ (D4 y p).w
 refine bt l v trivial hs fun ac cY aY hs1=>?_
 have hmb:Mem (D4 y p) (one (.fl [.val v])):=A8g hm (hM _) hr hbox;obtain ⟨hg1,_,_⟩:=A0m hmb rfl hs1 rfl;have hsl:cY.D (.sl (.u64 e)) [v]:=C2v hg1 (fun b hb=>hs1.base.f0 b hb) hm.fw rfl hv
 have hs2:=hs1.slots (svs' := [.v (.c (.val (.func (.yield l) #[] #[]))),.v (.c (.ptr 0 0)),.v (.c (.sl (.u64 e)))]) ⟨fun _ h=>h,fun _ h=>h,D3h rfl hsl,trivial⟩
 refine bu l v e ⟨hl,hlim,trivial⟩ hs2 fun ac cZ aZ hs3=>?_
 rw[hc,B9 (by omega) (by omega)] at hs3
 let I:{ t:Nat // t<=c } -> List Act->Act->World->Prop:=fun t ac a w=>∃y z v,z.w=w∧y.k p = .real∧y.β p=x.β p∧Mem y (M (btL N c t.1))∧J (btL N c t.1) y.w∧y.D (.sl (.u64 e)) [v]∧Mem (D4 y p) (one (.fl [.val v]))∧Sim y.w y.F (B2m (D4 y p)) ac (buS l v ((c:Int)-1-(t.1:Int))) z a
 refine A4r I (fun t=>c-t.1) (c:=lpC D8b) (k:=lpR D8b) (by kernel_rfl) (fun t ih ac b w hI=>?_) ⟨0,Nat.zero_le _⟩ ⟨y,cZ,v,rfl,hr,hβ,hm,hJ,hv,hmb,by
   show Sim _ _ _ _ (buS l v ((c:Int)-1-((0:Nat):Int))) _ _;rw[show (c:Int)-1-((0:Nat):Int)=(c:Int)-1 from by omega]
   exact hs3.nx _⟩
 obtain ⟨t,ht⟩:=t;obtain ⟨y,z,v,rfl,hr,hβ,hm,hJ,hv,hmb,hs⟩:=hI;simp only at hm hJ hs ih
 by_cases h:t<c
 ·obtain ⟨i,hi⟩:∃i:Nat,i=c-1-t:=⟨_,rfl⟩
  have ei:(c:Int)-1-(t:Int)=(i:Int):=by omega
  rw[ei] at hs;refine bv l v _ ⟨by simp,by decide,trivial⟩ hs fun ac cV aV hs4=>?_
  obtain ⟨hg4,_,_⟩:=A0m hmb rfl hs4 rfl;have hsl4:cV.D (.sl (.u64 e)) [v]:=C2v hg4 (fun b hb=>hs4.base.f0 b hb) hm.fw rfl hv
  have hs5:=hs4.slots (svs' := [.v (.c (.val (.func (.yield l) #[] #[]))),.v (.c (.ptr 0 0)),.v (.c (.int .i64 (i:Int))),.v (.c (.val (.func (.yield l) #[] #[]))),.v (.c (.sl (.u64 e))),.v (.c (.int .i64 (wrap IntKind.i64 (Int.tdiv (i:Int) (64:Int)))))])
   ⟨fun _ h=>h,fun _ h=>h,fun _ h=>h,fun _ h=>h,D3h rfl hsl4,fun _ h=>h,trivial⟩
  have e1:Int.tdiv (i:Int) (64:Int)=((i / 64:Nat):Int):=Int.tdiv_eq_ediv_of_nonneg (by omega)
  have e2:Int.tmod (i:Int) (64:Int)=((i % 64:Nat):Int):=Int.tmod_eq_emod_of_nonneg (by omega)
  refine bw l v e _ ⟨by rw[e1,B9 (by omega) (by omega)];omega,by rw[e1,B9 (by omega) (by omega)];omega,by decide,by rw[e2];omega,trivial⟩ hs5 fun ac cU aU hs6=>?_
  rw[F1h hlim (by omega:i<1024),hN] at hs6
  obtain ⟨hg,hk2,hβ2⟩:=A0m hmb rfl hs6 rfl;have hJ2:=hgrow _ _ _ hJ hg;have e3:btL N c (t+1)=btL N c t++[decide (N / 2 ^ i % 2=1)]:=by rw[C1y,hi]
  obtain ⟨r,hr1⟩:=F9o N c (n:=c) (t:=t+1) h;refine C1r (R:=fun W' => J (btL N c (t+1)) W') (dst:=some 22) (f:=.tmp 11) (args:=[.tmp 21]) (by kernel_rfl) hs6 (l:=l) rfl (vs:=C0u (decide (N / 2 ^ i % 2=1))) ?_ ?_ fun W' hJ3=>?_
  ·have h21:=B6q (hs6.t 21)
   show [aU.tmps.getD 21 undef]=_;rw[h21];rfl
  ·have:=hyield (btL N c t) (decide (N / 2 ^ i % 2=1)) _ hJ2 ⟨r,by rw[hr1,e3,List.append_assoc];rfl⟩
   rw[<-e3] at this;exact this
  ·obtain ⟨y3,rfl,hm3,hc3⟩:=hread _ _ hJ3
   obtain ⟨hr3,hβ3⟩:=hc3 (p,0) List.mem_cons_self;have hr3:y3.k p = .real:=hr3;have hβ3:y3.β p=x.β p:=hβ3;obtain ⟨v3,hv3,hbox3⟩:=F6h hm3 (hM _) hr3;have hmb3:Mem (D4 y3 p) (one (.fl [.val v3])):=A8g hm3 (hM _) hr3 hbox3;have hs7:=D0o (nx' := 400) (dst:=22) (b:=true) hs6 (by kernel_rfl) rfl hm3 (hM _) hr3 hbox3 (by rw[hβ2,hβ];exact hβ3.symm) (by decide)
   change Wq Tryz.prog _ _ _ _ _ (D4 y3 p).w
   refine bB l v3 _ _ trivial hs7 fun ac cT aT hs8=>?_
   have e4:wrap IntKind.i64 ((i:Int)-1)=(c:Int)-1-((t+1:Nat):Int):=by rw[B9 (by omega) (by omega)];omega
   rw[e4] at hs8;exact ih ⟨t+1,by omega⟩ (by show c-(t+1)<c-t;omega) ac aT _ ⟨y3,cT,v3,rfl,hr3,hβ3,hm3,hJ3,hv3,hmb3,hs8.nx _⟩
 ·have e5:t=c:=by omega
  subst e5;refine bX l v _ ⟨by simp;omega,trivial⟩ hs fun ac cV aV hs4=>?_
  obtain ⟨hg,_,_⟩:=A0m hmb rfl hs4 rfl;exact ⟨C7o V3 hs4 rfl rfl rfl (fun v=>⟨⟨v,rfl⟩,hgrow _ _ _ hJ hg⟩) (.inr rfl)⟩

def C9l (z:Bool):List SV:=[.v (.c (.bool z))]

theorem G8i (a:Fp) (l:List Bool) (z:Bool):pw a (pv (l++[z]))=if z=true then pw a (pv l)*pw a (pv l)*a else pw a (pv l)*pw a (pv l):=by
 rw[B6i,Nat.two_mul]
 cases z with
 | true=>
  rw[if_pos rfl,<-O4];rfl
 | false=>
  rw[if_neg (by decide),<-O4]
  rfl

theorem D8r (a:Fp) (e:List Int) (hl:e.length<=16) (hlim:A3a e) :
  FnD Tryz.prog 143 [.v (.a [.ob (.p a)]),.v (.a [.ob (.p 1)]),.v (.c (.sl (.u64 e)))] (.v (.a [.ob (.p (pw a (M6 e)))])) []:=by
 refine Q8 (fn:=Tryz.f143) (c:=B7 Tryz.f143) Tryz.func143 rfl rfl fun x b hk hF hs=>?_
 refine qp a e trivial hs fun ac cY aY hs1=>?_
 obtain ⟨e1,e2⟩:=A1l (k:=C8v) (by kernel_rfl)
 rw[e1];have eP:(rfP C8v).toList=[12]:=by kernel_rfl
 have eG:rfG C8v = .tmp 11:=by kernel_rfl
 refine W5 (ps:=rfP C8v) e2 hs1 (gf:=123) (caps:=[(128,0)]) (A3 Tryz.func123 rfl rfl) (fun pre=>qpS a e (pw a (pv pre))) (fun s=>by rw[eG];rfl) ⟨_,rfl⟩ (btL (M6 e) (L0 e e.length) (L0 e e.length)) C9l C0u
  (fun y z=>.cons ⟨rfl,0,rfl⟩ .nil) (fun z=>by rw[<-Array.length_toList,eP];rfl) (fun pre p hp=>?_) (A6k hl hlim fun s=>rfl) (fun pre z=>qpB a e (pw a (pv pre)) z)
  (fun pre z=>qpE a e (pw a (pv (pre++[z])))) (fun pre z=>⟨_,rfl⟩) (fun pre z hz w1 F1 K1 as1 Q1 l y b hs2 hQ=>?_) (fun pre z hz w1 F1 K1 as1 Q1 l y b hs2 hQ=>?_) fun D y hs2 hD hFD hd=>?_
 ·rw[eP] at hp
  have h23:(qpS a e (pw a (pv pre))).nt=23:=rfl;rw[h23];simp only[List.mem_cons,List.not_mem_nil,or_false] at hp;subst hp;decide
 ·rw[eP] at hs2
  exact qpA a e _ z trivial hs2 fun cZ aZ hs3=>⟨hQ _ _ (hs3.nx _)⟩
 ·rw[G8i] at hQ
  cases z with
  | true=>exact qpC a e _ true ⟨rfl,trivial⟩ hs2 fun cZ aZ hs3=>⟨hQ _ _ (hs3.nx _)⟩
  | false=>exact qpD a e _ false ⟨rfl,trivial⟩ hs2 fun cZ aZ hs3=>⟨hQ _ _ (hs3.nx _)⟩
 ·have hs3:=hs2.marked rfl rfl D
  have hN:M6 e<2 ^ L0 e e.length:=by
   have:=C6k hlim e.length (Nat.le_refl _)
   rwa [List.take_length] at this
  rw[B5u hN _ (Nat.le_refl _),Nat.sub_self,Nat.pow_zero,Nat.div_one] at hs2 hs3;generalize pw a (M6 e)=o at hs2 hs3 ⊢
  refine qpX a e o trivial hs3 fun ac cV aV hs6=>⟨?_⟩
  have hs7:Sim y.w y.F (R1 y W0 (G9 D)) ac (qpZ o) cV aV:=hs6;exact W7 A3l hk hF (G1k o) trivial (fun y v hd=>hd) hs2 hD hFD hd rfl hs7

end

section

theorem D1b (a u:Fp) (e:List Int) (hu:u=1) (hl:e.length<=16) (hlim:A3a e) :
  FnD Tryz.prog 143 [.v (.a [.ob (.p a)]),.v (.a [.ob (.p u)]),.v (.c (.sl (.u64 e)))] (.v (.a [.ob (.p (pw a (M6 e)))])) []:=by
 subst hu;exact D8r a e hl hlim
def A8k:B1
 | [.v (.a [.ob (.p a)]),.v (.a [.ob (.p u)]),.v (.c (.sl (.u64 e)))]=>some ([u=1,e.length<=16,A3a e],.v (.a [.ob (.p (pw a (M6 e)))]),[])
 | _=>none
def F0o:Env:=qeI.set (C7 qeI.fn 143 A8k)
theorem C6y:A6 Tryz.prog F0o:=A4 A3l 143 A8k (A3 Tryz.func143 rfl rfl) fun args o r es h ho=>by
 unfold A8k at h;split at h
 ·cases h;exact D1b _ _ _ ho.1 ho.2.1 ho.2.2.1
 ·cases h
--@env F0o C6y
theorem H3t (a:Fp):B2 F0o Tryz.f142 3000 [.v (.a [.ob (.p a)])] [] [] []=(some ([(0<=(0:Int)),(0<(6:Int)),(0<6),(0<=(0:Int)),(0<(6:Int)),(0<=(1:Int)),((1:Int)<(18446744073709551616:Int)),((Fin.ofNat pN 1)=(1:Fp)),(6<=16),(A3a [(13402431016077863593:Int),(2210141511517208575:Int),(7435674573564081700:Int),(7239337960414712511:Int),(5412103778470702295:Int),(1873798617647539866:Int)])],((.v (.a [(.ob (.p (pw a 4002409555221667393417789825735904156556882819939007885332058136124031650490837864442687629129015664037894272559785)))])),[]))):=by kernel_rfl
/-- 1 divided by it; 0 of 0. -/
def ivP (a:Fp):Fp:=pw a (pN-2)
theorem C9f (x:Fp) (hx:x≠0):x*ivP x=1:=by
 have h:=A5k x hx;have e:pN-1=(pN-2)+1:=by decide
 rw[e] at h;have h2:ivP x*x=1:=h;rw[A9h];exact h2
theorem E6z (a:Fp):FnD Tryz.prog 142 [.v (.a [.ob (.p a)])] (.v (.a [.ob (.p (ivP a))])) []:=by
 have e:4002409555221667393417789825735904156556882819939007885332058136124031650490837864442687629129015664037894272559785=pN-2:=by decide +kernel
 have r:=H3t a;rw[e] at r;refine A2 C6y Tryz.func142 r ⟨by decide,by decide,by decide,by decide,by decide,by decide,by decide,rfl,by decide,?_,trivial⟩
 intro x hx;simp only[List.mem_cons,List.not_mem_nil,or_false] at hx;rcases hx with rfl | rfl | rfl | rfl | rfl | rfl<;>decide
def B8v:B1
 | [.v (.a [.ob (.p a)])]=>some ([],.v (.a [.ob (.p (ivP a))]),[])
 | _=>none
def qeJ:Env:=F0o.set (C7 F0o.fn 142 B8v)
theorem K2:A6 Tryz.prog qeJ:=A4 C6y 142 B8v (A3 Tryz.func142 rfl rfl) fun args o r es h _=>by
 unfold B8v at h;split at h
 ·cases h;exact E6z _
 ·cases h
--@env qeJ K2
theorem twA (x y z:Fp):B2 qeJ Tryz.f81 3000 [.v (.a [.ob (.p x),.ob (.p y),.ob (.p z)])] [true] [] []=(some ([((decide (z=(0:Fp)))=true)],((.v (.a [.ob (.p x),.ob (.p y),.ob (.p z)])),[]))):=by kernel_rfl
theorem twB (x y z:Fp):B2 qeJ Tryz.f81 3000 [.v (.a [.ob (.p x),.ob (.p y),.ob (.p z)])] [false] [] []=(some ([((decide (z=(0:Fp)))=false)],((.v (.a [(.ob (.p ((((((x*x)+(x*x))+(x*x))*(((x*x)+(x*x))+(x*x)))-(((((x+(y*y))*(x+(y*y)))-(x*x))-((y*y)*(y*y)))+((((x+(y*y))*(x+(y*y)))-(x*x))-((y*y)*(y*y)))))-(((((x+(y*y))*(x+(y*y)))-(x*x))-((y*y)*(y*y)))+((((x+(y*y))*(x+(y*y)))-(x*x))-((y*y)*(y*y))))))),(.ob (.p (((((x*x)+(x*x))+(x*x))*((((((x+(y*y))*(x+(y*y)))-(x*x))-((y*y)*(y*y)))+((((x+(y*y))*(x+(y*y)))-(x*x))-((y*y)*(y*y))))-((((((x*x)+(x*x))+(x*x))*(((x*x)+(x*x))+(x*x)))-(((((x+(y*y))*(x+(y*y)))-(x*x))-((y*y)*(y*y)))+((((x+(y*y))*(x+(y*y)))-(x*x))-((y*y)*(y*y)))))-(((((x+(y*y))*(x+(y*y)))-(x*x))-((y*y)*(y*y)))+((((x+(y*y))*(x+(y*y)))-(x*x))-((y*y)*(y*y)))))))-(((((y*y)*(y*y))+((y*y)*(y*y)))+(((y*y)*(y*y))+((y*y)*(y*y))))+((((y*y)*(y*y))+((y*y)*(y*y)))+(((y*y)*(y*y))+((y*y)*(y*y)))))))),(.ob (.p ((y*z)+(y*z))))])),[]))):=by kernel_rfl
theorem ngP (x y z:Fp):B2 qeJ Tryz.f104 3000 [.v (.a [.ob (.p x),.ob (.p y),.ob (.p z)])] [] [] []=(some ([],((.v (.a [.ob (.p x),(.ob (.p ((0:Fp)-y))),.ob (.p z)])),[]))):=by kernel_rfl
end

section

def fp1:Fp:=Fin.ofNat pN 1
def fp4:Fp:=Fin.ofNat pN 4
section
variable {r:Nat} [NeZero r]
theorem D9d (n:Nat):(Fin.ofNat r n).val=n % r:=rfl
end

theorem F7e (x:U6):(inP x).val=x.val % pN:=D9d _
theorem A2k (x:Fp):inP (B8 x)=x:=by
 apply Fin.ext
 rw[F7e,D1c];exact Nat.mod_eq_of_lt x.isLt
section
variable {r:Nat} [NeZero r]
theorem D9v (x:Fin r):∀n,pw (x*x*x) n=pw x n*pw x n*pw x n
 | 0=>by show (1:Fin r)=1*1*1;grind
 | n+1=>by
  show pw (x*x*x) n*(x*x*x)=pw x n*x*(pw x n*x)*(pw x n*x);rw[D9v x n];grind
theorem E7u (x:Fin r) (n:Nat):pw (x*x*x) n=pw x (n+n+n):=by
 rw[O4,O4,D9v]
theorem D8i {a b:Fin r} (h:a+b=0):a=0-b:=by grind
end

theorem D2y:(1:Fp)≠0:=by decide +kernel
theorem D3n:(1:Fp)+1≠0:=by decide +kernel
theorem F9j:fp1=1:=by decide +kernel
theorem H4m:(0:Fp)-fp4=Fin.ofNat pN (pN-4):=by decide +kernel
theorem G8l:pN-1=(pN-1) / 3+(pN-1) / 3+(pN-1) / 3:=by decide +kernel
theorem D3a:(Fin.ofNat pN (pN-4)).val=pN-4:=by decide +kernel
theorem E8a:B1j pN (pN-4) 384 ((pN-1) / 3)≠1:=by decide +kernel
theorem B9e:(pN-1) / 3<2 ^ 384:=by decide +kernel
theorem A3f:((1:Fp):Nat)=1:=by decide +kernel

theorem C5w (c:Fp) (hc:pw c ((pN-1) / 3)≠1) (h0:c≠0) (x:Fp):x*x*x≠c:=by
 intro h;by_cases hx:x=0
 ·apply h0
  rw[<-h,hx];exact mul_zero6
 ·apply hc
  rw[<-h,E7u,<-G8l];exact A5k x hx
where mul_zero6:(0:Fp)*0*0=0:=by decide +kernel

instance fldP:Fld Fp:=
  { (inferInstance:J9 (Fin pN)) with
    inv:=ivP
    mul_inv:=C9f
    one_ne:=D2y }

section
variable {F:Type} [Fld F]
end

end

section

theorem E4c (x y z:Fp):FnD Tryz.prog 81 [.v (.a [.ob (.p x),.ob (.p y),.ob (.p z)])] (.v (.a (I7 (jtw (x,y,z))))) []:=by
 by_cases h:z=0
 ·have e:jtw (x,y,z)=(x,y,z):=if_pos h
  rw[e];exact A2 K2 Tryz.func81 (twA x y z) ⟨decide_eq_true h,trivial⟩
 ·unfold jtw
  rw[if_neg h];exact A2 K2 Tryz.func81 (twB x y z) ⟨decide_eq_false h,trivial⟩
def C9c:B1
 | [.v (.a [.ob (.p x),.ob (.p y),.ob (.p z)])]=>some ([],.v (.a (I7 (jtw (x,y,z)))),[])
 | _=>none
def qsA:Env:=qeJ.set (C7 qeJ.fn 81 C9c)
theorem G7r:A6 Tryz.prog qsA:=A4 K2 81 C9c (A3 Tryz.func81 rfl rfl) fun args o r es h _=>by
 unfold C9c at h;split at h
 ·cases h;exact E4c _ _ _
 ·cases h
def C8f:B1
 | [.v (.a [.ob (.p x),.ob (.p y),.ob (.p z)])]=>some ([],.v (.a (I7 (jng (x,y,z)))),[])
 | _=>none
def qsB:Env:=qsA.set (C7 qsA.fn 104 C8f)
theorem A8o:A6 Tryz.prog qsB:=A4 G7r 104 C8f (A3 Tryz.func104 rfl rfl) fun args o r es h _=>by
 unfold C8f at h;split at h
 ·cases h;exact A2 K2 Tryz.func104 (ngP _ _ _) trivial
 ·cases h
--@env qsB A8o
theorem plA (x y z u v w:Fp):B2 qsB Tryz.f79 3000 [.v (.a [.ob (.p x),.ob (.p y),.ob (.p z)]),.v (.a [.ob (.p u),.ob (.p v),.ob (.p w)])] [true] [] []=(some ([((decide (z=(0:Fp)))=true)],((.v (.a [.ob (.p u),.ob (.p v),.ob (.p w)])),[]))):=by kernel_rfl
theorem plB (x y z u v w:Fp):B2 qsB Tryz.f79 3000 [.v (.a [.ob (.p x),.ob (.p y),.ob (.p z)]),.v (.a [.ob (.p u),.ob (.p v),.ob (.p w)])] [false,true] [] []=(some ([((decide (z=(0:Fp)))=false),((decide (w=(0:Fp)))=true)],((.v (.a [.ob (.p x),.ob (.p y),.ob (.p z)])),[]))):=by kernel_rfl
theorem plC (x y z u v w:Fp):B2 qsB Tryz.f79 3000 [.v (.a [.ob (.p x),.ob (.p y),.ob (.p z)]),.v (.a [.ob (.p u),.ob (.p v),.ob (.p w)])] [false,false,true,true] [] []=(some ([((decide (z=(0:Fp)))=false),((decide (w=(0:Fp)))=false),((decide (((u*(z*z))-(x*(w*w)))=(0:Fp)))=true),((decide ((((v*(z*z))*z)-((y*(w*w))*w))=(0:Fp)))=true)],((.v (.a [(.ob (.p (Prod.fst (jtw (x,(y,z)))))),(.ob (.p (Prod.fst (Prod.snd (jtw (x,(y,z))))))),(.ob (.p (Prod.snd (Prod.snd (jtw (x,(y,z)))))))])),[]))):=by kernel_rfl
theorem plD (x y z u v w:Fp):B2 qsB Tryz.f79 3000 [.v (.a [.ob (.p x),.ob (.p y),.ob (.p z)]),.v (.a [.ob (.p u),.ob (.p v),.ob (.p w)])] [false,false,true,false] [] []=(some ([((decide (z=(0:Fp)))=false),((decide (w=(0:Fp)))=false),((decide (((u*(z*z))-(x*(w*w)))=(0:Fp)))=true),((decide ((((v*(z*z))*z)-((y*(w*w))*w))=(0:Fp)))=false)],((.v (.a [.ob (.p x),.ob (.p y),(.ob (.p (0:Fp)))])),[]))):=by kernel_rfl
theorem plE (x y z u v w:Fp):B2 qsB Tryz.f79 3000 [.v (.a [.ob (.p x),.ob (.p y),.ob (.p z)]),.v (.a [.ob (.p u),.ob (.p v),.ob (.p w)])] [false,false,false] [] []=(some ([((decide (z=(0:Fp)))=false),((decide (w=(0:Fp)))=false),((decide (((u*(z*z))-(x*(w*w)))=(0:Fp)))=false)],((.v (.a [(.ob (.p (((((((v*(z*z))*z)-((y*(w*w))*w))*(((v*(z*z))*z)-((y*(w*w))*w)))-((((u*(z*z))-(x*(w*w)))*((u*(z*z))-(x*(w*w))))*((u*(z*z))-(x*(w*w)))))-((x*(w*w))*(((u*(z*z))-(x*(w*w)))*((u*(z*z))-(x*(w*w))))))-((x*(w*w))*(((u*(z*z))-(x*(w*w)))*((u*(z*z))-(x*(w*w)))))))),(.ob (.p (((((v*(z*z))*z)-((y*(w*w))*w))*(((x*(w*w))*(((u*(z*z))-(x*(w*w)))*((u*(z*z))-(x*(w*w)))))-(((((((v*(z*z))*z)-((y*(w*w))*w))*(((v*(z*z))*z)-((y*(w*w))*w)))-((((u*(z*z))-(x*(w*w)))*((u*(z*z))-(x*(w*w))))*((u*(z*z))-(x*(w*w)))))-((x*(w*w))*(((u*(z*z))-(x*(w*w)))*((u*(z*z))-(x*(w*w))))))-((x*(w*w))*(((u*(z*z))-(x*(w*w)))*((u*(z*z))-(x*(w*w))))))))-(((y*(w*w))*w)*((((u*(z*z))-(x*(w*w)))*((u*(z*z))-(x*(w*w))))*((u*(z*z))-(x*(w*w)))))))),(.ob (.p ((((u*(z*z))-(x*(w*w)))*z)*w)))])),[]))):=by kernel_rfl
end

section

theorem D7k (x y z u v w:Fp):FnD Tryz.prog 79 [.v (.a [.ob (.p x),.ob (.p y),.ob (.p z)]),.v (.a [.ob (.p u),.ob (.p v),.ob (.p w)])] (.v (.a (I7 (jpl (x,y,z) (u,v,w))))) []:=by
 by_cases h:z=0
 ·have e:jpl (x,y,z) (u,v,w)=(u,v,w):=if_pos h
  rw[e];exact A2 A8o Tryz.func79 (plA x y z u v w) ⟨decide_eq_true h,trivial⟩
 ·by_cases h2:w=0
  ·have e:jpl (x,y,z) (u,v,w)=(x,y,z):=(if_neg h).trans (if_pos h2)
   rw[e];exact A2 A8o Tryz.func79 (plB x y z u v w) ⟨decide_eq_false h,decide_eq_true h2,trivial⟩
  ·unfold jpl
   rw[if_neg h,if_neg h2];dsimp only;by_cases h3:u*(z*z)-x*(w*w)=0
   ·rw[if_pos h3]
    by_cases h4:v*(z*z)*z-y*(w*w)*w=0
    ·rw[if_pos h4]
     exact A2 A8o Tryz.func79 (plC x y z u v w) ⟨decide_eq_false h,decide_eq_false h2,decide_eq_true h3,decide_eq_true h4,trivial⟩
    ·rw[if_neg h4]
     exact A2 A8o Tryz.func79 (plD x y z u v w) ⟨decide_eq_false h,decide_eq_false h2,decide_eq_true h3,decide_eq_false h4,trivial⟩
   ·rw[if_neg h3]
    exact A2 A8o Tryz.func79 (plE x y z u v w) ⟨decide_eq_false h,decide_eq_false h2,decide_eq_false h3,trivial⟩

end

section

def C7f:B1
 | [.v (.a [.ob (.p x),.ob (.p y),.ob (.p z)]),.v (.a [.ob (.p u),.ob (.p v),.ob (.p w)])]=>some ([],.v (.a (I7 (jpl (x,y,z) (u,v,w)))),[])
 | _=>none
def qsC:Env:=qsB.set (C7 qsB.fn 79 C7f)
theorem A8p:A6 Tryz.prog qsC:=A4 A8o 79 C7f (A3 Tryz.func79 rfl rfl) fun args o r es h _=>by
 unfold C7f at h;split at h
 ·cases h;exact D7k _ _ _ _ _ _
 ·cases h
def E7z (T:Nat->Option Func) (f:Nat):Option Func:=if f=75 then some Tryz.f75 else T f
def qsD:Env:={ qsC with inl:=E7z qsC.inl }
theorem A2d:A6 Tryz.prog qsD:=by
 refine ⟨A8p.ty,A8p.mixed,A8p.fn,A8p.mu,fun f fn h=>?_,A8p.ex,A8p.inv⟩
 have h:E7z qsC.inl f=some fn:=h;unfold E7z at h;split at h
 ·rename_i hf;cases h;subst hf;exact ⟨Tryz.func75,A3 Tryz.func75 rfl rfl⟩
 exact A8p.inl f fn h
--@env qsD A2d
theorem igA (x y:U6) (i:Bool):B2 qsD Tryz.f40 3000 [.v (.a [.ob (.fp x),.ob (.fp y),.bool i])] [true] [] []=(some ([(i=true),(0<=(1:Int)),((1:Int)<(18446744073709551616:Int)),(0<=(1:Int)),((1:Int)<(18446744073709551616:Int))],((.v (.a [(.ob (.p (Fin.ofNat pN 1))),(.ob (.p (Fin.ofNat pN 1))),(.ob (.p (0:Fp)))])),[]))):=by kernel_rfl
theorem igB (x y:U6) (i:Bool):B2 qsD Tryz.f40 3000 [.v (.a [.ob (.fp x),.ob (.fp y),.bool i])] [false] [] []=(some ([(i=false),(0<=(1:Int)),((1:Int)<(18446744073709551616:Int))],((.v (.a [(.ob (.p (inP x))),(.ob (.p (inP y))),(.ob (.p (Fin.ofNat pN 1)))])),[]))):=by kernel_rfl
theorem ogA (x y z:Fp):B2 qsD Tryz.f39 3000 [.v (.a [.ob (.p x),.ob (.p y),.ob (.p z)])] [true,true] [] []=(some ([((decide (z=(0:Fp)))=true)],((.v (.a [(.ob (.fp (0:U6))),(.ob (.fp (0:U6))),(.lit true)])),[]))):=by kernel_rfl
theorem ogB (x y z:Fp):B2 qsD Tryz.f39 3000 [.v (.a [.ob (.p x),.ob (.p y),.ob (.p z)])] [false,false] [] []=(some ([((decide (z=(0:Fp)))=false)],((.v (.a [(.ob (.fp (B8 (x*((ivP z)*(ivP z)))))),(.ob (.fp (B8 ((y*((ivP z)*(ivP z)))*(ivP z))))),(.lit false)])),[]))):=by kernel_rfl
theorem onA (x y:U6) (i:Bool):B2 qsD Tryz.f57 3000 [.v (.a [.ob (.fp x),.ob (.fp y),.bool i])] [true] [] []=(some ([(i=true)],((.ci (.bool (ite (true=true) (Bool.and (decide (x=(0:U6))) (Bool.and (decide (y=(0:U6))) (i == true))) (Bool.not (Bool.and (decide (x=(0:U6))) (Bool.and (decide (y=(0:U6))) (i == true))))))),[]))):=by kernel_rfl
theorem onB (x y:U6) (i:Bool):B2 qsD Tryz.f57 3000 [.v (.a [.ob (.fp x),.ob (.fp y),.bool i])] [false,true,true] [] []=(some ([(i=false),((ite (true=true) (decide ((B8 (inP x))=x)) (Bool.not (decide ((B8 (inP x))=x))))=true),((ite (true=true) (decide ((B8 (inP y))=y)) (Bool.not (decide ((B8 (inP y))=y))))=true),(0<=(4:Int)),((4:Int)<(18446744073709551616:Int))],((.ci (.bool (ite (true=true) (decide (((inP y)*(inP y))=((((inP x)*(inP x))*(inP x))+(Fin.ofNat pN 4)))) (Bool.not (decide (((inP y)*(inP y))=((((inP x)*(inP x))*(inP x))+(Fin.ofNat pN 4)))))))),[]))):=by kernel_rfl
theorem onC (x y:U6) (i:Bool):B2 qsD Tryz.f57 3000 [.v (.a [.ob (.fp x),.ob (.fp y),.bool i])] [false,true,false] [] []=(some ([(i=false),((ite (true=true) (decide ((B8 (inP x))=x)) (Bool.not (decide ((B8 (inP x))=x))))=true),((ite (true=true) (decide ((B8 (inP y))=y)) (Bool.not (decide ((B8 (inP y))=y))))=false)],((.ci (.lit false)),[]))):=by kernel_rfl
theorem onD (x y:U6) (i:Bool):B2 qsD Tryz.f57 3000 [.v (.a [.ob (.fp x),.ob (.fp y),.bool i])] [false,false,false] [] []=(some ([(i=false),((ite (true=true) (decide ((B8 (inP x))=x)) (Bool.not (decide ((B8 (inP x))=x))))=false)],((.ci (.lit false)),[]))):=by kernel_rfl
end

section

/-- Which points may be. -/
def onG (a:G1D):Bool:=
 if a.inf then decide (a.x=0) && decide (a.y=0)
 else decide (B8 (inP a.x)=a.x) && (decide (B8 (inP a.y)=a.y) && decide (inP a.y*inP a.y=inP a.x*inP a.x*inP a.x+fp4))
def inG (a:G1D):Fp×Fp×Fp:=if a.inf then (fp1,fp1,0) else (inP a.x,inP a.y,fp1)
def Z5 (t:Fp×Fp×Fp):G1D:=
 if t.2.2=0 then ⟨0,0,true⟩ else ⟨B8 (t.1*(ivP t.2.2*ivP t.2.2)),B8 (t.2.1*(ivP t.2.2*ivP t.2.2)*ivP t.2.2),false⟩

theorem A6w {x:Ctx} {i j:It} {b:Bool} {v:Value} (h:B5 x (.v (.a [i,j,.lit b])) v):B5 x (.v (.a [i,j,.bool b])) v:=by
 obtain ⟨cs,e,c1,r1,e1,h1,c2,r2,e2,h2,c3,r3,e3,⟨d,h3⟩,h4⟩:=h;refine ⟨cs,e,c1,r1,e1,h1,c2,r2,e2,h2,c3,r3,e3,⟨d,?_⟩,h4⟩
 cases d<;>exact h3
theorem G1a (x y:U6) (i:Bool):FnD Tryz.prog 40 [.v (.a [.ob (.fp x),.ob (.fp y),.bool i])] (.v (.a (I7 (inG ⟨x,y,i⟩)))) []:=by
 cases i with
 | true=>exact A2 A2d Tryz.func40 (igA x y true) ⟨rfl,by decide,by decide,by decide,by decide,trivial⟩
 | false=>exact A2 A2d Tryz.func40 (igB x y false) ⟨rfl,by decide,by decide,trivial⟩

theorem E8r (x y z:Fp):FnD Tryz.prog 39 [.v (.a [.ob (.p x),.ob (.p y),.ob (.p z)])] (.v (.a (Z5 (x,y,z)).its)) []:=by
 by_cases h:z=0
 ·have e:Z5 (x,y,z)=⟨0,0,true⟩:=if_pos h
  rw[e];exact (A2 A2d Tryz.func39 (ogA x y z) ⟨decide_eq_true h,trivial⟩).conv (fun _ _ h=>h) fun y v hd=>A6w hd
 ·unfold Z5
  rw[if_neg h];exact (A2 A2d Tryz.func39 (ogB x y z) ⟨decide_eq_false h,trivial⟩).conv (fun _ _ h=>h) fun y v hd=>A6w hd

theorem F7b (x y:U6) (i:Bool):FnD Tryz.prog 57 [.v (.a [.ob (.fp x),.ob (.fp y),.bool i])] (.v (.c (.bool (onG ⟨x,y,i⟩)))) []:=by
 cases i with
 | true=>
  have r:=onA x y true;rw[if_pos rfl] at r;have e:onG ⟨x,y,true⟩=((decide (x=0)) && ((decide (y=0)) && (true == true))):=by
   show (decide (x=0) && decide (y=0))=_;simp
  rw[e];exact A2 A2d Tryz.func57 r ⟨rfl,trivial⟩
 | false=>
  by_cases h1:B8 (inP x)=x
  ·by_cases h2:B8 (inP y)=y
   ·have r:=onB x y false
    rw[if_pos rfl,if_pos rfl,if_pos rfl] at r;have e:onG ⟨x,y,false⟩=decide (inP y*inP y=inP x*inP x*inP x+Fin.ofNat pN 4):=by
     show (decide (B8 (inP x)=x) && (decide (B8 (inP y)=y) && decide (inP y*inP y=inP x*inP x*inP x+fp4)))=_;rw[decide_eq_true h1,decide_eq_true h2];rfl
    rw[e];exact A2 A2d Tryz.func57 r ⟨rfl,decide_eq_true h1,decide_eq_true h2,by decide,by decide,trivial⟩
   ·have r:=onC x y false
    rw[if_pos rfl,if_pos rfl] at r;have e:onG ⟨x,y,false⟩=false:=by
     show (decide (B8 (inP x)=x) && (decide (B8 (inP y)=y) && decide (inP y*inP y=inP x*inP x*inP x+fp4)))=_;rw[decide_eq_false h2,Bool.false_and,Bool.and_false]
    rw[e];exact (A2 A2d Tryz.func57 r ⟨rfl,decide_eq_true h1,decide_eq_false h2,trivial⟩).conv (fun _ _ h=>h) fun y v hd=>P5 rfl hd
  ·have r:=onD x y false
   rw[if_pos rfl] at r;have e:onG ⟨x,y,false⟩=false:=by
    show (decide (B8 (inP x)=x) && (decide (B8 (inP y)=y) && decide (inP y*inP y=inP x*inP x*inP x+fp4)))=_;rw[decide_eq_false h1,Bool.false_and]
   rw[e];exact (A2 A2d Tryz.func57 r ⟨rfl,decide_eq_false h1,trivial⟩).conv (fun _ _ h=>h) fun y v hd=>P5 rfl hd
def D0c:B1
 | [.v (.a [.ob (.fp x),.ob (.fp y),.bool i])]=>some ([],.v (.a (I7 (inG ⟨x,y,i⟩))),[])
 | _=>none
def qsE:Env:=qsD.set (C7 qsD.fn 40 D0c)
theorem G7s:A6 Tryz.prog qsE:=A4 A2d 40 D0c (A3 Tryz.func40 rfl rfl) fun args o r es h _=>by
 unfold D0c at h;split at h
 ·cases h;exact G1a _ _ _
 ·cases h
def B9g:B1
 | [.v (.a [.ob (.p x),.ob (.p y),.ob (.p z)])]=>some ([],.v (.a (Z5 (x,y,z)).its),[])
 | _=>none
def qsF:Env:=qsE.set (C7 qsE.fn 39 B9g)
theorem G6y:A6 Tryz.prog qsF:=A4 G7s 39 B9g (A3 Tryz.func39 rfl rfl) fun args o r es h _=>by
 unfold B9g at h;split at h
 ·cases h;exact E8r _ _ _
 ·cases h
def C6p:B1
 | [.v (.a [.ob (.fp x),.ob (.fp y),.bool i])]=>some ([],.v (.c (.bool (onG ⟨x,y,i⟩))),[])
 | _=>none
def qsG:Env:=qsF.set (C7 qsF.fn 57 C6p)
theorem C7x:A6 Tryz.prog qsG:=A4 G6y 57 C6p (A3 Tryz.func57 rfl rfl) fun args o r es h _=>by
 unfold C6p at h;split at h
 ·cases h;exact F7b _ _ _
 ·cases h
--@env qsG C7x
theorem riR (x y:U6) (i:Bool):B2 qsG Tryz.f21 3000 [.v (.a [.ob (.fp x),.ob (.fp y),.bool i])] [] [] []=(some ([],((.ci (.bool (onG (G1D.mk x y i)))),[]))):=by kernel_rfl
theorem geR  : B2 qsG Tryz.f15 3000 [] [] [] []=(some ([(0<=(18103045581585958587:Int)),((18103045581585958587:Int)<(18446744073709551616:Int)),(0<=(7806400890582735599:Int)),((7806400890582735599:Int)<(18446744073709551616:Int)),(0<=(11623291730934869080:Int)),((11623291730934869080:Int)<(18446744073709551616:Int)),(0<=(14080658508445169925:Int)),((14080658508445169925:Int)<(18446744073709551616:Int)),(0<=(2780237799254240271:Int)),((2780237799254240271:Int)<(18446744073709551616:Int)),(0<=(1725392847304644500:Int)),((1725392847304644500:Int)<(18446744073709551616:Int)),(0<=(912580534683953121:Int)),((912580534683953121:Int)<(18446744073709551616:Int)),(0<=(15005087156090211044:Int)),((15005087156090211044:Int)<(18446744073709551616:Int)),(0<=(61670280795567085:Int)),((61670280795567085:Int)<(18446744073709551616:Int)),(0<=(18227722000993880822:Int)),((18227722000993880822:Int)<(18446744073709551616:Int)),(0<=(11573741888802228964:Int)),((11573741888802228964:Int)<(18446744073709551616:Int)),(0<=(627113611842199793:Int)),((627113611842199793:Int)<(18446744073709551616:Int))],((.v (.a [(.ob (.fp (Fin.ofNat B6 3685416753713387016781088315183077757961620795782546409894578378688607592378376318836054947676345821548104185464507))),(.ob (.fp (Fin.ofNat B6 1339506544944476473020471379941921221584933875938349620426543736416511423956333506472724655353366534992391756441569))),(.lit false)])),[]))):=by kernel_rfl
end

section

def H5z:U6:=Fin.ofNat B6 3685416753713387016781088315183077757961620795782546409894578378688607592378376318836054947676345821548104185464507
def H6z:U6:=Fin.ofNat B6 1339506544944476473020471379941921221584933875938349620426543736416511423956333506472724655353366534992391756441569
def M4:G1D:=⟨H5z,H6z,false⟩

theorem G0d:FnD Tryz.prog 15 [] (.v (.a M4.its)) []:=
 (A2 C7x Tryz.func15 geR (by simp [A7])).conv (fun _ _ h=>h) fun y v hd=>A6w hd
end

section

def A8r:B1
 | [.v (.a [.ob (.fp x),.ob (.fp y),.bool i])]=>some ([],.v (.c (.bool (onG ⟨x,y,i⟩))),[])
 | _=>none
def qtA:Env:=qsG.set (C7 qsG.fn 21 A8r)
theorem H0q:A6 Tryz.prog qtA:=A4 C7x 21 A8r (A3 Tryz.func21 rfl rfl) fun args o r es h _=>by
 unfold A8r at h;split at h
 ·cases h;exact A2 C7x Tryz.func21 (riR _ _ _) trivial
 ·cases h
def B7p:B1
 | []=>some ([],.v (.a M4.its),[])
 | _=>none
def qtC:Env:=qtA.set (C7 qtA.fn 15 B7p)
theorem G5e:A6 Tryz.prog qtC:=A4 H0q 15 B7p (A3 Tryz.func15 rfl rfl) fun args o r es h _=>by
 unfold B7p at h;split at h
 ·cases h;exact G0d
 ·cases h
def qtG:Env:=qtC
theorem P3:A6 Tryz.prog qtG:=G5e
theorem neA (a b:U6) (i:Bool):B2 qtG Tryz.f56 3000 [.v (.a [.ob (.fp a),.ob (.fp b),.bool i])] [true] [] []=(some ([((Bool.not (onG (G1D.mk a b i)))=true)],((.t [(.a [(.ob (.fp (0:U6))),(.ob (.fp (0:U6))),(.lit false)]),(.c (.int .i64 (30:Int)))]),[]))):=by kernel_rfl
theorem neB (a b:U6) (i:Bool):B2 qtG Tryz.f56 3000 [.v (.a [.ob (.fp a),.ob (.fp b),.bool i])] [false] [] []=(some ([((Bool.not (onG (G1D.mk a b i)))=false)],((.t [(.a [(.ob (.fp (G1D.x (Z5 (jng (inG (G1D.mk a b i))))))),(.ob (.fp (G1D.y (Z5 (jng (inG (G1D.mk a b i))))))),(.bool (G1D.inf (Z5 (jng (inG (G1D.mk a b i))))))]),(.c (.int .i64 (0:Int)))]),[]))):=by kernel_rfl
end

section

def F6z (a b:G1D):G1D:=Z5 (jpl (inG a) (inG b))
def C5n (a:G1D):G1D:=Z5 (jng (inG a))
def neR (a:G1D):G1D×Int:=if onG a then (C5n a,0) else (g10,30)

theorem A5v {x:Ctx} {i j k:It} {b:Bool} {v:Value} (h:B5 x (.t [.a [i,j,.lit b],.c k]) v):B5 x (.t [.a [i,j,.bool b],.c k]) v:=by
 obtain ⟨vs,e,h1⟩:=h
 cases h1 with | cons d1 ds=>
 exact ⟨_,e,.cons (A6w d1) ds⟩

theorem F5e (a b:U6) (i:Bool):FnD Tryz.prog 56 [.v (.a [.ob (.fp a),.ob (.fp b),.bool i])] (.t [.a (neR ⟨a,b,i⟩).1.its,.c (.int .i64 (neR ⟨a,b,i⟩).2)]) []:=by
 by_cases h1:onG ⟨a,b,i⟩=true
 ·have e:neR ⟨a,b,i⟩=(C5n ⟨a,b,i⟩,0):=by unfold neR;rw[h1];rfl
  rw[e];exact A2 P3 Tryz.func56 (neB a b i) ⟨by rw[h1];rfl,trivial⟩
 ·have h1:onG ⟨a,b,i⟩=false:=Bool.eq_false_iff.2 h1
  have e:neR ⟨a,b,i⟩=(g10,30):=by unfold neR;rw[h1];rfl
  rw[e];exact (A2 P3 Tryz.func56 (neA a b i) ⟨by rw[h1];rfl,trivial⟩).conv (fun _ _ h=>h) fun y v hd=>A5v hd

end

section

theorem H2x (x:Fp):x*x*x+fp4≠0:=by
 intro h;have h:=D8i h;rw[H4m] at h;refine C5w _ (fun e=>?_) (fun e=>?_) x h
 ·have:=congrArg Fin.val e
  rw[A3n _ 384 _ B9e,D3a,A3f] at this;exact E8a this
 ·have:=congrArg Fin.val e
  rw[D3a] at this;revert this
  decide +kernel

theorem cv1:Cv fp4:=⟨D3n,H2x⟩

/-- A point outside, as a point; and back. -/
def pG (a:G1D):Pt Fp:=if a.inf then none else some (inP a.x,inP a.y)
def gP:Pt Fp->G1D
 | none=>⟨0,0,true⟩
 | some p=>⟨B8 p.1,B8 p.2,false⟩

theorem D9u:∀P:Pt Fp,pG (gP P)=P
 | none=>rfl
 | some p=>by
  show some (inP (B8 p.1),inP (B8 p.2))=some p;rw[A2k,A2k]

theorem A0v {a:G1D} (h:onG a=true):gP (pG a)=a∧OnC fp4 (pG a):=by
 obtain ⟨x,y,i⟩:=a
 cases i with
 | true=>
  have h:(decide (x=0) && decide (y=0))=true:=h;rw[Bool.and_eq_true,decide_eq_true_eq,decide_eq_true_eq] at h;obtain ⟨rfl,rfl⟩:=h;exact ⟨rfl,True.intro⟩
 | false=>
  have h:(decide (B8 (inP x)=x) && (decide (B8 (inP y)=y) && decide (inP y*inP y=inP x*inP x*inP x+fp4)))=true:=h;rw[Bool.and_eq_true,Bool.and_eq_true,decide_eq_true_eq,decide_eq_true_eq,decide_eq_true_eq] at h;obtain ⟨h1,h2,h3⟩:=h;refine ⟨?_,h3⟩
  show (⟨B8 (inP x),B8 (inP y),false⟩:G1D)=⟨x,y,false⟩;rw[h1,h2]

theorem B8z:∀{P:Pt Fp},OnC fp4 P->onG (gP P)=true
 | none,_=>by
  show (decide ((0:U6)=0) && decide ((0:U6)=0))=true;rw[decide_eq_true rfl];rfl
 | some p,h=>by
  have h:p.2*p.2=p.1*p.1*p.1+fp4:=h;show (decide (B8 (inP (B8 p.1))=B8 p.1) && (decide (B8 (inP (B8 p.2))=B8 p.2) && decide (inP (B8 p.2)*inP (B8 p.2)=inP (B8 p.1)*inP (B8 p.1)*inP (B8 p.1)+fp4)))=true;rw[A2k,A2k,decide_eq_true rfl,decide_eq_true rfl,decide_eq_true h];rfl

theorem D6k:(1:Fp)*1=1:=by decide +kernel
theorem B3l (a:G1D):Jc (pG a) (inG a):=by
 obtain ⟨x,y,i⟩:=a
 cases i with
 | true=>exact (rfl:(0:Fp)=0)
 | false=>
  show Jc (some (inP x,inP y)) (inP x,inP y,fp1);rw[F9j];refine ⟨D2y,?_,?_⟩
  ·show inP x=inP x*(1*1)
   rw[D6k];exact (A6h _).symm
  ·show inP y=inP y*(1*1*1)
   rw[D6k,D6k];exact (A6h _).symm

theorem B1l {P:Pt Fp} {t:Fp×Fp×Fp} (h:Jc P t):Z5 t=gP P:=by
 rw[<-F1m P t h];unfold Z5 jpt;by_cases hz:t.2.2=0
 ·rw[if_pos hz,if_pos hz];rfl
 ·rw[if_neg hz,if_neg hz];rfl

theorem E1m (a b:G1D):F6z a b=gP (I5 (pG a) (pG b)):=B1l (A3p D3n _ _ _ _ (B3l a) (B3l b))
theorem E0n (a:G1D):C5n a=gP (A7d (pG a)):=B1l (D9i _ _ (B3l a))

theorem G8c (a b:G1D):pG (F6z a b)=I5 (pG a) (pG b):=by rw[E1m,D9u]
theorem G9x (a:G1D):pG (C5n a)=A7d (pG a):=by rw[E0n,D9u]
theorem F4y {a b:G1D} (ha:onG a=true) (hb:onG b=true):onG (F6z a b)=true:=by
 rw[E1m];exact B8z (A0h cv1 _ _ (A0v ha).2 (A0v hb).2)
theorem F1j {a:G1D} (ha:onG a=true):onG (C5n a)=true:=by
 rw[E0n];exact B8z (A1o _ (A0v ha).2)
end

section

def qvA:Env:=qtG
theorem G6t:A6 Tryz.prog qvA:=P3
def B8b:B1
 | [.v (.a [.ob (.fp a),.ob (.fp b),.bool i])]=>some ([],.t [.a (neR ⟨a,b,i⟩).1.its,.c (.int .i64 (neR ⟨a,b,i⟩).2)],[])
 | _=>none
def qvF:Env:=qvA.set (C7 qvA.fn 56 B8b)
theorem Z4:A6 Tryz.prog qvF:=A4 G6t 56 B8b (A3 Tryz.func56 rfl rfl) fun args o r es h _=>by
 unfold B8b at h;split at h
 ·cases h;exact F5e _ _ _
 ·cases h
--@env qvF Z4
end

section

theorem G9p {a:G1D} (ha:onG a=true):neR a=(C5n a,0):=by unfold neR;rw[ha];rfl
end

section
section
variable {w0:World} {F0:Nat->Prop} {K:Kp} {ac:List Act} {Q:Exit->Act->World->Prop} {cX:Ctx} {aX:Act}

--@env qeJ K2
def C2q:List KI:=(run qeJ false 3000 ((fun (l:Nat) (k:U4)=>(⟨[.code (B7 Tryz.f121)],.normal,⟨B3a [.v (.c (.val (.func (.yield l) #[] #[]))),.v (.c (.ptr 0 0))],one (.fl [.ob (.fr k)]),Tryz.f121.ntmps,16,[]⟩⟩:Cfg)) default default) []).cfg.k
theorem dg (l:Nat) (k:U4) (ho:A7 []):Sg Tryz.prog (⟨B3a [.v (.c (.val (.func (.yield l) #[] #[]))),.v (.c (.ptr 0 0))],one (.fl [.ob (.fr k)]),Tryz.f121.ntmps,16,[]⟩) (A8 32 [0,1,3,4] [(.ci (.val (Value.func (Fn.yield l) (Array.mk ([]:List Value)) (Array.mk ([]:List Value))))),.pt 0 0,(.ci (.lit false)),.ii (63:Int)] [0] [(eF_ [.ob (.fr k)])] 48 [] []) .normal (C2q) ([.code (B7 Tryz.f121)]):=fun hs hK=>
 A5 (unroll:=false) (n:=3000) (path:=[]) (o:=⟨_,_,_,_,_,_,_⟩) K2 (by kernel_rfl) (by kernel_rfl) ho hs hK
def dgS (l:Nat) (k:U4) (g:Bool) (i:Int):St:=A8 32 [0,1,3,4] [(.ci (.val (Value.func (Fn.yield l) (Array.mk ([]:List Value)) (Array.mk ([]:List Value))))),.pt 0 0,.v (.c (.bool g)),.v (.c (.int .i64 i))] [0] [(eF_ [.ob (.fr k)])] 48 [] []
def E1t:List KI:=(run qeJ false 3000 ((fun (l:Nat) (k:U4) (g:Bool) (i:Int)=>(⟨E7 C2q,.normal,dgS l k g i⟩:Cfg)) default default default default) [true,true,true]).cfg.k
section
variable (l:Nat) (k:U4) (g:Bool) (i:Int)
theorem dgY (ho:A7 [((decide (i >= (0:Int)))=true),((16:Int)≠(0:Int)),(0<=(wrap .i64 (Int.tdiv i (16:Int)))),((wrap .i64 (Int.tdiv i (16:Int)))<(4:Int)),((0+(((wrap .i64 (Int.tdiv i (16:Int)))).toNat*1))<(Ob.k (.fr k))),((16:Int)≠(0:Int)),(0<=(wrap .i64 ((4:Int)*(Int.tmod i (16:Int))))),(g=true)]):Sg Tryz.prog (dgS l k g i) (A8 32 [0,1,3,4,26,27,28] [(.ci (.val (Value.func (Fn.yield l) (Array.mk ([]:List Value)) (Array.mk ([]:List Value))))),.pt 0 0,(.ci (.lit true)),.ii i,(.ci (.lit true)),(.ci (.val (Value.func (Fn.yield l) (Array.mk ([]:List Value)) (Array.mk ([]:List Value))))),(.ii (wrap .i64 (E5 BinOp.and IntKind.u64 (Int.fdiv (A1 (Ob.n (.fr k)) (0+(((wrap .i64 (Int.tdiv i (16:Int)))).toNat*1))) ((2:Int) ^ (Min.min ((wrap .i64 ((4:Int)*(Int.tmod i (16:Int))))).toNat 64))) (15:Int))))] [0] [(eF_ [.ob (.fr k)])] 416 [] []) .normal (E1t) (E7 C2q):=fun hs hK=>
 A5 (unroll:=false) (n:=3000) (path:=[true,true,true]) (o:=⟨_,_,_,_,_,_,_⟩) K2 (by kernel_rfl) (by kernel_rfl) ho hs hK
theorem dgZ (ho:A7 [((decide (i >= (0:Int)))=true),((16:Int)≠(0:Int)),(0<=(wrap .i64 (Int.tdiv i (16:Int)))),((wrap .i64 (Int.tdiv i (16:Int)))<(4:Int)),((0+(((wrap .i64 (Int.tdiv i (16:Int)))).toNat*1))<(Ob.k (.fr k))),((16:Int)≠(0:Int)),(0<=(wrap .i64 ((4:Int)*(Int.tmod i (16:Int))))),(g=false),((decide ((wrap .i64 (E5 BinOp.and IntKind.u64 (Int.fdiv (A1 (Ob.n (.fr k)) (0+(((wrap .i64 (Int.tdiv i (16:Int)))).toNat*1))) ((2:Int) ^ (Min.min ((wrap .i64 ((4:Int)*(Int.tmod i (16:Int))))).toNat 64))) (15:Int))) > (0:Int)))=true)]):Sg Tryz.prog (dgS l k g i) (A8 32 [0,1,3,4,26,27,28] [(.ci (.val (Value.func (Fn.yield l) (Array.mk ([]:List Value)) (Array.mk ([]:List Value))))),.pt 0 0,(.ci (.bool (decide ((wrap .i64 (E5 BinOp.and IntKind.u64 (Int.fdiv (A1 (Ob.n (.fr k)) (0+(((wrap .i64 (Int.tdiv i (16:Int)))).toNat*1))) ((2:Int) ^ (Min.min ((wrap .i64 ((4:Int)*(Int.tmod i (16:Int))))).toNat 64))) (15:Int))) > (0:Int))))),.ii i,(.ci (.lit true)),(.ci (.val (Value.func (Fn.yield l) (Array.mk ([]:List Value)) (Array.mk ([]:List Value))))),(.ii (wrap .i64 (E5 BinOp.and IntKind.u64 (Int.fdiv (A1 (Ob.n (.fr k)) (0+(((wrap .i64 (Int.tdiv i (16:Int)))).toNat*1))) ((2:Int) ^ (Min.min ((wrap .i64 ((4:Int)*(Int.tmod i (16:Int))))).toNat 64))) (15:Int))))] [0] [(eF_ [.ob (.fr k)])] 416 [] []) .normal (E1t) (E7 C2q):=fun hs hK=>
 A5 (unroll:=false) (n:=3000) (path:=[true,false,true]) (o:=⟨_,_,_,_,_,_,_⟩) K2 (by kernel_rfl) (by kernel_rfl) ho hs hK
theorem dgN (ho:A7 [((decide (i >= (0:Int)))=true),((16:Int)≠(0:Int)),(0<=(wrap .i64 (Int.tdiv i (16:Int)))),((wrap .i64 (Int.tdiv i (16:Int)))<(4:Int)),((0+(((wrap .i64 (Int.tdiv i (16:Int)))).toNat*1))<(Ob.k (.fr k))),((16:Int)≠(0:Int)),(0<=(wrap .i64 ((4:Int)*(Int.tmod i (16:Int))))),(g=false),((decide ((wrap .i64 (E5 BinOp.and IntKind.u64 (Int.fdiv (A1 (Ob.n (.fr k)) (0+(((wrap .i64 (Int.tdiv i (16:Int)))).toNat*1))) ((2:Int) ^ (Min.min ((wrap .i64 ((4:Int)*(Int.tmod i (16:Int))))).toNat 64))) (15:Int))) > (0:Int)))=false)]):Sg Tryz.prog (dgS l k g i) (A8 32 [0,1,3,4] [(.ci (.val (Value.func (Fn.yield l) (Array.mk ([]:List Value)) (Array.mk ([]:List Value))))),.pt 0 0,(.ci (.bool (decide ((wrap .i64 (E5 BinOp.and IntKind.u64 (Int.fdiv (A1 (Ob.n (.fr k)) (0+(((wrap .i64 (Int.tdiv i (16:Int)))).toNat*1))) ((2:Int) ^ (Min.min ((wrap .i64 ((4:Int)*(Int.tmod i (16:Int))))).toNat 64))) (15:Int))) > (0:Int))))),(.ii (wrap .i64 (i-1)))] [0] [(eF_ [.ob (.fr k)])] 512 [] []) .normal (N8 C2q) (E7 C2q):=fun hs hK=>
 A5 (unroll:=false) (n:=3000) (path:=[true,false,false]) (o:=⟨_,_,_,_,_,_,_⟩) K2 (by kernel_rfl) (by kernel_rfl) ho hs hK
theorem dgX (ho:A7 [((decide (i >= (0:Int)))=false)]):Sg Tryz.prog (dgS l k g i) (A8 32 [] [] [0] [(eF_ [.ob (.fr k)])] 80 [] []) .normal ([]) (E7 C2q):=fun hs hK=>
 A5 (unroll:=false) (n:=3000) (path:=[false]) (o:=⟨_,_,_,_,_,_,_⟩) K2 (by kernel_rfl) (by kernel_rfl) ho hs hK
end
theorem dgB (l:Nat) (k:U4) (i d:Int) (ho:A7 []):Sg Tryz.prog (⟨K8 (D1 .top [0,1,3,4,26,27,28] [(.ci (.val (.func (.yield l) #[] #[]))),.pt 0 0,(.ci (.bool true)),.ii i,(.ci (.lit true)),(.ci (.val (.func (.yield l) #[] #[]))),.ii d]) 29 (.ci (.lit true)),one (.fl [.ob (.fr k)]),32,400,[]⟩) (A8 32 [0,1,3,4] [(.ci (.val (Value.func (Fn.yield l) (Array.mk ([]:List Value)) (Array.mk ([]:List Value))))),.pt 0 0,(.ci (.bool true)),(.ii (wrap .i64 (i-1)))] [0] [(eF_ [.ob (.fr k)])] 480 [] []) .normal (N8 C2q) (X5 E1t):=fun hs hK=>
 A5 (unroll:=false) (n:=3000) (path:=[]) (o:=⟨_,_,_,_,_,_,_⟩) K2 (by kernel_rfl) (by kernel_rfl) ho hs hK
end
end

section

def E2l (d:Nat):List Value:=[.int .i64 (d:Int)]
def F5j (d:Nat):List SV:=[.v (.c (.int .i64 (d:Int)))]

theorem B4y {x:Ctx} {p:Nat} {k:U4} {M:List Nat->Nat->Option En} (hM:∀s,M s p=some (.fl [.ob (.fr k)])) :
  B0s Tryz.prog x 121 [(p,0)] E2l (dgT k.val 64) M:=by
 intro l J W hgrow hread hyield hJ;have key:Wq Tryz.prog (bodyPost Tryz.prog Tryz.f121 fun e' W' => (∃v,e' = Ending.returned v)∧J (dgT k.val 64) W') [.code (B7 Tryz.f121)] [] .normal { tmps:=[Value.func (.yield l) #[] #[],.pointer (some ⟨x.β p,0,none⟩)].toArray++Array.replicate 30 undef,defers:=[] } W:=?_
 ·exact calls_of_wp (c:=B7 Tryz.f121) Tryz.func121 rfl ((wpIn_wide (n:=0)).1 key.wp)
 obtain ⟨y,rfl,hm,hcp⟩:=hread [] W hJ;obtain ⟨hr,hβ⟩:=hcp (p,0) List.mem_cons_self;have hr:y.k p = .real:=hr;have hβ:y.β p=x.β p:=hβ;have hargs:H9 (D4 y p) [.v (.c (.val (.func (.yield l) #[] #[]))),.v (.c (.ptr 0 0))] [.func (.yield l) #[] #[],.pointer (some ⟨x.β p,0,none⟩)]:=
  .cons ⟨rfl,0,rfl,rfl⟩ (.cons ⟨rfl,0,rfl,by show _=[Value.pointer (some ⟨y.β p,0,none⟩)];rw[hβ]⟩ .nil)
 have hpure:∀y:Ctx,∀(cs:Array Value) ty,y.w.heap[y.β p]? = some (.cells cs ty (0,0))->C4 y (.fl [.ob (.fr k)]) cs.toList->C4 (D4 y p) (.fl [.ob (.fr k)]) cs.toList:=fun y cs ty _ h=>B5x rfl h
 have hs:=B2s (nx:=16) (nt:=32) (a:={ tmps:=[Value.func (.yield l) #[] #[],.pointer (some ⟨x.β p,0,none⟩)].toArray++Array.replicate 30 undef,defers:=[] }) hm (hM []) hr (hpure y) rfl (by simp) (A2u hargs 30)
 change Wq Tryz.prog _ _ _ _ _ (D4 y p).w
 refine dg l k trivial hs fun ac cY aY hs1=>?_
 have hmb:Mem (D4 y p) (one (.fl [.ob (.fr k)])):=A8g hm (hM _) hr (hpure y);have hs2:=hs1.slots (svs' := [.v (.c (.val (.func (.yield l) #[] #[]))),.v (.c (.ptr 0 0)),.v (.c (.bool false)),.v (.c (.int .i64 63))]) ⟨fun _ h=>h,fun _ h=>h,fun _ h=>P5 rfl h,fun _ h=>h,trivial⟩
 let I:{ t:Nat // t<=64 } -> List Act->Act->World->Prop:=fun t ac a w=>∃y z,z.w=w∧y.k p = .real∧y.β p=x.β p∧Mem y (M (dgT k.val t.1))∧J (dgT k.val t.1) y.w∧Mem (D4 y p) (one (.fl [.ob (.fr k)]))∧Sim y.w y.F (B2m (D4 y p)) ac (dgS l k (!(dgT k.val t.1).isEmpty) ((63:Int)-(t.1:Int))) z a
 refine A4r I (fun t=>64-t) (c:=lpC C2q) (k:=lpR C2q) (by kernel_rfl) (fun t ih ac b w hI=>?_) ⟨0,Nat.zero_le _⟩ ⟨y,cY,rfl,hr,hβ,hm,hJ,hmb,hs2.nx _⟩
 obtain ⟨t,ht⟩:=t;obtain ⟨y,z,rfl,hr,hβ,hm,hJ,hmb,hs⟩:=hI;simp only at hm hJ hs ih
 by_cases h:t<64
 ·obtain ⟨i,hi⟩:∃i:Nat,i=63-t:=⟨_,rfl⟩
  have ei:(63:Int)-(t:Int)=(i:Int):=by omega
  have hi64:i<64:=by omega
  rw[ei] at hs;have hdig:=E9u k hi64;have hpl:=C4l hi64;have ho1:decide ((i:Int) >= 0)=true:=decide_eq_true (by omega)
  have ho2:(0:Int)<=wrap IntKind.i64 (Int.tdiv (i:Int) 16):=by rw[hpl];omega
  have ho3:wrap IntKind.i64 (Int.tdiv (i:Int) 16)<4:=by rw[hpl];omega
  have ho4:0+(wrap IntKind.i64 (Int.tdiv (i:Int) 16)).toNat*1<Ob.k (Ob.fr k):=by rw[hpl];show _<4;omega
  have ho5:=C3s i;have e4:wrap IntKind.i64 ((i:Int)-1)=(63:Int)-((t+1:Nat):Int):=by rw[B9 (by omega) (by omega)];omega
  obtain ⟨d,hd⟩:∃d,k.val / 16 ^ i % 16=d:=⟨_,rfl⟩
  rw[hd] at hdig;have hd' : k.val / 16 ^ (63-t) % 16=d:=by rw[<-hi];exact hd
  -- what is handed on
  have give:∀(ac:List Act) (cU:Ctx) (aU:Act),dgT k.val (t+1)=dgT k.val t++[d]->Sim y.w y.F (B2m (D4 y p)) ac (A8 32 [0,1,3,4,26,27,28] [.v (.c (.val (.func (.yield l) #[] #[]))),.v (.c (.ptr 0 0)),.v (.c (.bool true)),.v (.c (.int .i64 (i:Int))),.v (.c (.lit true)),.v (.c (.val (.func (.yield l) #[] #[]))),.v (.c (.int .i64 (d:Int)))] [0] [some (.fl [.ob (.fr k)])] 416 [] []) cU aU ->
    Wq Tryz.prog (bodyPost Tryz.prog Tryz.f121 fun e' W' => (∃v,e' = Ending.returned v)∧J (dgT k.val 64) W') E1t ac .normal aU cU.w:=by
   intro ac cU aU e3 hs6;obtain ⟨hg,hk2,hβ2⟩:=A0m hmb rfl hs6 rfl;have hJ2:=hgrow _ _ _ hJ hg;obtain ⟨r,hr1⟩:=E2c k.val (m:=64) (t:=t+1) h;refine C1r (R:=fun W' => J (dgT k.val (t+1)) W') (dst:=some 29) (f:=.tmp 27) (args:=[.tmp 28]) (by kernel_rfl) hs6 (l:=l) rfl (vs:=E2l d) ?_ ?_ fun W' hJ3=>?_
   ·have h21:=S5 (hs6.t 28)
    show [aU.tmps.getD 28 undef]=_;rw[h21];rfl
   ·have:=hyield (dgT k.val t) d _ hJ2 ⟨r,by rw[hr1,e3,List.append_assoc];rfl⟩
    rw[<-e3] at this;exact this
   ·obtain ⟨y3,rfl,hm3,hc3⟩:=hread _ _ hJ3
    obtain ⟨hr3,hβ3⟩:=hc3 (p,0) List.mem_cons_self;have hr3:y3.k p = .real:=hr3;have hβ3:y3.β p=x.β p:=hβ3;have hmb3:Mem (D4 y3 p) (one (.fl [.ob (.fr k)])):=A8g hm3 (hM _) hr3 (hpure y3);have hs7:=D0o (nx' := 400) (dst:=29) (b:=true) hs6 (by kernel_rfl) rfl hm3 (hM _) hr3 (hpure y3) (by rw[hβ2,hβ];exact hβ3.symm) (by decide)
    change Wq Tryz.prog _ _ _ _ _ (D4 y3 p).w
    refine dgB l k _ _ trivial hs7 fun ac cT aT hs8=>?_
    rw[e4] at hs8;have hne:(!(dgT k.val (t+1)).isEmpty)=true:=by rw[e3];simp
    refine ih ⟨t+1,by omega⟩ (by show 64-(t+1)<64-t;omega) ac aT _ ⟨y3,cT,rfl,hr3,hβ3,hm3,hJ3,hmb3,?_⟩
    show Sim _ _ _ _ (dgS l k (!(dgT k.val (t+1)).isEmpty) _) _ _;rw[hne];exact hs8.nx _
  by_cases hg:(dgT k.val t).isEmpty=true
  ·rw[hg] at hs
   by_cases hz:d=0
   ·have e3:dgT k.val (t+1)=[]:=B0k hg (by rw[hd',hz])
    refine dgN l k _ _ ⟨ho1,by decide,ho2,ho3,ho4,by decide,ho5,rfl,by rw[hdig,hz];rfl,trivial⟩ hs fun ac cT aT hs8=>?_
    rw[e4,hdig,hz] at hs8;have e5:dgT k.val (t+1)=dgT k.val t:=by rw[e3,List.isEmpty_iff.1 hg]
    refine ih ⟨t+1,by omega⟩ (by show 64-(t+1)<64-t;omega) ac aT _ ⟨y,cT,rfl,hr,hβ,?_,?_,hmb,?_⟩
    ·show Mem y (M (dgT k.val (t+1)))
     rw[e5];exact hm
    ·show J (dgT k.val (t+1)) y.w
     rw[e5];exact hJ
    ·show Sim _ _ _ _ (dgS l k (!(dgT k.val (t+1)).isEmpty) _) _ _
     rw[e3];exact hs8.nx _
   ·have e3:dgT k.val (t+1)=dgT k.val t++[d]:=by
     rw[<-hd'];exact B7t fun hc=>hz (by rw[<-hd'];exact hc.2)
    have hp0:decide ((d:Int) > 0)=true:=decide_eq_true (by omega)
    refine dgZ l k _ _ ⟨ho1,by decide,ho2,ho3,ho4,by decide,ho5,rfl,by rw[hdig];exact hp0,trivial⟩ hs fun ac cU aU hs6=>?_
    rw[hdig,hp0] at hs6;exact give ac cU aU e3 (hs6.nx _)
  ·have hg:(dgT k.val t).isEmpty=false:=Bool.eq_false_iff.2 hg
   rw[hg] at hs;have e3:dgT k.val (t+1)=dgT k.val t++[d]:=by
    rw[<-hd'];exact B7t fun hc=>by rw[hg] at hc;exact absurd hc.1 (by decide)
   refine dgY l k _ _ ⟨ho1,by decide,ho2,ho3,ho4,by decide,ho5,rfl,trivial⟩ hs fun ac cU aU hs6=>?_
   rw[hdig] at hs6;have hs6' := hs6.slots (svs' := [.v (.c (.val (.func (.yield l) #[] #[]))),.v (.c (.ptr 0 0)),.v (.c (.bool true)),.v (.c (.int .i64 (i:Int))),.v (.c (.lit true)),.v (.c (.val (.func (.yield l) #[] #[]))),.v (.c (.int .i64 (d:Int)))])
    ⟨fun _ h=>h,fun _ h=>h,fun _ h=>P5 rfl h,fun _ h=>h,fun _ h=>h,fun _ h=>h,fun _ h=>h,trivial⟩
   exact give ac cU aU e3 (hs6'.nx _)
 ·have e5:t=64:=by omega
  subst e5;refine dgX l k _ _ ⟨by decide,trivial⟩ hs fun ac cV aV hs4=>?_
  obtain ⟨hg,_,_⟩:=A0m hmb rfl hs4 rfl;exact ⟨C7o K2 hs4 rfl rfl rfl (fun v=>⟨⟨v,rfl⟩,hgrow _ _ _ hJ hg⟩) (.inr rfl)⟩

end

section
section
variable {w0:World} {F0:Nat->Prop} {K:Kp} {ac:List Act} {Q:Exit->Act->World->Prop} {cX:Ctx} {aX:Act}

--@env qvF Z4
def D8k:List KI:=(run qvF false 3000 ((fun (x y z:Fp) (k:U4)=>(⟨[.code (B7 Tryz.f41)],.normal,E4 Tryz.f41.ntmps [.v (.a [.ob (.p x),.ob (.p y),.ob (.p z)]),.v (.a [.ob (.fr k)])]⟩:Cfg)) default default default default) []).cfg.k
theorem my (x y z:Fp) (k:U4) (ho:A7 [(0<=(0:Int)),(0<(16:Int))]):Sg Tryz.prog (E4 Tryz.f41.ntmps [.v (.a [.ob (.p x),.ob (.p y),.ob (.p z)]),.v (.a [.ob (.fr k)])]) (A8 43 [2,3,4,5,6] [.pt 16 0,.pt 32 0,.pt 48 0,.pt 64 0,.ii (1:Int)] [16,32,48,64] [(eF_ [.ob (.p x),.ob (.p y),.ob (.p z)]),(eF_ [.ob (.fr k)]),(eF_ [(.ob (.p (0:Fp))),(.ob (.p (0:Fp))),(.ob (.p (0:Fp)))]),(eF_ [.ob (.p x),.ob (.p y),(.ob (.p (0:Fp))),(.ob (.p (0:Fp))),(.ob (.p (0:Fp))),(.ob (.p (0:Fp))),(.ob (.p (0:Fp))),(.ob (.p (0:Fp))),(.ob (.p (0:Fp))),(.ob (.p (0:Fp))),(.ob (.p (0:Fp))),(.ob (.p (0:Fp))),(.ob (.p (0:Fp))),(.ob (.p (0:Fp))),(.ob (.p (0:Fp))),(.ob (.p (0:Fp))),(.ob (.p (0:Fp))),(.ob (.p (0:Fp))),(.ob (.p (0:Fp))),(.ob (.p (0:Fp))),(.ob (.p (0:Fp))),(.ob (.p (0:Fp))),(.ob (.p (0:Fp))),(.ob (.p (0:Fp))),(.ob (.p (0:Fp))),(.ob (.p (0:Fp))),(.ob (.p (0:Fp))),(.ob (.p (0:Fp))),(.ob (.p (0:Fp))),(.ob (.p (0:Fp))),(.ob (.p (0:Fp))),(.ob (.p (0:Fp))),(.ob (.p (0:Fp))),(.ob (.p (0:Fp))),(.ob (.p (0:Fp))),(.ob (.p (0:Fp))),(.ob (.p (0:Fp))),(.ob (.p (0:Fp))),(.ob (.p (0:Fp))),(.ob (.p (0:Fp))),(.ob (.p (0:Fp))),(.ob (.p (0:Fp))),(.ob (.p (0:Fp))),(.ob (.p (0:Fp))),(.ob (.p (0:Fp))),(.ob (.p (0:Fp))),(.ob (.p (0:Fp))),(.ob (.p (0:Fp)))])] 208 [] []) .normal (D8k) ([.code (B7 Tryz.f41)]):=fun hs hK=>
 A5 (unroll:=false) (n:=3000) (path:=[]) (o:=⟨_,_,_,_,_,_,_⟩) Z4 (by kernel_rfl) (by kernel_rfl) ho hs hK
def myS (x y z:Fp) (k:U4) (L:List (Fp×Fp×Fp)) (i:Int):St:=A8 43 [2,3,4,5,6] [.pt 16 0,.pt 32 0,.pt 48 0,.pt 64 0,.v (.c (.int .i64 i))] [16,32,48,64] [(eF_ [.ob (.p x),.ob (.p y),.ob (.p z)]),(eF_ [.ob (.fr k)]),(eF_ [(.ob (.p (0:Fp))),(.ob (.p (0:Fp))),(.ob (.p (0:Fp)))]),some (.sq (.pt L))] 208 [] []
theorem myA (x y z:Fp) (k:U4) (L:List (Fp×Fp×Fp)) (i:Int) (ho:A7 [((decide (i<(16:Int)))=true),(0<=(wrap .i64 (i-1))),((wrap .i64 (i-1))<(16:Int)),(0=0),(((wrap .i64 (i-1))).toNat<L.length),(0<=i),(i<(16:Int)),(0=0),((i).toNat<L.length)]):Sg Tryz.prog (myS x y z k L i) (A8 43 [2,3,4,5,6] [.pt 16 0,.pt 32 0,.pt 48 0,.pt 64 0,(.ii (wrap .i64 (i+1)))] [16,32,48,64] [(eF_ [.ob (.p x),.ob (.p y),.ob (.p z)]),(eF_ [.ob (.fr k)]),(eF_ [(.ob (.p (0:Fp))),(.ob (.p (0:Fp))),(.ob (.p (0:Fp)))]),(eQ_ (Sq.pt (List.set L (i).toNat (jpl (List.getD L ((wrap .i64 (i-1))).toNat pt0) (x,(y,z))))))] 432 [] []) .normal (N8 D8k) (E7 D8k):=fun hs hK=>
 A5 (unroll:=false) (n:=3000) (path:=[true]) (o:=⟨_,_,_,_,_,_,_⟩) Z4 (by kernel_rfl) (by kernel_rfl) ho hs hK
def B0x:List KI:=(run qvF false 3000 ((fun (x y z:Fp) (k:U4) (L:List (Fp×Fp×Fp)) (i:Int)=>(⟨E7 D8k,.normal,myS x y z k L i⟩:Cfg)) default default default default default default) [false]).cfg.k
theorem myB (x y z:Fp) (k:U4) (L:List (Fp×Fp×Fp)) (i:Int) (ho:A7 [((decide (i<(16:Int)))=false),(0<=(0:Int)),(0<(16:Int)),(0=0),(0<L.length)]):Sg Tryz.prog (myS x y z k L i) (A8 43 [4,5,7,30] [.pt 48 0,.pt 64 0,.pt 272 0,(.ci (.clo 121 [(320,0)]))] [48,64,272,320] [(eF_ [(.ob (.p (0:Fp))),(.ob (.p (0:Fp))),(.ob (.p (0:Fp)))]),(eQ_ (Sq.pt L)),(eF_ [(.ob (.p (Prod.fst (List.getD L 0 pt0)))),(.ob (.p (Prod.fst (Prod.snd (List.getD L 0 pt0))))),(.ob (.p (Prod.snd (Prod.snd (List.getD L 0 pt0)))))]),(eF_ [.ob (.fr k)])] 384 [] []) .normal (B0x) (E7 D8k):=fun hs hK=>
 A5 (unroll:=false) (n:=3000) (path:=[false]) (o:=⟨_,_,_,_,_,_,_⟩) Z4 (by kernel_rfl) (by kernel_rfl) ho hs hK
def myR (k:U4) (L:List (Fp×Fp×Fp)) (o:Fp×Fp×Fp):St:=A8 43 [4,5,7,30] [.pt 48 0,.pt 64 0,.pt 272 0,(.ci (.clo 121 [(320,0)]))] [48,64,272,320] [(eF_ [(.ob (.p (0:Fp))),(.ob (.p (0:Fp))),(.ob (.p (0:Fp)))]),(eQ_ (Sq.pt L)),some (.fl [.ob (.p o.1),.ob (.p o.2.1),.ob (.p o.2.2)]),(eF_ [.ob (.fr k)])] 384 [] []
theorem mrA (k:U4) (L:List (Fp×Fp×Fp)) (o:Fp×Fp×Fp) (d:Int) {ρ:Option Nat} (ho:A7 []) (hs:Sim w0 F0 K ac (U3 (myR k L o) [(31,.v (.c (.int .i64 d)))]) cX aX) (hK:∀cY aY,Sim w0 F0 K ac (A8 43 [4,5,7,8] [.pt 48 0,.pt 64 0,.pt 272 0,.ii d] [48,64,272,320] [(eF_ [(.ob (.p (0:Fp))),(.ob (.p (0:Fp))),(.ob (.p (0:Fp)))]),(eQ_ (Sq.pt L)),(eF_ [(.ob (.p (Prod.fst o))),(.ob (.p (Prod.fst (Prod.snd o)))),(.ob (.p (Prod.snd (Prod.snd o))))]),(eF_ [.ob (.fr k)])] 400 [[4,5,7,30]] [([.pt 48 0,.pt 64 0,.pt 272 0,(.ci (.clo 121 [(320,0)]))],43)]) cY aY->Wq Tryz.prog Q ([]) ac Exit.normal aY cY.w ρ):Wq Tryz.prog Q ([.code (rfA B0x)]) ac .normal aX cX.w ρ :=
 F8 (unroll:=false) (n:=3000) (path:=[]) (o:=⟨_,_,_,_,_,_,_⟩) Z4 (by kernel_rfl) (by kernel_rfl) ho (by kernel_rfl) (by kernel_rfl) hs hK
def mrB (k:U4) (L:List (Fp×Fp×Fp)) (o:Fp×Fp×Fp) (d:Int):St:=A8 43 [4,5,7,8] [.pt 48 0,.pt 64 0,.pt 272 0,.ii d] [48,64,272,320] [(eF_ [(.ob (.p (0:Fp))),(.ob (.p (0:Fp))),(.ob (.p (0:Fp)))]),(eQ_ (Sq.pt L)),some (.fl [.ob (.p o.1),.ob (.p o.2.1),.ob (.p o.2.2)]),(eF_ [.ob (.fr k)])] 400 [[4,5,7,30]] [([.pt 48 0,.pt 64 0,.pt 272 0,(.ci (.clo 121 [(320,0)]))],43)]
def C3x:List KI:=(run qvF false 3000 ((fun (k:U4) (L:List (Fp×Fp×Fp)) (o:Fp×Fp×Fp) (d:Int)=>(⟨[.code (rfB B0x)],.normal,mrB k L o d⟩:Cfg)) default default default default) []).cfg.k
theorem mrC (k:U4) (L:List (Fp×Fp×Fp)) (o:Fp×Fp×Fp) (d:Int) {ρ:Option Nat} (ho:A7 []) (hs:Sim w0 F0 K ac (mrB k L o d) cX aX) (hK:∀cY aY,Sim w0 F0 K ac (A8 43 [4,5,7,8,32] [.pt 48 0,.pt 64 0,.pt 272 0,.ii d,.ii (0:Int)] [48,64,272,320] [(eF_ [(.ob (.p (0:Fp))),(.ob (.p (0:Fp))),(.ob (.p (0:Fp)))]),(eQ_ (Sq.pt L)),(eF_ [(.ob (.p (Prod.fst o))),(.ob (.p (Prod.fst (Prod.snd o)))),(.ob (.p (Prod.snd (Prod.snd o))))]),(eF_ [.ob (.fr k)])] 416 [[4,5,7,30]] [([.pt 48 0,.pt 64 0,.pt 272 0,(.ci (.clo 121 [(320,0)]))],43)]) cY aY->Wq Tryz.prog Q (C3x) ac Exit.normal aY cY.w ρ):Wq Tryz.prog Q ([.code (rfB B0x)]) ac .normal aX cX.w ρ :=
 F8 (unroll:=false) (n:=3000) (path:=[]) (o:=⟨_,_,_,_,_,_,_⟩) Z4 (by kernel_rfl) (by kernel_rfl) ho (by kernel_rfl) (by kernel_rfl) hs hK
def mrS (k:U4) (L:List (Fp×Fp×Fp)) (o:Fp×Fp×Fp) (d j:Int):St:=A8 43 [4,5,7,8,32] [.pt 48 0,.pt 64 0,.pt 272 0,.ii d,.v (.c (.int .i64 j))] [48,64,272,320] [(eF_ [(.ob (.p (0:Fp))),(.ob (.p (0:Fp))),(.ob (.p (0:Fp)))]),(eQ_ (Sq.pt L)),some (.fl [.ob (.p o.1),.ob (.p o.2.1),.ob (.p o.2.2)]),(eF_ [.ob (.fr k)])] 416 [[4,5,7,30]] [([.pt 48 0,.pt 64 0,.pt 272 0,(.ci (.clo 121 [(320,0)]))],43)]
theorem mrD (k:U4) (L:List (Fp×Fp×Fp)) (o:Fp×Fp×Fp) (d j:Int) {ρ:Option Nat} (ho:A7 [((decide (j<(4:Int)))=true)]) (hs:Sim w0 F0 K ac (mrS k L o d j) cX aX) (hK:∀cY aY,Sim w0 F0 K ac (A8 43 [4,5,7,8,32] [.pt 48 0,.pt 64 0,.pt 272 0,.ii d,(.ii (wrap .i64 (j+1)))] [48,64,272,320] [(eF_ [(.ob (.p (0:Fp))),(.ob (.p (0:Fp))),(.ob (.p (0:Fp)))]),(eQ_ (Sq.pt L)),(eF_ [(.ob (.p (Prod.fst (jtw o)))),(.ob (.p (Prod.fst (Prod.snd (jtw o))))),(.ob (.p (Prod.snd (Prod.snd (jtw o)))))]),(eF_ [.ob (.fr k)])] 512 [[4,5,7,30]] [([.pt 48 0,.pt 64 0,.pt 272 0,(.ci (.clo 121 [(320,0)]))],43)]) cY aY->Wq Tryz.prog Q (N8 C3x) ac Exit.normal aY cY.w ρ):Wq Tryz.prog Q (E7 C3x) ac .normal aX cX.w ρ :=
 F8 (unroll:=false) (n:=3000) (path:=[true]) (o:=⟨_,_,_,_,_,_,_⟩) Z4 (by kernel_rfl) (by kernel_rfl) ho (by kernel_rfl) (by kernel_rfl) hs hK
theorem mrE (k:U4) (L:List (Fp×Fp×Fp)) (o:Fp×Fp×Fp) (d j:Int) {ρ:Option Nat} (ho:A7 [((decide (j<(4:Int)))=false),(0<=d),(d<(16:Int)),(0=0),((d).toNat<L.length)]) (hs:Sim w0 F0 K ac (mrS k L o d j) cX aX) (hK:∀cY aY,Sim w0 F0 K ac (A8 43 [4] [.pt 48 0] [48,64,272,320] [(eF_ [(.ob (.p (0:Fp))),(.ob (.p (0:Fp))),(.ob (.p (0:Fp)))]),(eQ_ (Sq.pt L)),(eF_ [(.ob (.p (Prod.fst (jpl o (List.getD L (d).toNat pt0))))),(.ob (.p (Prod.fst (Prod.snd (jpl o (List.getD L (d).toNat pt0)))))),(.ob (.p (Prod.snd (Prod.snd (jpl o (List.getD L (d).toNat pt0))))))]),(eF_ [.ob (.fr k)])] 528 [[4,5,7,30]] [([.pt 48 0,.pt 64 0,.pt 272 0,(.ci (.clo 121 [(320,0)]))],43)]) cY aY->Wq Tryz.prog Q ([]) ac Exit.normal aY cY.w ρ):Wq Tryz.prog Q (E7 C3x) ac .normal aX cX.w ρ :=
 F8 (unroll:=false) (n:=3000) (path:=[false]) (o:=⟨_,_,_,_,_,_,_⟩) Z4 (by kernel_rfl) (by kernel_rfl) ho (by kernel_rfl) (by kernel_rfl) hs hK
def mrF (k:U4) (L:List (Fp×Fp×Fp)) (o:Fp×Fp×Fp):St:=A8 43 [4] [.pt 48 0] [48,64,272,320] [(eF_ [(.ob (.p (0:Fp))),(.ob (.p (0:Fp))),(.ob (.p (0:Fp)))]),(eQ_ (Sq.pt L)),some (.fl [.ob (.p o.1),.ob (.p o.2.1),.ob (.p o.2.2)]),(eF_ [.ob (.fr k)])] 528 [[4,5,7,30]] [([.pt 48 0,.pt 64 0,.pt 272 0,(.ci (.clo 121 [(320,0)]))],43)]
theorem mrX (k:U4) (L:List (Fp×Fp×Fp)) (o:Fp×Fp×Fp) (ho:A7 []):Sg Tryz.prog (myR k L o) (A8 43 [4] [.pt 48 0] [48] [(eF_ [(.ob (.p (Prod.fst o))),(.ob (.p (Prod.fst (Prod.snd o)))),(.ob (.p (Prod.snd (Prod.snd o))))])] 416 [] []) .ret ([]) (rfR B0x):=fun hs hK=>
 A5 (unroll:=false) (n:=3000) (path:=[]) (o:=⟨_,_,_,_,_,_,_⟩) Z4 (by kernel_rfl) (by kernel_rfl) ho hs hK
def mrZ (o:Fp×Fp×Fp):St:=A8 43 [4] [.pt 48 0] [48] [some (.fl [.ob (.p o.1),.ob (.p o.2.1),.ob (.p o.2.2)])] 416 [] []
theorem G2h (o:Fp×Fp×Fp):I0 qvF Tryz.f41 false 3000 (⟨[],.ret,mrZ o⟩) [] [] []=(some ([],((.v (.a [(.ob (.p (Prod.fst o))),(.ob (.p (Prod.fst (Prod.snd o)))),(.ob (.p (Prod.snd (Prod.snd o))))])),[]))):=by kernel_rfl
end
end

section

theorem A4e {x:Ctx} (L:List (Fp×Fp×Fp)):∀(n i:Nat) (cs:List Value),C0 x.D (H4 L i n) cs->cs.length=n*18∧∀j,j<n->∃c,C0 x.D (I7 (L.getD (i+j) pt0)) c∧∀(q:Nat) (v:Value),c[q]? = some v->cs[j*18+q]? = some v
 | 0,i,cs,h=>by
  have h:cs=[]:=h;subst h;exact ⟨rfl,fun j hj=>absurd hj (Nat.not_lt_zero _)⟩
 | n+1,i,cs,h=>by
  obtain ⟨c1,r1,e1,h1,c2,r2,e2,h2,c3,r3,e3,h3,h4⟩:=h;obtain ⟨hl,hj⟩:=A4e L n (i+1) r3 h4;have l1:c1.length=6:=Y5 h1;have l2:c2.length=6:=Y5 h2;have l3:c3.length=6:=Y5 h3;subst e1 e2 e3;refine ⟨by simp only[List.length_append];omega,fun j hjn=>?_⟩
  cases j with
  | zero=>
   refine ⟨c1++(c2++(c3++[])),⟨c1,_,rfl,h1,c2,_,rfl,h2,c3,_,rfl,h3,rfl⟩,fun q v hq=>?_⟩
   rw[List.append_nil] at hq;have hlt:q<(c1++(c2++c3)).length:=by
    rcases Nat.lt_or_ge q (c1++(c2++c3)).length with h | h
    ·exact h
    ·rw[List.getElem?_eq_none h] at hq;cases hq
   rw[Nat.zero_mul,Nat.zero_add,<-hq];have e:c1++(c2++(c3++r3))=(c1++(c2++c3))++r3:=by simp
   rw[e,List.getElem?_append_left hlt]
  | succ j=>
   obtain ⟨c,hc,hv⟩:=hj j (by omega)
   rw[show i+1+j=i+(j+1) from by omega] at hc
   refine ⟨c,hc,fun q v hq=>?_⟩
   have e:c1++(c2++(c3++r3))=(c1++(c2++c3))++r3:=by simp
   have hl18:(c1++(c2++c3)).length=18:=by simp only[List.length_append];omega
   rw[e,List.getElem?_append_right (by rw[hl18];omega),hl18,show (j+1)*18+q-18=j*18+q from by omega]
   exact hv q v hq

theorem F3t {x:Ctx} (L:List (Fp×Fp×Fp)) (h:L.length=16) (cs:List Value) (hc:C4 x (.fl (H4 L 0 16)) cs):C4 x (.sq (.pt L)) cs:=by
 obtain ⟨hl,hj⟩:=A4e L 16 0 cs hc;refine ⟨?_,fun i hi=>?_⟩
 ·show L.length*18<=cs.length
  rw[h,hl];exact Nat.le_refl _
 ·have hi:i<L.length:=hi
  rw[h] at hi;obtain ⟨c,h1,h2⟩:=hj i hi;rw[Nat.zero_add] at h1;exact ⟨c,h1,h2⟩

def H3p (x y:Fp):List (Fp×Fp×Fp):=(x,y,0)::List.replicate 15 pt0

theorem F1e (x y z:Fp) (k:U4):FnD Tryz.prog 41 [.v (.a [.ob (.p x),.ob (.p y),.ob (.p z)]),.v (.a [.ob (.fr k)])] (.v (.a (I7 (jmn (x,y,z) (dgT k.val 64))))) []:=by
 refine Q8 (fn:=Tryz.f41) (c:=B7 Tryz.f41) Tryz.func41 rfl rfl fun x0 a0 hk hF hs=>?_
 refine my x y z k ⟨by decide,by decide,trivial⟩ hs fun ac cY aY hs1=>?_
 have hs2:=hs1.blocks (ens' := [some (.fl [.ob (.p x),.ob (.p y),.ob (.p z)]),some (.fl [.ob (.fr k)]),some (.fl [.ob (.p 0),.ob (.p 0),.ob (.p 0)]),some (.sq (.pt (H3p x y)))])
  ⟨.inl rfl,.inl rfl,.inl rfl,.inr ⟨_,_,_,rfl,rfl,rfl,fun cs h=>F3t _ rfl cs h⟩,trivial⟩
 refine F4 (ι:={ p:Nat×List (Fp×Fp×Fp) // 1<=p.1∧p.1<=16∧p.2.length=16∧∀j,j<p.1->p.2.getD j pt0=T0 (x,y,z) j }) (fun p=>myS x y z k p.1.2 (p.1.1:Int)) (fun p=>16-p.1.1) (c:=lpC D8k) (k:=lpR D8k) (by kernel_rfl) (fun p ih ac cY aY hs=>?_)
  ⟨(1,H3p x y),Nat.le_refl 1,by show (1:Nat)<=16;omega,rfl,fun j hj=>by
   have:j=0:=by have hj:j<1:=hj;omega
   subst this;rfl⟩ (hs2.nx _)
 obtain ⟨⟨i,L⟩,h1,h16,hL,htab⟩:=p;simp only at ih hs h1 h16 hL htab
 by_cases hi:i<16
 ·have e1:wrap IntKind.i64 ((i:Int)-1)=((i-1:Nat):Int):=by rw[B9 (by omega) (by omega)];omega
  have e2:wrap IntKind.i64 ((i:Int)+1)=((i+1:Nat):Int):=by rw[B9 (by omega) (by omega)];omega
  refine myA x y z k L i ⟨decide_eq_true (by omega),by rw[e1];omega,by rw[e1];omega,rfl,by rw[e1,Int.toNat_natCast,hL];omega,by omega,by omega,rfl,by rw[Int.toNat_natCast,hL];exact hi,trivial⟩ hs fun ac cZ aZ hs3=>?_
  rw[e1,e2,Int.toNat_natCast,Int.toNat_natCast,htab (i-1) (by omega)] at hs3
  have e3:jpl (T0 (x,y,z) (i-1)) (x,y,z)=T0 (x,y,z) i:=by
   obtain ⟨m,rfl⟩:∃m,i=m+1:=⟨i-1,by omega⟩
   rfl
  rw[e3] at hs3;refine ih ⟨(i+1,L.set i (T0 (x,y,z) i)),by show 1<=i+1;omega,hi,by show (L.set i _).length=16;rw[List.length_set];exact hL,fun j hj=>?_⟩ (by show 16-(i+1)<16-i;omega) ac cZ aZ (hs3.nx _)
  have hj:j<i+1:=hj;show (L.set i (T0 (x,y,z) i)).getD j pt0=_;by_cases e:j=i
  ·subst e
   simp [List.getD,hL,hi]
  ·have:(L.set i (T0 (x,y,z) i)).getD j pt0=L.getD j pt0:=by
    simp [List.getD,List.getElem?_set_ne (Ne.symm e)]
   rw[this];exact htab j (by omega)
 ·have:i=16:=by omega
  subst this;refine myB x y z k L _ ⟨by decide,by decide,by decide,rfl,by rw[hL];decide,trivial⟩ hs fun ac cZ aZ hs3=>?_
  rw[htab 0 (by decide)] at hs3
  obtain ⟨e1,e2⟩:=A1l (k:=B0x) (by kernel_rfl)
  rw[e1];have eP:(rfP B0x).toList=[31]:=by kernel_rfl
  have eG:rfG B0x = .tmp 30:=by kernel_rfl
  refine W5 (ps:=rfP B0x) e2 hs3 (gf:=121) (caps:=[(320,0)]) (A3 Tryz.func121 rfl rfl) (fun pre=>myR k L (pre.foldl (jst (x,y,z)) (T0 (x,y,z) 0))) (fun s=>by rw[eG];rfl) ⟨_,rfl⟩ (dgT k.val 64) F5j E2l
   (fun y z=>.cons ⟨rfl,0,rfl⟩ .nil) (fun z=>by rw[<-Array.length_toList,eP];rfl) (fun pre p hp=>?_) (B4y fun s=>rfl) (fun pre d=>mrB k L (pre.foldl (jst (x,y,z)) (T0 (x,y,z) 0)) d)
   (fun pre d=>mrF k L ((pre++[d]).foldl (jst (x,y,z)) (T0 (x,y,z) 0))) (fun pre d=>⟨_,rfl⟩) (fun pre d hd w1 F1 K1 as1 Q1 l y1 b hs4 hQ=>?_) (fun pre d hd w1 F1 K1 as1 Q1 l y1 b hs4 hQ=>?_) fun D y1 hs4 hD hFD hd=>?_
  ·rw[eP] at hp
   have h43:(myR k L (pre.foldl (jst (x,y,z)) (T0 (x,y,z) 0))).nt=43:=rfl;rw[h43];simp only[List.mem_cons,List.not_mem_nil,or_false] at hp;subst hp;decide
  ·rw[eP] at hs4
   exact mrA k L _ d trivial hs4 fun cZ aZ hs5=>⟨hQ _ _ (hs5.nx _)⟩
  ·have hd16:d<16:=by
    obtain ⟨r,hr⟩:=hd;exact D6p (n:=k.val) 64 d (by rw[hr];simp)
   rw[List.foldl_append] at hQ;generalize pre.foldl (jst (x,y,z)) (T0 (x,y,z) 0)=o at hs4 hQ;have hst:List.foldl (jst (x,y,z)) o [d]=jpl (A2x 4 o) (L.getD d pt0):=by
    rw[htab d hd16];rfl
   rw[hst] at hQ;refine mrC k L o d trivial hs4 fun cV aV hs5=>?_
   let I:{ j:Nat // j<=4 } -> List Act->Act->World->Prop:=fun j ac a w=>ac=as1∧∃z,z.w=w∧Sim w1 F1 K1 as1 (mrS k L (A2x j.1 o) d (j.1:Int)) z a
   refine A4r (ρ:=some l) I (fun j=>4-j.1) (c:=lpC C3x) (k:=lpR C3x) (by kernel_rfl) (fun j ih ac aV w hI=>?_) ⟨0,Nat.zero_le _⟩ ⟨rfl,cV,rfl,hs5.nx _⟩
   obtain ⟨j,hj⟩:=j;obtain ⟨rfl,cV,rfl,hs6⟩:=hI;simp only at ih hs6
   by_cases hj4:j<4
   ·refine mrD k L _ d j ⟨decide_eq_true (by omega),trivial⟩ hs6 fun cU aU hs7=>?_
    rw[B9 (n:=(j:Int)+1) (by omega) (by omega)] at hs7
    exact ih ⟨j+1,hj4⟩ (by show 4-(j+1)<4-j;omega) _ aU _ ⟨rfl,cU,rfl,hs7.nx _⟩
   ·have:j=4:=by omega
    subst this;refine mrE k L _ d _ ⟨by decide,by omega,by omega,rfl,by rw[Int.toNat_natCast,hL];exact hd16,trivial⟩ hs6 fun cU aU hs7=>?_
    rw[Int.toNat_natCast] at hs7;exact ⟨hQ _ _ (hs7.nx _)⟩
  ·have hs5:=hs4.marked rfl rfl D
   show Wq _ _ _ _ _ _ _ _;have ej:(dgT k.val 64).foldl (jst (x,y,z)) (T0 (x,y,z) 0)=jmn (x,y,z) (dgT k.val 64):=rfl;rw[ej] at hs4 hs5;generalize jmn (x,y,z) (dgT k.val 64)=o at hs4 hs5 ⊢
   refine mrX k L o trivial hs5 fun ac cV aV hs6=>⟨?_⟩
   have hs7:Sim y1.w y1.F (R1 y1 W0 (G9 D)) ac (mrZ o) cV aV:=hs6;exact W7 Z4 hk hF (G2h o) trivial (fun y v hd=>hd) hs4 hD hFD hd rfl hs7

end

section

/-- A point outside as often as a number says. -/
def H3h (a:G1D) (k:U4):G1D:=Z5 (jmn (inG a) (dgT k.val 64))
end

section

instance:Inhabited G1D:=⟨g10⟩
def B3j:B1
 | [.v (.a [.ob (.p x),.ob (.p y),.ob (.p z)]),.v (.a [.ob (.fr k)])]=>some ([],.v (.a (I7 (jmn (x,y,z) (dgT k.val 64)))),[])
 | _=>none
def qwA:Env:=qvF.set (C7 qvF.fn 41 B3j)
theorem E9p:A6 Tryz.prog qwA:=A4 Z4 41 B3j (A3 Tryz.func41 rfl rfl) fun args o r es h _=>by
 unfold B3j at h;split at h
 ·cases h;exact F1e _ _ _ _
 ·cases h
--@env qwA E9p
/-- What Mul tells. -/
def muR (a:G1D) (k:U4):G1D×Int:=if onG a then (H3h a k,0) else (g10,30)
theorem G3v {a:G1D} (k:U4) (ha:onG a=true):muR a k=(H3h a k,0):=by unfold muR;rw[ha];rfl
theorem F9w {a:G1D} (k:U4) (ha:onG a=false):muR a k=(g10,30):=by unfold muR;rw[ha];rfl
def qwC:Env:=qwA
theorem C7c:A6 Tryz.prog qwC:=E9p
end

section

def uaA:Env:=qwC.or S4.gK
theorem C8k:A6 Tryz.prog uaA:=A4j C7c S4.E8m
--@env uaA C8k
theorem grA (a b:U6) (i:Bool):B2 uaA Tryz.f23 3000 [.v (.a [.ob (.fp a),.ob (.fp b),.bool i])] [true] [] []=(some ([((onG (G1D.mk a b i))=true)],((.ci (.bool (decide ((Prod.snd (Prod.snd (jmn (inG (G1D.mk a b i)) (dgT 52435875175126190479447740508185965837690552500527637822603658699938581184513 64))))=(0:Fp))))),[]))):=by kernel_rfl
theorem grB (a b:U6) (i:Bool):B2 uaA Tryz.f23 3000 [.v (.a [.ob (.fp a),.ob (.fp b),.bool i])] [false] [] []=(some ([((onG (G1D.mk a b i))=false)],((.ci (.lit false)),[]))):=by kernel_rfl
/-- Whether a point is of the group. -/
def grp (a:G1D):Bool:=onG a && decide ((jmn (inG a) (dgT 52435875175126190479447740508185965837690552500527637822603658699938581184513 64)).2.2=0)
theorem G1l (a b:U6) (i:Bool):FnD Tryz.prog 23 [.v (.a [.ob (.fp a),.ob (.fp b),.bool i])] (.v (.c (.bool (grp ⟨a,b,i⟩)))) []:=by
 by_cases h1:onG ⟨a,b,i⟩=true
 ·have e:grp ⟨a,b,i⟩=decide ((jmn (inG ⟨a,b,i⟩) (dgT 52435875175126190479447740508185965837690552500527637822603658699938581184513 64)).2.2=0):=by unfold grp;rw[h1,Bool.true_and]
  rw[e];exact A2 C8k Tryz.func23 (grA a b i) ⟨h1,trivial⟩
 ·have h1:onG ⟨a,b,i⟩=false:=Bool.eq_false_iff.2 h1
  have e:grp ⟨a,b,i⟩=false:=by unfold grp;rw[h1,Bool.false_and]
  rw[e];exact (A2 C8k Tryz.func23 (grB a b i) ⟨h1,trivial⟩).conv (fun _ _ h=>h) fun y v hd=>P5 rfl hd
def C8r:B1
 | [.v (.a [.ob (.fp a),.ob (.fp b),.bool i])]=>some ([],.v (.c (.bool (grp ⟨a,b,i⟩))),[])
 | _=>none
def uaB:Env:=uaA.set (C7 uaA.fn 23 C8r)
theorem D6y:A6 Tryz.prog uaB:=A4 C8k 23 C8r (A3 Tryz.func23 rfl rfl) fun args o r es h _=>by
 unfold C8r at h;split at h
 ·cases h;exact G1l _ _ _
 ·cases h
--@env uaB D6y
end

section

abbrev F2:=Q2 pN
def f2I (x:F2):List It:=[.ob (.p x.1),.ob (.p x.2)]
section
variable {r:Nat} [NeZero r]
theorem H3w (a b c d:Fin r):(a+b)*(c+d)-a*c-b*d=a*d+b*c:=by grind
end
--@env qeJ K2
theorem t2A (a b c d:Fp):B2 qeJ Tryz.f107 3000 [.v (.a [.ob (.p a),.ob (.p b)]),.v (.a [.ob (.p c),.ob (.p d)])] [] [] []=(some ([],((.v (.a [(.ob (.p ((a*c)-(b*d)))),(.ob (.p ((((a+b)*(c+d))-(a*c))-(b*d))))])),[]))):=by kernel_rfl
theorem p2A (a b c d:Fp):B2 qeJ Tryz.f108 3000 [.v (.a [.ob (.p a),.ob (.p b)]),.v (.a [.ob (.p c),.ob (.p d)])] [] [] []=(some ([],((.v (.a [(.ob (.p (a+c))),(.ob (.p (b+d)))])),[]))):=by kernel_rfl
theorem m2A (a b c d:Fp):B2 qeJ Tryz.f126 3000 [.v (.a [.ob (.p a),.ob (.p b)]),.v (.a [.ob (.p c),.ob (.p d)])] [] [] []=(some ([],((.v (.a [(.ob (.p (a-c))),(.ob (.p (b-d)))])),[]))):=by kernel_rfl
theorem n2A (a b:Fp):B2 qeJ Tryz.f133 3000 [.v (.a [.ob (.p a),.ob (.p b)])] [] [] []=(some ([],((.v (.a [(.ob (.p ((0:Fp)-a))),(.ob (.p ((0:Fp)-b)))])),[]))):=by kernel_rfl
theorem z2A (a b:Fp):B2 qeJ Tryz.f61 3000 [.v (.a [.ob (.p a),.ob (.p b)])] [] [] []=(some ([],((.ci (.bool (ite (true=true) (Bool.and (decide (a=(0:Fp))) (decide (b=(0:Fp)))) (Bool.not (Bool.and (decide (a=(0:Fp))) (decide (b=(0:Fp)))))))),[]))):=by kernel_rfl
theorem H4o (a b:Fp):B2 qeJ Tryz.f141 3000 [.v (.a [.ob (.p a),.ob (.p b)])] [] [] []=(some ([],((.v (.a [(.ob (.p ((a*a)+(b*b))))])),[]))):=by kernel_rfl
theorem i2A (a b:U6):B2 qeJ Tryz.f84 3000 [.v (.a [.ob (.fp a),.ob (.fp b)])] [] [] []=(some ([],((.v (.a [(.ob (.p (inP a))),(.ob (.p (inP b)))])),[]))):=by kernel_rfl
theorem o2A (a b:Fp):B2 qeJ Tryz.f83 3000 [.v (.a [.ob (.p a),.ob (.p b)])] [] [] []=(some ([],((.v (.a [(.ob (.fp (B8 a))),(.ob (.fp (B8 b)))])),[]))):=by kernel_rfl
theorem D5r (a b c d:Fp):FnD Tryz.prog 107 [.v (.a [.ob (.p a),.ob (.p b)]),.v (.a [.ob (.p c),.ob (.p d)])] (.v (.a (f2I ((a,b)*(c,d))))) []:=by
 have r:=t2A a b c d;rw[H3w] at r;exact A2 K2 Tryz.func107 r trivial
theorem E6c (a b:Fp):FnD Tryz.prog 61 [.v (.a [.ob (.p a),.ob (.p b)])] (.v (.c (.bool (decide (((a,b):F2)=0))))) []:=by
 have r:=z2A a b;rw[if_pos rfl] at r;have e:decide (((a,b):F2)=0)=(decide (a=0) && decide (b=0)):=D4z a 0 b 0;rw[e];exact A2 K2 Tryz.func61 r trivial
def D6 (a b:U6):F2:=(inP a,inP b)
def A9r:B1
 | [.v (.a [.ob (.p a),.ob (.p b)]),.v (.a [.ob (.p c),.ob (.p d)])]=>some ([],.v (.a (f2I ((a,b)*(c,d)))),[])
 | _=>none
def qxA:Env:=qeJ.set (C7 qeJ.fn 107 A9r)
theorem G5p:A6 Tryz.prog qxA:=A4 K2 107 A9r (A3 Tryz.func107 rfl rfl) fun args o r es h _=>by
 unfold A9r at h;split at h
 ·cases h;exact D5r _ _ _ _
 ·cases h
def B2t:B1
 | [.v (.a [.ob (.p a),.ob (.p b)]),.v (.a [.ob (.p c),.ob (.p d)])]=>some ([],.v (.a (f2I ((a,b)+(c,d)))),[])
 | _=>none
def qxB:Env:=qxA.set (C7 qxA.fn 108 B2t)
theorem H0e:A6 Tryz.prog qxB:=A4 G5p 108 B2t (A3 Tryz.func108 rfl rfl) fun args o r es h _=>by
 unfold B2t at h;split at h
 ·cases h;exact A2 K2 Tryz.func108 (p2A _ _ _ _) trivial
 ·cases h
def A8m:B1
 | [.v (.a [.ob (.p a),.ob (.p b)]),.v (.a [.ob (.p c),.ob (.p d)])]=>some ([],.v (.a (f2I ((a,b)-(c,d)))),[])
 | _=>none
def qxC:Env:=qxB.set (C7 qxB.fn 126 A8m)
theorem G5m:A6 Tryz.prog qxC:=A4 H0e 126 A8m (A3 Tryz.func126 rfl rfl) fun args o r es h _=>by
 unfold A8m at h;split at h
 ·cases h;exact A2 K2 Tryz.func126 (m2A _ _ _ _) trivial
 ·cases h
def B8f:B1
 | [.v (.a [.ob (.p a),.ob (.p b)])]=>some ([],.v (.a (f2I (0-(a,b)))),[])
 | _=>none
def qxD:Env:=qxC.set (C7 qxC.fn 133 B8f)
theorem H0g:A6 Tryz.prog qxD:=A4 G5m 133 B8f (A3 Tryz.func133 rfl rfl) fun args o r es h _=>by
 unfold B8f at h;split at h
 ·cases h;exact A2 K2 Tryz.func133 (n2A _ _) trivial
 ·cases h
def B4l:B1
 | [.v (.a [.ob (.p a),.ob (.p b)])]=>some ([],.v (.c (.bool (decide (((a,b):F2)=0)))),[])
 | _=>none
def qxE:Env:=qxD.set (C7 qxD.fn 61 B4l)
theorem G6z:A6 Tryz.prog qxE:=A4 H0g 61 B4l (A3 Tryz.func61 rfl rfl) fun args o r es h _=>by
 unfold B4l at h;split at h
 ·cases h;exact E6c _ _
 ·cases h
def B3z:B1
 | [.v (.a [.ob (.p a),.ob (.p b)])]=>some ([],.v (.a [.ob (.p (nQ2 (a,b)))]),[])
 | _=>none
def qxF:Env:=qxE.set (C7 qxE.fn 141 B3z)
theorem G6a:A6 Tryz.prog qxF:=A4 G6z 141 B3z (A3 Tryz.func141 rfl rfl) fun args o r es h _=>by
 unfold B3z at h;split at h
 ·cases h;exact A2 K2 Tryz.func141 (H4o _ _) trivial
 ·cases h
def C5u:B1
 | [.v (.a [.ob (.fp a),.ob (.fp b)])]=>some ([],.v (.a (f2I (D6 a b))),[])
 | _=>none
def qxG:Env:=qxF.set (C7 qxF.fn 84 C5u)
theorem G9s:A6 Tryz.prog qxG:=A4 G6a 84 C5u (A3 Tryz.func84 rfl rfl) fun args o r es h _=>by
 unfold C5u at h;split at h
 ·cases h;exact A2 K2 Tryz.func84 (i2A _ _) trivial
 ·cases h
def C2a:B1
 | [.v (.a [.ob (.p a),.ob (.p b)])]=>some ([],.v (.a [.ob (.fp (B8 a)),.ob (.fp (B8 b))]),[])
 | _=>none
def qxH:Env:=qxG.set (C7 qxG.fn 83 C2a)
theorem D8h:A6 Tryz.prog qxH:=A4 G9s 83 C2a (A3 Tryz.func83 rfl rfl) fun args o r es h _=>by
 unfold C2a at h;split at h
 ·cases h;exact A2 K2 Tryz.func83 (o2A _ _) trivial
 ·cases h
--@env qxH D8h
theorem v2A (a b:Fp):B2 qxH Tryz.f134 3000 [.v (.a [.ob (.p a),.ob (.p b)])] [] [] []=(some ([],((.v (.a [(.ob (.p (a*(ivP (nQ2 (a,b)))))),(.ob (.p ((0:Fp)-(b*(ivP (nQ2 (a,b)))))))])),[]))):=by kernel_rfl
def B7f:B1
 | [.v (.a [.ob (.p a),.ob (.p b)])]=>some ([],.v (.a (f2I (A0f ivP (a,b)))),[])
 | _=>none
def qxI:Env:=qxH.set (C7 qxH.fn 134 B7f)
theorem A8b:A6 Tryz.prog qxI:=A4 D8h 134 B7f (A3 Tryz.func134 rfl rfl) fun args o r es h _=>by
 unfold B7f at h;split at h
 ·cases h;exact A2 D8h Tryz.func134 (v2A _ _) trivial
 ·cases h
theorem C9p (v : Value) (w : World) : (method (Tryz.prog.types.size + Made.depth) 79 v "Times").run Tryz.prog w = .ok (107, v) w := by kernel_rfl
theorem D5a (v : Value) (w : World) : (method (Tryz.prog.types.size + Made.depth) 79 v "Plus").run Tryz.prog w = .ok (108, v) w := by kernel_rfl
theorem C9e (v : Value) (w : World) : (method (Tryz.prog.types.size + Made.depth) 79 v "Minus").run Tryz.prog w = .ok (126, v) w := by kernel_rfl
theorem C2m (v : Value) (w : World) : (method (Tryz.prog.types.size + Made.depth) 79 v "IsZero").run Tryz.prog w = .ok (61, v) w := by kernel_rfl
theorem B5o (v : Value) (w : World) : (method (Tryz.prog.types.size + Made.depth) 79 v "Negative").run Tryz.prog w = .ok (133, v) w := by kernel_rfl
theorem B9w (v : Value) (w : World) : (method (Tryz.prog.types.size + Made.depth) 79 v "Inverse").run Tryz.prog w = .ok (134, v) w := by kernel_rfl
def E6r (T : Nat → Option (List (String × Nat))) (t : Nat) : Option (List (String × Nat)) := if t = 79 then some [("Times", 107), ("Plus", 108), ("Minus", 126), ("IsZero", 61), ("Negative", 133), ("Inverse", 134)] else T t
def qxJ:Env:={ qxI with inv:=E6r qxI.inv }
theorem B6s:A6 Tryz.prog qxJ:=by
 refine ⟨A8b.ty,A8b.mixed,A8b.fn,A8b.mu,A8b.inl,A8b.ex,fun t l h=>?_⟩
 have h:E6r qxI.inv t=some l:=h;unfold E6r at h;split at h
 ·rename_i ht
  cases h
  subst ht;refine ⟨by kernel_rfl,fun name g hg v args w=>?_⟩
  unfold X9 at hg;split at hg
  ·rename_i hn
   cases hg
   subst hn;simp only[callMethod,Sem.run_bind,run_program,Result.andThen_ok,C9p]
  unfold X9 at hg;split at hg
  ·rename_i hn
   cases hg
   subst hn;simp only[callMethod,Sem.run_bind,run_program,Result.andThen_ok,D5a]
  unfold X9 at hg;split at hg
  ·rename_i hn
   cases hg
   subst hn;simp only[callMethod,Sem.run_bind,run_program,Result.andThen_ok,C9e]
  unfold X9 at hg;split at hg
  ·rename_i hn
   cases hg
   subst hn;simp only[callMethod,Sem.run_bind,run_program,Result.andThen_ok,C2m]
  unfold X9 at hg;split at hg
  ·rename_i hn
   cases hg
   subst hn;simp only[callMethod,Sem.run_bind,run_program,Result.andThen_ok,B5o]
  unfold X9 at hg;split at hg
  ·rename_i hn
   cases hg
   subst hn;simp only[callMethod,Sem.run_bind,run_program,Result.andThen_ok,B9w]
  cases hg
 ·exact A8b.inv t l h
--@env qxJ B6s
theorem H5n (a b c d e f:Fp):B2 qxJ Tryz.f86 3000 [.v (.a [.ob (.p a),.ob (.p b),.ob (.p c),.ob (.p d),.ob (.p e),.ob (.p f)])] [true] [] []=(some ([((decide ((e,f)=(0:(Prod (Fin pN) (Fin pN)))))=true)],((.v (.a [.ob (.p a),.ob (.p b),.ob (.p c),.ob (.p d),.ob (.p e),.ob (.p f)])),[]))):=by kernel_rfl
theorem H5w (a b c d e f:Fp):B2 qxJ Tryz.f86 3000 [.v (.a [.ob (.p a),.ob (.p b),.ob (.p c),.ob (.p d),.ob (.p e),.ob (.p f)])] [false] [] []=(some ([((decide ((e,f)=(0:(Prod (Fin pN) (Fin pN)))))=false)],((.v (.a [(.ob (.p (Prod.fst (((((((a,b)*(a,b))+((a,b)*(a,b)))+((a,b)*(a,b)))*((((a,b)*(a,b))+((a,b)*(a,b)))+((a,b)*(a,b))))-((((((a,b)+((c,d)*(c,d)))*((a,b)+((c,d)*(c,d))))-((a,b)*(a,b)))-(((c,d)*(c,d))*((c,d)*(c,d))))+(((((a,b)+((c,d)*(c,d)))*((a,b)+((c,d)*(c,d))))-((a,b)*(a,b)))-(((c,d)*(c,d))*((c,d)*(c,d))))))-((((((a,b)+((c,d)*(c,d)))*((a,b)+((c,d)*(c,d))))-((a,b)*(a,b)))-(((c,d)*(c,d))*((c,d)*(c,d))))+(((((a,b)+((c,d)*(c,d)))*((a,b)+((c,d)*(c,d))))-((a,b)*(a,b)))-(((c,d)*(c,d))*((c,d)*(c,d))))))))),(.ob (.p (Prod.snd (((((((a,b)*(a,b))+((a,b)*(a,b)))+((a,b)*(a,b)))*((((a,b)*(a,b))+((a,b)*(a,b)))+((a,b)*(a,b))))-((((((a,b)+((c,d)*(c,d)))*((a,b)+((c,d)*(c,d))))-((a,b)*(a,b)))-(((c,d)*(c,d))*((c,d)*(c,d))))+(((((a,b)+((c,d)*(c,d)))*((a,b)+((c,d)*(c,d))))-((a,b)*(a,b)))-(((c,d)*(c,d))*((c,d)*(c,d))))))-((((((a,b)+((c,d)*(c,d)))*((a,b)+((c,d)*(c,d))))-((a,b)*(a,b)))-(((c,d)*(c,d))*((c,d)*(c,d))))+(((((a,b)+((c,d)*(c,d)))*((a,b)+((c,d)*(c,d))))-((a,b)*(a,b)))-(((c,d)*(c,d))*((c,d)*(c,d))))))))),(.ob (.p (Prod.fst ((((((a,b)*(a,b))+((a,b)*(a,b)))+((a,b)*(a,b)))*(((((((a,b)+((c,d)*(c,d)))*((a,b)+((c,d)*(c,d))))-((a,b)*(a,b)))-(((c,d)*(c,d))*((c,d)*(c,d))))+(((((a,b)+((c,d)*(c,d)))*((a,b)+((c,d)*(c,d))))-((a,b)*(a,b)))-(((c,d)*(c,d))*((c,d)*(c,d)))))-(((((((a,b)*(a,b))+((a,b)*(a,b)))+((a,b)*(a,b)))*((((a,b)*(a,b))+((a,b)*(a,b)))+((a,b)*(a,b))))-((((((a,b)+((c,d)*(c,d)))*((a,b)+((c,d)*(c,d))))-((a,b)*(a,b)))-(((c,d)*(c,d))*((c,d)*(c,d))))+(((((a,b)+((c,d)*(c,d)))*((a,b)+((c,d)*(c,d))))-((a,b)*(a,b)))-(((c,d)*(c,d))*((c,d)*(c,d))))))-((((((a,b)+((c,d)*(c,d)))*((a,b)+((c,d)*(c,d))))-((a,b)*(a,b)))-(((c,d)*(c,d))*((c,d)*(c,d))))+(((((a,b)+((c,d)*(c,d)))*((a,b)+((c,d)*(c,d))))-((a,b)*(a,b)))-(((c,d)*(c,d))*((c,d)*(c,d))))))))-((((((c,d)*(c,d))*((c,d)*(c,d)))+(((c,d)*(c,d))*((c,d)*(c,d))))+((((c,d)*(c,d))*((c,d)*(c,d)))+(((c,d)*(c,d))*((c,d)*(c,d)))))+(((((c,d)*(c,d))*((c,d)*(c,d)))+(((c,d)*(c,d))*((c,d)*(c,d))))+((((c,d)*(c,d))*((c,d)*(c,d)))+(((c,d)*(c,d))*((c,d)*(c,d)))))))))),(.ob (.p (Prod.snd ((((((a,b)*(a,b))+((a,b)*(a,b)))+((a,b)*(a,b)))*(((((((a,b)+((c,d)*(c,d)))*((a,b)+((c,d)*(c,d))))-((a,b)*(a,b)))-(((c,d)*(c,d))*((c,d)*(c,d))))+(((((a,b)+((c,d)*(c,d)))*((a,b)+((c,d)*(c,d))))-((a,b)*(a,b)))-(((c,d)*(c,d))*((c,d)*(c,d)))))-(((((((a,b)*(a,b))+((a,b)*(a,b)))+((a,b)*(a,b)))*((((a,b)*(a,b))+((a,b)*(a,b)))+((a,b)*(a,b))))-((((((a,b)+((c,d)*(c,d)))*((a,b)+((c,d)*(c,d))))-((a,b)*(a,b)))-(((c,d)*(c,d))*((c,d)*(c,d))))+(((((a,b)+((c,d)*(c,d)))*((a,b)+((c,d)*(c,d))))-((a,b)*(a,b)))-(((c,d)*(c,d))*((c,d)*(c,d))))))-((((((a,b)+((c,d)*(c,d)))*((a,b)+((c,d)*(c,d))))-((a,b)*(a,b)))-(((c,d)*(c,d))*((c,d)*(c,d))))+(((((a,b)+((c,d)*(c,d)))*((a,b)+((c,d)*(c,d))))-((a,b)*(a,b)))-(((c,d)*(c,d))*((c,d)*(c,d))))))))-((((((c,d)*(c,d))*((c,d)*(c,d)))+(((c,d)*(c,d))*((c,d)*(c,d))))+((((c,d)*(c,d))*((c,d)*(c,d)))+(((c,d)*(c,d))*((c,d)*(c,d)))))+(((((c,d)*(c,d))*((c,d)*(c,d)))+(((c,d)*(c,d))*((c,d)*(c,d))))+((((c,d)*(c,d))*((c,d)*(c,d)))+(((c,d)*(c,d))*((c,d)*(c,d)))))))))),(.ob (.p (Prod.fst (((c,d)*(e,f))+((c,d)*(e,f)))))),(.ob (.p (Prod.snd (((c,d)*(e,f))+((c,d)*(e,f))))))])),[]))):=by kernel_rfl
theorem H5b (a b c d e f:Fp):B2 qxJ Tryz.f166 3000 [.v (.a [.ob (.p a),.ob (.p b),.ob (.p c),.ob (.p d),.ob (.p e),.ob (.p f)])] [] [] []=(some ([],((.v (.a [.ob (.p a),.ob (.p b),(.ob (.p (Prod.fst ((0:F2)-(c,d))))),(.ob (.p (Prod.snd ((0:F2)-(c,d))))),.ob (.p e),.ob (.p f)])),[]))):=by kernel_rfl
end

section

theorem D8u (a b c d e f:Fp):FnD Tryz.prog 86 [.v (.a [.ob (.p a),.ob (.p b),.ob (.p c),.ob (.p d),.ob (.p e),.ob (.p f)])] (.v (.a (K7 (jtw (F:=F2) ((a,b),(c,d),(e,f)))))) []:=by
 by_cases h:((e,f):F2)=0
 ·have e0:jtw (F:=F2) ((a,b),(c,d),(e,f))=((a,b),(c,d),(e,f)):=if_pos h
  rw[e0];exact A2 B6s Tryz.func86 (H5n a b c d e f) ⟨decide_eq_true h,trivial⟩
 ·unfold jtw
  rw[if_neg h];exact A2 B6s Tryz.func86 (H5w a b c d e f) ⟨decide_eq_false h,trivial⟩
def C6b:B1
 | [.v (.a [.ob (.p a),.ob (.p b),.ob (.p c),.ob (.p d),.ob (.p e),.ob (.p f)])]=>some ([],.v (.a (K7 (jtw (F:=F2) ((a,b),(c,d),(e,f))))),[])
 | _=>none
def qyA:Env:=qxJ.set (C7 qxJ.fn 86 C6b)
theorem G8g:A6 Tryz.prog qyA:=A4 B6s 86 C6b (A3 Tryz.func86 rfl rfl) fun args o r es h _=>by
 unfold C6b at h;split at h
 ·cases h;exact D8u _ _ _ _ _ _
 ·cases h
def C9t:B1
 | [.v (.a [.ob (.p a),.ob (.p b),.ob (.p c),.ob (.p d),.ob (.p e),.ob (.p f)])]=>some ([],.v (.a (K7 (jng (F:=F2) ((a,b),(c,d),(e,f))))),[])
 | _=>none
def qyB:Env:=qyA.set (C7 qyA.fn 166 C9t)
theorem A8h:A6 Tryz.prog qyB:=A4 G8g 166 C9t (A3 Tryz.func166 rfl rfl) fun args o r es h _=>by
 unfold C9t at h;split at h
 ·cases h;exact A2 B6s Tryz.func166 (H5b _ _ _ _ _ _) trivial
 ·cases h
--@env qyB A8h
theorem H6w (a b c d e f a' b' c' d' e' f' : Fp):B2 qyB Tryz.f85 3000 [.v (.a [.ob (.p a),.ob (.p b),.ob (.p c),.ob (.p d),.ob (.p e),.ob (.p f)]),.v (.a [.ob (.p a'),.ob (.p b'),.ob (.p c'),.ob (.p d'),.ob (.p e'),.ob (.p f')])] [true] [] []=(some ([((decide ((e,f)=(0:(Prod (Fin pN) (Fin pN)))))=true)],((.v (.a [(.ob (.p a')),(.ob (.p b')),(.ob (.p c')),(.ob (.p d')),(.ob (.p e')),(.ob (.p f'))])),[]))):=by kernel_rfl
theorem H6g (a b c d e f a' b' c' d' e' f' : Fp):B2 qyB Tryz.f85 3000 [.v (.a [.ob (.p a),.ob (.p b),.ob (.p c),.ob (.p d),.ob (.p e),.ob (.p f)]),.v (.a [.ob (.p a'),.ob (.p b'),.ob (.p c'),.ob (.p d'),.ob (.p e'),.ob (.p f')])] [false,true] [] []=(some ([((decide ((e,f)=(0:(Prod (Fin pN) (Fin pN)))))=false),((decide ((e',f')=(0:(Prod (Fin pN) (Fin pN)))))=true)],((.v (.a [.ob (.p a),.ob (.p b),.ob (.p c),.ob (.p d),.ob (.p e),.ob (.p f)])),[]))):=by kernel_rfl
theorem H6r (a b c d e f a' b' c' d' e' f' : Fp):B2 qyB Tryz.f85 3000 [.v (.a [.ob (.p a),.ob (.p b),.ob (.p c),.ob (.p d),.ob (.p e),.ob (.p f)]),.v (.a [.ob (.p a'),.ob (.p b'),.ob (.p c'),.ob (.p d'),.ob (.p e'),.ob (.p f')])] [false,false,true,true] [] []=(some ([((decide ((e,f)=(0:(Prod (Fin pN) (Fin pN)))))=false),((decide ((e',f')=(0:(Prod (Fin pN) (Fin pN)))))=false),((decide ((((a',b')*((e,f)*(e,f)))-((a,b)*((e',f')*(e',f'))))=(0:(Prod (Fin pN) (Fin pN)))))=true),((decide (((((c',d')*((e,f)*(e,f)))*(e,f))-(((c,d)*((e',f')*(e',f')))*(e',f')))=(0:(Prod (Fin pN) (Fin pN)))))=true)],((.v (.a [(.ob (.p (Prod.fst (Prod.fst (jtw ((a,b),((c,d),(e,f)))))))),(.ob (.p (Prod.snd (Prod.fst (jtw ((a,b),((c,d),(e,f)))))))),(.ob (.p (Prod.fst (Prod.fst (Prod.snd (jtw ((a,b),((c,d),(e,f))))))))),(.ob (.p (Prod.snd (Prod.fst (Prod.snd (jtw ((a,b),((c,d),(e,f))))))))),(.ob (.p (Prod.fst (Prod.snd (Prod.snd (jtw ((a,b),((c,d),(e,f))))))))),(.ob (.p (Prod.snd (Prod.snd (Prod.snd (jtw ((a,b),((c,d),(e,f)))))))))])),[]))):=by kernel_rfl
theorem H4r (a b c d e f a' b' c' d' e' f' : Fp):B2 qyB Tryz.f85 3000 [.v (.a [.ob (.p a),.ob (.p b),.ob (.p c),.ob (.p d),.ob (.p e),.ob (.p f)]),.v (.a [.ob (.p a'),.ob (.p b'),.ob (.p c'),.ob (.p d'),.ob (.p e'),.ob (.p f')])] [false,false,true,false] [] []=(some ([((decide ((e,f)=(0:(Prod (Fin pN) (Fin pN)))))=false),((decide ((e',f')=(0:(Prod (Fin pN) (Fin pN)))))=false),((decide ((((a',b')*((e,f)*(e,f)))-((a,b)*((e',f')*(e',f'))))=(0:(Prod (Fin pN) (Fin pN)))))=true),((decide (((((c',d')*((e,f)*(e,f)))*(e,f))-(((c,d)*((e',f')*(e',f')))*(e',f')))=(0:(Prod (Fin pN) (Fin pN)))))=false)],((.v (.a [.ob (.p a),.ob (.p b),.ob (.p c),.ob (.p d),(.ob (.p (0:Fp))),(.ob (.p (0:Fp)))])),[]))):=by kernel_rfl
theorem H5y (a b c d e f a' b' c' d' e' f' : Fp):B2 qyB Tryz.f85 3000 [.v (.a [.ob (.p a),.ob (.p b),.ob (.p c),.ob (.p d),.ob (.p e),.ob (.p f)]),.v (.a [.ob (.p a'),.ob (.p b'),.ob (.p c'),.ob (.p d'),.ob (.p e'),.ob (.p f')])] [false,false,false] [] []=(some ([((decide ((e,f)=(0:(Prod (Fin pN) (Fin pN)))))=false),((decide ((e',f')=(0:(Prod (Fin pN) (Fin pN)))))=false),((decide ((((a',b')*((e,f)*(e,f)))-((a,b)*((e',f')*(e',f'))))=(0:(Prod (Fin pN) (Fin pN)))))=false)],((.v (.a [(.ob (.p (Prod.fst ((((((((c',d')*((e,f)*(e,f)))*(e,f))-(((c,d)*((e',f')*(e',f')))*(e',f')))*((((c',d')*((e,f)*(e,f)))*(e,f))-(((c,d)*((e',f')*(e',f')))*(e',f'))))-(((((a',b')*((e,f)*(e,f)))-((a,b)*((e',f')*(e',f'))))*(((a',b')*((e,f)*(e,f)))-((a,b)*((e',f')*(e',f')))))*(((a',b')*((e,f)*(e,f)))-((a,b)*((e',f')*(e',f'))))))-(((a,b)*((e',f')*(e',f')))*((((a',b')*((e,f)*(e,f)))-((a,b)*((e',f')*(e',f'))))*(((a',b')*((e,f)*(e,f)))-((a,b)*((e',f')*(e',f')))))))-(((a,b)*((e',f')*(e',f')))*((((a',b')*((e,f)*(e,f)))-((a,b)*((e',f')*(e',f'))))*(((a',b')*((e,f)*(e,f)))-((a,b)*((e',f')*(e',f')))))))))),(.ob (.p (Prod.snd ((((((((c',d')*((e,f)*(e,f)))*(e,f))-(((c,d)*((e',f')*(e',f')))*(e',f')))*((((c',d')*((e,f)*(e,f)))*(e,f))-(((c,d)*((e',f')*(e',f')))*(e',f'))))-(((((a',b')*((e,f)*(e,f)))-((a,b)*((e',f')*(e',f'))))*(((a',b')*((e,f)*(e,f)))-((a,b)*((e',f')*(e',f')))))*(((a',b')*((e,f)*(e,f)))-((a,b)*((e',f')*(e',f'))))))-(((a,b)*((e',f')*(e',f')))*((((a',b')*((e,f)*(e,f)))-((a,b)*((e',f')*(e',f'))))*(((a',b')*((e,f)*(e,f)))-((a,b)*((e',f')*(e',f')))))))-(((a,b)*((e',f')*(e',f')))*((((a',b')*((e,f)*(e,f)))-((a,b)*((e',f')*(e',f'))))*(((a',b')*((e,f)*(e,f)))-((a,b)*((e',f')*(e',f')))))))))),(.ob (.p (Prod.fst ((((((c',d')*((e,f)*(e,f)))*(e,f))-(((c,d)*((e',f')*(e',f')))*(e',f')))*((((a,b)*((e',f')*(e',f')))*((((a',b')*((e,f)*(e,f)))-((a,b)*((e',f')*(e',f'))))*(((a',b')*((e,f)*(e,f)))-((a,b)*((e',f')*(e',f'))))))-((((((((c',d')*((e,f)*(e,f)))*(e,f))-(((c,d)*((e',f')*(e',f')))*(e',f')))*((((c',d')*((e,f)*(e,f)))*(e,f))-(((c,d)*((e',f')*(e',f')))*(e',f'))))-(((((a',b')*((e,f)*(e,f)))-((a,b)*((e',f')*(e',f'))))*(((a',b')*((e,f)*(e,f)))-((a,b)*((e',f')*(e',f')))))*(((a',b')*((e,f)*(e,f)))-((a,b)*((e',f')*(e',f'))))))-(((a,b)*((e',f')*(e',f')))*((((a',b')*((e,f)*(e,f)))-((a,b)*((e',f')*(e',f'))))*(((a',b')*((e,f)*(e,f)))-((a,b)*((e',f')*(e',f')))))))-(((a,b)*((e',f')*(e',f')))*((((a',b')*((e,f)*(e,f)))-((a,b)*((e',f')*(e',f'))))*(((a',b')*((e,f)*(e,f)))-((a,b)*((e',f')*(e',f')))))))))-((((c,d)*((e',f')*(e',f')))*(e',f'))*(((((a',b')*((e,f)*(e,f)))-((a,b)*((e',f')*(e',f'))))*(((a',b')*((e,f)*(e,f)))-((a,b)*((e',f')*(e',f')))))*(((a',b')*((e,f)*(e,f)))-((a,b)*((e',f')*(e',f')))))))))),(.ob (.p (Prod.snd ((((((c',d')*((e,f)*(e,f)))*(e,f))-(((c,d)*((e',f')*(e',f')))*(e',f')))*((((a,b)*((e',f')*(e',f')))*((((a',b')*((e,f)*(e,f)))-((a,b)*((e',f')*(e',f'))))*(((a',b')*((e,f)*(e,f)))-((a,b)*((e',f')*(e',f'))))))-((((((((c',d')*((e,f)*(e,f)))*(e,f))-(((c,d)*((e',f')*(e',f')))*(e',f')))*((((c',d')*((e,f)*(e,f)))*(e,f))-(((c,d)*((e',f')*(e',f')))*(e',f'))))-(((((a',b')*((e,f)*(e,f)))-((a,b)*((e',f')*(e',f'))))*(((a',b')*((e,f)*(e,f)))-((a,b)*((e',f')*(e',f')))))*(((a',b')*((e,f)*(e,f)))-((a,b)*((e',f')*(e',f'))))))-(((a,b)*((e',f')*(e',f')))*((((a',b')*((e,f)*(e,f)))-((a,b)*((e',f')*(e',f'))))*(((a',b')*((e,f)*(e,f)))-((a,b)*((e',f')*(e',f')))))))-(((a,b)*((e',f')*(e',f')))*((((a',b')*((e,f)*(e,f)))-((a,b)*((e',f')*(e',f'))))*(((a',b')*((e,f)*(e,f)))-((a,b)*((e',f')*(e',f')))))))))-((((c,d)*((e',f')*(e',f')))*(e',f'))*(((((a',b')*((e,f)*(e,f)))-((a,b)*((e',f')*(e',f'))))*(((a',b')*((e,f)*(e,f)))-((a,b)*((e',f')*(e',f')))))*(((a',b')*((e,f)*(e,f)))-((a,b)*((e',f')*(e',f')))))))))),(.ob (.p (Prod.fst (((((a',b')*((e,f)*(e,f)))-((a,b)*((e',f')*(e',f'))))*(e,f))*(e',f'))))),(.ob (.p (Prod.snd (((((a',b')*((e,f)*(e,f)))-((a,b)*((e',f')*(e',f'))))*(e,f))*(e',f')))))])),[]))):=by kernel_rfl
end

section

theorem D0v (a b c d e f a' b' c' d' e' f' : Fp):FnD Tryz.prog 85 [.v (.a [.ob (.p a),.ob (.p b),.ob (.p c),.ob (.p d),.ob (.p e),.ob (.p f)]),.v (.a [.ob (.p a'),.ob (.p b'),.ob (.p c'),.ob (.p d'),.ob (.p e'),.ob (.p f')])] (.v (.a (K7 (jpl (F:=F2) ((a,b),(c,d),(e,f)) ((a',b'),(c',d'),(e',f')))))) []:=by
 by_cases h:((e,f):F2)=0
 ·have e0:jpl (F:=F2) ((a,b),(c,d),(e,f)) ((a',b'),(c',d'),(e',f'))=((a',b'),(c',d'),(e',f')):=if_pos h
  rw[e0];exact A2 A8h Tryz.func85 (H6w a b c d e f a' b' c' d' e' f') ⟨decide_eq_true h,trivial⟩
 ·by_cases h2:((e',f'):F2)=0
  ·have e0:jpl (F:=F2) ((a,b),(c,d),(e,f)) ((a',b'),(c',d'),(e',f'))=((a,b),(c,d),(e,f)):=(if_neg h).trans (if_pos h2)
   rw[e0];exact A2 A8h Tryz.func85 (H6g a b c d e f a' b' c' d' e' f') ⟨decide_eq_false h,decide_eq_true h2,trivial⟩
  ·unfold jpl
   rw[if_neg h,if_neg h2];dsimp only;by_cases h3:((a',b'):F2)*(((e,f):F2)*((e,f):F2))-((a,b):F2)*(((e',f'):F2)*((e',f'):F2))=0
   ·rw[if_pos h3]
    by_cases h4:((c',d'):F2)*(((e,f):F2)*((e,f):F2))*((e,f):F2)-((c,d):F2)*(((e',f'):F2)*((e',f'):F2))*((e',f'):F2)=0
    ·rw[if_pos h4]
     exact A2 A8h Tryz.func85 (H6r a b c d e f a' b' c' d' e' f') ⟨decide_eq_false h,decide_eq_false h2,decide_eq_true h3,decide_eq_true h4,trivial⟩
    ·rw[if_neg h4]
     exact A2 A8h Tryz.func85 (H4r a b c d e f a' b' c' d' e' f') ⟨decide_eq_false h,decide_eq_false h2,decide_eq_true h3,decide_eq_false h4,trivial⟩
   ·rw[if_neg h3]
    exact A2 A8h Tryz.func85 (H5y a b c d e f a' b' c' d' e' f') ⟨decide_eq_false h,decide_eq_false h2,decide_eq_false h3,trivial⟩

end

section

def C8p:B1
 | [.v (.a [.ob (.p a),.ob (.p b),.ob (.p c),.ob (.p d),.ob (.p e),.ob (.p f)]),.v (.a [.ob (.p a'),.ob (.p b'),.ob (.p c'),.ob (.p d'),.ob (.p e'),.ob (.p f')])]=>some ([],.v (.a (K7 (jpl (F:=F2) ((a,b),(c,d),(e,f)) ((a',b'),(c',d'),(e',f'))))),[])
 | _=>none
def qyC:Env:=qyB.set (C7 qyB.fn 85 C8p)
theorem A9c:A6 Tryz.prog qyC:=A4 A8h 85 C8p (A3 Tryz.func85 rfl rfl) fun args o r es h _=>by
 unfold C8p at h;split at h
 ·cases h;exact D0v _ _ _ _ _ _ _ _ _ _ _ _
 ·cases h
def F2d (T:Nat->Option Func) (f:Nat):Option Func:=if f=82 then some Tryz.f82 else T f
def qyD:Env:={ qyC with inl:=F2d qyC.inl }
theorem A2j:A6 Tryz.prog qyD:=by
 refine ⟨A9c.ty,A9c.mixed,A9c.fn,A9c.mu,fun f fn h=>?_,A9c.ex,A9c.inv⟩
 have h:F2d qyC.inl f=some fn:=h;unfold F2d at h;split at h
 ·rename_i hf;cases h;subst hf;exact ⟨Tryz.func82,A3 Tryz.func82 rfl rfl⟩
 exact A9c.inl f fn h
--@env qyD A2j
theorem H6a (a b c d:U6) (i:Bool):B2 qyD Tryz.f43 3000 [.v (.a [.ob (.fp a),.ob (.fp b),.ob (.fp c),.ob (.fp d),.bool i])] [true] [] []=(some ([(0<=(1:Int)),((1:Int)<(18446744073709551616:Int)),(i=true)],((.v (.a [(.ob (.p (Fin.ofNat pN 1))),(.ob (.p (0:Fp))),(.ob (.p (Fin.ofNat pN 1))),(.ob (.p (0:Fp))),(.ob (.p (0:Fp))),(.ob (.p (0:Fp)))])),[]))):=by kernel_rfl
theorem H5e (a b c d:U6) (i:Bool):B2 qyD Tryz.f43 3000 [.v (.a [.ob (.fp a),.ob (.fp b),.ob (.fp c),.ob (.fp d),.bool i])] [false] [] []=(some ([(0<=(1:Int)),((1:Int)<(18446744073709551616:Int)),(i=false)],((.v (.a [(.ob (.p (Prod.fst (D6 a b)))),(.ob (.p (Prod.snd (D6 a b)))),(.ob (.p (Prod.fst (D6 c d)))),(.ob (.p (Prod.snd (D6 c d)))),(.ob (.p (Fin.ofNat pN 1))),(.ob (.p (0:Fp)))])),[]))):=by kernel_rfl
theorem H4t (a b c d e f:Fp):B2 qyD Tryz.f42 3000 [.v (.a [.ob (.p a),.ob (.p b),.ob (.p c),.ob (.p d),.ob (.p e),.ob (.p f)])] [true,true] [] []=(some ([((decide ((e,f)=(0:(Prod (Fin pN) (Fin pN)))))=true)],((.v (.a [(.ob (.fp (0:U6))),(.ob (.fp (0:U6))),(.ob (.fp (0:U6))),(.ob (.fp (0:U6))),(.lit true)])),[]))):=by kernel_rfl
theorem H5d (a b c d e f:Fp):B2 qyD Tryz.f42 3000 [.v (.a [.ob (.p a),.ob (.p b),.ob (.p c),.ob (.p d),.ob (.p e),.ob (.p f)])] [false,false] [] []=(some ([((decide ((e,f)=(0:(Prod (Fin pN) (Fin pN)))))=false)],((.v (.a [(.ob (.fp (B8 (Prod.fst ((a,b)*((A0f ivP (e,f))*(A0f ivP (e,f)))))))),(.ob (.fp (B8 (Prod.snd ((a,b)*((A0f ivP (e,f))*(A0f ivP (e,f)))))))),(.ob (.fp (B8 (Prod.fst (((c,d)*((A0f ivP (e,f))*(A0f ivP (e,f))))*(A0f ivP (e,f))))))),(.ob (.fp (B8 (Prod.snd (((c,d)*((A0f ivP (e,f))*(A0f ivP (e,f))))*(A0f ivP (e,f))))))),(.lit false)])),[]))):=by kernel_rfl
theorem H5p (a b c d:U6) (i:Bool):B2 qyD Tryz.f58 3000 [.v (.a [.ob (.fp a),.ob (.fp b),.ob (.fp c),.ob (.fp d),.bool i])] [true] [] []=(some ([(i=true)],((.ci (.bool (ite (true=true) (Bool.and (decide (a=(0:U6))) (Bool.and (decide (b=(0:U6))) (Bool.and (decide (c=(0:U6))) (Bool.and (decide (d=(0:U6))) (i == true))))) (Bool.not (Bool.and (decide (a=(0:U6))) (Bool.and (decide (b=(0:U6))) (Bool.and (decide (c=(0:U6))) (Bool.and (decide (d=(0:U6))) (i == true))))))))),[]))):=by kernel_rfl
theorem H5x (a b c d:U6) (i:Bool):B2 qyD Tryz.f58 3000 [.v (.a [.ob (.fp a),.ob (.fp b),.ob (.fp c),.ob (.fp d),.bool i])] [false,true,true] [] []=(some ([(i=false),(0<=(4:Int)),((4:Int)<(18446744073709551616:Int)),(0<=(4:Int)),((4:Int)<(18446744073709551616:Int)),((ite (true=true) (Bool.and (decide ((B8 (Prod.fst (D6 a b)))=a)) (decide ((B8 (Prod.snd (D6 a b)))=b))) (Bool.not (Bool.and (decide ((B8 (Prod.fst (D6 a b)))=a)) (decide ((B8 (Prod.snd (D6 a b)))=b)))))=true),((ite (true=true) (Bool.and (decide ((B8 (Prod.fst (D6 c d)))=c)) (decide ((B8 (Prod.snd (D6 c d)))=d))) (Bool.not (Bool.and (decide ((B8 (Prod.fst (D6 c d)))=c)) (decide ((B8 (Prod.snd (D6 c d)))=d)))))=true)],((.ci (.bool (ite (true=true) (Bool.and (decide ((Prod.fst ((D6 c d)*(D6 c d)))=(Prod.fst ((((D6 a b)*(D6 a b))*(D6 a b))+((Fin.ofNat pN 4),(Fin.ofNat pN 4)))))) (decide ((Prod.snd ((D6 c d)*(D6 c d)))=(Prod.snd ((((D6 a b)*(D6 a b))*(D6 a b))+((Fin.ofNat pN 4),(Fin.ofNat pN 4))))))) (Bool.not (Bool.and (decide ((Prod.fst ((D6 c d)*(D6 c d)))=(Prod.fst ((((D6 a b)*(D6 a b))*(D6 a b))+((Fin.ofNat pN 4),(Fin.ofNat pN 4)))))) (decide ((Prod.snd ((D6 c d)*(D6 c d)))=(Prod.snd ((((D6 a b)*(D6 a b))*(D6 a b))+((Fin.ofNat pN 4),(Fin.ofNat pN 4))))))))))),[]))):=by kernel_rfl
theorem H4p (a b c d:U6) (i:Bool):B2 qyD Tryz.f58 3000 [.v (.a [.ob (.fp a),.ob (.fp b),.ob (.fp c),.ob (.fp d),.bool i])] [false,true,false] [] []=(some ([(i=false),(0<=(4:Int)),((4:Int)<(18446744073709551616:Int)),(0<=(4:Int)),((4:Int)<(18446744073709551616:Int)),((ite (true=true) (Bool.and (decide ((B8 (Prod.fst (D6 a b)))=a)) (decide ((B8 (Prod.snd (D6 a b)))=b))) (Bool.not (Bool.and (decide ((B8 (Prod.fst (D6 a b)))=a)) (decide ((B8 (Prod.snd (D6 a b)))=b)))))=true),((ite (true=true) (Bool.and (decide ((B8 (Prod.fst (D6 c d)))=c)) (decide ((B8 (Prod.snd (D6 c d)))=d))) (Bool.not (Bool.and (decide ((B8 (Prod.fst (D6 c d)))=c)) (decide ((B8 (Prod.snd (D6 c d)))=d)))))=false)],((.ci (.lit false)),[]))):=by kernel_rfl
theorem H6k (a b c d:U6) (i:Bool):B2 qyD Tryz.f58 3000 [.v (.a [.ob (.fp a),.ob (.fp b),.ob (.fp c),.ob (.fp d),.bool i])] [false,false,false] [] []=(some ([(i=false),(0<=(4:Int)),((4:Int)<(18446744073709551616:Int)),(0<=(4:Int)),((4:Int)<(18446744073709551616:Int)),((ite (true=true) (Bool.and (decide ((B8 (Prod.fst (D6 a b)))=a)) (decide ((B8 (Prod.snd (D6 a b)))=b))) (Bool.not (Bool.and (decide ((B8 (Prod.fst (D6 a b)))=a)) (decide ((B8 (Prod.snd (D6 a b)))=b)))))=false)],((.ci (.lit false)),[]))):=by kernel_rfl
end

section

def fq4:F2:=(fp4,fp4)
/-- Which points may be. -/
def I3 (a:G2D):Bool:=
 if a.inf then decide (a.xa=0) && (decide (a.xb=0) && (decide (a.ya=0) && decide (a.yb=0)))
 else (decide (B8 (inP a.xa)=a.xa) && decide (B8 (inP a.xb)=a.xb)) && ((decide (B8 (inP a.ya)=a.ya) && decide (B8 (inP a.yb)=a.yb)) && decide (D6 a.ya a.yb*D6 a.ya a.yb=D6 a.xa a.xb*D6 a.xa a.xb*D6 a.xa a.xb+fq4))
def P4 (a:G2D):F2×F2×F2:=if a.inf then ((fp1,0),(fp1,0),(0,0)) else (D6 a.xa a.xb,D6 a.ya a.yb,(fp1,0))
def A1y (t:F2×F2×F2):G2D:=
 if t.2.2=0 then ⟨0,0,0,0,true⟩ else
 ⟨B8 (t.1*(A0f ivP t.2.2*A0f ivP t.2.2)).1,B8 (t.1*(A0f ivP t.2.2*A0f ivP t.2.2)).2,B8 (t.2.1*(A0f ivP t.2.2*A0f ivP t.2.2)*A0f ivP t.2.2).1,B8 (t.2.1*(A0f ivP t.2.2*A0f ivP t.2.2)*A0f ivP t.2.2).2,false⟩
def C3l (a b:G2D):G2D:=A1y (jpl (P4 a) (P4 b))
def C5d (a:G2D):G2D:=A1y (jng (P4 a))

theorem A6q {x:Ctx} {i j k l:It} {b:Bool} {v:Value} (h:B5 x (.v (.a [i,j,k,l,.lit b])) v):B5 x (.v (.a [i,j,k,l,.bool b])) v:=by
 obtain ⟨cs,e,c1,r1,e1,h1,c2,r2,e2,h2,c3,r3,e3,h3,c4,r4,e4,h4,c5,r5,e5,⟨d,h5⟩,h6⟩:=h;refine ⟨cs,e,c1,r1,e1,h1,c2,r2,e2,h2,c3,r3,e3,h3,c4,r4,e4,h4,c5,r5,e5,⟨d,?_⟩,h6⟩
 cases d<;>exact h5
theorem D0r {x:Ctx} {i j k l m:It} {b:Bool} {v:Value} (h:B5 x (.t [.a [i,j,k,l,.lit b],.c m]) v):B5 x (.t [.a [i,j,k,l,.bool b],.c m]) v:=by
 obtain ⟨vs,e,h1⟩:=h
 cases h1 with | cons d1 ds=>
 exact ⟨_,e,.cons (A6q d1) ds⟩

theorem E9g (a b c d:U6) (i:Bool):FnD Tryz.prog 43 [.v (.a [.ob (.fp a),.ob (.fp b),.ob (.fp c),.ob (.fp d),.bool i])] (.v (.a (K7 (P4 ⟨a,b,c,d,i⟩)))) []:=by
 cases i with
 | true=>exact A2 A2j Tryz.func43 (H6a a b c d true) ⟨by decide,by decide,rfl,trivial⟩
 | false=>exact A2 A2j Tryz.func43 (H5e a b c d false) ⟨by decide,by decide,rfl,trivial⟩

theorem E4l (a b c d e f:Fp):FnD Tryz.prog 42 [.v (.a [.ob (.p a),.ob (.p b),.ob (.p c),.ob (.p d),.ob (.p e),.ob (.p f)])] (.v (.a (A1y ((a,b),(c,d),(e,f))).its)) []:=by
 by_cases h:((e,f):F2)=0
 ·have e0:A1y ((a,b),(c,d),(e,f))=⟨0,0,0,0,true⟩:=if_pos h
  rw[e0];exact (A2 A2j Tryz.func42 (H4t a b c d e f) ⟨decide_eq_true h,trivial⟩).conv (fun _ _ h=>h) fun y v hd=>A6q hd
 ·unfold A1y
  rw[if_neg h];exact (A2 A2j Tryz.func42 (H5d a b c d e f) ⟨decide_eq_false h,trivial⟩).conv (fun _ _ h=>h) fun y v hd=>A6q hd

theorem E8k (a b c d:U6):I3 ⟨a,b,c,d,false⟩=((decide (B8 (inP a)=a) && decide (B8 (inP b)=b)) && ((decide (B8 (inP c)=c) && decide (B8 (inP d)=d)) && decide (D6 c d*D6 c d=D6 a b*D6 a b*D6 a b+fq4))):=if_neg (fun h=>Bool.noConfusion h)
theorem F1z (a b c d:U6):I3 ⟨a,b,c,d,true⟩=(decide (a=0) && (decide (b=0) && (decide (c=0) && (decide (d=0) && (true == true))))):=by
 show (decide (a=0) && (decide (b=0) && (decide (c=0) && decide (d=0))))=_;simp

theorem F2m (a b c d:U6) (i:Bool):FnD Tryz.prog 58 [.v (.a [.ob (.fp a),.ob (.fp b),.ob (.fp c),.ob (.fp d),.bool i])] (.v (.c (.bool (I3 ⟨a,b,c,d,i⟩)))) []:=by
 cases i with
 | true=>
  have r:=H5p a b c d true;rw[if_pos rfl] at r;rw[F1z];exact A2 A2j Tryz.func58 r ⟨rfl,trivial⟩
 | false=>
  rw[E8k]
  cases h1:(decide (B8 (inP a)=a) && decide (B8 (inP b)=b)) with
  | true=>
   rw[Bool.true_and]
   cases h2:(decide (B8 (inP c)=c) && decide (B8 (inP d)=d)) with
   | true=>
    rw[Bool.true_and];have r:=H5x a b c d false;rw[if_pos rfl,if_pos rfl,if_pos rfl] at r;have e:decide (D6 c d*D6 c d=D6 a b*D6 a b*D6 a b+fq4)=_:=D4z (D6 c d*D6 c d).1 (D6 a b*D6 a b*D6 a b+fq4).1 (D6 c d*D6 c d).2 (D6 a b*D6 a b*D6 a b+fq4).2;rw[e];exact A2 A2j Tryz.func58 r ⟨rfl,by decide,by decide,by decide,by decide,h1,h2,trivial⟩
   | false=>
    rw[Bool.false_and];have r:=H4p a b c d false;rw[if_pos rfl,if_pos rfl] at r;exact (A2 A2j Tryz.func58 r ⟨rfl,by decide,by decide,by decide,by decide,h1,h2,trivial⟩).conv (fun _ _ h=>h) fun y v hd=>P5 rfl hd
  | false=>
   rw[Bool.false_and];have r:=H6k a b c d false;rw[if_pos rfl] at r;exact (A2 A2j Tryz.func58 r ⟨rfl,by decide,by decide,by decide,by decide,h1,trivial⟩).conv (fun _ _ h=>h) fun y v hd=>P5 rfl hd

/-! Pairs outside. -/
def F4t (x:F2):U6×U6:=(B8 x.1,B8 x.2)

section
variable {r:Nat} [NeZero r]
end
end

section

def C1v:B1
 | [.v (.a [.ob (.fp a),.ob (.fp b),.ob (.fp c),.ob (.fp d),.bool i])]=>some ([],.v (.a (K7 (P4 ⟨a,b,c,d,i⟩))),[])
 | _=>none
def qzA:Env:=qyD.set (C7 qyD.fn 43 C1v)
theorem G3x:A6 Tryz.prog qzA:=A4 A2j 43 C1v (A3 Tryz.func43 rfl rfl) fun args o r es h _=>by
 unfold C1v at h;split at h
 ·cases h;exact E9g _ _ _ _ _
 ·cases h
def B2v:B1
 | [.v (.a [.ob (.p a),.ob (.p b),.ob (.p c),.ob (.p d),.ob (.p e),.ob (.p f)])]=>some ([],.v (.a (A1y ((a,b),(c,d),(e,f))).its),[])
 | _=>none
def qzB:Env:=qzA.set (C7 qzA.fn 42 B2v)
theorem H0l:A6 Tryz.prog qzB:=A4 G3x 42 B2v (A3 Tryz.func42 rfl rfl) fun args o r es h _=>by
 unfold B2v at h;split at h
 ·cases h;exact E4l _ _ _ _ _ _
 ·cases h
def B9t:B1
 | [.v (.a [.ob (.fp a),.ob (.fp b),.ob (.fp c),.ob (.fp d),.bool i])]=>some ([],.v (.c (.bool (I3 ⟨a,b,c,d,i⟩))),[])
 | _=>none
def qzH:Env:=qzB.set (C7 qzB.fn 58 B9t)
theorem C9q:A6 Tryz.prog qzH:=A4 H0l 58 B9t (A3 Tryz.func58 rfl rfl) fun args o r es h _=>by
 unfold B9t at h;split at h
 ·cases h;exact F2m _ _ _ _ _
 ·cases h
--@env qzH C9q
theorem H5i (a b c d:U6) (i:Bool):B2 qzH Tryz.f22 3000 [.v (.a [.ob (.fp a),.ob (.fp b),.ob (.fp c),.ob (.fp d),.bool i])] [] [] []=(some ([],((.ci (.bool (I3 (G2D.mk a b c d i)))),[]))):=by kernel_rfl
theorem H7a  : B2 qzH Tryz.f16 3000 [] [] [] []=(some ([(0<=(15312334153293348280:Int)),((15312334153293348280:Int)<(18446744073709551616:Int)),(0<=(841050694974028783:Int)),((841050694974028783:Int)<(18446744073709551616:Int)),(0<=(12993178926126977399:Int)),((12993178926126977399:Int)<(18446744073709551616:Int)),(0<=(14331714969349929730:Int)),((14331714969349929730:Int)<(18446744073709551616:Int)),(0<=(2740446039084699729:Int)),((2740446039084699729:Int)<(18446744073709551616:Int)),(0<=(165123225776229009:Int)),((165123225776229009:Int)<(18446744073709551616:Int)),(0<=(16549740192668593022:Int)),((16549740192668593022:Int)<(18446744073709551616:Int)),(0<=(3696594454104530263:Int)),((3696594454104530263:Int)<(18446744073709551616:Int)),(0<=(13103893525273989193:Int)),((13103893525273989193:Int)<(18446744073709551616:Int)),(0<=(6443473286224459290:Int)),((6443473286224459290:Int)<(18446744073709551616:Int)),(0<=(9055845637167730533:Int)),((9055845637167730533:Int)<(18446744073709551616:Int)),(0<=(1432192374203850592:Int)),((1432192374203850592:Int)<(18446744073709551616:Int)),(0<=(16254428414758889473:Int)),((16254428414758889473:Int)<(18446744073709551616:Int)),(0<=(10536956157198377609:Int)),((10536956157198377609:Int)<(18446744073709551616:Int)),(0<=(7873024875724591404:Int)),((7873024875724591404:Int)<(18446744073709551616:Int)),(0<=(12537348094477325223:Int)),((12537348094477325223:Int)<(18446744073709551616:Int)),(0<=(10144865889576432922:Int)),((10144865889576432922:Int)<(18446744073709551616:Int)),(0<=(929383263523139089:Int)),((929383263523139089:Int)<(18446744073709551616:Int)),(0<=(12297368366147926462:Int)),((12297368366147926462:Int)<(18446744073709551616:Int)),(0<=(4555124010822409633:Int)),((4555124010822409633:Int)<(18446744073709551616:Int)),(0<=(2771000935339432363:Int)),((2771000935339432363:Int)<(18446744073709551616:Int)),(0<=(14645187562128761775:Int)),((14645187562128761775:Int)<(18446744073709551616:Int)),(0<=(3651525051980876697:Int)),((3651525051980876697:Int)<(18446744073709551616:Int)),(0<=(434250606344352972:Int)),((434250606344352972:Int)<(18446744073709551616:Int))],((.v (.a [(.ob (.fp (Fin.ofNat B6 352701069587466618187139116011060144890029952792775240219908644239793785735715026873347600343865175952761926303160))),(.ob (.fp (Fin.ofNat B6 3059144344244213709971259814753781636986470325476647558659373206291635324768958432433509563104347017837885763365758))),(.ob (.fp (Fin.ofNat B6 1985150602287291935568054521177171638300868978215655730859378665066344726373823718423869104263333984641494340347905))),(.ob (.fp (Fin.ofNat B6 927553665492332455747201965776037880757740193453592970025027978793976877002675564980949289727957565575433344219582))),(.lit false)])),[]))):=by kernel_rfl
end

section

def O5:G2D:=⟨Fin.ofNat B6 352701069587466618187139116011060144890029952792775240219908644239793785735715026873347600343865175952761926303160,Fin.ofNat B6 3059144344244213709971259814753781636986470325476647558659373206291635324768958432433509563104347017837885763365758,Fin.ofNat B6 1985150602287291935568054521177171638300868978215655730859378665066344726373823718423869104263333984641494340347905,Fin.ofNat B6 927553665492332455747201965776037880757740193453592970025027978793976877002675564980949289727957565575433344219582,false⟩

theorem E8p:FnD Tryz.prog 16 [] (.v (.a O5.its)) []:=
 (A2 C9q Tryz.func16 H7a (by simp [A7])).conv (fun _ _ h=>h) fun y v hd=>A6q hd
end

section

def A9w:B1
 | [.v (.a [.ob (.fp a),.ob (.fp b),.ob (.fp c),.ob (.fp d),.bool i])]=>some ([],.v (.c (.bool (I3 ⟨a,b,c,d,i⟩))),[])
 | _=>none
def rtA:Env:=qzH.set (C7 qzH.fn 22 A9w)
theorem H0x:A6 Tryz.prog rtA:=A4 C9q 22 A9w (A3 Tryz.func22 rfl rfl) fun args o r es h _=>by
 unfold A9w at h;split at h
 ·cases h;exact A2 C9q Tryz.func22 (H5i _ _ _ _ _) trivial
 ·cases h
def B9o:B1
 | []=>some ([],.v (.a O5.its),[])
 | _=>none
def rtC:Env:=rtA.set (C7 rtA.fn 16 B9o)
theorem G7a:A6 Tryz.prog rtC:=A4 H0x 16 B9o (A3 Tryz.func16 rfl rfl) fun args o r es h _=>by
 unfold B9o at h;split at h
 ·cases h;exact E8p
 ·cases h
def rtG:Env:=rtC
theorem G7m:A6 Tryz.prog rtG:=G7a
end

section

theorem G4b:(-1:Fp)=Fin.ofNat pN (pN-1):=by decide +kernel
theorem F2q:(Fin.ofNat pN (pN-1)).val=pN-1:=by decide +kernel
theorem D3g:pN-1=(pN-1) / 2+(pN-1) / 2:=by decide +kernel
theorem F2k:B1j pN (pN-1) 384 ((pN-1) / 2)≠1:=by decide +kernel
theorem E1s:(pN-1) / 2<2 ^ 384:=by decide +kernel
theorem G0u:(0:Fp)*0 ≠ -1:=by decide +kernel
theorem G0r (t:Fp):t*t ≠ -1:=by
 intro h;by_cases ht:t=0
 ·rw[ht] at h
  exact G0u h
 ·have e:=D8d t ((pN-1) / 2)
  rw[<-D3g,A5k t ht,h,G4b] at e;have:=congrArg Fin.val e
  rw[A3n _ 384 _ E1s,F2q,A3f] at this;exact F2k this

theorem D5f:(1:F2)≠0:=by decide +kernel
theorem D1e:(1:F2)+1≠0:=by decide +kernel
theorem G6l:nQ2 ((0:F2)-fq4)=Fin.ofNat pN 32:=by decide +kernel
theorem G3t:(Fin.ofNat pN 32).val=32:=by decide +kernel
theorem H1y:B1j pN 32 384 ((pN-1) / 3)≠1:=by decide +kernel

theorem D1v {a b:F2} (h:a+b=0):a=0-b:=neg_of_sumR h
where neg_of_sumR {r:Nat} [NeZero r] {a b:Q2 r} (h:a+b=0):a=0-b:=by grind

theorem H1c (x:F2):x*x*x+fq4≠0:=by
 intro h;have h:=congrArg nQ2 (D1v h);rw[G6l,B0e,B0e] at h;refine C5w _ (fun e=>?_) (fun e=>?_) (nQ2 x) h
 ·have:=congrArg Fin.val e
  rw[A3n _ 384 _ B9e,G3t,A3f] at this;exact H1y this
 ·have:=congrArg Fin.val e
  rw[G3t] at this;revert this
  decide +kernel

instance fldQ:Fld F2:=
  { (ringQ2:J9 (Q2 pN)) with
    inv:=A0f ivP
    mul_inv:=F2z ivP C9f (F4q ivP C9f G0r)
    one_ne:=D5f }

theorem cv2:Cv fq4:=⟨D1e,H1c⟩

/-- A point outside, as a point; and back. -/
def pG2 (a:G2D):Pt F2:=if a.inf then none else some (D6 a.xa a.xb,D6 a.ya a.yb)
def gP2:Pt F2->G2D
 | none=>⟨0,0,0,0,true⟩
 | some p=>⟨B8 p.1.1,B8 p.1.2,B8 p.2.1,B8 p.2.2,false⟩

theorem W8 (x:F2):D6 (B8 x.1) (B8 x.2)=x:=by
 unfold D6;rw[A2k,A2k]

theorem D6b:∀P:Pt F2,pG2 (gP2 P)=P
 | none=>rfl
 | some p=>by
  show some (D6 (B8 p.1.1) (B8 p.1.2),D6 (B8 p.2.1) (B8 p.2.2))=some p;rw[W8,W8]

theorem A1u {a:G2D} (h:I3 a=true):gP2 (pG2 a)=a∧OnC fq4 (pG2 a):=by
 obtain ⟨xa,xb,ya,yb,i⟩:=a
 cases i with
 | true=>
  have h:(decide (xa=0) && (decide (xb=0) && (decide (ya=0) && decide (yb=0))))=true:=h;simp only[Bool.and_eq_true,decide_eq_true_eq] at h;obtain ⟨rfl,rfl,rfl,rfl⟩:=h;exact ⟨rfl,True.intro⟩
 | false=>
  have h:((decide (B8 (inP xa)=xa) && decide (B8 (inP xb)=xb)) && ((decide (B8 (inP ya)=ya) && decide (B8 (inP yb)=yb)) && decide (D6 ya yb*D6 ya yb=D6 xa xb*D6 xa xb*D6 xa xb+fq4)))=true:=h;simp only[Bool.and_eq_true,decide_eq_true_eq] at h;obtain ⟨⟨h1,h2⟩,⟨h3,h4⟩,h5⟩:=h;refine ⟨?_,h5⟩
  show (⟨B8 (inP xa),B8 (inP xb),B8 (inP ya),B8 (inP yb),false⟩:G2D)=⟨xa,xb,ya,yb,false⟩;rw[h1,h2,h3,h4]

theorem D0a:∀{P:Pt F2},OnC fq4 P->I3 (gP2 P)=true
 | none,_=>by
  show (decide ((0:U6)=0) && (decide ((0:U6)=0) && (decide ((0:U6)=0) && decide ((0:U6)=0))))=true;rw[decide_eq_true rfl];rfl
 | some p,h=>by
  have h:p.2*p.2=p.1*p.1*p.1+fq4:=h;show ((decide (B8 (inP (B8 p.1.1))=B8 p.1.1) && decide (B8 (inP (B8 p.1.2))=B8 p.1.2)) && ((decide (B8 (inP (B8 p.2.1))=B8 p.2.1) && decide (B8 (inP (B8 p.2.2))=B8 p.2.2)) && decide (D6 (B8 p.2.1) (B8 p.2.2)*D6 (B8 p.2.1) (B8 p.2.2)=D6 (B8 p.1.1) (B8 p.1.2)*D6 (B8 p.1.1) (B8 p.1.2)*D6 (B8 p.1.1) (B8 p.1.2)+fq4)))=true;rw[W8,W8,A2k,A2k,A2k,A2k,decide_eq_true rfl,decide_eq_true rfl,decide_eq_true rfl,decide_eq_true rfl,decide_eq_true h];rfl

theorem C7u:(1:F2)*1=1:=by decide +kernel
theorem F8w:((fp1,0):F2)=1:=by decide +kernel
theorem E5u {r:Nat} [NeZero r] (x:Q2 r):x*1=x:=by grind
theorem D0g (x:F2):x*1=x:=E5u x
theorem B6j (a:G2D):Jc (pG2 a) (P4 a):=by
 obtain ⟨xa,xb,ya,yb,i⟩:=a
 cases i with
 | true=>exact (rfl:(0:F2)=0)
 | false=>
  show Jc (some (D6 xa xb,D6 ya yb)) (D6 xa xb,D6 ya yb,(fp1,0));rw[F8w];refine ⟨D5f,?_,?_⟩
  ·show D6 xa xb=D6 xa xb*(1*1)
   rw[C7u,D0g]
  ·show D6 ya yb=D6 ya yb*(1*1*1)
   rw[C7u,C7u,D0g]

theorem D1u {P:Pt F2} {t:F2×F2×F2} (h:Jc P t):A1y t=gP2 P:=by
 rw[<-F1m P t h];unfold A1y jpt;by_cases hz:t.2.2=0
 ·rw[if_pos hz,if_pos hz];rfl
 ·rw[if_neg hz,if_neg hz];rfl

theorem D0n (a b:G2D):C3l a b=gP2 (I5 (pG2 a) (pG2 b)):=D1u (A3p D1e _ _ _ _ (B6j a) (B6j b))
theorem D2d (a:G2D):C5d a=gP2 (A7d (pG2 a)):=D1u (D9i _ _ (B6j a))
theorem G1z (a b:G2D):pG2 (C3l a b)=I5 (pG2 a) (pG2 b):=by rw[D0n,D6b]
theorem F7z (a:G2D):pG2 (C5d a)=A7d (pG2 a):=by rw[D2d,D6b]
theorem E0o {a b:G2D} (ha:I3 a=true) (hb:I3 b=true):I3 (C3l a b)=true:=by
 rw[D0n];exact D0a (A0h cv2 _ _ (A1u ha).2 (A1u hb).2)
theorem E1d {a:G2D} (ha:I3 a=true):I3 (C5d a)=true:=by
 rw[D2d];exact D0a (A1o _ (A1u ha).2)
end

section

def rtL:Env:=rtG
theorem G9a:A6 Tryz.prog rtL:=G7m
def rtM:Env:=rtL
theorem A1c:A6 Tryz.prog rtM:=G9a
end

section
section
variable {w0:World} {F0:Nat->Prop} {K:Kp} {ac:List Act} {Q:Exit->Act->World->Prop} {cX:Ctx} {aX:Act}

--@env rtM A1c
def D7p:List KI:=(run rtM false 3000 ((fun (a b c d e f:Fp) (k:U4)=>(⟨[.code (B7 Tryz.f44)],.normal,E4 Tryz.f44.ntmps [.v (.a [.ob (.p a),.ob (.p b),.ob (.p c),.ob (.p d),.ob (.p e),.ob (.p f)]),.v (.a [.ob (.fr k)])]⟩:Cfg)) default default default default default default default) []).cfg.k
theorem ny (a b c d e f:Fp) (k:U4) (ho:A7 [(0<=(0:Int)),(0<(16:Int))]):Sg Tryz.prog (E4 Tryz.f44.ntmps [.v (.a [.ob (.p a),.ob (.p b),.ob (.p c),.ob (.p d),.ob (.p e),.ob (.p f)]),.v (.a [.ob (.fr k)])]) (A8 43 [2,3,4,5,6] [.pt 16 0,.pt 32 0,.pt 48 0,.pt 64 0,.ii (1:Int)] [16,32,48,64] [(eF_ [.ob (.p a),.ob (.p b),.ob (.p c),.ob (.p d),.ob (.p e),.ob (.p f)]),(eF_ [.ob (.fr k)]),(eF_ [(.ob (.p (0:Fp))),(.ob (.p (0:Fp))),(.ob (.p (0:Fp))),(.ob (.p (0:Fp))),(.ob (.p (0:Fp))),(.ob (.p (0:Fp)))]),(eF_ [.ob (.p a),.ob (.p b),.ob (.p c),.ob (.p d),(.ob (.p (0:Fp))),(.ob (.p (0:Fp))),(.ob (.p (0:Fp))),(.ob (.p (0:Fp))),(.ob (.p (0:Fp))),(.ob (.p (0:Fp))),(.ob (.p (0:Fp))),(.ob (.p (0:Fp))),(.ob (.p (0:Fp))),(.ob (.p (0:Fp))),(.ob (.p (0:Fp))),(.ob (.p (0:Fp))),(.ob (.p (0:Fp))),(.ob (.p (0:Fp))),(.ob (.p (0:Fp))),(.ob (.p (0:Fp))),(.ob (.p (0:Fp))),(.ob (.p (0:Fp))),(.ob (.p (0:Fp))),(.ob (.p (0:Fp))),(.ob (.p (0:Fp))),(.ob (.p (0:Fp))),(.ob (.p (0:Fp))),(.ob (.p (0:Fp))),(.ob (.p (0:Fp))),(.ob (.p (0:Fp))),(.ob (.p (0:Fp))),(.ob (.p (0:Fp))),(.ob (.p (0:Fp))),(.ob (.p (0:Fp))),(.ob (.p (0:Fp))),(.ob (.p (0:Fp))),(.ob (.p (0:Fp))),(.ob (.p (0:Fp))),(.ob (.p (0:Fp))),(.ob (.p (0:Fp))),(.ob (.p (0:Fp))),(.ob (.p (0:Fp))),(.ob (.p (0:Fp))),(.ob (.p (0:Fp))),(.ob (.p (0:Fp))),(.ob (.p (0:Fp))),(.ob (.p (0:Fp))),(.ob (.p (0:Fp))),(.ob (.p (0:Fp))),(.ob (.p (0:Fp))),(.ob (.p (0:Fp))),(.ob (.p (0:Fp))),(.ob (.p (0:Fp))),(.ob (.p (0:Fp))),(.ob (.p (0:Fp))),(.ob (.p (0:Fp))),(.ob (.p (0:Fp))),(.ob (.p (0:Fp))),(.ob (.p (0:Fp))),(.ob (.p (0:Fp))),(.ob (.p (0:Fp))),(.ob (.p (0:Fp))),(.ob (.p (0:Fp))),(.ob (.p (0:Fp))),(.ob (.p (0:Fp))),(.ob (.p (0:Fp))),(.ob (.p (0:Fp))),(.ob (.p (0:Fp))),(.ob (.p (0:Fp))),(.ob (.p (0:Fp))),(.ob (.p (0:Fp))),(.ob (.p (0:Fp))),(.ob (.p (0:Fp))),(.ob (.p (0:Fp))),(.ob (.p (0:Fp))),(.ob (.p (0:Fp))),(.ob (.p (0:Fp))),(.ob (.p (0:Fp))),(.ob (.p (0:Fp))),(.ob (.p (0:Fp))),(.ob (.p (0:Fp))),(.ob (.p (0:Fp))),(.ob (.p (0:Fp))),(.ob (.p (0:Fp))),(.ob (.p (0:Fp))),(.ob (.p (0:Fp))),(.ob (.p (0:Fp))),(.ob (.p (0:Fp))),(.ob (.p (0:Fp))),(.ob (.p (0:Fp))),(.ob (.p (0:Fp))),(.ob (.p (0:Fp))),(.ob (.p (0:Fp))),(.ob (.p (0:Fp))),(.ob (.p (0:Fp))),(.ob (.p (0:Fp)))])] 208 [] []) .normal (D7p) ([.code (B7 Tryz.f44)]):=fun hs hK=>
 A5 (unroll:=false) (n:=3000) (path:=[]) (o:=⟨_,_,_,_,_,_,_⟩) A1c (by kernel_rfl) (by kernel_rfl) ho hs hK
def nyS (a b c d e f:Fp) (k:U4) (L:List (F2×F2×F2)) (i:Int):St:=A8 43 [2,3,4,5,6] [.pt 16 0,.pt 32 0,.pt 48 0,.pt 64 0,.v (.c (.int .i64 i))] [16,32,48,64] [(eF_ [.ob (.p a),.ob (.p b),.ob (.p c),.ob (.p d),.ob (.p e),.ob (.p f)]),(eF_ [.ob (.fr k)]),(eF_ [(.ob (.p (0:Fp))),(.ob (.p (0:Fp))),(.ob (.p (0:Fp))),(.ob (.p (0:Fp))),(.ob (.p (0:Fp))),(.ob (.p (0:Fp)))]),some (.sq (.pt2 L))] 208 [] []
theorem nyA (a b c d e f:Fp) (k:U4) (L:List (F2×F2×F2)) (i:Int) (ho:A7 [((decide (i<(16:Int)))=true),(0<=(wrap .i64 (i-1))),((wrap .i64 (i-1))<(16:Int)),(0=0),(((wrap .i64 (i-1))).toNat<L.length),(0<=i),(i<(16:Int)),(0=0),((i).toNat<L.length)]):Sg Tryz.prog (nyS a b c d e f k L i) (A8 43 [2,3,4,5,6] [.pt 16 0,.pt 32 0,.pt 48 0,.pt 64 0,(.ii (wrap .i64 (i+1)))] [16,32,48,64] [(eF_ [.ob (.p a),.ob (.p b),.ob (.p c),.ob (.p d),.ob (.p e),.ob (.p f)]),(eF_ [.ob (.fr k)]),(eF_ [(.ob (.p (0:Fp))),(.ob (.p (0:Fp))),(.ob (.p (0:Fp))),(.ob (.p (0:Fp))),(.ob (.p (0:Fp))),(.ob (.p (0:Fp)))]),(eQ_ (Sq.pt2 (List.set L (i).toNat (jpl (List.getD L ((wrap .i64 (i-1))).toNat T8) ((a,b),((c,d),(e,f)))))))] 432 [] []) .normal (N8 D7p) (E7 D7p):=fun hs hK=>
 A5 (unroll:=false) (n:=3000) (path:=[true]) (o:=⟨_,_,_,_,_,_,_⟩) A1c (by kernel_rfl) (by kernel_rfl) ho hs hK
def B0m:List KI:=(run rtM false 3000 ((fun (a b c d e f:Fp) (k:U4) (L:List (F2×F2×F2)) (i:Int)=>(⟨E7 D7p,.normal,nyS a b c d e f k L i⟩:Cfg)) default default default default default default default default default) [false]).cfg.k
theorem nyB (a b c d e f:Fp) (k:U4) (L:List (F2×F2×F2)) (i:Int) (ho:A7 [((decide (i<(16:Int)))=false),(0<=(0:Int)),(0<(16:Int)),(0=0),(0<L.length)]):Sg Tryz.prog (nyS a b c d e f k L i) (A8 43 [4,5,7,30] [.pt 48 0,.pt 64 0,.pt 272 0,(.ci (.clo 121 [(320,0)]))] [48,64,272,320] [(eF_ [(.ob (.p (0:Fp))),(.ob (.p (0:Fp))),(.ob (.p (0:Fp))),(.ob (.p (0:Fp))),(.ob (.p (0:Fp))),(.ob (.p (0:Fp)))]),(eQ_ (Sq.pt2 L)),(eF_ [(.ob (.p (Prod.fst (Prod.fst (List.getD L 0 T8))))),(.ob (.p (Prod.snd (Prod.fst (List.getD L 0 T8))))),(.ob (.p (Prod.fst (Prod.fst (Prod.snd (List.getD L 0 T8)))))),(.ob (.p (Prod.snd (Prod.fst (Prod.snd (List.getD L 0 T8)))))),(.ob (.p (Prod.fst (Prod.snd (Prod.snd (List.getD L 0 T8)))))),(.ob (.p (Prod.snd (Prod.snd (Prod.snd (List.getD L 0 T8))))))]),(eF_ [.ob (.fr k)])] 384 [] []) .normal (B0m) (E7 D7p):=fun hs hK=>
 A5 (unroll:=false) (n:=3000) (path:=[false]) (o:=⟨_,_,_,_,_,_,_⟩) A1c (by kernel_rfl) (by kernel_rfl) ho hs hK
def nyR (k:U4) (L:List (F2×F2×F2)) (o:F2×F2×F2):St:=A8 43 [4,5,7,30] [.pt 48 0,.pt 64 0,.pt 272 0,(.ci (.clo 121 [(320,0)]))] [48,64,272,320] [(eF_ [(.ob (.p (0:Fp))),(.ob (.p (0:Fp))),(.ob (.p (0:Fp))),(.ob (.p (0:Fp))),(.ob (.p (0:Fp))),(.ob (.p (0:Fp)))]),(eQ_ (Sq.pt2 L)),some (.fl [.ob (.p o.1.1),.ob (.p o.1.2),.ob (.p o.2.1.1),.ob (.p o.2.1.2),.ob (.p o.2.2.1),.ob (.p o.2.2.2)]),(eF_ [.ob (.fr k)])] 384 [] []
theorem nrA (k:U4) (L:List (F2×F2×F2)) (o:F2×F2×F2) (d:Int) {ρ:Option Nat} (ho:A7 []) (hs:Sim w0 F0 K ac (U3 (nyR k L o) [(31,.v (.c (.int .i64 d)))]) cX aX) (hK:∀cY aY,Sim w0 F0 K ac (A8 43 [4,5,7,8] [.pt 48 0,.pt 64 0,.pt 272 0,.ii d] [48,64,272,320] [(eF_ [(.ob (.p (0:Fp))),(.ob (.p (0:Fp))),(.ob (.p (0:Fp))),(.ob (.p (0:Fp))),(.ob (.p (0:Fp))),(.ob (.p (0:Fp)))]),(eQ_ (Sq.pt2 L)),(eF_ [(.ob (.p (Prod.fst (Prod.fst o)))),(.ob (.p (Prod.snd (Prod.fst o)))),(.ob (.p (Prod.fst (Prod.fst (Prod.snd o))))),(.ob (.p (Prod.snd (Prod.fst (Prod.snd o))))),(.ob (.p (Prod.fst (Prod.snd (Prod.snd o))))),(.ob (.p (Prod.snd (Prod.snd (Prod.snd o)))))]),(eF_ [.ob (.fr k)])] 400 [[4,5,7,30]] [([.pt 48 0,.pt 64 0,.pt 272 0,(.ci (.clo 121 [(320,0)]))],43)]) cY aY->Wq Tryz.prog Q ([]) ac Exit.normal aY cY.w ρ):Wq Tryz.prog Q ([.code (rfA B0m)]) ac .normal aX cX.w ρ :=
 F8 (unroll:=false) (n:=3000) (path:=[]) (o:=⟨_,_,_,_,_,_,_⟩) A1c (by kernel_rfl) (by kernel_rfl) ho (by kernel_rfl) (by kernel_rfl) hs hK
def nrB (k:U4) (L:List (F2×F2×F2)) (o:F2×F2×F2) (d:Int):St:=A8 43 [4,5,7,8] [.pt 48 0,.pt 64 0,.pt 272 0,.ii d] [48,64,272,320] [(eF_ [(.ob (.p (0:Fp))),(.ob (.p (0:Fp))),(.ob (.p (0:Fp))),(.ob (.p (0:Fp))),(.ob (.p (0:Fp))),(.ob (.p (0:Fp)))]),(eQ_ (Sq.pt2 L)),some (.fl [.ob (.p o.1.1),.ob (.p o.1.2),.ob (.p o.2.1.1),.ob (.p o.2.1.2),.ob (.p o.2.2.1),.ob (.p o.2.2.2)]),(eF_ [.ob (.fr k)])] 400 [[4,5,7,30]] [([.pt 48 0,.pt 64 0,.pt 272 0,(.ci (.clo 121 [(320,0)]))],43)]
def C2t:List KI:=(run rtM false 3000 ((fun (k:U4) (L:List (F2×F2×F2)) (o:F2×F2×F2) (d:Int)=>(⟨[.code (rfB B0m)],.normal,nrB k L o d⟩:Cfg)) default default default default) []).cfg.k
theorem nrC (k:U4) (L:List (F2×F2×F2)) (o:F2×F2×F2) (d:Int) {ρ:Option Nat} (ho:A7 []) (hs:Sim w0 F0 K ac (nrB k L o d) cX aX) (hK:∀cY aY,Sim w0 F0 K ac (A8 43 [4,5,7,8,32] [.pt 48 0,.pt 64 0,.pt 272 0,.ii d,.ii (0:Int)] [48,64,272,320] [(eF_ [(.ob (.p (0:Fp))),(.ob (.p (0:Fp))),(.ob (.p (0:Fp))),(.ob (.p (0:Fp))),(.ob (.p (0:Fp))),(.ob (.p (0:Fp)))]),(eQ_ (Sq.pt2 L)),(eF_ [(.ob (.p (Prod.fst (Prod.fst o)))),(.ob (.p (Prod.snd (Prod.fst o)))),(.ob (.p (Prod.fst (Prod.fst (Prod.snd o))))),(.ob (.p (Prod.snd (Prod.fst (Prod.snd o))))),(.ob (.p (Prod.fst (Prod.snd (Prod.snd o))))),(.ob (.p (Prod.snd (Prod.snd (Prod.snd o)))))]),(eF_ [.ob (.fr k)])] 416 [[4,5,7,30]] [([.pt 48 0,.pt 64 0,.pt 272 0,(.ci (.clo 121 [(320,0)]))],43)]) cY aY->Wq Tryz.prog Q (C2t) ac Exit.normal aY cY.w ρ):Wq Tryz.prog Q ([.code (rfB B0m)]) ac .normal aX cX.w ρ :=
 F8 (unroll:=false) (n:=3000) (path:=[]) (o:=⟨_,_,_,_,_,_,_⟩) A1c (by kernel_rfl) (by kernel_rfl) ho (by kernel_rfl) (by kernel_rfl) hs hK
def nrS (k:U4) (L:List (F2×F2×F2)) (o:F2×F2×F2) (d j:Int):St:=A8 43 [4,5,7,8,32] [.pt 48 0,.pt 64 0,.pt 272 0,.ii d,.v (.c (.int .i64 j))] [48,64,272,320] [(eF_ [(.ob (.p (0:Fp))),(.ob (.p (0:Fp))),(.ob (.p (0:Fp))),(.ob (.p (0:Fp))),(.ob (.p (0:Fp))),(.ob (.p (0:Fp)))]),(eQ_ (Sq.pt2 L)),some (.fl [.ob (.p o.1.1),.ob (.p o.1.2),.ob (.p o.2.1.1),.ob (.p o.2.1.2),.ob (.p o.2.2.1),.ob (.p o.2.2.2)]),(eF_ [.ob (.fr k)])] 416 [[4,5,7,30]] [([.pt 48 0,.pt 64 0,.pt 272 0,(.ci (.clo 121 [(320,0)]))],43)]
theorem nrD (k:U4) (L:List (F2×F2×F2)) (o:F2×F2×F2) (d j:Int) {ρ:Option Nat} (ho:A7 [((decide (j<(4:Int)))=true)]) (hs:Sim w0 F0 K ac (nrS k L o d j) cX aX) (hK:∀cY aY,Sim w0 F0 K ac (A8 43 [4,5,7,8,32] [.pt 48 0,.pt 64 0,.pt 272 0,.ii d,(.ii (wrap .i64 (j+1)))] [48,64,272,320] [(eF_ [(.ob (.p (0:Fp))),(.ob (.p (0:Fp))),(.ob (.p (0:Fp))),(.ob (.p (0:Fp))),(.ob (.p (0:Fp))),(.ob (.p (0:Fp)))]),(eQ_ (Sq.pt2 L)),(eF_ [(.ob (.p (Prod.fst (Prod.fst (jtw o))))),(.ob (.p (Prod.snd (Prod.fst (jtw o))))),(.ob (.p (Prod.fst (Prod.fst (Prod.snd (jtw o)))))),(.ob (.p (Prod.snd (Prod.fst (Prod.snd (jtw o)))))),(.ob (.p (Prod.fst (Prod.snd (Prod.snd (jtw o)))))),(.ob (.p (Prod.snd (Prod.snd (Prod.snd (jtw o))))))]),(eF_ [.ob (.fr k)])] 512 [[4,5,7,30]] [([.pt 48 0,.pt 64 0,.pt 272 0,(.ci (.clo 121 [(320,0)]))],43)]) cY aY->Wq Tryz.prog Q (N8 C2t) ac Exit.normal aY cY.w ρ):Wq Tryz.prog Q (E7 C2t) ac .normal aX cX.w ρ :=
 F8 (unroll:=false) (n:=3000) (path:=[true]) (o:=⟨_,_,_,_,_,_,_⟩) A1c (by kernel_rfl) (by kernel_rfl) ho (by kernel_rfl) (by kernel_rfl) hs hK
theorem nrE (k:U4) (L:List (F2×F2×F2)) (o:F2×F2×F2) (d j:Int) {ρ:Option Nat} (ho:A7 [((decide (j<(4:Int)))=false),(0<=d),(d<(16:Int)),(0=0),((d).toNat<L.length)]) (hs:Sim w0 F0 K ac (nrS k L o d j) cX aX) (hK:∀cY aY,Sim w0 F0 K ac (A8 43 [4] [.pt 48 0] [48,64,272,320] [(eF_ [(.ob (.p (0:Fp))),(.ob (.p (0:Fp))),(.ob (.p (0:Fp))),(.ob (.p (0:Fp))),(.ob (.p (0:Fp))),(.ob (.p (0:Fp)))]),(eQ_ (Sq.pt2 L)),(eF_ [(.ob (.p (Prod.fst (Prod.fst (jpl o (List.getD L (d).toNat T8)))))),(.ob (.p (Prod.snd (Prod.fst (jpl o (List.getD L (d).toNat T8)))))),(.ob (.p (Prod.fst (Prod.fst (Prod.snd (jpl o (List.getD L (d).toNat T8))))))),(.ob (.p (Prod.snd (Prod.fst (Prod.snd (jpl o (List.getD L (d).toNat T8))))))),(.ob (.p (Prod.fst (Prod.snd (Prod.snd (jpl o (List.getD L (d).toNat T8))))))),(.ob (.p (Prod.snd (Prod.snd (Prod.snd (jpl o (List.getD L (d).toNat T8)))))))]),(eF_ [.ob (.fr k)])] 528 [[4,5,7,30]] [([.pt 48 0,.pt 64 0,.pt 272 0,(.ci (.clo 121 [(320,0)]))],43)]) cY aY->Wq Tryz.prog Q ([]) ac Exit.normal aY cY.w ρ):Wq Tryz.prog Q (E7 C2t) ac .normal aX cX.w ρ :=
 F8 (unroll:=false) (n:=3000) (path:=[false]) (o:=⟨_,_,_,_,_,_,_⟩) A1c (by kernel_rfl) (by kernel_rfl) ho (by kernel_rfl) (by kernel_rfl) hs hK
def nrF (k:U4) (L:List (F2×F2×F2)) (o:F2×F2×F2):St:=A8 43 [4] [.pt 48 0] [48,64,272,320] [(eF_ [(.ob (.p (0:Fp))),(.ob (.p (0:Fp))),(.ob (.p (0:Fp))),(.ob (.p (0:Fp))),(.ob (.p (0:Fp))),(.ob (.p (0:Fp)))]),(eQ_ (Sq.pt2 L)),some (.fl [.ob (.p o.1.1),.ob (.p o.1.2),.ob (.p o.2.1.1),.ob (.p o.2.1.2),.ob (.p o.2.2.1),.ob (.p o.2.2.2)]),(eF_ [.ob (.fr k)])] 528 [[4,5,7,30]] [([.pt 48 0,.pt 64 0,.pt 272 0,(.ci (.clo 121 [(320,0)]))],43)]
theorem nrX (k:U4) (L:List (F2×F2×F2)) (o:F2×F2×F2) (ho:A7 []):Sg Tryz.prog (nyR k L o) (A8 43 [4] [.pt 48 0] [48] [(eF_ [(.ob (.p (Prod.fst (Prod.fst o)))),(.ob (.p (Prod.snd (Prod.fst o)))),(.ob (.p (Prod.fst (Prod.fst (Prod.snd o))))),(.ob (.p (Prod.snd (Prod.fst (Prod.snd o))))),(.ob (.p (Prod.fst (Prod.snd (Prod.snd o))))),(.ob (.p (Prod.snd (Prod.snd (Prod.snd o)))))])] 416 [] []) .ret ([]) (rfR B0m):=fun hs hK=>
 A5 (unroll:=false) (n:=3000) (path:=[]) (o:=⟨_,_,_,_,_,_,_⟩) A1c (by kernel_rfl) (by kernel_rfl) ho hs hK
def nrZ (o:F2×F2×F2):St:=A8 43 [4] [.pt 48 0] [48] [some (.fl [.ob (.p o.1.1),.ob (.p o.1.2),.ob (.p o.2.1.1),.ob (.p o.2.1.2),.ob (.p o.2.2.1),.ob (.p o.2.2.2)])] 416 [] []
theorem F8x (o:F2×F2×F2):I0 rtM Tryz.f44 false 3000 (⟨[],.ret,nrZ o⟩) [] [] []=(some ([],((.v (.a [(.ob (.p (Prod.fst (Prod.fst o)))),(.ob (.p (Prod.snd (Prod.fst o)))),(.ob (.p (Prod.fst (Prod.fst (Prod.snd o))))),(.ob (.p (Prod.snd (Prod.fst (Prod.snd o))))),(.ob (.p (Prod.fst (Prod.snd (Prod.snd o))))),(.ob (.p (Prod.snd (Prod.snd (Prod.snd o)))))])),[]))):=by kernel_rfl
end
end

section

/-- Sixteen points of the second curve, one behind the other. -/
def C5v (l:List (F2×F2×F2)):Nat->Nat->List It
 | _,0=>[]
 | i,n+1=>.ob (.p (l.getD i T8).1.1) :: .ob (.p (l.getD i T8).1.2) :: .ob (.p (l.getD i T8).2.1.1) :: .ob (.p (l.getD i T8).2.1.2) :: .ob (.p (l.getD i T8).2.2.1) :: .ob (.p (l.getD i T8).2.2.2)::C5v l (i+1) n

theorem C4e {x:Ctx} (L:List (F2×F2×F2)):∀(n i:Nat) (cs:List Value),C0 x.D (C5v L i n) cs->cs.length=n*36∧∀j,j<n->∃c,C0 x.D (K7 (L.getD (i+j) T8)) c∧∀(q:Nat) (v:Value),c[q]? = some v->cs[j*36+q]? = some v
 | 0,i,cs,h=>by
  have h:cs=[]:=h;subst h;exact ⟨rfl,fun j hj=>absurd hj (Nat.not_lt_zero _)⟩
 | n+1,i,cs,h=>by
  obtain ⟨c1,r1,e1,h1,c2,r2,e2,h2,c3,r3,e3,h3,c4,r4,e4,h4,c5,r5,e5,h5,c6,r6,e6,h6,h7⟩:=h;obtain ⟨hl,hj⟩:=C4e L n (i+1) r6 h7;have l1:c1.length=6:=Y5 h1;have l2:c2.length=6:=Y5 h2;have l3:c3.length=6:=Y5 h3;have l4:c4.length=6:=Y5 h4;have l5:c5.length=6:=Y5 h5;have l6:c6.length=6:=Y5 h6;subst e1 e2 e3 e4 e5 e6;refine ⟨by simp only[List.length_append];omega,fun j hjn=>?_⟩
  have e:c1++(c2++(c3++(c4++(c5++(c6++r6)))))=(c1++(c2++(c3++(c4++(c5++c6)))))++r6:=by simp
  have hl36:(c1++(c2++(c3++(c4++(c5++c6))))).length=36:=by simp only[List.length_append];omega
  cases j with
  | zero=>
   refine ⟨c1++(c2++(c3++(c4++(c5++(c6++[]))))),⟨c1,_,rfl,h1,c2,_,rfl,h2,c3,_,rfl,h3,c4,_,rfl,h4,c5,_,rfl,h5,c6,_,rfl,h6,rfl⟩,fun q v hq=>?_⟩
   rw[List.append_nil] at hq;have hlt:q<(c1++(c2++(c3++(c4++(c5++c6))))).length:=by
    rcases Nat.lt_or_ge q (c1++(c2++(c3++(c4++(c5++c6))))).length with h | h
    ·exact h
    ·rw[List.getElem?_eq_none h] at hq;cases hq
   rw[Nat.zero_mul,Nat.zero_add,<-hq,e,List.getElem?_append_left hlt]
  | succ j=>
   obtain ⟨c,hc,hv⟩:=hj j (by omega)
   rw[show i+1+j=i+(j+1) from by omega] at hc
   refine ⟨c,hc,fun q v hq=>?_⟩
   rw[e,List.getElem?_append_right (by rw[hl36];omega),hl36,show (j+1)*36+q-36=j*36+q from by omega]
   exact hv q v hq

theorem E3p {x:Ctx} (L:List (F2×F2×F2)) (h:L.length=16) (cs:List Value) (hc:C4 x (.fl (C5v L 0 16)) cs):C4 x (.sq (.pt2 L)) cs:=by
 obtain ⟨hl,hj⟩:=C4e L 16 0 cs hc;refine ⟨?_,fun i hi=>?_⟩
 ·show L.length*36<=cs.length
  rw[h,hl];exact Nat.le_refl _
 ·have hi:i<L.length:=hi
  rw[h] at hi;obtain ⟨c,h1,h2⟩:=hj i hi;rw[Nat.zero_add] at h1;exact ⟨c,h1,h2⟩

def G3l (x y:F2):List (F2×F2×F2):=(x,y,0)::List.replicate 15 T8

theorem E4h (a b c d e f:Fp) (k:U4):FnD Tryz.prog 44 [.v (.a [.ob (.p a),.ob (.p b),.ob (.p c),.ob (.p d),.ob (.p e),.ob (.p f)]),.v (.a [.ob (.fr k)])] (.v (.a (K7 (jmn (F:=F2) ((a,b),(c,d),(e,f)) (dgT k.val 64))))) []:=by
 generalize hpa:(((a,b),(c,d),(e,f)):F2×F2×F2)=pa;refine Q8 (fn:=Tryz.f44) (c:=B7 Tryz.f44) Tryz.func44 rfl rfl fun x0 a0 hk hF hs=>?_
 refine ny a b c d e f k ⟨by decide,by decide,trivial⟩ hs fun ac cY aY hs1=>?_
 have hs2:=hs1.blocks (ens' := [some (.fl [.ob (.p a),.ob (.p b),.ob (.p c),.ob (.p d),.ob (.p e),.ob (.p f)]),some (.fl [.ob (.fr k)]),some (.fl [.ob (.p 0),.ob (.p 0),.ob (.p 0),.ob (.p 0),.ob (.p 0),.ob (.p 0)]),some (.sq (.pt2 (G3l (a,b) (c,d))))])
  ⟨.inl rfl,.inl rfl,.inl rfl,.inr ⟨_,_,_,rfl,rfl,rfl,fun cs h=>E3p _ rfl cs h⟩,trivial⟩
 refine F4 (ι:={ p:Nat×List (F2×F2×F2) // 1<=p.1∧p.1<=16∧p.2.length=16∧∀j,j<p.1->p.2.getD j T8=T0 pa j }) (fun p=>nyS a b c d e f k p.1.2 (p.1.1:Int)) (fun p=>16-p.1.1) (c:=lpC D7p) (k:=lpR D7p) (by kernel_rfl) (fun p ih ac cY aY hs=>?_)
  ⟨(1,G3l (a,b) (c,d)),Nat.le_refl 1,by show (1:Nat)<=16;omega,rfl,fun j hj=>by
   have:j=0:=by have hj:j<1:=hj;omega
   subst this;rw[<-hpa];rfl⟩ (hs2.nx _)
 obtain ⟨⟨i,L⟩,h1,h16,hL,htab⟩:=p;simp only at ih hs h1 h16 hL htab
 by_cases hi:i<16
 ·have e1:wrap IntKind.i64 ((i:Int)-1)=((i-1:Nat):Int):=by rw[B9 (by omega) (by omega)];omega
  have e2:wrap IntKind.i64 ((i:Int)+1)=((i+1:Nat):Int):=by rw[B9 (by omega) (by omega)];omega
  refine nyA a b c d e f k L i ⟨decide_eq_true (by omega),by rw[e1];omega,by rw[e1];omega,rfl,by rw[e1,Int.toNat_natCast,hL];omega,by omega,by omega,rfl,by rw[Int.toNat_natCast,hL];exact hi,trivial⟩ hs fun ac cZ aZ hs3=>?_
  rw[e1,e2,Int.toNat_natCast,Int.toNat_natCast,htab (i-1) (by omega),hpa] at hs3
  have e3:jpl (T0 pa (i-1)) pa=T0 pa i:=by
   obtain ⟨m,rfl⟩:∃m,i=m+1:=⟨i-1,by omega⟩
   rfl
  rw[e3] at hs3;refine ih ⟨(i+1,L.set i (T0 pa i)),by show 1<=i+1;omega,hi,by show (L.set i _).length=16;rw[List.length_set];exact hL,fun j hj=>?_⟩ (by show 16-(i+1)<16-i;omega) ac cZ aZ (hs3.nx _)
  have hj:j<i+1:=hj;show (L.set i (T0 pa i)).getD j T8=_;by_cases e:j=i
  ·subst e
   simp [List.getD,hL,hi]
  ·have:(L.set i (T0 pa i)).getD j T8=L.getD j T8:=by
    simp [List.getD,List.getElem?_set_ne (Ne.symm e)]
   rw[this];exact htab j (by omega)
 ·have:i=16:=by omega
  subst this;refine nyB a b c d e f k L _ ⟨by decide,by decide,by decide,rfl,by rw[hL];decide,trivial⟩ hs fun ac cZ aZ hs3=>?_
  rw[htab 0 (by decide)] at hs3
  obtain ⟨e1,e2⟩:=A1l (k:=B0m) (by kernel_rfl)
  rw[e1];have eP:(rfP B0m).toList=[31]:=by kernel_rfl
  have eG:rfG B0m = .tmp 30:=by kernel_rfl
  refine W5 (ps:=rfP B0m) e2 hs3 (gf:=121) (caps:=[(320,0)]) (A3 Tryz.func121 rfl rfl) (fun pre=>nyR k L (pre.foldl (jst pa) (T0 pa 0))) (fun s=>by rw[eG];rfl) ⟨_,rfl⟩ (dgT k.val 64) F5j E2l
   (fun y z=>.cons ⟨rfl,0,rfl⟩ .nil) (fun z=>by rw[<-Array.length_toList,eP];rfl) (fun pre p hp=>?_) (B4y fun s=>rfl) (fun pre d=>nrB k L (pre.foldl (jst pa) (T0 pa 0)) d)
   (fun pre d=>nrF k L ((pre++[d]).foldl (jst pa) (T0 pa 0))) (fun pre d=>⟨_,rfl⟩) (fun pre d hd w1 F1 K1 as1 Q1 l y1 b hs4 hQ=>?_) (fun pre d hd w1 F1 K1 as1 Q1 l y1 b hs4 hQ=>?_) fun D y1 hs4 hD hFD hd=>?_
  ·rw[eP] at hp
   have h43:(nyR k L (pre.foldl (jst pa) (T0 pa 0))).nt=43:=rfl;rw[h43];simp only[List.mem_cons,List.not_mem_nil,or_false] at hp;subst hp;decide
  ·rw[eP] at hs4
   exact nrA k L _ d trivial hs4 fun cZ aZ hs5=>⟨hQ _ _ (hs5.nx _)⟩
  ·have hd16:d<16:=by
    obtain ⟨r,hr⟩:=hd;exact D6p (n:=k.val) 64 d (by rw[hr];simp)
   rw[List.foldl_append] at hQ;generalize pre.foldl (jst pa) (T0 pa 0)=o at hs4 hQ;have hst:List.foldl (jst pa) o [d]=jpl (A2x 4 o) (L.getD d T8):=by
    rw[htab d hd16,List.foldl_cons,List.foldl_nil];exact F9c pa o d
   rw[hst] at hQ;refine nrC k L o d trivial hs4 fun cV aV hs5=>?_
   let I:{ j:Nat // j<=4 } -> List Act->Act->World->Prop:=fun j ac a w=>ac=as1∧∃z,z.w=w∧Sim w1 F1 K1 as1 (nrS k L (A2x j.1 o) d (j.1:Int)) z a
   refine A4r (ρ:=some l) I (fun j=>4-j.1) (c:=lpC C2t) (k:=lpR C2t) (by kernel_rfl) (fun j ih ac aV w hI=>?_) ⟨0,Nat.zero_le _⟩ ⟨rfl,cV,rfl,hs5.nx _⟩
   obtain ⟨j,hj⟩:=j;obtain ⟨rfl,cV,rfl,hs6⟩:=hI;simp only at ih hs6
   by_cases hj4:j<4
   ·have ej:jtw (A2x j o)=A2x (j+1) o:=(C4w j o).symm
    generalize A2x j o=o1 at hs6 ej;refine nrD k L _ d j ⟨decide_eq_true (by omega),trivial⟩ hs6 fun cU aU hs7=>?_
    rw[B9 (n:=(j:Int)+1) (by omega) (by omega),ej] at hs7
    exact ih ⟨j+1,hj4⟩ (by show 4-(j+1)<4-j;omega) _ aU _ ⟨rfl,cU,rfl,hs7.nx _⟩
   ·have:j=4:=by omega
    subst this;refine nrE k L _ d _ ⟨by decide,by omega,by omega,rfl,by rw[Int.toNat_natCast,hL];exact hd16,trivial⟩ hs6 fun cU aU hs7=>?_
    rw[Int.toNat_natCast] at hs7;generalize jpl (A2x 4 o) (L.getD d T8)=q at hQ hs7;exact ⟨hQ _ _ (hs7.nx _)⟩
  ·have hs5:=hs4.marked rfl rfl D
   show Wq _ _ _ _ _ _ _ _;have ej:(dgT k.val 64).foldl (jst pa) (T0 pa 0)=jmn pa (dgT k.val 64):=rfl;rw[ej] at hs4 hs5;generalize jmn pa (dgT k.val 64)=o at hs4 hs5 ⊢
   refine nrX k L o trivial hs5 fun ac cV aV hs6=>⟨?_⟩
   have hs7:Sim y1.w y1.F (R1 y1 W0 (G9 D)) ac (nrZ o) cV aV:=hs6;exact W7 A1c hk hF (F8x o) trivial (fun y v hd=>hd) hs4 hD hFD hd rfl hs7

end

section

/-- A point outside as often as a number says. -/
def G3f (a:G2D) (k:U4):G2D:=A1y (jmn (P4 a) (dgT k.val 64))
def A9k:B1
 | [.v (.a [.ob (.p a),.ob (.p b),.ob (.p c),.ob (.p d),.ob (.p e),.ob (.p f)]),.v (.a [.ob (.fr k)])]=>some ([],.v (.a (K7 (jmn (F:=F2) ((a,b),(c,d),(e,f)) (dgT k.val 64)))),[])
 | _=>none
def ruA:Env:=rtM.set (C7 rtM.fn 44 A9k)
theorem E8f:A6 Tryz.prog ruA:=A4 A1c 44 A9k (A3 Tryz.func44 rfl rfl) fun args o r es h _=>by
 unfold A9k at h;split at h
 ·cases h;exact E4h _ _ _ _ _ _ _
 ·cases h
--@env ruA E8f
/-- What Mul tells. -/
def A4a (a:G2D) (k:U4):G2D×Int:=if I3 a then (G3f a k,0) else (g20,30)
theorem E0y {a:G2D} (k:U4) (ha:I3 a=true):A4a a k=(G3f a k,0):=by unfold A4a;rw[ha];rfl
theorem F4c {a:G2D} (k:U4) (ha:I3 a=false):A4a a k=(g20,30):=by unfold A4a;rw[ha];rfl
def ruC:Env:=ruA
theorem C5s:A6 Tryz.prog ruC:=E8f
end

section

def ubA:Env:=ruC.or S4.gK
theorem C9y:A6 Tryz.prog ubA:=A4j C5s S4.E8m
--@env ubA C9y
theorem gtA (a b c d:U6) (i:Bool):B2 ubA Tryz.f24 3000 [.v (.a [.ob (.fp a),.ob (.fp b),.ob (.fp c),.ob (.fp d),.bool i])] [true] [] []=(some ([((I3 (G2D.mk a b c d i))=true)],((.ci (.bool (decide ((Prod.snd (Prod.snd (jmn (P4 (G2D.mk a b c d i)) (dgT 52435875175126190479447740508185965837690552500527637822603658699938581184513 64))))=(0:(Prod (Fin pN) (Fin pN))))))),[]))):=by kernel_rfl
theorem gtB (a b c d:U6) (i:Bool):B2 ubA Tryz.f24 3000 [.v (.a [.ob (.fp a),.ob (.fp b),.ob (.fp c),.ob (.fp d),.bool i])] [false] [] []=(some ([((I3 (G2D.mk a b c d i))=false)],((.ci (.lit false)),[]))):=by kernel_rfl
/-- Whether a point is of the group. -/
def A0i (a:G2D):Bool:=I3 a && decide ((jmn (P4 a) (dgT 52435875175126190479447740508185965837690552500527637822603658699938581184513 64)).2.2=0)
theorem F4e (a b c d:U6) (i:Bool):FnD Tryz.prog 24 [.v (.a [.ob (.fp a),.ob (.fp b),.ob (.fp c),.ob (.fp d),.bool i])] (.v (.c (.bool (A0i ⟨a,b,c,d,i⟩)))) []:=by
 by_cases h1:I3 ⟨a,b,c,d,i⟩=true
 ·have e:A0i ⟨a,b,c,d,i⟩=decide ((jmn (P4 ⟨a,b,c,d,i⟩) (dgT 52435875175126190479447740508185965837690552500527637822603658699938581184513 64)).2.2=0):=by unfold A0i;rw[h1,Bool.true_and]
  rw[e];exact A2 C9y Tryz.func24 (gtA a b c d i) ⟨h1,trivial⟩
 ·have h1:I3 ⟨a,b,c,d,i⟩=false:=Bool.eq_false_iff.2 h1
  have e:A0i ⟨a,b,c,d,i⟩=false:=by unfold A0i;rw[h1,Bool.false_and]
  rw[e];exact (A2 C9y Tryz.func24 (gtB a b c d i) ⟨h1,trivial⟩).conv (fun _ _ h=>h) fun y v hd=>P5 rfl hd
def B8j:B1
 | [.v (.a [.ob (.fp a),.ob (.fp b),.ob (.fp c),.ob (.fp d),.bool i])]=>some ([],.v (.c (.bool (A0i ⟨a,b,c,d,i⟩))),[])
 | _=>none
def ubB:Env:=ubA.set (C7 ubA.fn 24 B8j)
theorem E9a:A6 Tryz.prog ubB:=A4 C9y 24 B8j (A3 Tryz.func24 rfl rfl) fun args o r es h _=>by
 unfold B8j at h;split at h
 ·cases h;exact F4e _ _ _ _ _
 ·cases h
--@env ubB E9a
end

section

/-- u and 1, whose cube root v is; v, whose square root w is. -/
instance nrsF2:Nrs F2:=⟨(1,1)⟩
abbrev F6:=E3 F2
instance nrsF6:Nrs F6:=⟨⟨0,1,0⟩⟩
abbrev F12:=E2 F6
def f6I (x:F6):List It:=[.ob (.p x.a.1),.ob (.p x.a.2),.ob (.p x.b.1),.ob (.p x.b.2),.ob (.p x.c.1),.ob (.p x.c.2)]
def D7 (x:F12):List It:=[.ob (.p x.a.a.1),.ob (.p x.a.a.2),.ob (.p x.a.b.1),.ob (.p x.a.b.2),.ob (.p x.a.c.1),.ob (.p x.a.c.2),.ob (.p x.b.a.1),.ob (.p x.b.a.2),.ob (.p x.b.b.1),.ob (.p x.b.b.2),.ob (.p x.b.c.1),.ob (.p x.b.c.2)]
def shf (x:F2):F2:=(x.1-x.2,x.1+x.2)
def cj2 (x:F2):F2:=(x.1,0-x.2)
def scl (x:F2) (n:Fp):F2:=(x.1*n,x.2*n)
section
variable {r:Nat} [NeZero r]
theorem H1l (x:Q2 r):((x.1-x.2,x.1+x.2):Q2 r)=(1,1)*x:=G6 (by show x.1-x.2=1*x.1-1*x.2;grind) (by show x.1+x.2=1*x.2+1*x.1;grind)
end
section
variable {R:Type} [J9 R] [Nrs R]
def E7q (x y:E3 R):E3 R:=⟨x.a*y.a+Nrs.xi*((x.b+x.c)*(y.b+y.c)-x.b*y.b-x.c*y.c),(x.a+x.b)*(y.a+y.b)-x.a*y.a-x.b*y.b+Nrs.xi*(x.c*y.c),(x.a+x.c)*(y.a+y.c)-x.a*y.a-x.c*y.c+x.b*y.b⟩
theorem E6q (x y:E3 R):E7q x y=x*y:=by
 refine E3.ext' ?_ ?_ ?_
 ·show x.a*y.a+Nrs.xi*((x.b+x.c)*(y.b+y.c)-x.b*y.b-x.c*y.c)=x.a*y.a+Nrs.xi*(x.b*y.c+x.c*y.b);grind
 ·show (x.a+x.b)*(y.a+y.b)-x.a*y.a-x.b*y.b+Nrs.xi*(x.c*y.c)=x.a*y.b+x.b*y.a+Nrs.xi*(x.c*y.c);grind
 ·show (x.a+x.c)*(y.a+y.c)-x.a*y.a-x.c*y.c+x.b*y.b=x.a*y.c+x.b*y.b+x.c*y.a;grind
def F0p (x y:E2 R):E2 R:=⟨x.a*y.a+Nrs.xi*(x.b*y.b),(x.a+x.b)*(y.a+y.b)-x.a*y.a-x.b*y.b⟩
theorem E7s (x y:E2 R):F0p x y=x*y:=by
 refine E2.ext' ?_ ?_
 ·show x.a*y.a+Nrs.xi*(x.b*y.b)=x.a*y.a+Nrs.xi*(x.b*y.b);rfl
 ·show (x.a+x.b)*(y.a+y.b)-x.a*y.a-x.b*y.b=x.a*y.b+x.b*y.a;grind
theorem H2g (x:E3 R):(⟨Nrs.xi*x.c,x.a,x.b⟩:E3 R)=(⟨0,1,0⟩:E3 R)*x:=by
 refine E3.ext' ?_ ?_ ?_
 ·show Nrs.xi*x.c=0*x.a+Nrs.xi*(1*x.c+0*x.b);grind
 ·show x.a=0*x.b+1*x.a+Nrs.xi*(0*x.c);grind
 ·show x.b=0*x.c+1*x.b+0*x.a;grind
end
def cjp (x:F12):F12:=⟨x.a,0-x.b⟩
def ivp (x:F12):F12:=⟨x.a*C1i (x.a*x.a-Nrs.xi*(x.b*x.b)),0-x.b*C1i (x.a*x.a-Nrs.xi*(x.b*x.b))⟩
def uxA:Env:=uaB.or ubB
theorem B7n:A6 Tryz.prog uxA:=A4j D6y E9a
--@env uxA B7n
theorem F8s (x0 x1:Fp):B2 uxA Tryz.f115 3000 [.v (.a [.ob (.p x0),.ob (.p x1)])] [] [] []=some ([],.v (.a (f2I (cj2 ((x0,x1):F2)))),[]):=by kernel_rfl
def A8j:B1
 | [.v (.a [.ob (.p x0),.ob (.p x1)])]=>some ([],.v (.a (f2I (cj2 ((x0,x1):F2)))),[])
 | _=>none
def uxB:Env:=uxA.set (C7 uxA.fn 115 A8j)
theorem H0m:A6 Tryz.prog uxB:=A4 B7n 115 A8j (A3 Tryz.func115 rfl rfl) fun args o r es h _=>by
 unfold A8j at h;split at h
 ·cases h;exact A2 B7n Tryz.func115 (F8s _ _) trivial
 ·cases h
theorem F8m (x0 x1:Fp) (y0:Fp):B2 uxA Tryz.f137 3000 [.v (.a [.ob (.p x0),.ob (.p x1)]),.v (.a [.ob (.p y0)])] [] [] []=some ([],.v (.a (f2I (scl ((x0,x1):F2) y0))),[]):=by kernel_rfl
def A8e:B1
 | [.v (.a [.ob (.p x0),.ob (.p x1)]),.v (.a [.ob (.p y0)])]=>some ([],.v (.a (f2I (scl ((x0,x1):F2) y0))),[])
 | _=>none
def uxC:Env:=uxB.set (C7 uxB.fn 137 A8e)
theorem G5w:A6 Tryz.prog uxC:=A4 H0m 137 A8e (A3 Tryz.func137 rfl rfl) fun args o r es h _=>by
 unfold A8e at h;split at h
 ·cases h;exact A2 B7n Tryz.func137 (F8m _ _ _) trivial
 ·cases h
theorem G1m (x0 x1:Fp):B2 uxA Tryz.f127 3000 [.v (.a [.ob (.p x0),.ob (.p x1)])] [] [] []=some ([],.v (.a (f2I (shf ((x0,x1):F2)))),[]):=by kernel_rfl
theorem F7j (x:F2):(shf x:F2)=Nrs.xi*x:=
 H1l x
theorem D8j (x0 x1:Fp):FnD Tryz.prog 127 [.v (.a [.ob (.p x0),.ob (.p x1)])] (.v (.a (f2I (Nrs.xi*((x0,x1):F2))))) []:=by
 have r:=G1m x0 x1;rw[F7j] at r;exact A2 B7n Tryz.func127 r trivial
def A9y:B1
 | [.v (.a [.ob (.p x0),.ob (.p x1)])]=>some ([],.v (.a (f2I (Nrs.xi*((x0,x1):F2)))),[])
 | _=>none
def uxD:Env:=uxC.set (C7 uxC.fn 127 A9y)
theorem A5x:A6 Tryz.prog uxD:=A4 G5w 127 A9y (A3 Tryz.func127 rfl rfl) fun args o r es h _=>by
 unfold A9y at h;split at h
 ·cases h;exact D8j _ _
 ·cases h
--@env uxD A5x
theorem G2f (x0 x1 x2 x3 x4 x5:Fp) (y0 y1 y2 y3 y4 y5:Fp):B2 uxD Tryz.f95 3000 [.v (.a [.ob (.p x0),.ob (.p x1),.ob (.p x2),.ob (.p x3),.ob (.p x4),.ob (.p x5)]),.v (.a [.ob (.p y0),.ob (.p y1),.ob (.p y2),.ob (.p y3),.ob (.p y4),.ob (.p y5)])] [] [] []=some ([],.v (.a (f6I ((⟨(x0,x1),(x2,x3),(x4,x5)⟩:F6)+(⟨(y0,y1),(y2,y3),(y4,y5)⟩:F6)))),[]):=by kernel_rfl
def A8l:B1
 | [.v (.a [.ob (.p x0),.ob (.p x1),.ob (.p x2),.ob (.p x3),.ob (.p x4),.ob (.p x5)]),.v (.a [.ob (.p y0),.ob (.p y1),.ob (.p y2),.ob (.p y3),.ob (.p y4),.ob (.p y5)])]=>some ([],.v (.a (f6I ((⟨(x0,x1),(x2,x3),(x4,x5)⟩:F6)+(⟨(y0,y1),(y2,y3),(y4,y5)⟩:F6)))),[])
 | _=>none
def uxE:Env:=uxD.set (C7 uxD.fn 95 A8l)
theorem G4d:A6 Tryz.prog uxE:=A4 A5x 95 A8l (A3 Tryz.func95 rfl rfl) fun args o r es h _=>by
 unfold A8l at h;split at h
 ·cases h;exact A2 A5x Tryz.func95 (G2f _ _ _ _ _ _ _ _ _ _ _ _) trivial
 ·cases h
theorem F5o (x0 x1 x2 x3 x4 x5:Fp) (y0 y1 y2 y3 y4 y5:Fp):B2 uxD Tryz.f97 3000 [.v (.a [.ob (.p x0),.ob (.p x1),.ob (.p x2),.ob (.p x3),.ob (.p x4),.ob (.p x5)]),.v (.a [.ob (.p y0),.ob (.p y1),.ob (.p y2),.ob (.p y3),.ob (.p y4),.ob (.p y5)])] [] [] []=some ([],.v (.a (f6I ((⟨(x0,x1),(x2,x3),(x4,x5)⟩:F6)-(⟨(y0,y1),(y2,y3),(y4,y5)⟩:F6)))),[]):=by kernel_rfl
def A5f:B1
 | [.v (.a [.ob (.p x0),.ob (.p x1),.ob (.p x2),.ob (.p x3),.ob (.p x4),.ob (.p x5)]),.v (.a [.ob (.p y0),.ob (.p y1),.ob (.p y2),.ob (.p y3),.ob (.p y4),.ob (.p y5)])]=>some ([],.v (.a (f6I ((⟨(x0,x1),(x2,x3),(x4,x5)⟩:F6)-(⟨(y0,y1),(y2,y3),(y4,y5)⟩:F6)))),[])
 | _=>none
def uxF:Env:=uxE.set (C7 uxE.fn 97 A5f)
theorem G7b:A6 Tryz.prog uxF:=A4 G4d 97 A5f (A3 Tryz.func97 rfl rfl) fun args o r es h _=>by
 unfold A5f at h;split at h
 ·cases h;exact A2 A5x Tryz.func97 (F5o _ _ _ _ _ _ _ _ _ _ _ _) trivial
 ·cases h
theorem G8x (x0 x1 x2 x3 x4 x5:Fp):B2 uxD Tryz.f113 3000 [.v (.a [.ob (.p x0),.ob (.p x1),.ob (.p x2),.ob (.p x3),.ob (.p x4),.ob (.p x5)])] [] [] []=some ([],.v (.a (f6I (0-(⟨(x0,x1),(x2,x3),(x4,x5)⟩:F6)))),[]):=by kernel_rfl
def B4p:B1
 | [.v (.a [.ob (.p x0),.ob (.p x1),.ob (.p x2),.ob (.p x3),.ob (.p x4),.ob (.p x5)])]=>some ([],.v (.a (f6I (0-(⟨(x0,x1),(x2,x3),(x4,x5)⟩:F6)))),[])
 | _=>none
def uxG:Env:=uxF.set (C7 uxF.fn 113 B4p)
theorem G4r:A6 Tryz.prog uxG:=A4 G7b 113 B4p (A3 Tryz.func113 rfl rfl) fun args o r es h _=>by
 unfold B4p at h;split at h
 ·cases h;exact A2 A5x Tryz.func113 (G8x _ _ _ _ _ _) trivial
 ·cases h
theorem F2t (x0 x1 x2 x3 x4 x5:Fp) (y0 y1 y2 y3 y4 y5:Fp):B2 uxD Tryz.f94 3000 [.v (.a [.ob (.p x0),.ob (.p x1),.ob (.p x2),.ob (.p x3),.ob (.p x4),.ob (.p x5)]),.v (.a [.ob (.p y0),.ob (.p y1),.ob (.p y2),.ob (.p y3),.ob (.p y4),.ob (.p y5)])] [] [] []=some ([],.v (.a (f6I (E7q (⟨(x0,x1),(x2,x3),(x4,x5)⟩:F6) (⟨(y0,y1),(y2,y3),(y4,y5)⟩:F6)))),[]):=by kernel_rfl
theorem F2c (x:F6) (y:F6):(E7q x y:F6)=x*y:=
 E6q x y
theorem D4m (x0 x1 x2 x3 x4 x5:Fp) (y0 y1 y2 y3 y4 y5:Fp):FnD Tryz.prog 94 [.v (.a [.ob (.p x0),.ob (.p x1),.ob (.p x2),.ob (.p x3),.ob (.p x4),.ob (.p x5)]),.v (.a [.ob (.p y0),.ob (.p y1),.ob (.p y2),.ob (.p y3),.ob (.p y4),.ob (.p y5)])] (.v (.a (f6I ((⟨(x0,x1),(x2,x3),(x4,x5)⟩:F6)*(⟨(y0,y1),(y2,y3),(y4,y5)⟩:F6))))) []:=by
 have r:=F2t x0 x1 x2 x3 x4 x5 y0 y1 y2 y3 y4 y5;rw[F2c] at r;exact A2 A5x Tryz.func94 r trivial
def A6c:B1
 | [.v (.a [.ob (.p x0),.ob (.p x1),.ob (.p x2),.ob (.p x3),.ob (.p x4),.ob (.p x5)]),.v (.a [.ob (.p y0),.ob (.p y1),.ob (.p y2),.ob (.p y3),.ob (.p y4),.ob (.p y5)])]=>some ([],.v (.a (f6I ((⟨(x0,x1),(x2,x3),(x4,x5)⟩:F6)*(⟨(y0,y1),(y2,y3),(y4,y5)⟩:F6)))),[])
 | _=>none
def uxH:Env:=uxG.set (C7 uxG.fn 94 A6c)
theorem G5s:A6 Tryz.prog uxH:=A4 G4r 94 A6c (A3 Tryz.func94 rfl rfl) fun args o r es h _=>by
 unfold A6c at h;split at h
 ·cases h;exact D4m _ _ _ _ _ _ _ _ _ _ _ _
 ·cases h
theorem G2r (x0 x1 x2 x3 x4 x5:Fp):B2 uxD Tryz.f96 3000 [.v (.a [.ob (.p x0),.ob (.p x1),.ob (.p x2),.ob (.p x3),.ob (.p x4),.ob (.p x5)])] [] [] []=some ([],.v (.a (f6I (⟨Nrs.xi*(⟨(x0,x1),(x2,x3),(x4,x5)⟩:F6).c,(⟨(x0,x1),(x2,x3),(x4,x5)⟩:F6).a,(⟨(x0,x1),(x2,x3),(x4,x5)⟩:F6).b⟩))),[]):=by kernel_rfl
theorem F8u (x:F6):(⟨Nrs.xi*x.c,x.a,x.b⟩:F6)=Nrs.xi*x:=
 H2g x
theorem D8w (x0 x1 x2 x3 x4 x5:Fp):FnD Tryz.prog 96 [.v (.a [.ob (.p x0),.ob (.p x1),.ob (.p x2),.ob (.p x3),.ob (.p x4),.ob (.p x5)])] (.v (.a (f6I (Nrs.xi*(⟨(x0,x1),(x2,x3),(x4,x5)⟩:F6))))) []:=by
 have r:=G2r x0 x1 x2 x3 x4 x5;rw[F8u] at r;exact A2 A5x Tryz.func96 r trivial
def A9p:B1
 | [.v (.a [.ob (.p x0),.ob (.p x1),.ob (.p x2),.ob (.p x3),.ob (.p x4),.ob (.p x5)])]=>some ([],.v (.a (f6I (Nrs.xi*(⟨(x0,x1),(x2,x3),(x4,x5)⟩:F6)))),[])
 | _=>none
def uxI:Env:=uxH.set (C7 uxH.fn 96 A9p)
theorem G6u:A6 Tryz.prog uxI:=A4 G5s 96 A9p (A3 Tryz.func96 rfl rfl) fun args o r es h _=>by
 unfold A9p at h;split at h
 ·cases h;exact D8w _ _ _ _ _ _
 ·cases h
theorem G9f (x0 x1 x2 x3 x4 x5:Fp):B2 uxD Tryz.f114 3000 [.v (.a [.ob (.p x0),.ob (.p x1),.ob (.p x2),.ob (.p x3),.ob (.p x4),.ob (.p x5)])] [] [] []=some ([],.v (.a (f6I (C1i (⟨(x0,x1),(x2,x3),(x4,x5)⟩:F6)))),[]):=by kernel_rfl
def B3u:B1
 | [.v (.a [.ob (.p x0),.ob (.p x1),.ob (.p x2),.ob (.p x3),.ob (.p x4),.ob (.p x5)])]=>some ([],.v (.a (f6I (C1i (⟨(x0,x1),(x2,x3),(x4,x5)⟩:F6)))),[])
 | _=>none
def uxJ:Env:=uxI.set (C7 uxI.fn 114 B3u)
theorem B7v:A6 Tryz.prog uxJ:=A4 G6u 114 B3u (A3 Tryz.func114 rfl rfl) fun args o r es h _=>by
 unfold B3u at h;split at h
 ·cases h;exact A2 A5x Tryz.func114 (G9f _ _ _ _ _ _) trivial
 ·cases h
--@env uxJ B7v
theorem E3u (x0 x1 x2 x3 x4 x5 x6 x7 x8 x9 x10 x11:Fp) (y0 y1 y2 y3 y4 y5 y6 y7 y8 y9 y10 y11:Fp):B2 uxJ Tryz.f52 3000 [.v (.a [.ob (.p x0),.ob (.p x1),.ob (.p x2),.ob (.p x3),.ob (.p x4),.ob (.p x5),.ob (.p x6),.ob (.p x7),.ob (.p x8),.ob (.p x9),.ob (.p x10),.ob (.p x11)]),.v (.a [.ob (.p y0),.ob (.p y1),.ob (.p y2),.ob (.p y3),.ob (.p y4),.ob (.p y5),.ob (.p y6),.ob (.p y7),.ob (.p y8),.ob (.p y9),.ob (.p y10),.ob (.p y11)])] [] [] []=some ([],.v (.a (D7 (F0p (⟨⟨(x0,x1),(x2,x3),(x4,x5)⟩,⟨(x6,x7),(x8,x9),(x10,x11)⟩⟩:F12) (⟨⟨(y0,y1),(y2,y3),(y4,y5)⟩,⟨(y6,y7),(y8,y9),(y10,y11)⟩⟩:F12)))),[]):=by kernel_rfl
theorem E3l (x:F12) (y:F12):(F0p x y:F12)=x*y:=
 E7s x y
theorem C7w (x0 x1 x2 x3 x4 x5 x6 x7 x8 x9 x10 x11:Fp) (y0 y1 y2 y3 y4 y5 y6 y7 y8 y9 y10 y11:Fp):FnD Tryz.prog 52 [.v (.a [.ob (.p x0),.ob (.p x1),.ob (.p x2),.ob (.p x3),.ob (.p x4),.ob (.p x5),.ob (.p x6),.ob (.p x7),.ob (.p x8),.ob (.p x9),.ob (.p x10),.ob (.p x11)]),.v (.a [.ob (.p y0),.ob (.p y1),.ob (.p y2),.ob (.p y3),.ob (.p y4),.ob (.p y5),.ob (.p y6),.ob (.p y7),.ob (.p y8),.ob (.p y9),.ob (.p y10),.ob (.p y11)])] (.v (.a (D7 ((⟨⟨(x0,x1),(x2,x3),(x4,x5)⟩,⟨(x6,x7),(x8,x9),(x10,x11)⟩⟩:F12)*(⟨⟨(y0,y1),(y2,y3),(y4,y5)⟩,⟨(y6,y7),(y8,y9),(y10,y11)⟩⟩:F12))))) []:=by
 have r:=E3u x0 x1 x2 x3 x4 x5 x6 x7 x8 x9 x10 x11 y0 y1 y2 y3 y4 y5 y6 y7 y8 y9 y10 y11;rw[E3l] at r;exact A2 B7v Tryz.func52 r trivial
def A3q:B1
 | [.v (.a [.ob (.p x0),.ob (.p x1),.ob (.p x2),.ob (.p x3),.ob (.p x4),.ob (.p x5),.ob (.p x6),.ob (.p x7),.ob (.p x8),.ob (.p x9),.ob (.p x10),.ob (.p x11)]),.v (.a [.ob (.p y0),.ob (.p y1),.ob (.p y2),.ob (.p y3),.ob (.p y4),.ob (.p y5),.ob (.p y6),.ob (.p y7),.ob (.p y8),.ob (.p y9),.ob (.p y10),.ob (.p y11)])]=>some ([],.v (.a (D7 ((⟨⟨(x0,x1),(x2,x3),(x4,x5)⟩,⟨(x6,x7),(x8,x9),(x10,x11)⟩⟩:F12)*(⟨⟨(y0,y1),(y2,y3),(y4,y5)⟩,⟨(y6,y7),(y8,y9),(y10,y11)⟩⟩:F12)))),[])
 | _=>none
def uxK:Env:=uxJ.set (C7 uxJ.fn 52 A3q)
theorem G8d:A6 Tryz.prog uxK:=A4 B7v 52 A3q (A3 Tryz.func52 rfl rfl) fun args o r es h _=>by
 unfold A3q at h;split at h
 ·cases h;exact C7w _ _ _ _ _ _ _ _ _ _ _ _ _ _ _ _ _ _ _ _ _ _ _ _
 ·cases h
theorem E8d (x0 x1 x2 x3 x4 x5 x6 x7 x8 x9 x10 x11:Fp):B2 uxJ Tryz.f69 3000 [.v (.a [.ob (.p x0),.ob (.p x1),.ob (.p x2),.ob (.p x3),.ob (.p x4),.ob (.p x5),.ob (.p x6),.ob (.p x7),.ob (.p x8),.ob (.p x9),.ob (.p x10),.ob (.p x11)])] [] [] []=some ([],.v (.a (D7 (cjp (⟨⟨(x0,x1),(x2,x3),(x4,x5)⟩,⟨(x6,x7),(x8,x9),(x10,x11)⟩⟩:F12)))),[]):=by kernel_rfl
def A5e:B1
 | [.v (.a [.ob (.p x0),.ob (.p x1),.ob (.p x2),.ob (.p x3),.ob (.p x4),.ob (.p x5),.ob (.p x6),.ob (.p x7),.ob (.p x8),.ob (.p x9),.ob (.p x10),.ob (.p x11)])]=>some ([],.v (.a (D7 (cjp (⟨⟨(x0,x1),(x2,x3),(x4,x5)⟩,⟨(x6,x7),(x8,x9),(x10,x11)⟩⟩:F12)))),[])
 | _=>none
def uxL:Env:=uxK.set (C7 uxK.fn 69 A5e)
theorem G7v:A6 Tryz.prog uxL:=A4 G8d 69 A5e (A3 Tryz.func69 rfl rfl) fun args o r es h _=>by
 unfold A5e at h;split at h
 ·cases h;exact A2 B7v Tryz.func69 (E8d _ _ _ _ _ _ _ _ _ _ _ _) trivial
 ·cases h
theorem G0y (x0 x1 x2 x3 x4 x5 x6 x7 x8 x9 x10 x11:Fp):B2 uxJ Tryz.f70 3000 [.v (.a [.ob (.p x0),.ob (.p x1),.ob (.p x2),.ob (.p x3),.ob (.p x4),.ob (.p x5),.ob (.p x6),.ob (.p x7),.ob (.p x8),.ob (.p x9),.ob (.p x10),.ob (.p x11)])] [] [] []=some ([],.v (.a (D7 (ivp (⟨⟨(x0,x1),(x2,x3),(x4,x5)⟩,⟨(x6,x7),(x8,x9),(x10,x11)⟩⟩:F12)))),[]):=by kernel_rfl
def A8y:B1
 | [.v (.a [.ob (.p x0),.ob (.p x1),.ob (.p x2),.ob (.p x3),.ob (.p x4),.ob (.p x5),.ob (.p x6),.ob (.p x7),.ob (.p x8),.ob (.p x9),.ob (.p x10),.ob (.p x11)])]=>some ([],.v (.a (D7 (ivp (⟨⟨(x0,x1),(x2,x3),(x4,x5)⟩,⟨(x6,x7),(x8,x9),(x10,x11)⟩⟩:F12)))),[])
 | _=>none
def uxM:Env:=uxL.set (C7 uxL.fn 70 A8y)
theorem A1i:A6 Tryz.prog uxM:=A4 G7v 70 A8y (A3 Tryz.func70 rfl rfl) fun args o r es h _=>by
 unfold A8y at h;split at h
 ·cases h;exact A2 B7v Tryz.func70 (G0y _ _ _ _ _ _ _ _ _ _ _ _) trivial
 ·cases h
end

section

def H2s:List Int:=[1,0,0,0,0,0,0,0,0,0,0,0,10162220747404304312,17761815663483519293,8873291758750579140,1141103941765652303,13993175198059990303,1802798568193066599,3240210268673559283,2895069921743240898,17009126888523054175,6098234018649060207,9865672654120263608,71000049454473266,0,0,0,0,0,0,10087218740379822764,4653388206581612541,9907120269317136283,12253596935368579796,17006226088849104517,1873798617647539865,14416168624775744521,17178867732698629620,8644499054833844677,5204293836692734814,7508032112903159806,481619096434065419,14416168624775744521,17178867732698629620,8644499054833844677,5204293836692734814,7508032112903159806,481619096434065419,10087218740379822765,4653388206581612541,9907120269317136283,12253596935368579796,17006226088849104517,1873798617647539865,0,0,0,0,0,0,11175958356102185238,14283797810955388722,10082116240020342118,17552803891753226222,16089103532492447813,410619046979592152,2226472659975678357,6373087774271371469,15800302407253291197,8133278142371037904,7769744319687806097,1463179570667947713]
def C4m (k:Int):List Prop:=(H2s.flatMap fun n=>[0<=n,n<18446744073709551616])++[0<=k,k<6]
theorem C4y (e:List Prop) (he:A7 e):∀l:List Int,(l.all fun n=>decide (0<=n) && decide (n<18446744073709551616))=true->A7 ((l.flatMap fun n:Int=>[0<=n,n<18446744073709551616])++e)
 | [],_=>he
 | n::l,h=>by
  simp only[List.all_cons,Bool.and_eq_true,decide_eq_true_eq] at h;exact ⟨h.1.1,h.1.2,C4y e he l h.2⟩
theorem D4p (k:Int) (h1:1<=k) (h2:k<=5):A7 (C4m k):=C4y [0<=k,k<6] ⟨by omega,by omega,trivial⟩ H2s (by decide)
/-- u and 1, to the power of i (p - 1) / 6. -/
def tur (i:Int):F2:=
 if i=1 then (Fin.ofNat pN 3850754370037169011952147076051364057158807420970682438676050522613628423219637725072182697113062777891589506424760,Fin.ofNat pN 151655185184498381465642749684540099398075398968325446656007613510403227271200139370504932015952886146304766135027) else
 if i=2 then (Fin.ofNat pN 0,Fin.ofNat pN 4002409555221667392624310435006688643935503118305586438271171395842971157480381377015405980053539358417135540939436) else
 if i=3 then (Fin.ofNat pN 1028732146235106349975324479215795277384839936929757896155643118032610843298655225875571310552543014690878354869257,Fin.ofNat pN 1028732146235106349975324479215795277384839936929757896155643118032610843298655225875571310552543014690878354869257) else
 if i=4 then (Fin.ofNat pN 4002409555221667392624310435006688643935503118305586438271171395842971157480381377015405980053539358417135540939437,Fin.ofNat pN 0) else
 if i=5 then (Fin.ofNat pN 877076961050607968509681729531255177986764537961432449499635504522207616027455086505066378536590128544573588734230,Fin.ofNat pN 3125332594171059424908108096204648978570118281977575435832422631601824034463382777937621250592425535493320683825557) else 1
abbrev V6:=E3 (U6×U6)
abbrev V12:=E2 V6
def v6I (x:V6):List It:=[.ob (.fp x.a.1),.ob (.fp x.a.2),.ob (.fp x.b.1),.ob (.fp x.b.2),.ob (.fp x.c.1),.ob (.fp x.c.2)]
def H2j (x:V12):List It:=[.ob (.fp x.a.a.1),.ob (.fp x.a.a.2),.ob (.fp x.a.b.1),.ob (.fp x.a.b.2),.ob (.fp x.a.c.1),.ob (.fp x.a.c.2),.ob (.fp x.b.a.1),.ob (.fp x.b.a.2),.ob (.fp x.b.b.1),.ob (.fp x.b.b.2),.ob (.fp x.b.c.1),.ob (.fp x.b.c.2)]
def F9v (x:F6):V6:=⟨F4t x.a,F4t x.b,F4t x.c⟩
def in6 (x:V6):F6:=⟨D6 x.a.1 x.a.2,D6 x.b.1 x.b.2,D6 x.c.1 x.c.2⟩
def C0x (x:F12):V12:=⟨F9v x.a,F9v x.b⟩
def G5z (x:V12):F12:=⟨in6 x.a,in6 x.b⟩
/-- The power of p. -/
def frb (x:F12):F12:=⟨⟨cj2 x.a.a,cj2 x.a.b*tur 2,cj2 x.a.c*tur 4⟩,⟨cj2 x.b.a*tur 1,cj2 x.b.b*tur 3,cj2 x.b.c*tur 5⟩⟩
def lin (a b c:F2):F12:=⟨⟨a,b,0⟩,⟨0,c,0⟩⟩
/-- The line that touches; the line through two. -/
def tch (t:F2×F2×F2) (x y:Fp):F12:=
 lin ((t.1*t.1+t.1*t.1+t.1*t.1)*t.1-t.2.1*t.2.1-t.2.1*t.2.1) (0-scl ((t.1*t.1+t.1*t.1+t.1*t.1)*(t.2.2*t.2.2)) x) (scl (t.2.1*(t.2.2*t.2.2)*t.2.2+t.2.1*(t.2.2*t.2.2)*t.2.2) y)
def thh (t q:F2×F2×F2):F2:=(q.1*(t.2.2*t.2.2)-t.1)*t.2.2
def G3g (t q:F2×F2×F2):F2:=q.2.1*(t.2.2*t.2.2)*t.2.2-t.2.1
def thg (t q:F2×F2×F2) (x y:Fp):F12:=lin (G3g t q*q.1-q.2.1*thh t q) (0-scl (G3g t q) x) (scl (thh t q) y)
--@env uxM A1i
theorem G4p:B2 uxM Tryz.f51 3000 [] [] [] []=some ([0<=(1:Int),(1:Int)<18446744073709551616],.v (.a (D7 1)),[]):=by kernel_rfl
def B4o:B1
 | []=>some ([],.v (.a (D7 1)),[])
 | _=>none
def uxN:Env:=uxM.set (C7 uxM.fn 51 B4o)
theorem G6d:A6 Tryz.prog uxN:=A4 A1i 51 B4o (A3 Tryz.func51 rfl rfl) fun args o r es h _=>by
 unfold B4o at h;split at h
 ·cases h;exact A2 A1i Tryz.func51 G4p ⟨by decide,by decide,trivial⟩
 ·cases h
theorem G9i:B2 uxM Tryz.f116 3000 [.v (.c (.int .i64 1))] [] [] []=some (C4m 1,.v (.a (f2I (tur 1))),[]):=by kernel_rfl
theorem G5d:B2 uxM Tryz.f116 3000 [.v (.c (.int .i64 2))] [] [] []=some (C4m 2,.v (.a (f2I (tur 2))),[]):=by kernel_rfl
theorem G9q:B2 uxM Tryz.f116 3000 [.v (.c (.int .i64 3))] [] [] []=some (C4m 3,.v (.a (f2I (tur 3))),[]):=by kernel_rfl
theorem G5y:B2 uxM Tryz.f116 3000 [.v (.c (.int .i64 4))] [] [] []=some (C4m 4,.v (.a (f2I (tur 4))),[]):=by kernel_rfl
theorem G8s:B2 uxM Tryz.f116 3000 [.v (.c (.int .i64 5))] [] [] []=some (C4m 5,.v (.a (f2I (tur 5))),[]):=by kernel_rfl
theorem F0b (i:Int) (h1:1<=i) (h2:i<=5):FnD Tryz.prog 116 [.v (.c (.int .i64 i))] (.v (.a (f2I (tur i)))) []:=by
 rcases (by omega:i=1∨i=2∨i=3∨i=4∨i=5) with rfl | rfl | rfl | rfl | rfl
 ·exact A2 A1i Tryz.func116 G9i (D4p _ h1 h2)
 ·exact A2 A1i Tryz.func116 G5d (D4p _ h1 h2)
 ·exact A2 A1i Tryz.func116 G9q (D4p _ h1 h2)
 ·exact A2 A1i Tryz.func116 G5y (D4p _ h1 h2)
 ·exact A2 A1i Tryz.func116 G8s (D4p _ h1 h2)
def B7h:B1
 | [.v (.c (.int .i64 i))]=>some ([1<=i,i<=5],.v (.a (f2I (tur i))),[])
 | _=>none
def uxO:Env:=uxN.set (C7 uxN.fn 116 B7h)
theorem G4j:A6 Tryz.prog uxO:=A4 G6d 116 B7h (A3 Tryz.func116 rfl rfl) fun args o r es h ho=>by
 unfold B7h at h;split at h
 ·cases h;exact F0b _ ho.1 ho.2.1
 ·cases h
theorem G9w (x0 x1 x2 x3 x4 x5:Fp):B2 uxM Tryz.f74 3000 [.v (.a [.ob (.p x0),.ob (.p x1),.ob (.p x2),.ob (.p x3),.ob (.p x4),.ob (.p x5)])] [] [] []=some ([],.v (.a (v6I (F9v (⟨(x0,x1),(x2,x3),(x4,x5)⟩:F6)))),[]):=by kernel_rfl
def B2x:B1
 | [.v (.a [.ob (.p x0),.ob (.p x1),.ob (.p x2),.ob (.p x3),.ob (.p x4),.ob (.p x5)])]=>some ([],.v (.a (v6I (F9v (⟨(x0,x1),(x2,x3),(x4,x5)⟩:F6)))),[])
 | _=>none
def uxP:Env:=uxO.set (C7 uxO.fn 74 B2x)
theorem G4o:A6 Tryz.prog uxP:=A4 G4j 74 B2x (A3 Tryz.func74 rfl rfl) fun args o r es h _=>by
 unfold B2x at h;split at h
 ·cases h;exact A2 A1i Tryz.func74 (G9w _ _ _ _ _ _) trivial
 ·cases h
theorem H3j (x0 x1 x2 x3 x4 x5:U6):B2 uxM Tryz.f122 3000 [.v (.a [.ob (.fp x0),.ob (.fp x1),.ob (.fp x2),.ob (.fp x3),.ob (.fp x4),.ob (.fp x5)])] [] [] []=some ([],.v (.a (f6I (in6 (⟨(x0,x1),(x2,x3),(x4,x5)⟩:V6)))),[]):=by kernel_rfl
def C2d:B1
 | [.v (.a [.ob (.fp x0),.ob (.fp x1),.ob (.fp x2),.ob (.fp x3),.ob (.fp x4),.ob (.fp x5)])]=>some ([],.v (.a (f6I (in6 (⟨(x0,x1),(x2,x3),(x4,x5)⟩:V6)))),[])
 | _=>none
def uxQ:Env:=uxP.set (C7 uxP.fn 122 C2d)
theorem H0r:A6 Tryz.prog uxQ:=A4 G4o 122 C2d (A3 Tryz.func122 rfl rfl) fun args o r es h _=>by
 unfold C2d at h;split at h
 ·cases h;exact A2 A1i Tryz.func122 (H3j _ _ _ _ _ _) trivial
 ·cases h
theorem G8u (x0 x1:Fp) (y0 y1:Fp) (z0 z1:Fp):B2 uxM Tryz.f136 3000 [.v (.a [.ob (.p x0),.ob (.p x1)]),.v (.a [.ob (.p y0),.ob (.p y1)]),.v (.a [.ob (.p z0),.ob (.p z1)])] [] [] []=some ([],.v (.a (D7 (lin ((x0,x1):F2) ((y0,y1):F2) ((z0,z1):F2)))),[]):=by kernel_rfl
def B3h:B1
 | [.v (.a [.ob (.p x0),.ob (.p x1)]),.v (.a [.ob (.p y0),.ob (.p y1)]),.v (.a [.ob (.p z0),.ob (.p z1)])]=>some ([],.v (.a (D7 (lin ((x0,x1):F2) ((y0,y1):F2) ((z0,z1):F2)))),[])
 | _=>none
def uxR:Env:=uxQ.set (C7 uxQ.fn 136 B3h)
theorem A9x:A6 Tryz.prog uxR:=A4 H0r 136 B3h (A3 Tryz.func136 rfl rfl) fun args o r es h _=>by
 unfold B3h at h;split at h
 ·cases h;exact A2 A1i Tryz.func136 (G8u _ _ _ _ _ _) trivial
 ·cases h
--@env uxR A9x
theorem F8z (x0 x1 x2 x3 x4 x5 x6 x7 x8 x9 x10 x11:Fp):B2 uxR Tryz.f37 3000 [.v (.a [.ob (.p x0),.ob (.p x1),.ob (.p x2),.ob (.p x3),.ob (.p x4),.ob (.p x5),.ob (.p x6),.ob (.p x7),.ob (.p x8),.ob (.p x9),.ob (.p x10),.ob (.p x11)])] [] [] []=some ([],.v (.a (H2j (C0x (⟨⟨(x0,x1),(x2,x3),(x4,x5)⟩,⟨(x6,x7),(x8,x9),(x10,x11)⟩⟩:F12)))),[]):=by kernel_rfl
def A8x:B1
 | [.v (.a [.ob (.p x0),.ob (.p x1),.ob (.p x2),.ob (.p x3),.ob (.p x4),.ob (.p x5),.ob (.p x6),.ob (.p x7),.ob (.p x8),.ob (.p x9),.ob (.p x10),.ob (.p x11)])]=>some ([],.v (.a (H2j (C0x (⟨⟨(x0,x1),(x2,x3),(x4,x5)⟩,⟨(x6,x7),(x8,x9),(x10,x11)⟩⟩:F12)))),[])
 | _=>none
def uxS:Env:=uxR.set (C7 uxR.fn 37 A8x)
theorem G7f:A6 Tryz.prog uxS:=A4 A9x 37 A8x (A3 Tryz.func37 rfl rfl) fun args o r es h _=>by
 unfold A8x at h;split at h
 ·cases h;exact A2 A9x Tryz.func37 (F8z _ _ _ _ _ _ _ _ _ _ _ _) trivial
 ·cases h
theorem G7w (x0 x1 x2 x3 x4 x5 x6 x7 x8 x9 x10 x11:U6):B2 uxR Tryz.f87 3000 [.v (.a [.ob (.fp x0),.ob (.fp x1),.ob (.fp x2),.ob (.fp x3),.ob (.fp x4),.ob (.fp x5),.ob (.fp x6),.ob (.fp x7),.ob (.fp x8),.ob (.fp x9),.ob (.fp x10),.ob (.fp x11)])] [] [] []=some ([],.v (.a (D7 (G5z (⟨⟨(x0,x1),(x2,x3),(x4,x5)⟩,⟨(x6,x7),(x8,x9),(x10,x11)⟩⟩:V12)))),[]):=by kernel_rfl
def B3c:B1
 | [.v (.a [.ob (.fp x0),.ob (.fp x1),.ob (.fp x2),.ob (.fp x3),.ob (.fp x4),.ob (.fp x5),.ob (.fp x6),.ob (.fp x7),.ob (.fp x8),.ob (.fp x9),.ob (.fp x10),.ob (.fp x11)])]=>some ([],.v (.a (D7 (G5z (⟨⟨(x0,x1),(x2,x3),(x4,x5)⟩,⟨(x6,x7),(x8,x9),(x10,x11)⟩⟩:V12)))),[])
 | _=>none
def uxT:Env:=uxS.set (C7 uxS.fn 87 B3c)
theorem G9c:A6 Tryz.prog uxT:=A4 G7f 87 B3c (A3 Tryz.func87 rfl rfl) fun args o r es h _=>by
 unfold B3c at h;split at h
 ·cases h;exact A2 A9x Tryz.func87 (G7w _ _ _ _ _ _ _ _ _ _ _ _) trivial
 ·cases h
theorem G7k (x0 x1 x2 x3 x4 x5 x6 x7 x8 x9 x10 x11:Fp):B2 uxR Tryz.f71 3000 [.v (.a [.ob (.p x0),.ob (.p x1),.ob (.p x2),.ob (.p x3),.ob (.p x4),.ob (.p x5),.ob (.p x6),.ob (.p x7),.ob (.p x8),.ob (.p x9),.ob (.p x10),.ob (.p x11)])] [] [] []=some ([1<=(2:Int),(2:Int)<=5,1<=(4:Int),(4:Int)<=5,1<=(1:Int),(1:Int)<=5,1<=(3:Int),(3:Int)<=5,1<=(5:Int),(5:Int)<=5],.v (.a (D7 (frb (⟨⟨(x0,x1),(x2,x3),(x4,x5)⟩,⟨(x6,x7),(x8,x9),(x10,x11)⟩⟩:F12)))),[]):=by kernel_rfl
def B2j:B1
 | [.v (.a [.ob (.p x0),.ob (.p x1),.ob (.p x2),.ob (.p x3),.ob (.p x4),.ob (.p x5),.ob (.p x6),.ob (.p x7),.ob (.p x8),.ob (.p x9),.ob (.p x10),.ob (.p x11)])]=>some ([],.v (.a (D7 (frb (⟨⟨(x0,x1),(x2,x3),(x4,x5)⟩,⟨(x6,x7),(x8,x9),(x10,x11)⟩⟩:F12)))),[])
 | _=>none
def uxU:Env:=uxT.set (C7 uxT.fn 71 B2j)
theorem G9u:A6 Tryz.prog uxU:=A4 G9c 71 B2j (A3 Tryz.func71 rfl rfl) fun args o r es h _=>by
 unfold B2j at h;split at h
 ·cases h;exact A2 A9x Tryz.func71 (G7k _ _ _ _ _ _ _ _ _ _ _ _) ⟨by decide,by decide,by decide,by decide,by decide,by decide,by decide,by decide,by decide,by decide,trivial⟩
 ·cases h
theorem G1x (x0 x1 x2 x3 x4 x5:Fp) (y0:Fp) (z0:Fp):B2 uxR Tryz.f118 3000 [.v (.a [.ob (.p x0),.ob (.p x1),.ob (.p x2),.ob (.p x3),.ob (.p x4),.ob (.p x5)]),.v (.a [.ob (.p y0)]),.v (.a [.ob (.p z0)])] [] [] []=some ([],.v (.a (D7 (tch ((x0,x1),(x2,x3),(x4,x5)) y0 z0))),[]):=by kernel_rfl
def A8v:B1
 | [.v (.a [.ob (.p x0),.ob (.p x1),.ob (.p x2),.ob (.p x3),.ob (.p x4),.ob (.p x5)]),.v (.a [.ob (.p y0)]),.v (.a [.ob (.p z0)])]=>some ([],.v (.a (D7 (tch ((x0,x1),(x2,x3),(x4,x5)) y0 z0))),[])
 | _=>none
def uxV:Env:=uxU.set (C7 uxU.fn 118 A8v)
theorem G8r:A6 Tryz.prog uxV:=A4 G9u 118 A8v (A3 Tryz.func118 rfl rfl) fun args o r es h _=>by
 unfold A8v at h;split at h
 ·cases h;exact A2 A9x Tryz.func118 (G1x _ _ _ _ _ _ _ _) trivial
 ·cases h
theorem G8f (x0 x1 x2 x3 x4 x5:Fp) (y0 y1 y2 y3 y4 y5:Fp) (z0:Fp) (w0:Fp):B2 uxR Tryz.f119 3000 [.v (.a [.ob (.p x0),.ob (.p x1),.ob (.p x2),.ob (.p x3),.ob (.p x4),.ob (.p x5)]),.v (.a [.ob (.p y0),.ob (.p y1),.ob (.p y2),.ob (.p y3),.ob (.p y4),.ob (.p y5)]),.v (.a [.ob (.p z0)]),.v (.a [.ob (.p w0)])] [] [] []=some ([],.v (.a (D7 (thg ((x0,x1),(x2,x3),(x4,x5)) ((y0,y1),(y2,y3),(y4,y5)) z0 w0))),[]):=by kernel_rfl
def B4a:B1
 | [.v (.a [.ob (.p x0),.ob (.p x1),.ob (.p x2),.ob (.p x3),.ob (.p x4),.ob (.p x5)]),.v (.a [.ob (.p y0),.ob (.p y1),.ob (.p y2),.ob (.p y3),.ob (.p y4),.ob (.p y5)]),.v (.a [.ob (.p z0)]),.v (.a [.ob (.p w0)])]=>some ([],.v (.a (D7 (thg ((x0,x1),(x2,x3),(x4,x5)) ((y0,y1),(y2,y3),(y4,y5)) z0 w0))),[])
 | _=>none
def uxW:Env:=uxV.set (C7 uxV.fn 119 B4a)
theorem A8w:A6 Tryz.prog uxW:=A4 G8r 119 B4a (A3 Tryz.func119 rfl rfl) fun args o r es h _=>by
 unfold B4a at h;split at h
 ·cases h;exact A2 A9x Tryz.func119 (G8f _ _ _ _ _ _ _ _ _ _ _ _ _ _) trivial
 ·cases h
end

section
section
variable {w0:World} {F0:Nat->Prop} {K:Kp} {ac:List Act} {Q:Exit->Act->World->Prop} {cX:Ctx} {aX:Act}

instance inhF12:Inhabited F12:=⟨1⟩
theorem C7s (v : Value) (w : World) : (method (Tryz.prog.types.size + Made.depth) 83 v "Times").run Tryz.prog w = .ok (52, v) w := by kernel_rfl
def D9l (T : Nat → Option (List (String × Nat))) (t : Nat) : Option (List (String × Nat)) := if t = 83 then some [("Times", 52)] else T t
def uyA:Env:={ uxW with inv:=D9l uxW.inv }
theorem A4f:A6 Tryz.prog uyA:=by
 refine ⟨A8w.ty,A8w.mixed,A8w.fn,A8w.mu,A8w.inl,A8w.ex,fun t l h=>?_⟩
 have h:D9l uxW.inv t=some l:=h;unfold D9l at h;split at h
 ·rename_i ht
  cases h
  subst ht;refine ⟨by kernel_rfl,fun name g hg v args w=>?_⟩
  unfold X9 at hg;split at hg
  ·rename_i hn
   cases hg
   subst hn;simp only[callMethod,Sem.run_bind,run_program,Result.andThen_ok,C7s]
  cases hg
 ·exact A8w.inv t l h
--@env uyA A4f
def C5y:List KI:=(run uyA false 3000 ((fun (a u:F12) (e:List Int)=>(⟨[.code (B7 Tryz.f117)],.normal,E4 Tryz.f117.ntmps [.v (.a (D7 a)),.v (.a (D7 u)),.v (.c (.sl (.u64 e)))]⟩:Cfg)) default default default) []).cfg.k
theorem pq (a u:F12) (e:List Int) (ho:A7 []):Sg Tryz.prog (E4 Tryz.f117.ntmps [.v (.a (D7 a)),.v (.a (D7 u)),.v (.c (.sl (.u64 e)))]) (A8 23 [3,6,7,11] [.pt 16 0,.pt 48 0,.pt 80 0,(.ci (.clo 123 [(128,0)]))] [16,48,80,128] [(eF_ (D7 a)),(eF_ [(.ob (.p (0:Fp))),(.ob (.p (0:Fp))),(.ob (.p (0:Fp))),(.ob (.p (0:Fp))),(.ob (.p (0:Fp))),(.ob (.p (0:Fp))),(.ob (.p (0:Fp))),(.ob (.p (0:Fp))),(.ob (.p (0:Fp))),(.ob (.p (0:Fp))),(.ob (.p (0:Fp))),(.ob (.p (0:Fp)))]),(eF_ (D7 u)),(eF_ [.sl (.u64 e)])] 192 [] []) .normal (C5y) ([.code (B7 Tryz.f117)]):=fun hs hK=>
 A5 (unroll:=false) (n:=3000) (path:=[]) (o:=⟨_,_,_,_,_,_,_⟩) A4f (by kernel_rfl) (by kernel_rfl) ho hs hK
def pqS (a:F12) (e:List Int) (o:F12):St:=A8 23 [3,6,7,11] [.pt 16 0,.pt 48 0,.pt 80 0,(.ci (.clo 123 [(128,0)]))] [16,48,80,128] [(eF_ (D7 a)),(eF_ [(.ob (.p (0:Fp))),(.ob (.p (0:Fp))),(.ob (.p (0:Fp))),(.ob (.p (0:Fp))),(.ob (.p (0:Fp))),(.ob (.p (0:Fp))),(.ob (.p (0:Fp))),(.ob (.p (0:Fp))),(.ob (.p (0:Fp))),(.ob (.p (0:Fp))),(.ob (.p (0:Fp))),(.ob (.p (0:Fp)))]),some (.fl (D7 o)),(eF_ [.sl (.u64 e)])] 192 [] []
theorem pqA (a:F12) (e:List Int) (o:F12) (z:Bool) {ρ:Option Nat} (ho:A7 []) (hs:Sim w0 F0 K ac (U3 (pqS a e o) [(12,.v (.c (.bool z)))]) cX aX) (hK:∀cY aY,Sim w0 F0 K ac (A8 23 [3,6,7,8] [.pt 16 0,.pt 48 0,.pt 80 0,(.ci (.bool z))] [16,48,80,128] [(eF_ (D7 a)),(eF_ [(.ob (.p (0:Fp))),(.ob (.p (0:Fp))),(.ob (.p (0:Fp))),(.ob (.p (0:Fp))),(.ob (.p (0:Fp))),(.ob (.p (0:Fp))),(.ob (.p (0:Fp))),(.ob (.p (0:Fp))),(.ob (.p (0:Fp))),(.ob (.p (0:Fp))),(.ob (.p (0:Fp))),(.ob (.p (0:Fp)))]),(eF_ (D7 o)),(eF_ [.sl (.u64 e)])] 208 [[3,6,7,11]] [([.pt 16 0,.pt 48 0,.pt 80 0,(.ci (.clo 123 [(128,0)]))],23)]) cY aY->Wq Tryz.prog Q ([]) ac Exit.normal aY cY.w ρ):Wq Tryz.prog Q ([.code (rfA C5y)]) ac .normal aX cX.w ρ :=
 F8 (unroll:=false) (n:=3000) (path:=[]) (o:=⟨_,_,_,_,_,_,_⟩) A4f (by kernel_rfl) (by kernel_rfl) ho (by kernel_rfl) (by kernel_rfl) hs hK
def pqB (a:F12) (e:List Int) (o:F12) (z:Bool):St:=A8 23 [3,6,7,8] [.pt 16 0,.pt 48 0,.pt 80 0,(.ci (.bool z))] [16,48,80,128] [(eF_ (D7 a)),(eF_ [(.ob (.p (0:Fp))),(.ob (.p (0:Fp))),(.ob (.p (0:Fp))),(.ob (.p (0:Fp))),(.ob (.p (0:Fp))),(.ob (.p (0:Fp))),(.ob (.p (0:Fp))),(.ob (.p (0:Fp))),(.ob (.p (0:Fp))),(.ob (.p (0:Fp))),(.ob (.p (0:Fp))),(.ob (.p (0:Fp)))]),some (.fl (D7 o)),(eF_ [.sl (.u64 e)])] 208 [[3,6,7,11]] [([.pt 16 0,.pt 48 0,.pt 80 0,(.ci (.clo 123 [(128,0)]))],23)]
theorem pqC (a:F12) (e:List Int) (o:F12) (z:Bool) {ρ:Option Nat} (ho:A7 [(z=true)]) (hs:Sim w0 F0 K ac (pqB a e o z) cX aX) (hK:∀cY aY,Sim w0 F0 K ac (A8 23 [6] [.pt 48 0] [16,48,80,128] [(eF_ (D7 a)),(eF_ [(.ob (.p (0:Fp))),(.ob (.p (0:Fp))),(.ob (.p (0:Fp))),(.ob (.p (0:Fp))),(.ob (.p (0:Fp))),(.ob (.p (0:Fp))),(.ob (.p (0:Fp))),(.ob (.p (0:Fp))),(.ob (.p (0:Fp))),(.ob (.p (0:Fp))),(.ob (.p (0:Fp))),(.ob (.p (0:Fp)))]),(eF_ (D7 ((o*o)*(E2.mk (E3.mk ((Prod.fst (E3.a (E2.a a))),(Prod.snd (E3.a (E2.a a)))) ((Prod.fst (E3.b (E2.a a))),(Prod.snd (E3.b (E2.a a)))) ((Prod.fst (E3.c (E2.a a))),(Prod.snd (E3.c (E2.a a))))) (E3.mk ((Prod.fst (E3.a (E2.b a))),(Prod.snd (E3.a (E2.b a)))) ((Prod.fst (E3.b (E2.b a))),(Prod.snd (E3.b (E2.b a)))) ((Prod.fst (E3.c (E2.b a))),(Prod.snd (E3.c (E2.b a))))))))),(eF_ [.sl (.u64 e)])] 384 [[3,6,7,11]] [([.pt 16 0,.pt 48 0,.pt 80 0,(.ci (.clo 123 [(128,0)]))],23)]) cY aY->Wq Tryz.prog Q ([]) ac Exit.normal aY cY.w ρ):Wq Tryz.prog Q ([.code (rfB C5y)]) ac .normal aX cX.w ρ :=
 F8 (unroll:=false) (n:=3000) (path:=[true]) (o:=⟨_,_,_,_,_,_,_⟩) A4f (by kernel_rfl) (by kernel_rfl) ho (by kernel_rfl) (by kernel_rfl) hs hK
theorem pqD (a:F12) (e:List Int) (o:F12) (z:Bool) {ρ:Option Nat} (ho:A7 [(z=false)]) (hs:Sim w0 F0 K ac (pqB a e o z) cX aX) (hK:∀cY aY,Sim w0 F0 K ac (A8 23 [6] [.pt 48 0] [16,48,80,128] [(eF_ (D7 a)),(eF_ [(.ob (.p (0:Fp))),(.ob (.p (0:Fp))),(.ob (.p (0:Fp))),(.ob (.p (0:Fp))),(.ob (.p (0:Fp))),(.ob (.p (0:Fp))),(.ob (.p (0:Fp))),(.ob (.p (0:Fp))),(.ob (.p (0:Fp))),(.ob (.p (0:Fp))),(.ob (.p (0:Fp))),(.ob (.p (0:Fp)))]),(eF_ (D7 (o*o))),(eF_ [.sl (.u64 e)])] 304 [[3,6,7,11]] [([.pt 16 0,.pt 48 0,.pt 80 0,(.ci (.clo 123 [(128,0)]))],23)]) cY aY->Wq Tryz.prog Q ([]) ac Exit.normal aY cY.w ρ):Wq Tryz.prog Q ([.code (rfB C5y)]) ac .normal aX cX.w ρ :=
 F8 (unroll:=false) (n:=3000) (path:=[false]) (o:=⟨_,_,_,_,_,_,_⟩) A4f (by kernel_rfl) (by kernel_rfl) ho (by kernel_rfl) (by kernel_rfl) hs hK
theorem pqX (a:F12) (e:List Int) (o:F12) (ho:A7 []):Sg Tryz.prog (pqS a e o) (A8 23 [6] [.pt 48 0] [48] [(eF_ (D7 o))] 224 [] []) .ret ([]) (rfR C5y):=fun hs hK=>
 A5 (unroll:=false) (n:=3000) (path:=[]) (o:=⟨_,_,_,_,_,_,_⟩) A4f (by kernel_rfl) (by kernel_rfl) ho hs hK
def pqE (a:F12) (e:List Int) (o:F12):St:=A8 23 [6] [.pt 48 0] [16,48,80,128] [(eF_ (D7 a)),(eF_ [(.ob (.p (0:Fp))),(.ob (.p (0:Fp))),(.ob (.p (0:Fp))),(.ob (.p (0:Fp))),(.ob (.p (0:Fp))),(.ob (.p (0:Fp))),(.ob (.p (0:Fp))),(.ob (.p (0:Fp))),(.ob (.p (0:Fp))),(.ob (.p (0:Fp))),(.ob (.p (0:Fp))),(.ob (.p (0:Fp)))]),some (.fl (D7 o)),(eF_ [.sl (.u64 e)])] 384 [[3,6,7,11]] [([.pt 16 0,.pt 48 0,.pt 80 0,(.ci (.clo 123 [(128,0)]))],23)]
def pqZ (o:F12):St:=A8 23 [6] [.pt 48 0] [48] [some (.fl (D7 o))] 224 [] []
theorem G1b (o:F12):I0 uyA Tryz.f117 false 3000 (⟨[],.ret,pqZ o⟩) [] [] []=(some ([],((.v (.a (D7 o))),[]))):=by kernel_rfl
end
end

section

section
variable {G:Type} [J9 G]
theorem P7 (g:G) (m:Nat):∀n,A9 g (m+n)=A9 g m*A9 g n
 | 0=>by show A9 g m=A9 g m*1;grind
 | n+1=>by
  show A9 g (m+n)*g=A9 g m*(A9 g n*g);rw[P7 g m n];grind
theorem F0h (g:G) (l:List Bool) (z:Bool):A9 g (pv (l++[z]))=if z=true then A9 g (pv l)*A9 g (pv l)*g else A9 g (pv l)*A9 g (pv l):=by
 rw[B6i,Nat.two_mul]
 cases z with
 | true=>
  rw[if_pos rfl,<-P7];rfl
 | false=>
  rw[if_neg (by decide),<-P7]
  rfl
end

theorem D4o (a:F12) (e:List Int) (hl:e.length<=16) (hlim:A3a e) :
  FnD Tryz.prog 117 [.v (.a (D7 a)),.v (.a (D7 1)),.v (.c (.sl (.u64 e)))] (.v (.a (D7 (A9 a (M6 e))))) []:=by
 refine Q8 (fn:=Tryz.f117) (c:=B7 Tryz.f117) Tryz.func117 rfl rfl fun x b hk hF hs=>?_
 refine pq a 1 e trivial hs fun ac cY aY hs1=>?_
 obtain ⟨e1,e2⟩:=A1l (k:=C5y) (by kernel_rfl)
 rw[e1];have eP:(rfP C5y).toList=[12]:=by kernel_rfl
 have eG:rfG C5y = .tmp 11:=by kernel_rfl
 refine W5 (ps:=rfP C5y) e2 hs1 (gf:=123) (caps:=[(128,0)]) (A3 Tryz.func123 rfl rfl) (fun pre=>pqS a e (A9 a (pv pre))) (fun s=>by rw[eG];rfl) ⟨_,rfl⟩ (btL (M6 e) (L0 e e.length) (L0 e e.length)) C9l C0u
  (fun y z=>.cons ⟨rfl,0,rfl⟩ .nil) (fun z=>by rw[<-Array.length_toList,eP];rfl) (fun pre p hp=>?_) (A6k hl hlim fun s=>rfl) (fun pre z=>pqB a e (A9 a (pv pre)) z)
  (fun pre z=>pqE a e (A9 a (pv (pre++[z])))) (fun pre z=>⟨_,rfl⟩) (fun pre z hz w1 F1 K1 as1 Q1 l y b hs2 hQ=>?_) (fun pre z hz w1 F1 K1 as1 Q1 l y b hs2 hQ=>?_) fun D y hs2 hD hFD hd=>?_
 ·rw[eP] at hp
  have h23:(pqS a e (A9 a (pv pre))).nt=23:=rfl;rw[h23];simp only[List.mem_cons,List.not_mem_nil,or_false] at hp;subst hp;decide
 ·rw[eP] at hs2
  exact pqA a e _ z trivial hs2 fun cZ aZ hs3=>⟨hQ _ _ (hs3.nx _)⟩
 ·rw[F0h] at hQ
  cases z with
  | true=>exact pqC a e _ true ⟨rfl,trivial⟩ hs2 fun cZ aZ hs3=>⟨hQ _ _ (hs3.nx _)⟩
  | false=>exact pqD a e _ false ⟨rfl,trivial⟩ hs2 fun cZ aZ hs3=>⟨hQ _ _ (hs3.nx _)⟩
 ·have hs3:=hs2.marked rfl rfl D
  have hN:M6 e<2 ^ L0 e e.length:=by
   have:=C6k hlim e.length (Nat.le_refl _)
   rwa [List.take_length] at this
  rw[B5u hN _ (Nat.le_refl _),Nat.sub_self,Nat.pow_zero,Nat.div_one] at hs2 hs3;generalize A9 a (M6 e)=o at hs2 hs3 ⊢
  refine pqX a e o trivial hs3 fun ac cV aV hs6=>⟨?_⟩
  have hs7:Sim y.w y.F (R1 y W0 (G9 D)) ac (pqZ o) cV aV:=hs6;exact W7 A4f hk hF (G1b o) trivial (fun y v hd=>hd) hs2 hD hFD hd rfl hs7

end

section
section
variable {w0:World} {F0:Nat->Prop} {K:Kp} {ac:List Act} {Q:Exit->Act->World->Prop} {cX:Ctx} {aX:Act}

theorem C6h (a u:F12) (e:List Int) (hu:u=1) (hl:e.length<=16) (hlim:A3a e) :
  FnD Tryz.prog 117 [.v (.a (D7 a)),.v (.a (D7 u)),.v (.c (.sl (.u64 e)))] (.v (.a (D7 (A9 a (M6 e))))) []:=by
 subst hu;exact D4o a e hl hlim
theorem C8g (x0 x1 x2 x3 x4 x5 x6 x7 x8 x9 x10 x11 y0 y1 y2 y3 y4 y5 y6 y7 y8 y9 y10 y11:Fp) (e:List Int) (hu:(⟨⟨(y0,y1),(y2,y3),(y4,y5)⟩,⟨(y6,y7),(y8,y9),(y10,y11)⟩⟩:F12)=1) (hl:e.length<=16) (hlim:A3a e) :
  FnD Tryz.prog 117 [.v (.a [.ob (.p x0),.ob (.p x1),.ob (.p x2),.ob (.p x3),.ob (.p x4),.ob (.p x5),.ob (.p x6),.ob (.p x7),.ob (.p x8),.ob (.p x9),.ob (.p x10),.ob (.p x11)]),.v (.a [.ob (.p y0),.ob (.p y1),.ob (.p y2),.ob (.p y3),.ob (.p y4),.ob (.p y5),.ob (.p y6),.ob (.p y7),.ob (.p y8),.ob (.p y9),.ob (.p y10),.ob (.p y11)]),.v (.c (.sl (.u64 e)))] (.v (.a (D7 (A9 (⟨⟨(x0,x1),(x2,x3),(x4,x5)⟩,⟨(x6,x7),(x8,x9),(x10,x11)⟩⟩:F12) (M6 e))))) []:=C6h (⟨⟨(x0,x1),(x2,x3),(x4,x5)⟩,⟨(x6,x7),(x8,x9),(x10,x11)⟩⟩:F12) (⟨⟨(y0,y1),(y2,y3),(y4,y5)⟩,⟨(y6,y7),(y8,y9),(y10,y11)⟩⟩:F12) e hu hl hlim
def A6d:B1
 | [.v (.a [.ob (.p x0),.ob (.p x1),.ob (.p x2),.ob (.p x3),.ob (.p x4),.ob (.p x5),.ob (.p x6),.ob (.p x7),.ob (.p x8),.ob (.p x9),.ob (.p x10),.ob (.p x11)]),.v (.a [.ob (.p y0),.ob (.p y1),.ob (.p y2),.ob (.p y3),.ob (.p y4),.ob (.p y5),.ob (.p y6),.ob (.p y7),.ob (.p y8),.ob (.p y9),.ob (.p y10),.ob (.p y11)]),.v (.c (.sl (.u64 e)))]=>some ([(⟨⟨(y0,y1),(y2,y3),(y4,y5)⟩,⟨(y6,y7),(y8,y9),(y10,y11)⟩⟩:F12)=1,e.length<=16,A3a e],.v (.a (D7 (A9 (⟨⟨(x0,x1),(x2,x3),(x4,x5)⟩,⟨(x6,x7),(x8,x9),(x10,x11)⟩⟩:F12) (M6 e)))),[])
 | _=>none
def uyB:Env:=uyA.set (C7 uyA.fn 117 A6d)
theorem D5y:A6 Tryz.prog uyB:=A4 A4f 117 A6d (A3 Tryz.func117 rfl rfl) fun args o r es h ho=>by
 unfold A6d at h;split at h
 ·cases h;exact C8g _ _ _ _ _ _ _ _ _ _ _ _ _ _ _ _ _ _ _ _ _ _ _ _ _ ho.1 ho.2.1 ho.2.2.1
 ·cases h
--@env uyB D5y
theorem H0i (a:F12) (n:Int):B2 uyB Tryz.f72 3000 [.v (.a (D7 a)),.v (.c (.int .u64 n))] [] [] []=(some ([(0=0),(1=1),(1=1),((1:F12)=(1:(E2 F6))),(1<=16),(A3a [n])],((.v (.a (D7 (A9 a (M6 [n]))))),[]))):=by kernel_rfl
theorem E8n:∃f:F12->Int->F12,∀x n,f x n=A9 x n.toNat:=⟨fun x n=>A9 x n.toNat,fun _ _=>rfl⟩
/-- A power with a number, that the kernel does not work out. -/
def gpi:F12->Int->F12:=Classical.choose E8n
theorem B2p (x:F12) (n:Int):gpi x n=A9 x n.toNat:=Classical.choose_spec E8n x n
theorem F1w (n:Int):M6 [n]=n.toNat:=by
 show n.toNat+18446744073709551616*0=_;omega
theorem E2u (x0 x1 x2 x3 x4 x5 x6 x7 x8 x9 x10 x11:Fp) (n:Int) (h0:0<=n) (h1:n<18446744073709551616):FnD Tryz.prog 72 [.v (.a [.ob (.p x0),.ob (.p x1),.ob (.p x2),.ob (.p x3),.ob (.p x4),.ob (.p x5),.ob (.p x6),.ob (.p x7),.ob (.p x8),.ob (.p x9),.ob (.p x10),.ob (.p x11)]),.v (.c (.int .u64 n))] (.v (.a (D7 (gpi (⟨⟨(x0,x1),(x2,x3),(x4,x5)⟩,⟨(x6,x7),(x8,x9),(x10,x11)⟩⟩:F12) n)))) []:=by
 have r:=H0i (⟨⟨(x0,x1),(x2,x3),(x4,x5)⟩,⟨(x6,x7),(x8,x9),(x10,x11)⟩⟩:F12) n;rw[F1w,<-B2p] at r;refine A2 D5y Tryz.func72 r ⟨rfl,rfl,rfl,rfl,by decide,fun x hx=>?_,trivial⟩
 simp only[List.mem_cons,List.not_mem_nil,or_false] at hx;subst hx;exact ⟨h0,h1⟩
def B3q:B1
 | [.v (.a [.ob (.p x0),.ob (.p x1),.ob (.p x2),.ob (.p x3),.ob (.p x4),.ob (.p x5),.ob (.p x6),.ob (.p x7),.ob (.p x8),.ob (.p x9),.ob (.p x10),.ob (.p x11)]),.v (.c (.int .u64 n))]=>some ([0<=n,n<18446744073709551616],.v (.a (D7 (gpi (⟨⟨(x0,x1),(x2,x3),(x4,x5)⟩,⟨(x6,x7),(x8,x9),(x10,x11)⟩⟩:F12) n))),[])
 | _=>none
def uyC:Env:=uyB.set (C7 uyB.fn 72 B3q)
theorem P2:A6 Tryz.prog uyC:=A4 D5y 72 B3q (A3 Tryz.func72 rfl rfl) fun args o r es h ho=>by
 unfold B3q at h;split at h
 ·cases h;exact E2u _ _ _ _ _ _ _ _ _ _ _ _ _ ho.1 ho.2.1
 ·cases h
--@env uyC P2
def F4m:List KI:=(run uyC false 7 ((fun (f:F12)=>(⟨[.code (B7 Tryz.f35)],.normal,E4 Tryz.f35.ntmps [.v (.a (D7 f))]⟩:Cfg)) default) []).cfg.k
section
variable (f:F12)
theorem fiA (ho:A7 []):Sg Tryz.prog (E4 Tryz.f35.ntmps [.v (.a (D7 f))]) (A8 37 [1,2] [.pt 16 0,.pt 32 0] [16,32] [(eF_ (D7 ((cjp f)*(ivp f)))),(eF_ [(.ob (.p (0:Fp))),(.ob (.p (0:Fp))),(.ob (.p (0:Fp))),(.ob (.p (0:Fp))),(.ob (.p (0:Fp))),(.ob (.p (0:Fp))),(.ob (.p (0:Fp))),(.ob (.p (0:Fp))),(.ob (.p (0:Fp))),(.ob (.p (0:Fp))),(.ob (.p (0:Fp))),(.ob (.p (0:Fp)))])] 144 [] []) .normal (F4m) ([.code (B7 Tryz.f35)]):=fun hs hK=>
 A5 (unroll:=false) (n:=7) (path:=[]) (o:=⟨_,_,_,_,_,_,_⟩) P2 (by kernel_rfl) (by kernel_rfl) ho hs hK
def fiS (f:F12):St:=A8 37 [1,2] [.pt 16 0,.pt 32 0] [16,32] [some (.fl (D7 f)),(eF_ [(.ob (.p (0:Fp))),(.ob (.p (0:Fp))),(.ob (.p (0:Fp))),(.ob (.p (0:Fp))),(.ob (.p (0:Fp))),(.ob (.p (0:Fp))),(.ob (.p (0:Fp))),(.ob (.p (0:Fp))),(.ob (.p (0:Fp))),(.ob (.p (0:Fp))),(.ob (.p (0:Fp))),(.ob (.p (0:Fp)))])] 144 [] []
def F3z:List KI:=(run uyC false 2 ((fun (f:F12)=>(⟨F4m,.normal,fiS f⟩:Cfg)) default) []).cfg.k
theorem fiB (ho:A7 []):Sg Tryz.prog (fiS f) (A8 37 [1,2] [.pt 16 0,.pt 32 0] [16,32] [(eF_ (D7 ((frb (frb f))*f))),(eF_ [(.ob (.p (0:Fp))),(.ob (.p (0:Fp))),(.ob (.p (0:Fp))),(.ob (.p (0:Fp))),(.ob (.p (0:Fp))),(.ob (.p (0:Fp))),(.ob (.p (0:Fp))),(.ob (.p (0:Fp))),(.ob (.p (0:Fp))),(.ob (.p (0:Fp))),(.ob (.p (0:Fp))),(.ob (.p (0:Fp)))])] 240 [] []) .normal (F3z) (F4m):=fun hs hK=>
 A5 (unroll:=false) (n:=2) (path:=[]) (o:=⟨_,_,_,_,_,_,_⟩) P2 (by kernel_rfl) (by kernel_rfl) ho hs hK
def F4s:List KI:=(run uyC false 8 ((fun (f:F12)=>(⟨F3z,.normal,fiS f⟩:Cfg)) default) []).cfg.k
theorem fiC (ho:A7 [(0<=(15132376222941642753:Int)),((15132376222941642753:Int)<(18446744073709551616:Int)),(0<=(5044125407647214251:Int)),((5044125407647214251:Int)<(18446744073709551616:Int))]):Sg Tryz.prog (fiS f) (A8 37 [1,2,3] [.pt 16 0,.pt 32 0,.pt 192 0] [16,32,192] [(eF_ (D7 f)),(eF_ [(.ob (.p (0:Fp))),(.ob (.p (0:Fp))),(.ob (.p (0:Fp))),(.ob (.p (0:Fp))),(.ob (.p (0:Fp))),(.ob (.p (0:Fp))),(.ob (.p (0:Fp))),(.ob (.p (0:Fp))),(.ob (.p (0:Fp))),(.ob (.p (0:Fp))),(.ob (.p (0:Fp))),(.ob (.p (0:Fp)))]),(eF_ (D7 (gpi (gpi f (15132376222941642753:Int)) (5044125407647214251:Int))))] 224 [] []) .normal (F4s) (F3z):=fun hs hK=>
 A5 (unroll:=false) (n:=8) (path:=[]) (o:=⟨_,_,_,_,_,_,_⟩) P2 (by kernel_rfl) (by kernel_rfl) ho hs hK
def fiT (f g:F12):St:=A8 37 [1,2,3] [.pt 16 0,.pt 32 0,.pt 192 0] [16,32,192] [some (.fl (D7 f)),(eF_ [(.ob (.p (0:Fp))),(.ob (.p (0:Fp))),(.ob (.p (0:Fp))),(.ob (.p (0:Fp))),(.ob (.p (0:Fp))),(.ob (.p (0:Fp))),(.ob (.p (0:Fp))),(.ob (.p (0:Fp))),(.ob (.p (0:Fp))),(.ob (.p (0:Fp))),(.ob (.p (0:Fp))),(.ob (.p (0:Fp)))]),some (.fl (D7 g))] 224 [] []
def F2j:List KI:=(run uyC false 2 ((fun (f g:F12)=>(⟨F4s,.normal,fiT f g⟩:Cfg)) default default) []).cfg.k
end
section
variable (f g:F12)
theorem fiD (ho:A7 [(0<=(15132376222941642752:Int)),((15132376222941642752:Int)<(18446744073709551616:Int))]):Sg Tryz.prog (fiT f g) (A8 37 [1,2,3] [.pt 16 0,.pt 32 0,.pt 192 0] [16,32,192] [(eF_ (D7 f)),(eF_ [(.ob (.p (0:Fp))),(.ob (.p (0:Fp))),(.ob (.p (0:Fp))),(.ob (.p (0:Fp))),(.ob (.p (0:Fp))),(.ob (.p (0:Fp))),(.ob (.p (0:Fp))),(.ob (.p (0:Fp))),(.ob (.p (0:Fp))),(.ob (.p (0:Fp))),(.ob (.p (0:Fp))),(.ob (.p (0:Fp)))]),(eF_ (D7 ((cjp (gpi g (15132376222941642752:Int)))*(frb g))))] 336 [] []) .normal (F2j) (F4s):=fun hs hK=>
 A5 (unroll:=false) (n:=2) (path:=[]) (o:=⟨_,_,_,_,_,_,_⟩) P2 (by kernel_rfl) (by kernel_rfl) ho hs hK
def G3m:List KI:=(run uyC false 8 ((fun (f g:F12)=>(⟨F2j,.normal,fiT f g⟩:Cfg)) default default) []).cfg.k
theorem fiE (ho:A7 [(0<=(15132376222941642752:Int)),((15132376222941642752:Int)<(18446744073709551616:Int)),(0<=(15132376222941642752:Int)),((15132376222941642752:Int)<(18446744073709551616:Int))]):Sg Tryz.prog (fiT f g) (A8 37 [1,2,3,4] [.pt 16 0,.pt 32 0,.pt 192 0,.pt 272 0] [16,32,192,272] [(eF_ (D7 f)),(eF_ [(.ob (.p (0:Fp))),(.ob (.p (0:Fp))),(.ob (.p (0:Fp))),(.ob (.p (0:Fp))),(.ob (.p (0:Fp))),(.ob (.p (0:Fp))),(.ob (.p (0:Fp))),(.ob (.p (0:Fp))),(.ob (.p (0:Fp))),(.ob (.p (0:Fp))),(.ob (.p (0:Fp))),(.ob (.p (0:Fp)))]),(eF_ (D7 g)),(eF_ (D7 (gpi (gpi g (15132376222941642752:Int)) (15132376222941642752:Int))))] 304 [] []) .normal (G3m) (F2j):=fun hs hK=>
 A5 (unroll:=false) (n:=8) (path:=[]) (o:=⟨_,_,_,_,_,_,_⟩) P2 (by kernel_rfl) (by kernel_rfl) ho hs hK
def fiU (f g h:F12):St:=A8 37 [1,2,3,4] [.pt 16 0,.pt 32 0,.pt 192 0,.pt 272 0] [16,32,192,272] [some (.fl (D7 f)),(eF_ [(.ob (.p (0:Fp))),(.ob (.p (0:Fp))),(.ob (.p (0:Fp))),(.ob (.p (0:Fp))),(.ob (.p (0:Fp))),(.ob (.p (0:Fp))),(.ob (.p (0:Fp))),(.ob (.p (0:Fp))),(.ob (.p (0:Fp))),(.ob (.p (0:Fp))),(.ob (.p (0:Fp))),(.ob (.p (0:Fp)))]),some (.fl (D7 g)),some (.fl (D7 h))] 304 [] []
end
theorem G0a (f g h:F12):I0 uyC Tryz.f35 false 3000 (⟨G3m,.normal,fiU f g h⟩) [] [] []=(some ([],((.v (.a (D7 (((h*(frb (frb g)))*(cjp g))*f)))),[]))):=by kernel_rfl

end
end

section

/-- The last exponent: the powers of p^6 - 1 and of p p + 1; what is left. -/
def C7r (f:F12):F12:=frb (frb (cjp f*ivp f))*(cjp f*ivp f)
def C8e (f:F12):F12:=gpi (gpi f 15132376222941642753) 5044125407647214251
def C2g (g:F12):F12:=cjp (gpi g 15132376222941642752)*frb g
def F6l (k:F12):F12:=gpi (gpi k 15132376222941642752) 15132376222941642752
def G8b (f:F12):F12:=F6l (C2g (C8e f))*frb (frb (C2g (C8e f)))*cjp (C2g (C8e f))*f
def J0 (f:F12):F12:=G8b (C7r f)
theorem D7c (f:F12):FnD Tryz.prog 35 [.v (.a (D7 f))] (.v (.a (D7 (J0 f)))) []:=by
 refine M9 (fn:=Tryz.f35) (c:=B7 Tryz.f35) Tryz.func35 rfl rfl fun x a hk hF hs=>?_
 refine fiA f trivial hs fun ac cY aY hs1=>?_
 refine fiB (cjp f*ivp f) trivial (hs1.nx _) fun ac cY aY hs2=>?_
 refine fiC (C7r f) ⟨by decide,by decide,by decide,by decide,trivial⟩ (hs2.nx _) fun ac cY aY hs3=>?_
 refine fiD (C7r f) (C8e (C7r f)) ⟨by decide,by decide,trivial⟩ (hs3.nx _) fun ac cY aY hs4=>?_
 refine fiE (C7r f) (C2g (C8e (C7r f))) ⟨by decide,by decide,by decide,by decide,trivial⟩ (hs4.nx _) fun ac cY aY hs5=>?_
 exact K9 P2 hk hF (G0a (C7r f) (C2g (C8e (C7r f))) (F6l (C2g (C8e (C7r f))))) trivial (fun y v hd=>hd) (hs5.nx _)
end

section
section
variable {w0:World} {F0:Nat->Prop} {K:Kp} {ac:List Act} {Q:Exit->Act->World->Prop} {cX:Ctx} {aX:Act}

--@env uyC P2
def C2f:List KI:=(run uyC false 3000 ((fun (x y a b c d:U6) (i j:Bool)=>(⟨[.code (B7 Tryz.f73)],.normal,E4 Tryz.f73.ntmps [.v (.a [.ob (.fp x),.ob (.fp y),.bool i]),.v (.a [.ob (.fp a),.ob (.fp b),.ob (.fp c),.ob (.fp d),.bool j])]⟩:Cfg)) default default default default default default default default) []).cfg.k
theorem mi (x y a b c d:U6) (i j:Bool) (ho:A7 []):Sg Tryz.prog (E4 Tryz.f73.ntmps [.v (.a [.ob (.fp x),.ob (.fp y),.bool i]),.v (.a [.ob (.fp a),.ob (.fp b),.ob (.fp c),.ob (.fp d),.bool j])]) (A8 49 [4,5,6,7,8,9,10,23] [.pt 48 0,.pt 160 0,.pt 176 0,.pt 256 0,.pt 320 0,.pt 336 0,.pt 384 0,(.ci (.clo 123 [(432,0)]))] [48,160,176,256,320,336,384,416,432] [(eF_ [(.ob (.p (0:Fp))),(.ob (.p (0:Fp))),(.ob (.p (0:Fp))),(.ob (.p (0:Fp))),(.ob (.p (0:Fp))),(.ob (.p (0:Fp))),(.ob (.p (0:Fp))),(.ob (.p (0:Fp))),(.ob (.p (0:Fp))),(.ob (.p (0:Fp))),(.ob (.p (0:Fp))),(.ob (.p (0:Fp)))]),(eF_ [(.ob (.p (inP x)))]),(eF_ [(.ob (.p (inP y)))]),(eF_ [(.ob (.p (Prod.fst (Prod.fst (P4 (G2D.mk a b c d j)))))),(.ob (.p (Prod.snd (Prod.fst (P4 (G2D.mk a b c d j)))))),(.ob (.p (Prod.fst (Prod.fst (Prod.snd (P4 (G2D.mk a b c d j))))))),(.ob (.p (Prod.snd (Prod.fst (Prod.snd (P4 (G2D.mk a b c d j))))))),(.ob (.p (Prod.fst (Prod.snd (Prod.snd (P4 (G2D.mk a b c d j))))))),(.ob (.p (Prod.snd (Prod.snd (Prod.snd (P4 (G2D.mk a b c d j)))))))]),(eF_ [(.ob (.p (Prod.fst (Prod.fst (P4 (G2D.mk a b c d j)))))),(.ob (.p (Prod.snd (Prod.fst (P4 (G2D.mk a b c d j)))))),(.ob (.p (Prod.fst (Prod.fst (Prod.snd (P4 (G2D.mk a b c d j))))))),(.ob (.p (Prod.snd (Prod.fst (Prod.snd (P4 (G2D.mk a b c d j))))))),(.ob (.p (Prod.fst (Prod.snd (Prod.snd (P4 (G2D.mk a b c d j))))))),(.ob (.p (Prod.snd (Prod.snd (Prod.snd (P4 (G2D.mk a b c d j)))))))]),(eF_ (D7 (1:F12))),(eF_ [(.lit true)]),(eQ_ (.u64 [(15132376222941642752:Int)])),(eF_ [(.slc 416 0 1 1)])] 496 [] []) .normal (C2f) ([.code (B7 Tryz.f73)]):=fun hs hK=>
 A5 (unroll:=false) (n:=3000) (path:=[]) (o:=⟨_,_,_,_,_,_,_⟩) P2 (by kernel_rfl) (by kernel_rfl) ho hs hK
def miS (x y:Fp) (q t:F2×F2×F2) (f:F12) (fb:Bool):St:=A8 49 [4,5,6,7,8,9,10,23] [.pt 48 0,.pt 160 0,.pt 176 0,.pt 256 0,.pt 320 0,.pt 336 0,.pt 384 0,(.ci (.clo 123 [(432,0)]))] [48,160,176,256,320,336,384,416,432] [(eF_ [(.ob (.p (0:Fp))),(.ob (.p (0:Fp))),(.ob (.p (0:Fp))),(.ob (.p (0:Fp))),(.ob (.p (0:Fp))),(.ob (.p (0:Fp))),(.ob (.p (0:Fp))),(.ob (.p (0:Fp))),(.ob (.p (0:Fp))),(.ob (.p (0:Fp))),(.ob (.p (0:Fp))),(.ob (.p (0:Fp)))]),some (.fl [.ob (.p x)]),some (.fl [.ob (.p y)]),some (.fl (K7 q)),some (.fl (K7 t)),some (.fl (D7 f)),some (.fl [.lit fb]),(eQ_ (.u64 [(15132376222941642752:Int)])),(eF_ [(.slc 416 0 1 1)])] 496 [] []
theorem miA (x y:Fp) (q t:F2×F2×F2) (f:F12) (fb z:Bool) {ρ:Option Nat} (ho:A7 []) (hs:Sim w0 F0 K ac (U3 (miS x y q t f fb) [(24,.v (.c (.bool z)))]) cX aX) (hK:∀cY aY,Sim w0 F0 K ac (A8 49 [4,5,6,7,8,9,10,11] [.pt 48 0,.pt 160 0,.pt 176 0,.pt 256 0,.pt 320 0,.pt 336 0,.pt 384 0,(.ci (.bool z))] [48,160,176,256,320,336,384,416,432] [(eF_ [(.ob (.p (0:Fp))),(.ob (.p (0:Fp))),(.ob (.p (0:Fp))),(.ob (.p (0:Fp))),(.ob (.p (0:Fp))),(.ob (.p (0:Fp))),(.ob (.p (0:Fp))),(.ob (.p (0:Fp))),(.ob (.p (0:Fp))),(.ob (.p (0:Fp))),(.ob (.p (0:Fp))),(.ob (.p (0:Fp)))]),(eF_ [.ob (.p x)]),(eF_ [.ob (.p y)]),(eF_ [(.ob (.p (Prod.fst (Prod.fst q)))),(.ob (.p (Prod.snd (Prod.fst q)))),(.ob (.p (Prod.fst (Prod.fst (Prod.snd q))))),(.ob (.p (Prod.snd (Prod.fst (Prod.snd q))))),(.ob (.p (Prod.fst (Prod.snd (Prod.snd q))))),(.ob (.p (Prod.snd (Prod.snd (Prod.snd q)))))]),(eF_ [(.ob (.p (Prod.fst (Prod.fst t)))),(.ob (.p (Prod.snd (Prod.fst t)))),(.ob (.p (Prod.fst (Prod.fst (Prod.snd t))))),(.ob (.p (Prod.snd (Prod.fst (Prod.snd t))))),(.ob (.p (Prod.fst (Prod.snd (Prod.snd t))))),(.ob (.p (Prod.snd (Prod.snd (Prod.snd t)))))]),(eF_ (D7 f)),(eF_ [(.lit fb)]),(eQ_ (.u64 [(15132376222941642752:Int)])),(eF_ [(.slc 416 0 1 1)])] 512 [[4,5,6,7,8,9,10,23]] [([.pt 48 0,.pt 160 0,.pt 176 0,.pt 256 0,.pt 320 0,.pt 336 0,.pt 384 0,(.ci (.clo 123 [(432,0)]))],49)]) cY aY->Wq Tryz.prog Q ([]) ac Exit.normal aY cY.w ρ):Wq Tryz.prog Q ([.code (rfA C2f)]) ac .normal aX cX.w ρ :=
 F8 (unroll:=false) (n:=3000) (path:=[]) (o:=⟨_,_,_,_,_,_,_⟩) P2 (by kernel_rfl) (by kernel_rfl) ho (by kernel_rfl) (by kernel_rfl) hs hK
def miB (x y:Fp) (q t:F2×F2×F2) (f:F12) (fb z:Bool):St:=A8 49 [4,5,6,7,8,9,10,11] [.pt 48 0,.pt 160 0,.pt 176 0,.pt 256 0,.pt 320 0,.pt 336 0,.pt 384 0,(.ci (.bool z))] [48,160,176,256,320,336,384,416,432] [(eF_ [(.ob (.p (0:Fp))),(.ob (.p (0:Fp))),(.ob (.p (0:Fp))),(.ob (.p (0:Fp))),(.ob (.p (0:Fp))),(.ob (.p (0:Fp))),(.ob (.p (0:Fp))),(.ob (.p (0:Fp))),(.ob (.p (0:Fp))),(.ob (.p (0:Fp))),(.ob (.p (0:Fp))),(.ob (.p (0:Fp)))]),some (.fl [.ob (.p x)]),some (.fl [.ob (.p y)]),some (.fl (K7 q)),some (.fl (K7 t)),some (.fl (D7 f)),some (.fl [.lit fb]),(eQ_ (.u64 [(15132376222941642752:Int)])),(eF_ [(.slc 416 0 1 1)])] 512 [[4,5,6,7,8,9,10,23]] [([.pt 48 0,.pt 160 0,.pt 176 0,.pt 256 0,.pt 320 0,.pt 336 0,.pt 384 0,(.ci (.clo 123 [(432,0)]))],49)]
theorem miF (x y:Fp) (q t:F2×F2×F2) (f:F12) (z:Bool) {ρ:Option Nat} (ho:A7 []) (hs:Sim w0 F0 K ac (miB x y q t f true z) cX aX) (hK:∀cY aY,Sim w0 F0 K ac (A8 49 [4] [.pt 48 0] [48,160,176,256,320,336,384,416,432] [(eF_ [(.ob (.p (0:Fp))),(.ob (.p (0:Fp))),(.ob (.p (0:Fp))),(.ob (.p (0:Fp))),(.ob (.p (0:Fp))),(.ob (.p (0:Fp))),(.ob (.p (0:Fp))),(.ob (.p (0:Fp))),(.ob (.p (0:Fp))),(.ob (.p (0:Fp))),(.ob (.p (0:Fp))),(.ob (.p (0:Fp)))]),(eF_ [.ob (.p x)]),(eF_ [.ob (.p y)]),(eF_ [(.ob (.p (Prod.fst (Prod.fst q)))),(.ob (.p (Prod.snd (Prod.fst q)))),(.ob (.p (Prod.fst (Prod.fst (Prod.snd q))))),(.ob (.p (Prod.snd (Prod.fst (Prod.snd q))))),(.ob (.p (Prod.fst (Prod.snd (Prod.snd q))))),(.ob (.p (Prod.snd (Prod.snd (Prod.snd q)))))]),(eF_ [(.ob (.p (Prod.fst (Prod.fst t)))),(.ob (.p (Prod.snd (Prod.fst t)))),(.ob (.p (Prod.fst (Prod.fst (Prod.snd t))))),(.ob (.p (Prod.snd (Prod.fst (Prod.snd t))))),(.ob (.p (Prod.fst (Prod.snd (Prod.snd t))))),(.ob (.p (Prod.snd (Prod.snd (Prod.snd t)))))]),(eF_ (D7 f)),(eF_ [(.lit false)]),(eQ_ (.u64 [(15132376222941642752:Int)])),(eF_ [(.slc 416 0 1 1)])] 544 [[4,5,6,7,8,9,10,23]] [([.pt 48 0,.pt 160 0,.pt 176 0,.pt 256 0,.pt 320 0,.pt 336 0,.pt 384 0,(.ci (.clo 123 [(432,0)]))],49)]) cY aY->Wq Tryz.prog Q ([]) ac Exit.normal aY cY.w ρ):Wq Tryz.prog Q ([.code (rfB C2f)]) ac .normal aX cX.w ρ :=
 F8 (unroll:=false) (n:=3000) (path:=[]) (o:=⟨_,_,_,_,_,_,_⟩) P2 (by kernel_rfl) (by kernel_rfl) ho (by kernel_rfl) (by kernel_rfl) hs hK
theorem miT (x y:Fp) (q t:F2×F2×F2) (f:F12) (z:Bool) {ρ:Option Nat} (ho:A7 [(z=true)]) (hs:Sim w0 F0 K ac (miB x y q t f false z) cX aX) (hK:∀cY aY,Sim w0 F0 K ac (A8 49 [4] [.pt 48 0] [48,160,176,256,320,336,384,416,432] [(eF_ [(.ob (.p (0:Fp))),(.ob (.p (0:Fp))),(.ob (.p (0:Fp))),(.ob (.p (0:Fp))),(.ob (.p (0:Fp))),(.ob (.p (0:Fp))),(.ob (.p (0:Fp))),(.ob (.p (0:Fp))),(.ob (.p (0:Fp))),(.ob (.p (0:Fp))),(.ob (.p (0:Fp))),(.ob (.p (0:Fp)))]),(eF_ [.ob (.p x)]),(eF_ [.ob (.p y)]),(eF_ [(.ob (.p (Prod.fst (Prod.fst q)))),(.ob (.p (Prod.snd (Prod.fst q)))),(.ob (.p (Prod.fst (Prod.fst (Prod.snd q))))),(.ob (.p (Prod.snd (Prod.fst (Prod.snd q))))),(.ob (.p (Prod.fst (Prod.snd (Prod.snd q))))),(.ob (.p (Prod.snd (Prod.snd (Prod.snd q)))))]),(eF_ [(.ob (.p (Prod.fst (Prod.fst (jpl (jtw t) q))))),(.ob (.p (Prod.snd (Prod.fst (jpl (jtw t) q))))),(.ob (.p (Prod.fst (Prod.fst (Prod.snd (jpl (jtw t) q)))))),(.ob (.p (Prod.snd (Prod.fst (Prod.snd (jpl (jtw t) q)))))),(.ob (.p (Prod.fst (Prod.snd (Prod.snd (jpl (jtw t) q)))))),(.ob (.p (Prod.snd (Prod.snd (Prod.snd (jpl (jtw t) q))))))]),(eF_ (D7 (((f*f)*(tch t x y))*(thg (jtw t) q x y)))),(eF_ [(.lit false)]),(eQ_ (.u64 [(15132376222941642752:Int)])),(eF_ [(.slc 416 0 1 1)])] 928 [[4,5,6,7,8,9,10,23]] [([.pt 48 0,.pt 160 0,.pt 176 0,.pt 256 0,.pt 320 0,.pt 336 0,.pt 384 0,(.ci (.clo 123 [(432,0)]))],49)]) cY aY->Wq Tryz.prog Q ([]) ac Exit.normal aY cY.w ρ):Wq Tryz.prog Q ([.code (rfB C2f)]) ac .normal aX cX.w ρ :=
 F8 (unroll:=false) (n:=3000) (path:=[true]) (o:=⟨_,_,_,_,_,_,_⟩) P2 (by kernel_rfl) (by kernel_rfl) ho (by kernel_rfl) (by kernel_rfl) hs hK
theorem miN (x y:Fp) (q t:F2×F2×F2) (f:F12) (z:Bool) {ρ:Option Nat} (ho:A7 [(z=false)]) (hs:Sim w0 F0 K ac (miB x y q t f false z) cX aX) (hK:∀cY aY,Sim w0 F0 K ac (A8 49 [4] [.pt 48 0] [48,160,176,256,320,336,384,416,432] [(eF_ [(.ob (.p (0:Fp))),(.ob (.p (0:Fp))),(.ob (.p (0:Fp))),(.ob (.p (0:Fp))),(.ob (.p (0:Fp))),(.ob (.p (0:Fp))),(.ob (.p (0:Fp))),(.ob (.p (0:Fp))),(.ob (.p (0:Fp))),(.ob (.p (0:Fp))),(.ob (.p (0:Fp))),(.ob (.p (0:Fp)))]),(eF_ [.ob (.p x)]),(eF_ [.ob (.p y)]),(eF_ [(.ob (.p (Prod.fst (Prod.fst q)))),(.ob (.p (Prod.snd (Prod.fst q)))),(.ob (.p (Prod.fst (Prod.fst (Prod.snd q))))),(.ob (.p (Prod.snd (Prod.fst (Prod.snd q))))),(.ob (.p (Prod.fst (Prod.snd (Prod.snd q))))),(.ob (.p (Prod.snd (Prod.snd (Prod.snd q)))))]),(eF_ [(.ob (.p (Prod.fst (Prod.fst (jtw t))))),(.ob (.p (Prod.snd (Prod.fst (jtw t))))),(.ob (.p (Prod.fst (Prod.fst (Prod.snd (jtw t)))))),(.ob (.p (Prod.snd (Prod.fst (Prod.snd (jtw t)))))),(.ob (.p (Prod.fst (Prod.snd (Prod.snd (jtw t)))))),(.ob (.p (Prod.snd (Prod.snd (Prod.snd (jtw t))))))]),(eF_ (D7 ((f*f)*(tch t x y)))),(eF_ [(.lit false)]),(eQ_ (.u64 [(15132376222941642752:Int)])),(eF_ [(.slc 416 0 1 1)])] 736 [[4,5,6,7,8,9,10,23]] [([.pt 48 0,.pt 160 0,.pt 176 0,.pt 256 0,.pt 320 0,.pt 336 0,.pt 384 0,(.ci (.clo 123 [(432,0)]))],49)]) cY aY->Wq Tryz.prog Q ([]) ac Exit.normal aY cY.w ρ):Wq Tryz.prog Q ([.code (rfB C2f)]) ac .normal aX cX.w ρ :=
 F8 (unroll:=false) (n:=3000) (path:=[false]) (o:=⟨_,_,_,_,_,_,_⟩) P2 (by kernel_rfl) (by kernel_rfl) ho (by kernel_rfl) (by kernel_rfl) hs hK
theorem miX (x y:Fp) (q t:F2×F2×F2) (f:F12) (fb:Bool) (ho:A7 []):Sg Tryz.prog (miS x y q t f fb) (A8 49 [4] [.pt 48 0] [48] [(eF_ (D7 (cjp f)))] 544 [] []) .ret ([]) (rfR C2f):=fun hs hK=>
 A5 (unroll:=false) (n:=3000) (path:=[]) (o:=⟨_,_,_,_,_,_,_⟩) P2 (by kernel_rfl) (by kernel_rfl) ho hs hK
def miE (x y:Fp) (q t:F2×F2×F2) (f:F12) (fb z:Bool):St:=A8 49 [4] [.pt 48 0] [48,160,176,256,320,336,384,416,432] [(eF_ [(.ob (.p (0:Fp))),(.ob (.p (0:Fp))),(.ob (.p (0:Fp))),(.ob (.p (0:Fp))),(.ob (.p (0:Fp))),(.ob (.p (0:Fp))),(.ob (.p (0:Fp))),(.ob (.p (0:Fp))),(.ob (.p (0:Fp))),(.ob (.p (0:Fp))),(.ob (.p (0:Fp))),(.ob (.p (0:Fp)))]),some (.fl [.ob (.p x)]),some (.fl [.ob (.p y)]),some (.fl (K7 q)),some (.fl (K7 t)),some (.fl (D7 f)),some (.fl [.lit fb]),(eQ_ (.u64 [(15132376222941642752:Int)])),(eF_ [(.slc 416 0 1 1)])] 928 [[4,5,6,7,8,9,10,23]] [([.pt 48 0,.pt 160 0,.pt 176 0,.pt 256 0,.pt 320 0,.pt 336 0,.pt 384 0,(.ci (.clo 123 [(432,0)]))],49)]
def miZ (f:F12):St:=A8 49 [4] [.pt 48 0] [48] [some (.fl (D7 f))] 544 [] []
theorem G2q (f:F12):I0 uyC Tryz.f73 false 3000 (⟨[],.ret,miZ f⟩) [] [] []=(some ([],((.v (.a (D7 f))),[]))):=by kernel_rfl
end
end

section

/-- One turn of the loop, behind the first. -/
def mst (x y:Fp) (q:F2×F2×F2) (s:(F2×F2×F2)×F12) (z:Bool):(F2×F2×F2)×F12:=
 if z=true then (jpl (jtw s.1) q,s.2*s.2*tch s.1 x y*thg (jtw s.1) q x y) else (jtw s.1,s.2*s.2*tch s.1 x y)
def mls (x y:Fp) (q:F2×F2×F2) (l:List Bool):(F2×F2×F2)×F12:=l.tail.foldl (mst x y q) (q,1)
def E4m:Nat:=15132376222941642752
/-- The loop's value. -/
def mil (x y:Fp) (q:F2×F2×F2):F12:=cjp (mls x y q (btL E4m 64 64)).2
theorem G0p (x y:Fp) (q:F2×F2×F2) (z:Bool):mls x y q ([]++[z])=(q,1):=rfl
theorem C3z {α β:Type} (f:β->α->β) (s:β) (l:List α) (z:α):(l++[z]).foldl f s=f (l.foldl f s) z:=by
 rw[List.foldl_append];rfl
theorem F1d (x y:Fp) (q:F2×F2×F2) (u:Bool) (l:List Bool) (z:Bool):mls x y q (u::l++[z])=mst x y q (mls x y q (u::l)) z:=C3z (mst x y q) (q,1) l z
theorem H2m (x y:Fp) (q:F2×F2×F2) (s:(F2×F2×F2)×F12):mst x y q s true=(jpl (jtw s.1) q,s.2*s.2*tch s.1 x y*thg (jtw s.1) q x y):=rfl
theorem H3e (x y:Fp) (q:F2×F2×F2) (s:(F2×F2×F2)×F12):mst x y q s false=(jtw s.1,s.2*s.2*tch s.1 x y):=rfl
theorem F4r:L0 [15132376222941642752] 1=64:=by decide +kernel
theorem G0m:M6 [15132376222941642752]=E4m:=by decide +kernel

theorem D7y (xa ya a b c d:U6) (i j:Bool) :
  FnD Tryz.prog 73 [.v (.a [.ob (.fp xa),.ob (.fp ya),.bool i]),.v (.a [.ob (.fp a),.ob (.fp b),.ob (.fp c),.ob (.fp d),.bool j])] (.v (.a (D7 (mil (inP xa) (inP ya) (P4 ⟨a,b,c,d,j⟩))))) []:=by
 refine Q8 (fn:=Tryz.f73) (c:=B7 Tryz.f73) Tryz.func73 rfl rfl fun X B hk hF hs=>?_
 refine mi xa ya a b c d i j trivial hs fun ac cY aY hs1=>?_
 generalize P4 ⟨a,b,c,d,j⟩=q at hs1 ⊢
 generalize inP xa=x at hs1 ⊢
 generalize inP ya=y at hs1 ⊢
 obtain ⟨e1,e2⟩:=A1l (k:=C2f) (by kernel_rfl)
 rw[e1];have eP:(rfP C2f).toList=[24]:=by kernel_rfl
 have eG:rfG C2f = .tmp 23:=by kernel_rfl
 have hit:B0s Tryz.prog cY 123 [(432,0)] C0u (btL E4m 64 64) fun pre=>(miS x y q (mls x y q pre).1 (mls x y q pre).2 pre.isEmpty).m:=by
  have h:=A6k (x:=cY) (p:=432) (e:=[15132376222941642752]) (M:=fun _=>fzM 432 (.u64 [15132376222941642752])) (by decide) (fun v hv=>by simp only[List.mem_cons,List.not_mem_nil,or_false] at hv;subst hv;decide) (fun s=>rfl)
  rw[G0m] at h;rw[show L0 [15132376222941642752] ([15132376222941642752]:List Int).length=64 from F4r] at h
  exact h.freeze (len:=1) (es:=1) (pb:=416) (fun s=>rfl) (fun s=>rfl) rfl
 refine W5 (ps:=rfP C2f) e2 hs1 (gf:=123) (caps:=[(432,0)]) (A3 Tryz.func123 rfl rfl) (fun pre=>miS x y q (mls x y q pre).1 (mls x y q pre).2 pre.isEmpty) (fun s=>by rw[eG];rfl) ⟨_,rfl⟩ (btL E4m 64 64) C9l C0u
  (fun y z=>.cons ⟨rfl,0,rfl⟩ .nil) (fun z=>by rw[<-Array.length_toList,eP];rfl) (fun pre p hp=>?_) hit (fun pre z=>miB x y q (mls x y q pre).1 (mls x y q pre).2 pre.isEmpty z)
  (fun pre z=>miE x y q (mls x y q (pre++[z])).1 (mls x y q (pre++[z])).2 false z) (fun pre z=>⟨_,by
   have:(pre++[z]).isEmpty=false:=by cases pre<;>rfl
   rw[this];rfl⟩) (fun pre z hz w1 F1 K1 as1 Q1 l Y b hs2 hQ=>?_) (fun pre z hz w1 F1 K1 as1 Q1 l Y b hs2 hQ=>?_) fun D Y hs2 hD hFD hd=>?_
 ·rw[eP] at hp
  simp only[List.mem_cons,List.not_mem_nil,or_false] at hp;subst hp;show 24<49;decide
 ·rw[eP] at hs2
  exact miA x y q _ _ _ z trivial hs2 fun cZ aZ hs3=>⟨hQ _ _ (hs3.nx _)⟩
 ·cases pre with
  | nil=>
   rw[G0p] at hQ;exact miF x y q _ _ z trivial hs2 fun cZ aZ hs3=>⟨hQ _ _ (hs3.nx _)⟩
  | cons u l=>
   rw[F1d] at hQ
   cases z with
   | true=>
    rw[H2m] at hQ;exact miT x y q _ _ true ⟨rfl,trivial⟩ hs2 fun cZ aZ hs3=>⟨hQ _ _ (hs3.nx _)⟩
   | false=>
    rw[H3e] at hQ;exact miN x y q _ _ false ⟨rfl,trivial⟩ hs2 fun cZ aZ hs3=>⟨hQ _ _ (hs3.nx _)⟩
 ·have hs3:=hs2.marked rfl rfl D
  unfold mil;generalize (mls x y q (btL E4m 64 64)).1=t at hs2 hs3;generalize (mls x y q (btL E4m 64 64)).2=o at hs2 hs3 ⊢
  refine miX x y q t o _ trivial hs3 fun ac cV aV hs6=>⟨?_⟩
  have hs7:Sim Y.w Y.F (R1 Y W0 (G9 D)) ac (miZ (cjp o)) cV aV:=hs6;exact W7 P2 hk hF (G2q (cjp o)) trivial (fun y v hd=>hd) hs2 hD hFD hd rfl hs7
end

end
end Go.Proofs.YtefimjofjjdndaaGreat
