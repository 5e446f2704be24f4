/- Parts of a proof, one behind the other: WPu, PPu, WPi, Pf, WCp, PCp, WCo1, WCo2, PCo2, WCo3, PCo3, Ga, WOa, POa, WMd, PMd, WMy, PMz, Nm, WTi, WOb, WDa, WDb, PDb, WDc, PDc, WDd, PDd, WDe, Gb, WEa, WMw, PMw, WTj, WEb, WFa, WFb, WFc, PFc, WFd, PFd, WFe, PFe. No conditions. -/
import Derived.Shelf.Strconv.Itoa0
import Derived.Test.YtefimjofjjdndaaGreatKoO
open Go.IntKind (wrap)
namespace Go.Proofs.YtefimjofjjdndaaGreat
noncomputable section
section
section
variable {w0:World} {F0:Nat->Prop} {K:Kp} {ac:List Act} {Q:Exit->Act->World->Prop} {cX:Ctx} {aX:Act}
open Go.Shelf

theorem E9f {n:Nat} (h:n<B6):inP (Fin.ofNat B6 n)=Fin.ofNat pN n:=by
 apply Fin.ext
 show (n % B6) % pN=n % pN;rw[Nat.mod_eq_of_lt h]
theorem E3b (n:Int) (h1:0<=n) (h2:n<18446744073709551616):FnD Tryz.prog 77 [.v (.c (.int .u64 n))] (.v (.a [.ob (.p (Fin.ofNat pN n.toNat))])) []:=by
 refine (A5 D2i Tryz.func77 (H1z n) ⟨h1,h2,by decide,by decide,by decide,by decide,by decide,by decide,by decide,by decide,by decide,by decide,trivial⟩).conv (fun _ _ h=>h) fun y v hd=>?_
 rw[Nat.add_zero,E9f (by unfold B6;omega)] at hd
 exact hd
theorem F1o (x:Fp):FnD Tryz.prog 60 [.v (.a [.ob (.p x)])] (.v (.c (.bool (decide (x=0))))) []:=by
 refine (A5 D2i Tryz.func60 (I3g _) trivial).conv (fun _ _ h=>h) fun y v hd=>?_
 rw[if_pos rfl] at hd;exact hd
def B0x:B2
 | [.v (.c (.int .u64 n))]=>some ([0<=n,n<18446744073709551616],.v (.a [.ob (.p (Fin.ofNat pN n.toNat))]),[])
 | _=>none
def H9j:Env:=qeF.set (C6 qeF.fn 77 B0x)
theorem H1g:A9 Tryz.prog H9j:=A8 D2i 77 B0x (A4 Tryz.func77 rfl rfl) fun args o r es h ho=>by
 unfold B0x at h;split at h
 ·cases h;exact E3b _ ho.1 ho.2.1
 ·cases h
def C2j:B2
 | [.v (.a [.ob (.p x)])]=>some ([],.v (.a [.ob (.p (0-x))]),[])
 | _=>none
def H9k:Env:=H9j.set (C6 H9j.fn 135 C2j)
theorem H1h:A9 Tryz.prog H9k:=A8 H1g 135 C2j (A4 Tryz.func135 rfl rfl) fun args o r es h _=>by
 unfold C2j at h;split at h
 ·cases h;exact A5 D2i Tryz.func135 (I5y _) trivial
 ·cases h
def B6m:B2
 | [.v (.a [.ob (.p x)])]=>some ([],.v (.c (.bool (decide (x=0)))),[])
 | _=>none
def qeG:Env:=H9k.set (C6 H9k.fn 60 B6m)
theorem H9l:A9 Tryz.prog qeG:=A8 H1h 60 B6m (A4 Tryz.func60 rfl rfl) fun args o r es h _=>by
 unfold B6m at h;split at h
 ·cases h;exact F1o _
 ·cases h

def J0l:Ren:=⟨fun n=>if n=129 then 139 else 0,fun t=>if t=46 then 175 else if t=53 then 22 else t,fun g=>g⟩
theorem I5q:Lays.n129 Tryz.prog J0l:=
  { mixed:=by kernel_rfl
    f129:=by kernel_rfl
    t3:=by kernel_rfl
    a3:=fun _=>by kernel_rfl
    z3:=fun _=>by kernel_rfl
    v3:=fun _=>by kernel_rfl
    t4:=by kernel_rfl
    a4:=fun _=>by kernel_rfl
    z4:=fun _=>by kernel_rfl
    v4:=fun _=>by kernel_rfl
    t5:=by kernel_rfl
    a5:=fun _=>by kernel_rfl
    z5:=fun _=>by kernel_rfl
    v5:=fun _=>by kernel_rfl
    t9:=by kernel_rfl
    a9:=fun _=>by kernel_rfl
    z9:=fun _=>by kernel_rfl
    v9:=fun _=>by kernel_rfl
    t46:=by kernel_rfl
    a46:=fun _=>by kernel_rfl
    z46:=fun _=>by kernel_rfl
    v46:=fun _=>by kernel_rfl
    t53:=by kernel_rfl
    a53:=fun _=>by kernel_rfl
    z53:=fun _=>by kernel_rfl
    v53:=fun _=>by kernel_rfl }
theorem E9k (n:Int) (h0:0<=n) (h1:n<18446744073709551616):FnD Tryz.prog 139 [.v (.c (.int .u64 n))] (.v (.c (.int .i64 (Lib.bitLen n.toNat:Nat)))) []:=
 F5e fun x vs hd=>by
  cases hd with | cons d1 hd=>
  cases hd
  rw[U9 d1];exact ⟨_,Any.bits_Len64 I5q n x.w h0 (by omega),⟨rfl,0,rfl⟩⟩
def D0r:B2
 | [.v (.c (.int .u64 n))]=>some ([0<=n,n<18446744073709551616],.v (.c (.int .i64 (Lib.bitLen n.toNat:Nat))),[])
 | _=>none
def H1i:Env:=qeG.set (C6 qeG.fn 139 D0r)
theorem E7c:A9 Tryz.prog H1i:=A8 H9l 139 D0r (A4 Tryz.func139 rfl rfl) fun args o r es h ho=>by
 unfold D0r at h;split at h
 ·cases h;exact E9k _ ho.1 ho.2.1
 ·cases h
theorem ct (l:List Int):let b:Int:=l.length;let a:=ite ((16:Int)<b) (16:Int) b;B5 H1i Tryz.f138 3000 [.v (.c (.sl (.u64 l)))] [] [] []=(some ([(0<=a),(a<=a),(a<=b)],((.ci (.sl (.u64 (List.take (a).toNat (List.drop 0 l))))),[]))):=by intros;kernel_rfl

theorem G5o (l:List Int) (hl:l.length<=16):FnD Tryz.prog 138 [.v (.c (.sl (.u64 l)))] (.v (.c (.sl (.u64 l)))) []:=by
 have r:=ct l;dsimp only at r;have e:(if (16:Int)<((l.length:Nat):Int) then (16:Int) else ((l.length:Nat):Int))=((l.length:Nat):Int):=if_neg (by omega)
 rw[e,Int.toNat_natCast,List.drop_zero,List.take_length] at r;exact A5 E7c Tryz.func138 r ⟨by omega,Int.le_refl _,Int.le_refl _,trivial⟩
def C9e:B2
 | [.v (.c (.sl (.u64 l)))]=>some ([l.length<=16],.v (.c (.sl (.u64 l))),[])
 | _=>none
def F0o:Env:=H1i.set (C6 H1i.fn 138 C9e)
theorem B3k:A9 Tryz.prog F0o:=A8 E7c 138 C9e (A4 Tryz.func138 rfl rfl) fun args o r es h ho=>by
 unfold C9e at h;split at h
 ·cases h;exact G5o _ ho.1
 ·cases h
def A9v:List KI:=(run F0o false 3000 (⟨[.code (B9 Tryz.f124)],.normal,D7 Tryz.f124.ntmps [.v (.c (.sl (.u64 dF)))]⟩:Cfg) []).cfg.k
theorem I9j (l:List Int):B1 [(l.length<=16)]->Sg Tryz.prog (D7 Tryz.f124.ntmps [.v (.c (.sl (.u64 l)))]) (B0 26 [0,3] [(.ci (.sl (.u64 l))),(.ii (wrap .i64 ((l.length:Int)-1)))] [] [] 144 [] []) .normal (A9v) ([.code (B9 Tryz.f124)]):=sgA false 3000 [] B3k
def nbS (l:List Int) (i :Int):St:=B0 26 [0,3] [(.ci (.sl (.u64 l))),.v (.c (.int .i64 i))] [] [] 144 [] []
theorem nbN (l:List Int) (i:Int):B1 [((decide (i >= (0:Int)))=true),(0<=i),(i<(l.length:Int)),(((l.getD i.toNat 0) != (0:Int))=false)]->Sg Tryz.prog (nbS l i) (B0 26 [0,3] [(.ci (.sl (.u64 l))),(.ii (wrap .i64 (i-1)))] [] [] 304 [] []) .normal (M7 A9v) (E8 A9v):=sgA false 3000 [true,false] B3k
theorem G9h (l:List Int) (i:Int):let a:=l.getD i.toNat 0;let b:=i<(l.length:Int);G5 F0o Tryz.f124 false 3000 (⟨E8 A9v,.normal,nbS l i⟩) [true,true] [] []=(some ([((decide (i >= (0:Int)))=true),(0<=i),b,((a != (0:Int))=true),(0<=i),b,(0<=a),(a<(18446744073709551616:Int))],((.ii (wrap .i64 ((wrap .i64 ((64:Int)*i))+(((Lib.bitLen (a).toNat):Nat):Int)))),[]))):=by intros;kernel_rfl
theorem G9g (l:List Int) (i:Int):G5 F0o Tryz.f124 false 3000 (⟨E8 A9v,.normal,nbS l i⟩) [false] [] []=(some ([((decide (i >= (0:Int)))=false)],((.ii (0:Int)),[]))):=by kernel_rfl
theorem F2m (l:List Int) (hl:l.length<=16) (hlim:A3s l):FnD Tryz.prog 124 [.v (.c (.sl (.u64 l)))] (.v (.c (.int .i64 (M4 l l.length:Nat)))) []:=by
 refine J3 (fn:=Tryz.f124) (c:=B9 Tryz.f124) Tryz.func124 rfl rfl fun x a hk hF hs=>?_
 refine I9j l ⟨hl,trivial⟩ hs fun ac cY aY hs1=>?_
 rw[C0 (by omega) (by omega)] at hs1
 refine E6 (ι:={ n:Nat // n<=l.length∧M4 l n=M4 l l.length }) (fun n=>nbS l ((n.1:Int)-1)) (fun n=>n.1) (c:=lpC A9v) (k:=lpR A9v) (by kernel_rfl) (fun n ih ac cY aY hs=>?_) ⟨l.length,Nat.le_refl _,rfl⟩ (hs1.nx _)
 obtain ⟨n,hn,he⟩:=n;simp only at ih hs
 cases n with
 | zero=>
  rw[<-he];exact H2 B3k hk hF (G9g l _) ⟨by simp,trivial⟩ (fun y v hd=>hd) hs
 | succ n=>
  have e1:((n+1:Nat):Int)-1=(n:Int):=by omega
  rw[e1] at hs;have hg:=C1t hlim n;by_cases h0:l.getD n 0=0
  ·refine nbN l _ ⟨by simp,by omega,by omega,by rw[Int.toNat_natCast,h0];rfl,trivial⟩ hs fun ac cZ aZ hs2=>?_
   rw[C0 (by omega) (by omega)] at hs2
   refine ih ⟨n,by omega,?_⟩ (Nat.lt_succ_self n) ac cZ aZ (hs2.nx _)
   rw[<-he];show _=if l.getD n 0≠0 then _ else M4 l n
   rw[if_neg (by simpa using h0)]
  ·have r:=G9h l (n:Int)
   dsimp only at r;have hb:M4 l l.length=64*n+Lib.bitLen (l.getD n 0).toNat:=by
    rw[<-he];show (if l.getD n 0≠0 then _ else M4 l n)=_
    rw[if_pos h0]
   have hle:=C5u (l.getD n 0).toNat;rw[Int.toNat_natCast] at r;have e2:wrap IntKind.i64 (wrap IntKind.i64 ((64:Int)*(n:Int))+((Lib.bitLen (l.getD n 0).toNat:Nat):Int))=((M4 l l.length:Nat):Int):=by
    rw[hb];generalize Lib.bitLen (l.getD n 0).toNat=B at *;rw[C0 (n:=(64:Int)*(n:Int)) (by omega) (by omega),C0 (by omega) (by omega)]
    omega
   rw[e2] at r;have hne:(l.getD n 0 != (0:Int))=true:=by simpa using h0
   exact H2 B3k hk hF r ⟨by simp,by omega,by omega,hne,by omega,by omega,hg.1,hg.2,trivial⟩ (fun y v hd=>hd) hs
def B9c:B2
 | [.v (.c (.sl (.u64 l)))]=>some ([l.length<=16,A3s l],.v (.c (.int .i64 (M4 l l.length:Nat))),[])
 | _=>none
def qeH:Env:=F0o.set (C6 F0o.fn 124 B9c)
theorem Z5:A9 Tryz.prog qeH:=A8 B3k 124 B9c (A4 Tryz.func124 rfl rfl) fun args o r es h ho=>by
 unfold B9c at h;split at h
 ·cases h;exact F2m _ ho.1 ho.2.1
 ·cases h
def H4j:List KI:=(run qeH false 3000 (⟨[.code (B9 Tryz.f123)],.normal,⟨B3z [.v (.c (.val (.func (.yield dF) #[] #[]))),.v (.c (.ptr 0 0))],one (.fl [.val dF]),Tryz.f123.ntmps,16,[]⟩⟩:Cfg) []).cfg.k
theorem bt (l:Nat) (v:Value):let a:=Array.mk ([]:List Value);B1 []->Sg Tryz.prog (⟨B3z [.v (.c (.val (.func (.yield l) #[] #[]))),.v (.c (.ptr 0 0))],one (.fl [.val v]),Tryz.f123.ntmps,16,[]⟩) (B0 24 [0,1,4] [(.ci (.val (Value.func (Fn.yield l) a a))),.pt 0 0,(.ci (.val v))] [0] [(eF_ [(.val v)])] 32 [] []) .normal (H4j) ([.code (B9 Tryz.f123)]):=sgA false 3000 [] Z5
def btA (l:Nat) (v:Value) (e:List Int):St:=B0 24 [0,1,4] [(.ci (.val (Value.func (Fn.yield l) (Array.mk ([]:List Value)) (Array.mk ([]:List Value))))),.pt 0 0,.v (.c (.sl (.u64 e)))] [0] [(eF_ [(.val v)])] 32 [] []
def D9s:List KI:=(run qeH false 3000 (⟨H4j,.normal,btA dF dF dF⟩:Cfg) []).cfg.k
theorem bu (l:Nat) (v:Value) (e:List Int):let a:=Array.mk ([]:List Value);B1 [(e.length<=16),(A3s e)]->Sg Tryz.prog (btA l v e) (B0 24 [0,1,3] [(.ci (.val (Value.func (Fn.yield l) a a))),.pt 0 0,(.ii (wrap .i64 ((((M4 e e.length):Nat):Int)-1)))] [0] [(eF_ [(.val v)])] 80 [] []) .normal (D9s) (H4j):=sgA false 3000 [] Z5
def buS (l:Nat) (v:Value) (i :Int):St:=B0 24 [0,1,3] [(.ci (.val (Value.func (Fn.yield l) (Array.mk ([]:List Value)) (Array.mk ([]:List Value))))),.pt 0 0,.v (.c (.int .i64 i))] [0] [(eF_ [(.val v)])] 80 [] []
def H4k:List KI:=(run qeH false 3000 (⟨E8 D9s,.normal,buS dF dF dF⟩:Cfg) [true]).cfg.k
theorem bv (l:Nat) (v:Value) (i:Int):let b:=Array.mk ([]:List Value);let a:=Value.func (Fn.yield l) b b;B1 [((decide (i >= (0:Int)))=true),((64:Int)≠(0:Int))]->Sg Tryz.prog (buS l v i) (B0 24 [0,1,3,11,12,14] [(.ci (.val a)),.pt 0 0,.ii i,(.ci (.val a)),(.ci (.val v)),(.ii (wrap .i64 (Int.tdiv i (64:Int))))] [0] [(eF_ [(.val v)])] 176 [] []) .normal (H4k) (E8 D9s):=sgA false 3000 [true] Z5
def bvA (l:Nat) (v:Value) (e:List Int) (i :Int):St:=B0 24 [0,1,3,11,12,14] [(.ci (.val (Value.func (Fn.yield l) (Array.mk ([]:List Value)) (Array.mk ([]:List Value))))),.pt 0 0,.ii i,(.ci (.val (Value.func (Fn.yield l) (Array.mk ([]:List Value)) (Array.mk ([]:List Value))))),.v (.c (.sl (.u64 e))),(.ii (wrap .i64 (Int.tdiv i (64:Int))))] [0] [(eF_ [(.val v)])] 176 [] []
def I3v:List KI:=(run qeH false 3000 (⟨H4k,.normal,bvA dF dF dF dF⟩:Cfg) []).cfg.k
theorem bw (l:Nat) (v:Value) (e:List Int) (i:Int):let c:=Array.mk ([]:List Value);let a:=Value.func (Fn.yield l) c c;let d:Int:=64;let b:=wrap .i64 (Int.tdiv i d);let f:=Int.tmod i d;B1 [(0<=b),(b<(e.length:Int)),(d≠(0:Int)),(0<=f)]->Sg Tryz.prog (bvA l v e i) (B0 24 [0,1,3,11,21] [(.ci (.val a)),.pt 0 0,.ii i,(.ci (.val a)),(.ci (.bool ((I1 BinOp.and IntKind.u64 (Int.fdiv (List.getD e (b).toNat 0) ((2:Int) ^ (Min.min (f).toNat 64))) (1:Int)) == (1:Int))))] [0] [(eF_ [(.val v)])] 288 [] []) .normal (I3v) (H4k):=sgA false 3000 [] Z5
theorem bX (l:Nat) (v:Value) (i:Int):B1 [((decide (i >= (0:Int)))=false)]->Sg Tryz.prog (buS l v i) (B0 24 [] [] [0] [(eF_ [(.val v)])] 112 [] []) .normal ([]) (E8 D9s):=sgA false 3000 [false] Z5
theorem bB (l:Nat) (v:Value) (i:Int) (b:Bool):let a:=Array.mk ([]:List Value);B1 []->Sg Tryz.prog (⟨Q8 (D9 .top [0,1,3,11,21] [(.ci (.val (.func (.yield l) #[] #[]))),.v (.c (.ptr 0 0)),.v (.c (.int .i64 i)),(.ci (.val (.func (.yield l) #[] #[]))),.v (.c (.bool b))]) 22 (.ci (.lit true)),one (.fl [.val v]),24,400,[]⟩) (B0 24 [0,1,3] [(.ci (.val (Value.func (Fn.yield l) a a))),.pt 0 0,(.ii (wrap .i64 (i-1)))] [0] [(eF_ [(.val v)])] 464 [] []) .normal (M7 D9s) (A0e I3v):=sgA false 3000 [] Z5

theorem D0y (v : Value) (w : World) : (method (Tryz.prog.types.size + Made.depth) 77 v "Times").run Tryz.prog w = .ok (105, v) w := by kernel_rfl
theorem D6j (v : Value) (w : World) : (method (Tryz.prog.types.size + Made.depth) 77 v "Plus").run Tryz.prog w = .ok (106, v) w := by kernel_rfl
theorem D0x (v : Value) (w : World) : (method (Tryz.prog.types.size + Made.depth) 77 v "Minus").run Tryz.prog w = .ok (132, v) w := by kernel_rfl
theorem C5f (v : Value) (w : World) : (method (Tryz.prog.types.size + Made.depth) 77 v "IsZero").run Tryz.prog w = .ok (60, v) w := by kernel_rfl
theorem B7o (v : Value) (w : World) : (method (Tryz.prog.types.size + Made.depth) 77 v "Negative").run Tryz.prog w = .ok (135, v) w := by kernel_rfl
theorem C1y (v : Value) (w : World) : (method (Tryz.prog.types.size + Made.depth) 77 v "Inverse").run Tryz.prog w = .ok (142, v) w := by kernel_rfl
def H6j (t : Nat) : Option (List (String × Nat)) := if t = 77 then some [("Times", 105), ("Plus", 106), ("Minus", 132), ("IsZero", 60), ("Negative", 135), ("Inverse", 142)] else none
def qeI:Env:={ qeH with inv:=H6j }
theorem A6k:A9 Tryz.prog qeI:=by
 refine ⟨Z5.ty,Z5.mixed,Z5.fn,Z5.mu,Z5.inl,Z5.ex,fun t l h=>?_⟩
 have h:H6j t=some l:=h;unfold H6j at h;split at h
 ·rename_i ht
  cases h
  subst ht;refine ⟨by kernel_rfl,fun name g hg v args w=>?_⟩
  unfold A0m at hg;split at hg
  ·rename_i hn
   cases hg
   subst hn;simp only[callMethod,Sem.run_bind,run_program,Result.andThen_ok,D0y]
  unfold A0m at hg;split at hg
  ·rename_i hn
   cases hg
   subst hn;simp only[callMethod,Sem.run_bind,run_program,Result.andThen_ok,D6j]
  unfold A0m at hg;split at hg
  ·rename_i hn
   cases hg
   subst hn;simp only[callMethod,Sem.run_bind,run_program,Result.andThen_ok,D0x]
  unfold A0m at hg;split at hg
  ·rename_i hn
   cases hg
   subst hn;simp only[callMethod,Sem.run_bind,run_program,Result.andThen_ok,C5f]
  unfold A0m at hg;split at hg
  ·rename_i hn
   cases hg
   subst hn;simp only[callMethod,Sem.run_bind,run_program,Result.andThen_ok,B7o]
  unfold A0m at hg;split at hg
  ·rename_i hn
   cases hg
   subst hn;simp only[callMethod,Sem.run_bind,run_program,Result.andThen_ok,C1y]
  cases hg
 ·cases h
def D2j:List KI:=(run qeI false 3000 (⟨[.code (B9 Tryz.f143)],.normal,D7 Tryz.f143.ntmps [.v (.a [.ob (.p dF)]),.v (.a [.ob (.p 1)]),.v (.c (.sl (.u64 dF)))]⟩:Cfg) []).cfg.k
theorem qp (a:Fp) (e:List Int):B1 []->Sg Tryz.prog (D7 Tryz.f143.ntmps [.v (.a [.ob (.p a)]),.v (.a [.ob (.p 1)]),.v (.c (.sl (.u64 e)))]) (B0 23 [3,6,7,11] [.pt 16 0,.pt 48 0,.pt 80 0,(.ci (.clo 123 [(128,0)]))] [16,48,80,128] [(eF_ [.ob (.p a)]),(eF_ [(.ob (.p (0:Fp)))]),(eF_ [(.ob (.p (1:Fp)))]),(eF_ [.sl (.u64 e)])] 192 [] []) .normal (D2j) ([.code (B9 Tryz.f143)]):=sgA false 3000 [] A6k
def qpS (a:Fp) (e:List Int) (o:Fp):St:=B0 23 [3,6,7,11] [.pt 16 0,.pt 48 0,.pt 80 0,(.ci (.clo 123 [(128,0)]))] [16,48,80,128] [(eF_ [.ob (.p a)]),(eF_ [(.ob (.p (0:Fp)))]),some (.fl [.ob (.p o)]),(eF_ [.sl (.u64 e)])] 192 [] []
theorem qpA (a:Fp) (e:List Int) (o:Fp) (z:Bool) {ρ:Option Nat} (ho:B1 []) (hs:Sim w0 F0 K ac (X5 (qpS a e o) [(12,.v (.c (.bool z)))]) cX aX) (hK:∀cY aY,Sim w0 F0 K ac (B0 23 [3,6,7,8] [.pt 16 0,.pt 48 0,.pt 80 0,(.ci (.bool z))] [16,48,80,128] [(eF_ [.ob (.p a)]),(eF_ [(.ob (.p (0:Fp)))]),(eF_ [.ob (.p o)]),(eF_ [.sl (.u64 e)])] 208 [[3,6,7,11]] [([.pt 16 0,.pt 48 0,.pt 80 0,(.ci (.clo 123 [(128,0)]))],23)]) cY aY->Wq Tryz.prog Q ([]) ac Exit.normal aY cY.w ρ):Wq Tryz.prog Q ([.code (rfA D2j)]) ac .normal aX cX.w ρ :=
 G8 (unroll:=false) (n:=3000) (path:=[]) (o:=⟨_,_,_,_,_,_,_⟩) A6k (by kernel_rfl) (by kernel_rfl) ho (by kernel_rfl) (by kernel_rfl) hs hK
def qpB (a:Fp) (e:List Int) (o:Fp) (z:Bool):St:=B0 23 [3,6,7,8] [.pt 16 0,.pt 48 0,.pt 80 0,(.ci (.bool z))] [16,48,80,128] [(eF_ [.ob (.p a)]),(eF_ [(.ob (.p (0:Fp)))]),some (.fl [.ob (.p o)]),(eF_ [.sl (.u64 e)])] 208 [[3,6,7,11]] [([.pt 16 0,.pt 48 0,.pt 80 0,(.ci (.clo 123 [(128,0)]))],23)]
theorem qpC (a:Fp) (e:List Int) (o:Fp) (z:Bool) {ρ:Option Nat} (ho:B1 [(z=true)]) (hs:Sim w0 F0 K ac (qpB a e o z) cX aX) (hK:∀cY aY,Sim w0 F0 K ac (B0 23 [6] [.pt 48 0] [16,48,80,128] [(eF_ [.ob (.p a)]),(eF_ [(.ob (.p (0:Fp)))]),(eF_ [(.ob (.p ((o*o)*a)))]),(eF_ [.sl (.u64 e)])] 384 [[3,6,7,11]] [([.pt 16 0,.pt 48 0,.pt 80 0,(.ci (.clo 123 [(128,0)]))],23)]) cY aY->Wq Tryz.prog Q ([]) ac Exit.normal aY cY.w ρ):Wq Tryz.prog Q ([.code (rfB D2j)]) ac .normal aX cX.w ρ :=
 G8 (unroll:=false) (n:=3000) (path:=[true]) (o:=⟨_,_,_,_,_,_,_⟩) A6k (by kernel_rfl) (by kernel_rfl) ho (by kernel_rfl) (by kernel_rfl) hs hK
theorem qpD (a:Fp) (e:List Int) (o:Fp) (z:Bool) {ρ:Option Nat} (ho:B1 [(z=false)]) (hs:Sim w0 F0 K ac (qpB a e o z) cX aX) (hK:∀cY aY,Sim w0 F0 K ac (B0 23 [6] [.pt 48 0] [16,48,80,128] [(eF_ [.ob (.p a)]),(eF_ [(.ob (.p (0:Fp)))]),(eF_ [(.ob (.p (o*o)))]),(eF_ [.sl (.u64 e)])] 304 [[3,6,7,11]] [([.pt 16 0,.pt 48 0,.pt 80 0,(.ci (.clo 123 [(128,0)]))],23)]) cY aY->Wq Tryz.prog Q ([]) ac Exit.normal aY cY.w ρ):Wq Tryz.prog Q ([.code (rfB D2j)]) ac .normal aX cX.w ρ :=
 G8 (unroll:=false) (n:=3000) (path:=[false]) (o:=⟨_,_,_,_,_,_,_⟩) A6k (by kernel_rfl) (by kernel_rfl) ho (by kernel_rfl) (by kernel_rfl) hs hK
theorem qpX (a:Fp) (e:List Int) (o:Fp):B1 []->Sg Tryz.prog (qpS a e o) (B0 23 [6] [.pt 48 0] [48] [(eF_ [.ob (.p o)])] 224 [] []) .ret ([]) (rfR D2j):=sgA false 3000 [] A6k
def qpE (a:Fp) (e:List Int) (o:Fp):St:=B0 23 [6] [.pt 48 0] [16,48,80,128] [(eF_ [.ob (.p a)]),(eF_ [(.ob (.p (0:Fp)))]),some (.fl [.ob (.p o)]),(eF_ [.sl (.u64 e)])] 384 [[3,6,7,11]] [([.pt 16 0,.pt 48 0,.pt 80 0,(.ci (.clo 123 [(128,0)]))],23)]
def qpZ (o:Fp):St:=B0 23 [6] [.pt 48 0] [48] [some (.fl [.ob (.p o)])] 224 [] []
theorem H1k (o:Fp):G5 qeI Tryz.f143 false 3000 (⟨[],.ret,qpZ o⟩) [] [] []=(some ([],((.v (.a [.ob (.p o)])),[]))):=by kernel_rfl
end
end

section

theorem I8b {m:Nat}:I1 BinOp.and IntKind.u64 (m:Int) (1:Int)=((m % 2:Nat):Int):=by
 show wrap IntKind.u64 ((BitVec.ofInt 64 (m:Int) &&& BitVec.ofInt 64 ((1:Nat):Int)).toNat:Int)=_;rw[BitVec.ofInt_natCast,BitVec.ofInt_natCast,BitVec.toNat_and,BitVec.toNat_ofNat,BitVec.toNat_ofNat];have e:1 % 2 ^ 64=2 ^ 1-1:=by decide
 rw[e,Nat.and_two_pow_sub_one_eq_mod,C4u];omega

theorem F2k {e:List Int} (h:A3s e) {i:Nat} (hi:i<1024):(I1 BinOp.and IntKind.u64 (Int.fdiv (List.getD e (wrap IntKind.i64 (Int.tdiv (i:Int) (64:Int))).toNat (0:Int)) ((2:Int) ^ (Min.min (Int.tmod (i:Int) (64:Int)).toNat 64))) (1:Int) == (1:Int))=decide (O4 e / 2 ^ i % 2=1):=by
 have e1:Int.tdiv (i:Int) (64:Int)=((i / 64:Nat):Int):=Int.tdiv_eq_ediv_of_nonneg (by omega)
 have e2:Int.tmod (i:Int) (64:Int)=((i % 64:Nat):Int):=Int.tmod_eq_emod_of_nonneg (by omega)
 have e3:Min.min (((i % 64:Nat):Int)).toNat 64=i % 64:=by omega
 have hg:=C1t h (i / 64);rw[e1,C0 (by omega) (by omega),Int.toNat_natCast,e2,e3,D7e h i]
 obtain ⟨g,hg2⟩:=Int.eq_ofNat_of_zero_le hg.1;have hp:((2:Int) ^ (i % 64))=((2 ^ (i % 64):Nat):Int):=by simp
 rw[hg2,hp,Int.fdiv_eq_ediv_of_nonneg _ (Int.natCast_nonneg _),<-Int.natCast_ediv,I8b,Int.toNat_natCast];generalize g / 2 ^ (i % 64)=m;by_cases hm:m % 2=1
 ·rw[hm];rfl
 ·have:m % 2=0:=by omega
  rw[this];rfl

def B9e (z:Bool):List Value:=[.bool z]

theorem A7c {x:Ctx} {p:Nat} {e:List Int} {M:List Bool->Nat->Option En} (hl:e.length<=16) (hlim:A3s e) (hM:∀s,M s p=some (.fl [.sl (.u64 e)])) :
  B1i Tryz.prog x 123 [(p,0)] B9e (btL (O4 e) (M4 e e.length) (M4 e e.length)) M:=by
 intro l J W hgrow hread hyield hJ;have hcl:=B9b e e.length;generalize hc:M4 e e.length=c at *;generalize hN:O4 e=N at *;have key:Wq Tryz.prog (bodyPost Tryz.prog Tryz.f123 fun e' W' => (∃v,e' = Ending.returned v)∧J (btL N c c) W') [.code (B9 Tryz.f123)] [] .normal { tmps:=[Value.func (.yield l) #[] #[],.pointer (some ⟨x.β p,0,none⟩)].toArray++Array.replicate 22 undef,defers:=[] } W:=?_
 ·exact calls_of_wp (c:=B9 Tryz.f123) Tryz.func123 rfl ((wpIn_wide (n:=0)).1 key.wp)
 obtain ⟨y,rfl,hm,hcp⟩:=hread [] W hJ;obtain ⟨hr,hβ⟩:=hcp (p,0) List.mem_cons_self;have hr:y.k p = .real:=hr;have hβ:y.β p=x.β p:=hβ;have hargs:I7 (E1 y p) [.v (.c (.val (.func (.yield l) #[] #[]))),.v (.c (.ptr 0 0))] [.func (.yield l) #[] #[],.pointer (some ⟨x.β p,0,none⟩)]:=
  .cons ⟨rfl,0,rfl,rfl⟩ (.cons ⟨rfl,0,rfl,by show _=[Value.pointer (some ⟨y.β p,0,none⟩)];rw[hβ]⟩ .nil)
 obtain ⟨v,hv,hbox⟩:=F2q hm (hM []) hr;have hs:=B4t (nx:=16) (nt:=24) (a:={ tmps:=[Value.func (.yield l) #[] #[],.pointer (some ⟨x.β p,0,none⟩)].toArray++Array.replicate 22 undef,defers:=[] }) hm (hM []) hr hbox rfl (by simp) (A3g hargs 22)
 change Wq Tryz.prog _ _ _ _ _ (E1 y p).w
 refine bt l v trivial hs fun ac cY aY hs1=>?_
 have hmb:Mem (E1 y p) (one (.fl [.val v])):=A9i hm (hM _) hr hbox;obtain ⟨hg1,_,_⟩:=A1g hmb rfl hs1 rfl;have hsl:cY.D (.sl (.u64 e)) [v]:=C6b hg1 (fun b hb=>hs1.base.f0 b hb) hm.fw rfl hv
 have hs2:=hs1.slots (svs' := [.v (.c (.val (.func (.yield l) #[] #[]))),.v (.c (.ptr 0 0)),.v (.c (.sl (.u64 e)))]) ⟨fun _ h=>h,fun _ h=>h,D4j rfl hsl,trivial⟩
 refine bu l v e ⟨hl,hlim,trivial⟩ hs2 fun ac cZ aZ hs3=>?_
 rw[hc,C0 (by omega) (by omega)] at hs3
 let I:{ t:Nat // t<=c } -> List Act->Act->World->Prop:=fun t ac a w=>∃y z v,z.w=w∧y.k p = .real∧y.β p=x.β p∧Mem y (M (btL N c t.1))∧J (btL N c t.1) y.w∧y.D (.sl (.u64 e)) [v]∧Mem (E1 y p) (one (.fl [.val v]))∧Sim y.w y.F (B4v (E1 y p)) ac (buS l v ((c:Int)-1-(t.1:Int))) z a
 refine A5z I (fun t=>c-t.1) (c:=lpC D9s) (k:=lpR D9s) (by kernel_rfl) (fun t ih ac b w hI=>?_) ⟨0,Nat.zero_le _⟩ ⟨y,cZ,v,rfl,hr,hβ,hm,hJ,hv,hmb,by
   show Sim _ _ _ _ (buS l v ((c:Int)-1-((0:Nat):Int))) _ _;rw[show (c:Int)-1-((0:Nat):Int)=(c:Int)-1 from by omega]
   exact hs3.nx _⟩
 obtain ⟨t,ht⟩:=t;obtain ⟨y,z,v,rfl,hr,hβ,hm,hJ,hv,hmb,hs⟩:=hI;simp only at hm hJ hs ih
 by_cases h:t<c
 ·obtain ⟨i,hi⟩:∃i:Nat,i=c-1-t:=⟨_,rfl⟩
  have ei:(c:Int)-1-(t:Int)=(i:Int):=by omega
  rw[ei] at hs;refine bv l v _ ⟨by simp,by decide,trivial⟩ hs fun ac cV aV hs4=>?_
  obtain ⟨hg4,_,_⟩:=A1g hmb rfl hs4 rfl;have hsl4:cV.D (.sl (.u64 e)) [v]:=C6b hg4 (fun b hb=>hs4.base.f0 b hb) hm.fw rfl hv
  have hs5:=hs4.slots (svs' := [.v (.c (.val (.func (.yield l) #[] #[]))),.v (.c (.ptr 0 0)),.v (.c (.int .i64 (i:Int))),.v (.c (.val (.func (.yield l) #[] #[]))),.v (.c (.sl (.u64 e))),.v (.c (.int .i64 (wrap IntKind.i64 (Int.tdiv (i:Int) (64:Int)))))])
   ⟨fun _ h=>h,fun _ h=>h,fun _ h=>h,fun _ h=>h,D4j rfl hsl4,fun _ h=>h,trivial⟩
  have e1:Int.tdiv (i:Int) (64:Int)=((i / 64:Nat):Int):=Int.tdiv_eq_ediv_of_nonneg (by omega)
  have e2:Int.tmod (i:Int) (64:Int)=((i % 64:Nat):Int):=Int.tmod_eq_emod_of_nonneg (by omega)
  refine bw l v e _ ⟨by rw[e1,C0 (by omega) (by omega)];omega,by rw[e1,C0 (by omega) (by omega)];omega,by decide,by rw[e2];omega,trivial⟩ hs5 fun ac cU aU hs6=>?_
  rw[F2k hlim (by omega:i<1024),hN] at hs6
  obtain ⟨hg,hk2,hβ2⟩:=A1g hmb rfl hs6 rfl;have hJ2:=hgrow _ _ _ hJ hg;have e3:btL N c (t+1)=btL N c t++[decide (N / 2 ^ i % 2=1)]:=by rw[B9f,hi]
  obtain ⟨r,hr1⟩:=G4z N c (n:=c) (t:=t+1) h;refine C4x (R:=fun W' => J (btL N c (t+1)) W') (dst:=some 22) (f:=.tmp 11) (args:=[.tmp 21]) (by kernel_rfl) hs6 (l:=l) rfl (vs:=B9e (decide (N / 2 ^ i % 2=1))) ?_ ?_ fun W' hJ3=>?_
  ·have h21:=B8r (hs6.t 21)
   show [aU.tmps.getD 21 undef]=_;rw[h21];rfl
  ·have:=hyield (btL N c t) (decide (N / 2 ^ i % 2=1)) _ hJ2 ⟨r,by rw[hr1,e3,List.append_assoc];rfl⟩
   rw[<-e3] at this;exact this
  ·obtain ⟨y3,rfl,hm3,hc3⟩:=hread _ _ hJ3
   obtain ⟨hr3,hβ3⟩:=hc3 (p,0) List.mem_cons_self;have hr3:y3.k p = .real:=hr3;have hβ3:y3.β p=x.β p:=hβ3;obtain ⟨v3,hv3,hbox3⟩:=F2q hm3 (hM _) hr3;have hmb3:Mem (E1 y3 p) (one (.fl [.val v3])):=A9i hm3 (hM _) hr3 hbox3;have hs7:=D5x (nx' := 400) (dst:=22) (b:=true) hs6 (by kernel_rfl) rfl hm3 (hM _) hr3 hbox3 (by rw[hβ2,hβ];exact hβ3.symm) (by decide)
   change Wq Tryz.prog _ _ _ _ _ (E1 y3 p).w
   refine bB l v3 _ _ trivial hs7 fun ac cT aT hs8=>?_
   have e4:wrap IntKind.i64 ((i:Int)-1)=(c:Int)-1-((t+1:Nat):Int):=by rw[C0 (by omega) (by omega)];omega
   rw[e4] at hs8;exact ih ⟨t+1,by omega⟩ (by show c-(t+1)<c-t;omega) ac aT _ ⟨y3,cT,v3,rfl,hr3,hβ3,hm3,hJ3,hv3,hmb3,hs8.nx _⟩
 ·have e5:t=c:=by omega
  subst e5;refine bX l v _ ⟨by simp;omega,trivial⟩ hs fun ac cV aV hs4=>?_
  obtain ⟨hg,_,_⟩:=A1g hmb rfl hs4 rfl;exact ⟨D0j Z5 hs4 rfl rfl rfl (fun v=>⟨⟨v,rfl⟩,hgrow _ _ _ hJ hg⟩) (.inr rfl)⟩

def C8s (z:Bool):List SV:=[.v (.c (.bool z))]

theorem H9d (a:Fp) (l:List Bool) (z:Bool):pw a (pv (l++[z]))=if z=true then pw a (pv l)*pw a (pv l)*a else pw a (pv l)*pw a (pv l):=by
 rw[B8m,Nat.two_mul]
 cases z with
 | true=>
  rw[if_pos rfl,<-M5];rfl
 | false=>
  rw[if_neg (by decide),<-M5]
  rfl

theorem E1z (a:Fp) (e:List Int) (hl:e.length<=16) (hlim:A3s e) :
  FnD Tryz.prog 143 [.v (.a [.ob (.p a)]),.v (.a [.ob (.p 1)]),.v (.c (.sl (.u64 e)))] (.v (.a [.ob (.p (pw a (O4 e)))])) []:=by
 refine U2 (fn:=Tryz.f143) (c:=B9 Tryz.f143) Tryz.func143 rfl rfl fun x b hk hF hs=>?_
 refine qp a e trivial hs fun ac cY aY hs1=>?_
 obtain ⟨e1,e2⟩:=A2i (k:=D2j) (by kernel_rfl)
 rw[e1];have eP:(rfP D2j).toList=[12]:=by kernel_rfl
 have eG:rfG D2j = .tmp 11:=by kernel_rfl
 refine Z6 (ps:=rfP D2j) e2 hs1 (gf:=123) (caps:=[(128,0)]) (A4 Tryz.func123 rfl rfl) (fun pre=>qpS a e (pw a (pv pre))) (fun s=>by rw[eG];rfl) ⟨_,rfl⟩ (btL (O4 e) (M4 e e.length) (M4 e e.length)) C8s B9e
  (fun y z=>.cons ⟨rfl,0,rfl⟩ .nil) (fun z=>by rw[<-Array.length_toList,eP];rfl) (fun pre p hp=>?_) (A7c hl hlim fun s=>rfl) (fun pre z=>qpB a e (pw a (pv pre)) z)
  (fun pre z=>qpE a e (pw a (pv (pre++[z])))) (fun pre z=>⟨_,rfl⟩) (fun pre z hz w1 F1 K1 as1 Q1 l y b hs2 hQ=>?_) (fun pre z hz w1 F1 K1 as1 Q1 l y b hs2 hQ=>?_) fun D y hs2 hD hFD hd=>?_
 ·rw[eP] at hp
  have h23:(qpS a e (pw a (pv pre))).nt=23:=rfl;rw[h23];simp only[List.mem_cons,List.not_mem_nil,or_false] at hp;subst hp;decide
 ·rw[eP] at hs2
  exact qpA a e _ z trivial hs2 fun cZ aZ hs3=>⟨hQ _ _ (hs3.nx _)⟩
 ·rw[H9d] at hQ
  cases z with
  | true=>exact qpC a e _ true ⟨rfl,trivial⟩ hs2 fun cZ aZ hs3=>⟨hQ _ _ (hs3.nx _)⟩
  | false=>exact qpD a e _ false ⟨rfl,trivial⟩ hs2 fun cZ aZ hs3=>⟨hQ _ _ (hs3.nx _)⟩
 ·have hs3:=hs2.marked rfl rfl D
  have hN:O4 e<2 ^ M4 e e.length:=by
   have:=D1s hlim e.length (Nat.le_refl _)
   rwa [List.take_length] at this
  rw[B8l hN _ (Nat.le_refl _),Nat.sub_self,Nat.pow_zero,Nat.div_one] at hs2 hs3;generalize pw a (O4 e)=o at hs2 hs3 ⊢
  refine qpX a e o trivial hs3 fun ac cV aV hs6=>⟨?_⟩
  have hs7:Sim y.w y.F (U3 y V9 (I0 D)) ac (qpZ o) cV aV:=hs6;exact Y7 A6k hk hF (H1k o) trivial (fun y v hd=>hd) hs2 hD hFD hd rfl hs7

end

section

theorem D7q (a u:Fp) (e:List Int) (hu:u=1) (hl:e.length<=16) (hlim:A3s e) :
  FnD Tryz.prog 143 [.v (.a [.ob (.p a)]),.v (.a [.ob (.p u)]),.v (.c (.sl (.u64 e)))] (.v (.a [.ob (.p (pw a (O4 e)))])) []:=by
 subst hu;exact E1z a e hl hlim
def B0f:B2
 | [.v (.a [.ob (.p a)]),.v (.a [.ob (.p u)]),.v (.c (.sl (.u64 e)))]=>some ([u=1,e.length<=16,A3s e],.v (.a [.ob (.p (pw a (O4 e)))]),[])
 | _=>none
def H1j:Env:=qeI.set (C6 qeI.fn 143 B0f)
theorem E7d:A9 Tryz.prog H1j:=A8 A6k 143 B0f (A4 Tryz.func143 rfl rfl) fun args o r es h ho=>by
 unfold B0f at h;split at h
 ·cases h;exact D7q _ _ _ ho.1 ho.2.1 ho.2.2.1
 ·cases h
theorem I5e (a:Fp):B5 H1j Tryz.f142 3000 [.v (.a [.ob (.p a)])] [] [] []=(some ([(0<=(0:Int)),(0<(6:Int)),(0<6),(0<=(0:Int)),(0<(6:Int)),(0<=(1:Int)),((1:Int)<(18446744073709551616:Int)),((Fin.ofNat pN 1)=(1:Fp)),(6<=16),(A3s [(13402431016077863593:Int),(2210141511517208575:Int),(7435674573564081700:Int),(7239337960414712511:Int),(5412103778470702295:Int),(1873798617647539866:Int)])],((.v (.a [(.ob (.p (pw a 4002409555221667393417789825735904156556882819939007885332058136124031650490837864442687629129015664037894272559785)))])),[]))):=by kernel_rfl
/-- 1 divided by it; 0 of 0. -/
def ivP (a:Fp):Fp:=pw a (pN-2)
theorem D0k (x:Fp) (hx:x≠0):x*ivP x=1:=by
 have h:=A5r x hx;have e:pN-1=(pN-2)+1:=by decide
 rw[e] at h;have h2:ivP x*x=1:=h;rw[A9t];exact h2
theorem F6o (a:Fp):FnD Tryz.prog 142 [.v (.a [.ob (.p a)])] (.v (.a [.ob (.p (ivP a))])) []:=by
 have e:4002409555221667393417789825735904156556882819939007885332058136124031650490837864442687629129015664037894272559785=pN-2:=by decide +kernel
 have r:=I5e a;rw[e] at r;refine A5 E7d Tryz.func142 r ⟨by decide,by decide,by decide,by decide,by decide,by decide,by decide,rfl,by decide,?_,trivial⟩
 intro x hx;simp only[List.mem_cons,List.not_mem_nil,or_false] at hx;rcases hx with rfl | rfl | rfl | rfl | rfl | rfl<;>decide
def C1s:B2
 | [.v (.a [.ob (.p a)])]=>some ([],.v (.a [.ob (.p (ivP a))]),[])
 | _=>none
def qeJ:Env:=H1j.set (C6 H1j.fn 142 C1s)
theorem N8:A9 Tryz.prog qeJ:=A8 E7d 142 C1s (A4 Tryz.func142 rfl rfl) fun args o r es h _=>by
 unfold C1s at h;split at h
 ·cases h;exact F6o _
 ·cases h
theorem twA (x y z:Fp):B5 qeJ Tryz.f81 3000 [.v (.a [.ob (.p x),.ob (.p y),.ob (.p z)])] [true] [] []=(some ([((decide (z=(0:Fp)))=true)],((.v (.a [.ob (.p x),.ob (.p y),.ob (.p z)])),[]))):=by kernel_rfl
theorem twB (x y z:Fp):let c:=(y*y)*(y*y);let b:=(((x+(y*y))*(x+(y*y)))-(x*x))-c;let d:=((x*x)+(x*x))+(x*x);let f:=((d*d)-(b+b))-(b+b);B5 qeJ Tryz.f81 3000 [.v (.a [.ob (.p x),.ob (.p y),.ob (.p z)])] [false] [] []=(some ([((decide (z=(0:Fp)))=false)],((.v (.a [(.ob (.p f)),(.ob (.p ((d*((b+b)-f))-(((c+c)+(c+c))+((c+c)+(c+c)))))),(.ob (.p ((y*z)+(y*z))))])),[]))):=by intros;kernel_rfl
theorem ngP (x y z:Fp):B5 qeJ Tryz.f104 3000 [.v (.a [.ob (.p x),.ob (.p y),.ob (.p z)])] [] [] []=(some ([],((.v (.a [.ob (.p x),(.ob (.p ((0:Fp)-y))),.ob (.p z)])),[]))):=by kernel_rfl
end

section

def fp1:Fp:=Fin.ofNat pN 1
def fp4:Fp:=Fin.ofNat pN 4
section
variable {r:Nat} [NeZero r]
theorem E0j (n:Nat):(Fin.ofNat r n).val=n % r:=rfl
end

theorem G7n (x:U6):(inP x).val=x.val % pN:=E0j _
theorem A2x (x:Fp):inP (D4 x)=x:=by
 apply Fin.ext
 rw[G7n,D7i];exact Nat.mod_eq_of_lt x.isLt
section
variable {r:Nat} [NeZero r]
theorem E7b (x:Fin r):∀n,pw (x*x*x) n=pw x n*pw x n*pw x n
 | 0=>by show (1:Fin r)=1*1*1;grind
 | n+1=>by
  show pw (x*x*x) n*(x*x*x)=pw x n*x*(pw x n*x)*(pw x n*x);rw[E7b x n];grind
theorem G1v (x:Fin r) (n:Nat):pw (x*x*x) n=pw x (n+n+n):=by
 rw[M5,M5,E7b]
theorem E1n {a b:Fin r} (h:a+b=0):a=0-b:=by grind
end

theorem D7g:(1:Fp)≠0:=by decide +kernel
theorem D8s:(1:Fp)+1≠0:=by decide +kernel
theorem G6x:fp1=1:=by decide +kernel
theorem I9n:(0:Fp)-fp4=Fin.ofNat pN (pN-4):=by decide +kernel
theorem I1j:pN-1=(pN-1) / 3+(pN-1) / 3+(pN-1) / 3:=by decide +kernel
theorem D6r:(Fin.ofNat pN (pN-4)).val=pN-4:=by decide +kernel
theorem F9h:A3w pN (pN-4) 384 ((pN-1) / 3)≠1:=by decide +kernel
theorem C4e:(pN-1) / 3<2 ^ 384:=by decide +kernel
theorem A3x:((1:Fp):Nat)=1:=by decide +kernel

theorem C9d (c:Fp) (hc:pw c ((pN-1) / 3)≠1) (h0:c≠0) (x:Fp):x*x*x≠c:=by
 intro h;by_cases hx:x=0
 ·apply h0
  rw[<-h,hx];exact mul_zero6
 ·apply hc
  rw[<-h,G1v,<-I1j];exact A5r x hx
where mul_zero6:(0:Fp)*0*0=0:=by decide +kernel

instance fldP:Fld Fp:=
  { (inferInstance:J7 (Fin pN)) with
    inv:=ivP
    mul_inv:=D0k
    one_ne:=D7g }

section
variable {F:Type} [Fld F]
end

end

section

theorem F1k (x y z:Fp):FnD Tryz.prog 81 [.v (.a [.ob (.p x),.ob (.p y),.ob (.p z)])] (.v (.a (J6 (jtw (x,y,z))))) []:=by
 by_cases h:z=0
 ·have e:jtw (x,y,z)=(x,y,z):=if_pos h
  rw[e];exact A5 N8 Tryz.func81 (twA x y z) ⟨decide_eq_true h,trivial⟩
 ·unfold jtw
  rw[if_neg h];exact A5 N8 Tryz.func81 (twB x y z) ⟨decide_eq_false h,trivial⟩
def D3k:B2
 | [.v (.a [.ob (.p x),.ob (.p y),.ob (.p z)])]=>some ([],.v (.a (J6 (jtw (x,y,z)))),[])
 | _=>none
def qsA:Env:=qeJ.set (C6 qeJ.fn 81 D3k)
theorem H9m:A9 Tryz.prog qsA:=A8 N8 81 D3k (A4 Tryz.func81 rfl rfl) fun args o r es h _=>by
 unfold D3k at h;split at h
 ·cases h;exact F1k _ _ _
 ·cases h
def D1n:B2
 | [.v (.a [.ob (.p x),.ob (.p y),.ob (.p z)])]=>some ([],.v (.a (J6 (jng (x,y,z)))),[])
 | _=>none
def qsB:Env:=qsA.set (C6 qsA.fn 104 D1n)
theorem B5x:A9 Tryz.prog qsB:=A8 H9m 104 D1n (A4 Tryz.func104 rfl rfl) fun args o r es h _=>by
 unfold D1n at h;split at h
 ·cases h;exact A5 N8 Tryz.func104 (ngP _ _ _) trivial
 ·cases h
theorem plA (x y z u v w:Fp):B5 qsB Tryz.f79 3000 [.v (.a [.ob (.p x),.ob (.p y),.ob (.p z)]),.v (.a [.ob (.p u),.ob (.p v),.ob (.p w)])] [true] [] []=(some ([((decide (z=(0:Fp)))=true)],((.v (.a [.ob (.p u),.ob (.p v),.ob (.p w)])),[]))):=by kernel_rfl
theorem plB (x y z u v w:Fp):B5 qsB Tryz.f79 3000 [.v (.a [.ob (.p x),.ob (.p y),.ob (.p z)]),.v (.a [.ob (.p u),.ob (.p v),.ob (.p w)])] [false,true] [] []=(some ([((decide (z=(0:Fp)))=false),((decide (w=(0:Fp)))=true)],((.v (.a [.ob (.p x),.ob (.p y),.ob (.p z)])),[]))):=by kernel_rfl
theorem plC (x y z u v w:Fp):let b:=jtw (x,(y,z));let c:Fp:=0;B5 qsB Tryz.f79 3000 [.v (.a [.ob (.p x),.ob (.p y),.ob (.p z)]),.v (.a [.ob (.p u),.ob (.p v),.ob (.p w)])] [false,false,true,true] [] []=(some ([((decide (z=c))=false),((decide (w=c))=false),((decide (((u*(z*z))-(x*(w*w)))=c))=true),((decide ((((v*(z*z))*z)-((y*(w*w))*w))=c))=true)],((.v (.a [(.ob (.p (Prod.fst b))),(.ob (.p (Prod.fst (Prod.snd b)))),(.ob (.p (Prod.snd (Prod.snd b))))])),[]))):=by intros;kernel_rfl
theorem plD (x y z u v w:Fp):let b:Fp:=0;B5 qsB Tryz.f79 3000 [.v (.a [.ob (.p x),.ob (.p y),.ob (.p z)]),.v (.a [.ob (.p u),.ob (.p v),.ob (.p w)])] [false,false,true,false] [] []=(some ([((decide (z=b))=false),((decide (w=b))=false),((decide (((u*(z*z))-(x*(w*w)))=b))=true),((decide ((((v*(z*z))*z)-((y*(w*w))*w))=b))=false)],((.v (.a [.ob (.p x),.ob (.p y),(.ob (.p b))])),[]))):=by intros;kernel_rfl
theorem plE (x y z u v w:Fp):let b:=(u*(z*z))-(x*(w*w));let c:=((v*(z*z))*z)-((y*(w*w))*w);let d:=(x*(w*w))*(b*b);let f:=(((c*c)-((b*b)*b))-d)-d;B5 qsB Tryz.f79 3000 [.v (.a [.ob (.p x),.ob (.p y),.ob (.p z)]),.v (.a [.ob (.p u),.ob (.p v),.ob (.p w)])] [false,false,false] [] []=(some ([((decide (z=(0:Fp)))=false),((decide (w=(0:Fp)))=false),((decide (b=(0:Fp)))=false)],((.v (.a [(.ob (.p f)),(.ob (.p ((c*(d-f))-(((y*(w*w))*w)*((b*b)*b))))),(.ob (.p ((b*z)*w)))])),[]))):=by intros;kernel_rfl
end

section

theorem E1y (x y z u v w:Fp):FnD Tryz.prog 79 [.v (.a [.ob (.p x),.ob (.p y),.ob (.p z)]),.v (.a [.ob (.p u),.ob (.p v),.ob (.p w)])] (.v (.a (J6 (jpl (x,y,z) (u,v,w))))) []:=by
 by_cases h:z=0
 ·have e:jpl (x,y,z) (u,v,w)=(u,v,w):=if_pos h
  rw[e];exact A5 B5x Tryz.func79 (plA x y z u v w) ⟨decide_eq_true h,trivial⟩
 ·by_cases h2:w=0
  ·have e:jpl (x,y,z) (u,v,w)=(x,y,z):=(if_neg h).trans (if_pos h2)
   rw[e];exact A5 B5x Tryz.func79 (plB x y z u v w) ⟨decide_eq_false h,decide_eq_true h2,trivial⟩
  ·unfold jpl
   rw[if_neg h,if_neg h2];dsimp only;by_cases h3:u*(z*z)-x*(w*w)=0
   ·rw[if_pos h3]
    by_cases h4:v*(z*z)*z-y*(w*w)*w=0
    ·rw[if_pos h4]
     exact A5 B5x Tryz.func79 (plC x y z u v w) ⟨decide_eq_false h,decide_eq_false h2,decide_eq_true h3,decide_eq_true h4,trivial⟩
    ·rw[if_neg h4]
     exact A5 B5x Tryz.func79 (plD x y z u v w) ⟨decide_eq_false h,decide_eq_false h2,decide_eq_true h3,decide_eq_false h4,trivial⟩
   ·rw[if_neg h3]
    exact A5 B5x Tryz.func79 (plE x y z u v w) ⟨decide_eq_false h,decide_eq_false h2,decide_eq_false h3,trivial⟩

end

section

def D1z:B2
 | [.v (.a [.ob (.p x),.ob (.p y),.ob (.p z)]),.v (.a [.ob (.p u),.ob (.p v),.ob (.p w)])]=>some ([],.v (.a (J6 (jpl (x,y,z) (u,v,w)))),[])
 | _=>none
def qsC:Env:=qsB.set (C6 qsB.fn 79 D1z)
theorem B0k:A9 Tryz.prog qsC:=A8 B5x 79 D1z (A4 Tryz.func79 rfl rfl) fun args o r es h _=>by
 unfold D1z at h;split at h
 ·cases h;exact E1y _ _ _ _ _ _
 ·cases h
def F6j (T:Nat->Option Func) (f:Nat):Option Func:=if f=75 then some Tryz.f75 else T f
def qsD:Env:={ qsC with inl:=F6j qsC.inl }
theorem A4q:A9 Tryz.prog qsD:=by
 refine ⟨B0k.ty,B0k.mixed,B0k.fn,B0k.mu,fun f fn h=>?_,B0k.ex,B0k.inv⟩
 have h:F6j qsC.inl f=some fn:=h;unfold F6j at h;split at h
 ·rename_i hf;cases h;subst hf;exact ⟨Tryz.func75,A4 Tryz.func75 rfl rfl⟩
 exact B0k.inl f fn h
theorem igA (x y:U6) (i:Bool):let b:=(1:Int)<(18446744073709551616:Int);let c:=Fin.ofNat pN 1;B5 qsD Tryz.f40 3000 [.v (.a [.ob (.fp x),.ob (.fp y),.bool i])] [true] [] []=(some ([(i=true),(0<=(1:Int)),b,(0<=(1:Int)),b],((.v (.a [(.ob (.p c)),(.ob (.p c)),(.ob (.p (0:Fp)))])),[]))):=by intros;kernel_rfl
theorem igB (x y:U6) (i:Bool):B5 qsD Tryz.f40 3000 [.v (.a [.ob (.fp x),.ob (.fp y),.bool i])] [false] [] []=(some ([(i=false),(0<=(1:Int)),((1:Int)<(18446744073709551616:Int))],((.v (.a [(.ob (.p (inP x))),(.ob (.p (inP y))),(.ob (.p (Fin.ofNat pN 1)))])),[]))):=by kernel_rfl
theorem ogA (x y z:Fp):B5 qsD Tryz.f39 3000 [.v (.a [.ob (.p x),.ob (.p y),.ob (.p z)])] [true,true] [] []=(some ([((decide (z=(0:Fp)))=true)],((.v (.a [(.ob (.fp (0:U6))),(.ob (.fp (0:U6))),(.lit true)])),[]))):=by kernel_rfl
theorem ogB (x y z:Fp):let b:=ivP z;B5 qsD Tryz.f39 3000 [.v (.a [.ob (.p x),.ob (.p y),.ob (.p z)])] [false,false] [] []=(some ([((decide (z=(0:Fp)))=false)],((.v (.a [(.ob (.fp (D4 (x*(b*b))))),(.ob (.fp (D4 ((y*(b*b))*b)))),(.lit false)])),[]))):=by intros;kernel_rfl
theorem onA (x y:U6) (i:Bool):let b:=Bool.and (decide (x=(0:U6))) (Bool.and (decide (y=(0:U6))) (i == true));B5 qsD Tryz.f57 3000 [.v (.a [.ob (.fp x),.ob (.fp y),.bool i])] [true] [] []=(some ([(i=true)],((.ci (.bool (ite (true=true) b (Bool.not b)))),[]))):=by intros;kernel_rfl
theorem onB (x y:U6) (i:Bool):let d:=decide ((D4 (inP y))=y);let f:=true=true;let g:=inP x;let b:=decide (((inP y)*(inP y))=(((g*g)*g)+(Fin.ofNat pN 4)));let c:=decide ((D4 g)=x);B5 qsD Tryz.f57 3000 [.v (.a [.ob (.fp x),.ob (.fp y),.bool i])] [false,true,true] [] []=(some ([(i=false),((ite f c (Bool.not c))=true),((ite f d (Bool.not d))=true),(0<=(4:Int)),((4:Int)<(18446744073709551616:Int))],((.ci (.bool (ite f b (Bool.not b)))),[]))):=by intros;kernel_rfl
theorem onC (x y:U6) (i:Bool):let b:=decide ((D4 (inP x))=x);let c:=decide ((D4 (inP y))=y);B5 qsD Tryz.f57 3000 [.v (.a [.ob (.fp x),.ob (.fp y),.bool i])] [false,true,false] [] []=(some ([(i=false),((ite (true=true) b (Bool.not b))=true),((ite (true=true) c (Bool.not c))=false)],((.ci (.lit false)),[]))):=by intros;kernel_rfl
theorem onD (x y:U6) (i:Bool):let b:=decide ((D4 (inP x))=x);B5 qsD Tryz.f57 3000 [.v (.a [.ob (.fp x),.ob (.fp y),.bool i])] [false,false,false] [] []=(some ([(i=false),((ite (true=true) b (Bool.not b))=false)],((.ci (.lit false)),[]))):=by intros;kernel_rfl
end

section

/-- Which points may be. -/
def onG (a:G1D):Bool:=
 if a.inf then decide (a.x=0) && decide (a.y=0)
 else decide (D4 (inP a.x)=a.x) && (decide (D4 (inP a.y)=a.y) && decide (inP a.y*inP a.y=inP a.x*inP a.x*inP a.x+fp4))
def inG (a:G1D):Fp×Fp×Fp:=if a.inf then (fp1,fp1,0) else (inP a.x,inP a.y,fp1)
def A4o (t:Fp×Fp×Fp):G1D:=
 if t.2.2=0 then ⟨0,0,true⟩ else ⟨D4 (t.1*(ivP t.2.2*ivP t.2.2)),D4 (t.2.1*(ivP t.2.2*ivP t.2.2)*ivP t.2.2),false⟩

theorem A7r {x:Ctx} {i j:It} {b:Bool} {v:Value} (h:B8 x (.v (.a [i,j,.lit b])) v):B8 x (.v (.a [i,j,.bool b])) v:=by
 obtain ⟨cs,e,c1,r1,e1,h1,c2,r2,e2,h2,c3,r3,e3,⟨d,h3⟩,h4⟩:=h;refine ⟨cs,e,c1,r1,e1,h1,c2,r2,e2,h2,c3,r3,e3,⟨d,?_⟩,h4⟩
 cases d<;>exact h3
theorem G7k (x y:U6) (i:Bool):FnD Tryz.prog 40 [.v (.a [.ob (.fp x),.ob (.fp y),.bool i])] (.v (.a (J6 (inG ⟨x,y,i⟩)))) []:=by
 cases i with
 | true=>exact A5 A4q Tryz.func40 (igA x y true) ⟨rfl,by decide,by decide,by decide,by decide,trivial⟩
 | false=>exact A5 A4q Tryz.func40 (igB x y false) ⟨rfl,by decide,by decide,trivial⟩

theorem G0e (x y z:Fp):FnD Tryz.prog 39 [.v (.a [.ob (.p x),.ob (.p y),.ob (.p z)])] (.v (.a (A4o (x,y,z)).its)) []:=by
 by_cases h:z=0
 ·have e:A4o (x,y,z)=⟨0,0,true⟩:=if_pos h
  rw[e];exact (A5 A4q Tryz.func39 (ogA x y z) ⟨decide_eq_true h,trivial⟩).conv (fun _ _ h=>h) fun y v hd=>A7r hd
 ·unfold A4o
  rw[if_neg h];exact (A5 A4q Tryz.func39 (ogB x y z) ⟨decide_eq_false h,trivial⟩).conv (fun _ _ h=>h) fun y v hd=>A7r hd

theorem G9s (x y:U6) (i:Bool):FnD Tryz.prog 57 [.v (.a [.ob (.fp x),.ob (.fp y),.bool i])] (.v (.c (.bool (onG ⟨x,y,i⟩)))) []:=by
 cases i with
 | true=>
  have r:=onA x y true;dsimp only at r;rw[if_pos rfl] at r;have e:onG ⟨x,y,true⟩=((decide (x=0)) && ((decide (y=0)) && (true == true))):=by
   show (decide (x=0) && decide (y=0))=_;simp
  rw[e];exact A5 A4q Tryz.func57 r ⟨rfl,trivial⟩
 | false=>
  by_cases h1:D4 (inP x)=x
  ·by_cases h2:D4 (inP y)=y
   ·have r:=onB x y false
    dsimp only at r;rw[if_pos rfl,if_pos rfl,if_pos rfl] at r;have e:onG ⟨x,y,false⟩=decide (inP y*inP y=inP x*inP x*inP x+Fin.ofNat pN 4):=by
     show (decide (D4 (inP x)=x) && (decide (D4 (inP y)=y) && decide (inP y*inP y=inP x*inP x*inP x+fp4)))=_;rw[decide_eq_true h1,decide_eq_true h2];rfl
    rw[e];exact A5 A4q Tryz.func57 r ⟨rfl,decide_eq_true h1,decide_eq_true h2,by decide,by decide,trivial⟩
   ·have r:=onC x y false
    dsimp only at r;rw[if_pos rfl,if_pos rfl] at r;have e:onG ⟨x,y,false⟩=false:=by
     show (decide (D4 (inP x)=x) && (decide (D4 (inP y)=y) && decide (inP y*inP y=inP x*inP x*inP x+fp4)))=_;rw[decide_eq_false h2,Bool.false_and,Bool.and_false]
    rw[e];exact (A5 A4q Tryz.func57 r ⟨rfl,decide_eq_true h1,decide_eq_false h2,trivial⟩).conv (fun _ _ h=>h) fun y v hd=>Q4 rfl hd
  ·have r:=onD x y false
   dsimp only at r;rw[if_pos rfl] at r;have e:onG ⟨x,y,false⟩=false:=by
    show (decide (D4 (inP x)=x) && (decide (D4 (inP y)=y) && decide (inP y*inP y=inP x*inP x*inP x+fp4)))=_;rw[decide_eq_false h1,Bool.false_and]
   rw[e];exact (A5 A4q Tryz.func57 r ⟨rfl,decide_eq_false h1,trivial⟩).conv (fun _ _ h=>h) fun y v hd=>Q4 rfl hd
def D0f:B2
 | [.v (.a [.ob (.fp x),.ob (.fp y),.bool i])]=>some ([],.v (.a (J6 (inG ⟨x,y,i⟩))),[])
 | _=>none
def qsE:Env:=qsD.set (C6 qsD.fn 40 D0f)
theorem H9n:A9 Tryz.prog qsE:=A8 A4q 40 D0f (A4 Tryz.func40 rfl rfl) fun args o r es h _=>by
 unfold D0f at h;split at h
 ·cases h;exact G7k _ _ _
 ·cases h
def C2y:B2
 | [.v (.a [.ob (.p x),.ob (.p y),.ob (.p z)])]=>some ([],.v (.a (A4o (x,y,z)).its),[])
 | _=>none
def qsF:Env:=qsE.set (C6 qsE.fn 39 C2y)
theorem H9o:A9 Tryz.prog qsF:=A8 H9n 39 C2y (A4 Tryz.func39 rfl rfl) fun args o r es h _=>by
 unfold C2y at h;split at h
 ·cases h;exact G0e _ _ _
 ·cases h
def D1t:B2
 | [.v (.a [.ob (.fp x),.ob (.fp y),.bool i])]=>some ([],.v (.c (.bool (onG ⟨x,y,i⟩))),[])
 | _=>none
def qsG:Env:=qsF.set (C6 qsF.fn 57 D1t)
theorem E2g:A9 Tryz.prog qsG:=A8 H9o 57 D1t (A4 Tryz.func57 rfl rfl) fun args o r es h _=>by
 unfold D1t at h;split at h
 ·cases h;exact G9s _ _ _
 ·cases h
theorem riR (x y:U6) (i:Bool):B5 qsG Tryz.f21 3000 [.v (.a [.ob (.fp x),.ob (.fp y),.bool i])] [] [] []=(some ([],((.ci (.bool (onG (G1D.mk x y i)))),[]))):=by kernel_rfl
theorem geR  : B5 qsG Tryz.f15 3000 [] [] [] []=(some ([(0<=(18103045581585958587:Int)),((18103045581585958587:Int)<(18446744073709551616:Int)),(0<=(7806400890582735599:Int)),((7806400890582735599:Int)<(18446744073709551616:Int)),(0<=(11623291730934869080:Int)),((11623291730934869080:Int)<(18446744073709551616:Int)),(0<=(14080658508445169925:Int)),((14080658508445169925:Int)<(18446744073709551616:Int)),(0<=(2780237799254240271:Int)),((2780237799254240271:Int)<(18446744073709551616:Int)),(0<=(1725392847304644500:Int)),((1725392847304644500:Int)<(18446744073709551616:Int)),(0<=(912580534683953121:Int)),((912580534683953121:Int)<(18446744073709551616:Int)),(0<=(15005087156090211044:Int)),((15005087156090211044:Int)<(18446744073709551616:Int)),(0<=(61670280795567085:Int)),((61670280795567085:Int)<(18446744073709551616:Int)),(0<=(18227722000993880822:Int)),((18227722000993880822:Int)<(18446744073709551616:Int)),(0<=(11573741888802228964:Int)),((11573741888802228964:Int)<(18446744073709551616:Int)),(0<=(627113611842199793:Int)),((627113611842199793:Int)<(18446744073709551616:Int))],((.v (.a [(.ob (.fp (Fin.ofNat B6 3685416753713387016781088315183077757961620795782546409894578378688607592378376318836054947676345821548104185464507))),(.ob (.fp (Fin.ofNat B6 1339506544944476473020471379941921221584933875938349620426543736416511423956333506472724655353366534992391756441569))),(.lit false)])),[]))):=by kernel_rfl
end

section

def I8k:U6:=Fin.ofNat B6 3685416753713387016781088315183077757961620795782546409894578378688607592378376318836054947676345821548104185464507
def I8l:U6:=Fin.ofNat B6 1339506544944476473020471379941921221584933875938349620426543736416511423956333506472724655353366534992391756441569
def G7:G1D:=⟨I8k,I8l,false⟩

theorem G7f:FnD Tryz.prog 15 [] (.v (.a G7.its)) []:=
 (A5 E2g Tryz.func15 geR (by simp [B1])).conv (fun _ _ h=>h) fun y v hd=>A7r hd
end

section

def B0r:B2
 | [.v (.a [.ob (.fp x),.ob (.fp y),.bool i])]=>some ([],.v (.c (.bool (onG ⟨x,y,i⟩))),[])
 | _=>none
def qtA:Env:=qsG.set (C6 qsG.fn 21 B0r)
theorem H9p:A9 Tryz.prog qtA:=A8 E2g 21 B0r (A4 Tryz.func21 rfl rfl) fun args o r es h _=>by
 unfold B0r at h;split at h
 ·cases h;exact A5 E2g Tryz.func21 (riR _ _ _) trivial
 ·cases h
def C1c:B2
 | []=>some ([],.v (.a G7.its),[])
 | _=>none
def qtC:Env:=qtA.set (C6 qtA.fn 15 C1c)
theorem H9q:A9 Tryz.prog qtC:=A8 H9p 15 C1c (A4 Tryz.func15 rfl rfl) fun args o r es h _=>by
 unfold C1c at h;split at h
 ·cases h;exact G7f
 ·cases h
def qtG:Env:=qtC
theorem X4:A9 Tryz.prog qtG:=H9q
theorem neA (a b:U6) (i:Bool):B5 qtG Tryz.f56 3000 [.v (.a [.ob (.fp a),.ob (.fp b),.bool i])] [true] [] []=(some ([((Bool.not (onG (G1D.mk a b i)))=true)],((.t [(.a [(.ob (.fp (0:U6))),(.ob (.fp (0:U6))),(.lit false)]),(.c (.int .i64 (30:Int)))]),[]))):=by kernel_rfl
theorem neB (a b:U6) (i:Bool):let f:=G1D.mk a b i;let d:=A4o (jng (inG f));B5 qtG Tryz.f56 3000 [.v (.a [.ob (.fp a),.ob (.fp b),.bool i])] [false] [] []=(some ([((Bool.not (onG f))=false)],((.t [(.a [(.ob (.fp (G1D.x d))),(.ob (.fp (G1D.y d))),(.bool (G1D.inf d))]),(.c (.int .i64 (0:Int)))]),[]))):=by intros;kernel_rfl
end

section

def G4m (a b:G1D):G1D:=A4o (jpl (inG a) (inG b))
def B7r (a:G1D):G1D:=A4o (jng (inG a))
def neR (a:G1D):G1D×Int:=if onG a then (B7r a,0) else (g10,30)

theorem A2j {x:Ctx} {i j k:It} {b:Bool} {v:Value} (h:B8 x (.t [.a [i,j,.lit b],.c k]) v):B8 x (.t [.a [i,j,.bool b],.c k]) v:=by
 obtain ⟨vs,e,h1⟩:=h
 cases h1 with | cons d1 ds=>
 exact ⟨_,e,.cons (A7r d1) ds⟩

theorem F9j (a b:U6) (i:Bool):FnD Tryz.prog 56 [.v (.a [.ob (.fp a),.ob (.fp b),.bool i])] (.t [.a (neR ⟨a,b,i⟩).1.its,.c (.int .i64 (neR ⟨a,b,i⟩).2)]) []:=by
 by_cases h1:onG ⟨a,b,i⟩=true
 ·have e:neR ⟨a,b,i⟩=(B7r ⟨a,b,i⟩,0):=by unfold neR;rw[h1];rfl
  rw[e];exact A5 X4 Tryz.func56 (neB a b i) ⟨by rw[h1];rfl,trivial⟩
 ·have h1:onG ⟨a,b,i⟩=false:=Bool.eq_false_iff.2 h1
  have e:neR ⟨a,b,i⟩=(g10,30):=by unfold neR;rw[h1];rfl
  rw[e];exact (A5 X4 Tryz.func56 (neA a b i) ⟨by rw[h1];rfl,trivial⟩).conv (fun _ _ h=>h) fun y v hd=>A2j hd

end

section

theorem I6d (x:Fp):x*x*x+fp4≠0:=by
 intro h;have h:=E1n h;rw[I9n] at h;refine C9d _ (fun e=>?_) (fun e=>?_) x h
 ·have:=congrArg Fin.val e
  rw[W9 _ 384 _ C4e,D6r,A3x] at this;exact F9h this
 ·have:=congrArg Fin.val e
  rw[D6r] at this;revert this
  decide +kernel

theorem cv1:Cv fp4:=⟨D8s,I6d⟩

/-- A point outside, as a point; and back. -/
def pG (a:G1D):Pt Fp:=if a.inf then none else some (inP a.x,inP a.y)
def gP:Pt Fp->G1D
 | none=>⟨0,0,true⟩
 | some p=>⟨D4 p.1,D4 p.2,false⟩

theorem C3b:∀P:Pt Fp,pG (gP P)=P
 | none=>rfl
 | some p=>by
  show some (inP (D4 p.1),inP (D4 p.2))=some p;rw[A2x,A2x]

theorem R7 {a:G1D} (h:onG a=true):gP (pG a)=a∧OnC fp4 (pG a):=by
 obtain ⟨x,y,i⟩:=a
 cases i with
 | true=>
  have h:(decide (x=0) && decide (y=0))=true:=h;rw[Bool.and_eq_true,decide_eq_true_eq,decide_eq_true_eq] at h;obtain ⟨rfl,rfl⟩:=h;exact ⟨rfl,True.intro⟩
 | false=>
  have h:(decide (D4 (inP x)=x) && (decide (D4 (inP y)=y) && decide (inP y*inP y=inP x*inP x*inP x+fp4)))=true:=h;rw[Bool.and_eq_true,Bool.and_eq_true,decide_eq_true_eq,decide_eq_true_eq,decide_eq_true_eq] at h;obtain ⟨h1,h2,h3⟩:=h;refine ⟨?_,h3⟩
  show (⟨D4 (inP x),D4 (inP y),false⟩:G1D)=⟨x,y,false⟩;rw[h1,h2]

theorem A9y:∀{P:Pt Fp},OnC fp4 P->onG (gP P)=true
 | none,_=>by
  show (decide ((0:U6)=0) && decide ((0:U6)=0))=true;rw[decide_eq_true rfl];rfl
 | some p,h=>by
  have h:p.2*p.2=p.1*p.1*p.1+fp4:=h;show (decide (D4 (inP (D4 p.1))=D4 p.1) && (decide (D4 (inP (D4 p.2))=D4 p.2) && decide (inP (D4 p.2)*inP (D4 p.2)=inP (D4 p.1)*inP (D4 p.1)*inP (D4 p.1)+fp4)))=true;rw[A2x,A2x,decide_eq_true rfl,decide_eq_true rfl,decide_eq_true h];rfl

theorem E1s:(1:Fp)*1=1:=by decide +kernel
theorem A9g (a:G1D):Jc (pG a) (inG a):=by
 obtain ⟨x,y,i⟩:=a
 cases i with
 | true=>exact (rfl:(0:Fp)=0)
 | false=>
  show Jc (some (inP x,inP y)) (inP x,inP y,fp1);rw[G6x];refine ⟨D7g,?_,?_⟩
  ·show inP x=inP x*(1*1)
   rw[E1s];exact (A7t _).symm
  ·show inP y=inP y*(1*1*1)
   rw[E1s,E1s];exact (A7t _).symm

theorem A7x {P:Pt Fp} {t:Fp×Fp×Fp} (h:Jc P t):A4o t=gP P:=by
 rw[<-D0m P t h];unfold A4o jpt;by_cases hz:t.2.2=0
 ·rw[if_pos hz,if_pos hz];rfl
 ·rw[if_neg hz,if_neg hz];rfl

theorem E3w (a b:G1D):G4m a b=gP (C5 (pG a) (pG b)):=A7x (A2y D8s _ _ _ _ (A9g a) (A9g b))
theorem E6l (a:G1D):B7r a=gP (P5 (pG a)):=A7x (E0w _ _ (A9g a))

theorem H8m (a b:G1D):pG (G4m a b)=C5 (pG a) (pG b):=by rw[E3w,C3b]
theorem G0u (a:G1D):pG (B7r a)=P5 (pG a):=by rw[E6l,C3b]
theorem F9z {a b:G1D} (ha:onG a=true) (hb:onG b=true):onG (G4m a b)=true:=by
 rw[E3w];exact A9y (J8 cv1 _ _ (R7 ha).2 (R7 hb).2)
theorem G0a {a:G1D} (ha:onG a=true):onG (B7r a)=true:=by
 rw[E6l];exact A9y (U1 _ (R7 ha).2)
end

section

def qvA:Env:=qtG
theorem H9r:A9 Tryz.prog qvA:=X4
def C2k:B2
 | [.v (.a [.ob (.fp a),.ob (.fp b),.bool i])]=>some ([],.t [.a (neR ⟨a,b,i⟩).1.its,.c (.int .i64 (neR ⟨a,b,i⟩).2)],[])
 | _=>none
def qvF:Env:=qvA.set (C6 qvA.fn 56 C2k)
theorem A3a:A9 Tryz.prog qvF:=A8 H9r 56 C2k (A4 Tryz.func56 rfl rfl) fun args o r es h _=>by
 unfold C2k at h;split at h
 ·cases h;exact F9j _ _ _
 ·cases h
end

section

theorem H7v {a:G1D} (ha:onG a=true):neR a=(B7r a,0):=by unfold neR;rw[ha];rfl
end

section
section
variable {w0:World} {F0:Nat->Prop} {K:Kp} {ac:List Act} {Q:Exit->Act->World->Prop} {cX:Ctx} {aX:Act}

def C5b:List KI:=(run qeJ false 3000 (⟨[.code (B9 Tryz.f121)],.normal,⟨B3z [.v (.c (.val (.func (.yield dF) #[] #[]))),.v (.c (.ptr 0 0))],one (.fl [.ob (.fr dF)]),Tryz.f121.ntmps,16,[]⟩⟩:Cfg) []).cfg.k
theorem dg (l:Nat) (k:U4):let a:=Array.mk ([]:List Value);B1 []->Sg Tryz.prog (⟨B3z [.v (.c (.val (.func (.yield l) #[] #[]))),.v (.c (.ptr 0 0))],one (.fl [.ob (.fr k)]),Tryz.f121.ntmps,16,[]⟩) (B0 32 [0,1,3,4] [(.ci (.val (Value.func (Fn.yield l) a a))),.pt 0 0,(.ci (.lit false)),.ii (63:Int)] [0] [(eF_ [.ob (.fr k)])] 48 [] []) .normal (C5b) ([.code (B9 Tryz.f121)]):=sgA false 3000 [] N8
def dgS (l:Nat) (k:U4) (g:Bool) (i :Int):St:=B0 32 [0,1,3,4] [(.ci (.val (Value.func (Fn.yield l) (Array.mk ([]:List Value)) (Array.mk ([]:List Value))))),.pt 0 0,.v (.c (.bool g)),.v (.c (.int .i64 i))] [0] [(eF_ [.ob (.fr k)])] 48 [] []
def E4s:List KI:=(run qeJ false 3000 (⟨E8 C5b,.normal,dgS dF dF dF dF⟩:Cfg) [true,true,true]).cfg.k
section
variable (l:Nat) (k:U4) (g:Bool) (i:Int)
theorem dgY:let d:Int:=16;let a:=wrap .i64 (Int.tdiv i d);let c:=wrap .i64 ((4:Int)*(Int.tmod i d));let f:=Array.mk ([]:List Value);let b:=Value.func (Fn.yield l) f f;B1 [((decide (i >= (0:Int)))=true),(d≠(0:Int)),(0<=a),(a<(4:Int)),((0+((a).toNat*1))<(Ob.k (.fr k))),(d≠(0:Int)),(0<=c),(g=true)]->Sg Tryz.prog (dgS l k g i) (B0 32 [0,1,3,4,26,27,28] [(.ci (.val b)),.pt 0 0,(.ci (.lit true)),.ii i,(.ci (.lit true)),(.ci (.val b)),(.ii (wrap .i64 (I1 BinOp.and IntKind.u64 (Int.fdiv (A0 (Ob.n (.fr k)) (0+((a).toNat*1))) ((2:Int) ^ (Min.min (c).toNat 64))) (15:Int))))] [0] [(eF_ [.ob (.fr k)])] 416 [] []) .normal (E4s) (E8 C5b):=sgA false 3000 [true,true,true] N8
theorem dgZ:let f:Int:=0;let h:Int:=16;let b:=wrap .i64 (Int.tdiv i h);let d:=wrap .i64 ((4:Int)*(Int.tmod i h));let a:=wrap .i64 (I1 BinOp.and IntKind.u64 (Int.fdiv (A0 (Ob.n (.fr k)) (0+((b).toNat*1))) ((2:Int) ^ (Min.min (d).toNat 64))) (15:Int));let j:=Array.mk ([]:List Value);let c:=Value.func (Fn.yield l) j j;let m:=decide (a > f);B1 [((decide (i >= f))=true),(h≠f),(0<=b),(b<(4:Int)),((0+((b).toNat*1))<(Ob.k (.fr k))),(h≠f),(0<=d),(g=false),(m=true)]->Sg Tryz.prog (dgS l k g i) (B0 32 [0,1,3,4,26,27,28] [(.ci (.val c)),.pt 0 0,(.ci (.bool m)),.ii i,(.ci (.lit true)),(.ci (.val c)),(.ii a)] [0] [(eF_ [.ob (.fr k)])] 416 [] []) .normal (E4s) (E8 C5b):=sgA false 3000 [true,false,true] N8
theorem dgN:let d:Int:=16;let b:=wrap .i64 (Int.tdiv i d);let c:=wrap .i64 ((4:Int)*(Int.tmod i d));let f:=Array.mk ([]:List Value);let h:Int:=0;let a:=decide ((wrap .i64 (I1 BinOp.and IntKind.u64 (Int.fdiv (A0 (Ob.n (.fr k)) (0+((b).toNat*1))) ((2:Int) ^ (Min.min (c).toNat 64))) (15:Int))) > h);B1 [((decide (i >= h))=true),(d≠h),(0<=b),(b<(4:Int)),((0+((b).toNat*1))<(Ob.k (.fr k))),(d≠h),(0<=c),(g=false),(a=false)]->Sg Tryz.prog (dgS l k g i) (B0 32 [0,1,3,4] [(.ci (.val (Value.func (Fn.yield l) f f))),.pt 0 0,(.ci (.bool a)),(.ii (wrap .i64 (i-1)))] [0] [(eF_ [.ob (.fr k)])] 512 [] []) .normal (M7 C5b) (E8 C5b):=sgA false 3000 [true,false,false] N8
theorem dgX:B1 [((decide (i >= (0:Int)))=false)]->Sg Tryz.prog (dgS l k g i) (B0 32 [] [] [0] [(eF_ [.ob (.fr k)])] 80 [] []) .normal ([]) (E8 C5b):=sgA false 3000 [false] N8
end
theorem dgB (l:Nat) (k:U4) (i d:Int):let a:=Array.mk ([]:List Value);B1 []->Sg Tryz.prog (⟨Q8 (D9 .top [0,1,3,4,26,27,28] [(.ci (.val (.func (.yield l) #[] #[]))),.pt 0 0,(.ci (.bool true)),.ii i,(.ci (.lit true)),(.ci (.val (.func (.yield l) #[] #[]))),.ii d]) 29 (.ci (.lit true)),one (.fl [.ob (.fr k)]),32,400,[]⟩) (B0 32 [0,1,3,4] [(.ci (.val (Value.func (Fn.yield l) a a))),.pt 0 0,(.ci (.bool true)),(.ii (wrap .i64 (i-1)))] [0] [(eF_ [.ob (.fr k)])] 480 [] []) .normal (M7 C5b) (A0e E4s):=sgA false 3000 [] N8
end
end

section

def E4l (d:Nat):List Value:=[.int .i64 (d:Int)]
def F3w (d:Nat):List SV:=[.v (.c (.int .i64 (d:Int)))]

theorem B6r {x:Ctx} {p:Nat} {k:U4} {M:List Nat->Nat->Option En} (hM:∀s,M s p=some (.fl [.ob (.fr k)])) :
  B1i Tryz.prog x 121 [(p,0)] E4l (dgT k.val 64) M:=by
 intro l J W hgrow hread hyield hJ;have key:Wq Tryz.prog (bodyPost Tryz.prog Tryz.f121 fun e' W' => (∃v,e' = Ending.returned v)∧J (dgT k.val 64) W') [.code (B9 Tryz.f121)] [] .normal { tmps:=[Value.func (.yield l) #[] #[],.pointer (some ⟨x.β p,0,none⟩)].toArray++Array.replicate 30 undef,defers:=[] } W:=?_
 ·exact calls_of_wp (c:=B9 Tryz.f121) Tryz.func121 rfl ((wpIn_wide (n:=0)).1 key.wp)
 obtain ⟨y,rfl,hm,hcp⟩:=hread [] W hJ;obtain ⟨hr,hβ⟩:=hcp (p,0) List.mem_cons_self;have hr:y.k p = .real:=hr;have hβ:y.β p=x.β p:=hβ;have hargs:I7 (E1 y p) [.v (.c (.val (.func (.yield l) #[] #[]))),.v (.c (.ptr 0 0))] [.func (.yield l) #[] #[],.pointer (some ⟨x.β p,0,none⟩)]:=
  .cons ⟨rfl,0,rfl,rfl⟩ (.cons ⟨rfl,0,rfl,by show _=[Value.pointer (some ⟨y.β p,0,none⟩)];rw[hβ]⟩ .nil)
 have hpure:∀y:Ctx,∀(cs:Array Value) ty,y.w.heap[y.β p]? = some (.cells cs ty (0,0))->C7 y (.fl [.ob (.fr k)]) cs.toList->C7 (E1 y p) (.fl [.ob (.fr k)]) cs.toList:=fun y cs ty _ h=>B8k rfl h
 have hs:=B4t (nx:=16) (nt:=32) (a:={ tmps:=[Value.func (.yield l) #[] #[],.pointer (some ⟨x.β p,0,none⟩)].toArray++Array.replicate 30 undef,defers:=[] }) hm (hM []) hr (hpure y) rfl (by simp) (A3g hargs 30)
 change Wq Tryz.prog _ _ _ _ _ (E1 y p).w
 refine dg l k trivial hs fun ac cY aY hs1=>?_
 have hmb:Mem (E1 y p) (one (.fl [.ob (.fr k)])):=A9i hm (hM _) hr (hpure y);have hs2:=hs1.slots (svs' := [.v (.c (.val (.func (.yield l) #[] #[]))),.v (.c (.ptr 0 0)),.v (.c (.bool false)),.v (.c (.int .i64 63))]) ⟨fun _ h=>h,fun _ h=>h,fun _ h=>Q4 rfl h,fun _ h=>h,trivial⟩
 let I:{ t:Nat // t<=64 } -> List Act->Act->World->Prop:=fun t ac a w=>∃y z,z.w=w∧y.k p = .real∧y.β p=x.β p∧Mem y (M (dgT k.val t.1))∧J (dgT k.val t.1) y.w∧Mem (E1 y p) (one (.fl [.ob (.fr k)]))∧Sim y.w y.F (B4v (E1 y p)) ac (dgS l k (!(dgT k.val t.1).isEmpty) ((63:Int)-(t.1:Int))) z a
 refine A5z I (fun t=>64-t) (c:=lpC C5b) (k:=lpR C5b) (by kernel_rfl) (fun t ih ac b w hI=>?_) ⟨0,Nat.zero_le _⟩ ⟨y,cY,rfl,hr,hβ,hm,hJ,hmb,hs2.nx _⟩
 obtain ⟨t,ht⟩:=t;obtain ⟨y,z,rfl,hr,hβ,hm,hJ,hmb,hs⟩:=hI;simp only at hm hJ hs ih
 by_cases h:t<64
 ·obtain ⟨i,hi⟩:∃i:Nat,i=63-t:=⟨_,rfl⟩
  have ei:(63:Int)-(t:Int)=(i:Int):=by omega
  have hi64:i<64:=by omega
  rw[ei] at hs;have hdig:=F3x k hi64;have hpl:=C6d hi64;have ho1:decide ((i:Int) >= 0)=true:=decide_eq_true (by omega)
  have ho2:(0:Int)<=wrap IntKind.i64 (Int.tdiv (i:Int) 16):=by rw[hpl];omega
  have ho3:wrap IntKind.i64 (Int.tdiv (i:Int) 16)<4:=by rw[hpl];omega
  have ho4:0+(wrap IntKind.i64 (Int.tdiv (i:Int) 16)).toNat*1<Ob.k (Ob.fr k):=by rw[hpl];show _<4;omega
  have ho5:=C6e i;have e4:wrap IntKind.i64 ((i:Int)-1)=(63:Int)-((t+1:Nat):Int):=by rw[C0 (by omega) (by omega)];omega
  obtain ⟨d,hd⟩:∃d,k.val / 16 ^ i % 16=d:=⟨_,rfl⟩
  rw[hd] at hdig;have hd' : k.val / 16 ^ (63-t) % 16=d:=by rw[<-hi];exact hd
  -- what is handed on
  have give:∀(ac:List Act) (cU:Ctx) (aU:Act),dgT k.val (t+1)=dgT k.val t++[d]->Sim y.w y.F (B4v (E1 y p)) ac (B0 32 [0,1,3,4,26,27,28] [.v (.c (.val (.func (.yield l) #[] #[]))),.v (.c (.ptr 0 0)),.v (.c (.bool true)),.v (.c (.int .i64 (i:Int))),.v (.c (.lit true)),.v (.c (.val (.func (.yield l) #[] #[]))),.v (.c (.int .i64 (d:Int)))] [0] [some (.fl [.ob (.fr k)])] 416 [] []) cU aU ->
    Wq Tryz.prog (bodyPost Tryz.prog Tryz.f121 fun e' W' => (∃v,e' = Ending.returned v)∧J (dgT k.val 64) W') E4s ac .normal aU cU.w:=by
   intro ac cU aU e3 hs6;obtain ⟨hg,hk2,hβ2⟩:=A1g hmb rfl hs6 rfl;have hJ2:=hgrow _ _ _ hJ hg;obtain ⟨r,hr1⟩:=E4n k.val (m:=64) (t:=t+1) h;refine C4x (R:=fun W' => J (dgT k.val (t+1)) W') (dst:=some 29) (f:=.tmp 27) (args:=[.tmp 28]) (by kernel_rfl) hs6 (l:=l) rfl (vs:=E4l d) ?_ ?_ fun W' hJ3=>?_
   ·have h21:=U9 (hs6.t 28)
    show [aU.tmps.getD 28 undef]=_;rw[h21];rfl
   ·have:=hyield (dgT k.val t) d _ hJ2 ⟨r,by rw[hr1,e3,List.append_assoc];rfl⟩
    rw[<-e3] at this;exact this
   ·obtain ⟨y3,rfl,hm3,hc3⟩:=hread _ _ hJ3
    obtain ⟨hr3,hβ3⟩:=hc3 (p,0) List.mem_cons_self;have hr3:y3.k p = .real:=hr3;have hβ3:y3.β p=x.β p:=hβ3;have hmb3:Mem (E1 y3 p) (one (.fl [.ob (.fr k)])):=A9i hm3 (hM _) hr3 (hpure y3);have hs7:=D5x (nx' := 400) (dst:=29) (b:=true) hs6 (by kernel_rfl) rfl hm3 (hM _) hr3 (hpure y3) (by rw[hβ2,hβ];exact hβ3.symm) (by decide)
    change Wq Tryz.prog _ _ _ _ _ (E1 y3 p).w
    refine dgB l k _ _ trivial hs7 fun ac cT aT hs8=>?_
    rw[e4] at hs8;have hne:(!(dgT k.val (t+1)).isEmpty)=true:=by rw[e3];simp
    refine ih ⟨t+1,by omega⟩ (by show 64-(t+1)<64-t;omega) ac aT _ ⟨y3,cT,rfl,hr3,hβ3,hm3,hJ3,hmb3,?_⟩
    show Sim _ _ _ _ (dgS l k (!(dgT k.val (t+1)).isEmpty) _) _ _;rw[hne];exact hs8.nx _
  by_cases hg:(dgT k.val t).isEmpty=true
  ·rw[hg] at hs
   by_cases hz:d=0
   ·have e3:dgT k.val (t+1)=[]:=B1o hg (by rw[hd',hz])
    refine dgN l k _ _ ⟨ho1,by decide,ho2,ho3,ho4,by decide,ho5,rfl,by rw[hdig,hz];rfl,trivial⟩ hs fun ac cT aT hs8=>?_
    rw[e4,hdig,hz] at hs8;have e5:dgT k.val (t+1)=dgT k.val t:=by rw[e3,List.isEmpty_iff.1 hg]
    refine ih ⟨t+1,by omega⟩ (by show 64-(t+1)<64-t;omega) ac aT _ ⟨y,cT,rfl,hr,hβ,?_,?_,hmb,?_⟩
    ·show Mem y (M (dgT k.val (t+1)))
     rw[e5];exact hm
    ·show J (dgT k.val (t+1)) y.w
     rw[e5];exact hJ
    ·show Sim _ _ _ _ (dgS l k (!(dgT k.val (t+1)).isEmpty) _) _ _
     rw[e3];exact hs8.nx _
   ·have e3:dgT k.val (t+1)=dgT k.val t++[d]:=by
     rw[<-hd'];exact B9y fun hc=>hz (by rw[<-hd'];exact hc.2)
    have hp0:decide ((d:Int) > 0)=true:=decide_eq_true (by omega)
    refine dgZ l k _ _ ⟨ho1,by decide,ho2,ho3,ho4,by decide,ho5,rfl,by rw[hdig];exact hp0,trivial⟩ hs fun ac cU aU hs6=>?_
    rw[hdig,hp0] at hs6;exact give ac cU aU e3 (hs6.nx _)
  ·have hg:(dgT k.val t).isEmpty=false:=Bool.eq_false_iff.2 hg
   rw[hg] at hs;have e3:dgT k.val (t+1)=dgT k.val t++[d]:=by
    rw[<-hd'];exact B9y fun hc=>by rw[hg] at hc;exact absurd hc.1 (by decide)
   refine dgY l k _ _ ⟨ho1,by decide,ho2,ho3,ho4,by decide,ho5,rfl,trivial⟩ hs fun ac cU aU hs6=>?_
   rw[hdig] at hs6;have hs6' := hs6.slots (svs' := [.v (.c (.val (.func (.yield l) #[] #[]))),.v (.c (.ptr 0 0)),.v (.c (.bool true)),.v (.c (.int .i64 (i:Int))),.v (.c (.lit true)),.v (.c (.val (.func (.yield l) #[] #[]))),.v (.c (.int .i64 (d:Int)))])
    ⟨fun _ h=>h,fun _ h=>h,fun _ h=>Q4 rfl h,fun _ h=>h,fun _ h=>h,fun _ h=>h,fun _ h=>h,trivial⟩
   exact give ac cU aU e3 (hs6'.nx _)
 ·have e5:t=64:=by omega
  subst e5;refine dgX l k _ _ ⟨by decide,trivial⟩ hs fun ac cV aV hs4=>?_
  obtain ⟨hg,_,_⟩:=A1g hmb rfl hs4 rfl;exact ⟨D0j N8 hs4 rfl rfl rfl (fun v=>⟨⟨v,rfl⟩,hgrow _ _ _ hJ hg⟩) (.inr rfl)⟩

end

section
section
variable {w0:World} {F0:Nat->Prop} {K:Kp} {ac:List Act} {Q:Exit->Act->World->Prop} {cX:Ctx} {aX:Act}

def E1m:List KI:=(run qvF false 3000 (⟨[.code (B9 Tryz.f41)],.normal,D7 Tryz.f41.ntmps [.v (.a [.ob (.p dF),.ob (.p dF),.ob (.p dF)]),.v (.a [.ob (.fr dF)])]⟩:Cfg) []).cfg.k
theorem my (x y z:Fp) (k:U4):let b:Fp:=0;B1 [(0<=(0:Int)),(0<(16:Int))]->Sg Tryz.prog (D7 Tryz.f41.ntmps [.v (.a [.ob (.p x),.ob (.p y),.ob (.p z)]),.v (.a [.ob (.fr k)])]) (B0 43 [2,3,4,5,6] [.pt 16 0,.pt 32 0,.pt 48 0,.pt 64 0,.ii (1:Int)] [16,32,48,64] [(eF_ [.ob (.p x),.ob (.p y),.ob (.p z)]),(eF_ [.ob (.fr k)]),(eF_ [(.ob (.p b)),(.ob (.p b)),(.ob (.p b))]),(eF_ [.ob (.p x),.ob (.p y),(.ob (.p b)),(.ob (.p b)),(.ob (.p b)),(.ob (.p b)),(.ob (.p b)),(.ob (.p b)),(.ob (.p b)),(.ob (.p b)),(.ob (.p b)),(.ob (.p b)),(.ob (.p b)),(.ob (.p b)),(.ob (.p b)),(.ob (.p b)),(.ob (.p b)),(.ob (.p b)),(.ob (.p b)),(.ob (.p b)),(.ob (.p b)),(.ob (.p b)),(.ob (.p b)),(.ob (.p b)),(.ob (.p b)),(.ob (.p b)),(.ob (.p b)),(.ob (.p b)),(.ob (.p b)),(.ob (.p b)),(.ob (.p b)),(.ob (.p b)),(.ob (.p b)),(.ob (.p b)),(.ob (.p b)),(.ob (.p b)),(.ob (.p b)),(.ob (.p b)),(.ob (.p b)),(.ob (.p b)),(.ob (.p b)),(.ob (.p b)),(.ob (.p b)),(.ob (.p b)),(.ob (.p b)),(.ob (.p b)),(.ob (.p b)),(.ob (.p b))])] 208 [] []) .normal (E1m) ([.code (B9 Tryz.f41)]):=sgA false 3000 [] A3a
def myS (x y z:Fp) (k:U4) (L:List (Fp×Fp×Fp)) (i:Int):St:=B0 43 [2,3,4,5,6] [.pt 16 0,.pt 32 0,.pt 48 0,.pt 64 0,.v (.c (.int .i64 i))] [16,32,48,64] [(eF_ [.ob (.p x),.ob (.p y),.ob (.p z)]),(eF_ [.ob (.fr k)]),(eF_ [(.ob (.p (0:Fp))),(.ob (.p (0:Fp))),(.ob (.p (0:Fp)))]),some (.sq (.pt L))] 208 [] []
theorem myA (x y z:Fp) (k:U4) (L:List (Fp×Fp×Fp)) (i:Int):let a:=wrap .i64 (i-1);let b:Int:=16;B1 [((decide (i<b))=true),(0<=a),(a<b),(0=0),((a).toNat<L.length),(0<=i),(i<b),(0=0),((i).toNat<L.length)]->Sg Tryz.prog (myS x y z k L i) (B0 43 [2,3,4,5,6] [.pt 16 0,.pt 32 0,.pt 48 0,.pt 64 0,(.ii (wrap .i64 (i+1)))] [16,32,48,64] [(eF_ [.ob (.p x),.ob (.p y),.ob (.p z)]),(eF_ [.ob (.fr k)]),(eF_ [(.ob (.p (0:Fp))),(.ob (.p (0:Fp))),(.ob (.p (0:Fp)))]),(eQ_ (Sq.pt (List.set L (i).toNat (jpl (List.getD L (a).toNat pt0) (x,(y,z))))))] 432 [] []) .normal (M7 E1m) (E8 E1m):=sgA false 3000 [true] A3a
def B2y:List KI:=(run qvF false 3000 ((fun (x y z:Fp) (k:U4) (L:List (Fp×Fp×Fp)) (i:Int)=>(⟨E8 E1m,.normal,myS x y z k L i⟩:Cfg)) default default default default default default) [false]).cfg.k
theorem myB (x y z:Fp) (k:U4) (L:List (Fp×Fp×Fp)) (i:Int):let a:=List.getD L 0 pt0;B1 [((decide (i<(16:Int)))=false),(0<=(0:Int)),(0<(16:Int)),(0=0),(0<L.length)]->Sg Tryz.prog (myS x y z k L i) (B0 43 [4,5,7,30] [.pt 48 0,.pt 64 0,.pt 272 0,(.ci (.clo 121 [(320,0)]))] [48,64,272,320] [(eF_ [(.ob (.p (0:Fp))),(.ob (.p (0:Fp))),(.ob (.p (0:Fp)))]),(eQ_ (Sq.pt L)),(eF_ [(.ob (.p (Prod.fst a))),(.ob (.p (Prod.fst (Prod.snd a)))),(.ob (.p (Prod.snd (Prod.snd a))))]),(eF_ [.ob (.fr k)])] 384 [] []) .normal (B2y) (E8 E1m):=sgA false 3000 [false] A3a
def myR (k:U4) (L:List (Fp×Fp×Fp)) (o:Fp×Fp×Fp):St:=B0 43 [4,5,7,30] [.pt 48 0,.pt 64 0,.pt 272 0,(.ci (.clo 121 [(320,0)]))] [48,64,272,320] [(eF_ [(.ob (.p (0:Fp))),(.ob (.p (0:Fp))),(.ob (.p (0:Fp)))]),(eQ_ (Sq.pt L)),some (.fl [.ob (.p o.1),.ob (.p o.2.1),.ob (.p o.2.2)]),(eF_ [.ob (.fr k)])] 384 [] []
theorem mrA (k:U4) (L:List (Fp×Fp×Fp)) (o:Fp×Fp×Fp) (d:Int) {ρ:Option Nat} (ho:B1 []) (hs:Sim w0 F0 K ac (X5 (myR k L o) [(31,.v (.c (.int .i64 d)))]) cX aX) (hK:∀cY aY,Sim w0 F0 K ac (B0 43 [4,5,7,8] [.pt 48 0,.pt 64 0,.pt 272 0,.ii d] [48,64,272,320] [(eF_ [(.ob (.p (0:Fp))),(.ob (.p (0:Fp))),(.ob (.p (0:Fp)))]),(eQ_ (Sq.pt L)),(eF_ [(.ob (.p (Prod.fst o))),(.ob (.p (Prod.fst (Prod.snd o)))),(.ob (.p (Prod.snd (Prod.snd o))))]),(eF_ [.ob (.fr k)])] 400 [[4,5,7,30]] [([.pt 48 0,.pt 64 0,.pt 272 0,(.ci (.clo 121 [(320,0)]))],43)]) cY aY->Wq Tryz.prog Q ([]) ac Exit.normal aY cY.w ρ):Wq Tryz.prog Q ([.code (rfA B2y)]) ac .normal aX cX.w ρ :=
 G8 (unroll:=false) (n:=3000) (path:=[]) (o:=⟨_,_,_,_,_,_,_⟩) A3a (by kernel_rfl) (by kernel_rfl) ho (by kernel_rfl) (by kernel_rfl) hs hK
def mrB (k:U4) (L:List (Fp×Fp×Fp)) (o:Fp×Fp×Fp) (d:Int):St:=B0 43 [4,5,7,8] [.pt 48 0,.pt 64 0,.pt 272 0,.ii d] [48,64,272,320] [(eF_ [(.ob (.p (0:Fp))),(.ob (.p (0:Fp))),(.ob (.p (0:Fp)))]),(eQ_ (Sq.pt L)),some (.fl [.ob (.p o.1),.ob (.p o.2.1),.ob (.p o.2.2)]),(eF_ [.ob (.fr k)])] 400 [[4,5,7,30]] [([.pt 48 0,.pt 64 0,.pt 272 0,(.ci (.clo 121 [(320,0)]))],43)]
def C7d:List KI:=(run qvF false 3000 ((fun (k:U4) (L:List (Fp×Fp×Fp)) (o:Fp×Fp×Fp) (d:Int)=>(⟨[.code (rfB B2y)],.normal,mrB k L o d⟩:Cfg)) default default default default) []).cfg.k
theorem mrC (k:U4) (L:List (Fp×Fp×Fp)) (o:Fp×Fp×Fp) (d:Int) {ρ:Option Nat} (ho:B1 []) (hs:Sim w0 F0 K ac (mrB k L o d) cX aX) (hK:∀cY aY,Sim w0 F0 K ac (B0 43 [4,5,7,8,32] [.pt 48 0,.pt 64 0,.pt 272 0,.ii d,.ii (0:Int)] [48,64,272,320] [(eF_ [(.ob (.p (0:Fp))),(.ob (.p (0:Fp))),(.ob (.p (0:Fp)))]),(eQ_ (Sq.pt L)),(eF_ [(.ob (.p (Prod.fst o))),(.ob (.p (Prod.fst (Prod.snd o)))),(.ob (.p (Prod.snd (Prod.snd o))))]),(eF_ [.ob (.fr k)])] 416 [[4,5,7,30]] [([.pt 48 0,.pt 64 0,.pt 272 0,(.ci (.clo 121 [(320,0)]))],43)]) cY aY->Wq Tryz.prog Q (C7d) ac Exit.normal aY cY.w ρ):Wq Tryz.prog Q ([.code (rfB B2y)]) ac .normal aX cX.w ρ :=
 G8 (unroll:=false) (n:=3000) (path:=[]) (o:=⟨_,_,_,_,_,_,_⟩) A3a (by kernel_rfl) (by kernel_rfl) ho (by kernel_rfl) (by kernel_rfl) hs hK
def mrS (k:U4) (L:List (Fp×Fp×Fp)) (o:Fp×Fp×Fp) (d j:Int):St:=B0 43 [4,5,7,8,32] [.pt 48 0,.pt 64 0,.pt 272 0,.ii d,.v (.c (.int .i64 j))] [48,64,272,320] [(eF_ [(.ob (.p (0:Fp))),(.ob (.p (0:Fp))),(.ob (.p (0:Fp)))]),(eQ_ (Sq.pt L)),some (.fl [.ob (.p o.1),.ob (.p o.2.1),.ob (.p o.2.2)]),(eF_ [.ob (.fr k)])] 416 [[4,5,7,30]] [([.pt 48 0,.pt 64 0,.pt 272 0,(.ci (.clo 121 [(320,0)]))],43)]
theorem mrD (k:U4) (L:List (Fp×Fp×Fp)) (o:Fp×Fp×Fp) (d j:Int) {ρ:Option Nat}:let a:=Prod.snd (jtw o);(B1 [((decide (j<(4:Int)))=true)])->(Sim w0 F0 K ac (mrS k L o d j) cX aX)->(∀cY aY,Sim w0 F0 K ac (B0 43 [4,5,7,8,32] [.pt 48 0,.pt 64 0,.pt 272 0,.ii d,(.ii (wrap .i64 (j+1)))] [48,64,272,320] [(eF_ [(.ob (.p (0:Fp))),(.ob (.p (0:Fp))),(.ob (.p (0:Fp)))]),(eQ_ (Sq.pt L)),(eF_ [(.ob (.p (Prod.fst (jtw o)))),(.ob (.p (Prod.fst a))),(.ob (.p (Prod.snd a)))]),(eF_ [.ob (.fr k)])] 512 [[4,5,7,30]] [([.pt 48 0,.pt 64 0,.pt 272 0,(.ci (.clo 121 [(320,0)]))],43)]) cY aY->Wq Tryz.prog Q (M7 C7d) ac Exit.normal aY cY.w ρ)->Wq Tryz.prog Q (E8 C7d) ac .normal aX cX.w ρ :=fun ho hs hK=>
 G8 (unroll:=false) (n:=3000) (path:=[true]) (o:=⟨_,_,_,_,_,_,_⟩) A3a (by kernel_rfl) (by kernel_rfl) ho (by kernel_rfl) (by kernel_rfl) hs hK
theorem mrE (k:U4) (L:List (Fp×Fp×Fp)) (o:Fp×Fp×Fp) (d j:Int) {ρ:Option Nat}:let a:=jpl o (List.getD L (d).toNat pt0);(B1 [((decide (j<(4:Int)))=false),(0<=d),(d<(16:Int)),(0=0),((d).toNat<L.length)])->(Sim w0 F0 K ac (mrS k L o d j) cX aX)->(∀cY aY,Sim w0 F0 K ac (B0 43 [4] [.pt 48 0] [48,64,272,320] [(eF_ [(.ob (.p (0:Fp))),(.ob (.p (0:Fp))),(.ob (.p (0:Fp)))]),(eQ_ (Sq.pt L)),(eF_ [(.ob (.p (Prod.fst a))),(.ob (.p (Prod.fst (Prod.snd a)))),(.ob (.p (Prod.snd (Prod.snd a))))]),(eF_ [.ob (.fr k)])] 528 [[4,5,7,30]] [([.pt 48 0,.pt 64 0,.pt 272 0,(.ci (.clo 121 [(320,0)]))],43)]) cY aY->Wq Tryz.prog Q ([]) ac Exit.normal aY cY.w ρ)->Wq Tryz.prog Q (E8 C7d) ac .normal aX cX.w ρ :=fun ho hs hK=>
 G8 (unroll:=false) (n:=3000) (path:=[false]) (o:=⟨_,_,_,_,_,_,_⟩) A3a (by kernel_rfl) (by kernel_rfl) ho (by kernel_rfl) (by kernel_rfl) hs hK
def mrF (k:U4) (L:List (Fp×Fp×Fp)) (o:Fp×Fp×Fp):St:=B0 43 [4] [.pt 48 0] [48,64,272,320] [(eF_ [(.ob (.p (0:Fp))),(.ob (.p (0:Fp))),(.ob (.p (0:Fp)))]),(eQ_ (Sq.pt L)),some (.fl [.ob (.p o.1),.ob (.p o.2.1),.ob (.p o.2.2)]),(eF_ [.ob (.fr k)])] 528 [[4,5,7,30]] [([.pt 48 0,.pt 64 0,.pt 272 0,(.ci (.clo 121 [(320,0)]))],43)]
theorem mrX (k:U4) (L:List (Fp×Fp×Fp)) (o:Fp×Fp×Fp):B1 []->Sg Tryz.prog (myR k L o) (B0 43 [4] [.pt 48 0] [48] [(eF_ [(.ob (.p (Prod.fst o))),(.ob (.p (Prod.fst (Prod.snd o)))),(.ob (.p (Prod.snd (Prod.snd o))))])] 416 [] []) .ret ([]) (rfR B2y):=sgA false 3000 [] A3a
def mrZ (o:Fp×Fp×Fp):St:=B0 43 [4] [.pt 48 0] [48] [some (.fl [.ob (.p o.1),.ob (.p o.2.1),.ob (.p o.2.2)])] 416 [] []
theorem G9d (o:Fp×Fp×Fp):G5 qvF Tryz.f41 false 3000 (⟨[],.ret,mrZ o⟩) [] [] []=(some ([],((.v (.a [(.ob (.p (Prod.fst o))),(.ob (.p (Prod.fst (Prod.snd o)))),(.ob (.p (Prod.snd (Prod.snd o))))])),[]))):=by kernel_rfl
end
end

section

theorem A5l {x:Ctx} (L:List (Fp×Fp×Fp)):∀(n i:Nat) (cs:List Value),C4 x.D (I3 L i n) cs->cs.length=n*18∧∀j,j<n->∃c,C4 x.D (J6 (L.getD (i+j) pt0)) c∧∀(q:Nat) (v:Value),c[q]? = some v->cs[j*18+q]? = some v
 | 0,i,cs,h=>by
  have h:cs=[]:=h;subst h;exact ⟨rfl,fun j hj=>absurd hj (Nat.not_lt_zero _)⟩
 | n+1,i,cs,h=>by
  obtain ⟨c1,r1,e1,h1,c2,r2,e2,h2,c3,r3,e3,h3,h4⟩:=h;obtain ⟨hl,hj⟩:=A5l L n (i+1) r3 h4;have l1:c1.length=6:=A0h h1;have l2:c2.length=6:=A0h h2;have l3:c3.length=6:=A0h h3;subst e1 e2 e3;refine ⟨by simp only[List.length_append];omega,fun j hjn=>?_⟩
  cases j with
  | zero=>
   refine ⟨c1++(c2++(c3++[])),⟨c1,_,rfl,h1,c2,_,rfl,h2,c3,_,rfl,h3,rfl⟩,fun q v hq=>?_⟩
   rw[List.append_nil] at hq;have hlt:q<(c1++(c2++c3)).length:=by
    rcases Nat.lt_or_ge q (c1++(c2++c3)).length with h | h
    ·exact h
    ·rw[List.getElem?_eq_none h] at hq;cases hq
   rw[Nat.zero_mul,Nat.zero_add,<-hq];have e:c1++(c2++(c3++r3))=(c1++(c2++c3))++r3:=by simp
   rw[e,List.getElem?_append_left hlt]
  | succ j=>
   obtain ⟨c,hc,hv⟩:=hj j (by omega)
   rw[show i+1+j=i+(j+1) from by omega] at hc
   refine ⟨c,hc,fun q v hq=>?_⟩
   have e:c1++(c2++(c3++r3))=(c1++(c2++c3))++r3:=by simp
   have hl18:(c1++(c2++c3)).length=18:=by simp only[List.length_append];omega
   rw[e,List.getElem?_append_right (by rw[hl18];omega),hl18,show (j+1)*18+q-18=j*18+q from by omega]
   exact hv q v hq

theorem G3a {x:Ctx} (L:List (Fp×Fp×Fp)) (h:L.length=16) (cs:List Value) (hc:C7 x (.fl (I3 L 0 16)) cs):C7 x (.sq (.pt L)) cs:=by
 obtain ⟨hl,hj⟩:=A5l L 16 0 cs hc;refine ⟨?_,fun i hi=>?_⟩
 ·show L.length*18<=cs.length
  rw[h,hl];exact Nat.le_refl _
 ·have hi:i<L.length:=hi
  rw[h] at hi;obtain ⟨c,h1,h2⟩:=hj i hi;rw[Nat.zero_add] at h1;exact ⟨c,h1,h2⟩

def I7j (x y:Fp):List (Fp×Fp×Fp):=(x,y,0)::List.replicate 15 pt0

theorem F7y (x y z:Fp) (k:U4):FnD Tryz.prog 41 [.v (.a [.ob (.p x),.ob (.p y),.ob (.p z)]),.v (.a [.ob (.fr k)])] (.v (.a (J6 (jmn (x,y,z) (dgT k.val 64))))) []:=by
 refine U2 (fn:=Tryz.f41) (c:=B9 Tryz.f41) Tryz.func41 rfl rfl fun x0 a0 hk hF hs=>?_
 refine my x y z k ⟨by decide,by decide,trivial⟩ hs fun ac cY aY hs1=>?_
 have hs2:=hs1.blocks (ens' := [some (.fl [.ob (.p x),.ob (.p y),.ob (.p z)]),some (.fl [.ob (.fr k)]),some (.fl [.ob (.p 0),.ob (.p 0),.ob (.p 0)]),some (.sq (.pt (I7j x y)))])
  ⟨.inl rfl,.inl rfl,.inl rfl,.inr ⟨_,_,_,rfl,rfl,rfl,fun cs h=>G3a _ rfl cs h⟩,trivial⟩
 refine E6 (ι:={ p:Nat×List (Fp×Fp×Fp) // 1<=p.1∧p.1<=16∧p.2.length=16∧∀j,j<p.1->p.2.getD j pt0=V8 (x,y,z) j }) (fun p=>myS x y z k p.1.2 (p.1.1:Int)) (fun p=>16-p.1.1) (c:=lpC E1m) (k:=lpR E1m) (by kernel_rfl) (fun p ih ac cY aY hs=>?_)
  ⟨(1,I7j x y),Nat.le_refl 1,by show (1:Nat)<=16;omega,rfl,fun j hj=>by
   have:j=0:=by have hj:j<1:=hj;omega
   subst this;rfl⟩ (hs2.nx _)
 obtain ⟨⟨i,L⟩,h1,h16,hL,htab⟩:=p;simp only at ih hs h1 h16 hL htab
 by_cases hi:i<16
 ·have e1:wrap IntKind.i64 ((i:Int)-1)=((i-1:Nat):Int):=by rw[C0 (by omega) (by omega)];omega
  have e2:wrap IntKind.i64 ((i:Int)+1)=((i+1:Nat):Int):=by rw[C0 (by omega) (by omega)];omega
  refine myA x y z k L i ⟨decide_eq_true (by omega),by rw[e1];omega,by rw[e1];omega,rfl,by rw[e1,Int.toNat_natCast,hL];omega,by omega,by omega,rfl,by rw[Int.toNat_natCast,hL];exact hi,trivial⟩ hs fun ac cZ aZ hs3=>?_
  rw[e1,e2,Int.toNat_natCast,Int.toNat_natCast,htab (i-1) (by omega)] at hs3
  have e3:jpl (V8 (x,y,z) (i-1)) (x,y,z)=V8 (x,y,z) i:=by
   obtain ⟨m,rfl⟩:∃m,i=m+1:=⟨i-1,by omega⟩
   rfl
  rw[e3] at hs3;refine ih ⟨(i+1,L.set i (V8 (x,y,z) i)),by show 1<=i+1;omega,hi,by show (L.set i _).length=16;rw[List.length_set];exact hL,fun j hj=>?_⟩ (by show 16-(i+1)<16-i;omega) ac cZ aZ (hs3.nx _)
  have hj:j<i+1:=hj;show (L.set i (V8 (x,y,z) i)).getD j pt0=_;by_cases e:j=i
  ·subst e
   simp [List.getD,hL,hi]
  ·have:(L.set i (V8 (x,y,z) i)).getD j pt0=L.getD j pt0:=by
    simp [List.getD,List.getElem?_set_ne (Ne.symm e)]
   rw[this];exact htab j (by omega)
 ·have:i=16:=by omega
  subst this;refine myB x y z k L _ ⟨by decide,by decide,by decide,rfl,by rw[hL];decide,trivial⟩ hs fun ac cZ aZ hs3=>?_
  rw[htab 0 (by decide)] at hs3
  obtain ⟨e1,e2⟩:=A2i (k:=B2y) (by kernel_rfl)
  rw[e1];have eP:(rfP B2y).toList=[31]:=by kernel_rfl
  have eG:rfG B2y = .tmp 30:=by kernel_rfl
  refine Z6 (ps:=rfP B2y) e2 hs3 (gf:=121) (caps:=[(320,0)]) (A4 Tryz.func121 rfl rfl) (fun pre=>myR k L (pre.foldl (jst (x,y,z)) (V8 (x,y,z) 0))) (fun s=>by rw[eG];rfl) ⟨_,rfl⟩ (dgT k.val 64) F3w E4l
   (fun y z=>.cons ⟨rfl,0,rfl⟩ .nil) (fun z=>by rw[<-Array.length_toList,eP];rfl) (fun pre p hp=>?_) (B6r fun s=>rfl) (fun pre d=>mrB k L (pre.foldl (jst (x,y,z)) (V8 (x,y,z) 0)) d)
   (fun pre d=>mrF k L ((pre++[d]).foldl (jst (x,y,z)) (V8 (x,y,z) 0))) (fun pre d=>⟨_,rfl⟩) (fun pre d hd w1 F1 K1 as1 Q1 l y1 b hs4 hQ=>?_) (fun pre d hd w1 F1 K1 as1 Q1 l y1 b hs4 hQ=>?_) fun D y1 hs4 hD hFD hd=>?_
  ·rw[eP] at hp
   have h43:(myR k L (pre.foldl (jst (x,y,z)) (V8 (x,y,z) 0))).nt=43:=rfl;rw[h43];simp only[List.mem_cons,List.not_mem_nil,or_false] at hp;subst hp;decide
  ·rw[eP] at hs4
   exact mrA k L _ d trivial hs4 fun cZ aZ hs5=>⟨hQ _ _ (hs5.nx _)⟩
  ·have hd16:d<16:=by
    obtain ⟨r,hr⟩:=hd;exact E0b (n:=k.val) 64 d (by rw[hr];simp)
   rw[List.foldl_append] at hQ;generalize pre.foldl (jst (x,y,z)) (V8 (x,y,z) 0)=o at hs4 hQ;have hst:List.foldl (jst (x,y,z)) o [d]=jpl (A3r 4 o) (L.getD d pt0):=by
    rw[htab d hd16];rfl
   rw[hst] at hQ;refine mrC k L o d trivial hs4 fun cV aV hs5=>?_
   let I:{ j:Nat // j<=4 } -> List Act->Act->World->Prop:=fun j ac a w=>ac=as1∧∃z,z.w=w∧Sim w1 F1 K1 as1 (mrS k L (A3r j.1 o) d (j.1:Int)) z a
   refine A5z (ρ:=some l) I (fun j=>4-j.1) (c:=lpC C7d) (k:=lpR C7d) (by kernel_rfl) (fun j ih ac aV w hI=>?_) ⟨0,Nat.zero_le _⟩ ⟨rfl,cV,rfl,hs5.nx _⟩
   obtain ⟨j,hj⟩:=j;obtain ⟨rfl,cV,rfl,hs6⟩:=hI;simp only at ih hs6
   by_cases hj4:j<4
   ·refine mrD k L _ d j ⟨decide_eq_true (by omega),trivial⟩ hs6 fun cU aU hs7=>?_
    rw[C0 (n:=(j:Int)+1) (by omega) (by omega)] at hs7
    exact ih ⟨j+1,hj4⟩ (by show 4-(j+1)<4-j;omega) _ aU _ ⟨rfl,cU,rfl,hs7.nx _⟩
   ·have:j=4:=by omega
    subst this;refine mrE k L _ d _ ⟨by decide,by omega,by omega,rfl,by rw[Int.toNat_natCast,hL];exact hd16,trivial⟩ hs6 fun cU aU hs7=>?_
    rw[Int.toNat_natCast] at hs7;exact ⟨hQ _ _ (hs7.nx _)⟩
  ·have hs5:=hs4.marked rfl rfl D
   show Wq _ _ _ _ _ _ _ _;have ej:(dgT k.val 64).foldl (jst (x,y,z)) (V8 (x,y,z) 0)=jmn (x,y,z) (dgT k.val 64):=rfl;rw[ej] at hs4 hs5;generalize jmn (x,y,z) (dgT k.val 64)=o at hs4 hs5 ⊢
   refine mrX k L o trivial hs5 fun ac cV aV hs6=>⟨?_⟩
   have hs7:Sim y1.w y1.F (U3 y1 V9 (I0 D)) ac (mrZ o) cV aV:=hs6;exact Y7 A3a hk hF (G9d o) trivial (fun y v hd=>hd) hs4 hD hFD hd rfl hs7

end

section

/-- A point outside as often as a number says. -/
def A0o (a:G1D) (k:U4):G1D:=A4o (jmn (inG a) (dgT k.val 64))
theorem D1i {a:G1D} (ha:onG a=true) (k:U4):A0o a k=gP (D6 (pG a) k.val):=by
 unfold A0o;generalize hl:dgT k.val 64=l;have h:=E0v cv1 (R7 ha).2 (A9g a) l;have e:dgV l=k.val:=by rw[<-hl];exact F3u k
 rw[e] at h;exact A7x h
theorem G0t {a:G1D} (ha:onG a=true) (k:U4):pG (A0o a k)=D6 (pG a) k.val:=by rw[D1i ha,C3b]
theorem D1u {a:G1D} (ha:onG a=true) (k:U4):onG (A0o a k)=true:=by
 rw[D1i ha];exact A9y (J0 cv1 (R7 ha).2 _)

end

section

instance:Inhabited G1D:=⟨g10⟩
def B5a:B2
 | [.v (.a [.ob (.p x),.ob (.p y),.ob (.p z)]),.v (.a [.ob (.fr k)])]=>some ([],.v (.a (J6 (jmn (x,y,z) (dgT k.val 64)))),[])
 | _=>none
def qwA:Env:=qvF.set (C6 qvF.fn 41 B5a)
theorem H9s:A9 Tryz.prog qwA:=A8 A3a 41 B5a (A4 Tryz.func41 rfl rfl) fun args o r es h _=>by
 unfold B5a at h;split at h
 ·cases h;exact F7y _ _ _ _
 ·cases h
/-- What Mul tells. -/
def muR (a:G1D) (k:U4):G1D×Int:=if onG a then (A0o a k,0) else (g10,30)
theorem H7r {a:G1D} (k:U4) (ha:onG a=true):muR a k=(A0o a k,0):=by unfold muR;rw[ha];rfl
theorem G9e {a:G1D} (k:U4) (ha:onG a=false):muR a k=(g10,30):=by unfold muR;rw[ha];rfl
def qwC:Env:=qwA
theorem E2h:A9 Tryz.prog qwC:=H9s
end

section

def uaA:Env:=qwC.or S4.gK
theorem E3m:A9 Tryz.prog uaA:=A5p E2h S4.D5k
theorem grA (a b:U6) (i:Bool):let c:=G1D.mk a b i;B5 uaA Tryz.f23 3000 [.v (.a [.ob (.fp a),.ob (.fp b),.bool i])] [true] [] []=(some ([((onG c)=true)],((.ci (.bool (decide ((Prod.snd (Prod.snd (jmn (inG c) (dgT 52435875175126190479447740508185965837690552500527637822603658699938581184513 64))))=(0:Fp))))),[]))):=by intros;kernel_rfl
theorem grB (a b:U6) (i:Bool):B5 uaA Tryz.f23 3000 [.v (.a [.ob (.fp a),.ob (.fp b),.bool i])] [false] [] []=(some ([((onG (G1D.mk a b i))=false)],((.ci (.lit false)),[]))):=by kernel_rfl
/-- Whether a point is of the group. -/
def grp (a:G1D):Bool:=onG a && decide ((jmn (inG a) (dgT 52435875175126190479447740508185965837690552500527637822603658699938581184513 64)).2.2=0)
theorem G7h (a b:U6) (i:Bool):FnD Tryz.prog 23 [.v (.a [.ob (.fp a),.ob (.fp b),.bool i])] (.v (.c (.bool (grp ⟨a,b,i⟩)))) []:=by
 by_cases h1:onG ⟨a,b,i⟩=true
 ·have e:grp ⟨a,b,i⟩=decide ((jmn (inG ⟨a,b,i⟩) (dgT 52435875175126190479447740508185965837690552500527637822603658699938581184513 64)).2.2=0):=by unfold grp;rw[h1,Bool.true_and]
  rw[e];exact A5 E3m Tryz.func23 (grA a b i) ⟨h1,trivial⟩
 ·have h1:onG ⟨a,b,i⟩=false:=Bool.eq_false_iff.2 h1
  have e:grp ⟨a,b,i⟩=false:=by unfold grp;rw[h1,Bool.false_and]
  rw[e];exact (A5 E3m Tryz.func23 (grB a b i) ⟨h1,trivial⟩).conv (fun _ _ h=>h) fun y v hd=>Q4 rfl hd
def D0b:B2
 | [.v (.a [.ob (.fp a),.ob (.fp b),.bool i])]=>some ([],.v (.c (.bool (grp ⟨a,b,i⟩))),[])
 | _=>none
def uaB:Env:=uaA.set (C6 uaA.fn 23 D0b)
theorem G3t:A9 Tryz.prog uaB:=A8 E3m 23 D0b (A4 Tryz.func23 rfl rfl) fun args o r es h _=>by
 unfold D0b at h;split at h
 ·cases h;exact G7h _ _ _
 ·cases h
end

section

abbrev F2:=Q2 pN
def f2I (x:F2):List It:=[.ob (.p x.1),.ob (.p x.2)]
section
variable {r:Nat} [NeZero r]
theorem I5m (a b c d:Fin r):(a+b)*(c+d)-a*c-b*d=a*d+b*c:=by grind
end
theorem t2A (a b c d:Fp):B5 qeJ Tryz.f107 3000 [.v (.a [.ob (.p a),.ob (.p b)]),.v (.a [.ob (.p c),.ob (.p d)])] [] [] []=(some ([],((.v (.a [(.ob (.p ((a*c)-(b*d)))),(.ob (.p ((((a+b)*(c+d))-(a*c))-(b*d))))])),[]))):=by kernel_rfl
theorem p2A (a b c d:Fp):B5 qeJ Tryz.f108 3000 [.v (.a [.ob (.p a),.ob (.p b)]),.v (.a [.ob (.p c),.ob (.p d)])] [] [] []=(some ([],((.v (.a [(.ob (.p (a+c))),(.ob (.p (b+d)))])),[]))):=by kernel_rfl
theorem m2A (a b c d:Fp):B5 qeJ Tryz.f126 3000 [.v (.a [.ob (.p a),.ob (.p b)]),.v (.a [.ob (.p c),.ob (.p d)])] [] [] []=(some ([],((.v (.a [(.ob (.p (a-c))),(.ob (.p (b-d)))])),[]))):=by kernel_rfl
theorem n2A (a b:Fp):B5 qeJ Tryz.f133 3000 [.v (.a [.ob (.p a),.ob (.p b)])] [] [] []=(some ([],((.v (.a [(.ob (.p ((0:Fp)-a))),(.ob (.p ((0:Fp)-b)))])),[]))):=by kernel_rfl
theorem z2A (a b:Fp):let c:=Bool.and (decide (a=(0:Fp))) (decide (b=(0:Fp)));B5 qeJ Tryz.f61 3000 [.v (.a [.ob (.p a),.ob (.p b)])] [] [] []=(some ([],((.ci (.bool (ite (true=true) c (Bool.not c)))),[]))):=by intros;kernel_rfl
theorem I9q (a b:Fp):B5 qeJ Tryz.f141 3000 [.v (.a [.ob (.p a),.ob (.p b)])] [] [] []=(some ([],((.v (.a [(.ob (.p ((a*a)+(b*b))))])),[]))):=by kernel_rfl
theorem i2A (a b:U6):B5 qeJ Tryz.f84 3000 [.v (.a [.ob (.fp a),.ob (.fp b)])] [] [] []=(some ([],((.v (.a [(.ob (.p (inP a))),(.ob (.p (inP b)))])),[]))):=by kernel_rfl
theorem o2A (a b:Fp):B5 qeJ Tryz.f83 3000 [.v (.a [.ob (.p a),.ob (.p b)])] [] [] []=(some ([],((.v (.a [(.ob (.fp (D4 a))),(.ob (.fp (D4 b)))])),[]))):=by kernel_rfl
theorem E3f (a b c d:Fp):FnD Tryz.prog 107 [.v (.a [.ob (.p a),.ob (.p b)]),.v (.a [.ob (.p c),.ob (.p d)])] (.v (.a (f2I ((a,b)*(c,d))))) []:=by
 have r:=t2A a b c d;rw[I5m] at r;exact A5 N8 Tryz.func107 r trivial
theorem F1n (a b:Fp):FnD Tryz.prog 61 [.v (.a [.ob (.p a),.ob (.p b)])] (.v (.c (.bool (decide (((a,b):F2)=0))))) []:=by
 have r:=z2A a b;dsimp only at r;rw[if_pos rfl] at r;have e:decide (((a,b):F2)=0)=(decide (a=0) && decide (b=0)):=D7l a 0 b 0;rw[e];exact A5 N8 Tryz.func61 r trivial
def G3 (a b:U6):F2:=(inP a,inP b)
def B0z:B2
 | [.v (.a [.ob (.p a),.ob (.p b)]),.v (.a [.ob (.p c),.ob (.p d)])]=>some ([],.v (.a (f2I ((a,b)*(c,d)))),[])
 | _=>none
def qxA:Env:=qeJ.set (C6 qeJ.fn 107 B0z)
theorem H9t:A9 Tryz.prog qxA:=A8 N8 107 B0z (A4 Tryz.func107 rfl rfl) fun args o r es h _=>by
 unfold B0z at h;split at h
 ·cases h;exact E3f _ _ _ _
 ·cases h
def B5q:B2
 | [.v (.a [.ob (.p a),.ob (.p b)]),.v (.a [.ob (.p c),.ob (.p d)])]=>some ([],.v (.a (f2I ((a,b)+(c,d)))),[])
 | _=>none
def qxB:Env:=qxA.set (C6 qxA.fn 108 B5q)
theorem H9u:A9 Tryz.prog qxB:=A8 H9t 108 B5q (A4 Tryz.func108 rfl rfl) fun args o r es h _=>by
 unfold B5q at h;split at h
 ·cases h;exact A5 N8 Tryz.func108 (p2A _ _ _ _) trivial
 ·cases h
def A9r:B2
 | [.v (.a [.ob (.p a),.ob (.p b)]),.v (.a [.ob (.p c),.ob (.p d)])]=>some ([],.v (.a (f2I ((a,b)-(c,d)))),[])
 | _=>none
def qxC:Env:=qxB.set (C6 qxB.fn 126 A9r)
theorem H9v:A9 Tryz.prog qxC:=A8 H9u 126 A9r (A4 Tryz.func126 rfl rfl) fun args o r es h _=>by
 unfold A9r at h;split at h
 ·cases h;exact A5 N8 Tryz.func126 (m2A _ _ _ _) trivial
 ·cases h
def C2i:B2
 | [.v (.a [.ob (.p a),.ob (.p b)])]=>some ([],.v (.a (f2I (0-(a,b)))),[])
 | _=>none
def qxD:Env:=qxC.set (C6 qxC.fn 133 C2i)
theorem H9w:A9 Tryz.prog qxD:=A8 H9v 133 C2i (A4 Tryz.func133 rfl rfl) fun args o r es h _=>by
 unfold C2i at h;split at h
 ·cases h;exact A5 N8 Tryz.func133 (n2A _ _) trivial
 ·cases h
def B6l:B2
 | [.v (.a [.ob (.p a),.ob (.p b)])]=>some ([],.v (.c (.bool (decide (((a,b):F2)=0)))),[])
 | _=>none
def qxE:Env:=qxD.set (C6 qxD.fn 61 B6l)
theorem H9x:A9 Tryz.prog qxE:=A8 H9w 61 B6l (A4 Tryz.func61 rfl rfl) fun args o r es h _=>by
 unfold B6l at h;split at h
 ·cases h;exact F1n _ _
 ·cases h
def B5h:B2
 | [.v (.a [.ob (.p a),.ob (.p b)])]=>some ([],.v (.a [.ob (.p (nQ2 (a,b)))]),[])
 | _=>none
def qxF:Env:=qxE.set (C6 qxE.fn 141 B5h)
theorem H9y:A9 Tryz.prog qxF:=A8 H9x 141 B5h (A4 Tryz.func141 rfl rfl) fun args o r es h _=>by
 unfold B5h at h;split at h
 ·cases h;exact A5 N8 Tryz.func141 (I9q _ _) trivial
 ·cases h
def D0e:B2
 | [.v (.a [.ob (.fp a),.ob (.fp b)])]=>some ([],.v (.a (f2I (G3 a b))),[])
 | _=>none
def qxG:Env:=qxF.set (C6 qxF.fn 84 D0e)
theorem H9z:A9 Tryz.prog qxG:=A8 H9y 84 D0e (A4 Tryz.func84 rfl rfl) fun args o r es h _=>by
 unfold D0e at h;split at h
 ·cases h;exact A5 N8 Tryz.func84 (i2A _ _) trivial
 ·cases h
def C2w:B2
 | [.v (.a [.ob (.p a),.ob (.p b)])]=>some ([],.v (.a [.ob (.fp (D4 a)),.ob (.fp (D4 b))]),[])
 | _=>none
def qxH:Env:=qxG.set (C6 qxG.fn 83 C2w)
theorem G1y:A9 Tryz.prog qxH:=A8 H9z 83 C2w (A4 Tryz.func83 rfl rfl) fun args o r es h _=>by
 unfold C2w at h;split at h
 ·cases h;exact A5 N8 Tryz.func83 (o2A _ _) trivial
 ·cases h
theorem v2A (a b:Fp):B5 qxH Tryz.f134 3000 [.v (.a [.ob (.p a),.ob (.p b)])] [] [] []=(some ([],((.v (.a [(.ob (.p (a*(ivP (nQ2 (a,b)))))),(.ob (.p ((0:Fp)-(b*(ivP (nQ2 (a,b)))))))])),[]))):=by kernel_rfl
def C1r:B2
 | [.v (.a [.ob (.p a),.ob (.p b)])]=>some ([],.v (.a (f2I (A9j ivP (a,b)))),[])
 | _=>none
def qxI:Env:=qxH.set (C6 qxH.fn 134 C1r)
theorem B0l:A9 Tryz.prog qxI:=A8 G1y 134 C1r (A4 Tryz.func134 rfl rfl) fun args o r es h _=>by
 unfold C1r at h;split at h
 ·cases h;exact A5 G1y Tryz.func134 (v2A _ _) trivial
 ·cases h
theorem D1a (v : Value) (w : World) : (method (Tryz.prog.types.size + Made.depth) 79 v "Times").run Tryz.prog w = .ok (107, v) w := by kernel_rfl
theorem D6k (v : Value) (w : World) : (method (Tryz.prog.types.size + Made.depth) 79 v "Plus").run Tryz.prog w = .ok (108, v) w := by kernel_rfl
theorem D0z (v : Value) (w : World) : (method (Tryz.prog.types.size + Made.depth) 79 v "Minus").run Tryz.prog w = .ok (126, v) w := by kernel_rfl
theorem C5g (v : Value) (w : World) : (method (Tryz.prog.types.size + Made.depth) 79 v "IsZero").run Tryz.prog w = .ok (61, v) w := by kernel_rfl
theorem B7p (v : Value) (w : World) : (method (Tryz.prog.types.size + Made.depth) 79 v "Negative").run Tryz.prog w = .ok (133, v) w := by kernel_rfl
theorem C1z (v : Value) (w : World) : (method (Tryz.prog.types.size + Made.depth) 79 v "Inverse").run Tryz.prog w = .ok (134, v) w := by kernel_rfl
def F6n (T : Nat → Option (List (String × Nat))) (t : Nat) : Option (List (String × Nat)) := if t = 79 then some [("Times", 107), ("Plus", 108), ("Minus", 126), ("IsZero", 61), ("Negative", 133), ("Inverse", 134)] else T t
def qxJ:Env:={ qxI with inv:=F6n qxI.inv }
theorem D2k:A9 Tryz.prog qxJ:=by
 refine ⟨B0l.ty,B0l.mixed,B0l.fn,B0l.mu,B0l.inl,B0l.ex,fun t l h=>?_⟩
 have h:F6n qxI.inv t=some l:=h;unfold F6n at h;split at h
 ·rename_i ht
  cases h
  subst ht;refine ⟨by kernel_rfl,fun name g hg v args w=>?_⟩
  unfold A0m at hg;split at hg
  ·rename_i hn
   cases hg
   subst hn;simp only[callMethod,Sem.run_bind,run_program,Result.andThen_ok,D1a]
  unfold A0m at hg;split at hg
  ·rename_i hn
   cases hg
   subst hn;simp only[callMethod,Sem.run_bind,run_program,Result.andThen_ok,D6k]
  unfold A0m at hg;split at hg
  ·rename_i hn
   cases hg
   subst hn;simp only[callMethod,Sem.run_bind,run_program,Result.andThen_ok,D0z]
  unfold A0m at hg;split at hg
  ·rename_i hn
   cases hg
   subst hn;simp only[callMethod,Sem.run_bind,run_program,Result.andThen_ok,C5g]
  unfold A0m at hg;split at hg
  ·rename_i hn
   cases hg
   subst hn;simp only[callMethod,Sem.run_bind,run_program,Result.andThen_ok,B7p]
  unfold A0m at hg;split at hg
  ·rename_i hn
   cases hg
   subst hn;simp only[callMethod,Sem.run_bind,run_program,Result.andThen_ok,C1z]
  cases hg
 ·exact B0l.inv t l h
theorem J1e (a b c d e f:Fp):B5 qxJ Tryz.f86 3000 [.v (.a [.ob (.p a),.ob (.p b),.ob (.p c),.ob (.p d),.ob (.p e),.ob (.p f)])] [true] [] []=(some ([((decide ((e,f)=(0:(Prod (Fin pN) (Fin pN)))))=true)],((.v (.a [.ob (.p a),.ob (.p b),.ob (.p c),.ob (.p d),.ob (.p e),.ob (.p f)])),[]))):=by kernel_rfl
theorem J1f (a b c d e f:Fp):let l:=(c,d)*(c,d);let h:=l*l;let m:=(a,b)*(a,b);let g:=((((a,b)+l)*((a,b)+l))-m)-h;let i:=(m+m)+m;let k:=((i*i)-(g+g))-(g+g);let j:=(i*((g+g)-k))-(((h+h)+(h+h))+((h+h)+(h+h)));let n:=(c,d)*(e,f);B5 qxJ Tryz.f86 3000 [.v (.a [.ob (.p a),.ob (.p b),.ob (.p c),.ob (.p d),.ob (.p e),.ob (.p f)])] [false] [] []=(some ([((decide ((e,f)=(0:(Prod (Fin pN) (Fin pN)))))=false)],((.v (.a [(.ob (.p (Prod.fst k))),(.ob (.p (Prod.snd k))),(.ob (.p (Prod.fst j))),(.ob (.p (Prod.snd j))),(.ob (.p (Prod.fst (n+n)))),(.ob (.p (Prod.snd (n+n))))])),[]))):=by intros;kernel_rfl
theorem I9p (a b c d e f:Fp):let g:=(0:F2)-(c,d);B5 qxJ Tryz.f166 3000 [.v (.a [.ob (.p a),.ob (.p b),.ob (.p c),.ob (.p d),.ob (.p e),.ob (.p f)])] [] [] []=(some ([],((.v (.a [.ob (.p a),.ob (.p b),(.ob (.p (Prod.fst g))),(.ob (.p (Prod.snd g))),.ob (.p e),.ob (.p f)])),[]))):=by intros;kernel_rfl
end

section

theorem E3j (a b c d e f:Fp):FnD Tryz.prog 86 [.v (.a [.ob (.p a),.ob (.p b),.ob (.p c),.ob (.p d),.ob (.p e),.ob (.p f)])] (.v (.a (L9 (jtw (F:=F2) ((a,b),(c,d),(e,f)))))) []:=by
 by_cases h:((e,f):F2)=0
 ·have e0:jtw (F:=F2) ((a,b),(c,d),(e,f))=((a,b),(c,d),(e,f)):=if_pos h
  rw[e0];exact A5 D2k Tryz.func86 (J1e a b c d e f) ⟨decide_eq_true h,trivial⟩
 ·unfold jtw
  rw[if_neg h];exact A5 D2k Tryz.func86 (J1f a b c d e f) ⟨decide_eq_false h,trivial⟩
def D3j:B2
 | [.v (.a [.ob (.p a),.ob (.p b),.ob (.p c),.ob (.p d),.ob (.p e),.ob (.p f)])]=>some ([],.v (.a (L9 (jtw (F:=F2) ((a,b),(c,d),(e,f))))),[])
 | _=>none
def qyA:Env:=qxJ.set (C6 qxJ.fn 86 D3j)
theorem I0a:A9 Tryz.prog qyA:=A8 D2k 86 D3j (A4 Tryz.func86 rfl rfl) fun args o r es h _=>by
 unfold D3j at h;split at h
 ·cases h;exact E3j _ _ _ _ _ _
 ·cases h
def D1l:B2
 | [.v (.a [.ob (.p a),.ob (.p b),.ob (.p c),.ob (.p d),.ob (.p e),.ob (.p f)])]=>some ([],.v (.a (L9 (jng (F:=F2) ((a,b),(c,d),(e,f))))),[])
 | _=>none
def qyB:Env:=qyA.set (C6 qyA.fn 166 D1l)
theorem B5y:A9 Tryz.prog qyB:=A8 I0a 166 D1l (A4 Tryz.func166 rfl rfl) fun args o r es h _=>by
 unfold D1l at h;split at h
 ·cases h;exact A5 D2k Tryz.func166 (I9p _ _ _ _ _ _) trivial
 ·cases h
theorem J0d (a b c d e f a' b' c' d' e' f' : Fp):B5 qyB Tryz.f85 3000 [.v (.a [.ob (.p a),.ob (.p b),.ob (.p c),.ob (.p d),.ob (.p e),.ob (.p f)]),.v (.a [.ob (.p a'),.ob (.p b'),.ob (.p c'),.ob (.p d'),.ob (.p e'),.ob (.p f')])] [true] [] []=(some ([((decide ((e,f)=(0:(Prod (Fin pN) (Fin pN)))))=true)],((.v (.a [(.ob (.p a')),(.ob (.p b')),(.ob (.p c')),(.ob (.p d')),(.ob (.p e')),(.ob (.p f'))])),[]))):=by kernel_rfl
theorem J0e (a b c d e f a' b' c' d' e' f' : Fp):let g:=Prod (Fin pN) (Fin pN);B5 qyB Tryz.f85 3000 [.v (.a [.ob (.p a),.ob (.p b),.ob (.p c),.ob (.p d),.ob (.p e),.ob (.p f)]),.v (.a [.ob (.p a'),.ob (.p b'),.ob (.p c'),.ob (.p d'),.ob (.p e'),.ob (.p f')])] [false,true] [] []=(some ([((decide ((e,f)=(0:g)))=false),((decide ((e',f')=(0:g)))=true)],((.v (.a [.ob (.p a),.ob (.p b),.ob (.p c),.ob (.p d),.ob (.p e),.ob (.p f)])),[]))):=by intros;kernel_rfl
theorem J0f (a b c d e f a' b' c' d' e' f' : Fp):let g:=jtw ((a,b),((c,d),(e,f)));let h:=Prod (Fin pN) (Fin pN);let i:=Prod.snd g;let j:=(e',f')*(e',f');B5 qyB Tryz.f85 3000 [.v (.a [.ob (.p a),.ob (.p b),.ob (.p c),.ob (.p d),.ob (.p e),.ob (.p f)]),.v (.a [.ob (.p a'),.ob (.p b'),.ob (.p c'),.ob (.p d'),.ob (.p e'),.ob (.p f')])] [false,false,true,true] [] []=(some ([((decide ((e,f)=(0:h)))=false),((decide ((e',f')=(0:h)))=false),((decide ((((a',b')*((e,f)*(e,f)))-((a,b)*j))=(0:h)))=true),((decide (((((c',d')*((e,f)*(e,f)))*(e,f))-(((c,d)*j)*(e',f')))=(0:h)))=true)],((.v (.a [(.ob (.p (Prod.fst (Prod.fst g)))),(.ob (.p (Prod.snd (Prod.fst g)))),(.ob (.p (Prod.fst (Prod.fst i)))),(.ob (.p (Prod.snd (Prod.fst i)))),(.ob (.p (Prod.fst (Prod.snd i)))),(.ob (.p (Prod.snd (Prod.snd i))))])),[]))):=by intros;kernel_rfl
theorem J0g (a b c d e f a' b' c' d' e' f' : Fp):let g:=Prod (Fin pN) (Fin pN);let h:=(e',f')*(e',f');B5 qyB Tryz.f85 3000 [.v (.a [.ob (.p a),.ob (.p b),.ob (.p c),.ob (.p d),.ob (.p e),.ob (.p f)]),.v (.a [.ob (.p a'),.ob (.p b'),.ob (.p c'),.ob (.p d'),.ob (.p e'),.ob (.p f')])] [false,false,true,false] [] []=(some ([((decide ((e,f)=(0:g)))=false),((decide ((e',f')=(0:g)))=false),((decide ((((a',b')*((e,f)*(e,f)))-((a,b)*h))=(0:g)))=true),((decide (((((c',d')*((e,f)*(e,f)))*(e,f))-(((c,d)*h)*(e',f')))=(0:g)))=false)],((.v (.a [.ob (.p a),.ob (.p b),.ob (.p c),.ob (.p d),(.ob (.p (0:Fp))),(.ob (.p (0:Fp)))])),[]))):=by intros;kernel_rfl
theorem J0h (a b c d e f a' b' c' d' e' f' : Fp):let j:=(e',f')*(e',f');let g:=((a',b')*((e,f)*(e,f)))-((a,b)*j);let l:=Prod (Fin pN) (Fin pN);let m:=((a,b)*j)*(g*g);let n:=((c,d)*j)*(e',f');let i:=(((c',d')*((e,f)*(e,f)))*(e,f))-n;let h:=(((i*i)-((g*g)*g))-m)-m;let k:=(i*(m-h))-(n*((g*g)*g));let o:=(g*(e,f))*(e',f');B5 qyB Tryz.f85 3000 [.v (.a [.ob (.p a),.ob (.p b),.ob (.p c),.ob (.p d),.ob (.p e),.ob (.p f)]),.v (.a [.ob (.p a'),.ob (.p b'),.ob (.p c'),.ob (.p d'),.ob (.p e'),.ob (.p f')])] [false,false,false] [] []=(some ([((decide ((e,f)=(0:l)))=false),((decide ((e',f')=(0:l)))=false),((decide (g=(0:l)))=false)],((.v (.a [(.ob (.p (Prod.fst h))),(.ob (.p (Prod.snd h))),(.ob (.p (Prod.fst k))),(.ob (.p (Prod.snd k))),(.ob (.p (Prod.fst o))),(.ob (.p (Prod.snd o)))])),[]))):=by intros;kernel_rfl
end

section

theorem D7n (a b c d e f a' b' c' d' e' f' : Fp):FnD Tryz.prog 85 [.v (.a [.ob (.p a),.ob (.p b),.ob (.p c),.ob (.p d),.ob (.p e),.ob (.p f)]),.v (.a [.ob (.p a'),.ob (.p b'),.ob (.p c'),.ob (.p d'),.ob (.p e'),.ob (.p f')])] (.v (.a (L9 (jpl (F:=F2) ((a,b),(c,d),(e,f)) ((a',b'),(c',d'),(e',f')))))) []:=by
 by_cases h:((e,f):F2)=0
 ·have e0:jpl (F:=F2) ((a,b),(c,d),(e,f)) ((a',b'),(c',d'),(e',f'))=((a',b'),(c',d'),(e',f')):=if_pos h
  rw[e0];exact A5 B5y Tryz.func85 (J0d a b c d e f a' b' c' d' e' f') ⟨decide_eq_true h,trivial⟩
 ·by_cases h2:((e',f'):F2)=0
  ·have e0:jpl (F:=F2) ((a,b),(c,d),(e,f)) ((a',b'),(c',d'),(e',f'))=((a,b),(c,d),(e,f)):=(if_neg h).trans (if_pos h2)
   rw[e0];exact A5 B5y Tryz.func85 (J0e a b c d e f a' b' c' d' e' f') ⟨decide_eq_false h,decide_eq_true h2,trivial⟩
  ·unfold jpl
   rw[if_neg h,if_neg h2];dsimp only;by_cases h3:((a',b'):F2)*(((e,f):F2)*((e,f):F2))-((a,b):F2)*(((e',f'):F2)*((e',f'):F2))=0
   ·rw[if_pos h3]
    by_cases h4:((c',d'):F2)*(((e,f):F2)*((e,f):F2))*((e,f):F2)-((c,d):F2)*(((e',f'):F2)*((e',f'):F2))*((e',f'):F2)=0
    ·rw[if_pos h4]
     exact A5 B5y Tryz.func85 (J0f a b c d e f a' b' c' d' e' f') ⟨decide_eq_false h,decide_eq_false h2,decide_eq_true h3,decide_eq_true h4,trivial⟩
    ·rw[if_neg h4]
     exact A5 B5y Tryz.func85 (J0g a b c d e f a' b' c' d' e' f') ⟨decide_eq_false h,decide_eq_false h2,decide_eq_true h3,decide_eq_false h4,trivial⟩
   ·rw[if_neg h3]
    exact A5 B5y Tryz.func85 (J0h a b c d e f a' b' c' d' e' f') ⟨decide_eq_false h,decide_eq_false h2,decide_eq_false h3,trivial⟩

end

section

def D1y:B2
 | [.v (.a [.ob (.p a),.ob (.p b),.ob (.p c),.ob (.p d),.ob (.p e),.ob (.p f)]),.v (.a [.ob (.p a'),.ob (.p b'),.ob (.p c'),.ob (.p d'),.ob (.p e'),.ob (.p f')])]=>some ([],.v (.a (L9 (jpl (F:=F2) ((a,b),(c,d),(e,f)) ((a',b'),(c',d'),(e',f'))))),[])
 | _=>none
def qyC:Env:=qyB.set (C6 qyB.fn 85 D1y)
theorem B0m:A9 Tryz.prog qyC:=A8 B5y 85 D1y (A4 Tryz.func85 rfl rfl) fun args o r es h _=>by
 unfold D1y at h;split at h
 ·cases h;exact D7n _ _ _ _ _ _ _ _ _ _ _ _
 ·cases h
def F6k (T:Nat->Option Func) (f:Nat):Option Func:=if f=82 then some Tryz.f82 else T f
def qyD:Env:={ qyC with inl:=F6k qyC.inl }
theorem A4r:A9 Tryz.prog qyD:=by
 refine ⟨B0m.ty,B0m.mixed,B0m.fn,B0m.mu,fun f fn h=>?_,B0m.ex,B0m.inv⟩
 have h:F6k qyC.inl f=some fn:=h;unfold F6k at h;split at h
 ·rename_i hf;cases h;subst hf;exact ⟨Tryz.func82,A4 Tryz.func82 rfl rfl⟩
 exact B0m.inl f fn h
theorem I8o (a b c d:U6) (i:Bool):let f:=Fin.ofNat pN 1;let g:Fp:=0;B5 qyD Tryz.f43 3000 [.v (.a [.ob (.fp a),.ob (.fp b),.ob (.fp c),.ob (.fp d),.bool i])] [true] [] []=(some ([(0<=(1:Int)),((1:Int)<(18446744073709551616:Int)),(i=true)],((.v (.a [(.ob (.p f)),(.ob (.p g)),(.ob (.p f)),(.ob (.p g)),(.ob (.p g)),(.ob (.p g))])),[]))):=by intros;kernel_rfl
theorem I8p (a b c d:U6) (i:Bool):B5 qyD Tryz.f43 3000 [.v (.a [.ob (.fp a),.ob (.fp b),.ob (.fp c),.ob (.fp d),.bool i])] [false] [] []=(some ([(0<=(1:Int)),((1:Int)<(18446744073709551616:Int)),(i=false)],((.v (.a [(.ob (.p (Prod.fst (G3 a b)))),(.ob (.p (Prod.snd (G3 a b)))),(.ob (.p (Prod.fst (G3 c d)))),(.ob (.p (Prod.snd (G3 c d)))),(.ob (.p (Fin.ofNat pN 1))),(.ob (.p (0:Fp)))])),[]))):=by kernel_rfl
theorem I9t (a b c d e f:Fp):let g:U6:=0;B5 qyD Tryz.f42 3000 [.v (.a [.ob (.p a),.ob (.p b),.ob (.p c),.ob (.p d),.ob (.p e),.ob (.p f)])] [true,true] [] []=(some ([((decide ((e,f)=(0:(Prod (Fin pN) (Fin pN)))))=true)],((.v (.a [(.ob (.fp g)),(.ob (.fp g)),(.ob (.fp g)),(.ob (.fp g)),(.lit true)])),[]))):=by intros;kernel_rfl
theorem I9u (a b c d e f:Fp):let g:=A9j ivP (e,f);let h:=((c,d)*(g*g))*g;B5 qyD Tryz.f42 3000 [.v (.a [.ob (.p a),.ob (.p b),.ob (.p c),.ob (.p d),.ob (.p e),.ob (.p f)])] [false,false] [] []=(some ([((decide ((e,f)=(0:(Prod (Fin pN) (Fin pN)))))=false)],((.v (.a [(.ob (.fp (D4 (Prod.fst ((a,b)*(g*g)))))),(.ob (.fp (D4 (Prod.snd ((a,b)*(g*g)))))),(.ob (.fp (D4 (Prod.fst h)))),(.ob (.fp (D4 (Prod.snd h)))),(.lit false)])),[]))):=by intros;kernel_rfl
theorem I9v (a b c d:U6) (i:Bool):let g:U6:=0;let f:=Bool.and (decide (a=g)) (Bool.and (decide (b=g)) (Bool.and (decide (c=g)) (Bool.and (decide (d=g)) (i == true))));B5 qyD Tryz.f58 3000 [.v (.a [.ob (.fp a),.ob (.fp b),.ob (.fp c),.ob (.fp d),.bool i])] [true] [] []=(some ([(i=true)],((.ci (.bool (ite (true=true) f (Bool.not f)))),[]))):=by intros;kernel_rfl
theorem I9w (a b c d:U6) (i:Bool):let k:=G3 c d;let h:=Bool.and (decide ((D4 (Prod.fst k))=c)) (decide ((D4 (Prod.snd k))=d));let l:=(4:Int)<(18446744073709551616:Int);let m:=G3 a b;let g:=Bool.and (decide ((D4 (Prod.fst m))=a)) (decide ((D4 (Prod.snd m))=b));let n:=true=true;let o:=Fin.ofNat pN 4;let j:=((m*m)*m)+(o,o);let f:=Bool.and (decide ((Prod.fst (k*k))=(Prod.fst j))) (decide ((Prod.snd (k*k))=(Prod.snd j)));B5 qyD Tryz.f58 3000 [.v (.a [.ob (.fp a),.ob (.fp b),.ob (.fp c),.ob (.fp d),.bool i])] [false,true,true] [] []=(some ([(i=false),(0<=(4:Int)),l,(0<=(4:Int)),l,((ite n g (Bool.not g))=true),((ite n h (Bool.not h))=true)],((.ci (.bool (ite n f (Bool.not f)))),[]))):=by intros;kernel_rfl
theorem I9x (a b c d:U6) (i:Bool):let f:=Bool.and (decide ((D4 (Prod.fst (G3 a b)))=a)) (decide ((D4 (Prod.snd (G3 a b)))=b));let g:=Bool.and (decide ((D4 (Prod.fst (G3 c d)))=c)) (decide ((D4 (Prod.snd (G3 c d)))=d));let h:=(4:Int)<(18446744073709551616:Int);B5 qyD Tryz.f58 3000 [.v (.a [.ob (.fp a),.ob (.fp b),.ob (.fp c),.ob (.fp d),.bool i])] [false,true,false] [] []=(some ([(i=false),(0<=(4:Int)),h,(0<=(4:Int)),h,((ite (true=true) f (Bool.not f))=true),((ite (true=true) g (Bool.not g))=false)],((.ci (.lit false)),[]))):=by intros;kernel_rfl
theorem I9y (a b c d:U6) (i:Bool):let f:=Bool.and (decide ((D4 (Prod.fst (G3 a b)))=a)) (decide ((D4 (Prod.snd (G3 a b)))=b));let g:=(4:Int)<(18446744073709551616:Int);B5 qyD Tryz.f58 3000 [.v (.a [.ob (.fp a),.ob (.fp b),.ob (.fp c),.ob (.fp d),.bool i])] [false,false,false] [] []=(some ([(i=false),(0<=(4:Int)),g,(0<=(4:Int)),g,((ite (true=true) f (Bool.not f))=false)],((.ci (.lit false)),[]))):=by intros;kernel_rfl
end

section

def fq4:F2:=(fp4,fp4)
/-- Which points may be. -/
def I6 (a:G2D):Bool:=
 if a.inf then decide (a.xa=0) && (decide (a.xb=0) && (decide (a.ya=0) && decide (a.yb=0)))
 else (decide (D4 (inP a.xa)=a.xa) && decide (D4 (inP a.xb)=a.xb)) && ((decide (D4 (inP a.ya)=a.ya) && decide (D4 (inP a.yb)=a.yb)) && decide (G3 a.ya a.yb*G3 a.ya a.yb=G3 a.xa a.xb*G3 a.xa a.xb*G3 a.xa a.xb+fq4))
def A3o (a:G2D):F2×F2×F2:=if a.inf then ((fp1,0),(fp1,0),(0,0)) else (G3 a.xa a.xb,G3 a.ya a.yb,(fp1,0))
def A8m (t:F2×F2×F2):G2D:=
 if t.2.2=0 then ⟨0,0,0,0,true⟩ else
 ⟨D4 (t.1*(A9j ivP t.2.2*A9j ivP t.2.2)).1,D4 (t.1*(A9j ivP t.2.2*A9j ivP t.2.2)).2,D4 (t.2.1*(A9j ivP t.2.2*A9j ivP t.2.2)*A9j ivP t.2.2).1,D4 (t.2.1*(A9j ivP t.2.2*A9j ivP t.2.2)*A9j ivP t.2.2).2,false⟩
def C5o (a b:G2D):G2D:=A8m (jpl (A3o a) (A3o b))
def C7f (a:G2D):G2D:=A8m (jng (A3o a))

theorem A7q {x:Ctx} {i j k l:It} {b:Bool} {v:Value} (h:B8 x (.v (.a [i,j,k,l,.lit b])) v):B8 x (.v (.a [i,j,k,l,.bool b])) v:=by
 obtain ⟨cs,e,c1,r1,e1,h1,c2,r2,e2,h2,c3,r3,e3,h3,c4,r4,e4,h4,c5,r5,e5,⟨d,h5⟩,h6⟩:=h;refine ⟨cs,e,c1,r1,e1,h1,c2,r2,e2,h2,c3,r3,e3,h3,c4,r4,e4,h4,c5,r5,e5,⟨d,?_⟩,h6⟩
 cases d<;>exact h5
theorem D6h {x:Ctx} {i j k l m:It} {b:Bool} {v:Value} (h:B8 x (.t [.a [i,j,k,l,.lit b],.c m]) v):B8 x (.t [.a [i,j,k,l,.bool b],.c m]) v:=by
 obtain ⟨vs,e,h1⟩:=h
 cases h1 with | cons d1 ds=>
 exact ⟨_,e,.cons (A7q d1) ds⟩

theorem F6g (a b c d:U6) (i:Bool):FnD Tryz.prog 43 [.v (.a [.ob (.fp a),.ob (.fp b),.ob (.fp c),.ob (.fp d),.bool i])] (.v (.a (L9 (A3o ⟨a,b,c,d,i⟩)))) []:=by
 cases i with
 | true=>exact A5 A4r Tryz.func43 (I8o a b c d true) ⟨by decide,by decide,rfl,trivial⟩
 | false=>exact A5 A4r Tryz.func43 (I8p a b c d false) ⟨by decide,by decide,rfl,trivial⟩

theorem F0d (a b c d e f:Fp):FnD Tryz.prog 42 [.v (.a [.ob (.p a),.ob (.p b),.ob (.p c),.ob (.p d),.ob (.p e),.ob (.p f)])] (.v (.a (A8m ((a,b),(c,d),(e,f))).its)) []:=by
 by_cases h:((e,f):F2)=0
 ·have e0:A8m ((a,b),(c,d),(e,f))=⟨0,0,0,0,true⟩:=if_pos h
  rw[e0];exact (A5 A4r Tryz.func42 (I9t a b c d e f) ⟨decide_eq_true h,trivial⟩).conv (fun _ _ h=>h) fun y v hd=>A7q hd
 ·unfold A8m
  rw[if_neg h];exact (A5 A4r Tryz.func42 (I9u a b c d e f) ⟨decide_eq_false h,trivial⟩).conv (fun _ _ h=>h) fun y v hd=>A7q hd

theorem F9w (a b c d:U6):I6 ⟨a,b,c,d,false⟩=((decide (D4 (inP a)=a) && decide (D4 (inP b)=b)) && ((decide (D4 (inP c)=c) && decide (D4 (inP d)=d)) && decide (G3 c d*G3 c d=G3 a b*G3 a b*G3 a b+fq4))):=if_neg (fun h=>Bool.noConfusion h)
theorem F9y (a b c d:U6):I6 ⟨a,b,c,d,true⟩=(decide (a=0) && (decide (b=0) && (decide (c=0) && (decide (d=0) && (true == true))))):=by
 show (decide (a=0) && (decide (b=0) && (decide (c=0) && decide (d=0))))=_;simp

theorem F9x (a b c d:U6) (i:Bool):FnD Tryz.prog 58 [.v (.a [.ob (.fp a),.ob (.fp b),.ob (.fp c),.ob (.fp d),.bool i])] (.v (.c (.bool (I6 ⟨a,b,c,d,i⟩)))) []:=by
 cases i with
 | true=>
  have r:=I9v a b c d true;dsimp only at r;rw[if_pos rfl] at r;rw[F9y];exact A5 A4r Tryz.func58 r ⟨rfl,trivial⟩
 | false=>
  rw[F9w]
  cases h1:(decide (D4 (inP a)=a) && decide (D4 (inP b)=b)) with
  | true=>
   rw[Bool.true_and]
   cases h2:(decide (D4 (inP c)=c) && decide (D4 (inP d)=d)) with
   | true=>
    rw[Bool.true_and];have r:=I9w a b c d false;dsimp only at r;rw[if_pos rfl,if_pos rfl,if_pos rfl] at r;have e:decide (G3 c d*G3 c d=G3 a b*G3 a b*G3 a b+fq4)=_:=D7l (G3 c d*G3 c d).1 (G3 a b*G3 a b*G3 a b+fq4).1 (G3 c d*G3 c d).2 (G3 a b*G3 a b*G3 a b+fq4).2;rw[e];exact A5 A4r Tryz.func58 r ⟨rfl,by decide,by decide,by decide,by decide,h1,h2,trivial⟩
   | false=>
    rw[Bool.false_and];have r:=I9x a b c d false;dsimp only at r;rw[if_pos rfl,if_pos rfl] at r;exact (A5 A4r Tryz.func58 r ⟨rfl,by decide,by decide,by decide,by decide,h1,h2,trivial⟩).conv (fun _ _ h=>h) fun y v hd=>Q4 rfl hd
  | false=>
   rw[Bool.false_and];have r:=I9y a b c d false;dsimp only at r;rw[if_pos rfl] at r;exact (A5 A4r Tryz.func58 r ⟨rfl,by decide,by decide,by decide,by decide,h1,trivial⟩).conv (fun _ _ h=>h) fun y v hd=>Q4 rfl hd

/-! Pairs outside. -/
def G0f (x:F2):U6×U6:=(D4 x.1,D4 x.2)

section
variable {r:Nat} [NeZero r]
end
end

section

def C1o:B2
 | [.v (.a [.ob (.fp a),.ob (.fp b),.ob (.fp c),.ob (.fp d),.bool i])]=>some ([],.v (.a (L9 (A3o ⟨a,b,c,d,i⟩))),[])
 | _=>none
def qzA:Env:=qyD.set (C6 qyD.fn 43 C1o)
theorem I0b:A9 Tryz.prog qzA:=A8 A4r 43 C1o (A4 Tryz.func43 rfl rfl) fun args o r es h _=>by
 unfold C1o at h;split at h
 ·cases h;exact F6g _ _ _ _ _
 ·cases h
def B5n:B2
 | [.v (.a [.ob (.p a),.ob (.p b),.ob (.p c),.ob (.p d),.ob (.p e),.ob (.p f)])]=>some ([],.v (.a (A8m ((a,b),(c,d),(e,f))).its),[])
 | _=>none
def qzB:Env:=qzA.set (C6 qzA.fn 42 B5n)
theorem I0c:A9 Tryz.prog qzB:=A8 I0b 42 B5n (A4 Tryz.func42 rfl rfl) fun args o r es h _=>by
 unfold B5n at h;split at h
 ·cases h;exact F0d _ _ _ _ _ _
 ·cases h
def C2s:B2
 | [.v (.a [.ob (.fp a),.ob (.fp b),.ob (.fp c),.ob (.fp d),.bool i])]=>some ([],.v (.c (.bool (I6 ⟨a,b,c,d,i⟩))),[])
 | _=>none
def qzH:Env:=qzB.set (C6 qzB.fn 58 C2s)
theorem E2i:A9 Tryz.prog qzH:=A8 I0c 58 C2s (A4 Tryz.func58 rfl rfl) fun args o r es h _=>by
 unfold C2s at h;split at h
 ·cases h;exact F9x _ _ _ _ _
 ·cases h
theorem J0m (a b c d:U6) (i:Bool):B5 qzH Tryz.f22 3000 [.v (.a [.ob (.fp a),.ob (.fp b),.ob (.fp c),.ob (.fp d),.bool i])] [] [] []=(some ([],((.ci (.bool (I6 (G2D.mk a b c d i)))),[]))):=by kernel_rfl
theorem I8j  : B5 qzH Tryz.f16 3000 [] [] [] []=(some ([(0<=(15312334153293348280:Int)),((15312334153293348280:Int)<(18446744073709551616:Int)),(0<=(841050694974028783:Int)),((841050694974028783:Int)<(18446744073709551616:Int)),(0<=(12993178926126977399:Int)),((12993178926126977399:Int)<(18446744073709551616:Int)),(0<=(14331714969349929730:Int)),((14331714969349929730:Int)<(18446744073709551616:Int)),(0<=(2740446039084699729:Int)),((2740446039084699729:Int)<(18446744073709551616:Int)),(0<=(165123225776229009:Int)),((165123225776229009:Int)<(18446744073709551616:Int)),(0<=(16549740192668593022:Int)),((16549740192668593022:Int)<(18446744073709551616:Int)),(0<=(3696594454104530263:Int)),((3696594454104530263:Int)<(18446744073709551616:Int)),(0<=(13103893525273989193:Int)),((13103893525273989193:Int)<(18446744073709551616:Int)),(0<=(6443473286224459290:Int)),((6443473286224459290:Int)<(18446744073709551616:Int)),(0<=(9055845637167730533:Int)),((9055845637167730533:Int)<(18446744073709551616:Int)),(0<=(1432192374203850592:Int)),((1432192374203850592:Int)<(18446744073709551616:Int)),(0<=(16254428414758889473:Int)),((16254428414758889473:Int)<(18446744073709551616:Int)),(0<=(10536956157198377609:Int)),((10536956157198377609:Int)<(18446744073709551616:Int)),(0<=(7873024875724591404:Int)),((7873024875724591404:Int)<(18446744073709551616:Int)),(0<=(12537348094477325223:Int)),((12537348094477325223:Int)<(18446744073709551616:Int)),(0<=(10144865889576432922:Int)),((10144865889576432922:Int)<(18446744073709551616:Int)),(0<=(929383263523139089:Int)),((929383263523139089:Int)<(18446744073709551616:Int)),(0<=(12297368366147926462:Int)),((12297368366147926462:Int)<(18446744073709551616:Int)),(0<=(4555124010822409633:Int)),((4555124010822409633:Int)<(18446744073709551616:Int)),(0<=(2771000935339432363:Int)),((2771000935339432363:Int)<(18446744073709551616:Int)),(0<=(14645187562128761775:Int)),((14645187562128761775:Int)<(18446744073709551616:Int)),(0<=(3651525051980876697:Int)),((3651525051980876697:Int)<(18446744073709551616:Int)),(0<=(434250606344352972:Int)),((434250606344352972:Int)<(18446744073709551616:Int))],((.v (.a [(.ob (.fp (Fin.ofNat B6 352701069587466618187139116011060144890029952792775240219908644239793785735715026873347600343865175952761926303160))),(.ob (.fp (Fin.ofNat B6 3059144344244213709971259814753781636986470325476647558659373206291635324768958432433509563104347017837885763365758))),(.ob (.fp (Fin.ofNat B6 1985150602287291935568054521177171638300868978215655730859378665066344726373823718423869104263333984641494340347905))),(.ob (.fp (Fin.ofNat B6 927553665492332455747201965776037880757740193453592970025027978793976877002675564980949289727957565575433344219582))),(.lit false)])),[]))):=by kernel_rfl
end

section

def O0:G2D:=⟨Fin.ofNat B6 352701069587466618187139116011060144890029952792775240219908644239793785735715026873347600343865175952761926303160,Fin.ofNat B6 3059144344244213709971259814753781636986470325476647558659373206291635324768958432433509563104347017837885763365758,Fin.ofNat B6 1985150602287291935568054521177171638300868978215655730859378665066344726373823718423869104263333984641494340347905,Fin.ofNat B6 927553665492332455747201965776037880757740193453592970025027978793976877002675564980949289727957565575433344219582,false⟩

theorem F5p:FnD Tryz.prog 16 [] (.v (.a O0.its)) []:=
 (A5 E2i Tryz.func16 I8j (by simp [B1])).conv (fun _ _ h=>h) fun y v hd=>A7q hd
end

section

def B0q:B2
 | [.v (.a [.ob (.fp a),.ob (.fp b),.ob (.fp c),.ob (.fp d),.bool i])]=>some ([],.v (.c (.bool (I6 ⟨a,b,c,d,i⟩))),[])
 | _=>none
def rtA:Env:=qzH.set (C6 qzH.fn 22 B0q)
theorem I0m:A9 Tryz.prog rtA:=A8 E2i 22 B0q (A4 Tryz.func22 rfl rfl) fun args o r es h _=>by
 unfold B0q at h;split at h
 ·cases h;exact A5 E2i Tryz.func22 (J0m _ _ _ _ _) trivial
 ·cases h
def C1b:B2
 | []=>some ([],.v (.a O0.its),[])
 | _=>none
def rtC:Env:=rtA.set (C6 rtA.fn 16 C1b)
theorem I0n:A9 Tryz.prog rtC:=A8 I0m 16 C1b (A4 Tryz.func16 rfl rfl) fun args o r es h _=>by
 unfold C1b at h;split at h
 ·cases h;exact F5p
 ·cases h
def rtG:Env:=rtC
theorem I0o:A9 Tryz.prog rtG:=I0n
end

section

theorem H7x:(-1:Fp)=Fin.ofNat pN (pN-1):=by decide +kernel
theorem F9g:(Fin.ofNat pN (pN-1)).val=pN-1:=by decide +kernel
theorem D5r:pN-1=(pN-1) / 2+(pN-1) / 2:=by decide +kernel
theorem F9f:A3w pN (pN-1) 384 ((pN-1) / 2)≠1:=by decide +kernel
theorem E5u:(pN-1) / 2<2 ^ 384:=by decide +kernel
theorem G9i:(0:Fp)*0 ≠ -1:=by decide +kernel
theorem G9o (t:Fp):t*t ≠ -1:=by
 intro h;by_cases ht:t=0
 ·rw[ht] at h
  exact G9i h
 ·have e:=E3k t ((pN-1) / 2)
  rw[<-D5r,A5r t ht,h,H7x] at e;have:=congrArg Fin.val e
  rw[W9 _ 384 _ E5u,F9g,A3x] at this;exact F9f this

theorem D7f:(1:F2)≠0:=by decide +kernel
theorem D8r:(1:F2)+1≠0:=by decide +kernel
theorem H8c:nQ2 ((0:F2)-fq4)=Fin.ofNat pN 32:=by decide +kernel
theorem H3z:(Fin.ofNat pN 32).val=32:=by decide +kernel
theorem I6o:A3w pN 32 384 ((pN-1) / 3)≠1:=by decide +kernel

theorem D6w {a b:F2} (h:a+b=0):a=0-b:=neg_of_sumR h
where neg_of_sumR {r:Nat} [NeZero r] {a b:Q2 r} (h:a+b=0):a=0-b:=by grind

theorem I6e (x:F2):x*x*x+fq4≠0:=by
 intro h;have h:=congrArg nQ2 (D6w h);rw[H8c,B2z,B2z] at h;refine C9d _ (fun e=>?_) (fun e=>?_) (nQ2 x) h
 ·have:=congrArg Fin.val e
  rw[W9 _ 384 _ C4e,H3z,A3x] at this;exact I6o this
 ·have:=congrArg Fin.val e
  rw[H3z] at this;revert this
  decide +kernel

instance fldQ:Fld F2:=
  { (ringQ2:J7 (Q2 pN)) with
    inv:=A9j ivP
    mul_inv:=F6r ivP D0k (F9d ivP D0k G9o)
    one_ne:=D7f }

theorem cv2:Cv fq4:=⟨D8r,I6e⟩

/-- A point outside, as a point; and back. -/
def pG2 (a:G2D):Pt F2:=if a.inf then none else some (G3 a.xa a.xb,G3 a.ya a.yb)
def gP2:Pt F2->G2D
 | none=>⟨0,0,0,0,true⟩
 | some p=>⟨D4 p.1.1,D4 p.1.2,D4 p.2.1,D4 p.2.2,false⟩

theorem A0a (x:F2):G3 (D4 x.1) (D4 x.2)=x:=by
 unfold G3;rw[A2x,A2x]

theorem D1x:∀P:Pt F2,pG2 (gP2 P)=P
 | none=>rfl
 | some p=>by
  show some (G3 (D4 p.1.1) (D4 p.1.2),G3 (D4 p.2.1) (D4 p.2.2))=some p;rw[A0a,A0a]

theorem A0d {a:G2D} (h:I6 a=true):gP2 (pG2 a)=a∧OnC fq4 (pG2 a):=by
 obtain ⟨xa,xb,ya,yb,i⟩:=a
 cases i with
 | true=>
  have h:(decide (xa=0) && (decide (xb=0) && (decide (ya=0) && decide (yb=0))))=true:=h;simp only[Bool.and_eq_true,decide_eq_true_eq] at h;obtain ⟨rfl,rfl,rfl,rfl⟩:=h;exact ⟨rfl,True.intro⟩
 | false=>
  have h:((decide (D4 (inP xa)=xa) && decide (D4 (inP xb)=xb)) && ((decide (D4 (inP ya)=ya) && decide (D4 (inP yb)=yb)) && decide (G3 ya yb*G3 ya yb=G3 xa xb*G3 xa xb*G3 xa xb+fq4)))=true:=h;simp only[Bool.and_eq_true,decide_eq_true_eq] at h;obtain ⟨⟨h1,h2⟩,⟨h3,h4⟩,h5⟩:=h;refine ⟨?_,h5⟩
  show (⟨D4 (inP xa),D4 (inP xb),D4 (inP ya),D4 (inP yb),false⟩:G2D)=⟨xa,xb,ya,yb,false⟩;rw[h1,h2,h3,h4]

theorem B8h:∀{P:Pt F2},OnC fq4 P->I6 (gP2 P)=true
 | none,_=>by
  show (decide ((0:U6)=0) && (decide ((0:U6)=0) && (decide ((0:U6)=0) && decide ((0:U6)=0))))=true;rw[decide_eq_true rfl];rfl
 | some p,h=>by
  have h:p.2*p.2=p.1*p.1*p.1+fq4:=h;show ((decide (D4 (inP (D4 p.1.1))=D4 p.1.1) && decide (D4 (inP (D4 p.1.2))=D4 p.1.2)) && ((decide (D4 (inP (D4 p.2.1))=D4 p.2.1) && decide (D4 (inP (D4 p.2.2))=D4 p.2.2)) && decide (G3 (D4 p.2.1) (D4 p.2.2)*G3 (D4 p.2.1) (D4 p.2.2)=G3 (D4 p.1.1) (D4 p.1.2)*G3 (D4 p.1.1) (D4 p.1.2)*G3 (D4 p.1.1) (D4 p.1.2)+fq4)))=true;rw[A0a,A0a,A2x,A2x,A2x,A2x,decide_eq_true rfl,decide_eq_true rfl,decide_eq_true rfl,decide_eq_true rfl,decide_eq_true h];rfl

theorem D1v:(1:F2)*1=1:=by decide +kernel
theorem E5k:((fp1,0):F2)=1:=by decide +kernel
theorem E9w {r:Nat} [NeZero r] (x:Q2 r):x*1=x:=by grind
theorem D6q (x:F2):x*1=x:=E9w x
theorem B2h (a:G2D):Jc (pG2 a) (A3o a):=by
 obtain ⟨xa,xb,ya,yb,i⟩:=a
 cases i with
 | true=>exact (rfl:(0:F2)=0)
 | false=>
  show Jc (some (G3 xa xb,G3 ya yb)) (G3 xa xb,G3 ya yb,(fp1,0));rw[E5k];refine ⟨D7f,?_,?_⟩
  ·show G3 xa xb=G3 xa xb*(1*1)
   rw[D1v,D6q]
  ·show G3 ya yb=G3 ya yb*(1*1*1)
   rw[D1v,D1v,D6q]

theorem C2x {P:Pt F2} {t:F2×F2×F2} (h:Jc P t):A8m t=gP2 P:=by
 rw[<-D0m P t h];unfold A8m jpt;by_cases hz:t.2.2=0
 ·rw[if_pos hz,if_pos hz];rfl
 ·rw[if_neg hz,if_neg hz];rfl

theorem D3u (a b:G2D):C5o a b=gP2 (C5 (pG2 a) (pG2 b)):=C2x (A2y D8r _ _ _ _ (B2h a) (B2h b))
theorem D6s (a:G2D):C7f a=gP2 (P5 (pG2 a)):=C2x (E0w _ _ (B2h a))
theorem G9z (a b:G2D):pG2 (C5o a b)=C5 (pG2 a) (pG2 b):=by rw[D3u,D1x]
theorem H0e (a:G2D):pG2 (C7f a)=P5 (pG2 a):=by rw[D6s,D1x]
theorem E6s {a b:G2D} (ha:I6 a=true) (hb:I6 b=true):I6 (C5o a b)=true:=by
 rw[D3u];exact B8h (J8 cv2 _ _ (A0d ha).2 (A0d hb).2)
theorem E6u {a:G2D} (ha:I6 a=true):I6 (C7f a)=true:=by
 rw[D6s];exact B8h (U1 _ (A0d ha).2)
end

section

def rtL:Env:=rtG
theorem I0p:A9 Tryz.prog rtL:=I0o
def rtM:Env:=rtL
theorem A3d:A9 Tryz.prog rtM:=I0p
end

section
section
variable {w0:World} {F0:Nat->Prop} {K:Kp} {ac:List Act} {Q:Exit->Act->World->Prop} {cX:Ctx} {aX:Act}

def E1p:List KI:=(run rtM false 3000 (⟨[.code (B9 Tryz.f44)],.normal,D7 Tryz.f44.ntmps [.v (.a [.ob (.p dF),.ob (.p dF),.ob (.p dF),.ob (.p dF),.ob (.p dF),.ob (.p dF)]),.v (.a [.ob (.fr dF)])]⟩:Cfg) []).cfg.k
theorem ny (a b c d e f:Fp) (k:U4):let g:Fp:=0;B1 [(0<=(0:Int)),(0<(16:Int))]->Sg Tryz.prog (D7 Tryz.f44.ntmps [.v (.a [.ob (.p a),.ob (.p b),.ob (.p c),.ob (.p d),.ob (.p e),.ob (.p f)]),.v (.a [.ob (.fr k)])]) (B0 43 [2,3,4,5,6] [.pt 16 0,.pt 32 0,.pt 48 0,.pt 64 0,.ii (1:Int)] [16,32,48,64] [(eF_ [.ob (.p a),.ob (.p b),.ob (.p c),.ob (.p d),.ob (.p e),.ob (.p f)]),(eF_ [.ob (.fr k)]),(eF_ [(.ob (.p g)),(.ob (.p g)),(.ob (.p g)),(.ob (.p g)),(.ob (.p g)),(.ob (.p g))]),(eF_ [.ob (.p a),.ob (.p b),.ob (.p c),.ob (.p d),(.ob (.p g)),(.ob (.p g)),(.ob (.p g)),(.ob (.p g)),(.ob (.p g)),(.ob (.p g)),(.ob (.p g)),(.ob (.p g)),(.ob (.p g)),(.ob (.p g)),(.ob (.p g)),(.ob (.p g)),(.ob (.p g)),(.ob (.p g)),(.ob (.p g)),(.ob (.p g)),(.ob (.p g)),(.ob (.p g)),(.ob (.p g)),(.ob (.p g)),(.ob (.p g)),(.ob (.p g)),(.ob (.p g)),(.ob (.p g)),(.ob (.p g)),(.ob (.p g)),(.ob (.p g)),(.ob (.p g)),(.ob (.p g)),(.ob (.p g)),(.ob (.p g)),(.ob (.p g)),(.ob (.p g)),(.ob (.p g)),(.ob (.p g)),(.ob (.p g)),(.ob (.p g)),(.ob (.p g)),(.ob (.p g)),(.ob (.p g)),(.ob (.p g)),(.ob (.p g)),(.ob (.p g)),(.ob (.p g)),(.ob (.p g)),(.ob (.p g)),(.ob (.p g)),(.ob (.p g)),(.ob (.p g)),(.ob (.p g)),(.ob (.p g)),(.ob (.p g)),(.ob (.p g)),(.ob (.p g)),(.ob (.p g)),(.ob (.p g)),(.ob (.p g)),(.ob (.p g)),(.ob (.p g)),(.ob (.p g)),(.ob (.p g)),(.ob (.p g)),(.ob (.p g)),(.ob (.p g)),(.ob (.p g)),(.ob (.p g)),(.ob (.p g)),(.ob (.p g)),(.ob (.p g)),(.ob (.p g)),(.ob (.p g)),(.ob (.p g)),(.ob (.p g)),(.ob (.p g)),(.ob (.p g)),(.ob (.p g)),(.ob (.p g)),(.ob (.p g)),(.ob (.p g)),(.ob (.p g)),(.ob (.p g)),(.ob (.p g)),(.ob (.p g)),(.ob (.p g)),(.ob (.p g)),(.ob (.p g)),(.ob (.p g)),(.ob (.p g)),(.ob (.p g)),(.ob (.p g)),(.ob (.p g)),(.ob (.p g))])] 208 [] []) .normal (E1p) ([.code (B9 Tryz.f44)]):=sgA false 3000 [] A3d
def nyS (a b c d e f:Fp) (k:U4) (L:List (F2×F2×F2)) (i:Int):St:=B0 43 [2,3,4,5,6] [.pt 16 0,.pt 32 0,.pt 48 0,.pt 64 0,.v (.c (.int .i64 i))] [16,32,48,64] [(eF_ [.ob (.p a),.ob (.p b),.ob (.p c),.ob (.p d),.ob (.p e),.ob (.p f)]),(eF_ [.ob (.fr k)]),(eF_ [(.ob (.p (0:Fp))),(.ob (.p (0:Fp))),(.ob (.p (0:Fp))),(.ob (.p (0:Fp))),(.ob (.p (0:Fp))),(.ob (.p (0:Fp)))]),some (.sq (.pt2 L))] 208 [] []
theorem nyA (a b c d e f:Fp) (k:U4) (L:List (F2×F2×F2)) (i:Int):let g:=wrap .i64 (i-1);let h:Fp:=0;let j:Int:=16;B1 [((decide (i<j))=true),(0<=g),(g<j),(0=0),((g).toNat<L.length),(0<=i),(i<j),(0=0),((i).toNat<L.length)]->Sg Tryz.prog (nyS a b c d e f k L i) (B0 43 [2,3,4,5,6] [.pt 16 0,.pt 32 0,.pt 48 0,.pt 64 0,(.ii (wrap .i64 (i+1)))] [16,32,48,64] [(eF_ [.ob (.p a),.ob (.p b),.ob (.p c),.ob (.p d),.ob (.p e),.ob (.p f)]),(eF_ [.ob (.fr k)]),(eF_ [(.ob (.p h)),(.ob (.p h)),(.ob (.p h)),(.ob (.p h)),(.ob (.p h)),(.ob (.p h))]),(eQ_ (Sq.pt2 (List.set L (i).toNat (jpl (List.getD L (g).toNat A4p) ((a,b),((c,d),(e,f)))))))] 432 [] []) .normal (M7 E1p) (E8 E1p):=sgA false 3000 [true] A3d
def B3b:List KI:=(run rtM false 3000 ((fun (a b c d e f:Fp) (k:U4) (L:List (F2×F2×F2)) (i:Int)=>(⟨E8 E1p,.normal,nyS a b c d e f k L i⟩:Cfg)) default default default default default default default default default) [false]).cfg.k
theorem nyB (a b c d e f:Fp) (k:U4) (L:List (F2×F2×F2)) (i:Int):let g:=List.getD L 0 A4p;let h:=Prod.snd g;let j:Fp:=0;B1 [((decide (i<(16:Int)))=false),(0<=(0:Int)),(0<(16:Int)),(0=0),(0<L.length)]->Sg Tryz.prog (nyS a b c d e f k L i) (B0 43 [4,5,7,30] [.pt 48 0,.pt 64 0,.pt 272 0,(.ci (.clo 121 [(320,0)]))] [48,64,272,320] [(eF_ [(.ob (.p j)),(.ob (.p j)),(.ob (.p j)),(.ob (.p j)),(.ob (.p j)),(.ob (.p j))]),(eQ_ (Sq.pt2 L)),(eF_ [(.ob (.p (Prod.fst (Prod.fst g)))),(.ob (.p (Prod.snd (Prod.fst g)))),(.ob (.p (Prod.fst (Prod.fst h)))),(.ob (.p (Prod.snd (Prod.fst h)))),(.ob (.p (Prod.fst (Prod.snd h)))),(.ob (.p (Prod.snd (Prod.snd h))))]),(eF_ [.ob (.fr k)])] 384 [] []) .normal (B3b) (E8 E1p):=sgA false 3000 [false] A3d
def nyR (k:U4) (L:List (F2×F2×F2)) (o:F2×F2×F2):St:=B0 43 [4,5,7,30] [.pt 48 0,.pt 64 0,.pt 272 0,(.ci (.clo 121 [(320,0)]))] [48,64,272,320] [(eF_ [(.ob (.p (0:Fp))),(.ob (.p (0:Fp))),(.ob (.p (0:Fp))),(.ob (.p (0:Fp))),(.ob (.p (0:Fp))),(.ob (.p (0:Fp)))]),(eQ_ (Sq.pt2 L)),some (.fl [.ob (.p o.1.1),.ob (.p o.1.2),.ob (.p o.2.1.1),.ob (.p o.2.1.2),.ob (.p o.2.2.1),.ob (.p o.2.2.2)]),(eF_ [.ob (.fr k)])] 384 [] []
theorem nrA (k:U4) (L:List (F2×F2×F2)) (o:F2×F2×F2) (d:Int) {ρ:Option Nat}:let a:=Prod.snd o;let b:Fp:=0;(B1 [])->(Sim w0 F0 K ac (X5 (nyR k L o) [(31,.v (.c (.int .i64 d)))]) cX aX)->(∀cY aY,Sim w0 F0 K ac (B0 43 [4,5,7,8] [.pt 48 0,.pt 64 0,.pt 272 0,.ii d] [48,64,272,320] [(eF_ [(.ob (.p b)),(.ob (.p b)),(.ob (.p b)),(.ob (.p b)),(.ob (.p b)),(.ob (.p b))]),(eQ_ (Sq.pt2 L)),(eF_ [(.ob (.p (Prod.fst (Prod.fst o)))),(.ob (.p (Prod.snd (Prod.fst o)))),(.ob (.p (Prod.fst (Prod.fst a)))),(.ob (.p (Prod.snd (Prod.fst a)))),(.ob (.p (Prod.fst (Prod.snd a)))),(.ob (.p (Prod.snd (Prod.snd a))))]),(eF_ [.ob (.fr k)])] 400 [[4,5,7,30]] [([.pt 48 0,.pt 64 0,.pt 272 0,(.ci (.clo 121 [(320,0)]))],43)]) cY aY->Wq Tryz.prog Q ([]) ac Exit.normal aY cY.w ρ)->Wq Tryz.prog Q ([.code (rfA B3b)]) ac .normal aX cX.w ρ :=fun ho hs hK=>
 G8 (unroll:=false) (n:=3000) (path:=[]) (o:=⟨_,_,_,_,_,_,_⟩) A3d (by kernel_rfl) (by kernel_rfl) ho (by kernel_rfl) (by kernel_rfl) hs hK
def nrB (k:U4) (L:List (F2×F2×F2)) (o:F2×F2×F2) (d:Int):St:=B0 43 [4,5,7,8] [.pt 48 0,.pt 64 0,.pt 272 0,.ii d] [48,64,272,320] [(eF_ [(.ob (.p (0:Fp))),(.ob (.p (0:Fp))),(.ob (.p (0:Fp))),(.ob (.p (0:Fp))),(.ob (.p (0:Fp))),(.ob (.p (0:Fp)))]),(eQ_ (Sq.pt2 L)),some (.fl [.ob (.p o.1.1),.ob (.p o.1.2),.ob (.p o.2.1.1),.ob (.p o.2.1.2),.ob (.p o.2.2.1),.ob (.p o.2.2.2)]),(eF_ [.ob (.fr k)])] 400 [[4,5,7,30]] [([.pt 48 0,.pt 64 0,.pt 272 0,(.ci (.clo 121 [(320,0)]))],43)]
def C7g:List KI:=(run rtM false 3000 ((fun (k:U4) (L:List (F2×F2×F2)) (o:F2×F2×F2) (d:Int)=>(⟨[.code (rfB B3b)],.normal,nrB k L o d⟩:Cfg)) default default default default) []).cfg.k
theorem nrC (k:U4) (L:List (F2×F2×F2)) (o:F2×F2×F2) (d:Int) {ρ:Option Nat}:let a:=Prod.snd o;let b:Fp:=0;(B1 [])->(Sim w0 F0 K ac (nrB k L o d) cX aX)->(∀cY aY,Sim w0 F0 K ac (B0 43 [4,5,7,8,32] [.pt 48 0,.pt 64 0,.pt 272 0,.ii d,.ii (0:Int)] [48,64,272,320] [(eF_ [(.ob (.p b)),(.ob (.p b)),(.ob (.p b)),(.ob (.p b)),(.ob (.p b)),(.ob (.p b))]),(eQ_ (Sq.pt2 L)),(eF_ [(.ob (.p (Prod.fst (Prod.fst o)))),(.ob (.p (Prod.snd (Prod.fst o)))),(.ob (.p (Prod.fst (Prod.fst a)))),(.ob (.p (Prod.snd (Prod.fst a)))),(.ob (.p (Prod.fst (Prod.snd a)))),(.ob (.p (Prod.snd (Prod.snd a))))]),(eF_ [.ob (.fr k)])] 416 [[4,5,7,30]] [([.pt 48 0,.pt 64 0,.pt 272 0,(.ci (.clo 121 [(320,0)]))],43)]) cY aY->Wq Tryz.prog Q (C7g) ac Exit.normal aY cY.w ρ)->Wq Tryz.prog Q ([.code (rfB B3b)]) ac .normal aX cX.w ρ :=fun ho hs hK=>
 G8 (unroll:=false) (n:=3000) (path:=[]) (o:=⟨_,_,_,_,_,_,_⟩) A3d (by kernel_rfl) (by kernel_rfl) ho (by kernel_rfl) (by kernel_rfl) hs hK
def nrS (k:U4) (L:List (F2×F2×F2)) (o:F2×F2×F2) (d j:Int):St:=B0 43 [4,5,7,8,32] [.pt 48 0,.pt 64 0,.pt 272 0,.ii d,.v (.c (.int .i64 j))] [48,64,272,320] [(eF_ [(.ob (.p (0:Fp))),(.ob (.p (0:Fp))),(.ob (.p (0:Fp))),(.ob (.p (0:Fp))),(.ob (.p (0:Fp))),(.ob (.p (0:Fp)))]),(eQ_ (Sq.pt2 L)),some (.fl [.ob (.p o.1.1),.ob (.p o.1.2),.ob (.p o.2.1.1),.ob (.p o.2.1.2),.ob (.p o.2.2.1),.ob (.p o.2.2.2)]),(eF_ [.ob (.fr k)])] 416 [[4,5,7,30]] [([.pt 48 0,.pt 64 0,.pt 272 0,(.ci (.clo 121 [(320,0)]))],43)]
theorem nrD (k:U4) (L:List (F2×F2×F2)) (o:F2×F2×F2) (d j:Int) {ρ:Option Nat}:let a:=Prod.snd (jtw o);let b:Fp:=0;let c:=Prod.fst (jtw o);(B1 [((decide (j<(4:Int)))=true)])->(Sim w0 F0 K ac (nrS k L o d j) cX aX)->(∀cY aY,Sim w0 F0 K ac (B0 43 [4,5,7,8,32] [.pt 48 0,.pt 64 0,.pt 272 0,.ii d,(.ii (wrap .i64 (j+1)))] [48,64,272,320] [(eF_ [(.ob (.p b)),(.ob (.p b)),(.ob (.p b)),(.ob (.p b)),(.ob (.p b)),(.ob (.p b))]),(eQ_ (Sq.pt2 L)),(eF_ [(.ob (.p (Prod.fst c))),(.ob (.p (Prod.snd c))),(.ob (.p (Prod.fst (Prod.fst a)))),(.ob (.p (Prod.snd (Prod.fst a)))),(.ob (.p (Prod.fst (Prod.snd a)))),(.ob (.p (Prod.snd (Prod.snd a))))]),(eF_ [.ob (.fr k)])] 512 [[4,5,7,30]] [([.pt 48 0,.pt 64 0,.pt 272 0,(.ci (.clo 121 [(320,0)]))],43)]) cY aY->Wq Tryz.prog Q (M7 C7g) ac Exit.normal aY cY.w ρ)->Wq Tryz.prog Q (E8 C7g) ac .normal aX cX.w ρ :=fun ho hs hK=>
 G8 (unroll:=false) (n:=3000) (path:=[true]) (o:=⟨_,_,_,_,_,_,_⟩) A3d (by kernel_rfl) (by kernel_rfl) ho (by kernel_rfl) (by kernel_rfl) hs hK
theorem nrE (k:U4) (L:List (F2×F2×F2)) (o:F2×F2×F2) (d j:Int) {ρ:Option Nat}:let a:=jpl o (List.getD L (d).toNat A4p);let b:=Prod.snd a;let c:Fp:=0;(B1 [((decide (j<(4:Int)))=false),(0<=d),(d<(16:Int)),(0=0),((d).toNat<L.length)])->(Sim w0 F0 K ac (nrS k L o d j) cX aX)->(∀cY aY,Sim w0 F0 K ac (B0 43 [4] [.pt 48 0] [48,64,272,320] [(eF_ [(.ob (.p c)),(.ob (.p c)),(.ob (.p c)),(.ob (.p c)),(.ob (.p c)),(.ob (.p c))]),(eQ_ (Sq.pt2 L)),(eF_ [(.ob (.p (Prod.fst (Prod.fst a)))),(.ob (.p (Prod.snd (Prod.fst a)))),(.ob (.p (Prod.fst (Prod.fst b)))),(.ob (.p (Prod.snd (Prod.fst b)))),(.ob (.p (Prod.fst (Prod.snd b)))),(.ob (.p (Prod.snd (Prod.snd b))))]),(eF_ [.ob (.fr k)])] 528 [[4,5,7,30]] [([.pt 48 0,.pt 64 0,.pt 272 0,(.ci (.clo 121 [(320,0)]))],43)]) cY aY->Wq Tryz.prog Q ([]) ac Exit.normal aY cY.w ρ)->Wq Tryz.prog Q (E8 C7g) ac .normal aX cX.w ρ :=fun ho hs hK=>
 G8 (unroll:=false) (n:=3000) (path:=[false]) (o:=⟨_,_,_,_,_,_,_⟩) A3d (by kernel_rfl) (by kernel_rfl) ho (by kernel_rfl) (by kernel_rfl) hs hK
def nrF (k:U4) (L:List (F2×F2×F2)) (o:F2×F2×F2):St:=B0 43 [4] [.pt 48 0] [48,64,272,320] [(eF_ [(.ob (.p (0:Fp))),(.ob (.p (0:Fp))),(.ob (.p (0:Fp))),(.ob (.p (0:Fp))),(.ob (.p (0:Fp))),(.ob (.p (0:Fp)))]),(eQ_ (Sq.pt2 L)),some (.fl [.ob (.p o.1.1),.ob (.p o.1.2),.ob (.p o.2.1.1),.ob (.p o.2.1.2),.ob (.p o.2.2.1),.ob (.p o.2.2.2)]),(eF_ [.ob (.fr k)])] 528 [[4,5,7,30]] [([.pt 48 0,.pt 64 0,.pt 272 0,(.ci (.clo 121 [(320,0)]))],43)]
theorem nrX (k:U4) (L:List (F2×F2×F2)) (o:F2×F2×F2):let a:=Prod.snd o;B1 []->Sg Tryz.prog (nyR k L o) (B0 43 [4] [.pt 48 0] [48] [(eF_ [(.ob (.p (Prod.fst (Prod.fst o)))),(.ob (.p (Prod.snd (Prod.fst o)))),(.ob (.p (Prod.fst (Prod.fst a)))),(.ob (.p (Prod.snd (Prod.fst a)))),(.ob (.p (Prod.fst (Prod.snd a)))),(.ob (.p (Prod.snd (Prod.snd a))))])] 416 [] []) .ret ([]) (rfR B3b):=sgA false 3000 [] A3d
def nrZ (o:F2×F2×F2):St:=B0 43 [4] [.pt 48 0] [48] [some (.fl [.ob (.p o.1.1),.ob (.p o.1.2),.ob (.p o.2.1.1),.ob (.p o.2.1.2),.ob (.p o.2.2.1),.ob (.p o.2.2.2)])] 416 [] []
theorem G9q (o:F2×F2×F2):let b:=Prod.snd o;G5 rtM Tryz.f44 false 3000 (⟨[],.ret,nrZ o⟩) [] [] []=(some ([],((.v (.a [(.ob (.p (Prod.fst (Prod.fst o)))),(.ob (.p (Prod.snd (Prod.fst o)))),(.ob (.p (Prod.fst (Prod.fst b)))),(.ob (.p (Prod.snd (Prod.fst b)))),(.ob (.p (Prod.fst (Prod.snd b)))),(.ob (.p (Prod.snd (Prod.snd b))))])),[]))):=by intros;kernel_rfl
end
end

section

/-- Sixteen points of the second curve, one behind the other. -/
def C9u (l:List (F2×F2×F2)):Nat->Nat->List It
 | _,0=>[]
 | i,n+1=>.ob (.p (l.getD i A4p).1.1) :: .ob (.p (l.getD i A4p).1.2) :: .ob (.p (l.getD i A4p).2.1.1) :: .ob (.p (l.getD i A4p).2.1.2) :: .ob (.p (l.getD i A4p).2.2.1) :: .ob (.p (l.getD i A4p).2.2.2)::C9u l (i+1) n

theorem C5y {x:Ctx} (L:List (F2×F2×F2)):∀(n i:Nat) (cs:List Value),C4 x.D (C9u L i n) cs->cs.length=n*36∧∀j,j<n->∃c,C4 x.D (L9 (L.getD (i+j) A4p)) c∧∀(q:Nat) (v:Value),c[q]? = some v->cs[j*36+q]? = some v
 | 0,i,cs,h=>by
  have h:cs=[]:=h;subst h;exact ⟨rfl,fun j hj=>absurd hj (Nat.not_lt_zero _)⟩
 | n+1,i,cs,h=>by
  obtain ⟨c1,r1,e1,h1,c2,r2,e2,h2,c3,r3,e3,h3,c4,r4,e4,h4,c5,r5,e5,h5,c6,r6,e6,h6,h7⟩:=h;obtain ⟨hl,hj⟩:=C5y L n (i+1) r6 h7;have l1:c1.length=6:=A0h h1;have l2:c2.length=6:=A0h h2;have l3:c3.length=6:=A0h h3;have l4:c4.length=6:=A0h h4;have l5:c5.length=6:=A0h h5;have l6:c6.length=6:=A0h h6;subst e1 e2 e3 e4 e5 e6;refine ⟨by simp only[List.length_append];omega,fun j hjn=>?_⟩
  have e:c1++(c2++(c3++(c4++(c5++(c6++r6)))))=(c1++(c2++(c3++(c4++(c5++c6)))))++r6:=by simp
  have hl36:(c1++(c2++(c3++(c4++(c5++c6))))).length=36:=by simp only[List.length_append];omega
  cases j with
  | zero=>
   refine ⟨c1++(c2++(c3++(c4++(c5++(c6++[]))))),⟨c1,_,rfl,h1,c2,_,rfl,h2,c3,_,rfl,h3,c4,_,rfl,h4,c5,_,rfl,h5,c6,_,rfl,h6,rfl⟩,fun q v hq=>?_⟩
   rw[List.append_nil] at hq;have hlt:q<(c1++(c2++(c3++(c4++(c5++c6))))).length:=by
    rcases Nat.lt_or_ge q (c1++(c2++(c3++(c4++(c5++c6))))).length with h | h
    ·exact h
    ·rw[List.getElem?_eq_none h] at hq;cases hq
   rw[Nat.zero_mul,Nat.zero_add,<-hq,e,List.getElem?_append_left hlt]
  | succ j=>
   obtain ⟨c,hc,hv⟩:=hj j (by omega)
   rw[show i+1+j=i+(j+1) from by omega] at hc
   refine ⟨c,hc,fun q v hq=>?_⟩
   rw[e,List.getElem?_append_right (by rw[hl36];omega),hl36,show (j+1)*36+q-36=j*36+q from by omega]
   exact hv q v hq

theorem F1f {x:Ctx} (L:List (F2×F2×F2)) (h:L.length=16) (cs:List Value) (hc:C7 x (.fl (C9u L 0 16)) cs):C7 x (.sq (.pt2 L)) cs:=by
 obtain ⟨hl,hj⟩:=C5y L 16 0 cs hc;refine ⟨?_,fun i hi=>?_⟩
 ·show L.length*36<=cs.length
  rw[h,hl];exact Nat.le_refl _
 ·have hi:i<L.length:=hi
  rw[h] at hi;obtain ⟨c,h1,h2⟩:=hj i hi;rw[Nat.zero_add] at h1;exact ⟨c,h1,h2⟩

def H3v (x y:F2):List (F2×F2×F2):=(x,y,0)::List.replicate 15 A4p

theorem E9q (a b c d e f:Fp) (k:U4):FnD Tryz.prog 44 [.v (.a [.ob (.p a),.ob (.p b),.ob (.p c),.ob (.p d),.ob (.p e),.ob (.p f)]),.v (.a [.ob (.fr k)])] (.v (.a (L9 (jmn (F:=F2) ((a,b),(c,d),(e,f)) (dgT k.val 64))))) []:=by
 generalize hpa:(((a,b),(c,d),(e,f)):F2×F2×F2)=pa;refine U2 (fn:=Tryz.f44) (c:=B9 Tryz.f44) Tryz.func44 rfl rfl fun x0 a0 hk hF hs=>?_
 refine ny a b c d e f k ⟨by decide,by decide,trivial⟩ hs fun ac cY aY hs1=>?_
 have hs2:=hs1.blocks (ens' := [some (.fl [.ob (.p a),.ob (.p b),.ob (.p c),.ob (.p d),.ob (.p e),.ob (.p f)]),some (.fl [.ob (.fr k)]),some (.fl [.ob (.p 0),.ob (.p 0),.ob (.p 0),.ob (.p 0),.ob (.p 0),.ob (.p 0)]),some (.sq (.pt2 (H3v (a,b) (c,d))))])
  ⟨.inl rfl,.inl rfl,.inl rfl,.inr ⟨_,_,_,rfl,rfl,rfl,fun cs h=>F1f _ rfl cs h⟩,trivial⟩
 refine E6 (ι:={ p:Nat×List (F2×F2×F2) // 1<=p.1∧p.1<=16∧p.2.length=16∧∀j,j<p.1->p.2.getD j A4p=V8 pa j }) (fun p=>nyS a b c d e f k p.1.2 (p.1.1:Int)) (fun p=>16-p.1.1) (c:=lpC E1p) (k:=lpR E1p) (by kernel_rfl) (fun p ih ac cY aY hs=>?_)
  ⟨(1,H3v (a,b) (c,d)),Nat.le_refl 1,by show (1:Nat)<=16;omega,rfl,fun j hj=>by
   have:j=0:=by have hj:j<1:=hj;omega
   subst this;rw[<-hpa];rfl⟩ (hs2.nx _)
 obtain ⟨⟨i,L⟩,h1,h16,hL,htab⟩:=p;simp only at ih hs h1 h16 hL htab
 by_cases hi:i<16
 ·have e1:wrap IntKind.i64 ((i:Int)-1)=((i-1:Nat):Int):=by rw[C0 (by omega) (by omega)];omega
  have e2:wrap IntKind.i64 ((i:Int)+1)=((i+1:Nat):Int):=by rw[C0 (by omega) (by omega)];omega
  refine nyA a b c d e f k L i ⟨decide_eq_true (by omega),by rw[e1];omega,by rw[e1];omega,rfl,by rw[e1,Int.toNat_natCast,hL];omega,by omega,by omega,rfl,by rw[Int.toNat_natCast,hL];exact hi,trivial⟩ hs fun ac cZ aZ hs3=>?_
  rw[e1,e2,Int.toNat_natCast,Int.toNat_natCast,htab (i-1) (by omega),hpa] at hs3
  have e3:jpl (V8 pa (i-1)) pa=V8 pa i:=by
   obtain ⟨m,rfl⟩:∃m,i=m+1:=⟨i-1,by omega⟩
   rfl
  rw[e3] at hs3;refine ih ⟨(i+1,L.set i (V8 pa i)),by show 1<=i+1;omega,hi,by show (L.set i _).length=16;rw[List.length_set];exact hL,fun j hj=>?_⟩ (by show 16-(i+1)<16-i;omega) ac cZ aZ (hs3.nx _)
  have hj:j<i+1:=hj;show (L.set i (V8 pa i)).getD j A4p=_;by_cases e:j=i
  ·subst e
   simp [List.getD,hL,hi]
  ·have:(L.set i (V8 pa i)).getD j A4p=L.getD j A4p:=by
    simp [List.getD,List.getElem?_set_ne (Ne.symm e)]
   rw[this];exact htab j (by omega)
 ·have:i=16:=by omega
  subst this;refine nyB a b c d e f k L _ ⟨by decide,by decide,by decide,rfl,by rw[hL];decide,trivial⟩ hs fun ac cZ aZ hs3=>?_
  rw[htab 0 (by decide)] at hs3
  obtain ⟨e1,e2⟩:=A2i (k:=B3b) (by kernel_rfl)
  rw[e1];have eP:(rfP B3b).toList=[31]:=by kernel_rfl
  have eG:rfG B3b = .tmp 30:=by kernel_rfl
  refine Z6 (ps:=rfP B3b) e2 hs3 (gf:=121) (caps:=[(320,0)]) (A4 Tryz.func121 rfl rfl) (fun pre=>nyR k L (pre.foldl (jst pa) (V8 pa 0))) (fun s=>by rw[eG];rfl) ⟨_,rfl⟩ (dgT k.val 64) F3w E4l
   (fun y z=>.cons ⟨rfl,0,rfl⟩ .nil) (fun z=>by rw[<-Array.length_toList,eP];rfl) (fun pre p hp=>?_) (B6r fun s=>rfl) (fun pre d=>nrB k L (pre.foldl (jst pa) (V8 pa 0)) d)
   (fun pre d=>nrF k L ((pre++[d]).foldl (jst pa) (V8 pa 0))) (fun pre d=>⟨_,rfl⟩) (fun pre d hd w1 F1 K1 as1 Q1 l y1 b hs4 hQ=>?_) (fun pre d hd w1 F1 K1 as1 Q1 l y1 b hs4 hQ=>?_) fun D y1 hs4 hD hFD hd=>?_
  ·rw[eP] at hp
   have h43:(nyR k L (pre.foldl (jst pa) (V8 pa 0))).nt=43:=rfl;rw[h43];simp only[List.mem_cons,List.not_mem_nil,or_false] at hp;subst hp;decide
  ·rw[eP] at hs4
   exact nrA k L _ d trivial hs4 fun cZ aZ hs5=>⟨hQ _ _ (hs5.nx _)⟩
  ·have hd16:d<16:=by
    obtain ⟨r,hr⟩:=hd;exact E0b (n:=k.val) 64 d (by rw[hr];simp)
   rw[List.foldl_append] at hQ;generalize pre.foldl (jst pa) (V8 pa 0)=o at hs4 hQ;have hst:List.foldl (jst pa) o [d]=jpl (A3r 4 o) (L.getD d A4p):=by
    rw[htab d hd16,List.foldl_cons,List.foldl_nil];exact G7z pa o d
   rw[hst] at hQ;refine nrC k L o d trivial hs4 fun cV aV hs5=>?_
   let I:{ j:Nat // j<=4 } -> List Act->Act->World->Prop:=fun j ac a w=>ac=as1∧∃z,z.w=w∧Sim w1 F1 K1 as1 (nrS k L (A3r j.1 o) d (j.1:Int)) z a
   refine A5z (ρ:=some l) I (fun j=>4-j.1) (c:=lpC C7g) (k:=lpR C7g) (by kernel_rfl) (fun j ih ac aV w hI=>?_) ⟨0,Nat.zero_le _⟩ ⟨rfl,cV,rfl,hs5.nx _⟩
   obtain ⟨j,hj⟩:=j;obtain ⟨rfl,cV,rfl,hs6⟩:=hI;simp only at ih hs6
   by_cases hj4:j<4
   ·have ej:jtw (A3r j o)=A3r (j+1) o:=(C6w j o).symm
    generalize A3r j o=o1 at hs6 ej;refine nrD k L _ d j ⟨decide_eq_true (by omega),trivial⟩ hs6 fun cU aU hs7=>?_
    rw[C0 (n:=(j:Int)+1) (by omega) (by omega),ej] at hs7
    exact ih ⟨j+1,hj4⟩ (by show 4-(j+1)<4-j;omega) _ aU _ ⟨rfl,cU,rfl,hs7.nx _⟩
   ·have:j=4:=by omega
    subst this;refine nrE k L _ d _ ⟨by decide,by omega,by omega,rfl,by rw[Int.toNat_natCast,hL];exact hd16,trivial⟩ hs6 fun cU aU hs7=>?_
    rw[Int.toNat_natCast] at hs7;generalize jpl (A3r 4 o) (L.getD d A4p)=q at hQ hs7;exact ⟨hQ _ _ (hs7.nx _)⟩
  ·have hs5:=hs4.marked rfl rfl D
   show Wq _ _ _ _ _ _ _ _;have ej:(dgT k.val 64).foldl (jst pa) (V8 pa 0)=jmn pa (dgT k.val 64):=rfl;rw[ej] at hs4 hs5;generalize jmn pa (dgT k.val 64)=o at hs4 hs5 ⊢
   refine nrX k L o trivial hs5 fun ac cV aV hs6=>⟨?_⟩
   have hs7:Sim y1.w y1.F (U3 y1 V9 (I0 D)) ac (nrZ o) cV aV:=hs6;exact Y7 A3d hk hF (G9q o) trivial (fun y v hd=>hd) hs4 hD hFD hd rfl hs7

end

section

/-- A point outside as often as a number says. -/
def X9 (a:G2D) (k:U4):G2D:=A8m (jmn (A3o a) (dgT k.val 64))
theorem D6p {a:G2D} (ha:I6 a=true) (k:U4):X9 a k=gP2 (D6 (pG2 a) k.val):=by
 unfold X9;generalize hl:dgT k.val 64=l;have h:=E0v cv2 (A0d ha).2 (B2h a) l;have e:dgV l=k.val:=by rw[<-hl];exact F3u k
 rw[e] at h;exact C2x h
theorem H0d {a:G2D} (ha:I6 a=true) (k:U4):pG2 (X9 a k)=D6 (pG2 a) k.val:=by rw[D6p ha,D1x]
theorem E6t {a:G2D} (ha:I6 a=true) (k:U4):I6 (X9 a k)=true:=by
 rw[D6p ha];exact B8h (J0 cv2 (A0d ha).2 _)


def A9p:B2
 | [.v (.a [.ob (.p a),.ob (.p b),.ob (.p c),.ob (.p d),.ob (.p e),.ob (.p f)]),.v (.a [.ob (.fr k)])]=>some ([],.v (.a (L9 (jmn (F:=F2) ((a,b),(c,d),(e,f)) (dgT k.val 64)))),[])
 | _=>none
def ruA:Env:=rtM.set (C6 rtM.fn 44 A9p)
theorem I0q:A9 Tryz.prog ruA:=A8 A3d 44 A9p (A4 Tryz.func44 rfl rfl) fun args o r es h _=>by
 unfold A9p at h;split at h
 ·cases h;exact E9q _ _ _ _ _ _ _
 ·cases h
/-- What Mul tells. -/
def B5d (a:G2D) (k:U4):G2D×Int:=if I6 a then (X9 a k,0) else (g20,30)
theorem D1h {a:G2D} (k:U4) (ha:I6 a=true):B5d a k=(X9 a k,0):=by unfold B5d;rw[ha];rfl
theorem F8y {a:G2D} (k:U4) (ha:I6 a=false):B5d a k=(g20,30):=by unfold B5d;rw[ha];rfl
def ruC:Env:=ruA
theorem E2r:A9 Tryz.prog ruC:=I0q
end

section

def ubA:Env:=ruC.or S4.gK
theorem E3n:A9 Tryz.prog ubA:=A5p E2r S4.D5k
theorem gtA (a b c d:U6) (i:Bool):let f:=G2D.mk a b c d i;B5 ubA Tryz.f24 3000 [.v (.a [.ob (.fp a),.ob (.fp b),.ob (.fp c),.ob (.fp d),.bool i])] [true] [] []=(some ([((I6 f)=true)],((.ci (.bool (decide ((Prod.snd (Prod.snd (jmn (A3o f) (dgT 52435875175126190479447740508185965837690552500527637822603658699938581184513 64))))=(0:(Prod (Fin pN) (Fin pN))))))),[]))):=by intros;kernel_rfl
theorem gtB (a b c d:U6) (i:Bool):B5 ubA Tryz.f24 3000 [.v (.a [.ob (.fp a),.ob (.fp b),.ob (.fp c),.ob (.fp d),.bool i])] [false] [] []=(some ([((I6 (G2D.mk a b c d i))=false)],((.ci (.lit false)),[]))):=by kernel_rfl
/-- Whether a point is of the group. -/
def A2c (a:G2D):Bool:=I6 a && decide ((jmn (A3o a) (dgT 52435875175126190479447740508185965837690552500527637822603658699938581184513 64)).2.2=0)
theorem F5v (a b c d:U6) (i:Bool):FnD Tryz.prog 24 [.v (.a [.ob (.fp a),.ob (.fp b),.ob (.fp c),.ob (.fp d),.bool i])] (.v (.c (.bool (A2c ⟨a,b,c,d,i⟩)))) []:=by
 by_cases h1:I6 ⟨a,b,c,d,i⟩=true
 ·have e:A2c ⟨a,b,c,d,i⟩=decide ((jmn (A3o ⟨a,b,c,d,i⟩) (dgT 52435875175126190479447740508185965837690552500527637822603658699938581184513 64)).2.2=0):=by unfold A2c;rw[h1,Bool.true_and]
  rw[e];exact A5 E3n Tryz.func24 (gtA a b c d i) ⟨h1,trivial⟩
 ·have h1:I6 ⟨a,b,c,d,i⟩=false:=Bool.eq_false_iff.2 h1
  have e:A2c ⟨a,b,c,d,i⟩=false:=by unfold A2c;rw[h1,Bool.false_and]
  rw[e];exact (A5 E3n Tryz.func24 (gtB a b c d i) ⟨h1,trivial⟩).conv (fun _ _ h=>h) fun y v hd=>Q4 rfl hd
def C1i:B2
 | [.v (.a [.ob (.fp a),.ob (.fp b),.ob (.fp c),.ob (.fp d),.bool i])]=>some ([],.v (.c (.bool (A2c ⟨a,b,c,d,i⟩))),[])
 | _=>none
def ubB:Env:=ubA.set (C6 ubA.fn 24 C1i)
theorem I1z:A9 Tryz.prog ubB:=A8 E3n 24 C1i (A4 Tryz.func24 rfl rfl) fun args o r es h _=>by
 unfold C1i at h;split at h
 ·cases h;exact F5v _ _ _ _ _
 ·cases h
end

section

/-- u and 1, whose cube root v is; v, whose square root w is. -/
instance nrsF2:Nrs F2:=⟨(1,1)⟩
abbrev F6:=E3 F2
instance nrsF6:Nrs F6:=⟨⟨0,1,0⟩⟩
abbrev F12:=E2 F6
def f6I (x:F6):List It:=[.ob (.p x.a.1),.ob (.p x.a.2),.ob (.p x.b.1),.ob (.p x.b.2),.ob (.p x.c.1),.ob (.p x.c.2)]
def E5 (x:F12):List It:=[.ob (.p x.a.a.1),.ob (.p x.a.a.2),.ob (.p x.a.b.1),.ob (.p x.a.b.2),.ob (.p x.a.c.1),.ob (.p x.a.c.2),.ob (.p x.b.a.1),.ob (.p x.b.a.2),.ob (.p x.b.b.1),.ob (.p x.b.b.2),.ob (.p x.b.c.1),.ob (.p x.b.c.2)]
def shf (x:F2):F2:=(x.1-x.2,x.1+x.2)
def cj2 (x:F2):F2:=(x.1,0-x.2)
def scl (x:F2) (n:Fp):F2:=(x.1*n,x.2*n)
section
variable {r:Nat} [NeZero r]
theorem I7c (x:Q2 r):((x.1-x.2,x.1+x.2):Q2 r)=(1,1)*x:=G1 (by show x.1-x.2=1*x.1-1*x.2;grind) (by show x.1+x.2=1*x.2+1*x.1;grind)
end
section
variable {R:Type} [J7 R] [Nrs R]
def F6v (x y:E3 R):E3 R:=⟨x.a*y.a+Nrs.xi*((x.b+x.c)*(y.b+y.c)-x.b*y.b-x.c*y.c),(x.a+x.b)*(y.a+y.b)-x.a*y.a-x.b*y.b+Nrs.xi*(x.c*y.c),(x.a+x.c)*(y.a+y.c)-x.a*y.a-x.c*y.c+x.b*y.b⟩
theorem F6w (x y:E3 R):F6v x y=x*y:=by
 refine E3.ext' ?_ ?_ ?_
 ·show x.a*y.a+Nrs.xi*((x.b+x.c)*(y.b+y.c)-x.b*y.b-x.c*y.c)=x.a*y.a+Nrs.xi*(x.b*y.c+x.c*y.b);grind
 ·show (x.a+x.b)*(y.a+y.b)-x.a*y.a-x.b*y.b+Nrs.xi*(x.c*y.c)=x.a*y.b+x.b*y.a+Nrs.xi*(x.c*y.c);grind
 ·show (x.a+x.c)*(y.a+y.c)-x.a*y.a-x.c*y.c+x.b*y.b=x.a*y.c+x.b*y.b+x.c*y.a;grind
def F6t (x y:E2 R):E2 R:=⟨x.a*y.a+Nrs.xi*(x.b*y.b),(x.a+x.b)*(y.a+y.b)-x.a*y.a-x.b*y.b⟩
theorem F6u (x y:E2 R):F6t x y=x*y:=by
 refine E2.ext' ?_ ?_
 ·show x.a*y.a+Nrs.xi*(x.b*y.b)=x.a*y.a+Nrs.xi*(x.b*y.b);rfl
 ·show (x.a+x.b)*(y.a+y.b)-x.a*y.a-x.b*y.b=x.a*y.b+x.b*y.a;grind
theorem I7b (x:E3 R):(⟨Nrs.xi*x.c,x.a,x.b⟩:E3 R)=(⟨0,1,0⟩:E3 R)*x:=by
 refine E3.ext' ?_ ?_ ?_
 ·show Nrs.xi*x.c=0*x.a+Nrs.xi*(1*x.c+0*x.b);grind
 ·show x.a=0*x.b+1*x.a+Nrs.xi*(0*x.c);grind
 ·show x.b=0*x.c+1*x.b+0*x.a;grind
end
def cjp (x:F12):F12:=⟨x.a,0-x.b⟩
def ivp (x:F12):F12:=⟨x.a*B2j (x.a*x.a-Nrs.xi*(x.b*x.b)),0-x.b*B2j (x.a*x.a-Nrs.xi*(x.b*x.b))⟩
def uxA:Env:=uaB.or ubB
theorem D3m:A9 Tryz.prog uxA:=A5p G3t I1z
theorem G5m (x0 x1:Fp):B5 uxA Tryz.f115 3000 [.v (.a [.ob (.p x0),.ob (.p x1)])] [] [] []=some ([],.v (.a (f2I (cj2 ((x0,x1):F2)))),[]):=by kernel_rfl
def A8x:B2
 | [.v (.a [.ob (.p x0),.ob (.p x1)])]=>some ([],.v (.a (f2I (cj2 ((x0,x1):F2)))),[])
 | _=>none
def uxB:Env:=uxA.set (C6 uxA.fn 115 A8x)
theorem I2d:A9 Tryz.prog uxB:=A8 D3m 115 A8x (A4 Tryz.func115 rfl rfl) fun args o r es h _=>by
 unfold A8x at h;split at h
 ·cases h;exact A5 D3m Tryz.func115 (G5m _ _) trivial
 ·cases h
theorem H1s (x0 x1:Fp) (y0:Fp):B5 uxA Tryz.f137 3000 [.v (.a [.ob (.p x0),.ob (.p x1)]),.v (.a [.ob (.p y0)])] [] [] []=some ([],.v (.a (f2I (scl ((x0,x1):F2) y0))),[]):=by kernel_rfl
def B0s:B2
 | [.v (.a [.ob (.p x0),.ob (.p x1)]),.v (.a [.ob (.p y0)])]=>some ([],.v (.a (f2I (scl ((x0,x1):F2) y0))),[])
 | _=>none
def uxC:Env:=uxB.set (C6 uxB.fn 137 B0s)
theorem I2e:A9 Tryz.prog uxC:=A8 I2d 137 B0s (A4 Tryz.func137 rfl rfl) fun args o r es h _=>by
 unfold B0s at h;split at h
 ·cases h;exact A5 D3m Tryz.func137 (H1s _ _ _) trivial
 ·cases h
theorem H1w (x0 x1:Fp):B5 uxA Tryz.f127 3000 [.v (.a [.ob (.p x0),.ob (.p x1)])] [] [] []=some ([],.v (.a (f2I (shf ((x0,x1):F2)))),[]):=by kernel_rfl
theorem H1v (x:F2):(shf x:F2)=Nrs.xi*x:=
 I7c x
theorem E2w (x0 x1:Fp):FnD Tryz.prog 127 [.v (.a [.ob (.p x0),.ob (.p x1)])] (.v (.a (f2I (Nrs.xi*((x0,x1):F2))))) []:=by
 have r:=H1w x0 x1;rw[H1v] at r;exact A5 D3m Tryz.func127 r trivial
def B0u:B2
 | [.v (.a [.ob (.p x0),.ob (.p x1)])]=>some ([],.v (.a (f2I (Nrs.xi*((x0,x1):F2)))),[])
 | _=>none
def uxD:Env:=uxC.set (C6 uxC.fn 127 B0u)
theorem B1d:A9 Tryz.prog uxD:=A8 I2e 127 B0u (A4 Tryz.func127 rfl rfl) fun args o r es h _=>by
 unfold B0u at h;split at h
 ·cases h;exact E2w _ _
 ·cases h
theorem H0o (x0 x1 x2 x3 x4 x5:Fp) (y0 y1 y2 y3 y4 y5:Fp):B5 uxD Tryz.f95 3000 [.v (.a [.ob (.p x0),.ob (.p x1),.ob (.p x2),.ob (.p x3),.ob (.p x4),.ob (.p x5)]),.v (.a [.ob (.p y0),.ob (.p y1),.ob (.p y2),.ob (.p y3),.ob (.p y4),.ob (.p y5)])] [] [] []=some ([],.v (.a (f6I ((⟨(x0,x1),(x2,x3),(x4,x5)⟩:F6)+(⟨(y0,y1),(y2,y3),(y4,y5)⟩:F6)))),[]):=by kernel_rfl
def B0e:B2
 | [.v (.a [.ob (.p x0),.ob (.p x1),.ob (.p x2),.ob (.p x3),.ob (.p x4),.ob (.p x5)]),.v (.a [.ob (.p y0),.ob (.p y1),.ob (.p y2),.ob (.p y3),.ob (.p y4),.ob (.p y5)])]=>some ([],.v (.a (f6I ((⟨(x0,x1),(x2,x3),(x4,x5)⟩:F6)+(⟨(y0,y1),(y2,y3),(y4,y5)⟩:F6)))),[])
 | _=>none
def uxE:Env:=uxD.set (C6 uxD.fn 95 B0e)
theorem I2f:A9 Tryz.prog uxE:=A8 B1d 95 B0e (A4 Tryz.func95 rfl rfl) fun args o r es h _=>by
 unfold B0e at h;split at h
 ·cases h;exact A5 B1d Tryz.func95 (H0o _ _ _ _ _ _ _ _ _ _ _ _) trivial
 ·cases h
theorem F8q (x0 x1 x2 x3 x4 x5:Fp) (y0 y1 y2 y3 y4 y5:Fp):B5 uxD Tryz.f97 3000 [.v (.a [.ob (.p x0),.ob (.p x1),.ob (.p x2),.ob (.p x3),.ob (.p x4),.ob (.p x5)]),.v (.a [.ob (.p y0),.ob (.p y1),.ob (.p y2),.ob (.p y3),.ob (.p y4),.ob (.p y5)])] [] [] []=some ([],.v (.a (f6I ((⟨(x0,x1),(x2,x3),(x4,x5)⟩:F6)-(⟨(y0,y1),(y2,y3),(y4,y5)⟩:F6)))),[]):=by kernel_rfl
def A6a:B2
 | [.v (.a [.ob (.p x0),.ob (.p x1),.ob (.p x2),.ob (.p x3),.ob (.p x4),.ob (.p x5)]),.v (.a [.ob (.p y0),.ob (.p y1),.ob (.p y2),.ob (.p y3),.ob (.p y4),.ob (.p y5)])]=>some ([],.v (.a (f6I ((⟨(x0,x1),(x2,x3),(x4,x5)⟩:F6)-(⟨(y0,y1),(y2,y3),(y4,y5)⟩:F6)))),[])
 | _=>none
def uxF:Env:=uxE.set (C6 uxE.fn 97 A6a)
theorem I2g:A9 Tryz.prog uxF:=A8 I2f 97 A6a (A4 Tryz.func97 rfl rfl) fun args o r es h _=>by
 unfold A6a at h;split at h
 ·cases h;exact A5 B1d Tryz.func97 (F8q _ _ _ _ _ _ _ _ _ _ _ _) trivial
 ·cases h
theorem H7y (x0 x1 x2 x3 x4 x5:Fp):B5 uxD Tryz.f113 3000 [.v (.a [.ob (.p x0),.ob (.p x1),.ob (.p x2),.ob (.p x3),.ob (.p x4),.ob (.p x5)])] [] [] []=some ([],.v (.a (f6I (0-(⟨(x0,x1),(x2,x3),(x4,x5)⟩:F6)))),[]):=by kernel_rfl
def B5f:B2
 | [.v (.a [.ob (.p x0),.ob (.p x1),.ob (.p x2),.ob (.p x3),.ob (.p x4),.ob (.p x5)])]=>some ([],.v (.a (f6I (0-(⟨(x0,x1),(x2,x3),(x4,x5)⟩:F6)))),[])
 | _=>none
def uxG:Env:=uxF.set (C6 uxF.fn 113 B5f)
theorem I2h:A9 Tryz.prog uxG:=A8 I2g 113 B5f (A4 Tryz.func113 rfl rfl) fun args o r es h _=>by
 unfold B5f at h;split at h
 ·cases h;exact A5 B1d Tryz.func113 (H7y _ _ _ _ _ _) trivial
 ·cases h
theorem G3i (x0 x1 x2 x3 x4 x5:Fp) (y0 y1 y2 y3 y4 y5:Fp):B5 uxD Tryz.f94 3000 [.v (.a [.ob (.p x0),.ob (.p x1),.ob (.p x2),.ob (.p x3),.ob (.p x4),.ob (.p x5)]),.v (.a [.ob (.p y0),.ob (.p y1),.ob (.p y2),.ob (.p y3),.ob (.p y4),.ob (.p y5)])] [] [] []=some ([],.v (.a (f6I (F6v (⟨(x0,x1),(x2,x3),(x4,x5)⟩:F6) (⟨(y0,y1),(y2,y3),(y4,y5)⟩:F6)))),[]):=by kernel_rfl
theorem G3h (x:F6) (y:F6):(F6v x y:F6)=x*y:=
 F6w x y
theorem D8o (x0 x1 x2 x3 x4 x5:Fp) (y0 y1 y2 y3 y4 y5:Fp):FnD Tryz.prog 94 [.v (.a [.ob (.p x0),.ob (.p x1),.ob (.p x2),.ob (.p x3),.ob (.p x4),.ob (.p x5)]),.v (.a [.ob (.p y0),.ob (.p y1),.ob (.p y2),.ob (.p y3),.ob (.p y4),.ob (.p y5)])] (.v (.a (f6I ((⟨(x0,x1),(x2,x3),(x4,x5)⟩:F6)*(⟨(y0,y1),(y2,y3),(y4,y5)⟩:F6))))) []:=by
 have r:=G3i x0 x1 x2 x3 x4 x5 y0 y1 y2 y3 y4 y5;rw[G3h] at r;exact A5 B1d Tryz.func94 r trivial
def A6w:B2
 | [.v (.a [.ob (.p x0),.ob (.p x1),.ob (.p x2),.ob (.p x3),.ob (.p x4),.ob (.p x5)]),.v (.a [.ob (.p y0),.ob (.p y1),.ob (.p y2),.ob (.p y3),.ob (.p y4),.ob (.p y5)])]=>some ([],.v (.a (f6I ((⟨(x0,x1),(x2,x3),(x4,x5)⟩:F6)*(⟨(y0,y1),(y2,y3),(y4,y5)⟩:F6)))),[])
 | _=>none
def uxH:Env:=uxG.set (C6 uxG.fn 94 A6w)
theorem I2i:A9 Tryz.prog uxH:=A8 I2h 94 A6w (A4 Tryz.func94 rfl rfl) fun args o r es h _=>by
 unfold A6w at h;split at h
 ·cases h;exact D8o _ _ _ _ _ _ _ _ _ _ _ _
 ·cases h
theorem H1y (x0 x1 x2 x3 x4 x5:Fp):B5 uxD Tryz.f96 3000 [.v (.a [.ob (.p x0),.ob (.p x1),.ob (.p x2),.ob (.p x3),.ob (.p x4),.ob (.p x5)])] [] [] []=some ([],.v (.a (f6I (⟨Nrs.xi*(⟨(x0,x1),(x2,x3),(x4,x5)⟩:F6).c,(⟨(x0,x1),(x2,x3),(x4,x5)⟩:F6).a,(⟨(x0,x1),(x2,x3),(x4,x5)⟩:F6).b⟩))),[]):=by kernel_rfl
theorem H1x (x:F6):(⟨Nrs.xi*x.c,x.a,x.b⟩:F6)=Nrs.xi*x:=
 I7b x
theorem E2x (x0 x1 x2 x3 x4 x5:Fp):FnD Tryz.prog 96 [.v (.a [.ob (.p x0),.ob (.p x1),.ob (.p x2),.ob (.p x3),.ob (.p x4),.ob (.p x5)])] (.v (.a (f6I (Nrs.xi*(⟨(x0,x1),(x2,x3),(x4,x5)⟩:F6))))) []:=by
 have r:=H1y x0 x1 x2 x3 x4 x5;rw[H1x] at r;exact A5 B1d Tryz.func96 r trivial
def B0v:B2
 | [.v (.a [.ob (.p x0),.ob (.p x1),.ob (.p x2),.ob (.p x3),.ob (.p x4),.ob (.p x5)])]=>some ([],.v (.a (f6I (Nrs.xi*(⟨(x0,x1),(x2,x3),(x4,x5)⟩:F6)))),[])
 | _=>none
def uxI:Env:=uxH.set (C6 uxH.fn 96 B0v)
theorem I2j:A9 Tryz.prog uxI:=A8 I2i 96 B0v (A4 Tryz.func96 rfl rfl) fun args o r es h _=>by
 unfold B0v at h;split at h
 ·cases h;exact E2x _ _ _ _ _ _
 ·cases h
theorem H6i (x0 x1 x2 x3 x4 x5:Fp):B5 uxD Tryz.f114 3000 [.v (.a [.ob (.p x0),.ob (.p x1),.ob (.p x2),.ob (.p x3),.ob (.p x4),.ob (.p x5)])] [] [] []=some ([],.v (.a (f6I (B2j (⟨(x0,x1),(x2,x3),(x4,x5)⟩:F6)))),[]):=by kernel_rfl
def B4s:B2
 | [.v (.a [.ob (.p x0),.ob (.p x1),.ob (.p x2),.ob (.p x3),.ob (.p x4),.ob (.p x5)])]=>some ([],.v (.a (f6I (B2j (⟨(x0,x1),(x2,x3),(x4,x5)⟩:F6)))),[])
 | _=>none
def uxJ:Env:=uxI.set (C6 uxI.fn 114 B4s)
theorem D3n:A9 Tryz.prog uxJ:=A8 I2j 114 B4s (A4 Tryz.func114 rfl rfl) fun args o r es h _=>by
 unfold B4s at h;split at h
 ·cases h;exact A5 B1d Tryz.func114 (H6i _ _ _ _ _ _) trivial
 ·cases h
theorem F1i (x0 x1 x2 x3 x4 x5 x6 x7 x8 x9 x10 x11:Fp) (y0 y1 y2 y3 y4 y5 y6 y7 y8 y9 y10 y11:Fp):B5 uxJ Tryz.f52 3000 [.v (.a [.ob (.p x0),.ob (.p x1),.ob (.p x2),.ob (.p x3),.ob (.p x4),.ob (.p x5),.ob (.p x6),.ob (.p x7),.ob (.p x8),.ob (.p x9),.ob (.p x10),.ob (.p x11)]),.v (.a [.ob (.p y0),.ob (.p y1),.ob (.p y2),.ob (.p y3),.ob (.p y4),.ob (.p y5),.ob (.p y6),.ob (.p y7),.ob (.p y8),.ob (.p y9),.ob (.p y10),.ob (.p y11)])] [] [] []=some ([],.v (.a (E5 (F6t (⟨⟨(x0,x1),(x2,x3),(x4,x5)⟩,⟨(x6,x7),(x8,x9),(x10,x11)⟩⟩:F12) (⟨⟨(y0,y1),(y2,y3),(y4,y5)⟩,⟨(y6,y7),(y8,y9),(y10,y11)⟩⟩:F12)))),[]):=by kernel_rfl
theorem F1h (x:F12) (y:F12):(F6t x y:F12)=x*y:=
 F6u x y
theorem D3h (x0 x1 x2 x3 x4 x5 x6 x7 x8 x9 x10 x11:Fp) (y0 y1 y2 y3 y4 y5 y6 y7 y8 y9 y10 y11:Fp):FnD Tryz.prog 52 [.v (.a [.ob (.p x0),.ob (.p x1),.ob (.p x2),.ob (.p x3),.ob (.p x4),.ob (.p x5),.ob (.p x6),.ob (.p x7),.ob (.p x8),.ob (.p x9),.ob (.p x10),.ob (.p x11)]),.v (.a [.ob (.p y0),.ob (.p y1),.ob (.p y2),.ob (.p y3),.ob (.p y4),.ob (.p y5),.ob (.p y6),.ob (.p y7),.ob (.p y8),.ob (.p y9),.ob (.p y10),.ob (.p y11)])] (.v (.a (E5 ((⟨⟨(x0,x1),(x2,x3),(x4,x5)⟩,⟨(x6,x7),(x8,x9),(x10,x11)⟩⟩:F12)*(⟨⟨(y0,y1),(y2,y3),(y4,y5)⟩,⟨(y6,y7),(y8,y9),(y10,y11)⟩⟩:F12))))) []:=by
 have r:=F1i x0 x1 x2 x3 x4 x5 x6 x7 x8 x9 x10 x11 y0 y1 y2 y3 y4 y5 y6 y7 y8 y9 y10 y11;rw[F1h] at r;exact A5 D3n Tryz.func52 r trivial
def A4t:B2
 | [.v (.a [.ob (.p x0),.ob (.p x1),.ob (.p x2),.ob (.p x3),.ob (.p x4),.ob (.p x5),.ob (.p x6),.ob (.p x7),.ob (.p x8),.ob (.p x9),.ob (.p x10),.ob (.p x11)]),.v (.a [.ob (.p y0),.ob (.p y1),.ob (.p y2),.ob (.p y3),.ob (.p y4),.ob (.p y5),.ob (.p y6),.ob (.p y7),.ob (.p y8),.ob (.p y9),.ob (.p y10),.ob (.p y11)])]=>some ([],.v (.a (E5 ((⟨⟨(x0,x1),(x2,x3),(x4,x5)⟩,⟨(x6,x7),(x8,x9),(x10,x11)⟩⟩:F12)*(⟨⟨(y0,y1),(y2,y3),(y4,y5)⟩,⟨(y6,y7),(y8,y9),(y10,y11)⟩⟩:F12)))),[])
 | _=>none
def uxK:Env:=uxJ.set (C6 uxJ.fn 52 A4t)
theorem I2k:A9 Tryz.prog uxK:=A8 D3n 52 A4t (A4 Tryz.func52 rfl rfl) fun args o r es h _=>by
 unfold A4t at h;split at h
 ·cases h;exact D3h _ _ _ _ _ _ _ _ _ _ _ _ _ _ _ _ _ _ _ _ _ _ _ _
 ·cases h
theorem F3l (x0 x1 x2 x3 x4 x5 x6 x7 x8 x9 x10 x11:Fp):B5 uxJ Tryz.f69 3000 [.v (.a [.ob (.p x0),.ob (.p x1),.ob (.p x2),.ob (.p x3),.ob (.p x4),.ob (.p x5),.ob (.p x6),.ob (.p x7),.ob (.p x8),.ob (.p x9),.ob (.p x10),.ob (.p x11)])] [] [] []=some ([],.v (.a (E5 (cjp (⟨⟨(x0,x1),(x2,x3),(x4,x5)⟩,⟨(x6,x7),(x8,x9),(x10,x11)⟩⟩:F12)))),[]):=by kernel_rfl
def A5m:B2
 | [.v (.a [.ob (.p x0),.ob (.p x1),.ob (.p x2),.ob (.p x3),.ob (.p x4),.ob (.p x5),.ob (.p x6),.ob (.p x7),.ob (.p x8),.ob (.p x9),.ob (.p x10),.ob (.p x11)])]=>some ([],.v (.a (E5 (cjp (⟨⟨(x0,x1),(x2,x3),(x4,x5)⟩,⟨(x6,x7),(x8,x9),(x10,x11)⟩⟩:F12)))),[])
 | _=>none
def uxL:Env:=uxK.set (C6 uxK.fn 69 A5m)
theorem I2l:A9 Tryz.prog uxL:=A8 I2k 69 A5m (A4 Tryz.func69 rfl rfl) fun args o r es h _=>by
 unfold A5m at h;split at h
 ·cases h;exact A5 D3n Tryz.func69 (F3l _ _ _ _ _ _ _ _ _ _ _ _) trivial
 ·cases h
theorem G7r (x0 x1 x2 x3 x4 x5 x6 x7 x8 x9 x10 x11:Fp):B5 uxJ Tryz.f70 3000 [.v (.a [.ob (.p x0),.ob (.p x1),.ob (.p x2),.ob (.p x3),.ob (.p x4),.ob (.p x5),.ob (.p x6),.ob (.p x7),.ob (.p x8),.ob (.p x9),.ob (.p x10),.ob (.p x11)])] [] [] []=some ([],.v (.a (E5 (ivp (⟨⟨(x0,x1),(x2,x3),(x4,x5)⟩,⟨(x6,x7),(x8,x9),(x10,x11)⟩⟩:F12)))),[]):=by kernel_rfl
def A9h:B2
 | [.v (.a [.ob (.p x0),.ob (.p x1),.ob (.p x2),.ob (.p x3),.ob (.p x4),.ob (.p x5),.ob (.p x6),.ob (.p x7),.ob (.p x8),.ob (.p x9),.ob (.p x10),.ob (.p x11)])]=>some ([],.v (.a (E5 (ivp (⟨⟨(x0,x1),(x2,x3),(x4,x5)⟩,⟨(x6,x7),(x8,x9),(x10,x11)⟩⟩:F12)))),[])
 | _=>none
def uxM:Env:=uxL.set (C6 uxL.fn 70 A9h)
theorem A3f:A9 Tryz.prog uxM:=A8 I2l 70 A9h (A4 Tryz.func70 rfl rfl) fun args o r es h _=>by
 unfold A9h at h;split at h
 ·cases h;exact A5 D3n Tryz.func70 (G7r _ _ _ _ _ _ _ _ _ _ _ _) trivial
 ·cases h
end

section

def I7o:List Int:=[1,0,0,0,0,0,0,0,0,0,0,0,10162220747404304312,17761815663483519293,8873291758750579140,1141103941765652303,13993175198059990303,1802798568193066599,3240210268673559283,2895069921743240898,17009126888523054175,6098234018649060207,9865672654120263608,71000049454473266,0,0,0,0,0,0,10087218740379822764,4653388206581612541,9907120269317136283,12253596935368579796,17006226088849104517,1873798617647539865,14416168624775744521,17178867732698629620,8644499054833844677,5204293836692734814,7508032112903159806,481619096434065419,14416168624775744521,17178867732698629620,8644499054833844677,5204293836692734814,7508032112903159806,481619096434065419,10087218740379822765,4653388206581612541,9907120269317136283,12253596935368579796,17006226088849104517,1873798617647539865,0,0,0,0,0,0,11175958356102185238,14283797810955388722,10082116240020342118,17552803891753226222,16089103532492447813,410619046979592152,2226472659975678357,6373087774271371469,15800302407253291197,8133278142371037904,7769744319687806097,1463179570667947713]
def C8d (k:Int):List Prop:=(I7o.flatMap fun n=>[0<=n,n<18446744073709551616])++[0<=k,k<6]
theorem C5p (e:List Prop) (he:B1 e):∀l:List Int,(l.all fun n=>decide (0<=n) && decide (n<18446744073709551616))=true->B1 ((l.flatMap fun n:Int=>[0<=n,n<18446744073709551616])++e)
 | [],_=>he
 | n::l,h=>by
  simp only[List.all_cons,Bool.and_eq_true,decide_eq_true_eq] at h;exact ⟨h.1.1,h.1.2,C5p e he l h.2⟩
theorem D8p (k:Int) (h1:1<=k) (h2:k<=5):B1 (C8d k):=C5p [0<=k,k<6] ⟨by omega,by omega,trivial⟩ I7o (by decide)
/-- u and 1, to the power of i (p - 1) / 6. -/
def tur (i:Int):F2:=
 if i=1 then (Fin.ofNat pN 3850754370037169011952147076051364057158807420970682438676050522613628423219637725072182697113062777891589506424760,Fin.ofNat pN 151655185184498381465642749684540099398075398968325446656007613510403227271200139370504932015952886146304766135027) else
 if i=2 then (Fin.ofNat pN 0,Fin.ofNat pN 4002409555221667392624310435006688643935503118305586438271171395842971157480381377015405980053539358417135540939436) else
 if i=3 then (Fin.ofNat pN 1028732146235106349975324479215795277384839936929757896155643118032610843298655225875571310552543014690878354869257,Fin.ofNat pN 1028732146235106349975324479215795277384839936929757896155643118032610843298655225875571310552543014690878354869257) else
 if i=4 then (Fin.ofNat pN 4002409555221667392624310435006688643935503118305586438271171395842971157480381377015405980053539358417135540939437,Fin.ofNat pN 0) else
 if i=5 then (Fin.ofNat pN 877076961050607968509681729531255177986764537961432449499635504522207616027455086505066378536590128544573588734230,Fin.ofNat pN 3125332594171059424908108096204648978570118281977575435832422631601824034463382777937621250592425535493320683825557) else 1
abbrev V6:=E3 (U6×U6)
abbrev V12:=E2 V6
def v6I (x:V6):List It:=[.ob (.fp x.a.1),.ob (.fp x.a.2),.ob (.fp x.b.1),.ob (.fp x.b.2),.ob (.fp x.c.1),.ob (.fp x.c.2)]
def I7r (x:V12):List It:=[.ob (.fp x.a.a.1),.ob (.fp x.a.a.2),.ob (.fp x.a.b.1),.ob (.fp x.a.b.2),.ob (.fp x.a.c.1),.ob (.fp x.a.c.2),.ob (.fp x.b.a.1),.ob (.fp x.b.a.2),.ob (.fp x.b.b.1),.ob (.fp x.b.b.2),.ob (.fp x.b.c.1),.ob (.fp x.b.c.2)]
def G9x (x:F6):V6:=⟨G0f x.a,G0f x.b,G0f x.c⟩
def in6 (x:V6):F6:=⟨G3 x.a.1 x.a.2,G3 x.b.1 x.b.2,G3 x.c.1 x.c.2⟩
def C2v (x:F12):V12:=⟨G9x x.a,G9x x.b⟩
def H6e (x:V12):F12:=⟨in6 x.a,in6 x.b⟩
/-- The power of p. -/
def frb (x:F12):F12:=⟨⟨cj2 x.a.a,cj2 x.a.b*tur 2,cj2 x.a.c*tur 4⟩,⟨cj2 x.b.a*tur 1,cj2 x.b.b*tur 3,cj2 x.b.c*tur 5⟩⟩
def lin (a b c:F2):F12:=⟨⟨a,b,0⟩,⟨0,c,0⟩⟩
/-- The line that touches; the line through two. -/
def tch (t:F2×F2×F2) (x y:Fp):F12:=
 lin ((t.1*t.1+t.1*t.1+t.1*t.1)*t.1-t.2.1*t.2.1-t.2.1*t.2.1) (0-scl ((t.1*t.1+t.1*t.1+t.1*t.1)*(t.2.2*t.2.2)) x) (scl (t.2.1*(t.2.2*t.2.2)*t.2.2+t.2.1*(t.2.2*t.2.2)*t.2.2) y)
def thh (t q:F2×F2×F2):F2:=(q.1*(t.2.2*t.2.2)-t.1)*t.2.2
def H3x (t q:F2×F2×F2):F2:=q.2.1*(t.2.2*t.2.2)*t.2.2-t.2.1
def thg (t q:F2×F2×F2) (x y:Fp):F12:=lin (H3x t q*q.1-q.2.1*thh t q) (0-scl (H3x t q) x) (scl (thh t q) y)
theorem H8i:B5 uxM Tryz.f51 3000 [] [] [] []=some ([0<=(1:Int),(1:Int)<18446744073709551616],.v (.a (E5 1)),[]):=by kernel_rfl
def B5j:B2
 | []=>some ([],.v (.a (E5 1)),[])
 | _=>none
def uxN:Env:=uxM.set (C6 uxM.fn 51 B5j)
theorem I2m:A9 Tryz.prog uxN:=A8 A3f 51 B5j (A4 Tryz.func51 rfl rfl) fun args o r es h _=>by
 unfold B5j at h;split at h
 ·cases h;exact A5 A3f Tryz.func51 H8i ⟨by decide,by decide,trivial⟩
 ·cases h
theorem I1q:B5 uxM Tryz.f116 3000 [.v (.c (.int .i64 1))] [] [] []=some (C8d 1,.v (.a (f2I (tur 1))),[]):=by kernel_rfl
theorem I1r:B5 uxM Tryz.f116 3000 [.v (.c (.int .i64 2))] [] [] []=some (C8d 2,.v (.a (f2I (tur 2))),[]):=by kernel_rfl
theorem I1s:B5 uxM Tryz.f116 3000 [.v (.c (.int .i64 3))] [] [] []=some (C8d 3,.v (.a (f2I (tur 3))),[]):=by kernel_rfl
theorem I1t:B5 uxM Tryz.f116 3000 [.v (.c (.int .i64 4))] [] [] []=some (C8d 4,.v (.a (f2I (tur 4))),[]):=by kernel_rfl
theorem I1u:B5 uxM Tryz.f116 3000 [.v (.c (.int .i64 5))] [] [] []=some (C8d 5,.v (.a (f2I (tur 5))),[]):=by kernel_rfl
theorem G3m (i:Int) (h1:1<=i) (h2:i<=5):FnD Tryz.prog 116 [.v (.c (.int .i64 i))] (.v (.a (f2I (tur i)))) []:=by
 rcases (by omega:i=1∨i=2∨i=3∨i=4∨i=5) with rfl | rfl | rfl | rfl | rfl
 ·exact A5 A3f Tryz.func116 I1q (D8p _ h1 h2)
 ·exact A5 A3f Tryz.func116 I1r (D8p _ h1 h2)
 ·exact A5 A3f Tryz.func116 I1s (D8p _ h1 h2)
 ·exact A5 A3f Tryz.func116 I1t (D8p _ h1 h2)
 ·exact A5 A3f Tryz.func116 I1u (D8p _ h1 h2)
def C4k:B2
 | [.v (.c (.int .i64 i))]=>some ([1<=i,i<=5],.v (.a (f2I (tur i))),[])
 | _=>none
def uxO:Env:=uxN.set (C6 uxN.fn 116 C4k)
theorem I2n:A9 Tryz.prog uxO:=A8 I2m 116 C4k (A4 Tryz.func116 rfl rfl) fun args o r es h ho=>by
 unfold C4k at h;split at h
 ·cases h;exact G3m _ ho.1 ho.2.1
 ·cases h
theorem H8l (x0 x1 x2 x3 x4 x5:Fp):B5 uxM Tryz.f74 3000 [.v (.a [.ob (.p x0),.ob (.p x1),.ob (.p x2),.ob (.p x3),.ob (.p x4),.ob (.p x5)])] [] [] []=some ([],.v (.a (v6I (G9x (⟨(x0,x1),(x2,x3),(x4,x5)⟩:F6)))),[]):=by kernel_rfl
def B5m:B2
 | [.v (.a [.ob (.p x0),.ob (.p x1),.ob (.p x2),.ob (.p x3),.ob (.p x4),.ob (.p x5)])]=>some ([],.v (.a (v6I (G9x (⟨(x0,x1),(x2,x3),(x4,x5)⟩:F6)))),[])
 | _=>none
def uxP:Env:=uxO.set (C6 uxO.fn 74 B5m)
theorem I2o:A9 Tryz.prog uxP:=A8 I2n 74 B5m (A4 Tryz.func74 rfl rfl) fun args o r es h _=>by
 unfold B5m at h;split at h
 ·cases h;exact A5 A3f Tryz.func74 (H8l _ _ _ _ _ _) trivial
 ·cases h
theorem I5b (x0 x1 x2 x3 x4 x5:U6):B5 uxM Tryz.f122 3000 [.v (.a [.ob (.fp x0),.ob (.fp x1),.ob (.fp x2),.ob (.fp x3),.ob (.fp x4),.ob (.fp x5)])] [] [] []=some ([],.v (.a (f6I (in6 (⟨(x0,x1),(x2,x3),(x4,x5)⟩:V6)))),[]):=by kernel_rfl
def C1n:B2
 | [.v (.a [.ob (.fp x0),.ob (.fp x1),.ob (.fp x2),.ob (.fp x3),.ob (.fp x4),.ob (.fp x5)])]=>some ([],.v (.a (f6I (in6 (⟨(x0,x1),(x2,x3),(x4,x5)⟩:V6)))),[])
 | _=>none
def uxQ:Env:=uxP.set (C6 uxP.fn 122 C1n)
theorem I2p:A9 Tryz.prog uxQ:=A8 I2o 122 C1n (A4 Tryz.func122 rfl rfl) fun args o r es h _=>by
 unfold C1n at h;split at h
 ·cases h;exact A5 A3f Tryz.func122 (I5b _ _ _ _ _ _) trivial
 ·cases h
theorem H7d (x0 x1:Fp) (y0 y1:Fp) (z0 z1:Fp):B5 uxM Tryz.f136 3000 [.v (.a [.ob (.p x0),.ob (.p x1)]),.v (.a [.ob (.p y0),.ob (.p y1)]),.v (.a [.ob (.p z0),.ob (.p z1)])] [] [] []=some ([],.v (.a (E5 (lin ((x0,x1):F2) ((y0,y1):F2) ((z0,z1):F2)))),[]):=by kernel_rfl
def B4w:B2
 | [.v (.a [.ob (.p x0),.ob (.p x1)]),.v (.a [.ob (.p y0),.ob (.p y1)]),.v (.a [.ob (.p z0),.ob (.p z1)])]=>some ([],.v (.a (E5 (lin ((x0,x1):F2) ((y0,y1):F2) ((z0,z1):F2)))),[])
 | _=>none
def uxR:Env:=uxQ.set (C6 uxQ.fn 136 B4w)
theorem B6h:A9 Tryz.prog uxR:=A8 I2p 136 B4w (A4 Tryz.func136 rfl rfl) fun args o r es h _=>by
 unfold B4w at h;split at h
 ·cases h;exact A5 A3f Tryz.func136 (H7d _ _ _ _ _ _) trivial
 ·cases h
theorem G9w (x0 x1 x2 x3 x4 x5 x6 x7 x8 x9 x10 x11:Fp):B5 uxR Tryz.f37 3000 [.v (.a [.ob (.p x0),.ob (.p x1),.ob (.p x2),.ob (.p x3),.ob (.p x4),.ob (.p x5),.ob (.p x6),.ob (.p x7),.ob (.p x8),.ob (.p x9),.ob (.p x10),.ob (.p x11)])] [] [] []=some ([],.v (.a (I7r (C2v (⟨⟨(x0,x1),(x2,x3),(x4,x5)⟩,⟨(x6,x7),(x8,x9),(x10,x11)⟩⟩:F12)))),[]):=by kernel_rfl
def B0a:B2
 | [.v (.a [.ob (.p x0),.ob (.p x1),.ob (.p x2),.ob (.p x3),.ob (.p x4),.ob (.p x5),.ob (.p x6),.ob (.p x7),.ob (.p x8),.ob (.p x9),.ob (.p x10),.ob (.p x11)])]=>some ([],.v (.a (I7r (C2v (⟨⟨(x0,x1),(x2,x3),(x4,x5)⟩,⟨(x6,x7),(x8,x9),(x10,x11)⟩⟩:F12)))),[])
 | _=>none
def uxS:Env:=uxR.set (C6 uxR.fn 37 B0a)
theorem I2q:A9 Tryz.prog uxS:=A8 B6h 37 B0a (A4 Tryz.func37 rfl rfl) fun args o r es h _=>by
 unfold B0a at h;split at h
 ·cases h;exact A5 B6h Tryz.func37 (G9w _ _ _ _ _ _ _ _ _ _ _ _) trivial
 ·cases h
theorem H6f (x0 x1 x2 x3 x4 x5 x6 x7 x8 x9 x10 x11:U6):B5 uxR Tryz.f87 3000 [.v (.a [.ob (.fp x0),.ob (.fp x1),.ob (.fp x2),.ob (.fp x3),.ob (.fp x4),.ob (.fp x5),.ob (.fp x6),.ob (.fp x7),.ob (.fp x8),.ob (.fp x9),.ob (.fp x10),.ob (.fp x11)])] [] [] []=some ([],.v (.a (E5 (H6e (⟨⟨(x0,x1),(x2,x3),(x4,x5)⟩,⟨(x6,x7),(x8,x9),(x10,x11)⟩⟩:V12)))),[]):=by kernel_rfl
def B4q:B2
 | [.v (.a [.ob (.fp x0),.ob (.fp x1),.ob (.fp x2),.ob (.fp x3),.ob (.fp x4),.ob (.fp x5),.ob (.fp x6),.ob (.fp x7),.ob (.fp x8),.ob (.fp x9),.ob (.fp x10),.ob (.fp x11)])]=>some ([],.v (.a (E5 (H6e (⟨⟨(x0,x1),(x2,x3),(x4,x5)⟩,⟨(x6,x7),(x8,x9),(x10,x11)⟩⟩:V12)))),[])
 | _=>none
def uxT:Env:=uxS.set (C6 uxS.fn 87 B4q)
theorem I2r:A9 Tryz.prog uxT:=A8 I2q 87 B4q (A4 Tryz.func87 rfl rfl) fun args o r es h _=>by
 unfold B4q at h;split at h
 ·cases h;exact A5 B6h Tryz.func87 (H6f _ _ _ _ _ _ _ _ _ _ _ _) trivial
 ·cases h
theorem H5r (x0 x1 x2 x3 x4 x5 x6 x7 x8 x9 x10 x11:Fp):B5 uxR Tryz.f71 3000 [.v (.a [.ob (.p x0),.ob (.p x1),.ob (.p x2),.ob (.p x3),.ob (.p x4),.ob (.p x5),.ob (.p x6),.ob (.p x7),.ob (.p x8),.ob (.p x9),.ob (.p x10),.ob (.p x11)])] [] [] []=some ([1<=(2:Int),(2:Int)<=5,1<=(4:Int),(4:Int)<=5,1<=(1:Int),(1:Int)<=5,1<=(3:Int),(3:Int)<=5,1<=(5:Int),(5:Int)<=5],.v (.a (E5 (frb (⟨⟨(x0,x1),(x2,x3),(x4,x5)⟩,⟨(x6,x7),(x8,x9),(x10,x11)⟩⟩:F12)))),[]):=by kernel_rfl
def B4p:B2
 | [.v (.a [.ob (.p x0),.ob (.p x1),.ob (.p x2),.ob (.p x3),.ob (.p x4),.ob (.p x5),.ob (.p x6),.ob (.p x7),.ob (.p x8),.ob (.p x9),.ob (.p x10),.ob (.p x11)])]=>some ([],.v (.a (E5 (frb (⟨⟨(x0,x1),(x2,x3),(x4,x5)⟩,⟨(x6,x7),(x8,x9),(x10,x11)⟩⟩:F12)))),[])
 | _=>none
def uxU:Env:=uxT.set (C6 uxT.fn 71 B4p)
theorem I2s:A9 Tryz.prog uxU:=A8 I2r 71 B4p (A4 Tryz.func71 rfl rfl) fun args o r es h _=>by
 unfold B4p at h;split at h
 ·cases h;exact A5 B6h Tryz.func71 (H5r _ _ _ _ _ _ _ _ _ _ _ _) ⟨by decide,by decide,by decide,by decide,by decide,by decide,by decide,by decide,by decide,by decide,trivial⟩
 ·cases h
theorem H2l (x0 x1 x2 x3 x4 x5:Fp) (y0:Fp) (z0:Fp):B5 uxR Tryz.f118 3000 [.v (.a [.ob (.p x0),.ob (.p x1),.ob (.p x2),.ob (.p x3),.ob (.p x4),.ob (.p x5)]),.v (.a [.ob (.p y0)]),.v (.a [.ob (.p z0)])] [] [] []=some ([],.v (.a (E5 (tch ((x0,x1),(x2,x3),(x4,x5)) y0 z0))),[]):=by kernel_rfl
def B1b:B2
 | [.v (.a [.ob (.p x0),.ob (.p x1),.ob (.p x2),.ob (.p x3),.ob (.p x4),.ob (.p x5)]),.v (.a [.ob (.p y0)]),.v (.a [.ob (.p z0)])]=>some ([],.v (.a (E5 (tch ((x0,x1),(x2,x3),(x4,x5)) y0 z0))),[])
 | _=>none
def uxV:Env:=uxU.set (C6 uxU.fn 118 B1b)
theorem I2t:A9 Tryz.prog uxV:=A8 I2s 118 B1b (A4 Tryz.func118 rfl rfl) fun args o r es h _=>by
 unfold B1b at h;split at h
 ·cases h;exact A5 B6h Tryz.func118 (H2l _ _ _ _ _ _ _ _) trivial
 ·cases h
theorem I1k (x0 x1 x2 x3 x4 x5:Fp) (y0 y1 y2 y3 y4 y5:Fp) (z0:Fp) (w0:Fp):B5 uxR Tryz.f119 3000 [.v (.a [.ob (.p x0),.ob (.p x1),.ob (.p x2),.ob (.p x3),.ob (.p x4),.ob (.p x5)]),.v (.a [.ob (.p y0),.ob (.p y1),.ob (.p y2),.ob (.p y3),.ob (.p y4),.ob (.p y5)]),.v (.a [.ob (.p z0)]),.v (.a [.ob (.p w0)])] [] [] []=some ([],.v (.a (E5 (thg ((x0,x1),(x2,x3),(x4,x5)) ((y0,y1),(y2,y3),(y4,y5)) z0 w0))),[]):=by kernel_rfl
def B6d:B2
 | [.v (.a [.ob (.p x0),.ob (.p x1),.ob (.p x2),.ob (.p x3),.ob (.p x4),.ob (.p x5)]),.v (.a [.ob (.p y0),.ob (.p y1),.ob (.p y2),.ob (.p y3),.ob (.p y4),.ob (.p y5)]),.v (.a [.ob (.p z0)]),.v (.a [.ob (.p w0)])]=>some ([],.v (.a (E5 (thg ((x0,x1),(x2,x3),(x4,x5)) ((y0,y1),(y2,y3),(y4,y5)) z0 w0))),[])
 | _=>none
def uxW:Env:=uxV.set (C6 uxV.fn 119 B6d)
theorem B1e:A9 Tryz.prog uxW:=A8 I2t 119 B6d (A4 Tryz.func119 rfl rfl) fun args o r es h _=>by
 unfold B6d at h;split at h
 ·cases h;exact A5 B6h Tryz.func119 (I1k _ _ _ _ _ _ _ _ _ _ _ _ _ _) trivial
 ·cases h
end

section
section
variable {w0:World} {F0:Nat->Prop} {K:Kp} {ac:List Act} {Q:Exit->Act->World->Prop} {cX:Ctx} {aX:Act}

instance inhF12:Inhabited F12:=⟨1⟩
theorem D1b (v : Value) (w : World) : (method (Tryz.prog.types.size + Made.depth) 83 v "Times").run Tryz.prog w = .ok (52, v) w := by kernel_rfl
def E0r (T : Nat → Option (List (String × Nat))) (t : Nat) : Option (List (String × Nat)) := if t = 83 then some [("Times", 52)] else T t
def uyA:Env:={ uxW with inv:=E0r uxW.inv }
theorem B1f:A9 Tryz.prog uyA:=by
 refine ⟨B1e.ty,B1e.mixed,B1e.fn,B1e.mu,B1e.inl,B1e.ex,fun t l h=>?_⟩
 have h:E0r uxW.inv t=some l:=h;unfold E0r at h;split at h
 ·rename_i ht
  cases h
  subst ht;refine ⟨by kernel_rfl,fun name g hg v args w=>?_⟩
  unfold A0m at hg;split at hg
  ·rename_i hn
   cases hg
   subst hn;simp only[callMethod,Sem.run_bind,run_program,Result.andThen_ok,D1b]
  cases hg
 ·exact B1e.inv t l h
def D2c:List KI:=(run uyA false 3000 (⟨[.code (B9 Tryz.f117)],.normal,D7 Tryz.f117.ntmps [.v (.a (E5 dF)),.v (.a (E5 dF)),.v (.c (.sl (.u64 dF)))]⟩:Cfg) []).cfg.k
theorem pq (a u:F12) (e:List Int):let b:Fp:=0;B1 []->Sg Tryz.prog (D7 Tryz.f117.ntmps [.v (.a (E5 a)),.v (.a (E5 u)),.v (.c (.sl (.u64 e)))]) (B0 23 [3,6,7,11] [.pt 16 0,.pt 48 0,.pt 80 0,(.ci (.clo 123 [(128,0)]))] [16,48,80,128] [(eF_ (E5 a)),(eF_ [(.ob (.p b)),(.ob (.p b)),(.ob (.p b)),(.ob (.p b)),(.ob (.p b)),(.ob (.p b)),(.ob (.p b)),(.ob (.p b)),(.ob (.p b)),(.ob (.p b)),(.ob (.p b)),(.ob (.p b))]),(eF_ (E5 u)),(eF_ [.sl (.u64 e)])] 192 [] []) .normal (D2c) ([.code (B9 Tryz.f117)]):=sgA false 3000 [] B1f
def pqS (a:F12) (e:List Int) (o:F12):St:=B0 23 [3,6,7,11] [.pt 16 0,.pt 48 0,.pt 80 0,(.ci (.clo 123 [(128,0)]))] [16,48,80,128] [(eF_ (E5 a)),(eF_ [(.ob (.p (0:Fp))),(.ob (.p (0:Fp))),(.ob (.p (0:Fp))),(.ob (.p (0:Fp))),(.ob (.p (0:Fp))),(.ob (.p (0:Fp))),(.ob (.p (0:Fp))),(.ob (.p (0:Fp))),(.ob (.p (0:Fp))),(.ob (.p (0:Fp))),(.ob (.p (0:Fp))),(.ob (.p (0:Fp)))]),some (.fl (E5 o)),(eF_ [.sl (.u64 e)])] 192 [] []
theorem pqA (a:F12) (e:List Int) (o:F12) (z:Bool) {ρ:Option Nat}:let b:Fp:=0;(B1 [])->(Sim w0 F0 K ac (X5 (pqS a e o) [(12,.v (.c (.bool z)))]) cX aX)->(∀cY aY,Sim w0 F0 K ac (B0 23 [3,6,7,8] [.pt 16 0,.pt 48 0,.pt 80 0,(.ci (.bool z))] [16,48,80,128] [(eF_ (E5 a)),(eF_ [(.ob (.p b)),(.ob (.p b)),(.ob (.p b)),(.ob (.p b)),(.ob (.p b)),(.ob (.p b)),(.ob (.p b)),(.ob (.p b)),(.ob (.p b)),(.ob (.p b)),(.ob (.p b)),(.ob (.p b))]),(eF_ (E5 o)),(eF_ [.sl (.u64 e)])] 208 [[3,6,7,11]] [([.pt 16 0,.pt 48 0,.pt 80 0,(.ci (.clo 123 [(128,0)]))],23)]) cY aY->Wq Tryz.prog Q ([]) ac Exit.normal aY cY.w ρ)->Wq Tryz.prog Q ([.code (rfA D2c)]) ac .normal aX cX.w ρ :=fun ho hs hK=>
 G8 (unroll:=false) (n:=3000) (path:=[]) (o:=⟨_,_,_,_,_,_,_⟩) B1f (by kernel_rfl) (by kernel_rfl) ho (by kernel_rfl) (by kernel_rfl) hs hK
def pqB (a:F12) (e:List Int) (o:F12) (z:Bool):St:=B0 23 [3,6,7,8] [.pt 16 0,.pt 48 0,.pt 80 0,(.ci (.bool z))] [16,48,80,128] [(eF_ (E5 a)),(eF_ [(.ob (.p (0:Fp))),(.ob (.p (0:Fp))),(.ob (.p (0:Fp))),(.ob (.p (0:Fp))),(.ob (.p (0:Fp))),(.ob (.p (0:Fp))),(.ob (.p (0:Fp))),(.ob (.p (0:Fp))),(.ob (.p (0:Fp))),(.ob (.p (0:Fp))),(.ob (.p (0:Fp))),(.ob (.p (0:Fp)))]),some (.fl (E5 o)),(eF_ [.sl (.u64 e)])] 208 [[3,6,7,11]] [([.pt 16 0,.pt 48 0,.pt 80 0,(.ci (.clo 123 [(128,0)]))],23)]
theorem pqC (a:F12) (e:List Int) (o:F12) (z:Bool) {ρ:Option Nat}:let d:Fp:=0;let f:=E2.a a;let g:=E2.b a;(B1 [(z=true)])->(Sim w0 F0 K ac (pqB a e o z) cX aX)->(∀cY aY,Sim w0 F0 K ac (B0 23 [6] [.pt 48 0] [16,48,80,128] [(eF_ (E5 a)),(eF_ [(.ob (.p d)),(.ob (.p d)),(.ob (.p d)),(.ob (.p d)),(.ob (.p d)),(.ob (.p d)),(.ob (.p d)),(.ob (.p d)),(.ob (.p d)),(.ob (.p d)),(.ob (.p d)),(.ob (.p d))]),(eF_ (E5 ((o*o)*(E2.mk (E3.mk ((Prod.fst (E3.a f)),(Prod.snd (E3.a f))) ((Prod.fst (E3.b f)),(Prod.snd (E3.b f))) ((Prod.fst (E3.c f)),(Prod.snd (E3.c f)))) (E3.mk ((Prod.fst (E3.a g)),(Prod.snd (E3.a g))) ((Prod.fst (E3.b g)),(Prod.snd (E3.b g))) ((Prod.fst (E3.c g)),(Prod.snd (E3.c g)))))))),(eF_ [.sl (.u64 e)])] 384 [[3,6,7,11]] [([.pt 16 0,.pt 48 0,.pt 80 0,(.ci (.clo 123 [(128,0)]))],23)]) cY aY->Wq Tryz.prog Q ([]) ac Exit.normal aY cY.w ρ)->Wq Tryz.prog Q ([.code (rfB D2c)]) ac .normal aX cX.w ρ :=fun ho hs hK=>
 G8 (unroll:=false) (n:=3000) (path:=[true]) (o:=⟨_,_,_,_,_,_,_⟩) B1f (by kernel_rfl) (by kernel_rfl) ho (by kernel_rfl) (by kernel_rfl) hs hK
theorem pqD (a:F12) (e:List Int) (o:F12) (z:Bool) {ρ:Option Nat}:let b:Fp:=0;(B1 [(z=false)])->(Sim w0 F0 K ac (pqB a e o z) cX aX)->(∀cY aY,Sim w0 F0 K ac (B0 23 [6] [.pt 48 0] [16,48,80,128] [(eF_ (E5 a)),(eF_ [(.ob (.p b)),(.ob (.p b)),(.ob (.p b)),(.ob (.p b)),(.ob (.p b)),(.ob (.p b)),(.ob (.p b)),(.ob (.p b)),(.ob (.p b)),(.ob (.p b)),(.ob (.p b)),(.ob (.p b))]),(eF_ (E5 (o*o))),(eF_ [.sl (.u64 e)])] 304 [[3,6,7,11]] [([.pt 16 0,.pt 48 0,.pt 80 0,(.ci (.clo 123 [(128,0)]))],23)]) cY aY->Wq Tryz.prog Q ([]) ac Exit.normal aY cY.w ρ)->Wq Tryz.prog Q ([.code (rfB D2c)]) ac .normal aX cX.w ρ :=fun ho hs hK=>
 G8 (unroll:=false) (n:=3000) (path:=[false]) (o:=⟨_,_,_,_,_,_,_⟩) B1f (by kernel_rfl) (by kernel_rfl) ho (by kernel_rfl) (by kernel_rfl) hs hK
theorem pqX (a:F12) (e:List Int) (o:F12):B1 []->Sg Tryz.prog (pqS a e o) (B0 23 [6] [.pt 48 0] [48] [(eF_ (E5 o))] 224 [] []) .ret ([]) (rfR D2c):=sgA false 3000 [] B1f
def pqE (a:F12) (e:List Int) (o:F12):St:=B0 23 [6] [.pt 48 0] [16,48,80,128] [(eF_ (E5 a)),(eF_ [(.ob (.p (0:Fp))),(.ob (.p (0:Fp))),(.ob (.p (0:Fp))),(.ob (.p (0:Fp))),(.ob (.p (0:Fp))),(.ob (.p (0:Fp))),(.ob (.p (0:Fp))),(.ob (.p (0:Fp))),(.ob (.p (0:Fp))),(.ob (.p (0:Fp))),(.ob (.p (0:Fp))),(.ob (.p (0:Fp)))]),some (.fl (E5 o)),(eF_ [.sl (.u64 e)])] 384 [[3,6,7,11]] [([.pt 16 0,.pt 48 0,.pt 80 0,(.ci (.clo 123 [(128,0)]))],23)]
def pqZ (o:F12):St:=B0 23 [6] [.pt 48 0] [48] [some (.fl (E5 o))] 224 [] []
theorem H0r (o:F12):G5 uyA Tryz.f117 false 3000 (⟨[],.ret,pqZ o⟩) [] [] []=(some ([],((.v (.a (E5 o))),[]))):=by kernel_rfl
end
end

section

section
variable {G:Type} [J7 G]
theorem S5 (g:G) (m:Nat):∀n,A7 g (m+n)=A7 g m*A7 g n
 | 0=>by show A7 g m=A7 g m*1;grind
 | n+1=>by
  show A7 g (m+n)*g=A7 g m*(A7 g n*g);rw[S5 g m n];grind
theorem F5s (g:G) (l:List Bool) (z:Bool):A7 g (pv (l++[z]))=if z=true then A7 g (pv l)*A7 g (pv l)*g else A7 g (pv l)*A7 g (pv l):=by
 rw[B8m,Nat.two_mul]
 cases z with
 | true=>
  rw[if_pos rfl,<-S5];rfl
 | false=>
  rw[if_neg (by decide),<-S5]
  rfl
end

theorem D7p (a:F12) (e:List Int) (hl:e.length<=16) (hlim:A3s e) :
  FnD Tryz.prog 117 [.v (.a (E5 a)),.v (.a (E5 1)),.v (.c (.sl (.u64 e)))] (.v (.a (E5 (A7 a (O4 e))))) []:=by
 refine U2 (fn:=Tryz.f117) (c:=B9 Tryz.f117) Tryz.func117 rfl rfl fun x b hk hF hs=>?_
 refine pq a 1 e trivial hs fun ac cY aY hs1=>?_
 obtain ⟨e1,e2⟩:=A2i (k:=D2c) (by kernel_rfl)
 rw[e1];have eP:(rfP D2c).toList=[12]:=by kernel_rfl
 have eG:rfG D2c = .tmp 11:=by kernel_rfl
 refine Z6 (ps:=rfP D2c) e2 hs1 (gf:=123) (caps:=[(128,0)]) (A4 Tryz.func123 rfl rfl) (fun pre=>pqS a e (A7 a (pv pre))) (fun s=>by rw[eG];rfl) ⟨_,rfl⟩ (btL (O4 e) (M4 e e.length) (M4 e e.length)) C8s B9e
  (fun y z=>.cons ⟨rfl,0,rfl⟩ .nil) (fun z=>by rw[<-Array.length_toList,eP];rfl) (fun pre p hp=>?_) (A7c hl hlim fun s=>rfl) (fun pre z=>pqB a e (A7 a (pv pre)) z)
  (fun pre z=>pqE a e (A7 a (pv (pre++[z])))) (fun pre z=>⟨_,rfl⟩) (fun pre z hz w1 F1 K1 as1 Q1 l y b hs2 hQ=>?_) (fun pre z hz w1 F1 K1 as1 Q1 l y b hs2 hQ=>?_) fun D y hs2 hD hFD hd=>?_
 ·rw[eP] at hp
  have h23:(pqS a e (A7 a (pv pre))).nt=23:=rfl;rw[h23];simp only[List.mem_cons,List.not_mem_nil,or_false] at hp;subst hp;decide
 ·rw[eP] at hs2
  exact pqA a e _ z trivial hs2 fun cZ aZ hs3=>⟨hQ _ _ (hs3.nx _)⟩
 ·rw[F5s] at hQ
  cases z with
  | true=>exact pqC a e _ true ⟨rfl,trivial⟩ hs2 fun cZ aZ hs3=>⟨hQ _ _ (hs3.nx _)⟩
  | false=>exact pqD a e _ false ⟨rfl,trivial⟩ hs2 fun cZ aZ hs3=>⟨hQ _ _ (hs3.nx _)⟩
 ·have hs3:=hs2.marked rfl rfl D
  have hN:O4 e<2 ^ M4 e e.length:=by
   have:=D1s hlim e.length (Nat.le_refl _)
   rwa [List.take_length] at this
  rw[B8l hN _ (Nat.le_refl _),Nat.sub_self,Nat.pow_zero,Nat.div_one] at hs2 hs3;generalize A7 a (O4 e)=o at hs2 hs3 ⊢
  refine pqX a e o trivial hs3 fun ac cV aV hs6=>⟨?_⟩
  have hs7:Sim y.w y.F (U3 y V9 (I0 D)) ac (pqZ o) cV aV:=hs6;exact Y7 B1f hk hF (H0r o) trivial (fun y v hd=>hd) hs2 hD hFD hd rfl hs7

end

section
section
variable {w0:World} {F0:Nat->Prop} {K:Kp} {ac:List Act} {Q:Exit->Act->World->Prop} {cX:Ctx} {aX:Act}

theorem D2a (a u:F12) (e:List Int) (hu:u=1) (hl:e.length<=16) (hlim:A3s e) :
  FnD Tryz.prog 117 [.v (.a (E5 a)),.v (.a (E5 u)),.v (.c (.sl (.u64 e)))] (.v (.a (E5 (A7 a (O4 e))))) []:=by
 subst hu;exact D7p a e hl hlim
theorem D2b (x0 x1 x2 x3 x4 x5 x6 x7 x8 x9 x10 x11 y0 y1 y2 y3 y4 y5 y6 y7 y8 y9 y10 y11:Fp) (e:List Int) (hu:(⟨⟨(y0,y1),(y2,y3),(y4,y5)⟩,⟨(y6,y7),(y8,y9),(y10,y11)⟩⟩:F12)=1) (hl:e.length<=16) (hlim:A3s e) :
  FnD Tryz.prog 117 [.v (.a [.ob (.p x0),.ob (.p x1),.ob (.p x2),.ob (.p x3),.ob (.p x4),.ob (.p x5),.ob (.p x6),.ob (.p x7),.ob (.p x8),.ob (.p x9),.ob (.p x10),.ob (.p x11)]),.v (.a [.ob (.p y0),.ob (.p y1),.ob (.p y2),.ob (.p y3),.ob (.p y4),.ob (.p y5),.ob (.p y6),.ob (.p y7),.ob (.p y8),.ob (.p y9),.ob (.p y10),.ob (.p y11)]),.v (.c (.sl (.u64 e)))] (.v (.a (E5 (A7 (⟨⟨(x0,x1),(x2,x3),(x4,x5)⟩,⟨(x6,x7),(x8,x9),(x10,x11)⟩⟩:F12) (O4 e))))) []:=D2a (⟨⟨(x0,x1),(x2,x3),(x4,x5)⟩,⟨(x6,x7),(x8,x9),(x10,x11)⟩⟩:F12) (⟨⟨(y0,y1),(y2,y3),(y4,y5)⟩,⟨(y6,y7),(y8,y9),(y10,y11)⟩⟩:F12) e hu hl hlim
def A6g:B2
 | [.v (.a [.ob (.p x0),.ob (.p x1),.ob (.p x2),.ob (.p x3),.ob (.p x4),.ob (.p x5),.ob (.p x6),.ob (.p x7),.ob (.p x8),.ob (.p x9),.ob (.p x10),.ob (.p x11)]),.v (.a [.ob (.p y0),.ob (.p y1),.ob (.p y2),.ob (.p y3),.ob (.p y4),.ob (.p y5),.ob (.p y6),.ob (.p y7),.ob (.p y8),.ob (.p y9),.ob (.p y10),.ob (.p y11)]),.v (.c (.sl (.u64 e)))]=>some ([(⟨⟨(y0,y1),(y2,y3),(y4,y5)⟩,⟨(y6,y7),(y8,y9),(y10,y11)⟩⟩:F12)=1,e.length<=16,A3s e],.v (.a (E5 (A7 (⟨⟨(x0,x1),(x2,x3),(x4,x5)⟩,⟨(x6,x7),(x8,x9),(x10,x11)⟩⟩:F12) (O4 e)))),[])
 | _=>none
def uyB:Env:=uyA.set (C6 uyA.fn 117 A6g)
theorem G3z:A9 Tryz.prog uyB:=A8 B1f 117 A6g (A4 Tryz.func117 rfl rfl) fun args o r es h ho=>by
 unfold A6g at h;split at h
 ·cases h;exact D2b _ _ _ _ _ _ _ _ _ _ _ _ _ _ _ _ _ _ _ _ _ _ _ _ _ ho.1 ho.2.1 ho.2.2.1
 ·cases h
theorem H8v (a:F12) (n:Int):B5 uyB Tryz.f72 3000 [.v (.a (E5 a)),.v (.c (.int .u64 n))] [] [] []=(some ([(0=0),(1=1),(1=1),((1:F12)=(1:(E2 F6))),(1<=16),(A3s [n])],((.v (.a (E5 (A7 a (O4 [n]))))),[]))):=by kernel_rfl
theorem F5r:∃f:F12->Int->F12,∀x n,f x n=A7 x n.toNat:=⟨fun x n=>A7 x n.toNat,fun _ _=>rfl⟩
/-- A power with a number, that the kernel does not work out. -/
def gpi:F12->Int->F12:=Classical.choose F5r
theorem A2w (x:F12) (n:Int):gpi x n=A7 x n.toNat:=Classical.choose_spec F5r x n
theorem F9s (n:Int):O4 [n]=n.toNat:=by
 show n.toNat+18446744073709551616*0=_;omega
theorem F0i (x0 x1 x2 x3 x4 x5 x6 x7 x8 x9 x10 x11:Fp) (n:Int) (h0:0<=n) (h1:n<18446744073709551616):FnD Tryz.prog 72 [.v (.a [.ob (.p x0),.ob (.p x1),.ob (.p x2),.ob (.p x3),.ob (.p x4),.ob (.p x5),.ob (.p x6),.ob (.p x7),.ob (.p x8),.ob (.p x9),.ob (.p x10),.ob (.p x11)]),.v (.c (.int .u64 n))] (.v (.a (E5 (gpi (⟨⟨(x0,x1),(x2,x3),(x4,x5)⟩,⟨(x6,x7),(x8,x9),(x10,x11)⟩⟩:F12) n)))) []:=by
 have r:=H8v (⟨⟨(x0,x1),(x2,x3),(x4,x5)⟩,⟨(x6,x7),(x8,x9),(x10,x11)⟩⟩:F12) n;rw[F9s,<-A2w] at r;refine A5 G3z Tryz.func72 r ⟨rfl,rfl,rfl,rfl,by decide,fun x hx=>?_,trivial⟩
 simp only[List.mem_cons,List.not_mem_nil,or_false] at hx;subst hx;exact ⟨h0,h1⟩
def B5s:B2
 | [.v (.a [.ob (.p x0),.ob (.p x1),.ob (.p x2),.ob (.p x3),.ob (.p x4),.ob (.p x5),.ob (.p x6),.ob (.p x7),.ob (.p x8),.ob (.p x9),.ob (.p x10),.ob (.p x11)]),.v (.c (.int .u64 n))]=>some ([0<=n,n<18446744073709551616],.v (.a (E5 (gpi (⟨⟨(x0,x1),(x2,x3),(x4,x5)⟩,⟨(x6,x7),(x8,x9),(x10,x11)⟩⟩:F12) n))),[])
 | _=>none
def uyC:Env:=uyB.set (C6 uyB.fn 72 B5s)
theorem X7:A9 Tryz.prog uyC:=A8 G3z 72 B5s (A4 Tryz.func72 rfl rfl) fun args o r es h ho=>by
 unfold B5s at h;split at h
 ·cases h;exact F0i _ _ _ _ _ _ _ _ _ _ _ _ _ ho.1 ho.2.1
 ·cases h
def F4u:List KI:=(run uyC false 7 (⟨[.code (B9 Tryz.f35)],.normal,D7 Tryz.f35.ntmps [.v (.a (E5 dF))]⟩:Cfg) []).cfg.k
section
variable (f:F12)
theorem fiA:let b:Fp:=0;B1 []->Sg Tryz.prog (D7 Tryz.f35.ntmps [.v (.a (E5 f))]) (B0 37 [1,2] [.pt 16 0,.pt 32 0] [16,32] [(eF_ (E5 ((cjp f)*(ivp f)))),(eF_ [(.ob (.p b)),(.ob (.p b)),(.ob (.p b)),(.ob (.p b)),(.ob (.p b)),(.ob (.p b)),(.ob (.p b)),(.ob (.p b)),(.ob (.p b)),(.ob (.p b)),(.ob (.p b)),(.ob (.p b))])] 144 [] []) .normal (F4u) ([.code (B9 Tryz.f35)]):=sgA false 7 [] X7
def fiS (f:F12):St:=B0 37 [1,2] [.pt 16 0,.pt 32 0] [16,32] [some (.fl (E5 f)),(eF_ [(.ob (.p (0:Fp))),(.ob (.p (0:Fp))),(.ob (.p (0:Fp))),(.ob (.p (0:Fp))),(.ob (.p (0:Fp))),(.ob (.p (0:Fp))),(.ob (.p (0:Fp))),(.ob (.p (0:Fp))),(.ob (.p (0:Fp))),(.ob (.p (0:Fp))),(.ob (.p (0:Fp))),(.ob (.p (0:Fp)))])] 144 [] []
def F4v:List KI:=(run uyC false 2 (⟨F4u,.normal,fiS dF⟩:Cfg) []).cfg.k
theorem fiB:let a:Fp:=0;B1 []->Sg Tryz.prog (fiS f) (B0 37 [1,2] [.pt 16 0,.pt 32 0] [16,32] [(eF_ (E5 ((frb (frb f))*f))),(eF_ [(.ob (.p a)),(.ob (.p a)),(.ob (.p a)),(.ob (.p a)),(.ob (.p a)),(.ob (.p a)),(.ob (.p a)),(.ob (.p a)),(.ob (.p a)),(.ob (.p a)),(.ob (.p a)),(.ob (.p a))])] 240 [] []) .normal (F4v) (F4u):=sgA false 2 [] X7
def F4w:List KI:=(run uyC false 8 (⟨F4v,.normal,fiS dF⟩:Cfg) []).cfg.k
theorem fiC:let a:Fp:=0;let b:Int:=15132376222941642753;let c:Int:=5044125407647214251;let d:Int:=18446744073709551616;B1 [(0<=b),(b<d),(0<=c),(c<d)]->Sg Tryz.prog (fiS f) (B0 37 [1,2,3] [.pt 16 0,.pt 32 0,.pt 192 0] [16,32,192] [(eF_ (E5 f)),(eF_ [(.ob (.p a)),(.ob (.p a)),(.ob (.p a)),(.ob (.p a)),(.ob (.p a)),(.ob (.p a)),(.ob (.p a)),(.ob (.p a)),(.ob (.p a)),(.ob (.p a)),(.ob (.p a)),(.ob (.p a))]),(eF_ (E5 (gpi (gpi f b) c)))] 224 [] []) .normal (F4w) (F4v):=sgA false 8 [] X7
def fiT (f g:F12):St:=B0 37 [1,2,3] [.pt 16 0,.pt 32 0,.pt 192 0] [16,32,192] [some (.fl (E5 f)),(eF_ [(.ob (.p (0:Fp))),(.ob (.p (0:Fp))),(.ob (.p (0:Fp))),(.ob (.p (0:Fp))),(.ob (.p (0:Fp))),(.ob (.p (0:Fp))),(.ob (.p (0:Fp))),(.ob (.p (0:Fp))),(.ob (.p (0:Fp))),(.ob (.p (0:Fp))),(.ob (.p (0:Fp))),(.ob (.p (0:Fp)))]),some (.fl (E5 g))] 224 [] []
def F4x:List KI:=(run uyC false 2 (⟨F4w,.normal,fiT dF dF⟩:Cfg) []).cfg.k
end
section
variable (f g:F12)
theorem fiD:let a:Fp:=0;let b:Int:=15132376222941642752;B1 [(0<=b),(b<(18446744073709551616:Int))]->Sg Tryz.prog (fiT f g) (B0 37 [1,2,3] [.pt 16 0,.pt 32 0,.pt 192 0] [16,32,192] [(eF_ (E5 f)),(eF_ [(.ob (.p a)),(.ob (.p a)),(.ob (.p a)),(.ob (.p a)),(.ob (.p a)),(.ob (.p a)),(.ob (.p a)),(.ob (.p a)),(.ob (.p a)),(.ob (.p a)),(.ob (.p a)),(.ob (.p a))]),(eF_ (E5 ((cjp (gpi g b))*(frb g))))] 336 [] []) .normal (F4x) (F4w):=sgA false 2 [] X7
def H3f:List KI:=(run uyC false 8 (⟨F4x,.normal,fiT dF dF⟩:Cfg) []).cfg.k
theorem fiE:let a:Int:=15132376222941642752;let b:Fp:=0;let c:=a<(18446744073709551616:Int);B1 [(0<=a),c,(0<=a),c]->Sg Tryz.prog (fiT f g) (B0 37 [1,2,3,4] [.pt 16 0,.pt 32 0,.pt 192 0,.pt 272 0] [16,32,192,272] [(eF_ (E5 f)),(eF_ [(.ob (.p b)),(.ob (.p b)),(.ob (.p b)),(.ob (.p b)),(.ob (.p b)),(.ob (.p b)),(.ob (.p b)),(.ob (.p b)),(.ob (.p b)),(.ob (.p b)),(.ob (.p b)),(.ob (.p b))]),(eF_ (E5 g)),(eF_ (E5 (gpi (gpi g a) a)))] 304 [] []) .normal (H3f) (F4x):=sgA false 8 [] X7
def fiU (f g h:F12):St:=B0 37 [1,2,3,4] [.pt 16 0,.pt 32 0,.pt 192 0,.pt 272 0] [16,32,192,272] [some (.fl (E5 f)),(eF_ [(.ob (.p (0:Fp))),(.ob (.p (0:Fp))),(.ob (.p (0:Fp))),(.ob (.p (0:Fp))),(.ob (.p (0:Fp))),(.ob (.p (0:Fp))),(.ob (.p (0:Fp))),(.ob (.p (0:Fp))),(.ob (.p (0:Fp))),(.ob (.p (0:Fp))),(.ob (.p (0:Fp))),(.ob (.p (0:Fp)))]),some (.fl (E5 g)),some (.fl (E5 h))] 304 [] []
end
theorem G6o (f g h:F12):G5 uyC Tryz.f35 false 3000 (⟨H3f,.normal,fiU f g h⟩) [] [] []=(some ([],((.v (.a (E5 (((h*(frb (frb g)))*(cjp g))*f)))),[]))):=by kernel_rfl

end
end

section

/-- The last exponent: the powers of p^6 - 1 and of p p + 1; what is left. -/
def C9r (f:F12):F12:=frb (frb (cjp f*ivp f))*(cjp f*ivp f)
def A2v (f:F12):F12:=gpi (gpi f 15132376222941642753) 5044125407647214251
def A2b (g:F12):F12:=cjp (gpi g 15132376222941642752)*frb g
def B7l (k:F12):F12:=gpi (gpi k 15132376222941642752) 15132376222941642752
def D5b (f:F12):F12:=B7l (A2b (A2v f))*frb (frb (A2b (A2v f)))*cjp (A2b (A2v f))*f
def N7 (f:F12):F12:=D5b (C9r f)
theorem E0k (f:F12):FnD Tryz.prog 35 [.v (.a (E5 f))] (.v (.a (E5 (N7 f)))) []:=by
 refine J3 (fn:=Tryz.f35) (c:=B9 Tryz.f35) Tryz.func35 rfl rfl fun x a hk hF hs=>?_
 refine fiA f trivial hs fun ac cY aY hs1=>?_
 refine fiB (cjp f*ivp f) trivial (hs1.nx _) fun ac cY aY hs2=>?_
 refine fiC (C9r f) ⟨by decide,by decide,by decide,by decide,trivial⟩ (hs2.nx _) fun ac cY aY hs3=>?_
 refine fiD (C9r f) (A2v (C9r f)) ⟨by decide,by decide,trivial⟩ (hs3.nx _) fun ac cY aY hs4=>?_
 refine fiE (C9r f) (A2b (A2v (C9r f))) ⟨by decide,by decide,by decide,by decide,trivial⟩ (hs4.nx _) fun ac cY aY hs5=>?_
 exact H2 X7 hk hF (G6o (C9r f) (A2b (A2v (C9r f))) (B7l (A2b (A2v (C9r f))))) trivial (fun y v hd=>hd) (hs5.nx _)
end

section
section
variable {w0:World} {F0:Nat->Prop} {K:Kp} {ac:List Act} {Q:Exit->Act->World->Prop} {cX:Ctx} {aX:Act}

def C5h:List KI:=(run uyC false 3000 (⟨[.code (B9 Tryz.f73)],.normal,D7 Tryz.f73.ntmps [.v (.a [.ob (.fp dF),.ob (.fp dF),.bool dF]),.v (.a [.ob (.fp dF),.ob (.fp dF),.ob (.fp dF),.ob (.fp dF),.bool dF])]⟩:Cfg) []).cfg.k
theorem mi (x y a b c d:U6) (i j:Bool):let g:=A3o (G2D.mk a b c d j);let h:Fp:=0;let k:=Prod.snd g;let f:=eF_ [(.ob (.p (Prod.fst (Prod.fst g)))),(.ob (.p (Prod.snd (Prod.fst g)))),(.ob (.p (Prod.fst (Prod.fst k)))),(.ob (.p (Prod.snd (Prod.fst k)))),(.ob (.p (Prod.fst (Prod.snd k)))),(.ob (.p (Prod.snd (Prod.snd k))))];B1 []->Sg Tryz.prog (D7 Tryz.f73.ntmps [.v (.a [.ob (.fp x),.ob (.fp y),.bool i]),.v (.a [.ob (.fp a),.ob (.fp b),.ob (.fp c),.ob (.fp d),.bool j])]) (B0 49 [4,5,6,7,8,9,10,23] [.pt 48 0,.pt 160 0,.pt 176 0,.pt 256 0,.pt 320 0,.pt 336 0,.pt 384 0,(.ci (.clo 123 [(432,0)]))] [48,160,176,256,320,336,384,416,432] [(eF_ [(.ob (.p h)),(.ob (.p h)),(.ob (.p h)),(.ob (.p h)),(.ob (.p h)),(.ob (.p h)),(.ob (.p h)),(.ob (.p h)),(.ob (.p h)),(.ob (.p h)),(.ob (.p h)),(.ob (.p h))]),(eF_ [(.ob (.p (inP x)))]),(eF_ [(.ob (.p (inP y)))]),f,f,(eF_ (E5 (1:F12))),(eF_ [(.lit true)]),(eQ_ (.u64 [(15132376222941642752:Int)])),(eF_ [(.slc 416 0 1 1)])] 496 [] []) .normal (C5h) ([.code (B9 Tryz.f73)]):=sgA false 3000 [] X7
def miS (x y:Fp) (q t:F2×F2×F2) (f:F12) (fb:Bool):St:=B0 49 [4,5,6,7,8,9,10,23] [.pt 48 0,.pt 160 0,.pt 176 0,.pt 256 0,.pt 320 0,.pt 336 0,.pt 384 0,(.ci (.clo 123 [(432,0)]))] [48,160,176,256,320,336,384,416,432] [(eF_ [(.ob (.p (0:Fp))),(.ob (.p (0:Fp))),(.ob (.p (0:Fp))),(.ob (.p (0:Fp))),(.ob (.p (0:Fp))),(.ob (.p (0:Fp))),(.ob (.p (0:Fp))),(.ob (.p (0:Fp))),(.ob (.p (0:Fp))),(.ob (.p (0:Fp))),(.ob (.p (0:Fp))),(.ob (.p (0:Fp)))]),some (.fl [.ob (.p x)]),some (.fl [.ob (.p y)]),some (.fl (L9 q)),some (.fl (L9 t)),some (.fl (E5 f)),some (.fl [.lit fb]),(eQ_ (.u64 [(15132376222941642752:Int)])),(eF_ [(.slc 416 0 1 1)])] 496 [] []
theorem miA (x y:Fp) (q t:F2×F2×F2) (f:F12) (fb z:Bool) {ρ:Option Nat}:let a:Fp:=0;let b:=Prod.snd q;let d:=Prod.snd t;(B1 [])->(Sim w0 F0 K ac (X5 (miS x y q t f fb) [(24,.v (.c (.bool z)))]) cX aX)->(∀cY aY,Sim w0 F0 K ac (B0 49 [4,5,6,7,8,9,10,11] [.pt 48 0,.pt 160 0,.pt 176 0,.pt 256 0,.pt 320 0,.pt 336 0,.pt 384 0,(.ci (.bool z))] [48,160,176,256,320,336,384,416,432] [(eF_ [(.ob (.p a)),(.ob (.p a)),(.ob (.p a)),(.ob (.p a)),(.ob (.p a)),(.ob (.p a)),(.ob (.p a)),(.ob (.p a)),(.ob (.p a)),(.ob (.p a)),(.ob (.p a)),(.ob (.p a))]),(eF_ [.ob (.p x)]),(eF_ [.ob (.p y)]),(eF_ [(.ob (.p (Prod.fst (Prod.fst q)))),(.ob (.p (Prod.snd (Prod.fst q)))),(.ob (.p (Prod.fst (Prod.fst b)))),(.ob (.p (Prod.snd (Prod.fst b)))),(.ob (.p (Prod.fst (Prod.snd b)))),(.ob (.p (Prod.snd (Prod.snd b))))]),(eF_ [(.ob (.p (Prod.fst (Prod.fst t)))),(.ob (.p (Prod.snd (Prod.fst t)))),(.ob (.p (Prod.fst (Prod.fst d)))),(.ob (.p (Prod.snd (Prod.fst d)))),(.ob (.p (Prod.fst (Prod.snd d)))),(.ob (.p (Prod.snd (Prod.snd d))))]),(eF_ (E5 f)),(eF_ [(.lit fb)]),(eQ_ (.u64 [(15132376222941642752:Int)])),(eF_ [(.slc 416 0 1 1)])] 512 [[4,5,6,7,8,9,10,23]] [([.pt 48 0,.pt 160 0,.pt 176 0,.pt 256 0,.pt 320 0,.pt 336 0,.pt 384 0,(.ci (.clo 123 [(432,0)]))],49)]) cY aY->Wq Tryz.prog Q ([]) ac Exit.normal aY cY.w ρ)->Wq Tryz.prog Q ([.code (rfA C5h)]) ac .normal aX cX.w ρ :=fun ho hs hK=>
 G8 (unroll:=false) (n:=3000) (path:=[]) (o:=⟨_,_,_,_,_,_,_⟩) X7 (by kernel_rfl) (by kernel_rfl) ho (by kernel_rfl) (by kernel_rfl) hs hK
def miB (x y:Fp) (q t:F2×F2×F2) (f:F12) (fb z:Bool):St:=B0 49 [4,5,6,7,8,9,10,11] [.pt 48 0,.pt 160 0,.pt 176 0,.pt 256 0,.pt 320 0,.pt 336 0,.pt 384 0,(.ci (.bool z))] [48,160,176,256,320,336,384,416,432] [(eF_ [(.ob (.p (0:Fp))),(.ob (.p (0:Fp))),(.ob (.p (0:Fp))),(.ob (.p (0:Fp))),(.ob (.p (0:Fp))),(.ob (.p (0:Fp))),(.ob (.p (0:Fp))),(.ob (.p (0:Fp))),(.ob (.p (0:Fp))),(.ob (.p (0:Fp))),(.ob (.p (0:Fp))),(.ob (.p (0:Fp)))]),some (.fl [.ob (.p x)]),some (.fl [.ob (.p y)]),some (.fl (L9 q)),some (.fl (L9 t)),some (.fl (E5 f)),some (.fl [.lit fb]),(eQ_ (.u64 [(15132376222941642752:Int)])),(eF_ [(.slc 416 0 1 1)])] 512 [[4,5,6,7,8,9,10,23]] [([.pt 48 0,.pt 160 0,.pt 176 0,.pt 256 0,.pt 320 0,.pt 336 0,.pt 384 0,(.ci (.clo 123 [(432,0)]))],49)]
theorem miF (x y:Fp) (q t:F2×F2×F2) (f:F12) (z:Bool) {ρ:Option Nat}:let a:Fp:=0;let b:=Prod.snd q;let c:=Prod.snd t;(B1 [])->(Sim w0 F0 K ac (miB x y q t f true z) cX aX)->(∀cY aY,Sim w0 F0 K ac (B0 49 [4] [.pt 48 0] [48,160,176,256,320,336,384,416,432] [(eF_ [(.ob (.p a)),(.ob (.p a)),(.ob (.p a)),(.ob (.p a)),(.ob (.p a)),(.ob (.p a)),(.ob (.p a)),(.ob (.p a)),(.ob (.p a)),(.ob (.p a)),(.ob (.p a)),(.ob (.p a))]),(eF_ [.ob (.p x)]),(eF_ [.ob (.p y)]),(eF_ [(.ob (.p (Prod.fst (Prod.fst q)))),(.ob (.p (Prod.snd (Prod.fst q)))),(.ob (.p (Prod.fst (Prod.fst b)))),(.ob (.p (Prod.snd (Prod.fst b)))),(.ob (.p (Prod.fst (Prod.snd b)))),(.ob (.p (Prod.snd (Prod.snd b))))]),(eF_ [(.ob (.p (Prod.fst (Prod.fst t)))),(.ob (.p (Prod.snd (Prod.fst t)))),(.ob (.p (Prod.fst (Prod.fst c)))),(.ob (.p (Prod.snd (Prod.fst c)))),(.ob (.p (Prod.fst (Prod.snd c)))),(.ob (.p (Prod.snd (Prod.snd c))))]),(eF_ (E5 f)),(eF_ [(.lit false)]),(eQ_ (.u64 [(15132376222941642752:Int)])),(eF_ [(.slc 416 0 1 1)])] 544 [[4,5,6,7,8,9,10,23]] [([.pt 48 0,.pt 160 0,.pt 176 0,.pt 256 0,.pt 320 0,.pt 336 0,.pt 384 0,(.ci (.clo 123 [(432,0)]))],49)]) cY aY->Wq Tryz.prog Q ([]) ac Exit.normal aY cY.w ρ)->Wq Tryz.prog Q ([.code (rfB C5h)]) ac .normal aX cX.w ρ :=fun ho hs hK=>
 G8 (unroll:=false) (n:=3000) (path:=[]) (o:=⟨_,_,_,_,_,_,_⟩) X7 (by kernel_rfl) (by kernel_rfl) ho (by kernel_rfl) (by kernel_rfl) hs hK
theorem miT (x y:Fp) (q t:F2×F2×F2) (f:F12) (z:Bool) {ρ:Option Nat}:let b:Fp:=0;let c:=Prod.snd q;let d:=jpl (jtw t) q;let a:=Prod.snd d;(B1 [(z=true)])->(Sim w0 F0 K ac (miB x y q t f false z) cX aX)->(∀cY aY,Sim w0 F0 K ac (B0 49 [4] [.pt 48 0] [48,160,176,256,320,336,384,416,432] [(eF_ [(.ob (.p b)),(.ob (.p b)),(.ob (.p b)),(.ob (.p b)),(.ob (.p b)),(.ob (.p b)),(.ob (.p b)),(.ob (.p b)),(.ob (.p b)),(.ob (.p b)),(.ob (.p b)),(.ob (.p b))]),(eF_ [.ob (.p x)]),(eF_ [.ob (.p y)]),(eF_ [(.ob (.p (Prod.fst (Prod.fst q)))),(.ob (.p (Prod.snd (Prod.fst q)))),(.ob (.p (Prod.fst (Prod.fst c)))),(.ob (.p (Prod.snd (Prod.fst c)))),(.ob (.p (Prod.fst (Prod.snd c)))),(.ob (.p (Prod.snd (Prod.snd c))))]),(eF_ [(.ob (.p (Prod.fst (Prod.fst d)))),(.ob (.p (Prod.snd (Prod.fst d)))),(.ob (.p (Prod.fst (Prod.fst a)))),(.ob (.p (Prod.snd (Prod.fst a)))),(.ob (.p (Prod.fst (Prod.snd a)))),(.ob (.p (Prod.snd (Prod.snd a))))]),(eF_ (E5 (((f*f)*(tch t x y))*(thg (jtw t) q x y)))),(eF_ [(.lit false)]),(eQ_ (.u64 [(15132376222941642752:Int)])),(eF_ [(.slc 416 0 1 1)])] 928 [[4,5,6,7,8,9,10,23]] [([.pt 48 0,.pt 160 0,.pt 176 0,.pt 256 0,.pt 320 0,.pt 336 0,.pt 384 0,(.ci (.clo 123 [(432,0)]))],49)]) cY aY->Wq Tryz.prog Q ([]) ac Exit.normal aY cY.w ρ)->Wq Tryz.prog Q ([.code (rfB C5h)]) ac .normal aX cX.w ρ :=fun ho hs hK=>
 G8 (unroll:=false) (n:=3000) (path:=[true]) (o:=⟨_,_,_,_,_,_,_⟩) X7 (by kernel_rfl) (by kernel_rfl) ho (by kernel_rfl) (by kernel_rfl) hs hK
theorem miN (x y:Fp) (q t:F2×F2×F2) (f:F12) (z:Bool) {ρ:Option Nat}:let a:Fp:=0;let b:=Prod.snd (jtw t);let c:=Prod.snd q;let d:=Prod.fst (jtw t);(B1 [(z=false)])->(Sim w0 F0 K ac (miB x y q t f false z) cX aX)->(∀cY aY,Sim w0 F0 K ac (B0 49 [4] [.pt 48 0] [48,160,176,256,320,336,384,416,432] [(eF_ [(.ob (.p a)),(.ob (.p a)),(.ob (.p a)),(.ob (.p a)),(.ob (.p a)),(.ob (.p a)),(.ob (.p a)),(.ob (.p a)),(.ob (.p a)),(.ob (.p a)),(.ob (.p a)),(.ob (.p a))]),(eF_ [.ob (.p x)]),(eF_ [.ob (.p y)]),(eF_ [(.ob (.p (Prod.fst (Prod.fst q)))),(.ob (.p (Prod.snd (Prod.fst q)))),(.ob (.p (Prod.fst (Prod.fst c)))),(.ob (.p (Prod.snd (Prod.fst c)))),(.ob (.p (Prod.fst (Prod.snd c)))),(.ob (.p (Prod.snd (Prod.snd c))))]),(eF_ [(.ob (.p (Prod.fst d))),(.ob (.p (Prod.snd d))),(.ob (.p (Prod.fst (Prod.fst b)))),(.ob (.p (Prod.snd (Prod.fst b)))),(.ob (.p (Prod.fst (Prod.snd b)))),(.ob (.p (Prod.snd (Prod.snd b))))]),(eF_ (E5 ((f*f)*(tch t x y)))),(eF_ [(.lit false)]),(eQ_ (.u64 [(15132376222941642752:Int)])),(eF_ [(.slc 416 0 1 1)])] 736 [[4,5,6,7,8,9,10,23]] [([.pt 48 0,.pt 160 0,.pt 176 0,.pt 256 0,.pt 320 0,.pt 336 0,.pt 384 0,(.ci (.clo 123 [(432,0)]))],49)]) cY aY->Wq Tryz.prog Q ([]) ac Exit.normal aY cY.w ρ)->Wq Tryz.prog Q ([.code (rfB C5h)]) ac .normal aX cX.w ρ :=fun ho hs hK=>
 G8 (unroll:=false) (n:=3000) (path:=[false]) (o:=⟨_,_,_,_,_,_,_⟩) X7 (by kernel_rfl) (by kernel_rfl) ho (by kernel_rfl) (by kernel_rfl) hs hK
theorem miX (x y:Fp) (q t:F2×F2×F2) (f:F12) (fb:Bool):B1 []->Sg Tryz.prog (miS x y q t f fb) (B0 49 [4] [.pt 48 0] [48] [(eF_ (E5 (cjp f)))] 544 [] []) .ret ([]) (rfR C5h):=sgA false 3000 [] X7
def miE (x y:Fp) (q t:F2×F2×F2) (f:F12) (fb _z:Bool):St:=B0 49 [4] [.pt 48 0] [48,160,176,256,320,336,384,416,432] [(eF_ [(.ob (.p (0:Fp))),(.ob (.p (0:Fp))),(.ob (.p (0:Fp))),(.ob (.p (0:Fp))),(.ob (.p (0:Fp))),(.ob (.p (0:Fp))),(.ob (.p (0:Fp))),(.ob (.p (0:Fp))),(.ob (.p (0:Fp))),(.ob (.p (0:Fp))),(.ob (.p (0:Fp))),(.ob (.p (0:Fp)))]),some (.fl [.ob (.p x)]),some (.fl [.ob (.p y)]),some (.fl (L9 q)),some (.fl (L9 t)),some (.fl (E5 f)),some (.fl [.lit fb]),(eQ_ (.u64 [(15132376222941642752:Int)])),(eF_ [(.slc 416 0 1 1)])] 928 [[4,5,6,7,8,9,10,23]] [([.pt 48 0,.pt 160 0,.pt 176 0,.pt 256 0,.pt 320 0,.pt 336 0,.pt 384 0,(.ci (.clo 123 [(432,0)]))],49)]
def miZ (f:F12):St:=B0 49 [4] [.pt 48 0] [48] [some (.fl (E5 f))] 544 [] []
theorem G8s (f:F12):G5 uyC Tryz.f73 false 3000 (⟨[],.ret,miZ f⟩) [] [] []=(some ([],((.v (.a (E5 f))),[]))):=by kernel_rfl
end
end

section

/-- One turn of the loop, behind the first. -/
def mst (x y:Fp) (q:F2×F2×F2) (s:(F2×F2×F2)×F12) (z:Bool):(F2×F2×F2)×F12:=
 if z=true then (jpl (jtw s.1) q,s.2*s.2*tch s.1 x y*thg (jtw s.1) q x y) else (jtw s.1,s.2*s.2*tch s.1 x y)
def mls (x y:Fp) (q:F2×F2×F2) (l:List Bool):(F2×F2×F2)×F12:=l.tail.foldl (mst x y q) (q,1)
def Z0:Nat:=15132376222941642752
/-- The loop's value. -/
def mil (x y:Fp) (q:F2×F2×F2):F12:=cjp (mls x y q (btL Z0 64 64)).2
theorem G9b (x y:Fp) (q:F2×F2×F2) (z:Bool):mls x y q ([]++[z])=(q,1):=rfl
theorem C6o {α β:Type} (f:β->α->β) (s:β) (l:List α) (z:α):(l++[z]).foldl f s=f (l.foldl f s) z:=by
 rw[List.foldl_append];rfl
theorem F8r (x y:Fp) (q:F2×F2×F2) (u:Bool) (l:List Bool) (z:Bool):mls x y q (u::l++[z])=mst x y q (mls x y q (u::l)) z:=C6o (mst x y q) (q,1) l z
theorem I5w (x y:Fp) (q:F2×F2×F2) (s:(F2×F2×F2)×F12):mst x y q s true=(jpl (jtw s.1) q,s.2*s.2*tch s.1 x y*thg (jtw s.1) q x y):=rfl
theorem I5v (x y:Fp) (q:F2×F2×F2) (s:(F2×F2×F2)×F12):mst x y q s false=(jtw s.1,s.2*s.2*tch s.1 x y):=rfl
theorem F8n:M4 [15132376222941642752] 1=64:=by decide +kernel
theorem G8v:O4 [15132376222941642752]=Z0:=by decide +kernel

theorem E1j (xa ya a b c d:U6) (i j:Bool) :
  FnD Tryz.prog 73 [.v (.a [.ob (.fp xa),.ob (.fp ya),.bool i]),.v (.a [.ob (.fp a),.ob (.fp b),.ob (.fp c),.ob (.fp d),.bool j])] (.v (.a (E5 (mil (inP xa) (inP ya) (A3o ⟨a,b,c,d,j⟩))))) []:=by
 refine U2 (fn:=Tryz.f73) (c:=B9 Tryz.f73) Tryz.func73 rfl rfl fun X B hk hF hs=>?_
 refine mi xa ya a b c d i j trivial hs fun ac cY aY hs1=>?_
 generalize A3o ⟨a,b,c,d,j⟩=q at hs1 ⊢
 generalize inP xa=x at hs1 ⊢
 generalize inP ya=y at hs1 ⊢
 obtain ⟨e1,e2⟩:=A2i (k:=C5h) (by kernel_rfl)
 rw[e1];have eP:(rfP C5h).toList=[24]:=by kernel_rfl
 have eG:rfG C5h = .tmp 23:=by kernel_rfl
 have hit:B1i Tryz.prog cY 123 [(432,0)] B9e (btL Z0 64 64) fun pre=>(miS x y q (mls x y q pre).1 (mls x y q pre).2 pre.isEmpty).m:=by
  have h:=A7c (x:=cY) (p:=432) (e:=[15132376222941642752]) (M:=fun _=>fzM 432 (.u64 [15132376222941642752])) (by decide) (fun v hv=>by simp only[List.mem_cons,List.not_mem_nil,or_false] at hv;subst hv;decide) (fun s=>rfl)
  rw[G8v] at h;rw[show M4 [15132376222941642752] ([15132376222941642752]:List Int).length=64 from F8n] at h
  exact h.freeze (len:=1) (es:=1) (pb:=416) (fun s=>rfl) (fun s=>rfl) rfl
 refine Z6 (ps:=rfP C5h) e2 hs1 (gf:=123) (caps:=[(432,0)]) (A4 Tryz.func123 rfl rfl) (fun pre=>miS x y q (mls x y q pre).1 (mls x y q pre).2 pre.isEmpty) (fun s=>by rw[eG];rfl) ⟨_,rfl⟩ (btL Z0 64 64) C8s B9e
  (fun y z=>.cons ⟨rfl,0,rfl⟩ .nil) (fun z=>by rw[<-Array.length_toList,eP];rfl) (fun pre p hp=>?_) hit (fun pre z=>miB x y q (mls x y q pre).1 (mls x y q pre).2 pre.isEmpty z)
  (fun pre z=>miE x y q (mls x y q (pre++[z])).1 (mls x y q (pre++[z])).2 false z) (fun pre z=>⟨_,by
   have:(pre++[z]).isEmpty=false:=by cases pre<;>rfl
   rw[this];rfl⟩) (fun pre z hz w1 F1 K1 as1 Q1 l Y b hs2 hQ=>?_) (fun pre z hz w1 F1 K1 as1 Q1 l Y b hs2 hQ=>?_) fun D Y hs2 hD hFD hd=>?_
 ·rw[eP] at hp
  simp only[List.mem_cons,List.not_mem_nil,or_false] at hp;subst hp;show 24<49;decide
 ·rw[eP] at hs2
  exact miA x y q _ _ _ z trivial hs2 fun cZ aZ hs3=>⟨hQ _ _ (hs3.nx _)⟩
 ·cases pre with
  | nil=>
   rw[G9b] at hQ;exact miF x y q _ _ z trivial hs2 fun cZ aZ hs3=>⟨hQ _ _ (hs3.nx _)⟩
  | cons u l=>
   rw[F8r] at hQ
   cases z with
   | true=>
    rw[I5w] at hQ;exact miT x y q _ _ true ⟨rfl,trivial⟩ hs2 fun cZ aZ hs3=>⟨hQ _ _ (hs3.nx _)⟩
   | false=>
    rw[I5v] at hQ;exact miN x y q _ _ false ⟨rfl,trivial⟩ hs2 fun cZ aZ hs3=>⟨hQ _ _ (hs3.nx _)⟩
 ·have hs3:=hs2.marked rfl rfl D
  unfold mil;generalize (mls x y q (btL Z0 64 64)).1=t at hs2 hs3;generalize (mls x y q (btL Z0 64 64)).2=o at hs2 hs3 ⊢
  refine miX x y q t o _ trivial hs3 fun ac cV aV hs6=>⟨?_⟩
  have hs7:Sim Y.w Y.F (U3 Y V9 (I0 D)) ac (miZ (cjp o)) cV aV:=hs6;exact Y7 X7 hk hF (G8s (cjp o)) trivial (fun y v hd=>hd) hs2 hD hFD hd rfl hs7
end

end
end Go.Proofs.YtefimjofjjdndaaGreat
