/- Parts of a proof, one behind the other: WPu, PPu, WPi, Pf, WCp, PCp, WCo1, WCo2, PCo2, WCo3, PCo3, Ga, WOa, WMd, PMd, WMy, PMz, Nm, WTi, WOb, WDa, WDb, PDb, WDc, PDc, WDd, PDd, WDe, Gb, WEa, WMw, PMw, WTj, WEb, WFa, WFb, WFc, PFc, WFd, PFd, WFe, PFe. No conditions. -/
import Derived.Shelf.Strconv.Itoa0
import Derived.Test.YtefimjofjjdndaaGreatPxO
open Go.IntKind (wrap)
namespace Go.Proofs.YtefimjofjjdndaaGreat
noncomputable section
section
section
variable {w0:World} {F0:Nat->Prop} {K:Kp} {ac:List Act} {Q:Exit->Act->World->Prop} {cX:Ctx} {aX:Act}
open Go.Shelf

theorem E6i {n:Nat} (h:n<B6):inP (Fin.ofNat B6 n)=Fin.ofNat pN n:=by
 apply Fin.ext
 show (n % B6) % pN=n % pN;rw[Nat.mod_eq_of_lt h]
theorem E0l (n:Int) (h1:0<=n) (h2:n<18446744073709551616):FnD Tryz.prog 77 [.v (.c (.int .u64 n))] (.v (.a [.ob (.p (Fin.ofNat pN n.toNat))])) []:=by
 refine (A6 D0l Tryz.func77 (G6i n) ⟨h1,h2,by decide,by decide,by decide,by decide,by decide,by decide,by decide,by decide,by decide,by decide,trivial⟩).conv (fun _ _ h=>h) fun y v hd=>?_
 rw[Nat.add_zero,E6i (by unfold B6;omega)] at hd
 exact hd
theorem E8u (x:Fp):FnD Tryz.prog 60 [.v (.a [.ob (.p x)])] (.v (.c (.bool (decide (x=0))))) []:=by
 refine (A6 D0l Tryz.func60 (H6g _) trivial).conv (fun _ _ h=>h) fun y v hd=>?_
 rw[if_pos rfl] at hd;exact hd
def B0m:B7
 | [.v (.c (.int .u64 n))]=>some ([0<=n,n<18446744073709551616],.v (.a [.ob (.p (Fin.ofNat pN n.toNat))]),[])
 | _=>none
def H2i:Env:=qeF.set (E1 qeF.fn 77 B0m)
theorem G5p:A8 Tryz.prog H2i:=B0 D0l 77 B0m (A5 Tryz.func77 rfl rfl) fun args o r es h ho=>by
 unfold B0m at h;split at h
 ·cases h;exact E0l _ ho.1 ho.2.1
 ·cases h
def C1l:B7
 | [.v (.a [.ob (.p x)])]=>some ([],.v (.a [.ob (.p (0-x))]),[])
 | _=>none
def H2j:Env:=H2i.set (E1 H2i.fn 135 C1l)
theorem G5q:A8 Tryz.prog H2j:=B0 G5p 135 C1l (A5 Tryz.func135 rfl rfl) fun args o r es h _=>by
 unfold C1l at h;split at h
 ·cases h;exact A6 D0l Tryz.func135 (H8o _) trivial
 ·cases h
def B6b:B7
 | [.v (.a [.ob (.p x)])]=>some ([],.v (.c (.bool (decide (x=0)))),[])
 | _=>none
def qeG:Env:=H2j.set (E1 H2j.fn 60 B6b)
theorem H2k:A8 Tryz.prog qeG:=B0 G5q 60 B6b (A5 Tryz.func60 rfl rfl) fun args o r es h _=>by
 unfold B6b at h;split at h
 ·cases h;exact E8u _
 ·cases h

def I2r:Ren:=⟨fun n=>if n=129 then 139 else 0,fun t=>if t=46 then 175 else if t=53 then 22 else t,fun g=>g⟩
theorem H8h:Lays.n129 Tryz.prog I2r:=
  { mixed:=by kernel_rfl
    f129:=by kernel_rfl
    t3:=by kernel_rfl
    a3:=fun _=>by kernel_rfl
    z3:=fun _=>by kernel_rfl
    v3:=fun _=>by kernel_rfl
    t4:=by kernel_rfl
    a4:=fun _=>by kernel_rfl
    z4:=fun _=>by kernel_rfl
    v4:=fun _=>by kernel_rfl
    t5:=by kernel_rfl
    a5:=fun _=>by kernel_rfl
    z5:=fun _=>by kernel_rfl
    v5:=fun _=>by kernel_rfl
    t9:=by kernel_rfl
    a9:=fun _=>by kernel_rfl
    z9:=fun _=>by kernel_rfl
    v9:=fun _=>by kernel_rfl
    t46:=by kernel_rfl
    a46:=fun _=>by kernel_rfl
    z46:=fun _=>by kernel_rfl
    v46:=fun _=>by kernel_rfl
    t53:=by kernel_rfl
    a53:=fun _=>by kernel_rfl
    z53:=fun _=>by kernel_rfl
    v53:=fun _=>by kernel_rfl }
theorem E6m (n:Int) (h0:0<=n) (h1:n<18446744073709551616):FnD Tryz.prog 139 [.v (.c (.int .u64 n))] (.v (.c (.int .i64 (Lib.bitLen n.toNat:Nat)))) []:=
 F1u fun x vs hd=>by
  cases hd with | cons d1 hd=>
  cases hd
  rw[U5 d1];exact ⟨_,Any.bits_Len64 H8h n x.w h0 (by omega),⟨rfl,0,rfl⟩⟩
def C8t:B7
 | [.v (.c (.int .u64 n))]=>some ([0<=n,n<18446744073709551616],.v (.c (.int .i64 (Lib.bitLen n.toNat:Nat))),[])
 | _=>none
def G5r:Env:=qeG.set (E1 qeG.fn 139 C8t)
theorem E4i:A8 Tryz.prog G5r:=B0 H2k 139 C8t (A5 Tryz.func139 rfl rfl) fun args o r es h ho=>by
 unfold C8t at h;split at h
 ·cases h;exact E6m _ ho.1 ho.2.1
 ·cases h
theorem ct (l:List Int):let b:Int:=l.length;let a:=ite ((16:Int)<b) (16:Int) b;B9 G5r Tryz.f138 3000 [.v (.c (.sl (.u64 l)))] [] [] []=(some ([(0<=a),(a<=a),(a<=b)],((.ci (.sl (.u64 (List.take (a).toNat (List.drop 0 l))))),[]))):=by intros;kernel_rfl

theorem G0s (l:List Int) (hl:l.length<=16):FnD Tryz.prog 138 [.v (.c (.sl (.u64 l)))] (.v (.c (.sl (.u64 l)))) []:=by
 have r:=ct l;dsimp only at r;have e:(if (16:Int)<((l.length:Nat):Int) then (16:Int) else ((l.length:Nat):Int))=((l.length:Nat):Int):=if_neg (by omega)
 rw[e,Int.toNat_natCast,List.drop_zero,List.take_length] at r;exact A6 E4i Tryz.func138 r ⟨by omega,Int.le_refl _,Int.le_refl _,trivial⟩
def C7m:B7
 | [.v (.c (.sl (.u64 l)))]=>some ([l.length<=16],.v (.c (.sl (.u64 l))),[])
 | _=>none
def E7u:Env:=G5r.set (E1 G5r.fn 138 C7m)
theorem B3b:A8 Tryz.prog E7u:=B0 E4i 138 C7m (A5 Tryz.func138 rfl rfl) fun args o r es h ho=>by
 unfold C7m at h;split at h
 ·cases h;exact G0s _ ho.1
 ·cases h
def A9p:List KI:=(run E7u false 3000 ((fun (l:List Int)=>(⟨[.code (C5 Tryz.f124)],.normal,F9 Tryz.f124.ntmps [.v (.c (.sl (.u64 l)))]⟩:Cfg)) default) []).cfg.k
theorem I1n (l:List Int) (ho:A9 [(l.length<=16)]):Sg Tryz.prog (F9 Tryz.f124.ntmps [.v (.c (.sl (.u64 l)))]) (B2 26 [0,3] [(.ci (.sl (.u64 l))),(.ii (wrap .i64 ((l.length:Int)-1)))] [] [] 144 [] []) .normal (A9p) ([.code (C5 Tryz.f124)]):=fun hs hK=>
 B1 (unroll:=false) (n:=3000) (path:=[]) (o:=⟨_,_,_,_,_,_,_⟩) B3b (by kernel_rfl) (by kernel_rfl) ho hs hK
def nbS (l:List Int) (i:Int):St:=B2 26 [0,3] [(.ci (.sl (.u64 l))),.v (.c (.int .i64 i))] [] [] 144 [] []
theorem nbN (l:List Int) (i:Int) (ho:A9 [((decide (i >= (0:Int)))=true),(0<=i),(i<(l.length:Int)),(((l.getD i.toNat 0) != (0:Int))=false)]):Sg Tryz.prog (nbS l i) (B2 26 [0,3] [(.ci (.sl (.u64 l))),(.ii (wrap .i64 (i-1)))] [] [] 304 [] []) .normal (S5 A9p) (G6 A9p):=fun hs hK=>
 B1 (unroll:=false) (n:=3000) (path:=[true,false]) (o:=⟨_,_,_,_,_,_,_⟩) B3b (by kernel_rfl) (by kernel_rfl) ho hs hK
theorem G3v (l:List Int) (i:Int):let a:=l.getD i.toNat 0;let b:=i<(l.length:Int);J7 E7u Tryz.f124 false 3000 (⟨G6 A9p,.normal,nbS l i⟩) [true,true] [] []=(some ([((decide (i >= (0:Int)))=true),(0<=i),b,((a != (0:Int))=true),(0<=i),b,(0<=a),(a<(18446744073709551616:Int))],((.ii (wrap .i64 ((wrap .i64 ((64:Int)*i))+(((Lib.bitLen (a).toNat):Nat):Int)))),[]))):=by intros;kernel_rfl
theorem G3u (l:List Int) (i:Int):J7 E7u Tryz.f124 false 3000 (⟨G6 A9p,.normal,nbS l i⟩) [false] [] []=(some ([((decide (i >= (0:Int)))=false)],((.ii (0:Int)),[]))):=by kernel_rfl
theorem E9o (l:List Int) (hl:l.length<=16) (hlim:A5i l):FnD Tryz.prog 124 [.v (.c (.sl (.u64 l)))] (.v (.c (.int .i64 (K7 l l.length:Nat)))) []:=by
 refine A0n (fn:=Tryz.f124) (c:=C5 Tryz.f124) Tryz.func124 rfl rfl fun x a hk hF hs=>?_
 refine I1n l ⟨hl,trivial⟩ hs fun ac cY aY hs1=>?_
 rw[C9 (by omega) (by omega)] at hs1
 refine I3 (ι:={ n:Nat // n<=l.length∧K7 l n=K7 l l.length }) (fun n=>nbS l ((n.1:Int)-1)) (fun n=>n.1) (c:=lpC A9p) (k:=lpR A9p) (by kernel_rfl) (fun n ih ac cY aY hs=>?_) ⟨l.length,Nat.le_refl _,rfl⟩ (hs1.nx _)
 obtain ⟨n,hn,he⟩:=n;simp only at ih hs
 cases n with
 | zero=>
  rw[<-he];exact Q4 B3b hk hF (G3u l _) ⟨by simp,trivial⟩ (fun y v hd=>hd) hs
 | succ n=>
  have e1:((n+1:Nat):Int)-1=(n:Int):=by omega
  rw[e1] at hs;have hg:=C0x hlim n;by_cases h0:l.getD n 0=0
  ·refine nbN l _ ⟨by simp,by omega,by omega,by rw[Int.toNat_natCast,h0];rfl,trivial⟩ hs fun ac cZ aZ hs2=>?_
   rw[C9 (by omega) (by omega)] at hs2
   refine ih ⟨n,by omega,?_⟩ (Nat.lt_succ_self n) ac cZ aZ (hs2.nx _)
   rw[<-he];show _=if l.getD n 0≠0 then _ else K7 l n
   rw[if_neg (by simpa using h0)]
  ·have r:=G3v l (n:Int)
   dsimp only at r;have hb:K7 l l.length=64*n+Lib.bitLen (l.getD n 0).toNat:=by
    rw[<-he];show (if l.getD n 0≠0 then _ else K7 l n)=_
    rw[if_pos h0]
   have hle:=C4l (l.getD n 0).toNat;rw[Int.toNat_natCast] at r;have e2:wrap IntKind.i64 (wrap IntKind.i64 ((64:Int)*(n:Int))+((Lib.bitLen (l.getD n 0).toNat:Nat):Int))=((K7 l l.length:Nat):Int):=by
    rw[hb];generalize Lib.bitLen (l.getD n 0).toNat=B at *;rw[C9 (n:=(64:Int)*(n:Int)) (by omega) (by omega),C9 (by omega) (by omega)]
    omega
   rw[e2] at r;have hne:(l.getD n 0 != (0:Int))=true:=by simpa using h0
   exact Q4 B3b hk hF r ⟨by simp,by omega,by omega,hne,by omega,by omega,hg.1,hg.2,trivial⟩ (fun y v hd=>hd) hs
def B8i:B7
 | [.v (.c (.sl (.u64 l)))]=>some ([l.length<=16,A5i l],.v (.c (.int .i64 (K7 l l.length:Nat))),[])
 | _=>none
def qeH:Env:=E7u.set (E1 E7u.fn 124 B8i)
theorem Z5:A8 Tryz.prog qeH:=B0 B3b 124 B8i (A5 Tryz.func124 rfl rfl) fun args o r es h ho=>by
 unfold B8i at h;split at h
 ·cases h;exact E9o _ ho.1 ho.2.1
 ·cases h
def G8l:List KI:=(run qeH false 3000 ((fun (l:Nat) (v:Value)=>(⟨[.code (C5 Tryz.f123)],.normal,⟨B3q [.v (.c (.val (.func (.yield l) #[] #[]))),.v (.c (.ptr 0 0))],one (.fl [.val v]),Tryz.f123.ntmps,16,[]⟩⟩:Cfg)) default default) []).cfg.k
theorem bt (l:Nat) (v:Value):let a:=Array.mk ([]:List Value);A9 []->Sg Tryz.prog (⟨B3q [.v (.c (.val (.func (.yield l) #[] #[]))),.v (.c (.ptr 0 0))],one (.fl [.val v]),Tryz.f123.ntmps,16,[]⟩) (B2 24 [0,1,4] [(.ci (.val (Value.func (Fn.yield l) a a))),.pt 0 0,(.ci (.val v))] [0] [(eF_ [(.val v)])] 32 [] []) .normal (G8l) ([.code (C5 Tryz.f123)]):=fun ho=>fun hs hK=>
 B1 (unroll:=false) (n:=3000) (path:=[]) (o:=⟨_,_,_,_,_,_,_⟩) Z5 (by kernel_rfl) (by kernel_rfl) ho hs hK
def btA (l:Nat) (v:Value) (e:List Int):St:=B2 24 [0,1,4] [(.ci (.val (Value.func (Fn.yield l) (Array.mk ([]:List Value)) (Array.mk ([]:List Value))))),.pt 0 0,.v (.c (.sl (.u64 e)))] [0] [(eF_ [(.val v)])] 32 [] []
def D7n:List KI:=(run qeH false 3000 ((fun (l:Nat) (v:Value) (e:List Int)=>(⟨G8l,.normal,btA l v e⟩:Cfg)) default default default) []).cfg.k
theorem bu (l:Nat) (v:Value) (e:List Int):let a:=Array.mk ([]:List Value);A9 [(e.length<=16),(A5i e)]->Sg Tryz.prog (btA l v e) (B2 24 [0,1,3] [(.ci (.val (Value.func (Fn.yield l) a a))),.pt 0 0,(.ii (wrap .i64 ((((K7 e e.length):Nat):Int)-1)))] [0] [(eF_ [(.val v)])] 80 [] []) .normal (D7n) (G8l):=fun ho=>fun hs hK=>
 B1 (unroll:=false) (n:=3000) (path:=[]) (o:=⟨_,_,_,_,_,_,_⟩) Z5 (by kernel_rfl) (by kernel_rfl) ho hs hK
def buS (l:Nat) (v:Value) (i:Int):St:=B2 24 [0,1,3] [(.ci (.val (Value.func (Fn.yield l) (Array.mk ([]:List Value)) (Array.mk ([]:List Value))))),.pt 0 0,.v (.c (.int .i64 i))] [0] [(eF_ [(.val v)])] 80 [] []
def G8m:List KI:=(run qeH false 3000 ((fun (l:Nat) (v:Value) (i:Int)=>(⟨G6 D7n,.normal,buS l v i⟩:Cfg)) default default default) [true]).cfg.k
theorem bv (l:Nat) (v:Value) (i:Int):let b:=Array.mk ([]:List Value);let a:=Value.func (Fn.yield l) b b;A9 [((decide (i >= (0:Int)))=true),((64:Int)≠(0:Int))]->Sg Tryz.prog (buS l v i) (B2 24 [0,1,3,11,12,14] [(.ci (.val a)),.pt 0 0,.ii i,(.ci (.val a)),(.ci (.val v)),(.ii (wrap .i64 (Int.tdiv i (64:Int))))] [0] [(eF_ [(.val v)])] 176 [] []) .normal (G8m) (G6 D7n):=fun ho=>fun hs hK=>
 B1 (unroll:=false) (n:=3000) (path:=[true]) (o:=⟨_,_,_,_,_,_,_⟩) Z5 (by kernel_rfl) (by kernel_rfl) ho hs hK
def bvA (l:Nat) (v:Value) (e:List Int) (i:Int):St:=B2 24 [0,1,3,11,12,14] [(.ci (.val (Value.func (Fn.yield l) (Array.mk ([]:List Value)) (Array.mk ([]:List Value))))),.pt 0 0,.ii i,(.ci (.val (Value.func (Fn.yield l) (Array.mk ([]:List Value)) (Array.mk ([]:List Value))))),.v (.c (.sl (.u64 e))),(.ii (wrap .i64 (Int.tdiv i (64:Int))))] [0] [(eF_ [(.val v)])] 176 [] []
def H6t:List KI:=(run qeH false 3000 ((fun (l:Nat) (v:Value) (e:List Int) (i:Int)=>(⟨G8m,.normal,bvA l v e i⟩:Cfg)) default default default default) []).cfg.k
theorem bw (l:Nat) (v:Value) (e:List Int) (i:Int):let c:=Array.mk ([]:List Value);let a:=Value.func (Fn.yield l) c c;let d:Int:=64;let b:=wrap .i64 (Int.tdiv i d);let f:=Int.tmod i d;A9 [(0<=b),(b<(e.length:Int)),(d≠(0:Int)),(0<=f)]->Sg Tryz.prog (bvA l v e i) (B2 24 [0,1,3,11,21] [(.ci (.val a)),.pt 0 0,.ii i,(.ci (.val a)),(.ci (.bool ((I8 BinOp.and IntKind.u64 (Int.fdiv (List.getD e (b).toNat 0) ((2:Int) ^ (Min.min (f).toNat 64))) (1:Int)) == (1:Int))))] [0] [(eF_ [(.val v)])] 288 [] []) .normal (H6t) (G8m):=fun ho=>fun hs hK=>
 B1 (unroll:=false) (n:=3000) (path:=[]) (o:=⟨_,_,_,_,_,_,_⟩) Z5 (by kernel_rfl) (by kernel_rfl) ho hs hK
theorem bX (l:Nat) (v:Value) (i:Int) (ho:A9 [((decide (i >= (0:Int)))=false)]):Sg Tryz.prog (buS l v i) (B2 24 [] [] [0] [(eF_ [(.val v)])] 112 [] []) .normal ([]) (G6 D7n):=fun hs hK=>
 B1 (unroll:=false) (n:=3000) (path:=[false]) (o:=⟨_,_,_,_,_,_,_⟩) Z5 (by kernel_rfl) (by kernel_rfl) ho hs hK
theorem bB (l:Nat) (v:Value) (i:Int) (b:Bool):let a:=Array.mk ([]:List Value);A9 []->Sg Tryz.prog (⟨M3 (D8 .top [0,1,3,11,21] [(.ci (.val (.func (.yield l) #[] #[]))),.v (.c (.ptr 0 0)),.v (.c (.int .i64 i)),(.ci (.val (.func (.yield l) #[] #[]))),.v (.c (.bool b))]) 22 (.ci (.lit true)),one (.fl [.val v]),24,400,[]⟩) (B2 24 [0,1,3] [(.ci (.val (Value.func (Fn.yield l) a a))),.pt 0 0,(.ii (wrap .i64 (i-1)))] [0] [(eF_ [(.val v)])] 464 [] []) .normal (S5 D7n) (A0i H6t):=fun ho=>fun hs hK=>
 B1 (unroll:=false) (n:=3000) (path:=[]) (o:=⟨_,_,_,_,_,_,_⟩) Z5 (by kernel_rfl) (by kernel_rfl) ho hs hK

theorem C9c (v : Value) (w : World) : (method (Tryz.prog.types.size + Made.depth) 77 v "Times").run Tryz.prog w = .ok (105, v) w := by kernel_rfl
theorem D4a (v : Value) (w : World) : (method (Tryz.prog.types.size + Made.depth) 77 v "Plus").run Tryz.prog w = .ok (106, v) w := by kernel_rfl
theorem C9b (v : Value) (w : World) : (method (Tryz.prog.types.size + Made.depth) 77 v "Minus").run Tryz.prog w = .ok (132, v) w := by kernel_rfl
theorem C3u (v : Value) (w : World) : (method (Tryz.prog.types.size + Made.depth) 77 v "IsZero").run Tryz.prog w = .ok (60, v) w := by kernel_rfl
theorem B7a (v : Value) (w : World) : (method (Tryz.prog.types.size + Made.depth) 77 v "Negative").run Tryz.prog w = .ok (135, v) w := by kernel_rfl
theorem C1b (v : Value) (w : World) : (method (Tryz.prog.types.size + Made.depth) 77 v "Inverse").run Tryz.prog w = .ok (142, v) w := by kernel_rfl
def H0f (t : Nat) : Option (List (String × Nat)) := if t = 77 then some [("Times", 105), ("Plus", 106), ("Minus", 132), ("IsZero", 60), ("Negative", 135), ("Inverse", 142)] else none
def qeI:Env:={ qeH with inv:=H0f }
theorem A9y:A8 Tryz.prog qeI:=by
 refine ⟨Z5.ty,Z5.mixed,Z5.fn,Z5.mu,Z5.inl,Z5.ex,fun t l h=>?_⟩
 have h:H0f t=some l:=h;unfold H0f at h;split at h
 ·rename_i ht
  cases h
  subst ht;refine ⟨by kernel_rfl,fun name g hg v args w=>?_⟩
  unfold A1e at hg;split at hg
  ·rename_i hn
   cases hg
   subst hn;simp only[callMethod,Sem.run_bind,run_program,Result.andThen_ok,C9c]
  unfold A1e at hg;split at hg
  ·rename_i hn
   cases hg
   subst hn;simp only[callMethod,Sem.run_bind,run_program,Result.andThen_ok,D4a]
  unfold A1e at hg;split at hg
  ·rename_i hn
   cases hg
   subst hn;simp only[callMethod,Sem.run_bind,run_program,Result.andThen_ok,C9b]
  unfold A1e at hg;split at hg
  ·rename_i hn
   cases hg
   subst hn;simp only[callMethod,Sem.run_bind,run_program,Result.andThen_ok,C3u]
  unfold A1e at hg;split at hg
  ·rename_i hn
   cases hg
   subst hn;simp only[callMethod,Sem.run_bind,run_program,Result.andThen_ok,B7a]
  unfold A1e at hg;split at hg
  ·rename_i hn
   cases hg
   subst hn;simp only[callMethod,Sem.run_bind,run_program,Result.andThen_ok,C1b]
  cases hg
 ·cases h
def D0m:List KI:=(run qeI false 3000 ((fun (a:Fp) (e:List Int)=>(⟨[.code (C5 Tryz.f143)],.normal,F9 Tryz.f143.ntmps [.v (.a [.ob (.p a)]),.v (.a [.ob (.p 1)]),.v (.c (.sl (.u64 e)))]⟩:Cfg)) default default) []).cfg.k
theorem qp (a:Fp) (e:List Int) (ho:A9 []):Sg Tryz.prog (F9 Tryz.f143.ntmps [.v (.a [.ob (.p a)]),.v (.a [.ob (.p 1)]),.v (.c (.sl (.u64 e)))]) (B2 23 [3,6,7,11] [.pt 16 0,.pt 48 0,.pt 80 0,(.ci (.clo 123 [(128,0)]))] [16,48,80,128] [(eF_ [.ob (.p a)]),(eF_ [(.ob (.p (0:Fp)))]),(eF_ [(.ob (.p (1:Fp)))]),(eF_ [.sl (.u64 e)])] 192 [] []) .normal (D0m) ([.code (C5 Tryz.f143)]):=fun hs hK=>
 B1 (unroll:=false) (n:=3000) (path:=[]) (o:=⟨_,_,_,_,_,_,_⟩) A9y (by kernel_rfl) (by kernel_rfl) ho hs hK
def qpS (a:Fp) (e:List Int) (o:Fp):St:=B2 23 [3,6,7,11] [.pt 16 0,.pt 48 0,.pt 80 0,(.ci (.clo 123 [(128,0)]))] [16,48,80,128] [(eF_ [.ob (.p a)]),(eF_ [(.ob (.p (0:Fp)))]),some (.fl [.ob (.p o)]),(eF_ [.sl (.u64 e)])] 192 [] []
theorem qpA (a:Fp) (e:List Int) (o:Fp) (z:Bool) {ρ:Option Nat} (ho:A9 []) (hs:Sim w0 F0 K ac (X6 (qpS a e o) [(12,.v (.c (.bool z)))]) cX aX) (hK:∀cY aY,Sim w0 F0 K ac (B2 23 [3,6,7,8] [.pt 16 0,.pt 48 0,.pt 80 0,(.ci (.bool z))] [16,48,80,128] [(eF_ [.ob (.p a)]),(eF_ [(.ob (.p (0:Fp)))]),(eF_ [.ob (.p o)]),(eF_ [.sl (.u64 e)])] 208 [[3,6,7,11]] [([.pt 16 0,.pt 48 0,.pt 80 0,(.ci (.clo 123 [(128,0)]))],23)]) cY aY->Wq Tryz.prog Q ([]) ac Exit.normal aY cY.w ρ):Wq Tryz.prog Q ([.code (rfA D0m)]) ac .normal aX cX.w ρ :=
 G4 (unroll:=false) (n:=3000) (path:=[]) (o:=⟨_,_,_,_,_,_,_⟩) A9y (by kernel_rfl) (by kernel_rfl) ho (by kernel_rfl) (by kernel_rfl) hs hK
def qpB (a:Fp) (e:List Int) (o:Fp) (z:Bool):St:=B2 23 [3,6,7,8] [.pt 16 0,.pt 48 0,.pt 80 0,(.ci (.bool z))] [16,48,80,128] [(eF_ [.ob (.p a)]),(eF_ [(.ob (.p (0:Fp)))]),some (.fl [.ob (.p o)]),(eF_ [.sl (.u64 e)])] 208 [[3,6,7,11]] [([.pt 16 0,.pt 48 0,.pt 80 0,(.ci (.clo 123 [(128,0)]))],23)]
theorem qpC (a:Fp) (e:List Int) (o:Fp) (z:Bool) {ρ:Option Nat} (ho:A9 [(z=true)]) (hs:Sim w0 F0 K ac (qpB a e o z) cX aX) (hK:∀cY aY,Sim w0 F0 K ac (B2 23 [6] [.pt 48 0] [16,48,80,128] [(eF_ [.ob (.p a)]),(eF_ [(.ob (.p (0:Fp)))]),(eF_ [(.ob (.p ((o*o)*a)))]),(eF_ [.sl (.u64 e)])] 384 [[3,6,7,11]] [([.pt 16 0,.pt 48 0,.pt 80 0,(.ci (.clo 123 [(128,0)]))],23)]) cY aY->Wq Tryz.prog Q ([]) ac Exit.normal aY cY.w ρ):Wq Tryz.prog Q ([.code (rfB D0m)]) ac .normal aX cX.w ρ :=
 G4 (unroll:=false) (n:=3000) (path:=[true]) (o:=⟨_,_,_,_,_,_,_⟩) A9y (by kernel_rfl) (by kernel_rfl) ho (by kernel_rfl) (by kernel_rfl) hs hK
theorem qpD (a:Fp) (e:List Int) (o:Fp) (z:Bool) {ρ:Option Nat} (ho:A9 [(z=false)]) (hs:Sim w0 F0 K ac (qpB a e o z) cX aX) (hK:∀cY aY,Sim w0 F0 K ac (B2 23 [6] [.pt 48 0] [16,48,80,128] [(eF_ [.ob (.p a)]),(eF_ [(.ob (.p (0:Fp)))]),(eF_ [(.ob (.p (o*o)))]),(eF_ [.sl (.u64 e)])] 304 [[3,6,7,11]] [([.pt 16 0,.pt 48 0,.pt 80 0,(.ci (.clo 123 [(128,0)]))],23)]) cY aY->Wq Tryz.prog Q ([]) ac Exit.normal aY cY.w ρ):Wq Tryz.prog Q ([.code (rfB D0m)]) ac .normal aX cX.w ρ :=
 G4 (unroll:=false) (n:=3000) (path:=[false]) (o:=⟨_,_,_,_,_,_,_⟩) A9y (by kernel_rfl) (by kernel_rfl) ho (by kernel_rfl) (by kernel_rfl) hs hK
theorem qpX (a:Fp) (e:List Int) (o:Fp) (ho:A9 []):Sg Tryz.prog (qpS a e o) (B2 23 [6] [.pt 48 0] [48] [(eF_ [.ob (.p o)])] 224 [] []) .ret ([]) (rfR D0m):=fun hs hK=>
 B1 (unroll:=false) (n:=3000) (path:=[]) (o:=⟨_,_,_,_,_,_,_⟩) A9y (by kernel_rfl) (by kernel_rfl) ho hs hK
def qpE (a:Fp) (e:List Int) (o:Fp):St:=B2 23 [6] [.pt 48 0] [16,48,80,128] [(eF_ [.ob (.p a)]),(eF_ [(.ob (.p (0:Fp)))]),some (.fl [.ob (.p o)]),(eF_ [.sl (.u64 e)])] 384 [[3,6,7,11]] [([.pt 16 0,.pt 48 0,.pt 80 0,(.ci (.clo 123 [(128,0)]))],23)]
def qpZ (o:Fp):St:=B2 23 [6] [.pt 48 0] [48] [some (.fl [.ob (.p o)])] 224 [] []
theorem G5t (o:Fp):J7 qeI Tryz.f143 false 3000 (⟨[],.ret,qpZ o⟩) [] [] []=(some ([],((.v (.a [.ob (.p o)])),[]))):=by kernel_rfl
end
end

section

theorem I0k {m:Nat}:I8 BinOp.and IntKind.u64 (m:Int) (1:Int)=((m % 2:Nat):Int):=by
 show wrap IntKind.u64 ((BitVec.ofInt 64 (m:Int) &&& BitVec.ofInt 64 ((1:Nat):Int)).toNat:Int)=_;rw[BitVec.ofInt_natCast,BitVec.ofInt_natCast,BitVec.toNat_and,BitVec.toNat_ofNat,BitVec.toNat_ofNat];have e:1 % 2 ^ 64=2 ^ 1-1:=by decide
 rw[e,Nat.and_two_pow_sub_one_eq_mod,C3n];omega

theorem E9m {e:List Int} (h:A5i e) {i:Nat} (hi:i<1024):(I8 BinOp.and IntKind.u64 (Int.fdiv (List.getD e (wrap IntKind.i64 (Int.tdiv (i:Int) (64:Int))).toNat (0:Int)) ((2:Int) ^ (Min.min (Int.tmod (i:Int) (64:Int)).toNat 64))) (1:Int) == (1:Int))=decide (O9 e / 2 ^ i % 2=1):=by
 have e1:Int.tdiv (i:Int) (64:Int)=((i / 64:Nat):Int):=Int.tdiv_eq_ediv_of_nonneg (by omega)
 have e2:Int.tmod (i:Int) (64:Int)=((i % 64:Nat):Int):=Int.tmod_eq_emod_of_nonneg (by omega)
 have e3:Min.min (((i % 64:Nat):Int)).toNat 64=i % 64:=by omega
 have hg:=C0x h (i / 64);rw[e1,C9 (by omega) (by omega),Int.toNat_natCast,e2,e3,D4u h i]
 obtain ⟨g,hg2⟩:=Int.eq_ofNat_of_zero_le hg.1;have hp:((2:Int) ^ (i % 64))=((2 ^ (i % 64):Nat):Int):=by simp
 rw[hg2,hp,Int.fdiv_eq_ediv_of_nonneg _ (Int.natCast_nonneg _),<-Int.natCast_ediv,I0k,Int.toNat_natCast];generalize g / 2 ^ (i % 64)=m;by_cases hm:m % 2=1
 ·rw[hm];rfl
 ·have:m % 2=0:=by omega
  rw[this];rfl

def B6d (z:Bool):List Value:=[.bool z]

theorem A7f {x:Ctx} {p:Nat} {e:List Int} {M:List Bool->Nat->Option En} (hl:e.length<=16) (hlim:A5i e) (hM:∀s,M s p=some (.fl [.sl (.u64 e)])) :
  A8e Tryz.prog x 123 [(p,0)] B6d (btL (O9 e) (K7 e e.length) (K7 e e.length)) M:=by
 intro l J W hgrow hread hyield hJ;have hcl:=B8h e e.length;generalize hc:K7 e e.length=c at *;generalize hN:O9 e=N at *;have key:Wq Tryz.prog (bodyPost Tryz.prog Tryz.f123 fun e' W' => (∃v,e' = Ending.returned v)∧J (btL N c c) W') [.code (C5 Tryz.f123)] [] .normal { tmps:=[Value.func (.yield l) #[] #[],.pointer (some ⟨x.β p,0,none⟩)].toArray++Array.replicate 22 undef,defers:=[] } W:=?_
 ·exact calls_of_wp (c:=C5 Tryz.f123) Tryz.func123 rfl ((wpIn_wide (n:=0)).1 key.wp)
 obtain ⟨y,rfl,hm,hcp⟩:=hread [] W hJ;obtain ⟨hr,hβ⟩:=hcp (p,0) List.mem_cons_self;have hr:y.k p = .real:=hr;have hβ:y.β p=x.β p:=hβ;have hargs:I4 (E4 y p) [.v (.c (.val (.func (.yield l) #[] #[]))),.v (.c (.ptr 0 0))] [.func (.yield l) #[] #[],.pointer (some ⟨x.β p,0,none⟩)]:=
  .cons ⟨rfl,0,rfl,rfl⟩ (.cons ⟨rfl,0,rfl,by show _=[Value.pointer (some ⟨y.β p,0,none⟩)];rw[hβ]⟩ .nil)
 obtain ⟨v,hv,hbox⟩:=E9s hm (hM []) hr;have hs:=B4i (nx:=16) (nt:=24) (a:={ tmps:=[Value.func (.yield l) #[] #[],.pointer (some ⟨x.β p,0,none⟩)].toArray++Array.replicate 22 undef,defers:=[] }) hm (hM []) hr hbox rfl (by simp) (A3p hargs 22)
 change Wq Tryz.prog _ _ _ _ _ (E4 y p).w
 refine bt l v trivial hs fun ac cY aY hs1=>?_
 have hmb:Mem (E4 y p) (one (.fl [.val v])):=A9e hm (hM _) hr hbox;obtain ⟨hg1,_,_⟩:=A1m hmb rfl hs1 rfl;have hsl:cY.D (.sl (.u64 e)) [v]:=C4s hg1 (fun b hb=>hs1.base.f0 b hb) hm.fw rfl hv
 have hs2:=hs1.slots (svs' := [.v (.c (.val (.func (.yield l) #[] #[]))),.v (.c (.ptr 0 0)),.v (.c (.sl (.u64 e)))]) ⟨fun _ h=>h,fun _ h=>h,D2e rfl hsl,trivial⟩
 refine bu l v e ⟨hl,hlim,trivial⟩ hs2 fun ac cZ aZ hs3=>?_
 rw[hc,C9 (by omega) (by omega)] at hs3
 let I:{ t:Nat // t<=c } -> List Act->Act->World->Prop:=fun t ac a w=>∃y z v,z.w=w∧y.k p = .real∧y.β p=x.β p∧Mem y (M (btL N c t.1))∧J (btL N c t.1) y.w∧y.D (.sl (.u64 e)) [v]∧Mem (E4 y p) (one (.fl [.val v]))∧Sim y.w y.F (B4l (E4 y p)) ac (buS l v ((c:Int)-1-(t.1:Int))) z a
 refine A6d I (fun t=>c-t.1) (c:=lpC D7n) (k:=lpR D7n) (by kernel_rfl) (fun t ih ac b w hI=>?_) ⟨0,Nat.zero_le _⟩ ⟨y,cZ,v,rfl,hr,hβ,hm,hJ,hv,hmb,by
   show Sim _ _ _ _ (buS l v ((c:Int)-1-((0:Nat):Int))) _ _;rw[show (c:Int)-1-((0:Nat):Int)=(c:Int)-1 from by omega]
   exact hs3.nx _⟩
 obtain ⟨t,ht⟩:=t;obtain ⟨y,z,v,rfl,hr,hβ,hm,hJ,hv,hmb,hs⟩:=hI;simp only at hm hJ hs ih
 by_cases h:t<c
 ·obtain ⟨i,hi⟩:∃i:Nat,i=c-1-t:=⟨_,rfl⟩
  have ei:(c:Int)-1-(t:Int)=(i:Int):=by omega
  rw[ei] at hs;refine bv l v _ ⟨by simp,by decide,trivial⟩ hs fun ac cV aV hs4=>?_
  obtain ⟨hg4,_,_⟩:=A1m hmb rfl hs4 rfl;have hsl4:cV.D (.sl (.u64 e)) [v]:=C4s hg4 (fun b hb=>hs4.base.f0 b hb) hm.fw rfl hv
  have hs5:=hs4.slots (svs' := [.v (.c (.val (.func (.yield l) #[] #[]))),.v (.c (.ptr 0 0)),.v (.c (.int .i64 (i:Int))),.v (.c (.val (.func (.yield l) #[] #[]))),.v (.c (.sl (.u64 e))),.v (.c (.int .i64 (wrap IntKind.i64 (Int.tdiv (i:Int) (64:Int)))))])
   ⟨fun _ h=>h,fun _ h=>h,fun _ h=>h,fun _ h=>h,D2e rfl hsl4,fun _ h=>h,trivial⟩
  have e1:Int.tdiv (i:Int) (64:Int)=((i / 64:Nat):Int):=Int.tdiv_eq_ediv_of_nonneg (by omega)
  have e2:Int.tmod (i:Int) (64:Int)=((i % 64:Nat):Int):=Int.tmod_eq_emod_of_nonneg (by omega)
  refine bw l v e _ ⟨by rw[e1,C9 (by omega) (by omega)];omega,by rw[e1,C9 (by omega) (by omega)];omega,by decide,by rw[e2];omega,trivial⟩ hs5 fun ac cU aU hs6=>?_
  rw[E9m hlim (by omega:i<1024),hN] at hs6
  obtain ⟨hg,hk2,hβ2⟩:=A1m hmb rfl hs6 rfl;have hJ2:=hgrow _ _ _ hJ hg;have e3:btL N c (t+1)=btL N c t++[decide (N / 2 ^ i % 2=1)]:=by rw[B8k,hi]
  obtain ⟨r,hr1⟩:=G0g N c (n:=c) (t:=t+1) h;refine C3p (R:=fun W' => J (btL N c (t+1)) W') (dst:=some 22) (f:=.tmp 11) (args:=[.tmp 21]) (by kernel_rfl) hs6 (l:=l) rfl (vs:=B6d (decide (N / 2 ^ i % 2=1))) ?_ ?_ fun W' hJ3=>?_
  ·have h21:=B3o (hs6.t 21)
   show [aU.tmps.getD 21 undef]=_;rw[h21];rfl
  ·have:=hyield (btL N c t) (decide (N / 2 ^ i % 2=1)) _ hJ2 ⟨r,by rw[hr1,e3,List.append_assoc];rfl⟩
   rw[<-e3] at this;exact this
  ·obtain ⟨y3,rfl,hm3,hc3⟩:=hread _ _ hJ3
   obtain ⟨hr3,hβ3⟩:=hc3 (p,0) List.mem_cons_self;have hr3:y3.k p = .real:=hr3;have hβ3:y3.β p=x.β p:=hβ3;obtain ⟨v3,hv3,hbox3⟩:=E9s hm3 (hM _) hr3;have hmb3:Mem (E4 y3 p) (one (.fl [.val v3])):=A9e hm3 (hM _) hr3 hbox3;have hs7:=D3p (nx' := 400) (dst:=22) (b:=true) hs6 (by kernel_rfl) rfl hm3 (hM _) hr3 hbox3 (by rw[hβ2,hβ];exact hβ3.symm) (by decide)
   change Wq Tryz.prog _ _ _ _ _ (E4 y3 p).w
   refine bB l v3 _ _ trivial hs7 fun ac cT aT hs8=>?_
   have e4:wrap IntKind.i64 ((i:Int)-1)=(c:Int)-1-((t+1:Nat):Int):=by rw[C9 (by omega) (by omega)];omega
   rw[e4] at hs8;exact ih ⟨t+1,by omega⟩ (by show c-(t+1)<c-t;omega) ac aT _ ⟨y3,cT,v3,rfl,hr3,hβ3,hm3,hJ3,hv3,hmb3,hs8.nx _⟩
 ·have e5:t=c:=by omega
  subst e5;refine bX l v _ ⟨by simp;omega,trivial⟩ hs fun ac cV aV hs4=>?_
  obtain ⟨hg,_,_⟩:=A1m hmb rfl hs4 rfl;exact ⟨C8n Z5 hs4 rfl rfl rfl (fun v=>⟨⟨v,rfl⟩,hgrow _ _ _ hJ hg⟩) (.inr rfl)⟩

def C7f (z:Bool):List SV:=[.v (.c (.bool z))]

theorem H2a (a:Fp) (l:List Bool) (z:Bool):pw a (pv (l++[z]))=if z=true then pw a (pv l)*pw a (pv l)*a else pw a (pv l)*pw a (pv l):=by
 rw[D0i,Nat.two_mul]
 cases z with
 | true=>
  rw[if_pos rfl,<-O2];rfl
 | false=>
  rw[if_neg (by decide),<-O2]
  rfl

theorem D9o (a:Fp) (e:List Int) (hl:e.length<=16) (hlim:A5i e) :
  FnD Tryz.prog 143 [.v (.a [.ob (.p a)]),.v (.a [.ob (.p 1)]),.v (.c (.sl (.u64 e)))] (.v (.a [.ob (.p (pw a (O9 e)))])) []:=by
 refine T9 (fn:=Tryz.f143) (c:=C5 Tryz.f143) Tryz.func143 rfl rfl fun x b hk hF hs=>?_
 refine qp a e trivial hs fun ac cY aY hs1=>?_
 obtain ⟨e1,e2⟩:=A2v (k:=D0m) (by kernel_rfl)
 rw[e1];have eP:(rfP D0m).toList=[12]:=by kernel_rfl
 have eG:rfG D0m = .tmp 11:=by kernel_rfl
 refine Z6 (ps:=rfP D0m) e2 hs1 (gf:=123) (caps:=[(128,0)]) (A5 Tryz.func123 rfl rfl) (fun pre=>qpS a e (pw a (pv pre))) (fun s=>by rw[eG];rfl) ⟨_,rfl⟩ (btL (O9 e) (K7 e e.length) (K7 e e.length)) C7f B6d
  (fun y z=>.cons ⟨rfl,0,rfl⟩ .nil) (fun z=>by rw[<-Array.length_toList,eP];rfl) (fun pre p hp=>?_) (A7f hl hlim fun s=>rfl) (fun pre z=>qpB a e (pw a (pv pre)) z)
  (fun pre z=>qpE a e (pw a (pv (pre++[z])))) (fun pre z=>⟨_,rfl⟩) (fun pre z hz w1 F1 K1 as1 Q1 l y b hs2 hQ=>?_) (fun pre z hz w1 F1 K1 as1 Q1 l y b hs2 hQ=>?_) fun D y hs2 hD hFD hd=>?_
 ·rw[eP] at hp
  have h23:(qpS a e (pw a (pv pre))).nt=23:=rfl;rw[h23];simp only[List.mem_cons,List.not_mem_nil,or_false] at hp;subst hp;decide
 ·rw[eP] at hs2
  exact qpA a e _ z trivial hs2 fun cZ aZ hs3=>⟨hQ _ _ (hs3.nx _)⟩
 ·rw[H2a] at hQ
  cases z with
  | true=>exact qpC a e _ true ⟨rfl,trivial⟩ hs2 fun cZ aZ hs3=>⟨hQ _ _ (hs3.nx _)⟩
  | false=>exact qpD a e _ false ⟨rfl,trivial⟩ hs2 fun cZ aZ hs3=>⟨hQ _ _ (hs3.nx _)⟩
 ·have hs3:=hs2.marked rfl rfl D
  have hN:O9 e<2 ^ K7 e e.length:=by
   have:=C9s hlim e.length (Nat.le_refl _)
   rwa [List.take_length] at this
  rw[B7u hN _ (Nat.le_refl _),Nat.sub_self,Nat.pow_zero,Nat.div_one] at hs2 hs3;generalize pw a (O9 e)=o at hs2 hs3 ⊢
  refine qpX a e o trivial hs3 fun ac cV aV hs6=>⟨?_⟩
  have hs7:Sim y.w y.F (U1 y Y8 (H8 D)) ac (qpZ o) cV aV:=hs6;exact Y6 A9y hk hF (G5t o) trivial (fun y v hd=>hd) hs2 hD hFD hd rfl hs7

end

section

theorem D5l (a u:Fp) (e:List Int) (hu:u=1) (hl:e.length<=16) (hlim:A5i e) :
  FnD Tryz.prog 143 [.v (.a [.ob (.p a)]),.v (.a [.ob (.p u)]),.v (.c (.sl (.u64 e)))] (.v (.a [.ob (.p (pw a (O9 e)))])) []:=by
 subst hu;exact D9o a e hl hlim
def A9w:B7
 | [.v (.a [.ob (.p a)]),.v (.a [.ob (.p u)]),.v (.c (.sl (.u64 e)))]=>some ([u=1,e.length<=16,A5i e],.v (.a [.ob (.p (pw a (O9 e)))]),[])
 | _=>none
def G5s:Env:=qeI.set (E1 qeI.fn 143 A9w)
theorem E4j:A8 Tryz.prog G5s:=B0 A9y 143 A9w (A5 Tryz.func143 rfl rfl) fun args o r es h ho=>by
 unfold A9w at h;split at h
 ·cases h;exact D5l _ _ _ ho.1 ho.2.1 ho.2.2.1
 ·cases h
theorem H7z (a:Fp):B9 G5s Tryz.f142 3000 [.v (.a [.ob (.p a)])] [] [] []=(some ([(0<=(0:Int)),(0<(6:Int)),(0<6),(0<=(0:Int)),(0<(6:Int)),(0<=(1:Int)),((1:Int)<(18446744073709551616:Int)),((Fin.ofNat pN 1)=(1:Fp)),(6<=16),(A5i [(13402431016077863593:Int),(2210141511517208575:Int),(7435674573564081700:Int),(7239337960414712511:Int),(5412103778470702295:Int),(1873798617647539866:Int)])],((.v (.a [(.ob (.p (pw a 4002409555221667393417789825735904156556882819939007885332058136124031650490837864442687629129015664037894272559785)))])),[]))):=by kernel_rfl
/-- 1 divided by it; 0 of 0. -/
def ivP (a:Fp):Fp:=pw a (pN-2)
theorem C8o (x:Fp) (hx:x≠0):x*ivP x=1:=by
 have h:=A5w x hx;have e:pN-1=(pN-2)+1:=by decide
 rw[e] at h;have h2:ivP x*x=1:=h;rw[A9n];exact h2
theorem F3e (a:Fp):FnD Tryz.prog 142 [.v (.a [.ob (.p a)])] (.v (.a [.ob (.p (ivP a))])) []:=by
 have e:4002409555221667393417789825735904156556882819939007885332058136124031650490837864442687629129015664037894272559785=pN-2:=by decide +kernel
 have r:=H7z a;rw[e] at r;refine A6 E4j Tryz.func142 r ⟨by decide,by decide,by decide,by decide,by decide,by decide,by decide,rfl,by decide,?_,trivial⟩
 intro x hx;simp only[List.mem_cons,List.not_mem_nil,or_false] at hx;rcases hx with rfl | rfl | rfl | rfl | rfl | rfl<;>decide
def C0r:B7
 | [.v (.a [.ob (.p a)])]=>some ([],.v (.a [.ob (.p (ivP a))]),[])
 | _=>none
def qeJ:Env:=G5s.set (E1 G5s.fn 142 C0r)
theorem N5:A8 Tryz.prog qeJ:=B0 E4j 142 C0r (A5 Tryz.func142 rfl rfl) fun args o r es h _=>by
 unfold C0r at h;split at h
 ·cases h;exact F3e _
 ·cases h
theorem twA (x y z:Fp):B9 qeJ Tryz.f81 3000 [.v (.a [.ob (.p x),.ob (.p y),.ob (.p z)])] [true] [] []=(some ([((decide (z=(0:Fp)))=true)],((.v (.a [.ob (.p x),.ob (.p y),.ob (.p z)])),[]))):=by kernel_rfl
theorem twB (x y z:Fp):let c:=(y*y)*(y*y);let b:=(((x+(y*y))*(x+(y*y)))-(x*x))-c;let d:=((x*x)+(x*x))+(x*x);let f:=((d*d)-(b+b))-(b+b);B9 qeJ Tryz.f81 3000 [.v (.a [.ob (.p x),.ob (.p y),.ob (.p z)])] [false] [] []=(some ([((decide (z=(0:Fp)))=false)],((.v (.a [(.ob (.p f)),(.ob (.p ((d*((b+b)-f))-(((c+c)+(c+c))+((c+c)+(c+c)))))),(.ob (.p ((y*z)+(y*z))))])),[]))):=by intros;kernel_rfl
theorem ngP (x y z:Fp):B9 qeJ Tryz.f104 3000 [.v (.a [.ob (.p x),.ob (.p y),.ob (.p z)])] [] [] []=(some ([],((.v (.a [.ob (.p x),(.ob (.p ((0:Fp)-y))),.ob (.p z)])),[]))):=by kernel_rfl
end

section

def fp1:Fp:=Fin.ofNat pN 1
def fp4:Fp:=Fin.ofNat pN 4
section
variable {r:Nat} [NeZero r]
theorem D8e (n:Nat):(Fin.ofNat r n).val=n % r:=rfl
end

theorem G2l (x:U6):(inP x).val=x.val % pN:=D8e _
theorem A3i (x:Fp):inP (C7 x)=x:=by
 apply Fin.ext
 rw[G2l,D5b];exact Nat.mod_eq_of_lt x.isLt
section
variable {r:Nat} [NeZero r]
theorem E4g (x:Fin r):∀n,pw (x*x*x) n=pw x n*pw x n*pw x n
 | 0=>by show (1:Fin r)=1*1*1;grind
 | n+1=>by
  show pw (x*x*x) n*(x*x*x)=pw x n*x*(pw x n*x)*(pw x n*x);rw[E4g x n];grind
theorem F7q (x:Fin r) (n:Nat):pw (x*x*x) n=pw x (n+n+n):=by
 rw[O2,O2,E4g]
theorem D9c {a b:Fin r} (h:a+b=0):a=0-b:=by grind
end

theorem D4z:(1:Fp)≠0:=by decide +kernel
theorem D6m:(1:Fp)+1≠0:=by decide +kernel
theorem G2a:fp1=1:=by decide +kernel
theorem I1r:(0:Fp)-fp4=Fin.ofNat pN (pN-4):=by decide +kernel
theorem H4k:pN-1=(pN-1) / 3+(pN-1) / 3+(pN-1) / 3:=by decide +kernel
theorem D4i:(Fin.ofNat pN (pN-4)).val=pN-4:=by decide +kernel
theorem F5l:A4c pN (pN-4) 384 ((pN-1) / 3)≠1:=by decide +kernel
theorem C3c:(pN-1) / 3<2 ^ 384:=by decide +kernel
theorem A4d:((1:Fp):Nat)=1:=by decide +kernel

theorem C7l (c:Fp) (hc:pw c ((pN-1) / 3)≠1) (h0:c≠0) (x:Fp):x*x*x≠c:=by
 intro h;by_cases hx:x=0
 ·apply h0
  rw[<-h,hx];exact mul_zero6
 ·apply hc
  rw[<-h,F7q,<-H4k];exact A5w x hx
where mul_zero6:(0:Fp)*0*0=0:=by decide +kernel

instance fldP:Fld Fp:=
  { (inferInstance:J9 (Fin pN)) with
    inv:=ivP
    mul_inv:=C8o
    one_ne:=D4z }

section
variable {F:Type} [Fld F]
end

end

section

theorem E8q (x y z:Fp):FnD Tryz.prog 81 [.v (.a [.ob (.p x),.ob (.p y),.ob (.p z)])] (.v (.a (Q3 (jtw (x,y,z))))) []:=by
 by_cases h:z=0
 ·have e:jtw (x,y,z)=(x,y,z):=if_pos h
  rw[e];exact A6 N5 Tryz.func81 (twA x y z) ⟨decide_eq_true h,trivial⟩
 ·unfold jtw
  rw[if_neg h];exact A6 N5 Tryz.func81 (twB x y z) ⟨decide_eq_false h,trivial⟩
def D1f:B7
 | [.v (.a [.ob (.p x),.ob (.p y),.ob (.p z)])]=>some ([],.v (.a (Q3 (jtw (x,y,z)))),[])
 | _=>none
def qsA:Env:=qeJ.set (E1 qeJ.fn 81 D1f)
theorem H2l:A8 Tryz.prog qsA:=B0 N5 81 D1f (A5 Tryz.func81 rfl rfl) fun args o r es h _=>by
 unfold D1f at h;split at h
 ·cases h;exact E8q _ _ _
 ·cases h
def C9n:B7
 | [.v (.a [.ob (.p x),.ob (.p y),.ob (.p z)])]=>some ([],.v (.a (Q3 (jng (x,y,z)))),[])
 | _=>none
def qsB:Env:=qsA.set (E1 qsA.fn 104 C9n)
theorem B5p:A8 Tryz.prog qsB:=B0 H2l 104 C9n (A5 Tryz.func104 rfl rfl) fun args o r es h _=>by
 unfold C9n at h;split at h
 ·cases h;exact A6 N5 Tryz.func104 (ngP _ _ _) trivial
 ·cases h
theorem plA (x y z u v w:Fp):B9 qsB Tryz.f79 3000 [.v (.a [.ob (.p x),.ob (.p y),.ob (.p z)]),.v (.a [.ob (.p u),.ob (.p v),.ob (.p w)])] [true] [] []=(some ([((decide (z=(0:Fp)))=true)],((.v (.a [.ob (.p u),.ob (.p v),.ob (.p w)])),[]))):=by kernel_rfl
theorem plB (x y z u v w:Fp):B9 qsB Tryz.f79 3000 [.v (.a [.ob (.p x),.ob (.p y),.ob (.p z)]),.v (.a [.ob (.p u),.ob (.p v),.ob (.p w)])] [false,true] [] []=(some ([((decide (z=(0:Fp)))=false),((decide (w=(0:Fp)))=true)],((.v (.a [.ob (.p x),.ob (.p y),.ob (.p z)])),[]))):=by kernel_rfl
theorem plC (x y z u v w:Fp):let b:=jtw (x,(y,z));let c:Fp:=0;B9 qsB Tryz.f79 3000 [.v (.a [.ob (.p x),.ob (.p y),.ob (.p z)]),.v (.a [.ob (.p u),.ob (.p v),.ob (.p w)])] [false,false,true,true] [] []=(some ([((decide (z=c))=false),((decide (w=c))=false),((decide (((u*(z*z))-(x*(w*w)))=c))=true),((decide ((((v*(z*z))*z)-((y*(w*w))*w))=c))=true)],((.v (.a [(.ob (.p (Prod.fst b))),(.ob (.p (Prod.fst (Prod.snd b)))),(.ob (.p (Prod.snd (Prod.snd b))))])),[]))):=by intros;kernel_rfl
theorem plD (x y z u v w:Fp):let b:Fp:=0;B9 qsB Tryz.f79 3000 [.v (.a [.ob (.p x),.ob (.p y),.ob (.p z)]),.v (.a [.ob (.p u),.ob (.p v),.ob (.p w)])] [false,false,true,false] [] []=(some ([((decide (z=b))=false),((decide (w=b))=false),((decide (((u*(z*z))-(x*(w*w)))=b))=true),((decide ((((v*(z*z))*z)-((y*(w*w))*w))=b))=false)],((.v (.a [.ob (.p x),.ob (.p y),(.ob (.p b))])),[]))):=by intros;kernel_rfl
theorem plE (x y z u v w:Fp):let b:=(u*(z*z))-(x*(w*w));let c:=((v*(z*z))*z)-((y*(w*w))*w);let d:=(x*(w*w))*(b*b);let f:=(((c*c)-((b*b)*b))-d)-d;B9 qsB Tryz.f79 3000 [.v (.a [.ob (.p x),.ob (.p y),.ob (.p z)]),.v (.a [.ob (.p u),.ob (.p v),.ob (.p w)])] [false,false,false] [] []=(some ([((decide (z=(0:Fp)))=false),((decide (w=(0:Fp)))=false),((decide (b=(0:Fp)))=false)],((.v (.a [(.ob (.p f)),(.ob (.p ((c*(d-f))-(((y*(w*w))*w)*((b*b)*b))))),(.ob (.p ((b*z)*w)))])),[]))):=by intros;kernel_rfl
end

section

theorem D9l (x y z u v w:Fp):FnD Tryz.prog 79 [.v (.a [.ob (.p x),.ob (.p y),.ob (.p z)]),.v (.a [.ob (.p u),.ob (.p v),.ob (.p w)])] (.v (.a (Q3 (jpl (x,y,z) (u,v,w))))) []:=by
 by_cases h:z=0
 ·have e:jpl (x,y,z) (u,v,w)=(u,v,w):=if_pos h
  rw[e];exact A6 B5p Tryz.func79 (plA x y z u v w) ⟨decide_eq_true h,trivial⟩
 ·by_cases h2:w=0
  ·have e:jpl (x,y,z) (u,v,w)=(x,y,z):=(if_neg h).trans (if_pos h2)
   rw[e];exact A6 B5p Tryz.func79 (plB x y z u v w) ⟨decide_eq_false h,decide_eq_true h2,trivial⟩
  ·unfold jpl
   rw[if_neg h,if_neg h2];dsimp only;by_cases h3:u*(z*z)-x*(w*w)=0
   ·rw[if_pos h3]
    by_cases h4:v*(z*z)*z-y*(w*w)*w=0
    ·rw[if_pos h4]
     exact A6 B5p Tryz.func79 (plC x y z u v w) ⟨decide_eq_false h,decide_eq_false h2,decide_eq_true h3,decide_eq_true h4,trivial⟩
    ·rw[if_neg h4]
     exact A6 B5p Tryz.func79 (plD x y z u v w) ⟨decide_eq_false h,decide_eq_false h2,decide_eq_true h3,decide_eq_false h4,trivial⟩
   ·rw[if_neg h3]
    exact A6 B5p Tryz.func79 (plE x y z u v w) ⟨decide_eq_false h,decide_eq_false h2,decide_eq_false h3,trivial⟩

end

section

def D0c:B7
 | [.v (.a [.ob (.p x),.ob (.p y),.ob (.p z)]),.v (.a [.ob (.p u),.ob (.p v),.ob (.p w)])]=>some ([],.v (.a (Q3 (jpl (x,y,z) (u,v,w)))),[])
 | _=>none
def qsC:Env:=qsB.set (E1 qsB.fn 79 D0c)
theorem A9z:A8 Tryz.prog qsC:=B0 B5p 79 D0c (A5 Tryz.func79 rfl rfl) fun args o r es h _=>by
 unfold D0c at h;split at h
 ·cases h;exact D9l _ _ _ _ _ _
 ·cases h
def F2z (T:Nat->Option Func) (f:Nat):Option Func:=if f=75 then some Tryz.f75 else T f
def qsD:Env:={ qsC with inl:=F2z qsC.inl }
theorem A4w:A8 Tryz.prog qsD:=by
 refine ⟨A9z.ty,A9z.mixed,A9z.fn,A9z.mu,fun f fn h=>?_,A9z.ex,A9z.inv⟩
 have h:F2z qsC.inl f=some fn:=h;unfold F2z at h;split at h
 ·rename_i hf;cases h;subst hf;exact ⟨Tryz.func75,A5 Tryz.func75 rfl rfl⟩
 exact A9z.inl f fn h
theorem igA (x y:U6) (i:Bool):let b:=(1:Int)<(18446744073709551616:Int);let c:=Fin.ofNat pN 1;B9 qsD Tryz.f40 3000 [.v (.a [.ob (.fp x),.ob (.fp y),.bool i])] [true] [] []=(some ([(i=true),(0<=(1:Int)),b,(0<=(1:Int)),b],((.v (.a [(.ob (.p c)),(.ob (.p c)),(.ob (.p (0:Fp)))])),[]))):=by intros;kernel_rfl
theorem igB (x y:U6) (i:Bool):B9 qsD Tryz.f40 3000 [.v (.a [.ob (.fp x),.ob (.fp y),.bool i])] [false] [] []=(some ([(i=false),(0<=(1:Int)),((1:Int)<(18446744073709551616:Int))],((.v (.a [(.ob (.p (inP x))),(.ob (.p (inP y))),(.ob (.p (Fin.ofNat pN 1)))])),[]))):=by kernel_rfl
theorem ogA (x y z:Fp):B9 qsD Tryz.f39 3000 [.v (.a [.ob (.p x),.ob (.p y),.ob (.p z)])] [true,true] [] []=(some ([((decide (z=(0:Fp)))=true)],((.v (.a [(.ob (.fp (0:U6))),(.ob (.fp (0:U6))),(.lit true)])),[]))):=by kernel_rfl
theorem ogB (x y z:Fp):let b:=ivP z;B9 qsD Tryz.f39 3000 [.v (.a [.ob (.p x),.ob (.p y),.ob (.p z)])] [false,false] [] []=(some ([((decide (z=(0:Fp)))=false)],((.v (.a [(.ob (.fp (C7 (x*(b*b))))),(.ob (.fp (C7 ((y*(b*b))*b)))),(.lit false)])),[]))):=by intros;kernel_rfl
theorem onA (x y:U6) (i:Bool):let b:=Bool.and (decide (x=(0:U6))) (Bool.and (decide (y=(0:U6))) (i == true));B9 qsD Tryz.f57 3000 [.v (.a [.ob (.fp x),.ob (.fp y),.bool i])] [true] [] []=(some ([(i=true)],((.ci (.bool (ite (true=true) b (Bool.not b)))),[]))):=by intros;kernel_rfl
theorem onB (x y:U6) (i:Bool):let d:=decide ((C7 (inP y))=y);let f:=true=true;let g:=inP x;let b:=decide (((inP y)*(inP y))=(((g*g)*g)+(Fin.ofNat pN 4)));let c:=decide ((C7 g)=x);B9 qsD Tryz.f57 3000 [.v (.a [.ob (.fp x),.ob (.fp y),.bool i])] [false,true,true] [] []=(some ([(i=false),((ite f c (Bool.not c))=true),((ite f d (Bool.not d))=true),(0<=(4:Int)),((4:Int)<(18446744073709551616:Int))],((.ci (.bool (ite f b (Bool.not b)))),[]))):=by intros;kernel_rfl
theorem onC (x y:U6) (i:Bool):let b:=decide ((C7 (inP x))=x);let c:=decide ((C7 (inP y))=y);B9 qsD Tryz.f57 3000 [.v (.a [.ob (.fp x),.ob (.fp y),.bool i])] [false,true,false] [] []=(some ([(i=false),((ite (true=true) b (Bool.not b))=true),((ite (true=true) c (Bool.not c))=false)],((.ci (.lit false)),[]))):=by intros;kernel_rfl
theorem onD (x y:U6) (i:Bool):let b:=decide ((C7 (inP x))=x);B9 qsD Tryz.f57 3000 [.v (.a [.ob (.fp x),.ob (.fp y),.bool i])] [false,false,false] [] []=(some ([(i=false),((ite (true=true) b (Bool.not b))=false)],((.ci (.lit false)),[]))):=by intros;kernel_rfl
end

section

/-- Which points may be. -/
def onG (a:G1D):Bool:=
 if a.inf then decide (a.x=0) && decide (a.y=0)
 else decide (C7 (inP a.x)=a.x) && (decide (C7 (inP a.y)=a.y) && decide (inP a.y*inP a.y=inP a.x*inP a.x*inP a.x+fp4))
def inG (a:G1D):Fp×Fp×Fp:=if a.inf then (fp1,fp1,0) else (inP a.x,inP a.y,fp1)
def C1x (t:Fp×Fp×Fp):G1D:=
 if t.2.2=0 then ⟨0,0,true⟩ else ⟨C7 (t.1*(ivP t.2.2*ivP t.2.2)),C7 (t.2.1*(ivP t.2.2*ivP t.2.2)*ivP t.2.2),false⟩

theorem A7t {x:Ctx} {i j:It} {b:Bool} {v:Value} (h:B8 x (.v (.a [i,j,.lit b])) v):B8 x (.v (.a [i,j,.bool b])) v:=by
 obtain ⟨cs,e,c1,r1,e1,h1,c2,r2,e2,h2,c3,r3,e3,⟨d,h3⟩,h4⟩:=h;refine ⟨cs,e,c1,r1,e1,h1,c2,r2,e2,h2,c3,r3,e3,⟨d,?_⟩,h4⟩
 cases d<;>exact h3
theorem G2i (x y:U6) (i:Bool):FnD Tryz.prog 40 [.v (.a [.ob (.fp x),.ob (.fp y),.bool i])] (.v (.a (Q3 (inG ⟨x,y,i⟩)))) []:=by
 cases i with
 | true=>exact A6 A4w Tryz.func40 (igA x y true) ⟨rfl,by decide,by decide,by decide,by decide,trivial⟩
 | false=>exact A6 A4w Tryz.func40 (igB x y false) ⟨rfl,by decide,by decide,trivial⟩

theorem F6g (x y z:Fp):FnD Tryz.prog 39 [.v (.a [.ob (.p x),.ob (.p y),.ob (.p z)])] (.v (.a (C1x (x,y,z)).its)) []:=by
 by_cases h:z=0
 ·have e:C1x (x,y,z)=⟨0,0,true⟩:=if_pos h
  rw[e];exact (A6 A4w Tryz.func39 (ogA x y z) ⟨decide_eq_true h,trivial⟩).conv (fun _ _ h=>h) fun y v hd=>A7t hd
 ·unfold C1x
  rw[if_neg h];exact (A6 A4w Tryz.func39 (ogB x y z) ⟨decide_eq_false h,trivial⟩).conv (fun _ _ h=>h) fun y v hd=>A7t hd

theorem G4g (x y:U6) (i:Bool):FnD Tryz.prog 57 [.v (.a [.ob (.fp x),.ob (.fp y),.bool i])] (.v (.c (.bool (onG ⟨x,y,i⟩)))) []:=by
 cases i with
 | true=>
  have r:=onA x y true;dsimp only at r;rw[if_pos rfl] at r;have e:onG ⟨x,y,true⟩=((decide (x=0)) && ((decide (y=0)) && (true == true))):=by
   show (decide (x=0) && decide (y=0))=_;simp
  rw[e];exact A6 A4w Tryz.func57 r ⟨rfl,trivial⟩
 | false=>
  by_cases h1:C7 (inP x)=x
  ·by_cases h2:C7 (inP y)=y
   ·have r:=onB x y false
    dsimp only at r;rw[if_pos rfl,if_pos rfl,if_pos rfl] at r;have e:onG ⟨x,y,false⟩=decide (inP y*inP y=inP x*inP x*inP x+Fin.ofNat pN 4):=by
     show (decide (C7 (inP x)=x) && (decide (C7 (inP y)=y) && decide (inP y*inP y=inP x*inP x*inP x+fp4)))=_;rw[decide_eq_true h1,decide_eq_true h2];rfl
    rw[e];exact A6 A4w Tryz.func57 r ⟨rfl,decide_eq_true h1,decide_eq_true h2,by decide,by decide,trivial⟩
   ·have r:=onC x y false
    dsimp only at r;rw[if_pos rfl,if_pos rfl] at r;have e:onG ⟨x,y,false⟩=false:=by
     show (decide (C7 (inP x)=x) && (decide (C7 (inP y)=y) && decide (inP y*inP y=inP x*inP x*inP x+fp4)))=_;rw[decide_eq_false h2,Bool.false_and,Bool.and_false]
    rw[e];exact (A6 A4w Tryz.func57 r ⟨rfl,decide_eq_true h1,decide_eq_false h2,trivial⟩).conv (fun _ _ h=>h) fun y v hd=>P9 rfl hd
  ·have r:=onD x y false
   dsimp only at r;rw[if_pos rfl] at r;have e:onG ⟨x,y,false⟩=false:=by
    show (decide (C7 (inP x)=x) && (decide (C7 (inP y)=y) && decide (inP y*inP y=inP x*inP x*inP x+fp4)))=_;rw[decide_eq_false h1,Bool.false_and]
   rw[e];exact (A6 A4w Tryz.func57 r ⟨rfl,decide_eq_false h1,trivial⟩).conv (fun _ _ h=>h) fun y v hd=>P9 rfl hd
def C8j:B7
 | [.v (.a [.ob (.fp x),.ob (.fp y),.bool i])]=>some ([],.v (.a (Q3 (inG ⟨x,y,i⟩))),[])
 | _=>none
def qsE:Env:=qsD.set (E1 qsD.fn 40 C8j)
theorem H2m:A8 Tryz.prog qsE:=B0 A4w 40 C8j (A5 Tryz.func40 rfl rfl) fun args o r es h _=>by
 unfold C8j at h;split at h
 ·cases h;exact G2i _ _ _
 ·cases h
def C1z:B7
 | [.v (.a [.ob (.p x),.ob (.p y),.ob (.p z)])]=>some ([],.v (.a (C1x (x,y,z)).its),[])
 | _=>none
def qsF:Env:=qsE.set (E1 qsE.fn 39 C1z)
theorem H2n:A8 Tryz.prog qsF:=B0 H2m 39 C1z (A5 Tryz.func39 rfl rfl) fun args o r es h _=>by
 unfold C1z at h;split at h
 ·cases h;exact F6g _ _ _
 ·cases h
def C9u:B7
 | [.v (.a [.ob (.fp x),.ob (.fp y),.bool i])]=>some ([],.v (.c (.bool (onG ⟨x,y,i⟩))),[])
 | _=>none
def qsG:Env:=qsF.set (E1 qsF.fn 57 C9u)
theorem D9u:A8 Tryz.prog qsG:=B0 H2n 57 C9u (A5 Tryz.func57 rfl rfl) fun args o r es h _=>by
 unfold C9u at h;split at h
 ·cases h;exact G4g _ _ _
 ·cases h
theorem riR (x y:U6) (i:Bool):B9 qsG Tryz.f21 3000 [.v (.a [.ob (.fp x),.ob (.fp y),.bool i])] [] [] []=(some ([],((.ci (.bool (onG (G1D.mk x y i)))),[]))):=by kernel_rfl
theorem geR  : B9 qsG Tryz.f15 3000 [] [] [] []=(some ([(0<=(18103045581585958587:Int)),((18103045581585958587:Int)<(18446744073709551616:Int)),(0<=(7806400890582735599:Int)),((7806400890582735599:Int)<(18446744073709551616:Int)),(0<=(11623291730934869080:Int)),((11623291730934869080:Int)<(18446744073709551616:Int)),(0<=(14080658508445169925:Int)),((14080658508445169925:Int)<(18446744073709551616:Int)),(0<=(2780237799254240271:Int)),((2780237799254240271:Int)<(18446744073709551616:Int)),(0<=(1725392847304644500:Int)),((1725392847304644500:Int)<(18446744073709551616:Int)),(0<=(912580534683953121:Int)),((912580534683953121:Int)<(18446744073709551616:Int)),(0<=(15005087156090211044:Int)),((15005087156090211044:Int)<(18446744073709551616:Int)),(0<=(61670280795567085:Int)),((61670280795567085:Int)<(18446744073709551616:Int)),(0<=(18227722000993880822:Int)),((18227722000993880822:Int)<(18446744073709551616:Int)),(0<=(11573741888802228964:Int)),((11573741888802228964:Int)<(18446744073709551616:Int)),(0<=(627113611842199793:Int)),((627113611842199793:Int)<(18446744073709551616:Int))],((.v (.a [(.ob (.fp (Fin.ofNat B6 3685416753713387016781088315183077757961620795782546409894578378688607592378376318836054947676345821548104185464507))),(.ob (.fp (Fin.ofNat B6 1339506544944476473020471379941921221584933875938349620426543736416511423956333506472724655353366534992391756441569))),(.lit false)])),[]))):=by kernel_rfl
end

section

def I0q:U6:=Fin.ofNat B6 3685416753713387016781088315183077757961620795782546409894578378688607592378376318836054947676345821548104185464507
def I0r:U6:=Fin.ofNat B6 1339506544944476473020471379941921221584933875938349620426543736416511423956333506472724655353366534992391756441569
def A1y:G1D:=⟨I0q,I0r,false⟩

theorem G2f:FnD Tryz.prog 15 [] (.v (.a A1y.its)) []:=
 (A6 D9u Tryz.func15 geR (by simp [A9])).conv (fun _ _ h=>h) fun y v hd=>A7t hd
end

section

def B0g:B7
 | [.v (.a [.ob (.fp x),.ob (.fp y),.bool i])]=>some ([],.v (.c (.bool (onG ⟨x,y,i⟩))),[])
 | _=>none
def qtA:Env:=qsG.set (E1 qsG.fn 21 B0g)
theorem H2o:A8 Tryz.prog qtA:=B0 D9u 21 B0g (A5 Tryz.func21 rfl rfl) fun args o r es h _=>by
 unfold B0g at h;split at h
 ·cases h;exact A6 D9u Tryz.func21 (riR _ _ _) trivial
 ·cases h
def C0e:B7
 | []=>some ([],.v (.a A1y.its),[])
 | _=>none
def qtC:Env:=qtA.set (E1 qtA.fn 15 C0e)
theorem H2p:A8 Tryz.prog qtC:=B0 H2o 15 C0e (A5 Tryz.func15 rfl rfl) fun args o r es h _=>by
 unfold C0e at h;split at h
 ·cases h;exact G2f
 ·cases h
def qtG:Env:=qtC
theorem D9v:A8 Tryz.prog qtG:=H2p
theorem neA (a b:U6) (i:Bool):B9 qtG Tryz.f56 3000 [.v (.a [.ob (.fp a),.ob (.fp b),.bool i])] [true] [] []=(some ([((Bool.not (onG (G1D.mk a b i)))=true)],((.t [(.a [(.ob (.fp (0:U6))),(.ob (.fp (0:U6))),(.lit false)]),(.c (.int .i64 (30:Int)))]),[]))):=by kernel_rfl
theorem neB (a b:U6) (i:Bool):let f:=G1D.mk a b i;let d:=C1x (jng (inG f));B9 qtG Tryz.f56 3000 [.v (.a [.ob (.fp a),.ob (.fp b),.bool i])] [false] [] []=(some ([((Bool.not (onG f))=false)],((.t [(.a [(.ob (.fp (G1D.x d))),(.ob (.fp (G1D.y d))),(.bool (G1D.inf d))]),(.c (.int .i64 (0:Int)))]),[]))):=by intros;kernel_rfl
end

section

def F9w (a b:G1D):G1D:=C1x (jpl (inG a) (inG b))
def E7a (a:G1D):G1D:=C1x (jng (inG a))
def neR (a:G1D):G1D×Int:=if onG a then (E7a a,0) else (g10,30)

theorem B6k {x:Ctx} {i j k:It} {b:Bool} {v:Value} (h:B8 x (.t [.a [i,j,.lit b],.c k]) v):B8 x (.t [.a [i,j,.bool b],.c k]) v:=by
 obtain ⟨vs,e,h1⟩:=h
 cases h1 with | cons d1 ds=>
 exact ⟨_,e,.cons (A7t d1) ds⟩

theorem F5n (a b:U6) (i:Bool):FnD Tryz.prog 56 [.v (.a [.ob (.fp a),.ob (.fp b),.bool i])] (.t [.a (neR ⟨a,b,i⟩).1.its,.c (.int .i64 (neR ⟨a,b,i⟩).2)]) []:=by
 by_cases h1:onG ⟨a,b,i⟩=true
 ·have e:neR ⟨a,b,i⟩=(E7a ⟨a,b,i⟩,0):=by unfold neR;rw[h1];rfl
  rw[e];exact A6 D9v Tryz.func56 (neB a b i) ⟨by rw[h1];rfl,trivial⟩
 ·have h1:onG ⟨a,b,i⟩=false:=Bool.eq_false_iff.2 h1
  have e:neR ⟨a,b,i⟩=(g10,30):=by unfold neR;rw[h1];rfl
  rw[e];exact (A6 D9v Tryz.func56 (neA a b i) ⟨by rw[h1];rfl,trivial⟩).conv (fun _ _ h=>h) fun y v hd=>B6k hd

end

section

theorem H8s (x:Fp):x*x*x+fp4≠0:=by
 intro h;have h:=D9c h;rw[I1r] at h;refine C7l _ (fun e=>?_) (fun e=>?_) x h
 ·have:=congrArg Fin.val e
  rw[X5 _ 384 _ C3c,D4i,A4d] at this;exact F5l this
 ·have:=congrArg Fin.val e
  rw[D4i] at this;revert this
  decide +kernel

theorem cv1:Cv fp4:=⟨D6m,H8s⟩

/-- A point outside, as a point; and back. -/
def pG (a:G1D):Pt Fp:=if a.inf then none else some (inP a.x,inP a.y)
def gP:Pt Fp->G1D
 | none=>⟨0,0,true⟩
 | some p=>⟨C7 p.1,C7 p.2,false⟩

theorem D5e:∀P:Pt Fp,pG (gP P)=P
 | none=>rfl
 | some p=>by
  show some (inP (C7 p.1),inP (C7 p.2))=some p;rw[A3i,A3i]

theorem A0z {a:G1D} (h:onG a=true):gP (pG a)=a∧OnC fp4 (pG a):=by
 obtain ⟨x,y,i⟩:=a
 cases i with
 | true=>
  have h:(decide (x=0) && decide (y=0))=true:=h;rw[Bool.and_eq_true,decide_eq_true_eq,decide_eq_true_eq] at h;obtain ⟨rfl,rfl⟩:=h;exact ⟨rfl,True.intro⟩
 | false=>
  have h:(decide (C7 (inP x)=x) && (decide (C7 (inP y)=y) && decide (inP y*inP y=inP x*inP x*inP x+fp4)))=true:=h;rw[Bool.and_eq_true,Bool.and_eq_true,decide_eq_true_eq,decide_eq_true_eq,decide_eq_true_eq] at h;obtain ⟨h1,h2,h3⟩:=h;refine ⟨?_,h3⟩
  show (⟨C7 (inP x),C7 (inP y),false⟩:G1D)=⟨x,y,false⟩;rw[h1,h2]

theorem B5a:∀{P:Pt Fp},OnC fp4 P->onG (gP P)=true
 | none,_=>by
  show (decide ((0:U6)=0) && decide ((0:U6)=0))=true;rw[decide_eq_true rfl];rfl
 | some p,h=>by
  have h:p.2*p.2=p.1*p.1*p.1+fp4:=h;show (decide (C7 (inP (C7 p.1))=C7 p.1) && (decide (C7 (inP (C7 p.2))=C7 p.2) && decide (inP (C7 p.2)*inP (C7 p.2)=inP (C7 p.1)*inP (C7 p.1)*inP (C7 p.1)+fp4)))=true;rw[A3i,A3i,decide_eq_true rfl,decide_eq_true rfl,decide_eq_true h];rfl

theorem D9g:(1:Fp)*1=1:=by decide +kernel
theorem C0n (a:G1D):Jc (pG a) (inG a):=by
 obtain ⟨x,y,i⟩:=a
 cases i with
 | true=>exact (rfl:(0:Fp)=0)
 | false=>
  show Jc (some (inP x,inP y)) (inP x,inP y,fp1);rw[G2a];refine ⟨D4z,?_,?_⟩
  ·show inP x=inP x*(1*1)
   rw[D9g];exact (A7v _).symm
  ·show inP y=inP y*(1*1*1)
   rw[D9g,D9g];exact (A7v _).symm

theorem C9x {P:Pt Fp} {t:Fp×Fp×Fp} (h:Jc P t):C1x t=gP P:=by
 rw[<-C8q P t h];unfold C1x jpt;by_cases hz:t.2.2=0
 ·rw[if_pos hz,if_pos hz];rfl
 ·rw[if_neg hz,if_neg hz];rfl

theorem E1e (a b:G1D):F9w a b=gP (D9 (pG a) (pG b)):=C9x (B4k D6m _ _ _ _ (C0n a) (C0n b))
theorem E3s (a:G1D):E7a a=gP (P5 (pG a)):=C9x (F3k _ _ (C0n a))

theorem H1q (a b:G1D):pG (F9w a b)=D9 (pG a) (pG b):=by rw[E1e,D5e]
theorem H1s (a:G1D):pG (E7a a)=P5 (pG a):=by rw[E3s,D5e]
theorem F6b {a b:G1D} (ha:onG a=true) (hb:onG b=true):onG (F9w a b)=true:=by
 rw[E1e];exact B5a (M8 cv1 _ _ (A0z ha).2 (A0z hb).2)
theorem F6d {a:G1D} (ha:onG a=true):onG (E7a a)=true:=by
 rw[E3s];exact B5a (A0c _ (A0z ha).2)
end

section

def qvA:Env:=qtG
theorem H2q:A8 Tryz.prog qvA:=D9v
def C1m:B7
 | [.v (.a [.ob (.fp a),.ob (.fp b),.bool i])]=>some ([],.t [.a (neR ⟨a,b,i⟩).1.its,.c (.int .i64 (neR ⟨a,b,i⟩).2)],[])
 | _=>none
def qvF:Env:=qvA.set (E1 qvA.fn 56 C1m)
theorem A2i:A8 Tryz.prog qvF:=B0 H2q 56 C1m (A5 Tryz.func56 rfl rfl) fun args o r es h _=>by
 unfold C1m at h;split at h
 ·cases h;exact F5n _ _ _
 ·cases h
end

section
section
variable {w0:World} {F0:Nat->Prop} {K:Kp} {ac:List Act} {Q:Exit->Act->World->Prop} {cX:Ctx} {aX:Act}

def C3r:List KI:=(run qeJ false 3000 ((fun (l:Nat) (k:U4)=>(⟨[.code (C5 Tryz.f121)],.normal,⟨B3q [.v (.c (.val (.func (.yield l) #[] #[]))),.v (.c (.ptr 0 0))],one (.fl [.ob (.fr k)]),Tryz.f121.ntmps,16,[]⟩⟩:Cfg)) default default) []).cfg.k
theorem dg (l:Nat) (k:U4):let a:=Array.mk ([]:List Value);A9 []->Sg Tryz.prog (⟨B3q [.v (.c (.val (.func (.yield l) #[] #[]))),.v (.c (.ptr 0 0))],one (.fl [.ob (.fr k)]),Tryz.f121.ntmps,16,[]⟩) (B2 32 [0,1,3,4] [(.ci (.val (Value.func (Fn.yield l) a a))),.pt 0 0,(.ci (.lit false)),.ii (63:Int)] [0] [(eF_ [.ob (.fr k)])] 48 [] []) .normal (C3r) ([.code (C5 Tryz.f121)]):=fun ho=>fun hs hK=>
 B1 (unroll:=false) (n:=3000) (path:=[]) (o:=⟨_,_,_,_,_,_,_⟩) N5 (by kernel_rfl) (by kernel_rfl) ho hs hK
def dgS (l:Nat) (k:U4) (g:Bool) (i:Int):St:=B2 32 [0,1,3,4] [(.ci (.val (Value.func (Fn.yield l) (Array.mk ([]:List Value)) (Array.mk ([]:List Value))))),.pt 0 0,.v (.c (.bool g)),.v (.c (.int .i64 i))] [0] [(eF_ [.ob (.fr k)])] 48 [] []
def E2a:List KI:=(run qeJ false 3000 ((fun (l:Nat) (k:U4) (g:Bool) (i:Int)=>(⟨G6 C3r,.normal,dgS l k g i⟩:Cfg)) default default default default) [true,true,true]).cfg.k
section
variable (l:Nat) (k:U4) (g:Bool) (i:Int)
theorem dgY:let d:Int:=16;let a:=wrap .i64 (Int.tdiv i d);let c:=wrap .i64 ((4:Int)*(Int.tmod i d));let f:=Array.mk ([]:List Value);let b:=Value.func (Fn.yield l) f f;A9 [((decide (i >= (0:Int)))=true),(d≠(0:Int)),(0<=a),(a<(4:Int)),((0+((a).toNat*1))<(Ob.k (.fr k))),(d≠(0:Int)),(0<=c),(g=true)]->Sg Tryz.prog (dgS l k g i) (B2 32 [0,1,3,4,26,27,28] [(.ci (.val b)),.pt 0 0,(.ci (.lit true)),.ii i,(.ci (.lit true)),(.ci (.val b)),(.ii (wrap .i64 (I8 BinOp.and IntKind.u64 (Int.fdiv (A0 (Ob.n (.fr k)) (0+((a).toNat*1))) ((2:Int) ^ (Min.min (c).toNat 64))) (15:Int))))] [0] [(eF_ [.ob (.fr k)])] 416 [] []) .normal (E2a) (G6 C3r):=fun ho=>fun hs hK=>
 B1 (unroll:=false) (n:=3000) (path:=[true,true,true]) (o:=⟨_,_,_,_,_,_,_⟩) N5 (by kernel_rfl) (by kernel_rfl) ho hs hK
theorem dgZ:let f:Int:=0;let h:Int:=16;let b:=wrap .i64 (Int.tdiv i h);let d:=wrap .i64 ((4:Int)*(Int.tmod i h));let a:=wrap .i64 (I8 BinOp.and IntKind.u64 (Int.fdiv (A0 (Ob.n (.fr k)) (0+((b).toNat*1))) ((2:Int) ^ (Min.min (d).toNat 64))) (15:Int));let j:=Array.mk ([]:List Value);let c:=Value.func (Fn.yield l) j j;let m:=decide (a > f);A9 [((decide (i >= f))=true),(h≠f),(0<=b),(b<(4:Int)),((0+((b).toNat*1))<(Ob.k (.fr k))),(h≠f),(0<=d),(g=false),(m=true)]->Sg Tryz.prog (dgS l k g i) (B2 32 [0,1,3,4,26,27,28] [(.ci (.val c)),.pt 0 0,(.ci (.bool m)),.ii i,(.ci (.lit true)),(.ci (.val c)),(.ii a)] [0] [(eF_ [.ob (.fr k)])] 416 [] []) .normal (E2a) (G6 C3r):=fun ho=>fun hs hK=>
 B1 (unroll:=false) (n:=3000) (path:=[true,false,true]) (o:=⟨_,_,_,_,_,_,_⟩) N5 (by kernel_rfl) (by kernel_rfl) ho hs hK
theorem dgN:let d:Int:=16;let b:=wrap .i64 (Int.tdiv i d);let c:=wrap .i64 ((4:Int)*(Int.tmod i d));let f:=Array.mk ([]:List Value);let h:Int:=0;let a:=decide ((wrap .i64 (I8 BinOp.and IntKind.u64 (Int.fdiv (A0 (Ob.n (.fr k)) (0+((b).toNat*1))) ((2:Int) ^ (Min.min (c).toNat 64))) (15:Int))) > h);A9 [((decide (i >= h))=true),(d≠h),(0<=b),(b<(4:Int)),((0+((b).toNat*1))<(Ob.k (.fr k))),(d≠h),(0<=c),(g=false),(a=false)]->Sg Tryz.prog (dgS l k g i) (B2 32 [0,1,3,4] [(.ci (.val (Value.func (Fn.yield l) f f))),.pt 0 0,(.ci (.bool a)),(.ii (wrap .i64 (i-1)))] [0] [(eF_ [.ob (.fr k)])] 512 [] []) .normal (S5 C3r) (G6 C3r):=fun ho=>fun hs hK=>
 B1 (unroll:=false) (n:=3000) (path:=[true,false,false]) (o:=⟨_,_,_,_,_,_,_⟩) N5 (by kernel_rfl) (by kernel_rfl) ho hs hK
theorem dgX (ho:A9 [((decide (i >= (0:Int)))=false)]):Sg Tryz.prog (dgS l k g i) (B2 32 [] [] [0] [(eF_ [.ob (.fr k)])] 80 [] []) .normal ([]) (G6 C3r):=fun hs hK=>
 B1 (unroll:=false) (n:=3000) (path:=[false]) (o:=⟨_,_,_,_,_,_,_⟩) N5 (by kernel_rfl) (by kernel_rfl) ho hs hK
end
theorem dgB (l:Nat) (k:U4) (i d:Int):let a:=Array.mk ([]:List Value);A9 []->Sg Tryz.prog (⟨M3 (D8 .top [0,1,3,4,26,27,28] [(.ci (.val (.func (.yield l) #[] #[]))),.pt 0 0,(.ci (.bool true)),.ii i,(.ci (.lit true)),(.ci (.val (.func (.yield l) #[] #[]))),.ii d]) 29 (.ci (.lit true)),one (.fl [.ob (.fr k)]),32,400,[]⟩) (B2 32 [0,1,3,4] [(.ci (.val (Value.func (Fn.yield l) a a))),.pt 0 0,(.ci (.bool true)),(.ii (wrap .i64 (i-1)))] [0] [(eF_ [.ob (.fr k)])] 480 [] []) .normal (S5 C3r) (A0i E2a):=fun ho=>fun hs hK=>
 B1 (unroll:=false) (n:=3000) (path:=[]) (o:=⟨_,_,_,_,_,_,_⟩) N5 (by kernel_rfl) (by kernel_rfl) ho hs hK
end
end

section

def E1u (d:Nat):List Value:=[.int .i64 (d:Int)]
def F0t (d:Nat):List SV:=[.v (.c (.int .i64 (d:Int)))]

theorem B6g {x:Ctx} {p:Nat} {k:U4} {M:List Nat->Nat->Option En} (hM:∀s,M s p=some (.fl [.ob (.fr k)])) :
  A8e Tryz.prog x 121 [(p,0)] E1u (dgT k.val 64) M:=by
 intro l J W hgrow hread hyield hJ;have key:Wq Tryz.prog (bodyPost Tryz.prog Tryz.f121 fun e' W' => (∃v,e' = Ending.returned v)∧J (dgT k.val 64) W') [.code (C5 Tryz.f121)] [] .normal { tmps:=[Value.func (.yield l) #[] #[],.pointer (some ⟨x.β p,0,none⟩)].toArray++Array.replicate 30 undef,defers:=[] } W:=?_
 ·exact calls_of_wp (c:=C5 Tryz.f121) Tryz.func121 rfl ((wpIn_wide (n:=0)).1 key.wp)
 obtain ⟨y,rfl,hm,hcp⟩:=hread [] W hJ;obtain ⟨hr,hβ⟩:=hcp (p,0) List.mem_cons_self;have hr:y.k p = .real:=hr;have hβ:y.β p=x.β p:=hβ;have hargs:I4 (E4 y p) [.v (.c (.val (.func (.yield l) #[] #[]))),.v (.c (.ptr 0 0))] [.func (.yield l) #[] #[],.pointer (some ⟨x.β p,0,none⟩)]:=
  .cons ⟨rfl,0,rfl,rfl⟩ (.cons ⟨rfl,0,rfl,by show _=[Value.pointer (some ⟨y.β p,0,none⟩)];rw[hβ]⟩ .nil)
 have hpure:∀y:Ctx,∀(cs:Array Value) ty,y.w.heap[y.β p]? = some (.cells cs ty (0,0))->D4 y (.fl [.ob (.fr k)]) cs.toList->D4 (E4 y p) (.fl [.ob (.fr k)]) cs.toList:=fun y cs ty _ h=>B7t rfl h
 have hs:=B4i (nx:=16) (nt:=32) (a:={ tmps:=[Value.func (.yield l) #[] #[],.pointer (some ⟨x.β p,0,none⟩)].toArray++Array.replicate 30 undef,defers:=[] }) hm (hM []) hr (hpure y) rfl (by simp) (A3p hargs 30)
 change Wq Tryz.prog _ _ _ _ _ (E4 y p).w
 refine dg l k trivial hs fun ac cY aY hs1=>?_
 have hmb:Mem (E4 y p) (one (.fl [.ob (.fr k)])):=A9e hm (hM _) hr (hpure y);have hs2:=hs1.slots (svs' := [.v (.c (.val (.func (.yield l) #[] #[]))),.v (.c (.ptr 0 0)),.v (.c (.bool false)),.v (.c (.int .i64 63))]) ⟨fun _ h=>h,fun _ h=>h,fun _ h=>P9 rfl h,fun _ h=>h,trivial⟩
 let I:{ t:Nat // t<=64 } -> List Act->Act->World->Prop:=fun t ac a w=>∃y z,z.w=w∧y.k p = .real∧y.β p=x.β p∧Mem y (M (dgT k.val t.1))∧J (dgT k.val t.1) y.w∧Mem (E4 y p) (one (.fl [.ob (.fr k)]))∧Sim y.w y.F (B4l (E4 y p)) ac (dgS l k (!(dgT k.val t.1).isEmpty) ((63:Int)-(t.1:Int))) z a
 refine A6d I (fun t=>64-t) (c:=lpC C3r) (k:=lpR C3r) (by kernel_rfl) (fun t ih ac b w hI=>?_) ⟨0,Nat.zero_le _⟩ ⟨y,cY,rfl,hr,hβ,hm,hJ,hmb,hs2.nx _⟩
 obtain ⟨t,ht⟩:=t;obtain ⟨y,z,rfl,hr,hβ,hm,hJ,hmb,hs⟩:=hI;simp only at hm hJ hs ih
 by_cases h:t<64
 ·obtain ⟨i,hi⟩:∃i:Nat,i=63-t:=⟨_,rfl⟩
  have ei:(63:Int)-(t:Int)=(i:Int):=by omega
  have hi64:i<64:=by omega
  rw[ei] at hs;have hdig:=F0u k hi64;have hpl:=E5w hi64;have ho1:decide ((i:Int) >= 0)=true:=decide_eq_true (by omega)
  have ho2:(0:Int)<=wrap IntKind.i64 (Int.tdiv (i:Int) 16):=by rw[hpl];omega
  have ho3:wrap IntKind.i64 (Int.tdiv (i:Int) 16)<4:=by rw[hpl];omega
  have ho4:0+(wrap IntKind.i64 (Int.tdiv (i:Int) 16)).toNat*1<Ob.k (Ob.fr k):=by rw[hpl];show _<4;omega
  have ho5:=E5x i;have e4:wrap IntKind.i64 ((i:Int)-1)=(63:Int)-((t+1:Nat):Int):=by rw[C9 (by omega) (by omega)];omega
  obtain ⟨d,hd⟩:∃d,k.val / 16 ^ i % 16=d:=⟨_,rfl⟩
  rw[hd] at hdig;have hd' : k.val / 16 ^ (63-t) % 16=d:=by rw[<-hi];exact hd
  -- what is handed on
  have give:∀(ac:List Act) (cU:Ctx) (aU:Act),dgT k.val (t+1)=dgT k.val t++[d]->Sim y.w y.F (B4l (E4 y p)) ac (B2 32 [0,1,3,4,26,27,28] [.v (.c (.val (.func (.yield l) #[] #[]))),.v (.c (.ptr 0 0)),.v (.c (.bool true)),.v (.c (.int .i64 (i:Int))),.v (.c (.lit true)),.v (.c (.val (.func (.yield l) #[] #[]))),.v (.c (.int .i64 (d:Int)))] [0] [some (.fl [.ob (.fr k)])] 416 [] []) cU aU ->
    Wq Tryz.prog (bodyPost Tryz.prog Tryz.f121 fun e' W' => (∃v,e' = Ending.returned v)∧J (dgT k.val 64) W') E2a ac .normal aU cU.w:=by
   intro ac cU aU e3 hs6;obtain ⟨hg,hk2,hβ2⟩:=A1m hmb rfl hs6 rfl;have hJ2:=hgrow _ _ _ hJ hg;obtain ⟨r,hr1⟩:=E1w k.val (m:=64) (t:=t+1) h;refine C3p (R:=fun W' => J (dgT k.val (t+1)) W') (dst:=some 29) (f:=.tmp 27) (args:=[.tmp 28]) (by kernel_rfl) hs6 (l:=l) rfl (vs:=E1u d) ?_ ?_ fun W' hJ3=>?_
   ·have h21:=U5 (hs6.t 28)
    show [aU.tmps.getD 28 undef]=_;rw[h21];rfl
   ·have:=hyield (dgT k.val t) d _ hJ2 ⟨r,by rw[hr1,e3,List.append_assoc];rfl⟩
    rw[<-e3] at this;exact this
   ·obtain ⟨y3,rfl,hm3,hc3⟩:=hread _ _ hJ3
    obtain ⟨hr3,hβ3⟩:=hc3 (p,0) List.mem_cons_self;have hr3:y3.k p = .real:=hr3;have hβ3:y3.β p=x.β p:=hβ3;have hmb3:Mem (E4 y3 p) (one (.fl [.ob (.fr k)])):=A9e hm3 (hM _) hr3 (hpure y3);have hs7:=D3p (nx' := 400) (dst:=29) (b:=true) hs6 (by kernel_rfl) rfl hm3 (hM _) hr3 (hpure y3) (by rw[hβ2,hβ];exact hβ3.symm) (by decide)
    change Wq Tryz.prog _ _ _ _ _ (E4 y3 p).w
    refine dgB l k _ _ trivial hs7 fun ac cT aT hs8=>?_
    rw[e4] at hs8;have hne:(!(dgT k.val (t+1)).isEmpty)=true:=by rw[e3];simp
    refine ih ⟨t+1,by omega⟩ (by show 64-(t+1)<64-t;omega) ac aT _ ⟨y3,cT,rfl,hr3,hβ3,hm3,hJ3,hmb3,?_⟩
    show Sim _ _ _ _ (dgS l k (!(dgT k.val (t+1)).isEmpty) _) _ _;rw[hne];exact hs8.nx _
  by_cases hg:(dgT k.val t).isEmpty=true
  ·rw[hg] at hs
   by_cases hz:d=0
   ·have e3:dgT k.val (t+1)=[]:=B1b hg (by rw[hd',hz])
    refine dgN l k _ _ ⟨ho1,by decide,ho2,ho3,ho4,by decide,ho5,rfl,by rw[hdig,hz];rfl,trivial⟩ hs fun ac cT aT hs8=>?_
    rw[e4,hdig,hz] at hs8;have e5:dgT k.val (t+1)=dgT k.val t:=by rw[e3,List.isEmpty_iff.1 hg]
    refine ih ⟨t+1,by omega⟩ (by show 64-(t+1)<64-t;omega) ac aT _ ⟨y,cT,rfl,hr,hβ,?_,?_,hmb,?_⟩
    ·show Mem y (M (dgT k.val (t+1)))
     rw[e5];exact hm
    ·show J (dgT k.val (t+1)) y.w
     rw[e5];exact hJ
    ·show Sim _ _ _ _ (dgS l k (!(dgT k.val (t+1)).isEmpty) _) _ _
     rw[e3];exact hs8.nx _
   ·have e3:dgT k.val (t+1)=dgT k.val t++[d]:=by
     rw[<-hd'];exact B9e fun hc=>hz (by rw[<-hd'];exact hc.2)
    have hp0:decide ((d:Int) > 0)=true:=decide_eq_true (by omega)
    refine dgZ l k _ _ ⟨ho1,by decide,ho2,ho3,ho4,by decide,ho5,rfl,by rw[hdig];exact hp0,trivial⟩ hs fun ac cU aU hs6=>?_
    rw[hdig,hp0] at hs6;exact give ac cU aU e3 (hs6.nx _)
  ·have hg:(dgT k.val t).isEmpty=false:=Bool.eq_false_iff.2 hg
   rw[hg] at hs;have e3:dgT k.val (t+1)=dgT k.val t++[d]:=by
    rw[<-hd'];exact B9e fun hc=>by rw[hg] at hc;exact absurd hc.1 (by decide)
   refine dgY l k _ _ ⟨ho1,by decide,ho2,ho3,ho4,by decide,ho5,rfl,trivial⟩ hs fun ac cU aU hs6=>?_
   rw[hdig] at hs6;have hs6' := hs6.slots (svs' := [.v (.c (.val (.func (.yield l) #[] #[]))),.v (.c (.ptr 0 0)),.v (.c (.bool true)),.v (.c (.int .i64 (i:Int))),.v (.c (.lit true)),.v (.c (.val (.func (.yield l) #[] #[]))),.v (.c (.int .i64 (d:Int)))])
    ⟨fun _ h=>h,fun _ h=>h,fun _ h=>P9 rfl h,fun _ h=>h,fun _ h=>h,fun _ h=>h,fun _ h=>h,trivial⟩
   exact give ac cU aU e3 (hs6'.nx _)
 ·have e5:t=64:=by omega
  subst e5;refine dgX l k _ _ ⟨by decide,trivial⟩ hs fun ac cV aV hs4=>?_
  obtain ⟨hg,_,_⟩:=A1m hmb rfl hs4 rfl;exact ⟨C8n N5 hs4 rfl rfl rfl (fun v=>⟨⟨v,rfl⟩,hgrow _ _ _ hJ hg⟩) (.inr rfl)⟩

end

section
section
variable {w0:World} {F0:Nat->Prop} {K:Kp} {ac:List Act} {Q:Exit->Act->World->Prop} {cX:Ctx} {aX:Act}

def D9a:List KI:=(run qvF false 3000 ((fun (x y z:Fp) (k:U4)=>(⟨[.code (C5 Tryz.f41)],.normal,F9 Tryz.f41.ntmps [.v (.a [.ob (.p x),.ob (.p y),.ob (.p z)]),.v (.a [.ob (.fr k)])]⟩:Cfg)) default default default default) []).cfg.k
theorem my (x y z:Fp) (k:U4):let b:Fp:=0;A9 [(0<=(0:Int)),(0<(16:Int))]->Sg Tryz.prog (F9 Tryz.f41.ntmps [.v (.a [.ob (.p x),.ob (.p y),.ob (.p z)]),.v (.a [.ob (.fr k)])]) (B2 43 [2,3,4,5,6] [.pt 16 0,.pt 32 0,.pt 48 0,.pt 64 0,.ii (1:Int)] [16,32,48,64] [(eF_ [.ob (.p x),.ob (.p y),.ob (.p z)]),(eF_ [.ob (.fr k)]),(eF_ [(.ob (.p b)),(.ob (.p b)),(.ob (.p b))]),(eF_ [.ob (.p x),.ob (.p y),(.ob (.p b)),(.ob (.p b)),(.ob (.p b)),(.ob (.p b)),(.ob (.p b)),(.ob (.p b)),(.ob (.p b)),(.ob (.p b)),(.ob (.p b)),(.ob (.p b)),(.ob (.p b)),(.ob (.p b)),(.ob (.p b)),(.ob (.p b)),(.ob (.p b)),(.ob (.p b)),(.ob (.p b)),(.ob (.p b)),(.ob (.p b)),(.ob (.p b)),(.ob (.p b)),(.ob (.p b)),(.ob (.p b)),(.ob (.p b)),(.ob (.p b)),(.ob (.p b)),(.ob (.p b)),(.ob (.p b)),(.ob (.p b)),(.ob (.p b)),(.ob (.p b)),(.ob (.p b)),(.ob (.p b)),(.ob (.p b)),(.ob (.p b)),(.ob (.p b)),(.ob (.p b)),(.ob (.p b)),(.ob (.p b)),(.ob (.p b)),(.ob (.p b)),(.ob (.p b)),(.ob (.p b)),(.ob (.p b)),(.ob (.p b)),(.ob (.p b))])] 208 [] []) .normal (D9a) ([.code (C5 Tryz.f41)]):=fun ho=>fun hs hK=>
 B1 (unroll:=false) (n:=3000) (path:=[]) (o:=⟨_,_,_,_,_,_,_⟩) A2i (by kernel_rfl) (by kernel_rfl) ho hs hK
def myS (x y z:Fp) (k:U4) (L:List (Fp×Fp×Fp)) (i:Int):St:=B2 43 [2,3,4,5,6] [.pt 16 0,.pt 32 0,.pt 48 0,.pt 64 0,.v (.c (.int .i64 i))] [16,32,48,64] [(eF_ [.ob (.p x),.ob (.p y),.ob (.p z)]),(eF_ [.ob (.fr k)]),(eF_ [(.ob (.p (0:Fp))),(.ob (.p (0:Fp))),(.ob (.p (0:Fp)))]),some (.sq (.pt L))] 208 [] []
theorem myA (x y z:Fp) (k:U4) (L:List (Fp×Fp×Fp)) (i:Int):let a:=wrap .i64 (i-1);let b:Int:=16;A9 [((decide (i<b))=true),(0<=a),(a<b),(0=0),((a).toNat<L.length),(0<=i),(i<b),(0=0),((i).toNat<L.length)]->Sg Tryz.prog (myS x y z k L i) (B2 43 [2,3,4,5,6] [.pt 16 0,.pt 32 0,.pt 48 0,.pt 64 0,(.ii (wrap .i64 (i+1)))] [16,32,48,64] [(eF_ [.ob (.p x),.ob (.p y),.ob (.p z)]),(eF_ [.ob (.fr k)]),(eF_ [(.ob (.p (0:Fp))),(.ob (.p (0:Fp))),(.ob (.p (0:Fp)))]),(eQ_ (Sq.pt (List.set L (i).toNat (jpl (List.getD L (a).toNat pt0) (x,(y,z))))))] 432 [] []) .normal (S5 D9a) (G6 D9a):=fun ho=>fun hs hK=>
 B1 (unroll:=false) (n:=3000) (path:=[true]) (o:=⟨_,_,_,_,_,_,_⟩) A2i (by kernel_rfl) (by kernel_rfl) ho hs hK
def B2o:List KI:=(run qvF false 3000 ((fun (x y z:Fp) (k:U4) (L:List (Fp×Fp×Fp)) (i:Int)=>(⟨G6 D9a,.normal,myS x y z k L i⟩:Cfg)) default default default default default default) [false]).cfg.k
theorem myB (x y z:Fp) (k:U4) (L:List (Fp×Fp×Fp)) (i:Int):let a:=List.getD L 0 pt0;A9 [((decide (i<(16:Int)))=false),(0<=(0:Int)),(0<(16:Int)),(0=0),(0<L.length)]->Sg Tryz.prog (myS x y z k L i) (B2 43 [4,5,7,30] [.pt 48 0,.pt 64 0,.pt 272 0,(.ci (.clo 121 [(320,0)]))] [48,64,272,320] [(eF_ [(.ob (.p (0:Fp))),(.ob (.p (0:Fp))),(.ob (.p (0:Fp)))]),(eQ_ (Sq.pt L)),(eF_ [(.ob (.p (Prod.fst a))),(.ob (.p (Prod.fst (Prod.snd a)))),(.ob (.p (Prod.snd (Prod.snd a))))]),(eF_ [.ob (.fr k)])] 384 [] []) .normal (B2o) (G6 D9a):=fun ho=>fun hs hK=>
 B1 (unroll:=false) (n:=3000) (path:=[false]) (o:=⟨_,_,_,_,_,_,_⟩) A2i (by kernel_rfl) (by kernel_rfl) ho hs hK
def myR (k:U4) (L:List (Fp×Fp×Fp)) (o:Fp×Fp×Fp):St:=B2 43 [4,5,7,30] [.pt 48 0,.pt 64 0,.pt 272 0,(.ci (.clo 121 [(320,0)]))] [48,64,272,320] [(eF_ [(.ob (.p (0:Fp))),(.ob (.p (0:Fp))),(.ob (.p (0:Fp)))]),(eQ_ (Sq.pt L)),some (.fl [.ob (.p o.1),.ob (.p o.2.1),.ob (.p o.2.2)]),(eF_ [.ob (.fr k)])] 384 [] []
theorem mrA (k:U4) (L:List (Fp×Fp×Fp)) (o:Fp×Fp×Fp) (d:Int) {ρ:Option Nat} (ho:A9 []) (hs:Sim w0 F0 K ac (X6 (myR k L o) [(31,.v (.c (.int .i64 d)))]) cX aX) (hK:∀cY aY,Sim w0 F0 K ac (B2 43 [4,5,7,8] [.pt 48 0,.pt 64 0,.pt 272 0,.ii d] [48,64,272,320] [(eF_ [(.ob (.p (0:Fp))),(.ob (.p (0:Fp))),(.ob (.p (0:Fp)))]),(eQ_ (Sq.pt L)),(eF_ [(.ob (.p (Prod.fst o))),(.ob (.p (Prod.fst (Prod.snd o)))),(.ob (.p (Prod.snd (Prod.snd o))))]),(eF_ [.ob (.fr k)])] 400 [[4,5,7,30]] [([.pt 48 0,.pt 64 0,.pt 272 0,(.ci (.clo 121 [(320,0)]))],43)]) cY aY->Wq Tryz.prog Q ([]) ac Exit.normal aY cY.w ρ):Wq Tryz.prog Q ([.code (rfA B2o)]) ac .normal aX cX.w ρ :=
 G4 (unroll:=false) (n:=3000) (path:=[]) (o:=⟨_,_,_,_,_,_,_⟩) A2i (by kernel_rfl) (by kernel_rfl) ho (by kernel_rfl) (by kernel_rfl) hs hK
def mrB (k:U4) (L:List (Fp×Fp×Fp)) (o:Fp×Fp×Fp) (d:Int):St:=B2 43 [4,5,7,8] [.pt 48 0,.pt 64 0,.pt 272 0,.ii d] [48,64,272,320] [(eF_ [(.ob (.p (0:Fp))),(.ob (.p (0:Fp))),(.ob (.p (0:Fp)))]),(eQ_ (Sq.pt L)),some (.fl [.ob (.p o.1),.ob (.p o.2.1),.ob (.p o.2.2)]),(eF_ [.ob (.fr k)])] 400 [[4,5,7,30]] [([.pt 48 0,.pt 64 0,.pt 272 0,(.ci (.clo 121 [(320,0)]))],43)]
def C5p:List KI:=(run qvF false 3000 ((fun (k:U4) (L:List (Fp×Fp×Fp)) (o:Fp×Fp×Fp) (d:Int)=>(⟨[.code (rfB B2o)],.normal,mrB k L o d⟩:Cfg)) default default default default) []).cfg.k
theorem mrC (k:U4) (L:List (Fp×Fp×Fp)) (o:Fp×Fp×Fp) (d:Int) {ρ:Option Nat} (ho:A9 []) (hs:Sim w0 F0 K ac (mrB k L o d) cX aX) (hK:∀cY aY,Sim w0 F0 K ac (B2 43 [4,5,7,8,32] [.pt 48 0,.pt 64 0,.pt 272 0,.ii d,.ii (0:Int)] [48,64,272,320] [(eF_ [(.ob (.p (0:Fp))),(.ob (.p (0:Fp))),(.ob (.p (0:Fp)))]),(eQ_ (Sq.pt L)),(eF_ [(.ob (.p (Prod.fst o))),(.ob (.p (Prod.fst (Prod.snd o)))),(.ob (.p (Prod.snd (Prod.snd o))))]),(eF_ [.ob (.fr k)])] 416 [[4,5,7,30]] [([.pt 48 0,.pt 64 0,.pt 272 0,(.ci (.clo 121 [(320,0)]))],43)]) cY aY->Wq Tryz.prog Q (C5p) ac Exit.normal aY cY.w ρ):Wq Tryz.prog Q ([.code (rfB B2o)]) ac .normal aX cX.w ρ :=
 G4 (unroll:=false) (n:=3000) (path:=[]) (o:=⟨_,_,_,_,_,_,_⟩) A2i (by kernel_rfl) (by kernel_rfl) ho (by kernel_rfl) (by kernel_rfl) hs hK
def mrS (k:U4) (L:List (Fp×Fp×Fp)) (o:Fp×Fp×Fp) (d j:Int):St:=B2 43 [4,5,7,8,32] [.pt 48 0,.pt 64 0,.pt 272 0,.ii d,.v (.c (.int .i64 j))] [48,64,272,320] [(eF_ [(.ob (.p (0:Fp))),(.ob (.p (0:Fp))),(.ob (.p (0:Fp)))]),(eQ_ (Sq.pt L)),some (.fl [.ob (.p o.1),.ob (.p o.2.1),.ob (.p o.2.2)]),(eF_ [.ob (.fr k)])] 416 [[4,5,7,30]] [([.pt 48 0,.pt 64 0,.pt 272 0,(.ci (.clo 121 [(320,0)]))],43)]
theorem mrD (k:U4) (L:List (Fp×Fp×Fp)) (o:Fp×Fp×Fp) (d j:Int) {ρ:Option Nat}:let a:=Prod.snd (jtw o);(A9 [((decide (j<(4:Int)))=true)])->(Sim w0 F0 K ac (mrS k L o d j) cX aX)->(∀cY aY,Sim w0 F0 K ac (B2 43 [4,5,7,8,32] [.pt 48 0,.pt 64 0,.pt 272 0,.ii d,(.ii (wrap .i64 (j+1)))] [48,64,272,320] [(eF_ [(.ob (.p (0:Fp))),(.ob (.p (0:Fp))),(.ob (.p (0:Fp)))]),(eQ_ (Sq.pt L)),(eF_ [(.ob (.p (Prod.fst (jtw o)))),(.ob (.p (Prod.fst a))),(.ob (.p (Prod.snd a)))]),(eF_ [.ob (.fr k)])] 512 [[4,5,7,30]] [([.pt 48 0,.pt 64 0,.pt 272 0,(.ci (.clo 121 [(320,0)]))],43)]) cY aY->Wq Tryz.prog Q (S5 C5p) ac Exit.normal aY cY.w ρ)->Wq Tryz.prog Q (G6 C5p) ac .normal aX cX.w ρ :=fun ho hs hK=>
 G4 (unroll:=false) (n:=3000) (path:=[true]) (o:=⟨_,_,_,_,_,_,_⟩) A2i (by kernel_rfl) (by kernel_rfl) ho (by kernel_rfl) (by kernel_rfl) hs hK
theorem mrE (k:U4) (L:List (Fp×Fp×Fp)) (o:Fp×Fp×Fp) (d j:Int) {ρ:Option Nat}:let a:=jpl o (List.getD L (d).toNat pt0);(A9 [((decide (j<(4:Int)))=false),(0<=d),(d<(16:Int)),(0=0),((d).toNat<L.length)])->(Sim w0 F0 K ac (mrS k L o d j) cX aX)->(∀cY aY,Sim w0 F0 K ac (B2 43 [4] [.pt 48 0] [48,64,272,320] [(eF_ [(.ob (.p (0:Fp))),(.ob (.p (0:Fp))),(.ob (.p (0:Fp)))]),(eQ_ (Sq.pt L)),(eF_ [(.ob (.p (Prod.fst a))),(.ob (.p (Prod.fst (Prod.snd a)))),(.ob (.p (Prod.snd (Prod.snd a))))]),(eF_ [.ob (.fr k)])] 528 [[4,5,7,30]] [([.pt 48 0,.pt 64 0,.pt 272 0,(.ci (.clo 121 [(320,0)]))],43)]) cY aY->Wq Tryz.prog Q ([]) ac Exit.normal aY cY.w ρ)->Wq Tryz.prog Q (G6 C5p) ac .normal aX cX.w ρ :=fun ho hs hK=>
 G4 (unroll:=false) (n:=3000) (path:=[false]) (o:=⟨_,_,_,_,_,_,_⟩) A2i (by kernel_rfl) (by kernel_rfl) ho (by kernel_rfl) (by kernel_rfl) hs hK
def mrF (k:U4) (L:List (Fp×Fp×Fp)) (o:Fp×Fp×Fp):St:=B2 43 [4] [.pt 48 0] [48,64,272,320] [(eF_ [(.ob (.p (0:Fp))),(.ob (.p (0:Fp))),(.ob (.p (0:Fp)))]),(eQ_ (Sq.pt L)),some (.fl [.ob (.p o.1),.ob (.p o.2.1),.ob (.p o.2.2)]),(eF_ [.ob (.fr k)])] 528 [[4,5,7,30]] [([.pt 48 0,.pt 64 0,.pt 272 0,(.ci (.clo 121 [(320,0)]))],43)]
theorem mrX (k:U4) (L:List (Fp×Fp×Fp)) (o:Fp×Fp×Fp) (ho:A9 []):Sg Tryz.prog (myR k L o) (B2 43 [4] [.pt 48 0] [48] [(eF_ [(.ob (.p (Prod.fst o))),(.ob (.p (Prod.fst (Prod.snd o)))),(.ob (.p (Prod.snd (Prod.snd o))))])] 416 [] []) .ret ([]) (rfR B2o):=fun hs hK=>
 B1 (unroll:=false) (n:=3000) (path:=[]) (o:=⟨_,_,_,_,_,_,_⟩) A2i (by kernel_rfl) (by kernel_rfl) ho hs hK
def mrZ (o:Fp×Fp×Fp):St:=B2 43 [4] [.pt 48 0] [48] [some (.fl [.ob (.p o.1),.ob (.p o.2.1),.ob (.p o.2.2)])] 416 [] []
theorem G3s (o:Fp×Fp×Fp):J7 qvF Tryz.f41 false 3000 (⟨[],.ret,mrZ o⟩) [] [] []=(some ([],((.v (.a [(.ob (.p (Prod.fst o))),(.ob (.p (Prod.fst (Prod.snd o)))),(.ob (.p (Prod.snd (Prod.snd o))))])),[]))):=by kernel_rfl
end
end

section

theorem B8q {x:Ctx} (L:List (Fp×Fp×Fp)):∀(n i:Nat) (cs:List Value),C4 x.D (J0 L i n) cs->cs.length=n*18∧∀j,j<n->∃c,C4 x.D (Q3 (L.getD (i+j) pt0)) c∧∀(q:Nat) (v:Value),c[q]? = some v->cs[j*18+q]? = some v
 | 0,i,cs,h=>by
  have h:cs=[]:=h;subst h;exact ⟨rfl,fun j hj=>absurd hj (Nat.not_lt_zero _)⟩
 | n+1,i,cs,h=>by
  obtain ⟨c1,r1,e1,h1,c2,r2,e2,h2,c3,r3,e3,h3,h4⟩:=h;obtain ⟨hl,hj⟩:=B8q L n (i+1) r3 h4;have l1:c1.length=6:=A2r h1;have l2:c2.length=6:=A2r h2;have l3:c3.length=6:=A2r h3;subst e1 e2 e3;refine ⟨by simp only[List.length_append];omega,fun j hjn=>?_⟩
  cases j with
  | zero=>
   refine ⟨c1++(c2++(c3++[])),⟨c1,_,rfl,h1,c2,_,rfl,h2,c3,_,rfl,h3,rfl⟩,fun q v hq=>?_⟩
   rw[List.append_nil] at hq;have hlt:q<(c1++(c2++c3)).length:=by
    rcases Nat.lt_or_ge q (c1++(c2++c3)).length with h | h
    ·exact h
    ·rw[List.getElem?_eq_none h] at hq;cases hq
   rw[Nat.zero_mul,Nat.zero_add,<-hq];have e:c1++(c2++(c3++r3))=(c1++(c2++c3))++r3:=by simp
   rw[e,List.getElem?_append_left hlt]
  | succ j=>
   obtain ⟨c,hc,hv⟩:=hj j (by omega)
   rw[show i+1+j=i+(j+1) from by omega] at hc
   refine ⟨c,hc,fun q v hq=>?_⟩
   have e:c1++(c2++(c3++r3))=(c1++(c2++c3))++r3:=by simp
   have hl18:(c1++(c2++c3)).length=18:=by simp only[List.length_append];omega
   rw[e,List.getElem?_append_right (by rw[hl18];omega),hl18,show (j+1)*18+q-18=j*18+q from by omega]
   exact hv q v hq

theorem F8t {x:Ctx} (L:List (Fp×Fp×Fp)) (h:L.length=16) (cs:List Value) (hc:D4 x (.fl (J0 L 0 16)) cs):D4 x (.sq (.pt L)) cs:=by
 obtain ⟨hl,hj⟩:=B8q L 16 0 cs hc;refine ⟨?_,fun i hi=>?_⟩
 ·show L.length*18<=cs.length
  rw[h,hl];exact Nat.le_refl _
 ·have hi:i<L.length:=hi
  rw[h] at hi;obtain ⟨c,h1,h2⟩:=hj i hi;rw[Nat.zero_add] at h1;exact ⟨c,h1,h2⟩

def H9t (x y:Fp):List (Fp×Fp×Fp):=(x,y,0)::List.replicate 15 pt0

theorem F4d (x y z:Fp) (k:U4):FnD Tryz.prog 41 [.v (.a [.ob (.p x),.ob (.p y),.ob (.p z)]),.v (.a [.ob (.fr k)])] (.v (.a (Q3 (jmn (x,y,z) (dgT k.val 64))))) []:=by
 refine T9 (fn:=Tryz.f41) (c:=C5 Tryz.f41) Tryz.func41 rfl rfl fun x0 a0 hk hF hs=>?_
 refine my x y z k ⟨by decide,by decide,trivial⟩ hs fun ac cY aY hs1=>?_
 have hs2:=hs1.blocks (ens' := [some (.fl [.ob (.p x),.ob (.p y),.ob (.p z)]),some (.fl [.ob (.fr k)]),some (.fl [.ob (.p 0),.ob (.p 0),.ob (.p 0)]),some (.sq (.pt (H9t x y)))])
  ⟨.inl rfl,.inl rfl,.inl rfl,.inr ⟨_,_,_,rfl,rfl,rfl,fun cs h=>F8t _ rfl cs h⟩,trivial⟩
 refine I3 (ι:={ p:Nat×List (Fp×Fp×Fp) // 1<=p.1∧p.1<=16∧p.2.length=16∧∀j,j<p.1->p.2.getD j pt0=V9 (x,y,z) j }) (fun p=>myS x y z k p.1.2 (p.1.1:Int)) (fun p=>16-p.1.1) (c:=lpC D9a) (k:=lpR D9a) (by kernel_rfl) (fun p ih ac cY aY hs=>?_)
  ⟨(1,H9t x y),Nat.le_refl 1,by show (1:Nat)<=16;omega,rfl,fun j hj=>by
   have:j=0:=by have hj:j<1:=hj;omega
   subst this;rfl⟩ (hs2.nx _)
 obtain ⟨⟨i,L⟩,h1,h16,hL,htab⟩:=p;simp only at ih hs h1 h16 hL htab
 by_cases hi:i<16
 ·have e1:wrap IntKind.i64 ((i:Int)-1)=((i-1:Nat):Int):=by rw[C9 (by omega) (by omega)];omega
  have e2:wrap IntKind.i64 ((i:Int)+1)=((i+1:Nat):Int):=by rw[C9 (by omega) (by omega)];omega
  refine myA x y z k L i ⟨decide_eq_true (by omega),by rw[e1];omega,by rw[e1];omega,rfl,by rw[e1,Int.toNat_natCast,hL];omega,by omega,by omega,rfl,by rw[Int.toNat_natCast,hL];exact hi,trivial⟩ hs fun ac cZ aZ hs3=>?_
  rw[e1,e2,Int.toNat_natCast,Int.toNat_natCast,htab (i-1) (by omega)] at hs3
  have e3:jpl (V9 (x,y,z) (i-1)) (x,y,z)=V9 (x,y,z) i:=by
   obtain ⟨m,rfl⟩:∃m,i=m+1:=⟨i-1,by omega⟩
   rfl
  rw[e3] at hs3;refine ih ⟨(i+1,L.set i (V9 (x,y,z) i)),by show 1<=i+1;omega,hi,by show (L.set i _).length=16;rw[List.length_set];exact hL,fun j hj=>?_⟩ (by show 16-(i+1)<16-i;omega) ac cZ aZ (hs3.nx _)
  have hj:j<i+1:=hj;show (L.set i (V9 (x,y,z) i)).getD j pt0=_;by_cases e:j=i
  ·subst e
   simp [List.getD,hL,hi]
  ·have:(L.set i (V9 (x,y,z) i)).getD j pt0=L.getD j pt0:=by
    simp [List.getD,List.getElem?_set_ne (Ne.symm e)]
   rw[this];exact htab j (by omega)
 ·have:i=16:=by omega
  subst this;refine myB x y z k L _ ⟨by decide,by decide,by decide,rfl,by rw[hL];decide,trivial⟩ hs fun ac cZ aZ hs3=>?_
  rw[htab 0 (by decide)] at hs3
  obtain ⟨e1,e2⟩:=A2v (k:=B2o) (by kernel_rfl)
  rw[e1];have eP:(rfP B2o).toList=[31]:=by kernel_rfl
  have eG:rfG B2o = .tmp 30:=by kernel_rfl
  refine Z6 (ps:=rfP B2o) e2 hs3 (gf:=121) (caps:=[(320,0)]) (A5 Tryz.func121 rfl rfl) (fun pre=>myR k L (pre.foldl (jst (x,y,z)) (V9 (x,y,z) 0))) (fun s=>by rw[eG];rfl) ⟨_,rfl⟩ (dgT k.val 64) F0t E1u
   (fun y z=>.cons ⟨rfl,0,rfl⟩ .nil) (fun z=>by rw[<-Array.length_toList,eP];rfl) (fun pre p hp=>?_) (B6g fun s=>rfl) (fun pre d=>mrB k L (pre.foldl (jst (x,y,z)) (V9 (x,y,z) 0)) d)
   (fun pre d=>mrF k L ((pre++[d]).foldl (jst (x,y,z)) (V9 (x,y,z) 0))) (fun pre d=>⟨_,rfl⟩) (fun pre d hd w1 F1 K1 as1 Q1 l y1 b hs4 hQ=>?_) (fun pre d hd w1 F1 K1 as1 Q1 l y1 b hs4 hQ=>?_) fun D y1 hs4 hD hFD hd=>?_
  ·rw[eP] at hp
   have h43:(myR k L (pre.foldl (jst (x,y,z)) (V9 (x,y,z) 0))).nt=43:=rfl;rw[h43];simp only[List.mem_cons,List.not_mem_nil,or_false] at hp;subst hp;decide
  ·rw[eP] at hs4
   exact mrA k L _ d trivial hs4 fun cZ aZ hs5=>⟨hQ _ _ (hs5.nx _)⟩
  ·have hd16:d<16:=by
    obtain ⟨r,hr⟩:=hd;exact D7w (n:=k.val) 64 d (by rw[hr];simp)
   rw[List.foldl_append] at hQ;generalize pre.foldl (jst (x,y,z)) (V9 (x,y,z) 0)=o at hs4 hQ;have hst:List.foldl (jst (x,y,z)) o [d]=jpl (A4p 4 o) (L.getD d pt0):=by
    rw[htab d hd16];rfl
   rw[hst] at hQ;refine mrC k L o d trivial hs4 fun cV aV hs5=>?_
   let I:{ j:Nat // j<=4 } -> List Act->Act->World->Prop:=fun j ac a w=>ac=as1∧∃z,z.w=w∧Sim w1 F1 K1 as1 (mrS k L (A4p j.1 o) d (j.1:Int)) z a
   refine A6d (ρ:=some l) I (fun j=>4-j.1) (c:=lpC C5p) (k:=lpR C5p) (by kernel_rfl) (fun j ih ac aV w hI=>?_) ⟨0,Nat.zero_le _⟩ ⟨rfl,cV,rfl,hs5.nx _⟩
   obtain ⟨j,hj⟩:=j;obtain ⟨rfl,cV,rfl,hs6⟩:=hI;simp only at ih hs6
   by_cases hj4:j<4
   ·refine mrD k L _ d j ⟨decide_eq_true (by omega),trivial⟩ hs6 fun cU aU hs7=>?_
    rw[C9 (n:=(j:Int)+1) (by omega) (by omega)] at hs7
    exact ih ⟨j+1,hj4⟩ (by show 4-(j+1)<4-j;omega) _ aU _ ⟨rfl,cU,rfl,hs7.nx _⟩
   ·have:j=4:=by omega
    subst this;refine mrE k L _ d _ ⟨by decide,by omega,by omega,rfl,by rw[Int.toNat_natCast,hL];exact hd16,trivial⟩ hs6 fun cU aU hs7=>?_
    rw[Int.toNat_natCast] at hs7;exact ⟨hQ _ _ (hs7.nx _)⟩
  ·have hs5:=hs4.marked rfl rfl D
   show Wq _ _ _ _ _ _ _ _;have ej:(dgT k.val 64).foldl (jst (x,y,z)) (V9 (x,y,z) 0)=jmn (x,y,z) (dgT k.val 64):=rfl;rw[ej] at hs4 hs5;generalize jmn (x,y,z) (dgT k.val 64)=o at hs4 hs5 ⊢
   refine mrX k L o trivial hs5 fun ac cV aV hs6=>⟨?_⟩
   have hs7:Sim y1.w y1.F (U1 y1 Y8 (H8 D)) ac (mrZ o) cV aV:=hs6;exact Y6 A2i hk hF (G3s o) trivial (fun y v hd=>hd) hs4 hD hFD hd rfl hs7

end

section

/-- A point outside as often as a number says. -/
def B2n (a:G1D) (k:U4):G1D:=C1x (jmn (inG a) (dgT k.val 64))
theorem E3q {a:G1D} (ha:onG a=true) (k:U4):B2n a k=gP (G7 (pG a) k.val):=by
 unfold B2n;generalize hl:dgT k.val 64=l;have h:=D8r cv1 (A0z ha).2 (C0n a) l;have e:dgV l=k.val:=by rw[<-hl];exact F0r k
 rw[e] at h;exact C9x h
theorem F6v {a:G1D} (ha:onG a=true) (k:U4):pG (B2n a k)=G7 (pG a) k.val:=by rw[E3q ha,D5e]
theorem F6c {a:G1D} (ha:onG a=true) (k:U4):onG (B2n a k)=true:=by
 rw[E3q ha];exact B5a (W9 cv1 (A0z ha).2 _)

end

section

instance:Inhabited G1D:=⟨g10⟩
def B4q:B7
 | [.v (.a [.ob (.p x),.ob (.p y),.ob (.p z)]),.v (.a [.ob (.fr k)])]=>some ([],.v (.a (Q3 (jmn (x,y,z) (dgT k.val 64)))),[])
 | _=>none
def qwA:Env:=qvF.set (E1 qvF.fn 41 B4q)
theorem H2r:A8 Tryz.prog qwA:=B0 A2i 41 B4q (A5 Tryz.func41 rfl rfl) fun args o r es h _=>by
 unfold B4q at h;split at h
 ·cases h;exact F4d _ _ _ _
 ·cases h
/-- What Mul tells. -/
def muR (a:G1D) (k:U4):G1D×Int:=if onG a then (B2n a k,0) else (g10,30)
theorem D8z {a:G1D} (k:U4) (ha:onG a=true):muR a k=(B2n a k,0):=by unfold muR;rw[ha];rfl
theorem G3t {a:G1D} (k:U4) (ha:onG a=false):muR a k=(g10,30):=by unfold muR;rw[ha];rfl
def qwC:Env:=qwA
theorem D9w:A8 Tryz.prog qwC:=H2r
end

section

def uaA:Env:=qwC.or S4.gK
theorem E0w:A8 Tryz.prog uaA:=A8y D9w S4.F2e
theorem grA (a b:U6) (i:Bool):let c:=G1D.mk a b i;B9 uaA Tryz.f23 3000 [.v (.a [.ob (.fp a),.ob (.fp b),.bool i])] [true] [] []=(some ([((onG c)=true)],((.ci (.bool (decide ((Prod.snd (Prod.snd (jmn (inG c) (dgT 52435875175126190479447740508185965837690552500527637822603658699938581184513 64))))=(0:Fp))))),[]))):=by intros;kernel_rfl
theorem grB (a b:U6) (i:Bool):B9 uaA Tryz.f23 3000 [.v (.a [.ob (.fp a),.ob (.fp b),.bool i])] [false] [] []=(some ([((onG (G1D.mk a b i))=false)],((.ci (.lit false)),[]))):=by kernel_rfl
/-- Whether a point is of the group. -/
def grp (a:G1D):Bool:=onG a && decide ((jmn (inG a) (dgT 52435875175126190479447740508185965837690552500527637822603658699938581184513 64)).2.2=0)
theorem G2g (a b:U6) (i:Bool):FnD Tryz.prog 23 [.v (.a [.ob (.fp a),.ob (.fp b),.bool i])] (.v (.c (.bool (grp ⟨a,b,i⟩)))) []:=by
 by_cases h1:onG ⟨a,b,i⟩=true
 ·have e:grp ⟨a,b,i⟩=decide ((jmn (inG ⟨a,b,i⟩) (dgT 52435875175126190479447740508185965837690552500527637822603658699938581184513 64)).2.2=0):=by unfold grp;rw[h1,Bool.true_and]
  rw[e];exact A6 E0w Tryz.func23 (grA a b i) ⟨h1,trivial⟩
 ·have h1:onG ⟨a,b,i⟩=false:=Bool.eq_false_iff.2 h1
  have e:grp ⟨a,b,i⟩=false:=by unfold grp;rw[h1,Bool.false_and]
  rw[e];exact (A6 E0w Tryz.func23 (grB a b i) ⟨h1,trivial⟩).conv (fun _ _ h=>h) fun y v hd=>P9 rfl hd
def C8e:B7
 | [.v (.a [.ob (.fp a),.ob (.fp b),.bool i])]=>some ([],.v (.c (.bool (grp ⟨a,b,i⟩))),[])
 | _=>none
def uaB:Env:=uaA.set (E1 uaA.fn 23 C8e)
theorem F9f:A8 Tryz.prog uaB:=B0 E0w 23 C8e (A5 Tryz.func23 rfl rfl) fun args o r es h _=>by
 unfold C8e at h;split at h
 ·cases h;exact G2g _ _ _
 ·cases h
end

section

abbrev F2:=Q2 pN
def f2I (x:F2):List It:=[.ob (.p x.1),.ob (.p x.2)]
section
variable {r:Nat} [NeZero r]
theorem H8f (a b c d:Fin r):(a+b)*(c+d)-a*c-b*d=a*d+b*c:=by grind
end
theorem t2A (a b c d:Fp):B9 qeJ Tryz.f107 3000 [.v (.a [.ob (.p a),.ob (.p b)]),.v (.a [.ob (.p c),.ob (.p d)])] [] [] []=(some ([],((.v (.a [(.ob (.p ((a*c)-(b*d)))),(.ob (.p ((((a+b)*(c+d))-(a*c))-(b*d))))])),[]))):=by kernel_rfl
theorem p2A (a b c d:Fp):B9 qeJ Tryz.f108 3000 [.v (.a [.ob (.p a),.ob (.p b)]),.v (.a [.ob (.p c),.ob (.p d)])] [] [] []=(some ([],((.v (.a [(.ob (.p (a+c))),(.ob (.p (b+d)))])),[]))):=by kernel_rfl
theorem m2A (a b c d:Fp):B9 qeJ Tryz.f126 3000 [.v (.a [.ob (.p a),.ob (.p b)]),.v (.a [.ob (.p c),.ob (.p d)])] [] [] []=(some ([],((.v (.a [(.ob (.p (a-c))),(.ob (.p (b-d)))])),[]))):=by kernel_rfl
theorem n2A (a b:Fp):B9 qeJ Tryz.f133 3000 [.v (.a [.ob (.p a),.ob (.p b)])] [] [] []=(some ([],((.v (.a [(.ob (.p ((0:Fp)-a))),(.ob (.p ((0:Fp)-b)))])),[]))):=by kernel_rfl
theorem z2A (a b:Fp):let c:=Bool.and (decide (a=(0:Fp))) (decide (b=(0:Fp)));B9 qeJ Tryz.f61 3000 [.v (.a [.ob (.p a),.ob (.p b)])] [] [] []=(some ([],((.ci (.bool (ite (true=true) c (Bool.not c)))),[]))):=by intros;kernel_rfl
theorem I1u (a b:Fp):B9 qeJ Tryz.f141 3000 [.v (.a [.ob (.p a),.ob (.p b)])] [] [] []=(some ([],((.v (.a [(.ob (.p ((a*a)+(b*b))))])),[]))):=by kernel_rfl
theorem i2A (a b:U6):B9 qeJ Tryz.f84 3000 [.v (.a [.ob (.fp a),.ob (.fp b)])] [] [] []=(some ([],((.v (.a [(.ob (.p (inP a))),(.ob (.p (inP b)))])),[]))):=by kernel_rfl
theorem o2A (a b:Fp):B9 qeJ Tryz.f83 3000 [.v (.a [.ob (.p a),.ob (.p b)])] [] [] []=(some ([],((.v (.a [(.ob (.fp (C7 a))),(.ob (.fp (C7 b)))])),[]))):=by kernel_rfl
theorem E0p (a b c d:Fp):FnD Tryz.prog 107 [.v (.a [.ob (.p a),.ob (.p b)]),.v (.a [.ob (.p c),.ob (.p d)])] (.v (.a (f2I ((a,b)*(c,d))))) []:=by
 have r:=t2A a b c d;rw[H8f] at r;exact A6 N5 Tryz.func107 r trivial
theorem E8t (a b:Fp):FnD Tryz.prog 61 [.v (.a [.ob (.p a),.ob (.p b)])] (.v (.c (.bool (decide (((a,b):F2)=0))))) []:=by
 have r:=z2A a b;dsimp only at r;rw[if_pos rfl] at r;have e:decide (((a,b):F2)=0)=(decide (a=0) && decide (b=0)):=D5f a 0 b 0;rw[e];exact A6 N5 Tryz.func61 r trivial
def G2 (a b:U6):F2:=(inP a,inP b)
def B0n:B7
 | [.v (.a [.ob (.p a),.ob (.p b)]),.v (.a [.ob (.p c),.ob (.p d)])]=>some ([],.v (.a (f2I ((a,b)*(c,d)))),[])
 | _=>none
def qxA:Env:=qeJ.set (E1 qeJ.fn 107 B0n)
theorem H2s:A8 Tryz.prog qxA:=B0 N5 107 B0n (A5 Tryz.func107 rfl rfl) fun args o r es h _=>by
 unfold B0n at h;split at h
 ·cases h;exact E0p _ _ _ _
 ·cases h
def B5h:B7
 | [.v (.a [.ob (.p a),.ob (.p b)]),.v (.a [.ob (.p c),.ob (.p d)])]=>some ([],.v (.a (f2I ((a,b)+(c,d)))),[])
 | _=>none
def qxB:Env:=qxA.set (E1 qxA.fn 108 B5h)
theorem H2t:A8 Tryz.prog qxB:=B0 H2s 108 B5h (A5 Tryz.func108 rfl rfl) fun args o r es h _=>by
 unfold B5h at h;split at h
 ·cases h;exact A6 N5 Tryz.func108 (p2A _ _ _ _) trivial
 ·cases h
def A9l:B7
 | [.v (.a [.ob (.p a),.ob (.p b)]),.v (.a [.ob (.p c),.ob (.p d)])]=>some ([],.v (.a (f2I ((a,b)-(c,d)))),[])
 | _=>none
def qxC:Env:=qxB.set (E1 qxB.fn 126 A9l)
theorem H2u:A8 Tryz.prog qxC:=B0 H2t 126 A9l (A5 Tryz.func126 rfl rfl) fun args o r es h _=>by
 unfold A9l at h;split at h
 ·cases h;exact A6 N5 Tryz.func126 (m2A _ _ _ _) trivial
 ·cases h
def C1k:B7
 | [.v (.a [.ob (.p a),.ob (.p b)])]=>some ([],.v (.a (f2I (0-(a,b)))),[])
 | _=>none
def qxD:Env:=qxC.set (E1 qxC.fn 133 C1k)
theorem H2v:A8 Tryz.prog qxD:=B0 H2u 133 C1k (A5 Tryz.func133 rfl rfl) fun args o r es h _=>by
 unfold C1k at h;split at h
 ·cases h;exact A6 N5 Tryz.func133 (n2A _ _) trivial
 ·cases h
def B6a:B7
 | [.v (.a [.ob (.p a),.ob (.p b)])]=>some ([],.v (.c (.bool (decide (((a,b):F2)=0)))),[])
 | _=>none
def qxE:Env:=qxD.set (E1 qxD.fn 61 B6a)
theorem H2w:A8 Tryz.prog qxE:=B0 H2v 61 B6a (A5 Tryz.func61 rfl rfl) fun args o r es h _=>by
 unfold B6a at h;split at h
 ·cases h;exact E8t _ _
 ·cases h
def B4y:B7
 | [.v (.a [.ob (.p a),.ob (.p b)])]=>some ([],.v (.a [.ob (.p (nQ2 (a,b)))]),[])
 | _=>none
def qxF:Env:=qxE.set (E1 qxE.fn 141 B4y)
theorem H2x:A8 Tryz.prog qxF:=B0 H2w 141 B4y (A5 Tryz.func141 rfl rfl) fun args o r es h _=>by
 unfold B4y at h;split at h
 ·cases h;exact A6 N5 Tryz.func141 (I1u _ _) trivial
 ·cases h
def C8i:B7
 | [.v (.a [.ob (.fp a),.ob (.fp b)])]=>some ([],.v (.a (f2I (G2 a b))),[])
 | _=>none
def qxG:Env:=qxF.set (E1 qxF.fn 84 C8i)
theorem H2y:A8 Tryz.prog qxG:=B0 H2x 84 C8i (A5 Tryz.func84 rfl rfl) fun args o r es h _=>by
 unfold C8i at h;split at h
 ·cases h;exact A6 N5 Tryz.func84 (i2A _ _) trivial
 ·cases h
def C1w:B7
 | [.v (.a [.ob (.p a),.ob (.p b)])]=>some ([],.v (.a [.ob (.fp (C7 a)),.ob (.fp (C7 b))]),[])
 | _=>none
def qxH:Env:=qxG.set (E1 qxG.fn 83 C1w)
theorem F7t:A8 Tryz.prog qxH:=B0 H2y 83 C1w (A5 Tryz.func83 rfl rfl) fun args o r es h _=>by
 unfold C1w at h;split at h
 ·cases h;exact A6 N5 Tryz.func83 (o2A _ _) trivial
 ·cases h
theorem v2A (a b:Fp):B9 qxH Tryz.f134 3000 [.v (.a [.ob (.p a),.ob (.p b)])] [] [] []=(some ([],((.v (.a [(.ob (.p (a*(ivP (nQ2 (a,b)))))),(.ob (.p ((0:Fp)-(b*(ivP (nQ2 (a,b)))))))])),[]))):=by kernel_rfl
def C0q:B7
 | [.v (.a [.ob (.p a),.ob (.p b)])]=>some ([],.v (.a (f2I (A9f ivP (a,b)))),[])
 | _=>none
def qxI:Env:=qxH.set (E1 qxH.fn 134 C0q)
theorem B0a:A8 Tryz.prog qxI:=B0 F7t 134 C0q (A5 Tryz.func134 rfl rfl) fun args o r es h _=>by
 unfold C0q at h;split at h
 ·cases h;exact A6 F7t Tryz.func134 (v2A _ _) trivial
 ·cases h
theorem C9e (v : Value) (w : World) : (method (Tryz.prog.types.size + Made.depth) 79 v "Times").run Tryz.prog w = .ok (107, v) w := by kernel_rfl
theorem D4b (v : Value) (w : World) : (method (Tryz.prog.types.size + Made.depth) 79 v "Plus").run Tryz.prog w = .ok (108, v) w := by kernel_rfl
theorem C9d (v : Value) (w : World) : (method (Tryz.prog.types.size + Made.depth) 79 v "Minus").run Tryz.prog w = .ok (126, v) w := by kernel_rfl
theorem C3v (v : Value) (w : World) : (method (Tryz.prog.types.size + Made.depth) 79 v "IsZero").run Tryz.prog w = .ok (61, v) w := by kernel_rfl
theorem B7b (v : Value) (w : World) : (method (Tryz.prog.types.size + Made.depth) 79 v "Negative").run Tryz.prog w = .ok (133, v) w := by kernel_rfl
theorem C1c (v : Value) (w : World) : (method (Tryz.prog.types.size + Made.depth) 79 v "Inverse").run Tryz.prog w = .ok (134, v) w := by kernel_rfl
def F3d (T : Nat → Option (List (String × Nat))) (t : Nat) : Option (List (String × Nat)) := if t = 79 then some [("Times", 107), ("Plus", 108), ("Minus", 126), ("IsZero", 61), ("Negative", 133), ("Inverse", 134)] else T t
def qxJ:Env:={ qxI with inv:=F3d qxI.inv }
theorem D0n:A8 Tryz.prog qxJ:=by
 refine ⟨B0a.ty,B0a.mixed,B0a.fn,B0a.mu,B0a.inl,B0a.ex,fun t l h=>?_⟩
 have h:F3d qxI.inv t=some l:=h;unfold F3d at h;split at h
 ·rename_i ht
  cases h
  subst ht;refine ⟨by kernel_rfl,fun name g hg v args w=>?_⟩
  unfold A1e at hg;split at hg
  ·rename_i hn
   cases hg
   subst hn;simp only[callMethod,Sem.run_bind,run_program,Result.andThen_ok,C9e]
  unfold A1e at hg;split at hg
  ·rename_i hn
   cases hg
   subst hn;simp only[callMethod,Sem.run_bind,run_program,Result.andThen_ok,D4b]
  unfold A1e at hg;split at hg
  ·rename_i hn
   cases hg
   subst hn;simp only[callMethod,Sem.run_bind,run_program,Result.andThen_ok,C9d]
  unfold A1e at hg;split at hg
  ·rename_i hn
   cases hg
   subst hn;simp only[callMethod,Sem.run_bind,run_program,Result.andThen_ok,C3v]
  unfold A1e at hg;split at hg
  ·rename_i hn
   cases hg
   subst hn;simp only[callMethod,Sem.run_bind,run_program,Result.andThen_ok,B7b]
  unfold A1e at hg;split at hg
  ·rename_i hn
   cases hg
   subst hn;simp only[callMethod,Sem.run_bind,run_program,Result.andThen_ok,C1c]
  cases hg
 ·exact B0a.inv t l h
theorem I3k (a b c d e f:Fp):B9 qxJ Tryz.f86 3000 [.v (.a [.ob (.p a),.ob (.p b),.ob (.p c),.ob (.p d),.ob (.p e),.ob (.p f)])] [true] [] []=(some ([((decide ((e,f)=(0:(Prod (Fin pN) (Fin pN)))))=true)],((.v (.a [.ob (.p a),.ob (.p b),.ob (.p c),.ob (.p d),.ob (.p e),.ob (.p f)])),[]))):=by kernel_rfl
theorem I3l (a b c d e f:Fp):let l:=(c,d)*(c,d);let h:=l*l;let m:=(a,b)*(a,b);let g:=((((a,b)+l)*((a,b)+l))-m)-h;let i:=(m+m)+m;let k:=((i*i)-(g+g))-(g+g);let j:=(i*((g+g)-k))-(((h+h)+(h+h))+((h+h)+(h+h)));let n:=(c,d)*(e,f);B9 qxJ Tryz.f86 3000 [.v (.a [.ob (.p a),.ob (.p b),.ob (.p c),.ob (.p d),.ob (.p e),.ob (.p f)])] [false] [] []=(some ([((decide ((e,f)=(0:(Prod (Fin pN) (Fin pN)))))=false)],((.v (.a [(.ob (.p (Prod.fst k))),(.ob (.p (Prod.snd k))),(.ob (.p (Prod.fst j))),(.ob (.p (Prod.snd j))),(.ob (.p (Prod.fst (n+n)))),(.ob (.p (Prod.snd (n+n))))])),[]))):=by intros;kernel_rfl
theorem I1t (a b c d e f:Fp):let g:=(0:F2)-(c,d);B9 qxJ Tryz.f166 3000 [.v (.a [.ob (.p a),.ob (.p b),.ob (.p c),.ob (.p d),.ob (.p e),.ob (.p f)])] [] [] []=(some ([],((.v (.a [.ob (.p a),.ob (.p b),(.ob (.p (Prod.fst g))),(.ob (.p (Prod.snd g))),.ob (.p e),.ob (.p f)])),[]))):=by intros;kernel_rfl
end

section

theorem E0t (a b c d e f:Fp):FnD Tryz.prog 86 [.v (.a [.ob (.p a),.ob (.p b),.ob (.p c),.ob (.p d),.ob (.p e),.ob (.p f)])] (.v (.a (L9 (jtw (F:=F2) ((a,b),(c,d),(e,f)))))) []:=by
 by_cases h:((e,f):F2)=0
 ·have e0:jtw (F:=F2) ((a,b),(c,d),(e,f))=((a,b),(c,d),(e,f)):=if_pos h
  rw[e0];exact A6 D0n Tryz.func86 (I3k a b c d e f) ⟨decide_eq_true h,trivial⟩
 ·unfold jtw
  rw[if_neg h];exact A6 D0n Tryz.func86 (I3l a b c d e f) ⟨decide_eq_false h,trivial⟩
def D1e:B7
 | [.v (.a [.ob (.p a),.ob (.p b),.ob (.p c),.ob (.p d),.ob (.p e),.ob (.p f)])]=>some ([],.v (.a (L9 (jtw (F:=F2) ((a,b),(c,d),(e,f))))),[])
 | _=>none
def qyA:Env:=qxJ.set (E1 qxJ.fn 86 D1e)
theorem H2z:A8 Tryz.prog qyA:=B0 D0n 86 D1e (A5 Tryz.func86 rfl rfl) fun args o r es h _=>by
 unfold D1e at h;split at h
 ·cases h;exact E0t _ _ _ _ _ _
 ·cases h
def C9m:B7
 | [.v (.a [.ob (.p a),.ob (.p b),.ob (.p c),.ob (.p d),.ob (.p e),.ob (.p f)])]=>some ([],.v (.a (L9 (jng (F:=F2) ((a,b),(c,d),(e,f))))),[])
 | _=>none
def qyB:Env:=qyA.set (E1 qyA.fn 166 C9m)
theorem B5q:A8 Tryz.prog qyB:=B0 H2z 166 C9m (A5 Tryz.func166 rfl rfl) fun args o r es h _=>by
 unfold C9m at h;split at h
 ·cases h;exact A6 D0n Tryz.func166 (I1t _ _ _ _ _ _) trivial
 ·cases h
theorem I2f (a b c d e f a' b' c' d' e' f' : Fp):B9 qyB Tryz.f85 3000 [.v (.a [.ob (.p a),.ob (.p b),.ob (.p c),.ob (.p d),.ob (.p e),.ob (.p f)]),.v (.a [.ob (.p a'),.ob (.p b'),.ob (.p c'),.ob (.p d'),.ob (.p e'),.ob (.p f')])] [true] [] []=(some ([((decide ((e,f)=(0:(Prod (Fin pN) (Fin pN)))))=true)],((.v (.a [(.ob (.p a')),(.ob (.p b')),(.ob (.p c')),(.ob (.p d')),(.ob (.p e')),(.ob (.p f'))])),[]))):=by kernel_rfl
theorem I2g (a b c d e f a' b' c' d' e' f' : Fp):let g:=Prod (Fin pN) (Fin pN);B9 qyB Tryz.f85 3000 [.v (.a [.ob (.p a),.ob (.p b),.ob (.p c),.ob (.p d),.ob (.p e),.ob (.p f)]),.v (.a [.ob (.p a'),.ob (.p b'),.ob (.p c'),.ob (.p d'),.ob (.p e'),.ob (.p f')])] [false,true] [] []=(some ([((decide ((e,f)=(0:g)))=false),((decide ((e',f')=(0:g)))=true)],((.v (.a [.ob (.p a),.ob (.p b),.ob (.p c),.ob (.p d),.ob (.p e),.ob (.p f)])),[]))):=by intros;kernel_rfl
theorem I2h (a b c d e f a' b' c' d' e' f' : Fp):let g:=jtw ((a,b),((c,d),(e,f)));let h:=Prod (Fin pN) (Fin pN);let i:=Prod.snd g;let j:=(e',f')*(e',f');B9 qyB Tryz.f85 3000 [.v (.a [.ob (.p a),.ob (.p b),.ob (.p c),.ob (.p d),.ob (.p e),.ob (.p f)]),.v (.a [.ob (.p a'),.ob (.p b'),.ob (.p c'),.ob (.p d'),.ob (.p e'),.ob (.p f')])] [false,false,true,true] [] []=(some ([((decide ((e,f)=(0:h)))=false),((decide ((e',f')=(0:h)))=false),((decide ((((a',b')*((e,f)*(e,f)))-((a,b)*j))=(0:h)))=true),((decide (((((c',d')*((e,f)*(e,f)))*(e,f))-(((c,d)*j)*(e',f')))=(0:h)))=true)],((.v (.a [(.ob (.p (Prod.fst (Prod.fst g)))),(.ob (.p (Prod.snd (Prod.fst g)))),(.ob (.p (Prod.fst (Prod.fst i)))),(.ob (.p (Prod.snd (Prod.fst i)))),(.ob (.p (Prod.fst (Prod.snd i)))),(.ob (.p (Prod.snd (Prod.snd i))))])),[]))):=by intros;kernel_rfl
theorem I2i (a b c d e f a' b' c' d' e' f' : Fp):let g:=Prod (Fin pN) (Fin pN);let h:=(e',f')*(e',f');B9 qyB Tryz.f85 3000 [.v (.a [.ob (.p a),.ob (.p b),.ob (.p c),.ob (.p d),.ob (.p e),.ob (.p f)]),.v (.a [.ob (.p a'),.ob (.p b'),.ob (.p c'),.ob (.p d'),.ob (.p e'),.ob (.p f')])] [false,false,true,false] [] []=(some ([((decide ((e,f)=(0:g)))=false),((decide ((e',f')=(0:g)))=false),((decide ((((a',b')*((e,f)*(e,f)))-((a,b)*h))=(0:g)))=true),((decide (((((c',d')*((e,f)*(e,f)))*(e,f))-(((c,d)*h)*(e',f')))=(0:g)))=false)],((.v (.a [.ob (.p a),.ob (.p b),.ob (.p c),.ob (.p d),(.ob (.p (0:Fp))),(.ob (.p (0:Fp)))])),[]))):=by intros;kernel_rfl
theorem I2j (a b c d e f a' b' c' d' e' f' : Fp):let j:=(e',f')*(e',f');let g:=((a',b')*((e,f)*(e,f)))-((a,b)*j);let l:=Prod (Fin pN) (Fin pN);let m:=((a,b)*j)*(g*g);let n:=((c,d)*j)*(e',f');let i:=(((c',d')*((e,f)*(e,f)))*(e,f))-n;let h:=(((i*i)-((g*g)*g))-m)-m;let k:=(i*(m-h))-(n*((g*g)*g));let o:=(g*(e,f))*(e',f');B9 qyB Tryz.f85 3000 [.v (.a [.ob (.p a),.ob (.p b),.ob (.p c),.ob (.p d),.ob (.p e),.ob (.p f)]),.v (.a [.ob (.p a'),.ob (.p b'),.ob (.p c'),.ob (.p d'),.ob (.p e'),.ob (.p f')])] [false,false,false] [] []=(some ([((decide ((e,f)=(0:l)))=false),((decide ((e',f')=(0:l)))=false),((decide (g=(0:l)))=false)],((.v (.a [(.ob (.p (Prod.fst h))),(.ob (.p (Prod.snd h))),(.ob (.p (Prod.fst k))),(.ob (.p (Prod.snd k))),(.ob (.p (Prod.fst o))),(.ob (.p (Prod.snd o)))])),[]))):=by intros;kernel_rfl
end

section

theorem D5i (a b c d e f a' b' c' d' e' f' : Fp):FnD Tryz.prog 85 [.v (.a [.ob (.p a),.ob (.p b),.ob (.p c),.ob (.p d),.ob (.p e),.ob (.p f)]),.v (.a [.ob (.p a'),.ob (.p b'),.ob (.p c'),.ob (.p d'),.ob (.p e'),.ob (.p f')])] (.v (.a (L9 (jpl (F:=F2) ((a,b),(c,d),(e,f)) ((a',b'),(c',d'),(e',f')))))) []:=by
 by_cases h:((e,f):F2)=0
 ·have e0:jpl (F:=F2) ((a,b),(c,d),(e,f)) ((a',b'),(c',d'),(e',f'))=((a',b'),(c',d'),(e',f')):=if_pos h
  rw[e0];exact A6 B5q Tryz.func85 (I2f a b c d e f a' b' c' d' e' f') ⟨decide_eq_true h,trivial⟩
 ·by_cases h2:((e',f'):F2)=0
  ·have e0:jpl (F:=F2) ((a,b),(c,d),(e,f)) ((a',b'),(c',d'),(e',f'))=((a,b),(c,d),(e,f)):=(if_neg h).trans (if_pos h2)
   rw[e0];exact A6 B5q Tryz.func85 (I2g a b c d e f a' b' c' d' e' f') ⟨decide_eq_false h,decide_eq_true h2,trivial⟩
  ·unfold jpl
   rw[if_neg h,if_neg h2];dsimp only;by_cases h3:((a',b'):F2)*(((e,f):F2)*((e,f):F2))-((a,b):F2)*(((e',f'):F2)*((e',f'):F2))=0
   ·rw[if_pos h3]
    by_cases h4:((c',d'):F2)*(((e,f):F2)*((e,f):F2))*((e,f):F2)-((c,d):F2)*(((e',f'):F2)*((e',f'):F2))*((e',f'):F2)=0
    ·rw[if_pos h4]
     exact A6 B5q Tryz.func85 (I2h a b c d e f a' b' c' d' e' f') ⟨decide_eq_false h,decide_eq_false h2,decide_eq_true h3,decide_eq_true h4,trivial⟩
    ·rw[if_neg h4]
     exact A6 B5q Tryz.func85 (I2i a b c d e f a' b' c' d' e' f') ⟨decide_eq_false h,decide_eq_false h2,decide_eq_true h3,decide_eq_false h4,trivial⟩
   ·rw[if_neg h3]
    exact A6 B5q Tryz.func85 (I2j a b c d e f a' b' c' d' e' f') ⟨decide_eq_false h,decide_eq_false h2,decide_eq_false h3,trivial⟩

end

section

def D0b:B7
 | [.v (.a [.ob (.p a),.ob (.p b),.ob (.p c),.ob (.p d),.ob (.p e),.ob (.p f)]),.v (.a [.ob (.p a'),.ob (.p b'),.ob (.p c'),.ob (.p d'),.ob (.p e'),.ob (.p f')])]=>some ([],.v (.a (L9 (jpl (F:=F2) ((a,b),(c,d),(e,f)) ((a',b'),(c',d'),(e',f'))))),[])
 | _=>none
def qyC:Env:=qyB.set (E1 qyB.fn 85 D0b)
theorem B0b:A8 Tryz.prog qyC:=B0 B5q 85 D0b (A5 Tryz.func85 rfl rfl) fun args o r es h _=>by
 unfold D0b at h;split at h
 ·cases h;exact D5i _ _ _ _ _ _ _ _ _ _ _ _
 ·cases h
def F3a (T:Nat->Option Func) (f:Nat):Option Func:=if f=82 then some Tryz.f82 else T f
def qyD:Env:={ qyC with inl:=F3a qyC.inl }
theorem A4x:A8 Tryz.prog qyD:=by
 refine ⟨B0b.ty,B0b.mixed,B0b.fn,B0b.mu,fun f fn h=>?_,B0b.ex,B0b.inv⟩
 have h:F3a qyC.inl f=some fn:=h;unfold F3a at h;split at h
 ·rename_i hf;cases h;subst hf;exact ⟨Tryz.func82,A5 Tryz.func82 rfl rfl⟩
 exact B0b.inl f fn h
theorem I0u (a b c d:U6) (i:Bool):let f:=Fin.ofNat pN 1;let g:Fp:=0;B9 qyD Tryz.f43 3000 [.v (.a [.ob (.fp a),.ob (.fp b),.ob (.fp c),.ob (.fp d),.bool i])] [true] [] []=(some ([(0<=(1:Int)),((1:Int)<(18446744073709551616:Int)),(i=true)],((.v (.a [(.ob (.p f)),(.ob (.p g)),(.ob (.p f)),(.ob (.p g)),(.ob (.p g)),(.ob (.p g))])),[]))):=by intros;kernel_rfl
theorem I0v (a b c d:U6) (i:Bool):B9 qyD Tryz.f43 3000 [.v (.a [.ob (.fp a),.ob (.fp b),.ob (.fp c),.ob (.fp d),.bool i])] [false] [] []=(some ([(0<=(1:Int)),((1:Int)<(18446744073709551616:Int)),(i=false)],((.v (.a [(.ob (.p (Prod.fst (G2 a b)))),(.ob (.p (Prod.snd (G2 a b)))),(.ob (.p (Prod.fst (G2 c d)))),(.ob (.p (Prod.snd (G2 c d)))),(.ob (.p (Fin.ofNat pN 1))),(.ob (.p (0:Fp)))])),[]))):=by kernel_rfl
theorem I1w (a b c d e f:Fp):let g:U6:=0;B9 qyD Tryz.f42 3000 [.v (.a [.ob (.p a),.ob (.p b),.ob (.p c),.ob (.p d),.ob (.p e),.ob (.p f)])] [true,true] [] []=(some ([((decide ((e,f)=(0:(Prod (Fin pN) (Fin pN)))))=true)],((.v (.a [(.ob (.fp g)),(.ob (.fp g)),(.ob (.fp g)),(.ob (.fp g)),(.lit true)])),[]))):=by intros;kernel_rfl
theorem I1x (a b c d e f:Fp):let g:=A9f ivP (e,f);let h:=((c,d)*(g*g))*g;B9 qyD Tryz.f42 3000 [.v (.a [.ob (.p a),.ob (.p b),.ob (.p c),.ob (.p d),.ob (.p e),.ob (.p f)])] [false,false] [] []=(some ([((decide ((e,f)=(0:(Prod (Fin pN) (Fin pN)))))=false)],((.v (.a [(.ob (.fp (C7 (Prod.fst ((a,b)*(g*g)))))),(.ob (.fp (C7 (Prod.snd ((a,b)*(g*g)))))),(.ob (.fp (C7 (Prod.fst h)))),(.ob (.fp (C7 (Prod.snd h)))),(.lit false)])),[]))):=by intros;kernel_rfl
theorem I1y (a b c d:U6) (i:Bool):let g:U6:=0;let f:=Bool.and (decide (a=g)) (Bool.and (decide (b=g)) (Bool.and (decide (c=g)) (Bool.and (decide (d=g)) (i == true))));B9 qyD Tryz.f58 3000 [.v (.a [.ob (.fp a),.ob (.fp b),.ob (.fp c),.ob (.fp d),.bool i])] [true] [] []=(some ([(i=true)],((.ci (.bool (ite (true=true) f (Bool.not f)))),[]))):=by intros;kernel_rfl
theorem I1z (a b c d:U6) (i:Bool):let k:=G2 c d;let h:=Bool.and (decide ((C7 (Prod.fst k))=c)) (decide ((C7 (Prod.snd k))=d));let l:=(4:Int)<(18446744073709551616:Int);let m:=G2 a b;let g:=Bool.and (decide ((C7 (Prod.fst m))=a)) (decide ((C7 (Prod.snd m))=b));let n:=true=true;let o:=Fin.ofNat pN 4;let j:=((m*m)*m)+(o,o);let f:=Bool.and (decide ((Prod.fst (k*k))=(Prod.fst j))) (decide ((Prod.snd (k*k))=(Prod.snd j)));B9 qyD Tryz.f58 3000 [.v (.a [.ob (.fp a),.ob (.fp b),.ob (.fp c),.ob (.fp d),.bool i])] [false,true,true] [] []=(some ([(i=false),(0<=(4:Int)),l,(0<=(4:Int)),l,((ite n g (Bool.not g))=true),((ite n h (Bool.not h))=true)],((.ci (.bool (ite n f (Bool.not f)))),[]))):=by intros;kernel_rfl
theorem I2a (a b c d:U6) (i:Bool):let f:=Bool.and (decide ((C7 (Prod.fst (G2 a b)))=a)) (decide ((C7 (Prod.snd (G2 a b)))=b));let g:=Bool.and (decide ((C7 (Prod.fst (G2 c d)))=c)) (decide ((C7 (Prod.snd (G2 c d)))=d));let h:=(4:Int)<(18446744073709551616:Int);B9 qyD Tryz.f58 3000 [.v (.a [.ob (.fp a),.ob (.fp b),.ob (.fp c),.ob (.fp d),.bool i])] [false,true,false] [] []=(some ([(i=false),(0<=(4:Int)),h,(0<=(4:Int)),h,((ite (true=true) f (Bool.not f))=true),((ite (true=true) g (Bool.not g))=false)],((.ci (.lit false)),[]))):=by intros;kernel_rfl
theorem I2b (a b c d:U6) (i:Bool):let f:=Bool.and (decide ((C7 (Prod.fst (G2 a b)))=a)) (decide ((C7 (Prod.snd (G2 a b)))=b));let g:=(4:Int)<(18446744073709551616:Int);B9 qyD Tryz.f58 3000 [.v (.a [.ob (.fp a),.ob (.fp b),.ob (.fp c),.ob (.fp d),.bool i])] [false,false,false] [] []=(some ([(i=false),(0<=(4:Int)),g,(0<=(4:Int)),g,((ite (true=true) f (Bool.not f))=false)],((.ci (.lit false)),[]))):=by intros;kernel_rfl
end

section

def fq4:F2:=(fp4,fp4)
/-- Which points may be. -/
def I6 (a:G2D):Bool:=
 if a.inf then decide (a.xa=0) && (decide (a.xb=0) && (decide (a.ya=0) && decide (a.yb=0)))
 else (decide (C7 (inP a.xa)=a.xa) && decide (C7 (inP a.xb)=a.xb)) && ((decide (C7 (inP a.ya)=a.ya) && decide (C7 (inP a.yb)=a.yb)) && decide (G2 a.ya a.yb*G2 a.ya a.yb=G2 a.xa a.xb*G2 a.xa a.xb*G2 a.xa a.xb+fq4))
def A3x (a:G2D):F2×F2×F2:=if a.inf then ((fp1,0),(fp1,0),(0,0)) else (G2 a.xa a.xb,G2 a.ya a.yb,(fp1,0))
def A8j (t:F2×F2×F2):G2D:=
 if t.2.2=0 then ⟨0,0,0,0,true⟩ else
 ⟨C7 (t.1*(A9f ivP t.2.2*A9f ivP t.2.2)).1,C7 (t.1*(A9f ivP t.2.2*A9f ivP t.2.2)).2,C7 (t.2.1*(A9f ivP t.2.2*A9f ivP t.2.2)*A9f ivP t.2.2).1,C7 (t.2.1*(A9f ivP t.2.2*A9f ivP t.2.2)*A9f ivP t.2.2).2,false⟩
def C4f (a b:G2D):G2D:=A8j (jpl (A3x a) (A3x b))
def C5r (a:G2D):G2D:=A8j (jng (A3x a))

theorem A7s {x:Ctx} {i j k l:It} {b:Bool} {v:Value} (h:B8 x (.v (.a [i,j,k,l,.lit b])) v):B8 x (.v (.a [i,j,k,l,.bool b])) v:=by
 obtain ⟨cs,e,c1,r1,e1,h1,c2,r2,e2,h2,c3,r3,e3,h3,c4,r4,e4,h4,c5,r5,e5,⟨d,h5⟩,h6⟩:=h;refine ⟨cs,e,c1,r1,e1,h1,c2,r2,e2,h2,c3,r3,e3,h3,c4,r4,e4,h4,c5,r5,e5,⟨d,?_⟩,h6⟩
 cases d<;>exact h5
theorem D3y {x:Ctx} {i j k l m:It} {b:Bool} {v:Value} (h:B8 x (.t [.a [i,j,k,l,.lit b],.c m]) v):B8 x (.t [.a [i,j,k,l,.bool b],.c m]) v:=by
 obtain ⟨vs,e,h1⟩:=h
 cases h1 with | cons d1 ds=>
 exact ⟨_,e,.cons (A7s d1) ds⟩

theorem F2x (a b c d:U6) (i:Bool):FnD Tryz.prog 43 [.v (.a [.ob (.fp a),.ob (.fp b),.ob (.fp c),.ob (.fp d),.bool i])] (.v (.a (L9 (A3x ⟨a,b,c,d,i⟩)))) []:=by
 cases i with
 | true=>exact A6 A4x Tryz.func43 (I0u a b c d true) ⟨by decide,by decide,rfl,trivial⟩
 | false=>exact A6 A4x Tryz.func43 (I0v a b c d false) ⟨by decide,by decide,rfl,trivial⟩

theorem E7i (a b c d e f:Fp):FnD Tryz.prog 42 [.v (.a [.ob (.p a),.ob (.p b),.ob (.p c),.ob (.p d),.ob (.p e),.ob (.p f)])] (.v (.a (A8j ((a,b),(c,d),(e,f))).its)) []:=by
 by_cases h:((e,f):F2)=0
 ·have e0:A8j ((a,b),(c,d),(e,f))=⟨0,0,0,0,true⟩:=if_pos h
  rw[e0];exact (A6 A4x Tryz.func42 (I1w a b c d e f) ⟨decide_eq_true h,trivial⟩).conv (fun _ _ h=>h) fun y v hd=>A7s hd
 ·unfold A8j
  rw[if_neg h];exact (A6 A4x Tryz.func42 (I1x a b c d e f) ⟨decide_eq_false h,trivial⟩).conv (fun _ _ h=>h) fun y v hd=>A7s hd

theorem F5y (a b c d:U6):I6 ⟨a,b,c,d,false⟩=((decide (C7 (inP a)=a) && decide (C7 (inP b)=b)) && ((decide (C7 (inP c)=c) && decide (C7 (inP d)=d)) && decide (G2 c d*G2 c d=G2 a b*G2 a b*G2 a b+fq4))):=if_neg (fun h=>Bool.noConfusion h)
theorem F6a (a b c d:U6):I6 ⟨a,b,c,d,true⟩=(decide (a=0) && (decide (b=0) && (decide (c=0) && (decide (d=0) && (true == true))))):=by
 show (decide (a=0) && (decide (b=0) && (decide (c=0) && decide (d=0))))=_;simp

theorem F5z (a b c d:U6) (i:Bool):FnD Tryz.prog 58 [.v (.a [.ob (.fp a),.ob (.fp b),.ob (.fp c),.ob (.fp d),.bool i])] (.v (.c (.bool (I6 ⟨a,b,c,d,i⟩)))) []:=by
 cases i with
 | true=>
  have r:=I1y a b c d true;dsimp only at r;rw[if_pos rfl] at r;rw[F6a];exact A6 A4x Tryz.func58 r ⟨rfl,trivial⟩
 | false=>
  rw[F5y]
  cases h1:(decide (C7 (inP a)=a) && decide (C7 (inP b)=b)) with
  | true=>
   rw[Bool.true_and]
   cases h2:(decide (C7 (inP c)=c) && decide (C7 (inP d)=d)) with
   | true=>
    rw[Bool.true_and];have r:=I1z a b c d false;dsimp only at r;rw[if_pos rfl,if_pos rfl,if_pos rfl] at r;have e:decide (G2 c d*G2 c d=G2 a b*G2 a b*G2 a b+fq4)=_:=D5f (G2 c d*G2 c d).1 (G2 a b*G2 a b*G2 a b+fq4).1 (G2 c d*G2 c d).2 (G2 a b*G2 a b*G2 a b+fq4).2;rw[e];exact A6 A4x Tryz.func58 r ⟨rfl,by decide,by decide,by decide,by decide,h1,h2,trivial⟩
   | false=>
    rw[Bool.false_and];have r:=I2a a b c d false;dsimp only at r;rw[if_pos rfl,if_pos rfl] at r;exact (A6 A4x Tryz.func58 r ⟨rfl,by decide,by decide,by decide,by decide,h1,h2,trivial⟩).conv (fun _ _ h=>h) fun y v hd=>P9 rfl hd
  | false=>
   rw[Bool.false_and];have r:=I2b a b c d false;dsimp only at r;rw[if_pos rfl] at r;exact (A6 A4x Tryz.func58 r ⟨rfl,by decide,by decide,by decide,by decide,h1,trivial⟩).conv (fun _ _ h=>h) fun y v hd=>P9 rfl hd

/-! Pairs outside. -/
def F6h (x:F2):U6×U6:=(C7 x.1,C7 x.2)

section
variable {r:Nat} [NeZero r]
end
end

section

def C0m:B7
 | [.v (.a [.ob (.fp a),.ob (.fp b),.ob (.fp c),.ob (.fp d),.bool i])]=>some ([],.v (.a (L9 (A3x ⟨a,b,c,d,i⟩))),[])
 | _=>none
def qzA:Env:=qyD.set (E1 qyD.fn 43 C0m)
theorem H3a:A8 Tryz.prog qzA:=B0 A4x 43 C0m (A5 Tryz.func43 rfl rfl) fun args o r es h _=>by
 unfold C0m at h;split at h
 ·cases h;exact F2x _ _ _ _ _
 ·cases h
def B5f:B7
 | [.v (.a [.ob (.p a),.ob (.p b),.ob (.p c),.ob (.p d),.ob (.p e),.ob (.p f)])]=>some ([],.v (.a (A8j ((a,b),(c,d),(e,f))).its),[])
 | _=>none
def qzB:Env:=qzA.set (E1 qzA.fn 42 B5f)
theorem H3b:A8 Tryz.prog qzB:=B0 H3a 42 B5f (A5 Tryz.func42 rfl rfl) fun args o r es h _=>by
 unfold B5f at h;split at h
 ·cases h;exact E7i _ _ _ _ _ _
 ·cases h
def C1u:B7
 | [.v (.a [.ob (.fp a),.ob (.fp b),.ob (.fp c),.ob (.fp d),.bool i])]=>some ([],.v (.c (.bool (I6 ⟨a,b,c,d,i⟩))),[])
 | _=>none
def qzH:Env:=qzB.set (E1 qzB.fn 58 C1u)
theorem D9x:A8 Tryz.prog qzH:=B0 H3b 58 C1u (A5 Tryz.func58 rfl rfl) fun args o r es h _=>by
 unfold C1u at h;split at h
 ·cases h;exact F5z _ _ _ _ _
 ·cases h
theorem I2s (a b c d:U6) (i:Bool):B9 qzH Tryz.f22 3000 [.v (.a [.ob (.fp a),.ob (.fp b),.ob (.fp c),.ob (.fp d),.bool i])] [] [] []=(some ([],((.ci (.bool (I6 (G2D.mk a b c d i)))),[]))):=by kernel_rfl
theorem I0p  : B9 qzH Tryz.f16 3000 [] [] [] []=(some ([(0<=(15312334153293348280:Int)),((15312334153293348280:Int)<(18446744073709551616:Int)),(0<=(841050694974028783:Int)),((841050694974028783:Int)<(18446744073709551616:Int)),(0<=(12993178926126977399:Int)),((12993178926126977399:Int)<(18446744073709551616:Int)),(0<=(14331714969349929730:Int)),((14331714969349929730:Int)<(18446744073709551616:Int)),(0<=(2740446039084699729:Int)),((2740446039084699729:Int)<(18446744073709551616:Int)),(0<=(165123225776229009:Int)),((165123225776229009:Int)<(18446744073709551616:Int)),(0<=(16549740192668593022:Int)),((16549740192668593022:Int)<(18446744073709551616:Int)),(0<=(3696594454104530263:Int)),((3696594454104530263:Int)<(18446744073709551616:Int)),(0<=(13103893525273989193:Int)),((13103893525273989193:Int)<(18446744073709551616:Int)),(0<=(6443473286224459290:Int)),((6443473286224459290:Int)<(18446744073709551616:Int)),(0<=(9055845637167730533:Int)),((9055845637167730533:Int)<(18446744073709551616:Int)),(0<=(1432192374203850592:Int)),((1432192374203850592:Int)<(18446744073709551616:Int)),(0<=(16254428414758889473:Int)),((16254428414758889473:Int)<(18446744073709551616:Int)),(0<=(10536956157198377609:Int)),((10536956157198377609:Int)<(18446744073709551616:Int)),(0<=(7873024875724591404:Int)),((7873024875724591404:Int)<(18446744073709551616:Int)),(0<=(12537348094477325223:Int)),((12537348094477325223:Int)<(18446744073709551616:Int)),(0<=(10144865889576432922:Int)),((10144865889576432922:Int)<(18446744073709551616:Int)),(0<=(929383263523139089:Int)),((929383263523139089:Int)<(18446744073709551616:Int)),(0<=(12297368366147926462:Int)),((12297368366147926462:Int)<(18446744073709551616:Int)),(0<=(4555124010822409633:Int)),((4555124010822409633:Int)<(18446744073709551616:Int)),(0<=(2771000935339432363:Int)),((2771000935339432363:Int)<(18446744073709551616:Int)),(0<=(14645187562128761775:Int)),((14645187562128761775:Int)<(18446744073709551616:Int)),(0<=(3651525051980876697:Int)),((3651525051980876697:Int)<(18446744073709551616:Int)),(0<=(434250606344352972:Int)),((434250606344352972:Int)<(18446744073709551616:Int))],((.v (.a [(.ob (.fp (Fin.ofNat B6 352701069587466618187139116011060144890029952792775240219908644239793785735715026873347600343865175952761926303160))),(.ob (.fp (Fin.ofNat B6 3059144344244213709971259814753781636986470325476647558659373206291635324768958432433509563104347017837885763365758))),(.ob (.fp (Fin.ofNat B6 1985150602287291935568054521177171638300868978215655730859378665066344726373823718423869104263333984641494340347905))),(.ob (.fp (Fin.ofNat B6 927553665492332455747201965776037880757740193453592970025027978793976877002675564980949289727957565575433344219582))),(.lit false)])),[]))):=by kernel_rfl
end

section

def P4:G2D:=⟨Fin.ofNat B6 352701069587466618187139116011060144890029952792775240219908644239793785735715026873347600343865175952761926303160,Fin.ofNat B6 3059144344244213709971259814753781636986470325476647558659373206291635324768958432433509563104347017837885763365758,Fin.ofNat B6 1985150602287291935568054521177171638300868978215655730859378665066344726373823718423869104263333984641494340347905,Fin.ofNat B6 927553665492332455747201965776037880757740193453592970025027978793976877002675564980949289727957565575433344219582,false⟩

theorem F2h:FnD Tryz.prog 16 [] (.v (.a P4.its)) []:=
 (A6 D9x Tryz.func16 I0p (by simp [A9])).conv (fun _ _ h=>h) fun y v hd=>A7s hd
end

section

def B0f:B7
 | [.v (.a [.ob (.fp a),.ob (.fp b),.ob (.fp c),.ob (.fp d),.bool i])]=>some ([],.v (.c (.bool (I6 ⟨a,b,c,d,i⟩))),[])
 | _=>none
def rtA:Env:=qzH.set (E1 qzH.fn 22 B0f)
theorem H3m:A8 Tryz.prog rtA:=B0 D9x 22 B0f (A5 Tryz.func22 rfl rfl) fun args o r es h _=>by
 unfold B0f at h;split at h
 ·cases h;exact A6 D9x Tryz.func22 (I2s _ _ _ _ _) trivial
 ·cases h
def C0d:B7
 | []=>some ([],.v (.a P4.its),[])
 | _=>none
def rtC:Env:=rtA.set (E1 rtA.fn 16 C0d)
theorem H3n:A8 Tryz.prog rtC:=B0 H3m 16 C0d (A5 Tryz.func16 rfl rfl) fun args o r es h _=>by
 unfold C0d at h;split at h
 ·cases h;exact F2h
 ·cases h
def rtG:Env:=rtC
theorem H3o:A8 Tryz.prog rtG:=H3n
end

section

theorem H1b:(-1:Fp)=Fin.ofNat pN (pN-1):=by decide +kernel
theorem F5k:(Fin.ofNat pN (pN-1)).val=pN-1:=by decide +kernel
theorem D3j:pN-1=(pN-1) / 2+(pN-1) / 2:=by decide +kernel
theorem F5j:A4c pN (pN-1) 384 ((pN-1) / 2)≠1:=by decide +kernel
theorem E2z:(pN-1) / 2<2 ^ 384:=by decide +kernel
theorem G3w:(0:Fp)*0 ≠ -1:=by decide +kernel
theorem G4b (t:Fp):t*t ≠ -1:=by
 intro h;by_cases ht:t=0
 ·rw[ht] at h
  exact G3w h
 ·have e:=E0u t ((pN-1) / 2)
  rw[<-D3j,A5w t ht,h,H1b] at e;have:=congrArg Fin.val e
  rw[X5 _ 384 _ E2z,F5k,A4d] at this;exact F5j this

theorem D4y:(1:F2)≠0:=by decide +kernel
theorem D6l:(1:F2)+1≠0:=by decide +kernel
theorem H1g:nQ2 ((0:F2)-fq4)=Fin.ofNat pN 32:=by decide +kernel
theorem G8c:(Fin.ofNat pN 32).val=32:=by decide +kernel
theorem H9a:A4c pN 32 384 ((pN-1) / 3)≠1:=by decide +kernel

theorem D4n {a b:F2} (h:a+b=0):a=0-b:=neg_of_sumR h
where neg_of_sumR {r:Nat} [NeZero r] {a b:Q2 r} (h:a+b=0):a=0-b:=by grind

theorem H8t (x:F2):x*x*x+fq4≠0:=by
 intro h;have h:=congrArg nQ2 (D4n h);rw[H1g,B2p,B2p] at h;refine C7l _ (fun e=>?_) (fun e=>?_) (nQ2 x) h
 ·have:=congrArg Fin.val e
  rw[X5 _ 384 _ C3c,G8c,A4d] at this;exact H9a this
 ·have:=congrArg Fin.val e
  rw[G8c] at this;revert this
  decide +kernel

instance fldQ:Fld F2:=
  { (ringQ2:J9 (Q2 pN)) with
    inv:=A9f ivP
    mul_inv:=F3i ivP C8o (F5g ivP C8o G4b)
    one_ne:=D4y }

theorem cv2:Cv fq4:=⟨D6l,H8t⟩

/-- A point outside, as a point; and back. -/
def pG2 (a:G2D):Pt F2:=if a.inf then none else some (G2 a.xa a.xb,G2 a.ya a.yb)
def gP2:Pt F2->G2D
 | none=>⟨0,0,0,0,true⟩
 | some p=>⟨C7 p.1.1,C7 p.1.2,C7 p.2.1,C7 p.2.2,false⟩

theorem A0e (x:F2):G2 (C7 x.1) (C7 x.2)=x:=by
 unfold G2;rw[A3i,A3i]

theorem D0a:∀P:Pt F2,pG2 (gP2 P)=P
 | none=>rfl
 | some p=>by
  show some (G2 (C7 p.1.1) (C7 p.1.2),G2 (C7 p.2.1) (C7 p.2.2))=some p;rw[A0e,A0e]

theorem A0h {a:G2D} (h:I6 a=true):gP2 (pG2 a)=a∧OnC fq4 (pG2 a):=by
 obtain ⟨xa,xb,ya,yb,i⟩:=a
 cases i with
 | true=>
  have h:(decide (xa=0) && (decide (xb=0) && (decide (ya=0) && decide (yb=0))))=true:=h;simp only[Bool.and_eq_true,decide_eq_true_eq] at h;obtain ⟨rfl,rfl,rfl,rfl⟩:=h;exact ⟨rfl,True.intro⟩
 | false=>
  have h:((decide (C7 (inP xa)=xa) && decide (C7 (inP xb)=xb)) && ((decide (C7 (inP ya)=ya) && decide (C7 (inP yb)=yb)) && decide (G2 ya yb*G2 ya yb=G2 xa xb*G2 xa xb*G2 xa xb+fq4)))=true:=h;simp only[Bool.and_eq_true,decide_eq_true_eq] at h;obtain ⟨⟨h1,h2⟩,⟨h3,h4⟩,h5⟩:=h;refine ⟨?_,h5⟩
  show (⟨C7 (inP xa),C7 (inP xb),C7 (inP ya),C7 (inP yb),false⟩:G2D)=⟨xa,xb,ya,yb,false⟩;rw[h1,h2,h3,h4]

theorem B7p:∀{P:Pt F2},OnC fq4 P->I6 (gP2 P)=true
 | none,_=>by
  show (decide ((0:U6)=0) && (decide ((0:U6)=0) && (decide ((0:U6)=0) && decide ((0:U6)=0))))=true;rw[decide_eq_true rfl];rfl
 | some p,h=>by
  have h:p.2*p.2=p.1*p.1*p.1+fq4:=h;show ((decide (C7 (inP (C7 p.1.1))=C7 p.1.1) && decide (C7 (inP (C7 p.1.2))=C7 p.1.2)) && ((decide (C7 (inP (C7 p.2.1))=C7 p.2.1) && decide (C7 (inP (C7 p.2.2))=C7 p.2.2)) && decide (G2 (C7 p.2.1) (C7 p.2.2)*G2 (C7 p.2.1) (C7 p.2.2)=G2 (C7 p.1.1) (C7 p.1.2)*G2 (C7 p.1.1) (C7 p.1.2)*G2 (C7 p.1.1) (C7 p.1.2)+fq4)))=true;rw[A0e,A0e,A3i,A3i,A3i,A3i,decide_eq_true rfl,decide_eq_true rfl,decide_eq_true rfl,decide_eq_true rfl,decide_eq_true h];rfl

theorem C9v:(1:F2)*1=1:=by decide +kernel
theorem E2p:((fp1,0):F2)=1:=by decide +kernel
theorem E6z {r:Nat} [NeZero r] (x:Q2 r):x*1=x:=by grind
theorem D4h (x:F2):x*1=x:=E6z x
theorem B1v (a:G2D):Jc (pG2 a) (A3x a):=by
 obtain ⟨xa,xb,ya,yb,i⟩:=a
 cases i with
 | true=>exact (rfl:(0:F2)=0)
 | false=>
  show Jc (some (G2 xa xb,G2 ya yb)) (G2 xa xb,G2 ya yb,(fp1,0));rw[E2p];refine ⟨D4y,?_,?_⟩
  ·show G2 xa xb=G2 xa xb*(1*1)
   rw[C9v,D4h]
  ·show G2 ya yb=G2 ya yb*(1*1*1)
   rw[C9v,C9v,D4h]

theorem C1y {P:Pt F2} {t:F2×F2×F2} (h:Jc P t):A8j t=gP2 P:=by
 rw[<-C8q P t h];unfold A8j jpt;by_cases hz:t.2.2=0
 ·rw[if_pos hz,if_pos hz];rfl
 ·rw[if_neg hz,if_neg hz];rfl

theorem D1q (a b:G2D):C4f a b=gP2 (D9 (pG2 a) (pG2 b)):=C1y (B4k D6l _ _ _ _ (B1v a) (B1v b))
theorem D4j (a:G2D):C5r a=gP2 (P5 (pG2 a)):=C1y (F3k _ _ (B1v a))
theorem G4n (a b:G2D):pG2 (C4f a b)=D9 (pG2 a) (pG2 b):=by rw[D1q,D0a]
theorem G4s (a:G2D):pG2 (C5r a)=P5 (pG2 a):=by rw[D4j,D0a]
theorem E3y {a b:G2D} (ha:I6 a=true) (hb:I6 b=true):I6 (C4f a b)=true:=by
 rw[D1q];exact B7p (M8 cv2 _ _ (A0h ha).2 (A0h hb).2)
theorem E4a {a:G2D} (ha:I6 a=true):I6 (C5r a)=true:=by
 rw[D4j];exact B7p (A0c _ (A0h ha).2)
end

section

def rtL:Env:=rtG
theorem H3p:A8 Tryz.prog rtL:=H3o
def rtM:Env:=rtL
theorem A2k:A8 Tryz.prog rtM:=H3p
end

section
section
variable {w0:World} {F0:Nat->Prop} {K:Kp} {ac:List Act} {Q:Exit->Act->World->Prop} {cX:Ctx} {aX:Act}

def D9e:List KI:=(run rtM false 3000 ((fun (a b c d e f:Fp) (k:U4)=>(⟨[.code (C5 Tryz.f44)],.normal,F9 Tryz.f44.ntmps [.v (.a [.ob (.p a),.ob (.p b),.ob (.p c),.ob (.p d),.ob (.p e),.ob (.p f)]),.v (.a [.ob (.fr k)])]⟩:Cfg)) default default default default default default default) []).cfg.k
theorem ny (a b c d e f:Fp) (k:U4):let g:Fp:=0;A9 [(0<=(0:Int)),(0<(16:Int))]->Sg Tryz.prog (F9 Tryz.f44.ntmps [.v (.a [.ob (.p a),.ob (.p b),.ob (.p c),.ob (.p d),.ob (.p e),.ob (.p f)]),.v (.a [.ob (.fr k)])]) (B2 43 [2,3,4,5,6] [.pt 16 0,.pt 32 0,.pt 48 0,.pt 64 0,.ii (1:Int)] [16,32,48,64] [(eF_ [.ob (.p a),.ob (.p b),.ob (.p c),.ob (.p d),.ob (.p e),.ob (.p f)]),(eF_ [.ob (.fr k)]),(eF_ [(.ob (.p g)),(.ob (.p g)),(.ob (.p g)),(.ob (.p g)),(.ob (.p g)),(.ob (.p g))]),(eF_ [.ob (.p a),.ob (.p b),.ob (.p c),.ob (.p d),(.ob (.p g)),(.ob (.p g)),(.ob (.p g)),(.ob (.p g)),(.ob (.p g)),(.ob (.p g)),(.ob (.p g)),(.ob (.p g)),(.ob (.p g)),(.ob (.p g)),(.ob (.p g)),(.ob (.p g)),(.ob (.p g)),(.ob (.p g)),(.ob (.p g)),(.ob (.p g)),(.ob (.p g)),(.ob (.p g)),(.ob (.p g)),(.ob (.p g)),(.ob (.p g)),(.ob (.p g)),(.ob (.p g)),(.ob (.p g)),(.ob (.p g)),(.ob (.p g)),(.ob (.p g)),(.ob (.p g)),(.ob (.p g)),(.ob (.p g)),(.ob (.p g)),(.ob (.p g)),(.ob (.p g)),(.ob (.p g)),(.ob (.p g)),(.ob (.p g)),(.ob (.p g)),(.ob (.p g)),(.ob (.p g)),(.ob (.p g)),(.ob (.p g)),(.ob (.p g)),(.ob (.p g)),(.ob (.p g)),(.ob (.p g)),(.ob (.p g)),(.ob (.p g)),(.ob (.p g)),(.ob (.p g)),(.ob (.p g)),(.ob (.p g)),(.ob (.p g)),(.ob (.p g)),(.ob (.p g)),(.ob (.p g)),(.ob (.p g)),(.ob (.p g)),(.ob (.p g)),(.ob (.p g)),(.ob (.p g)),(.ob (.p g)),(.ob (.p g)),(.ob (.p g)),(.ob (.p g)),(.ob (.p g)),(.ob (.p g)),(.ob (.p g)),(.ob (.p g)),(.ob (.p g)),(.ob (.p g)),(.ob (.p g)),(.ob (.p g)),(.ob (.p g)),(.ob (.p g)),(.ob (.p g)),(.ob (.p g)),(.ob (.p g)),(.ob (.p g)),(.ob (.p g)),(.ob (.p g)),(.ob (.p g)),(.ob (.p g)),(.ob (.p g)),(.ob (.p g)),(.ob (.p g)),(.ob (.p g)),(.ob (.p g)),(.ob (.p g)),(.ob (.p g)),(.ob (.p g)),(.ob (.p g)),(.ob (.p g))])] 208 [] []) .normal (D9e) ([.code (C5 Tryz.f44)]):=fun ho=>fun hs hK=>
 B1 (unroll:=false) (n:=3000) (path:=[]) (o:=⟨_,_,_,_,_,_,_⟩) A2k (by kernel_rfl) (by kernel_rfl) ho hs hK
def nyS (a b c d e f:Fp) (k:U4) (L:List (F2×F2×F2)) (i:Int):St:=B2 43 [2,3,4,5,6] [.pt 16 0,.pt 32 0,.pt 48 0,.pt 64 0,.v (.c (.int .i64 i))] [16,32,48,64] [(eF_ [.ob (.p a),.ob (.p b),.ob (.p c),.ob (.p d),.ob (.p e),.ob (.p f)]),(eF_ [.ob (.fr k)]),(eF_ [(.ob (.p (0:Fp))),(.ob (.p (0:Fp))),(.ob (.p (0:Fp))),(.ob (.p (0:Fp))),(.ob (.p (0:Fp))),(.ob (.p (0:Fp)))]),some (.sq (.pt2 L))] 208 [] []
theorem nyA (a b c d e f:Fp) (k:U4) (L:List (F2×F2×F2)) (i:Int):let g:=wrap .i64 (i-1);let h:Fp:=0;let j:Int:=16;A9 [((decide (i<j))=true),(0<=g),(g<j),(0=0),((g).toNat<L.length),(0<=i),(i<j),(0=0),((i).toNat<L.length)]->Sg Tryz.prog (nyS a b c d e f k L i) (B2 43 [2,3,4,5,6] [.pt 16 0,.pt 32 0,.pt 48 0,.pt 64 0,(.ii (wrap .i64 (i+1)))] [16,32,48,64] [(eF_ [.ob (.p a),.ob (.p b),.ob (.p c),.ob (.p d),.ob (.p e),.ob (.p f)]),(eF_ [.ob (.fr k)]),(eF_ [(.ob (.p h)),(.ob (.p h)),(.ob (.p h)),(.ob (.p h)),(.ob (.p h)),(.ob (.p h))]),(eQ_ (Sq.pt2 (List.set L (i).toNat (jpl (List.getD L (g).toNat A4v) ((a,b),((c,d),(e,f)))))))] 432 [] []) .normal (S5 D9e) (G6 D9e):=fun ho=>fun hs hK=>
 B1 (unroll:=false) (n:=3000) (path:=[true]) (o:=⟨_,_,_,_,_,_,_⟩) A2k (by kernel_rfl) (by kernel_rfl) ho hs hK
def B2r:List KI:=(run rtM false 3000 ((fun (a b c d e f:Fp) (k:U4) (L:List (F2×F2×F2)) (i:Int)=>(⟨G6 D9e,.normal,nyS a b c d e f k L i⟩:Cfg)) default default default default default default default default default) [false]).cfg.k
theorem nyB (a b c d e f:Fp) (k:U4) (L:List (F2×F2×F2)) (i:Int):let g:=List.getD L 0 A4v;let h:=Prod.snd g;let j:Fp:=0;A9 [((decide (i<(16:Int)))=false),(0<=(0:Int)),(0<(16:Int)),(0=0),(0<L.length)]->Sg Tryz.prog (nyS a b c d e f k L i) (B2 43 [4,5,7,30] [.pt 48 0,.pt 64 0,.pt 272 0,(.ci (.clo 121 [(320,0)]))] [48,64,272,320] [(eF_ [(.ob (.p j)),(.ob (.p j)),(.ob (.p j)),(.ob (.p j)),(.ob (.p j)),(.ob (.p j))]),(eQ_ (Sq.pt2 L)),(eF_ [(.ob (.p (Prod.fst (Prod.fst g)))),(.ob (.p (Prod.snd (Prod.fst g)))),(.ob (.p (Prod.fst (Prod.fst h)))),(.ob (.p (Prod.snd (Prod.fst h)))),(.ob (.p (Prod.fst (Prod.snd h)))),(.ob (.p (Prod.snd (Prod.snd h))))]),(eF_ [.ob (.fr k)])] 384 [] []) .normal (B2r) (G6 D9e):=fun ho=>fun hs hK=>
 B1 (unroll:=false) (n:=3000) (path:=[false]) (o:=⟨_,_,_,_,_,_,_⟩) A2k (by kernel_rfl) (by kernel_rfl) ho hs hK
def nyR (k:U4) (L:List (F2×F2×F2)) (o:F2×F2×F2):St:=B2 43 [4,5,7,30] [.pt 48 0,.pt 64 0,.pt 272 0,(.ci (.clo 121 [(320,0)]))] [48,64,272,320] [(eF_ [(.ob (.p (0:Fp))),(.ob (.p (0:Fp))),(.ob (.p (0:Fp))),(.ob (.p (0:Fp))),(.ob (.p (0:Fp))),(.ob (.p (0:Fp)))]),(eQ_ (Sq.pt2 L)),some (.fl [.ob (.p o.1.1),.ob (.p o.1.2),.ob (.p o.2.1.1),.ob (.p o.2.1.2),.ob (.p o.2.2.1),.ob (.p o.2.2.2)]),(eF_ [.ob (.fr k)])] 384 [] []
theorem nrA (k:U4) (L:List (F2×F2×F2)) (o:F2×F2×F2) (d:Int) {ρ:Option Nat}:let a:=Prod.snd o;let b:Fp:=0;(A9 [])->(Sim w0 F0 K ac (X6 (nyR k L o) [(31,.v (.c (.int .i64 d)))]) cX aX)->(∀cY aY,Sim w0 F0 K ac (B2 43 [4,5,7,8] [.pt 48 0,.pt 64 0,.pt 272 0,.ii d] [48,64,272,320] [(eF_ [(.ob (.p b)),(.ob (.p b)),(.ob (.p b)),(.ob (.p b)),(.ob (.p b)),(.ob (.p b))]),(eQ_ (Sq.pt2 L)),(eF_ [(.ob (.p (Prod.fst (Prod.fst o)))),(.ob (.p (Prod.snd (Prod.fst o)))),(.ob (.p (Prod.fst (Prod.fst a)))),(.ob (.p (Prod.snd (Prod.fst a)))),(.ob (.p (Prod.fst (Prod.snd a)))),(.ob (.p (Prod.snd (Prod.snd a))))]),(eF_ [.ob (.fr k)])] 400 [[4,5,7,30]] [([.pt 48 0,.pt 64 0,.pt 272 0,(.ci (.clo 121 [(320,0)]))],43)]) cY aY->Wq Tryz.prog Q ([]) ac Exit.normal aY cY.w ρ)->Wq Tryz.prog Q ([.code (rfA B2r)]) ac .normal aX cX.w ρ :=fun ho hs hK=>
 G4 (unroll:=false) (n:=3000) (path:=[]) (o:=⟨_,_,_,_,_,_,_⟩) A2k (by kernel_rfl) (by kernel_rfl) ho (by kernel_rfl) (by kernel_rfl) hs hK
def nrB (k:U4) (L:List (F2×F2×F2)) (o:F2×F2×F2) (d:Int):St:=B2 43 [4,5,7,8] [.pt 48 0,.pt 64 0,.pt 272 0,.ii d] [48,64,272,320] [(eF_ [(.ob (.p (0:Fp))),(.ob (.p (0:Fp))),(.ob (.p (0:Fp))),(.ob (.p (0:Fp))),(.ob (.p (0:Fp))),(.ob (.p (0:Fp)))]),(eQ_ (Sq.pt2 L)),some (.fl [.ob (.p o.1.1),.ob (.p o.1.2),.ob (.p o.2.1.1),.ob (.p o.2.1.2),.ob (.p o.2.2.1),.ob (.p o.2.2.2)]),(eF_ [.ob (.fr k)])] 400 [[4,5,7,30]] [([.pt 48 0,.pt 64 0,.pt 272 0,(.ci (.clo 121 [(320,0)]))],43)]
def C5s:List KI:=(run rtM false 3000 ((fun (k:U4) (L:List (F2×F2×F2)) (o:F2×F2×F2) (d:Int)=>(⟨[.code (rfB B2r)],.normal,nrB k L o d⟩:Cfg)) default default default default) []).cfg.k
theorem nrC (k:U4) (L:List (F2×F2×F2)) (o:F2×F2×F2) (d:Int) {ρ:Option Nat}:let a:=Prod.snd o;let b:Fp:=0;(A9 [])->(Sim w0 F0 K ac (nrB k L o d) cX aX)->(∀cY aY,Sim w0 F0 K ac (B2 43 [4,5,7,8,32] [.pt 48 0,.pt 64 0,.pt 272 0,.ii d,.ii (0:Int)] [48,64,272,320] [(eF_ [(.ob (.p b)),(.ob (.p b)),(.ob (.p b)),(.ob (.p b)),(.ob (.p b)),(.ob (.p b))]),(eQ_ (Sq.pt2 L)),(eF_ [(.ob (.p (Prod.fst (Prod.fst o)))),(.ob (.p (Prod.snd (Prod.fst o)))),(.ob (.p (Prod.fst (Prod.fst a)))),(.ob (.p (Prod.snd (Prod.fst a)))),(.ob (.p (Prod.fst (Prod.snd a)))),(.ob (.p (Prod.snd (Prod.snd a))))]),(eF_ [.ob (.fr k)])] 416 [[4,5,7,30]] [([.pt 48 0,.pt 64 0,.pt 272 0,(.ci (.clo 121 [(320,0)]))],43)]) cY aY->Wq Tryz.prog Q (C5s) ac Exit.normal aY cY.w ρ)->Wq Tryz.prog Q ([.code (rfB B2r)]) ac .normal aX cX.w ρ :=fun ho hs hK=>
 G4 (unroll:=false) (n:=3000) (path:=[]) (o:=⟨_,_,_,_,_,_,_⟩) A2k (by kernel_rfl) (by kernel_rfl) ho (by kernel_rfl) (by kernel_rfl) hs hK
def nrS (k:U4) (L:List (F2×F2×F2)) (o:F2×F2×F2) (d j:Int):St:=B2 43 [4,5,7,8,32] [.pt 48 0,.pt 64 0,.pt 272 0,.ii d,.v (.c (.int .i64 j))] [48,64,272,320] [(eF_ [(.ob (.p (0:Fp))),(.ob (.p (0:Fp))),(.ob (.p (0:Fp))),(.ob (.p (0:Fp))),(.ob (.p (0:Fp))),(.ob (.p (0:Fp)))]),(eQ_ (Sq.pt2 L)),some (.fl [.ob (.p o.1.1),.ob (.p o.1.2),.ob (.p o.2.1.1),.ob (.p o.2.1.2),.ob (.p o.2.2.1),.ob (.p o.2.2.2)]),(eF_ [.ob (.fr k)])] 416 [[4,5,7,30]] [([.pt 48 0,.pt 64 0,.pt 272 0,(.ci (.clo 121 [(320,0)]))],43)]
theorem nrD (k:U4) (L:List (F2×F2×F2)) (o:F2×F2×F2) (d j:Int) {ρ:Option Nat}:let a:=Prod.snd (jtw o);let b:Fp:=0;let c:=Prod.fst (jtw o);(A9 [((decide (j<(4:Int)))=true)])->(Sim w0 F0 K ac (nrS k L o d j) cX aX)->(∀cY aY,Sim w0 F0 K ac (B2 43 [4,5,7,8,32] [.pt 48 0,.pt 64 0,.pt 272 0,.ii d,(.ii (wrap .i64 (j+1)))] [48,64,272,320] [(eF_ [(.ob (.p b)),(.ob (.p b)),(.ob (.p b)),(.ob (.p b)),(.ob (.p b)),(.ob (.p b))]),(eQ_ (Sq.pt2 L)),(eF_ [(.ob (.p (Prod.fst c))),(.ob (.p (Prod.snd c))),(.ob (.p (Prod.fst (Prod.fst a)))),(.ob (.p (Prod.snd (Prod.fst a)))),(.ob (.p (Prod.fst (Prod.snd a)))),(.ob (.p (Prod.snd (Prod.snd a))))]),(eF_ [.ob (.fr k)])] 512 [[4,5,7,30]] [([.pt 48 0,.pt 64 0,.pt 272 0,(.ci (.clo 121 [(320,0)]))],43)]) cY aY->Wq Tryz.prog Q (S5 C5s) ac Exit.normal aY cY.w ρ)->Wq Tryz.prog Q (G6 C5s) ac .normal aX cX.w ρ :=fun ho hs hK=>
 G4 (unroll:=false) (n:=3000) (path:=[true]) (o:=⟨_,_,_,_,_,_,_⟩) A2k (by kernel_rfl) (by kernel_rfl) ho (by kernel_rfl) (by kernel_rfl) hs hK
theorem nrE (k:U4) (L:List (F2×F2×F2)) (o:F2×F2×F2) (d j:Int) {ρ:Option Nat}:let a:=jpl o (List.getD L (d).toNat A4v);let b:=Prod.snd a;let c:Fp:=0;(A9 [((decide (j<(4:Int)))=false),(0<=d),(d<(16:Int)),(0=0),((d).toNat<L.length)])->(Sim w0 F0 K ac (nrS k L o d j) cX aX)->(∀cY aY,Sim w0 F0 K ac (B2 43 [4] [.pt 48 0] [48,64,272,320] [(eF_ [(.ob (.p c)),(.ob (.p c)),(.ob (.p c)),(.ob (.p c)),(.ob (.p c)),(.ob (.p c))]),(eQ_ (Sq.pt2 L)),(eF_ [(.ob (.p (Prod.fst (Prod.fst a)))),(.ob (.p (Prod.snd (Prod.fst a)))),(.ob (.p (Prod.fst (Prod.fst b)))),(.ob (.p (Prod.snd (Prod.fst b)))),(.ob (.p (Prod.fst (Prod.snd b)))),(.ob (.p (Prod.snd (Prod.snd b))))]),(eF_ [.ob (.fr k)])] 528 [[4,5,7,30]] [([.pt 48 0,.pt 64 0,.pt 272 0,(.ci (.clo 121 [(320,0)]))],43)]) cY aY->Wq Tryz.prog Q ([]) ac Exit.normal aY cY.w ρ)->Wq Tryz.prog Q (G6 C5s) ac .normal aX cX.w ρ :=fun ho hs hK=>
 G4 (unroll:=false) (n:=3000) (path:=[false]) (o:=⟨_,_,_,_,_,_,_⟩) A2k (by kernel_rfl) (by kernel_rfl) ho (by kernel_rfl) (by kernel_rfl) hs hK
def nrF (k:U4) (L:List (F2×F2×F2)) (o:F2×F2×F2):St:=B2 43 [4] [.pt 48 0] [48,64,272,320] [(eF_ [(.ob (.p (0:Fp))),(.ob (.p (0:Fp))),(.ob (.p (0:Fp))),(.ob (.p (0:Fp))),(.ob (.p (0:Fp))),(.ob (.p (0:Fp)))]),(eQ_ (Sq.pt2 L)),some (.fl [.ob (.p o.1.1),.ob (.p o.1.2),.ob (.p o.2.1.1),.ob (.p o.2.1.2),.ob (.p o.2.2.1),.ob (.p o.2.2.2)]),(eF_ [.ob (.fr k)])] 528 [[4,5,7,30]] [([.pt 48 0,.pt 64 0,.pt 272 0,(.ci (.clo 121 [(320,0)]))],43)]
theorem nrX (k:U4) (L:List (F2×F2×F2)) (o:F2×F2×F2):let a:=Prod.snd o;A9 []->Sg Tryz.prog (nyR k L o) (B2 43 [4] [.pt 48 0] [48] [(eF_ [(.ob (.p (Prod.fst (Prod.fst o)))),(.ob (.p (Prod.snd (Prod.fst o)))),(.ob (.p (Prod.fst (Prod.fst a)))),(.ob (.p (Prod.snd (Prod.fst a)))),(.ob (.p (Prod.fst (Prod.snd a)))),(.ob (.p (Prod.snd (Prod.snd a))))])] 416 [] []) .ret ([]) (rfR B2r):=fun ho=>fun hs hK=>
 B1 (unroll:=false) (n:=3000) (path:=[]) (o:=⟨_,_,_,_,_,_,_⟩) A2k (by kernel_rfl) (by kernel_rfl) ho hs hK
def nrZ (o:F2×F2×F2):St:=B2 43 [4] [.pt 48 0] [48] [some (.fl [.ob (.p o.1.1),.ob (.p o.1.2),.ob (.p o.2.1.1),.ob (.p o.2.1.2),.ob (.p o.2.2.1),.ob (.p o.2.2.2)])] 416 [] []
theorem G4e (o:F2×F2×F2):let b:=Prod.snd o;J7 rtM Tryz.f44 false 3000 (⟨[],.ret,nrZ o⟩) [] [] []=(some ([],((.v (.a [(.ob (.p (Prod.fst (Prod.fst o)))),(.ob (.p (Prod.snd (Prod.fst o)))),(.ob (.p (Prod.fst (Prod.fst b)))),(.ob (.p (Prod.snd (Prod.fst b)))),(.ob (.p (Prod.fst (Prod.snd b)))),(.ob (.p (Prod.snd (Prod.snd b))))])),[]))):=by intros;kernel_rfl
end
end

section

/-- Sixteen points of the second curve, one behind the other. -/
def C8a (l:List (F2×F2×F2)):Nat->Nat->List It
 | _,0=>[]
 | i,n+1=>.ob (.p (l.getD i A4v).1.1) :: .ob (.p (l.getD i A4v).1.2) :: .ob (.p (l.getD i A4v).2.1.1) :: .ob (.p (l.getD i A4v).2.1.2) :: .ob (.p (l.getD i A4v).2.2.1) :: .ob (.p (l.getD i A4v).2.2.2)::C8a l (i+1) n

theorem C4p {x:Ctx} (L:List (F2×F2×F2)):∀(n i:Nat) (cs:List Value),C4 x.D (C8a L i n) cs->cs.length=n*36∧∀j,j<n->∃c,C4 x.D (L9 (L.getD (i+j) A4v)) c∧∀(q:Nat) (v:Value),c[q]? = some v->cs[j*36+q]? = some v
 | 0,i,cs,h=>by
  have h:cs=[]:=h;subst h;exact ⟨rfl,fun j hj=>absurd hj (Nat.not_lt_zero _)⟩
 | n+1,i,cs,h=>by
  obtain ⟨c1,r1,e1,h1,c2,r2,e2,h2,c3,r3,e3,h3,c4,r4,e4,h4,c5,r5,e5,h5,c6,r6,e6,h6,h7⟩:=h;obtain ⟨hl,hj⟩:=C4p L n (i+1) r6 h7;have l1:c1.length=6:=A2r h1;have l2:c2.length=6:=A2r h2;have l3:c3.length=6:=A2r h3;have l4:c4.length=6:=A2r h4;have l5:c5.length=6:=A2r h5;have l6:c6.length=6:=A2r h6;subst e1 e2 e3 e4 e5 e6;refine ⟨by simp only[List.length_append];omega,fun j hjn=>?_⟩
  have e:c1++(c2++(c3++(c4++(c5++(c6++r6)))))=(c1++(c2++(c3++(c4++(c5++c6)))))++r6:=by simp
  have hl36:(c1++(c2++(c3++(c4++(c5++c6))))).length=36:=by simp only[List.length_append];omega
  cases j with
  | zero=>
   refine ⟨c1++(c2++(c3++(c4++(c5++(c6++[]))))),⟨c1,_,rfl,h1,c2,_,rfl,h2,c3,_,rfl,h3,c4,_,rfl,h4,c5,_,rfl,h5,c6,_,rfl,h6,rfl⟩,fun q v hq=>?_⟩
   rw[List.append_nil] at hq;have hlt:q<(c1++(c2++(c3++(c4++(c5++c6))))).length:=by
    rcases Nat.lt_or_ge q (c1++(c2++(c3++(c4++(c5++c6))))).length with h | h
    ·exact h
    ·rw[List.getElem?_eq_none h] at hq;cases hq
   rw[Nat.zero_mul,Nat.zero_add,<-hq,e,List.getElem?_append_left hlt]
  | succ j=>
   obtain ⟨c,hc,hv⟩:=hj j (by omega)
   rw[show i+1+j=i+(j+1) from by omega] at hc
   refine ⟨c,hc,fun q v hq=>?_⟩
   rw[e,List.getElem?_append_right (by rw[hl36];omega),hl36,show (j+1)*36+q-36=j*36+q from by omega]
   exact hv q v hq

theorem E8k {x:Ctx} (L:List (F2×F2×F2)) (h:L.length=16) (cs:List Value) (hc:D4 x (.fl (C8a L 0 16)) cs):D4 x (.sq (.pt2 L)) cs:=by
 obtain ⟨hl,hj⟩:=C4p L 16 0 cs hc;refine ⟨?_,fun i hi=>?_⟩
 ·show L.length*36<=cs.length
  rw[h,hl];exact Nat.le_refl _
 ·have hi:i<L.length:=hi
  rw[h] at hi;obtain ⟨c,h1,h2⟩:=hj i hi;rw[Nat.zero_add] at h1;exact ⟨c,h1,h2⟩

def G7y (x y:F2):List (F2×F2×F2):=(x,y,0)::List.replicate 15 A4v

theorem E6t (a b c d e f:Fp) (k:U4):FnD Tryz.prog 44 [.v (.a [.ob (.p a),.ob (.p b),.ob (.p c),.ob (.p d),.ob (.p e),.ob (.p f)]),.v (.a [.ob (.fr k)])] (.v (.a (L9 (jmn (F:=F2) ((a,b),(c,d),(e,f)) (dgT k.val 64))))) []:=by
 generalize hpa:(((a,b),(c,d),(e,f)):F2×F2×F2)=pa;refine T9 (fn:=Tryz.f44) (c:=C5 Tryz.f44) Tryz.func44 rfl rfl fun x0 a0 hk hF hs=>?_
 refine ny a b c d e f k ⟨by decide,by decide,trivial⟩ hs fun ac cY aY hs1=>?_
 have hs2:=hs1.blocks (ens' := [some (.fl [.ob (.p a),.ob (.p b),.ob (.p c),.ob (.p d),.ob (.p e),.ob (.p f)]),some (.fl [.ob (.fr k)]),some (.fl [.ob (.p 0),.ob (.p 0),.ob (.p 0),.ob (.p 0),.ob (.p 0),.ob (.p 0)]),some (.sq (.pt2 (G7y (a,b) (c,d))))])
  ⟨.inl rfl,.inl rfl,.inl rfl,.inr ⟨_,_,_,rfl,rfl,rfl,fun cs h=>E8k _ rfl cs h⟩,trivial⟩
 refine I3 (ι:={ p:Nat×List (F2×F2×F2) // 1<=p.1∧p.1<=16∧p.2.length=16∧∀j,j<p.1->p.2.getD j A4v=V9 pa j }) (fun p=>nyS a b c d e f k p.1.2 (p.1.1:Int)) (fun p=>16-p.1.1) (c:=lpC D9e) (k:=lpR D9e) (by kernel_rfl) (fun p ih ac cY aY hs=>?_)
  ⟨(1,G7y (a,b) (c,d)),Nat.le_refl 1,by show (1:Nat)<=16;omega,rfl,fun j hj=>by
   have:j=0:=by have hj:j<1:=hj;omega
   subst this;rw[<-hpa];rfl⟩ (hs2.nx _)
 obtain ⟨⟨i,L⟩,h1,h16,hL,htab⟩:=p;simp only at ih hs h1 h16 hL htab
 by_cases hi:i<16
 ·have e1:wrap IntKind.i64 ((i:Int)-1)=((i-1:Nat):Int):=by rw[C9 (by omega) (by omega)];omega
  have e2:wrap IntKind.i64 ((i:Int)+1)=((i+1:Nat):Int):=by rw[C9 (by omega) (by omega)];omega
  refine nyA a b c d e f k L i ⟨decide_eq_true (by omega),by rw[e1];omega,by rw[e1];omega,rfl,by rw[e1,Int.toNat_natCast,hL];omega,by omega,by omega,rfl,by rw[Int.toNat_natCast,hL];exact hi,trivial⟩ hs fun ac cZ aZ hs3=>?_
  rw[e1,e2,Int.toNat_natCast,Int.toNat_natCast,htab (i-1) (by omega),hpa] at hs3
  have e3:jpl (V9 pa (i-1)) pa=V9 pa i:=by
   obtain ⟨m,rfl⟩:∃m,i=m+1:=⟨i-1,by omega⟩
   rfl
  rw[e3] at hs3;refine ih ⟨(i+1,L.set i (V9 pa i)),by show 1<=i+1;omega,hi,by show (L.set i _).length=16;rw[List.length_set];exact hL,fun j hj=>?_⟩ (by show 16-(i+1)<16-i;omega) ac cZ aZ (hs3.nx _)
  have hj:j<i+1:=hj;show (L.set i (V9 pa i)).getD j A4v=_;by_cases e:j=i
  ·subst e
   simp [List.getD,hL,hi]
  ·have:(L.set i (V9 pa i)).getD j A4v=L.getD j A4v:=by
    simp [List.getD,List.getElem?_set_ne (Ne.symm e)]
   rw[this];exact htab j (by omega)
 ·have:i=16:=by omega
  subst this;refine nyB a b c d e f k L _ ⟨by decide,by decide,by decide,rfl,by rw[hL];decide,trivial⟩ hs fun ac cZ aZ hs3=>?_
  rw[htab 0 (by decide)] at hs3
  obtain ⟨e1,e2⟩:=A2v (k:=B2r) (by kernel_rfl)
  rw[e1];have eP:(rfP B2r).toList=[31]:=by kernel_rfl
  have eG:rfG B2r = .tmp 30:=by kernel_rfl
  refine Z6 (ps:=rfP B2r) e2 hs3 (gf:=121) (caps:=[(320,0)]) (A5 Tryz.func121 rfl rfl) (fun pre=>nyR k L (pre.foldl (jst pa) (V9 pa 0))) (fun s=>by rw[eG];rfl) ⟨_,rfl⟩ (dgT k.val 64) F0t E1u
   (fun y z=>.cons ⟨rfl,0,rfl⟩ .nil) (fun z=>by rw[<-Array.length_toList,eP];rfl) (fun pre p hp=>?_) (B6g fun s=>rfl) (fun pre d=>nrB k L (pre.foldl (jst pa) (V9 pa 0)) d)
   (fun pre d=>nrF k L ((pre++[d]).foldl (jst pa) (V9 pa 0))) (fun pre d=>⟨_,rfl⟩) (fun pre d hd w1 F1 K1 as1 Q1 l y1 b hs4 hQ=>?_) (fun pre d hd w1 F1 K1 as1 Q1 l y1 b hs4 hQ=>?_) fun D y1 hs4 hD hFD hd=>?_
  ·rw[eP] at hp
   have h43:(nyR k L (pre.foldl (jst pa) (V9 pa 0))).nt=43:=rfl;rw[h43];simp only[List.mem_cons,List.not_mem_nil,or_false] at hp;subst hp;decide
  ·rw[eP] at hs4
   exact nrA k L _ d trivial hs4 fun cZ aZ hs5=>⟨hQ _ _ (hs5.nx _)⟩
  ·have hd16:d<16:=by
    obtain ⟨r,hr⟩:=hd;exact D7w (n:=k.val) 64 d (by rw[hr];simp)
   rw[List.foldl_append] at hQ;generalize pre.foldl (jst pa) (V9 pa 0)=o at hs4 hQ;have hst:List.foldl (jst pa) o [d]=jpl (A4p 4 o) (L.getD d A4v):=by
    rw[htab d hd16,List.foldl_cons,List.foldl_nil];exact G2w pa o d
   rw[hst] at hQ;refine nrC k L o d trivial hs4 fun cV aV hs5=>?_
   let I:{ j:Nat // j<=4 } -> List Act->Act->World->Prop:=fun j ac a w=>ac=as1∧∃z,z.w=w∧Sim w1 F1 K1 as1 (nrS k L (A4p j.1 o) d (j.1:Int)) z a
   refine A6d (ρ:=some l) I (fun j=>4-j.1) (c:=lpC C5s) (k:=lpR C5s) (by kernel_rfl) (fun j ih ac aV w hI=>?_) ⟨0,Nat.zero_le _⟩ ⟨rfl,cV,rfl,hs5.nx _⟩
   obtain ⟨j,hj⟩:=j;obtain ⟨rfl,cV,rfl,hs6⟩:=hI;simp only at ih hs6
   by_cases hj4:j<4
   ·have ej:jtw (A4p j o)=A4p (j+1) o:=(C5h j o).symm
    generalize A4p j o=o1 at hs6 ej;refine nrD k L _ d j ⟨decide_eq_true (by omega),trivial⟩ hs6 fun cU aU hs7=>?_
    rw[C9 (n:=(j:Int)+1) (by omega) (by omega),ej] at hs7
    exact ih ⟨j+1,hj4⟩ (by show 4-(j+1)<4-j;omega) _ aU _ ⟨rfl,cU,rfl,hs7.nx _⟩
   ·have:j=4:=by omega
    subst this;refine nrE k L _ d _ ⟨by decide,by omega,by omega,rfl,by rw[Int.toNat_natCast,hL];exact hd16,trivial⟩ hs6 fun cU aU hs7=>?_
    rw[Int.toNat_natCast] at hs7;generalize jpl (A4p 4 o) (L.getD d A4v)=q at hQ hs7;exact ⟨hQ _ _ (hs7.nx _)⟩
  ·have hs5:=hs4.marked rfl rfl D
   show Wq _ _ _ _ _ _ _ _;have ej:(dgT k.val 64).foldl (jst pa) (V9 pa 0)=jmn pa (dgT k.val 64):=rfl;rw[ej] at hs4 hs5;generalize jmn pa (dgT k.val 64)=o at hs4 hs5 ⊢
   refine nrX k L o trivial hs5 fun ac cV aV hs6=>⟨?_⟩
   have hs7:Sim y1.w y1.F (U1 y1 Y8 (H8 D)) ac (nrZ o) cV aV:=hs6;exact Y6 A2k hk hF (G4e o) trivial (fun y v hd=>hd) hs4 hD hFD hd rfl hs7

end

section

/-- A point outside as often as a number says. -/
def A1f (a:G2D) (k:U4):G2D:=A8j (jmn (A3x a) (dgT k.val 64))
theorem D4g {a:G2D} (ha:I6 a=true) (k:U4):A1f a k=gP2 (G7 (pG2 a) k.val):=by
 unfold A1f;generalize hl:dgT k.val 64=l;have h:=D8r cv2 (A0h ha).2 (B1v a) l;have e:dgV l=k.val:=by rw[<-hl];exact F0r k
 rw[e] at h;exact C1y h
theorem G4r {a:G2D} (ha:I6 a=true) (k:U4):pG2 (A1f a k)=G7 (pG2 a) k.val:=by rw[D4g ha,D0a]
theorem E3z {a:G2D} (ha:I6 a=true) (k:U4):I6 (A1f a k)=true:=by
 rw[D4g ha];exact B7p (W9 cv2 (A0h ha).2 _)


def A9j:B7
 | [.v (.a [.ob (.p a),.ob (.p b),.ob (.p c),.ob (.p d),.ob (.p e),.ob (.p f)]),.v (.a [.ob (.fr k)])]=>some ([],.v (.a (L9 (jmn (F:=F2) ((a,b),(c,d),(e,f)) (dgT k.val 64)))),[])
 | _=>none
def ruA:Env:=rtM.set (E1 rtM.fn 44 A9j)
theorem H3q:A8 Tryz.prog ruA:=B0 A2k 44 A9j (A5 Tryz.func44 rfl rfl) fun args o r es h _=>by
 unfold A9j at h;split at h
 ·cases h;exact E6t _ _ _ _ _ _ _
 ·cases h
/-- What Mul tells. -/
def C3x (a:G2D) (k:U4):G2D×Int:=if I6 a then (A1f a k,0) else (g20,30)
theorem E3o {a:G2D} (k:U4) (ha:I6 a=true):C3x a k=(A1f a k,0):=by unfold C3x;rw[ha];rfl
theorem F5c {a:G2D} (k:U4) (ha:I6 a=false):C3x a k=(g20,30):=by unfold C3x;rw[ha];rfl
def ruC:Env:=ruA
theorem E0f:A8 Tryz.prog ruC:=H3q
end

section

def ubA:Env:=ruC.or S4.gK
theorem E0x:A8 Tryz.prog ubA:=A8y E0f S4.F2e
theorem gtA (a b c d:U6) (i:Bool):let f:=G2D.mk a b c d i;B9 ubA Tryz.f24 3000 [.v (.a [.ob (.fp a),.ob (.fp b),.ob (.fp c),.ob (.fp d),.bool i])] [true] [] []=(some ([((I6 f)=true)],((.ci (.bool (decide ((Prod.snd (Prod.snd (jmn (A3x f) (dgT 52435875175126190479447740508185965837690552500527637822603658699938581184513 64))))=(0:(Prod (Fin pN) (Fin pN))))))),[]))):=by intros;kernel_rfl
theorem gtB (a b c d:U6) (i:Bool):B9 ubA Tryz.f24 3000 [.v (.a [.ob (.fp a),.ob (.fp b),.ob (.fp c),.ob (.fp d),.bool i])] [false] [] []=(some ([((I6 (G2D.mk a b c d i))=false)],((.ci (.lit false)),[]))):=by kernel_rfl
/-- Whether a point is of the group. -/
def A2p (a:G2D):Bool:=I6 a && decide ((jmn (A3x a) (dgT 52435875175126190479447740508185965837690552500527637822603658699938581184513 64)).2.2=0)
theorem F2o (a b c d:U6) (i:Bool):FnD Tryz.prog 24 [.v (.a [.ob (.fp a),.ob (.fp b),.ob (.fp c),.ob (.fp d),.bool i])] (.v (.c (.bool (A2p ⟨a,b,c,d,i⟩)))) []:=by
 by_cases h1:I6 ⟨a,b,c,d,i⟩=true
 ·have e:A2p ⟨a,b,c,d,i⟩=decide ((jmn (A3x ⟨a,b,c,d,i⟩) (dgT 52435875175126190479447740508185965837690552500527637822603658699938581184513 64)).2.2=0):=by unfold A2p;rw[h1,Bool.true_and]
  rw[e];exact A6 E0x Tryz.func24 (gtA a b c d i) ⟨h1,trivial⟩
 ·have h1:I6 ⟨a,b,c,d,i⟩=false:=Bool.eq_false_iff.2 h1
  have e:A2p ⟨a,b,c,d,i⟩=false:=by unfold A2p;rw[h1,Bool.false_and]
  rw[e];exact (A6 E0x Tryz.func24 (gtB a b c d i) ⟨h1,trivial⟩).conv (fun _ _ h=>h) fun y v hd=>P9 rfl hd
def C0i:B7
 | [.v (.a [.ob (.fp a),.ob (.fp b),.ob (.fp c),.ob (.fp d),.bool i])]=>some ([],.v (.c (.bool (A2p ⟨a,b,c,d,i⟩))),[])
 | _=>none
def ubB:Env:=ubA.set (E1 ubA.fn 24 C0i)
theorem H4y:A8 Tryz.prog ubB:=B0 E0x 24 C0i (A5 Tryz.func24 rfl rfl) fun args o r es h _=>by
 unfold C0i at h;split at h
 ·cases h;exact F2o _ _ _ _ _
 ·cases h
end

section

/-- u and 1, whose cube root v is; v, whose square root w is. -/
instance nrsF2:Nrs F2:=⟨(1,1)⟩
abbrev F6:=E3 F2
instance nrsF6:Nrs F6:=⟨⟨0,1,0⟩⟩
abbrev F12:=E2 F6
def f6I (x:F6):List It:=[.ob (.p x.a.1),.ob (.p x.a.2),.ob (.p x.b.1),.ob (.p x.b.2),.ob (.p x.c.1),.ob (.p x.c.2)]
def D5 (x:F12):List It:=[.ob (.p x.a.a.1),.ob (.p x.a.a.2),.ob (.p x.a.b.1),.ob (.p x.a.b.2),.ob (.p x.a.c.1),.ob (.p x.a.c.2),.ob (.p x.b.a.1),.ob (.p x.b.a.2),.ob (.p x.b.b.1),.ob (.p x.b.b.2),.ob (.p x.b.c.1),.ob (.p x.b.c.2)]
def shf (x:F2):F2:=(x.1-x.2,x.1+x.2)
def cj2 (x:F2):F2:=(x.1,0-x.2)
def scl (x:F2) (n:Fp):F2:=(x.1*n,x.2*n)
section
variable {r:Nat} [NeZero r]
theorem H9m (x:Q2 r):((x.1-x.2,x.1+x.2):Q2 r)=(1,1)*x:=G0 (by show x.1-x.2=1*x.1-1*x.2;grind) (by show x.1+x.2=1*x.2+1*x.1;grind)
end
section
variable {R:Type} [J9 R] [Nrs R]
def F3n (x y:E3 R):E3 R:=⟨x.a*y.a+Nrs.xi*((x.b+x.c)*(y.b+y.c)-x.b*y.b-x.c*y.c),(x.a+x.b)*(y.a+y.b)-x.a*y.a-x.b*y.b+Nrs.xi*(x.c*y.c),(x.a+x.c)*(y.a+y.c)-x.a*y.a-x.c*y.c+x.b*y.b⟩
theorem F3o (x y:E3 R):F3n x y=x*y:=by
 refine E3.ext' ?_ ?_ ?_
 ·show x.a*y.a+Nrs.xi*((x.b+x.c)*(y.b+y.c)-x.b*y.b-x.c*y.c)=x.a*y.a+Nrs.xi*(x.b*y.c+x.c*y.b);grind
 ·show (x.a+x.b)*(y.a+y.b)-x.a*y.a-x.b*y.b+Nrs.xi*(x.c*y.c)=x.a*y.b+x.b*y.a+Nrs.xi*(x.c*y.c);grind
 ·show (x.a+x.c)*(y.a+y.c)-x.a*y.a-x.c*y.c+x.b*y.b=x.a*y.c+x.b*y.b+x.c*y.a;grind
def F3l (x y:E2 R):E2 R:=⟨x.a*y.a+Nrs.xi*(x.b*y.b),(x.a+x.b)*(y.a+y.b)-x.a*y.a-x.b*y.b⟩
theorem F3m (x y:E2 R):F3l x y=x*y:=by
 refine E2.ext' ?_ ?_
 ·show x.a*y.a+Nrs.xi*(x.b*y.b)=x.a*y.a+Nrs.xi*(x.b*y.b);rfl
 ·show (x.a+x.b)*(y.a+y.b)-x.a*y.a-x.b*y.b=x.a*y.b+x.b*y.a;grind
theorem H9l (x:E3 R):(⟨Nrs.xi*x.c,x.a,x.b⟩:E3 R)=(⟨0,1,0⟩:E3 R)*x:=by
 refine E3.ext' ?_ ?_ ?_
 ·show Nrs.xi*x.c=0*x.a+Nrs.xi*(1*x.c+0*x.b);grind
 ·show x.a=0*x.b+1*x.a+Nrs.xi*(0*x.c);grind
 ·show x.b=0*x.c+1*x.b+0*x.a;grind
end
def cjp (x:F12):F12:=⟨x.a,0-x.b⟩
def ivp (x:F12):F12:=⟨x.a*B1x (x.a*x.a-Nrs.xi*(x.b*x.b)),0-x.b*B1x (x.a*x.a-Nrs.xi*(x.b*x.b))⟩
def uxA:Env:=uaB.or ubB
theorem D1h:A8 Tryz.prog uxA:=A8y F9f H4y
theorem G0q (x0 x1:Fp):B9 uxA Tryz.f115 3000 [.v (.a [.ob (.p x0),.ob (.p x1)])] [] [] []=some ([],.v (.a (f2I (cj2 ((x0,x1):F2)))),[]):=by kernel_rfl
def A8t:B7
 | [.v (.a [.ob (.p x0),.ob (.p x1)])]=>some ([],.v (.a (f2I (cj2 ((x0,x1):F2)))),[])
 | _=>none
def uxB:Env:=uxA.set (E1 uxA.fn 115 A8t)
theorem H5a:A8 Tryz.prog uxB:=B0 D1h 115 A8t (A5 Tryz.func115 rfl rfl) fun args o r es h _=>by
 unfold A8t at h;split at h
 ·cases h;exact A6 D1h Tryz.func115 (G0q _ _) trivial
 ·cases h
theorem G6b (x0 x1:Fp) (y0:Fp):B9 uxA Tryz.f137 3000 [.v (.a [.ob (.p x0),.ob (.p x1)]),.v (.a [.ob (.p y0)])] [] [] []=some ([],.v (.a (f2I (scl ((x0,x1):F2) y0))),[]):=by kernel_rfl
def B0h:B7
 | [.v (.a [.ob (.p x0),.ob (.p x1)]),.v (.a [.ob (.p y0)])]=>some ([],.v (.a (f2I (scl ((x0,x1):F2) y0))),[])
 | _=>none
def uxC:Env:=uxB.set (E1 uxB.fn 137 B0h)
theorem H5b:A8 Tryz.prog uxC:=B0 H5a 137 B0h (A5 Tryz.func137 rfl rfl) fun args o r es h _=>by
 unfold B0h at h;split at h
 ·cases h;exact A6 D1h Tryz.func137 (G6b _ _ _) trivial
 ·cases h
theorem G6f (x0 x1:Fp):B9 uxA Tryz.f127 3000 [.v (.a [.ob (.p x0),.ob (.p x1)])] [] [] []=some ([],.v (.a (f2I (shf ((x0,x1):F2)))),[]):=by kernel_rfl
theorem G6e (x:F2):(shf x:F2)=Nrs.xi*x:=
 H9m x
theorem E0h (x0 x1:Fp):FnD Tryz.prog 127 [.v (.a [.ob (.p x0),.ob (.p x1)])] (.v (.a (f2I (Nrs.xi*((x0,x1):F2))))) []:=by
 have r:=G6f x0 x1;rw[G6e] at r;exact A6 D1h Tryz.func127 r trivial
def B0k:B7
 | [.v (.a [.ob (.p x0),.ob (.p x1)])]=>some ([],.v (.a (f2I (Nrs.xi*((x0,x1):F2)))),[])
 | _=>none
def uxD:Env:=uxC.set (E1 uxC.fn 127 B0k)
theorem B0r:A8 Tryz.prog uxD:=B0 H5b 127 B0k (A5 Tryz.func127 rfl rfl) fun args o r es h _=>by
 unfold B0k at h;split at h
 ·cases h;exact E0h _ _
 ·cases h
theorem G5b (x0 x1 x2 x3 x4 x5:Fp) (y0 y1 y2 y3 y4 y5:Fp):B9 uxD Tryz.f95 3000 [.v (.a [.ob (.p x0),.ob (.p x1),.ob (.p x2),.ob (.p x3),.ob (.p x4),.ob (.p x5)]),.v (.a [.ob (.p y0),.ob (.p y1),.ob (.p y2),.ob (.p y3),.ob (.p y4),.ob (.p y5)])] [] [] []=some ([],.v (.a (f6I ((⟨(x0,x1),(x2,x3),(x4,x5)⟩:F6)+(⟨(y0,y1),(y2,y3),(y4,y5)⟩:F6)))),[]):=by kernel_rfl
def A9v:B7
 | [.v (.a [.ob (.p x0),.ob (.p x1),.ob (.p x2),.ob (.p x3),.ob (.p x4),.ob (.p x5)]),.v (.a [.ob (.p y0),.ob (.p y1),.ob (.p y2),.ob (.p y3),.ob (.p y4),.ob (.p y5)])]=>some ([],.v (.a (f6I ((⟨(x0,x1),(x2,x3),(x4,x5)⟩:F6)+(⟨(y0,y1),(y2,y3),(y4,y5)⟩:F6)))),[])
 | _=>none
def uxE:Env:=uxD.set (E1 uxD.fn 95 A9v)
theorem H5c:A8 Tryz.prog uxE:=B0 B0r 95 A9v (A5 Tryz.func95 rfl rfl) fun args o r es h _=>by
 unfold A9v at h;split at h
 ·cases h;exact A6 B0r Tryz.func95 (G5b _ _ _ _ _ _ _ _ _ _ _ _) trivial
 ·cases h
theorem F4u (x0 x1 x2 x3 x4 x5:Fp) (y0 y1 y2 y3 y4 y5:Fp):B9 uxD Tryz.f97 3000 [.v (.a [.ob (.p x0),.ob (.p x1),.ob (.p x2),.ob (.p x3),.ob (.p x4),.ob (.p x5)]),.v (.a [.ob (.p y0),.ob (.p y1),.ob (.p y2),.ob (.p y3),.ob (.p y4),.ob (.p y5)])] [] [] []=some ([],.v (.a (f6I ((⟨(x0,x1),(x2,x3),(x4,x5)⟩:F6)-(⟨(y0,y1),(y2,y3),(y4,y5)⟩:F6)))),[]):=by kernel_rfl
def A6f:B7
 | [.v (.a [.ob (.p x0),.ob (.p x1),.ob (.p x2),.ob (.p x3),.ob (.p x4),.ob (.p x5)]),.v (.a [.ob (.p y0),.ob (.p y1),.ob (.p y2),.ob (.p y3),.ob (.p y4),.ob (.p y5)])]=>some ([],.v (.a (f6I ((⟨(x0,x1),(x2,x3),(x4,x5)⟩:F6)-(⟨(y0,y1),(y2,y3),(y4,y5)⟩:F6)))),[])
 | _=>none
def uxF:Env:=uxE.set (E1 uxE.fn 97 A6f)
theorem H5d:A8 Tryz.prog uxF:=B0 H5c 97 A6f (A5 Tryz.func97 rfl rfl) fun args o r es h _=>by
 unfold A6f at h;split at h
 ·cases h;exact A6 B0r Tryz.func97 (F4u _ _ _ _ _ _ _ _ _ _ _ _) trivial
 ·cases h
theorem H1c (x0 x1 x2 x3 x4 x5:Fp):B9 uxD Tryz.f113 3000 [.v (.a [.ob (.p x0),.ob (.p x1),.ob (.p x2),.ob (.p x3),.ob (.p x4),.ob (.p x5)])] [] [] []=some ([],.v (.a (f6I (0-(⟨(x0,x1),(x2,x3),(x4,x5)⟩:F6)))),[]):=by kernel_rfl
def B4v:B7
 | [.v (.a [.ob (.p x0),.ob (.p x1),.ob (.p x2),.ob (.p x3),.ob (.p x4),.ob (.p x5)])]=>some ([],.v (.a (f6I (0-(⟨(x0,x1),(x2,x3),(x4,x5)⟩:F6)))),[])
 | _=>none
def uxG:Env:=uxF.set (E1 uxF.fn 113 B4v)
theorem H5e:A8 Tryz.prog uxG:=B0 H5d 113 B4v (A5 Tryz.func113 rfl rfl) fun args o r es h _=>by
 unfold B4v at h;split at h
 ·cases h;exact A6 B0r Tryz.func113 (H1c _ _ _ _ _ _) trivial
 ·cases h
theorem F8y (x0 x1 x2 x3 x4 x5:Fp) (y0 y1 y2 y3 y4 y5:Fp):B9 uxD Tryz.f94 3000 [.v (.a [.ob (.p x0),.ob (.p x1),.ob (.p x2),.ob (.p x3),.ob (.p x4),.ob (.p x5)]),.v (.a [.ob (.p y0),.ob (.p y1),.ob (.p y2),.ob (.p y3),.ob (.p y4),.ob (.p y5)])] [] [] []=some ([],.v (.a (f6I (F3n (⟨(x0,x1),(x2,x3),(x4,x5)⟩:F6) (⟨(y0,y1),(y2,y3),(y4,y5)⟩:F6)))),[]):=by kernel_rfl
theorem F8x (x:F6) (y:F6):(F3n x y:F6)=x*y:=
 F3o x y
theorem D6h (x0 x1 x2 x3 x4 x5:Fp) (y0 y1 y2 y3 y4 y5:Fp):FnD Tryz.prog 94 [.v (.a [.ob (.p x0),.ob (.p x1),.ob (.p x2),.ob (.p x3),.ob (.p x4),.ob (.p x5)]),.v (.a [.ob (.p y0),.ob (.p y1),.ob (.p y2),.ob (.p y3),.ob (.p y4),.ob (.p y5)])] (.v (.a (f6I ((⟨(x0,x1),(x2,x3),(x4,x5)⟩:F6)*(⟨(y0,y1),(y2,y3),(y4,y5)⟩:F6))))) []:=by
 have r:=F8y x0 x1 x2 x3 x4 x5 y0 y1 y2 y3 y4 y5;rw[F8x] at r;exact A6 B0r Tryz.func94 r trivial
def A7a:B7
 | [.v (.a [.ob (.p x0),.ob (.p x1),.ob (.p x2),.ob (.p x3),.ob (.p x4),.ob (.p x5)]),.v (.a [.ob (.p y0),.ob (.p y1),.ob (.p y2),.ob (.p y3),.ob (.p y4),.ob (.p y5)])]=>some ([],.v (.a (f6I ((⟨(x0,x1),(x2,x3),(x4,x5)⟩:F6)*(⟨(y0,y1),(y2,y3),(y4,y5)⟩:F6)))),[])
 | _=>none
def uxH:Env:=uxG.set (E1 uxG.fn 94 A7a)
theorem H5f:A8 Tryz.prog uxH:=B0 H5e 94 A7a (A5 Tryz.func94 rfl rfl) fun args o r es h _=>by
 unfold A7a at h;split at h
 ·cases h;exact D6h _ _ _ _ _ _ _ _ _ _ _ _
 ·cases h
theorem G6h (x0 x1 x2 x3 x4 x5:Fp):B9 uxD Tryz.f96 3000 [.v (.a [.ob (.p x0),.ob (.p x1),.ob (.p x2),.ob (.p x3),.ob (.p x4),.ob (.p x5)])] [] [] []=some ([],.v (.a (f6I (⟨Nrs.xi*(⟨(x0,x1),(x2,x3),(x4,x5)⟩:F6).c,(⟨(x0,x1),(x2,x3),(x4,x5)⟩:F6).a,(⟨(x0,x1),(x2,x3),(x4,x5)⟩:F6).b⟩))),[]):=by kernel_rfl
theorem G6g (x:F6):(⟨Nrs.xi*x.c,x.a,x.b⟩:F6)=Nrs.xi*x:=
 H9l x
theorem E0i (x0 x1 x2 x3 x4 x5:Fp):FnD Tryz.prog 96 [.v (.a [.ob (.p x0),.ob (.p x1),.ob (.p x2),.ob (.p x3),.ob (.p x4),.ob (.p x5)])] (.v (.a (f6I (Nrs.xi*(⟨(x0,x1),(x2,x3),(x4,x5)⟩:F6))))) []:=by
 have r:=G6h x0 x1 x2 x3 x4 x5;rw[G6g] at r;exact A6 B0r Tryz.func96 r trivial
def B0l:B7
 | [.v (.a [.ob (.p x0),.ob (.p x1),.ob (.p x2),.ob (.p x3),.ob (.p x4),.ob (.p x5)])]=>some ([],.v (.a (f6I (Nrs.xi*(⟨(x0,x1),(x2,x3),(x4,x5)⟩:F6)))),[])
 | _=>none
def uxI:Env:=uxH.set (E1 uxH.fn 96 B0l)
theorem H5g:A8 Tryz.prog uxI:=B0 H5f 96 B0l (A5 Tryz.func96 rfl rfl) fun args o r es h _=>by
 unfold B0l at h;split at h
 ·cases h;exact E0i _ _ _ _ _ _
 ·cases h
theorem H0e (x0 x1 x2 x3 x4 x5:Fp):B9 uxD Tryz.f114 3000 [.v (.a [.ob (.p x0),.ob (.p x1),.ob (.p x2),.ob (.p x3),.ob (.p x4),.ob (.p x5)])] [] [] []=some ([],.v (.a (f6I (B1x (⟨(x0,x1),(x2,x3),(x4,x5)⟩:F6)))),[]):=by kernel_rfl
def B4h:B7
 | [.v (.a [.ob (.p x0),.ob (.p x1),.ob (.p x2),.ob (.p x3),.ob (.p x4),.ob (.p x5)])]=>some ([],.v (.a (f6I (B1x (⟨(x0,x1),(x2,x3),(x4,x5)⟩:F6)))),[])
 | _=>none
def uxJ:Env:=uxI.set (E1 uxI.fn 114 B4h)
theorem D1i:A8 Tryz.prog uxJ:=B0 H5g 114 B4h (A5 Tryz.func114 rfl rfl) fun args o r es h _=>by
 unfold B4h at h;split at h
 ·cases h;exact A6 B0r Tryz.func114 (H0e _ _ _ _ _ _) trivial
 ·cases h
theorem E8o (x0 x1 x2 x3 x4 x5 x6 x7 x8 x9 x10 x11:Fp) (y0 y1 y2 y3 y4 y5 y6 y7 y8 y9 y10 y11:Fp):B9 uxJ Tryz.f52 3000 [.v (.a [.ob (.p x0),.ob (.p x1),.ob (.p x2),.ob (.p x3),.ob (.p x4),.ob (.p x5),.ob (.p x6),.ob (.p x7),.ob (.p x8),.ob (.p x9),.ob (.p x10),.ob (.p x11)]),.v (.a [.ob (.p y0),.ob (.p y1),.ob (.p y2),.ob (.p y3),.ob (.p y4),.ob (.p y5),.ob (.p y6),.ob (.p y7),.ob (.p y8),.ob (.p y9),.ob (.p y10),.ob (.p y11)])] [] [] []=some ([],.v (.a (D5 (F3l (⟨⟨(x0,x1),(x2,x3),(x4,x5)⟩,⟨(x6,x7),(x8,x9),(x10,x11)⟩⟩:F12) (⟨⟨(y0,y1),(y2,y3),(y4,y5)⟩,⟨(y6,y7),(y8,y9),(y10,y11)⟩⟩:F12)))),[]):=by kernel_rfl
theorem E8n (x:F12) (y:F12):(F3l x y:F12)=x*y:=
 F3m x y
theorem D1c (x0 x1 x2 x3 x4 x5 x6 x7 x8 x9 x10 x11:Fp) (y0 y1 y2 y3 y4 y5 y6 y7 y8 y9 y10 y11:Fp):FnD Tryz.prog 52 [.v (.a [.ob (.p x0),.ob (.p x1),.ob (.p x2),.ob (.p x3),.ob (.p x4),.ob (.p x5),.ob (.p x6),.ob (.p x7),.ob (.p x8),.ob (.p x9),.ob (.p x10),.ob (.p x11)]),.v (.a [.ob (.p y0),.ob (.p y1),.ob (.p y2),.ob (.p y3),.ob (.p y4),.ob (.p y5),.ob (.p y6),.ob (.p y7),.ob (.p y8),.ob (.p y9),.ob (.p y10),.ob (.p y11)])] (.v (.a (D5 ((⟨⟨(x0,x1),(x2,x3),(x4,x5)⟩,⟨(x6,x7),(x8,x9),(x10,x11)⟩⟩:F12)*(⟨⟨(y0,y1),(y2,y3),(y4,y5)⟩,⟨(y6,y7),(y8,y9),(y10,y11)⟩⟩:F12))))) []:=by
 have r:=E8o x0 x1 x2 x3 x4 x5 x6 x7 x8 x9 x10 x11 y0 y1 y2 y3 y4 y5 y6 y7 y8 y9 y10 y11;rw[E8n] at r;exact A6 D1i Tryz.func52 r trivial
def A5b:B7
 | [.v (.a [.ob (.p x0),.ob (.p x1),.ob (.p x2),.ob (.p x3),.ob (.p x4),.ob (.p x5),.ob (.p x6),.ob (.p x7),.ob (.p x8),.ob (.p x9),.ob (.p x10),.ob (.p x11)]),.v (.a [.ob (.p y0),.ob (.p y1),.ob (.p y2),.ob (.p y3),.ob (.p y4),.ob (.p y5),.ob (.p y6),.ob (.p y7),.ob (.p y8),.ob (.p y9),.ob (.p y10),.ob (.p y11)])]=>some ([],.v (.a (D5 ((⟨⟨(x0,x1),(x2,x3),(x4,x5)⟩,⟨(x6,x7),(x8,x9),(x10,x11)⟩⟩:F12)*(⟨⟨(y0,y1),(y2,y3),(y4,y5)⟩,⟨(y6,y7),(y8,y9),(y10,y11)⟩⟩:F12)))),[])
 | _=>none
def uxK:Env:=uxJ.set (E1 uxJ.fn 52 A5b)
theorem H5h:A8 Tryz.prog uxK:=B0 D1i 52 A5b (A5 Tryz.func52 rfl rfl) fun args o r es h _=>by
 unfold A5b at h;split at h
 ·cases h;exact D1c _ _ _ _ _ _ _ _ _ _ _ _ _ _ _ _ _ _ _ _ _ _ _ _
 ·cases h
theorem F0i (x0 x1 x2 x3 x4 x5 x6 x7 x8 x9 x10 x11:Fp):B9 uxJ Tryz.f69 3000 [.v (.a [.ob (.p x0),.ob (.p x1),.ob (.p x2),.ob (.p x3),.ob (.p x4),.ob (.p x5),.ob (.p x6),.ob (.p x7),.ob (.p x8),.ob (.p x9),.ob (.p x10),.ob (.p x11)])] [] [] []=some ([],.v (.a (D5 (cjp (⟨⟨(x0,x1),(x2,x3),(x4,x5)⟩,⟨(x6,x7),(x8,x9),(x10,x11)⟩⟩:F12)))),[]):=by kernel_rfl
def A5r:B7
 | [.v (.a [.ob (.p x0),.ob (.p x1),.ob (.p x2),.ob (.p x3),.ob (.p x4),.ob (.p x5),.ob (.p x6),.ob (.p x7),.ob (.p x8),.ob (.p x9),.ob (.p x10),.ob (.p x11)])]=>some ([],.v (.a (D5 (cjp (⟨⟨(x0,x1),(x2,x3),(x4,x5)⟩,⟨(x6,x7),(x8,x9),(x10,x11)⟩⟩:F12)))),[])
 | _=>none
def uxL:Env:=uxK.set (E1 uxK.fn 69 A5r)
theorem H5i:A8 Tryz.prog uxL:=B0 H5h 69 A5r (A5 Tryz.func69 rfl rfl) fun args o r es h _=>by
 unfold A5r at h;split at h
 ·cases h;exact A6 D1i Tryz.func69 (F0i _ _ _ _ _ _ _ _ _ _ _ _) trivial
 ·cases h
theorem G2q (x0 x1 x2 x3 x4 x5 x6 x7 x8 x9 x10 x11:Fp):B9 uxJ Tryz.f70 3000 [.v (.a [.ob (.p x0),.ob (.p x1),.ob (.p x2),.ob (.p x3),.ob (.p x4),.ob (.p x5),.ob (.p x6),.ob (.p x7),.ob (.p x8),.ob (.p x9),.ob (.p x10),.ob (.p x11)])] [] [] []=some ([],.v (.a (D5 (ivp (⟨⟨(x0,x1),(x2,x3),(x4,x5)⟩,⟨(x6,x7),(x8,x9),(x10,x11)⟩⟩:F12)))),[]):=by kernel_rfl
def A9d:B7
 | [.v (.a [.ob (.p x0),.ob (.p x1),.ob (.p x2),.ob (.p x3),.ob (.p x4),.ob (.p x5),.ob (.p x6),.ob (.p x7),.ob (.p x8),.ob (.p x9),.ob (.p x10),.ob (.p x11)])]=>some ([],.v (.a (D5 (ivp (⟨⟨(x0,x1),(x2,x3),(x4,x5)⟩,⟨(x6,x7),(x8,x9),(x10,x11)⟩⟩:F12)))),[])
 | _=>none
def uxM:Env:=uxL.set (E1 uxL.fn 70 A9d)
theorem A3o:A8 Tryz.prog uxM:=B0 H5i 70 A9d (A5 Tryz.func70 rfl rfl) fun args o r es h _=>by
 unfold A9d at h;split at h
 ·cases h;exact A6 D1i Tryz.func70 (G2q _ _ _ _ _ _ _ _ _ _ _ _) trivial
 ·cases h
end

section

def H9w:List Int:=[1,0,0,0,0,0,0,0,0,0,0,0,10162220747404304312,17761815663483519293,8873291758750579140,1141103941765652303,13993175198059990303,1802798568193066599,3240210268673559283,2895069921743240898,17009126888523054175,6098234018649060207,9865672654120263608,71000049454473266,0,0,0,0,0,0,10087218740379822764,4653388206581612541,9907120269317136283,12253596935368579796,17006226088849104517,1873798617647539865,14416168624775744521,17178867732698629620,8644499054833844677,5204293836692734814,7508032112903159806,481619096434065419,14416168624775744521,17178867732698629620,8644499054833844677,5204293836692734814,7508032112903159806,481619096434065419,10087218740379822765,4653388206581612541,9907120269317136283,12253596935368579796,17006226088849104517,1873798617647539865,0,0,0,0,0,0,11175958356102185238,14283797810955388722,10082116240020342118,17552803891753226222,16089103532492447813,410619046979592152,2226472659975678357,6373087774271371469,15800302407253291197,8133278142371037904,7769744319687806097,1463179570667947713]
def C6s (k:Int):List Prop:=(H9w.flatMap fun n=>[0<=n,n<18446744073709551616])++[0<=k,k<6]
theorem C4g (e:List Prop) (he:A9 e):∀l:List Int,(l.all fun n=>decide (0<=n) && decide (n<18446744073709551616))=true->A9 ((l.flatMap fun n:Int=>[0<=n,n<18446744073709551616])++e)
 | [],_=>he
 | n::l,h=>by
  simp only[List.all_cons,Bool.and_eq_true,decide_eq_true_eq] at h;exact ⟨h.1.1,h.1.2,C4g e he l h.2⟩
theorem D6i (k:Int) (h1:1<=k) (h2:k<=5):A9 (C6s k):=C4g [0<=k,k<6] ⟨by omega,by omega,trivial⟩ H9w (by decide)
/-- u and 1, to the power of i (p - 1) / 6. -/
def tur (i:Int):F2:=
 if i=1 then (Fin.ofNat pN 3850754370037169011952147076051364057158807420970682438676050522613628423219637725072182697113062777891589506424760,Fin.ofNat pN 151655185184498381465642749684540099398075398968325446656007613510403227271200139370504932015952886146304766135027) else
 if i=2 then (Fin.ofNat pN 0,Fin.ofNat pN 4002409555221667392624310435006688643935503118305586438271171395842971157480381377015405980053539358417135540939436) else
 if i=3 then (Fin.ofNat pN 1028732146235106349975324479215795277384839936929757896155643118032610843298655225875571310552543014690878354869257,Fin.ofNat pN 1028732146235106349975324479215795277384839936929757896155643118032610843298655225875571310552543014690878354869257) else
 if i=4 then (Fin.ofNat pN 4002409555221667392624310435006688643935503118305586438271171395842971157480381377015405980053539358417135540939437,Fin.ofNat pN 0) else
 if i=5 then (Fin.ofNat pN 877076961050607968509681729531255177986764537961432449499635504522207616027455086505066378536590128544573588734230,Fin.ofNat pN 3125332594171059424908108096204648978570118281977575435832422631601824034463382777937621250592425535493320683825557) else 1
abbrev V6:=E3 (U6×U6)
abbrev V12:=E2 V6
def v6I (x:V6):List It:=[.ob (.fp x.a.1),.ob (.fp x.a.2),.ob (.fp x.b.1),.ob (.fp x.b.2),.ob (.fp x.c.1),.ob (.fp x.c.2)]
def A7c (x:V12):List It:=[.ob (.fp x.a.a.1),.ob (.fp x.a.a.2),.ob (.fp x.a.b.1),.ob (.fp x.a.b.2),.ob (.fp x.a.c.1),.ob (.fp x.a.c.2),.ob (.fp x.b.a.1),.ob (.fp x.b.a.2),.ob (.fp x.b.b.1),.ob (.fp x.b.b.2),.ob (.fp x.b.c.1),.ob (.fp x.b.c.2)]
def G4j (x:F6):V6:=⟨F6h x.a,F6h x.b,F6h x.c⟩
def in6 (x:V6):F6:=⟨G2 x.a.1 x.a.2,G2 x.b.1 x.b.2,G2 x.c.1 x.c.2⟩
def A0s (x:F12):V12:=⟨G4j x.a,G4j x.b⟩
def D8l (x:V12):F12:=⟨in6 x.a,in6 x.b⟩
/-- The power of p. -/
def frb (x:F12):F12:=⟨⟨cj2 x.a.a,cj2 x.a.b*tur 2,cj2 x.a.c*tur 4⟩,⟨cj2 x.b.a*tur 1,cj2 x.b.b*tur 3,cj2 x.b.c*tur 5⟩⟩
def lin (a b c:F2):F12:=⟨⟨a,b,0⟩,⟨0,c,0⟩⟩
/-- The line that touches; the line through two. -/
def tch (t:F2×F2×F2) (x y:Fp):F12:=
 lin ((t.1*t.1+t.1*t.1+t.1*t.1)*t.1-t.2.1*t.2.1-t.2.1*t.2.1) (0-scl ((t.1*t.1+t.1*t.1+t.1*t.1)*(t.2.2*t.2.2)) x) (scl (t.2.1*(t.2.2*t.2.2)*t.2.2+t.2.1*(t.2.2*t.2.2)*t.2.2) y)
def thh (t q:F2×F2×F2):F2:=(q.1*(t.2.2*t.2.2)-t.1)*t.2.2
def G7z (t q:F2×F2×F2):F2:=q.2.1*(t.2.2*t.2.2)*t.2.2-t.2.1
def thg (t q:F2×F2×F2) (x y:Fp):F12:=lin (G7z t q*q.1-q.2.1*thh t q) (0-scl (G7z t q) x) (scl (thh t q) y)
theorem H1l:B9 uxM Tryz.f51 3000 [] [] [] []=some ([0<=(1:Int),(1:Int)<18446744073709551616],.v (.a (D5 1)),[]):=by kernel_rfl
def B5c:B7
 | []=>some ([],.v (.a (D5 1)),[])
 | _=>none
def uxN:Env:=uxM.set (E1 uxM.fn 51 B5c)
theorem H5j:A8 Tryz.prog uxN:=B0 A3o 51 B5c (A5 Tryz.func51 rfl rfl) fun args o r es h _=>by
 unfold B5c at h;split at h
 ·cases h;exact A6 A3o Tryz.func51 H1l ⟨by decide,by decide,trivial⟩
 ·cases h
theorem H4q:B9 uxM Tryz.f116 3000 [.v (.c (.int .i64 1))] [] [] []=some (C6s 1,.v (.a (f2I (tur 1))),[]):=by kernel_rfl
theorem H4r:B9 uxM Tryz.f116 3000 [.v (.c (.int .i64 2))] [] [] []=some (C6s 2,.v (.a (f2I (tur 2))),[]):=by kernel_rfl
theorem H4s:B9 uxM Tryz.f116 3000 [.v (.c (.int .i64 3))] [] [] []=some (C6s 3,.v (.a (f2I (tur 3))),[]):=by kernel_rfl
theorem H4t:B9 uxM Tryz.f116 3000 [.v (.c (.int .i64 4))] [] [] []=some (C6s 4,.v (.a (f2I (tur 4))),[]):=by kernel_rfl
theorem H4u:B9 uxM Tryz.f116 3000 [.v (.c (.int .i64 5))] [] [] []=some (C6s 5,.v (.a (f2I (tur 5))),[]):=by kernel_rfl
theorem F8z (i:Int) (h1:1<=i) (h2:i<=5):FnD Tryz.prog 116 [.v (.c (.int .i64 i))] (.v (.a (f2I (tur i)))) []:=by
 rcases (by omega:i=1∨i=2∨i=3∨i=4∨i=5) with rfl | rfl | rfl | rfl | rfl
 ·exact A6 A3o Tryz.func116 H4q (D6i _ h1 h2)
 ·exact A6 A3o Tryz.func116 H4r (D6i _ h1 h2)
 ·exact A6 A3o Tryz.func116 H4s (D6i _ h1 h2)
 ·exact A6 A3o Tryz.func116 H4t (D6i _ h1 h2)
 ·exact A6 A3o Tryz.func116 H4u (D6i _ h1 h2)
def C3e:B7
 | [.v (.c (.int .i64 i))]=>some ([1<=i,i<=5],.v (.a (f2I (tur i))),[])
 | _=>none
def uxO:Env:=uxN.set (E1 uxN.fn 116 C3e)
theorem H5k:A8 Tryz.prog uxO:=B0 H5j 116 C3e (A5 Tryz.func116 rfl rfl) fun args o r es h ho=>by
 unfold C3e at h;split at h
 ·cases h;exact F8z _ ho.1 ho.2.1
 ·cases h
theorem H1m (x0 x1 x2 x3 x4 x5:Fp):B9 uxM Tryz.f74 3000 [.v (.a [.ob (.p x0),.ob (.p x1),.ob (.p x2),.ob (.p x3),.ob (.p x4),.ob (.p x5)])] [] [] []=some ([],.v (.a (v6I (G4j (⟨(x0,x1),(x2,x3),(x4,x5)⟩:F6)))),[]):=by kernel_rfl
def B5e:B7
 | [.v (.a [.ob (.p x0),.ob (.p x1),.ob (.p x2),.ob (.p x3),.ob (.p x4),.ob (.p x5)])]=>some ([],.v (.a (v6I (G4j (⟨(x0,x1),(x2,x3),(x4,x5)⟩:F6)))),[])
 | _=>none
def uxP:Env:=uxO.set (E1 uxO.fn 74 B5e)
theorem H5l:A8 Tryz.prog uxP:=B0 H5k 74 B5e (A5 Tryz.func74 rfl rfl) fun args o r es h _=>by
 unfold B5e at h;split at h
 ·cases h;exact A6 A3o Tryz.func74 (H1m _ _ _ _ _ _) trivial
 ·cases h
theorem H7w (x0 x1 x2 x3 x4 x5:U6):B9 uxM Tryz.f122 3000 [.v (.a [.ob (.fp x0),.ob (.fp x1),.ob (.fp x2),.ob (.fp x3),.ob (.fp x4),.ob (.fp x5)])] [] [] []=some ([],.v (.a (f6I (in6 (⟨(x0,x1),(x2,x3),(x4,x5)⟩:V6)))),[]):=by kernel_rfl
def C0l:B7
 | [.v (.a [.ob (.fp x0),.ob (.fp x1),.ob (.fp x2),.ob (.fp x3),.ob (.fp x4),.ob (.fp x5)])]=>some ([],.v (.a (f6I (in6 (⟨(x0,x1),(x2,x3),(x4,x5)⟩:V6)))),[])
 | _=>none
def uxQ:Env:=uxP.set (E1 uxP.fn 122 C0l)
theorem H5m:A8 Tryz.prog uxQ:=B0 H5l 122 C0l (A5 Tryz.func122 rfl rfl) fun args o r es h _=>by
 unfold C0l at h;split at h
 ·cases h;exact A6 A3o Tryz.func122 (H7w _ _ _ _ _ _) trivial
 ·cases h
theorem H0m (x0 x1:Fp) (y0 y1:Fp) (z0 z1:Fp):B9 uxM Tryz.f136 3000 [.v (.a [.ob (.p x0),.ob (.p x1)]),.v (.a [.ob (.p y0),.ob (.p y1)]),.v (.a [.ob (.p z0),.ob (.p z1)])] [] [] []=some ([],.v (.a (D5 (lin ((x0,x1):F2) ((y0,y1):F2) ((z0,z1):F2)))),[]):=by kernel_rfl
def B4m:B7
 | [.v (.a [.ob (.p x0),.ob (.p x1)]),.v (.a [.ob (.p y0),.ob (.p y1)]),.v (.a [.ob (.p z0),.ob (.p z1)])]=>some ([],.v (.a (D5 (lin ((x0,x1):F2) ((y0,y1):F2) ((z0,z1):F2)))),[])
 | _=>none
def uxR:Env:=uxQ.set (E1 uxQ.fn 136 B4m)
theorem B5x:A8 Tryz.prog uxR:=B0 H5m 136 B4m (A5 Tryz.func136 rfl rfl) fun args o r es h _=>by
 unfold B4m at h;split at h
 ·cases h;exact A6 A3o Tryz.func136 (H0m _ _ _ _ _ _) trivial
 ·cases h
theorem G4i (x0 x1 x2 x3 x4 x5 x6 x7 x8 x9 x10 x11:Fp):B9 uxR Tryz.f37 3000 [.v (.a [.ob (.p x0),.ob (.p x1),.ob (.p x2),.ob (.p x3),.ob (.p x4),.ob (.p x5),.ob (.p x6),.ob (.p x7),.ob (.p x8),.ob (.p x9),.ob (.p x10),.ob (.p x11)])] [] [] []=some ([],.v (.a (A7c (A0s (⟨⟨(x0,x1),(x2,x3),(x4,x5)⟩,⟨(x6,x7),(x8,x9),(x10,x11)⟩⟩:F12)))),[]):=by kernel_rfl
def A9t:B7
 | [.v (.a [.ob (.p x0),.ob (.p x1),.ob (.p x2),.ob (.p x3),.ob (.p x4),.ob (.p x5),.ob (.p x6),.ob (.p x7),.ob (.p x8),.ob (.p x9),.ob (.p x10),.ob (.p x11)])]=>some ([],.v (.a (A7c (A0s (⟨⟨(x0,x1),(x2,x3),(x4,x5)⟩,⟨(x6,x7),(x8,x9),(x10,x11)⟩⟩:F12)))),[])
 | _=>none
def uxS:Env:=uxR.set (E1 uxR.fn 37 A9t)
theorem H5n:A8 Tryz.prog uxS:=B0 B5x 37 A9t (A5 Tryz.func37 rfl rfl) fun args o r es h _=>by
 unfold A9t at h;split at h
 ·cases h;exact A6 B5x Tryz.func37 (G4i _ _ _ _ _ _ _ _ _ _ _ _) trivial
 ·cases h
theorem H0b (x0 x1 x2 x3 x4 x5 x6 x7 x8 x9 x10 x11:U6):B9 uxR Tryz.f87 3000 [.v (.a [.ob (.fp x0),.ob (.fp x1),.ob (.fp x2),.ob (.fp x3),.ob (.fp x4),.ob (.fp x5),.ob (.fp x6),.ob (.fp x7),.ob (.fp x8),.ob (.fp x9),.ob (.fp x10),.ob (.fp x11)])] [] [] []=some ([],.v (.a (D5 (D8l (⟨⟨(x0,x1),(x2,x3),(x4,x5)⟩,⟨(x6,x7),(x8,x9),(x10,x11)⟩⟩:V12)))),[]):=by kernel_rfl
def B4g:B7
 | [.v (.a [.ob (.fp x0),.ob (.fp x1),.ob (.fp x2),.ob (.fp x3),.ob (.fp x4),.ob (.fp x5),.ob (.fp x6),.ob (.fp x7),.ob (.fp x8),.ob (.fp x9),.ob (.fp x10),.ob (.fp x11)])]=>some ([],.v (.a (D5 (D8l (⟨⟨(x0,x1),(x2,x3),(x4,x5)⟩,⟨(x6,x7),(x8,x9),(x10,x11)⟩⟩:V12)))),[])
 | _=>none
def uxT:Env:=uxS.set (E1 uxS.fn 87 B4g)
theorem H5o:A8 Tryz.prog uxT:=B0 H5n 87 B4g (A5 Tryz.func87 rfl rfl) fun args o r es h _=>by
 unfold B4g at h;split at h
 ·cases h;exact A6 B5x Tryz.func87 (H0b _ _ _ _ _ _ _ _ _ _ _ _) trivial
 ·cases h
theorem G9p (x0 x1 x2 x3 x4 x5 x6 x7 x8 x9 x10 x11:Fp):B9 uxR Tryz.f71 3000 [.v (.a [.ob (.p x0),.ob (.p x1),.ob (.p x2),.ob (.p x3),.ob (.p x4),.ob (.p x5),.ob (.p x6),.ob (.p x7),.ob (.p x8),.ob (.p x9),.ob (.p x10),.ob (.p x11)])] [] [] []=some ([1<=(2:Int),(2:Int)<=5,1<=(4:Int),(4:Int)<=5,1<=(1:Int),(1:Int)<=5,1<=(3:Int),(3:Int)<=5,1<=(5:Int),(5:Int)<=5],.v (.a (D5 (frb (⟨⟨(x0,x1),(x2,x3),(x4,x5)⟩,⟨(x6,x7),(x8,x9),(x10,x11)⟩⟩:F12)))),[]):=by kernel_rfl
def B4f:B7
 | [.v (.a [.ob (.p x0),.ob (.p x1),.ob (.p x2),.ob (.p x3),.ob (.p x4),.ob (.p x5),.ob (.p x6),.ob (.p x7),.ob (.p x8),.ob (.p x9),.ob (.p x10),.ob (.p x11)])]=>some ([],.v (.a (D5 (frb (⟨⟨(x0,x1),(x2,x3),(x4,x5)⟩,⟨(x6,x7),(x8,x9),(x10,x11)⟩⟩:F12)))),[])
 | _=>none
def uxU:Env:=uxT.set (E1 uxT.fn 71 B4f)
theorem H5p:A8 Tryz.prog uxU:=B0 H5o 71 B4f (A5 Tryz.func71 rfl rfl) fun args o r es h _=>by
 unfold B4f at h;split at h
 ·cases h;exact A6 B5x Tryz.func71 (G9p _ _ _ _ _ _ _ _ _ _ _ _) ⟨by decide,by decide,by decide,by decide,by decide,by decide,by decide,by decide,by decide,by decide,trivial⟩
 ·cases h
theorem G6r (x0 x1 x2 x3 x4 x5:Fp) (y0:Fp) (z0:Fp):B9 uxR Tryz.f118 3000 [.v (.a [.ob (.p x0),.ob (.p x1),.ob (.p x2),.ob (.p x3),.ob (.p x4),.ob (.p x5)]),.v (.a [.ob (.p y0)]),.v (.a [.ob (.p z0)])] [] [] []=some ([],.v (.a (D5 (tch ((x0,x1),(x2,x3),(x4,x5)) y0 z0))),[]):=by kernel_rfl
def B0p:B7
 | [.v (.a [.ob (.p x0),.ob (.p x1),.ob (.p x2),.ob (.p x3),.ob (.p x4),.ob (.p x5)]),.v (.a [.ob (.p y0)]),.v (.a [.ob (.p z0)])]=>some ([],.v (.a (D5 (tch ((x0,x1),(x2,x3),(x4,x5)) y0 z0))),[])
 | _=>none
def uxV:Env:=uxU.set (E1 uxU.fn 118 B0p)
theorem H5q:A8 Tryz.prog uxV:=B0 H5p 118 B0p (A5 Tryz.func118 rfl rfl) fun args o r es h _=>by
 unfold B0p at h;split at h
 ·cases h;exact A6 B5x Tryz.func118 (G6r _ _ _ _ _ _ _ _) trivial
 ·cases h
theorem H4l (x0 x1 x2 x3 x4 x5:Fp) (y0 y1 y2 y3 y4 y5:Fp) (z0:Fp) (w0:Fp):B9 uxR Tryz.f119 3000 [.v (.a [.ob (.p x0),.ob (.p x1),.ob (.p x2),.ob (.p x3),.ob (.p x4),.ob (.p x5)]),.v (.a [.ob (.p y0),.ob (.p y1),.ob (.p y2),.ob (.p y3),.ob (.p y4),.ob (.p y5)]),.v (.a [.ob (.p z0)]),.v (.a [.ob (.p w0)])] [] [] []=some ([],.v (.a (D5 (thg ((x0,x1),(x2,x3),(x4,x5)) ((y0,y1),(y2,y3),(y4,y5)) z0 w0))),[]):=by kernel_rfl
def B5u:B7
 | [.v (.a [.ob (.p x0),.ob (.p x1),.ob (.p x2),.ob (.p x3),.ob (.p x4),.ob (.p x5)]),.v (.a [.ob (.p y0),.ob (.p y1),.ob (.p y2),.ob (.p y3),.ob (.p y4),.ob (.p y5)]),.v (.a [.ob (.p z0)]),.v (.a [.ob (.p w0)])]=>some ([],.v (.a (D5 (thg ((x0,x1),(x2,x3),(x4,x5)) ((y0,y1),(y2,y3),(y4,y5)) z0 w0))),[])
 | _=>none
def uxW:Env:=uxV.set (E1 uxV.fn 119 B5u)
theorem B0s:A8 Tryz.prog uxW:=B0 H5q 119 B5u (A5 Tryz.func119 rfl rfl) fun args o r es h _=>by
 unfold B5u at h;split at h
 ·cases h;exact A6 B5x Tryz.func119 (H4l _ _ _ _ _ _ _ _ _ _ _ _ _ _) trivial
 ·cases h
end

section
section
variable {w0:World} {F0:Nat->Prop} {K:Kp} {ac:List Act} {Q:Exit->Act->World->Prop} {cX:Ctx} {aX:Act}

instance inhF12:Inhabited F12:=⟨1⟩
theorem C9f (v : Value) (w : World) : (method (Tryz.prog.types.size + Made.depth) 83 v "Times").run Tryz.prog w = .ok (52, v) w := by kernel_rfl
def D8o (T : Nat → Option (List (String × Nat))) (t : Nat) : Option (List (String × Nat)) := if t = 83 then some [("Times", 52)] else T t
def uyA:Env:={ uxW with inv:=D8o uxW.inv }
theorem B0t:A8 Tryz.prog uyA:=by
 refine ⟨B0s.ty,B0s.mixed,B0s.fn,B0s.mu,B0s.inl,B0s.ex,fun t l h=>?_⟩
 have h:D8o uxW.inv t=some l:=h;unfold D8o at h;split at h
 ·rename_i ht
  cases h
  subst ht;refine ⟨by kernel_rfl,fun name g hg v args w=>?_⟩
  unfold A1e at hg;split at hg
  ·rename_i hn
   cases hg
   subst hn;simp only[callMethod,Sem.run_bind,run_program,Result.andThen_ok,C9f]
  cases hg
 ·exact B0s.inv t l h
def D0g:List KI:=(run uyA false 3000 ((fun (a u:F12) (e:List Int)=>(⟨[.code (C5 Tryz.f117)],.normal,F9 Tryz.f117.ntmps [.v (.a (D5 a)),.v (.a (D5 u)),.v (.c (.sl (.u64 e)))]⟩:Cfg)) default default default) []).cfg.k
theorem pq (a u:F12) (e:List Int):let b:Fp:=0;A9 []->Sg Tryz.prog (F9 Tryz.f117.ntmps [.v (.a (D5 a)),.v (.a (D5 u)),.v (.c (.sl (.u64 e)))]) (B2 23 [3,6,7,11] [.pt 16 0,.pt 48 0,.pt 80 0,(.ci (.clo 123 [(128,0)]))] [16,48,80,128] [(eF_ (D5 a)),(eF_ [(.ob (.p b)),(.ob (.p b)),(.ob (.p b)),(.ob (.p b)),(.ob (.p b)),(.ob (.p b)),(.ob (.p b)),(.ob (.p b)),(.ob (.p b)),(.ob (.p b)),(.ob (.p b)),(.ob (.p b))]),(eF_ (D5 u)),(eF_ [.sl (.u64 e)])] 192 [] []) .normal (D0g) ([.code (C5 Tryz.f117)]):=fun ho=>fun hs hK=>
 B1 (unroll:=false) (n:=3000) (path:=[]) (o:=⟨_,_,_,_,_,_,_⟩) B0t (by kernel_rfl) (by kernel_rfl) ho hs hK
def pqS (a:F12) (e:List Int) (o:F12):St:=B2 23 [3,6,7,11] [.pt 16 0,.pt 48 0,.pt 80 0,(.ci (.clo 123 [(128,0)]))] [16,48,80,128] [(eF_ (D5 a)),(eF_ [(.ob (.p (0:Fp))),(.ob (.p (0:Fp))),(.ob (.p (0:Fp))),(.ob (.p (0:Fp))),(.ob (.p (0:Fp))),(.ob (.p (0:Fp))),(.ob (.p (0:Fp))),(.ob (.p (0:Fp))),(.ob (.p (0:Fp))),(.ob (.p (0:Fp))),(.ob (.p (0:Fp))),(.ob (.p (0:Fp)))]),some (.fl (D5 o)),(eF_ [.sl (.u64 e)])] 192 [] []
theorem pqA (a:F12) (e:List Int) (o:F12) (z:Bool) {ρ:Option Nat}:let b:Fp:=0;(A9 [])->(Sim w0 F0 K ac (X6 (pqS a e o) [(12,.v (.c (.bool z)))]) cX aX)->(∀cY aY,Sim w0 F0 K ac (B2 23 [3,6,7,8] [.pt 16 0,.pt 48 0,.pt 80 0,(.ci (.bool z))] [16,48,80,128] [(eF_ (D5 a)),(eF_ [(.ob (.p b)),(.ob (.p b)),(.ob (.p b)),(.ob (.p b)),(.ob (.p b)),(.ob (.p b)),(.ob (.p b)),(.ob (.p b)),(.ob (.p b)),(.ob (.p b)),(.ob (.p b)),(.ob (.p b))]),(eF_ (D5 o)),(eF_ [.sl (.u64 e)])] 208 [[3,6,7,11]] [([.pt 16 0,.pt 48 0,.pt 80 0,(.ci (.clo 123 [(128,0)]))],23)]) cY aY->Wq Tryz.prog Q ([]) ac Exit.normal aY cY.w ρ)->Wq Tryz.prog Q ([.code (rfA D0g)]) ac .normal aX cX.w ρ :=fun ho hs hK=>
 G4 (unroll:=false) (n:=3000) (path:=[]) (o:=⟨_,_,_,_,_,_,_⟩) B0t (by kernel_rfl) (by kernel_rfl) ho (by kernel_rfl) (by kernel_rfl) hs hK
def pqB (a:F12) (e:List Int) (o:F12) (z:Bool):St:=B2 23 [3,6,7,8] [.pt 16 0,.pt 48 0,.pt 80 0,(.ci (.bool z))] [16,48,80,128] [(eF_ (D5 a)),(eF_ [(.ob (.p (0:Fp))),(.ob (.p (0:Fp))),(.ob (.p (0:Fp))),(.ob (.p (0:Fp))),(.ob (.p (0:Fp))),(.ob (.p (0:Fp))),(.ob (.p (0:Fp))),(.ob (.p (0:Fp))),(.ob (.p (0:Fp))),(.ob (.p (0:Fp))),(.ob (.p (0:Fp))),(.ob (.p (0:Fp)))]),some (.fl (D5 o)),(eF_ [.sl (.u64 e)])] 208 [[3,6,7,11]] [([.pt 16 0,.pt 48 0,.pt 80 0,(.ci (.clo 123 [(128,0)]))],23)]
theorem pqC (a:F12) (e:List Int) (o:F12) (z:Bool) {ρ:Option Nat}:let d:Fp:=0;let f:=E2.a a;let g:=E2.b a;(A9 [(z=true)])->(Sim w0 F0 K ac (pqB a e o z) cX aX)->(∀cY aY,Sim w0 F0 K ac (B2 23 [6] [.pt 48 0] [16,48,80,128] [(eF_ (D5 a)),(eF_ [(.ob (.p d)),(.ob (.p d)),(.ob (.p d)),(.ob (.p d)),(.ob (.p d)),(.ob (.p d)),(.ob (.p d)),(.ob (.p d)),(.ob (.p d)),(.ob (.p d)),(.ob (.p d)),(.ob (.p d))]),(eF_ (D5 ((o*o)*(E2.mk (E3.mk ((Prod.fst (E3.a f)),(Prod.snd (E3.a f))) ((Prod.fst (E3.b f)),(Prod.snd (E3.b f))) ((Prod.fst (E3.c f)),(Prod.snd (E3.c f)))) (E3.mk ((Prod.fst (E3.a g)),(Prod.snd (E3.a g))) ((Prod.fst (E3.b g)),(Prod.snd (E3.b g))) ((Prod.fst (E3.c g)),(Prod.snd (E3.c g)))))))),(eF_ [.sl (.u64 e)])] 384 [[3,6,7,11]] [([.pt 16 0,.pt 48 0,.pt 80 0,(.ci (.clo 123 [(128,0)]))],23)]) cY aY->Wq Tryz.prog Q ([]) ac Exit.normal aY cY.w ρ)->Wq Tryz.prog Q ([.code (rfB D0g)]) ac .normal aX cX.w ρ :=fun ho hs hK=>
 G4 (unroll:=false) (n:=3000) (path:=[true]) (o:=⟨_,_,_,_,_,_,_⟩) B0t (by kernel_rfl) (by kernel_rfl) ho (by kernel_rfl) (by kernel_rfl) hs hK
theorem pqD (a:F12) (e:List Int) (o:F12) (z:Bool) {ρ:Option Nat}:let b:Fp:=0;(A9 [(z=false)])->(Sim w0 F0 K ac (pqB a e o z) cX aX)->(∀cY aY,Sim w0 F0 K ac (B2 23 [6] [.pt 48 0] [16,48,80,128] [(eF_ (D5 a)),(eF_ [(.ob (.p b)),(.ob (.p b)),(.ob (.p b)),(.ob (.p b)),(.ob (.p b)),(.ob (.p b)),(.ob (.p b)),(.ob (.p b)),(.ob (.p b)),(.ob (.p b)),(.ob (.p b)),(.ob (.p b))]),(eF_ (D5 (o*o))),(eF_ [.sl (.u64 e)])] 304 [[3,6,7,11]] [([.pt 16 0,.pt 48 0,.pt 80 0,(.ci (.clo 123 [(128,0)]))],23)]) cY aY->Wq Tryz.prog Q ([]) ac Exit.normal aY cY.w ρ)->Wq Tryz.prog Q ([.code (rfB D0g)]) ac .normal aX cX.w ρ :=fun ho hs hK=>
 G4 (unroll:=false) (n:=3000) (path:=[false]) (o:=⟨_,_,_,_,_,_,_⟩) B0t (by kernel_rfl) (by kernel_rfl) ho (by kernel_rfl) (by kernel_rfl) hs hK
theorem pqX (a:F12) (e:List Int) (o:F12) (ho:A9 []):Sg Tryz.prog (pqS a e o) (B2 23 [6] [.pt 48 0] [48] [(eF_ (D5 o))] 224 [] []) .ret ([]) (rfR D0g):=fun hs hK=>
 B1 (unroll:=false) (n:=3000) (path:=[]) (o:=⟨_,_,_,_,_,_,_⟩) B0t (by kernel_rfl) (by kernel_rfl) ho hs hK
def pqE (a:F12) (e:List Int) (o:F12):St:=B2 23 [6] [.pt 48 0] [16,48,80,128] [(eF_ (D5 a)),(eF_ [(.ob (.p (0:Fp))),(.ob (.p (0:Fp))),(.ob (.p (0:Fp))),(.ob (.p (0:Fp))),(.ob (.p (0:Fp))),(.ob (.p (0:Fp))),(.ob (.p (0:Fp))),(.ob (.p (0:Fp))),(.ob (.p (0:Fp))),(.ob (.p (0:Fp))),(.ob (.p (0:Fp))),(.ob (.p (0:Fp)))]),some (.fl (D5 o)),(eF_ [.sl (.u64 e)])] 384 [[3,6,7,11]] [([.pt 16 0,.pt 48 0,.pt 80 0,(.ci (.clo 123 [(128,0)]))],23)]
def pqZ (o:F12):St:=B2 23 [6] [.pt 48 0] [48] [some (.fl (D5 o))] 224 [] []
theorem G5f (o:F12):J7 uyA Tryz.f117 false 3000 (⟨[],.ret,pqZ o⟩) [] [] []=(some ([],((.v (.a (D5 o))),[]))):=by kernel_rfl
end
end

section

section
variable {G:Type} [J9 G]
theorem S1 (g:G) (m:Nat):∀n,A7 g (m+n)=A7 g m*A7 g n
 | 0=>by show A7 g m=A7 g m*1;grind
 | n+1=>by
  show A7 g (m+n)*g=A7 g m*(A7 g n*g);rw[S1 g m n];grind
theorem D3f (g:G) (l:List Bool) (z:Bool):A7 g (pv (l++[z]))=if z=true then A7 g (pv l)*A7 g (pv l)*g else A7 g (pv l)*A7 g (pv l):=by
 rw[D0i,Nat.two_mul]
 cases z with
 | true=>
  rw[if_pos rfl,<-S1];rfl
 | false=>
  rw[if_neg (by decide),<-S1]
  rfl
end

theorem D5k (a:F12) (e:List Int) (hl:e.length<=16) (hlim:A5i e) :
  FnD Tryz.prog 117 [.v (.a (D5 a)),.v (.a (D5 1)),.v (.c (.sl (.u64 e)))] (.v (.a (D5 (A7 a (O9 e))))) []:=by
 refine T9 (fn:=Tryz.f117) (c:=C5 Tryz.f117) Tryz.func117 rfl rfl fun x b hk hF hs=>?_
 refine pq a 1 e trivial hs fun ac cY aY hs1=>?_
 obtain ⟨e1,e2⟩:=A2v (k:=D0g) (by kernel_rfl)
 rw[e1];have eP:(rfP D0g).toList=[12]:=by kernel_rfl
 have eG:rfG D0g = .tmp 11:=by kernel_rfl
 refine Z6 (ps:=rfP D0g) e2 hs1 (gf:=123) (caps:=[(128,0)]) (A5 Tryz.func123 rfl rfl) (fun pre=>pqS a e (A7 a (pv pre))) (fun s=>by rw[eG];rfl) ⟨_,rfl⟩ (btL (O9 e) (K7 e e.length) (K7 e e.length)) C7f B6d
  (fun y z=>.cons ⟨rfl,0,rfl⟩ .nil) (fun z=>by rw[<-Array.length_toList,eP];rfl) (fun pre p hp=>?_) (A7f hl hlim fun s=>rfl) (fun pre z=>pqB a e (A7 a (pv pre)) z)
  (fun pre z=>pqE a e (A7 a (pv (pre++[z])))) (fun pre z=>⟨_,rfl⟩) (fun pre z hz w1 F1 K1 as1 Q1 l y b hs2 hQ=>?_) (fun pre z hz w1 F1 K1 as1 Q1 l y b hs2 hQ=>?_) fun D y hs2 hD hFD hd=>?_
 ·rw[eP] at hp
  have h23:(pqS a e (A7 a (pv pre))).nt=23:=rfl;rw[h23];simp only[List.mem_cons,List.not_mem_nil,or_false] at hp;subst hp;decide
 ·rw[eP] at hs2
  exact pqA a e _ z trivial hs2 fun cZ aZ hs3=>⟨hQ _ _ (hs3.nx _)⟩
 ·rw[D3f] at hQ
  cases z with
  | true=>exact pqC a e _ true ⟨rfl,trivial⟩ hs2 fun cZ aZ hs3=>⟨hQ _ _ (hs3.nx _)⟩
  | false=>exact pqD a e _ false ⟨rfl,trivial⟩ hs2 fun cZ aZ hs3=>⟨hQ _ _ (hs3.nx _)⟩
 ·have hs3:=hs2.marked rfl rfl D
  have hN:O9 e<2 ^ K7 e e.length:=by
   have:=C9s hlim e.length (Nat.le_refl _)
   rwa [List.take_length] at this
  rw[B7u hN _ (Nat.le_refl _),Nat.sub_self,Nat.pow_zero,Nat.div_one] at hs2 hs3;generalize A7 a (O9 e)=o at hs2 hs3 ⊢
  refine pqX a e o trivial hs3 fun ac cV aV hs6=>⟨?_⟩
  have hs7:Sim y.w y.F (U1 y Y8 (H8 D)) ac (pqZ o) cV aV:=hs6;exact Y6 B0t hk hF (G5f o) trivial (fun y v hd=>hd) hs2 hD hFD hd rfl hs7

end

section
section
variable {w0:World} {F0:Nat->Prop} {K:Kp} {ac:List Act} {Q:Exit->Act->World->Prop} {cX:Ctx} {aX:Act}

theorem D0e (a u:F12) (e:List Int) (hu:u=1) (hl:e.length<=16) (hlim:A5i e) :
  FnD Tryz.prog 117 [.v (.a (D5 a)),.v (.a (D5 u)),.v (.c (.sl (.u64 e)))] (.v (.a (D5 (A7 a (O9 e))))) []:=by
 subst hu;exact D5k a e hl hlim
theorem D0f (x0 x1 x2 x3 x4 x5 x6 x7 x8 x9 x10 x11 y0 y1 y2 y3 y4 y5 y6 y7 y8 y9 y10 y11:Fp) (e:List Int) (hu:(⟨⟨(y0,y1),(y2,y3),(y4,y5)⟩,⟨(y6,y7),(y8,y9),(y10,y11)⟩⟩:F12)=1) (hl:e.length<=16) (hlim:A5i e) :
  FnD Tryz.prog 117 [.v (.a [.ob (.p x0),.ob (.p x1),.ob (.p x2),.ob (.p x3),.ob (.p x4),.ob (.p x5),.ob (.p x6),.ob (.p x7),.ob (.p x8),.ob (.p x9),.ob (.p x10),.ob (.p x11)]),.v (.a [.ob (.p y0),.ob (.p y1),.ob (.p y2),.ob (.p y3),.ob (.p y4),.ob (.p y5),.ob (.p y6),.ob (.p y7),.ob (.p y8),.ob (.p y9),.ob (.p y10),.ob (.p y11)]),.v (.c (.sl (.u64 e)))] (.v (.a (D5 (A7 (⟨⟨(x0,x1),(x2,x3),(x4,x5)⟩,⟨(x6,x7),(x8,x9),(x10,x11)⟩⟩:F12) (O9 e))))) []:=D0e (⟨⟨(x0,x1),(x2,x3),(x4,x5)⟩,⟨(x6,x7),(x8,x9),(x10,x11)⟩⟩:F12) (⟨⟨(y0,y1),(y2,y3),(y4,y5)⟩,⟨(y6,y7),(y8,y9),(y10,y11)⟩⟩:F12) e hu hl hlim
def A6k:B7
 | [.v (.a [.ob (.p x0),.ob (.p x1),.ob (.p x2),.ob (.p x3),.ob (.p x4),.ob (.p x5),.ob (.p x6),.ob (.p x7),.ob (.p x8),.ob (.p x9),.ob (.p x10),.ob (.p x11)]),.v (.a [.ob (.p y0),.ob (.p y1),.ob (.p y2),.ob (.p y3),.ob (.p y4),.ob (.p y5),.ob (.p y6),.ob (.p y7),.ob (.p y8),.ob (.p y9),.ob (.p y10),.ob (.p y11)]),.v (.c (.sl (.u64 e)))]=>some ([(⟨⟨(y0,y1),(y2,y3),(y4,y5)⟩,⟨(y6,y7),(y8,y9),(y10,y11)⟩⟩:F12)=1,e.length<=16,A5i e],.v (.a (D5 (A7 (⟨⟨(x0,x1),(x2,x3),(x4,x5)⟩,⟨(x6,x7),(x8,x9),(x10,x11)⟩⟩:F12) (O9 e)))),[])
 | _=>none
def uyB:Env:=uyA.set (E1 uyA.fn 117 A6k)
theorem F9k:A8 Tryz.prog uyB:=B0 B0t 117 A6k (A5 Tryz.func117 rfl rfl) fun args o r es h ho=>by
 unfold A6k at h;split at h
 ·cases h;exact D0f _ _ _ _ _ _ _ _ _ _ _ _ _ _ _ _ _ _ _ _ _ _ _ _ _ ho.1 ho.2.1 ho.2.2.1
 ·cases h
theorem H1v (a:F12) (n:Int):B9 uyB Tryz.f72 3000 [.v (.a (D5 a)),.v (.c (.int .u64 n))] [] [] []=(some ([(0=0),(1=1),(1=1),((1:F12)=(1:(E2 F6))),(1<=16),(A5i [n])],((.v (.a (D5 (A7 a (O9 [n]))))),[]))):=by kernel_rfl
theorem F2l:∃f:F12->Int->F12,∀x n,f x n=A7 x n.toNat:=⟨fun x n=>A7 x n.toNat,fun _ _=>rfl⟩
/-- A power with a number, that the kernel does not work out. -/
def gpi:F12->Int->F12:=Classical.choose F2l
theorem A1z (x:F12) (n:Int):gpi x n=A7 x n.toNat:=Classical.choose_spec F2l x n
theorem F5u (n:Int):O9 [n]=n.toNat:=by
 show n.toNat+18446744073709551616*0=_;omega
theorem E7o (x0 x1 x2 x3 x4 x5 x6 x7 x8 x9 x10 x11:Fp) (n:Int) (h0:0<=n) (h1:n<18446744073709551616):FnD Tryz.prog 72 [.v (.a [.ob (.p x0),.ob (.p x1),.ob (.p x2),.ob (.p x3),.ob (.p x4),.ob (.p x5),.ob (.p x6),.ob (.p x7),.ob (.p x8),.ob (.p x9),.ob (.p x10),.ob (.p x11)]),.v (.c (.int .u64 n))] (.v (.a (D5 (gpi (⟨⟨(x0,x1),(x2,x3),(x4,x5)⟩,⟨(x6,x7),(x8,x9),(x10,x11)⟩⟩:F12) n)))) []:=by
 have r:=H1v (⟨⟨(x0,x1),(x2,x3),(x4,x5)⟩,⟨(x6,x7),(x8,x9),(x10,x11)⟩⟩:F12) n;rw[F5u,<-A1z] at r;refine A6 F9k Tryz.func72 r ⟨rfl,rfl,rfl,rfl,by decide,fun x hx=>?_,trivial⟩
 simp only[List.mem_cons,List.not_mem_nil,or_false] at hx;subst hx;exact ⟨h0,h1⟩
def B5j:B7
 | [.v (.a [.ob (.p x0),.ob (.p x1),.ob (.p x2),.ob (.p x3),.ob (.p x4),.ob (.p x5),.ob (.p x6),.ob (.p x7),.ob (.p x8),.ob (.p x9),.ob (.p x10),.ob (.p x11)]),.v (.c (.int .u64 n))]=>some ([0<=n,n<18446744073709551616],.v (.a (D5 (gpi (⟨⟨(x0,x1),(x2,x3),(x4,x5)⟩,⟨(x6,x7),(x8,x9),(x10,x11)⟩⟩:F12) n))),[])
 | _=>none
def uyC:Env:=uyB.set (E1 uyB.fn 72 B5j)
theorem X9:A8 Tryz.prog uyC:=B0 F9k 72 B5j (A5 Tryz.func72 rfl rfl) fun args o r es h ho=>by
 unfold B5j at h;split at h
 ·cases h;exact E7o _ _ _ _ _ _ _ _ _ _ _ _ _ ho.1 ho.2.1
 ·cases h
def F1l:List KI:=(run uyC false 7 ((fun (f:F12)=>(⟨[.code (C5 Tryz.f35)],.normal,F9 Tryz.f35.ntmps [.v (.a (D5 f))]⟩:Cfg)) default) []).cfg.k
section
variable (f:F12)
theorem fiA:let b:Fp:=0;A9 []->Sg Tryz.prog (F9 Tryz.f35.ntmps [.v (.a (D5 f))]) (B2 37 [1,2] [.pt 16 0,.pt 32 0] [16,32] [(eF_ (D5 ((cjp f)*(ivp f)))),(eF_ [(.ob (.p b)),(.ob (.p b)),(.ob (.p b)),(.ob (.p b)),(.ob (.p b)),(.ob (.p b)),(.ob (.p b)),(.ob (.p b)),(.ob (.p b)),(.ob (.p b)),(.ob (.p b)),(.ob (.p b))])] 144 [] []) .normal (F1l) ([.code (C5 Tryz.f35)]):=fun ho=>fun hs hK=>
 B1 (unroll:=false) (n:=7) (path:=[]) (o:=⟨_,_,_,_,_,_,_⟩) X9 (by kernel_rfl) (by kernel_rfl) ho hs hK
def fiS (f:F12):St:=B2 37 [1,2] [.pt 16 0,.pt 32 0] [16,32] [some (.fl (D5 f)),(eF_ [(.ob (.p (0:Fp))),(.ob (.p (0:Fp))),(.ob (.p (0:Fp))),(.ob (.p (0:Fp))),(.ob (.p (0:Fp))),(.ob (.p (0:Fp))),(.ob (.p (0:Fp))),(.ob (.p (0:Fp))),(.ob (.p (0:Fp))),(.ob (.p (0:Fp))),(.ob (.p (0:Fp))),(.ob (.p (0:Fp)))])] 144 [] []
def F1m:List KI:=(run uyC false 2 ((fun (f:F12)=>(⟨F1l,.normal,fiS f⟩:Cfg)) default) []).cfg.k
theorem fiB:let a:Fp:=0;A9 []->Sg Tryz.prog (fiS f) (B2 37 [1,2] [.pt 16 0,.pt 32 0] [16,32] [(eF_ (D5 ((frb (frb f))*f))),(eF_ [(.ob (.p a)),(.ob (.p a)),(.ob (.p a)),(.ob (.p a)),(.ob (.p a)),(.ob (.p a)),(.ob (.p a)),(.ob (.p a)),(.ob (.p a)),(.ob (.p a)),(.ob (.p a)),(.ob (.p a))])] 240 [] []) .normal (F1m) (F1l):=fun ho=>fun hs hK=>
 B1 (unroll:=false) (n:=2) (path:=[]) (o:=⟨_,_,_,_,_,_,_⟩) X9 (by kernel_rfl) (by kernel_rfl) ho hs hK
def F1n:List KI:=(run uyC false 8 ((fun (f:F12)=>(⟨F1m,.normal,fiS f⟩:Cfg)) default) []).cfg.k
theorem fiC:let a:Fp:=0;let b:Int:=15132376222941642753;let c:Int:=5044125407647214251;let d:Int:=18446744073709551616;A9 [(0<=b),(b<d),(0<=c),(c<d)]->Sg Tryz.prog (fiS f) (B2 37 [1,2,3] [.pt 16 0,.pt 32 0,.pt 192 0] [16,32,192] [(eF_ (D5 f)),(eF_ [(.ob (.p a)),(.ob (.p a)),(.ob (.p a)),(.ob (.p a)),(.ob (.p a)),(.ob (.p a)),(.ob (.p a)),(.ob (.p a)),(.ob (.p a)),(.ob (.p a)),(.ob (.p a)),(.ob (.p a))]),(eF_ (D5 (gpi (gpi f b) c)))] 224 [] []) .normal (F1n) (F1m):=fun ho=>fun hs hK=>
 B1 (unroll:=false) (n:=8) (path:=[]) (o:=⟨_,_,_,_,_,_,_⟩) X9 (by kernel_rfl) (by kernel_rfl) ho hs hK
def fiT (f g:F12):St:=B2 37 [1,2,3] [.pt 16 0,.pt 32 0,.pt 192 0] [16,32,192] [some (.fl (D5 f)),(eF_ [(.ob (.p (0:Fp))),(.ob (.p (0:Fp))),(.ob (.p (0:Fp))),(.ob (.p (0:Fp))),(.ob (.p (0:Fp))),(.ob (.p (0:Fp))),(.ob (.p (0:Fp))),(.ob (.p (0:Fp))),(.ob (.p (0:Fp))),(.ob (.p (0:Fp))),(.ob (.p (0:Fp))),(.ob (.p (0:Fp)))]),some (.fl (D5 g))] 224 [] []
def F1o:List KI:=(run uyC false 2 ((fun (f g:F12)=>(⟨F1n,.normal,fiT f g⟩:Cfg)) default default) []).cfg.k
end
section
variable (f g:F12)
theorem fiD:let a:Fp:=0;let b:Int:=15132376222941642752;A9 [(0<=b),(b<(18446744073709551616:Int))]->Sg Tryz.prog (fiT f g) (B2 37 [1,2,3] [.pt 16 0,.pt 32 0,.pt 192 0] [16,32,192] [(eF_ (D5 f)),(eF_ [(.ob (.p a)),(.ob (.p a)),(.ob (.p a)),(.ob (.p a)),(.ob (.p a)),(.ob (.p a)),(.ob (.p a)),(.ob (.p a)),(.ob (.p a)),(.ob (.p a)),(.ob (.p a)),(.ob (.p a))]),(eF_ (D5 ((cjp (gpi g b))*(frb g))))] 336 [] []) .normal (F1o) (F1n):=fun ho=>fun hs hK=>
 B1 (unroll:=false) (n:=2) (path:=[]) (o:=⟨_,_,_,_,_,_,_⟩) X9 (by kernel_rfl) (by kernel_rfl) ho hs hK
def G7j:List KI:=(run uyC false 8 ((fun (f g:F12)=>(⟨F1o,.normal,fiT f g⟩:Cfg)) default default) []).cfg.k
theorem fiE:let a:Int:=15132376222941642752;let b:Fp:=0;let c:=a<(18446744073709551616:Int);A9 [(0<=a),c,(0<=a),c]->Sg Tryz.prog (fiT f g) (B2 37 [1,2,3,4] [.pt 16 0,.pt 32 0,.pt 192 0,.pt 272 0] [16,32,192,272] [(eF_ (D5 f)),(eF_ [(.ob (.p b)),(.ob (.p b)),(.ob (.p b)),(.ob (.p b)),(.ob (.p b)),(.ob (.p b)),(.ob (.p b)),(.ob (.p b)),(.ob (.p b)),(.ob (.p b)),(.ob (.p b)),(.ob (.p b))]),(eF_ (D5 g)),(eF_ (D5 (gpi (gpi g a) a)))] 304 [] []) .normal (G7j) (F1o):=fun ho=>fun hs hK=>
 B1 (unroll:=false) (n:=8) (path:=[]) (o:=⟨_,_,_,_,_,_,_⟩) X9 (by kernel_rfl) (by kernel_rfl) ho hs hK
def fiU (f g h:F12):St:=B2 37 [1,2,3,4] [.pt 16 0,.pt 32 0,.pt 192 0,.pt 272 0] [16,32,192,272] [some (.fl (D5 f)),(eF_ [(.ob (.p (0:Fp))),(.ob (.p (0:Fp))),(.ob (.p (0:Fp))),(.ob (.p (0:Fp))),(.ob (.p (0:Fp))),(.ob (.p (0:Fp))),(.ob (.p (0:Fp))),(.ob (.p (0:Fp))),(.ob (.p (0:Fp))),(.ob (.p (0:Fp))),(.ob (.p (0:Fp))),(.ob (.p (0:Fp)))]),some (.fl (D5 g)),some (.fl (D5 h))] 304 [] []
end
theorem G1r (f g h:F12):J7 uyC Tryz.f35 false 3000 (⟨G7j,.normal,fiU f g h⟩) [] [] []=(some ([],((.v (.a (D5 (((h*(frb (frb g)))*(cjp g))*f)))),[]))):=by kernel_rfl

end
end

section

/-- The last exponent: the powers of p^6 - 1 and of p p + 1; what is left. -/
def C7y (f:F12):F12:=frb (frb (cjp f*ivp f))*(cjp f*ivp f)
def A3h (f:F12):F12:=gpi (gpi f 15132376222941642753) 5044125407647214251
def A2o (g:F12):F12:=cjp (gpi g 15132376222941642752)*frb g
def B6x (k:F12):F12:=gpi (gpi k 15132376222941642752) 15132376222941642752
def D2v (f:F12):F12:=B6x (A2o (A3h f))*frb (frb (A2o (A3h f)))*cjp (A2o (A3h f))*f
def M4 (f:F12):F12:=D2v (C7y f)
theorem D8f (f:F12):FnD Tryz.prog 35 [.v (.a (D5 f))] (.v (.a (D5 (M4 f)))) []:=by
 refine A0n (fn:=Tryz.f35) (c:=C5 Tryz.f35) Tryz.func35 rfl rfl fun x a hk hF hs=>?_
 refine fiA f trivial hs fun ac cY aY hs1=>?_
 refine fiB (cjp f*ivp f) trivial (hs1.nx _) fun ac cY aY hs2=>?_
 refine fiC (C7y f) ⟨by decide,by decide,by decide,by decide,trivial⟩ (hs2.nx _) fun ac cY aY hs3=>?_
 refine fiD (C7y f) (A3h (C7y f)) ⟨by decide,by decide,trivial⟩ (hs3.nx _) fun ac cY aY hs4=>?_
 refine fiE (C7y f) (A2o (A3h (C7y f))) ⟨by decide,by decide,by decide,by decide,trivial⟩ (hs4.nx _) fun ac cY aY hs5=>?_
 exact Q4 X9 hk hF (G1r (C7y f) (A2o (A3h (C7y f))) (B6x (A2o (A3h (C7y f))))) trivial (fun y v hd=>hd) (hs5.nx _)
end

section
section
variable {w0:World} {F0:Nat->Prop} {K:Kp} {ac:List Act} {Q:Exit->Act->World->Prop} {cX:Ctx} {aX:Act}

def C3w:List KI:=(run uyC false 3000 ((fun (x y a b c d:U6) (i j:Bool)=>(⟨[.code (C5 Tryz.f73)],.normal,F9 Tryz.f73.ntmps [.v (.a [.ob (.fp x),.ob (.fp y),.bool i]),.v (.a [.ob (.fp a),.ob (.fp b),.ob (.fp c),.ob (.fp d),.bool j])]⟩:Cfg)) default default default default default default default default) []).cfg.k
theorem mi (x y a b c d:U6) (i j:Bool):let g:=A3x (G2D.mk a b c d j);let h:Fp:=0;let k:=Prod.snd g;let f:=eF_ [(.ob (.p (Prod.fst (Prod.fst g)))),(.ob (.p (Prod.snd (Prod.fst g)))),(.ob (.p (Prod.fst (Prod.fst k)))),(.ob (.p (Prod.snd (Prod.fst k)))),(.ob (.p (Prod.fst (Prod.snd k)))),(.ob (.p (Prod.snd (Prod.snd k))))];A9 []->Sg Tryz.prog (F9 Tryz.f73.ntmps [.v (.a [.ob (.fp x),.ob (.fp y),.bool i]),.v (.a [.ob (.fp a),.ob (.fp b),.ob (.fp c),.ob (.fp d),.bool j])]) (B2 49 [4,5,6,7,8,9,10,23] [.pt 48 0,.pt 160 0,.pt 176 0,.pt 256 0,.pt 320 0,.pt 336 0,.pt 384 0,(.ci (.clo 123 [(432,0)]))] [48,160,176,256,320,336,384,416,432] [(eF_ [(.ob (.p h)),(.ob (.p h)),(.ob (.p h)),(.ob (.p h)),(.ob (.p h)),(.ob (.p h)),(.ob (.p h)),(.ob (.p h)),(.ob (.p h)),(.ob (.p h)),(.ob (.p h)),(.ob (.p h))]),(eF_ [(.ob (.p (inP x)))]),(eF_ [(.ob (.p (inP y)))]),f,f,(eF_ (D5 (1:F12))),(eF_ [(.lit true)]),(eQ_ (.u64 [(15132376222941642752:Int)])),(eF_ [(.slc 416 0 1 1)])] 496 [] []) .normal (C3w) ([.code (C5 Tryz.f73)]):=fun ho=>fun hs hK=>
 B1 (unroll:=false) (n:=3000) (path:=[]) (o:=⟨_,_,_,_,_,_,_⟩) X9 (by kernel_rfl) (by kernel_rfl) ho hs hK
def miS (x y:Fp) (q t:F2×F2×F2) (f:F12) (fb:Bool):St:=B2 49 [4,5,6,7,8,9,10,23] [.pt 48 0,.pt 160 0,.pt 176 0,.pt 256 0,.pt 320 0,.pt 336 0,.pt 384 0,(.ci (.clo 123 [(432,0)]))] [48,160,176,256,320,336,384,416,432] [(eF_ [(.ob (.p (0:Fp))),(.ob (.p (0:Fp))),(.ob (.p (0:Fp))),(.ob (.p (0:Fp))),(.ob (.p (0:Fp))),(.ob (.p (0:Fp))),(.ob (.p (0:Fp))),(.ob (.p (0:Fp))),(.ob (.p (0:Fp))),(.ob (.p (0:Fp))),(.ob (.p (0:Fp))),(.ob (.p (0:Fp)))]),some (.fl [.ob (.p x)]),some (.fl [.ob (.p y)]),some (.fl (L9 q)),some (.fl (L9 t)),some (.fl (D5 f)),some (.fl [.lit fb]),(eQ_ (.u64 [(15132376222941642752:Int)])),(eF_ [(.slc 416 0 1 1)])] 496 [] []
theorem miA (x y:Fp) (q t:F2×F2×F2) (f:F12) (fb z:Bool) {ρ:Option Nat}:let a:Fp:=0;let b:=Prod.snd q;let d:=Prod.snd t;(A9 [])->(Sim w0 F0 K ac (X6 (miS x y q t f fb) [(24,.v (.c (.bool z)))]) cX aX)->(∀cY aY,Sim w0 F0 K ac (B2 49 [4,5,6,7,8,9,10,11] [.pt 48 0,.pt 160 0,.pt 176 0,.pt 256 0,.pt 320 0,.pt 336 0,.pt 384 0,(.ci (.bool z))] [48,160,176,256,320,336,384,416,432] [(eF_ [(.ob (.p a)),(.ob (.p a)),(.ob (.p a)),(.ob (.p a)),(.ob (.p a)),(.ob (.p a)),(.ob (.p a)),(.ob (.p a)),(.ob (.p a)),(.ob (.p a)),(.ob (.p a)),(.ob (.p a))]),(eF_ [.ob (.p x)]),(eF_ [.ob (.p y)]),(eF_ [(.ob (.p (Prod.fst (Prod.fst q)))),(.ob (.p (Prod.snd (Prod.fst q)))),(.ob (.p (Prod.fst (Prod.fst b)))),(.ob (.p (Prod.snd (Prod.fst b)))),(.ob (.p (Prod.fst (Prod.snd b)))),(.ob (.p (Prod.snd (Prod.snd b))))]),(eF_ [(.ob (.p (Prod.fst (Prod.fst t)))),(.ob (.p (Prod.snd (Prod.fst t)))),(.ob (.p (Prod.fst (Prod.fst d)))),(.ob (.p (Prod.snd (Prod.fst d)))),(.ob (.p (Prod.fst (Prod.snd d)))),(.ob (.p (Prod.snd (Prod.snd d))))]),(eF_ (D5 f)),(eF_ [(.lit fb)]),(eQ_ (.u64 [(15132376222941642752:Int)])),(eF_ [(.slc 416 0 1 1)])] 512 [[4,5,6,7,8,9,10,23]] [([.pt 48 0,.pt 160 0,.pt 176 0,.pt 256 0,.pt 320 0,.pt 336 0,.pt 384 0,(.ci (.clo 123 [(432,0)]))],49)]) cY aY->Wq Tryz.prog Q ([]) ac Exit.normal aY cY.w ρ)->Wq Tryz.prog Q ([.code (rfA C3w)]) ac .normal aX cX.w ρ :=fun ho hs hK=>
 G4 (unroll:=false) (n:=3000) (path:=[]) (o:=⟨_,_,_,_,_,_,_⟩) X9 (by kernel_rfl) (by kernel_rfl) ho (by kernel_rfl) (by kernel_rfl) hs hK
def miB (x y:Fp) (q t:F2×F2×F2) (f:F12) (fb z:Bool):St:=B2 49 [4,5,6,7,8,9,10,11] [.pt 48 0,.pt 160 0,.pt 176 0,.pt 256 0,.pt 320 0,.pt 336 0,.pt 384 0,(.ci (.bool z))] [48,160,176,256,320,336,384,416,432] [(eF_ [(.ob (.p (0:Fp))),(.ob (.p (0:Fp))),(.ob (.p (0:Fp))),(.ob (.p (0:Fp))),(.ob (.p (0:Fp))),(.ob (.p (0:Fp))),(.ob (.p (0:Fp))),(.ob (.p (0:Fp))),(.ob (.p (0:Fp))),(.ob (.p (0:Fp))),(.ob (.p (0:Fp))),(.ob (.p (0:Fp)))]),some (.fl [.ob (.p x)]),some (.fl [.ob (.p y)]),some (.fl (L9 q)),some (.fl (L9 t)),some (.fl (D5 f)),some (.fl [.lit fb]),(eQ_ (.u64 [(15132376222941642752:Int)])),(eF_ [(.slc 416 0 1 1)])] 512 [[4,5,6,7,8,9,10,23]] [([.pt 48 0,.pt 160 0,.pt 176 0,.pt 256 0,.pt 320 0,.pt 336 0,.pt 384 0,(.ci (.clo 123 [(432,0)]))],49)]
theorem miF (x y:Fp) (q t:F2×F2×F2) (f:F12) (z:Bool) {ρ:Option Nat}:let a:Fp:=0;let b:=Prod.snd q;let c:=Prod.snd t;(A9 [])->(Sim w0 F0 K ac (miB x y q t f true z) cX aX)->(∀cY aY,Sim w0 F0 K ac (B2 49 [4] [.pt 48 0] [48,160,176,256,320,336,384,416,432] [(eF_ [(.ob (.p a)),(.ob (.p a)),(.ob (.p a)),(.ob (.p a)),(.ob (.p a)),(.ob (.p a)),(.ob (.p a)),(.ob (.p a)),(.ob (.p a)),(.ob (.p a)),(.ob (.p a)),(.ob (.p a))]),(eF_ [.ob (.p x)]),(eF_ [.ob (.p y)]),(eF_ [(.ob (.p (Prod.fst (Prod.fst q)))),(.ob (.p (Prod.snd (Prod.fst q)))),(.ob (.p (Prod.fst (Prod.fst b)))),(.ob (.p (Prod.snd (Prod.fst b)))),(.ob (.p (Prod.fst (Prod.snd b)))),(.ob (.p (Prod.snd (Prod.snd b))))]),(eF_ [(.ob (.p (Prod.fst (Prod.fst t)))),(.ob (.p (Prod.snd (Prod.fst t)))),(.ob (.p (Prod.fst (Prod.fst c)))),(.ob (.p (Prod.snd (Prod.fst c)))),(.ob (.p (Prod.fst (Prod.snd c)))),(.ob (.p (Prod.snd (Prod.snd c))))]),(eF_ (D5 f)),(eF_ [(.lit false)]),(eQ_ (.u64 [(15132376222941642752:Int)])),(eF_ [(.slc 416 0 1 1)])] 544 [[4,5,6,7,8,9,10,23]] [([.pt 48 0,.pt 160 0,.pt 176 0,.pt 256 0,.pt 320 0,.pt 336 0,.pt 384 0,(.ci (.clo 123 [(432,0)]))],49)]) cY aY->Wq Tryz.prog Q ([]) ac Exit.normal aY cY.w ρ)->Wq Tryz.prog Q ([.code (rfB C3w)]) ac .normal aX cX.w ρ :=fun ho hs hK=>
 G4 (unroll:=false) (n:=3000) (path:=[]) (o:=⟨_,_,_,_,_,_,_⟩) X9 (by kernel_rfl) (by kernel_rfl) ho (by kernel_rfl) (by kernel_rfl) hs hK
theorem miT (x y:Fp) (q t:F2×F2×F2) (f:F12) (z:Bool) {ρ:Option Nat}:let b:Fp:=0;let c:=Prod.snd q;let d:=jpl (jtw t) q;let a:=Prod.snd d;(A9 [(z=true)])->(Sim w0 F0 K ac (miB x y q t f false z) cX aX)->(∀cY aY,Sim w0 F0 K ac (B2 49 [4] [.pt 48 0] [48,160,176,256,320,336,384,416,432] [(eF_ [(.ob (.p b)),(.ob (.p b)),(.ob (.p b)),(.ob (.p b)),(.ob (.p b)),(.ob (.p b)),(.ob (.p b)),(.ob (.p b)),(.ob (.p b)),(.ob (.p b)),(.ob (.p b)),(.ob (.p b))]),(eF_ [.ob (.p x)]),(eF_ [.ob (.p y)]),(eF_ [(.ob (.p (Prod.fst (Prod.fst q)))),(.ob (.p (Prod.snd (Prod.fst q)))),(.ob (.p (Prod.fst (Prod.fst c)))),(.ob (.p (Prod.snd (Prod.fst c)))),(.ob (.p (Prod.fst (Prod.snd c)))),(.ob (.p (Prod.snd (Prod.snd c))))]),(eF_ [(.ob (.p (Prod.fst (Prod.fst d)))),(.ob (.p (Prod.snd (Prod.fst d)))),(.ob (.p (Prod.fst (Prod.fst a)))),(.ob (.p (Prod.snd (Prod.fst a)))),(.ob (.p (Prod.fst (Prod.snd a)))),(.ob (.p (Prod.snd (Prod.snd a))))]),(eF_ (D5 (((f*f)*(tch t x y))*(thg (jtw t) q x y)))),(eF_ [(.lit false)]),(eQ_ (.u64 [(15132376222941642752:Int)])),(eF_ [(.slc 416 0 1 1)])] 928 [[4,5,6,7,8,9,10,23]] [([.pt 48 0,.pt 160 0,.pt 176 0,.pt 256 0,.pt 320 0,.pt 336 0,.pt 384 0,(.ci (.clo 123 [(432,0)]))],49)]) cY aY->Wq Tryz.prog Q ([]) ac Exit.normal aY cY.w ρ)->Wq Tryz.prog Q ([.code (rfB C3w)]) ac .normal aX cX.w ρ :=fun ho hs hK=>
 G4 (unroll:=false) (n:=3000) (path:=[true]) (o:=⟨_,_,_,_,_,_,_⟩) X9 (by kernel_rfl) (by kernel_rfl) ho (by kernel_rfl) (by kernel_rfl) hs hK
theorem miN (x y:Fp) (q t:F2×F2×F2) (f:F12) (z:Bool) {ρ:Option Nat}:let a:Fp:=0;let b:=Prod.snd (jtw t);let c:=Prod.snd q;let d:=Prod.fst (jtw t);(A9 [(z=false)])->(Sim w0 F0 K ac (miB x y q t f false z) cX aX)->(∀cY aY,Sim w0 F0 K ac (B2 49 [4] [.pt 48 0] [48,160,176,256,320,336,384,416,432] [(eF_ [(.ob (.p a)),(.ob (.p a)),(.ob (.p a)),(.ob (.p a)),(.ob (.p a)),(.ob (.p a)),(.ob (.p a)),(.ob (.p a)),(.ob (.p a)),(.ob (.p a)),(.ob (.p a)),(.ob (.p a))]),(eF_ [.ob (.p x)]),(eF_ [.ob (.p y)]),(eF_ [(.ob (.p (Prod.fst (Prod.fst q)))),(.ob (.p (Prod.snd (Prod.fst q)))),(.ob (.p (Prod.fst (Prod.fst c)))),(.ob (.p (Prod.snd (Prod.fst c)))),(.ob (.p (Prod.fst (Prod.snd c)))),(.ob (.p (Prod.snd (Prod.snd c))))]),(eF_ [(.ob (.p (Prod.fst d))),(.ob (.p (Prod.snd d))),(.ob (.p (Prod.fst (Prod.fst b)))),(.ob (.p (Prod.snd (Prod.fst b)))),(.ob (.p (Prod.fst (Prod.snd b)))),(.ob (.p (Prod.snd (Prod.snd b))))]),(eF_ (D5 ((f*f)*(tch t x y)))),(eF_ [(.lit false)]),(eQ_ (.u64 [(15132376222941642752:Int)])),(eF_ [(.slc 416 0 1 1)])] 736 [[4,5,6,7,8,9,10,23]] [([.pt 48 0,.pt 160 0,.pt 176 0,.pt 256 0,.pt 320 0,.pt 336 0,.pt 384 0,(.ci (.clo 123 [(432,0)]))],49)]) cY aY->Wq Tryz.prog Q ([]) ac Exit.normal aY cY.w ρ)->Wq Tryz.prog Q ([.code (rfB C3w)]) ac .normal aX cX.w ρ :=fun ho hs hK=>
 G4 (unroll:=false) (n:=3000) (path:=[false]) (o:=⟨_,_,_,_,_,_,_⟩) X9 (by kernel_rfl) (by kernel_rfl) ho (by kernel_rfl) (by kernel_rfl) hs hK
theorem miX (x y:Fp) (q t:F2×F2×F2) (f:F12) (fb:Bool) (ho:A9 []):Sg Tryz.prog (miS x y q t f fb) (B2 49 [4] [.pt 48 0] [48] [(eF_ (D5 (cjp f)))] 544 [] []) .ret ([]) (rfR C3w):=fun hs hK=>
 B1 (unroll:=false) (n:=3000) (path:=[]) (o:=⟨_,_,_,_,_,_,_⟩) X9 (by kernel_rfl) (by kernel_rfl) ho hs hK
def miE (x y:Fp) (q t:F2×F2×F2) (f:F12) (fb z:Bool):St:=B2 49 [4] [.pt 48 0] [48,160,176,256,320,336,384,416,432] [(eF_ [(.ob (.p (0:Fp))),(.ob (.p (0:Fp))),(.ob (.p (0:Fp))),(.ob (.p (0:Fp))),(.ob (.p (0:Fp))),(.ob (.p (0:Fp))),(.ob (.p (0:Fp))),(.ob (.p (0:Fp))),(.ob (.p (0:Fp))),(.ob (.p (0:Fp))),(.ob (.p (0:Fp))),(.ob (.p (0:Fp)))]),some (.fl [.ob (.p x)]),some (.fl [.ob (.p y)]),some (.fl (L9 q)),some (.fl (L9 t)),some (.fl (D5 f)),some (.fl [.lit fb]),(eQ_ (.u64 [(15132376222941642752:Int)])),(eF_ [(.slc 416 0 1 1)])] 928 [[4,5,6,7,8,9,10,23]] [([.pt 48 0,.pt 160 0,.pt 176 0,.pt 256 0,.pt 320 0,.pt 336 0,.pt 384 0,(.ci (.clo 123 [(432,0)]))],49)]
def miZ (f:F12):St:=B2 49 [4] [.pt 48 0] [48] [some (.fl (D5 f))] 544 [] []
theorem G3h (f:F12):J7 uyC Tryz.f73 false 3000 (⟨[],.ret,miZ f⟩) [] [] []=(some ([],((.v (.a (D5 f))),[]))):=by kernel_rfl
end
end

section

/-- One turn of the loop, behind the first. -/
def mst (x y:Fp) (q:F2×F2×F2) (s:(F2×F2×F2)×F12) (z:Bool):(F2×F2×F2)×F12:=
 if z=true then (jpl (jtw s.1) q,s.2*s.2*tch s.1 x y*thg (jtw s.1) q x y) else (jtw s.1,s.2*s.2*tch s.1 x y)
def mls (x y:Fp) (q:F2×F2×F2) (l:List Bool):(F2×F2×F2)×F12:=l.tail.foldl (mst x y q) (q,1)
def Z3:Nat:=15132376222941642752
/-- The loop's value. -/
def mil (x y:Fp) (q:F2×F2×F2):F12:=cjp (mls x y q (btL Z3 64 64)).2
theorem G3q (x y:Fp) (q:F2×F2×F2) (z:Bool):mls x y q ([]++[z])=(q,1):=rfl
theorem C5b {α β:Type} (f:β->α->β) (s:β) (l:List α) (z:α):(l++[z]).foldl f s=f (l.foldl f s) z:=by
 rw[List.foldl_append];rfl
theorem F4v (x y:Fp) (q:F2×F2×F2) (u:Bool) (l:List Bool) (z:Bool):mls x y q (u::l++[z])=mst x y q (mls x y q (u::l)) z:=C5b (mst x y q) (q,1) l z
theorem H8m (x y:Fp) (q:F2×F2×F2) (s:(F2×F2×F2)×F12):mst x y q s true=(jpl (jtw s.1) q,s.2*s.2*tch s.1 x y*thg (jtw s.1) q x y):=rfl
theorem H8l (x y:Fp) (q:F2×F2×F2) (s:(F2×F2×F2)×F12):mst x y q s false=(jtw s.1,s.2*s.2*tch s.1 x y):=rfl
theorem F4r:K7 [15132376222941642752] 1=64:=by decide +kernel
theorem G3k:O9 [15132376222941642752]=Z3:=by decide +kernel

theorem D8x (xa ya a b c d:U6) (i j:Bool) :
  FnD Tryz.prog 73 [.v (.a [.ob (.fp xa),.ob (.fp ya),.bool i]),.v (.a [.ob (.fp a),.ob (.fp b),.ob (.fp c),.ob (.fp d),.bool j])] (.v (.a (D5 (mil (inP xa) (inP ya) (A3x ⟨a,b,c,d,j⟩))))) []:=by
 refine T9 (fn:=Tryz.f73) (c:=C5 Tryz.f73) Tryz.func73 rfl rfl fun X B hk hF hs=>?_
 refine mi xa ya a b c d i j trivial hs fun ac cY aY hs1=>?_
 generalize A3x ⟨a,b,c,d,j⟩=q at hs1 ⊢
 generalize inP xa=x at hs1 ⊢
 generalize inP ya=y at hs1 ⊢
 obtain ⟨e1,e2⟩:=A2v (k:=C3w) (by kernel_rfl)
 rw[e1];have eP:(rfP C3w).toList=[24]:=by kernel_rfl
 have eG:rfG C3w = .tmp 23:=by kernel_rfl
 have hit:A8e Tryz.prog cY 123 [(432,0)] B6d (btL Z3 64 64) fun pre=>(miS x y q (mls x y q pre).1 (mls x y q pre).2 pre.isEmpty).m:=by
  have h:=A7f (x:=cY) (p:=432) (e:=[15132376222941642752]) (M:=fun _=>fzM 432 (.u64 [15132376222941642752])) (by decide) (fun v hv=>by simp only[List.mem_cons,List.not_mem_nil,or_false] at hv;subst hv;decide) (fun s=>rfl)
  rw[G3k] at h;rw[show K7 [15132376222941642752] ([15132376222941642752]:List Int).length=64 from F4r] at h
  exact h.freeze (len:=1) (es:=1) (pb:=416) (fun s=>rfl) (fun s=>rfl) rfl
 refine Z6 (ps:=rfP C3w) e2 hs1 (gf:=123) (caps:=[(432,0)]) (A5 Tryz.func123 rfl rfl) (fun pre=>miS x y q (mls x y q pre).1 (mls x y q pre).2 pre.isEmpty) (fun s=>by rw[eG];rfl) ⟨_,rfl⟩ (btL Z3 64 64) C7f B6d
  (fun y z=>.cons ⟨rfl,0,rfl⟩ .nil) (fun z=>by rw[<-Array.length_toList,eP];rfl) (fun pre p hp=>?_) hit (fun pre z=>miB x y q (mls x y q pre).1 (mls x y q pre).2 pre.isEmpty z)
  (fun pre z=>miE x y q (mls x y q (pre++[z])).1 (mls x y q (pre++[z])).2 false z) (fun pre z=>⟨_,by
   have:(pre++[z]).isEmpty=false:=by cases pre<;>rfl
   rw[this];rfl⟩) (fun pre z hz w1 F1 K1 as1 Q1 l Y b hs2 hQ=>?_) (fun pre z hz w1 F1 K1 as1 Q1 l Y b hs2 hQ=>?_) fun D Y hs2 hD hFD hd=>?_
 ·rw[eP] at hp
  simp only[List.mem_cons,List.not_mem_nil,or_false] at hp;subst hp;show 24<49;decide
 ·rw[eP] at hs2
  exact miA x y q _ _ _ z trivial hs2 fun cZ aZ hs3=>⟨hQ _ _ (hs3.nx _)⟩
 ·cases pre with
  | nil=>
   rw[G3q] at hQ;exact miF x y q _ _ z trivial hs2 fun cZ aZ hs3=>⟨hQ _ _ (hs3.nx _)⟩
  | cons u l=>
   rw[F4v] at hQ
   cases z with
   | true=>
    rw[H8m] at hQ;exact miT x y q _ _ true ⟨rfl,trivial⟩ hs2 fun cZ aZ hs3=>⟨hQ _ _ (hs3.nx _)⟩
   | false=>
    rw[H8l] at hQ;exact miN x y q _ _ false ⟨rfl,trivial⟩ hs2 fun cZ aZ hs3=>⟨hQ _ _ (hs3.nx _)⟩
 ·have hs3:=hs2.marked rfl rfl D
  unfold mil;generalize (mls x y q (btL Z3 64 64)).1=t at hs2 hs3;generalize (mls x y q (btL Z3 64 64)).2=o at hs2 hs3 ⊢
  refine miX x y q t o _ trivial hs3 fun ac cV aV hs6=>⟨?_⟩
  have hs7:Sim Y.w Y.F (U1 Y Y8 (H8 D)) ac (miZ (cjp o)) cV aV:=hs6;exact Y6 X9 hk hF (G3h (cjp o)) trivial (fun y v hd=>hd) hs2 hD hFD hd rfl hs7
end

end
end Go.Proofs.YtefimjofjjdndaaGreat
