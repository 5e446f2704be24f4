/- Parts of a proof, one behind the other: WStim, PStim, WSrdc, PSrdc, WSprd, PSprd, PSprl, WSio, PSio, WSpls, PSpls, WSfr, Ji. No conditions. -/
import Derived.Test.YtefimjofjjdndaaGreatPxM
open Go.IntKind (wrap)
namespace Go.Proofs.YtefimjofjjdndaaGreat
noncomputable section
namespace S4
section
variable {w0:World} {F0:Nat->Prop} {K:Kp} {ac:List Act} {Q:Exit->Act->World->Prop} {cX:Ctx} {aX:Act}

def C3s:Env:=F1b.set (E1 F1b.fn 92 A6r)
theorem A1k:A8 Tryz.prog C3s:=
 B0 C7t 92 A6r (A5 Tryz.func92 rfl rfl) fun args o r es h ho=>by
  unfold A6r at h;split at h
  ·cases h
   obtain ⟨h1,h2,h3,h4,h5,h6,h7,h8,h9,_⟩:=ho;exact D5u _ _ _ _ h1 h2 h3 h4 h5 h6 h7 h8 h9
  ·cases h

def tc0 (x y:Fr):Cfg:=⟨[.code (C5 Tryz.f47)],.normal,F9 Tryz.f47.ntmps [.v (.a [.ob (.s x)]),.v (.a [.ob (.s y)])]⟩

def B3i:List KI:=(run C3s false 3000 ((fun (x y:Fr)=>(tc0 x y:Cfg)) default default) []).cfg.k
theorem tIn (x y:Fr):let b:=(tc0 x y:Cfg);let c:Int:=0;(A9 [])->(Sim w0 F0 K ac (b.σ) cX aX)->(∀ac cY aY,Sim w0 F0 K ac (B2 208 [3,4,5,6,7,8,18,19] [.pt 32 0,.pt 48 0,.iu c,.iu c,.iu c,.iu c,(.v (.a [.ob (.s x)])),.ii c] [32,48] [(eF_ [.ob (.s y)]),(eF_ [(.ob (.s (0:Fr)))])] 160 [] []) cY aY->Wq Tryz.prog Q (B3i) ac Exit.normal aY cY.w)->Wq Tryz.prog Q (b.k) ac b.x aX cX.w:=fun ho hs hK=>
 C2v (unroll:=false) (n:=3000) (path:=[]) (o:=⟨_,_,_,_,_,_,_⟩) A1k (by kernel_rfl) (by kernel_rfl) ho hs hK
def tS (x y:Fr) (i:Nat) (t0 t1 t2 t3:Int):St:=B2 208 [3,4,5,6,7,8,18,19] [.pt 32 0,.pt 48 0,.v (.c (.int .u64 t0)),.v (.c (.int .u64 t1)),.v (.c (.int .u64 t2)),.v (.c (.int .u64 t3)),(.v (.a [.ob (.s x)])),.v (.c (.int .i64 (i:Int)))] [32,48] [(eF_ [.ob (.s y)]),(eF_ [(.ob (.s (0:Fr)))])] 160 [] []
theorem H4d (x y:Fr) (i:Nat) (t0 t1 t2 t3:Int):let b:Int:=18446744073709551616;let c:=S4.E5 t0 t1 t2 t3;J7 C3s Tryz.f47 false 3000 (⟨G6 B3i,.normal,tS x y i t0 t1 t2 t3⟩) [false] [] []=(some ([((decide ((i:Int)<(4:Int)))=false),(0<=t0),(t0<b),(0<=t1),(t1<b),(0<=t2),(t2<b),(0<=t3),(t3<b),(c<(104871750350252380958895481016371931675381105001055275645207317399877162369026:Int))],((.v (.a [(.ob (.s (C4a (c).toNat)))])),[]))):=by intros;kernel_rfl
def F8r:List KI:=(run C3s false 77 ((fun (x y:Fr) (i:Nat) (t0 t1 t2 t3:Int)=>(⟨G6 B3i,.normal,tS x y i t0 t1 t2 t3⟩:Cfg)) default default default default default default default) [true]).cfg.k
theorem tA (x y:Fr) (i:Nat) (t0 t1 t2 t3:Int) {w0:World} {F0:Nat->Prop} {K:Kp} {ac:List Act} {Q:Exit->Act->World->Prop} {cX:Ctx} {aX:Act} (ho:A9 [((decide ((i:Int)<(4:Int)))=true),(0<=(i:Int)),((i:Int)<(4:Int)),(0<=(0:Int)),(0<(4:Int)),(0<(Ob.k (.s y))),(0<=(A0 (Ob.n (.s x)) ((i:Int)).toNat)),((A0 (Ob.n (.s x)) ((i:Int)).toNat)<(18446744073709551616:Int)),(0<=(A0 (Ob.n (.s y)) 0)),((A0 (Ob.n (.s y)) 0)<(18446744073709551616:Int)),(0<=(((A0 (Ob.n (.s x)) ((i:Int)).toNat)*(A0 (Ob.n (.s y)) 0)) % (18446744073709551616:Int))),(0<=t0),(t0<(18446744073709551616:Int)),(0<=(0:Int)),(0<=(1:Int)),(0<=(wrap .u64 ((Prod.fst (A4 0 (((A0 (Ob.n (.s x)) ((i:Int)).toNat)*(A0 (Ob.n (.s y)) 0)) % (18446744073709551616:Int)) t0 (0:Int)))*(18446744069414584319:Int)))),((wrap .u64 ((Prod.fst (A4 0 (((A0 (Ob.n (.s x)) ((i:Int)).toNat)*(A0 (Ob.n (.s y)) 0)) % (18446744073709551616:Int)) t0 (0:Int)))*(18446744069414584319:Int)))<(18446744073709551616:Int)),(0<=(18446744069414584321:Int)),((18446744069414584321:Int)<(18446744073709551616:Int)),(0<=(((wrap .u64 ((Prod.fst (A4 0 (((A0 (Ob.n (.s x)) ((i:Int)).toNat)*(A0 (Ob.n (.s y)) 0)) % (18446744073709551616:Int)) t0 (0:Int)))*(18446744069414584319:Int)))*(18446744069414584321:Int)) % (18446744073709551616:Int))),(0<=(Prod.fst (A4 0 (((A0 (Ob.n (.s x)) ((i:Int)).toNat)*(A0 (Ob.n (.s y)) 0)) % (18446744073709551616:Int)) t0 (0:Int)))),((Prod.fst (A4 0 (((A0 (Ob.n (.s x)) ((i:Int)).toNat)*(A0 (Ob.n (.s y)) 0)) % (18446744073709551616:Int)) t0 (0:Int)))<(18446744073709551616:Int)),(0<=(0:Int)),(0<=(1:Int))]) (hs:Sim w0 F0 K ac (tS x y i t0 t1 t2 t3) cX aX) (hK:∀ac cY aY,Sim w0 F0 K ac (B2 208 [3,4,6,7,8,10,14,15,17,18,19] [.pt 32 0,.pt 48 0,.iu t1,.iu t2,.iu t3,(.iu (A0 (Ob.n (.s x)) ((i:Int)).toNat)),(.iu (wrap .u64 ((((A0 (Ob.n (.s x)) ((i:Int)).toNat)*(A0 (Ob.n (.s y)) 0)) / (18446744073709551616:Int))+(Prod.snd (A4 0 (((A0 (Ob.n (.s x)) ((i:Int)).toNat)*(A0 (Ob.n (.s y)) 0)) % (18446744073709551616:Int)) t0 (0:Int)))))),(.iu (wrap .u64 ((Prod.fst (A4 0 (((A0 (Ob.n (.s x)) ((i:Int)).toNat)*(A0 (Ob.n (.s y)) 0)) % (18446744073709551616:Int)) t0 (0:Int)))*(18446744069414584319:Int)))),(.iu (wrap .u64 ((((wrap .u64 ((Prod.fst (A4 0 (((A0 (Ob.n (.s x)) ((i:Int)).toNat)*(A0 (Ob.n (.s y)) 0)) % (18446744073709551616:Int)) t0 (0:Int)))*(18446744069414584319:Int)))*(18446744069414584321:Int)) / (18446744073709551616:Int))+(Prod.snd (A4 0 (((wrap .u64 ((Prod.fst (A4 0 (((A0 (Ob.n (.s x)) ((i:Int)).toNat)*(A0 (Ob.n (.s y)) 0)) % (18446744073709551616:Int)) t0 (0:Int)))*(18446744069414584319:Int)))*(18446744069414584321:Int)) % (18446744073709551616:Int)) (Prod.fst (A4 0 (((A0 (Ob.n (.s x)) ((i:Int)).toNat)*(A0 (Ob.n (.s y)) 0)) % (18446744073709551616:Int)) t0 (0:Int))) (0:Int)))))),(.v (.a [.ob (.s x)])),(.ii (i:Int))] [32,48] [(eF_ [.ob (.s y)]),(eF_ [(.ob (.s (0:Fr)))])] 880 [] []) cY aY->Wq Tryz.prog Q (F8r) ac Exit.normal aY cY.w):Wq Tryz.prog Q (G6 B3i) ac .normal aX cX.w:=
 B1 (unroll:=false) (n:=77) (path:=[true]) (o:=⟨_,_,_,_,_,_,_⟩) A1k (by kernel_rfl) (by kernel_rfl) ho hs hK
def tS1 (x y:Fr) (i:Nat) (t1 t2 t3 xi q up dn:Int):St:=B2 208 [3,4,6,7,8,10,14,15,17,18,19] [.pt 32 0,.pt 48 0,.iu t1,.iu t2,.iu t3,.v (.c (.int .u64 xi)),.v (.c (.int .u64 up)),.v (.c (.int .u64 q)),.v (.c (.int .u64 dn)),(.v (.a [.ob (.s x)])),(.ii (i:Int))] [32,48] [(eF_ [.ob (.s y)]),(eF_ [(.ob (.s (0:Fr)))])] 880 [] []
def F8s:List KI:=(run C3s false 94 ((fun (x y:Fr) (i:Nat) (t1 t2 t3 xi q up dn:Int)=>(⟨F8r,.normal,tS1 x y i t1 t2 t3 xi q up dn⟩:Cfg)) default default default default default default default default default default) []).cfg.k
theorem tB (x y:Fr) (i:Nat) (t1 t2 t3 xi q up dn:Int):let c:Int:=18446744073709551616;let f:=A0 (Ob.n (.s y)) 1;let g:Int:=6034159408538082302;let h:Int:=0;let j:=A4 0 ((xi*f) % c) t1 h;let b:=A4 0 (Prod.fst j) up h;let l:=0<=(1:Int);let o:=Prod.fst b;let d:=A4 0 ((q*g) % c) o h;let m:=A4 0 (Prod.fst d) dn h;A9 [l,((1:Int)<(4:Int)),(1<(Ob.k (.s y))),(0<=xi),(xi<c),(0<=f),(f<c),(0<=((xi*f) % c)),(0<=t1),(t1<c),(0<=h),l,(0<=(Prod.fst j)),(0<=up),(up<c),(0<=h),l,(0<=q),(q<c),(0<=g),(g<c),(0<=((q*g) % c)),(0<=o),(o<c),(0<=h),l,(0<=(Prod.fst d)),(0<=dn),(dn<c),(0<=h),l]->Sg Tryz.prog (tS1 x y i t1 t2 t3 xi q up dn) (B2 208 [3,4,5,7,8,10,14,15,17,18,19] [.pt 32 0,.pt 48 0,(.iu (Prod.fst m)),.iu t2,.iu t3,.iu xi,(.iu (wrap .u64 ((wrap .u64 (((xi*f) / c)+(Prod.snd j)))+(Prod.snd b)))),.iu q,(.iu (wrap .u64 ((wrap .u64 (((q*g) / c)+(Prod.snd d)))+(Prod.snd m)))),(.v (.a [.ob (.s x)])),(.ii (i:Int))] [32,48] [(eF_ [.ob (.s y)]),(eF_ [(.ob (.s (0:Fr)))])] 1904 [] []) .normal (F8s) (F8r):=fun ho=>fun hs hK=>
 B1 (unroll:=false) (n:=94) (path:=[]) (o:=⟨_,_,_,_,_,_,_⟩) A1k (by kernel_rfl) (by kernel_rfl) ho hs hK
def tS2 (x y:Fr) (i:Nat) (n0 t2 t3 xi q up dn:Int):St:=B2 208 [3,4,5,7,8,10,14,15,17,18,19] [.pt 32 0,.pt 48 0,.v (.c (.int .u64 n0)),.iu t2,.iu t3,.iu xi,.v (.c (.int .u64 up)),.iu q,.v (.c (.int .u64 dn)),(.v (.a [.ob (.s x)])),(.ii (i:Int))] [32,48] [(eF_ [.ob (.s y)]),(eF_ [(.ob (.s (0:Fr)))])] 1904 [] []
def G6n:List KI:=(run C3s false 94 ((fun (x y:Fr) (i:Nat) (n0 t2 t3 xi q up dn:Int)=>(⟨F8s,.normal,tS2 x y i n0 t2 t3 xi q up dn⟩:Cfg)) default default default default default default default default default default) []).cfg.k
theorem tC (x y:Fr) (i:Nat) (n0 t2 t3 xi q up dn:Int):let c:Int:=18446744073709551616;let f:=A0 (Ob.n (.s y)) 2;let g:Int:=3691218898639771653;let h:Int:=0;let j:=A4 0 ((xi*f) % c) t2 h;let b:=A4 0 (Prod.fst j) up h;let l:=0<=(1:Int);let o:=Prod.fst b;let d:=A4 0 ((q*g) % c) o h;let m:=A4 0 (Prod.fst d) dn h;A9 [(0<=(2:Int)),((2:Int)<(4:Int)),(2<(Ob.k (.s y))),(0<=xi),(xi<c),(0<=f),(f<c),(0<=((xi*f) % c)),(0<=t2),(t2<c),(0<=h),l,(0<=(Prod.fst j)),(0<=up),(up<c),(0<=h),l,(0<=q),(q<c),(0<=g),(g<c),(0<=((q*g) % c)),(0<=o),(o<c),(0<=h),l,(0<=(Prod.fst d)),(0<=dn),(dn<c),(0<=h),l]->Sg Tryz.prog (tS2 x y i n0 t2 t3 xi q up dn) (B2 208 [3,4,5,6,8,10,14,15,17,18,19] [.pt 32 0,.pt 48 0,.iu n0,(.iu (Prod.fst m)),.iu t3,.iu xi,(.iu (wrap .u64 ((wrap .u64 (((xi*f) / c)+(Prod.snd j)))+(Prod.snd b)))),.iu q,(.iu (wrap .u64 ((wrap .u64 (((q*g) / c)+(Prod.snd d)))+(Prod.snd m)))),(.v (.a [.ob (.s x)])),(.ii (i:Int))] [32,48] [(eF_ [.ob (.s y)]),(eF_ [(.ob (.s (0:Fr)))])] 2928 [] []) .normal (G6n) (F8s):=fun ho=>fun hs hK=>
 B1 (unroll:=false) (n:=94) (path:=[]) (o:=⟨_,_,_,_,_,_,_⟩) A1k (by kernel_rfl) (by kernel_rfl) ho hs hK
def tS3 (x y:Fr) (i:Nat) (n0 n1 t3 xi q up dn:Int):St:=B2 208 [3,4,5,6,8,10,14,15,17,18,19] [.pt 32 0,.pt 48 0,.iu n0,.v (.c (.int .u64 n1)),.iu t3,.iu xi,.v (.c (.int .u64 up)),.iu q,.v (.c (.int .u64 dn)),(.v (.a [.ob (.s x)])),(.ii (i:Int))] [32,48] [(eF_ [.ob (.s y)]),(eF_ [(.ob (.s (0:Fr)))])] 2928 [] []
theorem tD (x y:Fr) (i:Nat) (n0 n1 t3 xi q up dn:Int):let c:Int:=18446744073709551616;let f:=A0 (Ob.n (.s y)) 3;let g:Int:=8353516859464449352;let h:Int:=0;let j:=A4 0 ((xi*f) % c) t3 h;let b:=A4 0 (Prod.fst j) up h;let l:=0<=(1:Int);let o:=Prod.fst b;let d:=A4 0 ((q*g) % c) o h;let m:=A4 0 (Prod.fst d) dn h;A9 [(0<=(3:Int)),((3:Int)<(4:Int)),(3<(Ob.k (.s y))),(0<=xi),(xi<c),(0<=f),(f<c),(0<=((xi*f) % c)),(0<=t3),(t3<c),(0<=h),l,(0<=(Prod.fst j)),(0<=up),(up<c),(0<=h),l,(0<=q),(q<c),(0<=g),(g<c),(0<=((q*g) % c)),(0<=o),(o<c),(0<=h),l,(0<=(Prod.fst d)),(0<=dn),(dn<c),(0<=h),l]->Sg Tryz.prog (tS3 x y i n0 n1 t3 xi q up dn) (B2 208 [3,4,5,6,7,8,18,19] [.pt 32 0,.pt 48 0,.iu n0,.iu n1,(.iu (Prod.fst m)),(.iu (wrap .u64 ((wrap .u64 ((wrap .u64 (((q*g) / c)+(Prod.snd d)))+(Prod.snd m)))+(wrap .u64 ((wrap .u64 (((xi*f) / c)+(Prod.snd j)))+(Prod.snd b)))))),(.v (.a [.ob (.s x)])),(.ii (wrap .i64 ((i:Int)+1)))] [32,48] [(eF_ [.ob (.s y)]),(eF_ [(.ob (.s (0:Fr)))])] 4048 [] []) .normal (S5 B3i) (G6n):=fun ho=>fun hs hK=>
 B1 (unroll:=false) (n:=3000) (path:=[]) (o:=⟨_,_,_,_,_,_,_⟩) A1k (by kernel_rfl) (by kernel_rfl) ho hs hK
end
end S4

namespace S4

/-- Ahead of the i-th round. -/
structure I0g (x y:Fr) (i:Nat) (t0 t1 t2 t3:Int):Prop where
 i4:i<=4
 h0:0<=t0∧t0<18446744073709551616
 h1:0<=t1∧t1<18446744073709551616
 h2:0<=t2∧t2<18446744073709551616
 h3:0<=t3∧t3<18446744073709551616
 lt:E5 t0 t1 t2 t3<2*rN
 eq:∃Q:Nat,E5 t0 t1 t2 t3*((2 ^ (64*i):Nat):Int)=(((Ob.s x).n % 2 ^ (64*i):Nat):Int)*((Ob.s y).n:Int)+(Q:Int)*(rN:Int)

theorem B5s (x:Fr):(Ob.s x).n<rN:=Nat.mod_lt _ (by decide)

theorem F8d {x y:Fr} {i Q:Nat} {T T' q:Int} (hq:0<=q) (h:T*((2 ^ (64*i):Nat):Int)=(((Ob.s x).n % 2 ^ (64*i):Nat):Int)*((Ob.s y).n:Int)+(Q:Int)*(rN:Int))
  (h' : 18446744073709551616*T' = T+A0 (Ob.s x).n i*((Ob.s y).n:Int)+q*(rN:Int)) :
  ∃Q:Nat,T' * ((2 ^ (64*(i+1)):Nat):Int)=(((Ob.s x).n % 2 ^ (64*(i+1)):Nat):Int)*((Ob.s y).n:Int)+(Q:Int)*(rN:Int):=by
 obtain ⟨q,rfl⟩:=Int.eq_ofNat_of_zero_le hq;refine ⟨Q+q*2 ^ (64*i),?_⟩
 rw[C1e];have hp:(2:Nat) ^ (64*(i+1))=2 ^ (64*i)*18446744073709551616:=by rw[Nat.mul_add,Nat.pow_add]
 rw[hp];have hl:A0 (Ob.s x).n i=(((Ob.s x).n / 2 ^ (64*i) % 18446744073709551616:Nat):Int):=rfl;rw[hl] at h'
 generalize (Ob.s x).n / 2 ^ (64*i) % 18446744073709551616=xi at *;generalize (Ob.s x).n % 2 ^ (64*i)=X at *;generalize (Ob.s y).n=Y at *;generalize 2 ^ (64*i)=m at *;generalize rN=r at *;have e1:T' * ((m*18446744073709551616:Nat):Int)=(18446744073709551616*T')*(m:Int):=by
  rw[Int.natCast_mul,Int.mul_comm (m:Int),<-Int.mul_assoc,Int.mul_comm T'];rfl
 rw[e1,h',Int.add_mul,Int.add_mul,h];push_cast
 simp only[Int.add_mul,Int.mul_assoc];have e2:(xi:Int)*((Y:Int)*(m:Int))=(m:Int)*((xi:Int)*(Y:Int)):=by rw[<-Int.mul_assoc,Int.mul_comm]
 have e3:(q:Int)*((r:Int)*(m:Int))=(q:Int)*((m:Int)*(r:Int)):=by rw[Int.mul_comm (r:Int)]
 rw[e2,e3];omega

theorem D4q (z a b c d:Int):z*E5 a b c d=z*a+18446744073709551616*(z*b)+340282366920938463463374607431768211456*(z*c)+6277101735386680763835789423207666416102355444464034512896*(z*d):=by
 unfold E5;simp only[Int.mul_add,Int.mul_left_comm z]

def Lim (a:Int):Prop:=0<=a∧a<18446744073709551616

theorem C3m (n:Int):Lim (wrap IntKind.u64 n):=by
 unfold Lim;rw[C3l];omega

section
variable {w0:World} {F0:Nat->Prop} {K:Kp} {ac:List Act} {Q:Exit->Act->World->Prop} {cX:Ctx} {aX:Act}

theorem H3r (x y:Fr) (i:Nat) {t0 t1 t2 t3:Int} (hi:i<4) (h0:Lim t0) (hx:Lim (A0 (Ob.s x).n i)) (hy:Lim (A0 (Ob.s y).n 0)) (hs:Sim w0 F0 K ac (tS x y i t0 t1 t2 t3) cX aX)
  (k:∀lo up q dn:Int,A0 (Ob.s x).n i*A0 (Ob.s y).n 0+t0=lo+18446744073709551616*up->q*18446744069414584321+lo=18446744073709551616*dn->Lim lo->Lim up->Lim q->Lim dn ->
   ∀ac cY aY,Sim w0 F0 K ac (tS1 x y i t1 t2 t3 (A0 (Ob.s x).n i) q up dn) cY aY->Wq Tryz.prog Q F8r ac .normal aY cY.w):Wq Tryz.prog Q (G6 B3i) ac .normal aX cX.w:=by
 obtain ⟨a0,b0⟩:=h0;obtain ⟨x0,x1⟩:=hx;obtain ⟨y0,y1⟩:=hy;have e1:=E6s x0 x1 y0 y1 a0 b0;have sA:=@tA x y i t0 t1 t2 t3 w0 F0 K ac Q cX aX;rw[Int.toNat_natCast] at sA;generalize A0 (Ob.s x).n i=xi at *;obtain ⟨e1,l1,u1⟩:=e1;have hq:=C3m ((A4 0 ((xi*A0 (Ob.s y).n 0) % 18446744073709551616) t0 0).1*18446744069414584319);have e2:=E6s (b:=18446744069414584321) hq.1 hq.2 (by decide) (by decide) l1.1 l1.2
 have e3:=D4l (l:=(A4 0 ((xi*A0 (Ob.s y).n 0) % 18446744073709551616) t0 0).1) rfl;refine sA ?_ hs fun ac cY aY h=>?_
 ·refine ⟨by simp only[decide_eq_true_eq];omega,by omega,by omega,by decide,by decide,by show (0:Nat)<4;decide,x0,x1,y0,y1,by omega,a0,b0,by decide,by decide,hq.1,hq.2,by decide,by decide,by omega,l1.1,l1.2,by decide,by decide,trivial⟩
 ·refine k _ _ _ _ e1 ?_ l1 u1 hq e2.2.2 ac cY aY h
  have:=e2.1
  have:=e2.2.1
  omega

theorem H3s (x y:Fr) (i:Nat) {t1 t2 t3 xi q up dn:Int} (ht:Lim t1) (hx:Lim xi) (hq:Lim q) (hu:Lim up) (hd:Lim dn) (hy:Lim (A0 (Ob.s y).n 1)) (hs:Sim w0 F0 K ac (tS1 x y i t1 t2 t3 xi q up dn) cX aX)
  (k:∀lo up' n dn' : Int,xi*A0 (Ob.s y).n 1+t1+up=lo+18446744073709551616*up' -> q*6034159408538082302+lo+dn=n+18446744073709551616*dn' -> Lim lo->Lim up' -> Lim n->Lim dn' ->
   ∀ac cY aY,Sim w0 F0 K ac (tS2 x y i n t2 t3 xi q up' dn') cY aY->Wq Tryz.prog Q (F8s) ac .normal aY cY.w):Wq Tryz.prog Q F8r ac .normal aX cX.w:=by
 obtain ⟨e1,l1,u1,m1⟩:=mac hx.1 hx.2 hy.1 hy.2 ht.1 ht.2 hu.1 hu.2;obtain ⟨e2,l2,u2,m2⟩:=mac (b:=6034159408538082302) hq.1 hq.2 (by decide) (by decide) l1.1 l1.2 hd.1 hd.2
 refine tB x y i t1 t2 t3 xi q up dn ?_ hs fun ac cY aY h=>?_
 ·refine ⟨by decide,by decide,by show 1<4;decide,hx.1,hx.2,hy.1,hy.2,by omega,ht.1,ht.2,by decide,by decide,m1.1,hu.1,hu.2,by decide,by decide,hq.1,hq.2,by decide,by decide,by omega,l1.1,l1.2,by decide,by decide,m2.1,hd.1,hd.2,by decide,by decide,trivial⟩
 ·exact k _ _ _ _ e1 e2 l1 u1 l2 u2 ac cY aY h

theorem H3t (x y:Fr) (i:Nat) {n0 t2 t3 xi q up dn:Int} (ht:Lim t2) (hx:Lim xi) (hq:Lim q) (hu:Lim up) (hd:Lim dn) (hy:Lim (A0 (Ob.s y).n 2)) (hs:Sim w0 F0 K ac (tS2 x y i n0 t2 t3 xi q up dn) cX aX)
  (k:∀lo up' n dn' : Int,xi*A0 (Ob.s y).n 2+t2+up=lo+18446744073709551616*up' -> q*3691218898639771653+lo+dn=n+18446744073709551616*dn' -> Lim lo->Lim up' -> Lim n->Lim dn' ->
   ∀ac cY aY,Sim w0 F0 K ac (tS3 x y i n0 n t3 xi q up' dn') cY aY->Wq Tryz.prog Q (G6n) ac .normal aY cY.w):Wq Tryz.prog Q F8s ac .normal aX cX.w:=by
 obtain ⟨e1,l1,u1,m1⟩:=mac hx.1 hx.2 hy.1 hy.2 ht.1 ht.2 hu.1 hu.2;obtain ⟨e2,l2,u2,m2⟩:=mac (b:=3691218898639771653) hq.1 hq.2 (by decide) (by decide) l1.1 l1.2 hd.1 hd.2
 refine tC x y i n0 t2 t3 xi q up dn ?_ hs fun ac cY aY h=>?_
 ·refine ⟨by decide,by decide,by show 2<4;decide,hx.1,hx.2,hy.1,hy.2,by omega,ht.1,ht.2,by decide,by decide,m1.1,hu.1,hu.2,by decide,by decide,hq.1,hq.2,by decide,by decide,by omega,l1.1,l1.2,by decide,by decide,m2.1,hd.1,hd.2,by decide,by decide,trivial⟩
 ·exact k _ _ _ _ e1 e2 l1 u1 l2 u2 ac cY aY h

theorem H3u (x y:Fr) (i:Nat) (hi:i<4) {n0 n1 t3 xi q up dn:Int} (ht:Lim t3) (hx:Lim xi) (hq:Lim q) (hu:Lim up) (hd:Lim dn) (hy:Lim (A0 (Ob.s y).n 3)) (hs:Sim w0 F0 K ac (tS3 x y i n0 n1 t3 xi q up dn) cX aX)
  (k:∀lo up' n dn' : Int,xi*A0 (Ob.s y).n 3+t3+up=lo+18446744073709551616*up' -> q*8353516859464449352+lo+dn=n+18446744073709551616*dn' -> Lim lo->Lim up' -> Lim n->Lim dn' ->
   ∀ac cY aY,Sim w0 F0 K ac (tS x y (i+1) n0 n1 n (wrap IntKind.u64 (dn' + up'))) cY aY->Wq Tryz.prog Q (S5 B3i) ac .normal aY cY.w):Wq Tryz.prog Q G6n ac .normal aX cX.w:=by
 obtain ⟨e1,l1,u1,m1⟩:=mac hx.1 hx.2 hy.1 hy.2 ht.1 ht.2 hu.1 hu.2;obtain ⟨e2,l2,u2,m2⟩:=mac (b:=8353516859464449352) hq.1 hq.2 (by decide) (by decide) l1.1 l1.2 hd.1 hd.2
 refine tD x y i n0 n1 t3 xi q up dn ?_ hs fun ac cY aY h=>?_
 ·refine ⟨by decide,by decide,by show 3<4;decide,hx.1,hx.2,hy.1,hy.2,by omega,ht.1,ht.2,by decide,by decide,m1.1,hu.1,hu.2,by decide,by decide,hq.1,hq.2,by decide,by decide,by omega,l1.1,l1.2,by decide,by decide,m2.1,hd.1,hd.2,by decide,by decide,trivial⟩
 ·exact k _ _ _ _ e1 e2 l1 u1 l2 u2 ac cY aY ((by rw[C9 (by omega) (by omega)] at h;exact h.nx _))

end

theorem E3g {T:Int} (hT:0<=T) {b X Y Q r:Nat} (h:T*(b:Int)=(X:Int)*(Y:Int)+(Q:Int)*(r:Int)):T.toNat*b=X*Y+Q*r:=by
 rw[<-Int.toNat_of_nonneg hT] at h
 exact_mod_cast h

theorem E8p (x y:Fr):FnD Tryz.prog 47 [.v (.a [.ob (.s x)]),.v (.a [.ob (.s y)])] (.v (.a [.ob (.s (x*y))])) []:=by
 refine A0n (fn:=Tryz.f47) (c:=C5 Tryz.f47) Tryz.func47 rfl rfl fun cx ca hk hF hs=>?_
 refine tIn x y trivial hs fun ac cY aY hs1=>?_
 refine I3 (ι:={ p:Nat×Int×Int×Int×Int // I0g x y p.1 p.2.1 p.2.2.1 p.2.2.2.1 p.2.2.2.2 }) (fun p=>tS x y p.1.1 p.1.2.1 p.1.2.2.1 p.1.2.2.2.1 p.1.2.2.2.2) (fun p=>4-p.1.1) (c:=lpC B3i) (k:=lpR B3i) (by kernel_rfl) (fun p ih ac cY aY hs=>?_)
  ⟨(0,0,0,0,0),⟨by decide,by decide,by decide,by decide,by decide,by decide,0,by simp [E5,Nat.mod_one]⟩⟩ hs1
 obtain ⟨⟨i,t0,t1,t2,t3⟩,hI⟩:=p;simp only at ih hs hI
 obtain ⟨hi,⟨a0,b0⟩,⟨a1,b1⟩,⟨a2,b2⟩,⟨a3,b3⟩,hlt,Q,hQ⟩:=hI;obtain ⟨ey,y0,y0',y1,y1',y2,y2',y3,y3'⟩:=A0p (Ob.s y).n (Nat.lt_trans (B5s y) (by decide))
 have hyr:((Ob.s y).n:Int)<(rN:Int):=by exact_mod_cast B5s y
 by_cases h5:i<4
 ·have hx0:0<=A0 (Ob.s x).n i:=Int.natCast_nonneg _
  have hx1:A0 (Ob.s x).n i<18446744073709551616:=by
   show (((Ob.s x).n / 2 ^ (64*i) % 18446744073709551616:Nat):Int)<18446744073709551616;omega
  have hround:=fun T' q hq=>F8d (x:=x) (y:=y) (i:=i) (Q:=Q) (T:=E5 t0 t1 t2 t3) (T' := T') (q:=q) hq hQ
  have hyn:((Ob.s y).n:Int)=E5 (A0 (Ob.s y).n 0) (A0 (Ob.s y).n 1) (A0 (Ob.s y).n 2) (A0 (Ob.s y).n 3):=ey;have hzz:A0 (Ob.s x).n i*((Ob.s y).n:Int)<=18446744073709551615*((Ob.s y).n:Int):=Int.mul_le_mul_of_nonneg_right (by omega) (by omega)
  have hz0:0<=A0 (Ob.s x).n i*((Ob.s y).n:Int):=Int.mul_nonneg hx0 (by omega)
  have hmul:=D4q (A0 (Ob.s x).n i) (A0 (Ob.s y).n 0) (A0 (Ob.s y).n 1) (A0 (Ob.s y).n 2) (A0 (Ob.s y).n 3);rw[<-hyn] at hmul;refine H3r x y i h5 ⟨a0,b0⟩ ⟨hx0,hx1⟩ ⟨y0,y0'⟩ hs fun lo0 up0 q dn0 eA eQ hlo0 hup0 hq hdn0 ac cY aY hs=>?_
  refine H3s x y i ⟨a1,b1⟩ ⟨hx0,hx1⟩ hq hup0 hdn0 ⟨y1,y1'⟩ hs fun lo1 up1 n0 dn1 eB eB' hlo1 hup1 hn0 hdn1 ac cY aY hs=>?_
  refine H3t x y i ⟨a2,b2⟩ ⟨hx0,hx1⟩ hq hup1 hdn1 ⟨y2,y2'⟩ hs fun lo2 up2 n1 dn2 eC eC' hlo2 hup2 hn1 hdn2 ac cY aY hs=>?_
  refine H3u x y i h5 ⟨a3,b3⟩ ⟨hx0,hx1⟩ hq hup2 hdn2 ⟨y3,y3'⟩ hs fun lo3 up3 n2 dn3 eD eD' hlo3 hup3 hn2 hdn3 ac cY aY hs=>?_
  have hall:18446744073709551616*E5 n0 n1 n2 (dn3+up3)=E5 t0 t1 t2 t3+A0 (Ob.s x).n i*((Ob.s y).n:Int)+q*(rN:Int):=by
   rw[hmul];clear hround hmul hzz hz0 hQ ih hyr hyn ey;unfold E5 rN;omega
  have hlt' : E5 n0 n1 n2 (dn3+up3)<2*rN:=by
   obtain ⟨q0,q1⟩:=hq;have:q*(rN:Int)<=18446744073709551615*(rN:Int):=Int.mul_le_mul_of_nonneg_right (by omega) (by omega)
   clear hround hmul hQ ih hyn ey;generalize A0 (Ob.s x).n i*((Ob.s y).n:Int)=z at *;generalize q*(rN:Int)=z' at *;omega
  have htop:wrap IntKind.u64 (dn3+up3)=dn3+up3:=by
   obtain ⟨_,_⟩:=hdn3;obtain ⟨_,_⟩:=hup3;obtain ⟨_,_⟩:=hn0;obtain ⟨_,_⟩:=hn1;obtain ⟨_,_⟩:=hn2;refine F9n (by omega) ?_
   unfold E5 rN at hlt';omega
  rw[htop] at hs;refine ih ⟨(i+1,n0,n1,n2,dn3+up3),⟨h5,hn0,hn1,hn2,?_,hlt',hround _ q hq.1 hall⟩⟩ (by show 4-(i+1)<4-i;omega) ac cY aY hs
  rw[<-htop];exact C3m _
 ·have hi4:i=4:=by omega
  subst hi4;refine D0r A1k hk hF (H4d x y 4 t0 t1 t2 t3) ?_ (fun z w hd=>?_) hs
  ·refine ⟨by decide,a0,b0,a1,b1,a2,b2,a3,b3,hlt,trivial⟩
  ·have hT:0<=E5 t0 t1 t2 t3:=by unfold E5;omega
   have:C4a (E5 t0 t1 t2 t3).toNat=x*y:=by
    refine F5b (Q:=Q) ?_
    have hX:(Ob.s x).n % 2 ^ (64*4)=(Ob.s x).n:=Nat.mod_eq_of_lt (Nat.lt_trans (B5s x) (by decide))
    rw[hX] at hQ;have h4:(2 ^ (64*4):Nat)=B4:=F7e;rw[h4] at hQ;exact E3g hT hQ
   rw[<-this];exact hd

end S4

namespace S4

def u4s (a b c d:Int):SV:=.v (.c (.sl (.u64 [a,b,c,d])))
def fl4 (a b c d:Int):En:=.fl [.int .u64 a,.int .u64 b,.int .u64 c,.int .u64 d]

def qd0 (o0 o1 o2 o3 a b c d more m0 m1 m2 m3:Int):Cfg:=⟨[.code (C5 Tryz.f125)],.normal,E6y Tryz.f125.ntmps 0 4 1 (fl4 o0 o1 o2 o3) [u4s a b c d,.v (.c (.int .u64 more)),u4s m0 m1 m2 m3]⟩

theorem rdX (o0 o1 o2 o3 a b c d more m0 m1 m2 m3:Int):let g:Int:=(4:Nat);let i:Int:=18446744073709551616;let k:Int:=1;let l:Int:=2;let m:Int:=3;let n:Int:=0;let o:Int:=8;let q:=A4 1 a m0 n;let h:=Prod.snd q;let p:=A4 1 b m1 h;let f:=Prod.snd p;let r:=A4 1 c m2 f;let j:=Prod.snd r;let s:=A4 1 d m3 j;B6l C3s Tryz.f125 true 3000 (qd0 o0 o1 o2 o3 a b c d more m0 m1 m2 m3) [true,true,true,true,false,true]=(some ([((decide (0<g))=true),(0<=n),(0<g),(0<=n),(0<g),(0<=a),(0<=m0),(m0<i),(0<=n),(0<=k),(0<=n),(0<o),((decide (k<g))=true),(0<=k),(k<g),(0<=k),(k<g),(0<=b),(0<=m1),(m1<i),(0<=h),(h<=k),(0<=k),(k<o),((decide (l<g))=true),(0<=l),(l<g),(0<=l),(l<g),(0<=c),(0<=m2),(m2<i),(0<=f),(f<=k),(0<=l),(l<o),((decide (m<g))=true),(0<=m),(m<g),(0<=m),(m<g),(0<=d),(0<=m3),(m3<i),(0<=j),(j<=k),(0<=m),(m<o),((decide ((4:Int)<g))=false),((decide (more >= (Prod.snd s)))=true),(0<=g),(g<=o)],(.fl [(.int .u64 (Prod.fst q)),(.int .u64 (Prod.fst p)),(.int .u64 (Prod.fst r)),(.int .u64 (Prod.fst s))]))):=by intros;kernel_rfl
theorem rdY (o0 o1 o2 o3 a b c d more m0 m1 m2 m3:Int):let g:Int:=(4:Nat);let h:Int:=18446744073709551616;let i:=Prod.snd (A4 1 a m0 (0:Int));let f:=Prod.snd (A4 1 b m1 i);let j:Int:=1;let k:=Prod.snd (A4 1 c m2 f);let l:Int:=2;let m:Int:=3;let n:=0<=(0:Int);let o:Int:=8;B6l C3s Tryz.f125 true 3000 (qd0 o0 o1 o2 o3 a b c d more m0 m1 m2 m3) [true,true,true,true,false,false]=(some ([((decide (0<g))=true),n,(0<g),n,(0<g),(0<=a),(0<=m0),(m0<h),n,(0<=j),n,(0<o),((decide (j<g))=true),(0<=j),(j<g),(0<=j),(j<g),(0<=b),(0<=m1),(m1<h),(0<=i),(i<=j),(0<=j),(j<o),((decide (l<g))=true),(0<=l),(l<g),(0<=l),(l<g),(0<=c),(0<=m2),(m2<h),(0<=f),(f<=j),(0<=l),(l<o),((decide (m<g))=true),(0<=m),(m<g),(0<=m),(m<g),(0<=d),(0<=m3),(m3<h),(0<=k),(k<=j),(0<=m),(m<o),((decide ((4:Int)<g))=false),((decide (more >= (Prod.snd (A4 1 d m3 k))))=false)],(.fl [(.int .u64 a),(.int .u64 b),(.int .u64 c),(.int .u64 d)]))):=by intros;kernel_rfl
end S4

namespace S4

theorem E9v {x:Ctx} {o:Ob} (hk:o.k=4) {a b c d:Int} (h:A0 o.n 0=a∧A0 o.n 1=b∧A0 o.n 2=c∧A0 o.n 3=d) {cs:List Value}
  (hc:C4 x.D [.int .u64 a,.int .u64 b,.int .u64 c,.int .u64 d] cs):C4 x.D [.ob o] cs:=by
 obtain ⟨cs',e,h'⟩:=B1w hk h (v:=.agg cs.toArray) ⟨cs,rfl,hc⟩;have e:cs=cs' := by simpa using e
 rw[e];exact h'

def A3l (n:Nat):U4:=Fin.ofNat B4 (n % rN)
theorem B3c (n:Nat):(A3l n).val=n % rN:=Nat.mod_eq_of_lt (Nat.lt_trans (Nat.mod_lt _ (by decide)) (by decide))

theorem E7z (o0 o1 o2 o3 a b c d:Int) (ha:Lim a) (hb:Lim b) (hc:Lim c) (hd:Lim d) (hn:E5 a b c d<2*rN) :
  MuC Tryz.prog 125 0 4 1 (fl4 o0 o1 o2 o3) [u4s a b c d,.v (.c (.int .u64 0)),u4s 18446744069414584321 6034159408538082302 3691218898639771653 8353516859464449352] (.fl [.ob (.fr (A3l (E5 a b c d).toNat))]):=by
 refine B2m (fn:=Tryz.f125) (c:=C5 Tryz.f125) Tryz.func125 rfl rfl fun x ac hk hm hs=>?_
 obtain ⟨ha,ha1⟩:=ha;obtain ⟨hb,hb1⟩:=hb;obtain ⟨hc,hc1⟩:=hc;obtain ⟨hd,hd1⟩:=hd;have r0:=rdX o0 o1 o2 o3 a b c d 0 18446744069414584321 6034159408538082302 3691218898639771653 8353516859464449352;dsimp only at r0;have r1:=rdY o0 o1 o2 o3 a b c d 0 18446744069414584321 6034159408538082302 3691218898639771653 8353516859464449352;dsimp only at r1;obtain ⟨e1,p1,p1',c1,c1'⟩:=F4 (y:=18446744069414584321) (c:=0) ha ha1 (by decide) (by decide) (by decide) (by decide)
 obtain ⟨e2,p2,p2',c2,c2'⟩:=F4 (y:=6034159408538082302) hb hb1 (by decide) (by decide) c1 c1'
 obtain ⟨e3,p3,p3',c3,c3'⟩:=F4 (y:=3691218898639771653) hc hc1 (by decide) (by decide) c2 c2'
 obtain ⟨e4,p4,p4',c4,c4'⟩:=F4 (y:=8353516859464449352) hd hd1 (by decide) (by decide) c3 c3'
 generalize hx1:A4 1 a 18446744069414584321 0=x1 at *;generalize hx2:A4 1 b 6034159408538082302 x1.2=x2 at *;generalize hx3:A4 1 c 3691218898639771653 x2.2=x3 at *;generalize hx4:A4 1 d 8353516859464449352 x3.2=x4 at *;clear hx1 hx2 hx3 hx4;unfold E5 rN at hn;have hnn:0<=E5 a b c d:=by unfold E5;omega
 have hN:((E5 a b c d).toNat:Int)=E5 a b c d:=Int.toNat_of_nonneg hnn;by_cases hz:x4.2=0
 ·refine B4u A1k hk hm r0 rfl ?_ (fun y cs hv=>E9v rfl ?_ hv) (.inl ⟨_,_,rfl,rfl⟩) hs
  ·simp only[A9,and_true,decide_eq_true_eq,decide_eq_false_iff_not];omega
  ·refine Y9 p1 p1' p2 p2' p3 p3' p4 p4' ?_
   show ((A3l (E5 a b c d).toNat).val:Int)=_;have e:(A3l (E5 a b c d).toNat).val=(E5 a b c d).toNat-rN:=by
    rw[B3c];have h1:rN<=(E5 a b c d).toNat:=by unfold rN E5;omega
    have h2:(E5 a b c d).toNat<2*rN:=by unfold rN E5;omega
    rw[Nat.mod_eq_sub_mod h1,Nat.mod_eq_of_lt (by omega)]
   rw[e];unfold rN E5;omega
 ·refine B4u A1k hk hm r1 rfl ?_ (fun y cs hv=>E9v rfl ?_ hv) (.inl ⟨_,_,rfl,rfl⟩) hs
  ·simp only[A9,and_true,decide_eq_true_eq,decide_eq_false_iff_not];omega
  ·refine Y9 ha ha1 hb hb1 hc hc1 hd hd1 ?_
   show ((A3l (E5 a b c d).toNat).val:Int)=_;have e:(A3l (E5 a b c d).toNat).val=(E5 a b c d).toNat:=by
    rw[B3c];exact Nat.mod_eq_of_lt (by unfold rN E5;omega)
   rw[e,hN];rfl

end S4

namespace S4
section
variable {w0:World} {F0:Nat->Prop} {K:Kp} {ac:List Act} {Q:Exit->Act->World->Prop} {cX:Ctx} {aX:Act}

def B0c:MuS:=fun off len es e rest=>
 match off,len,es,e,rest with
 | 0,4,1,.fl [.int .u64 _,.int .u64 _,.int .u64 _,.int .u64 _],[.v (.c (.sl (.u64 [a,b,c,d]))),.v (.c (.int .u64 more)),.v (.c (.sl (.u64 [m0,m1,m2,m3])))]=>
  some ([Lim a,Lim b,Lim c,Lim d,E5 a b c d<2*rN,more=0,m0=18446744069414584321,m1=6034159408538082302,m2=3691218898639771653,m3=8353516859464449352],.fl [.ob (.fr (A3l (E5 a b c d).toNat))])
 | _,_,_,_,_=>none

def A5t:Env:={ C3s with mu:=fun g=>if g=125 then some (mu1 B0c) else C3s.mu g }
theorem T0:A8 Tryz.prog A5t:=
 C7u A1k 125 B0c (A5 Tryz.func125 rfl rfl) fun off len es e rest o e' h ho _ _=>by
  unfold B0c at h;split at h
  ·cases h
   obtain ⟨h1,h2,h3,h4,h5,h6,h7,h8,h9,h10,_⟩:=ho;subst h6 h7 h8 h9 h10;exact E7z _ _ _ _ _ _ _ _ h1 h2 h3 h4 h5
  ·cases h

def mR:SV:=u4s 18446744069414584321 6034159408538082302 3691218898639771653 8353516859464449352
def pd0 (o0 o1 o2 o3 a b c d y0 y1 y2 y3:Int):Cfg:=⟨[.code (C5 Tryz.f89)],.normal,E6y Tryz.f89.ntmps 0 4 1 (fl4 o0 o1 o2 o3) [u4s a b c d,u4s y0 y1 y2 y3,mR,.v (.c (.int .u64 18446744069414584319))]⟩

def B2w:List KI:=(run A5t false 3000 ((fun (o0 o1 o2 o3 a b c d y0 y1 y2 y3:Int)=>(pd0 o0 o1 o2 o3 a b c d y0 y1 y2 y3:Cfg)) default default default default default default default default default default default default) []).cfg.k
theorem pIn (o0 o1 o2 o3 a b c d y0 y1 y2 y3:Int) {w0:World} {F0:Nat->Prop} {K:Kp} {ac:List Act} {Q:Exit->Act->World->Prop} {cX:Ctx} {aX:Act} (ho:A9 []) (hs:Sim w0 F0 K ac (((pd0 o0 o1 o2 o3 a b c d y0 y1 y2 y3:Cfg)).σ) cX aX) (hK:∀ac cY aY,Sim w0 F0 K ac (B2 176 [0,1,2,3,4,10,11,29,30] [(.ci (.slc 0 0 4 1)),(.ci (.sl (.u64 [a,b,c,d]))),(.ci (.sl (.u64 [y0,y1,y2,y3]))),(.ci (.sl (.u64 [(18446744069414584321:Int),(6034159408538082302:Int),(3691218898639771653:Int),(8353516859464449352:Int)]))),.iu (18446744069414584319:Int),.ii (4:Int),.pt 64 0,.ii (4:Int),.ii (0:Int)] [0,64] [(eF_ [(.int .u64 o0),(.int .u64 o1),(.int .u64 o2),(.int .u64 o3)]),(eF_ [(.int .u64 (0:Int)),(.int .u64 (0:Int)),(.int .u64 (0:Int)),(.int .u64 (0:Int)),(.int .u64 (0:Int)),(.int .u64 (0:Int)),(.int .u64 (0:Int)),(.int .u64 (0:Int)),(.int .u64 (0:Int)),(.int .u64 (0:Int))])] 112 [] []) cY aY->Wq Tryz.prog Q (B2w) ac Exit.normal aY cY.w):Wq Tryz.prog Q (((pd0 o0 o1 o2 o3 a b c d y0 y1 y2 y3:Cfg)).k) ac ((pd0 o0 o1 o2 o3 a b c d y0 y1 y2 y3:Cfg)).x aX cX.w:=
 C2v (unroll:=false) (n:=3000) (path:=[]) (o:=⟨_,_,_,_,_,_,_⟩) T0 (by kernel_rfl) (by kernel_rfl) ho hs hK
def pS (o0 o1 o2 o3 a b c d y0 y1 y2 y3:Int) (i:Nat) (r0 r1 r2 r3 r4 r5:Int):St:=B2 176 [0,1,2,3,4,10,11,29,30] [(.ci (.slc 0 0 4 1)),(.ci (.sl (.u64 [a,b,c,d]))),(.ci (.sl (.u64 [y0,y1,y2,y3]))),(.ci (.sl (.u64 [(18446744069414584321:Int),(6034159408538082302:Int),(3691218898639771653:Int),(8353516859464449352:Int)]))),.iu (18446744069414584319:Int),.ii (4:Int),.pt 64 0,.ii (4:Int),.v (.c (.int .i64 (i:Int)))] [0,64] [(eF_ [(.int .u64 o0),(.int .u64 o1),(.int .u64 o2),(.int .u64 o3)]),some (.fl [.int .u64 r0,.int .u64 r1,.int .u64 r2,.int .u64 r3,.int .u64 r4,.int .u64 r5,.int .u64 0,.int .u64 0,.int .u64 0,.int .u64 0])] 112 [] []
def D9h:List KI:=(run A5t true 104 ((fun (o0 o1 o2 o3 a b c d y0 y1 y2 y3:Int) (i:Nat) (r0 r1 r2 r3 r4 r5:Int)=>(⟨G6 B2w,.normal,pS o0 o1 o2 o3 a b c d y0 y1 y2 y3 i r0 r1 r2 r3 r4 r5⟩:Cfg)) default default default default default default default default default default default default default default default default default default default) [true,true]).cfg.k
theorem pA (o0 o1 o2 o3 a b c d y0 y1 y2 y3:Int) (i:Nat) (r0 r1 r2 r3 r4 r5:Int) {w0:World} {F0:Nat->Prop} {K:Kp} {ac:List Act} {Q:Exit->Act->World->Prop} {cX:Ctx} {aX:Act} (ho:A9 [((decide ((i:Int)<(4:Int)))=true),(0<=(i:Int)),((i:Int)<((4:Nat):Int)),((decide (0<(4:Int)))=true),(0<=(0:Int)),(0<((4:Nat):Int)),(0<=(List.getD [a,b,c,d] ((i:Int)).toNat 0)),((List.getD [a,b,c,d] ((i:Int)).toNat 0)<(18446744073709551616:Int)),(0<=y0),(y0<(18446744073709551616:Int)),(0<=(0:Int)),(0<(10:Int)),(0<=(((List.getD [a,b,c,d] ((i:Int)).toNat 0)*y0) % (18446744073709551616:Int))),(0<=r0),(r0<(18446744073709551616:Int)),(0<=(0:Int)),(0<=(1:Int)),(0<=(Prod.fst (A4 0 (((List.getD [a,b,c,d] ((i:Int)).toNat 0)*y0) % (18446744073709551616:Int)) r0 (0:Int)))),(0<=(0:Int)),(0<(18446744073709551616:Int)),(0<=(0:Int)),(0<=(1:Int)),(0<=(0:Int)),(0<(10:Int))]) (hs:Sim w0 F0 K ac (pS o0 o1 o2 o3 a b c d y0 y1 y2 y3 i r0 r1 r2 r3 r4 r5) cX aX) (hK:∀ac cY aY,Sim w0 F0 K ac (B2 176 [0,1,2,3,4,10,11,13,14,29,30,37,38] [(.ci (.slc 0 0 4 1)),(.ci (.sl (.u64 [a,b,c,d]))),(.ci (.sl (.u64 [y0,y1,y2,y3]))),(.ci (.sl (.u64 [(18446744069414584321:Int),(6034159408538082302:Int),(3691218898639771653:Int),(8353516859464449352:Int)]))),.iu (18446744069414584319:Int),.ii (4:Int),.pt 64 0,(.iu (List.getD [a,b,c,d] ((i:Int)).toNat 0)),(.iu (wrap .u64 ((wrap .u64 ((((List.getD [a,b,c,d] ((i:Int)).toNat 0)*y0) / (18446744073709551616:Int))+(Prod.snd (A4 0 (((List.getD [a,b,c,d] ((i:Int)).toNat 0)*y0) % (18446744073709551616:Int)) r0 (0:Int)))))+(Prod.snd (A4 0 (Prod.fst (A4 0 (((List.getD [a,b,c,d] ((i:Int)).toNat 0)*y0) % (18446744073709551616:Int)) r0 (0:Int))) (0:Int) (0:Int)))))),.ii (4:Int),(.ii (i:Int)),.ii (4:Int),.ii (0:Int)] [0,64] [(eF_ [(.int .u64 o0),(.int .u64 o1),(.int .u64 o2),(.int .u64 o3)]),(eF_ [(.int .u64 (Prod.fst (A4 0 (Prod.fst (A4 0 (((List.getD [a,b,c,d] ((i:Int)).toNat 0)*y0) % (18446744073709551616:Int)) r0 (0:Int))) (0:Int) (0:Int)))),(.int .u64 r1),(.int .u64 r2),(.int .u64 r3),(.int .u64 r4),(.int .u64 r5),(.int .u64 (0:Int)),(.int .u64 (0:Int)),(.int .u64 (0:Int)),(.int .u64 (0:Int))])] 992 [] []) cY aY->Wq Tryz.prog Q (D9h) ac Exit.normal aY cY.w):Wq Tryz.prog Q (G6 B2w) ac .normal aX cX.w:=
 B1 (unroll:=true) (n:=104) (path:=[true,true]) (o:=⟨_,_,_,_,_,_,_⟩) T0 (by kernel_rfl) (by kernel_rfl) ho hs hK
theorem pX (o0 o1 o2 o3 a b c d y0 y1 y2 y3:Int) (i:Nat) (r0 r1 r2 r3 r4 r5:Int):let f:Int:=18446744069414584321;let g:Int:=4;let h:Int:=6034159408538082302;let j:Int:=3691218898639771653;let k:Int:=8353516859464449352;let l:=S4.E5 r0 r1 r2 r3;B6l A5t Tryz.f89 true 3000 ⟨G6 B2w,.normal,pS o0 o1 o2 o3 a b c d y0 y1 y2 y3 i r0 r1 r2 r3 r4 r5⟩ [false]=(some ([((decide ((i:Int)<g))=false),(0<=g),(g<=(10:Int)),(0<=g),(g<(10:Int)),(S4.Lim r0),(S4.Lim r1),(S4.Lim r2),(S4.Lim r3),(l<(104871750350252380958895481016371931675381105001055275645207317399877162369026:Int)),(r4=(0:Int)),(f=f),(h=h),(j=j),(k=k)],(.fl [(.ob (.fr (S4.A3l (l).toNat)))]))):=by intros;kernel_rfl
def pS1 (o0 o1 o2 o3 a b c d y0 y1 y2 y3:Int) (i:Nat) (x cy r0 r1 r2 r3 r4 r5:Int):St:=B2 176 [0,1,2,3,4,10,11,13,14,29,30,37,38] [(.ci (.slc 0 0 4 1)),(.ci (.sl (.u64 [a,b,c,d]))),(.ci (.sl (.u64 [y0,y1,y2,y3]))),(.ci (.sl (.u64 [(18446744069414584321:Int),(6034159408538082302:Int),(3691218898639771653:Int),(8353516859464449352:Int)]))),.iu (18446744069414584319:Int),.ii (4:Int),.pt 64 0,.v (.c (.int .u64 x)),.v (.c (.int .u64 cy)),.ii (4:Int),(.ii (i:Int)),.ii (4:Int),.ii (0:Int)] [0,64] [(eF_ [(.int .u64 o0),(.int .u64 o1),(.int .u64 o2),(.int .u64 o3)]),some (.fl [.int .u64 r0,.int .u64 r1,.int .u64 r2,.int .u64 r3,.int .u64 r4,.int .u64 r5,.int .u64 0,.int .u64 0,.int .u64 0,.int .u64 0])] 992 [] []
def D5d:List KI:=(run A5t true 75 ((fun (o0 o1 o2 o3 a b c d y0 y1 y2 y3:Int) (i:Nat) (x cy r0 r1 r2 r3 r4 r5:Int)=>(⟨D9h,.normal,pS1 o0 o1 o2 o3 a b c d y0 y1 y2 y3 i x cy r0 r1 r2 r3 r4 r5⟩:Cfg)) default default default default default default default default default default default default default default default default default default default default default) [true]).cfg.k
theorem F6m (o0 o1 o2 o3 a b c d y0 y1 y2 y3:Int) (i:Nat) (x cy r0 r1 r2 r3 r4 r5:Int):let f:Int:=18446744073709551616;let g:Int:=0;let h:=SV.v (V1.c (It.int IntKind.i64 (4:Int)));let j:=A4 0 ((x*y1) % f) r1 g;let k:Int:=1;let l:=It.int IntKind.u64 g;let m:=A4 0 (Prod.fst j) cy g;A6v A5t true 75 ((⟨D9h,.normal,pS1 o0 o1 o2 o3 a b c d y0 y1 y2 y3 i x cy r0 r1 r2 r3 r4 r5⟩:Cfg)) [true] [0,1,2,3,4,10,11,13,14,29,30,37,38] [0,64] []=some ⟨[((decide (k<(4:Int)))=true),(g<=k),(k<((4:Nat):Int)),(g<=x),(x<f),(g<=y1),(y1<f),(g<=k),(k<(10:Int)),(g<=((x*y1) % f)),(g<=r1),(r1<f),(g<=g),(g<=k),(g<=(Prod.fst j)),(g<=cy),(cy<f),(g<=g),(g<=k),(g<=k),(k<(10:Int))],Exit.normal,[(SV.v (V1.c (It.slc 0 0 4 1))),(SV.v (V1.c (It.sl (Sq.u64 [a,b,c,d])))),(SV.v (V1.c (It.sl (Sq.u64 [y0,y1,y2,y3])))),(SV.v (V1.c (It.sl (Sq.u64 [(18446744069414584321:Int),(6034159408538082302:Int),(3691218898639771653:Int),(8353516859464449352:Int)])))),(SV.v (V1.c (It.int IntKind.u64 (18446744069414584319:Int)))),h,(SV.v (V1.c (It.ptr 64 0))),(SV.v (V1.c (It.int IntKind.u64 x))),(SV.v (V1.c (It.int IntKind.u64 (wrap IntKind.u64 ((wrap IntKind.u64 (((x*y1) / f)+(Prod.snd j)))+(Prod.snd m)))))),h,(SV.v (V1.c (It.int IntKind.i64 ((i:Nat):Int)))),h,(SV.v (V1.c (It.int IntKind.i64 k)))],[(Option.some (En.fl [(It.int IntKind.u64 o0),(It.int IntKind.u64 o1),(It.int IntKind.u64 o2),(It.int IntKind.u64 o3)])),(Option.some (En.fl [(It.int IntKind.u64 r0),(It.int IntKind.u64 (Prod.fst m)),(It.int IntKind.u64 r2),(It.int IntKind.u64 r3),(It.int IntKind.u64 r4),(It.int IntKind.u64 r5),l,l,l,l]))],176,1728,[]⟩:=by intros;kernel_rfl
theorem F6n (o0 o1 o2 o3 a b c d y0 y1 y2 y3:Int) (i:Nat) (x cy r0 r1 r2 r3 r4 r5:Int):(run A5t true 75 ((⟨D9h,.normal,pS1 o0 o1 o2 o3 a b c d y0 y1 y2 y3 i x cy r0 r1 r2 r3 r4 r5⟩:Cfg)) [true]).cfg.k=D5d:=by kernel_rfl
theorem pB (o0 o1 o2 o3 a b c d y0 y1 y2 y3:Int) (i:Nat) (x cy r0 r1 r2 r3 r4 r5:Int):let f:Int:=18446744073709551616;let h:Int:=1;let j:Int:=0;let g:=A4 0 ((x*y1) % f) r1 j;let k:=A4 0 (Prod.fst g) cy j;let l:Int:=4;A9 [((decide (h<l))=true),(0<=h),(h<((4:Nat):Int)),(0<=x),(x<f),(0<=y1),(y1<f),(0<=h),(h<(10:Int)),(0<=((x*y1) % f)),(0<=r1),(r1<f),(0<=j),(0<=h),(0<=(Prod.fst g)),(0<=cy),(cy<f),(0<=j),(0<=h),(0<=h),(h<(10:Int))]->Sg Tryz.prog (pS1 o0 o1 o2 o3 a b c d y0 y1 y2 y3 i x cy r0 r1 r2 r3 r4 r5) (B2 176 [0,1,2,3,4,10,11,13,14,29,30,37,38] [(.ci (.slc 0 0 4 1)),(.ci (.sl (.u64 [a,b,c,d]))),(.ci (.sl (.u64 [y0,y1,y2,y3]))),(.ci (.sl (.u64 [(18446744069414584321:Int),(6034159408538082302:Int),(3691218898639771653:Int),(8353516859464449352:Int)]))),.iu (18446744069414584319:Int),.ii l,.pt 64 0,.iu x,(.iu (wrap .u64 ((wrap .u64 (((x*y1) / f)+(Prod.snd g)))+(Prod.snd k)))),.ii l,(.ii (i:Int)),.ii l,.ii h] [0,64] [(eF_ [(.int .u64 o0),(.int .u64 o1),(.int .u64 o2),(.int .u64 o3)]),(eF_ [(.int .u64 r0),(.int .u64 (Prod.fst k)),(.int .u64 r2),(.int .u64 r3),(.int .u64 r4),(.int .u64 r5),(.int .u64 j),(.int .u64 j),(.int .u64 j),(.int .u64 j)])] 1728 [] []) .normal (D5d) (D9h):=fun ho=>fun hs hK=>
 B1 T0 (F6m o0 o1 o2 o3 a b c d y0 y1 y2 y3 i x cy r0 r1 r2 r3 r4 r5) (F6n o0 o1 o2 o3 a b c d y0 y1 y2 y3 i x cy r0 r1 r2 r3 r4 r5) ho hs hK
def pS2 (o0 o1 o2 o3 a b c d y0 y1 y2 y3:Int) (i:Nat) (x cy r0 r1 r2 r3 r4 r5:Int):St:=B2 176 [0,1,2,3,4,10,11,13,14,29,30,37,38] [(.ci (.slc 0 0 4 1)),(.ci (.sl (.u64 [a,b,c,d]))),(.ci (.sl (.u64 [y0,y1,y2,y3]))),(.ci (.sl (.u64 [(18446744069414584321:Int),(6034159408538082302:Int),(3691218898639771653:Int),(8353516859464449352:Int)]))),.iu (18446744069414584319:Int),.ii (4:Int),.pt 64 0,.v (.c (.int .u64 x)),.v (.c (.int .u64 cy)),.ii (4:Int),(.ii (i:Int)),.ii (4:Int),.ii (1:Int)] [0,64] [(eF_ [(.int .u64 o0),(.int .u64 o1),(.int .u64 o2),(.int .u64 o3)]),some (.fl [.int .u64 r0,.int .u64 r1,.int .u64 r2,.int .u64 r3,.int .u64 r4,.int .u64 r5,.int .u64 0,.int .u64 0,.int .u64 0,.int .u64 0])] 1728 [] []
def E7j:List KI:=(run A5t true 75 ((fun (o0 o1 o2 o3 a b c d y0 y1 y2 y3:Int) (i:Nat) (x cy r0 r1 r2 r3 r4 r5:Int)=>(⟨D5d,.normal,pS2 o0 o1 o2 o3 a b c d y0 y1 y2 y3 i x cy r0 r1 r2 r3 r4 r5⟩:Cfg)) default default default default default default default default default default default default default default default default default default default default default) [true]).cfg.k
theorem F6o (o0 o1 o2 o3 a b c d y0 y1 y2 y3:Int) (i:Nat) (x cy r0 r1 r2 r3 r4 r5:Int):let f:Int:=18446744073709551616;let g:Int:=0;let h:=SV.v (V1.c (It.int IntKind.i64 (4:Int)));let j:=A4 0 ((x*y2) % f) r2 g;let k:=It.int IntKind.u64 g;let l:Int:=2;let m:=A4 0 (Prod.fst j) cy g;A6v A5t true 75 ((⟨D5d,.normal,pS2 o0 o1 o2 o3 a b c d y0 y1 y2 y3 i x cy r0 r1 r2 r3 r4 r5⟩:Cfg)) [true] [0,1,2,3,4,10,11,13,14,29,30,37,38] [0,64] []=some ⟨[((decide (l<(4:Int)))=true),(g<=l),(l<((4:Nat):Int)),(g<=x),(x<f),(g<=y2),(y2<f),(g<=l),(l<(10:Int)),(g<=((x*y2) % f)),(g<=r2),(r2<f),(g<=g),(g<=(1:Int)),(g<=(Prod.fst j)),(g<=cy),(cy<f),(g<=g),(g<=(1:Int)),(g<=l),(l<(10:Int))],Exit.normal,[(SV.v (V1.c (It.slc 0 0 4 1))),(SV.v (V1.c (It.sl (Sq.u64 [a,b,c,d])))),(SV.v (V1.c (It.sl (Sq.u64 [y0,y1,y2,y3])))),(SV.v (V1.c (It.sl (Sq.u64 [(18446744069414584321:Int),(6034159408538082302:Int),(3691218898639771653:Int),(8353516859464449352:Int)])))),(SV.v (V1.c (It.int IntKind.u64 (18446744069414584319:Int)))),h,(SV.v (V1.c (It.ptr 64 0))),(SV.v (V1.c (It.int IntKind.u64 x))),(SV.v (V1.c (It.int IntKind.u64 (wrap IntKind.u64 ((wrap IntKind.u64 (((x*y2) / f)+(Prod.snd j)))+(Prod.snd m)))))),h,(SV.v (V1.c (It.int IntKind.i64 ((i:Nat):Int)))),h,(SV.v (V1.c (It.int IntKind.i64 l)))],[(Option.some (En.fl [(It.int IntKind.u64 o0),(It.int IntKind.u64 o1),(It.int IntKind.u64 o2),(It.int IntKind.u64 o3)])),(Option.some (En.fl [(It.int IntKind.u64 r0),(It.int IntKind.u64 r1),(It.int IntKind.u64 (Prod.fst m)),(It.int IntKind.u64 r3),(It.int IntKind.u64 r4),(It.int IntKind.u64 r5),k,k,k,k]))],176,2464,[]⟩:=by intros;kernel_rfl
theorem F6p (o0 o1 o2 o3 a b c d y0 y1 y2 y3:Int) (i:Nat) (x cy r0 r1 r2 r3 r4 r5:Int):(run A5t true 75 ((⟨D5d,.normal,pS2 o0 o1 o2 o3 a b c d y0 y1 y2 y3 i x cy r0 r1 r2 r3 r4 r5⟩:Cfg)) [true]).cfg.k=E7j:=by kernel_rfl
section
variable (o0 o1 o2 o3 a b c d y0 y1 y2 y3:Int) (i:Nat) (x cy r0 r1 r2 r3 r4 r5:Int)
theorem pC:let f:Int:=18446744073709551616;let h:Int:=0;let g:=A4 0 ((x*y2) % f) r2 h;let j:Int:=2;let k:=A4 0 (Prod.fst g) cy h;let l:Int:=4;A9 [((decide (j<l))=true),(0<=j),(j<((4:Nat):Int)),(0<=x),(x<f),(0<=y2),(y2<f),(0<=j),(j<(10:Int)),(0<=((x*y2) % f)),(0<=r2),(r2<f),(0<=h),(0<=(1:Int)),(0<=(Prod.fst g)),(0<=cy),(cy<f),(0<=h),(0<=(1:Int)),(0<=j),(j<(10:Int))]->Sg Tryz.prog (pS2 o0 o1 o2 o3 a b c d y0 y1 y2 y3 i x cy r0 r1 r2 r3 r4 r5) (B2 176 [0,1,2,3,4,10,11,13,14,29,30,37,38] [(.ci (.slc 0 0 4 1)),(.ci (.sl (.u64 [a,b,c,d]))),(.ci (.sl (.u64 [y0,y1,y2,y3]))),(.ci (.sl (.u64 [(18446744069414584321:Int),(6034159408538082302:Int),(3691218898639771653:Int),(8353516859464449352:Int)]))),.iu (18446744069414584319:Int),.ii l,.pt 64 0,.iu x,(.iu (wrap .u64 ((wrap .u64 (((x*y2) / f)+(Prod.snd g)))+(Prod.snd k)))),.ii l,(.ii (i:Int)),.ii l,.ii j] [0,64] [(eF_ [(.int .u64 o0),(.int .u64 o1),(.int .u64 o2),(.int .u64 o3)]),(eF_ [(.int .u64 r0),(.int .u64 r1),(.int .u64 (Prod.fst k)),(.int .u64 r3),(.int .u64 r4),(.int .u64 r5),(.int .u64 h),(.int .u64 h),(.int .u64 h),(.int .u64 h)])] 2464 [] []) .normal (E7j) (D5d):=fun ho=>fun hs hK=>
 B1 T0 (F6o o0 o1 o2 o3 a b c d y0 y1 y2 y3 i x cy r0 r1 r2 r3 r4 r5) (F6p o0 o1 o2 o3 a b c d y0 y1 y2 y3 i x cy r0 r1 r2 r3 r4 r5) ho hs hK
def pS3 (o0 o1 o2 o3 a b c d y0 y1 y2 y3:Int) (i:Nat) (x cy r0 r1 r2 r3 r4 r5:Int):St:=B2 176 [0,1,2,3,4,10,11,13,14,29,30,37,38] [(.ci (.slc 0 0 4 1)),(.ci (.sl (.u64 [a,b,c,d]))),(.ci (.sl (.u64 [y0,y1,y2,y3]))),(.ci (.sl (.u64 [(18446744069414584321:Int),(6034159408538082302:Int),(3691218898639771653:Int),(8353516859464449352:Int)]))),.iu (18446744069414584319:Int),.ii (4:Int),.pt 64 0,.v (.c (.int .u64 x)),.v (.c (.int .u64 cy)),.ii (4:Int),(.ii (i:Int)),.ii (4:Int),.ii (2:Int)] [0,64] [(eF_ [(.int .u64 o0),(.int .u64 o1),(.int .u64 o2),(.int .u64 o3)]),some (.fl [.int .u64 r0,.int .u64 r1,.int .u64 r2,.int .u64 r3,.int .u64 r4,.int .u64 r5,.int .u64 0,.int .u64 0,.int .u64 0,.int .u64 0])] 2464 [] []
def F6q:List KI:=(run A5t true 75 ((fun (o0 o1 o2 o3 a b c d y0 y1 y2 y3:Int) (i:Nat) (x cy r0 r1 r2 r3 r4 r5:Int)=>(⟨E7j,.normal,pS3 o0 o1 o2 o3 a b c d y0 y1 y2 y3 i x cy r0 r1 r2 r3 r4 r5⟩:Cfg)) default default default default default default default default default default default default default default default default default default default default default) [true]).cfg.k
theorem pD:let f:Int:=18446744073709551616;let h:Int:=0;let g:=A4 0 ((x*y3) % f) r3 h;let j:Int:=3;let k:=A4 0 (Prod.fst g) cy h;let l:Int:=4;A9 [((decide (j<l))=true),(0<=j),(j<((4:Nat):Int)),(0<=x),(x<f),(0<=y3),(y3<f),(0<=j),(j<(10:Int)),(0<=((x*y3) % f)),(0<=r3),(r3<f),(0<=h),(0<=(1:Int)),(0<=(Prod.fst g)),(0<=cy),(cy<f),(0<=h),(0<=(1:Int)),(0<=j),(j<(10:Int))]->Sg Tryz.prog (pS3 o0 o1 o2 o3 a b c d y0 y1 y2 y3 i x cy r0 r1 r2 r3 r4 r5) (B2 176 [0,1,2,3,4,10,11,13,14,29,30,37,38] [(.ci (.slc 0 0 4 1)),(.ci (.sl (.u64 [a,b,c,d]))),(.ci (.sl (.u64 [y0,y1,y2,y3]))),(.ci (.sl (.u64 [(18446744069414584321:Int),(6034159408538082302:Int),(3691218898639771653:Int),(8353516859464449352:Int)]))),.iu (18446744069414584319:Int),.ii l,.pt 64 0,.iu x,(.iu (wrap .u64 ((wrap .u64 (((x*y3) / f)+(Prod.snd g)))+(Prod.snd k)))),.ii l,(.ii (i:Int)),.ii l,.ii j] [0,64] [(eF_ [(.int .u64 o0),(.int .u64 o1),(.int .u64 o2),(.int .u64 o3)]),(eF_ [(.int .u64 r0),(.int .u64 r1),(.int .u64 r2),(.int .u64 (Prod.fst k)),(.int .u64 r4),(.int .u64 r5),(.int .u64 h),(.int .u64 h),(.int .u64 h),(.int .u64 h)])] 3200 [] []) .normal (F6q) (E7j):=fun ho=>fun hs hK=>
 B1 (unroll:=true) (n:=75) (path:=[true]) (o:=⟨_,_,_,_,_,_,_⟩) T0 (by kernel_rfl) (by kernel_rfl) ho hs hK
def pS4 (o0 o1 o2 o3 a b c d y0 y1 y2 y3:Int) (i:Nat) (x cy r0 r1 r2 r3 r4 r5:Int):St:=B2 176 [0,1,2,3,4,10,11,13,14,29,30,37,38] [(.ci (.slc 0 0 4 1)),(.ci (.sl (.u64 [a,b,c,d]))),(.ci (.sl (.u64 [y0,y1,y2,y3]))),(.ci (.sl (.u64 [(18446744069414584321:Int),(6034159408538082302:Int),(3691218898639771653:Int),(8353516859464449352:Int)]))),.iu (18446744069414584319:Int),.ii (4:Int),.pt 64 0,.v (.c (.int .u64 x)),.v (.c (.int .u64 cy)),.ii (4:Int),(.ii (i:Int)),.ii (4:Int),.ii (3:Int)] [0,64] [(eF_ [(.int .u64 o0),(.int .u64 o1),(.int .u64 o2),(.int .u64 o3)]),some (.fl [.int .u64 r0,.int .u64 r1,.int .u64 r2,.int .u64 r3,.int .u64 r4,.int .u64 r5,.int .u64 0,.int .u64 0,.int .u64 0,.int .u64 0])] 3200 [] []
def F6r:List KI:=(run A5t true 88 ((fun (o0 o1 o2 o3 a b c d y0 y1 y2 y3:Int) (i:Nat) (x cy r0 r1 r2 r3 r4 r5:Int)=>(⟨F6q,.normal,pS4 o0 o1 o2 o3 a b c d y0 y1 y2 y3 i x cy r0 r1 r2 r3 r4 r5⟩:Cfg)) default default default default default default default default default default default default default default default default default default default default default) [false]).cfg.k
theorem pE:let g:Int:=18446744073709551616;let h:Int:=18446744069414584321;let j:Int:=0;let k:Int:=4;let l:Int:=10;let m:Int:=18446744069414584319;let f:=wrap .u64 (r0*m);let n:=A4 0 r4 cy j;A9 [((decide (k<k))=false),(0<=k),(k<l),(0<=r4),(0<=cy),(cy<g),(0<=j),(0<=(1:Int)),(0<=k),(k<l),(0<=(5:Int)),((5:Int)<l),(0<=j),(0<l),(0<=j),(0<k),(0<=f),(f<g),(0<=h),(h<g),(0<=j),(0<l),(0<=((f*h) % g)),(0<=r0),(r0<g),(0<=j),(0<=(1:Int))]->Sg Tryz.prog (pS4 o0 o1 o2 o3 a b c d y0 y1 y2 y3 i x cy r0 r1 r2 r3 r4 r5) (B2 176 [0,1,2,3,4,10,11,14,20,23,29,30] [(.ci (.slc 0 0 4 1)),(.ci (.sl (.u64 [a,b,c,d]))),(.ci (.sl (.u64 [y0,y1,y2,y3]))),(.ci (.sl (.u64 [h,(6034159408538082302:Int),(3691218898639771653:Int),(8353516859464449352:Int)]))),.iu m,.ii k,.pt 64 0,(.iu (wrap .u64 (((f*h) / g)+(Prod.snd (A4 0 ((f*h) % g) r0 j))))),(.iu f),.ii (1:Int),.ii k,(.ii (i:Int))] [0,64] [(eF_ [(.int .u64 o0),(.int .u64 o1),(.int .u64 o2),(.int .u64 o3)]),(eF_ [(.int .u64 r0),(.int .u64 r1),(.int .u64 r2),(.int .u64 r3),(.int .u64 (Prod.fst n)),(.int .u64 (Prod.snd n)),(.int .u64 j),(.int .u64 j),(.int .u64 j),(.int .u64 j)])] 3984 [] []) .normal (F6r) (F6q):=fun ho=>fun hs hK=>
 B1 (unroll:=true) (n:=88) (path:=[false]) (o:=⟨_,_,_,_,_,_,_⟩) T0 (by kernel_rfl) (by kernel_rfl) ho hs hK
def pT1 (o0 o1 o2 o3 a b c d y0 y1 y2 y3:Int) (i:Nat) (q cy r0 r1 r2 r3 r4 r5:Int):St:=B2 176 [0,1,2,3,4,10,11,14,20,23,29,30] [(.ci (.slc 0 0 4 1)),(.ci (.sl (.u64 [a,b,c,d]))),(.ci (.sl (.u64 [y0,y1,y2,y3]))),(.ci (.sl (.u64 [(18446744069414584321:Int),(6034159408538082302:Int),(3691218898639771653:Int),(8353516859464449352:Int)]))),.iu (18446744069414584319:Int),.ii (4:Int),.pt 64 0,.v (.c (.int .u64 cy)),.v (.c (.int .u64 q)),.ii (1:Int),.ii (4:Int),(.ii (i:Int))] [0,64] [(eF_ [(.int .u64 o0),(.int .u64 o1),(.int .u64 o2),(.int .u64 o3)]),some (.fl [.int .u64 r0,.int .u64 r1,.int .u64 r2,.int .u64 r3,.int .u64 r4,.int .u64 r5,.int .u64 0,.int .u64 0,.int .u64 0,.int .u64 0])] 3984 [] []
def F6s:List KI:=(run A5t true 68 ((fun (o0 o1 o2 o3 a b c d y0 y1 y2 y3:Int) (i:Nat) (q cy r0 r1 r2 r3 r4 r5:Int)=>(⟨F6r,.normal,pT1 o0 o1 o2 o3 a b c d y0 y1 y2 y3 i q cy r0 r1 r2 r3 r4 r5⟩:Cfg)) default default default default default default default default default default default default default default default default default default default default default) [true]).cfg.k
end
section
variable (o0 o1 o2 o3 a b c d y0 y1 y2 y3:Int) (i:Nat) (q cy r0 r1 r2 r3 r4 r5:Int)
theorem pF:let g:Int:=18446744073709551616;let h:Int:=6034159408538082302;let f:=(q*h) % g;let j:Int:=0;let l:Int:=1;let m:Int:=4;let n:=A4 0 f r1 j;let k:=Prod.fst n;let o:=A4 0 k cy j;A9 [((decide (l<m))=true),(0<=l),(l<m),(0<=q),(q<g),(0<=h),(h<g),(0<=l),(l<(10:Int)),(0<=f),(0<=r1),(r1<g),(0<=j),(0<=l),(0<=k),(0<=cy),(cy<g),(0<=j),(0<=l),(0<=j),(0<(10:Int))]->Sg Tryz.prog (pT1 o0 o1 o2 o3 a b c d y0 y1 y2 y3 i q cy r0 r1 r2 r3 r4 r5) (B2 176 [0,1,2,3,4,10,11,14,20,23,29,30] [(.ci (.slc 0 0 4 1)),(.ci (.sl (.u64 [a,b,c,d]))),(.ci (.sl (.u64 [y0,y1,y2,y3]))),(.ci (.sl (.u64 [(18446744069414584321:Int),h,(3691218898639771653:Int),(8353516859464449352:Int)]))),.iu (18446744069414584319:Int),.ii m,.pt 64 0,(.iu (wrap .u64 ((wrap .u64 (((q*h) / g)+(Prod.snd n)))+(Prod.snd o)))),.iu q,.ii l,.ii m,(.ii (i:Int))] [0,64] [(eF_ [(.int .u64 o0),(.int .u64 o1),(.int .u64 o2),(.int .u64 o3)]),(eF_ [(.int .u64 (Prod.fst o)),(.int .u64 r1),(.int .u64 r2),(.int .u64 r3),(.int .u64 r4),(.int .u64 r5),(.int .u64 j),(.int .u64 j),(.int .u64 j),(.int .u64 j)])] 4704 [] []) .normal (F6s) (F6r):=fun ho=>fun hs hK=>
 B1 (unroll:=true) (n:=68) (path:=[true]) (o:=⟨_,_,_,_,_,_,_⟩) T0 (by kernel_rfl) (by kernel_rfl) ho hs hK
def pT2 (o0 o1 o2 o3 a b c d y0 y1 y2 y3:Int) (i:Nat) (q cy r0 r1 r2 r3 r4 r5:Int):St:=B2 176 [0,1,2,3,4,10,11,14,20,23,29,30] [(.ci (.slc 0 0 4 1)),(.ci (.sl (.u64 [a,b,c,d]))),(.ci (.sl (.u64 [y0,y1,y2,y3]))),(.ci (.sl (.u64 [(18446744069414584321:Int),(6034159408538082302:Int),(3691218898639771653:Int),(8353516859464449352:Int)]))),.iu (18446744069414584319:Int),.ii (4:Int),.pt 64 0,.v (.c (.int .u64 cy)),.v (.c (.int .u64 q)),.ii (1:Int),.ii (4:Int),(.ii (i:Int))] [0,64] [(eF_ [(.int .u64 o0),(.int .u64 o1),(.int .u64 o2),(.int .u64 o3)]),some (.fl [.int .u64 r0,.int .u64 r1,.int .u64 r2,.int .u64 r3,.int .u64 r4,.int .u64 r5,.int .u64 0,.int .u64 0,.int .u64 0,.int .u64 0])] 4704 [] []
def F6u:List KI:=(run A5t true 74 ((fun (o0 o1 o2 o3 a b c d y0 y1 y2 y3:Int) (i:Nat) (q cy r0 r1 r2 r3 r4 r5:Int)=>(⟨F6s,.normal,pT2 o0 o1 o2 o3 a b c d y0 y1 y2 y3 i q cy r0 r1 r2 r3 r4 r5⟩:Cfg)) default default default default default default default default default default default default default default default default default default default default default) [true]).cfg.k
theorem pG:let g:Int:=18446744073709551616;let h:Int:=3691218898639771653;let f:=(q*h) % g;let j:Int:=0;let l:Int:=2;let m:=0<=(1:Int);let n:Int:=4;let o:=A4 0 f r2 j;let k:=Prod.fst o;let p:=A4 0 k cy j;A9 [((decide (l<n))=true),(0<=l),(l<n),(0<=q),(q<g),(0<=h),(h<g),(0<=l),(l<(10:Int)),(0<=f),(0<=r2),(r2<g),(0<=j),m,(0<=k),(0<=cy),(cy<g),(0<=j),m,m,((1:Int)<(10:Int))]->Sg Tryz.prog (pT2 o0 o1 o2 o3 a b c d y0 y1 y2 y3 i q cy r0 r1 r2 r3 r4 r5) (B2 176 [0,1,2,3,4,10,11,14,20,23,29,30] [(.ci (.slc 0 0 4 1)),(.ci (.sl (.u64 [a,b,c,d]))),(.ci (.sl (.u64 [y0,y1,y2,y3]))),(.ci (.sl (.u64 [(18446744069414584321:Int),(6034159408538082302:Int),h,(8353516859464449352:Int)]))),.iu (18446744069414584319:Int),.ii n,.pt 64 0,(.iu (wrap .u64 ((wrap .u64 (((q*h) / g)+(Prod.snd o)))+(Prod.snd p)))),.iu q,.ii l,.ii n,(.ii (i:Int))] [0,64] [(eF_ [(.int .u64 o0),(.int .u64 o1),(.int .u64 o2),(.int .u64 o3)]),(eF_ [(.int .u64 r0),(.int .u64 (Prod.fst p)),(.int .u64 r2),(.int .u64 r3),(.int .u64 r4),(.int .u64 r5),(.int .u64 j),(.int .u64 j),(.int .u64 j),(.int .u64 j)])] 5472 [] []) .normal (F6u) (F6s):=fun ho=>fun hs hK=>
 B1 (unroll:=true) (n:=74) (path:=[true]) (o:=⟨_,_,_,_,_,_,_⟩) T0 (by kernel_rfl) (by kernel_rfl) ho hs hK
def pT3 (o0 o1 o2 o3 a b c d y0 y1 y2 y3:Int) (i:Nat) (q cy r0 r1 r2 r3 r4 r5:Int):St:=B2 176 [0,1,2,3,4,10,11,14,20,23,29,30] [(.ci (.slc 0 0 4 1)),(.ci (.sl (.u64 [a,b,c,d]))),(.ci (.sl (.u64 [y0,y1,y2,y3]))),(.ci (.sl (.u64 [(18446744069414584321:Int),(6034159408538082302:Int),(3691218898639771653:Int),(8353516859464449352:Int)]))),.iu (18446744069414584319:Int),.ii (4:Int),.pt 64 0,.v (.c (.int .u64 cy)),.v (.c (.int .u64 q)),.ii (2:Int),.ii (4:Int),(.ii (i:Int))] [0,64] [(eF_ [(.int .u64 o0),(.int .u64 o1),(.int .u64 o2),(.int .u64 o3)]),some (.fl [.int .u64 r0,.int .u64 r1,.int .u64 r2,.int .u64 r3,.int .u64 r4,.int .u64 r5,.int .u64 0,.int .u64 0,.int .u64 0,.int .u64 0])] 5472 [] []
def G4t:List KI:=(run A5t true 74 ((fun (o0 o1 o2 o3 a b c d y0 y1 y2 y3:Int) (i:Nat) (q cy r0 r1 r2 r3 r4 r5:Int)=>(⟨F6u,.normal,pT3 o0 o1 o2 o3 a b c d y0 y1 y2 y3 i q cy r0 r1 r2 r3 r4 r5⟩:Cfg)) default default default default default default default default default default default default default default default default default default default default default) [true]).cfg.k
theorem pH:let g:Int:=18446744073709551616;let h:Int:=8353516859464449352;let f:=(q*h) % g;let j:Int:=0;let l:Int:=3;let m:Int:=4;let n:=A4 0 f r3 j;let k:=Prod.fst n;let o:=A4 0 k cy j;A9 [((decide (l<m))=true),(0<=l),(l<m),(0<=q),(q<g),(0<=h),(h<g),(0<=l),(l<(10:Int)),(0<=f),(0<=r3),(r3<g),(0<=j),(0<=(1:Int)),(0<=k),(0<=cy),(cy<g),(0<=j),(0<=(1:Int)),(0<=(2:Int)),((2:Int)<(10:Int))]->Sg Tryz.prog (pT3 o0 o1 o2 o3 a b c d y0 y1 y2 y3 i q cy r0 r1 r2 r3 r4 r5) (B2 176 [0,1,2,3,4,10,11,14,20,23,29,30] [(.ci (.slc 0 0 4 1)),(.ci (.sl (.u64 [a,b,c,d]))),(.ci (.sl (.u64 [y0,y1,y2,y3]))),(.ci (.sl (.u64 [(18446744069414584321:Int),(6034159408538082302:Int),(3691218898639771653:Int),h]))),.iu (18446744069414584319:Int),.ii m,.pt 64 0,(.iu (wrap .u64 ((wrap .u64 (((q*h) / g)+(Prod.snd n)))+(Prod.snd o)))),.iu q,.ii l,.ii m,(.ii (i:Int))] [0,64] [(eF_ [(.int .u64 o0),(.int .u64 o1),(.int .u64 o2),(.int .u64 o3)]),(eF_ [(.int .u64 r0),(.int .u64 r1),(.int .u64 (Prod.fst o)),(.int .u64 r3),(.int .u64 r4),(.int .u64 r5),(.int .u64 j),(.int .u64 j),(.int .u64 j),(.int .u64 j)])] 6240 [] []) .normal (G4t) (F6u):=fun ho=>fun hs hK=>
 B1 (unroll:=true) (n:=74) (path:=[true]) (o:=⟨_,_,_,_,_,_,_⟩) T0 (by kernel_rfl) (by kernel_rfl) ho hs hK
def pT4 (o0 o1 o2 o3 a b c d y0 y1 y2 y3:Int) (i:Nat) (q cy r0 r1 r2 r3 r4 r5:Int):St:=B2 176 [0,1,2,3,4,10,11,14,20,23,29,30] [(.ci (.slc 0 0 4 1)),(.ci (.sl (.u64 [a,b,c,d]))),(.ci (.sl (.u64 [y0,y1,y2,y3]))),(.ci (.sl (.u64 [(18446744069414584321:Int),(6034159408538082302:Int),(3691218898639771653:Int),(8353516859464449352:Int)]))),.iu (18446744069414584319:Int),.ii (4:Int),.pt 64 0,.v (.c (.int .u64 cy)),.v (.c (.int .u64 q)),.ii (3:Int),.ii (4:Int),(.ii (i:Int))] [0,64] [(eF_ [(.int .u64 o0),(.int .u64 o1),(.int .u64 o2),(.int .u64 o3)]),some (.fl [.int .u64 r0,.int .u64 r1,.int .u64 r2,.int .u64 r3,.int .u64 r4,.int .u64 r5,.int .u64 0,.int .u64 0,.int .u64 0,.int .u64 0])] 6240 [] []
theorem pI:let f:Int:=4;let g:Int:=0;let h:Int:=10;let j:=A4 0 r4 cy g;A9 [((decide (f<f))=false),(0<=f),(f<h),(0<=r4),(0<=cy),(cy<(18446744073709551616:Int)),(0<=g),(0<=(1:Int)),(0<=(3:Int)),((3:Int)<h),(0<=(5:Int)),((5:Int)<h),(0<=f),(f<h)]->Sg Tryz.prog (pT4 o0 o1 o2 o3 a b c d y0 y1 y2 y3 i q cy r0 r1 r2 r3 r4 r5) (B2 176 [0,1,2,3,4,10,11,29,30] [(.ci (.slc 0 0 4 1)),(.ci (.sl (.u64 [a,b,c,d]))),(.ci (.sl (.u64 [y0,y1,y2,y3]))),(.ci (.sl (.u64 [(18446744069414584321:Int),(6034159408538082302:Int),(3691218898639771653:Int),(8353516859464449352:Int)]))),.iu (18446744069414584319:Int),.ii f,.pt 64 0,.ii f,(.ii (wrap .i64 ((i:Int)+1)))] [0,64] [(eF_ [(.int .u64 o0),(.int .u64 o1),(.int .u64 o2),(.int .u64 o3)]),(eF_ [(.int .u64 r0),(.int .u64 r1),(.int .u64 r2),(.int .u64 (Prod.fst j)),(.int .u64 (wrap .u64 (r5+(Prod.snd j)))),(.int .u64 r5),(.int .u64 g),(.int .u64 g),(.int .u64 g),(.int .u64 g)])] 6720 [] []) .normal (S5 B2w) (G4t):=fun ho=>fun hs hK=>
 B1 (unroll:=true) (n:=50) (path:=[false]) (o:=⟨_,_,_,_,_,_,_⟩) T0 (by kernel_rfl) (by kernel_rfl) ho hs hK
end
end
end S4

namespace S4

section
variable {w0:World} {F0:Nat->Prop} {K:Kp} {ac:List Act} {Q:Exit->Act->World->Prop} {cX:Ctx} {aX:Act}

theorem sPA (o0 o1 o2 o3 a b c d y0 y1 y2 y3:Int) (i:Nat) {r0 r1 r2 r3 r4 r5 x:Int} (hi:i<4) (he:List.getD [a,b,c,d] i 0=x) (hx:Lim x) (hy:Lim y0) (hr:Lim r0) (hs:Sim w0 F0 K ac (pS o0 o1 o2 o3 a b c d y0 y1 y2 y3 i r0 r1 r2 r3 r4 r5) cX aX)
  (k:∀n cy:Int,x*y0+r0+0=n+18446744073709551616*cy->Lim n->Lim cy->∀ac cY aY,Sim w0 F0 K ac (pS1 o0 o1 o2 o3 a b c d y0 y1 y2 y3 i x cy n r1 r2 r3 r4 r5) cY aY->Wq Tryz.prog Q D9h ac .normal aY cY.w):Wq Tryz.prog Q (G6 B2w) ac .normal aX cX.w:=by
 obtain ⟨x0,x1⟩:=hx;obtain ⟨yy0,yy1⟩:=hy;obtain ⟨rr0,rr1⟩:=hr;have e:=mac x0 x1 yy0 yy1 rr0 rr1 (u:=0) (by decide) (by decide)
 have sA:=@pA o0 o1 o2 o3 a b c d y0 y1 y2 y3 i r0 r1 r2 r3 r4 r5 w0 F0 K ac Q cX aX;rw[Int.toNat_natCast,he] at sA;obtain ⟨e1,l1,u1,m1⟩:=e;refine sA ?_ hs fun ac cY aY h=>k _ _ e1 l1 u1 ac cY aY h
 simp only[A9,and_true,decide_eq_true_eq];omega

theorem sPB (o0 o1 o2 o3 a b c d y0 y1 y2 y3:Int) (i:Nat) {x cy r0 r1 r2 r3 r4 r5:Int} (hx:Lim x) (hy:Lim y1) (hr:Lim r1) (hc:Lim cy) (hs:Sim w0 F0 K ac (pS1 o0 o1 o2 o3 a b c d y0 y1 y2 y3 i x cy r0 r1 r2 r3 r4 r5) cX aX)
  (k:∀n cy' : Int,x*y1+r1+cy=n+18446744073709551616*cy' -> Lim n->Lim cy' -> ∀ac cY aY,Sim w0 F0 K ac (pS2 o0 o1 o2 o3 a b c d y0 y1 y2 y3 i x cy' r0 n r2 r3 r4 r5) cY aY->Wq Tryz.prog Q D5d ac .normal aY cY.w):Wq Tryz.prog Q D9h ac .normal aX cX.w:=by
 obtain ⟨x0,x1⟩:=hx;obtain ⟨yy0,yy1⟩:=hy;obtain ⟨rr0,rr1⟩:=hr;obtain ⟨cc0,cc1⟩:=hc;obtain ⟨e1,l1,u1,m1⟩:=mac x0 x1 yy0 yy1 rr0 rr1 cc0 cc1;refine pB o0 o1 o2 o3 a b c d y0 y1 y2 y3 i x cy r0 r1 r2 r3 r4 r5 ?_ hs fun ac cY aY h=>k _ _ e1 l1 u1 ac cY aY h
 simp only[A9,and_true,decide_eq_true_eq];omega

theorem sPC (o0 o1 o2 o3 a b c d y0 y1 y2 y3:Int) (i:Nat) {x cy r0 r1 r2 r3 r4 r5:Int} (hx:Lim x) (hy:Lim y2) (hr:Lim r2) (hc:Lim cy) (hs:Sim w0 F0 K ac (pS2 o0 o1 o2 o3 a b c d y0 y1 y2 y3 i x cy r0 r1 r2 r3 r4 r5) cX aX)
  (k:∀n cy' : Int,x*y2+r2+cy=n+18446744073709551616*cy' -> Lim n->Lim cy' -> ∀ac cY aY,Sim w0 F0 K ac (pS3 o0 o1 o2 o3 a b c d y0 y1 y2 y3 i x cy' r0 r1 n r3 r4 r5) cY aY->Wq Tryz.prog Q E7j ac .normal aY cY.w):Wq Tryz.prog Q D5d ac .normal aX cX.w:=by
 obtain ⟨x0,x1⟩:=hx;obtain ⟨yy0,yy1⟩:=hy;obtain ⟨rr0,rr1⟩:=hr;obtain ⟨cc0,cc1⟩:=hc;obtain ⟨e1,l1,u1,m1⟩:=mac x0 x1 yy0 yy1 rr0 rr1 cc0 cc1;refine pC o0 o1 o2 o3 a b c d y0 y1 y2 y3 i x cy r0 r1 r2 r3 r4 r5 ?_ hs fun ac cY aY h=>k _ _ e1 l1 u1 ac cY aY h
 simp only[A9,and_true,decide_eq_true_eq];omega

theorem sPD (o0 o1 o2 o3 a b c d y0 y1 y2 y3:Int) (i:Nat) {x cy r0 r1 r2 r3 r4 r5:Int} (hx:Lim x) (hy:Lim y3) (hr:Lim r3) (hc:Lim cy) (hs:Sim w0 F0 K ac (pS3 o0 o1 o2 o3 a b c d y0 y1 y2 y3 i x cy r0 r1 r2 r3 r4 r5) cX aX)
  (k:∀n cy' : Int,x*y3+r3+cy=n+18446744073709551616*cy' -> Lim n->Lim cy' -> ∀ac cY aY,Sim w0 F0 K ac (pS4 o0 o1 o2 o3 a b c d y0 y1 y2 y3 i x cy' r0 r1 r2 n r4 r5) cY aY->Wq Tryz.prog Q F6q ac .normal aY cY.w):Wq Tryz.prog Q E7j ac .normal aX cX.w:=by
 obtain ⟨x0,x1⟩:=hx;obtain ⟨yy0,yy1⟩:=hy;obtain ⟨rr0,rr1⟩:=hr;obtain ⟨cc0,cc1⟩:=hc;obtain ⟨e1,l1,u1,m1⟩:=mac x0 x1 yy0 yy1 rr0 rr1 cc0 cc1;refine pD o0 o1 o2 o3 a b c d y0 y1 y2 y3 i x cy r0 r1 r2 r3 r4 r5 ?_ hs fun ac cY aY h=>k _ _ e1 l1 u1 ac cY aY h
 simp only[A9,and_true,decide_eq_true_eq];omega

theorem sPE (o0 o1 o2 o3 a b c d y0 y1 y2 y3:Int) (i:Nat) {x cy r0 r1 r2 r3 r4 r5:Int} (hr0:Lim r0) (hr4:Lim r4) (hc:Lim cy) (hs:Sim w0 F0 K ac (pS4 o0 o1 o2 o3 a b c d y0 y1 y2 y3 i x cy r0 r1 r2 r3 r4 r5) cX aX)
  (k:∀q cy' n4 n5:Int,r4+cy+0=n4+18446744073709551616*n5->q*18446744069414584321+r0=18446744073709551616*cy' -> Lim n4->0<=n5->n5<=1->Lim q->Lim cy' -> ∀ac cY aY,Sim w0 F0 K ac (pT1 o0 o1 o2 o3 a b c d y0 y1 y2 y3 i q cy' r0 r1 r2 r3 n4 n5) cY aY->Wq Tryz.prog Q F6r ac .normal aY cY.w):Wq Tryz.prog Q F6q ac .normal aX cX.w:=by
 obtain ⟨rr0,rr1⟩:=hr0;obtain ⟨rr4,rr5⟩:=hr4;obtain ⟨cc0,cc1⟩:=hc;obtain ⟨e1,p1,p1',q1,q1'⟩:=F7 (c:=0) rr4 rr5 cc0 cc1 (by decide) (by decide)
 have hq:=C3m (r0*18446744069414584319);have e2:=E6s (b:=18446744069414584321) hq.1 hq.2 (by decide) (by decide) rr0 rr1
 have e3:=D4l (l:=r0) rfl;obtain ⟨hq0,hq1⟩:=hq;obtain ⟨e2,⟨f1,f2⟩,f3⟩:=e2;refine pE o0 o1 o2 o3 a b c d y0 y1 y2 y3 i x cy r0 r1 r2 r3 r4 r5 ?_ hs fun ac cY aY h=>k _ _ _ _ e1 ?_ ⟨p1,p1'⟩ q1 q1' ⟨hq0,hq1⟩ f3 ac cY aY h
 ·simp only[A9,and_true,decide_eq_false_iff_not]
  omega
 ·omega

theorem sPF (o0 o1 o2 o3 a b c d y0 y1 y2 y3:Int) (i:Nat) {q cy r0 r1 r2 r3 r4 r5:Int} (hq:Lim q) (hr:Lim r1) (hc:Lim cy) (hs:Sim w0 F0 K ac (pT1 o0 o1 o2 o3 a b c d y0 y1 y2 y3 i q cy r0 r1 r2 r3 r4 r5) cX aX)
  (k:∀n cy' : Int,q*6034159408538082302+r1+cy=n+18446744073709551616*cy' -> Lim n->Lim cy' -> ∀ac cY aY,Sim w0 F0 K ac (pT2 o0 o1 o2 o3 a b c d y0 y1 y2 y3 i q cy' n r1 r2 r3 r4 r5) cY aY->Wq Tryz.prog Q F6s ac .normal aY cY.w):Wq Tryz.prog Q F6r ac .normal aX cX.w:=by
 obtain ⟨x0,x1⟩:=hq;obtain ⟨rr0,rr1⟩:=hr;obtain ⟨cc0,cc1⟩:=hc;obtain ⟨e1,l1,u1,m1⟩:=mac (b:=6034159408538082302) x0 x1 (by decide) (by decide) rr0 rr1 cc0 cc1
 refine pF o0 o1 o2 o3 a b c d y0 y1 y2 y3 i q cy r0 r1 r2 r3 r4 r5 ?_ hs fun ac cY aY h=>k _ _ e1 l1 u1 ac cY aY h
 simp only[A9,and_true,decide_eq_true_eq];omega

theorem sPG (o0 o1 o2 o3 a b c d y0 y1 y2 y3:Int) (i:Nat) {q cy r0 r1 r2 r3 r4 r5:Int} (hq:Lim q) (hr:Lim r2) (hc:Lim cy) (hs:Sim w0 F0 K ac (pT2 o0 o1 o2 o3 a b c d y0 y1 y2 y3 i q cy r0 r1 r2 r3 r4 r5) cX aX)
  (k:∀n cy' : Int,q*3691218898639771653+r2+cy=n+18446744073709551616*cy' -> Lim n->Lim cy' -> ∀ac cY aY,Sim w0 F0 K ac (pT3 o0 o1 o2 o3 a b c d y0 y1 y2 y3 i q cy' r0 n r2 r3 r4 r5) cY aY->Wq Tryz.prog Q F6u ac .normal aY cY.w):Wq Tryz.prog Q F6s ac .normal aX cX.w:=by
 obtain ⟨x0,x1⟩:=hq;obtain ⟨rr0,rr1⟩:=hr;obtain ⟨cc0,cc1⟩:=hc;obtain ⟨e1,l1,u1,m1⟩:=mac (b:=3691218898639771653) x0 x1 (by decide) (by decide) rr0 rr1 cc0 cc1
 refine pG o0 o1 o2 o3 a b c d y0 y1 y2 y3 i q cy r0 r1 r2 r3 r4 r5 ?_ hs fun ac cY aY h=>k _ _ e1 l1 u1 ac cY aY h
 simp only[A9,and_true,decide_eq_true_eq];omega

theorem sPH (o0 o1 o2 o3 a b c d y0 y1 y2 y3:Int) (i:Nat) {q cy r0 r1 r2 r3 r4 r5:Int} (hq:Lim q) (hr:Lim r3) (hc:Lim cy) (hs:Sim w0 F0 K ac (pT3 o0 o1 o2 o3 a b c d y0 y1 y2 y3 i q cy r0 r1 r2 r3 r4 r5) cX aX)
  (k:∀n cy' : Int,q*8353516859464449352+r3+cy=n+18446744073709551616*cy' -> Lim n->Lim cy' -> ∀ac cY aY,Sim w0 F0 K ac (pT4 o0 o1 o2 o3 a b c d y0 y1 y2 y3 i q cy' r0 r1 n r3 r4 r5) cY aY->Wq Tryz.prog Q G4t ac .normal aY cY.w):Wq Tryz.prog Q F6u ac .normal aX cX.w:=by
 obtain ⟨x0,x1⟩:=hq;obtain ⟨rr0,rr1⟩:=hr;obtain ⟨cc0,cc1⟩:=hc;obtain ⟨e1,l1,u1,m1⟩:=mac (b:=8353516859464449352) x0 x1 (by decide) (by decide) rr0 rr1 cc0 cc1
 refine pH o0 o1 o2 o3 a b c d y0 y1 y2 y3 i q cy r0 r1 r2 r3 r4 r5 ?_ hs fun ac cY aY h=>k _ _ e1 l1 u1 ac cY aY h
 simp only[A9,and_true,decide_eq_true_eq];omega

theorem sPI (o0 o1 o2 o3 a b c d y0 y1 y2 y3:Int) (i:Nat) {q cy r0 r1 r2 r3 r4 r5:Int} (hi:i<4) (hr4:Lim r4) (hc:Lim cy) (hs:Sim w0 F0 K ac (pT4 o0 o1 o2 o3 a b c d y0 y1 y2 y3 i q cy r0 r1 r2 r3 r4 r5) cX aX)
  (k:∀n3 c4:Int,r4+cy+0=n3+18446744073709551616*c4->Lim n3->0<=c4->c4<=1->∀ac cY aY,Sim w0 F0 K ac (pS o0 o1 o2 o3 a b c d y0 y1 y2 y3 (i+1) r0 r1 r2 n3 (wrap IntKind.u64 (r5+c4)) r5) cY aY->Wq Tryz.prog Q (S5 B2w) ac .normal aY cY.w):Wq Tryz.prog Q G4t ac .normal aX cX.w:=by
 obtain ⟨rr4,rr5⟩:=hr4;obtain ⟨cc0,cc1⟩:=hc;obtain ⟨e1,p1,p1',q1,q1'⟩:=F7 (c:=0) rr4 rr5 cc0 cc1 (by decide) (by decide)
 refine pI o0 o1 o2 o3 a b c d y0 y1 y2 y3 i q cy r0 r1 r2 r3 r4 r5 ?_ hs fun ac cY aY h=>k _ _ e1 ⟨p1,p1'⟩ q1 q1' ac cY aY (by rw[C9 (by omega) (by omega)] at h;exact h.nx _)
 simp only[A9,and_true,decide_eq_false_iff_not];omega

end

end S4

namespace S4

structure I0e (A Y i:Nat) (r0 r1 r2 r3 r4:Int):Prop where
 i4:i<=4
 h0:Lim r0
 h1:Lim r1
 h2:Lim r2
 h3:Lim r3
 h4:r4=0
 lt:E5 r0 r1 r2 r3<2*rN
 eq:∃Q:Nat,E5 r0 r1 r2 r3*((2 ^ (64*i):Nat):Int)=((A % 2 ^ (64*i):Nat):Int)*(Y:Int)+(Q:Int)*(rN:Int)

theorem E8b {A Y r i Q:Nat} {T T' q:Int} (hq:0<=q) (h:T*((2 ^ (64*i):Nat):Int)=((A % 2 ^ (64*i):Nat):Int)*(Y:Int)+(Q:Int)*(r:Int))
  (h' : 18446744073709551616*T' = T+A0 A i*(Y:Int)+q*(r:Int)) :
  ∃Q:Nat,T' * ((2 ^ (64*(i+1)):Nat):Int)=((A % 2 ^ (64*(i+1)):Nat):Int)*(Y:Int)+(Q:Int)*(r:Int):=by
 obtain ⟨q,rfl⟩:=Int.eq_ofNat_of_zero_le hq;refine ⟨Q+q*2 ^ (64*i),?_⟩
 rw[C1e];have hp:(2:Nat) ^ (64*(i+1))=2 ^ (64*i)*18446744073709551616:=by rw[Nat.mul_add,Nat.pow_add]
 rw[hp];have hl:A0 A i=((A / 2 ^ (64*i) % 18446744073709551616:Nat):Int):=rfl;rw[hl] at h'
 generalize A / 2 ^ (64*i) % 18446744073709551616=xi at *;generalize A % 2 ^ (64*i)=X at *;generalize 2 ^ (64*i)=m at *;have e1:T' * ((m*18446744073709551616:Nat):Int)=(18446744073709551616*T')*(m:Int):=by
  rw[Int.natCast_mul,Int.mul_comm (m:Int),<-Int.mul_assoc,Int.mul_comm T'];rfl
 rw[e1,h',Int.add_mul,Int.add_mul,h];push_cast
 simp only[Int.add_mul,Int.mul_assoc];have e2:(xi:Int)*((Y:Int)*(m:Int))=(m:Int)*((xi:Int)*(Y:Int)):=by rw[<-Int.mul_assoc,Int.mul_comm]
 have e3:(q:Int)*((r:Int)*(m:Int))=(q:Int)*((m:Int)*(r:Int)):=by rw[Int.mul_comm (r:Int)]
 rw[e2,e3];omega

theorem G4k {r B v T X Q:Nat} (e:v*B % r=1 % r) (h:T*B=X+Q*r):T % r=X*v % r:=by
  have h2:∀a:Nat,a*(v*B) % r=a % r:=fun a=>by rw[<-Nat.mul_mod_mod,e,Nat.mul_mod_mod,Nat.mul_one]
  calc T % r=T*(v*B) % r:=(h2 _).symm
    _=(T*B)*v % r:=by congr 1;simp only[Nat.mul_comm,Nat.mul_left_comm]
    _=X*v % r:=by rw[h,Nat.add_mul,Nat.mul_assoc Q,Nat.mul_comm r,<-Nat.mul_assoc,Nat.add_mul_mod_self_right]

theorem E0a {a b:Nat} (h:a % rN=b % rN):A3l a=A3l b:=by unfold A3l;rw[h]

theorem D9p (o0 o1 o2 o3:Int) (A Y:Nat) (hA:A<B4) (hY:Y<rN) :
  MuC Tryz.prog 89 0 4 1 (fl4 o0 o1 o2 o3) [u4s (A0 A 0) (A0 A 1) (A0 A 2) (A0 A 3),u4s (A0 Y 0) (A0 Y 1) (A0 Y 2) (A0 Y 3),mR,.v (.c (.int .u64 18446744069414584319))] (.fl [.ob (.fr (A3l (A*Y*D0p)))]):=by
 refine B2m (fn:=Tryz.f89) (c:=C5 Tryz.f89) Tryz.func89 rfl rfl fun x0 a0 hk hm hs=>?_
 obtain ⟨ey,y0,y0',y1,y1',y2,y2',y3,y3'⟩:=A0p Y (Nat.lt_trans hY (by decide))
 obtain ⟨ea,z0,z0',z1,z1',z2,z2',z3,z3'⟩:=A0p A hA;have hyr:(Y:Int)<(rN:Int):=by exact_mod_cast hY
 have hin:=@pIn o0 o1 o2 o3 (A0 A 0) (A0 A 1) (A0 A 2) (A0 A 3) (A0 Y 0) (A0 Y 1) (A0 Y 2) (A0 Y 3);have hget:∀i,i<4->List.getD [A0 A 0,A0 A 1,A0 A 2,A0 A 3] i 0=A0 A i:=by
  intro i hi;have:i=0∨i=1∨i=2∨i=3:=by omega
  rcases this with rfl | rfl | rfl | rfl<;>rfl
 have hmul:=fun z=>D4q z (A0 Y 0) (A0 Y 1) (A0 Y 2) (A0 Y 3)
 have hyn:(Y:Int)=E5 (A0 Y 0) (A0 Y 1) (A0 Y 2) (A0 Y 3):=ey;rw[<-hyn] at hmul;have hx0:∀i,0<=A0 A i:=fun i=>Int.natCast_nonneg _
 have hx1:∀i,A0 A i<18446744073709551616:=fun i=>by
  show ((A / 2 ^ (64*i) % 18446744073709551616:Nat):Int)<18446744073709551616;omega
 have hlimY0:Lim (A0 Y 0):=⟨y0,y0'⟩;have hlimY1:Lim (A0 Y 1):=⟨y1,y1'⟩;have hlimY2:Lim (A0 Y 2):=⟨y2,y2'⟩;have hlimY3:Lim (A0 Y 3):=⟨y3,y3'⟩;clear ey ea y0 y0' y1 y1' y2 y2' y3 y3' z0 z0' z1 z1' z2 z2' z3 z3';have hT4:A % 2 ^ (64*4)=A:=Nat.mod_eq_of_lt (by rw[F7e];exact hA)
 generalize A0 A 0=a at *;generalize A0 A 1=b at *;generalize A0 A 2=c at *;generalize A0 A 3=d at *;generalize A0 Y 0=v0 at *;generalize A0 Y 1=v1 at *;generalize A0 Y 2=v2 at *;generalize A0 Y 3=v3 at *;refine hin trivial hs fun ac cY aY hs1=>?_
 refine I3 (ι:={ p:Nat×Int×Int×Int×Int×Int×Int // I0e A Y p.1 p.2.1 p.2.2.1 p.2.2.2.1 p.2.2.2.2.1 p.2.2.2.2.2.1 })
  (fun p=>pS o0 o1 o2 o3 a b c d v0 v1 v2 v3 p.1.1 p.1.2.1 p.1.2.2.1 p.1.2.2.2.1 p.1.2.2.2.2.1 p.1.2.2.2.2.2.1 p.1.2.2.2.2.2.2) (fun p=>4-p.1.1) (c:=lpC B2w) (k:=lpR B2w) (by kernel_rfl) (fun p ih ac cY aY hs=>?_)
  ⟨(0,0,0,0,0,0,0),⟨by decide,⟨by decide,by decide⟩,⟨by decide,by decide⟩,⟨by decide,by decide⟩,⟨by decide,by decide⟩,rfl,by decide,0,by simp [E5,Nat.mod_one]⟩⟩ hs1
 obtain ⟨⟨i,r0,r1,r2,r3,r4,r5⟩,hI⟩:=p;simp only at ih hs hI
 obtain ⟨hi,h0,h1,h2,h3,h4,hlt,Q,hQ⟩:=hI;subst h4;by_cases h5:i<4
 ·have hround:=fun T' q hq=>E8b (A:=A) (Y:=Y) (r:=rN) (i:=i) (Q:=Q) (T:=E5 r0 r1 r2 r3) (T' := T') (q:=q) hq hQ
  have hzz:A0 A i*(Y:Int)<=18446744073709551615*(Y:Int):=Int.mul_le_mul_of_nonneg_right (by have:=hx1 i;omega) (by omega)
  have hz0:0<=A0 A i*(Y:Int):=Int.mul_nonneg (hx0 i) (by omega)
  have hlx:Lim (A0 A i):=⟨hx0 i,hx1 i⟩;refine sPA o0 o1 o2 o3 a b c d v0 v1 v2 v3 i h5 (hget i h5) hlx hlimY0 h0 hs fun a0 c0 eA la0 lc0 ac cY aY hs=>?_
  refine sPB o0 o1 o2 o3 a b c d v0 v1 v2 v3 i hlx hlimY1 h1 lc0 hs fun a1 c1 eB la1 lc1 ac cY aY hs=>?_
  refine sPC o0 o1 o2 o3 a b c d v0 v1 v2 v3 i hlx hlimY2 h2 lc1 hs fun a2 c2 eC la2 lc2 ac cY aY hs=>?_
  refine sPD o0 o1 o2 o3 a b c d v0 v1 v2 v3 i hlx hlimY3 h3 lc2 hs fun a3 c3 eD la3 lc3 ac cY aY hs=>?_
  refine sPE o0 o1 o2 o3 a b c d v0 v1 v2 v3 i la0 ⟨by decide,by decide⟩ lc3 hs fun q d0 n4 n5 eE eQ ln4 n50 n51 lq ld0 ac cY aY hs=>?_
  refine sPF o0 o1 o2 o3 a b c d v0 v1 v2 v3 i lq la1 ld0 hs fun b0 d1 eF lb0 ld1 ac cY aY hs=>?_
  refine sPG o0 o1 o2 o3 a b c d v0 v1 v2 v3 i lq la2 ld1 hs fun b1 d2 eG lb1 ld2 ac cY aY hs=>?_
  refine sPH o0 o1 o2 o3 a b c d v0 v1 v2 v3 i lq la3 ld2 hs fun b2 d3 eH lb2 ld3 ac cY aY hs=>?_
  refine sPI o0 o1 o2 o3 a b c d v0 v1 v2 v3 i h5 ln4 ld3 hs fun b3 c4 eI lb3 c40 c41 ac cY aY hs=>?_
  have hall:18446744073709551616*(E5 b0 b1 b2 b3+115792089237316195423570985008687907853269984665640564039457584007913129639936*(n5+c4))=E5 r0 r1 r2 r3+A0 A i*(Y:Int)+q*(rN:Int):=by
   rw[hmul];clear hround hmul hzz hz0 hQ ih hyr hyn;unfold E5 rN;omega
  have hlt' : E5 b0 b1 b2 b3+115792089237316195423570985008687907853269984665640564039457584007913129639936*(n5+c4)<2*rN:=by
   obtain ⟨q0,q1⟩:=lq;have:q*(rN:Int)<=18446744073709551615*(rN:Int):=Int.mul_le_mul_of_nonneg_right (by omega) (by omega)
   clear hround hmul hQ ih hyn;generalize A0 A i*(Y:Int)=z at *;generalize q*(rN:Int)=z' at *;omega
  have htop:n5+c4=0:=by
   obtain ⟨_,_⟩:=lb0;obtain ⟨_,_⟩:=lb1;obtain ⟨_,_⟩:=lb2;obtain ⟨_,_⟩:=lb3;unfold E5 rN at hlt';omega
  rw[htop,Int.mul_zero,Int.add_zero] at hall hlt'
  rw[htop] at hs;exact ih ⟨(i+1,b0,b1,b2,b3,wrap IntKind.u64 0,n5),⟨h5,lb0,lb1,lb2,lb3,rfl,hlt',hround _ q lq.1 hall⟩⟩ (by show 4-(i+1)<4-i;omega) ac cY aY hs
 ·have hi4:i=4:=by omega
  subst hi4;have hT:0<=E5 r0 r1 r2 r3:=by
   obtain ⟨_,_⟩:=h0;obtain ⟨_,_⟩:=h1;obtain ⟨_,_⟩:=h2;obtain ⟨_,_⟩:=h3;unfold E5;omega
  rw[hT4] at hQ;have hb4:(2 ^ (64*4):Nat)=B4:=F7e;rw[hb4] at hQ;have hlast:=E3g hT hQ;have hred:A3l (E5 r0 r1 r2 r3).toNat=A3l (A*Y*D0p):=E0a (G4k B3e hlast);rw[<-hred];refine B4u T0 hk hm (pX o0 o1 o2 o3 a b c d v0 v1 v2 v3 4 r0 r1 r2 r3 0 r5) rfl ?_ (fun y cs h=>h) (.inl ⟨_,_,rfl,rfl⟩) hs
  refine ⟨by decide,by decide,by decide,by decide,by decide,h0,h1,h2,h3,hlt,rfl,rfl,rfl,rfl,rfl,trivial⟩

end S4

namespace S4

theorem MuC.pre {P:Program} {f off len es:Nat} {e1 e2 e' : En} {rest:List SV} (h:MuC P f off len es e2 rest e') (hl:∃l l',e1 = .fl l∧e2 = .fl l') (hd:∀x cs,D4 x e1 cs->D4 x e2 cs):MuC P f off len es e1 rest e' := by
 intro x vs hk hm hden;obtain ⟨l,l',rfl,rfl⟩:=hl;refine h x vs hk ⟨fun p=>?_,fun p r hp=>?_,fun p q hp hn=>?_,fun p e hp hr=>?_,hm.inj,hm.own,hm.fw⟩ hden
 ·rw[<-hm.dom p]
  by_cases h0:p=0<;>simp [one,h0]
 ·by_cases h0:p=0
  ·subst h0;exact hm.fl 0 l rfl
  ·simp [one,h0] at hp
 ·by_cases h0:p=0
  ·subst h0;simp [one] at hp
  ·simp [one,h0] at hp
 ·by_cases h0:p=0
  ·subst h0
   simp only[one,if_true,Option.some.injEq] at hp;subst hp;obtain ⟨cs,ty,hc,hdd⟩:=hm.ent 0 _ rfl hr;exact ⟨cs,ty,hc,hd _ _ hdd⟩
  ·simp [one,h0] at hp

theorem G4f {x:Ctx} {o:Ob} (hk:o.k=4) {cs:List Value} (h:C4 x.D [.ob o] cs):C4 x.D [.int .u64 (A0 o.n 0),.int .u64 (A0 o.n 1),.int .u64 (A0 o.n 2),.int .u64 (A0 o.n 3)] cs:=by
 obtain ⟨c1,c2,e,⟨d,h1⟩,h2⟩:=h;have h1:c1=o.cells:=by cases d<;>exact h1
 have h2:c2=[]:=h2;subst h2 h1 e;rw[List.append_nil];unfold Ob.cells;rw[hk];exact ⟨[_],_,rfl,⟨0,rfl⟩,[_],_,rfl,⟨0,rfl⟩,[_],_,rfl,⟨0,rfl⟩,[_],_,rfl,⟨0,rfl⟩,rfl⟩

def E4e (a b c d y0 y1 y2 y3:Int):En:=.fl [.ob (.fr (A3l ((E5 a b c d).toNat*(E5 y0 y1 y2 y3).toNat*D0p)))]
def C2n:MuS:=fun off len es e rest=>
 match off,len,es,e,rest with
 | 0,4,1,.fl [.ob (.s _)],[.v (.c (.sl (.u64 [a,b,c,d]))),.v (.c (.sl (.u64 [y0,y1,y2,y3]))),.v (.c (.sl (.u64 [m0,m1,m2,m3]))),.v (.c (.int .u64 neg))]=>
  some ([Lim a,Lim b,Lim c,Lim d,Lim y0,Lim y1,Lim y2,Lim y3,E5 y0 y1 y2 y3<rN,neg=18446744069414584319,m0=18446744069414584321,m1=6034159408538082302,m2=3691218898639771653,m3=8353516859464449352],E4e a b c d y0 y1 y2 y3)
 | 0,4,1,.fl [.ob (.fr _)],[.v (.c (.sl (.u64 [a,b,c,d]))),.v (.c (.sl (.u64 [y0,y1,y2,y3]))),.v (.c (.sl (.u64 [m0,m1,m2,m3]))),.v (.c (.int .u64 neg))]=>
  some ([Lim a,Lim b,Lim c,Lim d,Lim y0,Lim y1,Lim y2,Lim y3,E5 y0 y1 y2 y3<rN,neg=18446744069414584319,m0=18446744069414584321,m1=6034159408538082302,m2=3691218898639771653,m3=8353516859464449352],E4e a b c d y0 y1 y2 y3)
 | _,_,_,_,_=>none

theorem D4r {a b c d:Int} (ha:Lim a) (hb:Lim b) (hc:Lim c) (hd:Lim d):∃n:Nat,n<B4∧E5 a b c d=(n:Int)∧A0 n 0=a∧A0 n 1=b∧A0 n 2=c∧A0 n 3=d:=by
 obtain ⟨ha,ha1⟩:=ha;obtain ⟨hb,hb1⟩:=hb;obtain ⟨hc,hc1⟩:=hc;obtain ⟨hd,hd1⟩:=hd;have h0:0<=E5 a b c d:=by unfold E5;omega
 obtain ⟨n,hn⟩:=Int.eq_ofNat_of_zero_le h0;refine ⟨n,?_,hn,Y9 ha ha1 hb hb1 hc hc1 hd hd1 (by rw[<-hn];rfl)⟩
 unfold E5 at hn;unfold B4;omega

theorem D5n {o:Ob} (hk:o.k=4) {a b c d y0 y1 y2 y3 neg m0 m1 m2 m3:Int}
  (ho:A9 [Lim a,Lim b,Lim c,Lim d,Lim y0,Lim y1,Lim y2,Lim y3,E5 y0 y1 y2 y3<rN,neg=18446744069414584319,m0=18446744069414584321,m1=6034159408538082302,m2=3691218898639771653,m3=8353516859464449352]) :
  MuC Tryz.prog 89 0 4 1 (.fl [.ob o]) [.v (.c (.sl (.u64 [a,b,c,d]))),.v (.c (.sl (.u64 [y0,y1,y2,y3]))),.v (.c (.sl (.u64 [m0,m1,m2,m3]))),.v (.c (.int .u64 neg))] (E4e a b c d y0 y1 y2 y3):=by
 obtain ⟨h1,h2,h3,h4,h5,h6,h7,h8,h9,rfl,rfl,rfl,rfl,rfl,_⟩:=ho;obtain ⟨A,hA,eA,rfl,rfl,rfl,rfl⟩:=D4r h1 h2 h3 h4;obtain ⟨Y,hY,eY,rfl,rfl,rfl,rfl⟩:=D4r h5 h6 h7 h8;refine MuC.pre (e2:=fl4 (A0 o.n 0) (A0 o.n 1) (A0 o.n 2) (A0 o.n 3)) ?_ ⟨_,_,rfl,rfl⟩ fun x cs h=>G4f hk h
 unfold E4e;rw[eA,eY,Int.toNat_natCast,Int.toNat_natCast];rw[eY] at h9;exact D9p _ _ _ _ A Y hA (by exact_mod_cast h9)

def D2m:Env:={ A5t with mu:=fun g=>if g=89 then some (mu1 C2n) else A5t.mu g }
theorem A7j:A8 Tryz.prog D2m:=
 C7u T0 89 C2n (A5 Tryz.func89 rfl rfl) fun off len es e rest o e' h ho _ _=>by
  unfold C2n at h;split at h
  ·cases h;exact D5n rfl ho
  ·cases h;exact D5n rfl ho
  ·cases h

theorem I0x (x:U4):let b:=Ob.n (.fr x);let c:Int:=18446744069414584319;let d:Int:=18446744069414584321;let f:Int:=6034159408538082302;let g:Int:=3691218898639771653;let h:Int:=8353516859464449352;B9 D2m Tryz.f46 3000 [.v (.a [.ob (.fr x)])] [] [] []=(some ([(S4.Lim (A0 b 0)),(S4.Lim (A0 b 1)),(S4.Lim (A0 b 2)),(S4.Lim (A0 b 3)),(S4.Lim (14526898881837571181:Int)),(S4.Lim (3129137299524312099:Int)),(S4.Lim (419701826671360399:Int)),(S4.Lim (524908885293268753:Int)),((3294906474794265442129797520630710739278575682199800681788903916070560242797:Int)<(52435875175126190479447740508185965837690552500527637822603658699938581184513:Int)),(c=c),(d=d),(f=f),(g=g),(h=h)],((.v (.a [(.ob (.fr (S4.A3l ((((S4.E5 (A0 b 0) (A0 b 1) (A0 b 2) (A0 b 3))).toNat*3294906474794265442129797520630710739278575682199800681788903916070560242797)*D0p))))])),[]))):=by intros;kernel_rfl
theorem H8z (x:Fr):let b:=Ob.n (.s x);let c:=S4.Lim (0:Int);let d:Int:=18446744069414584319;let f:Int:=18446744069414584321;let g:Int:=6034159408538082302;let h:Int:=3691218898639771653;let i:Int:=8353516859464449352;B9 D2m Tryz.f48 3000 [.v (.a [.ob (.s x)])] [] [] []=(some ([(S4.Lim (A0 b 0)),(S4.Lim (A0 b 1)),(S4.Lim (A0 b 2)),(S4.Lim (A0 b 3)),(S4.Lim (1:Int)),c,c,c,((1:Int)<(52435875175126190479447740508185965837690552500527637822603658699938581184513:Int)),(d=d),(f=f),(g=g),(h=h),(i=i)],((.v (.a [(.ob (.fr (S4.A3l ((((S4.E5 (A0 b 0) (A0 b 1) (A0 b 2) (A0 b 3))).toNat*1)*D0p))))])),[]))):=by intros;kernel_rfl
end S4

namespace S4

/-- A number, taken modulo r; an element as a number. -/
def inF (a:U4):Fr:=Fin.ofNat rN a.val
def Y0 (x:Fr):U4:=Fin.ofNat B4 x.val
theorem B2v (x:Fr):(Y0 x).val=x.val:=Nat.mod_eq_of_lt (Nat.lt_trans x.isLt (by decide))

theorem E3h {n:Nat} (h:n<B4):Lim (A0 n 0)∧Lim (A0 n 1)∧Lim (A0 n 2)∧Lim (A0 n 3)∧(E5 (A0 n 0) (A0 n 1) (A0 n 2) (A0 n 3)).toNat=n:=by
 obtain ⟨e,a0,a1,b0,b1,c0,c1,d0,d1⟩:=A0p n h;refine ⟨⟨a0,a1⟩,⟨b0,b1⟩,⟨c0,c1⟩,⟨d0,d1⟩,?_⟩
 unfold E5;rw[<-e];exact Int.toNat_natCast n

theorem G2m {r B v s a:Nat} (e:v*B % r=1 % r) (hs:s % r=B*B % r):a*s*v % r=(a % r)*B % r:=by
  have h2:∀a:Nat,a*(v*B) % r=a % r:=fun a=>by rw[<-Nat.mul_mod_mod,e,Nat.mul_mod_mod,Nat.mul_one]
  calc a*s*v % r=(a*v)*s % r:=by congr 1;simp only[Nat.mul_comm,Nat.mul_left_comm]
    _=(a*v)*(B*B) % r:=by rw[<-Nat.mul_mod_mod,hs,Nat.mul_mod_mod]
    _=(a*B)*(v*B) % r:=by congr 1;simp only[Nat.mul_comm,Nat.mul_left_comm]
    _=a*B % r:=h2 _
    _=(a % r)*B % r:=by rw[Nat.mod_mul_mod]

theorem H9p:3294906474794265442129797520630710739278575682199800681788903916070560242797 % rN=B4*B4 % rN:=by kernel_rfl

theorem G2n (a:U4):FnD Tryz.prog 46 [.v (.a [.ob (.fr a)])] (.v (.a [.ob (.s (inF a))])) []:=by
 obtain ⟨h0,h1,h2,h3,hn⟩:=E3h a.isLt;refine (A6 A7j Tryz.func46 (I0x a) ?_).conv (fun _ _ h=>h) fun y v hd=>?_
 ·exact ⟨h0,h1,h2,h3,⟨by decide,by decide⟩,⟨by decide,by decide⟩,⟨by decide,by decide⟩,⟨by decide,by decide⟩,by decide,rfl,rfl,rfl,rfl,rfl,trivial⟩
 ·refine E3w (o:=.fr (A3l _)) (o' := .s (inF a)) rfl ?_ hd
  show (A3l _).val=_;rw[B3c];have hn:(E5 (A0 (Ob.n (Ob.fr a)) 0) (A0 (Ob.n (Ob.fr a)) 1) (A0 (Ob.n (Ob.fr a)) 2) (A0 (Ob.n (Ob.fr a)) 3)).toNat=a.val:=hn;rw[hn];exact G2m B3e H9p

theorem C9z {r B v x:Nat} (e:v*B % r=1 % r):(x*B % r)*1*v % r=x % r:=by
 rw[Nat.mul_one,Nat.mod_mul_mod,Nat.mul_assoc,Nat.mul_comm B,<-Nat.mul_mod_mod,e,Nat.mul_mod_mod,Nat.mul_one]

theorem F6k (x:Fr):FnD Tryz.prog 48 [.v (.a [.ob (.s x)])] (.v (.a [.ob (.fr (Y0 x))])) []:=by
 obtain ⟨h0,h1,h2,h3,hn⟩:=E3h (n:=(Ob.s x).n) (Nat.lt_trans (B5s x) (by decide))
 refine (A6 A7j Tryz.func48 (H8z x) ?_).conv (fun _ _ h=>h) fun y v hd=>?_
 ·exact ⟨h0,h1,h2,h3,⟨by decide,by decide⟩,⟨by decide,by decide⟩,⟨by decide,by decide⟩,⟨by decide,by decide⟩,by decide,rfl,rfl,rfl,rfl,rfl,trivial⟩
 ·refine E3w (o:=.fr (A3l _)) (o' := .fr (Y0 x)) (Eq.refl 4) ?_ hd
  show (A3l _).val=(Y0 x).val;rw[B3c,hn,B2v];have e:(Ob.s x).n=x.val*B4 % rN:=rfl;rw[e,C9z B3e];exact Nat.mod_eq_of_lt x.isLt

end S4

namespace S4

theorem H1u (x y:Fr):let g:Int:=18446744073709551616;let h:=Ob.n (.s y);let i:=Ob.n (.s x);let j:Int:=4;let l:Int:=1;let o:=Ob.k (.s x);let p:=Ob.k (.s y);let q:=0<=(0:Int);let r:Int:=2;let t:Int:=3;let D:=A0 h 1;let F:=A0 h 2;let G:=A0 h 0;let d:=A4 0 (A0 i 0) G (0:Int);let u:=Prod.snd d;let b:=A4 0 (A0 i 1) D u;let w:=Prod.snd b;let c:=A4 0 (A0 i 2) F w;let z:=Prod.snd c;let A:=Prod.fst d;let B:=Prod.fst b;let C:=Prod.fst c;let H:=A0 h 3;let f:=Prod.fst (A4 0 (A0 i 3) H z);let m:=S4.E5 A B C f;B9 D2m Tryz.f49 3000 [.v (.a [.ob (.s x)]),.v (.a [.ob (.s y)])] [] [] []=(some ([q,(0<j),(0<o),q,(0<j),(0<p),(0<=(A0 i 0)),(0<=G),(G<g),q,(0<=l),q,(0<j),(0<=l),(l<j),(1<o),(0<=l),(l<j),(1<p),(0<=(A0 i 1)),(0<=D),(D<g),(0<=u),(u<=l),(0<=l),(l<j),(0<=r),(r<j),(2<o),(0<=r),(r<j),(2<p),(0<=(A0 i 2)),(0<=F),(F<g),(0<=w),(w<=l),(0<=r),(r<j),(0<=t),(t<j),(3<o),(0<=t),(t<j),(3<p),(0<=(A0 i 3)),(0<=H),(H<g),(0<=z),(z<=l),(0<=t),(t<j),(0<=A),(A<g),(0<=B),(B<g),(0<=C),(C<g),(0<=f),(f<g),(m<(104871750350252380958895481016371931675381105001055275645207317399877162369026:Int))],((.v (.a [(.ob (.s (C4a (m).toNat)))])),[]))):=by intros;kernel_rfl
theorem G3n (x y:Fr):let d:=Ob.n (.s y);let g:=Ob.n (.s x);let h:Int:=18446744073709551616;let i:Int:=4;let j:Int:=1;let m:=Ob.k (.s x);let o:=Ob.k (.s y);let p:Int:=0;let q:Int:=2;let r:Int:=3;let z:=A0 d 1;let A:=A0 d 2;let B:=A0 d 0;let f:=A4 1 (A0 g 0) B p;let t:=Prod.snd f;let b:=A4 1 (A0 g 1) z t;let u:=Prod.snd b;let c:=A4 1 (A0 g 2) A u;let w:=Prod.snd c;let C:=A0 d 3;let l:=A4 1 (A0 g 3) C w;B9 D2m Tryz.f62 3000 [.v (.a [.ob (.s x)]),.v (.a [.ob (.s y)])] [true] [] []=(some ([(0<=p),(0<i),(0<m),(0<=p),(0<i),(0<o),(0<=(A0 g 0)),(0<=B),(B<h),(0<=p),(0<=j),(0<=p),(0<i),(0<=j),(j<i),(1<m),(0<=j),(j<i),(1<o),(0<=(A0 g 1)),(0<=z),(z<h),(0<=t),(t<=j),(0<=j),(j<i),(0<=q),(q<i),(2<m),(0<=q),(q<i),(2<o),(0<=(A0 g 2)),(0<=A),(A<h),(0<=u),(u<=j),(0<=q),(q<i),(0<=r),(r<i),(3<m),(0<=r),(r<i),(3<o),(0<=(A0 g 3)),(0<=C),(C<h),(0<=w),(w<=j),(0<=r),(r<i),(((Prod.snd l) == p)=true)],((.v (.a [(.int .u64 (Prod.fst f)),(.int .u64 (Prod.fst b)),(.int .u64 (Prod.fst c)),(.int .u64 (Prod.fst l))])),[]))):=by intros;kernel_rfl
theorem G3o (x y:Fr):let g:Int:=18446744073709551616;let j:=Ob.n (.s y);let l:Int:=4;let m:Int:=1;let o:=Ob.n (.s x);let r:Int:=2;let t:Int:=3;let u:Int:=18446744069414584321;let w:Int:=6034159408538082302;let z:Int:=3691218898639771653;let A:Int:=8353516859464449352;let B:=Ob.k (.s x);let C:=Ob.k (.s y);let K:Int:=0;let q:=0<=K;let L:=A0 j 1;let M:=A0 j 2;let N:=A0 j 0;let f:=A4 1 (A0 o 0) N K;let i:=A4 0 (Prod.fst f) u K;let D:=Prod.snd f;let b:=A4 1 (A0 o 1) L D;let F:=Prod.snd i;let c:=A4 0 (Prod.fst b) w F;let G:=Prod.snd b;let d:=A4 1 (A0 o 2) M G;let H:=Prod.snd c;let h:=A4 0 (Prod.fst d) z H;let I:=Prod.snd d;let J:=Prod.snd h;let O:=A0 j 3;let p:=A4 1 (A0 o 3) O I;B9 D2m Tryz.f62 3000 [.v (.a [.ob (.s x)]),.v (.a [.ob (.s y)])] [false] [] []=(some ([q,(0<l),(0<B),q,(0<l),(0<C),(0<=(A0 o 0)),(0<=N),(N<g),q,(0<=m),q,(0<l),(0<=m),(m<l),(1<B),(0<=m),(m<l),(1<C),(0<=(A0 o 1)),(0<=L),(L<g),(0<=D),(D<=m),(0<=m),(m<l),(0<=r),(r<l),(2<B),(0<=r),(r<l),(2<C),(0<=(A0 o 2)),(0<=M),(M<g),(0<=G),(G<=m),(0<=r),(r<l),(0<=t),(t<l),(3<B),(0<=t),(t<l),(3<C),(0<=(A0 o 3)),(0<=O),(O<g),(0<=I),(I<=m),(0<=t),(t<l),(((Prod.snd p) == K)=false),q,(0<l),q,(0<l),(0<4),(0<=(Prod.fst f)),(0<=u),(u<g),q,(0<=m),q,(0<l),(0<=m),(m<l),(0<=m),(m<l),(1<4),(0<=(Prod.fst b)),(0<=w),(w<g),(0<=F),(F<=m),(0<=m),(m<l),(0<=r),(r<l),(0<=r),(r<l),(2<4),(0<=(Prod.fst d)),(0<=z),(z<g),(0<=H),(H<=m),(0<=r),(r<l),(0<=t),(t<l),(0<=t),(t<l),(3<4),(0<=(Prod.fst p)),(0<=A),(A<g),(0<=J),(J<=m),(0<=t),(t<l)],((.v (.a [(.int .u64 (Prod.fst i)),(.int .u64 (Prod.fst c)),(.int .u64 (Prod.fst h)),(.int .u64 (Prod.fst (A4 0 (Prod.fst p) A J)))])),[]))):=by intros;kernel_rfl
end S4

namespace S4

theorem E8d {x y r B:Nat}:((x+y) % r)*B % r=(x*B % r+y*B % r) % r:=by
 rw[Nat.mod_mul_mod,Nat.add_mul,<-Nat.add_mod]

theorem G5z (x y:Fr):(Ob.s (x+y)).n=((Ob.s x).n+(Ob.s y).n) % rN:=by
 exact E8d

theorem D2y {n:Nat} (x y:Fin n):x-y+y=x:=by
 apply Fin.ext
 simp only[Fin.add_def,Fin.sub_def];have:=y.isLt
 rw[Nat.mod_add_mod,show n-y.val+x.val+y.val=x.val+n from by omega,Nat.add_mod_right,Nat.mod_eq_of_lt x.isLt]

theorem G6a (x y:Fr):((Ob.s (x-y)).n+(Ob.s y).n) % rN=(Ob.s x).n:=by
 rw[<-G5z,D2y]

theorem F9x {r B v x y:Nat} (e:v*B % r=1 % r):(x*B % r+y*B % r)*v % r=(x+y) % r:=by
 rw[<-Nat.mod_mul_mod,<-Nat.add_mod,Nat.mod_mul_mod,<-Nat.add_mul,Nat.mul_assoc,Nat.mul_comm B,<-Nat.mul_mod_mod,e,Nat.mul_mod_mod,Nat.mul_one]

theorem F7y (x y:Fr):C4a ((Ob.s x).n+(Ob.s y).n)=x+y:=by
 apply Fin.ext
 have e:(Ob.s x).n=x.val*B4 % rN:=rfl;have e' : (Ob.s y).n=y.val*B4 % rN:=rfl;rw[e,e'];exact F9x B3e

theorem F7b (x y:Fr):FnD Tryz.prog 49 [.v (.a [.ob (.s x)]),.v (.a [.ob (.s y)])] (.v (.a [.ob (.s (x+y))])) []:=by
 have r0:=H1u x y;dsimp only at r0;have hX:=B5s x;have hY:=B5s y;have hadd:=F7y x y;obtain ⟨ex,x0,x0',x1,x1',x2,x2',x3,x3'⟩:=A0p (Ob.s x).n (Nat.lt_trans (B5s x) (by decide))
 obtain ⟨ey,y0,y0',y1,y1',y2,y2',y3,y3'⟩:=A0p (Ob.s y).n (Nat.lt_trans (B5s y) (by decide))
 generalize A0 (Ob.s x).n 0=a0 at *;generalize A0 (Ob.s x).n 1=a1 at *;generalize A0 (Ob.s x).n 2=a2 at *;generalize A0 (Ob.s x).n 3=a3 at *;generalize A0 (Ob.s y).n 0=b0 at *;generalize A0 (Ob.s y).n 1=b1 at *;generalize A0 (Ob.s y).n 2=b2 at *;generalize A0 (Ob.s y).n 3=b3 at *;obtain ⟨e0,p0,p0',c0,c0'⟩:=F7 (c:=0) x0 x0' y0 y0' (by decide) (by decide)
 obtain ⟨e1,p1,p1',c1,c1'⟩:=F7 x1 x1' y1 y1' c0 c0';obtain ⟨e2,p2,p2',c2,c2'⟩:=F7 x2 x2' y2 y2' c1 c1';obtain ⟨e3,p3,p3',c3,c3'⟩:=F7 x3 x3' y3 y3' c2 c2';generalize hq0:A4 0 a0 b0 0=q0 at *;generalize hq1:A4 0 a1 b1 q0.2=q1 at *;generalize hq2:A4 0 a2 b2 q1.2=q2 at *;generalize hq3:A4 0 a3 b3 q2.2=q3 at *;clear hq0 hq1 hq2 hq3;have hN:E5 q0.1 q1.1 q2.1 q3.1=((Ob.s x).n:Int)+((Ob.s y).n:Int):=by
  generalize (Ob.s x).n=X at *;generalize (Ob.s y).n=Y at *;unfold rN at hX hY;unfold E5;omega
 refine (A6 A7j Tryz.func49 r0 ?_).conv (fun _ _ h=>h) fun z v hd=>?_
 ·have hlt:E5 q0.1 q1.1 q2.1 q3.1<104871750350252380958895481016371931675381105001055275645207317399877162369026:=by
   unfold rN at hX hY;omega
  simp only[A9,and_true,Ob.k];clear hN hX hY ex ey hadd r0;and_intros<;>first | assumption | decide | omega
 ·have hN' : (E5 q0.1 q1.1 q2.1 q3.1).toNat=(Ob.s x).n+(Ob.s y).n:=by omega
  rw[hN',hadd] at hd;exact hd

theorem G0d {b:Int} (h0:0<=b) (h1:b<=1) (h:¬b=0):b=1:=by omega

theorem I3h {q0 q1 q2 q3 w0 w1 w2 w3 v0 v1 v2 v3:Int} (f0:q0+18446744069414584321+0=w0+18446744073709551616*v0) (f1:q1+6034159408538082302+v0=w1+18446744073709551616*v1)
  (f2:q2+3691218898639771653+v1=w2+18446744073709551616*v2) (f3:q3+8353516859464449352+v2=w3+18446744073709551616*v3) :
  E5 w0 w1 w2 w3+115792089237316195423570985008687907853269984665640564039457584007913129639936*v3=E5 q0 q1 q2 q3+rN:=by
 unfold E5 rN;omega

theorem E3v {a b c d:Int} (ha:Lim a) (hb:Lim b) (hc:Lim c) (hd:Lim d):0<=E5 a b c d∧E5 a b c d<115792089237316195423570985008687907853269984665640564039457584007913129639936:=by
 obtain ⟨_,_⟩:=ha;obtain ⟨_,_⟩:=hb;obtain ⟨_,_⟩:=hc;obtain ⟨_,_⟩:=hd;unfold E5;omega

theorem G6m {X Y Z:Nat} {N W v:Int} (hX:X<rN) (hY:Y<rN) (hcase:(Y<=X∧(Z:Int)=X-Y)∨(X<Y∧(Z:Int)=X+rN-Y))
  (hdiff:N-115792089237316195423570985008687907853269984665640564039457584007913129639936*1=(X:Int)-Y) (hN:0<=N∧N<115792089237316195423570985008687907853269984665640564039457584007913129639936)
  (hW:0<=W∧W<115792089237316195423570985008687907853269984665640564039457584007913129639936) (hv:0<=v∧v<=1)
  (hsum:W+115792089237316195423570985008687907853269984665640564039457584007913129639936*v=N+rN):(Z:Int)=W:=by
 obtain ⟨hN0,hN1⟩:=hN;obtain ⟨hW0,hW1⟩:=hW;obtain ⟨hv0,hv1⟩:=hv;unfold rN at *;have:v=0∨v=1:=by omega
 rcases hcase with ⟨h1,h2⟩ | ⟨h1,h2⟩
 ·exfalso;omega
 ·rcases this with rfl | rfl<;>omega

theorem E8j {X Y Z r:Nat} (_hX:X<r) (hY:Y<r) (hZ:Z<r) (h:(Z+Y) % r=X):(Y<=X∧(Z:Int)=X-Y)∨(X<Y∧(Z:Int)=X+r-Y):=by
 by_cases hl:Z+Y<r
 ·rw[Nat.mod_eq_of_lt hl] at h
  left;omega
 ·rw[Nat.mod_eq_sub_mod (by omega),Nat.mod_eq_of_lt (by omega)] at h
  right;omega

theorem E6v (x y:Fr):FnD Tryz.prog 62 [.v (.a [.ob (.s x)]),.v (.a [.ob (.s y)])] (.v (.a [.ob (.s (x-y))])) []:=by
 have r0:=G3n x y;dsimp only at r0;have r1:=G3o x y;dsimp only at r1;have hX:=B5s x;have hY:=B5s y;have hZ:=B5s (x-y);have hsub:=G6a x y;obtain ⟨ex,x0,x0',x1,x1',x2,x2',x3,x3'⟩:=A0p (Ob.s x).n (Nat.lt_trans (B5s x) (by decide))
 obtain ⟨ey,y0,y0',y1,y1',y2,y2',y3,y3'⟩:=A0p (Ob.s y).n (Nat.lt_trans (B5s y) (by decide))
 generalize A0 (Ob.s x).n 0=a0 at *;generalize A0 (Ob.s x).n 1=a1 at *;generalize A0 (Ob.s x).n 2=a2 at *;generalize A0 (Ob.s x).n 3=a3 at *;generalize A0 (Ob.s y).n 0=b0 at *;generalize A0 (Ob.s y).n 1=b1 at *;generalize A0 (Ob.s y).n 2=b2 at *;generalize A0 (Ob.s y).n 3=b3 at *;obtain ⟨e0,p0,p0',c0,c0'⟩:=F4 (c:=0) x0 x0' y0 y0' (by decide) (by decide)
 obtain ⟨e1,p1,p1',c1,c1'⟩:=F4 x1 x1' y1 y1' c0 c0';obtain ⟨e2,p2,p2',c2,c2'⟩:=F4 x2 x2' y2 y2' c1 c1';obtain ⟨e3,p3,p3',c3,c3'⟩:=F4 x3 x3' y3 y3' c2 c2';generalize hq0:A4 1 a0 b0 0=q0 at *;generalize hq1:A4 1 a1 b1 q0.2=q1 at *;generalize hq2:A4 1 a2 b2 q1.2=q2 at *;generalize hq3:A4 1 a3 b3 q2.2=q3 at *;clear hq0 hq1 hq2 hq3;have hcase:=E8j hX hY hZ hsub;have hdiff:E5 q0.1 q1.1 q2.1 q3.1-115792089237316195423570985008687907853269984665640564039457584007913129639936*q3.2=((Ob.s x).n:Int)-((Ob.s y).n:Int):=by
  rw[ex,ey];clear hsub hcase hX hY hZ ex ey;unfold E5;omega
 by_cases hz:q3.2=0
 ·refine (A6 A7j Tryz.func62 r0 ?_).conv (fun _ _ h=>h) fun z v hd=>B1w rfl (Y9 p0 p0' p1 p1' p2 p2' p3 p3' ?_) hd
  ·simp only[A9,and_true,Ob.k,beq_iff_eq]
   clear hsub hX hY hZ ex ey r0 r1 hcase hdiff;and_intros<;>first | assumption | decide | omega
  ·rcases hcase with ⟨h1,h2⟩ | ⟨h1,h2⟩
   ·rw[h2,<-hdiff,hz];unfold E5;omega
   ·rw[hz] at hdiff;exfalso;unfold E5 at hdiff;clear ex ey hsub h2 e0 e1 e2 e3;omega
 ·obtain ⟨f0,s0,s0',d0,d0'⟩:=F7 (y:=18446744069414584321) (c:=0) p0 p0' (by decide) (by decide) (by decide) (by decide)
  obtain ⟨f1,s1,s1',d1,d1'⟩:=F7 (y:=6034159408538082302) p1 p1' (by decide) (by decide) d0 d0'
  obtain ⟨f2,s2,s2',d2,d2'⟩:=F7 (y:=3691218898639771653) p2 p2' (by decide) (by decide) d1 d1'
  obtain ⟨f3,s3,s3',d3,d3'⟩:=F7 (y:=8353516859464449352) p3 p3' (by decide) (by decide) d2 d2'
  generalize hw0:A4 0 q0.1 18446744069414584321 0=w0 at *;generalize hw1:A4 0 q1.1 6034159408538082302 w0.2=w1 at *;generalize hw2:A4 0 q2.1 3691218898639771653 w1.2=w2 at *;generalize hw3:A4 0 q3.1 8353516859464449352 w2.2=w3 at *;clear hw0 hw1 hw2 hw3;refine (A6 A7j Tryz.func62 r1 ?_).conv (fun _ _ h=>h) fun z v hd=>B1w rfl (Y9 s0 s0' s1 s1' s2 s2' s3 s3' ?_) hd
  ·simp only[A9,and_true,Ob.k,beq_eq_false_iff_ne]
   clear hsub hX hY hZ ex ey r0 r1 hcase hdiff;and_intros<;>first | assumption | decide | omega
  ·have hz1:q3.2=1:=G0d c3 c3' hz
   rw[hz1] at hdiff;exact G6m hX hY hcase hdiff (E3v ⟨p0,p0'⟩ ⟨p1,p1'⟩ ⟨p2,p2'⟩ ⟨p3,p3'⟩) (E3v ⟨s0,s0'⟩ ⟨s1,s1'⟩ ⟨s2,s2'⟩ ⟨s3,s3'⟩) ⟨d3,d3'⟩ (I3h f0 f1 f2 f3)

end S4

namespace S4

def D8m:B7
 | [.v (.a [.ob (.fr a)])]=>some ([],.v (.a [.ob (.s (inF a))]),[])
 | _=>none
def gA:Env:=D2m.set (E1 D2m.fn 46 D8m)
theorem H7l:A8 Tryz.prog gA:=B0 A7j 46 D8m (A5 Tryz.func46 rfl rfl) fun args o r es h _=>by
 unfold D8m at h;split at h
 ·cases h;exact G2n _
 ·cases h
def C9y:B7
 | [.v (.a [.ob (.s x)])]=>some ([],.v (.a [.ob (.fr (Y0 x))]),[])
 | _=>none
def gB:Env:=gA.set (E1 gA.fn 48 C9y)
theorem H7m:A8 Tryz.prog gB:=B0 H7l 48 C9y (A5 Tryz.func48 rfl rfl) fun args o r es h _=>by
 unfold C9y at h;split at h
 ·cases h;exact F6k _
 ·cases h
def B5v:B7
 | [.v (.a [.ob (.s x)]),.v (.a [.ob (.s y)])]=>some ([],.v (.a [.ob (.s (x*y))]),[])
 | _=>none
def gC:Env:=gB.set (E1 gB.fn 47 B5v)
theorem H7n:A8 Tryz.prog gC:=B0 H7m 47 B5v (A5 Tryz.func47 rfl rfl) fun args o r es h _=>by
 unfold B5v at h;split at h
 ·cases h;exact E8p _ _
 ·cases h
def C2f:B7
 | [.v (.a [.ob (.s x)]),.v (.a [.ob (.s y)])]=>some ([],.v (.a [.ob (.s (x+y))]),[])
 | _=>none
def gD:Env:=gC.set (E1 gC.fn 49 C2f)
theorem H7o:A8 Tryz.prog gD:=B0 H7n 49 C2f (A5 Tryz.func49 rfl rfl) fun args o r es h _=>by
 unfold C2f at h;split at h
 ·cases h;exact F7b _ _
 ·cases h
def B4t:B7
 | [.v (.a [.ob (.s x)]),.v (.a [.ob (.s y)])]=>some ([],.v (.a [.ob (.s (x-y))]),[])
 | _=>none
def gE:Env:=gD.set (E1 gD.fn 62 B4t)
theorem G7l:A8 Tryz.prog gE:=B0 H7o 62 B4t (A5 Tryz.func62 rfl rfl) fun args o r es h _=>by
 unfold B4t at h;split at h
 ·cases h;exact E6v _ _
 ·cases h
theorem I1s (x:Fr):B9 gE Tryz.f53 3000 [.v (.a [.ob (.s x)])] [] [] []=(some ([],((.v (.a [(.ob (.s ((0:Fr)-x)))])),[]))):=by kernel_rfl
def C9l:B7
 | [.v (.a [.ob (.s x)])]=>some ([],.v (.a [.ob (.s (0-x))]),[])
 | _=>none
def gF:Env:=gE.set (E1 gE.fn 53 C9l)
theorem F2d:A8 Tryz.prog gF:=B0 G7l 53 C9l (A5 Tryz.func53 rfl rfl) fun args o r es h _=>by
 unfold C9l at h;split at h
 ·cases h;exact A6 G7l Tryz.func53 (I1s _) trivial
 ·cases h
theorem frC (a:U4):B9 gF Tryz.f27 3000 [.v (.a [.ob (.fr a)])] [] [] []=(some ([],((.v (.a [(.ob (.fr (S4.Y0 (S4.inF a))))])),[]))):=by kernel_rfl
theorem frM (a b:U4):B9 gF Tryz.f14 3000 [.v (.a [.ob (.fr a)]),.v (.a [.ob (.fr b)])] [] [] []=(some ([],((.v (.a [(.ob (.fr (S4.Y0 ((S4.inF a)*(S4.inF b)))))])),[]))):=by kernel_rfl
def B3t:B7
 | [.v (.a [.ob (.fr a)])]=>some ([],.v (.a [.ob (.fr (Y0 (inF a)))]),[])
 | _=>none
def gG:Env:=gF.set (E1 gF.fn 27 B3t)
theorem H7p:A8 Tryz.prog gG:=B0 F2d 27 B3t (A5 Tryz.func27 rfl rfl) fun args o r es h _=>by
 unfold B3t at h;split at h
 ·cases h;exact A6 F2d Tryz.func27 (frC _) trivial
 ·cases h
def gH:Env:=gG
theorem H7q:A8 Tryz.prog gH:=H7p
def C9j:B7
 | [.v (.a [.ob (.fr a)]),.v (.a [.ob (.fr b)])]=>some ([],.v (.a [.ob (.fr (Y0 (inF a*inF b)))]),[])
 | _=>none
def gI:Env:=gH.set (E1 gH.fn 14 C9j)
theorem H7r:A8 Tryz.prog gI:=B0 H7q 14 C9j (A5 Tryz.func14 rfl rfl) fun args o r es h _=>by
 unfold C9j at h;split at h
 ·cases h;exact A6 F2d Tryz.func14 (frM _ _) trivial
 ·cases h
def gJ:Env:=gI
theorem H7s:A8 Tryz.prog gJ:=H7r
def gK:Env:=gJ
theorem F2e:A8 Tryz.prog gK:=H7s
end S4

section

section
variable {F:Type} [Fld F] [DecidableEq F] {b:F}
theorem D3r (hc:Cv b) {P:Pt F} {a:F×F×F} (hP:OnC b P) (h:Jc P a) (l:List Nat):decide ((jmn a l).2.2=0)=decide (G7 P (dgV l)=none):=by
 have hj:=D8r hc hP h l
 cases hn:G7 P (dgV l) with
 | none=>
  rw[hn] at hj;have hj:(jmn a l).2.2=0:=hj;rw[decide_eq_true hj,decide_eq_true rfl]
 | some q=>
  rw[hn] at hj;have hj:(jmn a l).2.2≠0:=hj.1;rw[decide_eq_false hj];exact (decide_eq_false (p:=(some q:Pt F)=none) (fun e=>by cases e)).symm
end

def rL:Nat:=52435875175126190479447740508185965837690552500527637822603658699938581184513
theorem H9f:rN=rL:=rfl
theorem H6y {n:Nat} (h:n<B4):dgV (dgT n 64)=n:=by
 have h2:B4=16 ^ 64:=by decide +kernel
 exact E1x (Eq.refl 64) (by rw[<-h2];exact h)
theorem E1y:dgV (dgT 52435875175126190479447740508185965837690552500527637822603658699938581184513 64)=rN:=(H6y (n:=52435875175126190479447740508185965837690552500527637822603658699938581184513) (by decide +kernel)).trans H9f.symm
end

end
end Go.Proofs.YtefimjofjjdndaaGreat
