/- Parts of a proof, one behind the other: PStim, WSrdc, PSrdc, WSprd, PSprd, PSprl, WSio, PSio, WSpls, PSpls, WSfr, Ji, WLa, PLa, PLm, WLb, PLb. No conditions. -/
import Derived.Test.YtefimjofjjdndaaGreatKoM
open Go.IntKind (wrap)
namespace Go.Proofs.YtefimjofjjdndaaGreat
noncomputable section
namespace S4

/-- Ahead of the i-th round. -/
structure I7z (x y:Fr) (i:Nat) (t0 t1 t2 t3:Int):Prop where
 i4:i<=4
 h0:0<=t0∧t0<18446744073709551616
 h1:0<=t1∧t1<18446744073709551616
 h2:0<=t2∧t2<18446744073709551616
 h3:0<=t3∧t3<18446744073709551616
 lt:E4 t0 t1 t2 t3<2*rN
 eq:∃Q:Nat,E4 t0 t1 t2 t3*((2 ^ (64*i):Nat):Int)=(((Ob.s x).n % 2 ^ (64*i):Nat):Int)*((Ob.s y).n:Int)+(Q:Int)*(rN:Int)

theorem B6b (x:Fr):(Ob.s x).n<rN:=Nat.mod_lt _ (by decide)

theorem G2h {x y:Fr} {i Q:Nat} {T T' q:Int} (hq:0<=q) (h:T*((2 ^ (64*i):Nat):Int)=(((Ob.s x).n % 2 ^ (64*i):Nat):Int)*((Ob.s y).n:Int)+(Q:Int)*(rN:Int))
  (h' : 18446744073709551616*T' = T+A0 (Ob.s x).n i*((Ob.s y).n:Int)+q*(rN:Int)) :
  ∃Q:Nat,T' * ((2 ^ (64*(i+1)):Nat):Int)=(((Ob.s x).n % 2 ^ (64*(i+1)):Nat):Int)*((Ob.s y).n:Int)+(Q:Int)*(rN:Int):=by
 obtain ⟨q,rfl⟩:=Int.eq_ofNat_of_zero_le hq;refine ⟨Q+q*2 ^ (64*i),?_⟩
 rw[C2b];have hp:(2:Nat) ^ (64*(i+1))=2 ^ (64*i)*18446744073709551616:=by rw[Nat.mul_add,Nat.pow_add]
 rw[hp];have hl:A0 (Ob.s x).n i=(((Ob.s x).n / 2 ^ (64*i) % 18446744073709551616:Nat):Int):=rfl;rw[hl] at h'
 generalize (Ob.s x).n / 2 ^ (64*i) % 18446744073709551616=xi at *;generalize (Ob.s x).n % 2 ^ (64*i)=X at *;generalize (Ob.s y).n=Y at *;generalize 2 ^ (64*i)=m at *;generalize rN=r at *;have e1:T' * ((m*18446744073709551616:Nat):Int)=(18446744073709551616*T')*(m:Int):=by
  rw[Int.natCast_mul,Int.mul_comm (m:Int),<-Int.mul_assoc,Int.mul_comm T'];rfl
 rw[e1,h',Int.add_mul,Int.add_mul,h];push_cast
 simp only[Int.add_mul,Int.mul_assoc];have e2:(xi:Int)*((Y:Int)*(m:Int))=(m:Int)*((xi:Int)*(Y:Int)):=by rw[<-Int.mul_assoc,Int.mul_comm]
 have e3:(q:Int)*((r:Int)*(m:Int))=(q:Int)*((m:Int)*(r:Int)):=by rw[Int.mul_comm (r:Int)]
 rw[e2,e3];omega

theorem D7a (z a b c d:Int):z*E4 a b c d=z*a+18446744073709551616*(z*b)+340282366920938463463374607431768211456*(z*c)+6277101735386680763835789423207666416102355444464034512896*(z*d):=by
 unfold E4;simp only[Int.mul_add,Int.mul_left_comm z]

def Lim (a:Int):Prop:=0<=a∧a<18446744073709551616

theorem C4t (n:Int):Lim (wrap IntKind.u64 n):=by
 unfold Lim;rw[C4s];omega

section
variable {w0:World} {F0:Nat->Prop} {K:Kp} {ac:List Act} {Q:Exit->Act->World->Prop} {cX:Ctx} {aX:Act}

theorem I0s (x y:Fr) (i:Nat) {t0 t1 t2 t3:Int} (hi:i<4) (h0:Lim t0) (hx:Lim (A0 (Ob.s x).n i)) (hy:Lim (A0 (Ob.s y).n 0)) (hs:Sim w0 F0 K ac (tS x y i t0 t1 t2 t3) cX aX)
  (k:∀lo up q dn:Int,A0 (Ob.s x).n i*A0 (Ob.s y).n 0+t0=lo+18446744073709551616*up->q*18446744069414584321+lo=18446744073709551616*dn->Lim lo->Lim up->Lim q->Lim dn ->
   ∀ac cY aY,Sim w0 F0 K ac (tS1 x y i t1 t2 t3 (A0 (Ob.s x).n i) q up dn) cY aY->Wq Tryz.prog Q G2y ac .normal aY cY.w):Wq Tryz.prog Q (E8 B3u) ac .normal aX cX.w:=by
 obtain ⟨a0,b0⟩:=h0;obtain ⟨x0,x1⟩:=hx;obtain ⟨y0,y1⟩:=hy;have e1:=E9p x0 x1 y0 y1 a0 b0;have sA:=@tA x y i t0 t1 t2 t3 w0 F0 K ac Q cX aX;rw[Int.toNat_natCast] at sA;generalize A0 (Ob.s x).n i=xi at *;obtain ⟨e1,l1,u1⟩:=e1;have hq:=C4t ((A6 0 ((xi*A0 (Ob.s y).n 0) % 18446744073709551616) t0 0).1*18446744069414584319);have e2:=E9p (b:=18446744069414584321) hq.1 hq.2 (by decide) (by decide) l1.1 l1.2
 have e3:=D6u (l:=(A6 0 ((xi*A0 (Ob.s y).n 0) % 18446744073709551616) t0 0).1) rfl;refine sA ?_ hs fun ac cY aY h=>?_
 ·refine ⟨by simp only[decide_eq_true_eq];omega,by omega,by omega,by decide,by decide,by show (0:Nat)<4;decide,x0,x1,y0,y1,by omega,a0,b0,by decide,by decide,hq.1,hq.2,by decide,by decide,by omega,l1.1,l1.2,by decide,by decide,trivial⟩
 ·refine k _ _ _ _ e1 ?_ l1 u1 hq e2.2.2 ac cY aY h
  have:=e2.1
  have:=e2.2.1
  omega

theorem I0t (x y:Fr) (i:Nat) {t1 t2 t3 xi q up dn:Int} (ht:Lim t1) (hx:Lim xi) (hq:Lim q) (hu:Lim up) (hd:Lim dn) (hy:Lim (A0 (Ob.s y).n 1)) (hs:Sim w0 F0 K ac (tS1 x y i t1 t2 t3 xi q up dn) cX aX)
  (k:∀lo up' n dn' : Int,xi*A0 (Ob.s y).n 1+t1+up=lo+18446744073709551616*up' -> q*6034159408538082302+lo+dn=n+18446744073709551616*dn' -> Lim lo->Lim up' -> Lim n->Lim dn' ->
   ∀ac cY aY,Sim w0 F0 K ac (tS2 x y i n t2 t3 xi q up' dn') cY aY->Wq Tryz.prog Q (G2z) ac .normal aY cY.w):Wq Tryz.prog Q G2y ac .normal aX cX.w:=by
 obtain ⟨e1,l1,u1,m1⟩:=mac hx.1 hx.2 hy.1 hy.2 ht.1 ht.2 hu.1 hu.2;obtain ⟨e2,l2,u2,m2⟩:=mac (b:=6034159408538082302) hq.1 hq.2 (by decide) (by decide) l1.1 l1.2 hd.1 hd.2
 refine tB x y i t1 t2 t3 xi q up dn ?_ hs fun ac cY aY h=>?_
 ·refine ⟨by decide,by decide,by show 1<4;decide,hx.1,hx.2,hy.1,hy.2,by omega,ht.1,ht.2,by decide,by decide,m1.1,hu.1,hu.2,by decide,by decide,hq.1,hq.2,by decide,by decide,by omega,l1.1,l1.2,by decide,by decide,m2.1,hd.1,hd.2,by decide,by decide,trivial⟩
 ·exact k _ _ _ _ e1 e2 l1 u1 l2 u2 ac cY aY h

theorem I0u (x y:Fr) (i:Nat) {n0 t2 t3 xi q up dn:Int} (ht:Lim t2) (hx:Lim xi) (hq:Lim q) (hu:Lim up) (hd:Lim dn) (hy:Lim (A0 (Ob.s y).n 2)) (hs:Sim w0 F0 K ac (tS2 x y i n0 t2 t3 xi q up dn) cX aX)
  (k:∀lo up' n dn' : Int,xi*A0 (Ob.s y).n 2+t2+up=lo+18446744073709551616*up' -> q*3691218898639771653+lo+dn=n+18446744073709551616*dn' -> Lim lo->Lim up' -> Lim n->Lim dn' ->
   ∀ac cY aY,Sim w0 F0 K ac (tS3 x y i n0 n t3 xi q up' dn') cY aY->Wq Tryz.prog Q (H2h) ac .normal aY cY.w):Wq Tryz.prog Q G2z ac .normal aX cX.w:=by
 obtain ⟨e1,l1,u1,m1⟩:=mac hx.1 hx.2 hy.1 hy.2 ht.1 ht.2 hu.1 hu.2;obtain ⟨e2,l2,u2,m2⟩:=mac (b:=3691218898639771653) hq.1 hq.2 (by decide) (by decide) l1.1 l1.2 hd.1 hd.2
 refine tC x y i n0 t2 t3 xi q up dn ?_ hs fun ac cY aY h=>?_
 ·refine ⟨by decide,by decide,by show 2<4;decide,hx.1,hx.2,hy.1,hy.2,by omega,ht.1,ht.2,by decide,by decide,m1.1,hu.1,hu.2,by decide,by decide,hq.1,hq.2,by decide,by decide,by omega,l1.1,l1.2,by decide,by decide,m2.1,hd.1,hd.2,by decide,by decide,trivial⟩
 ·exact k _ _ _ _ e1 e2 l1 u1 l2 u2 ac cY aY h

theorem I0v (x y:Fr) (i:Nat) (hi:i<4) {n0 n1 t3 xi q up dn:Int} (ht:Lim t3) (hx:Lim xi) (hq:Lim q) (hu:Lim up) (hd:Lim dn) (hy:Lim (A0 (Ob.s y).n 3)) (hs:Sim w0 F0 K ac (tS3 x y i n0 n1 t3 xi q up dn) cX aX)
  (k:∀lo up' n dn' : Int,xi*A0 (Ob.s y).n 3+t3+up=lo+18446744073709551616*up' -> q*8353516859464449352+lo+dn=n+18446744073709551616*dn' -> Lim lo->Lim up' -> Lim n->Lim dn' ->
   ∀ac cY aY,Sim w0 F0 K ac (tS x y (i+1) n0 n1 n (wrap IntKind.u64 (dn' + up'))) cY aY->Wq Tryz.prog Q (M7 B3u) ac .normal aY cY.w):Wq Tryz.prog Q H2h ac .normal aX cX.w:=by
 obtain ⟨e1,l1,u1,m1⟩:=mac hx.1 hx.2 hy.1 hy.2 ht.1 ht.2 hu.1 hu.2;obtain ⟨e2,l2,u2,m2⟩:=mac (b:=8353516859464449352) hq.1 hq.2 (by decide) (by decide) l1.1 l1.2 hd.1 hd.2
 refine tD x y i n0 n1 t3 xi q up dn ?_ hs fun ac cY aY h=>?_
 ·refine ⟨by decide,by decide,by show 3<4;decide,hx.1,hx.2,hy.1,hy.2,by omega,ht.1,ht.2,by decide,by decide,m1.1,hu.1,hu.2,by decide,by decide,hq.1,hq.2,by decide,by decide,by omega,l1.1,l1.2,by decide,by decide,m2.1,hd.1,hd.2,by decide,by decide,trivial⟩
 ·exact k _ _ _ _ e1 e2 l1 u1 l2 u2 ac cY aY ((by rw[C0 (by omega) (by omega)] at h;exact h.nx _))

end

theorem E6b {T:Int} (hT:0<=T) {b X Y Q r:Nat} (h:T*(b:Int)=(X:Int)*(Y:Int)+(Q:Int)*(r:Int)):T.toNat*b=X*Y+Q*r:=by
 rw[<-Int.toNat_of_nonneg hT] at h
 exact_mod_cast h

theorem F1j (x y:Fr):FnD Tryz.prog 47 [.v (.a [.ob (.s x)]),.v (.a [.ob (.s y)])] (.v (.a [.ob (.s (x*y))])) []:=by
 refine J3 (fn:=Tryz.f47) (c:=B9 Tryz.f47) Tryz.func47 rfl rfl fun cx ca hk hF hs=>?_
 refine tIn x y trivial hs fun ac cY aY hs1=>?_
 refine E6 (ι:={ p:Nat×Int×Int×Int×Int // I7z x y p.1 p.2.1 p.2.2.1 p.2.2.2.1 p.2.2.2.2 }) (fun p=>tS x y p.1.1 p.1.2.1 p.1.2.2.1 p.1.2.2.2.1 p.1.2.2.2.2) (fun p=>4-p.1.1) (c:=lpC B3u) (k:=lpR B3u) (by kernel_rfl) (fun p ih ac cY aY hs=>?_)
  ⟨(0,0,0,0,0),⟨by decide,by decide,by decide,by decide,by decide,by decide,0,by simp [E4,Nat.mod_one]⟩⟩ hs1
 obtain ⟨⟨i,t0,t1,t2,t3⟩,hI⟩:=p;simp only at ih hs hI
 obtain ⟨hi,⟨a0,b0⟩,⟨a1,b1⟩,⟨a2,b2⟩,⟨a3,b3⟩,hlt,Q,hQ⟩:=hI;obtain ⟨ey,y0,y0',y1,y1',y2,y2',y3,y3'⟩:=A0l (Ob.s y).n (Nat.lt_trans (B6b y) (by decide))
 have hyr:((Ob.s y).n:Int)<(rN:Int):=by exact_mod_cast B6b y
 by_cases h5:i<4
 ·have hx0:0<=A0 (Ob.s x).n i:=Int.natCast_nonneg _
  have hx1:A0 (Ob.s x).n i<18446744073709551616:=by
   show (((Ob.s x).n / 2 ^ (64*i) % 18446744073709551616:Nat):Int)<18446744073709551616;omega
  have hround:=fun T' q hq=>G2h (x:=x) (y:=y) (i:=i) (Q:=Q) (T:=E4 t0 t1 t2 t3) (T' := T') (q:=q) hq hQ
  have hyn:((Ob.s y).n:Int)=E4 (A0 (Ob.s y).n 0) (A0 (Ob.s y).n 1) (A0 (Ob.s y).n 2) (A0 (Ob.s y).n 3):=ey;have hzz:A0 (Ob.s x).n i*((Ob.s y).n:Int)<=18446744073709551615*((Ob.s y).n:Int):=Int.mul_le_mul_of_nonneg_right (by omega) (by omega)
  have hz0:0<=A0 (Ob.s x).n i*((Ob.s y).n:Int):=Int.mul_nonneg hx0 (by omega)
  have hmul:=D7a (A0 (Ob.s x).n i) (A0 (Ob.s y).n 0) (A0 (Ob.s y).n 1) (A0 (Ob.s y).n 2) (A0 (Ob.s y).n 3);rw[<-hyn] at hmul;refine I0s x y i h5 ⟨a0,b0⟩ ⟨hx0,hx1⟩ ⟨y0,y0'⟩ hs fun lo0 up0 q dn0 eA eQ hlo0 hup0 hq hdn0 ac cY aY hs=>?_
  refine I0t x y i ⟨a1,b1⟩ ⟨hx0,hx1⟩ hq hup0 hdn0 ⟨y1,y1'⟩ hs fun lo1 up1 n0 dn1 eB eB' hlo1 hup1 hn0 hdn1 ac cY aY hs=>?_
  refine I0u x y i ⟨a2,b2⟩ ⟨hx0,hx1⟩ hq hup1 hdn1 ⟨y2,y2'⟩ hs fun lo2 up2 n1 dn2 eC eC' hlo2 hup2 hn1 hdn2 ac cY aY hs=>?_
  refine I0v x y i h5 ⟨a3,b3⟩ ⟨hx0,hx1⟩ hq hup2 hdn2 ⟨y3,y3'⟩ hs fun lo3 up3 n2 dn3 eD eD' hlo3 hup3 hn2 hdn3 ac cY aY hs=>?_
  have hall:18446744073709551616*E4 n0 n1 n2 (dn3+up3)=E4 t0 t1 t2 t3+A0 (Ob.s x).n i*((Ob.s y).n:Int)+q*(rN:Int):=by
   rw[hmul];clear hround hmul hzz hz0 hQ ih hyr hyn ey;unfold E4 rN;omega
  have hlt' : E4 n0 n1 n2 (dn3+up3)<2*rN:=by
   obtain ⟨q0,q1⟩:=hq;have:q*(rN:Int)<=18446744073709551615*(rN:Int):=Int.mul_le_mul_of_nonneg_right (by omega) (by omega)
   clear hround hmul hQ ih hyn ey;generalize A0 (Ob.s x).n i*((Ob.s y).n:Int)=z at *;generalize q*(rN:Int)=z' at *;omega
  have htop:wrap IntKind.u64 (dn3+up3)=dn3+up3:=by
   obtain ⟨_,_⟩:=hdn3;obtain ⟨_,_⟩:=hup3;obtain ⟨_,_⟩:=hn0;obtain ⟨_,_⟩:=hn1;obtain ⟨_,_⟩:=hn2;refine G4e (by omega) ?_
   unfold E4 rN at hlt';omega
  rw[htop] at hs;refine ih ⟨(i+1,n0,n1,n2,dn3+up3),⟨h5,hn0,hn1,hn2,?_,hlt',hround _ q hq.1 hall⟩⟩ (by show 4-(i+1)<4-i;omega) ac cY aY hs
  rw[<-htop];exact C4t _
 ·have hi4:i=4:=by omega
  subst hi4;refine D2q A1d hk hF (I1c x y 4 t0 t1 t2 t3) ?_ (fun z w hd=>?_) hs
  ·refine ⟨by decide,a0,b0,a1,b1,a2,b2,a3,b3,hlt,trivial⟩
  ·have hT:0<=E4 t0 t1 t2 t3:=by unfold E4;omega
   have:C5k (E4 t0 t1 t2 t3).toNat=x*y:=by
    refine F8x (Q:=Q) ?_
    have hX:(Ob.s x).n % 2 ^ (64*4)=(Ob.s x).n:=Nat.mod_eq_of_lt (Nat.lt_trans (B6b x) (by decide))
    rw[hX] at hQ;have h4:(2 ^ (64*4):Nat)=B4:=G1d;rw[h4] at hQ;exact E6b hT hQ
   rw[<-this];exact hd

end S4

namespace S4

def u4s (a b c d:Int):SV:=.v (.c (.sl (.u64 [a,b,c,d])))
def fl4 (a b c d:Int):En:=.fl [.int .u64 a,.int .u64 b,.int .u64 c,.int .u64 d]

def qd0 (o0 o1 o2 o3 a b c d more m0 m1 m2 m3:Int):Cfg:=⟨[.code (B9 Tryz.f125)],.normal,E9v Tryz.f125.ntmps 0 4 1 (fl4 o0 o1 o2 o3) [u4s a b c d,.v (.c (.int .u64 more)),u4s m0 m1 m2 m3]⟩

theorem rdX (o0 o1 o2 o3 a b c d more m0 m1 m2 m3:Int):let g:Int:=(4:Nat);let i:Int:=18446744073709551616;let k:Int:=1;let l:Int:=2;let m:Int:=3;let n:Int:=0;let o:Int:=8;let q:=A6 1 a m0 n;let h:=Prod.snd q;let p:=A6 1 b m1 h;let f:=Prod.snd p;let r:=A6 1 c m2 f;let j:=Prod.snd r;let s:=A6 1 d m3 j;B6y C5d Tryz.f125 true 3000 (qd0 o0 o1 o2 o3 a b c d more m0 m1 m2 m3) [true,true,true,true,false,true]=(some ([((decide (0<g))=true),(0<=n),(0<g),(0<=n),(0<g),(0<=a),(0<=m0),(m0<i),(0<=n),(0<=k),(0<=n),(0<o),((decide (k<g))=true),(0<=k),(k<g),(0<=k),(k<g),(0<=b),(0<=m1),(m1<i),(0<=h),(h<=k),(0<=k),(k<o),((decide (l<g))=true),(0<=l),(l<g),(0<=l),(l<g),(0<=c),(0<=m2),(m2<i),(0<=f),(f<=k),(0<=l),(l<o),((decide (m<g))=true),(0<=m),(m<g),(0<=m),(m<g),(0<=d),(0<=m3),(m3<i),(0<=j),(j<=k),(0<=m),(m<o),((decide ((4:Int)<g))=false),((decide (more >= (Prod.snd s)))=true),(0<=g),(g<=o)],(.fl [(.int .u64 (Prod.fst q)),(.int .u64 (Prod.fst p)),(.int .u64 (Prod.fst r)),(.int .u64 (Prod.fst s))]))):=by intros;kernel_rfl
theorem rdY (o0 o1 o2 o3 a b c d more m0 m1 m2 m3:Int):let g:Int:=(4:Nat);let h:Int:=18446744073709551616;let i:=Prod.snd (A6 1 a m0 (0:Int));let f:=Prod.snd (A6 1 b m1 i);let j:Int:=1;let k:=Prod.snd (A6 1 c m2 f);let l:Int:=2;let m:Int:=3;let n:=0<=(0:Int);let o:Int:=8;B6y C5d Tryz.f125 true 3000 (qd0 o0 o1 o2 o3 a b c d more m0 m1 m2 m3) [true,true,true,true,false,false]=(some ([((decide (0<g))=true),n,(0<g),n,(0<g),(0<=a),(0<=m0),(m0<h),n,(0<=j),n,(0<o),((decide (j<g))=true),(0<=j),(j<g),(0<=j),(j<g),(0<=b),(0<=m1),(m1<h),(0<=i),(i<=j),(0<=j),(j<o),((decide (l<g))=true),(0<=l),(l<g),(0<=l),(l<g),(0<=c),(0<=m2),(m2<h),(0<=f),(f<=j),(0<=l),(l<o),((decide (m<g))=true),(0<=m),(m<g),(0<=m),(m<g),(0<=d),(0<=m3),(m3<h),(0<=k),(k<=j),(0<=m),(m<o),((decide ((4:Int)<g))=false),((decide (more >= (Prod.snd (A6 1 d m3 k))))=false)],(.fl [(.int .u64 a),(.int .u64 b),(.int .u64 c),(.int .u64 d)]))):=by intros;kernel_rfl
end S4

namespace S4

theorem F2t {x:Ctx} {o:Ob} (hk:o.k=4) {a b c d:Int} (h:A0 o.n 0=a∧A0 o.n 1=b∧A0 o.n 2=c∧A0 o.n 3=d) {cs:List Value}
  (hc:C4 x.D [.int .u64 a,.int .u64 b,.int .u64 c,.int .u64 d] cs):C4 x.D [.ob o] cs:=by
 obtain ⟨cs',e,h'⟩:=B2i hk h (v:=.agg cs.toArray) ⟨cs,rfl,hc⟩;have e:cs=cs' := by simpa using e
 rw[e];exact h'

def A3b (n:Nat):U4:=Fin.ofNat B4 (n % rN)
theorem B3l (n:Nat):(A3b n).val=n % rN:=Nat.mod_eq_of_lt (Nat.lt_trans (Nat.mod_lt _ (by decide)) (by decide))

theorem F0u (o0 o1 o2 o3 a b c d:Int) (ha:Lim a) (hb:Lim b) (hc:Lim c) (hd:Lim d) (hn:E4 a b c d<2*rN) :
  MuC Tryz.prog 125 0 4 1 (fl4 o0 o1 o2 o3) [u4s a b c d,.v (.c (.int .u64 0)),u4s 18446744069414584321 6034159408538082302 3691218898639771653 8353516859464449352] (.fl [.ob (.fr (A3b (E4 a b c d).toNat))]):=by
 refine B2x (fn:=Tryz.f125) (c:=B9 Tryz.f125) Tryz.func125 rfl rfl fun x ac hk hm hs=>?_
 obtain ⟨ha,ha1⟩:=ha;obtain ⟨hb,hb1⟩:=hb;obtain ⟨hc,hc1⟩:=hc;obtain ⟨hd,hd1⟩:=hd;have r0:=rdX o0 o1 o2 o3 a b c d 0 18446744069414584321 6034159408538082302 3691218898639771653 8353516859464449352;dsimp only at r0;have r1:=rdY o0 o1 o2 o3 a b c d 0 18446744069414584321 6034159408538082302 3691218898639771653 8353516859464449352;dsimp only at r1;obtain ⟨e1,p1,p1',c1,c1'⟩:=F5 (y:=18446744069414584321) (c:=0) ha ha1 (by decide) (by decide) (by decide) (by decide)
 obtain ⟨e2,p2,p2',c2,c2'⟩:=F5 (y:=6034159408538082302) hb hb1 (by decide) (by decide) c1 c1'
 obtain ⟨e3,p3,p3',c3,c3'⟩:=F5 (y:=3691218898639771653) hc hc1 (by decide) (by decide) c2 c2'
 obtain ⟨e4,p4,p4',c4,c4'⟩:=F5 (y:=8353516859464449352) hd hd1 (by decide) (by decide) c3 c3'
 generalize hx1:A6 1 a 18446744069414584321 0=x1 at *;generalize hx2:A6 1 b 6034159408538082302 x1.2=x2 at *;generalize hx3:A6 1 c 3691218898639771653 x2.2=x3 at *;generalize hx4:A6 1 d 8353516859464449352 x3.2=x4 at *;clear hx1 hx2 hx3 hx4;unfold E4 rN at hn;have hnn:0<=E4 a b c d:=by unfold E4;omega
 have hN:((E4 a b c d).toNat:Int)=E4 a b c d:=Int.toNat_of_nonneg hnn;by_cases hz:x4.2=0
 ·refine B5e A1d hk hm r0 rfl ?_ (fun y cs hv=>F2t rfl ?_ hv) (.inl ⟨_,_,rfl,rfl⟩) hs
  ·simp only[B1,and_true,decide_eq_true_eq,decide_eq_false_iff_not];omega
  ·refine Y8 p1 p1' p2 p2' p3 p3' p4 p4' ?_
   show ((A3b (E4 a b c d).toNat).val:Int)=_;have e:(A3b (E4 a b c d).toNat).val=(E4 a b c d).toNat-rN:=by
    rw[B3l];have h1:rN<=(E4 a b c d).toNat:=by unfold rN E4;omega
    have h2:(E4 a b c d).toNat<2*rN:=by unfold rN E4;omega
    rw[Nat.mod_eq_sub_mod h1,Nat.mod_eq_of_lt (by omega)]
   rw[e];unfold rN E4;omega
 ·refine B5e A1d hk hm r1 rfl ?_ (fun y cs hv=>F2t rfl ?_ hv) (.inl ⟨_,_,rfl,rfl⟩) hs
  ·simp only[B1,and_true,decide_eq_true_eq,decide_eq_false_iff_not];omega
  ·refine Y8 ha ha1 hb hb1 hc hc1 hd hd1 ?_
   show ((A3b (E4 a b c d).toNat).val:Int)=_;have e:(A3b (E4 a b c d).toNat).val=(E4 a b c d).toNat:=by
    rw[B3l];exact Nat.mod_eq_of_lt (by unfold rN E4;omega)
   rw[e,hN];rfl

end S4

namespace S4
section
variable {w0:World} {F0:Nat->Prop} {K:Kp} {ac:List Act} {Q:Exit->Act->World->Prop} {cX:Ctx} {aX:Act}

def B0n:MuS:=fun off len es e rest=>
 match off,len,es,e,rest with
 | 0,4,1,.fl [.int .u64 _,.int .u64 _,.int .u64 _,.int .u64 _],[.v (.c (.sl (.u64 [a,b,c,d]))),.v (.c (.int .u64 more)),.v (.c (.sl (.u64 [m0,m1,m2,m3])))]=>
  some ([Lim a,Lim b,Lim c,Lim d,E4 a b c d<2*rN,more=0,m0=18446744069414584321,m1=6034159408538082302,m2=3691218898639771653,m3=8353516859464449352],.fl [.ob (.fr (A3b (E4 a b c d).toNat))])
 | _,_,_,_,_=>none

def A5o:Env:={ C5d with mu:=fun g=>if g=125 then some (mu1 B0n) else C5d.mu g }
theorem U0:A9 Tryz.prog A5o:=
 C9m A1d 125 B0n (A4 Tryz.func125 rfl rfl) fun off len es e rest o e' h ho _ _=>by
  unfold B0n at h;split at h
  ·cases h
   obtain ⟨h1,h2,h3,h4,h5,h6,h7,h8,h9,h10,_⟩:=ho;subst h6 h7 h8 h9 h10;exact F0u _ _ _ _ _ _ _ _ h1 h2 h3 h4 h5
  ·cases h

def mR:SV:=u4s 18446744069414584321 6034159408538082302 3691218898639771653 8353516859464449352
def pd0 (o0 o1 o2 o3 a b c d y0 y1 y2 y3:Int):Cfg:=⟨[.code (B9 Tryz.f89)],.normal,E9v Tryz.f89.ntmps 0 4 1 (fl4 o0 o1 o2 o3) [u4s a b c d,u4s y0 y1 y2 y3,mR,.v (.c (.int .u64 18446744069414584319))]⟩

def B3e:List KI:=(run A5o false 3000 (pd0 dF dF dF dF dF dF dF dF dF dF dF dF:Cfg) []).cfg.k
theorem pIn (o0 o1 o2 o3 a b c d y0 y1 y2 y3:Int) {w0:World} {F0:Nat->Prop} {K:Kp} {ac:List Act} {Q:Exit->Act->World->Prop} {cX:Ctx} {aX:Act} (ho:B1 []) (hs:Sim w0 F0 K ac (((pd0 o0 o1 o2 o3 a b c d y0 y1 y2 y3:Cfg)).σ) cX aX) (hK:∀ac cY aY,Sim w0 F0 K ac (B0 176 [0,1,2,3,4,10,11,29,30] [(.ci (.slc 0 0 4 1)),(.ci (.sl (.u64 [a,b,c,d]))),(.ci (.sl (.u64 [y0,y1,y2,y3]))),(.ci (.sl (.u64 [(18446744069414584321:Int),(6034159408538082302:Int),(3691218898639771653:Int),(8353516859464449352:Int)]))),.iu (18446744069414584319:Int),.ii (4:Int),.pt 64 0,.ii (4:Int),.ii (0:Int)] [0,64] [(eF_ [(.int .u64 o0),(.int .u64 o1),(.int .u64 o2),(.int .u64 o3)]),(eF_ [(.int .u64 (0:Int)),(.int .u64 (0:Int)),(.int .u64 (0:Int)),(.int .u64 (0:Int)),(.int .u64 (0:Int)),(.int .u64 (0:Int)),(.int .u64 (0:Int)),(.int .u64 (0:Int)),(.int .u64 (0:Int)),(.int .u64 (0:Int))])] 112 [] []) cY aY->Wq Tryz.prog Q (B3e) ac Exit.normal aY cY.w):Wq Tryz.prog Q (((pd0 o0 o1 o2 o3 a b c d y0 y1 y2 y3:Cfg)).k) ac ((pd0 o0 o1 o2 o3 a b c d y0 y1 y2 y3:Cfg)).x aX cX.w:=
 C3v (unroll:=false) (n:=3000) (path:=[]) (o:=⟨_,_,_,_,_,_,_⟩) U0 (by kernel_rfl) (by kernel_rfl) ho hs hK
def pS (o0 o1 o2 o3 a b c d y0 y1 y2 y3 :Int) (i:Nat) (r0 r1 r2 r3 r4 r5 :Int):St:=B0 176 [0,1,2,3,4,10,11,29,30] [(.ci (.slc 0 0 4 1)),(.ci (.sl (.u64 [a,b,c,d]))),(.ci (.sl (.u64 [y0,y1,y2,y3]))),(.ci (.sl (.u64 [(18446744069414584321:Int),(6034159408538082302:Int),(3691218898639771653:Int),(8353516859464449352:Int)]))),.iu (18446744069414584319:Int),.ii (4:Int),.pt 64 0,.ii (4:Int),.v (.c (.int .i64 (i:Int)))] [0,64] [(eF_ [(.int .u64 o0),(.int .u64 o1),(.int .u64 o2),(.int .u64 o3)]),some (.fl [.int .u64 r0,.int .u64 r1,.int .u64 r2,.int .u64 r3,.int .u64 r4,.int .u64 r5,.int .u64 0,.int .u64 0,.int .u64 0,.int .u64 0])] 112 [] []
def E1t:List KI:=(run A5o true 104 (⟨E8 B3e,.normal,pS dF dF dF dF dF dF dF dF dF dF dF dF dF dF dF dF dF dF dF⟩:Cfg) [true,true]).cfg.k
theorem pA (o0 o1 o2 o3 a b c d y0 y1 y2 y3:Int) (i:Nat) (r0 r1 r2 r3 r4 r5:Int) {w0:World} {F0:Nat->Prop} {K:Kp} {ac:List Act} {Q:Exit->Act->World->Prop} {cX:Ctx} {aX:Act} (ho:B1 [((decide ((i:Int)<(4:Int)))=true),(0<=(i:Int)),((i:Int)<((4:Nat):Int)),((decide (0<(4:Int)))=true),(0<=(0:Int)),(0<((4:Nat):Int)),(0<=(List.getD [a,b,c,d] ((i:Int)).toNat 0)),((List.getD [a,b,c,d] ((i:Int)).toNat 0)<(18446744073709551616:Int)),(0<=y0),(y0<(18446744073709551616:Int)),(0<=(0:Int)),(0<(10:Int)),(0<=(((List.getD [a,b,c,d] ((i:Int)).toNat 0)*y0) % (18446744073709551616:Int))),(0<=r0),(r0<(18446744073709551616:Int)),(0<=(0:Int)),(0<=(1:Int)),(0<=(Prod.fst (A6 0 (((List.getD [a,b,c,d] ((i:Int)).toNat 0)*y0) % (18446744073709551616:Int)) r0 (0:Int)))),(0<=(0:Int)),(0<(18446744073709551616:Int)),(0<=(0:Int)),(0<=(1:Int)),(0<=(0:Int)),(0<(10:Int))]) (hs:Sim w0 F0 K ac (pS o0 o1 o2 o3 a b c d y0 y1 y2 y3 i r0 r1 r2 r3 r4 r5) cX aX) (hK:∀ac cY aY,Sim w0 F0 K ac (B0 176 [0,1,2,3,4,10,11,13,14,29,30,37,38] [(.ci (.slc 0 0 4 1)),(.ci (.sl (.u64 [a,b,c,d]))),(.ci (.sl (.u64 [y0,y1,y2,y3]))),(.ci (.sl (.u64 [(18446744069414584321:Int),(6034159408538082302:Int),(3691218898639771653:Int),(8353516859464449352:Int)]))),.iu (18446744069414584319:Int),.ii (4:Int),.pt 64 0,(.iu (List.getD [a,b,c,d] ((i:Int)).toNat 0)),(.iu (wrap .u64 ((wrap .u64 ((((List.getD [a,b,c,d] ((i:Int)).toNat 0)*y0) / (18446744073709551616:Int))+(Prod.snd (A6 0 (((List.getD [a,b,c,d] ((i:Int)).toNat 0)*y0) % (18446744073709551616:Int)) r0 (0:Int)))))+(Prod.snd (A6 0 (Prod.fst (A6 0 (((List.getD [a,b,c,d] ((i:Int)).toNat 0)*y0) % (18446744073709551616:Int)) r0 (0:Int))) (0:Int) (0:Int)))))),.ii (4:Int),(.ii (i:Int)),.ii (4:Int),.ii (0:Int)] [0,64] [(eF_ [(.int .u64 o0),(.int .u64 o1),(.int .u64 o2),(.int .u64 o3)]),(eF_ [(.int .u64 (Prod.fst (A6 0 (Prod.fst (A6 0 (((List.getD [a,b,c,d] ((i:Int)).toNat 0)*y0) % (18446744073709551616:Int)) r0 (0:Int))) (0:Int) (0:Int)))),(.int .u64 r1),(.int .u64 r2),(.int .u64 r3),(.int .u64 r4),(.int .u64 r5),(.int .u64 (0:Int)),(.int .u64 (0:Int)),(.int .u64 (0:Int)),(.int .u64 (0:Int))])] 992 [] []) cY aY->Wq Tryz.prog Q (E1t) ac Exit.normal aY cY.w):Wq Tryz.prog Q (E8 B3e) ac .normal aX cX.w:=
 A1l (unroll:=true) (n:=104) (path:=[true,true]) (o:=⟨_,_,_,_,_,_,_⟩) U0 (by kernel_rfl) (by kernel_rfl) ho hs hK
theorem pX (o0 o1 o2 o3 a b c d y0 y1 y2 y3:Int) (i:Nat) (r0 r1 r2 r3 r4 r5:Int):let f:Int:=18446744069414584321;let g:Int:=4;let h:Int:=6034159408538082302;let j:Int:=3691218898639771653;let k:Int:=8353516859464449352;let l:=S4.E4 r0 r1 r2 r3;B6y A5o Tryz.f89 true 3000 ⟨E8 B3e,.normal,pS o0 o1 o2 o3 a b c d y0 y1 y2 y3 i r0 r1 r2 r3 r4 r5⟩ [false]=(some ([((decide ((i:Int)<g))=false),(0<=g),(g<=(10:Int)),(0<=g),(g<(10:Int)),(S4.Lim r0),(S4.Lim r1),(S4.Lim r2),(S4.Lim r3),(l<(104871750350252380958895481016371931675381105001055275645207317399877162369026:Int)),(r4=(0:Int)),(f=f),(h=h),(j=j),(k=k)],(.fl [(.ob (.fr (S4.A3b (l).toNat)))]))):=by intros;kernel_rfl
def pS1 (o0 o1 o2 o3 a b c d y0 y1 y2 y3 :Int) (i:Nat) (x cy r0 r1 r2 r3 r4 r5 :Int):St:=B0 176 [0,1,2,3,4,10,11,13,14,29,30,37,38] [(.ci (.slc 0 0 4 1)),(.ci (.sl (.u64 [a,b,c,d]))),(.ci (.sl (.u64 [y0,y1,y2,y3]))),(.ci (.sl (.u64 [(18446744069414584321:Int),(6034159408538082302:Int),(3691218898639771653:Int),(8353516859464449352:Int)]))),.iu (18446744069414584319:Int),.ii (4:Int),.pt 64 0,.v (.c (.int .u64 x)),.v (.c (.int .u64 cy)),.ii (4:Int),(.ii (i:Int)),.ii (4:Int),.ii (0:Int)] [0,64] [(eF_ [(.int .u64 o0),(.int .u64 o1),(.int .u64 o2),(.int .u64 o3)]),some (.fl [.int .u64 r0,.int .u64 r1,.int .u64 r2,.int .u64 r3,.int .u64 r4,.int .u64 r5,.int .u64 0,.int .u64 0,.int .u64 0,.int .u64 0])] 992 [] []
def D7k:List KI:=(run A5o true 75 (⟨E1t,.normal,pS1 dF dF dF dF dF dF dF dF dF dF dF dF dF dF dF dF dF dF dF dF dF⟩:Cfg) [true]).cfg.k
theorem G0k (o0 o1 o2 o3 a b c d y0 y1 y2 y3:Int) (i:Nat) (x cy r0 r1 r2 r3 r4 r5:Int):let f:Int:=18446744073709551616;let g:Int:=0;let h:=SV.v (V1.c (It.int IntKind.i64 (4:Int)));let j:=A6 0 ((x*y1) % f) r1 g;let k:Int:=1;let l:=It.int IntKind.u64 g;let m:=A6 0 (Prod.fst j) cy g;A4z A5o true 75 ((⟨E1t,.normal,pS1 o0 o1 o2 o3 a b c d y0 y1 y2 y3 i x cy r0 r1 r2 r3 r4 r5⟩:Cfg)) [true] [0,1,2,3,4,10,11,13,14,29,30,37,38] [0,64] []=some ⟨[((decide (k<(4:Int)))=true),(g<=k),(k<((4:Nat):Int)),(g<=x),(x<f),(g<=y1),(y1<f),(g<=k),(k<(10:Int)),(g<=((x*y1) % f)),(g<=r1),(r1<f),(g<=g),(g<=k),(g<=(Prod.fst j)),(g<=cy),(cy<f),(g<=g),(g<=k),(g<=k),(k<(10:Int))],Exit.normal,[(SV.v (V1.c (It.slc 0 0 4 1))),(SV.v (V1.c (It.sl (Sq.u64 [a,b,c,d])))),(SV.v (V1.c (It.sl (Sq.u64 [y0,y1,y2,y3])))),(SV.v (V1.c (It.sl (Sq.u64 [(18446744069414584321:Int),(6034159408538082302:Int),(3691218898639771653:Int),(8353516859464449352:Int)])))),(SV.v (V1.c (It.int IntKind.u64 (18446744069414584319:Int)))),h,(SV.v (V1.c (It.ptr 64 0))),(SV.v (V1.c (It.int IntKind.u64 x))),(SV.v (V1.c (It.int IntKind.u64 (wrap IntKind.u64 ((wrap IntKind.u64 (((x*y1) / f)+(Prod.snd j)))+(Prod.snd m)))))),h,(SV.v (V1.c (It.int IntKind.i64 ((i:Nat):Int)))),h,(SV.v (V1.c (It.int IntKind.i64 k)))],[(Option.some (En.fl [(It.int IntKind.u64 o0),(It.int IntKind.u64 o1),(It.int IntKind.u64 o2),(It.int IntKind.u64 o3)])),(Option.some (En.fl [(It.int IntKind.u64 r0),(It.int IntKind.u64 (Prod.fst m)),(It.int IntKind.u64 r2),(It.int IntKind.u64 r3),(It.int IntKind.u64 r4),(It.int IntKind.u64 r5),l,l,l,l]))],176,1728,[]⟩:=by intros;kernel_rfl
theorem G0l (o0 o1 o2 o3 a b c d y0 y1 y2 y3:Int) (i:Nat) (x cy r0 r1 r2 r3 r4 r5:Int):(run A5o true 75 ((⟨E1t,.normal,pS1 o0 o1 o2 o3 a b c d y0 y1 y2 y3 i x cy r0 r1 r2 r3 r4 r5⟩:Cfg)) [true]).cfg.k=D7k:=by kernel_rfl
theorem pB (o0 o1 o2 o3 a b c d y0 y1 y2 y3:Int) (i:Nat) (x cy r0 r1 r2 r3 r4 r5:Int):let f:Int:=18446744073709551616;let h:Int:=1;let j:Int:=0;let g:=A6 0 ((x*y1) % f) r1 j;let k:=A6 0 (Prod.fst g) cy j;let l:Int:=4;B1 [((decide (h<l))=true),(0<=h),(h<((4:Nat):Int)),(0<=x),(x<f),(0<=y1),(y1<f),(0<=h),(h<(10:Int)),(0<=((x*y1) % f)),(0<=r1),(r1<f),(0<=j),(0<=h),(0<=(Prod.fst g)),(0<=cy),(cy<f),(0<=j),(0<=h),(0<=h),(h<(10:Int))]->Sg Tryz.prog (pS1 o0 o1 o2 o3 a b c d y0 y1 y2 y3 i x cy r0 r1 r2 r3 r4 r5) (B0 176 [0,1,2,3,4,10,11,13,14,29,30,37,38] [(.ci (.slc 0 0 4 1)),(.ci (.sl (.u64 [a,b,c,d]))),(.ci (.sl (.u64 [y0,y1,y2,y3]))),(.ci (.sl (.u64 [(18446744069414584321:Int),(6034159408538082302:Int),(3691218898639771653:Int),(8353516859464449352:Int)]))),.iu (18446744069414584319:Int),.ii l,.pt 64 0,.iu x,(.iu (wrap .u64 ((wrap .u64 (((x*y1) / f)+(Prod.snd g)))+(Prod.snd k)))),.ii l,(.ii (i:Int)),.ii l,.ii h] [0,64] [(eF_ [(.int .u64 o0),(.int .u64 o1),(.int .u64 o2),(.int .u64 o3)]),(eF_ [(.int .u64 r0),(.int .u64 (Prod.fst k)),(.int .u64 r2),(.int .u64 r3),(.int .u64 r4),(.int .u64 r5),(.int .u64 j),(.int .u64 j),(.int .u64 j),(.int .u64 j)])] 1728 [] []) .normal (D7k) (E1t):=fun ho=>fun hs hK=>
 A1l U0 (G0k o0 o1 o2 o3 a b c d y0 y1 y2 y3 i x cy r0 r1 r2 r3 r4 r5) (G0l o0 o1 o2 o3 a b c d y0 y1 y2 y3 i x cy r0 r1 r2 r3 r4 r5) ho hs hK
def pS2 (o0 o1 o2 o3 a b c d y0 y1 y2 y3 :Int) (i:Nat) (x cy r0 r1 r2 r3 r4 r5 :Int):St:=B0 176 [0,1,2,3,4,10,11,13,14,29,30,37,38] [(.ci (.slc 0 0 4 1)),(.ci (.sl (.u64 [a,b,c,d]))),(.ci (.sl (.u64 [y0,y1,y2,y3]))),(.ci (.sl (.u64 [(18446744069414584321:Int),(6034159408538082302:Int),(3691218898639771653:Int),(8353516859464449352:Int)]))),.iu (18446744069414584319:Int),.ii (4:Int),.pt 64 0,.v (.c (.int .u64 x)),.v (.c (.int .u64 cy)),.ii (4:Int),(.ii (i:Int)),.ii (4:Int),.ii (1:Int)] [0,64] [(eF_ [(.int .u64 o0),(.int .u64 o1),(.int .u64 o2),(.int .u64 o3)]),some (.fl [.int .u64 r0,.int .u64 r1,.int .u64 r2,.int .u64 r3,.int .u64 r4,.int .u64 r5,.int .u64 0,.int .u64 0,.int .u64 0,.int .u64 0])] 1728 [] []
def F0e:List KI:=(run A5o true 75 (⟨D7k,.normal,pS2 dF dF dF dF dF dF dF dF dF dF dF dF dF dF dF dF dF dF dF dF dF⟩:Cfg) [true]).cfg.k
theorem G0m (o0 o1 o2 o3 a b c d y0 y1 y2 y3:Int) (i:Nat) (x cy r0 r1 r2 r3 r4 r5:Int):let f:Int:=18446744073709551616;let g:Int:=0;let h:=SV.v (V1.c (It.int IntKind.i64 (4:Int)));let j:=A6 0 ((x*y2) % f) r2 g;let k:=It.int IntKind.u64 g;let l:Int:=2;let m:=A6 0 (Prod.fst j) cy g;A4z A5o true 75 ((⟨D7k,.normal,pS2 o0 o1 o2 o3 a b c d y0 y1 y2 y3 i x cy r0 r1 r2 r3 r4 r5⟩:Cfg)) [true] [0,1,2,3,4,10,11,13,14,29,30,37,38] [0,64] []=some ⟨[((decide (l<(4:Int)))=true),(g<=l),(l<((4:Nat):Int)),(g<=x),(x<f),(g<=y2),(y2<f),(g<=l),(l<(10:Int)),(g<=((x*y2) % f)),(g<=r2),(r2<f),(g<=g),(g<=(1:Int)),(g<=(Prod.fst j)),(g<=cy),(cy<f),(g<=g),(g<=(1:Int)),(g<=l),(l<(10:Int))],Exit.normal,[(SV.v (V1.c (It.slc 0 0 4 1))),(SV.v (V1.c (It.sl (Sq.u64 [a,b,c,d])))),(SV.v (V1.c (It.sl (Sq.u64 [y0,y1,y2,y3])))),(SV.v (V1.c (It.sl (Sq.u64 [(18446744069414584321:Int),(6034159408538082302:Int),(3691218898639771653:Int),(8353516859464449352:Int)])))),(SV.v (V1.c (It.int IntKind.u64 (18446744069414584319:Int)))),h,(SV.v (V1.c (It.ptr 64 0))),(SV.v (V1.c (It.int IntKind.u64 x))),(SV.v (V1.c (It.int IntKind.u64 (wrap IntKind.u64 ((wrap IntKind.u64 (((x*y2) / f)+(Prod.snd j)))+(Prod.snd m)))))),h,(SV.v (V1.c (It.int IntKind.i64 ((i:Nat):Int)))),h,(SV.v (V1.c (It.int IntKind.i64 l)))],[(Option.some (En.fl [(It.int IntKind.u64 o0),(It.int IntKind.u64 o1),(It.int IntKind.u64 o2),(It.int IntKind.u64 o3)])),(Option.some (En.fl [(It.int IntKind.u64 r0),(It.int IntKind.u64 r1),(It.int IntKind.u64 (Prod.fst m)),(It.int IntKind.u64 r3),(It.int IntKind.u64 r4),(It.int IntKind.u64 r5),k,k,k,k]))],176,2464,[]⟩:=by intros;kernel_rfl
theorem G0n (o0 o1 o2 o3 a b c d y0 y1 y2 y3:Int) (i:Nat) (x cy r0 r1 r2 r3 r4 r5:Int):(run A5o true 75 ((⟨D7k,.normal,pS2 o0 o1 o2 o3 a b c d y0 y1 y2 y3 i x cy r0 r1 r2 r3 r4 r5⟩:Cfg)) [true]).cfg.k=F0e:=by kernel_rfl
section
variable (o0 o1 o2 o3 a b c d y0 y1 y2 y3:Int) (i:Nat) (x cy r0 r1 r2 r3 r4 r5:Int)
theorem pC:let f:Int:=18446744073709551616;let h:Int:=0;let g:=A6 0 ((x*y2) % f) r2 h;let j:Int:=2;let k:=A6 0 (Prod.fst g) cy h;let l:Int:=4;B1 [((decide (j<l))=true),(0<=j),(j<((4:Nat):Int)),(0<=x),(x<f),(0<=y2),(y2<f),(0<=j),(j<(10:Int)),(0<=((x*y2) % f)),(0<=r2),(r2<f),(0<=h),(0<=(1:Int)),(0<=(Prod.fst g)),(0<=cy),(cy<f),(0<=h),(0<=(1:Int)),(0<=j),(j<(10:Int))]->Sg Tryz.prog (pS2 o0 o1 o2 o3 a b c d y0 y1 y2 y3 i x cy r0 r1 r2 r3 r4 r5) (B0 176 [0,1,2,3,4,10,11,13,14,29,30,37,38] [(.ci (.slc 0 0 4 1)),(.ci (.sl (.u64 [a,b,c,d]))),(.ci (.sl (.u64 [y0,y1,y2,y3]))),(.ci (.sl (.u64 [(18446744069414584321:Int),(6034159408538082302:Int),(3691218898639771653:Int),(8353516859464449352:Int)]))),.iu (18446744069414584319:Int),.ii l,.pt 64 0,.iu x,(.iu (wrap .u64 ((wrap .u64 (((x*y2) / f)+(Prod.snd g)))+(Prod.snd k)))),.ii l,(.ii (i:Int)),.ii l,.ii j] [0,64] [(eF_ [(.int .u64 o0),(.int .u64 o1),(.int .u64 o2),(.int .u64 o3)]),(eF_ [(.int .u64 r0),(.int .u64 r1),(.int .u64 (Prod.fst k)),(.int .u64 r3),(.int .u64 r4),(.int .u64 r5),(.int .u64 h),(.int .u64 h),(.int .u64 h),(.int .u64 h)])] 2464 [] []) .normal (F0e) (D7k):=fun ho=>fun hs hK=>
 A1l U0 (G0m o0 o1 o2 o3 a b c d y0 y1 y2 y3 i x cy r0 r1 r2 r3 r4 r5) (G0n o0 o1 o2 o3 a b c d y0 y1 y2 y3 i x cy r0 r1 r2 r3 r4 r5) ho hs hK
def pS3 (o0 o1 o2 o3 a b c d y0 y1 y2 y3 :Int) (i:Nat) (x cy r0 r1 r2 r3 r4 r5 :Int):St:=B0 176 [0,1,2,3,4,10,11,13,14,29,30,37,38] [(.ci (.slc 0 0 4 1)),(.ci (.sl (.u64 [a,b,c,d]))),(.ci (.sl (.u64 [y0,y1,y2,y3]))),(.ci (.sl (.u64 [(18446744069414584321:Int),(6034159408538082302:Int),(3691218898639771653:Int),(8353516859464449352:Int)]))),.iu (18446744069414584319:Int),.ii (4:Int),.pt 64 0,.v (.c (.int .u64 x)),.v (.c (.int .u64 cy)),.ii (4:Int),(.ii (i:Int)),.ii (4:Int),.ii (2:Int)] [0,64] [(eF_ [(.int .u64 o0),(.int .u64 o1),(.int .u64 o2),(.int .u64 o3)]),some (.fl [.int .u64 r0,.int .u64 r1,.int .u64 r2,.int .u64 r3,.int .u64 r4,.int .u64 r5,.int .u64 0,.int .u64 0,.int .u64 0,.int .u64 0])] 2464 [] []
def G0o:List KI:=(run A5o true 75 (⟨F0e,.normal,pS3 dF dF dF dF dF dF dF dF dF dF dF dF dF dF dF dF dF dF dF dF dF⟩:Cfg) [true]).cfg.k
theorem pD:let f:Int:=18446744073709551616;let h:Int:=0;let g:=A6 0 ((x*y3) % f) r3 h;let j:Int:=3;let k:=A6 0 (Prod.fst g) cy h;let l:Int:=4;B1 [((decide (j<l))=true),(0<=j),(j<((4:Nat):Int)),(0<=x),(x<f),(0<=y3),(y3<f),(0<=j),(j<(10:Int)),(0<=((x*y3) % f)),(0<=r3),(r3<f),(0<=h),(0<=(1:Int)),(0<=(Prod.fst g)),(0<=cy),(cy<f),(0<=h),(0<=(1:Int)),(0<=j),(j<(10:Int))]->Sg Tryz.prog (pS3 o0 o1 o2 o3 a b c d y0 y1 y2 y3 i x cy r0 r1 r2 r3 r4 r5) (B0 176 [0,1,2,3,4,10,11,13,14,29,30,37,38] [(.ci (.slc 0 0 4 1)),(.ci (.sl (.u64 [a,b,c,d]))),(.ci (.sl (.u64 [y0,y1,y2,y3]))),(.ci (.sl (.u64 [(18446744069414584321:Int),(6034159408538082302:Int),(3691218898639771653:Int),(8353516859464449352:Int)]))),.iu (18446744069414584319:Int),.ii l,.pt 64 0,.iu x,(.iu (wrap .u64 ((wrap .u64 (((x*y3) / f)+(Prod.snd g)))+(Prod.snd k)))),.ii l,(.ii (i:Int)),.ii l,.ii j] [0,64] [(eF_ [(.int .u64 o0),(.int .u64 o1),(.int .u64 o2),(.int .u64 o3)]),(eF_ [(.int .u64 r0),(.int .u64 r1),(.int .u64 r2),(.int .u64 (Prod.fst k)),(.int .u64 r4),(.int .u64 r5),(.int .u64 h),(.int .u64 h),(.int .u64 h),(.int .u64 h)])] 3200 [] []) .normal (G0o) (F0e):=sgA true 75 [true] U0
def pS4 (o0 o1 o2 o3 a b c d y0 y1 y2 y3 :Int) (i:Nat) (x cy r0 r1 r2 r3 r4 r5 :Int):St:=B0 176 [0,1,2,3,4,10,11,13,14,29,30,37,38] [(.ci (.slc 0 0 4 1)),(.ci (.sl (.u64 [a,b,c,d]))),(.ci (.sl (.u64 [y0,y1,y2,y3]))),(.ci (.sl (.u64 [(18446744069414584321:Int),(6034159408538082302:Int),(3691218898639771653:Int),(8353516859464449352:Int)]))),.iu (18446744069414584319:Int),.ii (4:Int),.pt 64 0,.v (.c (.int .u64 x)),.v (.c (.int .u64 cy)),.ii (4:Int),(.ii (i:Int)),.ii (4:Int),.ii (3:Int)] [0,64] [(eF_ [(.int .u64 o0),(.int .u64 o1),(.int .u64 o2),(.int .u64 o3)]),some (.fl [.int .u64 r0,.int .u64 r1,.int .u64 r2,.int .u64 r3,.int .u64 r4,.int .u64 r5,.int .u64 0,.int .u64 0,.int .u64 0,.int .u64 0])] 3200 [] []
def G0p:List KI:=(run A5o true 88 (⟨G0o,.normal,pS4 dF dF dF dF dF dF dF dF dF dF dF dF dF dF dF dF dF dF dF dF dF⟩:Cfg) [false]).cfg.k
theorem pE:let g:Int:=18446744073709551616;let h:Int:=18446744069414584321;let j:Int:=0;let k:Int:=4;let l:Int:=10;let m:Int:=18446744069414584319;let f:=wrap .u64 (r0*m);let n:=A6 0 r4 cy j;B1 [((decide (k<k))=false),(0<=k),(k<l),(0<=r4),(0<=cy),(cy<g),(0<=j),(0<=(1:Int)),(0<=k),(k<l),(0<=(5:Int)),((5:Int)<l),(0<=j),(0<l),(0<=j),(0<k),(0<=f),(f<g),(0<=h),(h<g),(0<=j),(0<l),(0<=((f*h) % g)),(0<=r0),(r0<g),(0<=j),(0<=(1:Int))]->Sg Tryz.prog (pS4 o0 o1 o2 o3 a b c d y0 y1 y2 y3 i x cy r0 r1 r2 r3 r4 r5) (B0 176 [0,1,2,3,4,10,11,14,20,23,29,30] [(.ci (.slc 0 0 4 1)),(.ci (.sl (.u64 [a,b,c,d]))),(.ci (.sl (.u64 [y0,y1,y2,y3]))),(.ci (.sl (.u64 [h,(6034159408538082302:Int),(3691218898639771653:Int),(8353516859464449352:Int)]))),.iu m,.ii k,.pt 64 0,(.iu (wrap .u64 (((f*h) / g)+(Prod.snd (A6 0 ((f*h) % g) r0 j))))),(.iu f),.ii (1:Int),.ii k,(.ii (i:Int))] [0,64] [(eF_ [(.int .u64 o0),(.int .u64 o1),(.int .u64 o2),(.int .u64 o3)]),(eF_ [(.int .u64 r0),(.int .u64 r1),(.int .u64 r2),(.int .u64 r3),(.int .u64 (Prod.fst n)),(.int .u64 (Prod.snd n)),(.int .u64 j),(.int .u64 j),(.int .u64 j),(.int .u64 j)])] 3984 [] []) .normal (G0p) (G0o):=sgA true 88 [false] U0
def pT1 (o0 o1 o2 o3 a b c d y0 y1 y2 y3 :Int) (i:Nat) (q cy r0 r1 r2 r3 r4 r5 :Int):St:=B0 176 [0,1,2,3,4,10,11,14,20,23,29,30] [(.ci (.slc 0 0 4 1)),(.ci (.sl (.u64 [a,b,c,d]))),(.ci (.sl (.u64 [y0,y1,y2,y3]))),(.ci (.sl (.u64 [(18446744069414584321:Int),(6034159408538082302:Int),(3691218898639771653:Int),(8353516859464449352:Int)]))),.iu (18446744069414584319:Int),.ii (4:Int),.pt 64 0,.v (.c (.int .u64 cy)),.v (.c (.int .u64 q)),.ii (1:Int),.ii (4:Int),(.ii (i:Int))] [0,64] [(eF_ [(.int .u64 o0),(.int .u64 o1),(.int .u64 o2),(.int .u64 o3)]),some (.fl [.int .u64 r0,.int .u64 r1,.int .u64 r2,.int .u64 r3,.int .u64 r4,.int .u64 r5,.int .u64 0,.int .u64 0,.int .u64 0,.int .u64 0])] 3984 [] []
def G0q:List KI:=(run A5o true 68 (⟨G0p,.normal,pT1 dF dF dF dF dF dF dF dF dF dF dF dF dF dF dF dF dF dF dF dF dF⟩:Cfg) [true]).cfg.k
end
section
variable (o0 o1 o2 o3 a b c d y0 y1 y2 y3:Int) (i:Nat) (q cy r0 r1 r2 r3 r4 r5:Int)
theorem pF:let g:Int:=18446744073709551616;let h:Int:=6034159408538082302;let f:=(q*h) % g;let j:Int:=0;let l:Int:=1;let m:Int:=4;let n:=A6 0 f r1 j;let k:=Prod.fst n;let o:=A6 0 k cy j;B1 [((decide (l<m))=true),(0<=l),(l<m),(0<=q),(q<g),(0<=h),(h<g),(0<=l),(l<(10:Int)),(0<=f),(0<=r1),(r1<g),(0<=j),(0<=l),(0<=k),(0<=cy),(cy<g),(0<=j),(0<=l),(0<=j),(0<(10:Int))]->Sg Tryz.prog (pT1 o0 o1 o2 o3 a b c d y0 y1 y2 y3 i q cy r0 r1 r2 r3 r4 r5) (B0 176 [0,1,2,3,4,10,11,14,20,23,29,30] [(.ci (.slc 0 0 4 1)),(.ci (.sl (.u64 [a,b,c,d]))),(.ci (.sl (.u64 [y0,y1,y2,y3]))),(.ci (.sl (.u64 [(18446744069414584321:Int),h,(3691218898639771653:Int),(8353516859464449352:Int)]))),.iu (18446744069414584319:Int),.ii m,.pt 64 0,(.iu (wrap .u64 ((wrap .u64 (((q*h) / g)+(Prod.snd n)))+(Prod.snd o)))),.iu q,.ii l,.ii m,(.ii (i:Int))] [0,64] [(eF_ [(.int .u64 o0),(.int .u64 o1),(.int .u64 o2),(.int .u64 o3)]),(eF_ [(.int .u64 (Prod.fst o)),(.int .u64 r1),(.int .u64 r2),(.int .u64 r3),(.int .u64 r4),(.int .u64 r5),(.int .u64 j),(.int .u64 j),(.int .u64 j),(.int .u64 j)])] 4704 [] []) .normal (G0q) (G0p):=sgA true 68 [true] U0
def pT2 (o0 o1 o2 o3 a b c d y0 y1 y2 y3 :Int) (i:Nat) (q cy r0 r1 r2 r3 r4 r5 :Int):St:=B0 176 [0,1,2,3,4,10,11,14,20,23,29,30] [(.ci (.slc 0 0 4 1)),(.ci (.sl (.u64 [a,b,c,d]))),(.ci (.sl (.u64 [y0,y1,y2,y3]))),(.ci (.sl (.u64 [(18446744069414584321:Int),(6034159408538082302:Int),(3691218898639771653:Int),(8353516859464449352:Int)]))),.iu (18446744069414584319:Int),.ii (4:Int),.pt 64 0,.v (.c (.int .u64 cy)),.v (.c (.int .u64 q)),.ii (1:Int),.ii (4:Int),(.ii (i:Int))] [0,64] [(eF_ [(.int .u64 o0),(.int .u64 o1),(.int .u64 o2),(.int .u64 o3)]),some (.fl [.int .u64 r0,.int .u64 r1,.int .u64 r2,.int .u64 r3,.int .u64 r4,.int .u64 r5,.int .u64 0,.int .u64 0,.int .u64 0,.int .u64 0])] 4704 [] []
def G0s:List KI:=(run A5o true 74 (⟨G0q,.normal,pT2 dF dF dF dF dF dF dF dF dF dF dF dF dF dF dF dF dF dF dF dF dF⟩:Cfg) [true]).cfg.k
theorem pG:let g:Int:=18446744073709551616;let h:Int:=3691218898639771653;let f:=(q*h) % g;let j:Int:=0;let l:Int:=2;let m:=0<=(1:Int);let n:Int:=4;let o:=A6 0 f r2 j;let k:=Prod.fst o;let p:=A6 0 k cy j;B1 [((decide (l<n))=true),(0<=l),(l<n),(0<=q),(q<g),(0<=h),(h<g),(0<=l),(l<(10:Int)),(0<=f),(0<=r2),(r2<g),(0<=j),m,(0<=k),(0<=cy),(cy<g),(0<=j),m,m,((1:Int)<(10:Int))]->Sg Tryz.prog (pT2 o0 o1 o2 o3 a b c d y0 y1 y2 y3 i q cy r0 r1 r2 r3 r4 r5) (B0 176 [0,1,2,3,4,10,11,14,20,23,29,30] [(.ci (.slc 0 0 4 1)),(.ci (.sl (.u64 [a,b,c,d]))),(.ci (.sl (.u64 [y0,y1,y2,y3]))),(.ci (.sl (.u64 [(18446744069414584321:Int),(6034159408538082302:Int),h,(8353516859464449352:Int)]))),.iu (18446744069414584319:Int),.ii n,.pt 64 0,(.iu (wrap .u64 ((wrap .u64 (((q*h) / g)+(Prod.snd o)))+(Prod.snd p)))),.iu q,.ii l,.ii n,(.ii (i:Int))] [0,64] [(eF_ [(.int .u64 o0),(.int .u64 o1),(.int .u64 o2),(.int .u64 o3)]),(eF_ [(.int .u64 r0),(.int .u64 (Prod.fst p)),(.int .u64 r2),(.int .u64 r3),(.int .u64 r4),(.int .u64 r5),(.int .u64 j),(.int .u64 j),(.int .u64 j),(.int .u64 j)])] 5472 [] []) .normal (G0s) (G0q):=sgA true 74 [true] U0
def pT3 (o0 o1 o2 o3 a b c d y0 y1 y2 y3 :Int) (i:Nat) (q cy r0 r1 r2 r3 r4 r5 :Int):St:=B0 176 [0,1,2,3,4,10,11,14,20,23,29,30] [(.ci (.slc 0 0 4 1)),(.ci (.sl (.u64 [a,b,c,d]))),(.ci (.sl (.u64 [y0,y1,y2,y3]))),(.ci (.sl (.u64 [(18446744069414584321:Int),(6034159408538082302:Int),(3691218898639771653:Int),(8353516859464449352:Int)]))),.iu (18446744069414584319:Int),.ii (4:Int),.pt 64 0,.v (.c (.int .u64 cy)),.v (.c (.int .u64 q)),.ii (2:Int),.ii (4:Int),(.ii (i:Int))] [0,64] [(eF_ [(.int .u64 o0),(.int .u64 o1),(.int .u64 o2),(.int .u64 o3)]),some (.fl [.int .u64 r0,.int .u64 r1,.int .u64 r2,.int .u64 r3,.int .u64 r4,.int .u64 r5,.int .u64 0,.int .u64 0,.int .u64 0,.int .u64 0])] 5472 [] []
def H0f:List KI:=(run A5o true 74 (⟨G0s,.normal,pT3 dF dF dF dF dF dF dF dF dF dF dF dF dF dF dF dF dF dF dF dF dF⟩:Cfg) [true]).cfg.k
theorem pH:let g:Int:=18446744073709551616;let h:Int:=8353516859464449352;let f:=(q*h) % g;let j:Int:=0;let l:Int:=3;let m:Int:=4;let n:=A6 0 f r3 j;let k:=Prod.fst n;let o:=A6 0 k cy j;B1 [((decide (l<m))=true),(0<=l),(l<m),(0<=q),(q<g),(0<=h),(h<g),(0<=l),(l<(10:Int)),(0<=f),(0<=r3),(r3<g),(0<=j),(0<=(1:Int)),(0<=k),(0<=cy),(cy<g),(0<=j),(0<=(1:Int)),(0<=(2:Int)),((2:Int)<(10:Int))]->Sg Tryz.prog (pT3 o0 o1 o2 o3 a b c d y0 y1 y2 y3 i q cy r0 r1 r2 r3 r4 r5) (B0 176 [0,1,2,3,4,10,11,14,20,23,29,30] [(.ci (.slc 0 0 4 1)),(.ci (.sl (.u64 [a,b,c,d]))),(.ci (.sl (.u64 [y0,y1,y2,y3]))),(.ci (.sl (.u64 [(18446744069414584321:Int),(6034159408538082302:Int),(3691218898639771653:Int),h]))),.iu (18446744069414584319:Int),.ii m,.pt 64 0,(.iu (wrap .u64 ((wrap .u64 (((q*h) / g)+(Prod.snd n)))+(Prod.snd o)))),.iu q,.ii l,.ii m,(.ii (i:Int))] [0,64] [(eF_ [(.int .u64 o0),(.int .u64 o1),(.int .u64 o2),(.int .u64 o3)]),(eF_ [(.int .u64 r0),(.int .u64 r1),(.int .u64 (Prod.fst o)),(.int .u64 r3),(.int .u64 r4),(.int .u64 r5),(.int .u64 j),(.int .u64 j),(.int .u64 j),(.int .u64 j)])] 6240 [] []) .normal (H0f) (G0s):=sgA true 74 [true] U0
def pT4 (o0 o1 o2 o3 a b c d y0 y1 y2 y3 :Int) (i:Nat) (q cy r0 r1 r2 r3 r4 r5 :Int):St:=B0 176 [0,1,2,3,4,10,11,14,20,23,29,30] [(.ci (.slc 0 0 4 1)),(.ci (.sl (.u64 [a,b,c,d]))),(.ci (.sl (.u64 [y0,y1,y2,y3]))),(.ci (.sl (.u64 [(18446744069414584321:Int),(6034159408538082302:Int),(3691218898639771653:Int),(8353516859464449352:Int)]))),.iu (18446744069414584319:Int),.ii (4:Int),.pt 64 0,.v (.c (.int .u64 cy)),.v (.c (.int .u64 q)),.ii (3:Int),.ii (4:Int),(.ii (i:Int))] [0,64] [(eF_ [(.int .u64 o0),(.int .u64 o1),(.int .u64 o2),(.int .u64 o3)]),some (.fl [.int .u64 r0,.int .u64 r1,.int .u64 r2,.int .u64 r3,.int .u64 r4,.int .u64 r5,.int .u64 0,.int .u64 0,.int .u64 0,.int .u64 0])] 6240 [] []
theorem pI:let f:Int:=4;let g:Int:=0;let h:Int:=10;let j:=A6 0 r4 cy g;B1 [((decide (f<f))=false),(0<=f),(f<h),(0<=r4),(0<=cy),(cy<(18446744073709551616:Int)),(0<=g),(0<=(1:Int)),(0<=(3:Int)),((3:Int)<h),(0<=(5:Int)),((5:Int)<h),(0<=f),(f<h)]->Sg Tryz.prog (pT4 o0 o1 o2 o3 a b c d y0 y1 y2 y3 i q cy r0 r1 r2 r3 r4 r5) (B0 176 [0,1,2,3,4,10,11,29,30] [(.ci (.slc 0 0 4 1)),(.ci (.sl (.u64 [a,b,c,d]))),(.ci (.sl (.u64 [y0,y1,y2,y3]))),(.ci (.sl (.u64 [(18446744069414584321:Int),(6034159408538082302:Int),(3691218898639771653:Int),(8353516859464449352:Int)]))),.iu (18446744069414584319:Int),.ii f,.pt 64 0,.ii f,(.ii (wrap .i64 ((i:Int)+1)))] [0,64] [(eF_ [(.int .u64 o0),(.int .u64 o1),(.int .u64 o2),(.int .u64 o3)]),(eF_ [(.int .u64 r0),(.int .u64 r1),(.int .u64 r2),(.int .u64 (Prod.fst j)),(.int .u64 (wrap .u64 (r5+(Prod.snd j)))),(.int .u64 r5),(.int .u64 g),(.int .u64 g),(.int .u64 g),(.int .u64 g)])] 6720 [] []) .normal (M7 B3e) (H0f):=sgA true 50 [false] U0
end
end
end S4

namespace S4

section
variable {w0:World} {F0:Nat->Prop} {K:Kp} {ac:List Act} {Q:Exit->Act->World->Prop} {cX:Ctx} {aX:Act}

theorem sPA (o0 o1 o2 o3 a b c d y0 y1 y2 y3:Int) (i:Nat) {r0 r1 r2 r3 r4 r5 x:Int} (hi:i<4) (he:List.getD [a,b,c,d] i 0=x) (hx:Lim x) (hy:Lim y0) (hr:Lim r0) (hs:Sim w0 F0 K ac (pS o0 o1 o2 o3 a b c d y0 y1 y2 y3 i r0 r1 r2 r3 r4 r5) cX aX)
  (k:∀n cy:Int,x*y0+r0+0=n+18446744073709551616*cy->Lim n->Lim cy->∀ac cY aY,Sim w0 F0 K ac (pS1 o0 o1 o2 o3 a b c d y0 y1 y2 y3 i x cy n r1 r2 r3 r4 r5) cY aY->Wq Tryz.prog Q E1t ac .normal aY cY.w):Wq Tryz.prog Q (E8 B3e) ac .normal aX cX.w:=by
 obtain ⟨x0,x1⟩:=hx;obtain ⟨yy0,yy1⟩:=hy;obtain ⟨rr0,rr1⟩:=hr;have e:=mac x0 x1 yy0 yy1 rr0 rr1 (u:=0) (by decide) (by decide)
 have sA:=@pA o0 o1 o2 o3 a b c d y0 y1 y2 y3 i r0 r1 r2 r3 r4 r5 w0 F0 K ac Q cX aX;rw[Int.toNat_natCast,he] at sA;obtain ⟨e1,l1,u1,m1⟩:=e;refine sA ?_ hs fun ac cY aY h=>k _ _ e1 l1 u1 ac cY aY h
 simp only[B1,and_true,decide_eq_true_eq];omega

theorem sPB (o0 o1 o2 o3 a b c d y0 y1 y2 y3:Int) (i:Nat) {x cy r0 r1 r2 r3 r4 r5:Int} (hx:Lim x) (hy:Lim y1) (hr:Lim r1) (hc:Lim cy) (hs:Sim w0 F0 K ac (pS1 o0 o1 o2 o3 a b c d y0 y1 y2 y3 i x cy r0 r1 r2 r3 r4 r5) cX aX)
  (k:∀n cy' : Int,x*y1+r1+cy=n+18446744073709551616*cy' -> Lim n->Lim cy' -> ∀ac cY aY,Sim w0 F0 K ac (pS2 o0 o1 o2 o3 a b c d y0 y1 y2 y3 i x cy' r0 n r2 r3 r4 r5) cY aY->Wq Tryz.prog Q D7k ac .normal aY cY.w):Wq Tryz.prog Q E1t ac .normal aX cX.w:=by
 obtain ⟨x0,x1⟩:=hx;obtain ⟨yy0,yy1⟩:=hy;obtain ⟨rr0,rr1⟩:=hr;obtain ⟨cc0,cc1⟩:=hc;obtain ⟨e1,l1,u1,m1⟩:=mac x0 x1 yy0 yy1 rr0 rr1 cc0 cc1;refine pB o0 o1 o2 o3 a b c d y0 y1 y2 y3 i x cy r0 r1 r2 r3 r4 r5 ?_ hs fun ac cY aY h=>k _ _ e1 l1 u1 ac cY aY h
 simp only[B1,and_true,decide_eq_true_eq];omega

theorem sPC (o0 o1 o2 o3 a b c d y0 y1 y2 y3:Int) (i:Nat) {x cy r0 r1 r2 r3 r4 r5:Int} (hx:Lim x) (hy:Lim y2) (hr:Lim r2) (hc:Lim cy) (hs:Sim w0 F0 K ac (pS2 o0 o1 o2 o3 a b c d y0 y1 y2 y3 i x cy r0 r1 r2 r3 r4 r5) cX aX)
  (k:∀n cy' : Int,x*y2+r2+cy=n+18446744073709551616*cy' -> Lim n->Lim cy' -> ∀ac cY aY,Sim w0 F0 K ac (pS3 o0 o1 o2 o3 a b c d y0 y1 y2 y3 i x cy' r0 r1 n r3 r4 r5) cY aY->Wq Tryz.prog Q F0e ac .normal aY cY.w):Wq Tryz.prog Q D7k ac .normal aX cX.w:=by
 obtain ⟨x0,x1⟩:=hx;obtain ⟨yy0,yy1⟩:=hy;obtain ⟨rr0,rr1⟩:=hr;obtain ⟨cc0,cc1⟩:=hc;obtain ⟨e1,l1,u1,m1⟩:=mac x0 x1 yy0 yy1 rr0 rr1 cc0 cc1;refine pC o0 o1 o2 o3 a b c d y0 y1 y2 y3 i x cy r0 r1 r2 r3 r4 r5 ?_ hs fun ac cY aY h=>k _ _ e1 l1 u1 ac cY aY h
 simp only[B1,and_true,decide_eq_true_eq];omega

theorem sPD (o0 o1 o2 o3 a b c d y0 y1 y2 y3:Int) (i:Nat) {x cy r0 r1 r2 r3 r4 r5:Int} (hx:Lim x) (hy:Lim y3) (hr:Lim r3) (hc:Lim cy) (hs:Sim w0 F0 K ac (pS3 o0 o1 o2 o3 a b c d y0 y1 y2 y3 i x cy r0 r1 r2 r3 r4 r5) cX aX)
  (k:∀n cy' : Int,x*y3+r3+cy=n+18446744073709551616*cy' -> Lim n->Lim cy' -> ∀ac cY aY,Sim w0 F0 K ac (pS4 o0 o1 o2 o3 a b c d y0 y1 y2 y3 i x cy' r0 r1 r2 n r4 r5) cY aY->Wq Tryz.prog Q G0o ac .normal aY cY.w):Wq Tryz.prog Q F0e ac .normal aX cX.w:=by
 obtain ⟨x0,x1⟩:=hx;obtain ⟨yy0,yy1⟩:=hy;obtain ⟨rr0,rr1⟩:=hr;obtain ⟨cc0,cc1⟩:=hc;obtain ⟨e1,l1,u1,m1⟩:=mac x0 x1 yy0 yy1 rr0 rr1 cc0 cc1;refine pD o0 o1 o2 o3 a b c d y0 y1 y2 y3 i x cy r0 r1 r2 r3 r4 r5 ?_ hs fun ac cY aY h=>k _ _ e1 l1 u1 ac cY aY h
 simp only[B1,and_true,decide_eq_true_eq];omega

theorem sPE (o0 o1 o2 o3 a b c d y0 y1 y2 y3:Int) (i:Nat) {x cy r0 r1 r2 r3 r4 r5:Int} (hr0:Lim r0) (hr4:Lim r4) (hc:Lim cy) (hs:Sim w0 F0 K ac (pS4 o0 o1 o2 o3 a b c d y0 y1 y2 y3 i x cy r0 r1 r2 r3 r4 r5) cX aX)
  (k:∀q cy' n4 n5:Int,r4+cy+0=n4+18446744073709551616*n5->q*18446744069414584321+r0=18446744073709551616*cy' -> Lim n4->0<=n5->n5<=1->Lim q->Lim cy' -> ∀ac cY aY,Sim w0 F0 K ac (pT1 o0 o1 o2 o3 a b c d y0 y1 y2 y3 i q cy' r0 r1 r2 r3 n4 n5) cY aY->Wq Tryz.prog Q G0p ac .normal aY cY.w):Wq Tryz.prog Q G0o ac .normal aX cX.w:=by
 obtain ⟨rr0,rr1⟩:=hr0;obtain ⟨rr4,rr5⟩:=hr4;obtain ⟨cc0,cc1⟩:=hc;obtain ⟨e1,p1,p1',q1,q1'⟩:=F8 (c:=0) rr4 rr5 cc0 cc1 (by decide) (by decide)
 have hq:=C4t (r0*18446744069414584319);have e2:=E9p (b:=18446744069414584321) hq.1 hq.2 (by decide) (by decide) rr0 rr1
 have e3:=D6u (l:=r0) rfl;obtain ⟨hq0,hq1⟩:=hq;obtain ⟨e2,⟨f1,f2⟩,f3⟩:=e2;refine pE o0 o1 o2 o3 a b c d y0 y1 y2 y3 i x cy r0 r1 r2 r3 r4 r5 ?_ hs fun ac cY aY h=>k _ _ _ _ e1 ?_ ⟨p1,p1'⟩ q1 q1' ⟨hq0,hq1⟩ f3 ac cY aY h
 ·simp only[B1,and_true,decide_eq_false_iff_not]
  omega
 ·omega

theorem sPF (o0 o1 o2 o3 a b c d y0 y1 y2 y3:Int) (i:Nat) {q cy r0 r1 r2 r3 r4 r5:Int} (hq:Lim q) (hr:Lim r1) (hc:Lim cy) (hs:Sim w0 F0 K ac (pT1 o0 o1 o2 o3 a b c d y0 y1 y2 y3 i q cy r0 r1 r2 r3 r4 r5) cX aX)
  (k:∀n cy' : Int,q*6034159408538082302+r1+cy=n+18446744073709551616*cy' -> Lim n->Lim cy' -> ∀ac cY aY,Sim w0 F0 K ac (pT2 o0 o1 o2 o3 a b c d y0 y1 y2 y3 i q cy' n r1 r2 r3 r4 r5) cY aY->Wq Tryz.prog Q G0q ac .normal aY cY.w):Wq Tryz.prog Q G0p ac .normal aX cX.w:=by
 obtain ⟨x0,x1⟩:=hq;obtain ⟨rr0,rr1⟩:=hr;obtain ⟨cc0,cc1⟩:=hc;obtain ⟨e1,l1,u1,m1⟩:=mac (b:=6034159408538082302) x0 x1 (by decide) (by decide) rr0 rr1 cc0 cc1
 refine pF o0 o1 o2 o3 a b c d y0 y1 y2 y3 i q cy r0 r1 r2 r3 r4 r5 ?_ hs fun ac cY aY h=>k _ _ e1 l1 u1 ac cY aY h
 simp only[B1,and_true,decide_eq_true_eq];omega

theorem sPG (o0 o1 o2 o3 a b c d y0 y1 y2 y3:Int) (i:Nat) {q cy r0 r1 r2 r3 r4 r5:Int} (hq:Lim q) (hr:Lim r2) (hc:Lim cy) (hs:Sim w0 F0 K ac (pT2 o0 o1 o2 o3 a b c d y0 y1 y2 y3 i q cy r0 r1 r2 r3 r4 r5) cX aX)
  (k:∀n cy' : Int,q*3691218898639771653+r2+cy=n+18446744073709551616*cy' -> Lim n->Lim cy' -> ∀ac cY aY,Sim w0 F0 K ac (pT3 o0 o1 o2 o3 a b c d y0 y1 y2 y3 i q cy' r0 n r2 r3 r4 r5) cY aY->Wq Tryz.prog Q G0s ac .normal aY cY.w):Wq Tryz.prog Q G0q ac .normal aX cX.w:=by
 obtain ⟨x0,x1⟩:=hq;obtain ⟨rr0,rr1⟩:=hr;obtain ⟨cc0,cc1⟩:=hc;obtain ⟨e1,l1,u1,m1⟩:=mac (b:=3691218898639771653) x0 x1 (by decide) (by decide) rr0 rr1 cc0 cc1
 refine pG o0 o1 o2 o3 a b c d y0 y1 y2 y3 i q cy r0 r1 r2 r3 r4 r5 ?_ hs fun ac cY aY h=>k _ _ e1 l1 u1 ac cY aY h
 simp only[B1,and_true,decide_eq_true_eq];omega

theorem sPH (o0 o1 o2 o3 a b c d y0 y1 y2 y3:Int) (i:Nat) {q cy r0 r1 r2 r3 r4 r5:Int} (hq:Lim q) (hr:Lim r3) (hc:Lim cy) (hs:Sim w0 F0 K ac (pT3 o0 o1 o2 o3 a b c d y0 y1 y2 y3 i q cy r0 r1 r2 r3 r4 r5) cX aX)
  (k:∀n cy' : Int,q*8353516859464449352+r3+cy=n+18446744073709551616*cy' -> Lim n->Lim cy' -> ∀ac cY aY,Sim w0 F0 K ac (pT4 o0 o1 o2 o3 a b c d y0 y1 y2 y3 i q cy' r0 r1 n r3 r4 r5) cY aY->Wq Tryz.prog Q H0f ac .normal aY cY.w):Wq Tryz.prog Q G0s ac .normal aX cX.w:=by
 obtain ⟨x0,x1⟩:=hq;obtain ⟨rr0,rr1⟩:=hr;obtain ⟨cc0,cc1⟩:=hc;obtain ⟨e1,l1,u1,m1⟩:=mac (b:=8353516859464449352) x0 x1 (by decide) (by decide) rr0 rr1 cc0 cc1
 refine pH o0 o1 o2 o3 a b c d y0 y1 y2 y3 i q cy r0 r1 r2 r3 r4 r5 ?_ hs fun ac cY aY h=>k _ _ e1 l1 u1 ac cY aY h
 simp only[B1,and_true,decide_eq_true_eq];omega

theorem sPI (o0 o1 o2 o3 a b c d y0 y1 y2 y3:Int) (i:Nat) {q cy r0 r1 r2 r3 r4 r5:Int} (hi:i<4) (hr4:Lim r4) (hc:Lim cy) (hs:Sim w0 F0 K ac (pT4 o0 o1 o2 o3 a b c d y0 y1 y2 y3 i q cy r0 r1 r2 r3 r4 r5) cX aX)
  (k:∀n3 c4:Int,r4+cy+0=n3+18446744073709551616*c4->Lim n3->0<=c4->c4<=1->∀ac cY aY,Sim w0 F0 K ac (pS o0 o1 o2 o3 a b c d y0 y1 y2 y3 (i+1) r0 r1 r2 n3 (wrap IntKind.u64 (r5+c4)) r5) cY aY->Wq Tryz.prog Q (M7 B3e) ac .normal aY cY.w):Wq Tryz.prog Q H0f ac .normal aX cX.w:=by
 obtain ⟨rr4,rr5⟩:=hr4;obtain ⟨cc0,cc1⟩:=hc;obtain ⟨e1,p1,p1',q1,q1'⟩:=F8 (c:=0) rr4 rr5 cc0 cc1 (by decide) (by decide)
 refine pI o0 o1 o2 o3 a b c d y0 y1 y2 y3 i q cy r0 r1 r2 r3 r4 r5 ?_ hs fun ac cY aY h=>k _ _ e1 ⟨p1,p1'⟩ q1 q1' ac cY aY (by rw[C0 (by omega) (by omega)] at h;exact h.nx _)
 simp only[B1,and_true,decide_eq_false_iff_not];omega

end

end S4

namespace S4

structure I7x (A Y i:Nat) (r0 r1 r2 r3 r4:Int):Prop where
 i4:i<=4
 h0:Lim r0
 h1:Lim r1
 h2:Lim r2
 h3:Lim r3
 h4:r4=0
 lt:E4 r0 r1 r2 r3<2*rN
 eq:∃Q:Nat,E4 r0 r1 r2 r3*((2 ^ (64*i):Nat):Int)=((A % 2 ^ (64*i):Nat):Int)*(Y:Int)+(Q:Int)*(rN:Int)

theorem F0w {A Y r i Q:Nat} {T T' q:Int} (hq:0<=q) (h:T*((2 ^ (64*i):Nat):Int)=((A % 2 ^ (64*i):Nat):Int)*(Y:Int)+(Q:Int)*(r:Int))
  (h' : 18446744073709551616*T' = T+A0 A i*(Y:Int)+q*(r:Int)) :
  ∃Q:Nat,T' * ((2 ^ (64*(i+1)):Nat):Int)=((A % 2 ^ (64*(i+1)):Nat):Int)*(Y:Int)+(Q:Int)*(r:Int):=by
 obtain ⟨q,rfl⟩:=Int.eq_ofNat_of_zero_le hq;refine ⟨Q+q*2 ^ (64*i),?_⟩
 rw[C2b];have hp:(2:Nat) ^ (64*(i+1))=2 ^ (64*i)*18446744073709551616:=by rw[Nat.mul_add,Nat.pow_add]
 rw[hp];have hl:A0 A i=((A / 2 ^ (64*i) % 18446744073709551616:Nat):Int):=rfl;rw[hl] at h'
 generalize A / 2 ^ (64*i) % 18446744073709551616=xi at *;generalize A % 2 ^ (64*i)=X at *;generalize 2 ^ (64*i)=m at *;have e1:T' * ((m*18446744073709551616:Nat):Int)=(18446744073709551616*T')*(m:Int):=by
  rw[Int.natCast_mul,Int.mul_comm (m:Int),<-Int.mul_assoc,Int.mul_comm T'];rfl
 rw[e1,h',Int.add_mul,Int.add_mul,h];push_cast
 simp only[Int.add_mul,Int.mul_assoc];have e2:(xi:Int)*((Y:Int)*(m:Int))=(m:Int)*((xi:Int)*(Y:Int)):=by rw[<-Int.mul_assoc,Int.mul_comm]
 have e3:(q:Int)*((r:Int)*(m:Int))=(q:Int)*((m:Int)*(r:Int)):=by rw[Int.mul_comm (r:Int)]
 rw[e2,e3];omega

theorem G9y {r B v T X Q:Nat} (e:v*B % r=1 % r) (h:T*B=X+Q*r):T % r=X*v % r:=by
  have h2:∀a:Nat,a*(v*B) % r=a % r:=fun a=>by rw[<-Nat.mul_mod_mod,e,Nat.mul_mod_mod,Nat.mul_one]
  calc T % r=T*(v*B) % r:=(h2 _).symm
    _=(T*B)*v % r:=by congr 1;simp only[Nat.mul_comm,Nat.mul_left_comm]
    _=X*v % r:=by rw[h,Nat.add_mul,Nat.mul_assoc Q,Nat.mul_comm r,<-Nat.mul_assoc,Nat.add_mul_mod_self_right]

theorem E2m {a b:Nat} (h:a % rN=b % rN):A3b a=A3b b:=by unfold A3b;rw[h]

theorem E2c (o0 o1 o2 o3:Int) (A Y:Nat) (hA:A<B4) (hY:Y<rN) :
  MuC Tryz.prog 89 0 4 1 (fl4 o0 o1 o2 o3) [u4s (A0 A 0) (A0 A 1) (A0 A 2) (A0 A 3),u4s (A0 Y 0) (A0 Y 1) (A0 Y 2) (A0 Y 3),mR,.v (.c (.int .u64 18446744069414584319))] (.fl [.ob (.fr (A3b (A*Y*D2m)))]):=by
 refine B2x (fn:=Tryz.f89) (c:=B9 Tryz.f89) Tryz.func89 rfl rfl fun x0 a0 hk hm hs=>?_
 obtain ⟨ey,y0,y0',y1,y1',y2,y2',y3,y3'⟩:=A0l Y (Nat.lt_trans hY (by decide))
 obtain ⟨ea,z0,z0',z1,z1',z2,z2',z3,z3'⟩:=A0l A hA;have hyr:(Y:Int)<(rN:Int):=by exact_mod_cast hY
 have hin:=@pIn o0 o1 o2 o3 (A0 A 0) (A0 A 1) (A0 A 2) (A0 A 3) (A0 Y 0) (A0 Y 1) (A0 Y 2) (A0 Y 3);have hget:∀i,i<4->List.getD [A0 A 0,A0 A 1,A0 A 2,A0 A 3] i 0=A0 A i:=by
  intro i hi;have:i=0∨i=1∨i=2∨i=3:=by omega
  rcases this with rfl | rfl | rfl | rfl<;>rfl
 have hmul:=fun z=>D7a z (A0 Y 0) (A0 Y 1) (A0 Y 2) (A0 Y 3)
 have hyn:(Y:Int)=E4 (A0 Y 0) (A0 Y 1) (A0 Y 2) (A0 Y 3):=ey;rw[<-hyn] at hmul;have hx0:∀i,0<=A0 A i:=fun i=>Int.natCast_nonneg _
 have hx1:∀i,A0 A i<18446744073709551616:=fun i=>by
  show ((A / 2 ^ (64*i) % 18446744073709551616:Nat):Int)<18446744073709551616;omega
 have hlimY0:Lim (A0 Y 0):=⟨y0,y0'⟩;have hlimY1:Lim (A0 Y 1):=⟨y1,y1'⟩;have hlimY2:Lim (A0 Y 2):=⟨y2,y2'⟩;have hlimY3:Lim (A0 Y 3):=⟨y3,y3'⟩;clear ey ea y0 y0' y1 y1' y2 y2' y3 y3' z0 z0' z1 z1' z2 z2' z3 z3';have hT4:A % 2 ^ (64*4)=A:=Nat.mod_eq_of_lt (by rw[G1d];exact hA)
 generalize A0 A 0=a at *;generalize A0 A 1=b at *;generalize A0 A 2=c at *;generalize A0 A 3=d at *;generalize A0 Y 0=v0 at *;generalize A0 Y 1=v1 at *;generalize A0 Y 2=v2 at *;generalize A0 Y 3=v3 at *;refine hin trivial hs fun ac cY aY hs1=>?_
 refine E6 (ι:={ p:Nat×Int×Int×Int×Int×Int×Int // I7x A Y p.1 p.2.1 p.2.2.1 p.2.2.2.1 p.2.2.2.2.1 p.2.2.2.2.2.1 })
  (fun p=>pS o0 o1 o2 o3 a b c d v0 v1 v2 v3 p.1.1 p.1.2.1 p.1.2.2.1 p.1.2.2.2.1 p.1.2.2.2.2.1 p.1.2.2.2.2.2.1 p.1.2.2.2.2.2.2) (fun p=>4-p.1.1) (c:=lpC B3e) (k:=lpR B3e) (by kernel_rfl) (fun p ih ac cY aY hs=>?_)
  ⟨(0,0,0,0,0,0,0),⟨by decide,⟨by decide,by decide⟩,⟨by decide,by decide⟩,⟨by decide,by decide⟩,⟨by decide,by decide⟩,rfl,by decide,0,by simp [E4,Nat.mod_one]⟩⟩ hs1
 obtain ⟨⟨i,r0,r1,r2,r3,r4,r5⟩,hI⟩:=p;simp only at ih hs hI
 obtain ⟨hi,h0,h1,h2,h3,h4,hlt,Q,hQ⟩:=hI;subst h4;by_cases h5:i<4
 ·have hround:=fun T' q hq=>F0w (A:=A) (Y:=Y) (r:=rN) (i:=i) (Q:=Q) (T:=E4 r0 r1 r2 r3) (T' := T') (q:=q) hq hQ
  have hzz:A0 A i*(Y:Int)<=18446744073709551615*(Y:Int):=Int.mul_le_mul_of_nonneg_right (by have:=hx1 i;omega) (by omega)
  have hz0:0<=A0 A i*(Y:Int):=Int.mul_nonneg (hx0 i) (by omega)
  have hlx:Lim (A0 A i):=⟨hx0 i,hx1 i⟩;refine sPA o0 o1 o2 o3 a b c d v0 v1 v2 v3 i h5 (hget i h5) hlx hlimY0 h0 hs fun a0 c0 eA la0 lc0 ac cY aY hs=>?_
  refine sPB o0 o1 o2 o3 a b c d v0 v1 v2 v3 i hlx hlimY1 h1 lc0 hs fun a1 c1 eB la1 lc1 ac cY aY hs=>?_
  refine sPC o0 o1 o2 o3 a b c d v0 v1 v2 v3 i hlx hlimY2 h2 lc1 hs fun a2 c2 eC la2 lc2 ac cY aY hs=>?_
  refine sPD o0 o1 o2 o3 a b c d v0 v1 v2 v3 i hlx hlimY3 h3 lc2 hs fun a3 c3 eD la3 lc3 ac cY aY hs=>?_
  refine sPE o0 o1 o2 o3 a b c d v0 v1 v2 v3 i la0 ⟨by decide,by decide⟩ lc3 hs fun q d0 n4 n5 eE eQ ln4 n50 n51 lq ld0 ac cY aY hs=>?_
  refine sPF o0 o1 o2 o3 a b c d v0 v1 v2 v3 i lq la1 ld0 hs fun b0 d1 eF lb0 ld1 ac cY aY hs=>?_
  refine sPG o0 o1 o2 o3 a b c d v0 v1 v2 v3 i lq la2 ld1 hs fun b1 d2 eG lb1 ld2 ac cY aY hs=>?_
  refine sPH o0 o1 o2 o3 a b c d v0 v1 v2 v3 i lq la3 ld2 hs fun b2 d3 eH lb2 ld3 ac cY aY hs=>?_
  refine sPI o0 o1 o2 o3 a b c d v0 v1 v2 v3 i h5 ln4 ld3 hs fun b3 c4 eI lb3 c40 c41 ac cY aY hs=>?_
  have hall:18446744073709551616*(E4 b0 b1 b2 b3+115792089237316195423570985008687907853269984665640564039457584007913129639936*(n5+c4))=E4 r0 r1 r2 r3+A0 A i*(Y:Int)+q*(rN:Int):=by
   rw[hmul];clear hround hmul hzz hz0 hQ ih hyr hyn;unfold E4 rN;omega
  have hlt' : E4 b0 b1 b2 b3+115792089237316195423570985008687907853269984665640564039457584007913129639936*(n5+c4)<2*rN:=by
   obtain ⟨q0,q1⟩:=lq;have:q*(rN:Int)<=18446744073709551615*(rN:Int):=Int.mul_le_mul_of_nonneg_right (by omega) (by omega)
   clear hround hmul hQ ih hyn;generalize A0 A i*(Y:Int)=z at *;generalize q*(rN:Int)=z' at *;omega
  have htop:n5+c4=0:=by
   obtain ⟨_,_⟩:=lb0;obtain ⟨_,_⟩:=lb1;obtain ⟨_,_⟩:=lb2;obtain ⟨_,_⟩:=lb3;unfold E4 rN at hlt';omega
  rw[htop,Int.mul_zero,Int.add_zero] at hall hlt'
  rw[htop] at hs;exact ih ⟨(i+1,b0,b1,b2,b3,wrap IntKind.u64 0,n5),⟨h5,lb0,lb1,lb2,lb3,rfl,hlt',hround _ q lq.1 hall⟩⟩ (by show 4-(i+1)<4-i;omega) ac cY aY hs
 ·have hi4:i=4:=by omega
  subst hi4;have hT:0<=E4 r0 r1 r2 r3:=by
   obtain ⟨_,_⟩:=h0;obtain ⟨_,_⟩:=h1;obtain ⟨_,_⟩:=h2;obtain ⟨_,_⟩:=h3;unfold E4;omega
  rw[hT4] at hQ;have hb4:(2 ^ (64*4):Nat)=B4:=G1d;rw[hb4] at hQ;have hlast:=E6b hT hQ;have hred:A3b (E4 r0 r1 r2 r3).toNat=A3b (A*Y*D2m):=E2m (G9y B3n hlast);rw[<-hred];refine B5e U0 hk hm (pX o0 o1 o2 o3 a b c d v0 v1 v2 v3 4 r0 r1 r2 r3 0 r5) rfl ?_ (fun y cs h=>h) (.inl ⟨_,_,rfl,rfl⟩) hs
  refine ⟨by decide,by decide,by decide,by decide,by decide,h0,h1,h2,h3,hlt,rfl,rfl,rfl,rfl,rfl,trivial⟩

end S4

namespace S4

theorem MuC.pre {P:Program} {f off len es:Nat} {e1 e2 e' : En} {rest:List SV} (h:MuC P f off len es e2 rest e') (hl:∃l l',e1 = .fl l∧e2 = .fl l') (hd:∀x cs,C7 x e1 cs->C7 x e2 cs):MuC P f off len es e1 rest e' := by
 intro x vs hk hm hden;obtain ⟨l,l',rfl,rfl⟩:=hl;refine h x vs hk ⟨fun p=>?_,fun p r hp=>?_,fun p q hp hn=>?_,fun p e hp hr=>?_,hm.inj,hm.own,hm.fw⟩ hden
 ·rw[<-hm.dom p]
  by_cases h0:p=0<;>simp [one,h0]
 ·by_cases h0:p=0
  ·subst h0;exact hm.fl 0 l rfl
  ·simp [one,h0] at hp
 ·by_cases h0:p=0
  ·subst h0;simp [one] at hp
  ·simp [one,h0] at hp
 ·by_cases h0:p=0
  ·subst h0
   simp only[one,if_true,Option.some.injEq] at hp;subst hp;obtain ⟨cs,ty,hc,hdd⟩:=hm.ent 0 _ rfl hr;exact ⟨cs,ty,hc,hd _ _ hdd⟩
  ·simp [one,h0] at hp

theorem G9r {x:Ctx} {o:Ob} (hk:o.k=4) {cs:List Value} (h:C4 x.D [.ob o] cs):C4 x.D [.int .u64 (A0 o.n 0),.int .u64 (A0 o.n 1),.int .u64 (A0 o.n 2),.int .u64 (A0 o.n 3)] cs:=by
 obtain ⟨c1,c2,e,⟨d,h1⟩,h2⟩:=h;have h1:c1=o.cells:=by cases d<;>exact h1
 have h2:c2=[]:=h2;subst h2 h1 e;rw[List.append_nil];unfold Ob.cells;rw[hk];exact ⟨[_],_,rfl,⟨0,rfl⟩,[_],_,rfl,⟨0,rfl⟩,[_],_,rfl,⟨0,rfl⟩,[_],_,rfl,⟨0,rfl⟩,rfl⟩

def E6y (a b c d y0 y1 y2 y3:Int):En:=.fl [.ob (.fr (A3b ((E4 a b c d).toNat*(E4 y0 y1 y2 y3).toNat*D2m)))]
def C3n:MuS:=fun off len es e rest=>
 match off,len,es,e,rest with
 | 0,4,1,.fl [.ob (.s _)],[.v (.c (.sl (.u64 [a,b,c,d]))),.v (.c (.sl (.u64 [y0,y1,y2,y3]))),.v (.c (.sl (.u64 [m0,m1,m2,m3]))),.v (.c (.int .u64 neg))]=>
  some ([Lim a,Lim b,Lim c,Lim d,Lim y0,Lim y1,Lim y2,Lim y3,E4 y0 y1 y2 y3<rN,neg=18446744069414584319,m0=18446744069414584321,m1=6034159408538082302,m2=3691218898639771653,m3=8353516859464449352],E6y a b c d y0 y1 y2 y3)
 | 0,4,1,.fl [.ob (.fr _)],[.v (.c (.sl (.u64 [a,b,c,d]))),.v (.c (.sl (.u64 [y0,y1,y2,y3]))),.v (.c (.sl (.u64 [m0,m1,m2,m3]))),.v (.c (.int .u64 neg))]=>
  some ([Lim a,Lim b,Lim c,Lim d,Lim y0,Lim y1,Lim y2,Lim y3,E4 y0 y1 y2 y3<rN,neg=18446744069414584319,m0=18446744069414584321,m1=6034159408538082302,m2=3691218898639771653,m3=8353516859464449352],E6y a b c d y0 y1 y2 y3)
 | _,_,_,_,_=>none

theorem D7b {a b c d:Int} (ha:Lim a) (hb:Lim b) (hc:Lim c) (hd:Lim d):∃n:Nat,n<B4∧E4 a b c d=(n:Int)∧A0 n 0=a∧A0 n 1=b∧A0 n 2=c∧A0 n 3=d:=by
 obtain ⟨ha,ha1⟩:=ha;obtain ⟨hb,hb1⟩:=hb;obtain ⟨hc,hc1⟩:=hc;obtain ⟨hd,hd1⟩:=hd;have h0:0<=E4 a b c d:=by unfold E4;omega
 obtain ⟨n,hn⟩:=Int.eq_ofNat_of_zero_le h0;refine ⟨n,?_,hn,Y8 ha ha1 hb hb1 hc hc1 hd hd1 (by rw[<-hn];rfl)⟩
 unfold E4 at hn;unfold B4;omega

theorem D7u {o:Ob} (hk:o.k=4) {a b c d y0 y1 y2 y3 neg m0 m1 m2 m3:Int}
  (ho:B1 [Lim a,Lim b,Lim c,Lim d,Lim y0,Lim y1,Lim y2,Lim y3,E4 y0 y1 y2 y3<rN,neg=18446744069414584319,m0=18446744069414584321,m1=6034159408538082302,m2=3691218898639771653,m3=8353516859464449352]) :
  MuC Tryz.prog 89 0 4 1 (.fl [.ob o]) [.v (.c (.sl (.u64 [a,b,c,d]))),.v (.c (.sl (.u64 [y0,y1,y2,y3]))),.v (.c (.sl (.u64 [m0,m1,m2,m3]))),.v (.c (.int .u64 neg))] (E6y a b c d y0 y1 y2 y3):=by
 obtain ⟨h1,h2,h3,h4,h5,h6,h7,h8,h9,rfl,rfl,rfl,rfl,rfl,_⟩:=ho;obtain ⟨A,hA,eA,rfl,rfl,rfl,rfl⟩:=D7b h1 h2 h3 h4;obtain ⟨Y,hY,eY,rfl,rfl,rfl,rfl⟩:=D7b h5 h6 h7 h8;refine MuC.pre (e2:=fl4 (A0 o.n 0) (A0 o.n 1) (A0 o.n 2) (A0 o.n 3)) ?_ ⟨_,_,rfl,rfl⟩ fun x cs h=>G9r hk h
 unfold E6y;rw[eA,eY,Int.toNat_natCast,Int.toNat_natCast];rw[eY] at h9;exact E2c _ _ _ _ A Y hA (by exact_mod_cast h9)

def D4s:Env:={ A5o with mu:=fun g=>if g=89 then some (mu1 C3n) else A5o.mu g }
theorem A7h:A9 Tryz.prog D4s:=
 C9m U0 89 C3n (A4 Tryz.func89 rfl rfl) fun off len es e rest o e' h ho _ _=>by
  unfold C3n at h;split at h
  ·cases h;exact D7u rfl ho
  ·cases h;exact D7u rfl ho
  ·cases h

theorem I8r (x:U4):let b:=Ob.n (.fr x);let c:Int:=18446744069414584319;let d:Int:=18446744069414584321;let f:Int:=6034159408538082302;let g:Int:=3691218898639771653;let h:Int:=8353516859464449352;B5 D4s Tryz.f46 3000 [.v (.a [.ob (.fr x)])] [] [] []=(some ([(S4.Lim (A0 b 0)),(S4.Lim (A0 b 1)),(S4.Lim (A0 b 2)),(S4.Lim (A0 b 3)),(S4.Lim (14526898881837571181:Int)),(S4.Lim (3129137299524312099:Int)),(S4.Lim (419701826671360399:Int)),(S4.Lim (524908885293268753:Int)),((3294906474794265442129797520630710739278575682199800681788903916070560242797:Int)<(52435875175126190479447740508185965837690552500527637822603658699938581184513:Int)),(c=c),(d=d),(f=f),(g=g),(h=h)],((.v (.a [(.ob (.fr (S4.A3b ((((S4.E4 (A0 b 0) (A0 b 1) (A0 b 2) (A0 b 3))).toNat*3294906474794265442129797520630710739278575682199800681788903916070560242797)*D2m))))])),[]))):=by intros;kernel_rfl
theorem I6n (x:Fr):let b:=Ob.n (.s x);let c:=S4.Lim (0:Int);let d:Int:=18446744069414584319;let f:Int:=18446744069414584321;let g:Int:=6034159408538082302;let h:Int:=3691218898639771653;let i:Int:=8353516859464449352;B5 D4s Tryz.f48 3000 [.v (.a [.ob (.s x)])] [] [] []=(some ([(S4.Lim (A0 b 0)),(S4.Lim (A0 b 1)),(S4.Lim (A0 b 2)),(S4.Lim (A0 b 3)),(S4.Lim (1:Int)),c,c,c,((1:Int)<(52435875175126190479447740508185965837690552500527637822603658699938581184513:Int)),(d=d),(f=f),(g=g),(h=h),(i=i)],((.v (.a [(.ob (.fr (S4.A3b ((((S4.E4 (A0 b 0) (A0 b 1) (A0 b 2) (A0 b 3))).toNat*1)*D2m))))])),[]))):=by intros;kernel_rfl
end S4

namespace S4

/-- A number, taken modulo r; an element as a number. -/
def inF (a:U4):Fr:=Fin.ofNat rN a.val
def D5 (x:Fr):U4:=Fin.ofNat B4 x.val
theorem Q7 (x:Fr):(D5 x).val=x.val:=Nat.mod_eq_of_lt (Nat.lt_trans x.isLt (by decide))

theorem E6c {n:Nat} (h:n<B4):Lim (A0 n 0)∧Lim (A0 n 1)∧Lim (A0 n 2)∧Lim (A0 n 3)∧(E4 (A0 n 0) (A0 n 1) (A0 n 2) (A0 n 3)).toNat=n:=by
 obtain ⟨e,a0,a1,b0,b1,c0,c1,d0,d1⟩:=A0l n h;refine ⟨⟨a0,a1⟩,⟨b0,b1⟩,⟨c0,c1⟩,⟨d0,d1⟩,?_⟩
 unfold E4;rw[<-e];exact Int.toNat_natCast n

theorem G7o {r B v s a:Nat} (e:v*B % r=1 % r) (hs:s % r=B*B % r):a*s*v % r=(a % r)*B % r:=by
  have h2:∀a:Nat,a*(v*B) % r=a % r:=fun a=>by rw[<-Nat.mul_mod_mod,e,Nat.mul_mod_mod,Nat.mul_one]
  calc a*s*v % r=(a*v)*s % r:=by congr 1;simp only[Nat.mul_comm,Nat.mul_left_comm]
    _=(a*v)*(B*B) % r:=by rw[<-Nat.mul_mod_mod,hs,Nat.mul_mod_mod]
    _=(a*B)*(v*B) % r:=by congr 1;simp only[Nat.mul_comm,Nat.mul_left_comm]
    _=a*B % r:=h2 _
    _=(a % r)*B % r:=by rw[Nat.mod_mul_mod]

theorem I7f:3294906474794265442129797520630710739278575682199800681788903916070560242797 % rN=B4*B4 % rN:=by kernel_rfl

theorem G7p (a:U4):FnD Tryz.prog 46 [.v (.a [.ob (.fr a)])] (.v (.a [.ob (.s (inF a))])) []:=by
 obtain ⟨h0,h1,h2,h3,hn⟩:=E6c a.isLt;refine (A5 A7h Tryz.func46 (I8r a) ?_).conv (fun _ _ h=>h) fun y v hd=>?_
 ·exact ⟨h0,h1,h2,h3,⟨by decide,by decide⟩,⟨by decide,by decide⟩,⟨by decide,by decide⟩,⟨by decide,by decide⟩,by decide,rfl,rfl,rfl,rfl,rfl,trivial⟩
 ·refine E6p (o:=.fr (A3b _)) (o' := .s (inF a)) rfl ?_ hd
  show (A3b _).val=_;rw[B3l];have hn:(E4 (A0 (Ob.n (Ob.fr a)) 0) (A0 (Ob.n (Ob.fr a)) 1) (A0 (Ob.n (Ob.fr a)) 2) (A0 (Ob.n (Ob.fr a)) 3)).toNat=a.val:=hn;rw[hn];exact G7o B3n I7f

theorem E6v {r B v x:Nat} (e:v*B % r=1 % r):(x*B % r)*1*v % r=x % r:=by
 rw[Nat.mul_one,Nat.mod_mul_mod,Nat.mul_assoc,Nat.mul_comm B,<-Nat.mul_mod_mod,e,Nat.mul_mod_mod,Nat.mul_one]

theorem G0i (x:Fr):FnD Tryz.prog 48 [.v (.a [.ob (.s x)])] (.v (.a [.ob (.fr (D5 x))])) []:=by
 obtain ⟨h0,h1,h2,h3,hn⟩:=E6c (n:=(Ob.s x).n) (Nat.lt_trans (B6b x) (by decide))
 refine (A5 A7h Tryz.func48 (I6n x) ?_).conv (fun _ _ h=>h) fun y v hd=>?_
 ·exact ⟨h0,h1,h2,h3,⟨by decide,by decide⟩,⟨by decide,by decide⟩,⟨by decide,by decide⟩,⟨by decide,by decide⟩,by decide,rfl,rfl,rfl,rfl,rfl,trivial⟩
 ·refine E6p (o:=.fr (A3b _)) (o' := .fr (D5 x)) (Eq.refl 4) ?_ hd
  show (A3b _).val=(D5 x).val;rw[B3l,hn,Q7];have e:(Ob.s x).n=x.val*B4 % rN:=rfl;rw[e,E6v B3n];exact Nat.mod_eq_of_lt x.isLt

end S4

namespace S4

theorem H8u (x y:Fr):let g:Int:=18446744073709551616;let h:=Ob.n (.s y);let i:=Ob.n (.s x);let j:Int:=4;let l:Int:=1;let o:=Ob.k (.s x);let p:=Ob.k (.s y);let q:=0<=(0:Int);let r:Int:=2;let t:Int:=3;let D:=A0 h 1;let F:=A0 h 2;let G:=A0 h 0;let d:=A6 0 (A0 i 0) G (0:Int);let u:=Prod.snd d;let b:=A6 0 (A0 i 1) D u;let w:=Prod.snd b;let c:=A6 0 (A0 i 2) F w;let z:=Prod.snd c;let A:=Prod.fst d;let B:=Prod.fst b;let C:=Prod.fst c;let H:=A0 h 3;let f:=Prod.fst (A6 0 (A0 i 3) H z);let m:=S4.E4 A B C f;B5 D4s Tryz.f49 3000 [.v (.a [.ob (.s x)]),.v (.a [.ob (.s y)])] [] [] []=(some ([q,(0<j),(0<o),q,(0<j),(0<p),(0<=(A0 i 0)),(0<=G),(G<g),q,(0<=l),q,(0<j),(0<=l),(l<j),(1<o),(0<=l),(l<j),(1<p),(0<=(A0 i 1)),(0<=D),(D<g),(0<=u),(u<=l),(0<=l),(l<j),(0<=r),(r<j),(2<o),(0<=r),(r<j),(2<p),(0<=(A0 i 2)),(0<=F),(F<g),(0<=w),(w<=l),(0<=r),(r<j),(0<=t),(t<j),(3<o),(0<=t),(t<j),(3<p),(0<=(A0 i 3)),(0<=H),(H<g),(0<=z),(z<=l),(0<=t),(t<j),(0<=A),(A<g),(0<=B),(B<g),(0<=C),(C<g),(0<=f),(f<g),(m<(104871750350252380958895481016371931675381105001055275645207317399877162369026:Int))],((.v (.a [(.ob (.s (C5k (m).toNat)))])),[]))):=by intros;kernel_rfl
theorem G8y (x y:Fr):let d:=Ob.n (.s y);let g:=Ob.n (.s x);let h:Int:=18446744073709551616;let i:Int:=4;let j:Int:=1;let m:=Ob.k (.s x);let o:=Ob.k (.s y);let p:Int:=0;let q:Int:=2;let r:Int:=3;let z:=A0 d 1;let A:=A0 d 2;let B:=A0 d 0;let f:=A6 1 (A0 g 0) B p;let t:=Prod.snd f;let b:=A6 1 (A0 g 1) z t;let u:=Prod.snd b;let c:=A6 1 (A0 g 2) A u;let w:=Prod.snd c;let C:=A0 d 3;let l:=A6 1 (A0 g 3) C w;B5 D4s Tryz.f62 3000 [.v (.a [.ob (.s x)]),.v (.a [.ob (.s y)])] [true] [] []=(some ([(0<=p),(0<i),(0<m),(0<=p),(0<i),(0<o),(0<=(A0 g 0)),(0<=B),(B<h),(0<=p),(0<=j),(0<=p),(0<i),(0<=j),(j<i),(1<m),(0<=j),(j<i),(1<o),(0<=(A0 g 1)),(0<=z),(z<h),(0<=t),(t<=j),(0<=j),(j<i),(0<=q),(q<i),(2<m),(0<=q),(q<i),(2<o),(0<=(A0 g 2)),(0<=A),(A<h),(0<=u),(u<=j),(0<=q),(q<i),(0<=r),(r<i),(3<m),(0<=r),(r<i),(3<o),(0<=(A0 g 3)),(0<=C),(C<h),(0<=w),(w<=j),(0<=r),(r<i),(((Prod.snd l) == p)=true)],((.v (.a [(.int .u64 (Prod.fst f)),(.int .u64 (Prod.fst b)),(.int .u64 (Prod.fst c)),(.int .u64 (Prod.fst l))])),[]))):=by intros;kernel_rfl
theorem G8z (x y:Fr):let g:Int:=18446744073709551616;let j:=Ob.n (.s y);let l:Int:=4;let m:Int:=1;let o:=Ob.n (.s x);let r:Int:=2;let t:Int:=3;let u:Int:=18446744069414584321;let w:Int:=6034159408538082302;let z:Int:=3691218898639771653;let A:Int:=8353516859464449352;let B:=Ob.k (.s x);let C:=Ob.k (.s y);let K:Int:=0;let q:=0<=K;let L:=A0 j 1;let M:=A0 j 2;let N:=A0 j 0;let f:=A6 1 (A0 o 0) N K;let i:=A6 0 (Prod.fst f) u K;let D:=Prod.snd f;let b:=A6 1 (A0 o 1) L D;let F:=Prod.snd i;let c:=A6 0 (Prod.fst b) w F;let G:=Prod.snd b;let d:=A6 1 (A0 o 2) M G;let H:=Prod.snd c;let h:=A6 0 (Prod.fst d) z H;let I:=Prod.snd d;let J:=Prod.snd h;let O:=A0 j 3;let p:=A6 1 (A0 o 3) O I;B5 D4s Tryz.f62 3000 [.v (.a [.ob (.s x)]),.v (.a [.ob (.s y)])] [false] [] []=(some ([q,(0<l),(0<B),q,(0<l),(0<C),(0<=(A0 o 0)),(0<=N),(N<g),q,(0<=m),q,(0<l),(0<=m),(m<l),(1<B),(0<=m),(m<l),(1<C),(0<=(A0 o 1)),(0<=L),(L<g),(0<=D),(D<=m),(0<=m),(m<l),(0<=r),(r<l),(2<B),(0<=r),(r<l),(2<C),(0<=(A0 o 2)),(0<=M),(M<g),(0<=G),(G<=m),(0<=r),(r<l),(0<=t),(t<l),(3<B),(0<=t),(t<l),(3<C),(0<=(A0 o 3)),(0<=O),(O<g),(0<=I),(I<=m),(0<=t),(t<l),(((Prod.snd p) == K)=false),q,(0<l),q,(0<l),(0<4),(0<=(Prod.fst f)),(0<=u),(u<g),q,(0<=m),q,(0<l),(0<=m),(m<l),(0<=m),(m<l),(1<4),(0<=(Prod.fst b)),(0<=w),(w<g),(0<=F),(F<=m),(0<=m),(m<l),(0<=r),(r<l),(0<=r),(r<l),(2<4),(0<=(Prod.fst d)),(0<=z),(z<g),(0<=H),(H<=m),(0<=r),(r<l),(0<=t),(t<l),(0<=t),(t<l),(3<4),(0<=(Prod.fst p)),(0<=A),(A<g),(0<=J),(J<=m),(0<=t),(t<l)],((.v (.a [(.int .u64 (Prod.fst i)),(.int .u64 (Prod.fst c)),(.int .u64 (Prod.fst h)),(.int .u64 (Prod.fst (A6 0 (Prod.fst p) A J)))])),[]))):=by intros;kernel_rfl
end S4

namespace S4

theorem F0y {x y r B:Nat}:((x+y) % r)*B % r=(x*B % r+y*B % r) % r:=by
 rw[Nat.mod_mul_mod,Nat.add_mul,<-Nat.add_mod]

theorem H1q (x y:Fr):(Ob.s (x+y)).n=((Ob.s x).n+(Ob.s y).n) % rN:=by
 exact F0y

theorem D5c {n:Nat} (x y:Fin n):x-y+y=x:=by
 apply Fin.ext
 simp only[Fin.add_def,Fin.sub_def];have:=y.isLt
 rw[Nat.mod_add_mod,show n-y.val+x.val+y.val=x.val+n from by omega,Nat.add_mod_right,Nat.mod_eq_of_lt x.isLt]

theorem H1r (x y:Fr):((Ob.s (x-y)).n+(Ob.s y).n) % rN=(Ob.s x).n:=by
 rw[<-H1q,D5c]

theorem G4n {r B v x y:Nat} (e:v*B % r=1 % r):(x*B % r+y*B % r)*v % r=(x+y) % r:=by
 rw[<-Nat.mod_mul_mod,<-Nat.add_mod,Nat.mod_mul_mod,<-Nat.add_mul,Nat.mul_assoc,Nat.mul_comm B,<-Nat.mul_mod_mod,e,Nat.mul_mod_mod,Nat.mul_one]

theorem G2c (x y:Fr):C5k ((Ob.s x).n+(Ob.s y).n)=x+y:=by
 apply Fin.ext
 have e:(Ob.s x).n=x.val*B4 % rN:=rfl;have e' : (Ob.s y).n=y.val*B4 % rN:=rfl;rw[e,e'];exact G4n B3n

theorem G1a (x y:Fr):FnD Tryz.prog 49 [.v (.a [.ob (.s x)]),.v (.a [.ob (.s y)])] (.v (.a [.ob (.s (x+y))])) []:=by
 have r0:=H8u x y;dsimp only at r0;have hX:=B6b x;have hY:=B6b y;have hadd:=G2c x y;obtain ⟨ex,x0,x0',x1,x1',x2,x2',x3,x3'⟩:=A0l (Ob.s x).n (Nat.lt_trans (B6b x) (by decide))
 obtain ⟨ey,y0,y0',y1,y1',y2,y2',y3,y3'⟩:=A0l (Ob.s y).n (Nat.lt_trans (B6b y) (by decide))
 generalize A0 (Ob.s x).n 0=a0 at *;generalize A0 (Ob.s x).n 1=a1 at *;generalize A0 (Ob.s x).n 2=a2 at *;generalize A0 (Ob.s x).n 3=a3 at *;generalize A0 (Ob.s y).n 0=b0 at *;generalize A0 (Ob.s y).n 1=b1 at *;generalize A0 (Ob.s y).n 2=b2 at *;generalize A0 (Ob.s y).n 3=b3 at *;obtain ⟨e0,p0,p0',c0,c0'⟩:=F8 (c:=0) x0 x0' y0 y0' (by decide) (by decide)
 obtain ⟨e1,p1,p1',c1,c1'⟩:=F8 x1 x1' y1 y1' c0 c0';obtain ⟨e2,p2,p2',c2,c2'⟩:=F8 x2 x2' y2 y2' c1 c1';obtain ⟨e3,p3,p3',c3,c3'⟩:=F8 x3 x3' y3 y3' c2 c2';generalize hq0:A6 0 a0 b0 0=q0 at *;generalize hq1:A6 0 a1 b1 q0.2=q1 at *;generalize hq2:A6 0 a2 b2 q1.2=q2 at *;generalize hq3:A6 0 a3 b3 q2.2=q3 at *;clear hq0 hq1 hq2 hq3;have hN:E4 q0.1 q1.1 q2.1 q3.1=((Ob.s x).n:Int)+((Ob.s y).n:Int):=by
  generalize (Ob.s x).n=X at *;generalize (Ob.s y).n=Y at *;unfold rN at hX hY;unfold E4;omega
 refine (A5 A7h Tryz.func49 r0 ?_).conv (fun _ _ h=>h) fun z v hd=>?_
 ·have hlt:E4 q0.1 q1.1 q2.1 q3.1<104871750350252380958895481016371931675381105001055275645207317399877162369026:=by
   unfold rN at hX hY;omega
  simp only[B1,and_true,Ob.k];clear hN hX hY ex ey hadd r0;and_intros<;>first | assumption | decide | omega
 ·have hN' : (E4 q0.1 q1.1 q2.1 q3.1).toNat=(Ob.s x).n+(Ob.s y).n:=by omega
  rw[hN',hadd] at hd;exact hd

theorem G4v {b:Int} (h0:0<=b) (h1:b<=1) (h:¬b=0):b=1:=by omega

theorem J1b {q0 q1 q2 q3 w0 w1 w2 w3 v0 v1 v2 v3:Int} (f0:q0+18446744069414584321+0=w0+18446744073709551616*v0) (f1:q1+6034159408538082302+v0=w1+18446744073709551616*v1)
  (f2:q2+3691218898639771653+v1=w2+18446744073709551616*v2) (f3:q3+8353516859464449352+v2=w3+18446744073709551616*v3) :
  E4 w0 w1 w2 w3+115792089237316195423570985008687907853269984665640564039457584007913129639936*v3=E4 q0 q1 q2 q3+rN:=by
 unfold E4 rN;omega

theorem E6o {a b c d:Int} (ha:Lim a) (hb:Lim b) (hc:Lim c) (hd:Lim d):0<=E4 a b c d∧E4 a b c d<115792089237316195423570985008687907853269984665640564039457584007913129639936:=by
 obtain ⟨_,_⟩:=ha;obtain ⟨_,_⟩:=hb;obtain ⟨_,_⟩:=hc;obtain ⟨_,_⟩:=hd;unfold E4;omega

theorem H2e {X Y Z:Nat} {N W v:Int} (hX:X<rN) (hY:Y<rN) (hcase:(Y<=X∧(Z:Int)=X-Y)∨(X<Y∧(Z:Int)=X+rN-Y))
  (hdiff:N-115792089237316195423570985008687907853269984665640564039457584007913129639936*1=(X:Int)-Y) (hN:0<=N∧N<115792089237316195423570985008687907853269984665640564039457584007913129639936)
  (hW:0<=W∧W<115792089237316195423570985008687907853269984665640564039457584007913129639936) (hv:0<=v∧v<=1)
  (hsum:W+115792089237316195423570985008687907853269984665640564039457584007913129639936*v=N+rN):(Z:Int)=W:=by
 obtain ⟨hN0,hN1⟩:=hN;obtain ⟨hW0,hW1⟩:=hW;obtain ⟨hv0,hv1⟩:=hv;unfold rN at *;have:v=0∨v=1:=by omega
 rcases hcase with ⟨h1,h2⟩ | ⟨h1,h2⟩
 ·exfalso;omega
 ·rcases this with rfl | rfl<;>omega

theorem F1e {X Y Z r:Nat} (_hX:X<r) (hY:Y<r) (hZ:Z<r) (h:(Z+Y) % r=X):(Y<=X∧(Z:Int)=X-Y)∨(X<Y∧(Z:Int)=X+r-Y):=by
 by_cases hl:Z+Y<r
 ·rw[Nat.mod_eq_of_lt hl] at h
  left;omega
 ·rw[Nat.mod_eq_sub_mod (by omega),Nat.mod_eq_of_lt (by omega)] at h
  right;omega

theorem E9s (x y:Fr):FnD Tryz.prog 62 [.v (.a [.ob (.s x)]),.v (.a [.ob (.s y)])] (.v (.a [.ob (.s (x-y))])) []:=by
 have r0:=G8y x y;dsimp only at r0;have r1:=G8z x y;dsimp only at r1;have hX:=B6b x;have hY:=B6b y;have hZ:=B6b (x-y);have hsub:=H1r x y;obtain ⟨ex,x0,x0',x1,x1',x2,x2',x3,x3'⟩:=A0l (Ob.s x).n (Nat.lt_trans (B6b x) (by decide))
 obtain ⟨ey,y0,y0',y1,y1',y2,y2',y3,y3'⟩:=A0l (Ob.s y).n (Nat.lt_trans (B6b y) (by decide))
 generalize A0 (Ob.s x).n 0=a0 at *;generalize A0 (Ob.s x).n 1=a1 at *;generalize A0 (Ob.s x).n 2=a2 at *;generalize A0 (Ob.s x).n 3=a3 at *;generalize A0 (Ob.s y).n 0=b0 at *;generalize A0 (Ob.s y).n 1=b1 at *;generalize A0 (Ob.s y).n 2=b2 at *;generalize A0 (Ob.s y).n 3=b3 at *;obtain ⟨e0,p0,p0',c0,c0'⟩:=F5 (c:=0) x0 x0' y0 y0' (by decide) (by decide)
 obtain ⟨e1,p1,p1',c1,c1'⟩:=F5 x1 x1' y1 y1' c0 c0';obtain ⟨e2,p2,p2',c2,c2'⟩:=F5 x2 x2' y2 y2' c1 c1';obtain ⟨e3,p3,p3',c3,c3'⟩:=F5 x3 x3' y3 y3' c2 c2';generalize hq0:A6 1 a0 b0 0=q0 at *;generalize hq1:A6 1 a1 b1 q0.2=q1 at *;generalize hq2:A6 1 a2 b2 q1.2=q2 at *;generalize hq3:A6 1 a3 b3 q2.2=q3 at *;clear hq0 hq1 hq2 hq3;have hcase:=F1e hX hY hZ hsub;have hdiff:E4 q0.1 q1.1 q2.1 q3.1-115792089237316195423570985008687907853269984665640564039457584007913129639936*q3.2=((Ob.s x).n:Int)-((Ob.s y).n:Int):=by
  rw[ex,ey];clear hsub hcase hX hY hZ ex ey;unfold E4;omega
 by_cases hz:q3.2=0
 ·refine (A5 A7h Tryz.func62 r0 ?_).conv (fun _ _ h=>h) fun z v hd=>B2i rfl (Y8 p0 p0' p1 p1' p2 p2' p3 p3' ?_) hd
  ·simp only[B1,and_true,Ob.k,beq_iff_eq]
   clear hsub hX hY hZ ex ey r0 r1 hcase hdiff;and_intros<;>first | assumption | decide | omega
  ·rcases hcase with ⟨h1,h2⟩ | ⟨h1,h2⟩
   ·rw[h2,<-hdiff,hz];unfold E4;omega
   ·rw[hz] at hdiff;exfalso;unfold E4 at hdiff;clear ex ey hsub h2 e0 e1 e2 e3;omega
 ·obtain ⟨f0,s0,s0',d0,d0'⟩:=F8 (y:=18446744069414584321) (c:=0) p0 p0' (by decide) (by decide) (by decide) (by decide)
  obtain ⟨f1,s1,s1',d1,d1'⟩:=F8 (y:=6034159408538082302) p1 p1' (by decide) (by decide) d0 d0'
  obtain ⟨f2,s2,s2',d2,d2'⟩:=F8 (y:=3691218898639771653) p2 p2' (by decide) (by decide) d1 d1'
  obtain ⟨f3,s3,s3',d3,d3'⟩:=F8 (y:=8353516859464449352) p3 p3' (by decide) (by decide) d2 d2'
  generalize hw0:A6 0 q0.1 18446744069414584321 0=w0 at *;generalize hw1:A6 0 q1.1 6034159408538082302 w0.2=w1 at *;generalize hw2:A6 0 q2.1 3691218898639771653 w1.2=w2 at *;generalize hw3:A6 0 q3.1 8353516859464449352 w2.2=w3 at *;clear hw0 hw1 hw2 hw3;refine (A5 A7h Tryz.func62 r1 ?_).conv (fun _ _ h=>h) fun z v hd=>B2i rfl (Y8 s0 s0' s1 s1' s2 s2' s3 s3' ?_) hd
  ·simp only[B1,and_true,Ob.k,beq_eq_false_iff_ne]
   clear hsub hX hY hZ ex ey r0 r1 hcase hdiff;and_intros<;>first | assumption | decide | omega
  ·have hz1:q3.2=1:=G4v c3 c3' hz
   rw[hz1] at hdiff;exact H2e hX hY hcase hdiff (E6o ⟨p0,p0'⟩ ⟨p1,p1'⟩ ⟨p2,p2'⟩ ⟨p3,p3'⟩) (E6o ⟨s0,s0'⟩ ⟨s1,s1'⟩ ⟨s2,s2'⟩ ⟨s3,s3'⟩) ⟨d3,d3'⟩ (J1b f0 f1 f2 f3)

end S4

namespace S4

def E0p:B2
 | [.v (.a [.ob (.fr a)])]=>some ([],.v (.a [.ob (.s (inF a))]),[])
 | _=>none
def gA:Env:=D4s.set (C6 D4s.fn 46 E0p)
theorem I4o:A9 Tryz.prog gA:=A8 A7h 46 E0p (A4 Tryz.func46 rfl rfl) fun args o r es h _=>by
 unfold E0p at h;split at h
 ·cases h;exact G7p _
 ·cases h
def D1w:B2
 | [.v (.a [.ob (.s x)])]=>some ([],.v (.a [.ob (.fr (D5 x))]),[])
 | _=>none
def gB:Env:=gA.set (C6 gA.fn 48 D1w)
theorem I4p:A9 Tryz.prog gB:=A8 I4o 48 D1w (A4 Tryz.func48 rfl rfl) fun args o r es h _=>by
 unfold D1w at h;split at h
 ·cases h;exact G0i _
 ·cases h
def B6e:B2
 | [.v (.a [.ob (.s x)]),.v (.a [.ob (.s y)])]=>some ([],.v (.a [.ob (.s (x*y))]),[])
 | _=>none
def gC:Env:=gB.set (C6 gB.fn 47 B6e)
theorem I4q:A9 Tryz.prog gC:=A8 I4p 47 B6e (A4 Tryz.func47 rfl rfl) fun args o r es h _=>by
 unfold B6e at h;split at h
 ·cases h;exact F1j _ _
 ·cases h
def C3f:B2
 | [.v (.a [.ob (.s x)]),.v (.a [.ob (.s y)])]=>some ([],.v (.a [.ob (.s (x+y))]),[])
 | _=>none
def gD:Env:=gC.set (C6 gC.fn 49 C3f)
theorem I4r:A9 Tryz.prog gD:=A8 I4q 49 C3f (A4 Tryz.func49 rfl rfl) fun args o r es h _=>by
 unfold C3f at h;split at h
 ·cases h;exact G1a _ _
 ·cases h
def B5c:B2
 | [.v (.a [.ob (.s x)]),.v (.a [.ob (.s y)])]=>some ([],.v (.a [.ob (.s (x-y))]),[])
 | _=>none
def gE:Env:=gD.set (C6 gD.fn 62 B5c)
theorem H3h:A9 Tryz.prog gE:=A8 I4r 62 B5c (A4 Tryz.func62 rfl rfl) fun args o r es h _=>by
 unfold B5c at h;split at h
 ·cases h;exact E9s _ _
 ·cases h
theorem I9o (x:Fr):B5 gE Tryz.f53 3000 [.v (.a [.ob (.s x)])] [] [] []=(some ([],((.v (.a [(.ob (.s ((0:Fr)-x)))])),[]))):=by kernel_rfl
def D1k:B2
 | [.v (.a [.ob (.s x)])]=>some ([],.v (.a [.ob (.s (0-x))]),[])
 | _=>none
def gF:Env:=gE.set (C6 gE.fn 53 D1k)
theorem F5m:A9 Tryz.prog gF:=A8 H3h 53 D1k (A4 Tryz.func53 rfl rfl) fun args o r es h _=>by
 unfold D1k at h;split at h
 ·cases h;exact A5 H3h Tryz.func53 (I9o _) trivial
 ·cases h
theorem frC (a:U4):B5 gF Tryz.f27 3000 [.v (.a [.ob (.fr a)])] [] [] []=(some ([],((.v (.a [(.ob (.fr (S4.D5 (S4.inF a))))])),[]))):=by kernel_rfl
theorem frM (a b:U4):B5 gF Tryz.f14 3000 [.v (.a [.ob (.fr a)]),.v (.a [.ob (.fr b)])] [] [] []=(some ([],((.v (.a [(.ob (.fr (S4.D5 ((S4.inF a)*(S4.inF b)))))])),[]))):=by kernel_rfl
def B4e:B2
 | [.v (.a [.ob (.fr a)])]=>some ([],.v (.a [.ob (.fr (D5 (inF a)))]),[])
 | _=>none
def gG:Env:=gF.set (C6 gF.fn 27 B4e)
theorem I4s:A9 Tryz.prog gG:=A8 F5m 27 B4e (A4 Tryz.func27 rfl rfl) fun args o r es h _=>by
 unfold B4e at h;split at h
 ·cases h;exact A5 F5m Tryz.func27 (frC _) trivial
 ·cases h
def gH:Env:=gG
theorem I4t:A9 Tryz.prog gH:=I4s
def D1j:B2
 | [.v (.a [.ob (.fr a)]),.v (.a [.ob (.fr b)])]=>some ([],.v (.a [.ob (.fr (D5 (inF a*inF b)))]),[])
 | _=>none
def gI:Env:=gH.set (C6 gH.fn 14 D1j)
theorem I4u:A9 Tryz.prog gI:=A8 I4t 14 D1j (A4 Tryz.func14 rfl rfl) fun args o r es h _=>by
 unfold D1j at h;split at h
 ·cases h;exact A5 F5m Tryz.func14 (frM _ _) trivial
 ·cases h
def gJ:Env:=gI
theorem I4v:A9 Tryz.prog gJ:=I4u
def gK:Env:=gJ
theorem D5k:A9 Tryz.prog gK:=I4v
end S4

section

section
variable {F:Type} [Fld F] [DecidableEq F] {b:F}
theorem F9m (hc:Cv b) {P:Pt F} (h:OnC b P) {r:Nat} (hr:D6 P r=none) (n:Nat):D6 P n=D6 P (n % r):=by
 have e:D6 P (r*(n / r)+n % r)=D6 P (n % r):=by
  rw[Q5 hc h,Q6 hc h,hr,Z4];rfl
 rw[Nat.div_add_mod] at e;exact e
theorem D5z (hc:Cv b) {P:Pt F} {a:F×F×F} (hP:OnC b P) (h:Jc P a) (l:List Nat):decide ((jmn a l).2.2=0)=decide (D6 P (dgV l)=none):=by
 have hj:=E0v hc hP h l
 cases hn:D6 P (dgV l) with
 | none=>
  rw[hn] at hj;have hj:(jmn a l).2.2=0:=hj;rw[decide_eq_true hj,decide_eq_true rfl]
 | some q=>
  rw[hn] at hj;have hj:(jmn a l).2.2≠0:=hj.1;rw[decide_eq_false hj];exact (decide_eq_false (p:=(some q:Pt F)=none) (fun e=>by cases e)).symm
end

def rL:Nat:=52435875175126190479447740508185965837690552500527637822603658699938581184513
theorem I6u:rN=rL:=rfl
theorem I4a {n:Nat} (h:n<B4):dgV (dgT n 64)=n:=by
 have h2:B4=16 ^ 64:=by decide +kernel
 exact E4o (Eq.refl 64) (by rw[<-h2];exact h)
theorem E4p:dgV (dgT 52435875175126190479447740508185965837690552500527637822603658699938581184513 64)=rN:=(I4a (n:=52435875175126190479447740508185965837690552500527637822603658699938581184513) (by decide +kernel)).trans I6u.symm
end

namespace S4
section
variable {w0:World} {F0:Nat->Prop} {K:Kp} {ac:List Act} {Q:Exit->Act->World->Prop} {cX:Ctx} {aX:Act}

theorem zeR (x:Fr):B5 gK Tryz.f112 3000 [.v (.a [.ob (.s x)])] [] [] []=(some ([],((.ci (.bool (ite (true=true) (decide (x=(0:Fr))) (Bool.not (decide (x=(0:Fr))))))),[]))):=by kernel_rfl
theorem H2s (x:Fr):FnD Tryz.prog 112 [.v (.a [.ob (.s x)])] (.v (.c (.bool (decide (x=0))))) []:=by
 refine (A5 D5k Tryz.func112 (zeR x) trivial).conv (fun _ _ h=>h) fun y v hd=>?_
 rw[if_pos rfl] at hd;exact hd
def C4y:B2
 | [.v (.a [.ob (.s x)])]=>some ([],.v (.c (.bool (decide (x=0)))),[])
 | _=>none
def gL:Env:=gK.set (C6 gK.fn 112 C4y)
theorem A2g:A9 Tryz.prog gL:=A8 D5k 112 C4y (A4 Tryz.func112 rfl rfl) fun args o r es h _=>by
 unfold C4y at h;split at h
 ·cases h;exact H2s _
 ·cases h
def A9n:List KI:=(run gL false 3000 ((fun (ls:List (List U4))=>(⟨[.code (B9 Tryz.f68)],.normal,D7 Tryz.f68.ntmps [.v (.c (.sl (.frs ls)))]⟩:Cfg)) default) []).cfg.k
theorem I9e (ls:List (List U4)):B1 []->Sg Tryz.prog (D7 Tryz.f68.ntmps [.v (.c (.sl (.frs ls)))]) (B0 15 [5,6,7] [(.ci (.sl (.frs ls))),(.ii (ls.length:Int)),.ii (0:Int)] [] [] 80 [] []) .normal (A9n) ([.code (B9 Tryz.f68)]):=sgA false 3000 [] A2g
def B5p:List KI:=(run gL false 3000 (⟨[.code (B9 Tryz.f67)],.normal,D7 Tryz.f67.ntmps [.v (.c (.sl (.fr dF)))]⟩:Cfg) []).cfg.k
theorem J0a (a:List U4):let b:Int:=a.length;B1 [(0<=b),(b=b),(((32:Int)*b)<=(281474976710656:Int)),(b<=(9223372036854775807:Int))]->Sg Tryz.prog (D7 Tryz.f67.ntmps [.v (.c (.sl (.fr a)))]) (B0 23 [3,9,10,11] [(.ci (.slc 64 0 (b).toNat 4)),(.ci (.sl (.fr a))),(.ii b),.ii (0:Int)] [64] [(eQ_ (.s (List.replicate (b).toNat 0)))] 144 [] []) .normal (B5p) ([.code (B9 Tryz.f67)]):=sgA false 3000 [] A2g
def A6f:List KI:=(run gL false 3000 (⟨[.code (B9 Tryz.f66)],.normal,D7 Tryz.f66.ntmps [.v (.c (.sl (.s dF)))]⟩:Cfg) []).cfg.k
theorem I9z (a:List Fr):B1 []->Sg Tryz.prog (D7 Tryz.f66.ntmps [.v (.c (.sl (.s a)))]) (B0 37 [0,3] [(.ci (.sl (.s a))),(.ii (a.length:Int))] [] [] 80 [] []) .normal (A6f) ([.code (B9 Tryz.f66)]):=sgA false 3000 [] A2g
def lgS (ls:List (List U4)) (N i:Nat):St:=B0 15 [5,6,7] [(.ci (.sl (.frs ls))),.v (.c (.int .i64 (N:Int))),.v (.c (.int .i64 (i:Int)))] [] [] 80 [] []
theorem lgN (ls:List (List U4)) (N i:Nat):let a:Int:=i;B1 [((decide (a<((N:Nat):Int)))=true),(0<=a),(a<(ls.length:Int)),((decide ((((List.getD ls (a).toNat ([]:List U4)).length:Nat):Int) > (262144:Int)))=false)]->Sg Tryz.prog (lgS ls N i) (B0 15 [5,6,7] [(.ci (.sl (.frs ls))),(.ii ((N:Nat):Int)),(.ii (wrap .i64 (a+1)))] [] [] 224 [] []) .normal (M7 A9n) (E8 A9n):=sgA false 3000 [true,false] A2g
theorem G8l (ls:List (List U4)) (N i:Nat):let a:Int:=i;G5 gL Tryz.f68 false 3000 (⟨E8 A9n,.normal,lgS ls N i⟩) [true,true] [] []=(some ([((decide (a<((N:Nat):Int)))=true),(0<=a),(a<(ls.length:Int)),((decide ((((List.getD ls (a).toNat ([]:List U4)).length:Nat):Int) > (262144:Int)))=true)],((.ci (.lit true)),[]))):=by intros;kernel_rfl
theorem G8k (ls:List (List U4)) (N i:Nat):G5 gL Tryz.f68 false 3000 (⟨E8 A9n,.normal,lgS ls N i⟩) [false] [] []=(some ([((decide ((i:Int)<((N:Nat):Int)))=false)],((.ci (.lit false)),[]))):=by kernel_rfl
def piS (a:List U4) (N:Nat) (L:List Fr) (i:Nat):St:=B0 23 [3,9,10,11] [.v (.c (.slc 64 0 N 4)),(.ci (.sl (.fr a))),.v (.c (.int .i64 (N:Int))),.v (.c (.int .i64 (i:Int)))] [64] [some (.sq (.s L))] 144 [] []
theorem piN (a:List U4) (N:Nat) (L:List Fr) (i:Nat):let b:Int:=i;let c:Int:=(N:Nat);B1 [((decide (b<c))=true),(0<=b),(b<(a.length:Int)),(0<=b),(b<c),(0=0),((b).toNat<L.length)]->Sg Tryz.prog (piS a N L i) (B0 23 [3,9,10,11] [(.ci (.slc 64 0 N 4)),(.ci (.sl (.fr a))),(.ii c),(.ii (wrap .i64 (b+1)))] [64] [(eQ_ (.s (List.set L (b).toNat (S4.inF (List.getD a (b).toNat 0)))))] 384 [] []) .normal (M7 B5p) (E8 B5p):=sgA false 3000 [true] A2g
theorem H0m (a:List U4) (N:Nat) (L:List Fr) (i:Nat):G5 gL Tryz.f67 false 3000 (⟨E8 B5p,.normal,piS a N L i⟩) [false] [64] []=(some ([((decide ((i:Int)<((N:Nat):Int)))=false)],((.ci (.slc 0 0 N 4)),[(.sq (.s L))]))):=by kernel_rfl
def pbS (a:List Fr) (n:Nat):St:=B0 37 [0,3] [(.ci (.sl (.s a))),.v (.c (.int .i64 (n:Int)))] [] [] 80 [] []
section
variable (a:List Fr) (n:Nat)
theorem pbN:let b:=wrap .i64 (((n:Nat):Int)-1);B1 [((decide (((n:Nat):Int) > (0:Int)))=true),(0<=b),(b<(a.length:Int)),((decide ((List.getD a (b).toNat 0)=(0:Fr)))=true)]->Sg Tryz.prog (pbS a n) (B0 37 [0,3] [(.ci (.sl (.s a))),(.ii b)] [] [] 288 [] []) .normal (M7 A6f) (E8 A6f):=sgA false 3000 [true,true] A2g
def B7d:List KI:=(run gL false 3000 (⟨E8 A6f,.normal,pbS dF dF⟩:Cfg) [true,false]).cfg.k
theorem pbB:let b:Int:=(n:Nat);let c:=wrap .i64 (b-1);B1 [((decide (b > (0:Int)))=true),(0<=c),(c<(a.length:Int)),((decide ((List.getD a (c).toNat 0)=(0:Fr)))=false),(0<=b),(b=b),(((32:Int)*b)<=(281474976710656:Int)),(b<=(9223372036854775807:Int))]->Sg Tryz.prog (pbS a n) (B0 37 [0,4,23,24] [(.ci (.sl (.s a))),(.ci (.slc 256 0 (b).toNat 4)),(.ii (((b).toNat:Nat):Int)),.ii (0:Int)] [256] [(eQ_ (.fr (List.replicate (b).toNat 0)))] 336 [] []) .normal (B7d) (E8 A6f):=sgA false 3000 [true,false] A2g
theorem pbC:let b:Int:=(n:Nat);B1 [((decide (b > (0:Int)))=false),(0<=b),(b=b),(((32:Int)*b)<=(281474976710656:Int)),(b<=(9223372036854775807:Int))]->Sg Tryz.prog (pbS a n) (B0 37 [0,4,23,24] [(.ci (.sl (.s a))),(.ci (.slc 256 0 (b).toNat 4)),(.ii (((b).toNat:Nat):Int)),.ii (0:Int)] [256] [(eQ_ (.fr (List.replicate (b).toNat 0)))] 336 [] []) .normal (B7d) (E8 A6f):=sgA false 3000 [false] A2g
def pbT (a:List Fr) (N:Nat) (L:List U4) (i:Nat):St:=B0 37 [0,4,23,24] [(.ci (.sl (.s a))),.v (.c (.slc 256 0 N 4)),.v (.c (.int .i64 (N:Int))),.v (.c (.int .i64 (i:Int)))] [256] [some (.sq (.fr L))] 336 [] []
end
theorem pbM (a:List Fr) (N:Nat) (L:List U4) (i:Nat):let b:Int:=i;let c:Int:=(N:Nat);B1 [((decide (b<c))=true),(0<=b),(b<(a.length:Int)),(0<=b),(b<c),(0=0),((b).toNat<L.length)]->Sg Tryz.prog (pbT a N L i) (B0 37 [0,4,23,24] [(.ci (.sl (.s a))),(.ci (.slc 256 0 N 4)),(.ii c),(.ii (wrap .i64 (b+1)))] [256] [(eQ_ (.fr (List.set L (b).toNat (S4.D5 (List.getD a (b).toNat 0)))))] 560 [] []) .normal (M7 B7d) (E8 B7d):=sgA false 3000 [true] A2g
theorem H0j (a:List Fr) (N:Nat) (L:List U4) (i:Nat):G5 gL Tryz.f66 false 3000 (⟨E8 B7d,.normal,pbT a N L i⟩) [false] [256] []=(some ([((decide ((i:Int)<((N:Nat):Int)))=false)],((.ci (.slc 0 0 N 4)),[(.sq (.fr L))]))):=by kernel_rfl
end
end S4

namespace S4

/-- A row that is filled from its front. -/
theorem D5a {α:Type} (f:Nat->α) (z:α) {i N:Nat} (h:i<N):((List.range i).map f++List.replicate (N-i) z).set i (f i)=(List.range (i+1)).map f++List.replicate (N-(i+1)) z:=by
 rw[List.set_append_right _ _ (by simp)]
 have e:N-i=(N-(i+1))+1:=by omega
 rw[e,List.replicate_succ];simp [List.range_succ]

theorem D4y {α:Type} (f:Nat->α) (z:α) {i N:Nat} (h:i<=N):((List.range i).map f++List.replicate (N-i) z).length=N:=by
 simp
 omega

theorem E2j {α β:Type} (g:α->β) (l:List α) (d:α):(List.range l.length).map (fun i=>g (l.getD i d))=l.map g:=by
 apply List.ext_getElem
 ·simp
 ·intro i h1 h2
  simp at h1
  simp [List.getD,h1]


/-- How many coefficients are left of the first n, what is 0 at the end left out. -/
def R2 (l:List Fr):Nat->Nat
 | 0=>0
 | n+1=>if l.getD n 0=0 then R2 l n else n+1
def O8 (l:List Fr):List Fr:=l.take (R2 l l.length)

theorem C4h (l:List Fr):∀n,R2 l n<=n
 | 0=>Nat.le_refl _
 | n+1=>by
  show (if l.getD n 0=0 then R2 l n else n+1)<=n+1
  split
  ·exact Nat.le_succ_of_le (C4h l n)
  ·exact Nat.le_refl _

theorem A4c (l:List Fr):(O8 l).length=R2 l l.length:=by
 have:=C4h l l.length
 unfold O8;rw[List.length_take];omega

theorem F2b {α:Type} (f:α->Bool) (d:α) (l:List α) (i:Nat) (h:i<l.length):(l.drop i).any f=(f (l.getD i d) || (l.drop (i+1)).any f):=by
 rw[List.drop_eq_getElem_cons h,List.any_cons];simp [List.getD,h]

def A3t (ls:List (List U4)):Bool:=ls.any fun l=>decide (262144<l.length)
theorem F7o (ls:List (List U4)):FnD Tryz.prog 68 [.v (.c (.sl (.frs ls)))] (.v (.c (.bool (A3t ls)))) []:=by
 refine J3 (fn:=Tryz.f68) (c:=B9 Tryz.f68) Tryz.func68 rfl rfl fun x a hk hF hs=>?_
 have hl:ls.length<=maxLen:=G2o (q:=.frs ls) (hs.t 0);unfold maxLen at hl;refine I9e ls trivial hs fun ac cY aY hs1=>?_
 refine E6 (ι:={ i:Nat // i<=ls.length∧A3t ls=A3t (ls.drop i) }) (fun i=>lgS ls ls.length i.1) (fun i=>ls.length-i.1) (c:=lpC A9n) (k:=lpR A9n) (by kernel_rfl) (fun i ih ac cY aY hs=>?_) ⟨0,Nat.zero_le _,rfl⟩ hs1
 obtain ⟨i,hi,he⟩:=i;simp only at ih hs
 by_cases h:i<ls.length
 ·have hd:=F2b (fun l:List U4=>decide (262144<l.length)) [] ls i h
  by_cases hg:262144<(ls.getD i []).length
  ·refine H2 A2g hk hF (G8l ls ls.length i) ⟨by simp [h],by omega,by omega,by rw[Int.toNat_natCast,decide_eq_true_eq];omega,trivial⟩ (fun y v hd' => ?_) hs
   rw[he];unfold A3t;rw[hd,decide_eq_true hg,Bool.true_or];exact Q4 rfl hd'
  ·refine lgN ls ls.length i ⟨by simp [h],by omega,by omega,by rw[Int.toNat_natCast,decide_eq_false_iff_not];omega,trivial⟩ hs fun ac cY aY hs2=>?_
   rw[C0 (by omega) (by omega)] at hs2
   refine ih ⟨i+1,by omega,?_⟩ (by show ls.length-(i+1)<ls.length-i;omega) ac cY aY (hs2.nx _)
   rw[he];unfold A3t;rw[hd,decide_eq_false hg,Bool.false_or]
 ·have e:i=ls.length:=by omega
  refine H2 A2g hk hF (G8k ls ls.length i) ⟨by simp [h],trivial⟩ (fun y v hd' => ?_) hs
  rw[he,e,List.drop_length];exact Q4 rfl hd'

theorem F6h (a:List U4) (hl0:a.length<=8796093022208):FnD Tryz.prog 67 [.v (.c (.sl (.fr a)))] (.v (.c (.slc 0 0 a.length 4))) [.sq (.s (a.map inF))]:=by
 refine J3 (fn:=Tryz.f67) (c:=B9 Tryz.f67) Tryz.func67 rfl rfl fun x a0 hk hF hs=>?_
 refine J0a a (by and_intros<;>first | trivial | decide | omega) hs fun ac cY aY hs1=>?_
 rw[Int.toNat_natCast] at hs1;refine E6 (ι:={ i:Nat // i<=a.length }) (fun i=>piS a a.length ((List.range i.1).map (fun i=>inF (a.getD i 0))++List.replicate (a.length-i.1) 0) i.1) (fun i=>a.length-i.1) (c:=lpC B5p) (k:=lpR B5p) (by kernel_rfl) (fun i ih ac cY aY hs=>?_) ⟨0,Nat.zero_le _⟩ hs1
 obtain ⟨i,hi⟩:=i;simp only at ih hs
 have hl:=D4y (fun i=>inF (a.getD i 0)) 0 hi
 by_cases h:i<a.length
 ·refine piN a a.length _ i ⟨by simp [h],by omega,by omega,by omega,by omega,rfl,by rw[hl];omega,trivial⟩ hs fun ac cY aY hs2=>?_
  rw[Int.toNat_natCast,D5a (fun i=>inF (a.getD i 0)) _ h,C0 (by omega) (by omega)] at hs2
  exact ih ⟨i+1,by omega⟩ (by show a.length-(i+1)<a.length-i;omega) ac cY aY (hs2.nx _)
 ·have e:i=a.length:=by omega
  rw[e,Nat.sub_self,List.replicate_zero,List.append_nil,E2j] at hs;exact H2 A2g hk hF (H0m a a.length _ a.length) ⟨by simp,trivial⟩ (fun y v hd=>hd) hs

theorem E2k {α β:Type} (g:α->β) (l:List α) (d:α) {n:Nat} (h:n<=l.length):(List.range n).map (fun i=>g (l.getD i d))=(l.take n).map g:=by
 apply List.ext_getElem
 ·simp;omega
 ·intro i h1 h2
  simp at h1
  simp [List.getD,show i<l.length from by omega]

theorem F2i (a:List Fr) (hl0:a.length<=8796093022208):FnD Tryz.prog 66 [.v (.c (.sl (.s a)))] (.v (.c (.slc 0 0 (O8 a).length 4))) [.sq (.fr ((O8 a).map D5))]:=by
 rw[A4c];refine J3 (fn:=Tryz.f66) (c:=B9 Tryz.f66) Tryz.func66 rfl rfl fun x a0 hk hF hs=>?_
 refine I9z a trivial hs fun ac cY aY hs1=>?_
 refine E6 (ι:={ n:Nat // n<=a.length∧R2 a n=R2 a a.length }) (fun n=>pbS a n.1) (fun n=>n.1) (c:=lpC A6f) (k:=lpR A6f) (by kernel_rfl) (fun n ih ac cY aY hs=>?_) ⟨a.length,Nat.le_refl _,rfl⟩ hs1
 obtain ⟨n,hn,he⟩:=n;simp only at ih hs
 -- from the second loop on
 have key:R2 a a.length=n->∀ac cY aY,Sim x.w x.F V9 ac (pbT a n (List.replicate n 0) 0) cY aY->Wq Tryz.prog (D3t Tryz.prog Tryz.f66 x (.v (.c (.slc 0 0 (R2 a a.length) 4))) [.sq (.fr ((O8 a).map D5))]) B7d ac .normal aY cY.w:=by
  intro hN ac cY aY hs;have hs:Sim x.w x.F V9 ac (pbT a n ((List.range 0).map (fun i=>D5 (a.getD i 0))++List.replicate (n-0) 0) 0) cY aY:=hs
  refine E6 (ι:={ i:Nat // i<=n }) (fun i=>pbT a n ((List.range i.1).map (fun i=>D5 (a.getD i 0))++List.replicate (n-i.1) 0) i.1) (fun i=>n-i.1) (c:=lpC B7d) (k:=lpR B7d) (by kernel_rfl) (fun i ih ac cY aY hs=>?_) ⟨0,Nat.zero_le _⟩ hs
  obtain ⟨i,hi⟩:=i;simp only at ih hs
  have hl:=D4y (fun i=>D5 (a.getD i 0)) 0 hi
  by_cases h:i<n
  ·refine pbM a n _ i ⟨by simp [h],by omega,by omega,by omega,by omega,rfl,by rw[hl];omega,trivial⟩ hs fun ac cY aY hs2=>?_
   rw[Int.toNat_natCast,D5a (fun i=>D5 (a.getD i 0)) _ h,C0 (by omega) (by omega)] at hs2
   exact ih ⟨i+1,by omega⟩ (by show n-(i+1)<n-i;omega) ac cY aY (hs2.nx _)
  ·have e:i=n:=by omega
   unfold O8;rw[e,Nat.sub_self,List.replicate_zero,List.append_nil,E2k _ _ _ hn] at hs;rw[hN];exact H2 A2g hk hF (H0j a n _ n) ⟨by simp,trivial⟩ (fun y v hd=>hd) hs
 by_cases h0:n=0
 ·refine pbC a n (by and_intros<;>first | trivial | decide | omega | (simp only[decide_eq_false_iff_not];omega)) hs fun ac cY aY hs2=>?_
  rw[Int.toNat_natCast] at hs2;exact key (by rw[<-he,h0];rfl) ac cY aY (hs2.nx _)
 ·obtain ⟨m,rfl⟩:∃m,n=m+1:=⟨n-1,by omega⟩
  have hw:wrap IntKind.i64 (((m+1:Nat):Int)-1)=(m:Int):=by rw[C0 (by omega) (by omega)];omega
  have hT:R2 a (m+1)=if a.getD m 0=0 then R2 a m else m+1:=rfl
  by_cases hz:a.getD m 0=0
  ·refine pbN a (m+1) (by rw[hw];exact ⟨by simp only[decide_eq_true_eq];omega,by omega,by omega,by rw[Int.toNat_natCast,decide_eq_true hz],trivial⟩) hs fun ac cY aY hs2=>?_
   rw[hw] at hs2;exact ih ⟨m,by omega,by rw[<-he,hT,if_pos hz]⟩ (Nat.lt_succ_self m) ac cY aY (hs2.nx _)
  ·refine pbB a (m+1) (by rw[hw];exact ⟨by simp only[decide_eq_true_eq];omega,by omega,by omega,by rw[Int.toNat_natCast,decide_eq_false hz],by omega,rfl,by omega,by omega,trivial⟩) hs fun ac cY aY hs2=>?_
   rw[Int.toNat_natCast] at hs2;exact key (by rw[<-he,hT,if_neg hz]) ac cY aY (hs2.nx _)

end S4

namespace S4

theorem B6x (x:Fr):0*x=0:=Fin.zero_mul x
theorem D5i (x:Fr):x+0=x:=Fin.add_zero x
def cf (l:List Fr) (i:Nat):Fr:=l.getD i 0

theorem F2w {l:List Fr} {i:Nat} (h:l.length<=i):cf l i=0:=by simp [cf,List.getD,h]

theorem C4i (l:List Fr):∀n i,R2 l n<=i->i<n->cf l i=0
 | 0,i,_,h=>by omega
 | n+1,i,h1,h2=>by
  have e:R2 l (n+1)=if l.getD n 0=0 then R2 l n else n+1:=rfl
  rw[e] at h1;split at h1
  ·rename_i hz
   by_cases hi:i=n
   ·subst hi;exact hz
   ·exact C4i l n i h1 (by omega)
  ·omega

theorem C4g (l:List Fr):∀n,R2 l n=0∨cf l (R2 l n-1)≠0
 | 0=>.inl rfl
 | n+1=>by
  have e:R2 l (n+1)=if l.getD n 0=0 then R2 l n else n+1:=rfl
  rw[e];split
  ·exact C4g l n
  ·rename_i h;exact .inr h

theorem B6g (l:List Fr) (i:Nat) (h:R2 l l.length<=i):cf l i=0:=by
 by_cases hi:i<l.length
 ·exact C4i l _ i h hi
 ·exact F2w (by omega)

theorem G5e (l:List Fr) (k i:Nat):cf (l.take k) i=if i<k then cf l i else 0:=by
 unfold cf;by_cases h:i<k
 ·simp [List.getD,h]
 ·simp [List.getD,List.getElem?_take,h]

theorem E7l (l:List Fr) (i:Nat):cf (O8 l) i=cf l i:=by
 unfold O8;rw[G5e];split
 ·rfl
 ·rw[B6g l i (by omega)]

theorem H2n (l:List Fr):(O8 l).length<=l.length:=by rw[A4c];exact C4h _ _
/-- The first n coefficients' share of the value at a place, powers of which are told. -/
def evF (f g:Nat->Fr):Nat->Fr
 | 0=>0
 | n+1=>evF f g n+f n*g n
theorem C0f (f g:Nat->Fr) {m:Nat} (h:∀i,m<=i->f i=0):∀n,m<=n->evF f g n=evF f g m
 | 0,hn=>by rw[Nat.le_zero.1 hn]
 | n+1,hn=>by
  by_cases e:m=n+1
  ·rw[e]
  ·show evF f g n+f n*g n=_
   rw[h n (by omega),B6x,D5i]
   exact C0f f g h n (by omega)
end S4

namespace S4
section
variable {w0:World} {F0:Nat->Prop} {K:Kp} {ac:List Act} {Q:Exit->Act->World->Prop} {cX:Ctx} {aX:Act}

theorem E3q {x:Ctx} {q:Sq} (hq:q.n=0) {v:Value} (h:B8 x (.v (.c (.val (.slice none 0 0)))) v):B8 x (.v (.c (.sl q))) v:=by
 have e:=(A0x h).1;subst e;exact ⟨rfl,1,.inl ⟨none,0,rfl,hq⟩⟩
def C1u:B2
 | [.v (.c (.sl (.frs ls)))]=>some ([],.v (.c (.bool (A3t ls))),[])
 | _=>none
def hA:Env:=gL.set (C6 gL.fn 68 C1u)
theorem I4y:A9 Tryz.prog hA:=A8 A2g 68 C1u (A4 Tryz.func68 rfl rfl) fun args o r es h _=>by
 unfold C1u at h;split at h
 ·cases h;exact F7o _
 ·cases h
def F6e:B2
 | [.v (.c (.sl (.fr a)))]=>some ([a.length<=8796093022208],.v (.c (.slc 0 0 a.length 4)),[.sq (.s (a.map inF))])
 | [.v (.c (.val (.slice none 0 0)))]=>some ([],.v (.c (.slc 0 0 0 4)),[.sq (.s [])])
 | _=>none
def hB:Env:=hA.set (C6 hA.fn 67 F6e)
theorem I4z:A9 Tryz.prog hB:=A8 I4y 67 F6e (A4 Tryz.func67 rfl rfl) fun args o r es h ho=>by
 unfold F6e at h;split at h
 ·cases h;exact F6h _ ho.1
 ·cases h
  refine (F6h [] (by decide)).conv (fun x vs hd=>?_) (fun _ _ h=>h)
  cases hd with | cons ha hd=>
  cases hd
  exact .cons (E3q rfl ha) .nil
 ·cases h
def B9a:B2
 | [.v (.c (.sl (.s a)))]=>some ([a.length<=8796093022208],.v (.c (.slc 0 0 (O8 a).length 4)),[.sq (.fr ((O8 a).map D5))])
 | _=>none
def hC:Env:=hB.set (C6 hB.fn 66 B9a)
theorem C1k:A9 Tryz.prog hC:=A8 I4z 66 B9a (A4 Tryz.func66 rfl rfl) fun args o r es h ho=>by
 unfold B9a at h;split at h
 ·cases h;exact F2i _ ho.1
 ·cases h
theorem I7n (a:List U4):let b:=List.map S4.inF a;B5 hC Tryz.f31 3000 [.v (.c (.sl (.fr a)))] [] [64] []=(some ([(a.length<=8796093022208),(0=0),(a.length=b.length),(4=4),(b.length<=8796093022208)],((.ci (.slc 0 0 (S4.O8 b).length 4)),[(.sq (.fr (List.map S4.D5 (S4.O8 b))))]))):=by intros;kernel_rfl
def B4b:List KI:=(run hC false 3000 (⟨[.code (B9 Tryz.f65)],.normal,D7 Tryz.f65.ntmps [.v (.c (.sl (.fr dF))),.v (.a [.ob (.fr dF)])]⟩:Cfg) [false]).cfg.k
theorem I8d (a:List U4) (z:U4):B1 [(0=0),(1=1),(1=1),((S4.A3t [a])=false),(a.length<=8796093022208)]->Sg Tryz.prog (D7 Tryz.f65.ntmps [.v (.c (.sl (.fr a))),.v (.a [.ob (.fr z)])]) (B0 44 [5,7,8,9,10] [.pt 48 0,(.ci (.slc 144 0 a.length 4)),.pt 192 0,.pt 240 0,(.ii (wrap .i64 ((a.length:Int)-1)))] [48,144,192,240] [(eF_ [(.ob (.fr (0:U4)))]),(eQ_ (.s (List.map S4.inF a))),(eF_ [(.ob (.s (S4.inF z)))]),(eF_ [(.ob (.s (0:Fr)))])] 320 [] []) .normal (B4b) ([.code (B9 Tryz.f65)]):=sgA false 3000 [false] C1k
def blS (l:List Fr) (z w:Fr) (N:Nat) (i :Int):St:=B0 44 [5,7,8,9,10] [.pt 48 0,.v (.c (.slc 144 0 N 4)),.pt 192 0,.pt 240 0,.v (.c (.int .i64 i))] [48,144,192,240] [(eF_ [(.ob (.fr (0:U4)))]),some (.sq (.s l)),some (.fl [.ob (.s z)]),some (.fl [.ob (.s w)])] 320 [] []
theorem blN (l:List Fr) (z w:Fr) (N:Nat) (i:Int):let a:=(i).toNat<l.length;let b:=i<((N:Nat):Int);B1 [((decide (i >= (0:Int)))=true),(0<=i),b,(0=0),a,(0<=i),b,(0=0),a]->Sg Tryz.prog (blS l z w N i) (B0 44 [5,7,8,9,10] [.pt 48 0,(.ci (.slc 144 0 N 4)),.pt 192 0,.pt 240 0,(.ii (wrap .i64 (i-1)))] [48,144,192,240] [(eF_ [(.ob (.fr (0:U4)))]),(eQ_ (.s (List.set l (i).toNat w))),(eF_ [.ob (.s z)]),(eF_ [(.ob (.s ((w*z)+(l.getD i.toNat 0))))])] 672 [] []) .normal (M7 B4b) (E8 B4b):=sgA false 3000 [true] C1k
theorem G4x (l:List Fr) (z w:Fr) (N:Nat) (i:Int):G5 hC Tryz.f65 false 3000 (⟨E8 B4b,.normal,blS l z w N i⟩) [false] [368] []=(some ([((decide (i >= (0:Int)))=false),(0=0),(N=l.length),(4=4),(l.length<=8796093022208)],((.t [(.c (.slc 0 0 (S4.O8 l).length 4)),(.a [(.ob (.fr (S4.D5 w)))]),(.c (.int .i64 (0:Int)))]),[(.sq (.fr (List.map S4.D5 (S4.O8 l))))]))):=by kernel_rfl
def B4a:List KI:=(run hC false 3000 (⟨[.code (B9 Tryz.f32)],.normal,D7 Tryz.f32.ntmps [.v (.c (.sl (.fr dF))),.v (.a [.ob (.fr dF)])]⟩:Cfg) [false]).cfg.k
theorem I8c (a:List U4) (z:U4):B1 [(0=0),(1=1),(1=1),((S4.A3t [a])=false)]->Sg Tryz.prog (D7 Tryz.f32.ntmps [.v (.c (.sl (.fr a))),.v (.a [.ob (.fr z)])]) (B0 33 [0,4,6,7,8] [(.ci (.sl (.fr a))),.pt 32 0,.pt 112 0,.pt 160 0,(.ii (wrap .i64 ((a.length:Int)-1)))] [32,112,160] [(eF_ [(.ob (.fr (0:U4)))]),(eF_ [(.ob (.s (0:Fr)))]),(eF_ [(.ob (.s (S4.inF z)))])] 256 [] []) .normal (B4a) ([.code (B9 Tryz.f32)]):=sgA false 3000 [false] C1k
def atS (a:List U4) (z w:Fr) (i :Int):St:=B0 33 [0,4,6,7,8] [(.ci (.sl (.fr a))),.pt 32 0,.pt 112 0,.pt 160 0,.v (.c (.int .i64 i))] [32,112,160] [(eF_ [(.ob (.fr (0:U4)))]),some (.fl [.ob (.s w)]),some (.fl [.ob (.s z)])] 256 [] []
theorem atN (a:List U4) (z w:Fr) (i:Int):B1 [((decide (i >= (0:Int)))=true),(0<=i),(i<(a.length:Int))]->Sg Tryz.prog (atS a z w i) (B0 33 [0,4,6,7,8] [(.ci (.sl (.fr a))),.pt 32 0,.pt 112 0,.pt 160 0,(.ii (wrap .i64 (i-1)))] [32,112,160] [(eF_ [(.ob (.fr (0:U4)))]),(eF_ [(.ob (.s ((w*z)+(S4.inF (a.getD i.toNat 0)))))]),(eF_ [.ob (.s z)])] 496 [] []) .normal (M7 B4a) (E8 B4a):=sgA false 3000 [true] C1k
theorem G4u (a:List U4) (z w:Fr) (i:Int):G5 hC Tryz.f32 false 3000 (⟨E8 B4a,.normal,atS a z w i⟩) [false] [] []=(some ([((decide (i >= (0:Int)))=false)],((.t [(.a [(.ob (.fr (S4.D5 w)))]),(.c (.int .i64 (0:Int)))]),[]))):=by kernel_rfl
end
end S4

namespace S4

theorem G3l (a:List U4) (h:a.length<=8796093022208):FnD Tryz.prog 31 [.v (.c (.sl (.fr a)))] (.v (.c (.slc 0 0 (O8 (a.map inF)).length 4))) [.sq (.fr ((O8 (a.map inF)).map D5))]:=
 A5 C1k Tryz.func31 (I7n a) ⟨h,rfl,by simp,rfl,by simpa using h,trivial⟩
def K5 (z:Fr):List Fr->List Fr×Fr
 | []=>([],0)
 | c::l=>((K5 z l).2::(K5 z l).1,(K5 z l).2*z+c)

theorem C0a (z:Fr):∀l,(K5 z l).1.length=l.length
 | []=>rfl
 | c::l=>by show (K5 z l).1.length+1=l.length+1;rw[C0a z l]

theorem F3z {r:Nat} [NeZero r] (q z c:Fin r):q*(0-z)+0+(q*z+c)=c:=by grind
theorem F4a {r:Nat} [NeZero r] (a b z c:Fin r) (h:a*(0-z)+0+b=c):a*(0-z)+b+0=c:=by grind

theorem C9h (z:Fr):∀(l:List Fr) (i:Nat),cf (K5 z l).1 i*(0-z)+(if 1<=i then cf (K5 z l).1 (i-1) else 0)+(if i=0 then (K5 z l).2 else 0)=cf l i
 | [],i=>by
  have e:∀j,cf (K5 z []).1 j=0:=fun j=>rfl
  have e2:(K5 z []).2=0:=rfl;have e3:cf [] i=0:=rfl;rw[e,e,e2,e3,B6x];split<;>split<;>rfl
 | c::l,0=>by
  have e:cf (K5 z (c::l)).1 0=(K5 z l).2:=rfl;rw[e,if_neg (by decide),if_pos rfl]
  exact F3z _ _ _
 | c::l,i+1=>by
  have ih:=C9h z l i;have e:cf (K5 z (c::l)).1 (i+1)=cf (K5 z l).1 i:=rfl;have e2:cf (c::l) (i+1)=cf l i:=rfl;rw[e,e2,if_pos (by omega),if_neg (by omega),Nat.add_sub_cancel]
  cases i with
  | zero=>
   rw[if_neg (by decide),if_pos rfl] at ih
   exact F4a _ _ _ _ ih
  | succ j=>
   rw[if_pos (by omega),if_neg (by omega),Nat.add_sub_cancel] at ih
   exact ih
theorem B9z (z:Fr) (L:List Fr) (m:Nat) (h:m<L.length):K5 z (L.drop m)=((K5 z (L.drop (m+1))).2::(K5 z (L.drop (m+1))).1,(K5 z (L.drop (m+1))).2*z+L.getD m 0):=by
 rw[List.drop_eq_getElem_cons h];have e:L.getD m 0=L[m]:=by simp [List.getD,h]
 rw[e];rfl

theorem C8u (a:List U4) (z:U4) (ha:a.length<=262144):FnD Tryz.prog 65 [.v (.c (.sl (.fr a))),.v (.a [.ob (.fr z)])]
  (.t [.c (.slc 0 0 (O8 (K5 (inF z) (a.map inF)).1).length 4),.a [.ob (.fr (D5 (K5 (inF z) (a.map inF)).2))],.c (.int .i64 0)]) [.sq (.fr ((O8 (K5 (inF z) (a.map inF)).1).map D5))]:=by
 refine J3 (fn:=Tryz.f65) (c:=B9 Tryz.f65) Tryz.func65 rfl rfl fun x a0 hk hF hs=>?_
 have hlong:A3t [a]=false:=by simp [A3t];omega
 refine I8d a z ⟨rfl,rfl,rfl,hlong,by omega,trivial⟩ hs fun ac cY aY hs1=>?_
 rw[C0 (by omega) (by omega)] at hs1
 have hlen:(a.map inF).length=a.length:=List.length_map ..;generalize a.map inF=L at hs1 hlen ⊢
 rw[<-hlen] at hs1;have hla:L.length<=262144:=by omega
 clear hlen hlong ha;refine E6 (ι:={ m:Nat // m<=L.length }) (fun m=>blS (L.take m.1++(K5 (inF z) (L.drop m.1)).1) (inF z) (K5 (inF z) (L.drop m.1)).2 L.length ((m.1:Int)-1)) (fun m=>m.1) (c:=lpC B4b) (k:=lpR B4b) (by kernel_rfl) (fun m ih ac cY aY hs=>?_)
  ⟨L.length,Nat.le_refl _⟩ (by simp only[List.take_length,List.drop_length];show Sim _ _ _ _ (blS (L++[]) (inF z) 0 L.length ((L.length:Int)-1)) cY aY;rw[List.append_nil];exact hs1.nx _)
 obtain ⟨m,hm⟩:=m;simp only at ih hs
 have hll:(L.take m++(K5 (inF z) (L.drop m)).1).length=L.length:=by rw[List.length_append,C0a,List.length_take,List.length_drop];omega
 cases m with
 | zero=>
  rw[List.take_zero,List.nil_append,List.drop_zero] at hs hll;refine H2 C1k hk hF (G4x _ _ _ _ _) ⟨by simp only[decide_eq_false_iff_not];omega,rfl,hll.symm,rfl,by omega,trivial⟩ (fun y v hd=>hd) hs
 | succ m=>
  have hmi:((m+1:Nat):Int)-1=(m:Int):=by omega
  rw[hmi] at hs;refine blN _ _ _ _ _ ⟨by simp only[decide_eq_true_eq];omega,by omega,by omega,rfl,by omega,by omega,by omega,rfl,by omega,trivial⟩ hs fun ac cY aY hs2=>?_
  rw[C0 (by omega) (by omega),Int.toNat_natCast] at hs2
  have hg:(L.take (m+1)++(K5 (inF z) (L.drop (m+1))).1).getD m 0=L.getD m 0:=by
   have h1:m<(L.take (m+1)).length:=by rw[List.length_take];omega
   unfold List.getD;rw[List.getElem?_append_left h1,List.getElem?_take_of_lt (Nat.lt_succ_self m)]
  have hset:(L.take (m+1)++(K5 (inF z) (L.drop (m+1))).1).set m (K5 (inF z) (L.drop (m+1))).2=L.take m++(K5 (inF z) (L.drop m)).1:=by
   rw[B9z _ _ _ (show m<L.length from by omega),List.take_succ_eq_append_getElem (show m<L.length from by omega),List.append_assoc,List.set_append_right _ _ (by rw[List.length_take];omega)]
   rw[List.length_take,Nat.min_eq_left (by omega),Nat.sub_self]
   rfl
  have hw2:(K5 (inF z) (L.drop m)).2=(K5 (inF z) (L.drop (m+1))).2*inF z+L.getD m 0:=by rw[B9z _ _ _ (show m<L.length from by omega)]
  rw[hg,hset,<-hw2] at hs2;exact ih ⟨m,by omega⟩ (Nat.lt_succ_self m) ac cY aY (hs2.nx _)

theorem G7g (a:List U4) (i:Nat) (h:i<a.length):(a.map inF).getD i 0=inF (a.getD i 0):=by simp [List.getD,h]
theorem H4f (a:List U4) (z:U4) (ha:A3t [a]=false):FnD Tryz.prog 32 [.v (.c (.sl (.fr a))),.v (.a [.ob (.fr z)])] (.t [.a [.ob (.fr (D5 (K5 (inF z) (a.map inF)).2))],.c (.int .i64 0)]) []:=by
 have hla:a.length<=262144:=by simpa [A3t] using ha
 refine J3 (fn:=Tryz.f32) (c:=B9 Tryz.f32) Tryz.func32 rfl rfl fun x a0 hk hF hs=>?_
 refine I8c a z ⟨rfl,rfl,rfl,ha,trivial⟩ hs fun ac cY aY hs1=>?_
 rw[C0 (by omega) (by omega)] at hs1
 refine E6 (ι:={ m:Nat // m<=a.length }) (fun m=>atS a (inF z) (K5 (inF z) ((a.map inF).drop m.1)).2 ((m.1:Int)-1)) (fun m=>m.1) (c:=lpC B4a) (k:=lpR B4a) (by kernel_rfl) (fun m ih ac cY aY hs=>?_)
  ⟨a.length,Nat.le_refl _⟩ (by
   have e:(a.map inF).drop a.length=[]:=List.drop_eq_nil_of_le (by rw[List.length_map];exact Nat.le_refl _)
   simp only[e];exact hs1.nx _)
 obtain ⟨m,hm⟩:=m;simp only at ih hs
 cases m with
 | zero=>
  rw[List.drop_zero] at hs;exact H2 C1k hk hF (G4u _ _ _ _) ⟨by simp only[decide_eq_false_iff_not];omega,trivial⟩ (fun y v hd=>hd) hs
 | succ m=>
  have hmi:((m+1:Nat):Int)-1=(m:Int):=by omega
  rw[hmi] at hs;refine atN _ _ _ _ ⟨by simp only[decide_eq_true_eq];omega,by omega,by omega,trivial⟩ hs fun ac cY aY hs2=>?_
  rw[C0 (by omega) (by omega),Int.toNat_natCast] at hs2
  have hw2:(K5 (inF z) ((a.map inF).drop m)).2=(K5 (inF z) ((a.map inF).drop (m+1))).2*inF z+inF (a.getD m 0):=by
   rw[B9z _ _ _ (show m<(a.map inF).length by rw[List.length_map];omega),G7g a m (by omega)]
  rw[<-hw2] at hs2;exact ih ⟨m,by omega⟩ (Nat.lt_succ_self m) ac cY aY (hs2.nx _)

end S4

end
end Go.Proofs.YtefimjofjjdndaaGreat
