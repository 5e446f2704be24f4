/- Parts of a proof, one behind the other: Rj, Lm, Mm, L6, Sz, Nl, Nr, Dg, Jt, Tb, Ms, Eo, Cp, Dk, Mv, Kyi, Ns, Rk, Rn, Dv, Ej. No conditions. -/
import Derived.Test.YtifiiigbedjceaaGreatTuH
open Go.IntKind (wrap)
namespace Go.Proofs.YtifiiigbedjceaaGreat
noncomputable section
section
section
variable {P:Program} {y:C0} {m:Nat->Option En} {p:Nat} {q:Sq}
theorem D6l{x:C0}{d:Nat}{v:Value}(h:F8 x d (.sl q) [v]):v.oneCell' = true:=by
 cases d with
 | zero=>simp [F8] at h
 | succ d=>
  simp only[F8,List.cons.injEq,and_true] at h;rcases h with ⟨a,cap,rfl,_⟩ | ⟨b,o,cap,rfl,_⟩<;>rfl
theorem B1w(h:P0 y m)(hp:m p=some (.fl [.sl q]))(hr:y.k p = .real):∃v,y.D (.sl q) [v]∧∀(cs:Array Value) ty,y.w.heap[y.β p]? = some (.cells cs ty (0,0))->C9 y (.fl [.sl q]) cs.toList->C9 (D5 y p) (.fl [.val v]) cs.toList:=by
 obtain ⟨cs,ty,hc,c1,c2,e,h1,h2⟩:=h.ent p _ hp hr;have h2:c2=[]:=h2;obtain ⟨v,hv⟩:∃v,c1=[v]:=by
  have:=AW h1
  match c1,this with
  | [v],_=>exact ⟨v,rfl⟩
 rw[hv] at h1;refine ⟨v,h1,fun cs' ty' hc' _=>?_⟩
 rw[hc] at hc'
 have hcs:cs=cs' := by injection hc' with hc';injection hc'
 rw[<-hcs,e,hv,h2];obtain ⟨d,h1⟩:=h1;exact ⟨[v],[],rfl,⟨0,rfl,D6l h1⟩,rfl⟩
theorem SH{y z:C0}(hg:y.w.grownBy z.w none)(hF:∀b,y.F b->z.F b)(hlt:∀b,y.F b->b<y.w.heap.size){i:It}{vs:List Value}(hi:F4 i=true)(h:y.D i vs):z.D i vs:=by
 have h1:(⟨y.w,y.F,fun _=>.no,y.β⟩:C0).D i vs:=Ez (x:=y) (y:=⟨y.w,y.F,fun _=>.no,y.β⟩) rfl (fun _ h=>h) hi h
 have hext:Ext ⟨y.w,y.F,fun _=>.no,y.β⟩ ⟨z.w,z.F,fun _=>.no,z.β⟩:=
  ⟨hg.size,fun b hb=>⟨hF b hb,hg.block b (hlt b hb) (fun e=>by cases e)⟩,fun p hp=>absurd rfl hp,fun p hp=>(by cases hp),fun p hp=>(by cases hp)⟩
 exact Ez (x:=⟨z.w,z.F,fun _=>.no,z.β⟩) (y:=z) rfl (fun _ h=>h) hi (WM hext _ _ h1)
def A3d(x:C0):List SV->List SV->Prop
 | [],[]=>True
 | s::l,s' :: l' => (∀v,B8 x s v->B8 x s' v)∧A3d x l l'
 | _,_=>False
theorem Le{x:C0}:∀{tl:List Nat} {svs svs' : List SV},A3d x svs svs' -> ∀j v,B8 x (C7 .top tl svs j) v->B8 x (C7 .top tl svs' j) v
 | [],_,_,_,_,_,_=>trivial
 | _::_,[],[],_,_,_,_=>trivial
 | _::_,[],_::_,h,_,_,_=>h.elim
 | _::_,_::_,[],h,_,_,_=>h.elim
 | t::tl,s::l,s' :: l',h,j,v,hd=>by
  simp only[C7] at hd ⊢
  by_cases hj:j=t
  ·simp only[hj,if_true] at hd ⊢;exact h.1 v hd
  ·simp only[hj,if_false] at hd ⊢;exact Le h.2 j v hd
theorem Sim.slots{w0:World}{F0:Nat->Prop}{K:Kp}{as:List Act}{nt nx:Nat}{tl:List Nat}{svs svs' : List SV}{ml:List Nat}{ens:List (Option En)}{ftl:List (List Nat)}{fsv:List (List SV×Nat)}{x:C0}{a:Act}
  (hs:Sim w0 F0 K as (B0 nt tl svs ml ens nx ftl fsv) x a) (h:A3d x svs svs'):Sim w0 F0 K as (B0 nt tl svs' ml ens nx ftl fsv) x a:=
 ⟨hs.defers,hs.nt,fun t=>Le h t _ (hs.t t),hs.mem,hs.base,hs.frs⟩
theorem WY{x:C0}{v:Value}{i:It}(hi:i.size=1)(h:x.D i [v]):∀u,B8 x (.v (.c (.val v))) u->B8 x (.v (.c i)) u:=by
 intro u hu;rw[(U0 hu).1];exact ⟨hi,h⟩
theorem B3m{f:Nat}{args:List SV}{r:SV}(h:∀(x:C0) (vs:List Value),J7 x args vs->∃v,Calls P f vs.toArray x.w (fun e w' => e = .returned v∧w' = x.w)∧B8 x r v):K2 P f args r []:=by
 intro x vs hk hF hd;obtain ⟨v,hc,hv⟩:=h x vs hd;refine hc.mono fun e w' he=>?_
 obtain ⟨rfl,rfl⟩:=he;refine ⟨v,x,rfl,rfl,Tr.refl ⟨fun p=>⟨fun _=>hk p,fun _=>rfl⟩,fun p l hp=>(by cases hp),fun p s hp=>(by cases hp),fun p e hp=>(by cases hp),fun p q hp=>?_,fun p hp=>?_,hF⟩,hv⟩
 ·rw[hk p] at hp;cases hp
 ·rw[hk p] at hp;cases hp
def RF(x:C0)(r:SV)(es:List En):Ending->World->Prop:=fun e w' => ∃v y,e = .returned v∧y.w=w' ∧ Tr x none y (fun p=>es[p]?)∧B8 y r v
theorem BY{f:Nat}{fn:Func}{c:Code}{args:List SV}{r:SV}{es:List En}(hf:P.funcs[f]? = some fn)(hb:fn.body=some c)(hlen:Nat.ble args.length fn.ntmps=true)
  (h:∀(x:C0) (a:Act),(∀p,x.k p = .no)->(∀b,x.F b->b<x.w.heap.size)->Sim x.w x.F AD [] (D2 fn.ntmps args) x a->Wq P (bodyPostM Fence.wide 0 P fn (RF x r es)) [.code c] [] .normal a x.w):K2 P f args r es:=by
 intro x vs hk hF hden;exact IL hf hb (h x _ hk hF (UY (Nat.le_of_ble_eq_true hlen) hk hF hden))
theorem Ec{env:D6}(hE:A7 P env){fn:Func}{x0:C0}(hk:∀p,x0.k p = .no)(hF:∀b,x0.F b->b<x0.w.heap.size){unroll:Bool}{n:Nat}{path:List Bool}{ps fz:List Nat}{ob:List Prop}{r rr:SV}{es:List En}{D:Nat}{y:C0}{a0:Act}{σ1 σ2:St}{as0 as:List Act}{z:C0}{b:Act}
  (h:E2 env fn unroll n ⟨[],.ret,σ2⟩ path ps fz=some (ob,r,es)) (ho:A5 ob) (hconv:∀y v,B8 y r v->B8 y rr v)
  (h1:Sim x0.w x0.F AD as0 σ1 y a0) (hD:x0.w.heap.size<=D) (hFD:¬y.F D) (hd:y.w.heap[D]? = some (.deferred (some []))) (hfr:σ2.fr=[])
  (g:Sim y.w y.F (BM y AD (AK D)) as σ2 z b):bodyPostM Fence.wide 0 P fn (RF x0 rr es) .ret b z.w:=by
 obtain ⟨g1,g2,g3⟩:=h1.unmark rfl hD hFD hd hfr g;refine OJ g1 g2 (.inl rfl) ?_
 exact (H4 hE hk hF h ho hconv g3).wp
end
end
section
theorem F6{x y c:Int}(hx:0<=x)(hx1:x<18446744073709551616)(hy:0<=y)(hy1:y<18446744073709551616)(hc:0<=c)(hc1:c<=1) :
  (A3 1 x y c).1=x-y-c+18446744073709551616*(A3 1 x y c).2∧0<=(A3 1 x y c).1∧(A3 1 x y c).1<18446744073709551616∧0<=(A3 1 x y c).2∧(A3 1 x y c).2<=1:=by
 show (x-y-c) % 18446744073709551616=x-y-c+18446744073709551616*(if x<y+c then 1 else 0)∧0<=(x-y-c) % 18446744073709551616∧(x-y-c) % 18446744073709551616<18446744073709551616∧0<=(if x<y+c then (1:Int) else 0)∧(if x<y+c then (1:Int) else 0)<=1
 split<;>omega
theorem G1{x y c:Int}(hx:0<=x)(hx1:x<18446744073709551616)(hy:0<=y)(hy1:y<18446744073709551616)(hc:0<=c)(hc1:c<=1) :
  x+y+c=(A3 0 x y c).1+18446744073709551616*(A3 0 x y c).2∧0<=(A3 0 x y c).1∧(A3 0 x y c).1<18446744073709551616∧0<=(A3 0 x y c).2∧(A3 0 x y c).2<=1:=by
 show x+y+c=(x+y+c) % 18446744073709551616+18446744073709551616*((x+y+c) / 18446744073709551616)∧_;refine ⟨by omega,?_,?_,?_,?_⟩<;>(simp only[A3];omega)
theorem QJ{x y:Int}(hx:0<=x)(hx1:x<18446744073709551616)(hy:0<=y)(hy1:y<18446744073709551616):0<=x*y∧x*y<=340282366920938463426481119284349108225:=by
 refine ⟨Int.mul_nonneg hx hy,?_⟩
 have:x*y<=18446744073709551615*18446744073709551615:=Int.mul_le_mul (by omega) (by omega) hy A4
 omega
theorem AH{n:Nat}{a b c d:Int}(ha:0<=a)(ha1:a<18446744073709551616)(hb:0<=b)(hb1:b<18446744073709551616)(hc:0<=c)(hc1:c<18446744073709551616)(hd:0<=d)(hd1:d<18446744073709551616)
  (e:(n:Int)=a+18446744073709551616*b+340282366920938463463374607431768211456*c+6277101735386680763835789423207666416102355444464034512896*d):A1 n 0=a∧A1 n 1=b∧A1 n 2=c∧A1 n 3=d:=by
 have h0:A1 n 0=((n / 1 % 18446744073709551616:Nat):Int):=rfl;have h1:A1 n 1=((n / 18446744073709551616 % 18446744073709551616:Nat):Int):=rfl;have h2:A1 n 2=((n / 340282366920938463463374607431768211456 % 18446744073709551616:Nat):Int):=rfl;have h3:A1 n 3=((n / 6277101735386680763835789423207666416102355444464034512896 % 18446744073709551616:Nat):Int):=rfl;rw[h0,h1,h2,h3];omega
theorem Bd(n:Nat)(h:n<B4):(n:Int)=A1 n 0+18446744073709551616*A1 n 1+340282366920938463463374607431768211456*A1 n 2+6277101735386680763835789423207666416102355444464034512896*A1 n 3 ∧
  0<=A1 n 0∧A1 n 0<18446744073709551616∧0<=A1 n 1∧A1 n 1<18446744073709551616∧0<=A1 n 2∧A1 n 2<18446744073709551616∧0<=A1 n 3∧A1 n 3<18446744073709551616:=by
 have h0:A1 n 0=((n / 1 % 18446744073709551616:Nat):Int):=rfl;have h1:A1 n 1=((n / 18446744073709551616 % 18446744073709551616:Nat):Int):=rfl;have h2:A1 n 2=((n / 340282366920938463463374607431768211456 % 18446744073709551616:Nat):Int):=rfl;have h3:A1 n 3=((n / 6277101735386680763835789423207666416102355444464034512896 % 18446744073709551616:Nat):Int):=rfl;unfold B4 at h;rw[h0,h1,h2,h3];omega
theorem Jn{x:C0}{o:Ob}(hk:o.k=4){a b c d:Int}(h:A1 o.n 0=a∧A1 o.n 1=b∧A1 o.n 2=c∧A1 o.n 3=d){v:Value}
  (hd:B8 x (.v (.a [.int .u64 a,.int .u64 b,.int .u64 c,.int .u64 d])) v):B8 x (.v (.a [.ob o])) v:=by
 obtain ⟨cs,e,hc⟩:=hd;refine ⟨cs,e,cs,[],(List.append_nil cs).symm,⟨0,?_⟩,rfl⟩
 obtain ⟨c1,r1,e1,⟨d1,h1⟩,c2,r2,e2,⟨d2,h2⟩,c3,r3,e3,⟨d3,h3⟩,c4,r4,e4,⟨d4,h4⟩,h5⟩:=hc;have h1:c1=[.int .u64 a]:=by cases d1<;>exact h1
 have h2:c2=[.int .u64 b]:=by cases d2<;>exact h2
 have h3:c3=[.int .u64 c]:=by cases d3<;>exact h3
 have h4:c4=[.int .u64 d]:=by cases d4<;>exact h4
 have h5:r4=[]:=h5;show cs=o.cells;subst h1 h2 h3 h4 h5 e4 e3 e2 e1;unfold Ob.cells;rw[hk];show _=[Value.int .u64 (A1 o.n 0),Value.int .u64 (A1 o.n 1),Value.int .u64 (A1 o.n 2),Value.int .u64 (A1 o.n 3)];rw[h.1,h.2.1,h.2.2.1,h.2.2.2];rfl
theorem A5h{x:C0}{o o' : Ob}(hk:o.k=o'.k)(hn:o.n=o'.n){v:Value}(hd:B8 x (.v (.a [.ob o])) v):B8 x (.v (.a [.ob o'])) v:=by
 obtain ⟨cs,e,c1,r1,e1,⟨d1,h1⟩,h2⟩:=hd;have h1:c1=o.cells:=by cases d1<;>exact h1
 have h2:r1=[]:=h2;refine ⟨cs,e,cs,[],(List.append_nil cs).symm,⟨0,?_⟩,rfl⟩
 show cs=o'.cells;rw[e1,h1,h2,List.append_nil];unfold Ob.cells;rw[hk,hn]
def VZ:Nat:=12549076656233958353659347336803947287922716146853412054870763148006372261952
def RR(n:Nat):Fr:=Fin.ofNat rN (n*VZ)
theorem B9p(n:Nat):(Ob.s (RR n)).n=n % rN:=by
 show (n*VZ % rN)*B4 % rN=n % rN;rw[Nat.mod_mul_mod,Nat.mul_assoc];have e:VZ*B4 % rN=1:=by decide +kernel
 rw[<-Nat.mul_mod_mod,e,Nat.mul_one]
end
section
theorem Rz(n:Int):wrap IntKind.u64 n=n % 18446744073709551616:=rfl
theorem mac{x b t u:Int}(hx:0<=x)(hx1:x<18446744073709551616)(hb:0<=b)(hb1:b<18446744073709551616)(ht:0<=t)(ht1:t<18446744073709551616)(hu:0<=u)(hu1:u<18446744073709551616) :
    x*b+t+u=(A3 0 (A3 0 ((x*b) % 18446744073709551616) t 0).1 u 0).1+18446744073709551616*wrap IntKind.u64 (wrap IntKind.u64 ((x*b) / 18446744073709551616+(A3 0 ((x*b) % 18446744073709551616) t 0).2)+(A3 0 (A3 0 ((x*b) % 18446744073709551616) t 0).1 u 0).2) ∧
    (0<=(A3 0 (A3 0 ((x*b) % 18446744073709551616) t 0).1 u 0).1∧(A3 0 (A3 0 ((x*b) % 18446744073709551616) t 0).1 u 0).1<18446744073709551616) ∧
    (0<=wrap IntKind.u64 (wrap IntKind.u64 ((x*b) / 18446744073709551616+(A3 0 ((x*b) % 18446744073709551616) t 0).2)+(A3 0 (A3 0 ((x*b) % 18446744073709551616) t 0).1 u 0).2) ∧
     wrap IntKind.u64 (wrap IntKind.u64 ((x*b) / 18446744073709551616+(A3 0 ((x*b) % 18446744073709551616) t 0).2)+(A3 0 (A3 0 ((x*b) % 18446744073709551616) t 0).1 u 0).2)<18446744073709551616) ∧
    0<=(A3 0 ((x*b) % 18446744073709551616) t 0).1∧(A3 0 ((x*b) % 18446744073709551616) t 0).1<18446744073709551616:=by
  have hp:=QJ hx hx1 hb hb1;generalize x*b=p at *;obtain ⟨e1,a1,a1',c1,c1'⟩:=G1 (x:=p % 18446744073709551616) (y:=t) (c:=0) (by omega) (by omega) ht ht1 A4 A4
  generalize A3 0 (p % 18446744073709551616) t 0=o1 at *;obtain ⟨e2,a2,a2',c2,c2'⟩:=G1 (x:=o1.1) (y:=u) (c:=0) a1 a1' hu hu1 A4 A4;generalize A3 0 o1.1 u 0=o2 at *;rw[Rz,Rz];refine ⟨?_,⟨a2,a2'⟩,⟨?_,?_⟩,a1,a1'⟩<;>omega
theorem A8r{x b t:Int}(hx:0<=x)(hx1:x<18446744073709551616)(hb:0<=b)(hb1:b<18446744073709551616)(ht:0<=t)(ht1:t<18446744073709551616) :
  x*b+t=(A3 0 ((x*b) % 18446744073709551616) t 0).1+18446744073709551616*wrap IntKind.u64 ((x*b) / 18446744073709551616+(A3 0 ((x*b) % 18446744073709551616) t 0).2) ∧
  (0<=(A3 0 ((x*b) % 18446744073709551616) t 0).1∧(A3 0 ((x*b) % 18446744073709551616) t 0).1<18446744073709551616) ∧
  0<=wrap IntKind.u64 ((x*b) / 18446744073709551616+(A3 0 ((x*b) % 18446744073709551616) t 0).2)∧wrap IntKind.u64 ((x*b) / 18446744073709551616+(A3 0 ((x*b) % 18446744073709551616) t 0).2)<18446744073709551616:=by
 have hp:=QJ hx hx1 hb hb1;generalize x*b=p at *;obtain ⟨e1,a1,a1',c1,c1'⟩:=G1 (x:=p % 18446744073709551616) (y:=t) (c:=0) (by omega) (by omega) ht ht1 A4 A4
 generalize A3 0 (p % 18446744073709551616) t 0=o1 at *;rw[Rz];refine ⟨?_,⟨a1,a1'⟩,?_,?_⟩<;>omega
theorem XX{l q:Int}(hq:q=wrap IntKind.u64 (l*18446744069414584319)):(q*18446744069414584321+l) % 18446744073709551616=0:=by
 rw[Rz] at hq;omega
theorem B8w : (2 ^ (64*4):Nat)=B4:=by kernel_rfl
theorem Qa(X i:Nat):X % 2 ^ (64*(i+1))=X % 2 ^ (64*i)+2 ^ (64*i)*(X / 2 ^ (64*i) % 18446744073709551616):=by
 have h:(2:Nat) ^ (64*(i+1))=2 ^ (64*i)*18446744073709551616:=by
  rw[Nat.mul_add,Nat.pow_add]
 rw[h,Nat.mod_mul]
theorem XT{r B v x y T Q:Nat}(e:v*B % r=1 % r)(h:T*B=(x*B % r)*(y*B % r)+Q*r):T*v % r=x*y % r:=by
  have h1:T*B % r=(x*B)*(y*B) % r:=by
    rw[h,Nat.add_mul_mod_self_right,<-Nat.mul_mod]
  have h2:∀a:Nat,a*(v*B) % r=a % r:=fun a=>by rw[<-Nat.mul_mod_mod,e,Nat.mul_mod_mod,Nat.mul_one]
  calc T*v % r=(T*v)*(v*B) % r:=(h2 _).symm
    _=(T*B)*(v*v) % r:=by congr 1;simp only[Nat.mul_comm,Nat.mul_left_comm]
    _=(T*B % r)*(v*v) % r:=by rw[Nat.mod_mul_mod]
    _=((x*B)*(y*B) % r)*(v*v) % r:=by rw[h1]
    _=((x*B)*(y*B))*(v*v) % r:=by rw[Nat.mod_mul_mod]
    _=(x*y*(v*B))*(v*B) % r:=by congr 1;simp only[Nat.mul_comm,Nat.mul_left_comm]
    _=x*y % r:=by rw[h2,h2]
theorem JY:VZ*B4 % rN=1 % rN:=by kernel_rfl
theorem B6e{x y:Fr}{T Q:Nat}(h:T*B4=(Ob.s x).n*(Ob.s y).n+Q*rN):RR T=x*y:=
 Fin.ext (XT JY h)
end
section
def I0(a b c d e f:Int):Int:=a+18446744073709551616*b+340282366920938463463374607431768211456*c+6277101735386680763835789423207666416102355444464034512896*d+115792089237316195423570985008687907853269984665640564039457584007913129639936*e+2135987035920910082395021706169552114602704522356652769947041607822219725780640550022962086936576*f
theorem AI{n:Nat}{a b c d e f:Int}(ha:0<=a)(ha1:a<18446744073709551616)(hb:0<=b)(hb1:b<18446744073709551616)(hc:0<=c)(hc1:c<18446744073709551616)(hd:0<=d)(hd1:d<18446744073709551616)(he:0<=e)(he1:e<18446744073709551616)(hf:0<=f)(hf1:f<18446744073709551616)
  (e1:(n:Int)=I0 a b c d e f):A1 n 0=a∧A1 n 1=b∧A1 n 2=c∧A1 n 3=d∧A1 n 4=e∧A1 n 5=f:=by
 unfold I0 at e1;have k0:A1 n 0=((n / 1 % 18446744073709551616:Nat):Int):=rfl;have k1:A1 n 1=((n / 18446744073709551616 % 18446744073709551616:Nat):Int):=rfl;have k2:A1 n 2=((n / 340282366920938463463374607431768211456 % 18446744073709551616:Nat):Int):=rfl;have k3:A1 n 3=((n / 6277101735386680763835789423207666416102355444464034512896 % 18446744073709551616:Nat):Int):=rfl;have k4:A1 n 4=((n / 115792089237316195423570985008687907853269984665640564039457584007913129639936 % 18446744073709551616:Nat):Int):=rfl;have k5:A1 n 5=((n / 2135987035920910082395021706169552114602704522356652769947041607822219725780640550022962086936576 % 18446744073709551616:Nat):Int):=by kernel_rfl
 rw[k0,k1,k2,k3,k4,k5];omega
theorem Cc(n:Nat)(h:n<B6):(n:Int)=I0 (A1 n 0) (A1 n 1) (A1 n 2) (A1 n 3) (A1 n 4) (A1 n 5) ∧
  0<=A1 n 0∧A1 n 0<18446744073709551616∧0<=A1 n 1∧A1 n 1<18446744073709551616∧0<=A1 n 2∧A1 n 2<18446744073709551616∧0<=A1 n 3∧A1 n 3<18446744073709551616∧0<=A1 n 4∧A1 n 4<18446744073709551616∧0<=A1 n 5∧A1 n 5<18446744073709551616:=by
 unfold I0;have k0:A1 n 0=((n / 1 % 18446744073709551616:Nat):Int):=rfl;have k1:A1 n 1=((n / 18446744073709551616 % 18446744073709551616:Nat):Int):=rfl;have k2:A1 n 2=((n / 340282366920938463463374607431768211456 % 18446744073709551616:Nat):Int):=rfl;have k3:A1 n 3=((n / 6277101735386680763835789423207666416102355444464034512896 % 18446744073709551616:Nat):Int):=rfl;have k4:A1 n 4=((n / 115792089237316195423570985008687907853269984665640564039457584007913129639936 % 18446744073709551616:Nat):Int):=rfl;have k5:A1 n 5=((n / 2135987035920910082395021706169552114602704522356652769947041607822219725780640550022962086936576 % 18446744073709551616:Nat):Int):=by kernel_rfl
 unfold B6 at h;rw[k0,k1,k2,k3,k4,k5];omega
theorem FL{x:C0}{o:Ob}(hk:o.k=6){a b c d e f:Int}(h:A1 o.n 0=a∧A1 o.n 1=b∧A1 o.n 2=c∧A1 o.n 3=d∧A1 o.n 4=e∧A1 o.n 5=f){v:Value}
  (hd:B8 x (.v (.a [.int .u64 a,.int .u64 b,.int .u64 c,.int .u64 d,.int .u64 e,.int .u64 f])) v):B8 x (.v (.a [.ob o])) v:=by
 obtain ⟨cs,ev,hc⟩:=hd;refine ⟨cs,ev,cs,[],(List.append_nil cs).symm,⟨0,?_⟩,rfl⟩
 obtain ⟨c1,r1,e1,⟨d1,h1⟩,c2,r2,e2,⟨d2,h2⟩,c3,r3,e3,⟨d3,h3⟩,c4,r4,e4,⟨d4,h4⟩,c5,r5,e5,⟨d5,h5⟩,c6,r6,e6,⟨d6,h6⟩,h7⟩:=hc;have h1:c1=[.int .u64 a]:=by cases d1<;>exact h1
 have h2:c2=[.int .u64 b]:=by cases d2<;>exact h2
 have h3:c3=[.int .u64 c]:=by cases d3<;>exact h3
 have h4:c4=[.int .u64 d]:=by cases d4<;>exact h4
 have h5:c5=[.int .u64 e]:=by cases d5<;>exact h5
 have h6:c6=[.int .u64 f]:=by cases d6<;>exact h6
 have h7:r6=[]:=h7;show cs=o.cells;subst h1 h2 h3 h4 h5 h6 h7 e6 e5 e4 e3 e2 e1;unfold Ob.cells;rw[hk];show _=[Value.int .u64 (A1 o.n 0),Value.int .u64 (A1 o.n 1),Value.int .u64 (A1 o.n 2),Value.int .u64 (A1 o.n 3),Value.int .u64 (A1 o.n 4),Value.int .u64 (A1 o.n 5)];rw[h.1,h.2.1,h.2.2.1,h.2.2.2.1,h.2.2.2.2.1,h.2.2.2.2.2];rfl
theorem A3c{x:C0}{o:Ob}(hk:o.k=6){a b c d e f:Int}(h:A1 o.n 0=a∧A1 o.n 1=b∧A1 o.n 2=c∧A1 o.n 3=d∧A1 o.n 4=e∧A1 o.n 5=f){cs:List Value}
  (hc:C6 x.D [.int .u64 a,.int .u64 b,.int .u64 c,.int .u64 d,.int .u64 e,.int .u64 f] cs):C6 x.D [.ob o] cs:=by
 obtain ⟨cs',ev,h'⟩:=FL hk h (v:=.agg cs.toArray) ⟨cs,rfl,hc⟩;have ev:cs=cs' := by simpa using ev
 rw[ev];exact h'
theorem B7s{x:C0}{o:Ob}(hk:o.k=6){cs:List Value}(h:C6 x.D [.ob o] cs):C6 x.D [.int .u64 (A1 o.n 0),.int .u64 (A1 o.n 1),.int .u64 (A1 o.n 2),.int .u64 (A1 o.n 3),.int .u64 (A1 o.n 4),.int .u64 (A1 o.n 5)] cs:=by
 obtain ⟨c1,c2,e,⟨d,h1⟩,h2⟩:=h;have h1:c1=o.cells:=by cases d<;>exact h1
 have h2:c2=[]:=h2;subst h2 h1 e;rw[List.append_nil];unfold Ob.cells;rw[hk];exact ⟨[_],_,rfl,⟨0,rfl⟩,[_],_,rfl,⟨0,rfl⟩,[_],_,rfl,⟨0,rfl⟩,[_],_,rfl,⟨0,rfl⟩,[_],_,rfl,⟨0,rfl⟩,[_],_,rfl,⟨0,rfl⟩,rfl⟩
def pnv:Nat:=3231460744492646417066832100176244795738767926513225105051837195607029917124509527734802654356338138714468589979680
def Nv(n:Nat):Fp:=Fin.ofNat pN (n*pnv)
theorem QD:pnv*B6 % pN=1 % pN:=by kernel_rfl
theorem B9n(n:Nat):(Ob.p (Nv n)).n=n % pN:=by
 show (n*pnv % pN)*B6 % pN=n % pN;rw[Nat.mod_mul_mod,Nat.mul_assoc];have e:pnv*B6 % pN=1:=by decide +kernel
 rw[<-Nat.mul_mod_mod,e,Nat.mul_one]
theorem XW{l q:Int}(hq:q=wrap IntKind.u64 (l*9940570264628428797)):(q*13402431016077863595+l) % 18446744073709551616=0:=by
 rw[Rz] at hq;omega
theorem A5n : (2 ^ (64*6):Nat)=B6:=by kernel_rfl
theorem C7b:pN<2 ^ (64*6):=by rw[A5n];decide
theorem A8w{x y:Fp}{T Q:Nat}(h:T*B6=(Ob.p x).n*(Ob.p y).n+Q*pN):Nv T=x*y:=
 Fin.ext (XT QD h)
theorem LK(x:Fp):(Ob.p x).n<pN:=Nat.mod_lt _ A4
theorem Yb(z a b c d e f:Int):z*I0 a b c d e f=(z*a)+18446744073709551616*(z*b)+340282366920938463463374607431768211456*(z*c)+6277101735386680763835789423207666416102355444464034512896*(z*d)+115792089237316195423570985008687907853269984665640564039457584007913129639936*(z*e)+2135987035920910082395021706169552114602704522356652769947041607822219725780640550022962086936576*(z*f):=by
 unfold I0;simp only[Int.mul_add,Int.mul_left_comm z]
theorem TZ{A Y r i Q:Nat}{T T' q:Int}(hq:0<=q)(h:T*((2 ^ (64*i):Nat):Int)=((A % 2 ^ (64*i):Nat):Int)*(Y:Int)+(Q:Int)*(r:Int))
  (h' : 18446744073709551616*T' = T+A1 A i*(Y:Int)+q*(r:Int)) :
  ∃Q:Nat,T' * ((2 ^ (64*(i+1)):Nat):Int)=((A % 2 ^ (64*(i+1)):Nat):Int)*(Y:Int)+(Q:Int)*(r:Int):=by
 obtain ⟨q,rfl⟩:=Int.eq_ofNat_of_zero_le hq;refine ⟨Q+q*2 ^ (64*i),?_⟩
 rw[Qa];have hp:(2:Nat) ^ (64*(i+1))=2 ^ (64*i)*18446744073709551616:=by rw[Nat.mul_add,Nat.pow_add]
 rw[hp];have hl:A1 A i=((A / 2 ^ (64*i) % 18446744073709551616:Nat):Int):=rfl;rw[hl] at h'
 generalize A / 2 ^ (64*i) % 18446744073709551616=xi at *;generalize A % 2 ^ (64*i)=X at *;generalize 2 ^ (64*i)=m at *;have e1:T' * ((m*18446744073709551616:Nat):Int)=(18446744073709551616*T')*(m:Int):=by
  rw[Int.natCast_mul,Int.mul_comm (m:Int),<-Int.mul_assoc,Int.mul_comm T'];rfl
 rw[e1,h',Int.add_mul,Int.add_mul,h];push_cast
 simp only[Int.add_mul,Int.mul_assoc];have e2:(xi:Int)*((Y:Int)*(m:Int))=(m:Int)*((xi:Int)*(Y:Int)):=by rw[<-Int.mul_assoc,Int.mul_comm]
 have e3:(q:Int)*((r:Int)*(m:Int))=(q:Int)*((m:Int)*(r:Int)):=by rw[Int.mul_comm (r:Int)]
 rw[e2,e3];omega
def B1(a:Int):Prop:=0<=a∧a<18446744073709551616
theorem Yc{a b c d e f:Int}(ha:B1 a)(hb:B1 b)(hc:B1 c)(hd:B1 d)(he:B1 e)(hf:B1 f):∃n:Nat,n<B6∧I0 a b c d e f=(n:Int)∧A1 n 0=a∧A1 n 1=b∧A1 n 2=c∧A1 n 3=d∧A1 n 4=e∧A1 n 5=f:=by
 obtain ⟨ha,ha1⟩:=ha;obtain ⟨hb,hb1⟩:=hb;obtain ⟨hc,hc1⟩:=hc;obtain ⟨hd,hd1⟩:=hd;obtain ⟨he,he1⟩:=he;obtain ⟨hf,hf1⟩:=hf;have h0:0<=I0 a b c d e f:=by unfold I0;omega
 obtain ⟨n,hn⟩:=Int.eq_ofNat_of_zero_le h0;refine ⟨n,?_,hn,AI ha ha1 hb hb1 hc hc1 hd hd1 he he1 hf hf1 (by rw[<-hn])⟩
 unfold I0 at hn;unfold B6;omega
def DK(n:Nat):U6:=Fin.ofNat B6 (n % pN)
theorem JX(n:Nat):(DK n).val=n % pN:=Nat.mod_eq_of_lt (Nat.lt_trans (Nat.mod_lt _ A4) A4)
theorem A1p{a b:Nat}(h:a % pN=b % pN):DK a=DK b:=by unfold DK;rw[h]
end
section
abbrev St.z(σ:St)(n:Nat):St:={ σ with nx:=n }
end
section
def G4(y:C0)(n:Nat):C0:={ y with k:=fun q=>if q=n then .nil else y.k q }
theorem K2.nil{P:Program}{f:Nat}{args:List SV}{r r' : SV}{es:List En}{q:Sq}(h:K2 P f args r es)(hq:q.n=0)
  (hr:∀(y:C0) v,y.k es.length = .nil->B8 y r v->B8 y r' v):K2 P f args r' (es++[.sq q]):=by
 intro x vs hk hF hd;refine (h x vs hk hF hd).mono fun e w' ⟨v,y,he,hw,ht,hv⟩=>?_
 have hno:y.k es.length = .no:=(ht.mem.dom es.length).1 (by simp)
 have hext:Ext y (G4 y es.length):=by
  refine ⟨Nat.le_refl _,fun _ h=>⟨h,rfl⟩,fun p hp=>?_,fun _ _=>rfl,fun _ _ cs _ h=>⟨cs,h,rfl⟩⟩
  have:p≠es.length:=fun e=>hp (e ▸ hno)
  simp [G4,this]
 have hreal:∀p,(G4 y es.length).k p = .real->y.k p = .real:=by
  intro p hp;simp only[G4] at hp;split at hp
  ·cases hp
  ·exact hp
 have hget:∀p,p≠es.length->(es++[En.sq q])[p]? = es[p]? := by
  intro p hp;by_cases h1:p<es.length
  ·rw[List.getElem?_append_left h1]
  ·rw[List.getElem?_append_right (by omega),List.getElem?_eq_none (by simp;omega),List.getElem?_eq_none (by omega)]
 have hm:P0 (G4 y es.length) (fun p=>(es++[En.sq q])[p]?):=by
  refine ⟨fun p=>?_,fun p l hp=>?_,fun p s hp hn=>?_,fun p e hp hrl=>?_,fun p s hp hs he=>?_,fun p hp=>?_,fun b hb=>ht.mem.fw b hb⟩
  ·by_cases hp:p=es.length
   ·subst hp;simp [G4]
   ·show (es++[En.sq q])[p]? = none↔(if p=es.length then Kd.nil else y.k p) = .no
    rw[if_neg hp,hget p hp];exact ht.mem.dom p
  ·by_cases h1:p=es.length
   ·subst h1;simp at hp
   ·have hp:(es++[En.sq q])[p]? = some (.fl l):=hp
    rw[hget p h1] at hp;show (if p=es.length then Kd.nil else y.k p) = .real
    rw[if_neg h1];exact ht.mem.fl p l hp
  ·by_cases h1:p=es.length
   ·subst h1
    have hp:(es++[En.sq q])[es.length]? = some (.sq s):=hp;simp at hp
    rw[<-hp];exact hq
   ·have hp:(es++[En.sq q])[p]? = some (.sq s):=hp
    rw[hget p h1] at hp;have hn:(if p=es.length then Kd.nil else y.k p) = .nil:=hn
    rw[if_neg h1] at hn;exact ht.mem.nil p s hp hn
  ·have h1:p≠es.length:=by
    rintro rfl
    simp [G4] at hrl
   have hp:(es++[En.sq q])[p]? = some e:=hp;rw[hget p h1] at hp;obtain ⟨cs,ty,hc,hde⟩:=ht.mem.ent p e hp (hreal p hrl);exact ⟨cs,ty,hc,K8 hext hde⟩
  ·exact ht.mem.inj p s (hreal p hp) (hreal s hs) he
  ·exact ht.mem.own p (hreal p hp)
 refine ⟨v,G4 y es.length,he,hw,⟨ht.ext.trans hext,hm,ht.os,ht.tape,ht.output,ht.blk,fun p hp=>ht.fresh p (hreal p hp),ht.fnew⟩,hr _ _ (by simp [G4]) (Ba hext hv)⟩
theorem A5a{y:C0}{p es:Nat}(hk:y.k p = .nil){v:Value}(h:Dq y (.c (.val (.slice none 0 0))) v):Dq y (.c (.slc p 0 0 es)) v:=by
 obtain ⟨_,d,h⟩:=h;refine ⟨rfl,d,?_⟩
 have h:[v]=[Value.slice none 0 0]:=by cases d<;>exact h.1
 have g:(y.k p = .nil∧0=0∧0=0∧[v]=[Value.slice none 0 0]) ∨
  (y.k p = .real∧∃cap cs ty,[v]=[.slice (some ⟨y.β p,0,none⟩) 0 cap]∧0<=cap∧cap<=maxLen∧y.w.heap[y.β p]? = some (.cells cs ty (0,0))∧0+cap*es<=cs.size):=.inl ⟨hk,rfl,rfl,h⟩
 cases d<;>exact g
theorem K2.nil2{P:Program}{f:Nat}{args:List SV}{b:V1}{es:Nat}{q:Sq}(h:K2 P f args (.t [.c (.val (.slice none 0 0)),b]) [])(hq:q.n=0):K2 P f args (.t [.c (.slc 0 0 0 es),b]) [.sq q]:=
 h.nil (r' := .t [.c (.slc 0 0 0 es),b]) (q:=q) hq fun y v hk ⟨vs,e,hd⟩=>by
  cases hd with | cons h1 hd=>exact ⟨_,e,.cons (A5a hk h1) hd⟩
end
section
variable {w0:World} {F0:Nat->Prop} {K:Kp} {as:List Act} {x:C0} {a:Act}
theorem A4z{p:Nat}(hno:x.k p = .no):Ext x (G4 x p):=
 ⟨Nat.le_refl _,fun _ h=>⟨h,rfl⟩,fun q hq=>by
  have:q≠p:=fun e=>hq (e ▸ hno)
  simp [G4,this],fun _ _=>rfl,fun _ _ cs _ h=>⟨cs,h,rfl⟩⟩
theorem V3{p q:Nat}(h:(G4 x p).k q = .real):x.k q = .real:=by
 simp only[G4] at h;split at h
 ·cases h
 ·exact h
def B2p(p:Nat):List SV->List SV->Prop
 | [],[]=>True
 | s::l,s' :: l' => (s' = s∨∃es,s = .v (.c (.val (.slice none 0 0)))∧s' = .v (.c (.slc p 0 0 es)))∧B2p p l l'
 | _,_=>False
theorem WX{p:Nat}(hk:x.k p = .nil):∀{svs svs' : List SV},B2p p svs svs' -> A3d x svs svs'
 | [],[],_=>trivial
 | [],_::_,h=>h.elim
 | _::_,[],h=>h.elim
 | s::l,s' :: l',h=>⟨fun v hd=>by
   rcases h.1 with e | ⟨es,e1,e2⟩
   ·rw[e];exact hd
   ·subst e1 e2
    exact A5a hk hd,WX hk h.2⟩
theorem Sim.nilRow{nt nx:Nat}{tl:List Nat}{svs svs' : List SV}{ml ml' : List Nat}{ens ens' : List (Option En)}{ftl:List (List Nat)}{fsv:List (List SV×Nat)}
  (hs:Sim w0 F0 K as (B0 nt tl svs ml ens nx ftl fsv) x a) {p:Nat} (hp:C7 none ml ens p=none) (hp0:p≠0) {q:Sq} (hq:q.n=0) (hl:∀r,C7 none ml' ens' r=if r=p then some (.sq q) else C7 none ml ens r) (hc:B2p p svs svs') :
  Sim w0 F0 K as (B0 nt tl svs' ml' ens' nx ftl fsv) (G4 x p) a:=by
 have hm:=hs.mem;have hno:x.k p = .no:=(hm.dom p).1 hp;have hext:=A4z (x:=x) hno;have hself:(G4 x p).k p = .nil:=by simp [G4]
 have hoth:∀r,r≠p->(G4 x p).k r=x.k r:=fun r hr=>by simp [G4,hr]
 have hget:∀r,r≠p->C7 none ml' ens' r=C7 none ml ens r:=fun r hr=>by rw[hl,if_neg hr]
 have hgp:C7 none ml' ens' p=some (.sq q):=by rw[hl,if_pos rfl]
 refine ⟨hs.defers,hs.nt,fun t=>?_,?_,?_,hs.frs.ext hext⟩
 ·exact Le (WX hself hc) t _ (Ba hext (hs.t t))
 ·refine ⟨fun r=>?_,fun r l hr=>?_,fun r s hr hn=>?_,fun r e hr hrl=>?_,fun r s hr hs e=>hm.inj r s (V3 hr) (V3 hs) e,fun r hr=>hm.own r (V3 hr),fun b hb=>hm.fw b hb⟩
  ·show C7 none ml' ens' r=none↔(G4 x p).k r = .no
   by_cases e:r=p
   ·subst e;rw[hgp,hself]
    constructor<;>(intro h;cases h)
   ·rw[hget r e,hoth r e]
    exact hm.dom r
  ·have hr:C7 none ml' ens' r=some (.fl l):=hr
   by_cases e:r=p
   ·subst e;rw[hgp] at hr;cases hr
   ·rw[hget r e] at hr
    rw[hoth r e];exact hm.fl r l hr
  ·have hr:C7 none ml' ens' r=some (.sq s):=hr
   by_cases e:r=p
   ·subst e;rw[hgp] at hr;cases hr;exact hq
   ·rw[hget r e] at hr
    rw[hoth r e] at hn;exact hm.nil r s hr hn
  ·have hr:C7 none ml' ens' r=some e:=hr
   have e1:r≠p:=fun h=>by rw[h,hself] at hrl;cases hrl
   rw[hget r e1] at hr;obtain ⟨cs,ty,hc,hde⟩:=hm.ent r e hr (V3 hrl);exact ⟨cs,ty,hc,K8 hext hde⟩
 ·have hb:=hs.base
  refine ⟨hb.f0,hb.fn,hb.size,hb.keep,fun r hr=>hb.ownK r (V3 hr),hb.os,hb.tape,hb.output,fun r hr=>?_⟩
  obtain ⟨h1,h2,h3⟩:=hb.pin r hr;exact ⟨h1,by rw[hoth 0 (Ne.symm hp0)];exact h2,h3⟩
theorem UP{r p:Nat}{e f:Option En}{q:Nat}(h:p≠q):C7 none [q,p] [e,f] r=if r=p then f else C7 none [q] [e] r:=by
 simp only[C7];by_cases h1:r=q
 ·subst h1
  rw[if_pos rfl,if_pos rfl,if_neg (Ne.symm h)]
 ·rw[if_neg h1,if_neg h1]
end
section
def Am(n:Nat):Nat->List Nat
 | 0=>[]
 | t+1=>if (Am n t).isEmpty=true∧n / 16 ^ (63-t) % 16=0 then [] else Am n t++[n / 16 ^ (63-t) % 16]
theorem IS{n t:Nat}(h1:(Am n t).isEmpty=true)(h2:n / 16 ^ (63-t) % 16=0):Am n (t+1)=[]:=if_pos ⟨h1,h2⟩
theorem OE{n t:Nat}(h:¬((Am n t).isEmpty=true∧n / 16 ^ (63-t) % 16=0)):Am n (t+1)=Am n t++[n / 16 ^ (63-t) % 16]:=if_neg h
theorem A3k(n:Nat){t:Nat}:∀{m:Nat},t<=m->∃r,Am n m=Am n t++r
 | 0,h=>⟨[],by rw[Nat.le_zero.1 h];rfl⟩
 | m+1,h=>by
  by_cases e:t=m+1
  ·exact ⟨[],by rw[e,List.append_nil]⟩
  ·obtain ⟨r,hr⟩:=A3k n (m:=m) (t:=t) (by omega)
   by_cases hc:(Am n m).isEmpty=true∧n / 16 ^ (63-m) % 16=0
   ·rw[IS hc.1 hc.2]
    have h1:Am n m=[]:=List.isEmpty_iff.1 hc.1;rw[h1] at hr;obtain ⟨h2,h3⟩:=List.append_eq_nil_iff.1 hr.symm;exact ⟨[],by rw[h2];rfl⟩
   ·exact ⟨r++[n / 16 ^ (63-m) % 16],by rw[OE hc,hr,List.append_assoc]⟩
def dgV(l:List Nat):Nat:=l.foldl (fun v d=>16*v+d) 0
theorem B2v(l:List Nat)(d:Nat):dgV (l++[d])=16*dgV l+d:=by simp [dgV]
theorem C3f(n s:Nat):n / 16 ^ s=16*(n / 16 ^ (s+1))+n / 16 ^ s % 16:=by
 rw[Nat.pow_succ,<-Nat.div_div_eq_div_mul];omega
theorem D0b{n:Nat}(h:n<16 ^ 64):∀t,t<=64->dgV (Am n t)=n / 16 ^ (64-t)
 | 0,_=>(Nat.div_eq_of_lt h).symm
 | t+1,ht=>by
  have ih:=D0b h t (by omega)
  have e1:64-t=(63-t)+1:=by omega
  have e2:64-(t+1)=63-t:=by omega
  rw[e1] at ih;rw[e2,C3f n (63-t),<-ih];by_cases hc:(Am n t).isEmpty=true∧n / 16 ^ (63-t) % 16=0
  ·rw[IS hc.1 hc.2,hc.2,List.isEmpty_iff.1 hc.1]
   rfl
  ·rw[OE hc,B2v]
theorem ZF{n:Nat}:∀t d,d∈Am n t->d<16
 | 0,d,h=>by cases h
 | t+1,d,h=>by
  by_cases hc:(Am n t).isEmpty=true∧n / 16 ^ (63-t) % 16=0
  ·rw[IS hc.1 hc.2] at h;cases h
  ·rw[OE hc,List.mem_append] at h
   rcases h with h | h
   ·exact ZF t d h
   ·rw[List.mem_singleton] at h
    rw[h];exact Nat.mod_lt _ A4
theorem A3p(n i:Nat):n / 2 ^ (64*(i / 16)) % 18446744073709551616 / 2 ^ (4*(i % 16)) % 16=n / 16 ^ i % 16:=by
 have h64:18446744073709551616=2 ^ (4*(i % 16))*(16*2 ^ (60-4*(i % 16))):=by
  rw[show (16:Nat)=2 ^ 4 from rfl,<-Nat.pow_add,<-Nat.pow_add,show 4*(i % 2 ^ 4)+(4+(60-4*(i % 2 ^ 4)))=64 from by omega]
 rw[h64,Nat.mod_mul_right_div_self,Nat.mod_mul_right_mod,Nat.div_div_eq_div_mul,<-Nat.pow_add,show 64*(i / 16)+4*(i % 16)=4*i from by omega,Nat.pow_mul]
theorem C9x{m:Nat}:E1 BinOp.and IntKind.u64 (m:Int) (15:Int)=((m % 16:Nat):Int):=by
 show wrap IntKind.u64 ((BitVec.ofInt 64 (m:Int) &&& BitVec.ofInt 64 ((15:Nat):Int)).toNat:Int)=_;rw[BitVec.ofInt_natCast,BitVec.ofInt_natCast,BitVec.toNat_and,BitVec.toNat_ofNat,BitVec.toNat_ofNat];have e:15 % 2 ^ 64=2 ^ 4-1:=by decide
 rw[e,Nat.and_two_pow_sub_one_eq_mod];show (((m % 2 ^ 64 % 2 ^ 4:Nat):Int)) % 18446744073709551616=_;omega
theorem B2x(k:U4){i:Nat}(hi:i<64):wrap IntKind.i64 (E1 BinOp.and IntKind.u64 (Int.fdiv (A1 (Ob.n (Ob.fr k)) (0+(((wrap IntKind.i64 (Int.tdiv (i:Int) (16:Int)))).toNat*1))) ((2:Int) ^ (Min.min ((wrap IntKind.i64 ((4:Int)*(Int.tmod (i:Int) (16:Int))))).toNat 64))) (15:Int))=((k.val / 16 ^ i % 16:Nat):Int):=by
 have e1:Int.tdiv (i:Int) (16:Int)=((i / 16:Nat):Int):=Int.tdiv_eq_ediv_of_nonneg (by omega)
 have e2:Int.tmod (i:Int) (16:Int)=((i % 16:Nat):Int):=Int.tmod_eq_emod_of_nonneg (by omega)
 rw[e1,e2,A9 (n:=((i / 16:Nat):Int)) (by omega) (by omega),A9 (n:=(4:Int)*((i % 16:Nat):Int)) (by omega) (by omega),Int.toNat_natCast]
 have e3:Min.min ((4:Int)*((i % 16:Nat):Int)).toNat 64=4*(i % 16):=by omega
 have e4:0+i / 16*1=i / 16:=by omega
 rw[e3,e4];have hl:A1 (Ob.n (Ob.fr k)) (i / 16)=((k.val / 2 ^ (64*(i / 16)) % 18446744073709551616:Nat):Int):=rfl;rw[hl,<-A3p k.val i];generalize k.val / 2 ^ (64*(i / 16)) % 18446744073709551616=m;have hp:((2:Int) ^ (4*(i % 16)))=((2 ^ (4*(i % 16)):Nat):Int):=by simp
 rw[hp,Int.fdiv_eq_ediv_of_nonneg _ (Int.natCast_nonneg _),<-Int.natCast_ediv,C9x];exact A9 (by omega) (by omega)
theorem SJ{i:Nat}(hi:i<64):wrap IntKind.i64 (Int.tdiv (i:Int) (16:Int))=((i / 16:Nat):Int):=by
 have e1:Int.tdiv (i:Int) (16:Int)=((i / 16:Nat):Int):=Int.tdiv_eq_ediv_of_nonneg (by omega)
 rw[e1];exact A9 (by omega) (by omega)
theorem SK(i:Nat):(0:Int)<=wrap IntKind.i64 ((4:Int)*(Int.tmod (i:Int) (16:Int))):=by
 have e2:Int.tmod (i:Int) (16:Int)=((i % 16:Nat):Int):=Int.tmod_eq_emod_of_nonneg (by omega)
 rw[e2,A9 (by omega) (by omega)]
 omega
def B2n(x:C0):List (Option En)->List (Option En)->Prop
 | [],[]=>True
 | e::l,e' :: l' => (e=e' ∨ ∃f f' r,e=some (.fl r)∧e=some f∧e' = some f' ∧ ∀cs,C9 x f cs->C9 x f' cs)∧B2n x l l'
 | _,_=>False
theorem Oz{x:C0}:∀{ml:List Nat} {ens ens' : List (Option En)},B2n x ens ens' -> ∀p,C7 none ml ens p=C7 none ml ens' p∨∃f f' r,C7 none ml ens p=some (.fl r)∧C7 none ml ens p=some f∧C7 none ml ens' p=some f' ∧ ∀cs,C9 x f cs->C9 x f' cs
 | [],_,_,_,_=>.inl rfl
 | _::_,[],[],_,_=>.inl rfl
 | _::_,[],_::_,h,_=>h.elim
 | _::_,_::_,[],h,_=>h.elim
 | t::tl,e::l,e' :: l',h,p=>by
  simp only[C7];by_cases hp:p=t
  ·simp only[hp,if_true];exact h.1
  ·simp only[hp,if_false];exact Oz h.2 p
theorem Sim.blocks{w0:World}{F0:Nat->Prop}{K:Kp}{as:List Act}{nt nx:Nat}{tl:List Nat}{svs:List SV}{ml:List Nat}{ens ens' : List (Option En)}{ftl:List (List Nat)}{fsv:List (List SV×Nat)}{x:C0}{a:Act}
  (hs:Sim w0 F0 K as (B0 nt tl svs ml ens nx ftl fsv) x a) (h:B2n x ens ens'):Sim w0 F0 K as (B0 nt tl svs ml ens' nx ftl fsv) x a:=by
 have hm:=hs.mem;refine ⟨hs.defers,hs.nt,hs.t,?_,hs.base,hs.frs⟩
 have key:=Oz (ml:=ml) h;refine ⟨fun p=>?_,fun p l hp=>?_,fun p q hp hn=>?_,fun p e hp hr=>?_,hm.inj,hm.own,hm.fw⟩
 ·rw[<-hm.dom p]
  show C7 none ml ens' p=none↔C7 none ml ens p=none;rcases key p with e | ⟨f,f',r,e1,e2,e3,_⟩
  ·rw[e]
  ·rw[e2,e3]
   constructor<;>(intro h;cases h)
 ·have hp:C7 none ml ens' p=some (.fl l):=hp
  rcases key p with e | ⟨f,f',r,e1,e2,e3,_⟩
  ·rw[<-e] at hp;exact hm.fl p l hp
  ·exact hm.fl p r e1
 ·have hp:C7 none ml ens' p=some (.sq q):=hp
  rcases key p with e | ⟨f,f',r,e1,e2,e3,_⟩
  ·rw[<-e] at hp;exact hm.nil p q hp hn
  ·have:=hm.fl p r e1
   rw[this] at hn;cases hn
 ·have hp:C7 none ml ens' p=some e:=hp
  rcases key p with e0 | ⟨f,f',r,e1,e2,e3,hc⟩
  ·rw[<-e0] at hp;exact hm.ent p e hp hr
  ·rw[e3] at hp
   cases hp
   obtain ⟨cs,ty,h1,h2⟩:=hm.ent p f e2 hr;exact ⟨cs,ty,h1,hc _ h2⟩
end
section
section
variable {F:Type} [Add F] [Sub F] [Mul F] [OfNat F 0] [DecidableEq F]
def Ah(a:F×F×F):Nat->F×F×F
 | 0=>(a.1,a.2.1,0)
 | n+1=>jpl (Ah a n) a
def jst(a o:F×F×F)(d:Nat):F×F×F:=jpl (jtw (jtw (jtw (jtw o)))) (Ah a d)
def jmn(a:F×F×F)(l:List Nat):F×F×F:=l.foldl (jst a) (Ah a 0)
def Ef:Nat->F×F×F->F×F×F
 | 0,o=>o
 | n+1,o=>jtw (Ef n o)
end
theorem C4i{F:Type}[Add F][Sub F][Mul F][OfNat F 0][DecidableEq F](a o:F×F×F)(d:Nat):jst a o d=jpl (Ef 4 o) (Ah a d):=rfl
theorem Tn{F:Type}[Add F][Sub F][Mul F][OfNat F 0][DecidableEq F](n:Nat)(o:F×F×F):Ef (n+1) o=jtw (Ef n o):=rfl
section
variable {F:Type} [Fld F] [DecidableEq F] {b:F}
def L9(P:Pt F):Nat->Pt F
 | 0=>none
 | n+1=>Q5 (L9 P n) P
theorem EH(hc:Cv b){P:Pt F}(h:OnC b P):∀n,OnC b (L9 P n)
 | 0=>True.intro
 | n+1=>Jh hc _ _ (EH hc h n) h
theorem B7d(P:Pt F):L9 P 1=P:=rfl
theorem X9(hc:Cv b){P:Pt F}(h:OnC b P)(m:Nat):∀n,L9 P (m+n)=Q5 (L9 P m) (L9 P n)
 | 0=>(BS _).symm
 | n+1=>by
  show Q5 (L9 P (m+n)) P=Q5 (L9 P m) (Q5 (L9 P n) P);rw[X9 hc h m n,Hy hc _ _ _ (EH hc h m) (EH hc h n) h]
theorem TF:∀n,L9 (none:Pt F) n=none
 | 0=>rfl
 | n+1=>by
  show Q5 (L9 none n) none=none;rw[TF n];rfl
theorem FS(hc:Cv b){P:Pt F}(h:OnC b P)(m:Nat):∀n,L9 P (m*n)=L9 (L9 P m) n
 | 0=>rfl
 | n+1=>by
  rw[Nat.mul_succ,X9 hc h,FS hc h m n];rfl
theorem A4n(two:(1:F)+1≠0){P:Pt F}{a:F×F×F}(h:Jc P a):∀n,Jc (L9 P n) (Ah a n)
 | 0=>rfl
 | n+1=>La two _ _ _ _ (A4n two h n) h
theorem D2e(hc:Cv b){P:Pt F}{a:F×F×F}(hP:OnC b P)(h:Jc P a){m:Nat}{o:F×F×F}(ho:Jc (L9 P m) o)(d:Nat):Jc (L9 P (16*m+d)) (jst a o d):=by
 have h1:=Lc hc.two _ _ ho;rw[<-X9 hc hP] at h1;have h2:=Lc hc.two _ _ h1;rw[<-X9 hc hP] at h2;have h3:=Lc hc.two _ _ h2;rw[<-X9 hc hP] at h3;have h4:=Lc hc.two _ _ h3;rw[<-X9 hc hP] at h4;have h5:=La hc.two _ _ _ _ h4 (A4n hc.two h d);rw[<-X9 hc hP] at h5;rw[show 16*m+d=m+m+(m+m)+(m+m+(m+m))+(m+m+(m+m)+(m+m+(m+m)))+d from by omega]
 exact h5
theorem XH(hc:Cv b){P:Pt F}{a:F×F×F}(hP:OnC b P)(h:Jc P a):∀(l:List Nat) (m:Nat) (o:F×F×F),Jc (L9 P m) o->Jc (L9 P (l.foldl (fun v d=>16*v+d) m)) (l.foldl (jst a) o)
 | [],_,_,ho=>ho
 | d::l,m,o,ho=>XH hc hP h l (16*m+d) (jst a o d) (D2e hc hP h ho d)
theorem B4m(hc:Cv b){P:Pt F}{a:F×F×F}(hP:OnC b P)(h:Jc P a)(l:List Nat):Jc (L9 P (dgV l)) (jmn a l):=XH hc hP h l 0 (Ah a 0) (rfl:(0:F)=0)
end
theorem A3l{n t:Nat}(ht:t=64)(h:n<16 ^ 64):dgV (Am n t)=n:=by
 have e:=D0b h t (by omega)
 rw[show 64-t=0 from by omega,Nat.pow_zero,Nat.div_one] at e
 exact e
theorem D7z(k:U4):k.val<16 ^ 64:=by
 have h:B4=16 ^ 64:=by decide +kernel
 rw[<-h];exact k.isLt
theorem D1k(k:U4):dgV (Am k.val 64)=k.val:=A3l (Eq.refl 64) (D7z k)
end
section
section
variable {F:Type} [Fld F] [DecidableEq F] {b:F}
def LW(z a:F×F×F):Nat->F×F×F
 | 0=>z
 | d+1=>jpl (LW z a d) a
def baT(z a:F×F×F):Nat->F×F×F
 | 0=>a
 | i+1=>jpl (LW z (baT z a i) 15) (baT z a i)
def pkT(z a:F×F×F)(v:Nat):Nat->F×F×F
 | 0=>z
 | i+1=>jpl (pkT z a v i) (LW z (baT z a i) (v / 16 ^ i % 16))
theorem Wa(hc:Cv b){z a:F×F×F}(hz:z.2.2=0){P:Pt F}(h:Jc P a):∀d,Jc (L9 P d) (LW z a d)
 | 0=>hz
 | d+1=>La hc.two _ _ _ _ (Wa hc hz h d) h
theorem B1p(hc:Cv b){z a:F×F×F}(hz:z.2.2=0){P:Pt F}(hP:OnC b P)(h:Jc P a):∀i,Jc (L9 P (16 ^ i)) (baT z a i)
 | 0=>by
  rw[Nat.pow_zero,B7d];exact h
 | i+1=>by
  have hb:=B1p hc hz hP h i;rw[Nat.pow_succ,FS hc hP];exact La hc.two _ _ _ _ (Wa hc hz hb 15) hb
theorem B8q(hc:Cv b){z a:F×F×F}(hz:z.2.2=0){P:Pt F}(hP:OnC b P)(h:Jc P a)(v:Nat):∀i,Jc (L9 P (v % 16 ^ i)) (pkT z a v i)
 | 0=>by
  rw[Nat.pow_zero,Nat.mod_one];exact hz
 | i+1=>by
  rw[Nat.pow_succ,Nat.mod_mul,X9 hc hP,FS hc hP];exact La hc.two _ _ _ _ (B8q hc hz hP h v i) (Wa hc hz (B1p hc hz hP h i) _)
theorem C7a(hc:Cv b){z a:F×F×F}(hz:z.2.2=0){P:Pt F}(hP:OnC b P)(h:Jc P a){v n:Nat}(hn:n=64)(hv:v<2 ^ 256):Jc (L9 P v) (pkT z a v n):=by
 have:=B8q hc hz hP h v n
 rwa [hn,Nat.mod_eq_of_lt (Nat.lt_of_lt_of_le hv A4),<-hn] at this
end
end
section
section
variable {F:Type} [Add F] [Sub F] [Mul F] [OfNat F 0] [DecidableEq F]
def bkS(z:F×F×F)(S:List (F×F×F))(p:F×F×F)(d:Int):List (F×F×F):=
 if d > 0 then S.set d.toNat (jpl (S.getD d.toNat z) p) else if d<0 then S.set (-d).toNat (jpl (S.getD (-d).toNat z) (jng p)) else S
def bkN(z:F×F×F)(S:List (F×F×F))(ps:List (F×F×F))(ds:List Int):Nat->List (F×F×F)
 | 0=>S
 | i+1=>bkS z (bkN z S ps ds i) (ps.getD i z) (ds.getD i 0)
def toR(z:F×F×F)(S:List (F×F×F)):Nat->F×F×F
 | 0=>z
 | n+1=>jpl (toR z S n) (S.getD (16-n) z)
def toO(z:F×F×F)(S:List (F×F×F)):Nat->F×F×F
 | 0=>z
 | n+1=>jpl (toO z S n) (toR z S (n+1))
def bkT(z:F×F×F)(ps:List (F×F×F))(ds:List Int):F×F×F:=toO z (bkN z (List.replicate 17 z) ps ds ps.length) 16
def BE(L:List (List Int))(i:Nat):List Int:=L.map fun l=>l.getD i 0
def alN(z:F×F×F)(ps:List (F×F×F))(L:List (List Int))(m:Nat):Nat->F×F×F
 | 0=>z
 | t+1=>jpl (Ef 5 (alN z ps L m t)) (bkT z ps (BE L (m-1-t)))
theorem C2m(z:F×F×F)(S:List (F×F×F))(p:F×F×F)(d:Int):(bkS z S p d).length=S.length:=by
 unfold bkS;split
 ·exact List.length_set
 ·split
  ·exact List.length_set
  ·rfl
theorem Uy(z:F×F×F)(S ps:List (F×F×F))(ds:List Int):∀i,(bkN z S ps ds i).length=S.length
 | 0=>rfl
 | i+1=>(C2m ..).trans (Uy z S ps ds i)
end
section
variable {F:Type} [Add F] [Sub F] [Mul F] [OfNat F 0] [DecidableEq F] {M:Type} [D0v M]
structure Rel(R:F×F×F->M->Prop)(z:F×F×F):Prop where
 ze:R z 0
 pl:∀{a b x y},R a x->R b y->R (jpl a b) (x+y)
 tw:∀{a x},R a x->R (jtw a) (x+x)
 ng:∀{a x},R a x->R (jng a) (-x)
variable {R:F×F×F->M->Prop} {z:F×F×F}
def Ny(T:Nat->M):Nat->M
 | 0=>0
 | n+1=>Ny T n+((n+1:Nat):Int) • T (n+1)
def Nx(T:Nat->M)(d:Nat)(p:M):Nat->M:=fun i=>if i=d then T i+p else T i
theorem RB(T:Nat->M)(d:Nat)(p:M)(hd:1<=d):∀n,Ny (Nx T d p) n=if d<=n then Ny T n+(d:Int) • p else Ny T n
 | 0=>by rw[if_neg (by omega)];rfl
 | n+1=>by
  show Ny (Nx T d p) n+((n+1:Nat):Int) • Nx T d p (n+1)=_;rw[RB T d p hd n];by_cases h:d<=n
  ·rw[if_pos h,if_pos (by omega)]
   have e:Nx T d p (n+1)=T (n+1):=if_neg (by omega)
   rw[e];show _=Ny T n+((n+1:Nat):Int) • T (n+1)+(d:Int) • p;generalize ((n+1:Nat):Int) • T (n+1)=x;generalize (d:Int) • p=y;grind
  ·rw[if_neg h]
   by_cases h2:d=n+1
   ·subst h2
    rw[if_pos (Nat.le_refl _)];have e:Nx T (n+1) p (n+1)=T (n+1)+p:=if_pos rfl;rw[e,RG];show _=Ny T n+((n+1:Nat):Int) • T (n+1)+((n+1:Nat):Int) • p;generalize ((n+1:Nat):Int) • T (n+1)=x;generalize ((n+1:Nat):Int) • p=y;grind
   ·rw[if_neg (by omega)]
    have e:Nx T d p (n+1)=T (n+1):=if_neg (fun h=>h2 h.symm)
    rw[e];rfl
def rM(T:Nat->M):Nat->M
 | 0=>0
 | n+1=>rM T n+T (16-n)
def oM(T:Nat->M):Nat->M
 | 0=>0
 | n+1=>oM T n+rM T (n+1)
theorem E0l(T:Nat->M):oM T 16=Ny T 16:=by
 simp only[oM,rM,Ny];grind
theorem C1k(hR:Rel R z){S:List (F×F×F)}{T:Nat->M}(h:∀i,i<=16->R (S.getD i z) (T i)):∀n,R (toR z S n) (rM T n)
 | 0=>hR.ze
 | n+1=>hR.pl (C1k hR h n) (h _ (by omega))
theorem C1j(hR:Rel R z){S:List (F×F×F)}{T:Nat->M}(h:∀i,i<=16->R (S.getD i z) (T i)):∀n,R (toO z S n) (oM T n)
 | 0=>hR.ze
 | n+1=>hR.pl (C1j hR h n) (C1k hR h (n+1))
theorem Gg{α:Type}(l:List α)(i j:Nat)(x z:α)(h:i<l.length):(l.set i x).getD j z=if j=i then x else l.getD j z:=by
 by_cases e:j=i
 ·subst e
  simp [List.getD,h]
 ·rw[if_neg e]
  simp [List.getD,List.getElem?_set_ne (Ne.symm e)]
theorem B1u(hR:Rel R z){ps:List (F×F×F)}{Ps:List M}(hl:Ps.length=ps.length)(hp:∀i,i<ps.length->R (ps.getD i z) (Ps.getD i 0)){ds:List Int}(hd:∀i,-16<=ds.getD i 0∧ds.getD i 0<=16) :
  ∀n,n<=ps.length->∃T:Nat->M,(∀i,i<=16->R ((bkN z (List.replicate 17 z) ps ds n).getD i z) (T i))∧Ny T 16=dot ((List.range n).map fun i=>ds.getD i 0) ((List.range n).map fun i=>Ps.getD i 0)
 | 0,_=>⟨fun _=>0,fun i hi=>by
   have e:(List.replicate 17 z).getD i z=z:=by
    rw[List.getD_eq_getElem?_getD,List.getElem?_replicate,if_pos (by omega)]
    rfl
   show R ((List.replicate 17 z).getD i z) 0;rw[e];exact hR.ze,by
   have h:∀n,Ny (fun _=>(0:M)) n=0:=fun n=>by
    induction n with
    | zero=>rfl
    | succ n ih=>
     show Ny (fun _=>(0:M)) n+((n+1:Nat):Int) • (0:M)=0
     rw[ih,WL,ad0]
   exact (h 16).trans (IW _).symm⟩
 | n+1,hn=>by
  obtain ⟨T,h1,h2⟩:=B1u hR hl hp hd n (by omega)
  have hdn:=hd n;have hlen:(bkN z (List.replicate 17 z) ps ds n).length=17:=by rw[Uy,List.length_replicate]
  have hdot:dot ((List.range (n+1)).map fun i=>ds.getD i 0) ((List.range (n+1)).map fun i=>Ps.getD i 0)=dot ((List.range n).map fun i=>ds.getD i 0) ((List.range n).map fun i=>Ps.getD i 0)+ds.getD n 0 • Ps.getD n 0:=by
   rw[List.range_succ,List.map_append,List.map_append];exact Xg _ _ _ _ (by simp)
  rw[hdot];show ∃T:Nat->M,(∀i,i<=16->R ((bkS z (bkN z (List.replicate 17 z) ps ds n) (ps.getD n z) (ds.getD n 0)).getD i z) (T i))∧_;have hpn:=hp n (by omega)
  generalize bkN z (List.replicate 17 z) ps ds n=S at *;generalize ds.getD n 0=d at *;generalize ps.getD n z=p at *;generalize Ps.getD n 0=P at *;by_cases hpos:d > 0
  ·obtain ⟨e,rfl⟩:=Int.eq_ofNat_of_zero_le (Int.le_of_lt hpos)
   refine ⟨Nx T e P,fun i hi=>?_,?_⟩
   ·have eS:bkS z S p (e:Int)=S.set e (jpl (S.getD e z) p):=if_pos hpos
    rw[eS,Gg _ _ _ _ _ (by omega)]
    by_cases hie:i=e
    ·subst hie
     rw[if_pos rfl];have eT:Nx T i P i=T i+P:=if_pos rfl;rw[eT];exact hR.pl (h1 _ hi) hpn
    ·rw[if_neg hie]
     have eT:Nx T e P i=T i:=if_neg hie;rw[eT];exact h1 _ hi
   ·rw[RB _ _ _ (by omega),if_pos (by omega),h2]
  ·by_cases hneg:d<0
   ·obtain ⟨e,he⟩:=Int.eq_ofNat_of_zero_le (a:=-d) (by omega)
    obtain rfl:d = -(e:Int):=by omega
    refine ⟨Nx T e (-P),fun i hi=>?_,?_⟩
    ·have eS:bkS z S p (-(e:Int))=S.set e (jpl (S.getD e z) (jng p)):=by
      unfold bkS;rw[if_neg hpos,if_pos hneg,Int.neg_neg,Int.toNat_natCast]
     rw[eS,Gg _ _ _ _ _ (by omega)]
     by_cases hie:i=e
     ·subst hie
      rw[if_pos rfl];have eT:Nx T i (-P) i=T i + -P:=if_pos rfl;rw[eT];exact hR.pl (h1 _ hi) (hR.ng hpn)
     ·rw[if_neg hie]
      have eT:Nx T e (-P) i=T i:=if_neg hie;rw[eT];exact h1 _ hi
    ·rw[RB _ _ _ (by omega),if_pos (by omega),h2,EZ,D7t]
   ·obtain rfl:d=0:=by omega
    refine ⟨T,fun i hi=>?_,?_⟩
    ·have eS:bkS z S p 0=S:=by unfold bkS;rw[if_neg A4,if_neg (by decide)]
     rw[eS];exact h1 _ hi
    ·rw[h2,Aw,ad0]
theorem Py{α:Type}(z:α)(l:List α){n:Nat}(h:n=l.length):((List.range n).map fun i=>l.getD i z)=l:=by
 subst h;apply List.ext_getElem
 ·simp
 ·intro i h1 h2
  simp [List.getD,h2]
theorem D0y(hR:Rel R z){ps:List (F×F×F)}{Ps:List M}(hl:Ps.length=ps.length)(hp:∀i,i<ps.length->R (ps.getD i z) (Ps.getD i 0)){ds:List Int}(hdl:ds.length=ps.length)(hd:∀i,-16<=ds.getD i 0∧ds.getD i 0<=16) :
  R (bkT z ps ds) (dot ds Ps):=by
 obtain ⟨T,h1,h2⟩:=B1u hR hl hp hd ps.length (Nat.le_refl _);have h3:=C1j hR h1 16;rw[E0l,h2,Py 0 ds hdl.symm,Py 0 Ps hl.symm] at h3;exact h3
theorem D9b(hR:Rel R z){a:F×F×F}{x:M}(h:R a x):R (Ef 5 a) ((32:Int) • x):=by
 have h1:=hR.tw (hR.tw (hR.tw (hR.tw (hR.tw h))));have e:x+x+(x+x)+(x+x+(x+x))+(x+x+(x+x)+(x+x+(x+x)))+(x+x+(x+x)+(x+x+(x+x))+(x+x+(x+x)+(x+x+(x+x))))=(32:Int) • x:=by grind
 rw[<-e];exact h1
theorem B1h(hR:Rel R z){ps:List (F×F×F)}{Ps:List M}(hl:Ps.length=ps.length)(hp:∀i,i<ps.length->R (ps.getD i z) (Ps.getD i 0)){L:List (List Int)}{m:Nat}(hL:L.length=ps.length)(hm:∀l,l∈L->l.length=m)(hd:∀l,l∈L->∀d,d∈l -> -16<=d∧d<=16) :
  ∀t,t<=m->R (alN z ps L m t) (dot (L.map fun l=>vlW (l.drop (m-t))) Ps)
 | 0,_=>by
  have e:dot (L.map fun l=>vlW (l.drop (m-0))) Ps=0:=by
   rw[show (L.map fun l=>vlW (l.drop (m-0)))=L.map fun _=>(0:Int) from List.map_congr_left fun l hl=>by rw[Nat.sub_zero,List.drop_eq_nil_of_le (Nat.le_of_eq (hm l hl))];rfl]
   exact SL L Ps
  rw[e];exact hR.ze
 | t+1,ht=>by
  have ih:=B1h hR hl hp hL hm hd t (by omega)
  have hrow:R (bkT z ps (BE L (m-1-t))) (dot (BE L (m-1-t)) Ps):=by
   refine D0y hR hl hp (by unfold BE;rw[List.length_map];exact hL) fun i=>?_
   unfold BE;rw[List.getD_eq_getElem?_getD,List.getElem?_map]
   cases e:L[i]? with
   | none=>
    show (-16:Int)<=0∧(0:Int)<=16;exact ⟨A4,A4⟩
   | some l=>
    have hmem:=List.mem_of_getElem? e;show -16<=l.getD (m-1-t) 0∧l.getD (m-1-t) 0<=16;have hlt:m-1-t<l.length:=by rw[hm l hmem];omega
    rw[List.getD_eq_getElem?_getD,List.getElem?_eq_getElem hlt];exact hd l hmem _ (List.getElem_mem hlt)
  have h:=hR.pl (D9b hR ih) hrow;have e:dot (L.map fun l=>vlW (l.drop (m-(t+1)))) Ps=(32:Int) • dot (L.map fun l=>vlW (l.drop (m-t))) Ps+dot (BE L (m-1-t)) Ps:=by
   unfold BE;refine A3r 32 _ _ _ L Ps fun l hmem=>?_
   have e1:m-(t+1)=m-1-t:=by omega
   have e2:m-t=m-1-t+1:=by omega
   rw[e1,e2];exact C1x l _ (by rw[hm l hmem];omega)
  rw[e];exact h
end
end
section
def D6.or(a b:D6):D6:={ a with fn:=fun f=>match a.fn f with | some s=>some s | none=>b.fn f }
theorem FD{P:Program}{a b:D6}(hA:A7 P a)(hB:A7 P b):A7 P (a.or b):=by
 refine ⟨hA.ty,hA.mixed,fun f s h=>?_,hA.mu,hA.inl,hA.ex,hA.inv⟩
 have h:(match a.fn f with | some s=>some s | none=>b.fn f)=some s:=h
 cases e:a.fn f with
 | some s' => rw[e] at h;exact hA.fn f s (by rw[e];exact h)
 | none=>rw[e] at h;exact hB.fn f s h
end
section
section
variable {F:Type} [Fld F] [DecidableEq F] {b:F}
def CP(b:F):Type:={ P:Pt F // OnC b P }
@[reducible] def UI(hc:Cv b):AG (CP b) where
 ad P Q:=⟨Q5 P.1 Q.1,Jh hc _ _ P.2 Q.2⟩
 ng P:=⟨B3u P.1,A4h _ P.2⟩
 ze:=⟨none,True.intro⟩
 ad_ze P:=Subtype.ext (BS _)
 ad_cm P Q:=Subtype.ext (SY hc _ _ P.2 Q.2)
 ad_as P Q S:=Subtype.ext (Hy hc _ _ _ P.2 Q.2 S.2)
 ng_ad P:=Subtype.ext (by
  show Q5 (B3u P.1) P.1=none;rw[SY hc _ _ (A4h _ P.2) P.2,A7w hc _ P.2])
def PE:List Nat->List (Pt F)->Pt F
 | k::ks,P::Ps=>Q5 (L9 P k) (PE ks Ps)
 | _,_=>none
theorem A4j(hc:Cv b):∀(ks:List Nat) (Ps:List (Pt F)),(∀P,P∈Ps->OnC b P)->OnC b (PE ks Ps)
 | [],_,_=>True.intro
 | _::_,[],_=>True.intro
 | k::ks,P::Ps,h=>Jh hc _ _ (EH hc (h P (List.mem_cons_self ..)) k) (A4j hc ks Ps fun Q hQ=>h Q (List.mem_cons_of_mem _ hQ))
theorem B7f(hc:Cv b)(P:CP b):∀n:Nat,(letI:=UI hc;AG.ns n P).1=L9 P.1 n
 | 0=>rfl
 | n+1=>by
  show Q5 (letI:=UI hc;AG.ns n P).1 P.1=Q5 (L9 P.1 n) P.1
  rw[B7f hc P n]
theorem A3s(hc:Cv b):∀(ks:List Nat) (Ps:List (CP b)),(letI:=UI hc;dot (ks.map fun k:Nat=>(k:Int)) Ps).1=PE ks (Ps.map (·.1))
 | [],Ps=>by
  letI:=UI hc
  show (dot ([]:List Int) Ps).1=none;rw[IW];rfl
 | _::_,[]=>rfl
 | k::ks,P::Ps=>by
  show Q5 (letI:=UI hc;AG.ns k P).1 (letI:=UI hc;dot (ks.map fun k:Nat=>(k:Int)) Ps).1=Q5 (L9 P.1 k) (PE ks (Ps.map (·.1)))
  rw[B7f,A3s hc ks Ps]
theorem D1f(hc:Cv b)(z:F×F×F)(hz:z.2.2=0):letI:=UI hc;Rel (F:=F) (M:=CP b) (fun a P=>Jc P.1 a) z:=by
 letI:=UI hc
 exact ⟨hz,fun {a b x y} h1 h2=>La hc.two _ _ _ _ h1 h2,fun {a x} h=>Lc hc.two _ _ h,fun {a x} h=>D2c _ _ h⟩
def RI(n:Nat)(ks:List Nat):List (List Int):=ks.map fun k=>(dgW k n).1
theorem C3h{k n:Nat}(hn:n=52)(h:k<2 ^ 256):vlW ((dgW k n).1.drop (n-n))=(k:Int):=by
 rw[Nat.sub_self,List.drop_zero];exact (A3m hn h).1
theorem B2y{n:Nat}(hn:n=52){ks:List Nat}(hk:∀k,k∈ks->k<2 ^ 256):(RI n ks).map (fun l=>vlW (l.drop (n-n)))=ks.map fun k:Nat=>(k:Int):=by
 unfold RI;rw[List.map_map];exact List.map_congr_left fun k hm=>C3h hn (hk k hm)
theorem B5k{n:Nat}(hn:n=52)(hc:Cv b)(z:F×F×F)(hz:z.2.2=0){ps:List (F×F×F)}{Ps:List (Pt F)}(hl:Ps.length=ps.length)(hon:∀P,P∈Ps->OnC b P)(hp:∀i,i<ps.length->Jc (Ps.getD i none) (ps.getD i z)){ks:List Nat}(hkl:ks.length=ps.length)(hk:∀k,k∈ks->k<2 ^ 256) :
  Jc (PE ks Ps) (alN z ps (RI n ks) n n):=by
 letI:=UI hc
 let Qs:List (CP b):=Ps.attach.map fun P=>⟨P.1,hon P.1 P.2⟩
 have hQ:Qs.map (·.1)=Ps:=by
  show (Ps.attach.map fun P=>(⟨P.1,hon P.1 P.2⟩:CP b)).map (·.1)=Ps
  rw[List.map_map];exact List.attach_map_subtype_val Ps
 have hQl:Qs.length=ps.length:=by rw[<-hl,<-hQ,List.length_map]
 have hget:∀i,(Qs.getD i 0).1=Ps.getD i none:=fun i=>by
  rw[<-hQ,List.getD_eq_getElem?_getD,List.getD_eq_getElem?_getD,List.getElem?_map]
  cases Qs[i]?<;>rfl
 have h:=B1h (D1f hc z hz) (L:=RI n ks) (m:=n) hQl (fun i hi=>by
   show Jc (Qs.getD i 0).1 (ps.getD i z);rw[hget];exact hp i hi) (by unfold RI;rw[List.length_map];exact hkl) (fun l hm=>by
   obtain ⟨k,_,rfl⟩:=List.mem_map.1 hm;exact Gx k n) (fun l hm d hd=>by
   obtain ⟨k,_,rfl⟩:=List.mem_map.1 hm;exact Gy k n d hd) n (Nat.le_refl _)
 rw[B2y hn hk] at h;have h:Jc (dot (ks.map fun k:Nat=>(k:Int)) Qs).1 (alN z ps (RI n ks) n n):=h
 rw[A3s hc ks Qs,hQ] at h;exact h
end
end
section
def C3j(D:List Int):Prop:=∀i,-16<=D.getD i 0∧D.getD i 0<=16
def dgK(N:Nat)(k:List U4):List (List Int):=RI N (k.map (·.val))
def mst(N:Nat):List U4->Nat
 | []=>0
 | _::_=>N
theorem A3j(N:Nat)(k:List U4):(dgK N k).length=k.length:=by unfold dgK RI;rw[List.length_map,List.length_map]
theorem UK(N:Nat)(k:List U4)(i:Nat)(h:i<k.length):(dgK N k).getD i []=(dgW (k.getD i 0).val N).1:=by
 unfold dgK RI;simp [List.getD,h]
theorem C3e{N:Nat}(k:List U4)(i:Nat)(h:i<k.length):((dgK N k).getD i []).length=N:=by
 rw[UK N k i h,Gx]
theorem C3d(N:Nat)(k:List U4)(i j:Nat):-16<=((dgK N k).getD i []).getD j 0∧((dgK N k).getD i []).getD j 0<=16:=by
 by_cases h:i<k.length
 ·rw[UK N k i h]
  by_cases h2:j<(dgW (k.getD i 0).val N).1.length
  ·rw[List.getD_eq_getElem?_getD,List.getElem?_eq_getElem h2]
   exact Gy _ _ _ (List.getElem_mem h2)
  ·rw[List.getD_eq_getElem?_getD,List.getElem?_eq_none (by omega)]
   show (-16:Int)<=0∧(0:Int)<=16;exact ⟨A4,A4⟩
 ·have:(dgK N k).getD i []=[]:=by rw[List.getD_eq_getElem?_getD,List.getElem?_eq_none (by rw[A3j];omega)];rfl
  rw[this];show (-16:Int)<=0∧(0:Int)<=16;exact ⟨A4,A4⟩
def smJ{F:Type}[Add F][Sub F][Mul F][OfNat F 0][DecidableEq F](N:Nat)(z:F×F×F)(P:List (F×F×F))(k:List U4):F×F×F:=alN z P (dgK N k) (mst N k) (mst N k)
theorem Ua(L:List (List Int))(h i:Nat):(BE L h).getD i 0=(L.getD i []).getD h 0:=by
 unfold BE;rw[List.getD_eq_getElem?_getD,List.getElem?_map,List.getD_eq_getElem?_getD (l:=L)]
 cases L[i]? with
 | none=>rfl
 | some l=>rfl
theorem C8h{D:List Int}{L:List (List Int)}{h:Nat}(hl:D.length=L.length)(hg:∀j,j<L.length->D.getD j 0=(L.getD j []).getD h 0):D=BE L h:=by
 have hr:(BE L h).length=L.length:=by unfold BE;rw[List.length_map]
 apply List.ext_getElem (by rw[hl,hr])
 intro i h1 h2;have e:=hg i (by omega)
 rw[<-Ua,List.getD_eq_getElem?_getD,List.getD_eq_getElem?_getD,List.getElem?_eq_getElem h1,List.getElem?_eq_getElem h2] at e;exact e
theorem Md{α:Type}(l:List α)(z:α){i:Nat}(h:i<l.length):l.take i++[l.getD i z]=l.take (i+1):=by
 rw[List.take_add_one,List.getElem?_eq_getElem h,List.getD_eq_getElem?_getD,List.getElem?_eq_getElem h];rfl
theorem Cd{α β:Type}(f:α->β)(l:List α)(a:α)(b:β){i:Nat}(h:i<l.length):(l.map f).getD i b=f (l.getD i a):=by
 simp [List.getD,h]
def Fe(a b:Int)(w:Bool):Int:=if a=b then if a > 4096 then 2 else if w then 30 else 0 else 3
theorem B2g{a b:Int}{w:Bool}(h:¬a=b):Fe a b w=3:=if_neg h
theorem B2f{a b:Int}{w:Bool}(h:a=b)(h2:a > 4096):Fe a b w=2:=by unfold Fe;rw[if_pos h,if_pos h2]
theorem C9z{a b:Int}{w:Bool}(h:a=b)(h2:¬a > 4096)(hw:w=true):Fe a b w=30:=by unfold Fe;rw[if_pos h,if_neg h2,if_pos hw]
theorem B2h{a b:Int}{w:Bool}(h:a=b)(h2:¬a > 4096)(hw:w=false):Fe a b w=0:=by unfold Fe;rw[if_pos h,if_neg h2,hw,if_neg Bool.false_ne_true]
theorem B2i{a b:Int}{w:Bool}(h:Fe a b w=0):a=b∧¬a > 4096∧w=false:=by
 by_cases h1:a=b
 ·by_cases h2:a > 4096
  ·rw[B2f h1 h2] at h;exact absurd h A4
  ·cases w with
   | true=>rw[C9z h1 h2 rfl] at h;exact absurd h A4
   | false=>exact ⟨h1,h2,rfl⟩
 ·rw[B2g h1] at h;exact absurd h A4
theorem D3e{x:C0}{q:Sq}(hq:q.n=0){v:Value}(h:B8 x (.v (.c (.val (.slice none 0 0)))) v):B8 x (.v (.c (.sl q))) v:=by
 obtain ⟨h0,d,hd⟩:=h;have e:[v]=[Value.slice none 0 0]:=by cases d<;>exact hd.1
 exact ⟨rfl,1,.inl ⟨none,0,e,hq⟩⟩
end
section
def Be(x:C0)(keep:List Nat)(p r:Nat):C0:={ x with β:=fun q=>if q=r then x.β p else x.β q,k:=fun q=>if q=r then .real else if U7 q keep then x.k q else .no }
section
variable {w0:World} {F0:Nat->Prop} {K:Kp} {aq:List Act} {x:C0} {a:Act} {keep:List Nat} {p r:Nat}
theorem B6m(hr:x.k r = .no):Ext (G6 x keep) (Be x keep p r):=by
 have hne:∀q,(G6 x keep).k q ≠ .no->q≠r:=fun q hq e=>by
  subst e;apply hq
  simp only[G6,hr];split<;>rfl
 refine ⟨Nat.le_refl _,fun _ h=>⟨h,rfl⟩,fun q hq=>?_,fun q hq=>?_,fun q hq cs ty h=>⟨cs,h,rfl⟩⟩
 ·show (if q=r then Kd.real else if U7 q keep then x.k q else .no)=_
  rw[if_neg (hne q hq)];rfl
 ·show (if q=r then x.β p else x.β q)=x.β q
  rw[if_neg (hne q (by rw[hq];intro h;cases h))]
def B2o(keep:List Nat)(p r:Nat):List SV->List SV->Prop
 | [],[]=>True
 | s::l,s' :: l' => ((s' = s∧C8e keep s=true)∨∃off,s = .v (.c (.ptr p off))∧s' = .v (.c (.ptr r off)))∧B2o keep p r l l'
 | _,_=>False
theorem D3c{off:Nat}{v:Value}(h:B8 x (.v (.c (.ptr p off))) v):B8 (Be x keep p r) (.v (.c (.ptr r off))) v:=by
 obtain ⟨h0,d,hd⟩:=h;refine ⟨h0,d,?_⟩
 cases d<;>(simp only[F8] at hd ⊢;exact ⟨by simp [Be],by rw[hd.2];simp [Be]⟩)
theorem A4t(hr:x.k r = .no):∀{tl:List Nat} {svs svs' : List SV},B2o keep p r svs svs' -> ∀t v,B8 x (C7 .top tl svs t) v->B8 (Be x keep p r) (C7 .top tl svs' t) v
 | [],svs,svs',_,t,v,_=>by
  cases svs'<;>trivial
 | _::_,[],[],_,t,v,_=>trivial
 | _::_,[],_::_,h,_,_,_=>h.elim
 | _::_,_::_,[],h,_,_,_=>h.elim
 | n::tl,s::l,s' :: l',h,t,v,hd=>by
  simp only[C7] at hd ⊢
  by_cases e:t=n
  ·rw[if_pos e] at hd ⊢
   rcases h.1 with ⟨e1,h1⟩ | ⟨off,e1,e2⟩
   ·rw[e1]
    exact Ba (B6m hr) (ZV h1 hd)
   ·subst e1 e2
    exact D3c hd
  ·rw[if_neg e] at hd ⊢
   exact A4t hr h.2 t v hd
theorem Js:∀{ml:List Nat} {ens:List (Option En)} {q:Nat},C7 none ml ens q≠none->U7 q ml=true
 | [],_,_,h=>by simp [C7] at h
 | _::_,[],_,h=>by simp [C7] at h
 | n::ml,e::ens,q,h=>by
  simp only[C7] at h;simp only[U7];by_cases hq:q=n
  ·rw[if_pos hq.symm]
  ·rw[if_neg hq] at h
   rw[if_neg (Ne.symm hq)];exact Js h
theorem Vm:∀{ml:List Nat} {ens:List (Option En)},CC keep ens=true->∀{q:Nat} {l:List It},C7 none ml ens q=some (.fl l)->Io keep l=true
 | [],_,_,_,_,h=>by simp [C7] at h
 | _::_,[],_,_,_,h=>by simp [C7] at h
 | n::ml,some (.fl s)::ens,h,q,l,hl=>by
  simp only[C7] at hl;simp only[CC,Bool.and_eq_true] at h;by_cases hq:q=n
  ·rw[if_pos hq] at hl;cases hl;exact h.1
  ·rw[if_neg hq] at hl;exact Vm h.2 hl
 | n::ml,some (.sq s)::ens,h,q,l,hl=>by
  simp only[C7] at hl;simp only[CC] at h;by_cases hq:q=n
  ·rw[if_pos hq] at hl;cases hl
  ·rw[if_neg hq] at hl;exact Vm h hl
 | _::_,none::_,h,_,_,_=>by cases h
theorem Jl{keep:List Nat}:∀{ml:List Nat},(ml.all fun q=>decide (q=p) || U7 q keep)=true->∀{q:Nat},U7 q ml=true->q≠p->U7 q keep=true
 | [],_,_,h,_=>by cases h
 | n::ml,ha,q,h,hq=>by
  simp only[List.all_cons,Bool.and_eq_true] at ha;simp only[U7] at h;split at h
  ·rename_i e
   subst e;have:=ha.1
   simpa [hq] using this
  ·exact Jl ha.2 h hq
theorem Sim.move{nt nx:Nat}{tl:List Nat}{svs:List SV}{ml:List Nat}{ens:List (Option En)}
  (hs:Sim w0 F0 K aq (B0 nt tl svs ml ens nx [] []) x a) (keep:List Nat) (p r:Nat) (hpin:K.pin=none) (hp:∃l,C7 none ml ens p=some (.fl l)) (hr:C7 none ml ens r=none) (hkp:U7 p keep=false) (hkr:U7 r keep=false) (hkm:(ml.all fun q=>decide (q=p) || U7 q keep)=true)
  (he:CC keep ens=true) {svs' : List SV} (hc:B2o keep p r svs svs') {ml' : List Nat} {ens' : List (Option En)} (hl:∀q,C7 none ml' ens' q=if q=r then C7 none ml ens p else if q=p then none else C7 none ml ens q) :
  Sim w0 F0 K aq (B0 nt tl svs' ml' ens' nx [] []) (Be x keep p r) a:=by
 have hm:=hs.mem;have hno:x.k r = .no:=(hm.dom r).1 hr;obtain ⟨l0,hp⟩:=hp;have hreal:x.k p = .real:=hm.fl p l0 hp;have hpr:p≠r:=fun e=>by rw[e,hr] at hp;cases hp
 have hext:=B6m (keep:=keep) (p:=p) hno;have kr:(Be x keep p r).k r = .real:=by simp [Be]
 have br:(Be x keep p r).β r=x.β p:=by simp [Be]
 have ko:∀q,q≠r->(Be x keep p r).k q=if U7 q keep then x.k q else .no:=fun q hq=>by simp [Be,hq]
 have bo:∀q,q≠r->(Be x keep p r).β q=x.β q:=fun q hq=>by simp [Be,hq]
 have kreal:∀q,q≠r->(Be x keep p r).k q = .real->x.k q = .real∧q≠p:=fun q hq h=>by
  rw[ko q hq] at h;split at h
  ·rename_i hk
   exact ⟨h,fun e=>by rw[e,hkp] at hk;cases hk⟩
  ·cases h
 have den_ok:∀q e cs,C7 none ml ens q=some e->C9 x e cs->C9 (Be x keep p r) e cs:=fun q e cs hq hd=>by
  refine K8 hext ?_
  cases e with
  | fl l=>exact Jq (Vm he hq) hd
  | sq q=>exact ⟨hd.1,fun i hi=>let ⟨c,hc,hj⟩:=hd.2 i hi;⟨c,AZ (x:=x) (y:=G6 x keep) rfl (fun b hb=>hb) (O8 q i) hc,hj⟩⟩
 refine ⟨hs.defers,hs.nt,fun t=>A4t hno hc t _ (hs.t t),?_,?_,?_⟩
 ·refine ⟨fun q=>?_,fun q l hq=>?_,fun q s hq hn=>?_,fun q e hq hk=>?_,fun q s hq hs e=>?_,fun q hq=>?_,fun b hb=>hm.fw b hb⟩
  ·show C7 none ml' ens' q=none↔_
   rw[hl];by_cases e:q=r
   ·subst e
    rw[if_pos rfl,hp,kr];constructor<;>(intro h;cases h)
   ·rw[if_neg e,ko q e]
    by_cases e2:q=p
    ·subst e2
     rw[if_pos rfl,hkp];exact ⟨fun _=>rfl,fun _=>rfl⟩
    ·rw[if_neg e2]
     by_cases hk:U7 q keep=true
     ·rw[if_pos hk]
      exact hm.dom q
     ·rw[if_neg hk]
      refine ⟨fun _=>rfl,fun _=>?_⟩
      by_cases hn:C7 none ml ens q=none
      ·exact hn
      ·exact absurd (Jl hkm (Js hn) e2) hk
  ·have hq:C7 none ml' ens' q=some (.fl l):=hq
   rw[hl] at hq;by_cases e:q=r
   ·subst e;exact kr
   ·rw[if_neg e] at hq
    by_cases e2:q=p
    ·rw[if_pos e2] at hq;cases hq
    ·rw[if_neg e2] at hq
     rw[ko q e,if_pos (Jl hkm (Js (by rw[hq];intro h;cases h)) e2)]
     exact hm.fl q l hq
  ·have hq:C7 none ml' ens' q=some (.sq s):=hq
   rw[hl] at hq;by_cases e:q=r
   ·subst e;rw[kr] at hn;cases hn
   ·rw[if_neg e] at hq
    by_cases e2:q=p
    ·rw[if_pos e2] at hq;cases hq
    ·rw[if_neg e2] at hq
     rw[ko q e,if_pos (Jl hkm (Js (by rw[hq];intro h;cases h)) e2)] at hn
     exact hm.nil q s hq hn
  ·have hq:C7 none ml' ens' q=some e:=hq
   rw[hl] at hq;by_cases e1:q=r
   ·subst e1
    rw[if_pos rfl] at hq;obtain ⟨cs,ty,h1,h2⟩:=hm.ent p e hq hreal;exact ⟨cs,ty,by rw[br];exact h1,den_ok p e _ hq h2⟩
   ·obtain ⟨g1,g2⟩:=kreal q e1 hk
    rw[if_neg e1,if_neg g2] at hq;obtain ⟨cs,ty,h1,h2⟩:=hm.ent q e hq g1;exact ⟨cs,ty,by rw[bo q e1];exact h1,den_ok q e _ hq h2⟩
  ·by_cases e1:q=r
   ·by_cases e2:s=r
    ·rw[e1,e2]
    ·obtain ⟨g1,g2⟩:=kreal s e2 hs
     rw[e1,br,bo s e2] at e;exact absurd (hm.inj p s hreal g1 e).symm g2
   ·obtain ⟨g1,g2⟩:=kreal q e1 hq
    by_cases e2:s=r
    ·rw[e2,br,bo q e1] at e
     exact absurd (hm.inj q p g1 hreal e) g2
    ·obtain ⟨g3,_⟩:=kreal s e2 hs
     rw[bo q e1,bo s e2] at e;exact hm.inj q s g1 g3 e
  ·by_cases e:q=r
   ·rw[e,br];exact hm.own p hreal
   ·rw[bo q e];exact hm.own q (kreal q e hq).1
 ·have hb:=hs.base
  refine ⟨hb.f0,hb.fn,hb.size,hb.keep,fun q hq hlt=>?_,hb.os,hb.tape,hb.output,fun q hq=>by rw[hpin] at hq;cases hq⟩
  by_cases e:q=r
  ·rw[e,br] at hlt ⊢
   exact hb.ownK p hreal hlt
  ·rw[bo q e] at hlt ⊢
   exact hb.ownK q (kreal q e hq).1 hlt
 ·have hf:Frs x K.ds [] aq:=hs.frs
  cases hf
  exact .nil
end
end
section
def Du(l:List G0)(s:K5):List It:=[.sl (.g1 l),.ob (.fp s.xa),.ob (.fp s.xb),.ob (.fp s.ya),.ob (.fp s.yb),.bool s.inf]
end
section
section
variable {w0:World} {F0:Nat->Prop} {K:Kp} {aq:List Act} {x:C0} {a:Act}
def UH(p:Nat):List It->List It->Prop
 | [],[]=>True
 | i::l,i' :: l' => (i' = i∨(∃es,i = .val (.slice none 0 0)∧i' = .slc p 0 0 es)∨∃b,i = .lit b∧i' = .bool b)∧UH p l l'
 | _,_=>False
theorem SD{p:Nat}(hk:x.k p = .nil):∀{l l' : List It} {cs:List Value},UH p l l' -> C6 x.D l cs->C6 x.D l' cs
 | [],[],_,_,h=>h
 | [],_::_,_,h,_=>h.elim
 | _::_,[],_,h,_=>h.elim
 | i::l,i' :: l',_,h,⟨c1,c2,e,h1,h2⟩=>by
  refine ⟨c1,c2,e,?_,SD hk h.2 h2⟩
  rcases h.1 with e1 | ⟨es,e1,e2⟩ | ⟨b,e1,e2⟩
  ·rw[e1];exact h1
  ·subst e1 e2
   obtain ⟨d,hd⟩:=h1;have hv:c1=[Value.slice none 0 0]:=by cases d<;>exact hd.1
   exact ⟨0,.inl ⟨hk,rfl,rfl,hv⟩⟩
  ·subst e1 e2
   obtain ⟨d,hd⟩:=h1;exact ⟨d,by cases d<;>exact hd⟩
theorem Sim.nilBlk{nt nx:Nat}{tl:List Nat}{svs:List SV}{ml ml' : List Nat}{ens ens' : List (Option En)}{ftl:List (List Nat)}{fsv:List (List SV×Nat)}
  (hs:Sim w0 F0 K aq (B0 nt tl svs ml ens nx ftl fsv) x a) {p z:Nat} (hp:C7 none ml ens p=none) (hp0:p≠0) {q:Sq} (hq:q.n=0) {l l' : List It} (hz:C7 none ml ens z=some (.fl l)) (hc:UH p l l')
  (hl:∀r,C7 none ml' ens' r=if r=p then some (.sq q) else if r=z then some (.fl l') else C7 none ml ens r) :
  Sim w0 F0 K aq (B0 nt tl svs ml' ens' nx ftl fsv) (G4 x p) a:=by
 have hm:=hs.mem;have hno:x.k p = .no:=(hm.dom p).1 hp;have hext:=A4z (x:=x) hno;have hself:(G4 x p).k p = .nil:=by simp [G4]
 have hoth:∀r,r≠p->(G4 x p).k r=x.k r:=fun r hr=>by simp [G4,hr]
 have hzp:z≠p:=fun e=>by rw[e,hp] at hz;cases hz
 have hget:∀r,r≠p->r≠z->C7 none ml' ens' r=C7 none ml ens r:=fun r hr hr2=>by rw[hl,if_neg hr,if_neg hr2]
 have hgp:C7 none ml' ens' p=some (.sq q):=by rw[hl,if_pos rfl]
 have hgz:C7 none ml' ens' z=some (.fl l'):=by rw[hl,if_neg hzp,if_pos rfl]
 refine ⟨hs.defers,hs.nt,fun t=>Ba hext (hs.t t),?_,?_,hs.frs.ext hext⟩
 ·refine ⟨fun r=>?_,fun r s hr=>?_,fun r s hr hn=>?_,fun r e hr hrl=>?_,fun r s hr hs e=>hm.inj r s (V3 hr) (V3 hs) e,fun r hr=>hm.own r (V3 hr),fun b hb=>hm.fw b hb⟩
  ·show C7 none ml' ens' r=none↔(G4 x p).k r = .no
   by_cases e:r=p
   ·subst e;rw[hgp,hself]
    constructor<;>(intro h;cases h)
   ·rw[hoth r e]
    by_cases e2:r=z
    ·subst e2
     rw[hgz];constructor
     ·intro h;cases h
     ·intro h;have h2:C7 none ml ens r=none:=(hm.dom r).2 h;rw[h2] at hz;cases hz
    ·rw[hget r e e2]
     exact hm.dom r
  ·have hr:C7 none ml' ens' r=some (.fl s):=hr
   by_cases e:r=p
   ·subst e;rw[hgp] at hr;cases hr
   ·rw[hoth r e]
    by_cases e2:r=z
    ·subst e2;exact hm.fl r l hz
    ·rw[hget r e e2] at hr
     exact hm.fl r s hr
  ·have hr:C7 none ml' ens' r=some (.sq s):=hr
   by_cases e:r=p
   ·subst e;rw[hgp] at hr;cases hr;exact hq
   ·by_cases e2:r=z
    ·subst e2;rw[hgz] at hr;cases hr
    ·rw[hget r e e2] at hr
     rw[hoth r e] at hn;exact hm.nil r s hr hn
  ·have hr:C7 none ml' ens' r=some e:=hr
   have e1:r≠p:=fun h=>by rw[h,hself] at hrl;cases hrl
   by_cases e2:r=z
   ·subst e2
    rw[hgz] at hr
    cases hr
    obtain ⟨cs,ty,hcc,hde⟩:=hm.ent r (.fl l) hz (V3 hrl);have h3:C6 (G4 x p).D l cs.toList:=K8 (e:=.fl l) hext hde;exact ⟨cs,ty,hcc,SD hself hc h3⟩
   ·rw[hget r e1 e2] at hr
    obtain ⟨cs,ty,hcc,hde⟩:=hm.ent r e hr (V3 hrl);exact ⟨cs,ty,hcc,K8 hext hde⟩
 ·have hb:=hs.base
  refine ⟨hb.f0,hb.fn,hb.size,hb.keep,fun r hr=>hb.ownK r (V3 hr),hb.os,hb.tape,hb.output,fun r hr=>?_⟩
  obtain ⟨h1,h2,h3⟩:=hb.pin r hr;exact ⟨h1,by rw[hoth 0 (Ne.symm hp0)];exact h2,h3⟩
end
theorem TB(p:Nat)(x:Option En):∀{ml:List Nat} {ens:List (Option En)},ml.length=ens.length->∀r,C7 none (ml++[p]) (ens++[x]) r=if r∈ml then C7 none ml ens r else if r=p then x else none
 | [],[],_,r=>by simp [C7]
 | q::ml,e::ens,h,r=>by
  have ih:=TB p x (Nat.succ.inj h) r;simp only[List.cons_append,C7,List.mem_cons];by_cases hr:r=q
  ·simp [hr]
  ·simp only[hr,false_or]
   simpa using ih
theorem XO{ml:List Nat}:∀{ens:List (Option En)} {r:Nat},r ∉ ml->C7 none ml ens r=none:=by
 induction ml with
 | nil=>intro ens r _;cases ens<;>rfl
 | cons q ml ih=>
  intro ens r h;simp only[List.mem_cons,not_or] at h
  cases ens with
  | nil=>rfl
  | cons e ens=>simp only[C7,h.1,if_false];exact ih h.2
theorem XP{z:Nat}{e:Option En}:∀{ml:List Nat} {ens:List (Option En)} {i:Nat},ml.length=ens.length->ml[i]? = some z->z ∉ ml.take i->∀r,C7 none ml (ens.set i e) r=if r=z then e else C7 none ml ens r
 | [],_,_,_,h,_,_=>by simp at h
 | q::ml,e' :: ens,0,_,h,_,r=>by
  have h:q=z:=by simpa using h
  subst h;simp only[List.set_cons_zero,C7];by_cases hr:r=q<;>simp [hr]
 | q::ml,e' :: ens,i+1,hl,h,hn,r=>by
  have ih:=XP (e:=e) (Nat.succ.inj hl) (by simpa using h) (fun g=>hn (by simp [g])) r
  have hq:z≠q:=fun g=>hn (by simp [g])
  simp only[List.set_cons_succ,C7];by_cases hr:r=q
  ·subst hr;simp [hq.symm]
  ·by_cases hz:r=z
   ·subst hz;simp [hr] at ih ⊢;exact ih
   ·simp [hr,hz] at ih ⊢;exact ih
theorem Sim.nilB{w0:World}{F0:Nat->Prop}{K:Kp}{aq:List Act}{x:C0}{a:Act}{nt nx:Nat}{tl:List Nat}{svs:List SV}{ml:List Nat}{ens:List (Option En)}{ftl:List (List Nat)}{fsv:List (List SV×Nat)}
  (hs:Sim w0 F0 K aq (B0 nt tl svs ml ens nx ftl fsv) x a) (p i:Nat) {z:Nat} {q:Sq} {l l' : List It} (h1:ml.length=ens.length) (h2:ml[i]? = some z) (h3:z ∉ ml.take i) (h4:p ∉ ml) (hp0:p≠0) (hq:q.n=0) (hz:C7 none ml ens z=some (.fl l)) (hc:UH p l l') :
  Sim w0 F0 K aq (B0 nt tl svs (ml++[p]) (ens.set i (some (.fl l'))++[some (.sq q)]) nx ftl fsv) (G4 x p) a:=by
 have hzm:z∈ml:=List.mem_of_getElem? h2;refine hs.nilBlk (p:=p) (z:=z) (XO h4) hp0 hq hz hc fun r=>?_
 rw[TB p _ (by rw[List.length_set];exact h1),XP h1 h2 h3]
 by_cases hr:r=p
 ·subst hr;rw[if_neg h4,if_pos rfl,if_pos rfl]
 ·rw[if_neg hr,if_neg hr]
  by_cases hm:r∈ml
  ·rw[if_pos hm]
  ·rw[if_neg hm,XO hm,if_neg (show ¬r=z from fun e=>hm (by rw[e];exact hzm))]
end
section
def D1g(x y:C0):List SV->List SV->Prop
 | [],[]=>True
 | s::l,s' :: l' => (∀v,B8 x s v->B8 y s' v)∧D1g x y l l'
 | _,_=>False
theorem Tz{x y:C0}:∀{tl:List Nat} {svs svs' : List SV},D1g x y svs svs' -> ∀j v,B8 x (C7 .top tl svs j) v->B8 y (C7 .top tl svs' j) v
 | [],_,_,_,_,_,_=>trivial
 | _::_,[],[],_,_,_,_=>trivial
 | _::_,[],_::_,h,_,_,_=>h.elim
 | _::_,_::_,[],h,_,_,_=>h.elim
 | t::tl,s::l,s' :: l',h,j,v,hd=>by
  simp only[C7] at hd ⊢
  by_cases hj:j=t
  ·simp only[hj,if_true] at hd ⊢;exact h.1 v hd
  ·simp only[hj,if_false] at hd ⊢;exact Tz h.2 j v hd
theorem ZA{x y:C0}{u:Value}:∀v,B8 x (.v (.c (.val u))) v->B8 y (.v (.c (.val u))) v:=fun v h=>⟨rfl,0,by obtain ⟨rfl,h1⟩:=U0 h;exact ⟨rfl,h1⟩⟩
theorem Bm{x y:C0}{k:IntKind}{n:Int}:∀v,B8 x (.v (.c (.int k n))) v->B8 y (.v (.c (.int k n))) v:=fun v h=>by rw[M9 h];exact ⟨rfl,0,rfl⟩
theorem ZB{x y:C0}{u:Value}{q:Sq}(h:y.D (.sl q) [u]):∀v,B8 x (.v (.c (.vsl u q))) v->B8 y (.v (.c (.vsl u q))) v:=fun v hv=>by
 have e:=(A2t hv.2).1;simp only[List.cons.injEq,and_true] at e;subst e;exact ⟨rfl,C0e h⟩
theorem ED{x y:C0}{s:SV}:∀v,B8 x s v->B8 y .top v:=fun _ _=>trivial
theorem Zz{z y:C0}{q:Nat}(hβ:z.β 0=y.β q):∀v,B8 z (.v (.c (.ptr 0 0))) v->B8 (D5 y q) (.v (.c (.ptr 0 0))) v:=fun v h=>by
 obtain ⟨_,rfl⟩:=GX h;exact ⟨rfl,0,rfl,by show _=[Value.pointer (some ⟨y.β q,0,none⟩)];rw[hβ]⟩
section
variable {P:Program} {y:C0} {m:Nat->Option En} {q:Nat} {e e' : En}
theorem PP{z:C0}{nt nx nx' : Nat}{tl:List Nat}{svs svs' : List SV}{ml:List Nat}{ens:List (Option En)}{w0:World}{F0:Nat->Prop}{K:Kp}{as:List Act}{a:Act}(hs:Sim w0 F0 K as (B0 nt tl svs ml ens nx [] []) z a)(hds:K.ds=[])
  (hm:P0 y m) (hp:m q=some e) (hr:y.k q = .real) (hd:∀(cs:Array Value) ty,y.w.heap[y.β q]? = some (.cells cs ty (0,0))->C9 y e cs.toList->C9 (D5 y q) e' cs.toList) (hc:D1g z (D5 y q) svs svs') {dst:Nat} {b:Bool} (hdst:Nat.blt dst nt=true) :
  Sim y.w y.F (HA (D5 y q)) as ⟨M7 (C7 .top tl svs') dst (.v (.c (.lit b))),one e',nt,nx',[]⟩ (D5 y q) (a.put (some dst) (.bool b)):=by
 have hfr:Frs z K.ds [] as:=hs.frs
 cases hfr
 have had:a.defers=[]:=hs.defers.trans hds;refine KY hm hp hr hd (by simpa [Act.put] using had) (by have:=hs.nt;simp [Act.put];exact this) fun j=>?_
 have h0:=Tz hc j _ (hs.t j);show B8 _ (M7 (C7 .top tl svs') dst (.v (.c (.lit b))) j) _;unfold M7;by_cases hj:j=dst
 ·subst hj
  simp only[if_true];have hlt:j<a.tmps.size:=by
   have h1:=hs.nt;have h2:a.tmps.size=nt:=h1;rw[h2];simpa [Nat.blt_eq] using hdst
  simp only[Act.put,Array.getD_eq_getD_getElem?,Array.getElem?_setIfInBounds,if_true,hlt,Option.getD_some];exact ⟨rfl,0,rfl⟩
 ·simp only[hj,if_false]
  have:(a.put (some dst) (.bool b)).tmps.getD j undef=a.tmps.getD j undef:=by
   simp [Act.put,Array.getD_eq_getD_getElem?,Ne.symm hj]
  rw[this];exact h0
end
end
section
def A3z:List It->Bool
 | []=>true
 | i::l=>C3n i && A3z l
theorem WT{x y:C0}:∀{l:List It} {cs us:List Value},A3z l=true->C6 x.D l cs->C6 y.D l us->cs=us
 | [],_,_,_,h1,h2=>by
  have h1:_=[]:=h1;have h2:_=[]:=h2;rw[h1,h2]
 | i::l,_,_,h,⟨c1,c2,e1,⟨d1,g1⟩,r1⟩,⟨u1,u2,e2,⟨d2,g2⟩,r2⟩=>by
  simp only[A3z,Bool.and_eq_true] at h;rw[e1,e2,A4a h.1 g1 g2,WT h.2 r1 r2]
section
variable {y:C0} {p:Nat}
theorem Jp{l:List It}{as:List Act}{σ:St}{z:C0}{a:Act}(hm:P0 (D5 y p) (one (.fl l)))(hi:A3z l=true)(hs:Sim y.w y.F (HA (D5 y p)) as σ z a)(hσ:σ.m 0=some (.fl l)) :
  y.w.grownBy z.w none∧z.k 0 = .real∧z.β 0=y.β p:=by
 obtain ⟨hn0,hp1,hp2⟩:=hs.base.pin _ rfl;have hk:z.k 0 = .real:=hp1;obtain ⟨hβ,cs,hc,hsz⟩:=hp2 rfl;have hβ:z.β 0=y.β p:=hβ;refine ⟨⟨hs.base.os,hs.base.tape,hs.base.output,hs.base.size,fun b hb _=>?_⟩,hk,hβ⟩
 by_cases h0:b=y.β p
 ·subst h0
  obtain ⟨cs1,ty1,hc1,g1⟩:=hm.ent 0 _ rfl rfl;obtain ⟨cs2,ty2,hc2,g2⟩:=hs.mem.ent 0 _ hσ hk;have hc1:y.w.heap[y.β p]? = some (.cells cs1 ty1 (0,0)):=hc1;rw[hβ] at hc2 hc;have hb1:GY (D5 y p)=(ty1,cs1.size):=by
   have hc1' : (D5 y p).w.heap[(D5 y p).β 0]? = some (.cells cs1 ty1 (0,0)):=hc1;simp [GY,hc1']
  rw[hb1] at hc;have h4:cs1=cs2:=by
   rw[<-Array.toList_inj];exact WT hi g1 g2
  rw[hc2] at hc;have hty:ty2=ty1:=by injection hc with hc;injection hc
  rw[hc2,hc1,h4,hty]
 ·exact hs.base.keep b hb (fun _ he=>h0 he.symm)
theorem NA{v:Value}{s:Sq}{k j:IntKind}{a b:Int}(cs:Array Value)(hc:C9 y (.fl [.vsl v s,.int k a,.int j b]) cs.toList):C9 (D5 y p) (.fl [.vsl v s,.int k a,.int j b]) cs.toList:=by
 obtain ⟨c1,c2,e,h1,c3,c4,e2,h2,c5,c6,e3,h3,h4⟩:=hc;exact ⟨c1,c2,e,Ez (x:=y) (y:=D5 y p) rfl (fun _ h=>h) rfl h1,c3,c4,e2,Ez (x:=y) (y:=D5 y p) rfl (fun _ h=>h) rfl h2,c5,c6,e3,Ez (x:=y) (y:=D5 y p) rfl (fun _ h=>h) rfl h3,h4⟩
theorem UA{m:Nat->Option En}{v:Value}{s:Sq}{l:List It}(hm:P0 y m)(hp:m p=some (.fl (.vsl v s::l)))(hr:y.k p = .real):(D5 y p).D (.sl s) [v]:=by
 obtain ⟨cs,ty,_,c1,c2,_,h1,_⟩:=hm.ent p _ hp hr;obtain ⟨e,h2⟩:=A2t h1;rw[e] at h2;exact Ez (x:=y) (y:=D5 y p) rfl (fun _ h=>h) rfl h2
end
section
variable {w0:World} {F0:Nat->Prop} {K:Kp} {as:List Act} {x:C0} {a:Act}
theorem Sim.reBlkG{nt nx:Nat}{tl:List Nat}{svs:List SV}{ml:List Nat}{ens ens' : List (Option En)}{ftl:List (List Nat)}{fsv:List (List SV×Nat)}
  (hs:Sim w0 F0 K as (B0 nt tl svs ml ens nx ftl fsv) x a) {z:Nat} {l l' : List It} (hz:C7 none ml ens z=some (.fl l)) (hc:∀(cs:Array Value) (ty:TypeId),x.w.heap[x.β z]? = some (.cells cs ty (0,0))->C6 x.D l cs.toList->C6 x.D l' cs.toList)
  (hl:∀r,C7 none ml ens' r=if r=z then some (.fl l') else C7 none ml ens r):Sim w0 F0 K as (B0 nt tl svs ml ens' nx ftl fsv) x a:=by
 have hm:=hs.mem;have hget:∀r,r≠z->C7 none ml ens' r=C7 none ml ens r:=fun r hr=>by rw[hl,if_neg hr]
 have hgz:C7 none ml ens' z=some (.fl l'):=by rw[hl,if_pos rfl]
 refine ⟨hs.defers,hs.nt,hs.t,?_,hs.base,hs.frs⟩
 refine ⟨fun r=>?_,fun r s hr=>?_,fun r s hr hn=>?_,fun r e hr hrl=>?_,hm.inj,hm.own,hm.fw⟩
 ·show C7 none ml ens' r=none↔x.k r = .no
  by_cases e:r=z
  ·subst e
   rw[hgz];constructor
   ·intro h;cases h
   ·intro h;have h2:C7 none ml ens r=none:=(hm.dom r).2 h;rw[h2] at hz;cases hz
  ·rw[hget r e]
   exact hm.dom r
 ·have hr:C7 none ml ens' r=some (.fl s):=hr
  by_cases e:r=z
  ·subst e;exact hm.fl r l hz
  ·rw[hget r e] at hr
   exact hm.fl r s hr
 ·have hr:C7 none ml ens' r=some (.sq s):=hr
  by_cases e:r=z
  ·subst e;rw[hgz] at hr;cases hr
  ·rw[hget r e] at hr
   exact hm.nil r s hr hn
 ·have hr:C7 none ml ens' r=some e:=hr
  by_cases e2:r=z
  ·subst e2
   rw[hgz] at hr
   cases hr
   obtain ⟨cs,ty,hcc,hde⟩:=hm.ent r (.fl l) hz hrl;have h3:C6 x.D l cs.toList:=hde;exact ⟨cs,ty,hcc,hc _ _ hcc h3⟩
  ·rw[hget r e2] at hr
   exact hm.ent r e hr hrl
theorem Sim.vslBlk{nt nx:Nat}{tl:List Nat}{svs:List SV}{ml:List Nat}{ens:List (Option En)}{ftl:List (List Nat)}{fsv:List (List SV×Nat)}
  (hs:Sim w0 F0 K as (B0 nt tl svs ml ens nx ftl fsv) x a) {z:Nat} {q:Sq} {l:List It} (hz:C7 none ml ens z=some (.fl (.sl q::l))) :
  ∃v,∀ens',(∀r,C7 none ml ens' r=if r=z then some (.fl (.vsl v q::l)) else C7 none ml ens r)->Sim w0 F0 K as (B0 nt tl svs ml ens' nx ftl fsv) x a:=by
 obtain ⟨cs,ty,hc,c1,c2,e,h1,h2⟩:=hs.mem.ent z _ hz (hs.mem.fl z _ hz);obtain ⟨v,hv⟩:∃v,c1=[v]:=by
  have:=AW h1
  match c1,this with
  | [v],_=>exact ⟨v,rfl⟩
 subst hv;refine ⟨v,fun ens' hl=>hs.reBlkG hz (fun cs' ty' hc' _=>?_) hl⟩
 rw[hc] at hc'
 have hcs:cs=cs' := by injection hc' with hc';injection hc'
 rw[<-hcs];exact ⟨[v],c2,e,C0e h1,h2⟩
end
end
section
section
variable {P:Program} {w0:World} {F0:Nat->Prop} {K:Kp} {as:List Act} {env:D6} {dec:List (Nat×Bool)} {ops:Array Oper} {Q:Exit->Act->World->Prop}
structure Ur(ops:Array Oper)(c:Nat)(r:List (Nat×Oper)×List (Nat×Oper)×St):Prop where
 s1:r.1.Pairwise fun a b=>a.1<b.1
 t1:∀i o,(i,o)∈r.1->ops[i]? = some o∧i≠c
 s2:r.2.1.Pairwise fun a b=>a.1<b.1
 t2:∀i o,(i,o)∈r.2.1->ops[i]? = some o∧i≠c
 part:∀i,i<ops.size->i≠c->((∃o,(i,o)∈r.2.1)↔¬ ∃o,(i,o)∈r.1)
theorem Rem.len{anc:List Nat}{c:Nat}{listed:Array Bool}{r1 r2:List (Nat×Oper)}(h:Rem ops anc c listed r1)(g:Rem ops anc c listed r2):r1.length=r2.length:=by
 have nd:∀{r:List (Nat×Oper)},r.Pairwise (fun a b=>a.1<b.1)->r.Nodup:=fun h=>h.imp fun {a b} h e=>by rw[e] at h;omega
 have sub:∀{r1 r2:List (Nat×Oper)},Rem ops anc c listed r1->Rem ops anc c listed r2->∀q∈r1,q∈r2:=by
  intro r1 r2 h g q hq;have hio:=h.there q.1 q.2 hq;have hlt:q.1<ops.size:=(Array.getElem?_eq_some_iff.1 hio).1;rcases (g.left q.1 hlt).1 ((h.left q.1 hlt).2 (.inl ⟨q.2,hq⟩)) with ⟨o,ho⟩ | hc
  ·have:=g.there q.1 o ho
   rw[hio] at this
   cases this
   exact ho
  ·have:=h.small q.1 q.2 hq;omega
 exact ((List.perm_ext_iff_of_nodup (nd h.sorted) (nd g.sorted)).2 fun q=>⟨sub h g q,sub g h q⟩).length_eq
theorem ZO{anc:List Nat}{c i0:Nat}{o0:Oper}{rest:List (Nat×Oper)}{listed:Array Bool}(hget:∀i o,ops[i]? = some o->U2 i o=true∧anc.getD i 0=DT anc o)(hr:Rem ops anc c listed ((i0,o0)::rest)):i0∈Region.ready .any ops listed:=by
 have hio0:ops[i0]? = some o0:=hr.there i0 o0 (by simp)
 have hlt0:i0<ops.size:=(Array.getElem?_eq_some_iff.1 hio0).1;have hi0c:i0<c:=hr.small i0 o0 (by simp)
 refine mem_ready.2 ⟨(hr.left i0 hlt0).2 (.inl ⟨o0,by simp⟩),o0,hio0,fun e he hb=>?_⟩
 have hedge:=(hget i0 o0 hio0).1;unfold U2 at hedge;have he' := List.all_eq_true.1 hedge e (Array.mem_toList_iff.2 he);simp only[hb,Bool.not_true,Bool.false_or] at he'
 have hlt' : e.on<i0:=by simpa using he'
 have hnot:¬listed.getD e.on true=false:=by
  rw[hr.left e.on (by omega)]
  rintro (⟨o',ho'⟩ | h)
  ·rcases List.mem_cons.1 ho' with h | h
   ·cases h;omega
   ·have:=(List.pairwise_cons.1 hr.sorted).1 _ h
    simp only at this;omega
  ·omega
 rw[BL] at hnot
 cases hh:listed.getD e.on false with
 | true=>rfl
 | false=>exact absurd ⟨by rw[hr.size];omega,hh⟩ hnot
theorem Nc{anc:List Nat}{lo c i:Nat}{o:Oper}{D:List (Nat×Oper)}{listed:Array Bool}{σ σ' : St}{ob:List Prop}(hs:D.Pairwise fun a b=>a.1<b.1)(ht:∀i o,(i,o)∈D->ops[i]? = some o∧i≠c)(hcf:B1d env ops anc [] fun i=>Nat.beq i c)
  (hio:ops[i]? = some o) (hanc:∀j,(anc.getD i 0).testBit j=true->listed.getD j false=true) (hiu:listed.getD i false=false) (hsz:i<listed.size) (hmem:(i,o)∈D)
  (hd:I7 env dec ops.toList anc [] [] lo (D.filter fun q=>!(listed.getD q.1 false)) σ=some (ob,σ')) (ho:A5 ob) :
  ∃ob1 ob2 σ1,Bo env (alF lo (anc.getD i 0) (lo+16*i) none) dec ops.toList (lo+16*i) o σ=some (ob1,σ1)∧A5 ob1∧I7 env dec ops.toList anc [] [] lo (D.filter fun q=>!((listed.setIfInBounds i true).getD q.1 false)) σ1=some (ob2,σ')∧A5 ob2:=by
 have nb:∀j,j≠c->Nat.beq j c=false:=fun j h=>by
  cases e:Nat.beq j c with
  | false=>rfl
  | true=>exact absurd (Nat.eq_of_beq_eq_true e) h
 have hmf:(i,o)∈D.filter fun q=>!(listed.getD q.1 false):=List.mem_filter.2 ⟨hmem,by simp only[hiu];rfl⟩
 obtain ⟨pre,post,hrem⟩:=List.append_of_mem hmf;have hsub:=List.filter_sublist (p:=fun q:Nat×Oper=>!(listed.getD q.1 false)) (l:=D)
 have hsf:=hs.sublist hsub;rw[hrem] at hsf hd;have hsrt:=List.pairwise_append.1 hsf;have inD:∀q∈pre++(i,o)::post,q∈D∧listed.getD q.1 false=false:=fun q hq=>by
  rw[<-hrem] at hq;have:=List.mem_filter.1 hq
  exact ⟨this.1,by simpa using this.2⟩
 have hne:∀q∈pre++post,q.1≠i:=by
  intro q hq e;rcases List.mem_append.1 hq with h | h
  ·have:=hsrt.2.2 q h (i,o) (by simp);simp only at this;omega
  ·have:=(List.pairwise_cons.1 hsrt.2.1).1 q h;simp only at this;omega
 have hpre:∀q∈pre,q.1<i∧(anc.getD i 0).testBit q.1=false∧U8 env ops (([]:List (Option (List Nat))).getD q.1 none) (([]:List (Option (List Nat))).getD i none) q.2 o=false:=by
  intro q hq;have hqi:q.1<i:=hsrt.2.2 q hq (i,o) (by simp)
  obtain ⟨hqD,hqu⟩:=inD q (List.mem_append_left _ hq);have hbit:(anc.getD i 0).testBit q.1=false:=by
   cases hh:(anc.getD i 0).testBit q.1 with
   | false=>rfl
   | true=>have:=hanc q.1 hh;rw[hqu] at this;cases this
  obtain ⟨hq1,hq2⟩:=ht q.1 q.2 hqD;exact ⟨hqi,hbit,(hcf i o q.1 q.2 hio hq1 hqi (nb i (ht i o hmem).2) (nb q.1 hq2)).resolve_left (by rw[hbit];simp)⟩
 obtain ⟨ob1,ob2,σ1,_,g1,g2,g3,g4⟩:=Ds hpre hd ho;refine ⟨ob1,ob2,σ1,g1,g2,?_,g4⟩
 have e:(D.filter fun q=>!((listed.setIfInBounds i true).getD q.1 false))=pre++post:=by
  have e1:(D.filter fun q=>!((listed.setIfInBounds i true).getD q.1 false))=(D.filter fun q=>!(listed.getD q.1 false)).filter fun q=>decide (q.1≠i):=by
   rw[List.filter_filter];refine List.filter_congr fun q _=>?_
   by_cases h:q.1=i
   ·have:(listed.setIfInBounds i true).getD q.1 false=true:=by rw[h];simp [hsz]
    rw[this];simp [h]
   ·rw[getD_set_ne false (Ne.symm h)]
    simp [h]
  rw[e1,hrem,List.filter_append,List.filter_cons,if_neg (by simp),<-List.filter_append]
  exact List.filter_eq_self.2 fun q hq=>by simpa using hne q hq
 rw[e];exact g3
theorem ZI(ρ:Option Nat)(hE:A7 P env){anc:List Nat}{lo c:Nat}{oc:Oper}(hget:∀i o,ops[i]? = some o->U2 i o=true∧anc.getD i 0=DT anc o)(hcf:B1d env ops anc [] fun i=>Nat.beq i c)(hcc:ops[c]? = some oc)
  {runs:List (List (Nat×Oper)×List (Nat×Oper)×St)} (hD:∀r∈runs,Ur ops c r)
  (hcov:∀b:Nat->Bool,(∀i,i<ops.size->b i=true->∀j,(anc.getD i 0).testBit j=true->b j=true)->b c=false->(∀j,(anc.getD c 0).testBit j=true->b j=true)->∃r∈runs,∀i,i<ops.size->(b i=true↔∃o,(i,o)∈r.1))
  (hmax:∃r∈runs,∀i o,ops[i]? = some o->i≠c->(anc.getD i 0).testBit c=false->(i,o)∈r.1)
  (hK:∀r∈runs,∀y a',Sim w0 F0 K as r.2.2 y a' -> wpOpIn (I3 ρ) 0 P ops Q c (fun a w=>∀listed,Rem ops anc ops.size listed r.2.1->wpAnyIn (I3 ρ) 0 P .any ops Q r.2.1.length listed a w) a' y.w) :
  ∀(fuel:Nat) (rem:List (Nat×Oper)) (listed:Array Bool) (σ:St) (x:C0) (a:Act),rem.length=fuel->Rem ops anc ops.size listed rem->listed.getD c true=false ->
   (∀r∈runs,(∀i,i<ops.size->listed.getD i false=true->∃o,(i,o)∈r.1)->∃ob,I7 env dec ops.toList anc [] [] lo (r.1.filter fun q=>!(listed.getD q.1 false)) σ=some (ob,r.2.2)∧A5 ob) ->
   Sim w0 F0 K as σ x a->wpAnyIn (I3 ρ) 0 P .any ops Q fuel listed a x.w:=by
 have hc:c<ops.size:=(Array.getElem?_eq_some_iff.1 hcc).1;intro fuel;induction fuel with
 | zero=>
  intro rem listed σ x a hl hr hcu _ _;have hnil:rem=[]:=List.eq_nil_of_length_eq_zero hl;subst hnil;rcases (hr.left c hc).1 hcu with ⟨o,ho⟩ | h
  ·cases ho
  ·omega
 | succ fuel ih=>
  intro rem listed σ x a hl hr hcu hruns hs;obtain ⟨hcsz,hcf0⟩:=BL.1 hcu;refine ⟨fun hnone=>?_,fun i hi=>?_⟩
  ·exfalso
   cases rem with
   | nil=>simp at hl
   | cons q rest=>
    have:=ZO hget hr
    rw[hnone] at this
    cases this
  obtain ⟨h0,o,hio,hall⟩:=mem_ready.1 hi;have hlt:i<ops.size:=(Array.getElem?_eq_some_iff.1 hio).1;have hanc:=GO hr (hget i o hio).2 hall;obtain ⟨hisz,hiu⟩:=BL.1 h0;rcases (hr.left i hlt).1 h0 with ⟨o',ho'⟩ | h
  case inr=>omega
  have hoo:o' = o:=by have:=hr.there i o' ho';rw[hio] at this;cases this;rfl
  subst hoo;obtain ⟨pre,post,hrem⟩:=List.append_of_mem ho';subst hrem;have hsrt:=List.pairwise_append.1 hr.sorted;have hr' := hr.step hsrt hlt hanc;have hl' : (pre++post).length=fuel:=by simp only[List.length_append,List.length_cons] at hl ⊢;omega
  by_cases hic:i=c
  ·subst hic
   obtain ⟨r,hrm,hb⟩:=hcov (fun j=>listed.getD j false) hr.closed hcf0 hanc
   obtain ⟨ob,hd,_⟩:=hruns r hrm fun j hj h=>(hb j hj).1 h
   have hnil:(r.1.filter fun q=>!(listed.getD q.1 false))=[]:=by
    refine List.filter_eq_nil_iff.2 fun q hq=>?_
    have hq1:=((hD r hrm).t1 q.1 q.2 hq).1;have:=(hb q.1 (Array.getElem?_eq_some_iff.1 hq1).1).2 ⟨q.2,hq⟩
    rw[show listed.getD q.1 false=true from this]
    simp
   rw[hnil] at hd;simp only[I7,Option.some.injEq,Prod.mk.injEq] at hd;have hσ:σ=r.2.2:=hd.2;refine wpOpIn_mono (fun a' w' h' => ?_) (hK r hrm x a (by rw[<-hσ];exact hs))
   have hR:Rem ops anc ops.size (listed.setIfInBounds i true) r.2.1:=by
    refine ⟨(hD r hrm).s2,fun j oj hj=>((hD r hrm).t2 j oj hj).1,fun j oj hj=>(Array.getElem?_eq_some_iff.1 ((hD r hrm).t2 j oj hj).1).1,hr'.size,fun j hj=>?_,hr'.closed⟩
    by_cases hji:j=i
    ·subst hji
     constructor
     ·intro h;simp [hcsz] at h
     ·rintro (⟨oj,hoj⟩ | h)
      ·exact absurd rfl ((hD r hrm).t2 j oj hoj).2
      ·omega
    ·rw[getD_set_ne true (Ne.symm hji),BL,(hD r hrm).part j hj hji,<-hb j hj]
     constructor
     ·rintro ⟨_,h⟩
      exact .inl (by rw[h];simp)
     ·rintro (h | h)
      ·exact ⟨by rw[hr.size];exact hj,by simpa using h⟩
      ·omega
   have:=h' _ hR
   rw[hR.len hr',hl'] at this;exact this
  ·obtain ⟨r0,hr0m,hr0⟩:=hmax
   have below:∀j,j<ops.size->listed.getD j false=true->∃oj,(j,oj)∈r0.1:=by
    intro j hj hlj;refine ⟨ops[j],hr0 j _ (Array.getElem?_eq_getElem hj) (fun e=>by rw[e,hcf0] at hlj;cases hlj) ?_⟩
    cases hh:(anc.getD j 0).testBit c with
    | false=>rfl
    | true=>have:=hr.closed j hj hlj c hh;rw[hcf0] at this;cases this
   obtain ⟨ob0,hd0,ho0⟩:=hruns r0 hr0m below;have hir0:(i,o')∈r0.1:=hr0 i o' hio hic (by
    cases hh:(anc.getD i 0).testBit c with
    | false=>rfl
    | true=>have:=hanc c hh;rw[hcf0] at this;cases this)
   obtain ⟨ob1,_,σ1,g1,g2,_,_⟩:=Nc (hD r0 hr0m).s1 (hD r0 hr0m).t1 hcf hio hanc hiu hisz hir0 hd0 ho0;refine LG ρ hE hs hio g1 g2 (fun q h=>(Us h).1) fun y a' hs' => ?_
   refine ih (pre++post) _ σ1 y a' hl' hr' (by rw[getD_set_ne true hic];exact hcu) (fun r hrm hsub=>?_) hs'
   obtain ⟨ob,hd,ho⟩:=hruns r hrm fun j hj hlj=>hsub j hj (getD_set_true hlj)
   obtain ⟨oi,hoi⟩:=hsub i hlt (by simp [hisz])
   have hoi' : oi=o' := by have:=((hD r hrm).t1 i oi hoi).1;rw[hio] at this;cases this;rfl
   subst hoi'
   obtain ⟨ob1',ob2',σ1',k1,k2,k3,k4⟩:=Nc (hD r hrm).s1 (hD r hrm).t1 hcf hio hanc hiu hisz hoi hd ho;rw[g1] at k1
   cases k1
   exact ⟨ob2',k3,k4⟩
theorem YY{F:Fence}{n:Nat}{o:Oper}{a:Act}{next A:Act->World->Prop}{r:Result Next}:o.uponIn F n P a next (Exit.then A Q) r=o.uponIn F n P a next Q r:=by
 cases r with
 | ok v w=>cases v<;>rfl
 | halt e w=>cases e<;>rfl
theorem Wq.split{ρ:Option Nat}{x:C0}{a:Act}(hE:A7 P env){id c:Nat}{oc:Oper}{σ:St}{k:List KI}(hs:Sim w0 F0 K as σ x a)(hok:CV env ops (AA ops.toList []) c ops.toList 0=true)(hcc:ops[c]? = some oc)(hg:oc.guard=none)
  {runs:List (List (Nat×Oper)×List (Nat×Oper)×St)} (hD:∀r∈runs,Ur ops c r)
  (hcov:∀b:Nat->Bool,(∀i,i<ops.size->b i=true->∀j,((AA ops.toList []).getD i 0).testBit j=true->b j=true)->b c=false->(∀j,((AA ops.toList []).getD c 0).testBit j=true->b j=true)->∃r∈runs,∀i,i<ops.size->(b i=true↔∃o,(i,o)∈r.1))
  (hmax:∃r∈runs,∀i o,ops[i]? = some o->i≠c->((AA ops.toList []).getD i 0).testBit c=false->(i,o)∈r.1)
  (hrun:∀r∈runs,∃ob,I7 env [] ops.toList (AA ops.toList []) [] [] σ.nx r.1 σ=some (ob,r.2.2)∧A5 ob)
  (h:∀r∈runs,∀y a',Sim w0 F0 K as r.2.2 y a' -> Wq P Q (.ops (ops.extract 0 (c+1)) c [] :: .any ops c r.2.1::k) as .normal a' y.w ρ) :
  Wq P Q (.code (.region id ops true)::k) as .normal a x.w ρ:=by
 refine ⟨?_⟩
 have hc:c<ops.size:=(Array.getElem?_eq_some_iff.1 hcc).1;obtain ⟨hget,hcf⟩:=IX hok;refine wpIn_region_any hE.mixed ?_
 refine ZI (x:={ x with w:={ x.w with drawn:=x.w.drawn+1 } }) (dec:=[]) (lo:=σ.nx) (O1 ρ k) hE hget hcf hcc hD hcov hmax (fun r hr y a' hs' => ?_) ops.size (X4 0 ops.toList) _ σ a (by simp [ID]) ?_ (by simp [hc]) (fun r hr _=>?_) hs.drew
 ·have h1:=(h r hr y a' hs').wp
  have h1:wpOpsIn (I3 (O1 ρ k)) 0 P (ops.extract 0 (c+1)) (wpK P Q ρ (.any ops c r.2.1::k) as) (List.range' c ((ops.extract 0 (c+1)).size-c)) a' y.w:=h1;have hsz:(ops.extract 0 (c+1)).size-c=1:=by simp;omega
  have hge:(ops.extract 0 (c+1))[c]? = some oc:=by
   rw[Array.getElem?_extract_of_lt (by omega)]
   obtain ⟨h1,h2⟩:=Array.getElem?_eq_some_iff.1 hcc;simpa using h2
  rw[hsz,List.range'_one,wpOpsIn_cons] at h1;unfold wpOpIn at h1 ⊢
  rw[hge] at h1;rw[hcc];have hw:∀y,Region.wanted oc y=true:=fun y=>by unfold Region.wanted;rw[hg]
  simp only[hw,if_true] at h1 ⊢
  refine ⟨h1.1,?_⟩
  have h2:=h1.2;have e:wpK P Q ρ (.any ops c r.2.1::k) as=Exit.then (fun a w=>∀listed,Rem ops (AA ops.toList []) ops.size listed r.2.1->wpAnyIn (I3 (O1 ρ k)) 0 P .any ops (wpK P Q ρ k as) r.2.1.length listed a w) (wpK P Q ρ k as):=rfl
  rw[e,YY] at h2;exact h2
 ·have:=Rem.all (ops:=ops) (AA ops.toList []) ops.size
  rwa [List.take_of_length_le (by simp)] at this
 ·obtain ⟨ob,hd,ho⟩:=hrun r hr
  refine ⟨ob,?_,ho⟩
  rw[show (r.1.filter fun q=>!((Array.replicate ops.size false).getD q.1 false))=r.1 from List.filter_eq_self.2 fun q hq=>by
   have:=(Array.getElem?_eq_some_iff.1 ((hD r hr).t1 q.1 q.2 hq).1).1
   simp [this]]
  exact hd
def D0w(k:List KI):Array Oper:=match k with | .code (.region _ ops _)::_=>ops | .code (.seq (.region _ ops _) _)::_=>ops | _=>#[]
def CS(k:List KI):List KI:=match k with | .code (.region _ _ _)::k=>k | .code (.seq (.region _ _ _) c)::k=>.code c::k | _=>[]
def Ae(ops:Array Oper)(l:List Nat):List (Nat×Oper):=l.filterMap fun i=>ops[i]?.map fun o=>(i,o)
def K9(env:D6)(ops:Array Oper)(D:List Nat)(σ:St):St:=
 match I7 env [] ops.toList (AA ops.toList []) [] [] σ.nx (Ae ops D) σ with
 | some (_,σ')=>σ'
 | none=>σ
theorem Bg{ops:Array Oper}{l:List Nat}{i:Nat}{o:Oper}:(i,o)∈Ae ops l↔i∈l∧ops[i]? = some o:=by
 unfold Ae;rw[List.mem_filterMap];constructor
 ·rintro ⟨j,hj,h⟩
  cases hh:ops[j]? with
  | none=>rw[hh] at h;cases h
  | some o' => rw[hh] at h;cases h;exact ⟨hj,hh⟩
 ·rintro ⟨h1,h2⟩
  exact ⟨i,h1,by rw[h2];rfl⟩
theorem VJ{ops:Array Oper}{l:List Nat}{i:Nat}(h:i<ops.size):(∃o,(i,o)∈Ae ops l)↔i∈l:=
 ⟨fun ⟨_,ho⟩=>(Bg.1 ho).1,fun hi=>⟨ops[i],Bg.2 ⟨hi,Array.getElem?_eq_getElem h⟩⟩⟩
theorem Dh{ops:Array Oper}:∀{l:List Nat},l.Pairwise (fun a b=>a<b)->(Ae ops l).Pairwise fun a b=>a.1<b.1
 | [],_=>.nil
 | i::l,h=>by
  have h' := List.pairwise_cons.1 h;unfold Ae;rw[List.filterMap_cons];split
  ·exact Dh h'.2
  ·rename_i q hq
   cases hh:ops[i]? with
   | none=>rw[hh] at hq;cases hq
   | some o=>
    rw[hh] at hq
    cases hq
    exact List.pairwise_cons.2 ⟨fun q hq=>h'.1 q.1 (Bg.1 (show (q.1,q.2)∈Ae ops l from hq)).1,Dh h'.2⟩
theorem A2c{ops:Array Oper}{c:Nat}{D R:List Nat}{σ:St}(h1:D.Pairwise fun a b=>a<b)(h2:R.Pairwise fun a b=>a<b)(hc:c ∉ D∧c ∉ R)(hp:∀i,i<ops.size->i≠c->(i∈R↔i ∉ D)):Ur ops c (Ae ops D,Ae ops R,σ):=
 ⟨Dh h1,fun _ _ h=>⟨(Bg.1 h).2,fun e=>hc.1 (e ▸ (Bg.1 h).1)⟩,Dh h2,fun _ _ h=>⟨(Bg.1 h).2,fun e=>hc.2 (e ▸ (Bg.1 h).1)⟩,fun i hi hne=>by rw[VJ hi,VJ hi];exact hp i hi hne⟩
end
end
section
def D6.join(a:D6)(f:Nat)(fn:Func):D6:={ a with inl:=fun g=>if g=f then some fn else a.inl g }
theorem B3f{P:Program}{a:D6}(hA:A7 P a){f:Nat}{fn:Func}(h1:P.funcs[f]? = some fn)(h2:Bl P f):A7 P (a.join f fn):=by
 refine ⟨hA.ty,hA.mixed,hA.fn,hA.mu,fun g fn' h=>?_,hA.ex,hA.inv⟩
 have h:(if g=f then some fn else a.inl g)=some fn' := h
 split at h
 ·rename_i e;cases h;subst e;exact ⟨h1,h2⟩
 ·exact hA.inl g fn' h
end
end
end Go.Proofs.YtifiiigbedjceaaGreat
