/- Parts of a proof, one behind the other: Rj, Lm, Mm, L6, Dg, Jt, Eo, Fz, Rk, Rl, Ms, Cp, Lk, Lr, Ls, Lt, Lv, Ly, Lu, Ct, Nl, Nr, Dk, Mv. No conditions. -/
import Derived.Test.YtefimjofjjdndaaGreatPxH
open Go.IntKind (wrap)
namespace Go.Proofs.YtefimjofjjdndaaGreat
noncomputable section
section

section
variable {P:Program} {y:Ctx} {m:Nat->Option En} {p:Nat} {q:Sq}

theorem H3x {x:Ctx} {d:Nat} {v:Value} (h:den x d (.sl q) [v]):v.oneCell' = true:=by
 cases d with
 | zero=>simp [den] at h
 | succ d=>
  simp only[den,List.cons.injEq,and_true] at h;rcases h with ⟨a,cap,rfl,_⟩ | ⟨b,o,cap,rfl,_⟩<;>rfl

/-- What the box holds. -/
theorem E9s (h:Mem y m) (hp:m p=some (.fl [.sl q])) (hr:y.k p = .real):∃v,y.D (.sl q) [v]∧∀(cs:Array Value) ty,y.w.heap[y.β p]? = some (.cells cs ty (0,0))->D4 y (.fl [.sl q]) cs.toList->D4 (E4 y p) (.fl [.val v]) cs.toList:=by
 obtain ⟨cs,ty,hc,c1,c2,e,h1,h2⟩:=h.ent p _ hp hr;have h2:c2=[]:=h2;obtain ⟨v,hv⟩:∃v,c1=[v]:=by
  have:=A2r h1
  match c1,this with
  | [v],_=>exact ⟨v,rfl⟩
 rw[hv] at h1;refine ⟨v,h1,fun cs' ty' hc' _=>?_⟩
 rw[hc] at hc'
 have hcs:cs=cs' := by injection hc' with hc';injection hc'
 rw[<-hcs,e,hv,h2];obtain ⟨d,h1⟩:=h1;exact ⟨[v],[],rfl,⟨0,rfl,H3x h1⟩,rfl⟩

/-- What is data stays it while the world grows. -/
theorem C4s {y z:Ctx} (hg:y.w.grownBy z.w none) (hF:∀b,y.F b->z.F b) (hlt:∀b,y.F b->b<y.w.heap.size) {i:It} {vs:List Value} (hi:E6 i=true) (h:y.D i vs):z.D i vs:=by
 have h1:(⟨y.w,y.F,fun _=>.no,y.β⟩:Ctx).D i vs:=A4k (x:=y) (y:=⟨y.w,y.F,fun _=>.no,y.β⟩) rfl (fun _ h=>h) hi h
 have hext:Ext ⟨y.w,y.F,fun _=>.no,y.β⟩ ⟨z.w,z.F,fun _=>.no,z.β⟩:=
  ⟨hg.size,fun b hb=>⟨hF b hb,hg.block b (hlt b hb) (fun e=>by cases e)⟩,fun p hp=>absurd rfl hp,fun p hp=>(by cases hp),fun p hp=>(by cases hp)⟩
 exact A4k (x:=⟨z.w,z.F,fun _=>.no,z.β⟩) (y:=z) rfl (fun _ h=>h) hi (C4e hext _ _ h1)

def E1r (x:Ctx):List SV->List SV->Prop
 | [],[]=>True
 | s::l,s' :: l' => (∀v,B8 x s v->B8 x s' v)∧E1r x l l'
 | _,_=>False

theorem B4n {x:Ctx}:∀{tl:List Nat} {svs svs' : List SV},E1r x svs svs' -> ∀j v,B8 x (D8 .top tl svs j) v->B8 x (D8 .top tl svs' j) v
 | [],_,_,_,_,_,_=>trivial
 | _::_,[],[],_,_,_,_=>trivial
 | _::_,[],_::_,h,_,_,_=>h.elim
 | _::_,_::_,[],h,_,_,_=>h.elim
 | t::tl,s::l,s' :: l',h,j,v,hd=>by
  simp only[D8] at hd ⊢
  by_cases hj:j=t
  ·simp only[hj,if_true] at hd ⊢;exact h.1 v hd
  ·simp only[hj,if_false] at hd ⊢;exact B4n h.2 j v hd

/-- A slot told in other words. -/
theorem Sim.slots {w0:World} {F0:Nat->Prop} {K:Kp} {as:List Act} {nt nx:Nat} {tl:List Nat} {svs svs' : List SV} {ml:List Nat} {ens:List (Option En)} {ftl:List (List Nat)} {fsv:List (List SV×Nat)} {x:Ctx} {a:Act}
  (hs:Sim w0 F0 K as (B2 nt tl svs ml ens nx ftl fsv) x a) (h:E1r x svs svs'):Sim w0 F0 K as (B2 nt tl svs' ml ens nx ftl fsv) x a:=
 ⟨hs.defers,hs.nt,fun t=>B4n h t _ (hs.t t),hs.mem,hs.base,hs.frs⟩

theorem D2e {x:Ctx} {v:Value} {i:It} (hi:i.size=1) (h:x.D i [v]):∀u,B8 x (.v (.c (.val v))) u->B8 x (.v (.c i)) u:=by
 intro u hu;rw[(A1t hu).1];exact ⟨hi,h⟩

/-- A contract that leaves the world as it was. -/
theorem F1u {f:Nat} {args:List SV} {r:SV} (h:∀(x:Ctx) (vs:List Value),I4 x args vs->∃v,Calls P f vs.toArray x.w (fun e w' => e = .returned v∧w' = x.w)∧B8 x r v):FnD P f args r []:=by
 intro x vs hk hF hd;obtain ⟨v,hc,hv⟩:=h x vs hd;refine hc.mono fun e w' he=>?_
 obtain ⟨rfl,rfl⟩:=he;refine ⟨v,x,rfl,rfl,Tr.refl ⟨fun p=>⟨fun _=>hk p,fun _=>rfl⟩,fun p l hp=>(by cases hp),fun p s hp=>(by cases hp),fun p e hp=>(by cases hp),fun p q hp=>?_,fun p hp=>?_,hF⟩,hv⟩
 ·rw[hk p] at hp;cases hp
 ·rw[hk p] at hp;cases hp

/-! Functions with a range over a function within that return data. -/
def RF (x:Ctx) (r:SV) (es:List En):Ending->World->Prop:=fun e w' => ∃v y,e = .returned v∧y.w=w' ∧ Tr x none y (fun p=>es[p]?)∧B8 y r v

theorem T9 {f:Nat} {fn:Func} {c:Code} {args:List SV} {r:SV} {es:List En} (hf:P.funcs[f]? = some fn) (hb:fn.body=some c) (hlen:Nat.ble args.length fn.ntmps=true)
  (h:∀(x:Ctx) (a:Act),(∀p,x.k p = .no)->(∀b,x.F b->b<x.w.heap.size)->Sim x.w x.F Y8 [] (F9 fn.ntmps args) x a->Wq P (bodyPostM Fence.wide 0 P fn (RF x r es)) [.code c] [] .normal a x.w):FnD P f args r es:=by
 intro x vs hk hF hden;exact C7h hf hb (h x _ hk hF (C8l (Nat.le_of_ble_eq_true hlen) hk hF hden))

theorem Y6 {env:Env} (hE:A8 P env) {fn:Func} {x0:Ctx} (hk:∀p,x0.k p = .no) (hF:∀b,x0.F b->b<x0.w.heap.size) {unroll:Bool} {n:Nat} {path:List Bool} {ps fz:List Nat} {ob:List Prop} {r rr:SV} {es:List En} {D:Nat} {y:Ctx} {a0:Act} {σ1 σ2:St} {as0 as:List Act} {z:Ctx} {b:Act}
  (h:J7 env fn unroll n ⟨[],.ret,σ2⟩ path ps fz=some (ob,r,es)) (ho:A9 ob) (hconv:∀y v,B8 y r v->B8 y rr v)
  (h1:Sim x0.w x0.F Y8 as0 σ1 y a0) (hD:x0.w.heap.size<=D) (hFD:¬y.F D) (hd:y.w.heap[D]? = some (.deferred (some []))) (hfr:σ2.fr=[])
  (g:Sim y.w y.F (U1 y Y8 (H8 D)) as σ2 z b):bodyPostM Fence.wide 0 P fn (RF x0 rr es) .ret b z.w:=by
 obtain ⟨g1,g2,g3⟩:=h1.unmark rfl hD hFD hd hfr g;refine D8a g1 g2 (.inl rfl) ?_
 exact (Q4 hE hk hF h ho hconv g3).wp
end
end

section

theorem F4 {x y c:Int} (hx:0<=x) (hx1:x<18446744073709551616) (hy:0<=y) (hy1:y<18446744073709551616) (hc:0<=c) (hc1:c<=1) :
  (A4 1 x y c).1=x-y-c+18446744073709551616*(A4 1 x y c).2∧0<=(A4 1 x y c).1∧(A4 1 x y c).1<18446744073709551616∧0<=(A4 1 x y c).2∧(A4 1 x y c).2<=1:=by
 show (x-y-c) % 18446744073709551616=x-y-c+18446744073709551616*(if x<y+c then 1 else 0)∧0<=(x-y-c) % 18446744073709551616∧(x-y-c) % 18446744073709551616<18446744073709551616∧0<=(if x<y+c then (1:Int) else 0)∧(if x<y+c then (1:Int) else 0)<=1
 split<;>omega

theorem F7 {x y c:Int} (hx:0<=x) (hx1:x<18446744073709551616) (hy:0<=y) (hy1:y<18446744073709551616) (hc:0<=c) (hc1:c<=1) :
  x+y+c=(A4 0 x y c).1+18446744073709551616*(A4 0 x y c).2∧0<=(A4 0 x y c).1∧(A4 0 x y c).1<18446744073709551616∧0<=(A4 0 x y c).2∧(A4 0 x y c).2<=1:=by
 show x+y+c=(x+y+c) % 18446744073709551616+18446744073709551616*((x+y+c) / 18446744073709551616)∧_;refine ⟨by omega,?_,?_,?_,?_⟩<;>(simp only[A4];omega)

theorem C2o {x y:Int} (hx:0<=x) (hx1:x<18446744073709551616) (hy:0<=y) (hy1:y<18446744073709551616):0<=x*y∧x*y<=340282366920938463426481119284349108225:=by
 refine ⟨Int.mul_nonneg hx hy,?_⟩
 have:x*y<=18446744073709551615*18446744073709551615:=Int.mul_le_mul (by omega) (by omega) hy (by decide)
 omega

/-- The limbs of a number below 2 to the power of 256. -/
theorem Y9 {n:Nat} {a b c d:Int} (ha:0<=a) (ha1:a<18446744073709551616) (hb:0<=b) (hb1:b<18446744073709551616) (hc:0<=c) (hc1:c<18446744073709551616) (hd:0<=d) (hd1:d<18446744073709551616)
  (e:(n:Int)=a+18446744073709551616*b+340282366920938463463374607431768211456*c+6277101735386680763835789423207666416102355444464034512896*d):A0 n 0=a∧A0 n 1=b∧A0 n 2=c∧A0 n 3=d:=by
 have h0:A0 n 0=((n / 1 % 18446744073709551616:Nat):Int):=rfl;have h1:A0 n 1=((n / 18446744073709551616 % 18446744073709551616:Nat):Int):=rfl;have h2:A0 n 2=((n / 340282366920938463463374607431768211456 % 18446744073709551616:Nat):Int):=rfl;have h3:A0 n 3=((n / 6277101735386680763835789423207666416102355444464034512896 % 18446744073709551616:Nat):Int):=rfl;rw[h0,h1,h2,h3];omega

/-- A number is its limbs. -/
theorem A0p (n:Nat) (h:n<B4):(n:Int)=A0 n 0+18446744073709551616*A0 n 1+340282366920938463463374607431768211456*A0 n 2+6277101735386680763835789423207666416102355444464034512896*A0 n 3 ∧
  0<=A0 n 0∧A0 n 0<18446744073709551616∧0<=A0 n 1∧A0 n 1<18446744073709551616∧0<=A0 n 2∧A0 n 2<18446744073709551616∧0<=A0 n 3∧A0 n 3<18446744073709551616:=by
 have h0:A0 n 0=((n / 1 % 18446744073709551616:Nat):Int):=rfl;have h1:A0 n 1=((n / 18446744073709551616 % 18446744073709551616:Nat):Int):=rfl;have h2:A0 n 2=((n / 340282366920938463463374607431768211456 % 18446744073709551616:Nat):Int):=rfl;have h3:A0 n 3=((n / 6277101735386680763835789423207666416102355444464034512896 % 18446744073709551616:Nat):Int):=rfl;unfold B4 at h;rw[h0,h1,h2,h3];omega

/-- Four limbs in a row are a number. -/
theorem B1w {x:Ctx} {o:Ob} (hk:o.k=4) {a b c d:Int} (h:A0 o.n 0=a∧A0 o.n 1=b∧A0 o.n 2=c∧A0 o.n 3=d) {v:Value}
  (hd:B8 x (.v (.a [.int .u64 a,.int .u64 b,.int .u64 c,.int .u64 d])) v):B8 x (.v (.a [.ob o])) v:=by
 obtain ⟨cs,e,hc⟩:=hd;refine ⟨cs,e,cs,[],(List.append_nil cs).symm,⟨0,?_⟩,rfl⟩
 obtain ⟨c1,r1,e1,⟨d1,h1⟩,c2,r2,e2,⟨d2,h2⟩,c3,r3,e3,⟨d3,h3⟩,c4,r4,e4,⟨d4,h4⟩,h5⟩:=hc;have h1:c1=[.int .u64 a]:=by cases d1<;>exact h1
 have h2:c2=[.int .u64 b]:=by cases d2<;>exact h2
 have h3:c3=[.int .u64 c]:=by cases d3<;>exact h3
 have h4:c4=[.int .u64 d]:=by cases d4<;>exact h4
 have h5:r4=[]:=h5;show cs=o.cells;subst h1 h2 h3 h4 h5 e4 e3 e2 e1;unfold Ob.cells;rw[hk];show _=[Value.int .u64 (A0 o.n 0),Value.int .u64 (A0 o.n 1),Value.int .u64 (A0 o.n 2),Value.int .u64 (A0 o.n 3)];rw[h.1,h.2.1,h.2.2.1,h.2.2.2];rfl

/-- Two numbers of four limbs that are the same. -/
theorem E3w {x:Ctx} {o o' : Ob} (hk:o.k=o'.k) (hn:o.n=o'.n) {v:Value} (hd:B8 x (.v (.a [.ob o])) v):B8 x (.v (.a [.ob o'])) v:=by
 obtain ⟨cs,e,c1,r1,e1,⟨d1,h1⟩,h2⟩:=hd;have h1:c1=o.cells:=by cases d1<;>exact h1
 have h2:r1=[]:=h2;refine ⟨cs,e,cs,[],(List.append_nil cs).symm,⟨0,?_⟩,rfl⟩
 show cs=o'.cells;rw[e1,h1,h2,List.append_nil];unfold Ob.cells;rw[hk,hn]

/-- What a row of limbs is, taken out of the form in which products are reckoned. -/
def D0p:Nat:=12549076656233958353659347336803947287922716146853412054870763148006372261952
def C4a (n:Nat):Fr:=Fin.ofNat rN (n*D0p)

theorem F7z (n:Nat):(Ob.s (C4a n)).n=n % rN:=by
 show (n*D0p % rN)*B4 % rN=n % rN;rw[Nat.mod_mul_mod,Nat.mul_assoc];have e:D0p*B4 % rN=1:=by decide +kernel
 rw[<-Nat.mul_mod_mod,e,Nat.mul_one]

end

section

theorem C3l (n:Int):wrap IntKind.u64 n=n % 18446744073709551616:=rfl

/-- A product of limbs and two limbs more. -/
theorem mac {x b t u:Int} (hx:0<=x) (hx1:x<18446744073709551616) (hb:0<=b) (hb1:b<18446744073709551616) (ht:0<=t) (ht1:t<18446744073709551616) (hu:0<=u) (hu1:u<18446744073709551616) :
    x*b+t+u=(A4 0 (A4 0 ((x*b) % 18446744073709551616) t 0).1 u 0).1+18446744073709551616*wrap IntKind.u64 (wrap IntKind.u64 ((x*b) / 18446744073709551616+(A4 0 ((x*b) % 18446744073709551616) t 0).2)+(A4 0 (A4 0 ((x*b) % 18446744073709551616) t 0).1 u 0).2) ∧
    (0<=(A4 0 (A4 0 ((x*b) % 18446744073709551616) t 0).1 u 0).1∧(A4 0 (A4 0 ((x*b) % 18446744073709551616) t 0).1 u 0).1<18446744073709551616) ∧
    (0<=wrap IntKind.u64 (wrap IntKind.u64 ((x*b) / 18446744073709551616+(A4 0 ((x*b) % 18446744073709551616) t 0).2)+(A4 0 (A4 0 ((x*b) % 18446744073709551616) t 0).1 u 0).2) ∧
     wrap IntKind.u64 (wrap IntKind.u64 ((x*b) / 18446744073709551616+(A4 0 ((x*b) % 18446744073709551616) t 0).2)+(A4 0 (A4 0 ((x*b) % 18446744073709551616) t 0).1 u 0).2)<18446744073709551616) ∧
    0<=(A4 0 ((x*b) % 18446744073709551616) t 0).1∧(A4 0 ((x*b) % 18446744073709551616) t 0).1<18446744073709551616:=by
  have hp:=C2o hx hx1 hb hb1;generalize x*b=p at *;obtain ⟨e1,a1,a1',c1,c1'⟩:=F7 (x:=p % 18446744073709551616) (y:=t) (c:=0) (by omega) (by omega) ht ht1 (by decide) (by decide)
  generalize A4 0 (p % 18446744073709551616) t 0=o1 at *;obtain ⟨e2,a2,a2',c2,c2'⟩:=F7 (x:=o1.1) (y:=u) (c:=0) a1 a1' hu hu1 (by decide) (by decide)
  generalize A4 0 o1.1 u 0=o2 at *;rw[C3l,C3l];refine ⟨?_,⟨a2,a2'⟩,⟨?_,?_⟩,a1,a1'⟩<;>omega

/-- A product of limbs and one limb more. -/
theorem E6s {x b t:Int} (hx:0<=x) (hx1:x<18446744073709551616) (hb:0<=b) (hb1:b<18446744073709551616) (ht:0<=t) (ht1:t<18446744073709551616) :
  x*b+t=(A4 0 ((x*b) % 18446744073709551616) t 0).1+18446744073709551616*wrap IntKind.u64 ((x*b) / 18446744073709551616+(A4 0 ((x*b) % 18446744073709551616) t 0).2) ∧
  (0<=(A4 0 ((x*b) % 18446744073709551616) t 0).1∧(A4 0 ((x*b) % 18446744073709551616) t 0).1<18446744073709551616) ∧
  0<=wrap IntKind.u64 ((x*b) / 18446744073709551616+(A4 0 ((x*b) % 18446744073709551616) t 0).2)∧wrap IntKind.u64 ((x*b) / 18446744073709551616+(A4 0 ((x*b) % 18446744073709551616) t 0).2)<18446744073709551616:=by
 have hp:=C2o hx hx1 hb hb1;generalize x*b=p at *;obtain ⟨e1,a1,a1',c1,c1'⟩:=F7 (x:=p % 18446744073709551616) (y:=t) (c:=0) (by omega) (by omega) ht ht1 (by decide) (by decide)
 generalize A4 0 (p % 18446744073709551616) t 0=o1 at *;rw[C3l];refine ⟨?_,⟨a1,a1'⟩,?_,?_⟩<;>omega

/-- The lowest limb goes out: with the prime r. -/
theorem D4l {l q:Int} (hq:q=wrap IntKind.u64 (l*18446744069414584319)):(q*18446744069414584321+l) % 18446744073709551616=0:=by
 rw[C3l] at hq;omega

theorem F7e : (2 ^ (64*4):Nat)=B4:=by kernel_rfl

theorem C1e (X i:Nat):X % 2 ^ (64*(i+1))=X % 2 ^ (64*i)+2 ^ (64*i)*(X / 2 ^ (64*i) % 18446744073709551616):=by
 have h:(2:Nat) ^ (64*(i+1))=2 ^ (64*i)*18446744073709551616:=by
  rw[Nat.mul_add,Nat.pow_add]
 rw[h,Nat.mod_mul]

theorem D4d {r B v x y T Q:Nat} (e:v*B % r=1 % r) (h:T*B=(x*B % r)*(y*B % r)+Q*r):T*v % r=x*y % r:=by
  have h1:T*B % r=(x*B)*(y*B) % r:=by
    rw[h,Nat.add_mul_mod_self_right,<-Nat.mul_mod]
  have h2:∀a:Nat,a*(v*B) % r=a % r:=fun a=>by rw[<-Nat.mul_mod_mod,e,Nat.mul_mod_mod,Nat.mul_one]
  calc T*v % r=(T*v)*(v*B) % r:=(h2 _).symm
    _=(T*B)*(v*v) % r:=by congr 1;simp only[Nat.mul_comm,Nat.mul_left_comm]
    _=(T*B % r)*(v*v) % r:=by rw[Nat.mod_mul_mod]
    _=((x*B)*(y*B) % r)*(v*v) % r:=by rw[h1]
    _=((x*B)*(y*B))*(v*v) % r:=by rw[Nat.mod_mul_mod]
    _=(x*y*(v*B))*(v*B) % r:=by congr 1;simp only[Nat.mul_comm,Nat.mul_left_comm]
    _=x*y % r:=by rw[h2,h2]

theorem B3e:D0p*B4 % rN=1 % rN:=by kernel_rfl

/-- What is left when a product has gone through all limbs. -/
theorem F5b {x y:Fr} {T Q:Nat} (h:T*B4=(Ob.s x).n*(Ob.s y).n+Q*rN):C4a T=x*y:=
 Fin.ext (D4d B3e h)

end

section

def G3 (a b c d e f:Int):Int:=a+18446744073709551616*b+340282366920938463463374607431768211456*c+6277101735386680763835789423207666416102355444464034512896*d+115792089237316195423570985008687907853269984665640564039457584007913129639936*e+2135987035920910082395021706169552114602704522356652769947041607822219725780640550022962086936576*f

/-- The limbs of a number below 2 to the power of 384. -/
theorem Z0 {n:Nat} {a b c d e f:Int} (ha:0<=a) (ha1:a<18446744073709551616) (hb:0<=b) (hb1:b<18446744073709551616) (hc:0<=c) (hc1:c<18446744073709551616) (hd:0<=d) (hd1:d<18446744073709551616) (he:0<=e) (he1:e<18446744073709551616) (hf:0<=f) (hf1:f<18446744073709551616)
  (e1:(n:Int)=G3 a b c d e f):A0 n 0=a∧A0 n 1=b∧A0 n 2=c∧A0 n 3=d∧A0 n 4=e∧A0 n 5=f:=by
 unfold G3 at e1;have k0:A0 n 0=((n / 1 % 18446744073709551616:Nat):Int):=rfl;have k1:A0 n 1=((n / 18446744073709551616 % 18446744073709551616:Nat):Int):=rfl;have k2:A0 n 2=((n / 340282366920938463463374607431768211456 % 18446744073709551616:Nat):Int):=rfl;have k3:A0 n 3=((n / 6277101735386680763835789423207666416102355444464034512896 % 18446744073709551616:Nat):Int):=rfl;have k4:A0 n 4=((n / 115792089237316195423570985008687907853269984665640564039457584007913129639936 % 18446744073709551616:Nat):Int):=rfl;have k5:A0 n 5=((n / 2135987035920910082395021706169552114602704522356652769947041607822219725780640550022962086936576 % 18446744073709551616:Nat):Int):=by kernel_rfl
 rw[k0,k1,k2,k3,k4,k5];omega

/-- A number is its limbs. -/
theorem A2c (n:Nat) (h:n<B6):(n:Int)=G3 (A0 n 0) (A0 n 1) (A0 n 2) (A0 n 3) (A0 n 4) (A0 n 5) ∧
  0<=A0 n 0∧A0 n 0<18446744073709551616∧0<=A0 n 1∧A0 n 1<18446744073709551616∧0<=A0 n 2∧A0 n 2<18446744073709551616∧0<=A0 n 3∧A0 n 3<18446744073709551616∧0<=A0 n 4∧A0 n 4<18446744073709551616∧0<=A0 n 5∧A0 n 5<18446744073709551616:=by
 unfold G3;have k0:A0 n 0=((n / 1 % 18446744073709551616:Nat):Int):=rfl;have k1:A0 n 1=((n / 18446744073709551616 % 18446744073709551616:Nat):Int):=rfl;have k2:A0 n 2=((n / 340282366920938463463374607431768211456 % 18446744073709551616:Nat):Int):=rfl;have k3:A0 n 3=((n / 6277101735386680763835789423207666416102355444464034512896 % 18446744073709551616:Nat):Int):=rfl;have k4:A0 n 4=((n / 115792089237316195423570985008687907853269984665640564039457584007913129639936 % 18446744073709551616:Nat):Int):=rfl;have k5:A0 n 5=((n / 2135987035920910082395021706169552114602704522356652769947041607822219725780640550022962086936576 % 18446744073709551616:Nat):Int):=by kernel_rfl
 unfold B6 at h;rw[k0,k1,k2,k3,k4,k5];omega

/-- Six limbs in a row are a number. -/
theorem A5z {x:Ctx} {o:Ob} (hk:o.k=6) {a b c d e f:Int} (h:A0 o.n 0=a∧A0 o.n 1=b∧A0 o.n 2=c∧A0 o.n 3=d∧A0 o.n 4=e∧A0 o.n 5=f) {v:Value}
  (hd:B8 x (.v (.a [.int .u64 a,.int .u64 b,.int .u64 c,.int .u64 d,.int .u64 e,.int .u64 f])) v):B8 x (.v (.a [.ob o])) v:=by
 obtain ⟨cs,ev,hc⟩:=hd;refine ⟨cs,ev,cs,[],(List.append_nil cs).symm,⟨0,?_⟩,rfl⟩
 obtain ⟨c1,r1,e1,⟨d1,h1⟩,c2,r2,e2,⟨d2,h2⟩,c3,r3,e3,⟨d3,h3⟩,c4,r4,e4,⟨d4,h4⟩,c5,r5,e5,⟨d5,h5⟩,c6,r6,e6,⟨d6,h6⟩,h7⟩:=hc;have h1:c1=[.int .u64 a]:=by cases d1<;>exact h1
 have h2:c2=[.int .u64 b]:=by cases d2<;>exact h2
 have h3:c3=[.int .u64 c]:=by cases d3<;>exact h3
 have h4:c4=[.int .u64 d]:=by cases d4<;>exact h4
 have h5:c5=[.int .u64 e]:=by cases d5<;>exact h5
 have h6:c6=[.int .u64 f]:=by cases d6<;>exact h6
 have h7:r6=[]:=h7;show cs=o.cells;subst h1 h2 h3 h4 h5 h6 h7 e6 e5 e4 e3 e2 e1;unfold Ob.cells;rw[hk];show _=[Value.int .u64 (A0 o.n 0),Value.int .u64 (A0 o.n 1),Value.int .u64 (A0 o.n 2),Value.int .u64 (A0 o.n 3),Value.int .u64 (A0 o.n 4),Value.int .u64 (A0 o.n 5)];rw[h.1,h.2.1,h.2.2.1,h.2.2.2.1,h.2.2.2.2.1,h.2.2.2.2.2];rfl

theorem E1m {x:Ctx} {o:Ob} (hk:o.k=6) {a b c d e f:Int} (h:A0 o.n 0=a∧A0 o.n 1=b∧A0 o.n 2=c∧A0 o.n 3=d∧A0 o.n 4=e∧A0 o.n 5=f) {cs:List Value}
  (hc:C4 x.D [.int .u64 a,.int .u64 b,.int .u64 c,.int .u64 d,.int .u64 e,.int .u64 f] cs):C4 x.D [.ob o] cs:=by
 obtain ⟨cs',ev,h'⟩:=A5z hk h (v:=.agg cs.toArray) ⟨cs,rfl,hc⟩;have ev:cs=cs' := by simpa using ev
 rw[ev];exact h'

theorem F5x {x:Ctx} {o:Ob} (hk:o.k=6) {cs:List Value} (h:C4 x.D [.ob o] cs):C4 x.D [.int .u64 (A0 o.n 0),.int .u64 (A0 o.n 1),.int .u64 (A0 o.n 2),.int .u64 (A0 o.n 3),.int .u64 (A0 o.n 4),.int .u64 (A0 o.n 5)] cs:=by
 obtain ⟨c1,c2,e,⟨d,h1⟩,h2⟩:=h;have h1:c1=o.cells:=by cases d<;>exact h1
 have h2:c2=[]:=h2;subst h2 h1 e;rw[List.append_nil];unfold Ob.cells;rw[hk];exact ⟨[_],_,rfl,⟨0,rfl⟩,[_],_,rfl,⟨0,rfl⟩,[_],_,rfl,⟨0,rfl⟩,[_],_,rfl,⟨0,rfl⟩,[_],_,rfl,⟨0,rfl⟩,[_],_,rfl,⟨0,rfl⟩,rfl⟩

/-- What a row of limbs is, taken out of the form in which products are reckoned. -/
def pnv:Nat:=3231460744492646417066832100176244795738767926513225105051837195607029917124509527734802654356338138714468589979680
def B7d (n:Nat):Fp:=Fin.ofNat pN (n*pnv)
theorem C2g:pnv*B6 % pN=1 % pN:=by kernel_rfl

theorem F7x (n:Nat):(Ob.p (B7d n)).n=n % pN:=by
 show (n*pnv % pN)*B6 % pN=n % pN;rw[Nat.mod_mul_mod,Nat.mul_assoc];have e:pnv*B6 % pN=1:=by decide +kernel
 rw[<-Nat.mul_mod_mod,e,Nat.mul_one]

/-- The lowest limb goes out: with the prime p. -/
theorem D4k {l q:Int} (hq:q=wrap IntKind.u64 (l*9940570264628428797)):(q*13402431016077863595+l) % 18446744073709551616=0:=by
 rw[C3l] at hq;omega

theorem E4d : (2 ^ (64*6):Nat)=B6:=by kernel_rfl
theorem G5d:pN<2 ^ (64*6):=by rw[E4d];decide

/-- What is left when a product has gone through all limbs. -/
theorem E6x {x y:Fp} {T Q:Nat} (h:T*B6=(Ob.p x).n*(Ob.p y).n+Q*pN):B7d T=x*y:=
 Fin.ext (D4d C2g h)

theorem B5g (x:Fp):(Ob.p x).n<pN:=Nat.mod_lt _ (by decide)
theorem D4s (z a b c d e f:Int):z*G3 a b c d e f=(z*a)+18446744073709551616*(z*b)+340282366920938463463374607431768211456*(z*c)+6277101735386680763835789423207666416102355444464034512896*(z*d)+115792089237316195423570985008687907853269984665640564039457584007913129639936*(z*e)+2135987035920910082395021706169552114602704522356652769947041607822219725780640550022962086936576*(z*f):=by
 unfold G3;simp only[Int.mul_add,Int.mul_left_comm z]

/-- The product's lowest limb taken out, round by round. -/
theorem C6j {A Y r i Q:Nat} {T T' q:Int} (hq:0<=q) (h:T*((2 ^ (64*i):Nat):Int)=((A % 2 ^ (64*i):Nat):Int)*(Y:Int)+(Q:Int)*(r:Int))
  (h' : 18446744073709551616*T' = T+A0 A i*(Y:Int)+q*(r:Int)) :
  ∃Q:Nat,T' * ((2 ^ (64*(i+1)):Nat):Int)=((A % 2 ^ (64*(i+1)):Nat):Int)*(Y:Int)+(Q:Int)*(r:Int):=by
 obtain ⟨q,rfl⟩:=Int.eq_ofNat_of_zero_le hq;refine ⟨Q+q*2 ^ (64*i),?_⟩
 rw[C1e];have hp:(2:Nat) ^ (64*(i+1))=2 ^ (64*i)*18446744073709551616:=by rw[Nat.mul_add,Nat.pow_add]
 rw[hp];have hl:A0 A i=((A / 2 ^ (64*i) % 18446744073709551616:Nat):Int):=rfl;rw[hl] at h'
 generalize A / 2 ^ (64*i) % 18446744073709551616=xi at *;generalize A % 2 ^ (64*i)=X at *;generalize 2 ^ (64*i)=m at *;have e1:T' * ((m*18446744073709551616:Nat):Int)=(18446744073709551616*T')*(m:Int):=by
  rw[Int.natCast_mul,Int.mul_comm (m:Int),<-Int.mul_assoc,Int.mul_comm T'];rfl
 rw[e1,h',Int.add_mul,Int.add_mul,h];push_cast
 simp only[Int.add_mul,Int.mul_assoc];have e2:(xi:Int)*((Y:Int)*(m:Int))=(m:Int)*((xi:Int)*(Y:Int)):=by rw[<-Int.mul_assoc,Int.mul_comm]
 have e3:(q:Int)*((r:Int)*(m:Int))=(q:Int)*((m:Int)*(r:Int)):=by rw[Int.mul_comm (r:Int)]
 rw[e2,e3];omega

def B5 (a:Int):Prop:=0<=a∧a<18446744073709551616
theorem D4t {a b c d e f:Int} (ha:B5 a) (hb:B5 b) (hc:B5 c) (hd:B5 d) (he:B5 e) (hf:B5 f):∃n:Nat,n<B6∧G3 a b c d e f=(n:Int)∧A0 n 0=a∧A0 n 1=b∧A0 n 2=c∧A0 n 3=d∧A0 n 4=e∧A0 n 5=f:=by
 obtain ⟨ha,ha1⟩:=ha;obtain ⟨hb,hb1⟩:=hb;obtain ⟨hc,hc1⟩:=hc;obtain ⟨hd,hd1⟩:=hd;obtain ⟨he,he1⟩:=he;obtain ⟨hf,hf1⟩:=hf;have h0:0<=G3 a b c d e f:=by unfold G3;omega
 obtain ⟨n,hn⟩:=Int.eq_ofNat_of_zero_le h0;refine ⟨n,?_,hn,Z0 ha ha1 hb hb1 hc hc1 hd hd1 he he1 hf hf1 (by rw[<-hn])⟩
 unfold G3 at hn;unfold B6;omega

def A3m (n:Nat):U6:=Fin.ofNat B6 (n % pN)
theorem B3d (n:Nat):(A3m n).val=n % pN:=Nat.mod_eq_of_lt (Nat.lt_trans (Nat.mod_lt _ (by decide)) (by decide))
theorem E0b {a b:Nat} (h:a % pN=b % pN):A3m a=A3m b:=by unfold A3m;rw[h]

end

section

/-- The digits that t steps have handed on. -/
def dgT (n:Nat):Nat->List Nat
 | 0=>[]
 | t+1=>if (dgT n t).isEmpty=true∧n / 16 ^ (63-t) % 16=0 then [] else dgT n t++[n / 16 ^ (63-t) % 16]

theorem B1b {n t:Nat} (h1:(dgT n t).isEmpty=true) (h2:n / 16 ^ (63-t) % 16=0):dgT n (t+1)=[]:=if_pos ⟨h1,h2⟩
theorem B9e {n t:Nat} (h:¬((dgT n t).isEmpty=true∧n / 16 ^ (63-t) % 16=0)):dgT n (t+1)=dgT n t++[n / 16 ^ (63-t) % 16]:=if_neg h

theorem E1w (n:Nat) {t:Nat}:∀{m:Nat},t<=m->∃r,dgT n m=dgT n t++r
 | 0,h=>⟨[],by rw[Nat.le_zero.1 h];rfl⟩
 | m+1,h=>by
  by_cases e:t=m+1
  ·exact ⟨[],by rw[e,List.append_nil]⟩
  ·obtain ⟨r,hr⟩:=E1w n (m:=m) (t:=t) (by omega)
   by_cases hc:(dgT n m).isEmpty=true∧n / 16 ^ (63-m) % 16=0
   ·rw[B1b hc.1 hc.2]
    have h1:dgT n m=[]:=List.isEmpty_iff.1 hc.1;rw[h1] at hr;obtain ⟨h2,h3⟩:=List.append_eq_nil_iff.1 hr.symm;exact ⟨[],by rw[h2];rfl⟩
   ·exact ⟨r++[n / 16 ^ (63-m) % 16],by rw[B9e hc,hr,List.append_assoc]⟩

def dgV (l:List Nat):Nat:=l.foldl (fun v d=>16*v+d) 0
theorem F0s (l:List Nat) (d:Nat):dgV (l++[d])=16*dgV l+d:=by simp [dgV]
theorem G0z (n s:Nat):n / 16 ^ s=16*(n / 16 ^ (s+1))+n / 16 ^ s % 16:=by
 rw[Nat.pow_succ,<-Nat.div_div_eq_div_mul];omega
theorem G7f {n:Nat} (h:n<16 ^ 64):∀t,t<=64->dgV (dgT n t)=n / 16 ^ (64-t)
 | 0,_=>(Nat.div_eq_of_lt h).symm
 | t+1,ht=>by
  have ih:=G7f h t (by omega)
  have e1:64-t=(63-t)+1:=by omega
  have e2:64-(t+1)=63-t:=by omega
  rw[e1] at ih;rw[e2,G0z n (63-t),<-ih];by_cases hc:(dgT n t).isEmpty=true∧n / 16 ^ (63-t) % 16=0
  ·rw[B1b hc.1 hc.2,hc.2,List.isEmpty_iff.1 hc.1]
   rfl
  ·rw[B9e hc,F0s]
theorem D7w {n:Nat}:∀t d,d∈dgT n t->d<16
 | 0,d,h=>by cases h
 | t+1,d,h=>by
  by_cases hc:(dgT n t).isEmpty=true∧n / 16 ^ (63-t) % 16=0
  ·rw[B1b hc.1 hc.2] at h;cases h
  ·rw[B9e hc,List.mem_append] at h
   rcases h with h | h
   ·exact D7w t d h
   ·rw[List.mem_singleton] at h
    rw[h];exact Nat.mod_lt _ (by decide)

theorem G1b (n i:Nat):n / 2 ^ (64*(i / 16)) % 18446744073709551616 / 2 ^ (4*(i % 16)) % 16=n / 16 ^ i % 16:=by
 have h64:18446744073709551616=2 ^ (4*(i % 16))*(16*2 ^ (60-4*(i % 16))):=by
  rw[show (16:Nat)=2 ^ 4 from rfl,<-Nat.pow_add,<-Nat.pow_add,show 4*(i % 2 ^ 4)+(4+(60-4*(i % 2 ^ 4)))=64 from by omega]
 rw[h64,Nat.mod_mul_right_div_self,Nat.mod_mul_right_mod,Nat.div_div_eq_div_mul,<-Nat.pow_add,show 64*(i / 16)+4*(i % 16)=4*i from by omega,Nat.pow_mul]

theorem H6p {m:Nat}:I8 BinOp.and IntKind.u64 (m:Int) (15:Int)=((m % 16:Nat):Int):=by
 show wrap IntKind.u64 ((BitVec.ofInt 64 (m:Int) &&& BitVec.ofInt 64 ((15:Nat):Int)).toNat:Int)=_;rw[BitVec.ofInt_natCast,BitVec.ofInt_natCast,BitVec.toNat_and,BitVec.toNat_ofNat,BitVec.toNat_ofNat];have e:15 % 2 ^ 64=2 ^ 4-1:=by decide
 rw[e,Nat.and_two_pow_sub_one_eq_mod];show (((m % 2 ^ 64 % 2 ^ 4:Nat):Int)) % 18446744073709551616=_;omega

/-- A digit, as it is reckoned. -/
theorem F0u (k:U4) {i:Nat} (hi:i<64):wrap IntKind.i64 (I8 BinOp.and IntKind.u64 (Int.fdiv (A0 (Ob.n (Ob.fr k)) (0+(((wrap IntKind.i64 (Int.tdiv (i:Int) (16:Int)))).toNat*1))) ((2:Int) ^ (Min.min ((wrap IntKind.i64 ((4:Int)*(Int.tmod (i:Int) (16:Int))))).toNat 64))) (15:Int))=((k.val / 16 ^ i % 16:Nat):Int):=by
 have e1:Int.tdiv (i:Int) (16:Int)=((i / 16:Nat):Int):=Int.tdiv_eq_ediv_of_nonneg (by omega)
 have e2:Int.tmod (i:Int) (16:Int)=((i % 16:Nat):Int):=Int.tmod_eq_emod_of_nonneg (by omega)
 rw[e1,e2,C9 (n:=((i / 16:Nat):Int)) (by omega) (by omega),C9 (n:=(4:Int)*((i % 16:Nat):Int)) (by omega) (by omega),Int.toNat_natCast]
 have e3:Min.min ((4:Int)*((i % 16:Nat):Int)).toNat 64=4*(i % 16):=by omega
 have e4:0+i / 16*1=i / 16:=by omega
 rw[e3,e4];have hl:A0 (Ob.n (Ob.fr k)) (i / 16)=((k.val / 2 ^ (64*(i / 16)) % 18446744073709551616:Nat):Int):=rfl;rw[hl,<-G1b k.val i];generalize k.val / 2 ^ (64*(i / 16)) % 18446744073709551616=m;have hp:((2:Int) ^ (4*(i % 16)))=((2 ^ (4*(i % 16)):Nat):Int):=by simp
 rw[hp,Int.fdiv_eq_ediv_of_nonneg _ (Int.natCast_nonneg _),<-Int.natCast_ediv,H6p];exact C9 (by omega) (by omega)

theorem E5w {i:Nat} (hi:i<64):wrap IntKind.i64 (Int.tdiv (i:Int) (16:Int))=((i / 16:Nat):Int):=by
 have e1:Int.tdiv (i:Int) (16:Int)=((i / 16:Nat):Int):=Int.tdiv_eq_ediv_of_nonneg (by omega)
 rw[e1];exact C9 (by omega) (by omega)
theorem E5x (i:Nat):(0:Int)<=wrap IntKind.i64 ((4:Int)*(Int.tmod (i:Int) (16:Int))):=by
 have e2:Int.tmod (i:Int) (16:Int)=((i % 16:Nat):Int):=Int.tmod_eq_emod_of_nonneg (by omega)
 rw[e2,C9 (by omega) (by omega)]
 omega

/-! A block told in other words. -/
def F0j (x:Ctx):List (Option En)->List (Option En)->Prop
 | [],[]=>True
 | e::l,e' :: l' => (e=e' ∨ ∃f f' r,e=some (.fl r)∧e=some f∧e' = some f' ∧ ∀cs,D4 x f cs->D4 x f' cs)∧F0j x l l'
 | _,_=>False

theorem B8z {x:Ctx}:∀{ml:List Nat} {ens ens' : List (Option En)},F0j x ens ens' -> ∀p,D8 none ml ens p=D8 none ml ens' p∨∃f f' r,D8 none ml ens p=some (.fl r)∧D8 none ml ens p=some f∧D8 none ml ens' p=some f' ∧ ∀cs,D4 x f cs->D4 x f' cs
 | [],_,_,_,_=>.inl rfl
 | _::_,[],[],_,_=>.inl rfl
 | _::_,[],_::_,h,_=>h.elim
 | _::_,_::_,[],h,_=>h.elim
 | t::tl,e::l,e' :: l',h,p=>by
  simp only[D8];by_cases hp:p=t
  ·simp only[hp,if_true];exact h.1
  ·simp only[hp,if_false];exact B8z h.2 p

theorem Sim.blocks {w0:World} {F0:Nat->Prop} {K:Kp} {as:List Act} {nt nx:Nat} {tl:List Nat} {svs:List SV} {ml:List Nat} {ens ens' : List (Option En)} {ftl:List (List Nat)} {fsv:List (List SV×Nat)} {x:Ctx} {a:Act}
  (hs:Sim w0 F0 K as (B2 nt tl svs ml ens nx ftl fsv) x a) (h:F0j x ens ens'):Sim w0 F0 K as (B2 nt tl svs ml ens' nx ftl fsv) x a:=by
 have hm:=hs.mem;refine ⟨hs.defers,hs.nt,hs.t,?_,hs.base,hs.frs⟩
 have key:=B8z (ml:=ml) h;refine ⟨fun p=>?_,fun p l hp=>?_,fun p q hp hn=>?_,fun p e hp hr=>?_,hm.inj,hm.own,hm.fw⟩
 ·rw[<-hm.dom p]
  show D8 none ml ens' p=none↔D8 none ml ens p=none;rcases key p with e | ⟨f,f',r,e1,e2,e3,_⟩
  ·rw[e]
  ·rw[e2,e3]
   constructor<;>(intro h;cases h)
 ·have hp:D8 none ml ens' p=some (.fl l):=hp
  rcases key p with e | ⟨f,f',r,e1,e2,e3,_⟩
  ·rw[<-e] at hp;exact hm.fl p l hp
  ·exact hm.fl p r e1
 ·have hp:D8 none ml ens' p=some (.sq q):=hp
  rcases key p with e | ⟨f,f',r,e1,e2,e3,_⟩
  ·rw[<-e] at hp;exact hm.nil p q hp hn
  ·have:=hm.fl p r e1
   rw[this] at hn;cases hn
 ·have hp:D8 none ml ens' p=some e:=hp
  rcases key p with e0 | ⟨f,f',r,e1,e2,e3,hc⟩
  ·rw[<-e0] at hp;exact hm.ent p e hp hr
  ·rw[e3] at hp
   cases hp
   obtain ⟨cs,ty,h1,h2⟩:=hm.ent p f e2 hr;exact ⟨cs,ty,h1,hc _ h2⟩

end

section

section
variable {F:Type} [Add F] [Sub F] [Mul F] [OfNat F 0] [DecidableEq F]
/-- The table: the point 0, 1, 2 .. times. -/
def V9 (a:F×F×F):Nat->F×F×F
 | 0=>(a.1,a.2.1,0)
 | n+1=>jpl (V9 a n) a
def jst (a o:F×F×F) (d:Nat):F×F×F:=jpl (jtw (jtw (jtw (jtw o)))) (V9 a d)
def jmn (a:F×F×F) (l:List Nat):F×F×F:=l.foldl (jst a) (V9 a 0)
def A4p:Nat->F×F×F->F×F×F
 | 0,o=>o
 | n+1,o=>jtw (A4p n o)
end

theorem G2w {F:Type} [Add F] [Sub F] [Mul F] [OfNat F 0] [DecidableEq F] (a o:F×F×F) (d:Nat):jst a o d=jpl (A4p 4 o) (V9 a d):=rfl
theorem C5h {F:Type} [Add F] [Sub F] [Mul F] [OfNat F 0] [DecidableEq F] (n:Nat) (o:F×F×F):A4p (n+1) o=jtw (A4p n o):=rfl
section
variable {F:Type} [Fld F] [DecidableEq F] {b:F}

/-- A point as often as a number says. -/
def G7 (P:Pt F):Nat->Pt F
 | 0=>none
 | n+1=>D9 (G7 P n) P

theorem W9 (hc:Cv b) {P:Pt F} (h:OnC b P):∀n,OnC b (G7 P n)
 | 0=>True.intro
 | n+1=>M8 hc _ _ (W9 hc h n) h

theorem A0r (hc:Cv b) {P:Pt F} (h:OnC b P) (m:Nat):∀n,G7 P (m+n)=D9 (G7 P m) (G7 P n)
 | 0=>(Q6 _).symm
 | n+1=>by
  show D9 (G7 P (m+n)) P=D9 (G7 P m) (D9 (G7 P n) P);rw[A0r hc h m n,P8 hc _ _ _ (W9 hc h m) (W9 hc h n) h]

theorem B4x:∀n,G7 (none:Pt F) n=none
 | 0=>rfl
 | n+1=>by
  show D9 (G7 none n) none=none;rw[B4x n];rfl

theorem C1n (hc:Cv b) {P:Pt F} (h:OnC b P) (m:Nat):∀n,G7 P (m*n)=G7 (G7 P m) n
 | 0=>rfl
 | n+1=>by
  rw[Nat.mul_succ,A0r hc h,C1n hc h m n];rfl

theorem E6f (hc:Cv b) {P Q R S:Pt F} (hP:OnC b P) (hQ:OnC b Q) (hR:OnC b R) (hS:OnC b S):D9 (D9 P Q) (D9 R S)=D9 (D9 P R) (D9 Q S):=by
 rw[P8 hc _ _ _ hP hQ (M8 hc _ _ hR hS),<-P8 hc _ _ _ hQ hR hS,Y7 hc Q R hQ hR,P8 hc _ _ _ hR hQ hS,<-P8 hc _ _ _ hP hR (M8 hc _ _ hQ hS)]

theorem B4w (hc:Cv b) {P Q:Pt F} (hP:OnC b P) (hQ:OnC b Q):∀n,G7 (D9 P Q) n=D9 (G7 P n) (G7 Q n)
 | 0=>rfl
 | n+1=>by
  show D9 (G7 (D9 P Q) n) (D9 P Q)=D9 (D9 (G7 P n) P) (D9 (G7 Q n) Q);rw[B4w hc hP hQ n,E6f hc (W9 hc hP n) (W9 hc hQ n) hP hQ]

/-- What adds up to that at infinity is less the other. -/
theorem E6h (hc:Cv b) {P Q:Pt F} (hP:OnC b P) (hQ:OnC b Q) (h:D9 P Q=none):Q=P5 P:=by
 have e1:D9 (P5 P) (D9 P Q)=P5 P:=by rw[h,Q6]
 rw[<-P8 hc _ _ _ (A0c P hP) hP hQ,Y7 hc _ _ (A0c P hP) hP,V5 hc P hP] at e1;exact e1

theorem E7b (hc:Cv b) {P:Pt F} (hP:OnC b P) (n:Nat):G7 (P5 P) n=P5 (G7 P n):=by
 apply E6h hc (W9 hc hP n) (W9 hc (A0c P hP) n)
 rw[<-B4w hc hP (A0c P hP),V5 hc P hP,B4x]

theorem E3d (two:(1:F)+1≠0) {P:Pt F} {a:F×F×F} (h:Jc P a):∀n,Jc (G7 P n) (V9 a n)
 | 0=>rfl
 | n+1=>B4k two _ _ _ _ (E3d two h n) h

theorem H0j (hc:Cv b) {P:Pt F} {a:F×F×F} (hP:OnC b P) (h:Jc P a) {m:Nat} {o:F×F×F} (ho:Jc (G7 P m) o) (d:Nat):Jc (G7 P (16*m+d)) (jst a o d):=by
 have h1:=A9g hc.two _ _ ho;rw[<-A0r hc hP] at h1;have h2:=A9g hc.two _ _ h1;rw[<-A0r hc hP] at h2;have h3:=A9g hc.two _ _ h2;rw[<-A0r hc hP] at h3;have h4:=A9g hc.two _ _ h3;rw[<-A0r hc hP] at h4;have h5:=B4k hc.two _ _ _ _ h4 (E3d hc.two h d);rw[<-A0r hc hP] at h5;rw[show 16*m+d=m+m+(m+m)+(m+m+(m+m))+(m+m+(m+m)+(m+m+(m+m)))+d from by omega]
 exact h5

theorem D3q (hc:Cv b) {P:Pt F} {a:F×F×F} (hP:OnC b P) (h:Jc P a):∀(l:List Nat) (m:Nat) (o:F×F×F),Jc (G7 P m) o->Jc (G7 P (l.foldl (fun v d=>16*v+d) m)) (l.foldl (jst a) o)
 | [],_,_,ho=>ho
 | d::l,m,o,ho=>D3q hc hP h l (16*m+d) (jst a o d) (H0j hc hP h ho d)

theorem D8r (hc:Cv b) {P:Pt F} {a:F×F×F} (hP:OnC b P) (h:Jc P a) (l:List Nat):Jc (G7 P (dgV l)) (jmn a l):=D3q hc hP h l 0 (V9 a 0) (rfl:(0:F)=0)
end

theorem E1x {n t:Nat} (ht:t=64) (h:n<16 ^ 64):dgV (dgT n t)=n:=by
 have e:=G7f h t (by omega)
 rw[show 64-t=0 from by omega,Nat.pow_zero,Nat.div_one] at e
 exact e
theorem H6s (k:U4):k.val<16 ^ 64:=by
 have h:B4=16 ^ 64:=by decide +kernel
 rw[<-h];exact k.isLt

theorem F0r (k:U4):dgV (dgT k.val 64)=k.val:=E1x (Eq.refl 64) (H6s k)

end

section

/-- The contracts of both: where the first one has none, the second one's. -/
def Env.or (a b:Env):Env:={ a with fn:=fun f=>match a.fn f with | some s=>some s | none=>b.fn f }
theorem A8y {P:Program} {a b:Env} (hA:A8 P a) (hB:A8 P b):A8 P (a.or b):=by
 refine ⟨hA.ty,hA.mixed,fun f s h=>?_,hA.mu,hA.inl,hA.ex,hA.inv⟩
 have h:(match a.fn f with | some s=>some s | none=>b.fn f)=some s:=h
 cases e:a.fn f with
 | some s' => rw[e] at h;exact hA.fn f s (by rw[e];exact h)
 | none=>rw[e] at h;exact hB.fn f s h
end

section

/-- The row at pb is told as data, and nothing else but the box at p is told of. -/
def C0c (y:Ctx) (p pb:Nat):Ctx:=
  { w:=y.w,F:=fun b=>y.F b∨(y.k pb = .real∧b=y.β pb),k:=fun i=>if i=p then y.k p else .no,β:=y.β }
def fzM (p:Nat) (q:Sq):Nat->Option En:=fun i=>if i=p then some (.fl [.sl q]) else none

theorem G9q {y:Ctx} {m:Nat->Option En} {p pb len es:Nat} {q:Sq} (hm:Mem y m) (hq:m pb=some (.sq q)) (hl:len=q.n) {vs:List Value} (hd:y.D (.slc pb 0 len es) vs):(C0c y p pb).D (.sl q) vs:=by
 have hs:∃v,vs=[v]∧B8 y (.v (.c (.slc pb 0 len es))) v:=by
  have:=A2r hd
  match vs,this with
  | [v],_=>exact ⟨v,rfl,rfl,hd⟩
 obtain ⟨v,rfl,hs⟩:=hs;subst hl;rcases A1s hs with ⟨hk,_,h0,rfl⟩ | ⟨hk,cap,cs,ty,rfl,hlc,hcm,hcs,hfit⟩
 ·exact ⟨1,.inl ⟨none,0,rfl,h0⟩⟩
 ·obtain ⟨cs',ty',hcs',hden⟩:=hm.ent pb _ hq hk
  obtain ⟨d,hd'⟩:=A3s (R:=fun d i=>∃c,C4 (den (C0c y p pb) d) (q.get i) c∧rd (C0c y p pb).w (C0c y p pb).F (y.β pb) (0+i*q.es) c) (n:=q.n)
   (fun d d' i hdd ⟨c,hc,hr⟩=>⟨c,E7 (fun _ _ h=>A0v hdd h) hc,hr⟩) (fun i hi=>by
    obtain ⟨c,hc,hj⟩:=hden.2 i hi;obtain ⟨d,hc⟩:=I7 (W4 (x:=y) (y:=C0c y p pb) rfl (fun b hb=>.inl hb) (K3 q i) hc)
    refine ⟨d,c,hc,.inr ⟨hk,rfl⟩,fun j v hv=>?_⟩
    show y.w.cell? _=_;rw[P2 hcs',Nat.zero_add];exact hj j v hv)
  exact ⟨d+1,.inr ⟨y.β pb,0,cap,rfl,hlc,by omega,hd'⟩⟩

theorem G9r {y:Ctx} {m:Nat->Option En} {p pb len es:Nat} {q:Sq} (hm:Mem y m) (hp:m p=some (.fl [.slc pb 0 len es])) (hq:m pb=some (.sq q)) (hl:len=q.n) (hr:y.k p = .real):Mem (C0c y p pb) (fzM p q):=by
 have hne:p≠pb:=fun e=>by rw[e,hq] at hp;cases hp
 refine ⟨fun i=>?_,fun i l h=>?_,fun i q' h=>?_,fun i e h hk=>?_,fun i j hi hj h=>?_,fun i hi=>?_,fun b hb=>?_⟩
 ·show (if i=p then some (En.fl [.sl q]) else none)=none↔(if i=p then y.k p else .no) = .no
  by_cases e:i=p
  ·rw[if_pos e,if_pos e,hr];exact ⟨fun h=>(nomatch h),fun h=>(nomatch h)⟩
  ·rw[if_neg e,if_neg e];exact ⟨fun _=>rfl,fun _=>rfl⟩
 ·have h:(if i=p then some (En.fl [.sl q]) else none)=some (.fl l):=h
  show (if i=p then y.k p else .no) = .real
  split at h
  ·rename_i e;rw[if_pos e];exact hr
  ·cases h
 ·have h:(if i=p then some (En.fl [.sl q]) else none)=some (.sq q'):=h
  split at h<;>cases h
 ·have h:(if i=p then some (En.fl [.sl q]) else none)=some e:=h
  split at h
  ·rename_i ei
   cases h
   subst ei;obtain ⟨cs,ty,h1,c1,c2,e1,h2,h3⟩:=hm.ent i _ hp hr;exact ⟨cs,ty,h1,c1,c2,e1,G9q hm hq hl h2,h3⟩
  ·cases h
 ·have hi:(if i=p then y.k p else .no) = .real:=hi
  have hj:(if j=p then y.k p else .no) = .real:=hj
  by_cases e1:i=p
  ·by_cases e2:j=p
   ·rw[e1,e2]
   ·rw[if_neg e2] at hj;cases hj
  ·rw[if_neg e1] at hi;cases hi
 ·have hi:(if i=p then y.k p else .no) = .real:=hi
  by_cases e1:i=p
  ·subst e1
   rintro (h | ⟨h1,h2⟩)
   ·exact hm.own i hr h
   ·exact hne (hm.inj i pb hr h1 h2)
  ·rw[if_neg e1] at hi;cases hi
 ·rcases hb with hb | ⟨h1,rfl⟩
  ·exact hm.fw b hb
  ·obtain ⟨cs,ty,h,_⟩:=hm.ent pb _ hq h1
   exact (Array.getElem?_eq_some_iff.1 h).1

theorem A8e.freeze {P:Program} {x:Ctx} {gf p pb len es:Nat} {α:Type} {encs:α->List Value} {xs:List α} {M:List α->Nat->Option En} {q:Sq} (hp:∀s,M s p=some (.fl [.slc pb 0 len es])) (hq:∀s,M s pb=some (.sq q)) (hl:len=q.n)
  (h:A8e P x gf [(p,0)] encs xs fun _=>fzM p q):A8e P x gf [(p,0)] encs xs M:=by
 intro l J W hgrow hread hyield hJ;refine h l J W hgrow (fun s W hs=>?_) hyield hJ
 obtain ⟨y,e,hm,hc⟩:=hread s W hs;obtain ⟨hr,hβ⟩:=hc (p,0) List.mem_cons_self;refine ⟨C0c y p pb,e,G9r hm (hp s) (hq s) hl hr,fun c hc' => ?_⟩
 have:c=(p,0):=List.mem_singleton.1 hc'
 subst this;refine ⟨?_,hβ⟩
 show (if p=p then y.k p else .no) = .real
 rw[if_pos rfl];exact hr
end

section

def G0t (x y:Ctx):List SV->List SV->Prop
 | [],[]=>True
 | s::l,s' :: l' => (∀v,B8 x s v->B8 y s' v)∧G0t x y l l'
 | _,_=>False
theorem B4o {x y:Ctx}:∀{tl:List Nat} {svs svs' : List SV},G0t x y svs svs' -> ∀j v,B8 x (D8 .top tl svs j) v->B8 y (D8 .top tl svs' j) v
 | [],_,_,_,_,_,_=>trivial
 | _::_,[],[],_,_,_,_=>trivial
 | _::_,[],_::_,h,_,_,_=>h.elim
 | _::_,_::_,[],h,_,_,_=>h.elim
 | t::tl,s::l,s' :: l',h,j,v,hd=>by
  simp only[D8] at hd ⊢
  by_cases hj:j=t
  ·simp only[hj,if_true] at hd ⊢;exact h.1 v hd
  ·simp only[hj,if_false] at hd ⊢;exact B4o h.2 j v hd
theorem F0n {x y:Ctx} {u:Value}:∀v,B8 x (.v (.c (.val u))) v->B8 y (.v (.c (.val u))) v:=fun v h=>⟨rfl,0,by obtain ⟨rfl,h1⟩:=A1t h;exact ⟨rfl,h1⟩⟩
theorem C7n {x y:Ctx} {k:IntKind} {n:Int}:∀v,B8 x (.v (.c (.int k n))) v->B8 y (.v (.c (.int k n))) v:=fun v h=>by rw[U5 h];exact ⟨rfl,0,rfl⟩
theorem F0o {x y:Ctx} {u:Value} {q:Sq} (h:y.D (.sl q) [u]):∀v,B8 x (.v (.c (.vsl u q))) v->B8 y (.v (.c (.vsl u q))) v:=fun v hv=>by
 have e:=(E0z hv.2).1;simp only[List.cons.injEq,and_true] at e;subst e;exact ⟨rfl,E0k h⟩
theorem D7t {x y:Ctx} {s:SV}:∀v,B8 x s v->B8 y .top v:=fun _ _=>trivial
theorem G8r {x y z:Ctx} {q:Nat} (hβ:z.β q=y.β q):∀v,B8 x (.v (.c (.val (.pointer (some ⟨z.β q,0,none⟩))))) v->B8 (E4 y q) (.v (.c (.ptr 0 0))) v:=fun v h=>by
 obtain ⟨rfl,_⟩:=A1t h;exact ⟨rfl,0,rfl,by show _=[Value.pointer (some ⟨y.β q,0,none⟩)];rw[hβ]⟩
theorem G8q {z y:Ctx} {q:Nat} (hβ:z.β 0=y.β q):∀v,B8 z (.v (.c (.ptr 0 0))) v->B8 (E4 y q) (.v (.c (.ptr 0 0))) v:=fun v h=>by
 obtain ⟨_,rfl⟩:=A8d h;exact ⟨rfl,0,rfl,by show _=[Value.pointer (some ⟨y.β q,0,none⟩)];rw[hβ]⟩

/-- A world of which nothing is told. -/
def E1j (w:World):Ctx:=⟨w,fun _=>False,fun _=>.no,fun _=>0⟩
theorem G2s {w:World} {nt nx:Nat} {a:Act} (hnt:a.tmps.size=nt) (hd:a.defers=[]) {dst:Nat} {b:Bool} (hdst:Nat.blt dst nt=true) :
  Sim w (fun _=>False) Y8 [] ⟨M3 (D8 .top [] []) dst (.v (.c (.lit b))),D8 none [] [],nt,nx,[]⟩ (E1j w) (a.put (some dst) (.bool b)):=by
 refine ⟨hd,by simp [Act.put];exact hnt,fun j=>?_,?_,?_,.nil⟩
 ·show B8 _ (M3 (D8 .top [] []) dst (.v (.c (.lit b))) j) _
  unfold M3;by_cases hj:j=dst
  ·subst hj
   simp only[if_true];have hlt:j<a.tmps.size:=by rw[hnt];simpa [Nat.blt_eq] using hdst
   simp only[Act.put,Array.getD_eq_getD_getElem?,Array.getElem?_setIfInBounds,if_true,hlt,Option.getD_some];exact ⟨rfl,0,rfl⟩
  ·simp only[hj,if_false]
   exact trivial
 ·exact ⟨fun _=>⟨fun _=>rfl,fun _=>rfl⟩,fun _ _ h=>(by cases h),fun _ _ h=>(by cases h),fun _ _ h=>(by cases h),fun _ _ h=>(by cases h),fun _ h=>(by cases h),fun _ h=>h.elim⟩
 ·exact ⟨fun _ h=>h,fun _ h=>.inl h,Nat.le_refl _,fun _ _ _=>rfl,fun _ h=>(by cases h),rfl,rfl,rfl,fun _ h=>(by cases h)⟩

section
variable {P:Program} {y:Ctx} {m:Nat->Option En} {q:Nat} {e e' : En}
/-- The next state, told anew in a world that is looked at anew. -/
theorem G2t {z:Ctx} {nt nx nx' : Nat} {tl:List Nat} {svs svs' : List SV} {ml:List Nat} {ens:List (Option En)} {w0:World} {F0:Nat->Prop} {K:Kp} {as:List Act} {a:Act} (hs:Sim w0 F0 K as (B2 nt tl svs ml ens nx [] []) z a) (hds:K.ds=[])
  (hm:Mem y m) (hp:m q=some e) (hr:y.k q = .real) (hd:∀(cs:Array Value) ty,y.w.heap[y.β q]? = some (.cells cs ty (0,0))->D4 y e cs.toList->D4 (E4 y q) e' cs.toList) (hc:G0t z (E4 y q) svs svs') :
  Sim y.w y.F (B4l (E4 y q)) as (B2 nt tl svs' [0] [some e'] nx' [] []) (E4 y q) a:=by
 have hfr:Frs z K.ds [] as:=hs.frs
 cases hfr
 have had:a.defers=[]:=hs.defers.trans hds;have k:=B4i (nx:=nx') hm hp hr hd had hs.nt (t:=D8 .top tl svs') fun j=>B4o hc j _ (hs.t j)
 have e1:D8 none [0] [some e']=one e' := by
  funext i
  simp only[D8,one]
 show Sim y.w y.F (B4l (E4 y q)) [] ⟨D8 .top tl svs',D8 none [0] [some e'],nt,nx',[]⟩ (E4 y q) a;rw[e1];exact k
/-- The same, where a slot holds what a yield has answered. -/
theorem F3h {z:Ctx} {nt nx nx' : Nat} {tl:List Nat} {svs svs' : List SV} {ml:List Nat} {ens:List (Option En)} {w0:World} {F0:Nat->Prop} {K:Kp} {as:List Act} {a:Act} (hs:Sim w0 F0 K as (B2 nt tl svs ml ens nx [] []) z a) (hds:K.ds=[])
  (hm:Mem y m) (hp:m q=some e) (hr:y.k q = .real) (hd:∀(cs:Array Value) ty,y.w.heap[y.β q]? = some (.cells cs ty (0,0))->D4 y e cs.toList->D4 (E4 y q) e' cs.toList) (hc:G0t z (E4 y q) svs svs') {dst:Nat} {b:Bool} (hdst:Nat.blt dst nt=true) :
  Sim y.w y.F (B4l (E4 y q)) as ⟨M3 (D8 .top tl svs') dst (.v (.c (.lit b))),one e',nt,nx',[]⟩ (E4 y q) (a.put (some dst) (.bool b)):=by
 have hfr:Frs z K.ds [] as:=hs.frs
 cases hfr
 have had:a.defers=[]:=hs.defers.trans hds;refine B4i hm hp hr hd (by simpa [Act.put] using had) (by have:=hs.nt;simp [Act.put];exact this) fun j=>?_
 have h0:=B4o hc j _ (hs.t j);show B8 _ (M3 (D8 .top tl svs') dst (.v (.c (.lit b))) j) _;unfold M3;by_cases hj:j=dst
 ·subst hj
  simp only[if_true];have hlt:j<a.tmps.size:=by
   have h1:=hs.nt;have h2:a.tmps.size=nt:=h1;rw[h2];simpa [Nat.blt_eq] using hdst
  simp only[Act.put,Array.getD_eq_getD_getElem?,Array.getElem?_setIfInBounds,if_true,hlt,Option.getD_some];exact ⟨rfl,0,rfl⟩
 ·simp only[hj,if_false]
  have:(a.put (some dst) (.bool b)).tmps.getD j undef=a.tmps.getD j undef:=by
   simp [Act.put,Array.getD_eq_getD_getElem?,Ne.symm hj]
  rw[this];exact h0
/-- What a captured box holds, seen by the iterator. -/
theorem G8k {v:Value} {s:Sq} (cs:Array Value) (hc:D4 y (.fl [.vsl v s]) cs.toList):D4 (E4 y q) (.fl [.vsl v s]) cs.toList:=by
 obtain ⟨c1,c2,e,h1,h2⟩:=hc;have h2:c2=[]:=h2;exact ⟨c1,c2,e,A4k (x:=y) (y:=E4 y q) rfl (fun _ h=>h) rfl h1,by rw[h2];rfl⟩
/-- What is data stays it, while own blocks change. -/
theorem C4k {x:Ctx} {K:Kp} {ds:List Deferred} {m:Nat->Option En} (hm:Mem x m) (hb:A8r x.w x.F (U1 x K ds) y) {i:It} {vs:List Value} (hi:E6 i=true) (h:x.D i vs):y.D i vs:=by
 have h1:(⟨x.w,x.F,fun _=>.no,x.β⟩:Ctx).D i vs:=A4k (x:=x) (y:=⟨x.w,x.F,fun _=>.no,x.β⟩) rfl (fun _ h=>h) hi h
 have hext:Ext ⟨x.w,x.F,fun _=>.no,x.β⟩ ⟨y.w,y.F,fun _=>.no,y.β⟩:=
  ⟨hb.size,fun b hF=>⟨hb.f0 b hF,hb.keep b (hm.fw b hF) fun p hp e=>hm.own p hp (e ▸ hF)⟩,fun p hp=>absurd rfl hp,fun p hp=>(by cases hp),fun p hp=>(by cases hp)⟩
 exact A4k (x:=⟨y.w,y.F,fun _=>.no,y.β⟩) (y:=y) rfl (fun _ h=>h) hi (C4e hext _ _ h1)
end
end

section

section
variable {P:Program} {w0:World} {F0:Nat->Prop} {K:Kp} {as:List Act} {x:Ctx} {a:Act} {σ:St}

theorem Sim.outOwn (hs:Sim w0 F0 K as σ x a) {σ2:St} {y:Ctx} {b:Act} {as' : List Act} (g:Sim x.w x.F (U1 x K K.ds) as' σ2 y b):Sim w0 F0 K as' σ2 y b:=⟨g.defers,g.nt,g.t,g.mem,hs.base.trans g.base,g.frs⟩

theorem Sim.marked2 (h:Sim w0 F0 K as σ x a) (hfr:σ.fr=[]) (D:Nat):Sim x.w x.F (U1 x K (H8 D++K.ds)) as σ x { a with defers:={ target:=.collected D,args:=#[] } :: a.defers }:=by
 have hd:=h.defers;have hf:=h.frs;rw[hfr] at hd hf;refine ⟨?_,h.nt,h.t,h.mem,h.base.own _,?_⟩
 ·rw[hfr]
  show _::a.defers=H8 D++K.ds;rw[hd];rfl
 ·rw[hfr]
  cases hf
  exact .nil

theorem Sim.unmark2 {D:Nat} {σ2:St} {as' : List Act} {z:Ctx} {b:Act} (h:Sim w0 F0 K as σ x a) (hD:w0.heap.size<=D) (hF:¬x.F D) (hd:x.w.heap[D]? = some (.deferred (some []))) (hfr:σ2.fr=[])
  (g:Sim x.w x.F (U1 x K (H8 D++K.ds)) as' σ2 z b):b.defers=H8 D++K.ds∧z.w.heap[D]? = some (.deferred (some []))∧Sim w0 F0 K as' σ2 { z with w:=z.w.putObj D (.deferred none) } { b with defers:=K.ds }:=by
 have hz:=O5 h.mem g.base hd rfl;have hlt:D<x.w.heap.size:=(Array.getElem?_eq_some_iff.1 hd).1;have hb:=g.defers;have hf:=g.frs;rw[hfr] at hb hf;refine ⟨hb,hz,?_⟩
 have hs:Sim w0 F0 K as' σ2 z { b with defers:=K.ds }:=by
  refine ⟨?_,g.nt,g.t,g.mem,h.base.trans g.base,?_⟩
  ·rw[hfr];rfl
  ·rw[hfr]
   cases hf
   exact .nil
 refine hs.world rfl rfl rfl (by simp) (fun c hc=>World.putObj_heap_other ?_) (fun p hp=>World.putObj_heap_other ?_) (fun c hc _=>World.putObj_heap_other ?_)
 ·intro e
  subst e;rcases g.base.fn c hc with h1 | h1
  ·exact hF h1
  ·omega
 ·intro e
  cases hm:σ2.m p with
  | none=>rw[(g.mem.dom p).1 hm] at hp;cases hp
  | some en=>
   obtain ⟨cs,ty,hc,_⟩:=g.mem.ent p en hm hp;rw[e,hz] at hc
   cases hc
 ·omega

theorem D2l {fn:Func} {R:Ending->World->Prop} {D D' : Nat} {w:World} (hd:a.defers=H8 D' ++ H8 D) (hh:w.heap[D']? = some (.deferred (some []))) (hh2:(w.putObj D' (.deferred none)).heap[D]? = some (.deferred (some [])))
  (h:bodyPost P fn R .ret { a with defers:=[] } ((w.putObj D' (.deferred none)).putObj D (.deferred none))):bodyPostM Fence.wide 0 P fn R .ret a w:=by
 have key:LeavesInM Fence.wide 0 P fn a.tmps R a.defers .returning w:=by
  rw[hd];refine ⟨by simp,.inl ⟨_,_,rfl,run_takeDeferred hh,?_⟩⟩
  refine ⟨by simp,.inl ⟨_,_,rfl,run_takeDeferred hh2,?_⟩⟩
  obtain ⟨_,v,hv,hR⟩:=h;exact ⟨v,hv,hR⟩
 exact key

theorem D8g {env:Env} (hE:A8 P env) {fn:Func} {x0:Ctx} (hk:∀p,x0.k p = .no) (hF:∀b,x0.F b->b<x0.w.heap.size) {unroll:Bool} {n:Nat} {path:List Bool} {ps fz:List Nat} {ob:List Prop} {r rr:SV} {es:List En} {D D' : Nat} {y y' : Ctx} {a0 a1:Act} {σ1 σ2 σ3:St} {as0 as1 as:List Act} {z:Ctx} {b:Act}
  (h:J7 env fn unroll n ⟨[],.ret,σ3⟩ path ps fz=some (ob,r,es)) (ho:A9 ob) (hconv:∀y v,B8 y r v->B8 y rr v)
  (h1:Sim x0.w x0.F Y8 as0 σ1 y a0) (hD:x0.w.heap.size<=D) (hFD:¬y.F D) (hd:y.w.heap[D]? = some (.deferred (some [])))
  (h2:Sim y.w y.F (U1 y Y8 (H8 D)) as1 σ2 y' a1) (hD' : y.w.heap.size<=D') (hFD' : ¬y'.F D') (hd' : y'.w.heap[D']? = some (.deferred (some []))) (hfr:σ3.fr=[])
  (g:Sim y'.w y'.F (U1 y' (U1 y Y8 (H8 D)) (H8 D' ++ H8 D)) as σ3 z b):bodyPostM Fence.wide 0 P fn (RF x0 rr es) .ret b z.w:=by
 obtain ⟨g1,g2,g3⟩:=h2.unmark2 hD' hFD' hd' hfr g;obtain ⟨k1,k2,k3⟩:=h1.unmark rfl hD hFD hd hfr g3;refine D2l g1 g2 k2 ?_
 exact (Q4 hE hk hF h ho hconv k3).wp
end
end

section

section
variable {F:Type} [Add F] [Sub F] [Mul F] [OfNat F 0] [DecidableEq F]
/-- One point is put into the row of its digit. -/
def bkS (z:F×F×F) (S:List (F×F×F)) (p:F×F×F) (d:Int):List (F×F×F):=
 if d > 0 then S.set d.toNat (jpl (S.getD d.toNat z) p) else if d<0 then S.set (-d).toNat (jpl (S.getD (-d).toNat z) (jng p)) else S
/-- So many points are. -/
def bkN (z:F×F×F) (S:List (F×F×F)) (ps:List (F×F×F)) (ds:List Int):Nat->List (F×F×F)
 | 0=>S
 | i+1=>bkS z (bkN z S ps ds i) (ps.getD i z) (ds.getD i 0)
/-- Sums from above, and their sums. -/
def toR (z:F×F×F) (S:List (F×F×F)):Nat->F×F×F
 | 0=>z
 | n+1=>jpl (toR z S n) (S.getD (16-n) z)
def toO (z:F×F×F) (S:List (F×F×F)):Nat->F×F×F
 | 0=>z
 | n+1=>jpl (toO z S n) (toR z S (n+1))
def bkT (z:F×F×F) (ps:List (F×F×F)) (ds:List Int):F×F×F:=toO z (bkN z (List.replicate 17 z) ps ds ps.length) 16
/-- The digits of one place. -/
def A8m (L:List (List Int)) (i:Nat):List Int:=L.map fun l=>l.getD i 0
def alN (z:F×F×F) (ps:List (F×F×F)) (L:List (List Int)) (m:Nat):Nat->F×F×F
 | 0=>z
 | t+1=>jpl (A4p 5 (alN z ps L m t)) (bkT z ps (A8m L (m-1-t)))
theorem G0e (z:F×F×F) (S:List (F×F×F)) (p:F×F×F) (d:Int):(bkS z S p d).length=S.length:=by
 unfold bkS;split
 ·exact List.length_set
 ·split
  ·exact List.length_set
  ·rfl
theorem E1k (z:F×F×F) (S ps:List (F×F×F)) (ds:List Int):∀i,(bkN z S ps ds i).length=S.length
 | 0=>rfl
 | i+1=>(G0e ..).trans (E1k z S ps ds i)
end

/-! What stands for what: any relation that goes along with sums, doubles and negatives. -/
section
variable {F:Type} [Add F] [Sub F] [Mul F] [OfNat F 0] [DecidableEq F] {M:Type} [C6y M]
variable {R:F×F×F->M->Prop} {z:F×F×F}

theorem F8k {α:Type} (l:List α) (i j:Nat) (x z:α) (h:i<l.length):(l.set i x).getD j z=if j=i then x else l.getD j z:=by
 by_cases e:j=i
 ·subst e
  simp [List.getD,h]
 ·rw[if_neg e]
  simp [List.getD,List.getElem?_set_ne (Ne.symm e)]

end
end

section

section
variable {F:Type} [Fld F] [DecidableEq F] {b:F}
/-- The points of the curve. -/
def CP (b:F):Type:={ P:Pt F // OnC b P }
@[reducible] def Q9 (hc:Cv b):AG (CP b) where
 ad P Q:=⟨D9 P.1 Q.1,M8 hc _ _ P.2 Q.2⟩
 ng P:=⟨P5 P.1,A0c _ P.2⟩
 ze:=⟨none,True.intro⟩
 ad_ze P:=Subtype.ext (Q6 _)
 ad_cm P Q:=Subtype.ext (Y7 hc _ _ P.2 Q.2)
 ad_as P Q S:=Subtype.ext (P8 hc _ _ _ P.2 Q.2 S.2)
 ng_ad P:=Subtype.ext (by
  show D9 (P5 P.1) P.1=none;rw[Y7 hc _ _ (A0c _ P.2) P.2,V5 hc _ P.2])
/-- All digits of all numbers. -/
def G8t (n:Nat) (ks:List Nat):List (List Int):=ks.map fun k=>(dgW k n).1
end
end

set_option linter.unusedVariables false
set_option linter.unusedSectionVars false
section

section
variable {M:Type} [C6y M]
theorem G4a {A B C:M} (h2:∀X:M,X+X=0->X=0) (h3:A+A+A=0->A=0) (h5A:A+A+A+A+A=0->A=0) (h5B:B+B+B+B+B=0->B=0) (hA:A≠0) (hB:B≠0) (hAB:A+B≠0)
  (k1:A+A+B=0∨A=B+C) (k2:B+A+B=0∨B+B+C=0) (k3:C=A+B∨C+B+C=0):False:=by
 rcases k1 with k1 | k1<;>rcases k2 with k2 | k2<;>rcases k3 with k3 | k3
 ·exact hA (h3 (by grind))
 ·exact hA (h3 (by grind))
 ·exact hA (h5A (by grind))
 ·exact hA (h3 (h2 _ (by grind)))
 ·exact hB (h2 _ (by grind))
 ·exact hB (h5B (by grind))
 ·exact hAB (by grind)
 ·exact hAB (by grind)
end

section
variable {F:Type} [Fld F] [DecidableEq F] {b:F}
theorem C3o {p q:F×F} (hp:OnC b (some p)) (hq:OnC b (some q)) (e:p.1=q.1):q=p∨q=ngp p:=by
 have hp:p.2*p.2=p.1*p.1*p.1+b:=hp;have hq:q.2*q.2=q.1*q.1*q.1+b:=hq;have h:(q.2-p.2)*(q.2+p.2)=0:=by rw[<-e] at hq;clear e;grind
 by_cases h1:q.2=p.2
 ·exact .inl (Prod.ext e.symm h1)
 ·right
  have h2:q.2-p.2≠0:=fun h=>h1 (by clear hp hq h1;grind)
  by_cases h3:q.2+p.2=0
  ·refine Prod.ext e.symm ?_
   show q.2=0-p.2;clear hp hq h h1 h2;grind
  ·exact absurd h (C2 h2 h3)
theorem F9e (hc:Cv b) (X:CP b):letI:=Q9 hc;X+X=0->X=0:=by
 letI:=Q9 hc
 intro h;obtain ⟨x,hx⟩:=X
 cases x with
 | none=>rfl
 | some p=>
  have h:D9 (some p) (some p)=none:=congrArg Subtype.val h;unfold D9 at h;dsimp only at h;rw[if_pos rfl,if_pos ⟨rfl,B3m hc hx⟩] at h
  cases h
def toC (P:Pt F) (h:OnC b P):CP b:=⟨P,h⟩
/-- Of the first points one is away from both sums. -/
theorem H6r (hc:Cv b) {a c e s t d:F×F} (ha:OnC b (some a)) (hcc:OnC b (some c)) (he:OnC b (some e)) (hs:D9 (some a) (some c)=some s) (ht:D9 (some c) (some e)=some t) (hd:D9 (some s) (some e)=some d)
  (h3:letI:=Q9 hc;∀X:CP b,X.1=some a∨X.1=some c->(X+X+X=0->X=0)∧(X+X+X+X+X=0->X=0)) :
  (a.1≠s.1∧a.1≠t.1)∨(c.1≠s.1∧c.1≠t.1)∨(e.1≠s.1∧e.1≠t.1):=by
 letI:=Q9 hc
 have os:OnC b (some s):=hs ▸ M8 hc _ _ ha hcc;have ot:OnC b (some t):=ht ▸ M8 hc _ _ hcc he;generalize hA:toC (some a) ha=A;generalize hB:toC (some c) hcc=B;generalize hC:toC (some e) he=C;have hS:toC (some s) os=A+B:=by rw[<-hA,<-hB];exact Subtype.ext hs.symm
 have hT:toC (some t) ot=B+C:=by rw[<-hB,<-hC];exact Subtype.ext ht.symm
 have nA:A≠0:=fun h=>by rw[<-hA] at h;exact absurd (congrArg Subtype.val h) (fun e=>nomatch e)
 have nB:B≠0:=fun h=>by rw[<-hB] at h;exact absurd (congrArg Subtype.val h) (fun e=>nomatch e)
 have nC:C≠0:=fun h=>by rw[<-hC] at h;exact absurd (congrArg Subtype.val h) (fun e=>nomatch e)
 have nS:A+B≠0:=fun h=>by rw[<-hS] at h;exact absurd (congrArg Subtype.val h) (fun e=>nomatch e)
 have nT:B+C≠0:=fun h=>by rw[<-hT] at h;exact absurd (congrArg Subtype.val h) (fun e=>nomatch e)
 have nD:A+B+C≠0:=fun h=>by
  rw[<-hS,<-hC] at h;have h:D9 (some s) (some e)=none:=congrArg Subtype.val h;rw[hd] at h
  cases h
 have sm:∀{p q:F×F} (hp:OnC b (some p)) (hq:OnC b (some q)),p.1=q.1->toC (some q) hq=toC (some p) hp∨toC (some q) hq = -(toC (some p) hp):=by
  intro p q hp hq e;rcases C3o hp hq e with h | h
  ·left;subst h;rfl
  ·right;subst h;rfl
 have h3A:=h3 A (.inl (by rw[<-hA];rfl))
 have h3B:=h3 B (.inr (by rw[<-hB];rfl))
 by_cases k1:a.1≠s.1∧a.1≠t.1
 ·exact .inl k1
 by_cases k2:c.1≠s.1∧c.1≠t.1
 ·exact .inr (.inl k2)
 by_cases k3:e.1≠s.1∧e.1≠t.1
 ·exact .inr (.inr k3)
 exfalso
 have neg:∀{x y z:F},¬(x≠y∧x≠z)->x=y∨x=z:=by
  intro x y z h;by_cases h1:x=y
  ·exact .inl h1
  ·by_cases h2:x=z
   ·exact .inr h2
   ·exact absurd ⟨h1,h2⟩ h
 have j1:A+A+B=0∨A=B+C:=by
  rcases neg k1 with k | k
  ·rcases sm ha os k with h | h
   ·rw[hS,hA] at h;exact absurd (by clear neg sm h3 h3A h3B k1 k2 k3;grind:B=0) nB
   ·rw[hS,hA] at h;left;clear neg sm h3 h3A h3B k1 k2 k3;grind
  ·rcases sm ha ot k with h | h
   ·rw[hT,hA] at h;exact .inr h.symm
   ·rw[hT,hA] at h;exact absurd (by clear neg sm h3 h3A h3B k1 k2 k3;grind:A+B+C=0) nD
 have j2:B+A+B=0∨B+B+C=0:=by
  rcases neg k2 with k | k
  ·rcases sm hcc os k with h | h
   ·rw[hS,hB] at h;exact absurd (by clear neg sm h3 h3A h3B k1 k2 k3 j1;grind:A=0) nA
   ·rw[hS,hB] at h;left;clear neg sm h3 h3A h3B k1 k2 k3 j1;grind
  ·rcases sm hcc ot k with h | h
   ·rw[hT,hB] at h;exact absurd (by clear neg sm h3 h3A h3B k1 k2 k3 j1;grind:C=0) nC
   ·rw[hT,hB] at h;right;clear neg sm h3 h3A h3B k1 k2 k3 j1;grind
 have j3:C=A+B∨C+B+C=0:=by
  rcases neg k3 with k | k
  ·rcases sm he os k with h | h
   ·rw[hS,hC] at h;exact .inl h.symm
   ·rw[hS,hC] at h;exact absurd (by clear neg sm h3 h3A h3B k1 k2 k3 j1 j2;grind:A+B+C=0) nD
  ·rcases sm he ot k with h | h
   ·rw[hT,hC] at h;exact absurd (by clear neg sm h3 h3A h3B k1 k2 k3 j1 j2;grind:B=0) nB
   ·rw[hT,hC] at h;right;clear neg sm h3 h3A h3B k1 k2 k3 j1 j2;grind
 exact G4a (F9e hc) h3A.1 h3A.2 h3B.2 nA nB nS j1 j2 j3

theorem I2o {x y y' : F} (hy:x≠0) (h:x*y=x*y'):y=y' := by
 refine B9v hy ?_
 rw[show y*x=x*y from by grind,show y' * x=x*y' from by grind]
 exact h
theorem D0u {y r r' : F} (hy:y≠0) {v:F} (h1:v=y*r) (h2:v=y*r'):r=r' := I2o hy (h1.symm.trans h2)
/-- What two lines, one behind the other, make: the same in either grouping. -/
theorem G5u (hc:Cv b) {a c e s t d:F×F} (ha:OnC b (some a)) (hcc:OnC b (some c)) (he:OnC b (some e)) (hs:D9 (some a) (some c)=some s) (ht:D9 (some c) (some e)=some t) (hd:D9 (some s) (some e)=some d) (hd2:D9 (some a) (some t)=some d)
  (hU:(a.1≠s.1∧a.1≠t.1)∨(c.1≠s.1∧c.1≠t.1)∨(e.1≠s.1∧e.1≠t.1)) :
  s.1+slp a c*slp s e=t.1+slp c e*slp a t∧s.1*s.1+s.2*(slp a c-slp s e)-slp a c*slp s e*s.1=t.1*t.1+t.2*(slp c e-slp a t)-slp c e*slp a t*t.1∧slp a c+slp s e=slp c e+slp a t:=by
 have os:OnC b (some s):=hs ▸ M8 hc _ _ ha hcc;have ot:OnC b (some t):=ht ▸ M8 hc _ _ hcc he;have T1:=O0 hc ha hcc hs;have T2:=O0 hc os he hd;have T3:=O0 hc hcc he ht;have T4:=(O0 hc ha ot hd2).swap;generalize slp a c=l1 at *;generalize icp a c=m1 at *;generalize slp s e=l2 at *;generalize icp s e=m2 at *;generalize slp c e=n1 at *;generalize icp c e=o1 at *;generalize slp a t=n2 at *;generalize icp a t=o2 at *;obtain ⟨u1,u2,u3,u4⟩:=C6t T1.ln T2.ln T1.y3 T2.y1 os;obtain ⟨v1,v2,v3,v4⟩:=C6t T3.ln T4.ln T3.y3 T4.y1 ot;have P:s.1+l1*l2=t.1+n1*n2∧s.1*s.1+s.2*(l1-l2)-l1*l2*s.1=t.1*t.1+t.2*(n1-n2)-n1*n2*t.1:=by
  have z:∀{w x y z:F},w+x+y+z=x+y+w+z∧w*x+w*y+w*z+x*y+x*z+y*z=x*y+x*w+x*z+y*w+y*z+w*z∧w*x*y+w*x*z+w*y*z+x*y*z=x*y*w+x*y*z+x*w*z+y*w*z∧w*x*y*z=x*y*w*z:=by
   intro w x y z;clear u1 u2 u3 u4 v1 v2 v3 v4 T1 T2 T3 T4 os ot ha hcc he hs ht hd hd2 hU;refine ⟨?_,?_,?_,?_⟩<;>grind
  exact E8r hc (r:=l1+l2) (r' := n1+n2) (u1.trans ((congrArg (fun x=>0-x) z.1).trans v1.symm)) (u2.trans (z.2.1.trans v2.symm)) (u3.trans ((congrArg (fun x=>0-x) z.2.2.1).trans v3.symm)) (u4.trans (z.2.2.2.trans v4.symm))
 refine ⟨P.1,P.2,?_⟩
 rcases hU with ⟨h1,h2⟩ | ⟨h1,h2⟩ | ⟨h1,h2⟩
 ·have e1:=A5n T1.y3 T2.y1 os ha T1.y1 h1
  have e2:=C4j T3.y3 T4.y1 ot ha T4.y2 h2;rw[show (ngp t).1=t.1 from rfl,<-P.1,<-P.2] at e2
  rw[show (ngp s).1=s.1 from rfl] at e1
  exact D0u (B3m hc ha) e1 e2
 ·have e1:=A5n T1.y3 T2.y1 os hcc T1.y2 h1
  have e2:=A5n T3.y3 T4.y1 ot hcc T3.y1 h2;rw[show (ngp t).1=t.1 from rfl,<-P.1,<-P.2] at e2
  rw[show (ngp s).1=s.1 from rfl] at e1
  exact D0u (B3m hc hcc) e1 e2
 ·have e1:=C4j T1.y3 T2.y1 os he T2.y2 h1
  have e2:=A5n T3.y3 T4.y1 ot he T3.y2 h2;rw[show (ngp t).1=t.1 from rfl,<-P.1,<-P.2] at e2
  rw[show (ngp s).1=s.1 from rfl] at e1
  exact D0u (B3m hc he) e1 e2
end

section
variable {F K:Type} [Fld F] [DecidableEq F] [J9 K]
/-- Elements of the lesser ring, in the greater one. -/
structure Hom (f:F->K):Prop where
 add:∀x y,f (x+y)=f x+f y
 mul:∀x y,f (x*y)=f x*f y
 sub:∀x y,f (x-y)=f x-f y
theorem Hom.zero {f:F->K} (h:Hom f):f 0=0:=by
 have:f (0-0)=f 0-f 0:=h.sub 0 0
 rw[show (0:F)-0=0 from by grind] at this
 rw[this];clear this;grind
theorem D5m {l1 m1 l2 m2 xs ys b X:K} (k1:0-ys=l1*xs+m1) (k2:ys=l2*xs+m2) (hs:ys*ys=xs*xs*xs+b) :
  X*X*X+b+(l1*X+m1)*(l2*X+m2)=(X-xs)*(X*X+(xs+l1*l2)*X+(xs*xs+ys*(l1-l2)-l1*l2*xs))∧(l1*X+m1)+(l2*X+m2)=(X-xs)*(l1+l2):=by
 have e1:m1=0-ys-l1*xs:=by clear k2 hs;grind
 have e2:m2=ys-l2*xs:=by clear k1 hs;grind
 have e3:b=ys*ys-xs*xs*xs:=by clear k1 k2 e1 e2;grind
 subst e1 e2 e3;clear k1 k2 hs;constructor<;>grind
theorem F7s {b X l1 m1 l2 m2 xs ys n1 o1 n2 o2 xt yt:K} (k1:0-ys=l1*xs+m1) (k2:ys=l2*xs+m2) (hs:ys*ys=xs*xs*xs+b) (j1:0-yt=n1*xt+o1) (j2:yt=n2*xt+o2) (ht:yt*yt=xt*xt*xt+b)
  (p:xs+l1*l2=xt+n1*n2) (q:xs*xs+ys*(l1-l2)-l1*l2*xs=xt*xt+yt*(n1-n2)-n1*n2*xt) (r:l1+l2=n1+n2) :
  (X*X*X+b+(l1*X+m1)*(l2*X+m2))*((n1*X+o1)+(n2*X+o2))=(X*X*X+b+(n1*X+o1)*(n2*X+o2))*((l1*X+m1)+(l2*X+m2)):=by
 obtain ⟨u1,u2⟩:=D5m (X:=X) k1 k2 hs;obtain ⟨v1,v2⟩:=D5m (X:=X) j1 j2 ht;rw[u1,u2,v1,v2,p,q,r];clear u1 u2 v1 v2 p q r k1 k2 hs j1 j2 ht;generalize X*X+(xt+n1*n2)*X+(xt*xt+yt*(n1-n2)-n1*n2*xt)=Q;grind
end

section
variable {F K:Type} [Fld F] [DecidableEq F] [J9 K] [Nrs K] {b:F}
/-- The line through two points, if these and their sum are not at infinity. -/
def lda:Pt F->Pt F->Option (F×F)
 | some p,some q=>if D9 (some p) (some q)=none then none else some (slp p q,icp p q)
 | _,_=>none
/-- A line at a place: X, and y0 times the square root. -/
def evl (f:F->K) (X y0:K):Option (F×F)->E2 K
 | none=>1
 | some l=>⟨-(f l.1*X+f l.2),y0⟩
/-- The same, but for an element of the lesser ring. -/
def Ass (u v:E2 K):Prop:=u.a*v.b=v.a*u.b
theorem B1z (P:Pt F):lda P none=none:=by cases P<;>rfl
theorem J5 {p q s:F×F} (h:D9 (some p) (some q)=some s):lda (some p) (some q)=some (slp p q,icp p q):=by
 exact if_neg (fun e=>by rw[h] at e;cases e)
theorem N8 {p q:F×F} (h:D9 (some p) (some q)=none):lda (some p) (some q)=none:=if_pos h
theorem W7 {p q:F×F} (hp:OnC b (some p)) (hq:OnC b (some q)) (hc:Cv b) (h:D9 (some p) (some q)=none):q=ngp p:=by
 unfold D9 at h;dsimp only at h;split at h
 ·rename_i e
  split at h
  ·cases h
  ·rename_i e2
   rcases C3o hp hq e with h | h
   ·subst h
    exact absurd ⟨rfl,B3m hc hp⟩ e2
   ·exact h
 ·cases h
theorem A7w (p:F×F):ngp (ngp p)=p:=Prod.ext rfl (by show 0-(0-p.2)=p.2;grind)
theorem D4m {f:F->K} (hf:Hom f) (l m:F) (X:K):f (0-l)*X+f (0-m) = -(f l*X+f m):=by
 rw[hf.sub,hf.sub,hf.zero];grind
theorem Ass.refl (u:E2 K):Ass u u:=rfl
theorem Ass.symm {u v:E2 K} (h:Ass u v):Ass v u:=Eq.symm h
theorem D1s {f:F->K} (hf:Hom f) (X y0:K) (l m:F):Ass (1*1) (evl f X y0 (some (l,m))*evl f X y0 (some (0-l,0-m))):=by
 unfold Ass evl;simp only[E2.mul_a,E2.mul_b,E2.one_a,E2.one_b,D4m hf];grind
theorem E2.one_mul (u:E2 K):1*u=u:=E2.ext' (by simp only[E2.mul_a,E2.one_a,E2.one_b];grind) (by simp only[E2.mul_b,E2.one_a,E2.one_b];grind)
theorem E2.mul_one (u:E2 K):u*1=u:=E2.ext' (by simp only[E2.mul_a,E2.one_a,E2.one_b];grind) (by simp only[E2.mul_b,E2.one_a,E2.one_b];grind)
/-- Lines, one behind the other: the same in either grouping. -/
theorem I0n (hc:Cv b) {f:F->K} (hf:Hom f) {X y0:K} (hX:Nrs.xi*(y0*y0)=X*X*X+f b) {A B C:Pt F} (hA:OnC b A) (hB:OnC b B) (hC:OnC b C)
  (h3:letI:=Q9 hc;∀X:CP b,X.1=A∨X.1=B->(X+X+X=0->X=0)∧(X+X+X+X+X=0->X=0)) :
  Ass (evl f X y0 (lda A B)*evl f X y0 (lda (D9 A B) C)) (evl f X y0 (lda B C)*evl f X y0 (lda A (D9 B C))):=by
 cases A with
 | none=>
  show Ass (1*evl f X y0 (lda B C)) (evl f X y0 (lda B C)*1);rw[E2.one_mul,E2.mul_one];rfl
 | some a=>
  cases B with
  | none=>
   show Ass (1*evl f X y0 (lda (some a) C)) (1*evl f X y0 (lda (some a) C));rfl
  | some c=>
   cases C with
   | none=>
    rw[B1z,B1z,Q6];show Ass (_*1) (1*_);rw[E2.one_mul,E2.mul_one];rfl
   | some e=>
    have has:=P8 hc _ _ _ hA hB hC;have hcs:=Y7 hc _ _ hA hB;have hcs2:=Y7 hc _ _ hB hC
    cases hs:D9 (some a) (some c) with
    | none=>
     rw[hs] at has;rw[N8 hs]
     cases ht:D9 (some c) (some e) with
     | none=>
      rw[N8 ht,B1z];rfl
     | some t=>
      rw[ht] at has;have T:=(O0 hc hB hC ht).mir;rw[A7w] at T;have ea:=W7 hB hA hc (hcs.symm.trans hs);rw[<-ea] at T;have k:=B5w hc T.rot.rot.swap hA has.symm;show Ass (1*1) _;rw[J5 ht,J5 has.symm,k.1,k.2];exact D1s hf X y0 _ _
    | some s=>
     have os:OnC b (some s):=hs ▸ M8 hc _ _ hA hB;have T1:=O0 hc hA hB hs;rw[hs] at has;rw[J5 hs]
     cases ht:D9 (some c) (some e) with
     | none=>
      rw[ht,Q6] at has;have T:=T1.mir;rw[A7w,<-W7 hB hC hc ht] at T;have k:=B5w hc T.rot.swap os has;rw[N8 ht,B1z,J5 has,k.1,k.2];exact (D1s hf X y0 _ _).symm
     | some t=>
      have ot:OnC b (some t):=ht ▸ M8 hc _ _ hB hC;rw[ht] at has;rw[J5 ht]
      cases hd:D9 (some s) (some e) with
      | none=>
       rw[hd] at has;have T:=T1.rot;rw[<-W7 os hC hc hd] at T;have k:=B5w hc T hB ht;rw[N8 hd,N8 has.symm,k.1,k.2];rfl
      | some d=>
       rw[hd] at has;have Q:=G5u hc hA hB hC hs ht hd has.symm (H6r hc hA hB hC hs ht hd h3);have T2:=O0 hc os hC hd;have T3:=O0 hc hB hC ht;have T4:=(O0 hc hA ot has.symm).swap;rw[J5 hd,J5 has.symm];generalize slp a c=l1 at *;generalize icp a c=m1 at *;generalize slp s e=l2 at *;generalize icp s e=m2 at *;generalize slp c e=n1 at *;generalize icp c e=o1 at *;generalize slp a t=n2 at *;generalize icp a t=o2 at *;have im:∀{y l x m:F},y=l*x+m->f y=f l*f x+f m:=by
        intro y l x m h;rw[h,hf.add,hf.mul]
       have im0:∀{y l x m:F},0-y=l*x+m->0-f y=f l*f x+f m:=by
        intro y l x m h;rw[<-hf.mul,<-hf.add,<-h,hf.sub,hf.zero]
       have imc:∀{y x:F},y*y=x*x*x+b->f y*f y=f x*f x*f x+f b:=by
        intro y x h;rw[<-hf.mul,h,hf.add,hf.mul,hf.mul]
       have R:=F7s (X:=X) (im0 T1.y3) (im T2.y1) (imc os) (im0 T3.y3) (im T4.y1) (imc ot)
        (by rw[<-hf.mul,<-hf.add,<-hf.mul,<-hf.add,show (ngp s).1=s.1 from rfl,show (ngp t).1=t.1 from rfl,Q.1])
        (by rw[<-hf.mul,<-hf.sub,<-hf.mul,<-hf.add,<-hf.mul,<-hf.mul,<-hf.sub,<-hf.mul,<-hf.sub,<-hf.mul,<-hf.add,<-hf.mul,<-hf.mul,<-hf.sub,show (ngp s).1=s.1 from rfl,show (ngp t).1=t.1 from rfl,Q.2.1])
        (by rw[<-hf.add,<-hf.add,Q.2.2])
       unfold Ass evl;simp only[E2.mul_a,E2.mul_b];rw[hX];clear Q T1 T2 T3 T4 im im0 imc hX h3 has;generalize f l1*X+f m1=M1 at *;generalize f l2*X+f m2=M2 at *;generalize f n1*X+f o1=N1 at *;generalize f n2*X+f o2=N2 at *;generalize X*X*X+f b=U at *;have e1:-M1 * -M2+U=U+M1*M2:=by clear R;grind
       have e2:-N1 * -N2+U=U+N1*N2:=by clear R;grind
       have e3:-N1*y0+y0 * -N2=(N1+N2)*(-y0):=by clear R;grind
       have e4:-M1*y0+y0 * -M2=(M1+M2)*(-y0):=by clear R;grind
       rw[e1,e2,e3,e4];have e5:∀a c d:K,a*(c*d)=a*c*d:=by intro a c d;clear R;grind
       rw[e5,e5,R]
end
end

set_option linter.unusedVariables false
set_option linter.unusedSectionVars false
section

section
variable {R:Type} [J9 R]
theorem G7u (d e x1 x2 x3:R):(d*x1+e)*(d*x2+e)*(d*x3+e)=d*d*d*(x1*x2*x3)+d*d*e*(x1*x2+x1*x3+x2*x3)+d*e*e*(x1+x2+x3)+e*e*e:=by grind
theorem E6q (l m L M x:R):L*x+M-(l*x+m)=(L-l)*x+(M-m):=by grind
/-- The one line at the other one's points. -/
theorem H9h {b l m L M x1 x2 x3 X1 X2 X3:R} (a1:x1+x2+x3=l*l) (a2:x1*x2+x1*x3+x2*x3=0-(l*m+l*m)) (a3:x1*x2*x3=m*m-b)
  (A1:X1+X2+X3=L*L) (A2:X1*X2+X1*X3+X2*X3=0-(L*M+L*M)) (A3:X1*X2*X3=M*M-b) :
  (L*X1+M-(l*X1+m))*(L*X2+M-(l*X2+m))*(L*X3+M-(l*X3+m))=(L*x1+M-(l*x1+m))*(L*x2+M-(l*x2+m))*(L*x3+M-(l*x3+m)):=by
 rw[E6q,E6q,E6q,E6q,E6q,E6q,G7u,G7u,a1,a2,a3,A1,A2,A3];clear a1 a2 a3 A1 A2 A3;grind
end

section
variable {K:Type} [Fld K] [Nrs K] [DecidableEq K]
/-- The conjugate; and by what it is its element. -/
def cj (u:E2 K):E2 K:=⟨u.a,-u.b⟩
def et (u:E2 K):E2 K:=cj u*A3z u
theorem B8v (u v:E2 K):cj (u*v)=cj u*cj v:=E2.ext' (by show u.a*v.a+Nrs.xi*(u.b*v.b)=u.a*v.a+Nrs.xi*(-u.b * -v.b);grind) (by show -(u.a*v.b+u.b*v.a)=u.a * -v.b + -u.b*v.a;grind)
theorem F0c (u:E2 K):cj (cj u)=u:=E2.ext' rfl (by show - -u.b=u.b;grind)
theorem F0d:cj (1:E2 K)=1:=E2.ext' rfl (by show -(0:K)=0;grind)
variable (h:∀t:K,t*t≠Nrs.xi)
include h
theorem K2 {u:E2 K} (hu:u≠0):et u*u=cj u:=by
 have e:=A7q h u hu;unfold et;generalize A3z u=i at *;generalize cj u=c at *;have:c*i*u=c*(u*i):=by clear e;grind
 rw[this,e];clear e this;grind
theorem C7q {u v w:E2 K} (hw:w≠0) (e:u*w=v*w):u=v:=by
 have k:=A7q h w hw;have:u*w*A3z w=v*w*A3z w:=by rw[e]
 generalize A3z w=i at *;have e1:u*w*i=u*(w*i):=by clear k this e;grind
 have e2:v*w*i=v*(w*i):=by clear k this e e1;grind
 rw[e1,e2,k] at this;clear k e e1 e2;grind
theorem B6j {u e:E2 K} (hu:u≠0) (k:e*u=cj u):e=et u:=C7q h hu (k.trans (K2 h hu).symm)
theorem A8h {u v:E2 K} (hu:u≠0) (hv:v≠0):u*v≠0:=fun e=>hu (C7q h hv (by rw[e];clear e;grind))
theorem A1x {u v:E2 K} (hu:u≠0) (hv:v≠0):et (u*v)=et u*et v:=by
 symm
 refine B6j h (A8h h hu hv) ?_
 rw[B8v,<-K2 h hu,<-K2 h hv];generalize et u=a;generalize et v=c;grind
theorem C4r {u:E2 K} (hu:u≠0):cj u≠0:=fun e=>hu (by rw[<-F0c u,e];exact E2.ext' rfl (by show -(0:K)=0;grind))
theorem D2n {u:E2 K} (hu:u≠0):et (cj u)*et u=1:=by
 have k1:=K2 h hu;have k2:=K2 h (C4r h hu);rw[F0c] at k2;refine C7q h hu ?_
 generalize et u=a at *;generalize et (cj u)=c at *;have:c*a*u=c*(a*u):=by clear k1 k2;grind
 rw[this,k1,k2];clear this k1 k2;grind
theorem D8b {u v:E2 K} (hu:u≠0) (hv:v≠0) (e:Ass u v):et u=et v:=by
 symm
 refine B6j h hu ?_
 refine C7q h hv ?_
 have k:=K2 h hv;have:et v*u*v=et v*v*u:=by generalize et v=c;clear k e;grind
 rw[this,k];have e:u.a*v.b=v.a*u.b:=e;refine E2.ext' ?_ ?_
 ·show v.a*u.a+Nrs.xi*(-v.b*u.b)=u.a*v.a+Nrs.xi*(-u.b*v.b);grind
 ·show v.a*u.b + -v.b*u.a=u.a*v.b + -u.b*v.a
  clear k this;grind
theorem G9i {u:E2 K} (hu:u≠0):et (-u)=et u:=by
  have hn : -u ≠ 0 := fun e => hu (by have : u = -(-u) := by clear e; grind
                                      rw[this,e];clear e this;grind)
  refine (B6j h hn ?_).symm
  have k:=K2 h hu;have e1:et u * -u = -(et u*u):=by generalize et u=c;clear k;grind
  rw[e1,k];exact E2.ext' rfl rfl
theorem F1g {x:K} (hx:x≠0):et (⟨x,0⟩:E2 K)=1:=by
 have hu:(⟨x,0⟩:E2 K)≠0:=fun e=>hx (congrArg E2.a e)
 refine (B6j h hu ?_).symm
 rw[E2.one_mul];exact E2.ext' rfl (by show (0:K) = -0;grind)
theorem C7v:et (1:E2 K)=1:=F1g h (x:=1) Fld.one_ne
end
end

set_option linter.unusedVariables false
set_option linter.unusedSectionVars false
section

section
variable {F0 F K:Type} [Fld F0] [DecidableEq F0] [Fld F] [DecidableEq F] [Fld K] [DecidableEq K] [Nrs K] {b0:F0} {b:F}
/-- The lesser field, the middle one, and how the curves lie in the greater one. -/
structure Emb (b0:F0) (b:F) (f0:F0->K) (f:F->K):Prop where
 h0:Hom f0
 h:Hom f
 n0:∀y,y≠0->f0 y*Nrs.xi≠0
 n:∀y,y≠0->f y≠0
 hb:Nrs.xi*Nrs.xi*Nrs.xi*f0 b0=f b
 c0:Cv b0
 c:Cv b
 ns:∀t:K,t*t≠Nrs.xi
variable (f0:F0->K) (f:F->K)
/-- The line through two points of the second curve, at one of the first one. -/
def Dp (P:Pt F0) (A B:Pt F):E2 K:=
 match P with
 | none=>1
 | some p=>et (evl f (f0 p.1*Nrs.xi) (f0 p.2*Nrs.xi) (lda A B))
/-- The line through two points of the first curve, at one of the second one. -/
def lae (l:F0×F0) (a:F×F):E2 K:=⟨f a.2,-(f0 l.1*f a.1+f0 l.2*Nrs.xi)⟩
def Ep (P Q:Pt F0) (A:Pt F):E2 K:=
 match lda P Q,A with
 | some l,some a=>et (lae f0 f l a)
 | _,_=>1
variable {f0 f}
theorem A8s (P Q:Pt F0):Ep f0 f P Q none=1:=by
 unfold Ep;split
 ·rename_i h;cases h
 ·rfl
theorem P1 {P Q:Pt F0} (h:lda P Q=none) (A:Pt F):Ep f0 f P Q A=1:=by
 unfold Ep;rw[h]
theorem Z9 {P Q:Pt F0} {l:F0×F0} (h:lda P Q=some l) (a:F×F):Ep f0 f P Q (some a)=et (lae f0 f l a):=by
 unfold Ep;rw[h]
theorem S9 (P:Pt F0) {A B:Pt F} (e:Emb b0 b f0 f) (h:lda A B=none):Dp f0 f P A B=1:=by
 cases P with
 | none=>rfl
 | some p=>
  show et (evl f _ _ (lda A B))=1;rw[h];exact C7v e.ns
theorem A0w (e:Emb b0 b f0 f) {p:F0×F0} (hp:OnC b0 (some p)) (L:Option (F×F)):evl f (f0 p.1*Nrs.xi) (f0 p.2*Nrs.xi) L≠0:=by
 cases L with
 | none=>intro h;exact Fld.one_ne (congrArg E2.a h)
 | some l=>intro h;exact e.n0 _ (B3m e.c0 hp) (congrArg E2.b h)
theorem A4q (e:Emb b0 b f0 f) {a:F×F} (ha:OnC b (some a)) (l:F0×F0):lae f0 f l a≠0:=fun h=>e.n _ (B3m e.c ha) (congrArg E2.a h)
theorem H8p (e:Emb b0 b f0 f) (y:F0):f0 (0-y)*Nrs.xi = -(f0 y*Nrs.xi):=by rw[e.h0.sub,e.h0.zero];grind
theorem G1k (e:Emb b0 b f0 f) (p:F0×F0) (l:F×F):evl f (f0 (ngp p).1*Nrs.xi) (f0 (ngp p).2*Nrs.xi) (some l)=cj (evl f (f0 p.1*Nrs.xi) (f0 p.2*Nrs.xi) (some l)):=E2.ext' rfl (H8p e p.2)
theorem E3f (e:Emb b0 b f0 f) (a:F×F) (l:F0×F0):lae f0 f l (ngp a) = -cj (lae f0 f l a):=by
 refine E2.ext' ?_ ?_
 ·show f (0-a.2) = -f a.2
  rw[e.h.sub,e.h.zero];grind
 ·show -(f0 l.1*f a.1+f0 l.2*Nrs.xi) = - -(-(f0 l.1*f a.1+f0 l.2*Nrs.xi))
  grind
theorem D8c (e:Emb b0 b f0 f) {u:E2 K} (hu:u≠0):et (-cj u)*et u=1:=by rw[G9i e.ns (C4r e.ns hu),D2n e.ns hu]
/-- Both lines, each at the other one's points. -/
theorem E7y (e:Emb b0 b f0 f) {l m:F} {a c s:F×F} (T:Tri b l m a c (ngp s)) {L M:F0} {p q t:F0×F0} (U:Tri b0 L M p q (ngp t)) :
  evl f (f0 p.1*Nrs.xi) (f0 p.2*Nrs.xi) (some (l,m))*evl f (f0 q.1*Nrs.xi) (f0 q.2*Nrs.xi) (some (l,m))*cj (evl f (f0 t.1*Nrs.xi) (f0 t.2*Nrs.xi) (some (l,m)))=lae f0 f (L,M) a*lae f0 f (L,M) c*cj (lae f0 f (L,M) s):=by
 have im:∀{y l x m:F},y=l*x+m->f y=f l*f x+f m:=by
  intro y l x m h;rw[h,e.h.add,e.h.mul]
 have im0:∀{y l x m:F0},y=l*x+m->f0 y=f0 l*f0 x+f0 m:=by
  intro y l x m h;rw[h,e.h0.add,e.h0.mul]
 have a1:f a.1+f c.1+f s.1=f l*f l:=by rw[<-e.h.add,<-e.h.add,<-e.h.mul];exact congrArg f T.ln.e1
 have a2:f a.1*f c.1+f a.1*f s.1+f c.1*f s.1=0-(f l*f m+f l*f m):=by
  rw[<-e.h.zero];simp only[<-e.h.mul,<-e.h.add,<-e.h.sub];exact congrArg f T.ln.e2
 have a3:f a.1*f c.1*f s.1=f m*f m-f b:=by simp only[<-e.h.mul,<-e.h.sub];exact congrArg f T.ln.e3
 have A1:f0 p.1+f0 q.1+f0 t.1=f0 L*f0 L:=by rw[<-e.h0.add,<-e.h0.add,<-e.h0.mul];exact congrArg f0 U.ln.e1
 have A2:f0 p.1*f0 q.1+f0 p.1*f0 t.1+f0 q.1*f0 t.1=0-(f0 L*f0 M+f0 L*f0 M):=by
  rw[<-e.h0.zero];simp only[<-e.h0.mul,<-e.h0.add,<-e.h0.sub];exact congrArg f0 U.ln.e2
 have A3:f0 p.1*f0 q.1*f0 t.1=f0 M*f0 M-f0 b0:=by simp only[<-e.h0.mul,<-e.h0.sub];exact congrArg f0 U.ln.e3
 have y1:=im0 U.y1;have y2:=im0 U.y2;have y3:=im0 U.y3;have z1:=im T.y1;have z2:=im T.y2;have z3:=im T.y3;have y3:f0 t.2=0-(f0 L*f0 t.1+f0 M):=by
  have:f0 (0-t.2)=f0 L*f0 t.1+f0 M:=y3
  rw[<-this,e.h0.sub,e.h0.zero];clear this a1 a2 a3 A1 A2 A3 y1 y2 y3 z1 z2 z3;grind
 have z3:f s.2=0-(f l*f s.1+f m):=by
  have:f (0-s.2)=f l*f s.1+f m:=z3
  rw[<-this,e.h.sub,e.h.zero];clear this a1 a2 a3 A1 A2 A3 y1 y2 y3 z1 z2 z3;grind
 have hb:=e.hb;clear im im0 T U;generalize hx1:f a.1=x1 at *;generalize hx2:f c.1=x2 at *;generalize hx3:f s.1=x3 at *;generalize hX1:f0 p.1=X1 at *;generalize hX2:f0 q.1=X2 at *;generalize hX3:f0 t.1=X3 at *;have R:=H9h (b:=(⟨f b,0⟩:E2 K)) (l:=⟨f l,0⟩) (m:=⟨f m,0⟩) (L:=⟨0,f0 L⟩) (M:=⟨0,f0 M*Nrs.xi⟩) (x1:=⟨x1,0⟩) (x2:=⟨x2,0⟩) (x3:=⟨x3,0⟩) (X1:=⟨X1*Nrs.xi,0⟩) (X2:=⟨X2*Nrs.xi,0⟩) (X3:=⟨X3*Nrs.xi,0⟩)
  (by refine E2.ext' ?_ ?_<;>simp only[E2.add_a,E2.add_b,E2.mul_a,E2.mul_b]<;>clear a2 a3 A1 A2 A3 y1 y2 y3 z1 z2 z3 hb<;>grind)
  (by refine E2.ext' ?_ ?_<;>simp only[E2.add_a,E2.add_b,E2.mul_a,E2.mul_b,E2.sub_a,E2.sub_b,E2.zero_a,E2.zero_b]<;>clear a1 a3 A1 A2 A3 y1 y2 y3 z1 z2 z3 hb<;>grind)
  (by refine E2.ext' ?_ ?_<;>simp only[E2.mul_a,E2.mul_b,E2.sub_a,E2.sub_b]<;>clear a1 a2 A1 A2 A3 y1 y2 y3 z1 z2 z3 hb<;>grind)
  (by refine E2.ext' ?_ ?_<;>simp only[E2.add_a,E2.add_b,E2.mul_a,E2.mul_b]<;>clear a1 a2 a3 A2 A3 y1 y2 y3 z1 z2 z3 hb<;>grind)
  (by refine E2.ext' ?_ ?_<;>simp only[E2.add_a,E2.add_b,E2.mul_a,E2.mul_b,E2.sub_a,E2.sub_b,E2.zero_a,E2.zero_b]<;>clear a1 a2 a3 A1 A3 y1 y2 y3 z1 z2 z3 hb<;>grind)
  (by refine E2.ext' ?_ ?_<;>simp only[E2.add_a,E2.add_b,E2.mul_a,E2.mul_b,E2.sub_a,E2.sub_b]<;>clear a1 a2 a3 A1 A2 y1 y2 y3 z1 z2 z3<;>grind)
 clear a1 a2 a3 A1 A2 A3 hb;have p1:evl f (X1*Nrs.xi) (f0 p.2*Nrs.xi) (some (l,m))=(⟨0,f0 L⟩:E2 K)*⟨X1*Nrs.xi,0⟩+⟨0,f0 M*Nrs.xi⟩-((⟨f l,0⟩:E2 K)*⟨X1*Nrs.xi,0⟩+⟨f m,0⟩):=by
  rw[y1];refine E2.ext' ?_ ?_<;>simp only[evl,E2.add_a,E2.add_b,E2.mul_a,E2.mul_b,E2.sub_a,E2.sub_b]<;>clear R y1 y2 y3 z1 z2 z3<;>grind
 have p2:evl f (X2*Nrs.xi) (f0 q.2*Nrs.xi) (some (l,m))=(⟨0,f0 L⟩:E2 K)*⟨X2*Nrs.xi,0⟩+⟨0,f0 M*Nrs.xi⟩-((⟨f l,0⟩:E2 K)*⟨X2*Nrs.xi,0⟩+⟨f m,0⟩):=by
  rw[y2];refine E2.ext' ?_ ?_<;>simp only[evl,E2.add_a,E2.add_b,E2.mul_a,E2.mul_b,E2.sub_a,E2.sub_b]<;>clear R y1 y2 y3 z1 z2 z3 p1<;>grind
 have p3:cj (evl f (X3*Nrs.xi) (f0 t.2*Nrs.xi) (some (l,m)))=(⟨0,f0 L⟩:E2 K)*⟨X3*Nrs.xi,0⟩+⟨0,f0 M*Nrs.xi⟩-((⟨f l,0⟩:E2 K)*⟨X3*Nrs.xi,0⟩+⟨f m,0⟩):=by
  rw[y3];refine E2.ext' ?_ ?_<;>simp only[evl,cj,E2.add_a,E2.add_b,E2.mul_a,E2.mul_b,E2.sub_a,E2.sub_b]<;>clear R y1 y2 y3 z1 z2 z3 p1 p2<;>grind
 have q1:lae f0 f (L,M) a = -((⟨0,f0 L⟩:E2 K)*⟨x1,0⟩+⟨0,f0 M*Nrs.xi⟩-((⟨f l,0⟩:E2 K)*⟨x1,0⟩+⟨f m,0⟩)):=by
  unfold lae;dsimp only;rw[z1,hx1];refine E2.ext' ?_ ?_<;>simp only[E2.neg_a,E2.neg_b,E2.add_a,E2.add_b,E2.mul_a,E2.mul_b,E2.sub_a,E2.sub_b]<;>clear R y1 y2 y3 z1 z2 z3 p1 p2 p3<;>grind
 have q2:lae f0 f (L,M) c = -((⟨0,f0 L⟩:E2 K)*⟨x2,0⟩+⟨0,f0 M*Nrs.xi⟩-((⟨f l,0⟩:E2 K)*⟨x2,0⟩+⟨f m,0⟩)):=by
  unfold lae;dsimp only;rw[z2,hx2];refine E2.ext' ?_ ?_<;>simp only[E2.neg_a,E2.neg_b,E2.add_a,E2.add_b,E2.mul_a,E2.mul_b,E2.sub_a,E2.sub_b]<;>clear R y1 y2 y3 z1 z2 z3 p1 p2 p3 q1<;>grind
 have q3:cj (lae f0 f (L,M) s)=(⟨0,f0 L⟩:E2 K)*⟨x3,0⟩+⟨0,f0 M*Nrs.xi⟩-((⟨f l,0⟩:E2 K)*⟨x3,0⟩+⟨f m,0⟩):=by
  unfold lae;dsimp only;rw[z3,hx3];refine E2.ext' ?_ ?_<;>simp only[cj,E2.add_a,E2.add_b,E2.mul_a,E2.mul_b,E2.sub_a,E2.sub_b]<;>clear R y1 y2 y3 z1 z2 z3 p1 p2 p3 q1 q2<;>grind
 clear y1 y2 y3 z1 z2 z3;rw[p1,p2,p3,q1,q2,q3,R];clear p1 p2 p3 q1 q2 q3 R;generalize (⟨0,f0 L⟩:E2 K)*⟨x1,0⟩+⟨0,f0 M*Nrs.xi⟩-((⟨f l,0⟩:E2 K)*⟨x1,0⟩+⟨f m,0⟩)=u1;generalize (⟨0,f0 L⟩:E2 K)*⟨x2,0⟩+⟨0,f0 M*Nrs.xi⟩-((⟨f l,0⟩:E2 K)*⟨x2,0⟩+⟨f m,0⟩)=u2;generalize (⟨0,f0 L⟩:E2 K)*⟨x3,0⟩+⟨0,f0 M*Nrs.xi⟩-((⟨f l,0⟩:E2 K)*⟨x3,0⟩+⟨f m,0⟩)=u3;grind
/-- A sum on the first curve. -/
theorem G8x (e:Emb b0 b f0 f) {P Q:Pt F0} {A B:Pt F} (hP:OnC b0 P) (hQ:OnC b0 Q) (hA:OnC b A) (hB:OnC b B) :
  Dp f0 f P A B*Dp f0 f Q A B*Ep f0 f P Q (D9 A B)=Dp f0 f (D9 P Q) A B*(Ep f0 f P Q A*Ep f0 f P Q B):=by
 cases P with
 | none=>
  show 1*Dp f0 f Q A B*Ep f0 f none Q (D9 A B)=Dp f0 f Q A B*(Ep f0 f none Q A*Ep f0 f none Q B);have h:lda none Q=none:=rfl;rw[P1 h,P1 h,P1 h,E2.one_mul,E2.one_mul]
 | some p=>
  cases Q with
  | none=>
   have h:lda (some p) none=none:=rfl;rw[P1 h,P1 h,P1 h,Q6,E2.one_mul];show _*1*1=_;rw[E2.mul_one]
  | some q=>
   cases hs:D9 (some p) (some q) with
   | none=>
    have h:=N8 hs;rw[P1 h,P1 h,P1 h,E2.one_mul,E2.mul_one];show _=1*1;rw[E2.one_mul];have eq:=W7 hP hQ e.c0 hs;subst eq
    cases hL:lda A B with
    | none=>rw[S9 _ e hL,S9 _ e hL,E2.one_mul]
    | some l=>
     show et (evl f _ _ (lda A B))*et (evl f _ _ (lda A B))=1;rw[hL,G1k e];have k:=D2n e.ns (A0w e hP (some l));rw[<-k];generalize et (evl f (f0 p.1*Nrs.xi) (f0 p.2*Nrs.xi) (some l))=u;generalize et (cj (evl f (f0 p.1*Nrs.xi) (f0 p.2*Nrs.xi) (some l)))=v;grind
   | some t=>
    have hl:=J5 hs;have ot:OnC b0 (some t):=hs ▸ M8 e.c0 _ _ hP hQ
    cases A with
    | none=>
     rw[S9 _ e rfl,S9 _ e rfl,S9 _ e rfl,A8s,E2.one_mul,E2.one_mul,E2.one_mul,E2.one_mul];rfl
    | some a=>
     cases B with
     | none=>
      rw[S9 _ e rfl,S9 _ e rfl,S9 _ e rfl,A8s,E2.one_mul,E2.one_mul,E2.one_mul,E2.mul_one];rfl
     | some c=>
      cases hs2:D9 (some a) (some c) with
      | none=>
       rw[S9 _ e (N8 hs2),S9 _ e (N8 hs2),S9 _ e (N8 hs2),A8s,E2.one_mul,E2.one_mul,E2.one_mul];have eq:=W7 hA hB e.c hs2;subst eq;rw[Z9 hl,Z9 hl,E3f e];have k:=D8c e (A4q e hA (slp p q,icp p q));rw[<-k];generalize et (-cj (lae f0 f (slp p q,icp p q) a))=u;generalize et (lae f0 f (slp p q,icp p q) a)=v;grind
      | some s=>
       have os:OnC b (some s):=hs2 ▸ M8 e.c _ _ hA hB;have R:=E7y e (O0 e.c hA hB hs2) (O0 e.c0 hP hQ hs);rw[Z9 hl,Z9 hl,Z9 hl];show et (evl f _ _ (lda (some a) (some c)))*et (evl f _ _ (lda (some a) (some c)))*_=et (evl f _ _ (lda (some a) (some c)))*_;rw[J5 hs2];have n1:=A0w e hP (some (slp a c,icp a c));have n2:=A0w e hQ (some (slp a c,icp a c));have n3:=A0w e ot (some (slp a c,icp a c));have m1:=A4q e hA (slp p q,icp p q);have m2:=A4q e hB (slp p q,icp p q);have m3:=A4q e os (slp p q,icp p q);have E:=congrArg et R;rw[A1x e.ns (A8h e.ns n1 n2) (C4r e.ns n3),A1x e.ns n1 n2,A1x e.ns (A8h e.ns m1 m2) (C4r e.ns m3),A1x e.ns m1 m2] at E;have k1:=D2n e.ns n3;have k2:=D2n e.ns m3;clear R n1 n2 n3 m1 m2 m3;generalize et (evl f (f0 p.1*Nrs.xi) (f0 p.2*Nrs.xi) (some (slp a c,icp a c)))=u1 at *;generalize et (evl f (f0 q.1*Nrs.xi) (f0 q.2*Nrs.xi) (some (slp a c,icp a c)))=u2 at *;generalize et (cj (evl f (f0 t.1*Nrs.xi) (f0 t.2*Nrs.xi) (some (slp a c,icp a c))))=u3 at *;generalize et (evl f (f0 t.1*Nrs.xi) (f0 t.2*Nrs.xi) (some (slp a c,icp a c)))=u4 at *;generalize et (lae f0 f (slp p q,icp p q) a)=v1 at *;generalize et (lae f0 f (slp p q,icp p q) c)=v2 at *;generalize et (cj (lae f0 f (slp p q,icp p q) s))=v3 at *;generalize et (lae f0 f (slp p q,icp p q) s)=v4 at *;have r1:u1*u2*v4=u1*u2*u3*u4*v4:=by
        have:u1*u2*u3*u4*v4=u1*u2*(u3*u4)*v4:=by clear E k1 k2;grind
        rw[this,k1,E2.mul_one]
       have r2:u4*(v1*v2)=v1*v2*v3*u4*v4:=by
        have:v1*v2*v3*u4*v4=u4*(v1*v2)*(v3*v4):=by clear E k1 k2 r1;grind
        rw[this,k2,E2.mul_one]
       rw[r1,r2,E]
end
end

set_option linter.unusedVariables false
set_option linter.unusedSectionVars false
section

section
variable {F:Type} [Fld F] [DecidableEq F] {b:F}
theorem F3s (hc:Cv b):∀{A B:Pt F},OnC b A->OnC b B->lda A B=lda B A
 | none,none,_,_=>rfl
 | none,some _,_,_=>rfl
 | some _,none,_,_=>rfl
 | some p,some q,hp,hq=>by
  have e:=Y7 hc _ _ hp hq
  cases hs:D9 (some p) (some q) with
  | none=>rw[N8 hs,N8 (e.symm.trans hs)]
  | some s=>
   have hs2:=e.symm.trans hs;have k:=B5w hc (O0 hc hp hq hs).swap hq hs2;rw[J5 hs,J5 hs2,k.1,k.2]
end

section
variable {F0 F K:Type} [Fld F0] [DecidableEq F0] [Fld F] [DecidableEq F] [Fld K] [DecidableEq K] [Nrs K] {b0:F0} {b:F} {f0:F0->K} {f:F->K}
theorem H7e (e:Emb b0 b f0 f) {p:F0×F0} (hp:OnC b0 (some p)):Nrs.xi*(f0 p.2*Nrs.xi*(f0 p.2*Nrs.xi))=f0 p.1*Nrs.xi*(f0 p.1*Nrs.xi)*(f0 p.1*Nrs.xi)+f b:=by
 have hp:p.2*p.2=p.1*p.1*p.1+b0:=hp;have h:f0 p.2*f0 p.2=f0 p.1*f0 p.1*f0 p.1+f0 b0:=by rw[<-e.h0.mul,hp,e.h0.add,e.h0.mul,e.h0.mul]
 have hb:=e.hb;rw[<-hb];have:Nrs.xi*(f0 p.2*Nrs.xi*(f0 p.2*Nrs.xi))=Nrs.xi*Nrs.xi*Nrs.xi*(f0 p.2*f0 p.2):=by clear h hp hb;grind
 rw[this,h];clear this h hp hb;grind
theorem G8u (e:Emb b0 b f0 f) {P:Pt F0} (hP:OnC b0 P) {S:CP b->Prop} (hz:letI:=Q9 e.c;S 0) (ha:letI:=Q9 e.c;∀{x y:CP b},S x->S y->S (x+y))
  (h3:letI:=Q9 e.c;∀X:CP b,S X->(X+X+X=0->X=0)∧(X+X+X+X+X=0->X=0)):letI:=Q9 e.c;Coc S (fun A B:CP b=>Dp f0 f P A.1 B.1):=by
 letI:=Q9 e.c
 refine ⟨hz,ha,fun {x} hx=>?_,fun {x y} hx hy=>?_,fun {x y z} hx hy hz=>?_⟩
 ·exact S9 P e (A:=none) rfl
 ·show Dp f0 f P x.1 y.1=Dp f0 f P y.1 x.1
  cases P with
  | none=>rfl
  | some p=>
   show et (evl f _ _ (lda x.1 y.1))=et (evl f _ _ (lda y.1 x.1));rw[F3s e.c x.2 y.2]
 ·show Dp f0 f P x.1 y.1*Dp f0 f P (D9 x.1 y.1) z.1=Dp f0 f P y.1 z.1*Dp f0 f P x.1 (D9 y.1 z.1)
  cases P with
  | none=>rfl
  | some p=>
   have k:=I0n e.c e.h (H7e e hP) x.2 y.2 z.2 (fun X hX=>by
    rcases hX with h | h
    ·have:X=x:=Subtype.ext h
     subst this;exact h3 _ hx
    ·have:X=y:=Subtype.ext h
     subst this;exact h3 _ hy)
   have n:=fun L=>A0w (f:=f) e hP L
   have k2:=D8b e.ns (A8h e.ns (n _) (n _)) (A8h e.ns (n _) (n _)) k;rw[A1x e.ns (n _) (n _),A1x e.ns (n _) (n _)] at k2;exact k2
/-- The factor of the whole way is that of the points' sum, but for the line through both. -/
theorem G8v (e:Emb b0 b f0 f) {P Q:Pt F0} (hP:OnC b0 P) (hQ:OnC b0 Q) (A:CP b) (n:Nat):letI:=Q9 e.c;
  gth (fun A B:CP b=>Dp f0 f P A.1 B.1) A n*gth (fun A B:CP b=>Dp f0 f Q A.1 B.1) A n*Ep f0 f P Q (mlt A n).1=gth (fun A B:CP b=>Dp f0 f (D9 P Q) A.1 B.1) A n*A7 (Ep f0 f P Q A.1) n:=by
 letI:=Q9 e.c
 refine E2y (D1:=fun A B:CP b=>Dp f0 f P A.1 B.1) (D2:=fun A B:CP b=>Dp f0 f Q A.1 B.1) (D3:=fun A B:CP b=>Dp f0 f (D9 P Q) A.1 B.1) (E:=fun A:CP b=>Ep f0 f P Q A.1) (A8s P Q) (fun n=>?_) n
 exact G8x e hP hQ (mlt A n).2 A.2
end
end

set_option linter.unusedVariables false
set_option linter.unusedSectionVars false
section

def nst (n:Nat) (z:Bool):Nat:=if z=true then n+n+1 else n+n
theorem F5s:∀(l:List Bool) (n:Nat),n<=l.foldl nst n
 | [],n=>Nat.le_refl n
 | z::l,n=>by
  refine Nat.le_trans ?_ (F5s l (nst n z))
  unfold nst;split<;>omega

section
variable {F0 F K:Type} [Fld F0] [DecidableEq F0] [Fld F] [DecidableEq F] [Fld K] [DecidableEq K] [Nrs K] {b0:F0} {b:F} {f0:F0->K} {f:F->K}
def B7c (T1 T2:F×F×F->E2 K) (q:F×F×F) (s:(F×F×F)×E2 K) (z:Bool):(F×F×F)×E2 K:=
 if z=true then (jpl (jtw s.1) q,s.2*s.2*T1 s.1*T2 (jtw s.1)) else (jtw s.1,s.2*s.2*T1 s.1)
theorem F3x (k:K) (hk:k≠0):(⟨k,0⟩:E2 K)≠0:=fun h=>hk (congrArg E2.a h)
theorem C4x (h:∀t:K,t*t≠Nrs.xi) {k:K} (hk:k≠0) {u:E2 K} (hu:u≠0):et ((⟨k,0⟩:E2 K)*u)=et u∧(⟨k,0⟩:E2 K)*u≠0:=
 ⟨by rw[A1x h (F3x k hk) hu,F1g h hk,E2.one_mul],A8h h (F3x k hk) hu⟩

theorem G3j (e:Emb b0 b f0 f) {p0:F0×F0} (hP:OnC b0 (some p0)) {S:CP b->Prop} (hC:letI:=Q9 e.c;Coc S (fun A B:CP b=>Dp f0 f (some p0) A.1 B.1)) {Q:CP b} (hQ:S Q) {q:F×F} (hq:Q.1=some q) {q3:F×F×F} (hq3:Jc (some q) q3) {T1 T2:F×F×F->E2 K}
  (h1:∀(p:F×F) (t:F×F×F),OnC b (some p)->Jc (some p) t->∃k,k≠0∧T1 t=(⟨k,0⟩:E2 K)*evl f (f0 p0.1*Nrs.xi) (f0 p0.2*Nrs.xi) (lda (some p) (some p)))
  (h2:∀(p:F×F) (t:F×F×F),OnC b (some p)->Jc (some p) t->p.1≠q.1->∃k,k≠0∧T2 t=(⟨k,0⟩:E2 K)*evl f (f0 p0.1*Nrs.xi) (f0 p0.2*Nrs.xi) (lda (some p) (some q))) :
  letI:=Q9 e.c;∀(l:List Bool) (n:Nat) (s:(F×F×F)×E2 K),1<=n->(∀m,0<m->m<=l.foldl nst n+1->mlt Q m≠0)->Jc (mlt Q n).1 s.1->s.2≠0->et s.2=gth (fun A B:CP b=>Dp f0 f (some p0) A.1 B.1) Q n ->
   Jc (mlt Q (l.foldl nst n)).1 (l.foldl (B7c T1 T2 q3) s).1∧(l.foldl (B7c T1 T2 q3) s).2≠0∧et (l.foldl (B7c T1 T2 q3) s).2=gth (fun A B:CP b=>Dp f0 f (some p0) A.1 B.1) Q (l.foldl nst n):=by
 letI:=Q9 e.c
 intro l;induction l with
 | nil=>intro n s _ _ j1 j2 j3;exact ⟨j1,j2,j3⟩
 | cons z l ih=>
  intro n s hn hm j1 j2 j3;have hle:=F5s l (nst n z);have hnz:n+n<=nst n z:=by unfold nst;split<;>omega
  have hm:∀m,0<m->m<=l.foldl nst (nst n z)+1->mlt Q m≠0:=hm;have hA:=hm n (by omega) (by omega)
  have hB:=hm (n+n) (by omega) (by omega)
  have hV:=hm (n+n-1) (by omega) (by omega)
  have eV:mlt Q (n+n)=mlt Q (n+n-1)+Q:=by
   obtain ⟨k,hk⟩:∃k,n+n=k+1:=⟨n+n-1,by omega⟩
   rw[hk];rfl
  have eU:mlt Q (n+n+1)=mlt Q (n+n)+Q:=rfl;have eB:(mlt Q (n+n)).1=D9 (mlt Q n).1 (mlt Q n).1:=congrArg Subtype.val (A1n Q n n);have g2:=E2w hC hQ n n;have gU:gth (fun A B:CP b=>Dp f0 f (some p0) A.1 B.1) Q (n+n+1)=gth (fun A B:CP b=>Dp f0 f (some p0) A.1 B.1) Q (n+n)*Dp f0 f (some p0) (mlt Q (n+n)).1 Q.1:=rfl
  have J1:Jc (mlt Q (n+n)).1 (jtw s.1):=by rw[eB];exact A9g e.c.two _ s.1 j1
  have st:∃p,(mlt Q n).1=some p:=by
   cases h:(mlt Q n).1 with
   | none=>exact absurd (Subtype.ext h) hA
   | some p=>exact ⟨p,rfl⟩
  obtain ⟨p,hp⟩:=st;have op:OnC b (some p):=hp ▸ (mlt Q n).2;rw[hp] at j1;obtain ⟨k1,hk1,t1⟩:=h1 p s.1 op j1;have X1:=C4x e.ns hk1 (A0w (f:=f) e hP (lda (some p) (some p)));rw[<-t1] at X1;have n2:=A8h e.ns (A8h e.ns j2 j2) X1.2;have e2:et (s.2*s.2*T1 s.1)=gth (fun A B:CP b=>Dp f0 f (some p0) A.1 B.1) Q (n+n):=by
   rw[A1x e.ns (A8h e.ns j2 j2) X1.2,A1x e.ns j2 j2,j3,X1.1,g2];show _=_*Dp f0 f (some p0) (mlt Q n).1 (mlt Q n).1;rw[hp];rfl
  have step:Jc (mlt Q (nst n z)).1 (B7c T1 T2 q3 s z).1∧(B7c T1 T2 q3 s z).2≠0∧et (B7c T1 T2 q3 s z).2=gth (fun A B:CP b=>Dp f0 f (some p0) A.1 B.1) Q (nst n z):=by
   cases z with
   | false=>exact ⟨J1,n2,e2⟩
   | true=>
    have hU:=hm (n+n+1) (by omega) (by omega)
    have st:∃p,(mlt Q (n+n)).1=some p:=by
     cases h:(mlt Q (n+n)).1 with
     | none=>exact absurd (Subtype.ext h) hB
     | some p=>exact ⟨p,rfl⟩
    obtain ⟨p2,hp2⟩:=st;have op2:OnC b (some p2):=hp2 ▸ (mlt Q (n+n)).2;have oq:OnC b (some q):=hq ▸ Q.2;have hx:p2.1≠q.1:=by
     intro ex;rcases C3o op2 oq ex with h | h
     ·have:mlt Q (n+n)=Q:=Subtype.ext (by rw[hp2,hq,h])
      rw[this] at eV;exact hV (by clear ih hm g2 gU e2 eU eB this;grind)
     ·apply hU
      rw[eU];refine Subtype.ext ?_
      show D9 (mlt Q (n+n)).1 Q.1=none;rw[hp2,hq,h];exact V5 e.c _ op2
    have J2:=J1;rw[hp2] at J2;obtain ⟨k2,hk2,t2⟩:=h2 p2 (jtw s.1) op2 J2 hx;have X2:=C4x e.ns hk2 (A0w (f:=f) e hP (lda (some p2) (some q)));rw[<-t2] at X2;have jq:Jc Q.1 q3:=hq ▸ hq3;refine ⟨B4k e.c.two _ _ _ _ J1 jq,A8h e.ns n2 X2.2,?_⟩
    show et (s.2*s.2*T1 s.1*T2 (jtw s.1))=gth (fun A B:CP b=>Dp f0 f (some p0) A.1 B.1) Q (n+n+1)
    rw[A1x e.ns n2 X2.2,e2,X2.1,gU,hp2,hq];rfl
  exact ih (nst n z) (B7c T1 T2 q3 s z) (by omega) hm step.1 step.2.1 step.2.2
end
end

set_option linter.unusedVariables false
set_option linter.unusedSectionVars false
section

section
variable {F:Type} [Fld F] [DecidableEq F] {b:F}
theorem G2y (hc:Cv b):∀{A B:Pt F},OnC b A->OnC b B->lda (P5 A) (P5 B)=(lda A B).map fun l=>(0-l.1,0-l.2)
 | none,none,_,_=>rfl
 | none,some _,_,_=>rfl
 | some _,none,_,_=>rfl
 | some p,some q,hp,hq=>by
  have np:OnC b (some (ngp p)):=A0c _ hp;have nq:OnC b (some (ngp q)):=A0c _ hq;show lda (some (ngp p)) (some (ngp q))=_
  cases hs:D9 (some p) (some q) with
  | none=>
   rw[N8 hs];refine N8 ?_
   have e:=W7 hp hq hc hs;subst e;exact V5 hc _ np
  | some s=>
   have T:=O0 hc hp hq hs
   cases hn:D9 (some (ngp p)) (some (ngp q)) with
   | none=>
    have e:=W7 np nq hc hn;have e:q=ngp p:=by rw[<-A7w q,e,A7w]
    subst e;have:=V5 hc _ hp
    rw[show P5 (some p)=some (ngp p) from rfl,hs] at this
    cases this
   | some n=>
    have k:=B5w hc T.mir np hn;rw[J5 hs,J5 hn,k.1,k.2];rfl
variable (sg:F->F) (g:F)
def tu (p:F×F):F×F:=(sg p.1*(g*g),sg p.2*(g*g*g))
/-- Both coordinates turned, each times a power of g. -/
def ptu (P:Pt F):Pt F:=P.map (tu sg g)
structure Tu (b:F):Prop where
 h:Hom sg
 i:∀x,sg x=0->x=0
 g0:g≠0
 b:sg b*(g*g*g*(g*g*g))=b
variable {sg g}
theorem B6u (t:Tu sg g b):∀{P:Pt F},OnC b P->OnC b (ptu sg g P)
 | none,_=>trivial
 | some p,h=>by
  have h:p.2*p.2=p.1*p.1*p.1+b:=h;show sg p.2*(g*g*g)*(sg p.2*(g*g*g))=sg p.1*(g*g)*(sg p.1*(g*g))*(sg p.1*(g*g))+b;have k:sg p.2*sg p.2=sg p.1*sg p.1*sg p.1+sg b:=by rw[<-t.h.mul,h,t.h.add,t.h.mul,t.h.mul]
  have kb:=t.b;generalize sg p.1=x at *;generalize sg p.2=y at *;have e1:y*(g*g*g)*(y*(g*g*g))=y*y*(g*g*g*(g*g*g)):=by clear k kb h;grind
  have e2:x*(g*g)*(x*(g*g))*(x*(g*g))=x*x*x*(g*g*g*(g*g*g)):=by clear k kb h e1;grind
  rw[e1,e2,k];have e3:(x*x*x+sg b)*(g*g*g*(g*g*g))=x*x*x*(g*g*g*(g*g*g))+sg b*(g*g*g*(g*g*g)):=by clear k kb h e1 e2;grind
  rw[e3,kb]
theorem E0s (t:Tu sg g b) (p:F×F):tu sg g (ngp p)=ngp (tu sg g p):=by
 refine Prod.ext rfl ?_
 show sg (0-p.2)*(g*g*g)=0-sg p.2*(g*g*g);rw[t.h.sub,t.h.zero];grind
theorem H4o (t:Tu sg g b) {p q:F×F} (h:tu sg g p=tu sg g q):p=q:=by
 have g2:g*g≠0:=C2 t.g0 t.g0;have k1:=B9v g2 (congrArg Prod.fst h);have k2:=B9v (C2 g2 t.g0) (congrArg Prod.snd h);have key:∀{x y:F},sg x=sg y->x=y:=by
  intro x y e;have:sg (x-y)=0:=by rw[t.h.sub,e];clear e;grind
  have:=t.i _ this
  clear e k1 k2 g2;grind
 exact Prod.ext (key k1) (key k2)
theorem H4p (t:Tu sg g b) {l m:F} {p q r:F×F} (h:Tri b l m p q r):Tri b (sg l*g) (sg m*(g*g*g)) (tu sg g p) (tu sg g q) (tu sg g r):=by
 obtain ⟨⟨a1,a2,a3⟩,h1,h2,h3⟩:=h;have im:∀{y x:F},y=l*x+m->sg y*(g*g*g)=sg l*g*(sg x*(g*g))+sg m*(g*g*g):=by
  intro y x h;rw[h,t.h.add,t.h.mul];grind
 have kb:=t.b;have b1:sg p.1+sg q.1+sg r.1=sg l*sg l:=by rw[<-t.h.add,<-t.h.add,a1,t.h.mul]
 have b2:sg p.1*sg q.1+sg p.1*sg r.1+sg q.1*sg r.1=0-(sg l*sg m+sg l*sg m):=by
  rw[<-t.h.zero];simp only[<-t.h.mul,<-t.h.add,<-t.h.sub];rw[a2]
 have b3:sg p.1*sg q.1*sg r.1=sg m*sg m-sg b:=by
  simp only[<-t.h.mul,<-t.h.sub];rw[a3]
 refine ⟨⟨?_,?_,?_⟩,im h1,im h2,im h3⟩
 all_goals
  clear im h1 h2 h3 a1 a2 a3
  unfold tu;dsimp only;generalize sg p.1=x at *;generalize sg q.1=y at *;generalize sg r.1=z at *;generalize sg l=L at *;generalize sg m=N at *
 ·have:x*(g*g)+y*(g*g)+z*(g*g)=(x+y+z)*(g*g):=by clear b1 b2 b3 kb;grind
  rw[this,b1];clear b1 b2 b3 kb this;grind
 ·have:x*(g*g)*(y*(g*g))+x*(g*g)*(z*(g*g))+y*(g*g)*(z*(g*g))=(x*y+x*z+y*z)*(g*g*(g*g)):=by clear b1 b2 b3 kb;grind
  rw[this,b2];clear b1 b2 b3 kb this;grind
 ·have:x*(g*g)*(y*(g*g))*(z*(g*g))=(x*y*z)*(g*g*g*(g*g*g)):=by clear b1 b2 b3 kb;grind
  rw[this,b3];have:(N*N-sg b)*(g*g*g*(g*g*g))=N*(g*g*g)*(N*(g*g*g))-sg b*(g*g*g*(g*g*g)):=by clear b1 b2 b3 kb this;grind
  rw[this,kb]
theorem F3t (hc:Cv b) (t:Tu sg g b):∀{A B:Pt F},OnC b A->OnC b B->lda (ptu sg g A) (ptu sg g B)=(lda A B).map (fun l=>(sg l.1*g,sg l.2*(g*g*g)))∧D9 (ptu sg g A) (ptu sg g B)=ptu sg g (D9 A B)
 | none,none,_,_=>⟨rfl,rfl⟩
 | none,some _,_,_=>⟨rfl,rfl⟩
 | some _,none,_,_=>⟨rfl,rfl⟩
 | some p,some q,hp,hq=>by
  have np:OnC b (some (tu sg g p)):=B6u t hp;have nq:OnC b (some (tu sg g q)):=B6u t hq;show lda (some (tu sg g p)) (some (tu sg g q))=_∧D9 (some (tu sg g p)) (some (tu sg g q))=_
  cases hs:D9 (some p) (some q) with
  | none=>
   rw[N8 hs];have e:=W7 hp hq hc hs;subst e;have:D9 (some (tu sg g p)) (some (tu sg g (ngp p)))=none:=by rw[E0s t];exact V5 hc _ np
   exact ⟨N8 this,this⟩
  | some s=>
   have T:=O0 hc hp hq hs
   cases hn:D9 (some (tu sg g p)) (some (tu sg g q)) with
   | none=>
    have e:=W7 np nq hc hn;rw[<-E0s t] at e;have e:=H4o t e;subst e;have:=V5 hc _ hp
    rw[show P5 (some p)=some (ngp p) from rfl,hs] at this
    cases this
   | some n=>
    have U:=H4p t T;have k:=B5w hc U np hn;have V:=O0 hc np nq hn;rw[k.1,k.2] at V;have e1:(ngp n).1=(tu sg g (ngp s)).1:=by
     have a:=V.ln.e1;have c:=U.ln.e1;generalize (ngp n).1=x at *;generalize (tu sg g (ngp s)).1=y at *;generalize (tu sg g p).1=u at *;generalize (tu sg g q).1=v at *;clear V U T k hs hn;grind
    have e2:(ngp n).2=(tu sg g (ngp s)).2:=by rw[V.y3,U.y3,e1]
    have e3:n=tu sg g s:=by
     have:=congrArg ngp (Prod.ext e1 e2:ngp n=tu sg g (ngp s))
     rw[A7w,E0s t,A7w] at this;exact this
    rw[J5 hs,J5 hn,k.1,k.2,e3];exact ⟨rfl,rfl⟩
end

section
variable {F0 F K:Type} [Fld F0] [DecidableEq F0] [Fld F] [DecidableEq F] [Fld K] [DecidableEq K] [Nrs K] {b0:F0} {b:F} {f0:F0->K} {f:F->K}
theorem G8w (e:Emb b0 b f0 f) {P:Pt F0} (hP:OnC b0 P) {A B:Pt F} (hA:OnC b A) (hB:OnC b B):Dp f0 f P (P5 A) (P5 B)*Dp f0 f P A B=1:=by
 cases P with
 | none=>exact E2.one_mul 1
 | some p=>
  show et (evl f _ _ (lda (P5 A) (P5 B)))*et (evl f _ _ (lda A B))=1;rw[G2y e.c hA hB]
  cases lda A B with
  | none=>
   show et 1*et 1=1;rw[C7v e.ns,E2.one_mul]
  | some l=>
   have:evl f (f0 p.1*Nrs.xi) (f0 p.2*Nrs.xi) ((some l).map fun l:F×F=>(0-l.1,0-l.2)) = -cj (evl f (f0 p.1*Nrs.xi) (f0 p.2*Nrs.xi) (some l)):=by
    refine E2.ext' ?_ ?_
    ·show -(f (0-l.1)*_+f (0-l.2)) = - -(f l.1*_+f l.2)
     rw[D4m e.h]
    ·show f0 p.2*Nrs.xi = - -(f0 p.2*Nrs.xi)
     generalize f0 p.2*Nrs.xi=u;clear hP;grind
   rw[this];exact D8c e (A0w e hP (some l))
theorem G9e (e:Emb b0 b f0 f) (P Q:Pt F0) {A:Pt F} (hA:OnC b A):Ep f0 f P Q (P5 A)*Ep f0 f P Q A=1:=by
 cases A with
 | none=>
  show Ep f0 f P Q none*Ep f0 f P Q none=1;rw[A8s,E2.one_mul]
 | some a=>
  cases h:lda P Q with
  | none=>rw[P1 h,P1 h,E2.one_mul]
  | some l=>
   show Ep f0 f P Q (some (ngp a))*_=1;rw[Z9 h,Z9 h,E3f e];exact D8c e (A4q e hA l)
variable {sg:F->F} {g:F} {fr:E2 K->E2 K}
/-- The power that turns lines. -/
structure Frl (f0:F0->K) (f:F->K) (sg:F->F) (g:F) (fr:E2 K->E2 K):Prop where
 m:∀x y,fr (x*y)=fr x*fr y
 o:fr 1=1
 c:∀x,fr (cj x)=cj (fr x)
 e:∀(x y:F0) (l m:F),Ass (evl f (f0 x*Nrs.xi) (f0 y*Nrs.xi) (some (sg l*g,sg m*(g*g*g)))) (fr (evl f (f0 x*Nrs.xi) (f0 y*Nrs.xi) (some (l,m))))
 l:∀(l:F0×F0) (a:F×F),Ass (lae f0 f l (tu sg g a)) (fr (lae f0 f l a))
theorem F1x (e:Emb b0 b f0 f) (h:Frl f0 f sg g fr) {u:E2 K} (hu:u≠0):fr u≠0:=fun k=>by
 have:=congrArg fr (A7q e.ns u hu)
 rw[h.m,h.o,k] at this;have z:(0:E2 K)*fr (A3z u)=0:=by generalize fr (A3z u)=v;clear this k hu;grind
 rw[z] at this;exact Fld.one_ne (congrArg E2.a this).symm
theorem G7k (e:Emb b0 b f0 f) (h:Frl f0 f sg g fr) {u:E2 K} (hu:u≠0):fr (et u)=et (fr u):=by
 refine B6j e.ns (F1x e h hu) ?_
 rw[<-h.m,K2 e.ns hu,h.c]
theorem H7a (e:Emb b0 b f0 f) (t:Tu sg g b) (h:Frl f0 f sg g fr) {P:Pt F0} (hP:OnC b0 P) {A B:Pt F} (hA:OnC b A) (hB:OnC b B):Dp f0 f P (ptu sg g A) (ptu sg g B)=fr (Dp f0 f P A B):=by
 cases P with
 | none=>exact h.o.symm
 | some p=>
  show et (evl f _ _ (lda (ptu sg g A) (ptu sg g B)))=fr (et (evl f _ _ (lda A B)));rw[(F3t e.c t hA hB).1,G7k e h (A0w e hP _)]
  cases lda A B with
  | none=>show et 1=et (fr 1);rw[h.o]
  | some l=>exact D8b e.ns (A0w e hP _) (F1x e h (A0w e hP _)) (h.e _ _ _ _)
theorem H7f (e:Emb b0 b f0 f) (t:Tu sg g b) (h:Frl f0 f sg g fr) (P Q:Pt F0) {A:Pt F} (hA:OnC b A):Ep f0 f P Q (ptu sg g A)=fr (Ep f0 f P Q A):=by
 cases A with
 | none=>
  show Ep f0 f P Q none=_;rw[A8s,h.o]
 | some a=>
  cases k:lda P Q with
  | none=>rw[P1 k,P1 k,h.o]
  | some l=>
   show Ep f0 f P Q (some (tu sg g a))=_;rw[Z9 k,Z9 k,G7k e h (A4q e hA l)];exact D8b e.ns (A4q e (B6u t hA) l) (F1x e h (A4q e hA l)) (h.l l a)
/-- Sums of points of the second curve. -/
theorem F2s (e:Emb b0 b f0 f) (t:Tu sg g b) (h:Frl f0 f sg g fr) {P:Pt F0} (hP:OnC b0 P) {S:CP b->Prop} (hC:letI:=Q9 e.c;Coc S (fun A B:CP b=>Dp f0 f P A.1 B.1)) {A B:CP b} (hA:S A) (hB:S B) {n:Nat} :
  letI:=Q9 e.c;(mlt A n).1=P5 (ptu sg g A.1)->(mlt B n).1=P5 (ptu sg g B.1) ->
   gth (fun A B:CP b=>Dp f0 f P A.1 B.1) (A+B) n*(A7 (Dp f0 f P A.1 B.1) n*fr (Dp f0 f P A.1 B.1))=gth (fun A B:CP b=>Dp f0 f P A.1 B.1) A n*gth (fun A B:CP b=>Dp f0 f P A.1 B.1) B n:=by
 letI:=Q9 e.c
 intro eA eB;have k:=E2x hC hA hB n;rw[eA,eB] at k;have j:=G8w e hP (B6u t A.2) (B6u t B.2);rw[H7a e t h hP A.2 B.2] at j;generalize gth (fun A B:CP b=>Dp f0 f P A.1 B.1) (A+B) n=x1 at *
 generalize gth (fun A B:CP b=>Dp f0 f P A.1 B.1) A n=x2 at *
 generalize gth (fun A B:CP b=>Dp f0 f P A.1 B.1) B n=x3 at *
 generalize A7 (Dp f0 f P A.1 B.1) n=x4 at *
 generalize fr (Dp f0 f P A.1 B.1)=x5 at *
 generalize Dp f0 f P (P5 (ptu sg g A.1)) (P5 (ptu sg g B.1))=x6 at *
 have e1:x1*(x4*x5)=x1*x4*x5:=by clear k j eA eB hC;grind
 have e2:x2*x3*x6*x5=x2*x3*(x6*x5):=by clear k j eA eB hC e1;grind
 rw[e1,k,e2,j];clear k j eA eB hC e1 e2;grind
/-- Sums of points of the first curve. -/
theorem F2r (e:Emb b0 b f0 f) (t:Tu sg g b) (h:Frl f0 f sg g fr) {P Q:Pt F0} (hP:OnC b0 P) (hQ:OnC b0 Q) (A:CP b) {n:Nat} :
  letI:=Q9 e.c;(mlt A n).1=P5 (ptu sg g A.1) ->
   gth (fun A B:CP b=>Dp f0 f (D9 P Q) A.1 B.1) A n*(A7 (Ep f0 f P Q A.1) n*fr (Ep f0 f P Q A.1))=gth (fun A B:CP b=>Dp f0 f P A.1 B.1) A n*gth (fun A B:CP b=>Dp f0 f Q A.1 B.1) A n:=by
 letI:=Q9 e.c
 intro eA;have k:=G8v e hP hQ A n;rw[eA] at k;have j:=G9e e P Q (B6u t A.2);rw[H7f e t h P Q A.2] at j;generalize gth (fun A B:CP b=>Dp f0 f (D9 P Q) A.1 B.1) A n=x1 at *
 generalize gth (fun A B:CP b=>Dp f0 f P A.1 B.1) A n=x2 at *
 generalize gth (fun A B:CP b=>Dp f0 f Q A.1 B.1) A n=x3 at *
 generalize A7 (Ep f0 f P Q A.1) n=x4 at *
 generalize fr (Ep f0 f P Q A.1)=x5 at *
 generalize Ep f0 f P Q (P5 (ptu sg g A.1))=x6 at *
 have e1:x1*(x4*x5)=x1*x4*x5:=by clear k j eA;grind
 have e2:x2*x3*x6*x5=x2*x3*(x6*x5):=by clear k j eA e1;grind
 rw[e1,<-k,e2,j];clear k j eA e1 e2;grind
end
end

set_option linter.unusedVariables false
set_option linter.unusedSectionVars false
section

section
variable {F:Type} [Fld F]
/-- A line, by its three coordinates. -/
def B6z (a b c:F):E2 (E3 F):=⟨⟨a,b,0⟩,⟨0,c,0⟩⟩
/-- The line that touches, the line through two, at x and y. -/
def H4e (t:F×F×F) (x y:F):E2 (E3 F):=
 B6z ((t.1*t.1+t.1*t.1+t.1*t.1)*t.1-t.2.1*t.2.1-t.2.1*t.2.1) (0-(t.1*t.1+t.1*t.1+t.1*t.1)*(t.2.2*t.2.2)*x) ((t.2.1*(t.2.2*t.2.2)*t.2.2+t.2.1*(t.2.2*t.2.2)*t.2.2)*y)
def H4h (t q:F×F×F) (x y:F):E2 (E3 F):=
 B6z ((q.2.1*(t.2.2*t.2.2)*t.2.2-t.2.1)*q.1-q.2.1*((q.1*(t.2.2*t.2.2)-t.1)*t.2.2)) (0-(q.2.1*(t.2.2*t.2.2)*t.2.2-t.2.1)*x) ((q.1*(t.2.2*t.2.2)-t.1)*t.2.2*y)
theorem G6p {X Y Z xt yt l m i:F} (hX:X=xt*(Z*Z)) (hY:Y=yt*(Z*Z*Z)) (hi:(yt+yt)*i=1) (hl:l=F3 (xt*xt)*i) (hm:m=yt-l*xt) :
  (X*X+X*X+X*X)*X-Y*Y-Y*Y = -m*(Y*(Z*Z)*Z+Y*(Z*Z)*Z)∧(X*X+X*X+X*X)*(Z*Z)=l*(Y*(Z*Z)*Z+Y*(Z*Z)*Z):=by
 have k:l*(yt+yt)=xt*xt+xt*xt+xt*xt:=by
  rw[hl];unfold F3
  have:(xt*xt+xt*xt+xt*xt)*i*(yt+yt)=(xt*xt+xt*xt+xt*xt)*((yt+yt)*i):=by clear hX hY hi hl hm;grind
  rw[this,hi];clear this hX hY hi hl hm;grind
 clear hi hl;subst hX hY hm;constructor
 ·have:-(yt-l*xt)*(yt*(Z*Z*Z)*(Z*Z)*Z+yt*(Z*Z*Z)*(Z*Z)*Z)=(l*(yt+yt))*xt*(Z*Z*Z*Z*Z*Z)-(yt*yt+yt*yt)*(Z*Z*Z*Z*Z*Z):=by clear k;grind
  rw[this,k];clear this k;grind
 ·have:l*(yt*(Z*Z*Z)*(Z*Z)*Z+yt*(Z*Z*Z)*(Z*Z)*Z)=l*(yt+yt)*(Z*Z*Z*Z*Z*Z):=by clear k;grind
  rw[this,k];clear this k;grind
theorem G6q {X Y Z xt yt xq yq l m i:F} (hX:X=xt*(Z*Z)) (hY:Y=yt*(Z*Z*Z)) (hi:(xq-xt)*i=1) (hl:l=(yq-yt)*i) (hm:m=yt-l*xt) :
  (yq*(Z*Z)*Z-Y)*xq-yq*((xq*(Z*Z)-X)*Z) = -m*((xq*(Z*Z)-X)*Z)∧yq*(Z*Z)*Z-Y=l*((xq*(Z*Z)-X)*Z):=by
 have k:l*(xq-xt)=yq-yt:=by
  rw[hl];have:(yq-yt)*i*(xq-xt)=(yq-yt)*((xq-xt)*i):=by clear hX hY hi hl hm;grind
  rw[this,hi];clear this hX hY hi hl hm;grind
 clear hi hl;subst hX hY hm;have k2:yq=l*(xq-xt)+yt:=by rw[k];clear k;grind
 subst k2;clear k;constructor<;>grind
end

section
variable {F:Type} [Fld F] [DecidableEq F] [Nrs F] {b:F}
/-- v, whose square root is joined. -/
@[reducible] def Y4:Nrs (E3 F):=⟨⟨0,1,0⟩⟩
def upE (x:F):E3 F:=⟨x,0,0⟩
theorem E2j (x y:F) (l m k:F):letI:=Y4 (F:=F);(⟨upE k,0⟩:E2 (E3 F))*evl upE (upE x*Nrs.xi) (upE y*Nrs.xi) (some (l,m))=B6z (-m*k) (0-l*k*x) (k*y):=by
 letI:=Y4 (F:=F)
 refine E2.ext' (E3.ext' ?_ ?_ ?_) (E3.ext' ?_ ?_ ?_)
 all_goals
  simp only[evl,B6z,upE,Nrs.xi,E2.mul_a,E2.mul_b,E3.mul_a,E3.mul_b,E3.mul_c,E3.add_a,E3.add_b,E3.add_c,E3.neg_a,E3.neg_b,E3.neg_c,E3.zero_a,E3.zero_b,E3.zero_c]
  grind
theorem H4f (hc:Cv b) {p:F×F} (hp:OnC b (some p)) {t:F×F×F} (ht:Jc (some p) t) (x y:F):letI:=Y4 (F:=F);∃k,k≠0∧H4e t x y=(⟨upE k,0⟩:E2 (E3 F))*evl upE (upE x*Nrs.xi) (upE y*Nrs.xi) (lda (some p) (some p)):=by
 letI:=Y4 (F:=F)
 obtain ⟨hz,hX,hY⟩:=ht;have hy:=B3m hc (x:=p.1) (y:=p.2) hp;have h2:p.2+p.2≠0:=fun e=>by
  have:((1:F)+1)*p.2=0:=by rw[<-e];clear e hX hY;grind
  exact C2 hc.two hy this
 have hd:∃s,D9 (some p) (some p)=some s:=by
  unfold D9;dsimp only;rw[if_pos rfl,if_pos ⟨rfl,hy⟩];exact ⟨_,rfl⟩
 obtain ⟨s,hs⟩:=hd;rw[J5 hs];have N:=G6p (l:=slp p p) (m:=icp p p) hX hY (Fld.mul_inv _ h2) (by unfold slp;rw[if_pos rfl]) rfl
 refine ⟨t.2.1*(t.2.2*t.2.2)*t.2.2+t.2.1*(t.2.2*t.2.2)*t.2.2,?_,?_⟩
 ·have:t.2.1*(t.2.2*t.2.2)*t.2.2+t.2.1*(t.2.2*t.2.2)*t.2.2=(p.2+p.2)*(t.2.2*t.2.2*t.2.2*(t.2.2*t.2.2*t.2.2)):=by rw[hY];clear N hs hX hY h2 hy;grind
  rw[this];exact C2 h2 (C2 (C2 (C2 hz hz) hz) (C2 (C2 hz hz) hz))
 ·rw[E2j]
  unfold H4e;rw[N.1,N.2]
theorem H4i (hc:Cv b) {p q:F×F} (hp:OnC b (some p)) (hq:OnC b (some q)) (hne:p.1≠q.1) {t:F×F×F} (ht:Jc (some p) t) (z:F) (x y:F):letI:=Y4 (F:=F);∃k,k≠0∧H4h t (q.1,q.2,z) x y=(⟨upE k,0⟩:E2 (E3 F))*evl upE (upE x*Nrs.xi) (upE y*Nrs.xi) (lda (some p) (some q)):=by
 letI:=Y4 (F:=F)
 obtain ⟨hz,hX,hY⟩:=ht;have hd:q.1-p.1≠0:=fun e=>hne (by clear hX hY;grind)
 have hs:∃s,D9 (some p) (some q)=some s:=by
  unfold D9;dsimp only;rw[if_neg hne];exact ⟨_,rfl⟩
 obtain ⟨s,hs⟩:=hs;rw[J5 hs];have N:=G6q (l:=slp p q) (m:=icp p q) hX hY (Fld.mul_inv _ hd) (by unfold slp;rw[if_neg hne]) rfl
 refine ⟨(q.1*(t.2.2*t.2.2)-t.1)*t.2.2,?_,?_⟩
 ·have:(q.1*(t.2.2*t.2.2)-t.1)*t.2.2=(q.1-p.1)*(t.2.2*t.2.2*t.2.2):=by rw[hX];clear N hs hX hY hd;grind
  rw[this];exact C2 hd (C2 (C2 hz hz) hz)
 ·rw[E2j]
  unfold H4h;dsimp only;rw[N.1,N.2]
end
end

section

section
variable {M:Type} [C6y M]
theorem B2i (x y:M):∀n,mlt (x-y) n=mlt x n-mlt y n
 | 0=>by show (0:M)=0-0;grind
 | n+1=>by
  show mlt (x-y) n+(x-y)=(mlt x n+x)-(mlt y n+y);rw[B2i x y n];grind
theorem C9i (x:M):mlt x 1=x:=by show 0+x=x;grind
theorem A0q (x:M) (m n:Nat):mlt (mlt x m) n=mlt (mlt x n) m:=by rw[<-B2h,<-B2h,Nat.mul_comm]
theorem C9h {S:M->Prop} (h0:S 0) (hs:∀x y,S x->S y->S (x-y)) {x:M}:∀d n,S (mlt x d)->S (mlt x n)->S (mlt x (Nat.gcd d n))
 | 0,n,_,h=>by rw[Nat.gcd_zero_left];exact h
 | d+1,n,h1,h2=>by
  rw[Nat.gcd_succ];refine C9h h0 hs (n % (d+1)) (d+1) ?_ h1
  have h3:mlt x n=mlt (mlt x (d+1)) (n / (d+1))+mlt x (n % (d+1)):=by
   rw[<-B2h,<-A1n,Nat.div_add_mod]
  have hm:∀k,S (mlt (mlt x (d+1)) k):=by
   intro k;induction k with
   | zero=>exact h0
   | succ k ih=>
    have:mlt (mlt x (d+1)) (k+1)=mlt (mlt x (d+1)) k-(0-mlt x (d+1)):=by
     show mlt (mlt x (d+1)) k+mlt x (d+1)=_;generalize mlt (mlt x (d+1)) k=u;generalize mlt x (d+1)=v;clear ih h3 h1 h2 hs;grind
    rw[this];exact hs _ _ ih (hs _ _ h0 h1)
  have:mlt x (n % (d+1))=mlt x n-mlt (mlt x (d+1)) (n / (d+1)):=by
   rw[h3];generalize mlt (mlt x (d+1)) (n / (d+1))=u;generalize mlt x (n % (d+1))=v;clear h3 h1 h2 hs hm;grind
  rw[this];exact hs _ _ h2 (hm _)
 termination_by d=>d
 decreasing_by exact Nat.mod_lt _ (Nat.succ_pos d)
theorem B2j {x:M} (d n:Nat) (h1:mlt x d=0) (h2:mlt x n=0) (h:Nat.gcd d n=1):x=0:=by
 have k:=C9h (S:=fun y:M=>y=0) rfl (fun x y hx hy=>by rw[hx,hy];grind) d n h1 h2
 rw[h,C9i] at k;exact k
theorem F3f {q c:Nat} (hq:Ir q) (h0:0<c) (h:c<q):Nat.gcd c q=1:=by
 rcases hq _ (Nat.gcd_dvd_right c q) with h | h
 ·exact h
 ·have:=Nat.gcd_le_left q h0
  omega
theorem F4x {q:Nat} (hq:Ir q) {U:M} (hU:mlt U q=0) (nU:U≠0) {c:Nat} (h0:0<c) (h:c<q):mlt U c≠0:=fun e=>nU (B2j c q e hU (F3f hq h0 h))
theorem E3m {q:Nat} (hq:Ir q) {U:M} (hU:mlt U q=0) (nU:U≠0) {i j:Nat} (hi:i<q) (hj:j<q) (e:mlt U i=mlt U j):i=j:=by
 have key:∀i c,0<c->i+c<q->mlt U i≠mlt U (i+c):=by
  intro i c hc hic e;refine F4x hq hU nU hc (by omega:c<q) ?_
  rw[A1n] at e;generalize mlt U i=u at *;generalize mlt U c=v at *;clear hU nU;grind
 rcases Nat.lt_trichotomy i j with h | h | h
 ·exact absurd (by rw[e,show i+(j-i)=j from by omega]) (key i (j-i) (by omega) (by omega))
 ·exact h
 ·exact absurd (by rw[<-e,show j+(i-j)=i from by omega]) (key j (i-j) (by omega) (by omega))
variable {r:Nat} {A H:M}
def D1p (H:M) (x:M):Prop:=∃n,x=mlt H n
theorem D4f (hr:0<r) (hH:mlt H r=0) (x y:M):D1p H x->D1p H y->D1p H (x-y):=by
 rintro ⟨m,rfl⟩ ⟨n,rfl⟩
 refine ⟨m+n*(r-1),?_⟩
 rw[A1n];have e:mlt H (n*(r-1))+mlt H n=0:=by
  rw[<-A1n,show n*(r-1)+n=r*n from by rw[Nat.mul_comm r,show r=r-1+1 from by omega,Nat.mul_add,Nat.mul_one];rfl,B2h,hH,O1]
 generalize mlt H (n*(r-1))=u at *;generalize mlt H n=v at *;generalize mlt H m=w at *;clear hH;grind
theorem G2p (hr:Ir r) (hr0:0<r) (hA:mlt A r=0) (hH:mlt H r=0) (nH:H≠0) (nA:¬D1p H A) {i j k l:Nat} (hi:i<r) (hj:j<r) (hk:k<r) (hl:l<r) (e:mlt A i+mlt H j=mlt A k+mlt H l):i=k∧j=l:=by
 have key:∀i c j l,0<c->c<r->mlt A i+mlt H j=mlt A (i+c)+mlt H l->False:=by
  intro i c j l hc hcr e;apply nA
  have k:=C9h (S:=D1p H) ⟨0,rfl⟩ (D4f hr0 hH) (x:=A) c r ?_ ?_
  ·rw[F3f hr hc hcr,C9i] at k
   exact k
  ·have:mlt A c=mlt H j-mlt H l:=by
    rw[A1n] at e;generalize mlt A i=u at *;generalize mlt A c=v at *;generalize mlt H j=w at *;generalize mlt H l=x at *;clear hA hH nH nA;grind
   rw[this];exact D4f hr0 hH _ _ ⟨_,rfl⟩ ⟨_,rfl⟩
  ·rw[hA];exact ⟨0,rfl⟩
 rcases Nat.lt_trichotomy i k with h | h | h
 ·exact (key i (k-i) j l (by omega) (by omega) (by rw[e,show i+(k-i)=k from by omega])).elim
 ·refine ⟨h,E3m hr hH nH hj hl ?_⟩
  subst h;generalize mlt A i=u at *;generalize mlt H j=w at *;generalize mlt H l=x at *;clear hA hH nH nA key;grind
 ·exact (key k (i-k) l j (by omega) (by omega) (by rw[<-e,show k+(i-k)=i from by omega])).elim
variable {q:Nat} {U:M}
theorem E6j (hr:Ir r) (hr0:0<r) (hq:Ir q) (hg:Nat.gcd r q=1) (hA:mlt A r=0) (hH:mlt H r=0) (hU:mlt U q=0) (nH:H≠0) (nU:U≠0) (nA:¬D1p H A) {i j k i' j' k' : Nat} (hi:i<r) (hj:j<r) (hk:k<q) (hi' : i' < r) (hj' : j' < r) (hk' : k' < q)
  (e:mlt A i+mlt H j+mlt U k=mlt A i' + mlt H j' + mlt U k'):i=i' ∧ j=j' ∧ k=k' := by
 have e1:mlt U k-mlt U k' = (mlt A i' - mlt A i)+(mlt H j' - mlt H j):=by
  generalize mlt A i=a at *;generalize mlt A i' = b at *;generalize mlt H j=c at *;generalize mlt H j' = d at *;generalize mlt U k=u at *;generalize mlt U k' = v at *;clear hA hH hU nH nU nA;grind
 have z1:mlt (mlt U k-mlt U k') q=0:=by
  rw[B2i,A0q U k,A0q U k',hU,O1,O1];grind
 have z2:mlt (mlt U k-mlt U k') r=0:=by
  rw[e1,B7o,B2i,B2i,A0q A i,A0q A i',A0q H j,A0q H j',hA,hH,O1,O1,O1,O1];grind
 have z:=B2j r q z2 z1 hg;have ek:mlt U k=mlt U k' := by
  generalize mlt U k=u at *;generalize mlt U k' = v at *;clear hA hH hU nH nU nA e e1 z1 z2;grind
 refine ⟨?_,?_,E3m hq hU nU hk hk' ek⟩
 all_goals
  have e2:mlt A i+mlt H j=mlt A i' + mlt H j' := by
   rw[ek] at e;generalize mlt A i+mlt H j=a at *;generalize mlt A i' + mlt H j' = b at *;generalize mlt U k' = v at *;clear hA hH hU nH nU nA e1 z1 z2 z ek;grind
  have:=G2p hr hr0 hA hH nH nA hi hj hi' hj' e2
  first | exact this.1 | exact this.2
/-- In a group of few elements: whatever has the power of r 0 is a multiple of H. -/
theorem E9e {C:Nat} (card:∀(n:Nat) (g:Nat->M),(∀i j,i<n->j<n->g i=g j->i=j)->n<=C) (hC:C<q*(r*r)) (hr:Ir r) (hr0:0<r) (hq:Ir q) (hq0:0<q) (hg:Nat.gcd r q=1) (hA:mlt A r=0) (hH:mlt H r=0) (hU:mlt U q=0) (nH:H≠0) (nU:U≠0):D1p H A:=by
 refine Classical.byContradiction fun nA=>?_
 have k:=card (q*(r*r)) (fun t=>mlt A (t / q / r)+mlt H (t / q % r)+mlt U (t % q)) fun s t hs ht e=>?_
 ·omega
 ·have b1:s / q / r<r:=Nat.div_lt_of_lt_mul (Nat.div_lt_of_lt_mul hs)
  have b2:t / q / r<r:=Nat.div_lt_of_lt_mul (Nat.div_lt_of_lt_mul ht);obtain ⟨k1,k2,k3⟩:=E6j hr hr0 hq hg hA hH hU nH nU nA b1 (Nat.mod_lt _ hr0) (Nat.mod_lt _ hq0) b2 (Nat.mod_lt _ hr0) (Nat.mod_lt _ hq0) e;have e1:s / q=t / q:=by rw[<-Nat.div_add_mod (s / q) r,<-Nat.div_add_mod (t / q) r,k1,k2]
  rw[<-Nat.div_add_mod s q,<-Nat.div_add_mod t q,e1,k3]
end

section
variable {F:Type} [Fld F] [DecidableEq F] {b:F}
def rtE (b x:F):F:=@Classical.epsilon F ⟨0⟩ fun y=>y*y=x*x*x+b
def E5y (enc:F->Nat):Pt F->Nat
 | none=>0
 | some p=>if p.2=rtE b p.1 then enc p.1+enc p.1+1 else enc p.1+enc p.1+2
theorem G0r (enc:F->Nat) (N:Nat) (he:∀x,enc x<N) (hi:∀x y,enc x=enc y->x=y) (n:Nat) (g:Nat->CP b) (hg:∀i j,i<n->j<n->g i=g j->i=j):n<=2*N+1:=by
 refine pig (fun i=>E5y (b:=b) enc (g i).1) (fun i _=>?_) fun i j h1 h2 e=>hg i j h1 h2 ?_
 ·show E5y (b:=b) enc (g i).1<2*N+1
  cases h:(g i).1 with
  | none=>show 0<_;omega
  | some p=>
   have:=he p.1
   unfold E5y;dsimp only;split<;>omega
 ·have o1:=(g i).2
  have o2:=(g j).2;refine Subtype.ext ?_
  generalize (g i).1=P at *;generalize (g j).1=Q at *
  cases P with
  | none=>
   cases Q with
   | none=>rfl
   | some q=>
    unfold E5y at e;dsimp only at e;split at e<;>omega
  | some p=>
   cases Q with
   | none=>
    unfold E5y at e;dsimp only at e;split at e<;>omega
   | some q=>
    have rp:OnC b (some (p.1,rtE b p.1)):=@Classical.epsilon_spec F (fun y=>y*y=p.1*p.1*p.1+b) ⟨p.2,o1⟩
    unfold E5y at e;dsimp only at e;split at e
    ·split at e
     ·rename_i h1 h2
      have ex:=hi p.1 q.1 (by omega)
      congr 1
      exact Prod.ext ex (by rw[h1,h2,ex])
     ·omega
    ·split at e
     ·omega
     ·rename_i h1 h2
      have ex:=hi p.1 q.1 (by omega)
      rcases C3o rp o1 rfl with k | k
      ·exact absurd (congrArg Prod.snd k) h1
      ·rw[ex] at rp
       rcases C3o rp o2 rfl with l | l
       ·exact absurd (congrArg Prod.snd l) h2
       ·rw[k,l,ex]
end

theorem H0g:Ir rN:=by
 have h7:g7.val=7:=by decide +kernel
 have h1:pw g7 (rN-1)=1:=by
  apply Fin.ext
  rw[X5 g7 256 (rN-1) (by decide +kernel),h7,H8x]
  decide +kernel
 refine E3j (g:=g7) (by decide +kernel) h1 (fun d h2 h3=>C9r F1i G9n G1n (by decide +kernel) h1 (fun p hp=>?_) h2 h3)
 intro he;have hp:=List.all_eq_true.mp F7j p hp;rw[Bool.and_eq_true,decide_eq_true_eq] at hp;have:=congrArg Fin.val he
 rw[X5 g7 256 _ hp.1,h7] at this;have e1:((1:Fin rN):Nat)=1:=by decide +kernel
 rw[e1] at this;rw[this] at hp;exact absurd hp.2 (by decide)
end

section

/-- One position more, without a block. -/
def K9 (y:Ctx) (n:Nat):Ctx:={ y with k:=fun q=>if q=n then .nil else y.k q }

/-- A contract whose result has an empty row behind the others. -/
theorem FnD.nil {P:Program} {f:Nat} {args:List SV} {r r' : SV} {es:List En} {q:Sq} (h:FnD P f args r es) (hq:q.n=0)
  (hr:∀(y:Ctx) v,y.k es.length = .nil->B8 y r v->B8 y r' v):FnD P f args r' (es++[.sq q]):=by
 intro x vs hk hF hd;refine (h x vs hk hF hd).mono fun e w' ⟨v,y,he,hw,ht,hv⟩=>?_
 have hno:y.k es.length = .no:=(ht.mem.dom es.length).1 (by simp)
 have hext:Ext y (K9 y es.length):=by
  refine ⟨Nat.le_refl _,fun _ h=>⟨h,rfl⟩,fun p hp=>?_,fun _ _=>rfl,fun _ _ cs _ h=>⟨cs,h,rfl⟩⟩
  have:p≠es.length:=fun e=>hp (e ▸ hno)
  simp [K9,this]
 have hreal:∀p,(K9 y es.length).k p = .real->y.k p = .real:=by
  intro p hp;simp only[K9] at hp;split at hp
  ·cases hp
  ·exact hp
 have hget:∀p,p≠es.length->(es++[En.sq q])[p]? = es[p]? := by
  intro p hp;by_cases h1:p<es.length
  ·rw[List.getElem?_append_left h1]
  ·rw[List.getElem?_append_right (by omega),List.getElem?_eq_none (by simp;omega),List.getElem?_eq_none (by omega)]
 have hm:Mem (K9 y es.length) (fun p=>(es++[En.sq q])[p]?):=by
  refine ⟨fun p=>?_,fun p l hp=>?_,fun p s hp hn=>?_,fun p e hp hrl=>?_,fun p s hp hs he=>?_,fun p hp=>?_,fun b hb=>ht.mem.fw b hb⟩
  ·by_cases hp:p=es.length
   ·subst hp;simp [K9]
   ·show (es++[En.sq q])[p]? = none↔(if p=es.length then Kd.nil else y.k p) = .no
    rw[if_neg hp,hget p hp];exact ht.mem.dom p
  ·by_cases h1:p=es.length
   ·subst h1;simp at hp
   ·have hp:(es++[En.sq q])[p]? = some (.fl l):=hp
    rw[hget p h1] at hp;show (if p=es.length then Kd.nil else y.k p) = .real
    rw[if_neg h1];exact ht.mem.fl p l hp
  ·by_cases h1:p=es.length
   ·subst h1
    have hp:(es++[En.sq q])[es.length]? = some (.sq s):=hp;simp at hp
    rw[<-hp];exact hq
   ·have hp:(es++[En.sq q])[p]? = some (.sq s):=hp
    rw[hget p h1] at hp;have hn:(if p=es.length then Kd.nil else y.k p) = .nil:=hn
    rw[if_neg h1] at hn;exact ht.mem.nil p s hp hn
  ·have h1:p≠es.length:=by
    rintro rfl
    simp [K9] at hrl
   have hp:(es++[En.sq q])[p]? = some e:=hp;rw[hget p h1] at hp;obtain ⟨cs,ty,hc,hde⟩:=ht.mem.ent p e hp (hreal p hrl);exact ⟨cs,ty,hc,K5 hext hde⟩
  ·exact ht.mem.inj p s (hreal p hp) (hreal s hs) he
  ·exact ht.mem.own p (hreal p hp)
 refine ⟨v,K9 y es.length,he,hw,⟨ht.ext.trans hext,hm,ht.os,ht.tape,ht.output,ht.blk,fun p hp=>ht.fresh p (hreal p hp),ht.fnew⟩,hr _ _ (by simp [K9]) (A1v hext hv)⟩

theorem G3y {y:Ctx} {p es:Nat} (hk:y.k p = .nil) {v:Value} (h:A3g y (.c (.val (.slice none 0 0))) v):A3g y (.c (.slc p 0 0 es)) v:=by
 obtain ⟨_,d,h⟩:=h;refine ⟨rfl,d,?_⟩
 have h:[v]=[Value.slice none 0 0]:=by cases d<;>exact h.1
 have g:(y.k p = .nil∧0=0∧0=0∧[v]=[Value.slice none 0 0]) ∨
  (y.k p = .real∧∃cap cs ty,[v]=[.slice (some ⟨y.β p,0,none⟩) 0 cap]∧0<=cap∧cap<=maxLen∧y.w.heap[y.β p]? = some (.cells cs ty (0,0))∧0+cap*es<=cs.size):=.inl ⟨hk,rfl,rfl,h⟩
 cases d<;>exact g

end

section

variable {w0:World} {F0:Nat->Prop} {K:Kp} {as:List Act} {x:Ctx} {a:Act}

theorem G3x {p:Nat} (hno:x.k p = .no):Ext x (K9 x p):=
 ⟨Nat.le_refl _,fun _ h=>⟨h,rfl⟩,fun q hq=>by
  have:q≠p:=fun e=>hq (e ▸ hno)
  simp [K9,this],fun _ _=>rfl,fun _ _ cs _ h=>⟨cs,h,rfl⟩⟩
theorem A6h {p q:Nat} (h:(K9 x p).k q = .real):x.k q = .real:=by
 simp only[K9] at h;split at h
 ·cases h
 ·exact h

/-- Slots that hold what an empty row at p may be. -/
def F0l (p:Nat):List SV->List SV->Prop
 | [],[]=>True
 | s::l,s' :: l' => (s' = s∨∃es,s = .v (.c (.val (.slice none 0 0)))∧s' = .v (.c (.slc p 0 0 es)))∧F0l p l l'
 | _,_=>False
theorem D2d {p:Nat} (hk:x.k p = .nil):∀{svs svs' : List SV},F0l p svs svs' -> E1r x svs svs'
 | [],[],_=>trivial
 | [],_::_,h=>h.elim
 | _::_,[],h=>h.elim
 | s::l,s' :: l',h=>⟨fun v hd=>by
   rcases h.1 with e | ⟨es,e1,e2⟩
   ·rw[e];exact hd
   ·subst e1 e2
    exact G3y hk hd,D2d hk h.2⟩

theorem Sim.nilRow {nt nx:Nat} {tl:List Nat} {svs svs' : List SV} {ml ml' : List Nat} {ens ens' : List (Option En)} {ftl:List (List Nat)} {fsv:List (List SV×Nat)}
  (hs:Sim w0 F0 K as (B2 nt tl svs ml ens nx ftl fsv) x a) {p:Nat} (hp:D8 none ml ens p=none) (hp0:p≠0) {q:Sq} (hq:q.n=0) (hl:∀r,D8 none ml' ens' r=if r=p then some (.sq q) else D8 none ml ens r) (hc:F0l p svs svs') :
  Sim w0 F0 K as (B2 nt tl svs' ml' ens' nx ftl fsv) (K9 x p) a:=by
 have hm:=hs.mem;have hno:x.k p = .no:=(hm.dom p).1 hp;have hext:=G3x (x:=x) hno;have hself:(K9 x p).k p = .nil:=by simp [K9]
 have hoth:∀r,r≠p->(K9 x p).k r=x.k r:=fun r hr=>by simp [K9,hr]
 have hget:∀r,r≠p->D8 none ml' ens' r=D8 none ml ens r:=fun r hr=>by rw[hl,if_neg hr]
 have hgp:D8 none ml' ens' p=some (.sq q):=by rw[hl,if_pos rfl]
 refine ⟨hs.defers,hs.nt,fun t=>?_,?_,?_,hs.frs.ext hext⟩
 ·exact B4n (D2d hself hc) t _ (A1v hext (hs.t t))
 ·refine ⟨fun r=>?_,fun r l hr=>?_,fun r s hr hn=>?_,fun r e hr hrl=>?_,fun r s hr hs e=>hm.inj r s (A6h hr) (A6h hs) e,fun r hr=>hm.own r (A6h hr),fun b hb=>hm.fw b hb⟩
  ·show D8 none ml' ens' r=none↔(K9 x p).k r = .no
   by_cases e:r=p
   ·subst e;rw[hgp,hself]
    constructor<;>(intro h;cases h)
   ·rw[hget r e,hoth r e]
    exact hm.dom r
  ·have hr:D8 none ml' ens' r=some (.fl l):=hr
   by_cases e:r=p
   ·subst e;rw[hgp] at hr;cases hr
   ·rw[hget r e] at hr
    rw[hoth r e];exact hm.fl r l hr
  ·have hr:D8 none ml' ens' r=some (.sq s):=hr
   by_cases e:r=p
   ·subst e;rw[hgp] at hr;cases hr;exact hq
   ·rw[hget r e] at hr
    rw[hoth r e] at hn;exact hm.nil r s hr hn
  ·have hr:D8 none ml' ens' r=some e:=hr
   have e1:r≠p:=fun h=>by rw[h,hself] at hrl;cases hrl
   rw[hget r e1] at hr;obtain ⟨cs,ty,hc,hde⟩:=hm.ent r e hr (A6h hrl);exact ⟨cs,ty,hc,K5 hext hde⟩
 ·have hb:=hs.base
  refine ⟨hb.f0,hb.fn,hb.size,hb.keep,fun r hr=>hb.ownK r (A6h hr),hb.os,hb.tape,hb.output,fun r hr=>?_⟩
  obtain ⟨h1,h2,h3⟩:=hb.pin r hr;exact ⟨h1,by rw[hoth 0 (Ne.symm hp0)];exact h2,h3⟩
theorem E2n {r p:Nat} {e f:Option En} {q:Nat} (h:p≠q):D8 none [q,p] [e,f] r=if r=p then f else D8 none [q] [e] r:=by
 simp only[D8];by_cases h1:r=q
 ·subst h1
  rw[if_pos rfl,if_pos rfl,if_neg (Ne.symm h)]
 ·rw[if_neg h1,if_neg h1]

end

section

/-- Digits that are small enough. -/
def G1d (D:List Int):Prop:=∀i,-16<=D.getD i 0∧D.getD i 0<=16
/-- All digits of all numbers; how many places there are. -/
def dgK (N:Nat) (k:List U4):List (List Int):=G8t N (k.map (·.val))
def D4e (N:Nat):List U4->Nat
 | []=>0
 | _::_=>N
theorem E1v (N:Nat) (k:List U4):(dgK N k).length=k.length:=by unfold dgK G8t;rw[List.length_map,List.length_map]
theorem C7o (N:Nat) (k:List U4) (i:Nat) (h:i<k.length):(dgK N k).getD i []=(dgW (k.getD i 0).val N).1:=by
 unfold dgK G8t;simp [List.getD,h]
theorem G0x {N:Nat} (k:List U4) (i:Nat) (h:i<k.length):((dgK N k).getD i []).length=N:=by
 rw[C7o N k i h,B1d]
theorem G0w (N:Nat) (k:List U4) (i j:Nat):-16<=((dgK N k).getD i []).getD j 0∧((dgK N k).getD i []).getD j 0<=16:=by
 by_cases h:i<k.length
 ·rw[C7o N k i h]
  by_cases h2:j<(dgW (k.getD i 0).val N).1.length
  ·rw[List.getD_eq_getElem?_getD,List.getElem?_eq_getElem h2]
   exact B3z _ _ _ (List.getElem_mem h2)
  ·rw[List.getD_eq_getElem?_getD,List.getElem?_eq_none (by omega)]
   show (-16:Int)<=0∧(0:Int)<=16;exact ⟨by decide,by decide⟩
 ·have:(dgK N k).getD i []=[]:=by rw[List.getD_eq_getElem?_getD,List.getElem?_eq_none (by rw[E1v];omega)];rfl
  rw[this];show (-16:Int)<=0∧(0:Int)<=16;exact ⟨by decide,by decide⟩
/-- The sum, as it is reckoned. -/
def smJ {F:Type} [Add F] [Sub F] [Mul F] [OfNat F 0] [DecidableEq F] (N:Nat) (z:F×F×F) (P:List (F×F×F)) (k:List U4):F×F×F:=alN z P (dgK N k) (D4e N k) (D4e N k)

theorem C6k (L:List (List Int)) (h i:Nat):(A8m L h).getD i 0=(L.getD i []).getD h 0:=by
 unfold A8m;rw[List.getD_eq_getElem?_getD,List.getElem?_map,List.getD_eq_getElem?_getD (l:=L)]
 cases L[i]? with
 | none=>rfl
 | some l=>rfl
theorem G5x {D:List Int} {L:List (List Int)} {h:Nat} (hl:D.length=L.length) (hg:∀j,j<L.length->D.getD j 0=(L.getD j []).getD h 0):D=A8m L h:=by
 have hr:(A8m L h).length=L.length:=by unfold A8m;rw[List.length_map]
 apply List.ext_getElem (by rw[hl,hr])
 intro i h1 h2;have e:=hg i (by omega)
 rw[<-C6k,List.getD_eq_getElem?_getD,List.getD_eq_getElem?_getD,List.getElem?_eq_getElem h1,List.getElem?_eq_getElem h2] at e;exact e
theorem E8m {α:Type} (l:List α) (z:α) {i:Nat} (h:i<l.length):l.take i++[l.getD i z]=l.take (i+1):=by
 rw[List.take_add_one,List.getElem?_eq_getElem h,List.getD_eq_getElem?_getD,List.getElem?_eq_getElem h];rfl

end

section

/-- What stood at p stands at r now; of the others only these are known. -/
def A1g (x:Ctx) (keep:List Nat) (p r:Nat):Ctx:={ x with β:=fun q=>if q=r then x.β p else x.β q,k:=fun q=>if q=r then .real else if P6 q keep then x.k q else .no }

section
variable {w0:World} {F0:Nat->Prop} {K:Kp} {aq:List Act} {x:Ctx} {a:Act} {keep:List Nat} {p r:Nat}

theorem F5f (hr:x.k r = .no):Ext (F8 x keep) (A1g x keep p r):=by
 have hne:∀q,(F8 x keep).k q ≠ .no->q≠r:=fun q hq e=>by
  subst e;apply hq
  simp only[F8,hr];split<;>rfl
 refine ⟨Nat.le_refl _,fun _ h=>⟨h,rfl⟩,fun q hq=>?_,fun q hq=>?_,fun q hq cs ty h=>⟨cs,h,rfl⟩⟩
 ·show (if q=r then Kd.real else if P6 q keep then x.k q else .no)=_
  rw[if_neg (hne q hq)];rfl
 ·show (if q=r then x.β p else x.β q)=x.β q
  rw[if_neg (hne q (by rw[hq];intro h;cases h))]

/-- Slots that tell of the block at its new position, or not of it. -/
def F0k (keep:List Nat) (p r:Nat):List SV->List SV->Prop
 | [],[]=>True
 | s::l,s' :: l' => ((s' = s∧G5w keep s=true)∨∃off,s = .v (.c (.ptr p off))∧s' = .v (.c (.ptr r off)))∧F0k keep p r l l'
 | _,_=>False
theorem H0z {off:Nat} {v:Value} (h:B8 x (.v (.c (.ptr p off))) v):B8 (A1g x keep p r) (.v (.c (.ptr r off))) v:=by
 obtain ⟨h0,d,hd⟩:=h;refine ⟨h0,d,?_⟩
 cases d<;>(simp only[den] at hd ⊢;exact ⟨by simp [A1g],by rw[hd.2];simp [A1g]⟩)
theorem E3i (hr:x.k r = .no):∀{tl:List Nat} {svs svs' : List SV},F0k keep p r svs svs' -> ∀t v,B8 x (D8 .top tl svs t) v->B8 (A1g x keep p r) (D8 .top tl svs' t) v
 | [],svs,svs',_,t,v,_=>by
  cases svs'<;>trivial
 | _::_,[],[],_,t,v,_=>trivial
 | _::_,[],_::_,h,_,_,_=>h.elim
 | _::_,_::_,[],h,_,_,_=>h.elim
 | n::tl,s::l,s' :: l',h,t,v,hd=>by
  simp only[D8] at hd ⊢
  by_cases e:t=n
  ·rw[if_pos e] at hd ⊢
   rcases h.1 with ⟨e1,h1⟩ | ⟨off,e1,e2⟩
   ·rw[e1]
    exact A1v (F5f hr) (D8s h1 hd)
   ·subst e1 e2
    exact H0z hd
  ·rw[if_neg e] at hd ⊢
   exact E3i hr h.2 t v hd

theorem B2b:∀{ml:List Nat} {ens:List (Option En)} {q:Nat},D8 none ml ens q≠none->P6 q ml=true
 | [],_,_,h=>by simp [D8] at h
 | _::_,[],_,h=>by simp [D8] at h
 | n::ml,e::ens,q,h=>by
  simp only[D8] at h;simp only[P6];by_cases hq:q=n
  ·rw[if_pos hq.symm]
  ·rw[if_neg hq] at h
   rw[if_neg (Ne.symm hq)];exact B2b h
theorem C8z:∀{ml:List Nat} {ens:List (Option En)},A2j keep ens=true->∀{q:Nat} {l:List It},D8 none ml ens q=some (.fl l)->B0e keep l=true
 | [],_,_,_,_,h=>by simp [D8] at h
 | _::_,[],_,_,_,h=>by simp [D8] at h
 | n::ml,some (.fl s)::ens,h,q,l,hl=>by
  simp only[D8] at hl;simp only[A2j,Bool.and_eq_true] at h;by_cases hq:q=n
  ·rw[if_pos hq] at hl;cases hl;exact h.1
  ·rw[if_neg hq] at hl;exact C8z h.2 hl
 | n::ml,some (.sq s)::ens,h,q,l,hl=>by
  simp only[D8] at hl;simp only[A2j] at h;by_cases hq:q=n
  ·rw[if_pos hq] at hl;cases hl
  ·rw[if_neg hq] at hl;exact C8z h hl
 | _::_,none::_,h,_,_,_=>by cases h
theorem B1u {keep:List Nat}:∀{ml:List Nat},(ml.all fun q=>decide (q=p) || P6 q keep)=true->∀{q:Nat},P6 q ml=true->q≠p->P6 q keep=true
 | [],_,_,h,_=>by cases h
 | n::ml,ha,q,h,hq=>by
  simp only[List.all_cons,Bool.and_eq_true] at ha;simp only[P6] at h;split at h
  ·rename_i e
   subst e;have:=ha.1
   simpa [hq] using this
  ·exact B1u ha.2 h hq

theorem Sim.move {nt nx:Nat} {tl:List Nat} {svs:List SV} {ml:List Nat} {ens:List (Option En)}
  (hs:Sim w0 F0 K aq (B2 nt tl svs ml ens nx [] []) x a) (keep:List Nat) (p r:Nat) (hpin:K.pin=none) (hp:∃l,D8 none ml ens p=some (.fl l)) (hr:D8 none ml ens r=none) (hkp:P6 p keep=false) (hkr:P6 r keep=false) (hkm:(ml.all fun q=>decide (q=p) || P6 q keep)=true)
  (he:A2j keep ens=true) {svs' : List SV} (hc:F0k keep p r svs svs') {ml' : List Nat} {ens' : List (Option En)} (hl:∀q,D8 none ml' ens' q=if q=r then D8 none ml ens p else if q=p then none else D8 none ml ens q) :
  Sim w0 F0 K aq (B2 nt tl svs' ml' ens' nx [] []) (A1g x keep p r) a:=by
 have hm:=hs.mem;have hno:x.k r = .no:=(hm.dom r).1 hr;obtain ⟨l0,hp⟩:=hp;have hreal:x.k p = .real:=hm.fl p l0 hp;have hpr:p≠r:=fun e=>by rw[e,hr] at hp;cases hp
 have hext:=F5f (keep:=keep) (p:=p) hno;have kr:(A1g x keep p r).k r = .real:=by simp [A1g]
 have br:(A1g x keep p r).β r=x.β p:=by simp [A1g]
 have ko:∀q,q≠r->(A1g x keep p r).k q=if P6 q keep then x.k q else .no:=fun q hq=>by simp [A1g,hq]
 have bo:∀q,q≠r->(A1g x keep p r).β q=x.β q:=fun q hq=>by simp [A1g,hq]
 have kreal:∀q,q≠r->(A1g x keep p r).k q = .real->x.k q = .real∧q≠p:=fun q hq h=>by
  rw[ko q hq] at h;split at h
  ·rename_i hk
   exact ⟨h,fun e=>by rw[e,hkp] at hk;cases hk⟩
  ·cases h
 have den_ok:∀q e cs,D8 none ml ens q=some e->D4 x e cs->D4 (A1g x keep p r) e cs:=fun q e cs hq hd=>by
  refine K5 hext ?_
  cases e with
  | fl l=>exact B1y (C8z he hq) hd
  | sq q=>exact ⟨hd.1,fun i hi=>let ⟨c,hc,hj⟩:=hd.2 i hi;⟨c,W4 (x:=x) (y:=F8 x keep) rfl (fun b hb=>hb) (K3 q i) hc,hj⟩⟩
 refine ⟨hs.defers,hs.nt,fun t=>E3i hno hc t _ (hs.t t),?_,?_,?_⟩
 ·refine ⟨fun q=>?_,fun q l hq=>?_,fun q s hq hn=>?_,fun q e hq hk=>?_,fun q s hq hs e=>?_,fun q hq=>?_,fun b hb=>hm.fw b hb⟩
  ·show D8 none ml' ens' q=none↔_
   rw[hl];by_cases e:q=r
   ·subst e
    rw[if_pos rfl,hp,kr];constructor<;>(intro h;cases h)
   ·rw[if_neg e,ko q e]
    by_cases e2:q=p
    ·subst e2
     rw[if_pos rfl,hkp];exact ⟨fun _=>rfl,fun _=>rfl⟩
    ·rw[if_neg e2]
     by_cases hk:P6 q keep=true
     ·rw[if_pos hk]
      exact hm.dom q
     ·rw[if_neg hk]
      refine ⟨fun _=>rfl,fun _=>?_⟩
      by_cases hn:D8 none ml ens q=none
      ·exact hn
      ·exact absurd (B1u hkm (B2b hn) e2) hk
  ·have hq:D8 none ml' ens' q=some (.fl l):=hq
   rw[hl] at hq;by_cases e:q=r
   ·subst e;exact kr
   ·rw[if_neg e] at hq
    by_cases e2:q=p
    ·rw[if_pos e2] at hq;cases hq
    ·rw[if_neg e2] at hq
     rw[ko q e,if_pos (B1u hkm (B2b (by rw[hq];intro h;cases h)) e2)]
     exact hm.fl q l hq
  ·have hq:D8 none ml' ens' q=some (.sq s):=hq
   rw[hl] at hq;by_cases e:q=r
   ·subst e;rw[kr] at hn;cases hn
   ·rw[if_neg e] at hq
    by_cases e2:q=p
    ·rw[if_pos e2] at hq;cases hq
    ·rw[if_neg e2] at hq
     rw[ko q e,if_pos (B1u hkm (B2b (by rw[hq];intro h;cases h)) e2)] at hn
     exact hm.nil q s hq hn
  ·have hq:D8 none ml' ens' q=some e:=hq
   rw[hl] at hq;by_cases e1:q=r
   ·subst e1
    rw[if_pos rfl] at hq;obtain ⟨cs,ty,h1,h2⟩:=hm.ent p e hq hreal;exact ⟨cs,ty,by rw[br];exact h1,den_ok p e _ hq h2⟩
   ·obtain ⟨g1,g2⟩:=kreal q e1 hk
    rw[if_neg e1,if_neg g2] at hq;obtain ⟨cs,ty,h1,h2⟩:=hm.ent q e hq g1;exact ⟨cs,ty,by rw[bo q e1];exact h1,den_ok q e _ hq h2⟩
  ·by_cases e1:q=r
   ·by_cases e2:s=r
    ·rw[e1,e2]
    ·obtain ⟨g1,g2⟩:=kreal s e2 hs
     rw[e1,br,bo s e2] at e;exact absurd (hm.inj p s hreal g1 e).symm g2
   ·obtain ⟨g1,g2⟩:=kreal q e1 hq
    by_cases e2:s=r
    ·rw[e2,br,bo q e1] at e
     exact absurd (hm.inj q p g1 hreal e) g2
    ·obtain ⟨g3,_⟩:=kreal s e2 hs
     rw[bo q e1,bo s e2] at e;exact hm.inj q s g1 g3 e
  ·by_cases e:q=r
   ·rw[e,br];exact hm.own p hreal
   ·rw[bo q e];exact hm.own q (kreal q e hq).1
 ·have hb:=hs.base
  refine ⟨hb.f0,hb.fn,hb.size,hb.keep,fun q hq hlt=>?_,hb.os,hb.tape,hb.output,fun q hq=>by rw[hpin] at hq;cases hq⟩
  by_cases e:q=r
  ·rw[e,br] at hlt ⊢
   exact hb.ownK p hreal hlt
  ·rw[bo q e] at hlt ⊢
   exact hb.ownK q (kreal q e hq).1 hlt
 ·have hf:Frs x K.ds [] aq:=hs.frs
  cases hf
  exact .nil
end
end

end
end Go.Proofs.YtefimjofjjdndaaGreat
