/- Parts of a proof, one behind the other: Rj, Lm, Mm, L6, Dg, Jt, Eo, Fz, Rk, Rl, Nl, Nr, Ms, Cp, Dk, Lk, Lr, Ls, Lv, Ly, Lu, Ct, Tb, Mv. No conditions. -/
import Derived.Test.YtefimjofjjdndaaGreatKsH
open Go.IntKind (wrap)
namespace Go.Proofs.YtefimjofjjdndaaGreat
noncomputable section
section

section
variable {P:Program} {y:Ctx} {m:Nat->Option En} {p:Nat} {q:Sq}

theorem G6c {x:Ctx} {d:Nat} {v:Value} (h:den x d (.sl q) [v]):v.oneCell' = true:=by
 cases d with
 | zero=>simp [den] at h
 | succ d=>
  simp only[den,List.cons.injEq,and_true] at h;rcases h with ⟨a,cap,rfl,_⟩ | ⟨b,o,cap,rfl,_⟩<;>rfl

/-- What the box holds. -/
theorem F6h (h:Mem y m) (hp:m p=some (.fl [.sl q])) (hr:y.k p = .real):∃v,y.D (.sl q) [v]∧∀(cs:Array Value) ty,y.w.heap[y.β p]? = some (.cells cs ty (0,0))->C4 y (.fl [.sl q]) cs.toList->C4 (D4 y p) (.fl [.val v]) cs.toList:=by
 obtain ⟨cs,ty,hc,c1,c2,e,h1,h2⟩:=h.ent p _ hp hr;have h2:c2=[]:=h2;obtain ⟨v,hv⟩:∃v,c1=[v]:=by
  have:=Y5 h1
  match c1,this with
  | [v],_=>exact ⟨v,rfl⟩
 rw[hv] at h1;refine ⟨v,h1,fun cs' ty' hc' _=>?_⟩
 rw[hc] at hc'
 have hcs:cs=cs' := by injection hc' with hc';injection hc'
 rw[<-hcs,e,hv,h2];obtain ⟨d,h1⟩:=h1;exact ⟨[v],[],rfl,⟨0,rfl,G6c h1⟩,rfl⟩

/-- What is data stays it while the world grows. -/
theorem C2v {y z:Ctx} (hg:y.w.grownBy z.w none) (hF:∀b,y.F b->z.F b) (hlt:∀b,y.F b->b<y.w.heap.size) {i:It} {vs:List Value} (hi:D8 i=true) (h:y.D i vs):z.D i vs:=by
 have h1:(⟨y.w,y.F,fun _=>.no,y.β⟩:Ctx).D i vs:=A3s (x:=y) (y:=⟨y.w,y.F,fun _=>.no,y.β⟩) rfl (fun _ h=>h) hi h
 have hext:Ext ⟨y.w,y.F,fun _=>.no,y.β⟩ ⟨z.w,z.F,fun _=>.no,z.β⟩:=
  ⟨hg.size,fun b hb=>⟨hF b hb,hg.block b (hlt b hb) (fun e=>by cases e)⟩,fun p hp=>absurd rfl hp,fun p hp=>(by cases hp),fun p hp=>(by cases hp)⟩
 exact A3s (x:=⟨z.w,z.F,fun _=>.no,z.β⟩) (y:=z) rfl (fun _ h=>h) hi (C5g hext _ _ h1)

def E1x (x:Ctx):List SV->List SV->Prop
 | [],[]=>True
 | s::l,s' :: l' => (∀v,B5 x s v->B5 x s' v)∧E1x x l l'
 | _,_=>False

theorem B4r {x:Ctx}:∀{tl:List Nat} {svs svs' : List SV},E1x x svs svs' -> ∀j v,B5 x (D1 .top tl svs j) v->B5 x (D1 .top tl svs' j) v
 | [],_,_,_,_,_,_=>trivial
 | _::_,[],[],_,_,_,_=>trivial
 | _::_,[],_::_,h,_,_,_=>h.elim
 | _::_,_::_,[],h,_,_,_=>h.elim
 | t::tl,s::l,s' :: l',h,j,v,hd=>by
  simp only[D1] at hd ⊢
  by_cases hj:j=t
  ·simp only[hj,if_true] at hd ⊢;exact h.1 v hd
  ·simp only[hj,if_false] at hd ⊢;exact B4r h.2 j v hd

/-- A slot told in other words. -/
theorem Sim.slots {w0:World} {F0:Nat->Prop} {K:Kp} {as:List Act} {nt nx:Nat} {tl:List Nat} {svs svs' : List SV} {ml:List Nat} {ens:List (Option En)} {ftl:List (List Nat)} {fsv:List (List SV×Nat)} {x:Ctx} {a:Act}
  (hs:Sim w0 F0 K as (A8 nt tl svs ml ens nx ftl fsv) x a) (h:E1x x svs svs'):Sim w0 F0 K as (A8 nt tl svs' ml ens nx ftl fsv) x a:=
 ⟨hs.defers,hs.nt,fun t=>B4r h t _ (hs.t t),hs.mem,hs.base,hs.frs⟩

theorem D3h {x:Ctx} {v:Value} {i:It} (hi:i.size=1) (h:x.D i [v]):∀u,B5 x (.v (.c (.val v))) u->B5 x (.v (.c i)) u:=by
 intro u hu;rw[(A0y hu).1];exact ⟨hi,h⟩

/-- A contract that leaves the world as it was. -/
theorem F3n {f:Nat} {args:List SV} {r:SV} (h:∀(x:Ctx) (vs:List Value),H9 x args vs->∃v,Calls P f vs.toArray x.w (fun e w' => e = .returned v∧w' = x.w)∧B5 x r v):FnD P f args r []:=by
 intro x vs hk hF hd;obtain ⟨v,hc,hv⟩:=h x vs hd;refine hc.mono fun e w' he=>?_
 obtain ⟨rfl,rfl⟩:=he;refine ⟨v,x,rfl,rfl,Tr.refl ⟨fun p=>⟨fun _=>hk p,fun _=>rfl⟩,fun p l hp=>(by cases hp),fun p s hp=>(by cases hp),fun p e hp=>(by cases hp),fun p q hp=>?_,fun p hp=>?_,hF⟩,hv⟩
 ·rw[hk p] at hp;cases hp
 ·rw[hk p] at hp;cases hp

/-! Functions with a range over a function within that return data. -/
def RF (x:Ctx) (r:SV) (es:List En):Ending->World->Prop:=fun e w' => ∃v y,e = .returned v∧y.w=w' ∧ Tr x none y (fun p=>es[p]?)∧B5 y r v

theorem Q8 {f:Nat} {fn:Func} {c:Code} {args:List SV} {r:SV} {es:List En} (hf:P.funcs[f]? = some fn) (hb:fn.body=some c) (hlen:Nat.ble args.length fn.ntmps=true)
  (h:∀(x:Ctx) (a:Act),(∀p,x.k p = .no)->(∀b,x.F b->b<x.w.heap.size)->Sim x.w x.F W0 [] (E4 fn.ntmps args) x a->Wq P (bodyPostM Fence.wide 0 P fn (RF x r es)) [.code c] [] .normal a x.w):FnD P f args r es:=by
 intro x vs hk hF hden;exact C9w hf hb (h x _ hk hF (C6w (Nat.le_of_ble_eq_true hlen) hk hF hden))

theorem W7 {env:Env} (hE:A6 P env) {fn:Func} {x0:Ctx} (hk:∀p,x0.k p = .no) (hF:∀b,x0.F b->b<x0.w.heap.size) {unroll:Bool} {n:Nat} {path:List Bool} {ps fz:List Nat} {ob:List Prop} {r rr:SV} {es:List En} {D:Nat} {y:Ctx} {a0:Act} {σ1 σ2:St} {as0 as:List Act} {z:Ctx} {b:Act}
  (h:I0 env fn unroll n ⟨[],.ret,σ2⟩ path ps fz=some (ob,r,es)) (ho:A7 ob) (hconv:∀y v,B5 y r v->B5 y rr v)
  (h1:Sim x0.w x0.F W0 as0 σ1 y a0) (hD:x0.w.heap.size<=D) (hFD:¬y.F D) (hd:y.w.heap[D]? = some (.deferred (some []))) (hfr:σ2.fr=[])
  (g:Sim y.w y.F (R1 y W0 (G9 D)) as σ2 z b):bodyPostM Fence.wide 0 P fn (RF x0 rr es) .ret b z.w:=by
 obtain ⟨g1,g2,g3⟩:=h1.unmark rfl hD hFD hd hfr g;refine D7t g1 g2 (.inl rfl) ?_
 exact (K9 hE hk hF h ho hconv g3).wp
end
end

section

theorem E1 {x y c:Int} (hx:0<=x) (hx1:x<18446744073709551616) (hy:0<=y) (hy1:y<18446744073709551616) (hc:0<=c) (hc1:c<=1) :
  (A0 1 x y c).1=x-y-c+18446744073709551616*(A0 1 x y c).2∧0<=(A0 1 x y c).1∧(A0 1 x y c).1<18446744073709551616∧0<=(A0 1 x y c).2∧(A0 1 x y c).2<=1:=by
 show (x-y-c) % 18446744073709551616=x-y-c+18446744073709551616*(if x<y+c then 1 else 0)∧0<=(x-y-c) % 18446744073709551616∧(x-y-c) % 18446744073709551616<18446744073709551616∧0<=(if x<y+c then (1:Int) else 0)∧(if x<y+c then (1:Int) else 0)<=1
 split<;>omega

theorem E6 {x y c:Int} (hx:0<=x) (hx1:x<18446744073709551616) (hy:0<=y) (hy1:y<18446744073709551616) (hc:0<=c) (hc1:c<=1) :
  x+y+c=(A0 0 x y c).1+18446744073709551616*(A0 0 x y c).2∧0<=(A0 0 x y c).1∧(A0 0 x y c).1<18446744073709551616∧0<=(A0 0 x y c).2∧(A0 0 x y c).2<=1:=by
 show x+y+c=(x+y+c) % 18446744073709551616+18446744073709551616*((x+y+c) / 18446744073709551616)∧_;refine ⟨by omega,?_,?_,?_,?_⟩<;>(simp only[A0];omega)

theorem C0o {x y:Int} (hx:0<=x) (hx1:x<18446744073709551616) (hy:0<=y) (hy1:y<18446744073709551616):0<=x*y∧x*y<=340282366920938463426481119284349108225:=by
 refine ⟨Int.mul_nonneg hx hy,?_⟩
 have:x*y<=18446744073709551615*18446744073709551615:=Int.mul_le_mul (by omega) (by omega) hy (by decide)
 omega

/-- The limbs of a number below 2 to the power of 256. -/
theorem V7 {n:Nat} {a b c d:Int} (ha:0<=a) (ha1:a<18446744073709551616) (hb:0<=b) (hb1:b<18446744073709551616) (hc:0<=c) (hc1:c<18446744073709551616) (hd:0<=d) (hd1:d<18446744073709551616)
  (e:(n:Int)=a+18446744073709551616*b+340282366920938463463374607431768211456*c+6277101735386680763835789423207666416102355444464034512896*d):A1 n 0=a∧A1 n 1=b∧A1 n 2=c∧A1 n 3=d:=by
 have h0:A1 n 0=((n / 1 % 18446744073709551616:Nat):Int):=rfl;have h1:A1 n 1=((n / 18446744073709551616 % 18446744073709551616:Nat):Int):=rfl;have h2:A1 n 2=((n / 340282366920938463463374607431768211456 % 18446744073709551616:Nat):Int):=rfl;have h3:A1 n 3=((n / 6277101735386680763835789423207666416102355444464034512896 % 18446744073709551616:Nat):Int):=rfl;rw[h0,h1,h2,h3];omega

/-- A number is its limbs. -/
theorem Y0 (n:Nat) (h:n<B4):(n:Int)=A1 n 0+18446744073709551616*A1 n 1+340282366920938463463374607431768211456*A1 n 2+6277101735386680763835789423207666416102355444464034512896*A1 n 3 ∧
  0<=A1 n 0∧A1 n 0<18446744073709551616∧0<=A1 n 1∧A1 n 1<18446744073709551616∧0<=A1 n 2∧A1 n 2<18446744073709551616∧0<=A1 n 3∧A1 n 3<18446744073709551616:=by
 have h0:A1 n 0=((n / 1 % 18446744073709551616:Nat):Int):=rfl;have h1:A1 n 1=((n / 18446744073709551616 % 18446744073709551616:Nat):Int):=rfl;have h2:A1 n 2=((n / 340282366920938463463374607431768211456 % 18446744073709551616:Nat):Int):=rfl;have h3:A1 n 3=((n / 6277101735386680763835789423207666416102355444464034512896 % 18446744073709551616:Nat):Int):=rfl;unfold B4 at h;rw[h0,h1,h2,h3];omega

/-- Four limbs in a row are a number. -/
theorem B0d {x:Ctx} {o:Ob} (hk:o.k=4) {a b c d:Int} (h:A1 o.n 0=a∧A1 o.n 1=b∧A1 o.n 2=c∧A1 o.n 3=d) {v:Value}
  (hd:B5 x (.v (.a [.int .u64 a,.int .u64 b,.int .u64 c,.int .u64 d])) v):B5 x (.v (.a [.ob o])) v:=by
 obtain ⟨cs,e,hc⟩:=hd;refine ⟨cs,e,cs,[],(List.append_nil cs).symm,⟨0,?_⟩,rfl⟩
 obtain ⟨c1,r1,e1,⟨d1,h1⟩,c2,r2,e2,⟨d2,h2⟩,c3,r3,e3,⟨d3,h3⟩,c4,r4,e4,⟨d4,h4⟩,h5⟩:=hc;have h1:c1=[.int .u64 a]:=by cases d1<;>exact h1
 have h2:c2=[.int .u64 b]:=by cases d2<;>exact h2
 have h3:c3=[.int .u64 c]:=by cases d3<;>exact h3
 have h4:c4=[.int .u64 d]:=by cases d4<;>exact h4
 have h5:r4=[]:=h5;show cs=o.cells;subst h1 h2 h3 h4 h5 e4 e3 e2 e1;unfold Ob.cells;rw[hk];show _=[Value.int .u64 (A1 o.n 0),Value.int .u64 (A1 o.n 1),Value.int .u64 (A1 o.n 2),Value.int .u64 (A1 o.n 3)];rw[h.1,h.2.1,h.2.2.1,h.2.2.2];rfl

/-- Two numbers of four limbs that are the same. -/
theorem E0a {x:Ctx} {o o' : Ob} (hk:o.k=o'.k) (hn:o.n=o'.n) {v:Value} (hd:B5 x (.v (.a [.ob o])) v):B5 x (.v (.a [.ob o'])) v:=by
 obtain ⟨cs,e,c1,r1,e1,⟨d1,h1⟩,h2⟩:=hd;have h1:c1=o.cells:=by cases d1<;>exact h1
 have h2:r1=[]:=h2;refine ⟨cs,e,cs,[],(List.append_nil cs).symm,⟨0,?_⟩,rfl⟩
 show cs=o'.cells;rw[e1,h1,h2,List.append_nil];unfold Ob.cells;rw[hk,hn]

/-- What a row of limbs is, taken out of the form in which products are reckoned. -/
def D0b:Nat:=12549076656233958353659347336803947287922716146853412054870763148006372261952
def C2i (n:Nat):Fr:=Fin.ofNat rN (n*D0b)

theorem F1b (n:Nat):(Ob.s (C2i n)).n=n % rN:=by
 show (n*D0b % rN)*B4 % rN=n % rN;rw[Nat.mod_mul_mod,Nat.mul_assoc];have e:D0b*B4 % rN=1:=by decide +kernel
 rw[<-Nat.mul_mod_mod,e,Nat.mul_one]

end

section

theorem B6p (n:Int):wrap IntKind.u64 n=n % 18446744073709551616:=rfl

/-- A product of limbs and two limbs more. -/
theorem mac {x b t u:Int} (hx:0<=x) (hx1:x<18446744073709551616) (hb:0<=b) (hb1:b<18446744073709551616) (ht:0<=t) (ht1:t<18446744073709551616) (hu:0<=u) (hu1:u<18446744073709551616) :
    x*b+t+u=(A0 0 (A0 0 ((x*b) % 18446744073709551616) t 0).1 u 0).1+18446744073709551616*wrap IntKind.u64 (wrap IntKind.u64 ((x*b) / 18446744073709551616+(A0 0 ((x*b) % 18446744073709551616) t 0).2)+(A0 0 (A0 0 ((x*b) % 18446744073709551616) t 0).1 u 0).2) ∧
    (0<=(A0 0 (A0 0 ((x*b) % 18446744073709551616) t 0).1 u 0).1∧(A0 0 (A0 0 ((x*b) % 18446744073709551616) t 0).1 u 0).1<18446744073709551616) ∧
    (0<=wrap IntKind.u64 (wrap IntKind.u64 ((x*b) / 18446744073709551616+(A0 0 ((x*b) % 18446744073709551616) t 0).2)+(A0 0 (A0 0 ((x*b) % 18446744073709551616) t 0).1 u 0).2) ∧
     wrap IntKind.u64 (wrap IntKind.u64 ((x*b) / 18446744073709551616+(A0 0 ((x*b) % 18446744073709551616) t 0).2)+(A0 0 (A0 0 ((x*b) % 18446744073709551616) t 0).1 u 0).2)<18446744073709551616) ∧
    0<=(A0 0 ((x*b) % 18446744073709551616) t 0).1∧(A0 0 ((x*b) % 18446744073709551616) t 0).1<18446744073709551616:=by
  have hp:=C0o hx hx1 hb hb1;generalize x*b=p at *;obtain ⟨e1,a1,a1',c1,c1'⟩:=E6 (x:=p % 18446744073709551616) (y:=t) (c:=0) (by omega) (by omega) ht ht1 (by decide) (by decide)
  generalize A0 0 (p % 18446744073709551616) t 0=o1 at *;obtain ⟨e2,a2,a2',c2,c2'⟩:=E6 (x:=o1.1) (y:=u) (c:=0) a1 a1' hu hu1 (by decide) (by decide)
  generalize A0 0 o1.1 u 0=o2 at *;rw[B6p,B6p];refine ⟨?_,⟨a2,a2'⟩,⟨?_,?_⟩,a1,a1'⟩<;>omega

/-- A product of limbs and one limb more. -/
theorem E4o {x b t:Int} (hx:0<=x) (hx1:x<18446744073709551616) (hb:0<=b) (hb1:b<18446744073709551616) (ht:0<=t) (ht1:t<18446744073709551616) :
  x*b+t=(A0 0 ((x*b) % 18446744073709551616) t 0).1+18446744073709551616*wrap IntKind.u64 ((x*b) / 18446744073709551616+(A0 0 ((x*b) % 18446744073709551616) t 0).2) ∧
  (0<=(A0 0 ((x*b) % 18446744073709551616) t 0).1∧(A0 0 ((x*b) % 18446744073709551616) t 0).1<18446744073709551616) ∧
  0<=wrap IntKind.u64 ((x*b) / 18446744073709551616+(A0 0 ((x*b) % 18446744073709551616) t 0).2)∧wrap IntKind.u64 ((x*b) / 18446744073709551616+(A0 0 ((x*b) % 18446744073709551616) t 0).2)<18446744073709551616:=by
 have hp:=C0o hx hx1 hb hb1;generalize x*b=p at *;obtain ⟨e1,a1,a1',c1,c1'⟩:=E6 (x:=p % 18446744073709551616) (y:=t) (c:=0) (by omega) (by omega) ht ht1 (by decide) (by decide)
 generalize A0 0 (p % 18446744073709551616) t 0=o1 at *;rw[B6p];refine ⟨?_,⟨a1,a1'⟩,?_,?_⟩<;>omega

/-- The lowest limb goes out: with the prime r. -/
theorem D0s {l q:Int} (hq:q=wrap IntKind.u64 (l*18446744069414584319)):(q*18446744069414584321+l) % 18446744073709551616=0:=by
 rw[B6p] at hq;omega

theorem F1y : (2 ^ (64*4):Nat)=B4:=by kernel_rfl

theorem B7o (X i:Nat):X % 2 ^ (64*(i+1))=X % 2 ^ (64*i)+2 ^ (64*i)*(X / 2 ^ (64*i) % 18446744073709551616):=by
 have h:(2:Nat) ^ (64*(i+1))=2 ^ (64*i)*18446744073709551616:=by
  rw[Nat.mul_add,Nat.pow_add]
 rw[h,Nat.mod_mul]

theorem D5j {r B v x y T Q:Nat} (e:v*B % r=1 % r) (h:T*B=(x*B % r)*(y*B % r)+Q*r):T*v % r=x*y % r:=by
  have h1:T*B % r=(x*B)*(y*B) % r:=by
    rw[h,Nat.add_mul_mod_self_right,<-Nat.mul_mod]
  have h2:∀a:Nat,a*(v*B) % r=a % r:=fun a=>by rw[<-Nat.mul_mod_mod,e,Nat.mul_mod_mod,Nat.mul_one]
  calc T*v % r=(T*v)*(v*B) % r:=(h2 _).symm
    _=(T*B)*(v*v) % r:=by congr 1;simp only[Nat.mul_comm,Nat.mul_left_comm]
    _=(T*B % r)*(v*v) % r:=by rw[Nat.mod_mul_mod]
    _=((x*B)*(y*B) % r)*(v*v) % r:=by rw[h1]
    _=((x*B)*(y*B))*(v*v) % r:=by rw[Nat.mod_mul_mod]
    _=(x*y*(v*B))*(v*B) % r:=by congr 1;simp only[Nat.mul_comm,Nat.mul_left_comm]
    _=x*y % r:=by rw[h2,h2]

theorem B2g:D0b*B4 % rN=1 % rN:=by kernel_rfl

/-- What is left when a product has gone through all limbs. -/
theorem F6i {x y:Fr} {T Q:Nat} (h:T*B4=(Ob.s x).n*(Ob.s y).n+Q*rN):C2i T=x*y:=
 Fin.ext (D5j B2g h)

end

section

def F5 (a b c d e f:Int):Int:=a+18446744073709551616*b+340282366920938463463374607431768211456*c+6277101735386680763835789423207666416102355444464034512896*d+115792089237316195423570985008687907853269984665640564039457584007913129639936*e+2135987035920910082395021706169552114602704522356652769947041607822219725780640550022962086936576*f

/-- The limbs of a number below 2 to the power of 384. -/
theorem V8 {n:Nat} {a b c d e f:Int} (ha:0<=a) (ha1:a<18446744073709551616) (hb:0<=b) (hb1:b<18446744073709551616) (hc:0<=c) (hc1:c<18446744073709551616) (hd:0<=d) (hd1:d<18446744073709551616) (he:0<=e) (he1:e<18446744073709551616) (hf:0<=f) (hf1:f<18446744073709551616)
  (e1:(n:Int)=F5 a b c d e f):A1 n 0=a∧A1 n 1=b∧A1 n 2=c∧A1 n 3=d∧A1 n 4=e∧A1 n 5=f:=by
 unfold F5 at e1;have k0:A1 n 0=((n / 1 % 18446744073709551616:Nat):Int):=rfl;have k1:A1 n 1=((n / 18446744073709551616 % 18446744073709551616:Nat):Int):=rfl;have k2:A1 n 2=((n / 340282366920938463463374607431768211456 % 18446744073709551616:Nat):Int):=rfl;have k3:A1 n 3=((n / 6277101735386680763835789423207666416102355444464034512896 % 18446744073709551616:Nat):Int):=rfl;have k4:A1 n 4=((n / 115792089237316195423570985008687907853269984665640564039457584007913129639936 % 18446744073709551616:Nat):Int):=rfl;have k5:A1 n 5=((n / 2135987035920910082395021706169552114602704522356652769947041607822219725780640550022962086936576 % 18446744073709551616:Nat):Int):=by kernel_rfl
 rw[k0,k1,k2,k3,k4,k5];omega

/-- A number is its limbs. -/
theorem A0t (n:Nat) (h:n<B6):(n:Int)=F5 (A1 n 0) (A1 n 1) (A1 n 2) (A1 n 3) (A1 n 4) (A1 n 5) ∧
  0<=A1 n 0∧A1 n 0<18446744073709551616∧0<=A1 n 1∧A1 n 1<18446744073709551616∧0<=A1 n 2∧A1 n 2<18446744073709551616∧0<=A1 n 3∧A1 n 3<18446744073709551616∧0<=A1 n 4∧A1 n 4<18446744073709551616∧0<=A1 n 5∧A1 n 5<18446744073709551616:=by
 unfold F5;have k0:A1 n 0=((n / 1 % 18446744073709551616:Nat):Int):=rfl;have k1:A1 n 1=((n / 18446744073709551616 % 18446744073709551616:Nat):Int):=rfl;have k2:A1 n 2=((n / 340282366920938463463374607431768211456 % 18446744073709551616:Nat):Int):=rfl;have k3:A1 n 3=((n / 6277101735386680763835789423207666416102355444464034512896 % 18446744073709551616:Nat):Int):=rfl;have k4:A1 n 4=((n / 115792089237316195423570985008687907853269984665640564039457584007913129639936 % 18446744073709551616:Nat):Int):=rfl;have k5:A1 n 5=((n / 2135987035920910082395021706169552114602704522356652769947041607822219725780640550022962086936576 % 18446744073709551616:Nat):Int):=by kernel_rfl
 unfold B6 at h;rw[k0,k1,k2,k3,k4,k5];omega

/-- Six limbs in a row are a number. -/
theorem A4d {x:Ctx} {o:Ob} (hk:o.k=6) {a b c d e f:Int} (h:A1 o.n 0=a∧A1 o.n 1=b∧A1 o.n 2=c∧A1 o.n 3=d∧A1 o.n 4=e∧A1 o.n 5=f) {v:Value}
  (hd:B5 x (.v (.a [.int .u64 a,.int .u64 b,.int .u64 c,.int .u64 d,.int .u64 e,.int .u64 f])) v):B5 x (.v (.a [.ob o])) v:=by
 obtain ⟨cs,ev,hc⟩:=hd;refine ⟨cs,ev,cs,[],(List.append_nil cs).symm,⟨0,?_⟩,rfl⟩
 obtain ⟨c1,r1,e1,⟨d1,h1⟩,c2,r2,e2,⟨d2,h2⟩,c3,r3,e3,⟨d3,h3⟩,c4,r4,e4,⟨d4,h4⟩,c5,r5,e5,⟨d5,h5⟩,c6,r6,e6,⟨d6,h6⟩,h7⟩:=hc;have h1:c1=[.int .u64 a]:=by cases d1<;>exact h1
 have h2:c2=[.int .u64 b]:=by cases d2<;>exact h2
 have h3:c3=[.int .u64 c]:=by cases d3<;>exact h3
 have h4:c4=[.int .u64 d]:=by cases d4<;>exact h4
 have h5:c5=[.int .u64 e]:=by cases d5<;>exact h5
 have h6:c6=[.int .u64 f]:=by cases d6<;>exact h6
 have h7:r6=[]:=h7;show cs=o.cells;subst h1 h2 h3 h4 h5 h6 h7 e6 e5 e4 e3 e2 e1;unfold Ob.cells;rw[hk];show _=[Value.int .u64 (A1 o.n 0),Value.int .u64 (A1 o.n 1),Value.int .u64 (A1 o.n 2),Value.int .u64 (A1 o.n 3),Value.int .u64 (A1 o.n 4),Value.int .u64 (A1 o.n 5)];rw[h.1,h.2.1,h.2.2.1,h.2.2.2.1,h.2.2.2.2.1,h.2.2.2.2.2];rfl

theorem D9n {x:Ctx} {o:Ob} (hk:o.k=6) {a b c d e f:Int} (h:A1 o.n 0=a∧A1 o.n 1=b∧A1 o.n 2=c∧A1 o.n 3=d∧A1 o.n 4=e∧A1 o.n 5=f) {cs:List Value}
  (hc:C0 x.D [.int .u64 a,.int .u64 b,.int .u64 c,.int .u64 d,.int .u64 e,.int .u64 f] cs):C0 x.D [.ob o] cs:=by
 obtain ⟨cs',ev,h'⟩:=A4d hk h (v:=.agg cs.toArray) ⟨cs,rfl,hc⟩;have ev:cs=cs' := by simpa using ev
 rw[ev];exact h'

theorem F1c {x:Ctx} {o:Ob} (hk:o.k=6) {cs:List Value} (h:C0 x.D [.ob o] cs):C0 x.D [.int .u64 (A1 o.n 0),.int .u64 (A1 o.n 1),.int .u64 (A1 o.n 2),.int .u64 (A1 o.n 3),.int .u64 (A1 o.n 4),.int .u64 (A1 o.n 5)] cs:=by
 obtain ⟨c1,c2,e,⟨d,h1⟩,h2⟩:=h;have h1:c1=o.cells:=by cases d<;>exact h1
 have h2:c2=[]:=h2;subst h2 h1 e;rw[List.append_nil];unfold Ob.cells;rw[hk];exact ⟨[_],_,rfl,⟨0,rfl⟩,[_],_,rfl,⟨0,rfl⟩,[_],_,rfl,⟨0,rfl⟩,[_],_,rfl,⟨0,rfl⟩,[_],_,rfl,⟨0,rfl⟩,[_],_,rfl,⟨0,rfl⟩,rfl⟩

/-- What a row of limbs is, taken out of the form in which products are reckoned. -/
def pnv:Nat:=3231460744492646417066832100176244795738767926513225105051837195607029917124509527734802654356338138714468589979680
def B5p (n:Nat):Fp:=Fin.ofNat pN (n*pnv)
theorem B9f:pnv*B6 % pN=1 % pN:=by kernel_rfl

theorem F4x (n:Nat):(Ob.p (B5p n)).n=n % pN:=by
 show (n*pnv % pN)*B6 % pN=n % pN;rw[Nat.mod_mul_mod,Nat.mul_assoc];have e:pnv*B6 % pN=1:=by decide +kernel
 rw[<-Nat.mul_mod_mod,e,Nat.mul_one]

/-- The lowest limb goes out: with the prime p. -/
theorem D4g {l q:Int} (hq:q=wrap IntKind.u64 (l*9940570264628428797)):(q*13402431016077863595+l) % 18446744073709551616=0:=by
 rw[B6p] at hq;omega

theorem E1v : (2 ^ (64*6):Nat)=B6:=by kernel_rfl
theorem G2i:pN<2 ^ (64*6):=by rw[E1v];decide

/-- What is left when a product has gone through all limbs. -/
theorem E4e {x y:Fp} {T Q:Nat} (h:T*B6=(Ob.p x).n*(Ob.p y).n+Q*pN):B5p T=x*y:=
 Fin.ext (D5j B9f h)

theorem B4j (x:Fp):(Ob.p x).n<pN:=Nat.mod_lt _ (by decide)
theorem D0q (z a b c d e f:Int):z*F5 a b c d e f=(z*a)+18446744073709551616*(z*b)+340282366920938463463374607431768211456*(z*c)+6277101735386680763835789423207666416102355444464034512896*(z*d)+115792089237316195423570985008687907853269984665640564039457584007913129639936*(z*e)+2135987035920910082395021706169552114602704522356652769947041607822219725780640550022962086936576*(z*f):=by
 unfold F5;simp only[Int.mul_add,Int.mul_left_comm z]

/-- The product's lowest limb taken out, round by round. -/
theorem C4a {A Y r i Q:Nat} {T T' q:Int} (hq:0<=q) (h:T*((2 ^ (64*i):Nat):Int)=((A % 2 ^ (64*i):Nat):Int)*(Y:Int)+(Q:Int)*(r:Int))
  (h' : 18446744073709551616*T' = T+A1 A i*(Y:Int)+q*(r:Int)) :
  ∃Q:Nat,T' * ((2 ^ (64*(i+1)):Nat):Int)=((A % 2 ^ (64*(i+1)):Nat):Int)*(Y:Int)+(Q:Int)*(r:Int):=by
 obtain ⟨q,rfl⟩:=Int.eq_ofNat_of_zero_le hq;refine ⟨Q+q*2 ^ (64*i),?_⟩
 rw[B7o];have hp:(2:Nat) ^ (64*(i+1))=2 ^ (64*i)*18446744073709551616:=by rw[Nat.mul_add,Nat.pow_add]
 rw[hp];have hl:A1 A i=((A / 2 ^ (64*i) % 18446744073709551616:Nat):Int):=rfl;rw[hl] at h'
 generalize A / 2 ^ (64*i) % 18446744073709551616=xi at *;generalize A % 2 ^ (64*i)=X at *;generalize 2 ^ (64*i)=m at *;have e1:T' * ((m*18446744073709551616:Nat):Int)=(18446744073709551616*T')*(m:Int):=by
  rw[Int.natCast_mul,Int.mul_comm (m:Int),<-Int.mul_assoc,Int.mul_comm T'];rfl
 rw[e1,h',Int.add_mul,Int.add_mul,h];push_cast
 simp only[Int.add_mul,Int.mul_assoc];have e2:(xi:Int)*((Y:Int)*(m:Int))=(m:Int)*((xi:Int)*(Y:Int)):=by rw[<-Int.mul_assoc,Int.mul_comm]
 have e3:(q:Int)*((r:Int)*(m:Int))=(q:Int)*((m:Int)*(r:Int)):=by rw[Int.mul_comm (r:Int)]
 rw[e2,e3];omega

def B0 (a:Int):Prop:=0<=a∧a<18446744073709551616
theorem D2f {a b c d e f:Int} (ha:B0 a) (hb:B0 b) (hc:B0 c) (hd:B0 d) (he:B0 e) (hf:B0 f):∃n:Nat,n<B6∧F5 a b c d e f=(n:Int)∧A1 n 0=a∧A1 n 1=b∧A1 n 2=c∧A1 n 3=d∧A1 n 4=e∧A1 n 5=f:=by
 obtain ⟨ha,ha1⟩:=ha;obtain ⟨hb,hb1⟩:=hb;obtain ⟨hc,hc1⟩:=hc;obtain ⟨hd,hd1⟩:=hd;obtain ⟨he,he1⟩:=he;obtain ⟨hf,hf1⟩:=hf;have h0:0<=F5 a b c d e f:=by unfold F5;omega
 obtain ⟨n,hn⟩:=Int.eq_ofNat_of_zero_le h0;refine ⟨n,?_,hn,V8 ha ha1 hb hb1 hc hc1 hd hd1 he he1 hf hf1 (by rw[<-hn])⟩
 unfold F5 at hn;unfold B6;omega

def A2f (n:Nat):U6:=Fin.ofNat B6 (n % pN)
theorem B0p (n:Nat):(A2f n).val=n % pN:=Nat.mod_eq_of_lt (Nat.lt_trans (Nat.mod_lt _ (by decide)) (by decide))
theorem D7w {a b:Nat} (h:a % pN=b % pN):A2f a=A2f b:=by unfold A2f;rw[h]

end

section

/-- The digits that t steps have handed on. -/
def dgT (n:Nat):Nat->List Nat
 | 0=>[]
 | t+1=>if (dgT n t).isEmpty=true∧n / 16 ^ (63-t) % 16=0 then [] else dgT n t++[n / 16 ^ (63-t) % 16]

theorem B0k {n t:Nat} (h1:(dgT n t).isEmpty=true) (h2:n / 16 ^ (63-t) % 16=0):dgT n (t+1)=[]:=if_pos ⟨h1,h2⟩
theorem B7t {n t:Nat} (h:¬((dgT n t).isEmpty=true∧n / 16 ^ (63-t) % 16=0)):dgT n (t+1)=dgT n t++[n / 16 ^ (63-t) % 16]:=if_neg h

theorem E2c (n:Nat) {t:Nat}:∀{m:Nat},t<=m->∃r,dgT n m=dgT n t++r
 | 0,h=>⟨[],by rw[Nat.le_zero.1 h];rfl⟩
 | m+1,h=>by
  by_cases e:t=m+1
  ·exact ⟨[],by rw[e,List.append_nil]⟩
  ·obtain ⟨r,hr⟩:=E2c n (m:=m) (t:=t) (by omega)
   by_cases hc:(dgT n m).isEmpty=true∧n / 16 ^ (63-m) % 16=0
   ·rw[B0k hc.1 hc.2]
    have h1:dgT n m=[]:=List.isEmpty_iff.1 hc.1;rw[h1] at hr;obtain ⟨h2,h3⟩:=List.append_eq_nil_iff.1 hr.symm;exact ⟨[],by rw[h2];rfl⟩
   ·exact ⟨r++[n / 16 ^ (63-m) % 16],by rw[B7t hc,hr,List.append_assoc]⟩

def dgV (l:List Nat):Nat:=l.foldl (fun v d=>16*v+d) 0
theorem F3e (l:List Nat) (d:Nat):dgV (l++[d])=16*dgV l+d:=by simp [dgV]
theorem G1c (n s:Nat):n / 16 ^ s=16*(n / 16 ^ (s+1))+n / 16 ^ s % 16:=by
 rw[Nat.pow_succ,<-Nat.div_div_eq_div_mul];omega
theorem G3p {n:Nat} (h:n<16 ^ 64):∀t,t<=64->dgV (dgT n t)=n / 16 ^ (64-t)
 | 0,_=>(Nat.div_eq_of_lt h).symm
 | t+1,ht=>by
  have ih:=G3p h t (by omega)
  have e1:64-t=(63-t)+1:=by omega
  have e2:64-(t+1)=63-t:=by omega
  rw[e1] at ih;rw[e2,G1c n (63-t),<-ih];by_cases hc:(dgT n t).isEmpty=true∧n / 16 ^ (63-t) % 16=0
  ·rw[B0k hc.1 hc.2,hc.2,List.isEmpty_iff.1 hc.1]
   rfl
  ·rw[B7t hc,F3e]
theorem D6p {n:Nat}:∀t d,d∈dgT n t->d<16
 | 0,d,h=>by cases h
 | t+1,d,h=>by
  by_cases hc:(dgT n t).isEmpty=true∧n / 16 ^ (63-t) % 16=0
  ·rw[B0k hc.1 hc.2] at h;cases h
  ·rw[B7t hc,List.mem_append] at h
   rcases h with h | h
   ·exact D6p t d h
   ·rw[List.mem_singleton] at h
    rw[h];exact Nat.mod_lt _ (by decide)

theorem D9y (n i:Nat):n / 2 ^ (64*(i / 16)) % 18446744073709551616 / 2 ^ (4*(i % 16)) % 16=n / 16 ^ i % 16:=by
 have h64:18446744073709551616=2 ^ (4*(i % 16))*(16*2 ^ (60-4*(i % 16))):=by
  rw[show (16:Nat)=2 ^ 4 from rfl,<-Nat.pow_add,<-Nat.pow_add,show 4*(i % 2 ^ 4)+(4+(60-4*(i % 2 ^ 4)))=64 from by omega]
 rw[h64,Nat.mod_mul_right_div_self,Nat.mod_mul_right_mod,Nat.div_div_eq_div_mul,<-Nat.pow_add,show 64*(i / 16)+4*(i % 16)=4*i from by omega,Nat.pow_mul]

theorem G2w {m:Nat}:E5 BinOp.and IntKind.u64 (m:Int) (15:Int)=((m % 16:Nat):Int):=by
 show wrap IntKind.u64 ((BitVec.ofInt 64 (m:Int) &&& BitVec.ofInt 64 ((15:Nat):Int)).toNat:Int)=_;rw[BitVec.ofInt_natCast,BitVec.ofInt_natCast,BitVec.toNat_and,BitVec.toNat_ofNat,BitVec.toNat_ofNat];have e:15 % 2 ^ 64=2 ^ 4-1:=by decide
 rw[e,Nat.and_two_pow_sub_one_eq_mod];show (((m % 2 ^ 64 % 2 ^ 4:Nat):Int)) % 18446744073709551616=_;omega

/-- A digit, as it is reckoned. -/
theorem E9u (k:U4) {i:Nat} (hi:i<64):wrap IntKind.i64 (E5 BinOp.and IntKind.u64 (Int.fdiv (A1 (Ob.n (Ob.fr k)) (0+(((wrap IntKind.i64 (Int.tdiv (i:Int) (16:Int)))).toNat*1))) ((2:Int) ^ (Min.min ((wrap IntKind.i64 ((4:Int)*(Int.tmod (i:Int) (16:Int))))).toNat 64))) (15:Int))=((k.val / 16 ^ i % 16:Nat):Int):=by
 have e1:Int.tdiv (i:Int) (16:Int)=((i / 16:Nat):Int):=Int.tdiv_eq_ediv_of_nonneg (by omega)
 have e2:Int.tmod (i:Int) (16:Int)=((i % 16:Nat):Int):=Int.tmod_eq_emod_of_nonneg (by omega)
 rw[e1,e2,B9 (n:=((i / 16:Nat):Int)) (by omega) (by omega),B9 (n:=(4:Int)*((i % 16:Nat):Int)) (by omega) (by omega),Int.toNat_natCast]
 have e3:Min.min ((4:Int)*((i % 16:Nat):Int)).toNat 64=4*(i % 16):=by omega
 have e4:0+i / 16*1=i / 16:=by omega
 rw[e3,e4];have hl:A1 (Ob.n (Ob.fr k)) (i / 16)=((k.val / 2 ^ (64*(i / 16)) % 18446744073709551616:Nat):Int):=rfl;rw[hl,<-D9y k.val i];generalize k.val / 2 ^ (64*(i / 16)) % 18446744073709551616=m;have hp:((2:Int) ^ (4*(i % 16)))=((2 ^ (4*(i % 16)):Nat):Int):=by simp
 rw[hp,Int.fdiv_eq_ediv_of_nonneg _ (Int.natCast_nonneg _),<-Int.natCast_ediv,G2w];exact B9 (by omega) (by omega)

theorem C4l {i:Nat} (hi:i<64):wrap IntKind.i64 (Int.tdiv (i:Int) (16:Int))=((i / 16:Nat):Int):=by
 have e1:Int.tdiv (i:Int) (16:Int)=((i / 16:Nat):Int):=Int.tdiv_eq_ediv_of_nonneg (by omega)
 rw[e1];exact B9 (by omega) (by omega)
theorem C3s (i:Nat):(0:Int)<=wrap IntKind.i64 ((4:Int)*(Int.tmod (i:Int) (16:Int))):=by
 have e2:Int.tmod (i:Int) (16:Int)=((i % 16:Nat):Int):=Int.tmod_eq_emod_of_nonneg (by omega)
 rw[e2,B9 (by omega) (by omega)]
 omega

/-! A block told in other words. -/
def E9v (x:Ctx):List (Option En)->List (Option En)->Prop
 | [],[]=>True
 | e::l,e' :: l' => (e=e' ∨ ∃f f' r,e=some (.fl r)∧e=some f∧e' = some f' ∧ ∀cs,C4 x f cs->C4 x f' cs)∧E9v x l l'
 | _,_=>False

theorem B9s {x:Ctx}:∀{ml:List Nat} {ens ens' : List (Option En)},E9v x ens ens' -> ∀p,D1 none ml ens p=D1 none ml ens' p∨∃f f' r,D1 none ml ens p=some (.fl r)∧D1 none ml ens p=some f∧D1 none ml ens' p=some f' ∧ ∀cs,C4 x f cs->C4 x f' cs
 | [],_,_,_,_=>.inl rfl
 | _::_,[],[],_,_=>.inl rfl
 | _::_,[],_::_,h,_=>h.elim
 | _::_,_::_,[],h,_=>h.elim
 | t::tl,e::l,e' :: l',h,p=>by
  simp only[D1];by_cases hp:p=t
  ·simp only[hp,if_true];exact h.1
  ·simp only[hp,if_false];exact B9s h.2 p

theorem Sim.blocks {w0:World} {F0:Nat->Prop} {K:Kp} {as:List Act} {nt nx:Nat} {tl:List Nat} {svs:List SV} {ml:List Nat} {ens ens' : List (Option En)} {ftl:List (List Nat)} {fsv:List (List SV×Nat)} {x:Ctx} {a:Act}
  (hs:Sim w0 F0 K as (A8 nt tl svs ml ens nx ftl fsv) x a) (h:E9v x ens ens'):Sim w0 F0 K as (A8 nt tl svs ml ens' nx ftl fsv) x a:=by
 have hm:=hs.mem;refine ⟨hs.defers,hs.nt,hs.t,?_,hs.base,hs.frs⟩
 have key:=B9s (ml:=ml) h;refine ⟨fun p=>?_,fun p l hp=>?_,fun p q hp hn=>?_,fun p e hp hr=>?_,hm.inj,hm.own,hm.fw⟩
 ·rw[<-hm.dom p]
  show D1 none ml ens' p=none↔D1 none ml ens p=none;rcases key p with e | ⟨f,f',r,e1,e2,e3,_⟩
  ·rw[e]
  ·rw[e2,e3]
   constructor<;>(intro h;cases h)
 ·have hp:D1 none ml ens' p=some (.fl l):=hp
  rcases key p with e | ⟨f,f',r,e1,e2,e3,_⟩
  ·rw[<-e] at hp;exact hm.fl p l hp
  ·exact hm.fl p r e1
 ·have hp:D1 none ml ens' p=some (.sq q):=hp
  rcases key p with e | ⟨f,f',r,e1,e2,e3,_⟩
  ·rw[<-e] at hp;exact hm.nil p q hp hn
  ·have:=hm.fl p r e1
   rw[this] at hn;cases hn
 ·have hp:D1 none ml ens' p=some e:=hp
  rcases key p with e0 | ⟨f,f',r,e1,e2,e3,hc⟩
  ·rw[<-e0] at hp;exact hm.ent p e hp hr
  ·rw[e3] at hp
   cases hp
   obtain ⟨cs,ty,h1,h2⟩:=hm.ent p f e2 hr;exact ⟨cs,ty,h1,hc _ h2⟩

end

section

section
variable {F:Type} [Add F] [Sub F] [Mul F] [OfNat F 0] [DecidableEq F]
/-- The table: the point 0, 1, 2 .. times. -/
def T0 (a:F×F×F):Nat->F×F×F
 | 0=>(a.1,a.2.1,0)
 | n+1=>jpl (T0 a n) a
def jst (a o:F×F×F) (d:Nat):F×F×F:=jpl (jtw (jtw (jtw (jtw o)))) (T0 a d)
def jmn (a:F×F×F) (l:List Nat):F×F×F:=l.foldl (jst a) (T0 a 0)
def A2x:Nat->F×F×F->F×F×F
 | 0,o=>o
 | n+1,o=>jtw (A2x n o)
end

theorem F9c {F:Type} [Add F] [Sub F] [Mul F] [OfNat F 0] [DecidableEq F] (a o:F×F×F) (d:Nat):jst a o d=jpl (A2x 4 o) (T0 a d):=rfl
theorem C4w {F:Type} [Add F] [Sub F] [Mul F] [OfNat F 0] [DecidableEq F] (n:Nat) (o:F×F×F):A2x (n+1) o=jtw (A2x n o):=rfl
section
variable {F:Type} [Fld F] [DecidableEq F] {b:F}

/-- A point as often as a number says. -/
def G4 (P:Pt F):Nat->Pt F
 | 0=>none
 | n+1=>I5 (G4 P n) P

theorem A0d (hc:Cv b) {P:Pt F} (h:OnC b P):∀n,OnC b (G4 P n)
 | 0=>True.intro
 | n+1=>A0h hc _ _ (A0d hc h n) h

theorem D5o (P:Pt F):G4 P 1=P:=rfl
theorem U8 (hc:Cv b) {P:Pt F} (h:OnC b P) (m:Nat):∀n,G4 P (m+n)=I5 (G4 P m) (G4 P n)
 | 0=>(A0q _).symm
 | n+1=>by
  show I5 (G4 P (m+n)) P=I5 (G4 P m) (I5 (G4 P n) P);rw[U8 hc h m n,R2 hc _ _ _ (A0d hc h m) (A0d hc h n) h]

theorem A2o:∀n,G4 (none:Pt F) n=none
 | 0=>rfl
 | n+1=>by
  show I5 (G4 none n) none=none;rw[A2o n];rfl

theorem A4n (hc:Cv b) {P:Pt F} (h:OnC b P) (m:Nat):∀n,G4 P (m*n)=G4 (G4 P m) n
 | 0=>rfl
 | n+1=>by
  rw[Nat.mul_succ,U8 hc h,A4n hc h m n];rfl

theorem E3b (hc:Cv b) {P Q R S:Pt F} (hP:OnC b P) (hQ:OnC b Q) (hR:OnC b R) (hS:OnC b S):I5 (I5 P Q) (I5 R S)=I5 (I5 P R) (I5 Q S):=by
 rw[R2 hc _ _ _ hP hQ (A0h hc _ _ hR hS),<-R2 hc _ _ _ hQ hR hS,A6g hc Q R hQ hR,R2 hc _ _ _ hR hQ hS,<-R2 hc _ _ _ hP hR (A0h hc _ _ hQ hS)]

theorem B3d (hc:Cv b) {P Q:Pt F} (hP:OnC b P) (hQ:OnC b Q):∀n,G4 (I5 P Q) n=I5 (G4 P n) (G4 Q n)
 | 0=>rfl
 | n+1=>by
  show I5 (G4 (I5 P Q) n) (I5 P Q)=I5 (I5 (G4 P n) P) (I5 (G4 Q n) Q);rw[B3d hc hP hQ n,E3b hc (A0d hc hP n) (A0d hc hQ n) hP hQ]

/-- What adds up to that at infinity is less the other. -/
theorem E6i (hc:Cv b) {P Q:Pt F} (hP:OnC b P) (hQ:OnC b Q) (h:I5 P Q=none):Q=A7d P:=by
 have e1:I5 (A7d P) (I5 P Q)=A7d P:=by rw[h,A0q]
 rw[<-R2 hc _ _ _ (A1o P hP) hP hQ,A6g hc _ _ (A1o P hP) hP,B3o hc P hP] at e1;exact e1

theorem E4q (hc:Cv b) {P:Pt F} (hP:OnC b P) (n:Nat):G4 (A7d P) n=A7d (G4 P n):=by
 apply E6i hc (A0d hc hP n) (A0d hc (A1o P hP) n)
 rw[<-B3d hc hP (A1o P hP),B3o hc P hP,A2o]

theorem E1z (two:(1:F)+1≠0) {P:Pt F} {a:F×F×F} (h:Jc P a):∀n,Jc (G4 P n) (T0 a n)
 | 0=>rfl
 | n+1=>A3p two _ _ _ _ (E1z two h n) h

theorem G6k (hc:Cv b) {P:Pt F} {a:F×F×F} (hP:OnC b P) (h:Jc P a) {m:Nat} {o:F×F×F} (ho:Jc (G4 P m) o) (d:Nat):Jc (G4 P (16*m+d)) (jst a o d):=by
 have h1:=A9o hc.two _ _ ho;rw[<-U8 hc hP] at h1;have h2:=A9o hc.two _ _ h1;rw[<-U8 hc hP] at h2;have h3:=A9o hc.two _ _ h2;rw[<-U8 hc hP] at h3;have h4:=A9o hc.two _ _ h3;rw[<-U8 hc hP] at h4;have h5:=A3p hc.two _ _ _ _ h4 (E1z hc.two h d);rw[<-U8 hc hP] at h5;rw[show 16*m+d=m+m+(m+m)+(m+m+(m+m))+(m+m+(m+m)+(m+m+(m+m)))+d from by omega]
 exact h5

theorem D2q (hc:Cv b) {P:Pt F} {a:F×F×F} (hP:OnC b P) (h:Jc P a):∀(l:List Nat) (m:Nat) (o:F×F×F),Jc (G4 P m) o->Jc (G4 P (l.foldl (fun v d=>16*v+d) m)) (l.foldl (jst a) o)
 | [],_,_,ho=>ho
 | d::l,m,o,ho=>D2q hc hP h l (16*m+d) (jst a o d) (G6k hc hP h ho d)

theorem G7y (hc:Cv b) {P:Pt F} {a:F×F×F} (hP:OnC b P) (h:Jc P a) (l:List Nat):Jc (G4 P (dgV l)) (jmn a l):=D2q hc hP h l 0 (T0 a 0) (rfl:(0:F)=0)
end

theorem G0f {n t:Nat} (ht:t=64) (h:n<16 ^ 64):dgV (dgT n t)=n:=by
 have e:=G3p h t (by omega)
 rw[show 64-t=0 from by omega,Nat.pow_zero,Nat.div_one] at e
 exact e
end

section

/-- The contracts of both: where the first one has none, the second one's. -/
def Env.or (a b:Env):Env:={ a with fn:=fun f=>match a.fn f with | some s=>some s | none=>b.fn f }
theorem A4j {P:Program} {a b:Env} (hA:A6 P a) (hB:A6 P b):A6 P (a.or b):=by
 refine ⟨hA.ty,hA.mixed,fun f s h=>?_,hA.mu,hA.inl,hA.ex,hA.inv⟩
 have h:(match a.fn f with | some s=>some s | none=>b.fn f)=some s:=h
 cases e:a.fn f with
 | some s' => rw[e] at h;exact hA.fn f s (by rw[e];exact h)
 | none=>rw[e] at h;exact hB.fn f s h
end

section

/-- The row at pb is told as data, and nothing else but the box at p is told of. -/
def B7c (y:Ctx) (p pb:Nat):Ctx:=
  { w:=y.w,F:=fun b=>y.F b∨(y.k pb = .real∧b=y.β pb),k:=fun i=>if i=p then y.k p else .no,β:=y.β }
def fzM (p:Nat) (q:Sq):Nat->Option En:=fun i=>if i=p then some (.fl [.sl q]) else none

theorem G8a {y:Ctx} {m:Nat->Option En} {p pb len es:Nat} {q:Sq} (hm:Mem y m) (hq:m pb=some (.sq q)) (hl:len=q.n) {vs:List Value} (hd:y.D (.slc pb 0 len es) vs):(B7c y p pb).D (.sl q) vs:=by
 have hs:∃v,vs=[v]∧B5 y (.v (.c (.slc pb 0 len es))) v:=by
  have:=Y5 hd
  match vs,this with
  | [v],_=>exact ⟨v,rfl,rfl,hd⟩
 obtain ⟨v,rfl,hs⟩:=hs;subst hl;rcases A1j hs with ⟨hk,_,h0,rfl⟩ | ⟨hk,cap,cs,ty,rfl,hlc,hcm,hcs,hfit⟩
 ·exact ⟨1,.inl ⟨none,0,rfl,h0⟩⟩
 ·obtain ⟨cs',ty',hcs',hden⟩:=hm.ent pb _ hq hk
  obtain ⟨d,hd'⟩:=A2w (R:=fun d i=>∃c,C0 (den (B7c y p pb) d) (q.get i) c∧rd (B7c y p pb).w (B7c y p pb).F (y.β pb) (0+i*q.es) c) (n:=q.n)
   (fun d d' i hdd ⟨c,hc,hr⟩=>⟨c,E0 (fun _ _ h=>Z0 hdd h) hc,hr⟩) (fun i hi=>by
    obtain ⟨c,hc,hj⟩:=hden.2 i hi;obtain ⟨d,hc⟩:=I2 (T9 (x:=y) (y:=B7c y p pb) rfl (fun b hb=>.inl hb) (J5 q i) hc)
    refine ⟨d,c,hc,.inr ⟨hk,rfl⟩,fun j v hv=>?_⟩
    show y.w.cell? _=_;rw[O0 hcs',Nat.zero_add];exact hj j v hv)
  exact ⟨d+1,.inr ⟨y.β pb,0,cap,rfl,hlc,by omega,hd'⟩⟩

theorem G8e {y:Ctx} {m:Nat->Option En} {p pb len es:Nat} {q:Sq} (hm:Mem y m) (hp:m p=some (.fl [.slc pb 0 len es])) (hq:m pb=some (.sq q)) (hl:len=q.n) (hr:y.k p = .real):Mem (B7c y p pb) (fzM p q):=by
 have hne:p≠pb:=fun e=>by rw[e,hq] at hp;cases hp
 refine ⟨fun i=>?_,fun i l h=>?_,fun i q' h=>?_,fun i e h hk=>?_,fun i j hi hj h=>?_,fun i hi=>?_,fun b hb=>?_⟩
 ·show (if i=p then some (En.fl [.sl q]) else none)=none↔(if i=p then y.k p else .no) = .no
  by_cases e:i=p
  ·rw[if_pos e,if_pos e,hr];exact ⟨fun h=>(nomatch h),fun h=>(nomatch h)⟩
  ·rw[if_neg e,if_neg e];exact ⟨fun _=>rfl,fun _=>rfl⟩
 ·have h:(if i=p then some (En.fl [.sl q]) else none)=some (.fl l):=h
  show (if i=p then y.k p else .no) = .real
  split at h
  ·rename_i e;rw[if_pos e];exact hr
  ·cases h
 ·have h:(if i=p then some (En.fl [.sl q]) else none)=some (.sq q'):=h
  split at h<;>cases h
 ·have h:(if i=p then some (En.fl [.sl q]) else none)=some e:=h
  split at h
  ·rename_i ei
   cases h
   subst ei;obtain ⟨cs,ty,h1,c1,c2,e1,h2,h3⟩:=hm.ent i _ hp hr;exact ⟨cs,ty,h1,c1,c2,e1,G8a hm hq hl h2,h3⟩
  ·cases h
 ·have hi:(if i=p then y.k p else .no) = .real:=hi
  have hj:(if j=p then y.k p else .no) = .real:=hj
  by_cases e1:i=p
  ·by_cases e2:j=p
   ·rw[e1,e2]
   ·rw[if_neg e2] at hj;cases hj
  ·rw[if_neg e1] at hi;cases hi
 ·have hi:(if i=p then y.k p else .no) = .real:=hi
  by_cases e1:i=p
  ·subst e1
   rintro (h | ⟨h1,h2⟩)
   ·exact hm.own i hr h
   ·exact hne (hm.inj i pb hr h1 h2)
  ·rw[if_neg e1] at hi;cases hi
 ·rcases hb with hb | ⟨h1,rfl⟩
  ·exact hm.fw b hb
  ·obtain ⟨cs,ty,h,_⟩:=hm.ent pb _ hq h1
   exact (Array.getElem?_eq_some_iff.1 h).1

theorem B0s.freeze {P:Program} {x:Ctx} {gf p pb len es:Nat} {α:Type} {encs:α->List Value} {xs:List α} {M:List α->Nat->Option En} {q:Sq} (hp:∀s,M s p=some (.fl [.slc pb 0 len es])) (hq:∀s,M s pb=some (.sq q)) (hl:len=q.n)
  (h:B0s P x gf [(p,0)] encs xs fun _=>fzM p q):B0s P x gf [(p,0)] encs xs M:=by
 intro l J W hgrow hread hyield hJ;refine h l J W hgrow (fun s W hs=>?_) hyield hJ
 obtain ⟨y,e,hm,hc⟩:=hread s W hs;obtain ⟨hr,hβ⟩:=hc (p,0) List.mem_cons_self;refine ⟨B7c y p pb,e,G8e hm (hp s) (hq s) hl hr,fun c hc' => ?_⟩
 have:c=(p,0):=List.mem_singleton.1 hc'
 subst this;refine ⟨?_,hβ⟩
 show (if p=p then y.k p else .no) = .real
 rw[if_pos rfl];exact hr
end

section

def F7w (x y:Ctx):List SV->List SV->Prop
 | [],[]=>True
 | s::l,s' :: l' => (∀v,B5 x s v->B5 y s' v)∧F7w x y l l'
 | _,_=>False
theorem B2n {x y:Ctx}:∀{tl:List Nat} {svs svs' : List SV},F7w x y svs svs' -> ∀j v,B5 x (D1 .top tl svs j) v->B5 y (D1 .top tl svs' j) v
 | [],_,_,_,_,_,_=>trivial
 | _::_,[],[],_,_,_,_=>trivial
 | _::_,[],_::_,h,_,_,_=>h.elim
 | _::_,_::_,[],h,_,_,_=>h.elim
 | t::tl,s::l,s' :: l',h,j,v,hd=>by
  simp only[D1] at hd ⊢
  by_cases hj:j=t
  ·simp only[hj,if_true] at hd ⊢;exact h.1 v hd
  ·simp only[hj,if_false] at hd ⊢;exact B2n h.2 j v hd
theorem F3c {x y:Ctx} {u:Value}:∀v,B5 x (.v (.c (.val u))) v->B5 y (.v (.c (.val u))) v:=fun v h=>⟨rfl,0,by obtain ⟨rfl,h1⟩:=A0y h;exact ⟨rfl,h1⟩⟩
theorem C7t {x y:Ctx} {k:IntKind} {n:Int}:∀v,B5 x (.v (.c (.int k n))) v->B5 y (.v (.c (.int k n))) v:=fun v h=>by rw[S5 h];exact ⟨rfl,0,rfl⟩
theorem F3f {x y:Ctx} {u:Value} {q:Sq} (h:y.D (.sl q) [u]):∀v,B5 x (.v (.c (.vsl u q))) v->B5 y (.v (.c (.vsl u q))) v:=fun v hv=>by
 have e:=(D7i hv.2).1;simp only[List.cons.injEq,and_true] at e;subst e;exact ⟨rfl,D6d h⟩
theorem D8l {x y:Ctx} {s:SV}:∀v,B5 x s v->B5 y .top v:=fun _ _=>trivial
theorem G8n {x y z:Ctx} {q:Nat} (hβ:z.β q=y.β q):∀v,B5 x (.v (.c (.val (.pointer (some ⟨z.β q,0,none⟩))))) v->B5 (D4 y q) (.v (.c (.ptr 0 0))) v:=fun v h=>by
 obtain ⟨rfl,_⟩:=A0y h;exact ⟨rfl,0,rfl,by show _=[Value.pointer (some ⟨y.β q,0,none⟩)];rw[hβ]⟩
theorem G6x {z y:Ctx} {q:Nat} (hβ:z.β 0=y.β q):∀v,B5 z (.v (.c (.ptr 0 0))) v->B5 (D4 y q) (.v (.c (.ptr 0 0))) v:=fun v h=>by
 obtain ⟨_,rfl⟩:=A7o h;exact ⟨rfl,0,rfl,by show _=[Value.pointer (some ⟨y.β q,0,none⟩)];rw[hβ]⟩

/-- A world of which nothing is told. -/
def D9r (w:World):Ctx:=⟨w,fun _=>False,fun _=>.no,fun _=>0⟩
theorem G0j {w:World} {nt nx:Nat} {a:Act} (hnt:a.tmps.size=nt) (hd:a.defers=[]) {dst:Nat} {b:Bool} (hdst:Nat.blt dst nt=true) :
  Sim w (fun _=>False) W0 [] ⟨K8 (D1 .top [] []) dst (.v (.c (.lit b))),D1 none [] [],nt,nx,[]⟩ (D9r w) (a.put (some dst) (.bool b)):=by
 refine ⟨hd,by simp [Act.put];exact hnt,fun j=>?_,?_,?_,.nil⟩
 ·show B5 _ (K8 (D1 .top [] []) dst (.v (.c (.lit b))) j) _
  unfold K8;by_cases hj:j=dst
  ·subst hj
   simp only[if_true];have hlt:j<a.tmps.size:=by rw[hnt];simpa [Nat.blt_eq] using hdst
   simp only[Act.put,Array.getD_eq_getD_getElem?,Array.getElem?_setIfInBounds,if_true,hlt,Option.getD_some];exact ⟨rfl,0,rfl⟩
  ·simp only[hj,if_false]
   exact trivial
 ·exact ⟨fun _=>⟨fun _=>rfl,fun _=>rfl⟩,fun _ _ h=>(by cases h),fun _ _ h=>(by cases h),fun _ _ h=>(by cases h),fun _ _ h=>(by cases h),fun _ h=>(by cases h),fun _ h=>h.elim⟩
 ·exact ⟨fun _ h=>h,fun _ h=>.inl h,Nat.le_refl _,fun _ _ _=>rfl,fun _ h=>(by cases h),rfl,rfl,rfl,fun _ h=>(by cases h)⟩

section
variable {P:Program} {y:Ctx} {m:Nat->Option En} {q:Nat} {e e' : En}
/-- The next state, told anew in a world that is looked at anew. -/
theorem G1p {z:Ctx} {nt nx nx' : Nat} {tl:List Nat} {svs svs' : List SV} {ml:List Nat} {ens:List (Option En)} {w0:World} {F0:Nat->Prop} {K:Kp} {as:List Act} {a:Act} (hs:Sim w0 F0 K as (A8 nt tl svs ml ens nx [] []) z a) (hds:K.ds=[])
  (hm:Mem y m) (hp:m q=some e) (hr:y.k q = .real) (hd:∀(cs:Array Value) ty,y.w.heap[y.β q]? = some (.cells cs ty (0,0))->C4 y e cs.toList->C4 (D4 y q) e' cs.toList) (hc:F7w z (D4 y q) svs svs') :
  Sim y.w y.F (B2m (D4 y q)) as (A8 nt tl svs' [0] [some e'] nx' [] []) (D4 y q) a:=by
 have hfr:Frs z K.ds [] as:=hs.frs
 cases hfr
 have had:a.defers=[]:=hs.defers.trans hds;have k:=B2s (nx:=nx') hm hp hr hd had hs.nt (t:=D1 .top tl svs') fun j=>B2n hc j _ (hs.t j)
 have e1:D1 none [0] [some e']=one e' := by
  funext i
  simp only[D1,one]
 show Sim y.w y.F (B2m (D4 y q)) [] ⟨D1 .top tl svs',D1 none [0] [some e'],nt,nx',[]⟩ (D4 y q) a;rw[e1];exact k
/-- The same, where a slot holds what a yield has answered. -/
theorem F0a {z:Ctx} {nt nx nx' : Nat} {tl:List Nat} {svs svs' : List SV} {ml:List Nat} {ens:List (Option En)} {w0:World} {F0:Nat->Prop} {K:Kp} {as:List Act} {a:Act} (hs:Sim w0 F0 K as (A8 nt tl svs ml ens nx [] []) z a) (hds:K.ds=[])
  (hm:Mem y m) (hp:m q=some e) (hr:y.k q = .real) (hd:∀(cs:Array Value) ty,y.w.heap[y.β q]? = some (.cells cs ty (0,0))->C4 y e cs.toList->C4 (D4 y q) e' cs.toList) (hc:F7w z (D4 y q) svs svs') {dst:Nat} {b:Bool} (hdst:Nat.blt dst nt=true) :
  Sim y.w y.F (B2m (D4 y q)) as ⟨K8 (D1 .top tl svs') dst (.v (.c (.lit b))),one e',nt,nx',[]⟩ (D4 y q) (a.put (some dst) (.bool b)):=by
 have hfr:Frs z K.ds [] as:=hs.frs
 cases hfr
 have had:a.defers=[]:=hs.defers.trans hds;refine B2s hm hp hr hd (by simpa [Act.put] using had) (by have:=hs.nt;simp [Act.put];exact this) fun j=>?_
 have h0:=B2n hc j _ (hs.t j);show B5 _ (K8 (D1 .top tl svs') dst (.v (.c (.lit b))) j) _;unfold K8;by_cases hj:j=dst
 ·subst hj
  simp only[if_true];have hlt:j<a.tmps.size:=by
   have h1:=hs.nt;have h2:a.tmps.size=nt:=h1;rw[h2];simpa [Nat.blt_eq] using hdst
  simp only[Act.put,Array.getD_eq_getD_getElem?,Array.getElem?_setIfInBounds,if_true,hlt,Option.getD_some];exact ⟨rfl,0,rfl⟩
 ·simp only[hj,if_false]
  have:(a.put (some dst) (.bool b)).tmps.getD j undef=a.tmps.getD j undef:=by
   simp [Act.put,Array.getD_eq_getD_getElem?,Ne.symm hj]
  rw[this];exact h0
/-- What a captured box holds, seen by the iterator. -/
theorem G4v {v:Value} {s:Sq} (cs:Array Value) (hc:C4 y (.fl [.vsl v s]) cs.toList):C4 (D4 y q) (.fl [.vsl v s]) cs.toList:=by
 obtain ⟨c1,c2,e,h1,h2⟩:=hc;have h2:c2=[]:=h2;exact ⟨c1,c2,e,A3s (x:=y) (y:=D4 y q) rfl (fun _ h=>h) rfl h1,by rw[h2];rfl⟩
/-- What is data stays it, while own blocks change. -/
theorem C2z {x:Ctx} {K:Kp} {ds:List Deferred} {m:Nat->Option En} (hm:Mem x m) (hb:A9i x.w x.F (R1 x K ds) y) {i:It} {vs:List Value} (hi:D8 i=true) (h:x.D i vs):y.D i vs:=by
 have h1:(⟨x.w,x.F,fun _=>.no,x.β⟩:Ctx).D i vs:=A3s (x:=x) (y:=⟨x.w,x.F,fun _=>.no,x.β⟩) rfl (fun _ h=>h) hi h
 have hext:Ext ⟨x.w,x.F,fun _=>.no,x.β⟩ ⟨y.w,y.F,fun _=>.no,y.β⟩:=
  ⟨hb.size,fun b hF=>⟨hb.f0 b hF,hb.keep b (hm.fw b hF) fun p hp e=>hm.own p hp (e ▸ hF)⟩,fun p hp=>absurd rfl hp,fun p hp=>(by cases hp),fun p hp=>(by cases hp)⟩
 exact A3s (x:=⟨y.w,y.F,fun _=>.no,y.β⟩) (y:=y) rfl (fun _ h=>h) hi (C5g hext _ _ h1)
end
end

section

section
variable {P:Program} {w0:World} {F0:Nat->Prop} {K:Kp} {as:List Act} {x:Ctx} {a:Act} {σ:St}

theorem Sim.outOwn (hs:Sim w0 F0 K as σ x a) {σ2:St} {y:Ctx} {b:Act} {as' : List Act} (g:Sim x.w x.F (R1 x K K.ds) as' σ2 y b):Sim w0 F0 K as' σ2 y b:=⟨g.defers,g.nt,g.t,g.mem,hs.base.trans g.base,g.frs⟩

theorem Sim.marked2 (h:Sim w0 F0 K as σ x a) (hfr:σ.fr=[]) (D:Nat):Sim x.w x.F (R1 x K (G9 D++K.ds)) as σ x { a with defers:={ target:=.collected D,args:=#[] } :: a.defers }:=by
 have hd:=h.defers;have hf:=h.frs;rw[hfr] at hd hf;refine ⟨?_,h.nt,h.t,h.mem,h.base.own _,?_⟩
 ·rw[hfr]
  show _::a.defers=G9 D++K.ds;rw[hd];rfl
 ·rw[hfr]
  cases hf
  exact .nil

theorem Sim.unmark2 {D:Nat} {σ2:St} {as' : List Act} {z:Ctx} {b:Act} (h:Sim w0 F0 K as σ x a) (hD:w0.heap.size<=D) (hF:¬x.F D) (hd:x.w.heap[D]? = some (.deferred (some []))) (hfr:σ2.fr=[])
  (g:Sim x.w x.F (R1 x K (G9 D++K.ds)) as' σ2 z b):b.defers=G9 D++K.ds∧z.w.heap[D]? = some (.deferred (some []))∧Sim w0 F0 K as' σ2 { z with w:=z.w.putObj D (.deferred none) } { b with defers:=K.ds }:=by
 have hz:=N6 h.mem g.base hd rfl;have hlt:D<x.w.heap.size:=(Array.getElem?_eq_some_iff.1 hd).1;have hb:=g.defers;have hf:=g.frs;rw[hfr] at hb hf;refine ⟨hb,hz,?_⟩
 have hs:Sim w0 F0 K as' σ2 z { b with defers:=K.ds }:=by
  refine ⟨?_,g.nt,g.t,g.mem,h.base.trans g.base,?_⟩
  ·rw[hfr];rfl
  ·rw[hfr]
   cases hf
   exact .nil
 refine hs.world rfl rfl rfl (by simp) (fun c hc=>World.putObj_heap_other ?_) (fun p hp=>World.putObj_heap_other ?_) (fun c hc _=>World.putObj_heap_other ?_)
 ·intro e
  subst e;rcases g.base.fn c hc with h1 | h1
  ·exact hF h1
  ·omega
 ·intro e
  cases hm:σ2.m p with
  | none=>rw[(g.mem.dom p).1 hm] at hp;cases hp
  | some en=>
   obtain ⟨cs,ty,hc,_⟩:=g.mem.ent p en hm hp;rw[e,hz] at hc
   cases hc
 ·omega

theorem D3u {fn:Func} {R:Ending->World->Prop} {D D' : Nat} {w:World} (hd:a.defers=G9 D' ++ G9 D) (hh:w.heap[D']? = some (.deferred (some []))) (hh2:(w.putObj D' (.deferred none)).heap[D]? = some (.deferred (some [])))
  (h:bodyPost P fn R .ret { a with defers:=[] } ((w.putObj D' (.deferred none)).putObj D (.deferred none))):bodyPostM Fence.wide 0 P fn R .ret a w:=by
 have key:LeavesInM Fence.wide 0 P fn a.tmps R a.defers .returning w:=by
  rw[hd];refine ⟨by simp,.inl ⟨_,_,rfl,run_takeDeferred hh,?_⟩⟩
  refine ⟨by simp,.inl ⟨_,_,rfl,run_takeDeferred hh2,?_⟩⟩
  obtain ⟨_,v,hv,hR⟩:=h;exact ⟨v,hv,hR⟩
 exact key

theorem D5u {env:Env} (hE:A6 P env) {fn:Func} {x0:Ctx} (hk:∀p,x0.k p = .no) (hF:∀b,x0.F b->b<x0.w.heap.size) {unroll:Bool} {n:Nat} {path:List Bool} {ps fz:List Nat} {ob:List Prop} {r rr:SV} {es:List En} {D D' : Nat} {y y' : Ctx} {a0 a1:Act} {σ1 σ2 σ3:St} {as0 as1 as:List Act} {z:Ctx} {b:Act}
  (h:I0 env fn unroll n ⟨[],.ret,σ3⟩ path ps fz=some (ob,r,es)) (ho:A7 ob) (hconv:∀y v,B5 y r v->B5 y rr v)
  (h1:Sim x0.w x0.F W0 as0 σ1 y a0) (hD:x0.w.heap.size<=D) (hFD:¬y.F D) (hd:y.w.heap[D]? = some (.deferred (some [])))
  (h2:Sim y.w y.F (R1 y W0 (G9 D)) as1 σ2 y' a1) (hD' : y.w.heap.size<=D') (hFD' : ¬y'.F D') (hd' : y'.w.heap[D']? = some (.deferred (some []))) (hfr:σ3.fr=[])
  (g:Sim y'.w y'.F (R1 y' (R1 y W0 (G9 D)) (G9 D' ++ G9 D)) as σ3 z b):bodyPostM Fence.wide 0 P fn (RF x0 rr es) .ret b z.w:=by
 obtain ⟨g1,g2,g3⟩:=h2.unmark2 hD' hFD' hd' hfr g;obtain ⟨k1,k2,k3⟩:=h1.unmark rfl hD hFD hd hfr g3;refine D3u g1 g2 k2 ?_
 exact (K9 hE hk hF h ho hconv k3).wp
end
end

section

/-- One position more, without a block. -/
def J8 (y:Ctx) (n:Nat):Ctx:={ y with k:=fun q=>if q=n then .nil else y.k q }

/-- A contract whose result has an empty row behind the others. -/
theorem FnD.nil {P:Program} {f:Nat} {args:List SV} {r r' : SV} {es:List En} {q:Sq} (h:FnD P f args r es) (hq:q.n=0)
  (hr:∀(y:Ctx) v,y.k es.length = .nil->B5 y r v->B5 y r' v):FnD P f args r' (es++[.sq q]):=by
 intro x vs hk hF hd;refine (h x vs hk hF hd).mono fun e w' ⟨v,y,he,hw,ht,hv⟩=>?_
 have hno:y.k es.length = .no:=(ht.mem.dom es.length).1 (by simp)
 have hext:Ext y (J8 y es.length):=by
  refine ⟨Nat.le_refl _,fun _ h=>⟨h,rfl⟩,fun p hp=>?_,fun _ _=>rfl,fun _ _ cs _ h=>⟨cs,h,rfl⟩⟩
  have:p≠es.length:=fun e=>hp (e ▸ hno)
  simp [J8,this]
 have hreal:∀p,(J8 y es.length).k p = .real->y.k p = .real:=by
  intro p hp;simp only[J8] at hp;split at hp
  ·cases hp
  ·exact hp
 have hget:∀p,p≠es.length->(es++[En.sq q])[p]? = es[p]? := by
  intro p hp;by_cases h1:p<es.length
  ·rw[List.getElem?_append_left h1]
  ·rw[List.getElem?_append_right (by omega),List.getElem?_eq_none (by simp;omega),List.getElem?_eq_none (by omega)]
 have hm:Mem (J8 y es.length) (fun p=>(es++[En.sq q])[p]?):=by
  refine ⟨fun p=>?_,fun p l hp=>?_,fun p s hp hn=>?_,fun p e hp hrl=>?_,fun p s hp hs he=>?_,fun p hp=>?_,fun b hb=>ht.mem.fw b hb⟩
  ·by_cases hp:p=es.length
   ·subst hp;simp [J8]
   ·show (es++[En.sq q])[p]? = none↔(if p=es.length then Kd.nil else y.k p) = .no
    rw[if_neg hp,hget p hp];exact ht.mem.dom p
  ·by_cases h1:p=es.length
   ·subst h1;simp at hp
   ·have hp:(es++[En.sq q])[p]? = some (.fl l):=hp
    rw[hget p h1] at hp;show (if p=es.length then Kd.nil else y.k p) = .real
    rw[if_neg h1];exact ht.mem.fl p l hp
  ·by_cases h1:p=es.length
   ·subst h1
    have hp:(es++[En.sq q])[es.length]? = some (.sq s):=hp;simp at hp
    rw[<-hp];exact hq
   ·have hp:(es++[En.sq q])[p]? = some (.sq s):=hp
    rw[hget p h1] at hp;have hn:(if p=es.length then Kd.nil else y.k p) = .nil:=hn
    rw[if_neg h1] at hn;exact ht.mem.nil p s hp hn
  ·have h1:p≠es.length:=by
    rintro rfl
    simp [J8] at hrl
   have hp:(es++[En.sq q])[p]? = some e:=hp;rw[hget p h1] at hp;obtain ⟨cs,ty,hc,hde⟩:=ht.mem.ent p e hp (hreal p hrl);exact ⟨cs,ty,hc,J6 hext hde⟩
  ·exact ht.mem.inj p s (hreal p hp) (hreal s hs) he
  ·exact ht.mem.own p (hreal p hp)
 refine ⟨v,J8 y es.length,he,hw,⟨ht.ext.trans hext,hm,ht.os,ht.tape,ht.output,ht.blk,fun p hp=>ht.fresh p (hreal p hp),ht.fnew⟩,hr _ _ (by simp [J8]) (A0w hext hv)⟩

theorem G1j {y:Ctx} {p es:Nat} (hk:y.k p = .nil) {v:Value} (h:A2g y (.c (.val (.slice none 0 0))) v):A2g y (.c (.slc p 0 0 es)) v:=by
 obtain ⟨_,d,h⟩:=h;refine ⟨rfl,d,?_⟩
 have h:[v]=[Value.slice none 0 0]:=by cases d<;>exact h.1
 have g:(y.k p = .nil∧0=0∧0=0∧[v]=[Value.slice none 0 0]) ∨
  (y.k p = .real∧∃cap cs ty,[v]=[.slice (some ⟨y.β p,0,none⟩) 0 cap]∧0<=cap∧cap<=maxLen∧y.w.heap[y.β p]? = some (.cells cs ty (0,0))∧0+cap*es<=cs.size):=.inl ⟨hk,rfl,rfl,h⟩
 cases d<;>exact g

end

section

variable {w0:World} {F0:Nat->Prop} {K:Kp} {as:List Act} {x:Ctx} {a:Act}

theorem G2d {p:Nat} (hno:x.k p = .no):Ext x (J8 x p):=
 ⟨Nat.le_refl _,fun _ h=>⟨h,rfl⟩,fun q hq=>by
  have:q≠p:=fun e=>hq (e ▸ hno)
  simp [J8,this],fun _ _=>rfl,fun _ _ cs _ h=>⟨cs,h,rfl⟩⟩
theorem A4i {p q:Nat} (h:(J8 x p).k q = .real):x.k q = .real:=by
 simp only[J8] at h;split at h
 ·cases h
 ·exact h

/-- Slots that hold what an empty row at p may be. -/
def F0f (p:Nat):List SV->List SV->Prop
 | [],[]=>True
 | s::l,s' :: l' => (s' = s∨∃es,s = .v (.c (.val (.slice none 0 0)))∧s' = .v (.c (.slc p 0 0 es)))∧F0f p l l'
 | _,_=>False
theorem D4y {p:Nat} (hk:x.k p = .nil):∀{svs svs' : List SV},F0f p svs svs' -> E1x x svs svs'
 | [],[],_=>trivial
 | [],_::_,h=>h.elim
 | _::_,[],h=>h.elim
 | s::l,s' :: l',h=>⟨fun v hd=>by
   rcases h.1 with e | ⟨es,e1,e2⟩
   ·rw[e];exact hd
   ·subst e1 e2
    exact G1j hk hd,D4y hk h.2⟩

theorem Sim.nilRow {nt nx:Nat} {tl:List Nat} {svs svs' : List SV} {ml ml' : List Nat} {ens ens' : List (Option En)} {ftl:List (List Nat)} {fsv:List (List SV×Nat)}
  (hs:Sim w0 F0 K as (A8 nt tl svs ml ens nx ftl fsv) x a) {p:Nat} (hp:D1 none ml ens p=none) (hp0:p≠0) {q:Sq} (hq:q.n=0) (hl:∀r,D1 none ml' ens' r=if r=p then some (.sq q) else D1 none ml ens r) (hc:F0f p svs svs') :
  Sim w0 F0 K as (A8 nt tl svs' ml' ens' nx ftl fsv) (J8 x p) a:=by
 have hm:=hs.mem;have hno:x.k p = .no:=(hm.dom p).1 hp;have hext:=G2d (x:=x) hno;have hself:(J8 x p).k p = .nil:=by simp [J8]
 have hoth:∀r,r≠p->(J8 x p).k r=x.k r:=fun r hr=>by simp [J8,hr]
 have hget:∀r,r≠p->D1 none ml' ens' r=D1 none ml ens r:=fun r hr=>by rw[hl,if_neg hr]
 have hgp:D1 none ml' ens' p=some (.sq q):=by rw[hl,if_pos rfl]
 refine ⟨hs.defers,hs.nt,fun t=>?_,?_,?_,hs.frs.ext hext⟩
 ·exact B4r (D4y hself hc) t _ (A0w hext (hs.t t))
 ·refine ⟨fun r=>?_,fun r l hr=>?_,fun r s hr hn=>?_,fun r e hr hrl=>?_,fun r s hr hs e=>hm.inj r s (A4i hr) (A4i hs) e,fun r hr=>hm.own r (A4i hr),fun b hb=>hm.fw b hb⟩
  ·show D1 none ml' ens' r=none↔(J8 x p).k r = .no
   by_cases e:r=p
   ·subst e;rw[hgp,hself]
    constructor<;>(intro h;cases h)
   ·rw[hget r e,hoth r e]
    exact hm.dom r
  ·have hr:D1 none ml' ens' r=some (.fl l):=hr
   by_cases e:r=p
   ·subst e;rw[hgp] at hr;cases hr
   ·rw[hget r e] at hr
    rw[hoth r e];exact hm.fl r l hr
  ·have hr:D1 none ml' ens' r=some (.sq s):=hr
   by_cases e:r=p
   ·subst e;rw[hgp] at hr;cases hr;exact hq
   ·rw[hget r e] at hr
    rw[hoth r e] at hn;exact hm.nil r s hr hn
  ·have hr:D1 none ml' ens' r=some e:=hr
   have e1:r≠p:=fun h=>by rw[h,hself] at hrl;cases hrl
   rw[hget r e1] at hr;obtain ⟨cs,ty,hc,hde⟩:=hm.ent r e hr (A4i hrl);exact ⟨cs,ty,hc,J6 hext hde⟩
 ·have hb:=hs.base
  refine ⟨hb.f0,hb.fn,hb.size,hb.keep,fun r hr=>hb.ownK r (A4i hr),hb.os,hb.tape,hb.output,fun r hr=>?_⟩
  obtain ⟨h1,h2,h3⟩:=hb.pin r hr;exact ⟨h1,by rw[hoth 0 (Ne.symm hp0)];exact h2,h3⟩
theorem C6a {r p:Nat} {e f:Option En} {q:Nat} (h:p≠q):D1 none [q,p] [e,f] r=if r=p then f else D1 none [q] [e] r:=by
 simp only[D1];by_cases h1:r=q
 ·subst h1
  rw[if_pos rfl,if_pos rfl,if_neg (Ne.symm h)]
 ·rw[if_neg h1,if_neg h1]

end

section

section
variable {F:Type} [Add F] [Sub F] [Mul F] [OfNat F 0] [DecidableEq F]
/-- One point is put into the row of its digit. -/
def bkS (z:F×F×F) (S:List (F×F×F)) (p:F×F×F) (d:Int):List (F×F×F):=
 if d > 0 then S.set d.toNat (jpl (S.getD d.toNat z) p) else if d<0 then S.set (-d).toNat (jpl (S.getD (-d).toNat z) (jng p)) else S
/-- So many points are. -/
def bkN (z:F×F×F) (S:List (F×F×F)) (ps:List (F×F×F)) (ds:List Int):Nat->List (F×F×F)
 | 0=>S
 | i+1=>bkS z (bkN z S ps ds i) (ps.getD i z) (ds.getD i 0)
/-- Sums from above, and their sums. -/
def toR (z:F×F×F) (S:List (F×F×F)):Nat->F×F×F
 | 0=>z
 | n+1=>jpl (toR z S n) (S.getD (16-n) z)
def toO (z:F×F×F) (S:List (F×F×F)):Nat->F×F×F
 | 0=>z
 | n+1=>jpl (toO z S n) (toR z S (n+1))
def bkT (z:F×F×F) (ps:List (F×F×F)) (ds:List Int):F×F×F:=toO z (bkN z (List.replicate 17 z) ps ds ps.length) 16
/-- The digits of one place. -/
def A0b (L:List (List Int)) (i:Nat):List Int:=L.map fun l=>l.getD i 0
def alN (z:F×F×F) (ps:List (F×F×F)) (L:List (List Int)) (m:Nat):Nat->F×F×F
 | 0=>z
 | t+1=>jpl (A2x 5 (alN z ps L m t)) (bkT z ps (A0b L (m-1-t)))
theorem F9y (z:F×F×F) (S:List (F×F×F)) (p:F×F×F) (d:Int):(bkS z S p d).length=S.length:=by
 unfold bkS;split
 ·exact List.length_set
 ·split
  ·exact List.length_set
  ·rfl
theorem C8x (z:F×F×F) (S ps:List (F×F×F)) (ds:List Int):∀i,(bkN z S ps ds i).length=S.length
 | 0=>rfl
 | i+1=>(F9y ..).trans (C8x z S ps ds i)
end

/-! What stands for what: any relation that goes along with sums, doubles and negatives. -/
section
variable {F:Type} [Add F] [Sub F] [Mul F] [OfNat F 0] [DecidableEq F] {M:Type} [D4e M]
structure Rel (R:F×F×F->M->Prop) (z:F×F×F):Prop where
 ze:R z 0
 pl:∀{a b x y},R a x->R b y->R (jpl a b) (x+y)
 tw:∀{a x},R a x->R (jtw a) (x+x)
 ng:∀{a x},R a x->R (jng a) (-x)
variable {R:F×F×F->M->Prop} {z:F×F×F}

/-- Sums of multiples. -/
def B5q (T:Nat->M):Nat->M
 | 0=>0
 | n+1=>B5q T n+((n+1:Nat):Int) • T (n+1)
def B5n (T:Nat->M) (d:Nat) (p:M):Nat->M:=fun i=>if i=d then T i+p else T i
theorem B9d (T:Nat->M) (d:Nat) (p:M) (hd:1<=d):∀n,B5q (B5n T d p) n=if d<=n then B5q T n+(d:Int) • p else B5q T n
 | 0=>by rw[if_neg (by omega)];rfl
 | n+1=>by
  show B5q (B5n T d p) n+((n+1:Nat):Int) • B5n T d p (n+1)=_;rw[B9d T d p hd n];by_cases h:d<=n
  ·rw[if_pos h,if_pos (by omega)]
   have e:B5n T d p (n+1)=T (n+1):=if_neg (by omega)
   rw[e];show _=B5q T n+((n+1:Nat):Int) • T (n+1)+(d:Int) • p;generalize ((n+1:Nat):Int) • T (n+1)=x;generalize (d:Int) • p=y;grind
  ·rw[if_neg h]
   by_cases h2:d=n+1
   ·subst h2
    rw[if_pos (Nat.le_refl _)];have e:B5n T (n+1) p (n+1)=T (n+1)+p:=if_pos rfl;rw[e,B7i];show _=B5q T n+((n+1:Nat):Int) • T (n+1)+((n+1:Nat):Int) • p;generalize ((n+1:Nat):Int) • T (n+1)=x;generalize ((n+1:Nat):Int) • p=y;grind
   ·rw[if_neg (by omega)]
    have e:B5n T d p (n+1)=T (n+1):=if_neg (fun h=>h2 h.symm)
    rw[e];rfl

def rM (T:Nat->M):Nat->M
 | 0=>0
 | n+1=>rM T n+T (16-n)
def oM (T:Nat->M):Nat->M
 | 0=>0
 | n+1=>oM T n+rM T (n+1)
/-- Sums from above n: each so often as it lies above n. -/
theorem H1q (T:Nat->M):oM T 16=B5q T 16:=by
 simp only[oM,rM,B5q];grind

theorem F6d (hR:Rel R z) {S:List (F×F×F)} {T:Nat->M} (h:∀i,i<=16->R (S.getD i z) (T i)):∀n,R (toR z S n) (rM T n)
 | 0=>hR.ze
 | n+1=>hR.pl (F6d hR h n) (h _ (by omega))
theorem E9f (hR:Rel R z) {S:List (F×F×F)} {T:Nat->M} (h:∀i,i<=16->R (S.getD i z) (T i)):∀n,R (toO z S n) (oM T n)
 | 0=>hR.ze
 | n+1=>hR.pl (E9f hR h n) (F6d hR h (n+1))

theorem A4v {α:Type} (l:List α) (i j:Nat) (x z:α) (h:i<l.length):(l.set i x).getD j z=if j=i then x else l.getD j z:=by
 by_cases e:j=i
 ·subst e
  simp [List.getD,h]
 ·rw[if_neg e]
  simp [List.getD,List.getElem?_set_ne (Ne.symm e)]

/-- The rows after so many points, and what they stand for. -/
theorem F2n (hR:Rel R z) {ps:List (F×F×F)} {Ps:List M} (hl:Ps.length=ps.length) (hp:∀i,i<ps.length->R (ps.getD i z) (Ps.getD i 0)) {ds:List Int} (hd:∀i,-16<=ds.getD i 0∧ds.getD i 0<=16) :
  ∀n,n<=ps.length->∃T:Nat->M,(∀i,i<=16->R ((bkN z (List.replicate 17 z) ps ds n).getD i z) (T i))∧B5q T 16=dot ((List.range n).map fun i=>ds.getD i 0) ((List.range n).map fun i=>Ps.getD i 0)
 | 0,_=>⟨fun _=>0,fun i hi=>by
   have e:(List.replicate 17 z).getD i z=z:=by
    rw[List.getD_eq_getElem?_getD,List.getElem?_replicate,if_pos (by omega)]
    rfl
   show R ((List.replicate 17 z).getD i z) 0;rw[e];exact hR.ze,by
   have h:∀n,B5q (fun _=>(0:M)) n=0:=fun n=>by
    induction n with
    | zero=>rfl
    | succ n ih=>
     show B5q (fun _=>(0:M)) n+((n+1:Nat):Int) • (0:M)=0
     rw[ih,C8j,ad0]
   exact (h 16).trans (B0i _).symm⟩
 | n+1,hn=>by
  obtain ⟨T,h1,h2⟩:=F2n hR hl hp hd n (by omega)
  have hdn:=hd n;have hlen:(bkN z (List.replicate 17 z) ps ds n).length=17:=by rw[C8x,List.length_replicate]
  have hdot:dot ((List.range (n+1)).map fun i=>ds.getD i 0) ((List.range (n+1)).map fun i=>Ps.getD i 0)=dot ((List.range n).map fun i=>ds.getD i 0) ((List.range n).map fun i=>Ps.getD i 0)+ds.getD n 0 • Ps.getD n 0:=by
   rw[List.range_succ,List.map_append,List.map_append];exact D0h _ _ _ _ (by simp)
  rw[hdot];show ∃T:Nat->M,(∀i,i<=16->R ((bkS z (bkN z (List.replicate 17 z) ps ds n) (ps.getD n z) (ds.getD n 0)).getD i z) (T i))∧_;have hpn:=hp n (by omega)
  generalize bkN z (List.replicate 17 z) ps ds n=S at *;generalize ds.getD n 0=d at *;generalize ps.getD n z=p at *;generalize Ps.getD n 0=P at *;by_cases hpos:d > 0
  ·obtain ⟨e,rfl⟩:=Int.eq_ofNat_of_zero_le (Int.le_of_lt hpos)
   refine ⟨B5n T e P,fun i hi=>?_,?_⟩
   ·have eS:bkS z S p (e:Int)=S.set e (jpl (S.getD e z) p):=if_pos hpos
    rw[eS,A4v _ _ _ _ _ (by omega)]
    by_cases hie:i=e
    ·subst hie
     rw[if_pos rfl];have eT:B5n T i P i=T i+P:=if_pos rfl;rw[eT];exact hR.pl (h1 _ hi) hpn
    ·rw[if_neg hie]
     have eT:B5n T e P i=T i:=if_neg hie;rw[eT];exact h1 _ hi
   ·rw[B9d _ _ _ (by omega),if_pos (by omega),h2]
  ·by_cases hneg:d<0
   ·obtain ⟨e,he⟩:=Int.eq_ofNat_of_zero_le (a:=-d) (by omega)
    obtain rfl:d = -(e:Int):=by omega
    refine ⟨B5n T e (-P),fun i hi=>?_,?_⟩
    ·have eS:bkS z S p (-(e:Int))=S.set e (jpl (S.getD e z) (jng p)):=by
      unfold bkS;rw[if_neg hpos,if_pos hneg,Int.neg_neg,Int.toNat_natCast]
     rw[eS,A4v _ _ _ _ _ (by omega)]
     by_cases hie:i=e
     ·subst hie
      rw[if_pos rfl];have eT:B5n T i (-P) i=T i + -P:=if_pos rfl;rw[eT];exact hR.pl (h1 _ hi) (hR.ng hpn)
     ·rw[if_neg hie]
      have eT:B5n T e (-P) i=T i:=if_neg hie;rw[eT];exact h1 _ hi
    ·rw[B9d _ _ _ (by omega),if_pos (by omega),h2,A3w,G7j]
   ·obtain rfl:d=0:=by omega
    refine ⟨T,fun i hi=>?_,?_⟩
    ·have eS:bkS z S p 0=S:=by unfold bkS;rw[if_neg (by decide),if_neg (by decide)]
     rw[eS];exact h1 _ hi
    ·rw[h2,U0,ad0]

theorem B7x {α:Type} (z:α) (l:List α) {n:Nat} (h:n=l.length):((List.range n).map fun i=>l.getD i z)=l:=by
 subst h;apply List.ext_getElem
 ·simp
 ·intro i h1 h2
  simp [List.getD,h2]
theorem G7u (hR:Rel R z) {ps:List (F×F×F)} {Ps:List M} (hl:Ps.length=ps.length) (hp:∀i,i<ps.length->R (ps.getD i z) (Ps.getD i 0)) {ds:List Int} (hdl:ds.length=ps.length) (hd:∀i,-16<=ds.getD i 0∧ds.getD i 0<=16) :
  R (bkT z ps ds) (dot ds Ps):=by
 obtain ⟨T,h1,h2⟩:=F2n hR hl hp hd ps.length (Nat.le_refl _);have h3:=E9f hR h1 16;rw[H1q,h2,B7x 0 ds hdl.symm,B7x 0 Ps hl.symm] at h3;exact h3

theorem H1s (hR:Rel R z) {a:F×F×F} {x:M} (h:R a x):R (A2x 5 a) ((32:Int) • x):=by
 have h1:=hR.tw (hR.tw (hR.tw (hR.tw (hR.tw h))));have e:x+x+(x+x)+(x+x+(x+x))+(x+x+(x+x)+(x+x+(x+x)))+(x+x+(x+x)+(x+x+(x+x))+(x+x+(x+x)+(x+x+(x+x))))=(32:Int) • x:=by grind
 rw[<-e];exact h1

theorem F5u (hR:Rel R z) {ps:List (F×F×F)} {Ps:List M} (hl:Ps.length=ps.length) (hp:∀i,i<ps.length->R (ps.getD i z) (Ps.getD i 0)) {L:List (List Int)} {m:Nat} (hL:L.length=ps.length) (hm:∀l,l∈L->l.length=m) (hd:∀l,l∈L->∀d,d∈l -> -16<=d∧d<=16) :
  ∀t,t<=m->R (alN z ps L m t) (dot (L.map fun l=>vlW (l.drop (m-t))) Ps)
 | 0,_=>by
  have e:dot (L.map fun l=>vlW (l.drop (m-0))) Ps=0:=by
   rw[show (L.map fun l=>vlW (l.drop (m-0)))=L.map fun _=>(0:Int) from List.map_congr_left fun l hl=>by rw[Nat.sub_zero,List.drop_eq_nil_of_le (Nat.le_of_eq (hm l hl))];rfl]
   exact C5f L Ps
  rw[e];exact hR.ze
 | t+1,ht=>by
  have ih:=F5u hR hl hp hL hm hd t (by omega)
  have hrow:R (bkT z ps (A0b L (m-1-t))) (dot (A0b L (m-1-t)) Ps):=by
   refine G7u hR hl hp (by unfold A0b;rw[List.length_map];exact hL) fun i=>?_
   unfold A0b;rw[List.getD_eq_getElem?_getD,List.getElem?_map]
   cases e:L[i]? with
   | none=>
    show (-16:Int)<=0∧(0:Int)<=16;exact ⟨by decide,by decide⟩
   | some l=>
    have hmem:=List.mem_of_getElem? e;show -16<=l.getD (m-1-t) 0∧l.getD (m-1-t) 0<=16;have hlt:m-1-t<l.length:=by rw[hm l hmem];omega
    rw[List.getD_eq_getElem?_getD,List.getElem?_eq_getElem hlt];exact hd l hmem _ (List.getElem_mem hlt)
  have h:=hR.pl (H1s hR ih) hrow;have e:dot (L.map fun l=>vlW (l.drop (m-(t+1)))) Ps=(32:Int) • dot (L.map fun l=>vlW (l.drop (m-t))) Ps+dot (A0b L (m-1-t)) Ps:=by
   unfold A0b;refine E2k 32 _ _ _ L Ps fun l hmem=>?_
   have e1:m-(t+1)=m-1-t:=by omega
   have e2:m-t=m-1-t+1:=by omega
   rw[e1,e2];exact F5t l _ (by rw[hm l hmem];omega)
  rw[e];exact h
end
end

section

section
variable {F:Type} [Fld F] [DecidableEq F] {b:F}
/-- The points of the curve. -/
def CP (b:F):Type:={ P:Pt F // OnC b P }
@[reducible] def A5r (hc:Cv b):AG (CP b) where
 ad P Q:=⟨I5 P.1 Q.1,A0h hc _ _ P.2 Q.2⟩
 ng P:=⟨A7d P.1,A1o _ P.2⟩
 ze:=⟨none,True.intro⟩
 ad_ze P:=Subtype.ext (A0q _)
 ad_cm P Q:=Subtype.ext (A6g hc _ _ P.2 Q.2)
 ad_as P Q S:=Subtype.ext (R2 hc _ _ _ P.2 Q.2 S.2)
 ng_ad P:=Subtype.ext (by
  show I5 (A7d P.1) P.1=none;rw[A6g hc _ _ (A1o _ P.2) P.2,B3o hc _ P.2])
/-- A sum of multiples of points. -/
def C2r:List Nat->List (Pt F)->Pt F
 | k::ks,P::Ps=>I5 (G4 P k) (C2r ks Ps)
 | _,_=>none
theorem C7h (hc:Cv b):∀(ks:List Nat) (Ps:List (Pt F)),(∀P,P∈Ps->OnC b P)->OnC b (C2r ks Ps)
 | [],_,_=>True.intro
 | _::_,[],_=>True.intro
 | k::ks,P::Ps,h=>A0h hc _ _ (A0d hc (h P (List.mem_cons_self ..)) k) (C7h hc ks Ps fun Q hQ=>h Q (List.mem_cons_of_mem _ hQ))

theorem E8q (hc:Cv b) (P:CP b):∀n:Nat,(letI:=A5r hc;AG.ns n P).1=G4 P.1 n
 | 0=>rfl
 | n+1=>by
  show I5 (letI:=A5r hc;AG.ns n P).1 P.1=I5 (G4 P.1 n) P.1
  rw[E8q hc P n]
theorem D9s (hc:Cv b):∀(ks:List Nat) (Ps:List (CP b)),(letI:=A5r hc;dot (ks.map fun k:Nat=>(k:Int)) Ps).1=C2r ks (Ps.map (·.1))
 | [],Ps=>by
  letI:=A5r hc
  show (dot ([]:List Int) Ps).1=none;rw[B0i];rfl
 | _::_,[]=>rfl
 | k::ks,P::Ps=>by
  show I5 (letI:=A5r hc;AG.ns k P).1 (letI:=A5r hc;dot (ks.map fun k:Nat=>(k:Int)) Ps).1=I5 (G4 P.1 k) (C2r ks (Ps.map (·.1)))
  rw[E8q,D9s hc ks Ps]

theorem G9j (hc:Cv b) (z:F×F×F) (hz:z.2.2=0):letI:=A5r hc;Rel (F:=F) (M:=CP b) (fun a P=>Jc P.1 a) z:=by
 letI:=A5r hc
 exact ⟨hz,fun {a b x y} h1 h2=>A3p hc.two _ _ _ _ h1 h2,fun {a x} h=>A9o hc.two _ _ h,fun {a x} h=>D9i _ _ h⟩

/-- All digits of all numbers. -/
def C2e (n:Nat) (ks:List Nat):List (List Int):=ks.map fun k=>(dgW k n).1
theorem F6r {k n:Nat} (hn:n=52) (h:k<2 ^ 256):vlW ((dgW k n).1.drop (n-n))=(k:Int):=by
 rw[Nat.sub_self,List.drop_zero];exact (E0l hn h).1
theorem E7i {n:Nat} (hn:n=52) {ks:List Nat} (hk:∀k,k∈ks->k<2 ^ 256):(C2e n ks).map (fun l=>vlW (l.drop (n-n)))=ks.map fun k:Nat=>(k:Int):=by
 unfold C2e;rw[List.map_map];exact List.map_congr_left fun k hm=>F6r hn (hk k hm)

/-- Many points, by rows of digits, are their sum. -/
theorem F2e {n:Nat} (hn:n=52) (hc:Cv b) (z:F×F×F) (hz:z.2.2=0) {ps:List (F×F×F)} {Ps:List (Pt F)} (hl:Ps.length=ps.length) (hon:∀P,P∈Ps->OnC b P) (hp:∀i,i<ps.length->Jc (Ps.getD i none) (ps.getD i z)) {ks:List Nat} (hkl:ks.length=ps.length) (hk:∀k,k∈ks->k<2 ^ 256) :
  Jc (C2r ks Ps) (alN z ps (C2e n ks) n n):=by
 letI:=A5r hc
 let Qs:List (CP b):=Ps.attach.map fun P=>⟨P.1,hon P.1 P.2⟩
 have hQ:Qs.map (·.1)=Ps:=by
  show (Ps.attach.map fun P=>(⟨P.1,hon P.1 P.2⟩:CP b)).map (·.1)=Ps
  rw[List.map_map];exact List.attach_map_subtype_val Ps
 have hQl:Qs.length=ps.length:=by rw[<-hl,<-hQ,List.length_map]
 have hget:∀i,(Qs.getD i 0).1=Ps.getD i none:=fun i=>by
  rw[<-hQ,List.getD_eq_getElem?_getD,List.getD_eq_getElem?_getD,List.getElem?_map]
  cases Qs[i]?<;>rfl
 have h:=F5u (G9j hc z hz) (L:=C2e n ks) (m:=n) hQl (fun i hi=>by
   show Jc (Qs.getD i 0).1 (ps.getD i z);rw[hget];exact hp i hi) (by unfold C2e;rw[List.length_map];exact hkl) (fun l hm=>by
   obtain ⟨k,_,rfl⟩:=List.mem_map.1 hm;exact A6x k n) (fun l hm d hd=>by
   obtain ⟨k,_,rfl⟩:=List.mem_map.1 hm;exact A6l k n d hd) n (Nat.le_refl _)
 rw[E7i hn hk] at h;have h:Jc (dot (ks.map fun k:Nat=>(k:Int)) Qs).1 (alN z ps (C2e n ks) n n):=h
 rw[D9s hc ks Qs,hQ] at h;exact h
end
end

section

/-- Digits that are small enough. -/
def F7f (D:List Int):Prop:=∀i,-16<=D.getD i 0∧D.getD i 0<=16
/-- All digits of all numbers; how many places there are. -/
def dgK (N:Nat) (k:List U4):List (List Int):=C2e N (k.map (·.val))
def D3p (N:Nat):List U4->Nat
 | []=>0
 | _::_=>N
theorem E2q (N:Nat) (k:List U4):(dgK N k).length=k.length:=by unfold dgK C2e;rw[List.length_map,List.length_map]
theorem C6u (N:Nat) (k:List U4) (i:Nat) (h:i<k.length):(dgK N k).getD i []=(dgW (k.getD i 0).val N).1:=by
 unfold dgK C2e;simp [List.getD,h]
theorem G2j {N:Nat} (k:List U4) (i:Nat) (h:i<k.length):((dgK N k).getD i []).length=N:=by
 rw[C6u N k i h,A6x]
theorem F8k (N:Nat) (k:List U4) (i j:Nat):-16<=((dgK N k).getD i []).getD j 0∧((dgK N k).getD i []).getD j 0<=16:=by
 by_cases h:i<k.length
 ·rw[C6u N k i h]
  by_cases h2:j<(dgW (k.getD i 0).val N).1.length
  ·rw[List.getD_eq_getElem?_getD,List.getElem?_eq_getElem h2]
   exact A6l _ _ _ (List.getElem_mem h2)
  ·rw[List.getD_eq_getElem?_getD,List.getElem?_eq_none (by omega)]
   show (-16:Int)<=0∧(0:Int)<=16;exact ⟨by decide,by decide⟩
 ·have:(dgK N k).getD i []=[]:=by rw[List.getD_eq_getElem?_getD,List.getElem?_eq_none (by rw[E2q];omega)];rfl
  rw[this];show (-16:Int)<=0∧(0:Int)<=16;exact ⟨by decide,by decide⟩
/-- The sum, as it is reckoned. -/
def smJ {F:Type} [Add F] [Sub F] [Mul F] [OfNat F 0] [DecidableEq F] (N:Nat) (z:F×F×F) (P:List (F×F×F)) (k:List U4):F×F×F:=alN z P (dgK N k) (D3p N k) (D3p N k)

theorem C5c (L:List (List Int)) (h i:Nat):(A0b L h).getD i 0=(L.getD i []).getD h 0:=by
 unfold A0b;rw[List.getD_eq_getElem?_getD,List.getElem?_map,List.getD_eq_getElem?_getD (l:=L)]
 cases L[i]? with
 | none=>rfl
 | some l=>rfl
theorem F7u {D:List Int} {L:List (List Int)} {h:Nat} (hl:D.length=L.length) (hg:∀j,j<L.length->D.getD j 0=(L.getD j []).getD h 0):D=A0b L h:=by
 have hr:(A0b L h).length=L.length:=by unfold A0b;rw[List.length_map]
 apply List.ext_getElem (by rw[hl,hr])
 intro i h1 h2;have e:=hg i (by omega)
 rw[<-C5c,List.getD_eq_getElem?_getD,List.getD_eq_getElem?_getD,List.getElem?_eq_getElem h1,List.getElem?_eq_getElem h2] at e;exact e
theorem E3w {α:Type} (l:List α) (z:α) {i:Nat} (h:i<l.length):l.take i++[l.getD i z]=l.take (i+1):=by
 rw[List.take_add_one,List.getElem?_eq_getElem h,List.getD_eq_getElem?_getD,List.getElem?_eq_getElem h];rfl

theorem B6t {α β:Type} (f:α->β) (l:List α) (a:α) (b:β) {i:Nat} (h:i<l.length):(l.map f).getD i b=f (l.getD i a):=by
 simp [List.getD,h]
/-- How many points are refused. -/
def A2e (a b:Int) (w:Bool):Int:=if a=b then if a > 4096 then 2 else if w then 30 else 0 else 3
theorem F4g {a b:Int} {w:Bool} (h:¬a=b):A2e a b w=3:=if_neg h
theorem F1n {a b:Int} {w:Bool} (h:a=b) (h2:a > 4096):A2e a b w=2:=by unfold A2e;rw[if_pos h,if_pos h2]
theorem G3o {a b:Int} {w:Bool} (h:a=b) (h2:¬a > 4096) (hw:w=true):A2e a b w=30:=by unfold A2e;rw[if_pos h,if_neg h2,if_pos hw]
theorem G0l {a b:Int} {w:Bool} (h:a=b) (h2:¬a > 4096) (hw:w=false):A2e a b w=0:=by unfold A2e;rw[if_pos h,if_neg h2,hw,if_neg Bool.false_ne_true]
theorem D1n {a b:Int} {w:Bool} (h:A2e a b w=0):a=b∧¬a > 4096∧w=false:=by
 by_cases h1:a=b
 ·by_cases h2:a > 4096
  ·rw[F1n h1 h2] at h;exact absurd h (by decide)
  ·cases w with
   | true=>rw[G3o h1 h2 rfl] at h;exact absurd h (by decide)
   | false=>exact ⟨h1,h2,rfl⟩
 ·rw[F4g h1] at h;exact absurd h (by decide)

theorem G5c {x:Ctx} {q:Sq} (hq:q.n=0) {v:Value} (h:B5 x (.v (.c (.val (.slice none 0 0)))) v):B5 x (.v (.c (.sl q))) v:=by
 obtain ⟨h0,d,hd⟩:=h;have e:[v]=[Value.slice none 0 0]:=by cases d<;>exact hd.1
 exact ⟨rfl,1,.inl ⟨none,0,e,hq⟩⟩
end

set_option linter.unusedVariables false
set_option linter.unusedSectionVars false
section

section
variable {M:Type} [D4e M]
end

section
variable {F:Type} [Fld F] [DecidableEq F] {b:F}
end

section
variable {F K:Type} [Fld F] [DecidableEq F] [J9 K]
/-- Elements of the lesser ring, in the greater one. -/
structure Hom (f:F->K):Prop where
 add:∀x y,f (x+y)=f x+f y
 mul:∀x y,f (x*y)=f x*f y
 sub:∀x y,f (x-y)=f x-f y
theorem Hom.zero {f:F->K} (h:Hom f):f 0=0:=by
 have:f (0-0)=f 0-f 0:=h.sub 0 0
 rw[show (0:F)-0=0 from by grind] at this
 rw[this];clear this;grind
end

section
variable {F K:Type} [Fld F] [DecidableEq F] [J9 K] [Nrs K] {b:F}
/-- A line at a place: X, and y0 times the square root. -/
def evl (f:F->K) (X y0:K):Option (F×F)->E2 K
 | none=>1
 | some l=>⟨-(f l.1*X+f l.2),y0⟩
/-- The same, but for an element of the lesser ring. -/
def Ass (u v:E2 K):Prop:=u.a*v.b=v.a*u.b
theorem Ass.refl (u:E2 K):Ass u u:=rfl
theorem Ass.symm {u v:E2 K} (h:Ass u v):Ass v u:=Eq.symm h
theorem E2.one_mul (u:E2 K):1*u=u:=E2.ext' (by simp only[E2.mul_a,E2.one_a,E2.one_b];grind) (by simp only[E2.mul_b,E2.one_a,E2.one_b];grind)
theorem E2.mul_one (u:E2 K):u*1=u:=E2.ext' (by simp only[E2.mul_a,E2.one_a,E2.one_b];grind) (by simp only[E2.mul_b,E2.one_a,E2.one_b];grind)
end
end

set_option linter.unusedVariables false
set_option linter.unusedSectionVars false
section

section
variable {R:Type} [J9 R]
end

section
variable {K:Type} [Fld K] [Nrs K] [DecidableEq K]
/-- The conjugate; and by what it is its element. -/
def cj (u:E2 K):E2 K:=⟨u.a,-u.b⟩
theorem F0u (u v:E2 K):cj (u*v)=cj u*cj v:=E2.ext' (by show u.a*v.a+Nrs.xi*(u.b*v.b)=u.a*v.a+Nrs.xi*(-u.b * -v.b);grind) (by show -(u.a*v.b+u.b*v.a)=u.a * -v.b + -u.b*v.a;grind)
theorem H1z (u:E2 K):cj (cj u)=u:=E2.ext' rfl (by show - -u.b=u.b;grind)
theorem E7g:cj (1:E2 K)=1:=E2.ext' rfl (by show -(0:K)=0;grind)
variable (h:∀t:K,t*t≠Nrs.xi)
include h
end
end

set_option linter.unusedVariables false
set_option linter.unusedSectionVars false
section

section
variable {F0 F K:Type} [Fld F0] [DecidableEq F0] [Fld F] [DecidableEq F] [Fld K] [DecidableEq K] [Nrs K] {b0:F0} {b:F}
variable (f0:F0->K) (f:F->K)
/-- The line through two points of the first curve, at one of the second one. -/
def lae (l:F0×F0) (a:F×F):E2 K:=⟨f a.2,-(f0 l.1*f a.1+f0 l.2*Nrs.xi)⟩
variable {f0 f}
end
end

set_option linter.unusedVariables false
set_option linter.unusedSectionVars false
section

def nst (n:Nat) (z:Bool):Nat:=if z=true then n+n+1 else n+n
section
variable {F0 F K:Type} [Fld F0] [DecidableEq F0] [Fld F] [DecidableEq F] [Fld K] [DecidableEq K] [Nrs K] {b0:F0} {b:F} {f0:F0->K} {f:F->K}
end
end

set_option linter.unusedVariables false
set_option linter.unusedSectionVars false
section

section
variable {F:Type} [Fld F] [DecidableEq F] {b:F}
variable (sg:F->F) (g:F)
def tu (p:F×F):F×F:=(sg p.1*(g*g),sg p.2*(g*g*g))
/-- Both coordinates turned, each times a power of g. -/
def ptu (P:Pt F):Pt F:=P.map (tu sg g)
variable {sg g}
end

section
variable {F0 F K:Type} [Fld F0] [DecidableEq F0] [Fld F] [DecidableEq F] [Fld K] [DecidableEq K] [Nrs K] {b0:F0} {b:F} {f0:F0->K} {f:F->K}
variable {sg:F->F} {g:F} {fr:E2 K->E2 K}
/-- The power that turns lines. -/
structure Frl (f0:F0->K) (f:F->K) (sg:F->F) (g:F) (fr:E2 K->E2 K):Prop where
 m:∀x y,fr (x*y)=fr x*fr y
 o:fr 1=1
 c:∀x,fr (cj x)=cj (fr x)
 e:∀(x y:F0) (l m:F),Ass (evl f (f0 x*Nrs.xi) (f0 y*Nrs.xi) (some (sg l*g,sg m*(g*g*g)))) (fr (evl f (f0 x*Nrs.xi) (f0 y*Nrs.xi) (some (l,m))))
 l:∀(l:F0×F0) (a:F×F),Ass (lae f0 f l (tu sg g a)) (fr (lae f0 f l a))
end
end

set_option linter.unusedVariables false
set_option linter.unusedSectionVars false
section

section
variable {F:Type} [Fld F]
/-- A line, by its three coordinates. -/
def D2m (a b c:F):E2 (E3 F):=⟨⟨a,b,0⟩,⟨0,c,0⟩⟩
end

section
variable {F:Type} [Fld F] [DecidableEq F] [Nrs F] {b:F}
/-- v, whose square root is joined. -/
@[reducible] def A7h:Nrs (E3 F):=⟨⟨0,1,0⟩⟩
def upE (x:F):E3 F:=⟨x,0,0⟩
end
end

section

section
variable {M:Type} [D4e M]
theorem E0q (x y:M):∀n,mlt (x-y) n=mlt x n-mlt y n
 | 0=>by show (0:M)=0-0;grind
 | n+1=>by
  show mlt (x-y) n+(x-y)=(mlt x n+x)-(mlt y n+y);rw[E0q x y n];grind
variable {r:Nat} {A H:M}
variable {q:Nat} {U:M}
end

section
variable {F:Type} [Fld F] [DecidableEq F] {b:F}
end

end

section

section
variable {F:Type} [Fld F] [DecidableEq F] {b:F}
/-- One row: nothing, once, twice, .. -/
def B4n (z a:F×F×F):Nat->F×F×F
 | 0=>z
 | d+1=>jpl (B4n z a d) a
/-- What each row begins with. -/
def baT (z a:F×F×F):Nat->F×F×F
 | 0=>a
 | i+1=>jpl (B4n z (baT z a i) 15) (baT z a i)
/-- One of each row, added up. -/
def pkT (z a:F×F×F) (v:Nat):Nat->F×F×F
 | 0=>z
 | i+1=>jpl (pkT z a v i) (B4n z (baT z a i) (v / 16 ^ i % 16))

theorem C6d (hc:Cv b) {z a:F×F×F} (hz:z.2.2=0) {P:Pt F} (h:Jc P a):∀d,Jc (G4 P d) (B4n z a d)
 | 0=>hz
 | d+1=>A3p hc.two _ _ _ _ (C6d hc hz h d) h
theorem F0e (hc:Cv b) {z a:F×F×F} (hz:z.2.2=0) {P:Pt F} (hP:OnC b P) (h:Jc P a):∀i,Jc (G4 P (16 ^ i)) (baT z a i)
 | 0=>by
  rw[Nat.pow_zero,D5o];exact h
 | i+1=>by
  have hb:=F0e hc hz hP h i;rw[Nat.pow_succ,A4n hc hP];exact A3p hc.two _ _ _ _ (C6d hc hz hb 15) hb
theorem F0v (hc:Cv b) {z a:F×F×F} (hz:z.2.2=0) {P:Pt F} (hP:OnC b P) (h:Jc P a) (v:Nat):∀i,Jc (G4 P (v % 16 ^ i)) (pkT z a v i)
 | 0=>by
  rw[Nat.pow_zero,Nat.mod_one];exact hz
 | i+1=>by
  rw[Nat.pow_succ,Nat.mod_mul,U8 hc hP,A4n hc hP];exact A3p hc.two _ _ _ _ (F0v hc hz hP h v i) (C6d hc hz (F0e hc hz hP h i) _)
/-- All of them. -/
theorem F7y (hc:Cv b) {z a:F×F×F} (hz:z.2.2=0) {P:Pt F} (hP:OnC b P) (h:Jc P a) {v n:Nat} (hn:n=64) (hv:v<2 ^ 256):Jc (G4 P v) (pkT z a v n):=by
 have:=F0v hc hz hP h v n
 rwa [hn,Nat.mod_eq_of_lt (Nat.lt_of_lt_of_le hv (by decide)),<-hn] at this
end
end

section

/-- What stood at p stands at r now; of the others only these are known. -/
def Y9 (x:Ctx) (keep:List Nat) (p r:Nat):Ctx:={ x with β:=fun q=>if q=r then x.β p else x.β q,k:=fun q=>if q=r then .real else if O1 q keep then x.k q else .no }

section
variable {w0:World} {F0:Nat->Prop} {K:Kp} {aq:List Act} {x:Ctx} {a:Act} {keep:List Nat} {p r:Nat}

theorem E9i (hr:x.k r = .no):Ext (E9 x keep) (Y9 x keep p r):=by
 have hne:∀q,(E9 x keep).k q ≠ .no->q≠r:=fun q hq e=>by
  subst e;apply hq
  simp only[E9,hr];split<;>rfl
 refine ⟨Nat.le_refl _,fun _ h=>⟨h,rfl⟩,fun q hq=>?_,fun q hq=>?_,fun q hq cs ty h=>⟨cs,h,rfl⟩⟩
 ·show (if q=r then Kd.real else if O1 q keep then x.k q else .no)=_
  rw[if_neg (hne q hq)];rfl
 ·show (if q=r then x.β p else x.β q)=x.β q
  rw[if_neg (hne q (by rw[hq];intro h;cases h))]

/-- Slots that tell of the block at its new position, or not of it. -/
def F0w (keep:List Nat) (p r:Nat):List SV->List SV->Prop
 | [],[]=>True
 | s::l,s' :: l' => ((s' = s∧G1t keep s=true)∨∃off,s = .v (.c (.ptr p off))∧s' = .v (.c (.ptr r off)))∧F0w keep p r l l'
 | _,_=>False
theorem G4m {off:Nat} {v:Value} (h:B5 x (.v (.c (.ptr p off))) v):B5 (Y9 x keep p r) (.v (.c (.ptr r off))) v:=by
 obtain ⟨h0,d,hd⟩:=h;refine ⟨h0,d,?_⟩
 cases d<;>(simp only[den] at hd ⊢;exact ⟨by simp [Y9],by rw[hd.2];simp [Y9]⟩)
theorem E0t (hr:x.k r = .no):∀{tl:List Nat} {svs svs' : List SV},F0w keep p r svs svs' -> ∀t v,B5 x (D1 .top tl svs t) v->B5 (Y9 x keep p r) (D1 .top tl svs' t) v
 | [],svs,svs',_,t,v,_=>by
  cases svs'<;>trivial
 | _::_,[],[],_,t,v,_=>trivial
 | _::_,[],_::_,h,_,_,_=>h.elim
 | _::_,_::_,[],h,_,_,_=>h.elim
 | n::tl,s::l,s' :: l',h,t,v,hd=>by
  simp only[D1] at hd ⊢
  by_cases e:t=n
  ·rw[if_pos e] at hd ⊢
   rcases h.1 with ⟨e1,h1⟩ | ⟨off,e1,e2⟩
   ·rw[e1]
    exact A0w (E9i hr) (D8g h1 hd)
   ·subst e1 e2
    exact G4m hd
  ·rw[if_neg e] at hd ⊢
   exact E0t hr h.2 t v hd

theorem B1s:∀{ml:List Nat} {ens:List (Option En)} {q:Nat},D1 none ml ens q≠none->O1 q ml=true
 | [],_,_,h=>by simp [D1] at h
 | _::_,[],_,h=>by simp [D1] at h
 | n::ml,e::ens,q,h=>by
  simp only[D1] at h;simp only[O1];by_cases hq:q=n
  ·rw[if_pos hq.symm]
  ·rw[if_neg hq] at h
   rw[if_neg (Ne.symm hq)];exact B1s h
theorem C8i:∀{ml:List Nat} {ens:List (Option En)},A0r keep ens=true->∀{q:Nat} {l:List It},D1 none ml ens q=some (.fl l)->A8c keep l=true
 | [],_,_,_,_,h=>by simp [D1] at h
 | _::_,[],_,_,_,h=>by simp [D1] at h
 | n::ml,some (.fl s)::ens,h,q,l,hl=>by
  simp only[D1] at hl;simp only[A0r,Bool.and_eq_true] at h;by_cases hq:q=n
  ·rw[if_pos hq] at hl;cases hl;exact h.1
  ·rw[if_neg hq] at hl;exact C8i h.2 hl
 | n::ml,some (.sq s)::ens,h,q,l,hl=>by
  simp only[D1] at hl;simp only[A0r] at h;by_cases hq:q=n
  ·rw[if_pos hq] at hl;cases hl
  ·rw[if_neg hq] at hl;exact C8i h hl
 | _::_,none::_,h,_,_,_=>by cases h
theorem B1n {keep:List Nat}:∀{ml:List Nat},(ml.all fun q=>decide (q=p) || O1 q keep)=true->∀{q:Nat},O1 q ml=true->q≠p->O1 q keep=true
 | [],_,_,h,_=>by cases h
 | n::ml,ha,q,h,hq=>by
  simp only[List.all_cons,Bool.and_eq_true] at ha;simp only[O1] at h;split at h
  ·rename_i e
   subst e;have:=ha.1
   simpa [hq] using this
  ·exact B1n ha.2 h hq

theorem Sim.move {nt nx:Nat} {tl:List Nat} {svs:List SV} {ml:List Nat} {ens:List (Option En)}
  (hs:Sim w0 F0 K aq (A8 nt tl svs ml ens nx [] []) x a) (keep:List Nat) (p r:Nat) (hpin:K.pin=none) (hp:∃l,D1 none ml ens p=some (.fl l)) (hr:D1 none ml ens r=none) (hkp:O1 p keep=false) (hkr:O1 r keep=false) (hkm:(ml.all fun q=>decide (q=p) || O1 q keep)=true)
  (he:A0r keep ens=true) {svs' : List SV} (hc:F0w keep p r svs svs') {ml' : List Nat} {ens' : List (Option En)} (hl:∀q,D1 none ml' ens' q=if q=r then D1 none ml ens p else if q=p then none else D1 none ml ens q) :
  Sim w0 F0 K aq (A8 nt tl svs' ml' ens' nx [] []) (Y9 x keep p r) a:=by
 have hm:=hs.mem;have hno:x.k r = .no:=(hm.dom r).1 hr;obtain ⟨l0,hp⟩:=hp;have hreal:x.k p = .real:=hm.fl p l0 hp;have hpr:p≠r:=fun e=>by rw[e,hr] at hp;cases hp
 have hext:=E9i (keep:=keep) (p:=p) hno;have kr:(Y9 x keep p r).k r = .real:=by simp [Y9]
 have br:(Y9 x keep p r).β r=x.β p:=by simp [Y9]
 have ko:∀q,q≠r->(Y9 x keep p r).k q=if O1 q keep then x.k q else .no:=fun q hq=>by simp [Y9,hq]
 have bo:∀q,q≠r->(Y9 x keep p r).β q=x.β q:=fun q hq=>by simp [Y9,hq]
 have kreal:∀q,q≠r->(Y9 x keep p r).k q = .real->x.k q = .real∧q≠p:=fun q hq h=>by
  rw[ko q hq] at h;split at h
  ·rename_i hk
   exact ⟨h,fun e=>by rw[e,hkp] at hk;cases hk⟩
  ·cases h
 have den_ok:∀q e cs,D1 none ml ens q=some e->C4 x e cs->C4 (Y9 x keep p r) e cs:=fun q e cs hq hd=>by
  refine J6 hext ?_
  cases e with
  | fl l=>exact B1h (C8i he hq) hd
  | sq q=>exact ⟨hd.1,fun i hi=>let ⟨c,hc,hj⟩:=hd.2 i hi;⟨c,T9 (x:=x) (y:=E9 x keep) rfl (fun b hb=>hb) (J5 q i) hc,hj⟩⟩
 refine ⟨hs.defers,hs.nt,fun t=>E0t hno hc t _ (hs.t t),?_,?_,?_⟩
 ·refine ⟨fun q=>?_,fun q l hq=>?_,fun q s hq hn=>?_,fun q e hq hk=>?_,fun q s hq hs e=>?_,fun q hq=>?_,fun b hb=>hm.fw b hb⟩
  ·show D1 none ml' ens' q=none↔_
   rw[hl];by_cases e:q=r
   ·subst e
    rw[if_pos rfl,hp,kr];constructor<;>(intro h;cases h)
   ·rw[if_neg e,ko q e]
    by_cases e2:q=p
    ·subst e2
     rw[if_pos rfl,hkp];exact ⟨fun _=>rfl,fun _=>rfl⟩
    ·rw[if_neg e2]
     by_cases hk:O1 q keep=true
     ·rw[if_pos hk]
      exact hm.dom q
     ·rw[if_neg hk]
      refine ⟨fun _=>rfl,fun _=>?_⟩
      by_cases hn:D1 none ml ens q=none
      ·exact hn
      ·exact absurd (B1n hkm (B1s hn) e2) hk
  ·have hq:D1 none ml' ens' q=some (.fl l):=hq
   rw[hl] at hq;by_cases e:q=r
   ·subst e;exact kr
   ·rw[if_neg e] at hq
    by_cases e2:q=p
    ·rw[if_pos e2] at hq;cases hq
    ·rw[if_neg e2] at hq
     rw[ko q e,if_pos (B1n hkm (B1s (by rw[hq];intro h;cases h)) e2)]
     exact hm.fl q l hq
  ·have hq:D1 none ml' ens' q=some (.sq s):=hq
   rw[hl] at hq;by_cases e:q=r
   ·subst e;rw[kr] at hn;cases hn
   ·rw[if_neg e] at hq
    by_cases e2:q=p
    ·rw[if_pos e2] at hq;cases hq
    ·rw[if_neg e2] at hq
     rw[ko q e,if_pos (B1n hkm (B1s (by rw[hq];intro h;cases h)) e2)] at hn
     exact hm.nil q s hq hn
  ·have hq:D1 none ml' ens' q=some e:=hq
   rw[hl] at hq;by_cases e1:q=r
   ·subst e1
    rw[if_pos rfl] at hq;obtain ⟨cs,ty,h1,h2⟩:=hm.ent p e hq hreal;exact ⟨cs,ty,by rw[br];exact h1,den_ok p e _ hq h2⟩
   ·obtain ⟨g1,g2⟩:=kreal q e1 hk
    rw[if_neg e1,if_neg g2] at hq;obtain ⟨cs,ty,h1,h2⟩:=hm.ent q e hq g1;exact ⟨cs,ty,by rw[bo q e1];exact h1,den_ok q e _ hq h2⟩
  ·by_cases e1:q=r
   ·by_cases e2:s=r
    ·rw[e1,e2]
    ·obtain ⟨g1,g2⟩:=kreal s e2 hs
     rw[e1,br,bo s e2] at e;exact absurd (hm.inj p s hreal g1 e).symm g2
   ·obtain ⟨g1,g2⟩:=kreal q e1 hq
    by_cases e2:s=r
    ·rw[e2,br,bo q e1] at e
     exact absurd (hm.inj q p g1 hreal e) g2
    ·obtain ⟨g3,_⟩:=kreal s e2 hs
     rw[bo q e1,bo s e2] at e;exact hm.inj q s g1 g3 e
  ·by_cases e:q=r
   ·rw[e,br];exact hm.own p hreal
   ·rw[bo q e];exact hm.own q (kreal q e hq).1
 ·have hb:=hs.base
  refine ⟨hb.f0,hb.fn,hb.size,hb.keep,fun q hq hlt=>?_,hb.os,hb.tape,hb.output,fun q hq=>by rw[hpin] at hq;cases hq⟩
  by_cases e:q=r
  ·rw[e,br] at hlt ⊢
   exact hb.ownK p hreal hlt
  ·rw[bo q e] at hlt ⊢
   exact hb.ownK q (kreal q e hq).1 hlt
 ·have hf:Frs x K.ds [] aq:=hs.frs
  cases hf
  exact .nil
end
end

end
end Go.Proofs.YtefimjofjjdndaaGreat
