/- Parts of a proof, one behind the other: Mm, L6, Dg, Jt, Eo, Fz, Cp, Lk, Lr, Ls, Lt, Lv, Ly, Lu, Ct. No conditions. -/
import Derived.Test.YtefimjofjjdndaaGreatPmH
open Go.IntKind (wrap)
namespace Go.Proofs.YtefimjofjjdndaaGreat
noncomputable section
section

theorem wrapU (n:Int):wrap IntKind.u64 n=n % 18446744073709551616:=rfl

/-- A product of limbs and two limbs more. -/
theorem mac {x b t u:Int} (hx:0≤x) (hx1:x<18446744073709551616) (hb:0≤b) (hb1:b<18446744073709551616) (ht:0≤t) (ht1:t<18446744073709551616) (hu:0≤u) (hu1:u<18446744073709551616) :
    x*b+t+u=(exOut 0 (exOut 0 ((x*b) % 18446744073709551616) t 0).1 u 0).1+18446744073709551616*wrap IntKind.u64 (wrap IntKind.u64 ((x*b) / 18446744073709551616+(exOut 0 ((x*b) % 18446744073709551616) t 0).2)+(exOut 0 (exOut 0 ((x*b) % 18446744073709551616) t 0).1 u 0).2) ∧
    (0≤(exOut 0 (exOut 0 ((x*b) % 18446744073709551616) t 0).1 u 0).1∧(exOut 0 (exOut 0 ((x*b) % 18446744073709551616) t 0).1 u 0).1<18446744073709551616) ∧
    (0≤wrap IntKind.u64 (wrap IntKind.u64 ((x*b) / 18446744073709551616+(exOut 0 ((x*b) % 18446744073709551616) t 0).2)+(exOut 0 (exOut 0 ((x*b) % 18446744073709551616) t 0).1 u 0).2) ∧
     wrap IntKind.u64 (wrap IntKind.u64 ((x*b) / 18446744073709551616+(exOut 0 ((x*b) % 18446744073709551616) t 0).2)+(exOut 0 (exOut 0 ((x*b) % 18446744073709551616) t 0).1 u 0).2)<18446744073709551616) ∧
    0≤(exOut 0 ((x*b) % 18446744073709551616) t 0).1∧(exOut 0 ((x*b) % 18446744073709551616) t 0).1<18446744073709551616:=by
  have hp:=prod_bound hx hx1 hb hb1
  generalize x*b=p at *
  obtain ⟨e1,a1,a1',c1,c1'⟩:=add_step (x:=p % 18446744073709551616) (y:=t) (c:=0) (by omega) (by omega) ht ht1 (by decide) (by decide)
  generalize exOut 0 (p % 18446744073709551616) t 0=o1 at *
  obtain ⟨e2,a2,a2',c2,c2'⟩:=add_step (x:=o1.1) (y:=u) (c:=0) a1 a1' hu hu1 (by decide) (by decide)
  generalize exOut 0 o1.1 u 0=o2 at *
  rw[wrapU,wrapU]
  refine ⟨?_,⟨a2,a2'⟩,⟨?_,?_⟩,a1,a1'⟩<;>omega

/-- A product of limbs and one limb more. -/
theorem mac1 {x b t:Int} (hx:0≤x) (hx1:x<18446744073709551616) (hb:0≤b) (hb1:b<18446744073709551616) (ht:0≤t) (ht1:t<18446744073709551616) :
  x*b+t=(exOut 0 ((x*b) % 18446744073709551616) t 0).1+18446744073709551616*wrap IntKind.u64 ((x*b) / 18446744073709551616+(exOut 0 ((x*b) % 18446744073709551616) t 0).2) ∧
  (0≤(exOut 0 ((x*b) % 18446744073709551616) t 0).1∧(exOut 0 ((x*b) % 18446744073709551616) t 0).1<18446744073709551616) ∧
  0≤wrap IntKind.u64 ((x*b) / 18446744073709551616+(exOut 0 ((x*b) % 18446744073709551616) t 0).2)∧wrap IntKind.u64 ((x*b) / 18446744073709551616+(exOut 0 ((x*b) % 18446744073709551616) t 0).2)<18446744073709551616:=by
 have hp:=prod_bound hx hx1 hb hb1
 generalize x*b=p at *
 obtain ⟨e1,a1,a1',c1,c1'⟩:=add_step (x:=p % 18446744073709551616) (y:=t) (c:=0) (by omega) (by omega) ht ht1 (by decide) (by decide)
 generalize exOut 0 (p % 18446744073709551616) t 0=o1 at *
 rw[wrapU]
 refine ⟨?_,⟨a1,a1'⟩,?_,?_⟩<;>omega

/-- The lowest limb goes out: with the prime r. -/
theorem negR_low {l q:Int} (hq:q=wrap IntKind.u64 (l*18446744069414584319)):(q*18446744069414584321+l) % 18446744073709551616=0:=by
 rw[wrapU] at hq
 omega

theorem pow4' : (2 ^ (64*4):Nat)=B4:=by kernel_rfl

theorem mod_next (X i:Nat):X % 2 ^ (64*(i+1))=X % 2 ^ (64*i)+2 ^ (64*i)*(X / 2 ^ (64*i) % 18446744073709551616):=by
 have h:(2:Nat) ^ (64*(i+1))=2 ^ (64*i)*18446744073709551616:=by
  rw[Nat.mul_add,Nat.pow_add]
 rw[h,Nat.mod_mul]

theorem mont_abs {r B v x y T Q:Nat} (e:v*B % r=1 % r) (h:T*B=(x*B % r)*(y*B % r)+Q*r):T*v % r=x*y % r:=by
  have h1:T*B % r=(x*B)*(y*B) % r:=by
    rw[h,Nat.add_mul_mod_self_right,←Nat.mul_mod]
  have h2:∀a:Nat,a*(v*B) % r=a % r:=fun a=>by rw[←Nat.mul_mod_mod,e,Nat.mul_mod_mod,Nat.mul_one]
  calc T*v % r=(T*v)*(v*B) % r:=(h2 _).symm
    _=(T*B)*(v*v) % r:=by congr 1;simp only[Nat.mul_comm,Nat.mul_left_comm]
    _=(T*B % r)*(v*v) % r:=by rw[Nat.mod_mul_mod]
    _=((x*B)*(y*B) % r)*(v*v) % r:=by rw[h1]
    _=((x*B)*(y*B))*(v*v) % r:=by rw[Nat.mod_mul_mod]
    _=(x*y*(v*B))*(v*B) % r:=by congr 1;simp only[Nat.mul_comm,Nat.mul_left_comm]
    _=x*y % r:=by rw[h2,h2]

theorem rinv_B4:rinv*B4 % rN=1 % rN:=by kernel_rfl

/-- What is left when a product has gone through all limbs. -/
theorem mont_out {x y:Fr} {T Q:Nat} (h:T*B4=(Ob.s x).n*(Ob.s y).n+Q*rN):redS T=x*y:=
 Fin.ext (mont_abs rinv_B4 h)

end

section

def num6 (a b c d e f:Int):Int:=a+18446744073709551616*b+340282366920938463463374607431768211456*c+6277101735386680763835789423207666416102355444464034512896*d+115792089237316195423570985008687907853269984665640564039457584007913129639936*e+2135987035920910082395021706169552114602704522356652769947041607822219725780640550022962086936576*f

/-- The limbs of a number below 2 to the power of 384. -/
theorem limbsAre6 {n:Nat} {a b c d e f:Int} (ha:0≤a) (ha1:a<18446744073709551616) (hb:0≤b) (hb1:b<18446744073709551616) (hc:0≤c) (hc1:c<18446744073709551616) (hd:0≤d) (hd1:d<18446744073709551616) (he:0≤e) (he1:e<18446744073709551616) (hf:0≤f) (hf1:f<18446744073709551616)
  (e1:(n:Int)=num6 a b c d e f):limb n 0=a∧limb n 1=b∧limb n 2=c∧limb n 3=d∧limb n 4=e∧limb n 5=f:=by
 unfold num6 at e1
 have k0:limb n 0=((n / 1 % 18446744073709551616:Nat):Int):=rfl
 have k1:limb n 1=((n / 18446744073709551616 % 18446744073709551616:Nat):Int):=rfl
 have k2:limb n 2=((n / 340282366920938463463374607431768211456 % 18446744073709551616:Nat):Int):=rfl
 have k3:limb n 3=((n / 6277101735386680763835789423207666416102355444464034512896 % 18446744073709551616:Nat):Int):=rfl
 have k4:limb n 4=((n / 115792089237316195423570985008687907853269984665640564039457584007913129639936 % 18446744073709551616:Nat):Int):=rfl
 have k5:limb n 5=((n / 2135987035920910082395021706169552114602704522356652769947041607822219725780640550022962086936576 % 18446744073709551616:Nat):Int):=by kernel_rfl
 rw[k0,k1,k2,k3,k4,k5]
 omega

/-- A number is its limbs. -/
theorem limbsOf6 (n:Nat) (h:n<B6):(n:Int)=num6 (limb n 0) (limb n 1) (limb n 2) (limb n 3) (limb n 4) (limb n 5) ∧
  0≤limb n 0∧limb n 0<18446744073709551616∧0≤limb n 1∧limb n 1<18446744073709551616∧0≤limb n 2∧limb n 2<18446744073709551616∧0≤limb n 3∧limb n 3<18446744073709551616∧0≤limb n 4∧limb n 4<18446744073709551616∧0≤limb n 5∧limb n 5<18446744073709551616:=by
 unfold num6
 have k0:limb n 0=((n / 1 % 18446744073709551616:Nat):Int):=rfl
 have k1:limb n 1=((n / 18446744073709551616 % 18446744073709551616:Nat):Int):=rfl
 have k2:limb n 2=((n / 340282366920938463463374607431768211456 % 18446744073709551616:Nat):Int):=rfl
 have k3:limb n 3=((n / 6277101735386680763835789423207666416102355444464034512896 % 18446744073709551616:Nat):Int):=rfl
 have k4:limb n 4=((n / 115792089237316195423570985008687907853269984665640564039457584007913129639936 % 18446744073709551616:Nat):Int):=rfl
 have k5:limb n 5=((n / 2135987035920910082395021706169552114602704522356652769947041607822219725780640550022962086936576 % 18446744073709551616:Nat):Int):=by kernel_rfl
 unfold B6 at h
 rw[k0,k1,k2,k3,k4,k5]
 omega

/-- Six limbs in a row are a number. -/
theorem ints_ob6 {x:Ctx} {o:Ob} (hk:o.k=6) {a b c d e f:Int} (h:limb o.n 0=a∧limb o.n 1=b∧limb o.n 2=c∧limb o.n 3=d∧limb o.n 4=e∧limb o.n 5=f) {v:Value}
  (hd:denS x (.v (.a [.int .u64 a,.int .u64 b,.int .u64 c,.int .u64 d,.int .u64 e,.int .u64 f])) v):denS x (.v (.a [.ob o])) v:=by
 obtain ⟨cs,ev,hc⟩:=hd
 refine ⟨cs,ev,cs,[],(List.append_nil cs).symm,⟨0,?_⟩,rfl⟩
 obtain ⟨c1,r1,e1,⟨d1,h1⟩,c2,r2,e2,⟨d2,h2⟩,c3,r3,e3,⟨d3,h3⟩,c4,r4,e4,⟨d4,h4⟩,c5,r5,e5,⟨d5,h5⟩,c6,r6,e6,⟨d6,h6⟩,h7⟩:=hc
 have h1:c1=[.int .u64 a]:=by cases d1<;>exact h1
 have h2:c2=[.int .u64 b]:=by cases d2<;>exact h2
 have h3:c3=[.int .u64 c]:=by cases d3<;>exact h3
 have h4:c4=[.int .u64 d]:=by cases d4<;>exact h4
 have h5:c5=[.int .u64 e]:=by cases d5<;>exact h5
 have h6:c6=[.int .u64 f]:=by cases d6<;>exact h6
 have h7:r6=[]:=h7
 show cs=o.cells
 subst h1 h2 h3 h4 h5 h6 h7 e6 e5 e4 e3 e2 e1
 unfold Ob.cells
 rw[hk]
 show _=[Value.int .u64 (limb o.n 0),Value.int .u64 (limb o.n 1),Value.int .u64 (limb o.n 2),Value.int .u64 (limb o.n 3),Value.int .u64 (limb o.n 4),Value.int .u64 (limb o.n 5)]
 rw[h.1,h.2.1,h.2.2.1,h.2.2.2.1,h.2.2.2.2.1,h.2.2.2.2.2]
 rfl

theorem cat_ob6 {x:Ctx} {o:Ob} (hk:o.k=6) {a b c d e f:Int} (h:limb o.n 0=a∧limb o.n 1=b∧limb o.n 2=c∧limb o.n 3=d∧limb o.n 4=e∧limb o.n 5=f) {cs:List Value}
  (hc:catL x.D [.int .u64 a,.int .u64 b,.int .u64 c,.int .u64 d,.int .u64 e,.int .u64 f] cs):catL x.D [.ob o] cs:=by
 obtain ⟨cs',ev,h'⟩:=ints_ob6 hk h (v:=.agg cs.toArray) ⟨cs,rfl,hc⟩
 have ev:cs=cs' := by simpa using ev
 rw[ev]
 exact h'

theorem ob_ints6 {x:Ctx} {o:Ob} (hk:o.k=6) {cs:List Value} (h:catL x.D [.ob o] cs):catL x.D [.int .u64 (limb o.n 0),.int .u64 (limb o.n 1),.int .u64 (limb o.n 2),.int .u64 (limb o.n 3),.int .u64 (limb o.n 4),.int .u64 (limb o.n 5)] cs:=by
 obtain ⟨c1,c2,e,⟨d,h1⟩,h2⟩:=h
 have h1:c1=o.cells:=by cases d<;>exact h1
 have h2:c2=[]:=h2
 subst h2 h1 e
 rw[List.append_nil]
 unfold Ob.cells
 rw[hk]
 exact ⟨[_],_,rfl,⟨0,rfl⟩,[_],_,rfl,⟨0,rfl⟩,[_],_,rfl,⟨0,rfl⟩,[_],_,rfl,⟨0,rfl⟩,[_],_,rfl,⟨0,rfl⟩,[_],_,rfl,⟨0,rfl⟩,rfl⟩

/-- What a row of limbs is, taken out of the form in which products are reckoned. -/
def pnv:Nat:=3231460744492646417066832100176244795738767926513225105051837195607029917124509527734802654356338138714468589979680
def redQ (n:Nat):Fp:=Fin.ofNat pN (n*pnv)
theorem pnv_B6:pnv*B6 % pN=1 % pN:=by kernel_rfl

theorem redQ_n (n:Nat):(Ob.p (redQ n)).n=n % pN:=by
 show (n*pnv % pN)*B6 % pN=n % pN
 rw[Nat.mod_mul_mod,Nat.mul_assoc]
 have e:pnv*B6 % pN=1:=by decide +kernel
 rw[←Nat.mul_mod_mod,e,Nat.mul_one]

/-- The lowest limb goes out: with the prime p. -/
theorem negP_low {l q:Int} (hq:q=wrap IntKind.u64 (l*9940570264628428797)):(q*13402431016077863595+l) % 18446744073709551616=0:=by
 rw[wrapU] at hq
 omega

theorem pow6' : (2 ^ (64*6):Nat)=B6:=by kernel_rfl
theorem pow6_gt:pN<2 ^ (64*6):=by rw[pow6'];decide

/-- What is left when a product has gone through all limbs. -/
theorem mont_out6 {x y:Fp} {T Q:Nat} (h:T*B6=(Ob.p x).n*(Ob.p y).n+Q*pN):redQ T=x*y:=
 Fin.ext (mont_abs pnv_B6 h)

theorem p_lt (x:Fp):(Ob.p x).n<pN:=Nat.mod_lt _ (by decide)
theorem num6_mul (z a b c d e f:Int):z*num6 a b c d e f=(z*a)+18446744073709551616*(z*b)+340282366920938463463374607431768211456*(z*c)+6277101735386680763835789423207666416102355444464034512896*(z*d)+115792089237316195423570985008687907853269984665640564039457584007913129639936*(z*e)+2135987035920910082395021706169552114602704522356652769947041607822219725780640550022962086936576*(z*f):=by
 unfold num6
 simp only[Int.mul_add,Int.mul_left_comm z]

/-- The product's lowest limb taken out, round by round. -/
theorem round_eq6 {A Y r i Q:Nat} {T T' q:Int} (hq:0≤q) (h:T*((2 ^ (64*i):Nat):Int)=((A % 2 ^ (64*i):Nat):Int)*(Y:Int)+(Q:Int)*(r:Int))
  (h' : 18446744073709551616*T' = T+limb A i*(Y:Int)+q*(r:Int)) :
  ∃Q:Nat,T' * ((2 ^ (64*(i+1)):Nat):Int)=((A % 2 ^ (64*(i+1)):Nat):Int)*(Y:Int)+(Q:Int)*(r:Int):=by
 obtain ⟨q,rfl⟩:=Int.eq_ofNat_of_zero_le hq
 refine ⟨Q+q*2 ^ (64*i),?_⟩
 rw[mod_next]
 have hp:(2:Nat) ^ (64*(i+1))=2 ^ (64*i)*18446744073709551616:=by rw[Nat.mul_add,Nat.pow_add]
 rw[hp]
 have hl:limb A i=((A / 2 ^ (64*i) % 18446744073709551616:Nat):Int):=rfl
 rw[hl] at h'
 generalize A / 2 ^ (64*i) % 18446744073709551616=xi at *
 generalize A % 2 ^ (64*i)=X at *
 generalize 2 ^ (64*i)=m at *
 have e1:T' * ((m*18446744073709551616:Nat):Int)=(18446744073709551616*T')*(m:Int):=by
  rw[Int.natCast_mul,Int.mul_comm (m:Int),←Int.mul_assoc,Int.mul_comm T'];rfl
 rw[e1,h',Int.add_mul,Int.add_mul,h]
 push_cast
 simp only[Int.add_mul,Int.mul_assoc]
 have e2:(xi:Int)*((Y:Int)*(m:Int))=(m:Int)*((xi:Int)*(Y:Int)):=by rw[←Int.mul_assoc,Int.mul_comm]
 have e3:(q:Int)*((r:Int)*(m:Int))=(q:Int)*((m:Int)*(r:Int)):=by rw[Int.mul_comm (r:Int)]
 rw[e2,e3]
 omega

def Lim6 (a:Int):Prop:=0≤a∧a<18446744073709551616
theorem num6_nat {a b c d e f:Int} (ha:Lim6 a) (hb:Lim6 b) (hc:Lim6 c) (hd:Lim6 d) (he:Lim6 e) (hf:Lim6 f):∃n:Nat,n<B6∧num6 a b c d e f=(n:Int)∧limb n 0=a∧limb n 1=b∧limb n 2=c∧limb n 3=d∧limb n 4=e∧limb n 5=f:=by
 obtain ⟨ha,ha1⟩:=ha
 obtain ⟨hb,hb1⟩:=hb
 obtain ⟨hc,hc1⟩:=hc
 obtain ⟨hd,hd1⟩:=hd
 obtain ⟨he,he1⟩:=he
 obtain ⟨hf,hf1⟩:=hf
 have h0:0≤num6 a b c d e f:=by unfold num6;omega
 obtain ⟨n,hn⟩:=Int.eq_ofNat_of_zero_le h0
 refine ⟨n,?_,hn,limbsAre6 ha ha1 hb hb1 hc hc1 hd hd1 he he1 hf hf1 (by rw[←hn])⟩
 unfold num6 at hn
 unfold B6
 omega

def redV (n:Nat):U6:=Fin.ofNat B6 (n % pN)
theorem redV_val (n:Nat):(redV n).val=n % pN:=Nat.mod_eq_of_lt (Nat.lt_trans (Nat.mod_lt _ (by decide)) (by decide))
theorem redV_congr {a b:Nat} (h:a % pN=b % pN):redV a=redV b:=by unfold redV;rw[h]

end

section

/-- The digits that t steps have handed on. -/
def dgT (n:Nat):Nat→List Nat
 | 0=>[]
 | t+1=>if (dgT n t).isEmpty=true∧n / 16 ^ (63-t) % 16=0 then [] else dgT n t++[n / 16 ^ (63-t) % 16]

theorem dgT_stay {n t:Nat} (h1:(dgT n t).isEmpty=true) (h2:n / 16 ^ (63-t) % 16=0):dgT n (t+1)=[]:=if_pos ⟨h1,h2⟩
theorem dgT_go {n t:Nat} (h:¬((dgT n t).isEmpty=true∧n / 16 ^ (63-t) % 16=0)):dgT n (t+1)=dgT n t++[n / 16 ^ (63-t) % 16]:=if_neg h

theorem dgT_pre (n:Nat) {t:Nat}:∀{m:Nat},t≤m→∃r,dgT n m=dgT n t++r
 | 0,h=>⟨[],by rw[Nat.le_zero.1 h];rfl⟩
 | m+1,h=>by
  by_cases e:t=m+1
  ·exact ⟨[],by rw[e,List.append_nil]⟩
  ·obtain ⟨r,hr⟩:=dgT_pre n (m:=m) (t:=t) (by omega)
   by_cases hc:(dgT n m).isEmpty=true∧n / 16 ^ (63-m) % 16=0
   ·rw[dgT_stay hc.1 hc.2]
    have h1:dgT n m=[]:=List.isEmpty_iff.1 hc.1
    rw[h1] at hr
    obtain ⟨h2,h3⟩:=List.append_eq_nil_iff.1 hr.symm
    exact ⟨[],by rw[h2];rfl⟩
   ·exact ⟨r++[n / 16 ^ (63-m) % 16],by rw[dgT_go hc,hr,List.append_assoc]⟩

def dgV (l:List Nat):Nat:=l.foldl (fun v d=>16*v+d) 0
theorem dgV_snoc (l:List Nat) (d:Nat):dgV (l++[d])=16*dgV l+d:=by simp [dgV]
theorem dg_half (n s:Nat):n / 16 ^ s=16*(n / 16 ^ (s+1))+n / 16 ^ s % 16:=by
 rw[Nat.pow_succ,←Nat.div_div_eq_div_mul]
 omega
theorem dgV_T {n:Nat} (h:n<16 ^ 64):∀t,t≤64→dgV (dgT n t)=n / 16 ^ (64-t)
 | 0,_=>(Nat.div_eq_of_lt h).symm
 | t+1,ht=>by
  have ih:=dgV_T h t (by omega)
  have e1:64-t=(63-t)+1:=by omega
  have e2:64-(t+1)=63-t:=by omega
  rw[e1] at ih
  rw[e2,dg_half n (63-t),←ih]
  by_cases hc:(dgT n t).isEmpty=true∧n / 16 ^ (63-t) % 16=0
  ·rw[dgT_stay hc.1 hc.2,hc.2,List.isEmpty_iff.1 hc.1]
   rfl
  ·rw[dgT_go hc,dgV_snoc]
theorem dgT_lt {n:Nat}:∀t d,d∈dgT n t→d<16
 | 0,d,h=>by cases h
 | t+1,d,h=>by
  by_cases hc:(dgT n t).isEmpty=true∧n / 16 ^ (63-t) % 16=0
  ·rw[dgT_stay hc.1 hc.2] at h;cases h
  ·rw[dgT_go hc,List.mem_append] at h
   rcases h with h | h
   ·exact dgT_lt t d h
   ·rw[List.mem_singleton] at h
    rw[h]
    exact Nat.mod_lt _ (by decide)

theorem dig_nat (n i:Nat):n / 2 ^ (64*(i / 16)) % 18446744073709551616 / 2 ^ (4*(i % 16)) % 16=n / 16 ^ i % 16:=by
 have h64:18446744073709551616=2 ^ (4*(i % 16))*(16*2 ^ (60-4*(i % 16))):=by
  rw[show (16:Nat)=2 ^ 4 from rfl,←Nat.pow_add,←Nat.pow_add,show 4*(i % 2 ^ 4)+(4+(60-4*(i % 2 ^ 4)))=64 from by omega]
 rw[h64,Nat.mod_mul_right_div_self,Nat.mod_mul_right_mod,Nat.div_div_eq_div_mul,←Nat.pow_add,show 64*(i / 16)+4*(i % 16)=4*i from by omega,Nat.pow_mul]

theorem and15 {m:Nat}:bitsOp BinOp.and IntKind.u64 (m:Int) (15:Int)=((m % 16:Nat):Int):=by
 show wrap IntKind.u64 ((BitVec.ofInt 64 (m:Int) &&& BitVec.ofInt 64 ((15:Nat):Int)).toNat:Int)=_
 rw[BitVec.ofInt_natCast,BitVec.ofInt_natCast,BitVec.toNat_and,BitVec.toNat_ofNat,BitVec.toNat_ofNat]
 have e:15 % 2 ^ 64=2 ^ 4-1:=by decide
 rw[e,Nat.and_two_pow_sub_one_eq_mod]
 show (((m % 2 ^ 64 % 2 ^ 4:Nat):Int)) % 18446744073709551616=_
 omega

/-- A digit, as it is reckoned. -/
theorem dig_expr (k:U4) {i:Nat} (hi:i<64):wrap IntKind.i64 (bitsOp BinOp.and IntKind.u64 (Int.fdiv (limb (Ob.n (Ob.fr k)) (0+(((wrap IntKind.i64 (Int.tdiv (i:Int) (16:Int)))).toNat*1))) ((2:Int) ^ (Min.min ((wrap IntKind.i64 ((4:Int)*(Int.tmod (i:Int) (16:Int))))).toNat 64))) (15:Int))=((k.val / 16 ^ i % 16:Nat):Int):=by
 have e1:Int.tdiv (i:Int) (16:Int)=((i / 16:Nat):Int):=Int.tdiv_eq_ediv_of_nonneg (by omega)
 have e2:Int.tmod (i:Int) (16:Int)=((i % 16:Nat):Int):=Int.tmod_eq_emod_of_nonneg (by omega)
 rw[e1,e2,wrap_id (n:=((i / 16:Nat):Int)) (by omega) (by omega),wrap_id (n:=(4:Int)*((i % 16:Nat):Int)) (by omega) (by omega),Int.toNat_natCast]
 have e3:Min.min ((4:Int)*((i % 16:Nat):Int)).toNat 64=4*(i % 16):=by omega
 have e4:0+i / 16*1=i / 16:=by omega
 rw[e3,e4]
 have hl:limb (Ob.n (Ob.fr k)) (i / 16)=((k.val / 2 ^ (64*(i / 16)) % 18446744073709551616:Nat):Int):=rfl
 rw[hl,←dig_nat k.val i]
 generalize k.val / 2 ^ (64*(i / 16)) % 18446744073709551616=m
 have hp:((2:Int) ^ (4*(i % 16)))=((2 ^ (4*(i % 16)):Nat):Int):=by simp
 rw[hp,Int.fdiv_eq_ediv_of_nonneg _ (Int.natCast_nonneg _),←Int.natCast_ediv,and15]
 exact wrap_id (by omega) (by omega)

theorem dig_place {i:Nat} (hi:i<64):wrap IntKind.i64 (Int.tdiv (i:Int) (16:Int))=((i / 16:Nat):Int):=by
 have e1:Int.tdiv (i:Int) (16:Int)=((i / 16:Nat):Int):=Int.tdiv_eq_ediv_of_nonneg (by omega)
 rw[e1]
 exact wrap_id (by omega) (by omega)
theorem dig_shift (i:Nat):(0:Int)≤wrap IntKind.i64 ((4:Int)*(Int.tmod (i:Int) (16:Int))):=by
 have e2:Int.tmod (i:Int) (16:Int)=((i % 16:Nat):Int):=Int.tmod_eq_emod_of_nonneg (by omega)
 rw[e2,wrap_id (by omega) (by omega)]
 omega

/-! A block told in other words. -/
def convE (x:Ctx):List (Option En)→List (Option En)→Prop
 | [],[]=>True
 | e::l,e' :: l' => (e=e' ∨ ∃f f' r,e=some (.fl r)∧e=some f∧e' = some f' ∧ ∀cs,denEn x f cs→denEn x f' cs)∧convE x l l'
 | _,_=>False

theorem convE_look {x:Ctx}:∀{ml:List Nat} {ens ens' : List (Option En)},convE x ens ens' → ∀p,look none ml ens p=look none ml ens' p∨∃f f' r,look none ml ens p=some (.fl r)∧look none ml ens p=some f∧look none ml ens' p=some f' ∧ ∀cs,denEn x f cs→denEn x f' cs
 | [],_,_,_,_=>.inl rfl
 | _::_,[],[],_,_=>.inl rfl
 | _::_,[],_::_,h,_=>h.elim
 | _::_,_::_,[],h,_=>h.elim
 | t::tl,e::l,e' :: l',h,p=>by
  simp only[look]
  by_cases hp:p=t
  ·simp only[hp,if_true];exact h.1
  ·simp only[hp,if_false];exact convE_look h.2 p

theorem Sim.blocks {w0:World} {F0:Nat→Prop} {K:Kp} {as:List Act} {nt nx:Nat} {tl:List Nat} {svs:List SV} {ml:List Nat} {ens ens' : List (Option En)} {ftl:List (List Nat)} {fsv:List (List SV×Nat)} {x:Ctx} {a:Act}
  (hs:Sim w0 F0 K as (mkSt nt tl svs ml ens nx ftl fsv) x a) (h:convE x ens ens'):Sim w0 F0 K as (mkSt nt tl svs ml ens' nx ftl fsv) x a:=by
 have hm:=hs.mem
 refine ⟨hs.defers,hs.nt,hs.t,?_,hs.base,hs.frs⟩
 have key:=convE_look (ml:=ml) h
 refine ⟨fun p=>?_,fun p l hp=>?_,fun p q hp hn=>?_,fun p e hp hr=>?_,hm.inj,hm.own,hm.fw⟩
 ·rw[←hm.dom p]
  show look none ml ens' p=none↔look none ml ens p=none
  rcases key p with e | ⟨f,f',r,e1,e2,e3,_⟩
  ·rw[e]
  ·rw[e2,e3]
   constructor<;>(intro h;cases h)
 ·have hp:look none ml ens' p=some (.fl l):=hp
  rcases key p with e | ⟨f,f',r,e1,e2,e3,_⟩
  ·rw[←e] at hp;exact hm.fl p l hp
  ·exact hm.fl p r e1
 ·have hp:look none ml ens' p=some (.sq q):=hp
  rcases key p with e | ⟨f,f',r,e1,e2,e3,_⟩
  ·rw[←e] at hp;exact hm.nil p q hp hn
  ·have:=hm.fl p r e1
   rw[this] at hn;cases hn
 ·have hp:look none ml ens' p=some e:=hp
  rcases key p with e0 | ⟨f,f',r,e1,e2,e3,hc⟩
  ·rw[←e0] at hp;exact hm.ent p e hp hr
  ·rw[e3] at hp
   cases hp
   obtain ⟨cs,ty,h1,h2⟩:=hm.ent p f e2 hr
   exact ⟨cs,ty,h1,hc _ h2⟩

end

section

section
variable {F:Type} [Add F] [Sub F] [Mul F] [OfNat F 0] [DecidableEq F]
/-- The table: the point 0, 1, 2 .. times. -/
def jtab (a:F×F×F):Nat→F×F×F
 | 0=>(a.1,a.2.1,0)
 | n+1=>jpl (jtab a n) a
def jst (a o:F×F×F) (d:Nat):F×F×F:=jpl (jtw (jtw (jtw (jtw o)))) (jtab a d)
def jmn (a:F×F×F) (l:List Nat):F×F×F:=l.foldl (jst a) (jtab a 0)
def jtws:Nat→F×F×F→F×F×F
 | 0,o=>o
 | n+1,o=>jtw (jtws n o)
end

theorem jst_tws {F:Type} [Add F] [Sub F] [Mul F] [OfNat F 0] [DecidableEq F] (a o:F×F×F) (d:Nat):jst a o d=jpl (jtws 4 o) (jtab a d):=rfl
theorem jtws_succ {F:Type} [Add F] [Sub F] [Mul F] [OfNat F 0] [DecidableEq F] (n:Nat) (o:F×F×F):jtws (n+1) o=jtw (jtws n o):=rfl
section
variable {F:Type} [Fld F] [DecidableEq F] {b:F}

/-- A point as often as a number says. -/
def nmul (P:Pt F):Nat→Pt F
 | 0=>none
 | n+1=>gadd (nmul P n) P

theorem nmul_on (hc:Cv b) {P:Pt F} (h:OnC b P):∀n,OnC b (nmul P n)
 | 0=>True.intro
 | n+1=>gadd_on hc _ _ (nmul_on hc h n) h

theorem nmul_add (hc:Cv b) {P:Pt F} (h:OnC b P) (m:Nat):∀n,nmul P (m+n)=gadd (nmul P m) (nmul P n)
 | 0=>(gadd_none _).symm
 | n+1=>by
  show gadd (nmul P (m+n)) P=gadd (nmul P m) (gadd (nmul P n) P)
  rw[nmul_add hc h m n,gadd_assoc hc _ _ _ (nmul_on hc h m) (nmul_on hc h n) h]

theorem nmul_none:∀n,nmul (none:Pt F) n=none
 | 0=>rfl
 | n+1=>by
  show gadd (nmul none n) none=none
  rw[nmul_none n]
  rfl

theorem nmul_mul (hc:Cv b) {P:Pt F} (h:OnC b P) (m:Nat):∀n,nmul P (m*n)=nmul (nmul P m) n
 | 0=>rfl
 | n+1=>by
  rw[Nat.mul_succ,nmul_add hc h,nmul_mul hc h m n]
  rfl

theorem gadd_four (hc:Cv b) {P Q R S:Pt F} (hP:OnC b P) (hQ:OnC b Q) (hR:OnC b R) (hS:OnC b S):gadd (gadd P Q) (gadd R S)=gadd (gadd P R) (gadd Q S):=by
 rw[gadd_assoc hc _ _ _ hP hQ (gadd_on hc _ _ hR hS),←gadd_assoc hc _ _ _ hQ hR hS,gadd_comm hc Q R hQ hR,gadd_assoc hc _ _ _ hR hQ hS,←gadd_assoc hc _ _ _ hP hR (gadd_on hc _ _ hQ hS)]

theorem nmul_gadd (hc:Cv b) {P Q:Pt F} (hP:OnC b P) (hQ:OnC b Q):∀n,nmul (gadd P Q) n=gadd (nmul P n) (nmul Q n)
 | 0=>rfl
 | n+1=>by
  show gadd (nmul (gadd P Q) n) (gadd P Q)=gadd (gadd (nmul P n) P) (gadd (nmul Q n) Q)
  rw[nmul_gadd hc hP hQ n,gadd_four hc (nmul_on hc hP n) (nmul_on hc hQ n) hP hQ]

/-- What adds up to that at infinity is less the other. -/
theorem gneg_uniq (hc:Cv b) {P Q:Pt F} (hP:OnC b P) (hQ:OnC b Q) (h:gadd P Q=none):Q=gneg P:=by
 have e1:gadd (gneg P) (gadd P Q)=gneg P:=by rw[h,gadd_none]
 rw[←gadd_assoc hc _ _ _ (gneg_on P hP) hP hQ,gadd_comm hc _ _ (gneg_on P hP) hP,gadd_gneg hc P hP] at e1
 exact e1

theorem nmul_gneg (hc:Cv b) {P:Pt F} (hP:OnC b P) (n:Nat):nmul (gneg P) n=gneg (nmul P n):=by
 apply gneg_uniq hc (nmul_on hc hP n) (nmul_on hc (gneg_on P hP) n)
 rw[←nmul_gadd hc hP (gneg_on P hP),gadd_gneg hc P hP,nmul_none]

theorem jtab_ok (two:(1:F)+1≠0) {P:Pt F} {a:F×F×F} (h:Jc P a):∀n,Jc (nmul P n) (jtab a n)
 | 0=>rfl
 | n+1=>jpl_ok two _ _ _ _ (jtab_ok two h n) h

theorem jst_ok (hc:Cv b) {P:Pt F} {a:F×F×F} (hP:OnC b P) (h:Jc P a) {m:Nat} {o:F×F×F} (ho:Jc (nmul P m) o) (d:Nat):Jc (nmul P (16*m+d)) (jst a o d):=by
 have h1:=jtw_ok hc.two _ _ ho
 rw[←nmul_add hc hP] at h1
 have h2:=jtw_ok hc.two _ _ h1
 rw[←nmul_add hc hP] at h2
 have h3:=jtw_ok hc.two _ _ h2
 rw[←nmul_add hc hP] at h3
 have h4:=jtw_ok hc.two _ _ h3
 rw[←nmul_add hc hP] at h4
 have h5:=jpl_ok hc.two _ _ _ _ h4 (jtab_ok hc.two h d)
 rw[←nmul_add hc hP] at h5
 rw[show 16*m+d=m+m+(m+m)+(m+m+(m+m))+(m+m+(m+m)+(m+m+(m+m)))+d from by omega]
 exact h5

theorem jmn_fold (hc:Cv b) {P:Pt F} {a:F×F×F} (hP:OnC b P) (h:Jc P a):∀(l:List Nat) (m:Nat) (o:F×F×F),Jc (nmul P m) o→Jc (nmul P (l.foldl (fun v d=>16*v+d) m)) (l.foldl (jst a) o)
 | [],_,_,ho=>ho
 | d::l,m,o,ho=>jmn_fold hc hP h l (16*m+d) (jst a o d) (jst_ok hc hP h ho d)

theorem jmn_ok (hc:Cv b) {P:Pt F} {a:F×F×F} (hP:OnC b P) (h:Jc P a) (l:List Nat):Jc (nmul P (dgV l)) (jmn a l):=jmn_fold hc hP h l 0 (jtab a 0) (rfl:(0:F)=0)
end

theorem dgV_all {n t:Nat} (ht:t=64) (h:n<16 ^ 64):dgV (dgT n t)=n:=by
 have e:=dgV_T h t (by omega)
 rw[show 64-t=0 from by omega,Nat.pow_zero,Nat.div_one] at e
 exact e
theorem b4_lt (k:U4):k.val<16 ^ 64:=by
 have h:B4=16 ^ 64:=by decide +kernel
 rw[←h]
 exact k.isLt

theorem dgV_is (k:U4):dgV (dgT k.val 64)=k.val:=dgV_all (Eq.refl 64) (b4_lt k)

end

section

/-- The contracts of both: where the first one has none, the second one's. -/
def Env.or (a b:Env):Env:={ a with fn:=fun f=>match a.fn f with | some s=>some s | none=>b.fn f }
theorem env_or {P:Program} {a b:Env} (hA:EnvOk P a) (hB:EnvOk P b):EnvOk P (a.or b):=by
 refine ⟨hA.ty,hA.mixed,fun f s h=>?_,hA.mu,hA.inl,hA.ex,hA.inv⟩
 have h:(match a.fn f with | some s=>some s | none=>b.fn f)=some s:=h
 cases e:a.fn f with
 | some s' => rw[e] at h;exact hA.fn f s (by rw[e];exact h)
 | none=>rw[e] at h;exact hB.fn f s h
end

section

/-- The row at pb is told as data, and nothing else but the box at p is told of. -/
def fzCtx (y:Ctx) (p pb:Nat):Ctx:=
  { w:=y.w,F:=fun b=>y.F b∨(y.k pb = .real∧b=y.β pb),k:=fun i=>if i=p then y.k p else .no,β:=y.β }
def fzM (p:Nat) (q:Sq):Nat→Option En:=fun i=>if i=p then some (.fl [.sl q]) else none

theorem fz_den {y:Ctx} {m:Nat→Option En} {p pb len es:Nat} {q:Sq} (hm:Mem y m) (hq:m pb=some (.sq q)) (hl:len=q.n) {vs:List Value} (hd:y.D (.slc pb 0 len es) vs):(fzCtx y p pb).D (.sl q) vs:=by
 have hs:∃v,vs=[v]∧denS y (.v (.c (.slc pb 0 len es))) v:=by
  have:=D_len hd
  match vs,this with
  | [v],_=>exact ⟨v,rfl,rfl,hd⟩
 obtain ⟨v,rfl,hs⟩:=hs
 subst hl
 rcases D_slc hs with ⟨hk,_,h0,rfl⟩ | ⟨hk,cap,cs,ty,rfl,hlc,hcm,hcs,hfit⟩
 ·exact ⟨1,.inl ⟨none,0,rfl,h0⟩⟩
 ·obtain ⟨cs',ty',hcs',hden⟩:=hm.ent pb _ hq hk
  obtain ⟨d,hd'⟩:=depth_max (R:=fun d i=>∃c,catL (den (fzCtx y p pb) d) (q.get i) c∧rd (fzCtx y p pb).w (fzCtx y p pb).F (y.β pb) (0+i*q.es) c) (n:=q.n)
   (fun d d' i hdd ⟨c,hc,hr⟩=>⟨c,catL_mono (fun _ _ h=>den_le hdd h) hc,hr⟩) (fun i hi=>by
    obtain ⟨c,hc,hj⟩:=hden.2 i hi
    obtain ⟨d,hc⟩:=catL_ex (cat_data (x:=y) (y:=fzCtx y p pb) rfl (fun b hb=>.inl hb) (ownFree_get q i) hc)
    refine ⟨d,c,hc,.inr ⟨hk,rfl⟩,fun j v hv=>?_⟩
    show y.w.cell? _=_
    rw[cell_at hcs',Nat.zero_add]
    exact hj j v hv)
  exact ⟨d+1,.inr ⟨y.β pb,0,cap,rfl,hlc,by omega,hd'⟩⟩

theorem fz_mem {y:Ctx} {m:Nat→Option En} {p pb len es:Nat} {q:Sq} (hm:Mem y m) (hp:m p=some (.fl [.slc pb 0 len es])) (hq:m pb=some (.sq q)) (hl:len=q.n) (hr:y.k p = .real):Mem (fzCtx y p pb) (fzM p q):=by
 have hne:p≠pb:=fun e=>by rw[e,hq] at hp;cases hp
 refine ⟨fun i=>?_,fun i l h=>?_,fun i q' h=>?_,fun i e h hk=>?_,fun i j hi hj h=>?_,fun i hi=>?_,fun b hb=>?_⟩
 ·show (if i=p then some (En.fl [.sl q]) else none)=none↔(if i=p then y.k p else .no) = .no
  by_cases e:i=p
  ·rw[if_pos e,if_pos e,hr];exact ⟨fun h=>(nomatch h),fun h=>(nomatch h)⟩
  ·rw[if_neg e,if_neg e];exact ⟨fun _=>rfl,fun _=>rfl⟩
 ·have h:(if i=p then some (En.fl [.sl q]) else none)=some (.fl l):=h
  show (if i=p then y.k p else .no) = .real
  split at h
  ·rename_i e;rw[if_pos e];exact hr
  ·cases h
 ·have h:(if i=p then some (En.fl [.sl q]) else none)=some (.sq q'):=h
  split at h<;>cases h
 ·have h:(if i=p then some (En.fl [.sl q]) else none)=some e:=h
  split at h
  ·rename_i ei
   cases h
   subst ei
   obtain ⟨cs,ty,h1,c1,c2,e1,h2,h3⟩:=hm.ent i _ hp hr
   exact ⟨cs,ty,h1,c1,c2,e1,fz_den hm hq hl h2,h3⟩
  ·cases h
 ·have hi:(if i=p then y.k p else .no) = .real:=hi
  have hj:(if j=p then y.k p else .no) = .real:=hj
  by_cases e1:i=p
  ·by_cases e2:j=p
   ·rw[e1,e2]
   ·rw[if_neg e2] at hj;cases hj
  ·rw[if_neg e1] at hi;cases hi
 ·have hi:(if i=p then y.k p else .no) = .real:=hi
  by_cases e1:i=p
  ·subst e1
   rintro (h | ⟨h1,h2⟩)
   ·exact hm.own i hr h
   ·exact hne (hm.inj i pb hr h1 h2)
  ·rw[if_neg e1] at hi;cases hi
 ·rcases hb with hb | ⟨h1,rfl⟩
  ·exact hm.fw b hb
  ·obtain ⟨cs,ty,h,_⟩:=hm.ent pb _ hq h1
   exact (Array.getElem?_eq_some_iff.1 h).1

theorem IterC.freeze {P:Program} {x:Ctx} {gf p pb len es:Nat} {α:Type} {encs:α→List Value} {xs:List α} {M:List α→Nat→Option En} {q:Sq} (hp:∀s,M s p=some (.fl [.slc pb 0 len es])) (hq:∀s,M s pb=some (.sq q)) (hl:len=q.n)
  (h:IterC P x gf [(p,0)] encs xs fun _=>fzM p q):IterC P x gf [(p,0)] encs xs M:=by
 intro l J W hgrow hread hyield hJ
 refine h l J W hgrow (fun s W hs=>?_) hyield hJ
 obtain ⟨y,e,hm,hc⟩:=hread s W hs
 obtain ⟨hr,hβ⟩:=hc (p,0) List.mem_cons_self
 refine ⟨fzCtx y p pb,e,fz_mem hm (hp s) (hq s) hl hr,fun c hc' => ?_⟩
 have:c=(p,0):=List.mem_singleton.1 hc'
 subst this
 refine ⟨?_,hβ⟩
 show (if p=p then y.k p else .no) = .real
 rw[if_pos rfl]
 exact hr
end

section

section
variable {F:Type} [Fld F] [DecidableEq F] {b:F}
/-- The points of the curve. -/
def CP (b:F):Type:={ P:Pt F // OnC b P }
@[reducible] def cpAG (hc:Cv b):AG (CP b) where
 ad P Q:=⟨gadd P.1 Q.1,gadd_on hc _ _ P.2 Q.2⟩
 ng P:=⟨gneg P.1,gneg_on _ P.2⟩
 ze:=⟨none,True.intro⟩
 ad_ze P:=Subtype.ext (gadd_none _)
 ad_cm P Q:=Subtype.ext (gadd_comm hc _ _ P.2 Q.2)
 ad_as P Q S:=Subtype.ext (gadd_assoc hc _ _ _ P.2 Q.2 S.2)
 ng_ad P:=Subtype.ext (by
  show gadd (gneg P.1) P.1=none
  rw[gadd_comm hc _ _ (gneg_on _ P.2) P.2,gadd_gneg hc _ P.2])
end
end

set_option linter.unusedVariables false
set_option linter.unusedSectionVars false
section

section
variable {M:Type} [IMod M]
theorem no_coin {A B C:M} (h2:∀X:M,X+X=0→X=0) (h3:A+A+A=0→A=0) (h5A:A+A+A+A+A=0→A=0) (h5B:B+B+B+B+B=0→B=0) (hA:A≠0) (hB:B≠0) (hAB:A+B≠0)
  (k1:A+A+B=0∨A=B+C) (k2:B+A+B=0∨B+B+C=0) (k3:C=A+B∨C+B+C=0):False:=by
 rcases k1 with k1 | k1<;>rcases k2 with k2 | k2<;>rcases k3 with k3 | k3
 ·exact hA (h3 (by grind))
 ·exact hA (h3 (by grind))
 ·exact hA (h5A (by grind))
 ·exact hA (h3 (h2 _ (by grind)))
 ·exact hB (h2 _ (by grind))
 ·exact hB (h5B (by grind))
 ·exact hAB (by grind)
 ·exact hAB (by grind)
end

section
variable {F:Type} [Fld F] [DecidableEq F] {b:F}
theorem x_same {p q:F×F} (hp:OnC b (some p)) (hq:OnC b (some q)) (e:p.1=q.1):q=p∨q=ngp p:=by
 have hp:p.2*p.2=p.1*p.1*p.1+b:=hp
 have hq:q.2*q.2=q.1*q.1*q.1+b:=hq
 have h:(q.2-p.2)*(q.2+p.2)=0:=by rw[←e] at hq;clear e;grind
 by_cases h1:q.2=p.2
 ·exact .inl (Prod.ext e.symm h1)
 ·right
  have h2:q.2-p.2≠0:=fun h=>h1 (by clear hp hq h1;grind)
  by_cases h3:q.2+p.2=0
  ·refine Prod.ext e.symm ?_
   show q.2=0-p.2
   clear hp hq h h1 h2;grind
  ·exact absurd h (fmul_ne h2 h3)
theorem two_free (hc:Cv b) (X:CP b):letI:=cpAG hc;X+X=0→X=0:=by
 letI:=cpAG hc
 intro h
 obtain ⟨x,hx⟩:=X
 cases x with
 | none=>rfl
 | some p=>
  have h:gadd (some p) (some p)=none:=congrArg Subtype.val h
  unfold gadd at h
  dsimp only at h
  rw[if_pos rfl,if_pos ⟨rfl,y_ne hc hx⟩] at h
  cases h
def toC (P:Pt F) (h:OnC b P):CP b:=⟨P,h⟩
/-- Of the first points one is away from both sums. -/
theorem away (hc:Cv b) {a c e s t d:F×F} (ha:OnC b (some a)) (hcc:OnC b (some c)) (he:OnC b (some e)) (hs:gadd (some a) (some c)=some s) (ht:gadd (some c) (some e)=some t) (hd:gadd (some s) (some e)=some d)
  (h3:letI:=cpAG hc;∀X:CP b,X.1=some a∨X.1=some c→(X+X+X=0→X=0)∧(X+X+X+X+X=0→X=0)) :
  (a.1≠s.1∧a.1≠t.1)∨(c.1≠s.1∧c.1≠t.1)∨(e.1≠s.1∧e.1≠t.1):=by
 letI:=cpAG hc
 have os:OnC b (some s):=hs ▸ gadd_on hc _ _ ha hcc
 have ot:OnC b (some t):=ht ▸ gadd_on hc _ _ hcc he
 generalize hA:toC (some a) ha=A
 generalize hB:toC (some c) hcc=B
 generalize hC:toC (some e) he=C
 have hS:toC (some s) os=A+B:=by rw[←hA,←hB];exact Subtype.ext hs.symm
 have hT:toC (some t) ot=B+C:=by rw[←hB,←hC];exact Subtype.ext ht.symm
 have nA:A≠0:=fun h=>by rw[←hA] at h;exact absurd (congrArg Subtype.val h) (fun e=>nomatch e)
 have nB:B≠0:=fun h=>by rw[←hB] at h;exact absurd (congrArg Subtype.val h) (fun e=>nomatch e)
 have nC:C≠0:=fun h=>by rw[←hC] at h;exact absurd (congrArg Subtype.val h) (fun e=>nomatch e)
 have nS:A+B≠0:=fun h=>by rw[←hS] at h;exact absurd (congrArg Subtype.val h) (fun e=>nomatch e)
 have nT:B+C≠0:=fun h=>by rw[←hT] at h;exact absurd (congrArg Subtype.val h) (fun e=>nomatch e)
 have nD:A+B+C≠0:=fun h=>by
  rw[←hS,←hC] at h
  have h:gadd (some s) (some e)=none:=congrArg Subtype.val h
  rw[hd] at h
  cases h
 have sm:∀{p q:F×F} (hp:OnC b (some p)) (hq:OnC b (some q)),p.1=q.1→toC (some q) hq=toC (some p) hp∨toC (some q) hq = -(toC (some p) hp):=by
  intro p q hp hq e
  rcases x_same hp hq e with h | h
  ·left;subst h;rfl
  ·right;subst h;rfl
 have h3A:=h3 A (.inl (by rw[←hA];rfl))
 have h3B:=h3 B (.inr (by rw[←hB];rfl))
 by_cases k1:a.1≠s.1∧a.1≠t.1
 ·exact .inl k1
 by_cases k2:c.1≠s.1∧c.1≠t.1
 ·exact .inr (.inl k2)
 by_cases k3:e.1≠s.1∧e.1≠t.1
 ·exact .inr (.inr k3)
 exfalso
 have neg:∀{x y z:F},¬(x≠y∧x≠z)→x=y∨x=z:=by
  intro x y z h
  by_cases h1:x=y
  ·exact .inl h1
  ·by_cases h2:x=z
   ·exact .inr h2
   ·exact absurd ⟨h1,h2⟩ h
 have j1:A+A+B=0∨A=B+C:=by
  rcases neg k1 with k | k
  ·rcases sm ha os k with h | h
   ·rw[hS,hA] at h;exact absurd (by clear neg sm h3 h3A h3B k1 k2 k3;grind:B=0) nB
   ·rw[hS,hA] at h;left;clear neg sm h3 h3A h3B k1 k2 k3;grind
  ·rcases sm ha ot k with h | h
   ·rw[hT,hA] at h;exact .inr h.symm
   ·rw[hT,hA] at h;exact absurd (by clear neg sm h3 h3A h3B k1 k2 k3;grind:A+B+C=0) nD
 have j2:B+A+B=0∨B+B+C=0:=by
  rcases neg k2 with k | k
  ·rcases sm hcc os k with h | h
   ·rw[hS,hB] at h;exact absurd (by clear neg sm h3 h3A h3B k1 k2 k3 j1;grind:A=0) nA
   ·rw[hS,hB] at h;left;clear neg sm h3 h3A h3B k1 k2 k3 j1;grind
  ·rcases sm hcc ot k with h | h
   ·rw[hT,hB] at h;exact absurd (by clear neg sm h3 h3A h3B k1 k2 k3 j1;grind:C=0) nC
   ·rw[hT,hB] at h;right;clear neg sm h3 h3A h3B k1 k2 k3 j1;grind
 have j3:C=A+B∨C+B+C=0:=by
  rcases neg k3 with k | k
  ·rcases sm he os k with h | h
   ·rw[hS,hC] at h;exact .inl h.symm
   ·rw[hS,hC] at h;exact absurd (by clear neg sm h3 h3A h3B k1 k2 k3 j1 j2;grind:A+B+C=0) nD
  ·rcases sm he ot k with h | h
   ·rw[hT,hC] at h;exact absurd (by clear neg sm h3 h3A h3B k1 k2 k3 j1 j2;grind:B=0) nB
   ·rw[hT,hC] at h;right;clear neg sm h3 h3A h3B k1 k2 k3 j1 j2;grind
 exact no_coin (two_free hc) h3A.1 h3A.2 h3B.2 nA nB nS j1 j2 j3

theorem rcan {x y y' : F} (hy:x≠0) (h:x*y=x*y'):y=y' := by
 refine fcan hy ?_
 rw[show y*x=x*y from by grind,show y' * x=x*y' from by grind]
 exact h
theorem same_yr {y r r' : F} (hy:y≠0) {v:F} (h1:v=y*r) (h2:v=y*r'):r=r' := rcan hy (h1.symm.trans h2)
/-- What two lines, one behind the other, make: the same in either grouping. -/
theorem quad_eq (hc:Cv b) {a c e s t d:F×F} (ha:OnC b (some a)) (hcc:OnC b (some c)) (he:OnC b (some e)) (hs:gadd (some a) (some c)=some s) (ht:gadd (some c) (some e)=some t) (hd:gadd (some s) (some e)=some d) (hd2:gadd (some a) (some t)=some d)
  (hU:(a.1≠s.1∧a.1≠t.1)∨(c.1≠s.1∧c.1≠t.1)∨(e.1≠s.1∧e.1≠t.1)) :
  s.1+slp a c*slp s e=t.1+slp c e*slp a t∧s.1*s.1+s.2*(slp a c-slp s e)-slp a c*slp s e*s.1=t.1*t.1+t.2*(slp c e-slp a t)-slp c e*slp a t*t.1∧slp a c+slp s e=slp c e+slp a t:=by
 have os:OnC b (some s):=hs ▸ gadd_on hc _ _ ha hcc
 have ot:OnC b (some t):=ht ▸ gadd_on hc _ _ hcc he
 have T1:=tri_add hc ha hcc hs
 have T2:=tri_add hc os he hd
 have T3:=tri_add hc hcc he ht
 have T4:=(tri_add hc ha ot hd2).swap
 generalize slp a c=l1 at *
 generalize icp a c=m1 at *
 generalize slp s e=l2 at *
 generalize icp s e=m2 at *
 generalize slp c e=n1 at *
 generalize icp c e=o1 at *
 generalize slp a t=n2 at *
 generalize icp a t=o2 at *
 obtain ⟨u1,u2,u3,u4⟩:=two_lines T1.ln T2.ln T1.y3 T2.y1 os
 obtain ⟨v1,v2,v3,v4⟩:=two_lines T3.ln T4.ln T3.y3 T4.y1 ot
 have P:s.1+l1*l2=t.1+n1*n2∧s.1*s.1+s.2*(l1-l2)-l1*l2*s.1=t.1*t.1+t.2*(n1-n2)-n1*n2*t.1:=by
  have z:∀{w x y z:F},w+x+y+z=x+y+w+z∧w*x+w*y+w*z+x*y+x*z+y*z=x*y+x*w+x*z+y*w+y*z+w*z∧w*x*y+w*x*z+w*y*z+x*y*z=x*y*w+x*y*z+x*w*z+y*w*z∧w*x*y*z=x*y*w*z:=by
   intro w x y z
   clear u1 u2 u3 u4 v1 v2 v3 v4 T1 T2 T3 T4 os ot ha hcc he hs ht hd hd2 hU
   refine ⟨?_,?_,?_,?_⟩<;>grind
  exact uniq_quad hc (r:=l1+l2) (r' := n1+n2) (u1.trans ((congrArg (fun x=>0-x) z.1).trans v1.symm)) (u2.trans (z.2.1.trans v2.symm)) (u3.trans ((congrArg (fun x=>0-x) z.2.2.1).trans v3.symm)) (u4.trans (z.2.2.2.trans v4.symm))
 refine ⟨P.1,P.2,?_⟩
 rcases hU with ⟨h1,h2⟩ | ⟨h1,h2⟩ | ⟨h1,h2⟩
 ·have e1:=at_first T1.y3 T2.y1 os ha T1.y1 h1
  have e2:=at_second T3.y3 T4.y1 ot ha T4.y2 h2
  rw[show (ngp t).1=t.1 from rfl,←P.1,←P.2] at e2
  rw[show (ngp s).1=s.1 from rfl] at e1
  exact same_yr (y_ne hc ha) e1 e2
 ·have e1:=at_first T1.y3 T2.y1 os hcc T1.y2 h1
  have e2:=at_first T3.y3 T4.y1 ot hcc T3.y1 h2
  rw[show (ngp t).1=t.1 from rfl,←P.1,←P.2] at e2
  rw[show (ngp s).1=s.1 from rfl] at e1
  exact same_yr (y_ne hc hcc) e1 e2
 ·have e1:=at_second T1.y3 T2.y1 os he T2.y2 h1
  have e2:=at_first T3.y3 T4.y1 ot he T3.y2 h2
  rw[show (ngp t).1=t.1 from rfl,←P.1,←P.2] at e2
  rw[show (ngp s).1=s.1 from rfl] at e1
  exact same_yr (y_ne hc he) e1 e2
end

section
variable {F K:Type} [Fld F] [DecidableEq F] [CRing K]
/-- Elements of the lesser ring, in the greater one. -/
structure Hom (f:F→K):Prop where
 add:∀x y,f (x+y)=f x+f y
 mul:∀x y,f (x*y)=f x*f y
 sub:∀x y,f (x-y)=f x-f y
theorem Hom.zero {f:F→K} (h:Hom f):f 0=0:=by
 have:f (0-0)=f 0-f 0:=h.sub 0 0
 rw[show (0:F)-0=0 from by grind] at this
 rw[this];clear this;grind
theorem prod_two {l1 m1 l2 m2 xs ys b X:K} (k1:0-ys=l1*xs+m1) (k2:ys=l2*xs+m2) (hs:ys*ys=xs*xs*xs+b) :
  X*X*X+b+(l1*X+m1)*(l2*X+m2)=(X-xs)*(X*X+(xs+l1*l2)*X+(xs*xs+ys*(l1-l2)-l1*l2*xs))∧(l1*X+m1)+(l2*X+m2)=(X-xs)*(l1+l2):=by
 have e1:m1=0-ys-l1*xs:=by clear k2 hs;grind
 have e2:m2=ys-l2*xs:=by clear k1 hs;grind
 have e3:b=ys*ys-xs*xs*xs:=by clear k1 k2 e1 e2;grind
 subst e1 e2 e3
 clear k1 k2 hs
 constructor<;>grind
theorem quad_two {b X l1 m1 l2 m2 xs ys n1 o1 n2 o2 xt yt:K} (k1:0-ys=l1*xs+m1) (k2:ys=l2*xs+m2) (hs:ys*ys=xs*xs*xs+b) (j1:0-yt=n1*xt+o1) (j2:yt=n2*xt+o2) (ht:yt*yt=xt*xt*xt+b)
  (p:xs+l1*l2=xt+n1*n2) (q:xs*xs+ys*(l1-l2)-l1*l2*xs=xt*xt+yt*(n1-n2)-n1*n2*xt) (r:l1+l2=n1+n2) :
  (X*X*X+b+(l1*X+m1)*(l2*X+m2))*((n1*X+o1)+(n2*X+o2))=(X*X*X+b+(n1*X+o1)*(n2*X+o2))*((l1*X+m1)+(l2*X+m2)):=by
 obtain ⟨u1,u2⟩:=prod_two (X:=X) k1 k2 hs
 obtain ⟨v1,v2⟩:=prod_two (X:=X) j1 j2 ht
 rw[u1,u2,v1,v2,p,q,r]
 clear u1 u2 v1 v2 p q r k1 k2 hs j1 j2 ht
 generalize X*X+(xt+n1*n2)*X+(xt*xt+yt*(n1-n2)-n1*n2*xt)=Q
 grind
end

section
variable {F K:Type} [Fld F] [DecidableEq F] [CRing K] [Nrs K] {b:F}
/-- The line through two points, if these and their sum are not at infinity. -/
def lda:Pt F→Pt F→Option (F×F)
 | some p,some q=>if gadd (some p) (some q)=none then none else some (slp p q,icp p q)
 | _,_=>none
/-- A line at a place: X, and y0 times the square root. -/
def evl (f:F→K) (X y0:K):Option (F×F)→E2 K
 | none=>1
 | some l=>⟨-(f l.1*X+f l.2),y0⟩
/-- The same, but for an element of the lesser ring. -/
def Ass (u v:E2 K):Prop:=u.a*v.b=v.a*u.b
theorem lda_none (P:Pt F):lda P none=none:=by cases P<;>rfl
theorem lda_some {p q s:F×F} (h:gadd (some p) (some q)=some s):lda (some p) (some q)=some (slp p q,icp p q):=by
 exact if_neg (fun e=>by rw[h] at e;cases e)
theorem lda_inf {p q:F×F} (h:gadd (some p) (some q)=none):lda (some p) (some q)=none:=if_pos h
theorem gadd_inf {p q:F×F} (hp:OnC b (some p)) (hq:OnC b (some q)) (hc:Cv b) (h:gadd (some p) (some q)=none):q=ngp p:=by
 unfold gadd at h
 dsimp only at h
 split at h
 ·rename_i e
  split at h
  ·cases h
  ·rename_i e2
   rcases x_same hp hq e with h | h
   ·subst h
    exact absurd ⟨rfl,y_ne hc hp⟩ e2
   ·exact h
 ·cases h
theorem ngp_ngp (p:F×F):ngp (ngp p)=p:=Prod.ext rfl (by show 0-(0-p.2)=p.2;grind)
theorem neg_line {f:F→K} (hf:Hom f) (l m:F) (X:K):f (0-l)*X+f (0-m) = -(f l*X+f m):=by
 rw[hf.sub,hf.sub,hf.zero]
 grind
theorem Ass.refl (u:E2 K):Ass u u:=rfl
theorem Ass.symm {u v:E2 K} (h:Ass u v):Ass v u:=Eq.symm h
theorem ass_flip {f:F→K} (hf:Hom f) (X y0:K) (l m:F):Ass (1*1) (evl f X y0 (some (l,m))*evl f X y0 (some (0-l,0-m))):=by
 unfold Ass evl
 simp only[E2.mul_a,E2.mul_b,E2.one_a,E2.one_b,neg_line hf]
 grind
theorem E2.one_mul (u:E2 K):1*u=u:=E2.ext' (by simp only[E2.mul_a,E2.one_a,E2.one_b];grind) (by simp only[E2.mul_b,E2.one_a,E2.one_b];grind)
theorem E2.mul_one (u:E2 K):u*1=u:=E2.ext' (by simp only[E2.mul_a,E2.one_a,E2.one_b];grind) (by simp only[E2.mul_b,E2.one_a,E2.one_b];grind)
/-- Lines, one behind the other: the same in either grouping. -/
theorem cocy (hc:Cv b) {f:F→K} (hf:Hom f) {X y0:K} (hX:Nrs.xi*(y0*y0)=X*X*X+f b) {A B C:Pt F} (hA:OnC b A) (hB:OnC b B) (hC:OnC b C)
  (h3:letI:=cpAG hc;∀X:CP b,X.1=A∨X.1=B→(X+X+X=0→X=0)∧(X+X+X+X+X=0→X=0)) :
  Ass (evl f X y0 (lda A B)*evl f X y0 (lda (gadd A B) C)) (evl f X y0 (lda B C)*evl f X y0 (lda A (gadd B C))):=by
 cases A with
 | none=>
  show Ass (1*evl f X y0 (lda B C)) (evl f X y0 (lda B C)*1)
  rw[E2.one_mul,E2.mul_one];rfl
 | some a=>
  cases B with
  | none=>
   show Ass (1*evl f X y0 (lda (some a) C)) (1*evl f X y0 (lda (some a) C))
   rfl
  | some c=>
   cases C with
   | none=>
    rw[lda_none,lda_none,gadd_none]
    show Ass (_*1) (1*_)
    rw[E2.one_mul,E2.mul_one];rfl
   | some e=>
    have has:=gadd_assoc hc _ _ _ hA hB hC
    have hcs:=gadd_comm hc _ _ hA hB
    have hcs2:=gadd_comm hc _ _ hB hC
    cases hs:gadd (some a) (some c) with
    | none=>
     rw[hs] at has
     rw[lda_inf hs]
     cases ht:gadd (some c) (some e) with
     | none=>
      rw[lda_inf ht,lda_none]
      rfl
     | some t=>
      rw[ht] at has
      have T:=(tri_add hc hB hC ht).mir
      rw[ngp_ngp] at T
      have ea:=gadd_inf hB hA hc (hcs.symm.trans hs)
      rw[←ea] at T
      have k:=tri_is hc T.rot.rot.swap hA has.symm
      show Ass (1*1) _
      rw[lda_some ht,lda_some has.symm,k.1,k.2]
      exact ass_flip hf X y0 _ _
    | some s=>
     have os:OnC b (some s):=hs ▸ gadd_on hc _ _ hA hB
     have T1:=tri_add hc hA hB hs
     rw[hs] at has
     rw[lda_some hs]
     cases ht:gadd (some c) (some e) with
     | none=>
      rw[ht,gadd_none] at has
      have T:=T1.mir
      rw[ngp_ngp,←gadd_inf hB hC hc ht] at T
      have k:=tri_is hc T.rot.swap os has
      rw[lda_inf ht,lda_none,lda_some has,k.1,k.2]
      exact (ass_flip hf X y0 _ _).symm
     | some t=>
      have ot:OnC b (some t):=ht ▸ gadd_on hc _ _ hB hC
      rw[ht] at has
      rw[lda_some ht]
      cases hd:gadd (some s) (some e) with
      | none=>
       rw[hd] at has
       have T:=T1.rot
       rw[←gadd_inf os hC hc hd] at T
       have k:=tri_is hc T hB ht
       rw[lda_inf hd,lda_inf has.symm,k.1,k.2]
       rfl
      | some d=>
       rw[hd] at has
       have Q:=quad_eq hc hA hB hC hs ht hd has.symm (away hc hA hB hC hs ht hd h3)
       have T2:=tri_add hc os hC hd
       have T3:=tri_add hc hB hC ht
       have T4:=(tri_add hc hA ot has.symm).swap
       rw[lda_some hd,lda_some has.symm]
       generalize slp a c=l1 at *
       generalize icp a c=m1 at *
       generalize slp s e=l2 at *
       generalize icp s e=m2 at *
       generalize slp c e=n1 at *
       generalize icp c e=o1 at *
       generalize slp a t=n2 at *
       generalize icp a t=o2 at *
       have im:∀{y l x m:F},y=l*x+m→f y=f l*f x+f m:=by
        intro y l x m h
        rw[h,hf.add,hf.mul]
       have im0:∀{y l x m:F},0-y=l*x+m→0-f y=f l*f x+f m:=by
        intro y l x m h
        rw[←hf.mul,←hf.add,←h,hf.sub,hf.zero]
       have imc:∀{y x:F},y*y=x*x*x+b→f y*f y=f x*f x*f x+f b:=by
        intro y x h
        rw[←hf.mul,h,hf.add,hf.mul,hf.mul]
       have R:=quad_two (X:=X) (im0 T1.y3) (im T2.y1) (imc os) (im0 T3.y3) (im T4.y1) (imc ot)
        (by rw[←hf.mul,←hf.add,←hf.mul,←hf.add,show (ngp s).1=s.1 from rfl,show (ngp t).1=t.1 from rfl,Q.1])
        (by rw[←hf.mul,←hf.sub,←hf.mul,←hf.add,←hf.mul,←hf.mul,←hf.sub,←hf.mul,←hf.sub,←hf.mul,←hf.add,←hf.mul,←hf.mul,←hf.sub,show (ngp s).1=s.1 from rfl,show (ngp t).1=t.1 from rfl,Q.2.1])
        (by rw[←hf.add,←hf.add,Q.2.2])
       unfold Ass evl
       simp only[E2.mul_a,E2.mul_b]
       rw[hX]
       clear Q T1 T2 T3 T4 im im0 imc hX h3 has
       generalize f l1*X+f m1=M1 at *
       generalize f l2*X+f m2=M2 at *
       generalize f n1*X+f o1=N1 at *
       generalize f n2*X+f o2=N2 at *
       generalize X*X*X+f b=U at *
       have e1:-M1 * -M2+U=U+M1*M2:=by clear R;grind
       have e2:-N1 * -N2+U=U+N1*N2:=by clear R;grind
       have e3:-N1*y0+y0 * -N2=(N1+N2)*(-y0):=by clear R;grind
       have e4:-M1*y0+y0 * -M2=(M1+M2)*(-y0):=by clear R;grind
       rw[e1,e2,e3,e4]
       have e5:∀a c d:K,a*(c*d)=a*c*d:=by intro a c d;clear R;grind
       rw[e5,e5,R]
end
end

set_option linter.unusedVariables false
set_option linter.unusedSectionVars false
section

section
variable {R:Type} [CRing R]
theorem prod3 (d e x1 x2 x3:R):(d*x1+e)*(d*x2+e)*(d*x3+e)=d*d*d*(x1*x2*x3)+d*d*e*(x1*x2+x1*x3+x2*x3)+d*e*e*(x1+x2+x3)+e*e*e:=by grind
theorem lin3 (l m L M x:R):L*x+M-(l*x+m)=(L-l)*x+(M-m):=by grind
/-- The one line at the other one's points. -/
theorem recip {b l m L M x1 x2 x3 X1 X2 X3:R} (a1:x1+x2+x3=l*l) (a2:x1*x2+x1*x3+x2*x3=0-(l*m+l*m)) (a3:x1*x2*x3=m*m-b)
  (A1:X1+X2+X3=L*L) (A2:X1*X2+X1*X3+X2*X3=0-(L*M+L*M)) (A3:X1*X2*X3=M*M-b) :
  (L*X1+M-(l*X1+m))*(L*X2+M-(l*X2+m))*(L*X3+M-(l*X3+m))=(L*x1+M-(l*x1+m))*(L*x2+M-(l*x2+m))*(L*x3+M-(l*x3+m)):=by
 rw[lin3,lin3,lin3,lin3,lin3,lin3,prod3,prod3,a1,a2,a3,A1,A2,A3]
 clear a1 a2 a3 A1 A2 A3
 grind
end

section
variable {K:Type} [Fld K] [Nrs K] [DecidableEq K]
/-- The conjugate; and by what it is its element. -/
def cj (u:E2 K):E2 K:=⟨u.a,-u.b⟩
def et (u:E2 K):E2 K:=cj u*invE2 u
theorem cj_mul (u v:E2 K):cj (u*v)=cj u*cj v:=E2.ext' (by show u.a*v.a+Nrs.xi*(u.b*v.b)=u.a*v.a+Nrs.xi*(-u.b * -v.b);grind) (by show -(u.a*v.b+u.b*v.a)=u.a * -v.b + -u.b*v.a;grind)
theorem cj_cj (u:E2 K):cj (cj u)=u:=E2.ext' rfl (by show - -u.b=u.b;grind)
theorem cj_one:cj (1:E2 K)=1:=E2.ext' rfl (by show -(0:K)=0;grind)
variable (h:∀t:K,t*t≠Nrs.xi)
include h
theorem et_mul_self {u:E2 K} (hu:u≠0):et u*u=cj u:=by
 have e:=invE2_mul h u hu
 unfold et
 generalize invE2 u=i at *
 generalize cj u=c at *
 have:c*i*u=c*(u*i):=by clear e;grind
 rw[this,e];clear e this;grind
theorem e2_can {u v w:E2 K} (hw:w≠0) (e:u*w=v*w):u=v:=by
 have k:=invE2_mul h w hw
 have:u*w*invE2 w=v*w*invE2 w:=by rw[e]
 generalize invE2 w=i at *
 have e1:u*w*i=u*(w*i):=by clear k this e;grind
 have e2:v*w*i=v*(w*i):=by clear k this e e1;grind
 rw[e1,e2,k] at this
 clear k e e1 e2;grind
theorem et_is {u e:E2 K} (hu:u≠0) (k:e*u=cj u):e=et u:=e2_can h hu (k.trans (et_mul_self h hu).symm)
theorem e2_ne {u v:E2 K} (hu:u≠0) (hv:v≠0):u*v≠0:=fun e=>hu (e2_can h hv (by rw[e];clear e;grind))
theorem et_mul {u v:E2 K} (hu:u≠0) (hv:v≠0):et (u*v)=et u*et v:=by
 symm
 refine et_is h (e2_ne h hu hv) ?_
 rw[cj_mul,←et_mul_self h hu,←et_mul_self h hv]
 generalize et u=a
 generalize et v=c
 grind
theorem cj_ne {u:E2 K} (hu:u≠0):cj u≠0:=fun e=>hu (by rw[←cj_cj u,e];exact E2.ext' rfl (by show -(0:K)=0;grind))
theorem et_cj {u:E2 K} (hu:u≠0):et (cj u)*et u=1:=by
 have k1:=et_mul_self h hu
 have k2:=et_mul_self h (cj_ne h hu)
 rw[cj_cj] at k2
 refine e2_can h hu ?_
 generalize et u=a at *
 generalize et (cj u)=c at *
 have:c*a*u=c*(a*u):=by clear k1 k2;grind
 rw[this,k1,k2];clear this k1 k2;grind
theorem et_ass {u v:E2 K} (hu:u≠0) (hv:v≠0) (e:Ass u v):et u=et v:=by
 symm
 refine et_is h hu ?_
 refine e2_can h hv ?_
 have k:=et_mul_self h hv
 have:et v*u*v=et v*v*u:=by generalize et v=c;clear k e;grind
 rw[this,k]
 have e:u.a*v.b=v.a*u.b:=e
 refine E2.ext' ?_ ?_
 ·show v.a*u.a+Nrs.xi*(-v.b*u.b)=u.a*v.a+Nrs.xi*(-u.b*v.b);grind
 ·show v.a*u.b + -v.b*u.a=u.a*v.b + -u.b*v.a
  clear k this;grind
theorem et_neg {u:E2 K} (hu:u≠0):et (-u)=et u:=by
  have hn : -u ≠ 0 := fun e => hu (by have : u = -(-u) := by clear e; grind
                                      rw[this,e];clear e this;grind)
  refine (et_is h hn ?_).symm
  have k:=et_mul_self h hu
  have e1:et u * -u = -(et u*u):=by generalize et u=c;clear k;grind
  rw[e1,k]
  exact E2.ext' rfl rfl
theorem et_low {x:K} (hx:x≠0):et (⟨x,0⟩:E2 K)=1:=by
 have hu:(⟨x,0⟩:E2 K)≠0:=fun e=>hx (congrArg E2.a e)
 refine (et_is h hu ?_).symm
 rw[E2.one_mul]
 exact E2.ext' rfl (by show (0:K) = -0;grind)
theorem et_one:et (1:E2 K)=1:=et_low h (x:=1) Fld.one_ne
end
end

set_option linter.unusedVariables false
set_option linter.unusedSectionVars false
section

section
variable {F0 F K:Type} [Fld F0] [DecidableEq F0] [Fld F] [DecidableEq F] [Fld K] [DecidableEq K] [Nrs K] {b0:F0} {b:F}
/-- The lesser field, the middle one, and how the curves lie in the greater one. -/
structure Emb (b0:F0) (b:F) (f0:F0→K) (f:F→K):Prop where
 h0:Hom f0
 h:Hom f
 n0:∀y,y≠0→f0 y*Nrs.xi≠0
 n:∀y,y≠0→f y≠0
 hb:Nrs.xi*Nrs.xi*Nrs.xi*f0 b0=f b
 c0:Cv b0
 c:Cv b
 ns:∀t:K,t*t≠Nrs.xi
variable (f0:F0→K) (f:F→K)
/-- The line through two points of the second curve, at one of the first one. -/
def Dp (P:Pt F0) (A B:Pt F):E2 K:=
 match P with
 | none=>1
 | some p=>et (evl f (f0 p.1*Nrs.xi) (f0 p.2*Nrs.xi) (lda A B))
/-- The line through two points of the first curve, at one of the second one. -/
def lae (l:F0×F0) (a:F×F):E2 K:=⟨f a.2,-(f0 l.1*f a.1+f0 l.2*Nrs.xi)⟩
def Ep (P Q:Pt F0) (A:Pt F):E2 K:=
 match lda P Q,A with
 | some l,some a=>et (lae f0 f l a)
 | _,_=>1
variable {f0 f}
theorem Ep_inf (P Q:Pt F0):Ep f0 f P Q none=1:=by
 unfold Ep
 split
 ·rename_i h;cases h
 ·rfl
theorem Ep_none {P Q:Pt F0} (h:lda P Q=none) (A:Pt F):Ep f0 f P Q A=1:=by
 unfold Ep
 rw[h]
theorem Ep_some {P Q:Pt F0} {l:F0×F0} (h:lda P Q=some l) (a:F×F):Ep f0 f P Q (some a)=et (lae f0 f l a):=by
 unfold Ep
 rw[h]
theorem Dp_none (P:Pt F0) {A B:Pt F} (e:Emb b0 b f0 f) (h:lda A B=none):Dp f0 f P A B=1:=by
 cases P with
 | none=>rfl
 | some p=>
  show et (evl f _ _ (lda A B))=1
  rw[h]
  exact et_one e.ns
theorem evl_ne (e:Emb b0 b f0 f) {p:F0×F0} (hp:OnC b0 (some p)) (L:Option (F×F)):evl f (f0 p.1*Nrs.xi) (f0 p.2*Nrs.xi) L≠0:=by
 cases L with
 | none=>intro h;exact Fld.one_ne (congrArg E2.a h)
 | some l=>intro h;exact e.n0 _ (y_ne e.c0 hp) (congrArg E2.b h)
theorem lae_ne (e:Emb b0 b f0 f) {a:F×F} (ha:OnC b (some a)) (l:F0×F0):lae f0 f l a≠0:=fun h=>e.n _ (y_ne e.c ha) (congrArg E2.a h)
theorem neg_f (e:Emb b0 b f0 f) (y:F0):f0 (0-y)*Nrs.xi = -(f0 y*Nrs.xi):=by rw[e.h0.sub,e.h0.zero];grind
theorem evl_ngp (e:Emb b0 b f0 f) (p:F0×F0) (l:F×F):evl f (f0 (ngp p).1*Nrs.xi) (f0 (ngp p).2*Nrs.xi) (some l)=cj (evl f (f0 p.1*Nrs.xi) (f0 p.2*Nrs.xi) (some l)):=E2.ext' rfl (neg_f e p.2)
theorem lae_ngp (e:Emb b0 b f0 f) (a:F×F) (l:F0×F0):lae f0 f l (ngp a) = -cj (lae f0 f l a):=by
 refine E2.ext' ?_ ?_
 ·show f (0-a.2) = -f a.2
  rw[e.h.sub,e.h.zero];grind
 ·show -(f0 l.1*f a.1+f0 l.2*Nrs.xi) = - -(-(f0 l.1*f a.1+f0 l.2*Nrs.xi))
  grind
theorem et_ncj (e:Emb b0 b f0 f) {u:E2 K} (hu:u≠0):et (-cj u)*et u=1:=by rw[et_neg e.ns (cj_ne e.ns hu),et_cj e.ns hu]
/-- Both lines, each at the other one's points. -/
theorem recip_gen (e:Emb b0 b f0 f) {l m:F} {a c s:F×F} (T:Tri b l m a c (ngp s)) {L M:F0} {p q t:F0×F0} (U:Tri b0 L M p q (ngp t)) :
  evl f (f0 p.1*Nrs.xi) (f0 p.2*Nrs.xi) (some (l,m))*evl f (f0 q.1*Nrs.xi) (f0 q.2*Nrs.xi) (some (l,m))*cj (evl f (f0 t.1*Nrs.xi) (f0 t.2*Nrs.xi) (some (l,m)))=lae f0 f (L,M) a*lae f0 f (L,M) c*cj (lae f0 f (L,M) s):=by
 have im:∀{y l x m:F},y=l*x+m→f y=f l*f x+f m:=by
  intro y l x m h
  rw[h,e.h.add,e.h.mul]
 have im0:∀{y l x m:F0},y=l*x+m→f0 y=f0 l*f0 x+f0 m:=by
  intro y l x m h
  rw[h,e.h0.add,e.h0.mul]
 have a1:f a.1+f c.1+f s.1=f l*f l:=by rw[←e.h.add,←e.h.add,←e.h.mul];exact congrArg f T.ln.e1
 have a2:f a.1*f c.1+f a.1*f s.1+f c.1*f s.1=0-(f l*f m+f l*f m):=by
  rw[←e.h.zero]
  simp only[←e.h.mul,←e.h.add,←e.h.sub];exact congrArg f T.ln.e2
 have a3:f a.1*f c.1*f s.1=f m*f m-f b:=by simp only[←e.h.mul,←e.h.sub];exact congrArg f T.ln.e3
 have A1:f0 p.1+f0 q.1+f0 t.1=f0 L*f0 L:=by rw[←e.h0.add,←e.h0.add,←e.h0.mul];exact congrArg f0 U.ln.e1
 have A2:f0 p.1*f0 q.1+f0 p.1*f0 t.1+f0 q.1*f0 t.1=0-(f0 L*f0 M+f0 L*f0 M):=by
  rw[←e.h0.zero]
  simp only[←e.h0.mul,←e.h0.add,←e.h0.sub];exact congrArg f0 U.ln.e2
 have A3:f0 p.1*f0 q.1*f0 t.1=f0 M*f0 M-f0 b0:=by simp only[←e.h0.mul,←e.h0.sub];exact congrArg f0 U.ln.e3
 have y1:=im0 U.y1
 have y2:=im0 U.y2
 have y3:=im0 U.y3
 have z1:=im T.y1
 have z2:=im T.y2
 have z3:=im T.y3
 have y3:f0 t.2=0-(f0 L*f0 t.1+f0 M):=by
  have:f0 (0-t.2)=f0 L*f0 t.1+f0 M:=y3
  rw[←this,e.h0.sub,e.h0.zero];clear this a1 a2 a3 A1 A2 A3 y1 y2 y3 z1 z2 z3;grind
 have z3:f s.2=0-(f l*f s.1+f m):=by
  have:f (0-s.2)=f l*f s.1+f m:=z3
  rw[←this,e.h.sub,e.h.zero];clear this a1 a2 a3 A1 A2 A3 y1 y2 y3 z1 z2 z3;grind
 have hb:=e.hb
 clear im im0 T U
 generalize hx1:f a.1=x1 at *
 generalize hx2:f c.1=x2 at *
 generalize hx3:f s.1=x3 at *
 generalize hX1:f0 p.1=X1 at *
 generalize hX2:f0 q.1=X2 at *
 generalize hX3:f0 t.1=X3 at *
 have R:=recip (b:=(⟨f b,0⟩:E2 K)) (l:=⟨f l,0⟩) (m:=⟨f m,0⟩) (L:=⟨0,f0 L⟩) (M:=⟨0,f0 M*Nrs.xi⟩) (x1:=⟨x1,0⟩) (x2:=⟨x2,0⟩) (x3:=⟨x3,0⟩) (X1:=⟨X1*Nrs.xi,0⟩) (X2:=⟨X2*Nrs.xi,0⟩) (X3:=⟨X3*Nrs.xi,0⟩)
  (by refine E2.ext' ?_ ?_<;>simp only[E2.add_a,E2.add_b,E2.mul_a,E2.mul_b]<;>clear a2 a3 A1 A2 A3 y1 y2 y3 z1 z2 z3 hb<;>grind)
  (by refine E2.ext' ?_ ?_<;>simp only[E2.add_a,E2.add_b,E2.mul_a,E2.mul_b,E2.sub_a,E2.sub_b,E2.zero_a,E2.zero_b]<;>clear a1 a3 A1 A2 A3 y1 y2 y3 z1 z2 z3 hb<;>grind)
  (by refine E2.ext' ?_ ?_<;>simp only[E2.mul_a,E2.mul_b,E2.sub_a,E2.sub_b]<;>clear a1 a2 A1 A2 A3 y1 y2 y3 z1 z2 z3 hb<;>grind)
  (by refine E2.ext' ?_ ?_<;>simp only[E2.add_a,E2.add_b,E2.mul_a,E2.mul_b]<;>clear a1 a2 a3 A2 A3 y1 y2 y3 z1 z2 z3 hb<;>grind)
  (by refine E2.ext' ?_ ?_<;>simp only[E2.add_a,E2.add_b,E2.mul_a,E2.mul_b,E2.sub_a,E2.sub_b,E2.zero_a,E2.zero_b]<;>clear a1 a2 a3 A1 A3 y1 y2 y3 z1 z2 z3 hb<;>grind)
  (by refine E2.ext' ?_ ?_<;>simp only[E2.add_a,E2.add_b,E2.mul_a,E2.mul_b,E2.sub_a,E2.sub_b]<;>clear a1 a2 a3 A1 A2 y1 y2 y3 z1 z2 z3<;>grind)
 clear a1 a2 a3 A1 A2 A3 hb
 have p1:evl f (X1*Nrs.xi) (f0 p.2*Nrs.xi) (some (l,m))=(⟨0,f0 L⟩:E2 K)*⟨X1*Nrs.xi,0⟩+⟨0,f0 M*Nrs.xi⟩-((⟨f l,0⟩:E2 K)*⟨X1*Nrs.xi,0⟩+⟨f m,0⟩):=by
  rw[y1]
  refine E2.ext' ?_ ?_<;>simp only[evl,E2.add_a,E2.add_b,E2.mul_a,E2.mul_b,E2.sub_a,E2.sub_b]<;>clear R y1 y2 y3 z1 z2 z3<;>grind
 have p2:evl f (X2*Nrs.xi) (f0 q.2*Nrs.xi) (some (l,m))=(⟨0,f0 L⟩:E2 K)*⟨X2*Nrs.xi,0⟩+⟨0,f0 M*Nrs.xi⟩-((⟨f l,0⟩:E2 K)*⟨X2*Nrs.xi,0⟩+⟨f m,0⟩):=by
  rw[y2]
  refine E2.ext' ?_ ?_<;>simp only[evl,E2.add_a,E2.add_b,E2.mul_a,E2.mul_b,E2.sub_a,E2.sub_b]<;>clear R y1 y2 y3 z1 z2 z3 p1<;>grind
 have p3:cj (evl f (X3*Nrs.xi) (f0 t.2*Nrs.xi) (some (l,m)))=(⟨0,f0 L⟩:E2 K)*⟨X3*Nrs.xi,0⟩+⟨0,f0 M*Nrs.xi⟩-((⟨f l,0⟩:E2 K)*⟨X3*Nrs.xi,0⟩+⟨f m,0⟩):=by
  rw[y3]
  refine E2.ext' ?_ ?_<;>simp only[evl,cj,E2.add_a,E2.add_b,E2.mul_a,E2.mul_b,E2.sub_a,E2.sub_b]<;>clear R y1 y2 y3 z1 z2 z3 p1 p2<;>grind
 have q1:lae f0 f (L,M) a = -((⟨0,f0 L⟩:E2 K)*⟨x1,0⟩+⟨0,f0 M*Nrs.xi⟩-((⟨f l,0⟩:E2 K)*⟨x1,0⟩+⟨f m,0⟩)):=by
  unfold lae
  dsimp only
  rw[z1,hx1]
  refine E2.ext' ?_ ?_<;>simp only[E2.neg_a,E2.neg_b,E2.add_a,E2.add_b,E2.mul_a,E2.mul_b,E2.sub_a,E2.sub_b]<;>clear R y1 y2 y3 z1 z2 z3 p1 p2 p3<;>grind
 have q2:lae f0 f (L,M) c = -((⟨0,f0 L⟩:E2 K)*⟨x2,0⟩+⟨0,f0 M*Nrs.xi⟩-((⟨f l,0⟩:E2 K)*⟨x2,0⟩+⟨f m,0⟩)):=by
  unfold lae
  dsimp only
  rw[z2,hx2]
  refine E2.ext' ?_ ?_<;>simp only[E2.neg_a,E2.neg_b,E2.add_a,E2.add_b,E2.mul_a,E2.mul_b,E2.sub_a,E2.sub_b]<;>clear R y1 y2 y3 z1 z2 z3 p1 p2 p3 q1<;>grind
 have q3:cj (lae f0 f (L,M) s)=(⟨0,f0 L⟩:E2 K)*⟨x3,0⟩+⟨0,f0 M*Nrs.xi⟩-((⟨f l,0⟩:E2 K)*⟨x3,0⟩+⟨f m,0⟩):=by
  unfold lae
  dsimp only
  rw[z3,hx3]
  refine E2.ext' ?_ ?_<;>simp only[cj,E2.add_a,E2.add_b,E2.mul_a,E2.mul_b,E2.sub_a,E2.sub_b]<;>clear R y1 y2 y3 z1 z2 z3 p1 p2 p3 q1 q2<;>grind
 clear y1 y2 y3 z1 z2 z3
 rw[p1,p2,p3,q1,q2,q3,R]
 clear p1 p2 p3 q1 q2 q3 R
 generalize (⟨0,f0 L⟩:E2 K)*⟨x1,0⟩+⟨0,f0 M*Nrs.xi⟩-((⟨f l,0⟩:E2 K)*⟨x1,0⟩+⟨f m,0⟩)=u1
 generalize (⟨0,f0 L⟩:E2 K)*⟨x2,0⟩+⟨0,f0 M*Nrs.xi⟩-((⟨f l,0⟩:E2 K)*⟨x2,0⟩+⟨f m,0⟩)=u2
 generalize (⟨0,f0 L⟩:E2 K)*⟨x3,0⟩+⟨0,f0 M*Nrs.xi⟩-((⟨f l,0⟩:E2 K)*⟨x3,0⟩+⟨f m,0⟩)=u3
 grind
/-- A sum on the first curve. -/
theorem dp_sum (e:Emb b0 b f0 f) {P Q:Pt F0} {A B:Pt F} (hP:OnC b0 P) (hQ:OnC b0 Q) (hA:OnC b A) (hB:OnC b B) :
  Dp f0 f P A B*Dp f0 f Q A B*Ep f0 f P Q (gadd A B)=Dp f0 f (gadd P Q) A B*(Ep f0 f P Q A*Ep f0 f P Q B):=by
 cases P with
 | none=>
  show 1*Dp f0 f Q A B*Ep f0 f none Q (gadd A B)=Dp f0 f Q A B*(Ep f0 f none Q A*Ep f0 f none Q B)
  have h:lda none Q=none:=rfl
  rw[Ep_none h,Ep_none h,Ep_none h,E2.one_mul,E2.one_mul]
 | some p=>
  cases Q with
  | none=>
   have h:lda (some p) none=none:=rfl
   rw[Ep_none h,Ep_none h,Ep_none h,gadd_none,E2.one_mul]
   show _*1*1=_
   rw[E2.mul_one]
  | some q=>
   cases hs:gadd (some p) (some q) with
   | none=>
    have h:=lda_inf hs
    rw[Ep_none h,Ep_none h,Ep_none h,E2.one_mul,E2.mul_one]
    show _=1*1
    rw[E2.one_mul]
    have eq:=gadd_inf hP hQ e.c0 hs
    subst eq
    cases hL:lda A B with
    | none=>rw[Dp_none _ e hL,Dp_none _ e hL,E2.one_mul]
    | some l=>
     show et (evl f _ _ (lda A B))*et (evl f _ _ (lda A B))=1
     rw[hL,evl_ngp e]
     have k:=et_cj e.ns (evl_ne e hP (some l))
     rw[←k]
     generalize et (evl f (f0 p.1*Nrs.xi) (f0 p.2*Nrs.xi) (some l))=u
     generalize et (cj (evl f (f0 p.1*Nrs.xi) (f0 p.2*Nrs.xi) (some l)))=v
     grind
   | some t=>
    have hl:=lda_some hs
    have ot:OnC b0 (some t):=hs ▸ gadd_on e.c0 _ _ hP hQ
    cases A with
    | none=>
     rw[Dp_none _ e rfl,Dp_none _ e rfl,Dp_none _ e rfl,Ep_inf,E2.one_mul,E2.one_mul,E2.one_mul,E2.one_mul]
     rfl
    | some a=>
     cases B with
     | none=>
      rw[Dp_none _ e rfl,Dp_none _ e rfl,Dp_none _ e rfl,Ep_inf,E2.one_mul,E2.one_mul,E2.one_mul,E2.mul_one]
      rfl
     | some c=>
      cases hs2:gadd (some a) (some c) with
      | none=>
       rw[Dp_none _ e (lda_inf hs2),Dp_none _ e (lda_inf hs2),Dp_none _ e (lda_inf hs2),Ep_inf,E2.one_mul,E2.one_mul,E2.one_mul]
       have eq:=gadd_inf hA hB e.c hs2
       subst eq
       rw[Ep_some hl,Ep_some hl,lae_ngp e]
       have k:=et_ncj e (lae_ne e hA (slp p q,icp p q))
       rw[←k]
       generalize et (-cj (lae f0 f (slp p q,icp p q) a))=u
       generalize et (lae f0 f (slp p q,icp p q) a)=v
       grind
      | some s=>
       have os:OnC b (some s):=hs2 ▸ gadd_on e.c _ _ hA hB
       have R:=recip_gen e (tri_add e.c hA hB hs2) (tri_add e.c0 hP hQ hs)
       rw[Ep_some hl,Ep_some hl,Ep_some hl]
       show et (evl f _ _ (lda (some a) (some c)))*et (evl f _ _ (lda (some a) (some c)))*_=et (evl f _ _ (lda (some a) (some c)))*_
       rw[lda_some hs2]
       have n1:=evl_ne e hP (some (slp a c,icp a c))
       have n2:=evl_ne e hQ (some (slp a c,icp a c))
       have n3:=evl_ne e ot (some (slp a c,icp a c))
       have m1:=lae_ne e hA (slp p q,icp p q)
       have m2:=lae_ne e hB (slp p q,icp p q)
       have m3:=lae_ne e os (slp p q,icp p q)
       have E:=congrArg et R
       rw[et_mul e.ns (e2_ne e.ns n1 n2) (cj_ne e.ns n3),et_mul e.ns n1 n2,et_mul e.ns (e2_ne e.ns m1 m2) (cj_ne e.ns m3),et_mul e.ns m1 m2] at E
       have k1:=et_cj e.ns n3
       have k2:=et_cj e.ns m3
       clear R n1 n2 n3 m1 m2 m3
       generalize et (evl f (f0 p.1*Nrs.xi) (f0 p.2*Nrs.xi) (some (slp a c,icp a c)))=u1 at *
       generalize et (evl f (f0 q.1*Nrs.xi) (f0 q.2*Nrs.xi) (some (slp a c,icp a c)))=u2 at *
       generalize et (cj (evl f (f0 t.1*Nrs.xi) (f0 t.2*Nrs.xi) (some (slp a c,icp a c))))=u3 at *
       generalize et (evl f (f0 t.1*Nrs.xi) (f0 t.2*Nrs.xi) (some (slp a c,icp a c)))=u4 at *
       generalize et (lae f0 f (slp p q,icp p q) a)=v1 at *
       generalize et (lae f0 f (slp p q,icp p q) c)=v2 at *
       generalize et (cj (lae f0 f (slp p q,icp p q) s))=v3 at *
       generalize et (lae f0 f (slp p q,icp p q) s)=v4 at *
       have r1:u1*u2*v4=u1*u2*u3*u4*v4:=by
        have:u1*u2*u3*u4*v4=u1*u2*(u3*u4)*v4:=by clear E k1 k2;grind
        rw[this,k1,E2.mul_one]
       have r2:u4*(v1*v2)=v1*v2*v3*u4*v4:=by
        have:v1*v2*v3*u4*v4=u4*(v1*v2)*(v3*v4):=by clear E k1 k2 r1;grind
        rw[this,k2,E2.mul_one]
       rw[r1,r2,E]
end
end

set_option linter.unusedVariables false
set_option linter.unusedSectionVars false
section

section
variable {F:Type} [Fld F] [DecidableEq F] {b:F}
theorem lda_comm (hc:Cv b):∀{A B:Pt F},OnC b A→OnC b B→lda A B=lda B A
 | none,none,_,_=>rfl
 | none,some _,_,_=>rfl
 | some _,none,_,_=>rfl
 | some p,some q,hp,hq=>by
  have e:=gadd_comm hc _ _ hp hq
  cases hs:gadd (some p) (some q) with
  | none=>rw[lda_inf hs,lda_inf (e.symm.trans hs)]
  | some s=>
   have hs2:=e.symm.trans hs
   have k:=tri_is hc (tri_add hc hp hq hs).swap hq hs2
   rw[lda_some hs,lda_some hs2,k.1,k.2]
end

section
variable {F0 F K:Type} [Fld F0] [DecidableEq F0] [Fld F] [DecidableEq F] [Fld K] [DecidableEq K] [Nrs K] {b0:F0} {b:F} {f0:F0→K} {f:F→K}
theorem emb_x (e:Emb b0 b f0 f) {p:F0×F0} (hp:OnC b0 (some p)):Nrs.xi*(f0 p.2*Nrs.xi*(f0 p.2*Nrs.xi))=f0 p.1*Nrs.xi*(f0 p.1*Nrs.xi)*(f0 p.1*Nrs.xi)+f b:=by
 have hp:p.2*p.2=p.1*p.1*p.1+b0:=hp
 have h:f0 p.2*f0 p.2=f0 p.1*f0 p.1*f0 p.1+f0 b0:=by rw[←e.h0.mul,hp,e.h0.add,e.h0.mul,e.h0.mul]
 have hb:=e.hb
 rw[←hb]
 have:Nrs.xi*(f0 p.2*Nrs.xi*(f0 p.2*Nrs.xi))=Nrs.xi*Nrs.xi*Nrs.xi*(f0 p.2*f0 p.2):=by clear h hp hb;grind
 rw[this,h];clear this h hp hb;grind
theorem dp_coc (e:Emb b0 b f0 f) {P:Pt F0} (hP:OnC b0 P) {S:CP b→Prop} (hz:letI:=cpAG e.c;S 0) (ha:letI:=cpAG e.c;∀{x y:CP b},S x→S y→S (x+y))
  (h3:letI:=cpAG e.c;∀X:CP b,S X→(X+X+X=0→X=0)∧(X+X+X+X+X=0→X=0)):letI:=cpAG e.c;Coc S (fun A B:CP b=>Dp f0 f P A.1 B.1):=by
 letI:=cpAG e.c
 refine ⟨hz,ha,fun {x} hx=>?_,fun {x y} hx hy=>?_,fun {x y z} hx hy hz=>?_⟩
 ·exact Dp_none P e (A:=none) rfl
 ·show Dp f0 f P x.1 y.1=Dp f0 f P y.1 x.1
  cases P with
  | none=>rfl
  | some p=>
   show et (evl f _ _ (lda x.1 y.1))=et (evl f _ _ (lda y.1 x.1))
   rw[lda_comm e.c x.2 y.2]
 ·show Dp f0 f P x.1 y.1*Dp f0 f P (gadd x.1 y.1) z.1=Dp f0 f P y.1 z.1*Dp f0 f P x.1 (gadd y.1 z.1)
  cases P with
  | none=>rfl
  | some p=>
   have k:=cocy e.c e.h (emb_x e hP) x.2 y.2 z.2 (fun X hX=>by
    rcases hX with h | h
    ·have:X=x:=Subtype.ext h
     subst this;exact h3 _ hx
    ·have:X=y:=Subtype.ext h
     subst this;exact h3 _ hy)
   have n:=fun L=>evl_ne (f:=f) e hP L
   have k2:=et_ass e.ns (e2_ne e.ns (n _) (n _)) (e2_ne e.ns (n _) (n _)) k
   rw[et_mul e.ns (n _) (n _),et_mul e.ns (n _) (n _)] at k2
   exact k2
/-- The factor of the whole way is that of the points' sum, but for the line through both. -/
theorem dp_gth (e:Emb b0 b f0 f) {P Q:Pt F0} (hP:OnC b0 P) (hQ:OnC b0 Q) (A:CP b) (n:Nat):letI:=cpAG e.c;
  gth (fun A B:CP b=>Dp f0 f P A.1 B.1) A n*gth (fun A B:CP b=>Dp f0 f Q A.1 B.1) A n*Ep f0 f P Q (mlt A n).1=gth (fun A B:CP b=>Dp f0 f (gadd P Q) A.1 B.1) A n*gpow (Ep f0 f P Q A.1) n:=by
 letI:=cpAG e.c
 refine gth_two (D1:=fun A B:CP b=>Dp f0 f P A.1 B.1) (D2:=fun A B:CP b=>Dp f0 f Q A.1 B.1) (D3:=fun A B:CP b=>Dp f0 f (gadd P Q) A.1 B.1) (E:=fun A:CP b=>Ep f0 f P Q A.1) (Ep_inf P Q) (fun n=>?_) n
 exact dp_sum e hP hQ (mlt A n).2 A.2
end
end

set_option linter.unusedVariables false
set_option linter.unusedSectionVars false
section

def nst (n:Nat) (z:Bool):Nat:=if z=true then n+n+1 else n+n
theorem nst_le:∀(l:List Bool) (n:Nat),n≤l.foldl nst n
 | [],n=>Nat.le_refl n
 | z::l,n=>by
  refine Nat.le_trans ?_ (nst_le l (nst n z))
  unfold nst
  split<;>omega

section
variable {F0 F K:Type} [Fld F0] [DecidableEq F0] [Fld F] [DecidableEq F] [Fld K] [DecidableEq K] [Nrs K] {b0:F0} {b:F} {f0:F0→K} {f:F→K}
def mstK (T1 T2:F×F×F→E2 K) (q:F×F×F) (s:(F×F×F)×E2 K) (z:Bool):(F×F×F)×E2 K:=
 if z=true then (jpl (jtw s.1) q,s.2*s.2*T1 s.1*T2 (jtw s.1)) else (jtw s.1,s.2*s.2*T1 s.1)
theorem low_ne (k:K) (hk:k≠0):(⟨k,0⟩:E2 K)≠0:=fun h=>hk (congrArg E2.a h)
theorem et_scaled (h:∀t:K,t*t≠Nrs.xi) {k:K} (hk:k≠0) {u:E2 K} (hu:u≠0):et ((⟨k,0⟩:E2 K)*u)=et u∧(⟨k,0⟩:E2 K)*u≠0:=
 ⟨by rw[et_mul h (low_ne k hk) hu,et_low h hk,E2.one_mul],e2_ne h (low_ne k hk) hu⟩

theorem mil_inv (e:Emb b0 b f0 f) {p0:F0×F0} (hP:OnC b0 (some p0)) {S:CP b→Prop} (hC:letI:=cpAG e.c;Coc S (fun A B:CP b=>Dp f0 f (some p0) A.1 B.1)) {Q:CP b} (hQ:S Q) {q:F×F} (hq:Q.1=some q) {q3:F×F×F} (hq3:Jc (some q) q3) {T1 T2:F×F×F→E2 K}
  (h1:∀(p:F×F) (t:F×F×F),OnC b (some p)→Jc (some p) t→∃k,k≠0∧T1 t=(⟨k,0⟩:E2 K)*evl f (f0 p0.1*Nrs.xi) (f0 p0.2*Nrs.xi) (lda (some p) (some p)))
  (h2:∀(p:F×F) (t:F×F×F),OnC b (some p)→Jc (some p) t→p.1≠q.1→∃k,k≠0∧T2 t=(⟨k,0⟩:E2 K)*evl f (f0 p0.1*Nrs.xi) (f0 p0.2*Nrs.xi) (lda (some p) (some q))) :
  letI:=cpAG e.c;∀(l:List Bool) (n:Nat) (s:(F×F×F)×E2 K),1≤n→(∀m,0<m→m≤l.foldl nst n+1→mlt Q m≠0)→Jc (mlt Q n).1 s.1→s.2≠0→et s.2=gth (fun A B:CP b=>Dp f0 f (some p0) A.1 B.1) Q n →
   Jc (mlt Q (l.foldl nst n)).1 (l.foldl (mstK T1 T2 q3) s).1∧(l.foldl (mstK T1 T2 q3) s).2≠0∧et (l.foldl (mstK T1 T2 q3) s).2=gth (fun A B:CP b=>Dp f0 f (some p0) A.1 B.1) Q (l.foldl nst n):=by
 letI:=cpAG e.c
 intro l
 induction l with
 | nil=>intro n s _ _ j1 j2 j3;exact ⟨j1,j2,j3⟩
 | cons z l ih=>
  intro n s hn hm j1 j2 j3
  have hle:=nst_le l (nst n z)
  have hnz:n+n≤nst n z:=by unfold nst;split<;>omega
  have hm:∀m,0<m→m≤l.foldl nst (nst n z)+1→mlt Q m≠0:=hm
  have hA:=hm n (by omega) (by omega)
  have hB:=hm (n+n) (by omega) (by omega)
  have hV:=hm (n+n-1) (by omega) (by omega)
  have eV:mlt Q (n+n)=mlt Q (n+n-1)+Q:=by
   obtain ⟨k,hk⟩:∃k,n+n=k+1:=⟨n+n-1,by omega⟩
   rw[hk];rfl
  have eU:mlt Q (n+n+1)=mlt Q (n+n)+Q:=rfl
  have eB:(mlt Q (n+n)).1=gadd (mlt Q n).1 (mlt Q n).1:=congrArg Subtype.val (mlt_add Q n n)
  have g2:=gth_add hC hQ n n
  have gU:gth (fun A B:CP b=>Dp f0 f (some p0) A.1 B.1) Q (n+n+1)=gth (fun A B:CP b=>Dp f0 f (some p0) A.1 B.1) Q (n+n)*Dp f0 f (some p0) (mlt Q (n+n)).1 Q.1:=rfl
  have J1:Jc (mlt Q (n+n)).1 (jtw s.1):=by rw[eB];exact jtw_ok e.c.two _ s.1 j1
  have st:∃p,(mlt Q n).1=some p:=by
   cases h:(mlt Q n).1 with
   | none=>exact absurd (Subtype.ext h) hA
   | some p=>exact ⟨p,rfl⟩
  obtain ⟨p,hp⟩:=st
  have op:OnC b (some p):=hp ▸ (mlt Q n).2
  rw[hp] at j1
  obtain ⟨k1,hk1,t1⟩:=h1 p s.1 op j1
  have X1:=et_scaled e.ns hk1 (evl_ne (f:=f) e hP (lda (some p) (some p)))
  rw[←t1] at X1
  have n2:=e2_ne e.ns (e2_ne e.ns j2 j2) X1.2
  have e2:et (s.2*s.2*T1 s.1)=gth (fun A B:CP b=>Dp f0 f (some p0) A.1 B.1) Q (n+n):=by
   rw[et_mul e.ns (e2_ne e.ns j2 j2) X1.2,et_mul e.ns j2 j2,j3,X1.1,g2]
   show _=_*Dp f0 f (some p0) (mlt Q n).1 (mlt Q n).1
   rw[hp]
   rfl
  have step:Jc (mlt Q (nst n z)).1 (mstK T1 T2 q3 s z).1∧(mstK T1 T2 q3 s z).2≠0∧et (mstK T1 T2 q3 s z).2=gth (fun A B:CP b=>Dp f0 f (some p0) A.1 B.1) Q (nst n z):=by
   cases z with
   | false=>exact ⟨J1,n2,e2⟩
   | true=>
    have hU:=hm (n+n+1) (by omega) (by omega)
    have st:∃p,(mlt Q (n+n)).1=some p:=by
     cases h:(mlt Q (n+n)).1 with
     | none=>exact absurd (Subtype.ext h) hB
     | some p=>exact ⟨p,rfl⟩
    obtain ⟨p2,hp2⟩:=st
    have op2:OnC b (some p2):=hp2 ▸ (mlt Q (n+n)).2
    have oq:OnC b (some q):=hq ▸ Q.2
    have hx:p2.1≠q.1:=by
     intro ex
     rcases x_same op2 oq ex with h | h
     ·have:mlt Q (n+n)=Q:=Subtype.ext (by rw[hp2,hq,h])
      rw[this] at eV
      exact hV (by clear ih hm g2 gU e2 eU eB this;grind)
     ·apply hU
      rw[eU]
      refine Subtype.ext ?_
      show gadd (mlt Q (n+n)).1 Q.1=none
      rw[hp2,hq,h]
      exact gadd_gneg e.c _ op2
    have J2:=J1
    rw[hp2] at J2
    obtain ⟨k2,hk2,t2⟩:=h2 p2 (jtw s.1) op2 J2 hx
    have X2:=et_scaled e.ns hk2 (evl_ne (f:=f) e hP (lda (some p2) (some q)))
    rw[←t2] at X2
    have jq:Jc Q.1 q3:=hq ▸ hq3
    refine ⟨jpl_ok e.c.two _ _ _ _ J1 jq,e2_ne e.ns n2 X2.2,?_⟩
    show et (s.2*s.2*T1 s.1*T2 (jtw s.1))=gth (fun A B:CP b=>Dp f0 f (some p0) A.1 B.1) Q (n+n+1)
    rw[et_mul e.ns n2 X2.2,e2,X2.1,gU,hp2,hq]
    rfl
  exact ih (nst n z) (mstK T1 T2 q3 s z) (by omega) hm step.1 step.2.1 step.2.2
end
end

set_option linter.unusedVariables false
set_option linter.unusedSectionVars false
section

section
variable {F:Type} [Fld F] [DecidableEq F] {b:F}
theorem lda_neg (hc:Cv b):∀{A B:Pt F},OnC b A→OnC b B→lda (gneg A) (gneg B)=(lda A B).map fun l=>(0-l.1,0-l.2)
 | none,none,_,_=>rfl
 | none,some _,_,_=>rfl
 | some _,none,_,_=>rfl
 | some p,some q,hp,hq=>by
  have np:OnC b (some (ngp p)):=gneg_on _ hp
  have nq:OnC b (some (ngp q)):=gneg_on _ hq
  show lda (some (ngp p)) (some (ngp q))=_
  cases hs:gadd (some p) (some q) with
  | none=>
   rw[lda_inf hs]
   refine lda_inf ?_
   have e:=gadd_inf hp hq hc hs
   subst e
   exact gadd_gneg hc _ np
  | some s=>
   have T:=tri_add hc hp hq hs
   cases hn:gadd (some (ngp p)) (some (ngp q)) with
   | none=>
    have e:=gadd_inf np nq hc hn
    have e:q=ngp p:=by rw[←ngp_ngp q,e,ngp_ngp]
    subst e
    have:=gadd_gneg hc _ hp
    rw[show gneg (some p)=some (ngp p) from rfl,hs] at this
    cases this
   | some n=>
    have k:=tri_is hc T.mir np hn
    rw[lda_some hs,lda_some hn,k.1,k.2]
    rfl
variable (sg:F→F) (g:F)
def tu (p:F×F):F×F:=(sg p.1*(g*g),sg p.2*(g*g*g))
/-- Both coordinates turned, each times a power of g. -/
def ptu (P:Pt F):Pt F:=P.map (tu sg g)
structure Tu (b:F):Prop where
 h:Hom sg
 i:∀x,sg x=0→x=0
 g0:g≠0
 b:sg b*(g*g*g*(g*g*g))=b
variable {sg g}
theorem tu_on (t:Tu sg g b):∀{P:Pt F},OnC b P→OnC b (ptu sg g P)
 | none,_=>trivial
 | some p,h=>by
  have h:p.2*p.2=p.1*p.1*p.1+b:=h
  show sg p.2*(g*g*g)*(sg p.2*(g*g*g))=sg p.1*(g*g)*(sg p.1*(g*g))*(sg p.1*(g*g))+b
  have k:sg p.2*sg p.2=sg p.1*sg p.1*sg p.1+sg b:=by rw[←t.h.mul,h,t.h.add,t.h.mul,t.h.mul]
  have kb:=t.b
  generalize sg p.1=x at *
  generalize sg p.2=y at *
  have e1:y*(g*g*g)*(y*(g*g*g))=y*y*(g*g*g*(g*g*g)):=by clear k kb h;grind
  have e2:x*(g*g)*(x*(g*g))*(x*(g*g))=x*x*x*(g*g*g*(g*g*g)):=by clear k kb h e1;grind
  rw[e1,e2,k]
  have e3:(x*x*x+sg b)*(g*g*g*(g*g*g))=x*x*x*(g*g*g*(g*g*g))+sg b*(g*g*g*(g*g*g)):=by clear k kb h e1 e2;grind
  rw[e3,kb]
theorem tu_neg (t:Tu sg g b) (p:F×F):tu sg g (ngp p)=ngp (tu sg g p):=by
 refine Prod.ext rfl ?_
 show sg (0-p.2)*(g*g*g)=0-sg p.2*(g*g*g)
 rw[t.h.sub,t.h.zero];grind
theorem tu_inj (t:Tu sg g b) {p q:F×F} (h:tu sg g p=tu sg g q):p=q:=by
 have g2:g*g≠0:=fmul_ne t.g0 t.g0
 have k1:=fcan g2 (congrArg Prod.fst h)
 have k2:=fcan (fmul_ne g2 t.g0) (congrArg Prod.snd h)
 have key:∀{x y:F},sg x=sg y→x=y:=by
  intro x y e
  have:sg (x-y)=0:=by rw[t.h.sub,e];clear e;grind
  have:=t.i _ this
  clear e k1 k2 g2;grind
 exact Prod.ext (key k1) (key k2)
theorem tu_tri (t:Tu sg g b) {l m:F} {p q r:F×F} (h:Tri b l m p q r):Tri b (sg l*g) (sg m*(g*g*g)) (tu sg g p) (tu sg g q) (tu sg g r):=by
 obtain ⟨⟨a1,a2,a3⟩,h1,h2,h3⟩:=h
 have im:∀{y x:F},y=l*x+m→sg y*(g*g*g)=sg l*g*(sg x*(g*g))+sg m*(g*g*g):=by
  intro y x h
  rw[h,t.h.add,t.h.mul];grind
 have kb:=t.b
 have b1:sg p.1+sg q.1+sg r.1=sg l*sg l:=by rw[←t.h.add,←t.h.add,a1,t.h.mul]
 have b2:sg p.1*sg q.1+sg p.1*sg r.1+sg q.1*sg r.1=0-(sg l*sg m+sg l*sg m):=by
  rw[←t.h.zero]
  simp only[←t.h.mul,←t.h.add,←t.h.sub]
  rw[a2]
 have b3:sg p.1*sg q.1*sg r.1=sg m*sg m-sg b:=by
  simp only[←t.h.mul,←t.h.sub]
  rw[a3]
 refine ⟨⟨?_,?_,?_⟩,im h1,im h2,im h3⟩
 all_goals
  clear im h1 h2 h3 a1 a2 a3
  unfold tu
  dsimp only
  generalize sg p.1=x at *
  generalize sg q.1=y at *
  generalize sg r.1=z at *
  generalize sg l=L at *
  generalize sg m=N at *
 ·have:x*(g*g)+y*(g*g)+z*(g*g)=(x+y+z)*(g*g):=by clear b1 b2 b3 kb;grind
  rw[this,b1];clear b1 b2 b3 kb this;grind
 ·have:x*(g*g)*(y*(g*g))+x*(g*g)*(z*(g*g))+y*(g*g)*(z*(g*g))=(x*y+x*z+y*z)*(g*g*(g*g)):=by clear b1 b2 b3 kb;grind
  rw[this,b2];clear b1 b2 b3 kb this;grind
 ·have:x*(g*g)*(y*(g*g))*(z*(g*g))=(x*y*z)*(g*g*g*(g*g*g)):=by clear b1 b2 b3 kb;grind
  rw[this,b3]
  have:(N*N-sg b)*(g*g*g*(g*g*g))=N*(g*g*g)*(N*(g*g*g))-sg b*(g*g*g*(g*g*g)):=by clear b1 b2 b3 kb this;grind
  rw[this,kb]
theorem lda_tu (hc:Cv b) (t:Tu sg g b):∀{A B:Pt F},OnC b A→OnC b B→lda (ptu sg g A) (ptu sg g B)=(lda A B).map (fun l=>(sg l.1*g,sg l.2*(g*g*g)))∧gadd (ptu sg g A) (ptu sg g B)=ptu sg g (gadd A B)
 | none,none,_,_=>⟨rfl,rfl⟩
 | none,some _,_,_=>⟨rfl,rfl⟩
 | some _,none,_,_=>⟨rfl,rfl⟩
 | some p,some q,hp,hq=>by
  have np:OnC b (some (tu sg g p)):=tu_on t hp
  have nq:OnC b (some (tu sg g q)):=tu_on t hq
  show lda (some (tu sg g p)) (some (tu sg g q))=_∧gadd (some (tu sg g p)) (some (tu sg g q))=_
  cases hs:gadd (some p) (some q) with
  | none=>
   rw[lda_inf hs]
   have e:=gadd_inf hp hq hc hs
   subst e
   have:gadd (some (tu sg g p)) (some (tu sg g (ngp p)))=none:=by rw[tu_neg t];exact gadd_gneg hc _ np
   exact ⟨lda_inf this,this⟩
  | some s=>
   have T:=tri_add hc hp hq hs
   cases hn:gadd (some (tu sg g p)) (some (tu sg g q)) with
   | none=>
    have e:=gadd_inf np nq hc hn
    rw[←tu_neg t] at e
    have e:=tu_inj t e
    subst e
    have:=gadd_gneg hc _ hp
    rw[show gneg (some p)=some (ngp p) from rfl,hs] at this
    cases this
   | some n=>
    have U:=tu_tri t T
    have k:=tri_is hc U np hn
    have V:=tri_add hc np nq hn
    rw[k.1,k.2] at V
    have e1:(ngp n).1=(tu sg g (ngp s)).1:=by
     have a:=V.ln.e1
     have c:=U.ln.e1
     generalize (ngp n).1=x at *
     generalize (tu sg g (ngp s)).1=y at *
     generalize (tu sg g p).1=u at *
     generalize (tu sg g q).1=v at *
     clear V U T k hs hn;grind
    have e2:(ngp n).2=(tu sg g (ngp s)).2:=by rw[V.y3,U.y3,e1]
    have e3:n=tu sg g s:=by
     have:=congrArg ngp (Prod.ext e1 e2:ngp n=tu sg g (ngp s))
     rw[ngp_ngp,tu_neg t,ngp_ngp] at this
     exact this
    rw[lda_some hs,lda_some hn,k.1,k.2,e3]
    exact ⟨rfl,rfl⟩
end

section
variable {F0 F K:Type} [Fld F0] [DecidableEq F0] [Fld F] [DecidableEq F] [Fld K] [DecidableEq K] [Nrs K] {b0:F0} {b:F} {f0:F0→K} {f:F→K}
theorem dp_neg (e:Emb b0 b f0 f) {P:Pt F0} (hP:OnC b0 P) {A B:Pt F} (hA:OnC b A) (hB:OnC b B):Dp f0 f P (gneg A) (gneg B)*Dp f0 f P A B=1:=by
 cases P with
 | none=>exact E2.one_mul 1
 | some p=>
  show et (evl f _ _ (lda (gneg A) (gneg B)))*et (evl f _ _ (lda A B))=1
  rw[lda_neg e.c hA hB]
  cases lda A B with
  | none=>
   show et 1*et 1=1
   rw[et_one e.ns,E2.one_mul]
  | some l=>
   have:evl f (f0 p.1*Nrs.xi) (f0 p.2*Nrs.xi) ((some l).map fun l:F×F=>(0-l.1,0-l.2)) = -cj (evl f (f0 p.1*Nrs.xi) (f0 p.2*Nrs.xi) (some l)):=by
    refine E2.ext' ?_ ?_
    ·show -(f (0-l.1)*_+f (0-l.2)) = - -(f l.1*_+f l.2)
     rw[neg_line e.h]
    ·show f0 p.2*Nrs.xi = - -(f0 p.2*Nrs.xi)
     generalize f0 p.2*Nrs.xi=u
     clear hP;grind
   rw[this]
   exact et_ncj e (evl_ne e hP (some l))
theorem ep_neg (e:Emb b0 b f0 f) (P Q:Pt F0) {A:Pt F} (hA:OnC b A):Ep f0 f P Q (gneg A)*Ep f0 f P Q A=1:=by
 cases A with
 | none=>
  show Ep f0 f P Q none*Ep f0 f P Q none=1
  rw[Ep_inf,E2.one_mul]
 | some a=>
  cases h:lda P Q with
  | none=>rw[Ep_none h,Ep_none h,E2.one_mul]
  | some l=>
   show Ep f0 f P Q (some (ngp a))*_=1
   rw[Ep_some h,Ep_some h,lae_ngp e]
   exact et_ncj e (lae_ne e hA l)
variable {sg:F→F} {g:F} {fr:E2 K→E2 K}
/-- The power that turns lines. -/
structure Frl (f0:F0→K) (f:F→K) (sg:F→F) (g:F) (fr:E2 K→E2 K):Prop where
 m:∀x y,fr (x*y)=fr x*fr y
 o:fr 1=1
 c:∀x,fr (cj x)=cj (fr x)
 e:∀(x y:F0) (l m:F),Ass (evl f (f0 x*Nrs.xi) (f0 y*Nrs.xi) (some (sg l*g,sg m*(g*g*g)))) (fr (evl f (f0 x*Nrs.xi) (f0 y*Nrs.xi) (some (l,m))))
 l:∀(l:F0×F0) (a:F×F),Ass (lae f0 f l (tu sg g a)) (fr (lae f0 f l a))
theorem fr_ne (e:Emb b0 b f0 f) (h:Frl f0 f sg g fr) {u:E2 K} (hu:u≠0):fr u≠0:=fun k=>by
 have:=congrArg fr (invE2_mul e.ns u hu)
 rw[h.m,h.o,k] at this
 have z:(0:E2 K)*fr (invE2 u)=0:=by generalize fr (invE2 u)=v;clear this k hu;grind
 rw[z] at this
 exact Fld.one_ne (congrArg E2.a this).symm
theorem fr_et (e:Emb b0 b f0 f) (h:Frl f0 f sg g fr) {u:E2 K} (hu:u≠0):fr (et u)=et (fr u):=by
 refine et_is e.ns (fr_ne e h hu) ?_
 rw[←h.m,et_mul_self e.ns hu,h.c]
theorem dp_tu (e:Emb b0 b f0 f) (t:Tu sg g b) (h:Frl f0 f sg g fr) {P:Pt F0} (hP:OnC b0 P) {A B:Pt F} (hA:OnC b A) (hB:OnC b B):Dp f0 f P (ptu sg g A) (ptu sg g B)=fr (Dp f0 f P A B):=by
 cases P with
 | none=>exact h.o.symm
 | some p=>
  show et (evl f _ _ (lda (ptu sg g A) (ptu sg g B)))=fr (et (evl f _ _ (lda A B)))
  rw[(lda_tu e.c t hA hB).1,fr_et e h (evl_ne e hP _)]
  cases lda A B with
  | none=>show et 1=et (fr 1);rw[h.o]
  | some l=>exact et_ass e.ns (evl_ne e hP _) (fr_ne e h (evl_ne e hP _)) (h.e _ _ _ _)
theorem ep_tu (e:Emb b0 b f0 f) (t:Tu sg g b) (h:Frl f0 f sg g fr) (P Q:Pt F0) {A:Pt F} (hA:OnC b A):Ep f0 f P Q (ptu sg g A)=fr (Ep f0 f P Q A):=by
 cases A with
 | none=>
  show Ep f0 f P Q none=_
  rw[Ep_inf,h.o]
 | some a=>
  cases k:lda P Q with
  | none=>rw[Ep_none k,Ep_none k,h.o]
  | some l=>
   show Ep f0 f P Q (some (tu sg g a))=_
   rw[Ep_some k,Ep_some k,fr_et e h (lae_ne e hA l)]
   exact et_ass e.ns (lae_ne e (tu_on t hA) l) (fr_ne e h (lae_ne e hA l)) (h.l l a)
/-- Sums of points of the second curve. -/
theorem gth_addR (e:Emb b0 b f0 f) (t:Tu sg g b) (h:Frl f0 f sg g fr) {P:Pt F0} (hP:OnC b0 P) {S:CP b→Prop} (hC:letI:=cpAG e.c;Coc S (fun A B:CP b=>Dp f0 f P A.1 B.1)) {A B:CP b} (hA:S A) (hB:S B) {n:Nat} :
  letI:=cpAG e.c;(mlt A n).1=gneg (ptu sg g A.1)→(mlt B n).1=gneg (ptu sg g B.1) →
   gth (fun A B:CP b=>Dp f0 f P A.1 B.1) (A+B) n*(gpow (Dp f0 f P A.1 B.1) n*fr (Dp f0 f P A.1 B.1))=gth (fun A B:CP b=>Dp f0 f P A.1 B.1) A n*gth (fun A B:CP b=>Dp f0 f P A.1 B.1) B n:=by
 letI:=cpAG e.c
 intro eA eB
 have k:=gth_sum hC hA hB n
 rw[eA,eB] at k
 have j:=dp_neg e hP (tu_on t A.2) (tu_on t B.2)
 rw[dp_tu e t h hP A.2 B.2] at j
 generalize gth (fun A B:CP b=>Dp f0 f P A.1 B.1) (A+B) n=x1 at *
 generalize gth (fun A B:CP b=>Dp f0 f P A.1 B.1) A n=x2 at *
 generalize gth (fun A B:CP b=>Dp f0 f P A.1 B.1) B n=x3 at *
 generalize gpow (Dp f0 f P A.1 B.1) n=x4 at *
 generalize fr (Dp f0 f P A.1 B.1)=x5 at *
 generalize Dp f0 f P (gneg (ptu sg g A.1)) (gneg (ptu sg g B.1))=x6 at *
 have e1:x1*(x4*x5)=x1*x4*x5:=by clear k j eA eB hC;grind
 have e2:x2*x3*x6*x5=x2*x3*(x6*x5):=by clear k j eA eB hC e1;grind
 rw[e1,k,e2,j]
 clear k j eA eB hC e1 e2;grind
/-- Sums of points of the first curve. -/
theorem gth_addL (e:Emb b0 b f0 f) (t:Tu sg g b) (h:Frl f0 f sg g fr) {P Q:Pt F0} (hP:OnC b0 P) (hQ:OnC b0 Q) (A:CP b) {n:Nat} :
  letI:=cpAG e.c;(mlt A n).1=gneg (ptu sg g A.1) →
   gth (fun A B:CP b=>Dp f0 f (gadd P Q) A.1 B.1) A n*(gpow (Ep f0 f P Q A.1) n*fr (Ep f0 f P Q A.1))=gth (fun A B:CP b=>Dp f0 f P A.1 B.1) A n*gth (fun A B:CP b=>Dp f0 f Q A.1 B.1) A n:=by
 letI:=cpAG e.c
 intro eA
 have k:=dp_gth e hP hQ A n
 rw[eA] at k
 have j:=ep_neg e P Q (tu_on t A.2)
 rw[ep_tu e t h P Q A.2] at j
 generalize gth (fun A B:CP b=>Dp f0 f (gadd P Q) A.1 B.1) A n=x1 at *
 generalize gth (fun A B:CP b=>Dp f0 f P A.1 B.1) A n=x2 at *
 generalize gth (fun A B:CP b=>Dp f0 f Q A.1 B.1) A n=x3 at *
 generalize gpow (Ep f0 f P Q A.1) n=x4 at *
 generalize fr (Ep f0 f P Q A.1)=x5 at *
 generalize Ep f0 f P Q (gneg (ptu sg g A.1))=x6 at *
 have e1:x1*(x4*x5)=x1*x4*x5:=by clear k j eA;grind
 have e2:x2*x3*x6*x5=x2*x3*(x6*x5):=by clear k j eA e1;grind
 rw[e1,←k,e2,j]
 clear k j eA e1 e2;grind
end
end

set_option linter.unusedVariables false
set_option linter.unusedSectionVars false
section

section
variable {F:Type} [Fld F]
/-- A line, by its three coordinates. -/
def linG (a b c:F):E2 (E3 F):=⟨⟨a,b,0⟩,⟨0,c,0⟩⟩
/-- The line that touches, the line through two, at x and y. -/
def tchG (t:F×F×F) (x y:F):E2 (E3 F):=
 linG ((t.1*t.1+t.1*t.1+t.1*t.1)*t.1-t.2.1*t.2.1-t.2.1*t.2.1) (0-(t.1*t.1+t.1*t.1+t.1*t.1)*(t.2.2*t.2.2)*x) ((t.2.1*(t.2.2*t.2.2)*t.2.2+t.2.1*(t.2.2*t.2.2)*t.2.2)*y)
def thgG (t q:F×F×F) (x y:F):E2 (E3 F):=
 linG ((q.2.1*(t.2.2*t.2.2)*t.2.2-t.2.1)*q.1-q.2.1*((q.1*(t.2.2*t.2.2)-t.1)*t.2.2)) (0-(q.2.1*(t.2.2*t.2.2)*t.2.2-t.2.1)*x) ((q.1*(t.2.2*t.2.2)-t.1)*t.2.2*y)
theorem tch_num {X Y Z xt yt l m i:F} (hX:X=xt*(Z*Z)) (hY:Y=yt*(Z*Z*Z)) (hi:(yt+yt)*i=1) (hl:l=thrice (xt*xt)*i) (hm:m=yt-l*xt) :
  (X*X+X*X+X*X)*X-Y*Y-Y*Y = -m*(Y*(Z*Z)*Z+Y*(Z*Z)*Z)∧(X*X+X*X+X*X)*(Z*Z)=l*(Y*(Z*Z)*Z+Y*(Z*Z)*Z):=by
 have k:l*(yt+yt)=xt*xt+xt*xt+xt*xt:=by
  rw[hl];unfold thrice
  have:(xt*xt+xt*xt+xt*xt)*i*(yt+yt)=(xt*xt+xt*xt+xt*xt)*((yt+yt)*i):=by clear hX hY hi hl hm;grind
  rw[this,hi];clear this hX hY hi hl hm;grind
 clear hi hl
 subst hX hY hm
 constructor
 ·have:-(yt-l*xt)*(yt*(Z*Z*Z)*(Z*Z)*Z+yt*(Z*Z*Z)*(Z*Z)*Z)=(l*(yt+yt))*xt*(Z*Z*Z*Z*Z*Z)-(yt*yt+yt*yt)*(Z*Z*Z*Z*Z*Z):=by clear k;grind
  rw[this,k];clear this k;grind
 ·have:l*(yt*(Z*Z*Z)*(Z*Z)*Z+yt*(Z*Z*Z)*(Z*Z)*Z)=l*(yt+yt)*(Z*Z*Z*Z*Z*Z):=by clear k;grind
  rw[this,k];clear this k;grind
theorem thg_num {X Y Z xt yt xq yq l m i:F} (hX:X=xt*(Z*Z)) (hY:Y=yt*(Z*Z*Z)) (hi:(xq-xt)*i=1) (hl:l=(yq-yt)*i) (hm:m=yt-l*xt) :
  (yq*(Z*Z)*Z-Y)*xq-yq*((xq*(Z*Z)-X)*Z) = -m*((xq*(Z*Z)-X)*Z)∧yq*(Z*Z)*Z-Y=l*((xq*(Z*Z)-X)*Z):=by
 have k:l*(xq-xt)=yq-yt:=by
  rw[hl]
  have:(yq-yt)*i*(xq-xt)=(yq-yt)*((xq-xt)*i):=by clear hX hY hi hl hm;grind
  rw[this,hi];clear this hX hY hi hl hm;grind
 clear hi hl
 subst hX hY hm
 have k2:yq=l*(xq-xt)+yt:=by rw[k];clear k;grind
 subst k2
 clear k
 constructor<;>grind
end

section
variable {F:Type} [Fld F] [DecidableEq F] [Nrs F] {b:F}
/-- v, whose square root is joined. -/
@[reducible] def nrsE3:Nrs (E3 F):=⟨⟨0,1,0⟩⟩
def upE (x:F):E3 F:=⟨x,0,0⟩
theorem evl_lin (x y:F) (l m k:F):letI:=nrsE3 (F:=F);(⟨upE k,0⟩:E2 (E3 F))*evl upE (upE x*Nrs.xi) (upE y*Nrs.xi) (some (l,m))=linG (-m*k) (0-l*k*x) (k*y):=by
 letI:=nrsE3 (F:=F)
 refine E2.ext' (E3.ext' ?_ ?_ ?_) (E3.ext' ?_ ?_ ?_)
 all_goals
  simp only[evl,linG,upE,Nrs.xi,E2.mul_a,E2.mul_b,E3.mul_a,E3.mul_b,E3.mul_c,E3.add_a,E3.add_b,E3.add_c,E3.neg_a,E3.neg_b,E3.neg_c,E3.zero_a,E3.zero_b,E3.zero_c]
  grind
theorem tch_is (hc:Cv b) {p:F×F} (hp:OnC b (some p)) {t:F×F×F} (ht:Jc (some p) t) (x y:F):letI:=nrsE3 (F:=F);∃k,k≠0∧tchG t x y=(⟨upE k,0⟩:E2 (E3 F))*evl upE (upE x*Nrs.xi) (upE y*Nrs.xi) (lda (some p) (some p)):=by
 letI:=nrsE3 (F:=F)
 obtain ⟨hz,hX,hY⟩:=ht
 have hy:=y_ne hc (x:=p.1) (y:=p.2) hp
 have h2:p.2+p.2≠0:=fun e=>by
  have:((1:F)+1)*p.2=0:=by rw[←e];clear e hX hY;grind
  exact fmul_ne hc.two hy this
 have hd:∃s,gadd (some p) (some p)=some s:=by
  unfold gadd
  dsimp only
  rw[if_pos rfl,if_pos ⟨rfl,hy⟩]
  exact ⟨_,rfl⟩
 obtain ⟨s,hs⟩:=hd
 rw[lda_some hs]
 have N:=tch_num (l:=slp p p) (m:=icp p p) hX hY (Fld.mul_inv _ h2) (by unfold slp;rw[if_pos rfl]) rfl
 refine ⟨t.2.1*(t.2.2*t.2.2)*t.2.2+t.2.1*(t.2.2*t.2.2)*t.2.2,?_,?_⟩
 ·have:t.2.1*(t.2.2*t.2.2)*t.2.2+t.2.1*(t.2.2*t.2.2)*t.2.2=(p.2+p.2)*(t.2.2*t.2.2*t.2.2*(t.2.2*t.2.2*t.2.2)):=by rw[hY];clear N hs hX hY h2 hy;grind
  rw[this]
  exact fmul_ne h2 (fmul_ne (fmul_ne (fmul_ne hz hz) hz) (fmul_ne (fmul_ne hz hz) hz))
 ·rw[evl_lin]
  unfold tchG
  rw[N.1,N.2]
theorem thg_is (hc:Cv b) {p q:F×F} (hp:OnC b (some p)) (hq:OnC b (some q)) (hne:p.1≠q.1) {t:F×F×F} (ht:Jc (some p) t) (z:F) (x y:F):letI:=nrsE3 (F:=F);∃k,k≠0∧thgG t (q.1,q.2,z) x y=(⟨upE k,0⟩:E2 (E3 F))*evl upE (upE x*Nrs.xi) (upE y*Nrs.xi) (lda (some p) (some q)):=by
 letI:=nrsE3 (F:=F)
 obtain ⟨hz,hX,hY⟩:=ht
 have hd:q.1-p.1≠0:=fun e=>hne (by clear hX hY;grind)
 have hs:∃s,gadd (some p) (some q)=some s:=by
  unfold gadd
  dsimp only
  rw[if_neg hne]
  exact ⟨_,rfl⟩
 obtain ⟨s,hs⟩:=hs
 rw[lda_some hs]
 have N:=thg_num (l:=slp p q) (m:=icp p q) hX hY (Fld.mul_inv _ hd) (by unfold slp;rw[if_neg hne]) rfl
 refine ⟨(q.1*(t.2.2*t.2.2)-t.1)*t.2.2,?_,?_⟩
 ·have:(q.1*(t.2.2*t.2.2)-t.1)*t.2.2=(q.1-p.1)*(t.2.2*t.2.2*t.2.2):=by rw[hX];clear N hs hX hY hd;grind
  rw[this]
  exact fmul_ne hd (fmul_ne (fmul_ne hz hz) hz)
 ·rw[evl_lin]
  unfold thgG
  dsimp only
  rw[N.1,N.2]
end
end

section

section
variable {M:Type} [IMod M]
theorem mlt_sub (x y:M):∀n,mlt (x-y) n=mlt x n-mlt y n
 | 0=>by show (0:M)=0-0;grind
 | n+1=>by
  show mlt (x-y) n+(x-y)=(mlt x n+x)-(mlt y n+y)
  rw[mlt_sub x y n];grind
theorem mlt_one (x:M):mlt x 1=x:=by show 0+x=x;grind
theorem mlt_swap (x:M) (m n:Nat):mlt (mlt x m) n=mlt (mlt x n) m:=by rw[←mlt_mul,←mlt_mul,Nat.mul_comm]
theorem mlt_gcd {S:M→Prop} (h0:S 0) (hs:∀x y,S x→S y→S (x-y)) {x:M}:∀d n,S (mlt x d)→S (mlt x n)→S (mlt x (Nat.gcd d n))
 | 0,n,_,h=>by rw[Nat.gcd_zero_left];exact h
 | d+1,n,h1,h2=>by
  rw[Nat.gcd_succ]
  refine mlt_gcd h0 hs (n % (d+1)) (d+1) ?_ h1
  have h3:mlt x n=mlt (mlt x (d+1)) (n / (d+1))+mlt x (n % (d+1)):=by
   rw[←mlt_mul,←mlt_add,Nat.div_add_mod]
  have hm:∀k,S (mlt (mlt x (d+1)) k):=by
   intro k
   induction k with
   | zero=>exact h0
   | succ k ih=>
    have:mlt (mlt x (d+1)) (k+1)=mlt (mlt x (d+1)) k-(0-mlt x (d+1)):=by
     show mlt (mlt x (d+1)) k+mlt x (d+1)=_
     generalize mlt (mlt x (d+1)) k=u
     generalize mlt x (d+1)=v
     clear ih h3 h1 h2 hs;grind
    rw[this]
    exact hs _ _ ih (hs _ _ h0 h1)
  have:mlt x (n % (d+1))=mlt x n-mlt (mlt x (d+1)) (n / (d+1)):=by
   rw[h3]
   generalize mlt (mlt x (d+1)) (n / (d+1))=u
   generalize mlt x (n % (d+1))=v
   clear h3 h1 h2 hs hm;grind
  rw[this]
  exact hs _ _ h2 (hm _)
 termination_by d=>d
 decreasing_by exact Nat.mod_lt _ (Nat.succ_pos d)
theorem mlt_zgcd {x:M} (d n:Nat) (h1:mlt x d=0) (h2:mlt x n=0) (h:Nat.gcd d n=1):x=0:=by
 have k:=mlt_gcd (S:=fun y:M=>y=0) rfl (fun x y hx hy=>by rw[hx,hy];grind) d n h1 h2
 rw[h,mlt_one] at k
 exact k
theorem ir_gcd {q c:Nat} (hq:Ir q) (h0:0<c) (h:c<q):Nat.gcd c q=1:=by
 rcases hq _ (Nat.gcd_dvd_right c q) with h | h
 ·exact h
 ·have:=Nat.gcd_le_left q h0
  omega
theorem mlt_ne {q:Nat} (hq:Ir q) {U:M} (hU:mlt U q=0) (nU:U≠0) {c:Nat} (h0:0<c) (h:c<q):mlt U c≠0:=fun e=>nU (mlt_zgcd c q e hU (ir_gcd hq h0 h))
theorem mlt_inj {q:Nat} (hq:Ir q) {U:M} (hU:mlt U q=0) (nU:U≠0) {i j:Nat} (hi:i<q) (hj:j<q) (e:mlt U i=mlt U j):i=j:=by
 have key:∀i c,0<c→i+c<q→mlt U i≠mlt U (i+c):=by
  intro i c hc hic e
  refine mlt_ne hq hU nU hc (by omega:c<q) ?_
  rw[mlt_add] at e
  generalize mlt U i=u at *
  generalize mlt U c=v at *
  clear hU nU;grind
 rcases Nat.lt_trichotomy i j with h | h | h
 ·exact absurd (by rw[e,show i+(j-i)=j from by omega]) (key i (j-i) (by omega) (by omega))
 ·exact h
 ·exact absurd (by rw[←e,show j+(i-j)=i from by omega]) (key j (i-j) (by omega) (by omega))
variable {r:Nat} {A H:M}
def Mul1 (H:M) (x:M):Prop:=∃n,x=mlt H n
theorem mul1_sub (hr:0<r) (hH:mlt H r=0) (x y:M):Mul1 H x→Mul1 H y→Mul1 H (x-y):=by
 rintro ⟨m,rfl⟩ ⟨n,rfl⟩
 refine ⟨m+n*(r-1),?_⟩
 rw[mlt_add]
 have e:mlt H (n*(r-1))+mlt H n=0:=by
  rw[←mlt_add,show n*(r-1)+n=r*n from by rw[Nat.mul_comm r,show r=r-1+1 from by omega,Nat.mul_add,Nat.mul_one];rfl,mlt_mul,hH,mlt_zero]
 generalize mlt H (n*(r-1))=u at *
 generalize mlt H n=v at *
 generalize mlt H m=w at *
 clear hH;grind
theorem inj_two (hr:Ir r) (hr0:0<r) (hA:mlt A r=0) (hH:mlt H r=0) (nH:H≠0) (nA:¬Mul1 H A) {i j k l:Nat} (hi:i<r) (hj:j<r) (hk:k<r) (hl:l<r) (e:mlt A i+mlt H j=mlt A k+mlt H l):i=k∧j=l:=by
 have key:∀i c j l,0<c→c<r→mlt A i+mlt H j=mlt A (i+c)+mlt H l→False:=by
  intro i c j l hc hcr e
  apply nA
  have k:=mlt_gcd (S:=Mul1 H) ⟨0,rfl⟩ (mul1_sub hr0 hH) (x:=A) c r ?_ ?_
  ·rw[ir_gcd hr hc hcr,mlt_one] at k
   exact k
  ·have:mlt A c=mlt H j-mlt H l:=by
    rw[mlt_add] at e
    generalize mlt A i=u at *
    generalize mlt A c=v at *
    generalize mlt H j=w at *
    generalize mlt H l=x at *
    clear hA hH nH nA;grind
   rw[this]
   exact mul1_sub hr0 hH _ _ ⟨_,rfl⟩ ⟨_,rfl⟩
  ·rw[hA];exact ⟨0,rfl⟩
 rcases Nat.lt_trichotomy i k with h | h | h
 ·exact (key i (k-i) j l (by omega) (by omega) (by rw[e,show i+(k-i)=k from by omega])).elim
 ·refine ⟨h,mlt_inj hr hH nH hj hl ?_⟩
  subst h
  generalize mlt A i=u at *
  generalize mlt H j=w at *
  generalize mlt H l=x at *
  clear hA hH nH nA key;grind
 ·exact (key k (i-k) l j (by omega) (by omega) (by rw[←e,show k+(i-k)=i from by omega])).elim
variable {q:Nat} {U:M}
theorem inj_three (hr:Ir r) (hr0:0<r) (hq:Ir q) (hg:Nat.gcd r q=1) (hA:mlt A r=0) (hH:mlt H r=0) (hU:mlt U q=0) (nH:H≠0) (nU:U≠0) (nA:¬Mul1 H A) {i j k i' j' k' : Nat} (hi:i<r) (hj:j<r) (hk:k<q) (hi' : i' < r) (hj' : j' < r) (hk' : k' < q)
  (e:mlt A i+mlt H j+mlt U k=mlt A i' + mlt H j' + mlt U k'):i=i' ∧ j=j' ∧ k=k' := by
 have e1:mlt U k-mlt U k' = (mlt A i' - mlt A i)+(mlt H j' - mlt H j):=by
  generalize mlt A i=a at *
  generalize mlt A i' = b at *
  generalize mlt H j=c at *
  generalize mlt H j' = d at *
  generalize mlt U k=u at *
  generalize mlt U k' = v at *
  clear hA hH hU nH nU nA;grind
 have z1:mlt (mlt U k-mlt U k') q=0:=by
  rw[mlt_sub,mlt_swap U k,mlt_swap U k',hU,mlt_zero,mlt_zero];grind
 have z2:mlt (mlt U k-mlt U k') r=0:=by
  rw[e1,mlt_sum,mlt_sub,mlt_sub,mlt_swap A i,mlt_swap A i',mlt_swap H j,mlt_swap H j',hA,hH,mlt_zero,mlt_zero,mlt_zero,mlt_zero];grind
 have z:=mlt_zgcd r q z2 z1 hg
 have ek:mlt U k=mlt U k' := by
  generalize mlt U k=u at *
  generalize mlt U k' = v at *
  clear hA hH hU nH nU nA e e1 z1 z2;grind
 refine ⟨?_,?_,mlt_inj hq hU nU hk hk' ek⟩
 all_goals
  have e2:mlt A i+mlt H j=mlt A i' + mlt H j' := by
   rw[ek] at e
   generalize mlt A i+mlt H j=a at *
   generalize mlt A i' + mlt H j' = b at *
   generalize mlt U k' = v at *
   clear hA hH hU nH nU nA e1 z1 z2 z ek;grind
  have:=inj_two hr hr0 hA hH nH nA hi hj hi' hj' e2
  first | exact this.1 | exact this.2
/-- In a group of few elements: whatever has the power of r 0 is a multiple of H. -/
theorem all_mult {C:Nat} (card:∀(n:Nat) (g:Nat→M),(∀i j,i<n→j<n→g i=g j→i=j)→n≤C) (hC:C<q*(r*r)) (hr:Ir r) (hr0:0<r) (hq:Ir q) (hq0:0<q) (hg:Nat.gcd r q=1) (hA:mlt A r=0) (hH:mlt H r=0) (hU:mlt U q=0) (nH:H≠0) (nU:U≠0):Mul1 H A:=by
 refine Classical.byContradiction fun nA=>?_
 have k:=card (q*(r*r)) (fun t=>mlt A (t / q / r)+mlt H (t / q % r)+mlt U (t % q)) fun s t hs ht e=>?_
 ·omega
 ·have b1:s / q / r<r:=Nat.div_lt_of_lt_mul (Nat.div_lt_of_lt_mul hs)
  have b2:t / q / r<r:=Nat.div_lt_of_lt_mul (Nat.div_lt_of_lt_mul ht)
  obtain ⟨k1,k2,k3⟩:=inj_three hr hr0 hq hg hA hH hU nH nU nA b1 (Nat.mod_lt _ hr0) (Nat.mod_lt _ hq0) b2 (Nat.mod_lt _ hr0) (Nat.mod_lt _ hq0) e
  have e1:s / q=t / q:=by rw[←Nat.div_add_mod (s / q) r,←Nat.div_add_mod (t / q) r,k1,k2]
  rw[←Nat.div_add_mod s q,←Nat.div_add_mod t q,e1,k3]
end

section
variable {F:Type} [Fld F] [DecidableEq F] {b:F}
def rtE (b x:F):F:=@Classical.epsilon F ⟨0⟩ fun y=>y*y=x*x*x+b
def encP (enc:F→Nat):Pt F→Nat
 | none=>0
 | some p=>if p.2=rtE b p.1 then enc p.1+enc p.1+1 else enc p.1+enc p.1+2
theorem cp_card (enc:F→Nat) (N:Nat) (he:∀x,enc x<N) (hi:∀x y,enc x=enc y→x=y) (n:Nat) (g:Nat→CP b) (hg:∀i j,i<n→j<n→g i=g j→i=j):n≤2*N+1:=by
 refine pig (fun i=>encP (b:=b) enc (g i).1) (fun i _=>?_) fun i j h1 h2 e=>hg i j h1 h2 ?_
 ·show encP (b:=b) enc (g i).1<2*N+1
  cases h:(g i).1 with
  | none=>show 0<_;omega
  | some p=>
   have:=he p.1
   unfold encP
   dsimp only
   split<;>omega
 ·have o1:=(g i).2
  have o2:=(g j).2
  refine Subtype.ext ?_
  generalize (g i).1=P at *
  generalize (g j).1=Q at *
  cases P with
  | none=>
   cases Q with
   | none=>rfl
   | some q=>
    unfold encP at e
    dsimp only at e
    split at e<;>omega
  | some p=>
   cases Q with
   | none=>
    unfold encP at e
    dsimp only at e
    split at e<;>omega
   | some q=>
    have rp:OnC b (some (p.1,rtE b p.1)):=@Classical.epsilon_spec F (fun y=>y*y=p.1*p.1*p.1+b) ⟨p.2,o1⟩
    unfold encP at e
    dsimp only at e
    split at e
    ·split at e
     ·rename_i h1 h2
      have ex:=hi p.1 q.1 (by omega)
      congr 1
      exact Prod.ext ex (by rw[h1,h2,ex])
     ·omega
    ·split at e
     ·omega
     ·rename_i h1 h2
      have ex:=hi p.1 q.1 (by omega)
      rcases x_same rp o1 rfl with k | k
      ·exact absurd (congrArg Prod.snd k) h1
      ·rw[ex] at rp
       rcases x_same rp o2 rfl with l | l
       ·exact absurd (congrArg Prod.snd l) h2
       ·rw[k,l,ex]
end

theorem ir_r:Ir rN:=by
 have h7:g7.val=7:=by decide +kernel
 have h1:pw g7 (rN-1)=1:=by
  apply Fin.ext
  rw[pw_mpow g7 256 (rN-1) (by decide +kernel),h7,one_r]
  decide +kernel
 refine luc_abs (g:=g7) (by decide +kernel) h1 (fun d h2 h3=>no_less facR facR_n facR_ir (by decide +kernel) h1 (fun p hp=>?_) h2 h3)
 intro he
 have hp:=List.all_eq_true.mp powsOk_r p hp
 rw[Bool.and_eq_true,decide_eq_true_eq] at hp
 have:=congrArg Fin.val he
 rw[pw_mpow g7 256 _ hp.1,h7] at this
 have e1:((1:Fin rN):Nat)=1:=by decide +kernel
 rw[e1] at this
 rw[this] at hp
 exact absurd hp.2 (by decide)
end

end
end Go.Proofs.YtefimjofjjdndaaGreat
