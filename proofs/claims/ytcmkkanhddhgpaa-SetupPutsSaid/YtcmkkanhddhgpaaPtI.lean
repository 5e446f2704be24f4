/- Parts of a proof, one behind the other: L6, Dg, Jt, Eo. No conditions. -/
import Derived.Test.YtcmkkanhddhgpaaPtH
/- Limbs of the greater prime: six in a row as a number; residues. No conditions. -/
namespace Go.Proofs.Ytcmkkanhddhgpaa

def num6 (a b c d e f:Int):Int:=a+18446744073709551616*b+340282366920938463463374607431768211456*c+6277101735386680763835789423207666416102355444464034512896*d+115792089237316195423570985008687907853269984665640564039457584007913129639936*e+2135987035920910082395021706169552114602704522356652769947041607822219725780640550022962086936576*f

/-- The limbs of a number below 2 to the power of 384. -/
theorem limbsAre6 {n:Nat} {a b c d e f:Int} (ha:0≤a) (ha1:a<18446744073709551616) (hb:0≤b) (hb1:b<18446744073709551616) (hc:0≤c) (hc1:c<18446744073709551616) (hd:0≤d) (hd1:d<18446744073709551616) (he:0≤e) (he1:e<18446744073709551616) (hf:0≤f) (hf1:f<18446744073709551616)
    (e1:(n:Int)=num6 a b c d e f):limb n 0=a∧limb n 1=b∧limb n 2=c∧limb n 3=d∧limb n 4=e∧limb n 5=f:=by
  unfold num6 at e1
  have k0:limb n 0=((n / 1 % 18446744073709551616:Nat):Int):=rfl
  have k1:limb n 1=((n / 18446744073709551616 % 18446744073709551616:Nat):Int):=rfl
  have k2:limb n 2=((n / 340282366920938463463374607431768211456 % 18446744073709551616:Nat):Int):=rfl
  have k3:limb n 3=((n / 6277101735386680763835789423207666416102355444464034512896 % 18446744073709551616:Nat):Int):=rfl
  have k4:limb n 4=((n / 115792089237316195423570985008687907853269984665640564039457584007913129639936 % 18446744073709551616:Nat):Int):=rfl
  have k5:limb n 5=((n / 2135987035920910082395021706169552114602704522356652769947041607822219725780640550022962086936576 % 18446744073709551616:Nat):Int):=by kernel_rfl
  rw[k0,k1,k2,k3,k4,k5]
  omega

/-- A number is its limbs. -/
theorem limbsOf6 (n:Nat) (h:n<B6):(n:Int)=num6 (limb n 0) (limb n 1) (limb n 2) (limb n 3) (limb n 4) (limb n 5) ∧
    0≤limb n 0∧limb n 0<18446744073709551616∧0≤limb n 1∧limb n 1<18446744073709551616∧0≤limb n 2∧limb n 2<18446744073709551616∧0≤limb n 3∧limb n 3<18446744073709551616∧0≤limb n 4∧limb n 4<18446744073709551616∧0≤limb n 5∧limb n 5<18446744073709551616:=by
  unfold num6
  have k0:limb n 0=((n / 1 % 18446744073709551616:Nat):Int):=rfl
  have k1:limb n 1=((n / 18446744073709551616 % 18446744073709551616:Nat):Int):=rfl
  have k2:limb n 2=((n / 340282366920938463463374607431768211456 % 18446744073709551616:Nat):Int):=rfl
  have k3:limb n 3=((n / 6277101735386680763835789423207666416102355444464034512896 % 18446744073709551616:Nat):Int):=rfl
  have k4:limb n 4=((n / 115792089237316195423570985008687907853269984665640564039457584007913129639936 % 18446744073709551616:Nat):Int):=rfl
  have k5:limb n 5=((n / 2135987035920910082395021706169552114602704522356652769947041607822219725780640550022962086936576 % 18446744073709551616:Nat):Int):=by kernel_rfl
  unfold B6 at h
  rw[k0,k1,k2,k3,k4,k5]
  omega

/-- Six limbs in a row are a number. -/
theorem ints_ob6 {x:Ctx} {o:Ob} (hk:o.k=6) {a b c d e f:Int} (h:limb o.n 0=a∧limb o.n 1=b∧limb o.n 2=c∧limb o.n 3=d∧limb o.n 4=e∧limb o.n 5=f) {v:Value}
    (hd:denS x (.v (.a [.int .u64 a,.int .u64 b,.int .u64 c,.int .u64 d,.int .u64 e,.int .u64 f])) v):denS x (.v (.a [.ob o])) v:=by
  obtain ⟨cs,ev,hc⟩:=hd
  refine ⟨cs,ev,cs,[],(List.append_nil cs).symm,⟨0,?_⟩,rfl⟩
  obtain ⟨c1,r1,e1,⟨d1,h1⟩,c2,r2,e2,⟨d2,h2⟩,c3,r3,e3,⟨d3,h3⟩,c4,r4,e4,⟨d4,h4⟩,c5,r5,e5,⟨d5,h5⟩,c6,r6,e6,⟨d6,h6⟩,h7⟩:=hc
  have h1:c1=[.int .u64 a]:=by cases d1<;>exact h1
  have h2:c2=[.int .u64 b]:=by cases d2<;>exact h2
  have h3:c3=[.int .u64 c]:=by cases d3<;>exact h3
  have h4:c4=[.int .u64 d]:=by cases d4<;>exact h4
  have h5:c5=[.int .u64 e]:=by cases d5<;>exact h5
  have h6:c6=[.int .u64 f]:=by cases d6<;>exact h6
  have h7:r6=[]:=h7
  show cs=o.cells
  subst h1 h2 h3 h4 h5 h6 h7 e6 e5 e4 e3 e2 e1
  unfold Ob.cells
  rw[hk]
  show _=[Value.int .u64 (limb o.n 0),Value.int .u64 (limb o.n 1),Value.int .u64 (limb o.n 2),Value.int .u64 (limb o.n 3),Value.int .u64 (limb o.n 4),Value.int .u64 (limb o.n 5)]
  rw[h.1,h.2.1,h.2.2.1,h.2.2.2.1,h.2.2.2.2.1,h.2.2.2.2.2]
  rfl

theorem cat_ob6 {x:Ctx} {o:Ob} (hk:o.k=6) {a b c d e f:Int} (h:limb o.n 0=a∧limb o.n 1=b∧limb o.n 2=c∧limb o.n 3=d∧limb o.n 4=e∧limb o.n 5=f) {cs:List Value}
    (hc:catL x.D [.int .u64 a,.int .u64 b,.int .u64 c,.int .u64 d,.int .u64 e,.int .u64 f] cs):catL x.D [.ob o] cs:=by
  obtain ⟨cs',ev,h'⟩:=ints_ob6 hk h (v:=.agg cs.toArray) ⟨cs,rfl,hc⟩
  have ev:cs=cs' := by simpa using ev
  rw[ev]
  exact h'

theorem ob_ints6 {x:Ctx} {o:Ob} (hk:o.k=6) {cs:List Value} (h:catL x.D [.ob o] cs):catL x.D [.int .u64 (limb o.n 0),.int .u64 (limb o.n 1),.int .u64 (limb o.n 2),.int .u64 (limb o.n 3),.int .u64 (limb o.n 4),.int .u64 (limb o.n 5)] cs:=by
  obtain ⟨c1,c2,e,⟨d,h1⟩,h2⟩:=h
  have h1:c1=o.cells:=by cases d<;>exact h1
  have h2:c2=[]:=h2
  subst h2 h1 e
  rw[List.append_nil]
  unfold Ob.cells
  rw[hk]
  exact ⟨[_],_,rfl,⟨0,rfl⟩,[_],_,rfl,⟨0,rfl⟩,[_],_,rfl,⟨0,rfl⟩,[_],_,rfl,⟨0,rfl⟩,[_],_,rfl,⟨0,rfl⟩,[_],_,rfl,⟨0,rfl⟩,rfl⟩

/-- What a row of limbs is, taken out of the form in which products are reckoned. -/
def pnv:Nat:=3231460744492646417066832100176244795738767926513225105051837195607029917124509527734802654356338138714468589979680
def redQ (n:Nat):Fp:=Fin.ofNat pN (n*pnv)
theorem pnv_B6:pnv*B6 % pN=1 % pN:=by kernel_rfl

theorem redQ_n (n:Nat):(Ob.p (redQ n)).n=n % pN:=by
  show (n*pnv % pN)*B6 % pN=n % pN
  rw[Nat.mod_mul_mod,Nat.mul_assoc]
  have e:pnv*B6 % pN=1:=by decide +kernel
  rw[←Nat.mul_mod_mod,e,Nat.mul_one]

/-- The lowest limb goes out: with the prime p. -/
theorem negP_low {l q:Int} (hq:q=IntKind.wrap IntKind.u64 (l*9940570264628428797)):(q*13402431016077863595+l) % 18446744073709551616=0:=by
  rw[wrapU] at hq
  omega

theorem pow6' : (2 ^ (64*6):Nat)=B6:=by kernel_rfl
theorem pow6_gt:pN<2 ^ (64*6):=by rw[pow6'];decide

/-- What is left when a product has gone through all limbs. -/
theorem mont_out6 {x y:Fp} {T Q:Nat} (h:T*B6=(Ob.p x).n*(Ob.p y).n+Q*pN):redQ T=x*y:=
  Fin.ext (mont_abs pnv_B6 h)

theorem p_lt (x:Fp):(Ob.p x).n<pN:=Nat.mod_lt _ (by decide)
theorem num6_mul (z a b c d e f:Int):z*num6 a b c d e f=(z*a)+18446744073709551616*(z*b)+340282366920938463463374607431768211456*(z*c)+6277101735386680763835789423207666416102355444464034512896*(z*d)+115792089237316195423570985008687907853269984665640564039457584007913129639936*(z*e)+2135987035920910082395021706169552114602704522356652769947041607822219725780640550022962086936576*(z*f):=by
  unfold num6
  simp only[Int.mul_add,Int.mul_left_comm z]

/-- The product's lowest limb taken out, round by round. -/
theorem round_eq6 {A Y r i Q:Nat} {T T' q:Int} (hq:0≤q) (h:T*((2 ^ (64*i):Nat):Int)=((A % 2 ^ (64*i):Nat):Int)*(Y:Int)+(Q:Int)*(r:Int))
    (h' : 18446744073709551616*T' = T+limb A i*(Y:Int)+q*(r:Int)) :
    ∃Q:Nat,T' * ((2 ^ (64*(i+1)):Nat):Int)=((A % 2 ^ (64*(i+1)):Nat):Int)*(Y:Int)+(Q:Int)*(r:Int):=by
  obtain ⟨q,rfl⟩:=Int.eq_ofNat_of_zero_le hq
  refine ⟨Q+q*2 ^ (64*i),?_⟩
  rw[mod_next]
  have hp:(2:Nat) ^ (64*(i+1))=2 ^ (64*i)*18446744073709551616:=by rw[Nat.mul_add,Nat.pow_add]
  rw[hp]
  have hl:limb A i=((A / 2 ^ (64*i) % 18446744073709551616:Nat):Int):=rfl
  rw[hl] at h'
  generalize A / 2 ^ (64*i) % 18446744073709551616=xi at *
  generalize A % 2 ^ (64*i)=X at *
  generalize 2 ^ (64*i)=m at *
  have e1:T' * ((m*18446744073709551616:Nat):Int)=(18446744073709551616*T')*(m:Int):=by
    rw[Int.natCast_mul,Int.mul_comm (m:Int),←Int.mul_assoc,Int.mul_comm T'];rfl
  rw[e1,h',Int.add_mul,Int.add_mul,h]
  push_cast
  simp only[Int.add_mul,Int.mul_assoc]
  have e2:(xi:Int)*((Y:Int)*(m:Int))=(m:Int)*((xi:Int)*(Y:Int)):=by rw[←Int.mul_assoc,Int.mul_comm]
  have e3:(q:Int)*((r:Int)*(m:Int))=(q:Int)*((m:Int)*(r:Int)):=by rw[Int.mul_comm (r:Int)]
  rw[e2,e3]
  omega

def Lim6 (a:Int):Prop:=0≤a∧a<18446744073709551616
theorem num6_nat {a b c d e f:Int} (ha:Lim6 a) (hb:Lim6 b) (hc:Lim6 c) (hd:Lim6 d) (he:Lim6 e) (hf:Lim6 f):∃n:Nat,n<B6∧num6 a b c d e f=(n:Int)∧limb n 0=a∧limb n 1=b∧limb n 2=c∧limb n 3=d∧limb n 4=e∧limb n 5=f:=by
  obtain ⟨ha,ha1⟩:=ha
  obtain ⟨hb,hb1⟩:=hb
  obtain ⟨hc,hc1⟩:=hc
  obtain ⟨hd,hd1⟩:=hd
  obtain ⟨he,he1⟩:=he
  obtain ⟨hf,hf1⟩:=hf
  have h0:0≤num6 a b c d e f:=by unfold num6;omega
  obtain ⟨n,hn⟩:=Int.eq_ofNat_of_zero_le h0
  refine ⟨n,?_,hn,limbsAre6 ha ha1 hb hb1 hc hc1 hd hd1 he he1 hf hf1 (by rw[←hn])⟩
  unfold num6 at hn
  unfold B6
  omega

def redV (n:Nat):U6:=Fin.ofNat B6 (n % pN)
theorem redV_val (n:Nat):(redV n).val=n % pN:=Nat.mod_eq_of_lt (Nat.lt_trans (Nat.mod_lt _ (by decide)) (by decide))
theorem redV_congr {a b:Nat} (h:a % pN=b % pN):redV a=redV b:=by unfold redV;rw[h]

end Go.Proofs.Ytcmkkanhddhgpaa

/- Digits of four bits, the highest that is not 0 first; blocks told in other words. No conditions. -/
namespace Go.Proofs.Ytcmkkanhddhgpaa

/-- The digits that t steps have handed on. -/
def dgT (n:Nat):Nat→List Nat
  | 0=>[]
  | t+1=>if (dgT n t).isEmpty=true∧n / 16 ^ (63-t) % 16=0 then [] else dgT n t++[n / 16 ^ (63-t) % 16]

theorem dgT_stay {n t:Nat} (h1:(dgT n t).isEmpty=true) (h2:n / 16 ^ (63-t) % 16=0):dgT n (t+1)=[]:=if_pos ⟨h1,h2⟩
theorem dgT_go {n t:Nat} (h:¬((dgT n t).isEmpty=true∧n / 16 ^ (63-t) % 16=0)):dgT n (t+1)=dgT n t++[n / 16 ^ (63-t) % 16]:=if_neg h

theorem dgT_pre (n:Nat) {t:Nat}:∀{m:Nat},t≤m→∃r,dgT n m=dgT n t++r
  | 0,h=>⟨[],by rw[Nat.le_zero.1 h];rfl⟩
  | m+1,h=>by
    by_cases e:t=m+1
    · exact ⟨[],by rw[e,List.append_nil]⟩
    · obtain ⟨r,hr⟩:=dgT_pre n (m:=m) (t:=t) (by omega)
      by_cases hc:(dgT n m).isEmpty=true∧n / 16 ^ (63-m) % 16=0
      · rw[dgT_stay hc.1 hc.2]
        have h1:dgT n m=[]:=List.isEmpty_iff.1 hc.1
        rw[h1] at hr
        obtain ⟨h2,h3⟩:=List.append_eq_nil_iff.1 hr.symm
        exact ⟨[],by rw[h2];rfl⟩
      · exact ⟨r++[n / 16 ^ (63-m) % 16],by rw[dgT_go hc,hr,List.append_assoc]⟩

theorem dgT_lt {n:Nat}:∀t d,d∈dgT n t→d<16
  | 0,d,h=>by cases h
  | t+1,d,h=>by
    by_cases hc:(dgT n t).isEmpty=true∧n / 16 ^ (63-t) % 16=0
    · rw[dgT_stay hc.1 hc.2] at h;cases h
    · rw[dgT_go hc,List.mem_append] at h
      rcases h with h | h
      · exact dgT_lt t d h
      · rw[List.mem_singleton] at h
        rw[h]
        exact Nat.mod_lt _ (by decide)

theorem dig_nat (n i:Nat):n / 2 ^ (64*(i / 16)) % 18446744073709551616 / 2 ^ (4*(i % 16)) % 16=n / 16 ^ i % 16:=by
  have h64:18446744073709551616=2 ^ (4*(i % 16))*(16*2 ^ (60-4*(i % 16))):=by
    rw[show (16:Nat)=2 ^ 4 from rfl,←Nat.pow_add,←Nat.pow_add,show 4*(i % 2 ^ 4)+(4+(60-4*(i % 2 ^ 4)))=64 from by omega]
  rw[h64,Nat.mod_mul_right_div_self,Nat.mod_mul_right_mod,Nat.div_div_eq_div_mul,←Nat.pow_add,show 64*(i / 16)+4*(i % 16)=4*i from by omega,Nat.pow_mul]

theorem and15 {m:Nat}:bitsOp BinOp.and IntKind.u64 (m:Int) (15:Int)=((m % 16:Nat):Int):=by
  show IntKind.wrap IntKind.u64 ((BitVec.ofInt 64 (m:Int) &&& BitVec.ofInt 64 ((15:Nat):Int)).toNat:Int)=_
  rw[BitVec.ofInt_natCast,BitVec.ofInt_natCast,BitVec.toNat_and,BitVec.toNat_ofNat,BitVec.toNat_ofNat]
  have e:15 % 2 ^ 64=2 ^ 4-1:=by decide
  rw[e,Nat.and_two_pow_sub_one_eq_mod]
  show (((m % 2 ^ 64 % 2 ^ 4:Nat):Int)) % 18446744073709551616=_
  omega

/-- A digit, as it is reckoned. -/
theorem dig_expr (k:U4) {i:Nat} (hi:i<64):IntKind.wrap IntKind.i64 (bitsOp BinOp.and IntKind.u64 (Int.fdiv (limb (Ob.n (Ob.fr k)) (0+(((IntKind.wrap IntKind.i64 (Int.tdiv (i:Int) (16:Int)))).toNat*1))) ((2:Int) ^ (Min.min ((IntKind.wrap IntKind.i64 ((4:Int)*(Int.tmod (i:Int) (16:Int))))).toNat 64))) (15:Int))=((k.val / 16 ^ i % 16:Nat):Int):=by
  have e1:Int.tdiv (i:Int) (16:Int)=((i / 16:Nat):Int):=Int.tdiv_eq_ediv_of_nonneg (by omega)
  have e2:Int.tmod (i:Int) (16:Int)=((i % 16:Nat):Int):=Int.tmod_eq_emod_of_nonneg (by omega)
  rw[e1,e2,wrap_id (n:=((i / 16:Nat):Int)) (by omega) (by omega),wrap_id (n:=(4:Int)*((i % 16:Nat):Int)) (by omega) (by omega),Int.toNat_natCast]
  have e3:Min.min ((4:Int)*((i % 16:Nat):Int)).toNat 64=4*(i % 16):=by omega
  have e4:0+i / 16*1=i / 16:=by omega
  rw[e3,e4]
  have hl:limb (Ob.n (Ob.fr k)) (i / 16)=((k.val / 2 ^ (64*(i / 16)) % 18446744073709551616:Nat):Int):=rfl
  rw[hl,←dig_nat k.val i]
  generalize k.val / 2 ^ (64*(i / 16)) % 18446744073709551616=m
  have hp:((2:Int) ^ (4*(i % 16)))=((2 ^ (4*(i % 16)):Nat):Int):=by simp
  rw[hp,Int.fdiv_eq_ediv_of_nonneg _ (Int.natCast_nonneg _),←Int.natCast_ediv,and15]
  exact wrap_id (by omega) (by omega)

theorem dig_place {i:Nat} (hi:i<64):IntKind.wrap IntKind.i64 (Int.tdiv (i:Int) (16:Int))=((i / 16:Nat):Int):=by
  have e1:Int.tdiv (i:Int) (16:Int)=((i / 16:Nat):Int):=Int.tdiv_eq_ediv_of_nonneg (by omega)
  rw[e1]
  exact wrap_id (by omega) (by omega)
theorem dig_shift (i:Nat):(0:Int)≤IntKind.wrap IntKind.i64 ((4:Int)*(Int.tmod (i:Int) (16:Int))):=by
  have e2:Int.tmod (i:Int) (16:Int)=((i % 16:Nat):Int):=Int.tmod_eq_emod_of_nonneg (by omega)
  rw[e2,wrap_id (by omega) (by omega)]
  omega

/-! A block told in other words. -/
def convE (x:Ctx):List (Option En)→List (Option En)→Prop
  | [],[]=>True
  | e::l,e' :: l' => (e=e' ∨ ∃f f' r,e=some (.fl r)∧e=some f∧e' = some f' ∧ ∀cs,denEn x f cs→denEn x f' cs)∧convE x l l'
  | _,_=>False

theorem convE_look {x:Ctx}:∀{ml:List Nat} {ens ens' : List (Option En)},convE x ens ens' → ∀p,look none ml ens p=look none ml ens' p∨∃f f' r,look none ml ens p=some (.fl r)∧look none ml ens p=some f∧look none ml ens' p=some f' ∧ ∀cs,denEn x f cs→denEn x f' cs
  | [],_,_,_,_=>.inl rfl
  | _::_,[],[],_,_=>.inl rfl
  | _::_,[],_::_,h,_=>h.elim
  | _::_,_::_,[],h,_=>h.elim
  | t::tl,e::l,e' :: l',h,p=>by
    simp only[look]
    by_cases hp:p=t
    · simp only[hp,if_true];exact h.1
    · simp only[hp,if_false];exact convE_look h.2 p

theorem Sim.blocks {w0:World} {F0:Nat→Prop} {K:Kp} {as:List Act} {nt nx:Nat} {tl:List Nat} {svs:List SV} {ml:List Nat} {ens ens' : List (Option En)} {ftl:List (List Nat)} {fsv:List (List SV×Nat)} {x:Ctx} {a:Act}
    (hs:Sim w0 F0 K as (mkSt nt tl svs ml ens nx ftl fsv) x a) (h:convE x ens ens'):Sim w0 F0 K as (mkSt nt tl svs ml ens' nx ftl fsv) x a:=by
  have hm:=hs.mem
  refine ⟨hs.defers,hs.nt,hs.t,?_,hs.base,hs.frs⟩
  have key:=convE_look (ml:=ml) h
  refine ⟨fun p=>?_,fun p l hp=>?_,fun p q hp hn=>?_,fun p e hp hr=>?_,hm.inj,hm.own,hm.fw⟩
  · rw[←hm.dom p]
    show look none ml ens' p=none↔look none ml ens p=none
    rcases key p with e | ⟨f,f',r,e1,e2,e3,_⟩
    · rw[e]
    · rw[e2,e3]
      constructor<;>(intro h;cases h)
  · have hp:look none ml ens' p=some (.fl l):=hp
    rcases key p with e | ⟨f,f',r,e1,e2,e3,_⟩
    · rw[←e] at hp;exact hm.fl p l hp
    · exact hm.fl p r e1
  · have hp:look none ml ens' p=some (.sq q):=hp
    rcases key p with e | ⟨f,f',r,e1,e2,e3,_⟩
    · rw[←e] at hp;exact hm.nil p q hp hn
    · have:=hm.fl p r e1
      rw[this] at hn;cases hn
  · have hp:look none ml ens' p=some e:=hp
    rcases key p with e0 | ⟨f,f',r,e1,e2,e3,hc⟩
    · rw[←e0] at hp;exact hm.ent p e hp hr
    · rw[e3] at hp
      cases hp
      obtain ⟨cs,ty,h1,h2⟩:=hm.ent p f e2 hr
      exact ⟨cs,ty,h1,hc _ h2⟩

end Go.Proofs.Ytcmkkanhddhgpaa

/- A point as often as a number says: the plain law. No conditions. -/
namespace Go.Proofs.Ytcmkkanhddhgpaa

section
variable {F:Type} [Add F] [Sub F] [Mul F] [OfNat F 0] [DecidableEq F]
/-- The table: the point 0, 1, 2 .. times. -/
def jtab (a:F×F×F):Nat→F×F×F
  | 0=>(a.1,a.2.1,0)
  | n+1=>jpl (jtab a n) a
def jst (a o:F×F×F) (d:Nat):F×F×F:=jpl (jtw (jtw (jtw (jtw o)))) (jtab a d)
def jmn (a:F×F×F) (l:List Nat):F×F×F:=l.foldl (jst a) (jtab a 0)
def jtws:Nat→F×F×F→F×F×F
  | 0,o=>o
  | n+1,o=>jtw (jtws n o)
end

theorem jst_tws {F:Type} [Add F] [Sub F] [Mul F] [OfNat F 0] [DecidableEq F] (a o:F×F×F) (d:Nat):jst a o d=jpl (jtws 4 o) (jtab a d):=rfl
theorem jtws_succ {F:Type} [Add F] [Sub F] [Mul F] [OfNat F 0] [DecidableEq F] (n:Nat) (o:F×F×F):jtws (n+1) o=jtw (jtws n o):=rfl
section
variable {F:Type} [Fld F] [DecidableEq F] {b:F}

end

end Go.Proofs.Ytcmkkanhddhgpaa

/- Two environments of contracts, joined. No conditions. -/
namespace Go.Proofs.Ytcmkkanhddhgpaa

/-- The contracts of both: where the first one has none, the second one's. -/
def Env.or (a b:Env):Env:={ a with fn:=fun f=>match a.fn f with | some s=>some s | none=>b.fn f }
theorem env_or {P:Program} {a b:Env} (hA:EnvOk P a) (hB:EnvOk P b):EnvOk P (a.or b):=by
  refine ⟨hA.ty,hA.mixed,fun f s h=>?_,hA.mu,hA.inl,hA.ex,hA.inv⟩
  have h:(match a.fn f with | some s=>some s | none=>b.fn f)=some s:=h
  cases e:a.fn f with
  | some s' => rw[e] at h;exact hA.fn f s (by rw[e];exact h)
  | none=>rw[e] at h;exact hB.fn f s h
end Go.Proofs.Ytcmkkanhddhgpaa
