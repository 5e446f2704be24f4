/- Parts of a proof, one behind the other: L6, Dg, Nl, Nr, Jt, Eo, Ms, Cp, Dk. No conditions. -/
import Derived.Test.YtdaligcdaalnmaaOaG
/- Limbs of the greater prime: six in a row as a number; residues. No conditions. -/
namespace Go.Proofs.Ytdaligcdaalnmaa

def num6 (a b c d e f:Int):Int:=a+18446744073709551616*b+340282366920938463463374607431768211456*c+6277101735386680763835789423207666416102355444464034512896*d+115792089237316195423570985008687907853269984665640564039457584007913129639936*e+2135987035920910082395021706169552114602704522356652769947041607822219725780640550022962086936576*f

/-- The limbs of a number below 2 to the power of 384. -/
theorem limbsAre6 {n:Nat} {a b c d e f:Int} (ha:0≤a) (ha1:a<18446744073709551616) (hb:0≤b) (hb1:b<18446744073709551616) (hc:0≤c) (hc1:c<18446744073709551616) (hd:0≤d) (hd1:d<18446744073709551616) (he:0≤e) (he1:e<18446744073709551616) (hf:0≤f) (hf1:f<18446744073709551616)
    (e1:(n:Int)=num6 a b c d e f):limb n 0=a∧limb n 1=b∧limb n 2=c∧limb n 3=d∧limb n 4=e∧limb n 5=f:=by
  unfold num6 at e1
  have k0:limb n 0=((n / 1 % 18446744073709551616:Nat):Int):=rfl
  have k1:limb n 1=((n / 18446744073709551616 % 18446744073709551616:Nat):Int):=rfl
  have k2:limb n 2=((n / 340282366920938463463374607431768211456 % 18446744073709551616:Nat):Int):=rfl
  have k3:limb n 3=((n / 6277101735386680763835789423207666416102355444464034512896 % 18446744073709551616:Nat):Int):=rfl
  have k4:limb n 4=((n / 115792089237316195423570985008687907853269984665640564039457584007913129639936 % 18446744073709551616:Nat):Int):=rfl
  have k5:limb n 5=((n / 2135987035920910082395021706169552114602704522356652769947041607822219725780640550022962086936576 % 18446744073709551616:Nat):Int):=by kernel_rfl
  rw[k0,k1,k2,k3,k4,k5]
  omega

/-- A number is its limbs. -/
theorem limbsOf6 (n:Nat) (h:n<B6):(n:Int)=num6 (limb n 0) (limb n 1) (limb n 2) (limb n 3) (limb n 4) (limb n 5) ∧
    0≤limb n 0∧limb n 0<18446744073709551616∧0≤limb n 1∧limb n 1<18446744073709551616∧0≤limb n 2∧limb n 2<18446744073709551616∧0≤limb n 3∧limb n 3<18446744073709551616∧0≤limb n 4∧limb n 4<18446744073709551616∧0≤limb n 5∧limb n 5<18446744073709551616:=by
  unfold num6
  have k0:limb n 0=((n / 1 % 18446744073709551616:Nat):Int):=rfl
  have k1:limb n 1=((n / 18446744073709551616 % 18446744073709551616:Nat):Int):=rfl
  have k2:limb n 2=((n / 340282366920938463463374607431768211456 % 18446744073709551616:Nat):Int):=rfl
  have k3:limb n 3=((n / 6277101735386680763835789423207666416102355444464034512896 % 18446744073709551616:Nat):Int):=rfl
  have k4:limb n 4=((n / 115792089237316195423570985008687907853269984665640564039457584007913129639936 % 18446744073709551616:Nat):Int):=rfl
  have k5:limb n 5=((n / 2135987035920910082395021706169552114602704522356652769947041607822219725780640550022962086936576 % 18446744073709551616:Nat):Int):=by kernel_rfl
  unfold B6 at h
  rw[k0,k1,k2,k3,k4,k5]
  omega

/-- Six limbs in a row are a number. -/
theorem ints_ob6 {x:Ctx} {o:Ob} (hk:o.k=6) {a b c d e f:Int} (h:limb o.n 0=a∧limb o.n 1=b∧limb o.n 2=c∧limb o.n 3=d∧limb o.n 4=e∧limb o.n 5=f) {v:Value}
    (hd:denS x (.v (.a [.int .u64 a,.int .u64 b,.int .u64 c,.int .u64 d,.int .u64 e,.int .u64 f])) v):denS x (.v (.a [.ob o])) v:=by
  obtain ⟨cs,ev,hc⟩:=hd
  refine ⟨cs,ev,cs,[],(List.append_nil cs).symm,⟨0,?_⟩,rfl⟩
  obtain ⟨c1,r1,e1,⟨d1,h1⟩,c2,r2,e2,⟨d2,h2⟩,c3,r3,e3,⟨d3,h3⟩,c4,r4,e4,⟨d4,h4⟩,c5,r5,e5,⟨d5,h5⟩,c6,r6,e6,⟨d6,h6⟩,h7⟩:=hc
  have h1:c1=[.int .u64 a]:=by cases d1<;>exact h1
  have h2:c2=[.int .u64 b]:=by cases d2<;>exact h2
  have h3:c3=[.int .u64 c]:=by cases d3<;>exact h3
  have h4:c4=[.int .u64 d]:=by cases d4<;>exact h4
  have h5:c5=[.int .u64 e]:=by cases d5<;>exact h5
  have h6:c6=[.int .u64 f]:=by cases d6<;>exact h6
  have h7:r6=[]:=h7
  show cs=o.cells
  subst h1 h2 h3 h4 h5 h6 h7 e6 e5 e4 e3 e2 e1
  unfold Ob.cells
  rw[hk]
  show _=[Value.int .u64 (limb o.n 0),Value.int .u64 (limb o.n 1),Value.int .u64 (limb o.n 2),Value.int .u64 (limb o.n 3),Value.int .u64 (limb o.n 4),Value.int .u64 (limb o.n 5)]
  rw[h.1,h.2.1,h.2.2.1,h.2.2.2.1,h.2.2.2.2.1,h.2.2.2.2.2]
  rfl

theorem cat_ob6 {x:Ctx} {o:Ob} (hk:o.k=6) {a b c d e f:Int} (h:limb o.n 0=a∧limb o.n 1=b∧limb o.n 2=c∧limb o.n 3=d∧limb o.n 4=e∧limb o.n 5=f) {cs:List Value}
    (hc:catL x.D [.int .u64 a,.int .u64 b,.int .u64 c,.int .u64 d,.int .u64 e,.int .u64 f] cs):catL x.D [.ob o] cs:=by
  obtain ⟨cs',ev,h'⟩:=ints_ob6 hk h (v:=.agg cs.toArray) ⟨cs,rfl,hc⟩
  have ev:cs=cs' := by simpa using ev
  rw[ev]
  exact h'

theorem ob_ints6 {x:Ctx} {o:Ob} (hk:o.k=6) {cs:List Value} (h:catL x.D [.ob o] cs):catL x.D [.int .u64 (limb o.n 0),.int .u64 (limb o.n 1),.int .u64 (limb o.n 2),.int .u64 (limb o.n 3),.int .u64 (limb o.n 4),.int .u64 (limb o.n 5)] cs:=by
  obtain ⟨c1,c2,e,⟨d,h1⟩,h2⟩:=h
  have h1:c1=o.cells:=by cases d<;>exact h1
  have h2:c2=[]:=h2
  subst h2 h1 e
  rw[List.append_nil]
  unfold Ob.cells
  rw[hk]
  exact ⟨[_],_,rfl,⟨0,rfl⟩,[_],_,rfl,⟨0,rfl⟩,[_],_,rfl,⟨0,rfl⟩,[_],_,rfl,⟨0,rfl⟩,[_],_,rfl,⟨0,rfl⟩,[_],_,rfl,⟨0,rfl⟩,rfl⟩

/-- What a row of limbs is, taken out of the form in which products are reckoned. -/
def pnv:Nat:=3231460744492646417066832100176244795738767926513225105051837195607029917124509527734802654356338138714468589979680
def redQ (n:Nat):Fp:=Fin.ofNat pN (n*pnv)
theorem pnv_B6:pnv*B6 % pN=1 % pN:=by kernel_rfl

theorem redQ_n (n:Nat):(Ob.p (redQ n)).n=n % pN:=by
  show (n*pnv % pN)*B6 % pN=n % pN
  rw[Nat.mod_mul_mod,Nat.mul_assoc]
  have e:pnv*B6 % pN=1:=by decide +kernel
  rw[←Nat.mul_mod_mod,e,Nat.mul_one]

/-- The lowest limb goes out: with the prime p. -/
theorem negP_low {l q:Int} (hq:q=IntKind.wrap IntKind.u64 (l*9940570264628428797)):(q*13402431016077863595+l) % 18446744073709551616=0:=by
  rw[wrapU] at hq
  omega

theorem pow6' : (2 ^ (64*6):Nat)=B6:=by kernel_rfl
theorem pow6_gt:pN<2 ^ (64*6):=by rw[pow6'];decide

/-- What is left when a product has gone through all limbs. -/
theorem mont_out6 {x y:Fp} {T Q:Nat} (h:T*B6=(Ob.p x).n*(Ob.p y).n+Q*pN):redQ T=x*y:=
  Fin.ext (mont_abs pnv_B6 h)

theorem p_lt (x:Fp):(Ob.p x).n<pN:=Nat.mod_lt _ (by decide)
theorem num6_mul (z a b c d e f:Int):z*num6 a b c d e f=(z*a)+18446744073709551616*(z*b)+340282366920938463463374607431768211456*(z*c)+6277101735386680763835789423207666416102355444464034512896*(z*d)+115792089237316195423570985008687907853269984665640564039457584007913129639936*(z*e)+2135987035920910082395021706169552114602704522356652769947041607822219725780640550022962086936576*(z*f):=by
  unfold num6
  simp only[Int.mul_add,Int.mul_left_comm z]

/-- The product's lowest limb taken out, round by round. -/
theorem round_eq6 {A Y r i Q:Nat} {T T' q:Int} (hq:0≤q) (h:T*((2 ^ (64*i):Nat):Int)=((A % 2 ^ (64*i):Nat):Int)*(Y:Int)+(Q:Int)*(r:Int))
    (h' : 18446744073709551616*T' = T+limb A i*(Y:Int)+q*(r:Int)) :
    ∃Q:Nat,T' * ((2 ^ (64*(i+1)):Nat):Int)=((A % 2 ^ (64*(i+1)):Nat):Int)*(Y:Int)+(Q:Int)*(r:Int):=by
  obtain ⟨q,rfl⟩:=Int.eq_ofNat_of_zero_le hq
  refine ⟨Q+q*2 ^ (64*i),?_⟩
  rw[mod_next]
  have hp:(2:Nat) ^ (64*(i+1))=2 ^ (64*i)*18446744073709551616:=by rw[Nat.mul_add,Nat.pow_add]
  rw[hp]
  have hl:limb A i=((A / 2 ^ (64*i) % 18446744073709551616:Nat):Int):=rfl
  rw[hl] at h'
  generalize A / 2 ^ (64*i) % 18446744073709551616=xi at *
  generalize A % 2 ^ (64*i)=X at *
  generalize 2 ^ (64*i)=m at *
  have e1:T' * ((m*18446744073709551616:Nat):Int)=(18446744073709551616*T')*(m:Int):=by
    rw[Int.natCast_mul,Int.mul_comm (m:Int),←Int.mul_assoc,Int.mul_comm T'];rfl
  rw[e1,h',Int.add_mul,Int.add_mul,h]
  push_cast
  simp only[Int.add_mul,Int.mul_assoc]
  have e2:(xi:Int)*((Y:Int)*(m:Int))=(m:Int)*((xi:Int)*(Y:Int)):=by rw[←Int.mul_assoc,Int.mul_comm]
  have e3:(q:Int)*((r:Int)*(m:Int))=(q:Int)*((m:Int)*(r:Int)):=by rw[Int.mul_comm (r:Int)]
  rw[e2,e3]
  omega

def Lim6 (a:Int):Prop:=0≤a∧a<18446744073709551616
theorem num6_nat {a b c d e f:Int} (ha:Lim6 a) (hb:Lim6 b) (hc:Lim6 c) (hd:Lim6 d) (he:Lim6 e) (hf:Lim6 f):∃n:Nat,n<B6∧num6 a b c d e f=(n:Int)∧limb n 0=a∧limb n 1=b∧limb n 2=c∧limb n 3=d∧limb n 4=e∧limb n 5=f:=by
  obtain ⟨ha,ha1⟩:=ha
  obtain ⟨hb,hb1⟩:=hb
  obtain ⟨hc,hc1⟩:=hc
  obtain ⟨hd,hd1⟩:=hd
  obtain ⟨he,he1⟩:=he
  obtain ⟨hf,hf1⟩:=hf
  have h0:0≤num6 a b c d e f:=by unfold num6;omega
  obtain ⟨n,hn⟩:=Int.eq_ofNat_of_zero_le h0
  refine ⟨n,?_,hn,limbsAre6 ha ha1 hb hb1 hc hc1 hd hd1 he he1 hf hf1 (by rw[←hn])⟩
  unfold num6 at hn
  unfold B6
  omega

def redV (n:Nat):U6:=Fin.ofNat B6 (n % pN)
theorem redV_val (n:Nat):(redV n).val=n % pN:=Nat.mod_eq_of_lt (Nat.lt_trans (Nat.mod_lt _ (by decide)) (by decide))
theorem redV_congr {a b:Nat} (h:a % pN=b % pN):redV a=redV b:=by unfold redV;rw[h]

end Go.Proofs.Ytdaligcdaalnmaa

/- Digits of four bits, the highest that is not 0 first; blocks told in other words. No conditions. -/
namespace Go.Proofs.Ytdaligcdaalnmaa

/-! A block told in other words. -/
def convE (x:Ctx):List (Option En)→List (Option En)→Prop
  | [],[]=>True
  | e::l,e' :: l' => (e=e' ∨ ∃f f' r,e=some (.fl r)∧e=some f∧e' = some f' ∧ ∀cs,denEn x f cs→denEn x f' cs)∧convE x l l'
  | _,_=>False

theorem convE_look {x:Ctx}:∀{ml:List Nat} {ens ens' : List (Option En)},convE x ens ens' → ∀p,look none ml ens p=look none ml ens' p∨∃f f' r,look none ml ens p=some (.fl r)∧look none ml ens p=some f∧look none ml ens' p=some f' ∧ ∀cs,denEn x f cs→denEn x f' cs
  | [],_,_,_,_=>.inl rfl
  | _::_,[],[],_,_=>.inl rfl
  | _::_,[],_::_,h,_=>h.elim
  | _::_,_::_,[],h,_=>h.elim
  | t::tl,e::l,e' :: l',h,p=>by
    simp only[look]
    by_cases hp:p=t
    · simp only[hp,if_true];exact h.1
    · simp only[hp,if_false];exact convE_look h.2 p

theorem Sim.blocks {w0:World} {F0:Nat→Prop} {K:Kp} {as:List Act} {nt nx:Nat} {tl:List Nat} {svs:List SV} {ml:List Nat} {ens ens' : List (Option En)} {ftl:List (List Nat)} {fsv:List (List SV×Nat)} {x:Ctx} {a:Act}
    (hs:Sim w0 F0 K as (mkSt nt tl svs ml ens nx ftl fsv) x a) (h:convE x ens ens'):Sim w0 F0 K as (mkSt nt tl svs ml ens' nx ftl fsv) x a:=by
  have hm:=hs.mem
  refine ⟨hs.defers,hs.nt,hs.t,?_,hs.base,hs.frs⟩
  have key:=convE_look (ml:=ml) h
  refine ⟨fun p=>?_,fun p l hp=>?_,fun p q hp hn=>?_,fun p e hp hr=>?_,hm.inj,hm.own,hm.fw⟩
  · rw[←hm.dom p]
    show look none ml ens' p=none↔look none ml ens p=none
    rcases key p with e | ⟨f,f',r,e1,e2,e3,_⟩
    · rw[e]
    · rw[e2,e3]
      constructor<;>(intro h;cases h)
  · have hp:look none ml ens' p=some (.fl l):=hp
    rcases key p with e | ⟨f,f',r,e1,e2,e3,_⟩
    · rw[←e] at hp;exact hm.fl p l hp
    · exact hm.fl p r e1
  · have hp:look none ml ens' p=some (.sq q):=hp
    rcases key p with e | ⟨f,f',r,e1,e2,e3,_⟩
    · rw[←e] at hp;exact hm.nil p q hp hn
    · have:=hm.fl p r e1
      rw[this] at hn;cases hn
  · have hp:look none ml ens' p=some e:=hp
    rcases key p with e0 | ⟨f,f',r,e1,e2,e3,hc⟩
    · rw[←e0] at hp;exact hm.ent p e hp hr
    · rw[e3] at hp
      cases hp
      obtain ⟨cs,ty,h1,h2⟩:=hm.ent p f e2 hr
      exact ⟨cs,ty,h1,hc _ h2⟩

end Go.Proofs.Ytdaligcdaalnmaa

/- Results without a block: an empty slice as a row of none; contracts with them. No conditions. -/
namespace Go.Proofs.Ytdaligcdaalnmaa

/-- One position more, without a block. -/
def nilCtx (y:Ctx) (n:Nat):Ctx:={ y with k:=fun q=>if q=n then .nil else y.k q }

/-- A contract whose result has an empty row behind the others. -/
theorem FnD.nil {P:Program} {f:Nat} {args:List SV} {r r' : SV} {es:List En} {q:Sq} (h:FnD P f args r es) (hq:q.n=0)
    (hr:∀(y:Ctx) v,y.k es.length = .nil→denS y r v→denS y r' v):FnD P f args r' (es++[.sq q]):=by
  intro x vs hk hF hd
  refine (h x vs hk hF hd).mono fun e w' ⟨v,y,he,hw,ht,hv⟩=>?_
  have hno:y.k es.length = .no:=(ht.mem.dom es.length).1 (by simp)
  have hext:Ext y (nilCtx y es.length):=by
    refine ⟨Nat.le_refl _,fun _ h=>⟨h,rfl⟩,fun p hp=>?_,fun _ _=>rfl,fun _ _ cs _ h=>⟨cs,h,rfl⟩⟩
    have:p≠es.length:=fun e=>hp (e ▸ hno)
    simp [nilCtx,this]
  have hreal:∀p,(nilCtx y es.length).k p = .real→y.k p = .real:=by
    intro p hp
    simp only[nilCtx] at hp
    split at hp
    · cases hp
    · exact hp
  have hget:∀p,p≠es.length→(es++[En.sq q])[p]? = es[p]? := by
    intro p hp
    by_cases h1:p<es.length
    · rw[List.getElem?_append_left h1]
    · rw[List.getElem?_append_right (by omega),List.getElem?_eq_none (by simp;omega),List.getElem?_eq_none (by omega)]
  have hm:Mem (nilCtx y es.length) (fun p=>(es++[En.sq q])[p]?):=by
    refine ⟨fun p=>?_,fun p l hp=>?_,fun p s hp hn=>?_,fun p e hp hrl=>?_,fun p s hp hs he=>?_,fun p hp=>?_,fun b hb=>ht.mem.fw b hb⟩
    · by_cases hp:p=es.length
      · subst hp;simp [nilCtx]
      · show (es++[En.sq q])[p]? = none↔(if p=es.length then Kd.nil else y.k p) = .no
        rw[if_neg hp,hget p hp]
        exact ht.mem.dom p
    · by_cases h1:p=es.length
      · subst h1;simp at hp
      · have hp:(es++[En.sq q])[p]? = some (.fl l):=hp
        rw[hget p h1] at hp
        show (if p=es.length then Kd.nil else y.k p) = .real
        rw[if_neg h1]
        exact ht.mem.fl p l hp
    · by_cases h1:p=es.length
      · subst h1
        have hp:(es++[En.sq q])[es.length]? = some (.sq s):=hp
        simp at hp
        rw[←hp]
        exact hq
      · have hp:(es++[En.sq q])[p]? = some (.sq s):=hp
        rw[hget p h1] at hp
        have hn:(if p=es.length then Kd.nil else y.k p) = .nil:=hn
        rw[if_neg h1] at hn
        exact ht.mem.nil p s hp hn
    · have h1:p≠es.length:=by
        rintro rfl
        simp [nilCtx] at hrl
      have hp:(es++[En.sq q])[p]? = some e:=hp
      rw[hget p h1] at hp
      obtain ⟨cs,ty,hc,hde⟩:=ht.mem.ent p e hp (hreal p hrl)
      exact ⟨cs,ty,hc,denEn_ext hext hde⟩
    · exact ht.mem.inj p s (hreal p hp) (hreal s hs) he
    · exact ht.mem.own p (hreal p hp)
  refine ⟨v,nilCtx y es.length,he,hw,⟨ht.ext.trans hext,hm,ht.os,ht.tape,ht.output,ht.blk,fun p hp=>ht.fresh p (hreal p hp),ht.fnew⟩,hr _ _ (by simp [nilCtx]) (denS_ext hext hv)⟩

theorem nil_slc {y:Ctx} {p es:Nat} (hk:y.k p = .nil) {v:Value} (h:denV y (.c (.val (.slice none 0 0))) v):denV y (.c (.slc p 0 0 es)) v:=by
  obtain ⟨_,d,h⟩:=h
  refine ⟨rfl,d,?_⟩
  have h:[v]=[Value.slice none 0 0]:=by cases d<;>exact h.1
  have g:(y.k p = .nil∧0=0∧0=0∧[v]=[Value.slice none 0 0]) ∨
    (y.k p = .real∧∃cap cs ty,[v]=[.slice (some ⟨y.β p,0,none⟩) 0 cap]∧0≤cap∧cap≤maxLen∧y.w.heap[y.β p]? = some (.cells cs ty (0,0))∧0+cap*es≤cs.size):=.inl ⟨hk,rfl,rfl,h⟩
  cases d<;>exact g

end Go.Proofs.Ytdaligcdaalnmaa

/- A slot without a row is told as an empty row at a new position. No conditions. -/
namespace Go.Proofs.Ytdaligcdaalnmaa

variable {w0:World} {F0:Nat→Prop} {K:Kp} {as:List Act} {x:Ctx} {a:Act}

theorem nil_ext {p:Nat} (hno:x.k p = .no):Ext x (nilCtx x p):=
  ⟨Nat.le_refl _,fun _ h=>⟨h,rfl⟩,fun q hq=>by
    have:q≠p:=fun e=>hq (e ▸ hno)
    simp [nilCtx,this],fun _ _=>rfl,fun _ _ cs _ h=>⟨cs,h,rfl⟩⟩
theorem nil_real {p q:Nat} (h:(nilCtx x p).k q = .real):x.k q = .real:=by
  simp only[nilCtx] at h
  split at h
  · cases h
  · exact h

/-- Slots that hold what an empty row at p may be. -/
def convN (p:Nat):List SV→List SV→Prop
  | [],[]=>True
  | s::l,s' :: l' => (s' = s∨∃es,s = .v (.c (.val (.slice none 0 0)))∧s' = .v (.c (.slc p 0 0 es)))∧convN p l l'
  | _,_=>False
theorem convN_ok {p:Nat} (hk:x.k p = .nil):∀{svs svs' : List SV},convN p svs svs' → convs x svs svs'
  | [],[],_=>trivial
  | [],_::_,h=>h.elim
  | _::_,[],h=>h.elim
  | s::l,s' :: l',h=>⟨fun v hd=>by
      rcases h.1 with e | ⟨es,e1,e2⟩
      · rw[e];exact hd
      · subst e1 e2
        exact nil_slc hk hd,convN_ok hk h.2⟩

theorem Sim.nilRow {nt nx:Nat} {tl:List Nat} {svs svs' : List SV} {ml ml' : List Nat} {ens ens' : List (Option En)} {ftl:List (List Nat)} {fsv:List (List SV×Nat)}
    (hs:Sim w0 F0 K as (mkSt nt tl svs ml ens nx ftl fsv) x a) {p:Nat} (hp:look none ml ens p=none) (hp0:p≠0) {q:Sq} (hq:q.n=0) (hl:∀r,look none ml' ens' r=if r=p then some (.sq q) else look none ml ens r) (hc:convN p svs svs') :
    Sim w0 F0 K as (mkSt nt tl svs' ml' ens' nx ftl fsv) (nilCtx x p) a:=by
  have hm:=hs.mem
  have hno:x.k p = .no:=(hm.dom p).1 hp
  have hext:=nil_ext (x:=x) hno
  have hself:(nilCtx x p).k p = .nil:=by simp [nilCtx]
  have hoth:∀r,r≠p→(nilCtx x p).k r=x.k r:=fun r hr=>by simp [nilCtx,hr]
  have hget:∀r,r≠p→look none ml' ens' r=look none ml ens r:=fun r hr=>by rw[hl,if_neg hr]
  have hgp:look none ml' ens' p=some (.sq q):=by rw[hl,if_pos rfl]
  refine ⟨hs.defers,hs.nt,fun t=>?_,?_,?_,hs.frs.ext hext⟩
  · exact look_conv (convN_ok hself hc) t _ (denS_ext hext (hs.t t))
  · refine ⟨fun r=>?_,fun r l hr=>?_,fun r s hr hn=>?_,fun r e hr hrl=>?_,fun r s hr hs e=>hm.inj r s (nil_real hr) (nil_real hs) e,fun r hr=>hm.own r (nil_real hr),fun b hb=>hm.fw b hb⟩
    · show look none ml' ens' r=none↔(nilCtx x p).k r = .no
      by_cases e:r=p
      · subst e;rw[hgp,hself]
        constructor<;>(intro h;cases h)
      · rw[hget r e,hoth r e]
        exact hm.dom r
    · have hr:look none ml' ens' r=some (.fl l):=hr
      by_cases e:r=p
      · subst e;rw[hgp] at hr;cases hr
      · rw[hget r e] at hr
        rw[hoth r e]
        exact hm.fl r l hr
    · have hr:look none ml' ens' r=some (.sq s):=hr
      by_cases e:r=p
      · subst e;rw[hgp] at hr;cases hr;exact hq
      · rw[hget r e] at hr
        rw[hoth r e] at hn
        exact hm.nil r s hr hn
    · have hr:look none ml' ens' r=some e:=hr
      have e1:r≠p:=fun h=>by rw[h,hself] at hrl;cases hrl
      rw[hget r e1] at hr
      obtain ⟨cs,ty,hc,hde⟩:=hm.ent r e hr (nil_real hrl)
      exact ⟨cs,ty,hc,denEn_ext hext hde⟩
  · have hb:=hs.base
    refine ⟨hb.f0,hb.fn,hb.size,hb.keep,fun r hr=>hb.ownK r (nil_real hr),hb.os,hb.tape,hb.output,fun r hr=>?_⟩
    obtain ⟨h1,h2,h3⟩:=hb.pin r hr
    exact ⟨h1,by rw[hoth 0 (Ne.symm hp0)];exact h2,h3⟩
theorem fl_look {r p:Nat} {e f:Option En} {q:Nat} (h:p≠q):look none [q,p] [e,f] r=if r=p then f else look none [q] [e] r:=by
  simp only[look]
  by_cases h1:r=q
  · subst h1
    rw[if_pos rfl,if_pos rfl,if_neg (Ne.symm h)]
  · rw[if_neg h1,if_neg h1]

end Go.Proofs.Ytdaligcdaalnmaa

/- A point as often as a number says: the plain law. No conditions. -/
namespace Go.Proofs.Ytdaligcdaalnmaa

section
variable {F:Type} [Add F] [Sub F] [Mul F] [OfNat F 0] [DecidableEq F]
def jtws:Nat→F×F×F→F×F×F
  | 0,o=>o
  | n+1,o=>jtw (jtws n o)
end

theorem jtws_succ {F:Type} [Add F] [Sub F] [Mul F] [OfNat F 0] [DecidableEq F] (n:Nat) (o:F×F×F):jtws (n+1) o=jtw (jtws n o):=rfl
section
variable {F:Type} [Fld F] [DecidableEq F] {b:F}

/-- A point as often as a number says. -/
def nmul (P:Pt F):Nat→Pt F
  | 0=>none
  | n+1=>gadd (nmul P n) P

theorem nmul_on (hc:Cv b) {P:Pt F} (h:OnC b P):∀n,OnC b (nmul P n)
  | 0=>True.intro
  | n+1=>gadd_on hc _ _ (nmul_on hc h n) h

theorem nmul_none:∀n,nmul (none:Pt F) n=none
  | 0=>rfl
  | n+1=>by
    show gadd (nmul none n) none=none
    rw[nmul_none n]
    rfl

end

end Go.Proofs.Ytdaligcdaalnmaa

/- Two environments of contracts, joined. No conditions. -/
namespace Go.Proofs.Ytdaligcdaalnmaa

/-- The contracts of both: where the first one has none, the second one's. -/
def Env.or (a b:Env):Env:={ a with fn:=fun f=>match a.fn f with | some s=>some s | none=>b.fn f }
theorem env_or {P:Program} {a b:Env} (hA:EnvOk P a) (hB:EnvOk P b):EnvOk P (a.or b):=by
  refine ⟨hA.ty,hA.mixed,fun f s h=>?_,hA.mu,hA.inl,hA.ex,hA.inv⟩
  have h:(match a.fn f with | some s=>some s | none=>b.fn f)=some s:=h
  cases e:a.fn f with
  | some s' => rw[e] at h;exact hA.fn f s (by rw[e];exact h)
  | none=>rw[e] at h;exact hB.fn f s h
end Go.Proofs.Ytdaligcdaalnmaa

/- Many points, each as often as its number says, by rows of digits: the plain law. No conditions. -/
namespace Go.Proofs.Ytdaligcdaalnmaa

section
variable {F:Type} [Add F] [Sub F] [Mul F] [OfNat F 0] [DecidableEq F]
/-- One point is put into the row of its digit. -/
def bkS (z:F×F×F) (S:List (F×F×F)) (p:F×F×F) (d:Int):List (F×F×F):=
  if d > 0 then S.set d.toNat (jpl (S.getD d.toNat z) p) else if d<0 then S.set (-d).toNat (jpl (S.getD (-d).toNat z) (jng p)) else S
/-- So many points are. -/
def bkN (z:F×F×F) (S:List (F×F×F)) (ps:List (F×F×F)) (ds:List Int):Nat→List (F×F×F)
  | 0=>S
  | i+1=>bkS z (bkN z S ps ds i) (ps.getD i z) (ds.getD i 0)
/-- Sums from above, and their sums. -/
def toR (z:F×F×F) (S:List (F×F×F)):Nat→F×F×F
  | 0=>z
  | n+1=>jpl (toR z S n) (S.getD (16-n) z)
def toO (z:F×F×F) (S:List (F×F×F)):Nat→F×F×F
  | 0=>z
  | n+1=>jpl (toO z S n) (toR z S (n+1))
def bkT (z:F×F×F) (ps:List (F×F×F)) (ds:List Int):F×F×F:=toO z (bkN z (List.replicate 17 z) ps ds ps.length) 16
/-- The digits of one place. -/
def rowAt (L:List (List Int)) (i:Nat):List Int:=L.map fun l=>l.getD i 0
def alN (z:F×F×F) (ps:List (F×F×F)) (L:List (List Int)) (m:Nat):Nat→F×F×F
  | 0=>z
  | t+1=>jpl (jtws 5 (alN z ps L m t)) (bkT z ps (rowAt L (m-1-t)))
theorem bkS_len (z:F×F×F) (S:List (F×F×F)) (p:F×F×F) (d:Int):(bkS z S p d).length=S.length:=by
  unfold bkS
  split
  · exact List.length_set
  · split
    · exact List.length_set
    · rfl
theorem bkN_len (z:F×F×F) (S ps:List (F×F×F)) (ds:List Int):∀i,(bkN z S ps ds i).length=S.length
  | 0=>rfl
  | i+1=>(bkS_len ..).trans (bkN_len z S ps ds i)
end

/-! What stands for what: any relation that goes along with sums, doubles and negatives. -/
section
variable {F:Type} [Add F] [Sub F] [Mul F] [OfNat F 0] [DecidableEq F] {M:Type} [IMod M]
structure Rel (R:F×F×F→M→Prop) (z:F×F×F):Prop where
  ze:R z 0
  pl:∀{a b x y},R a x→R b y→R (jpl a b) (x+y)
  tw:∀{a x},R a x→R (jtw a) (x+x)
  ng:∀{a x},R a x→R (jng a) (-x)
variable {R:F×F×F→M→Prop} {z:F×F×F}

/-- Sums of multiples. -/
def wsum (T:Nat→M):Nat→M
  | 0=>0
  | n+1=>wsum T n+((n+1:Nat):Int) • T (n+1)
def updT (T:Nat→M) (d:Nat) (p:M):Nat→M:=fun i=>if i=d then T i+p else T i
theorem wsum_upd (T:Nat→M) (d:Nat) (p:M) (hd:1≤d):∀n,wsum (updT T d p) n=if d≤n then wsum T n+(d:Int) • p else wsum T n
  | 0=>by rw[if_neg (by omega)];rfl
  | n+1=>by
    show wsum (updT T d p) n+((n+1:Nat):Int) • updT T d p (n+1)=_
    rw[wsum_upd T d p hd n]
    by_cases h:d≤n
    · rw[if_pos h,if_pos (by omega)]
      have e:updT T d p (n+1)=T (n+1):=if_neg (by omega)
      rw[e]
      show _=wsum T n+((n+1:Nat):Int) • T (n+1)+(d:Int) • p
      generalize ((n+1:Nat):Int) • T (n+1)=x
      generalize (d:Int) • p=y
      grind
    · rw[if_neg h]
      by_cases h2:d=n+1
      · subst h2
        rw[if_pos (Nat.le_refl _)]
        have e:updT T (n+1) p (n+1)=T (n+1)+p:=if_pos rfl
        rw[e,zsm_dist]
        show _=wsum T n+((n+1:Nat):Int) • T (n+1)+((n+1:Nat):Int) • p
        generalize ((n+1:Nat):Int) • T (n+1)=x
        generalize ((n+1:Nat):Int) • p=y
        grind
      · rw[if_neg (by omega)]
        have e:updT T d p (n+1)=T (n+1):=if_neg (fun h=>h2 h.symm)
        rw[e]
        rfl

def rM (T:Nat→M):Nat→M
  | 0=>0
  | n+1=>rM T n+T (16-n)
def oM (T:Nat→M):Nat→M
  | 0=>0
  | n+1=>oM T n+rM T (n+1)
/-- Sums from above n: each so often as it lies above n. -/
theorem oM_is (T:Nat→M):oM T 16=wsum T 16:=by
  simp only[oM,rM,wsum]
  grind

theorem toR_ok (hR:Rel R z) {S:List (F×F×F)} {T:Nat→M} (h:∀i,i≤16→R (S.getD i z) (T i)):∀n,R (toR z S n) (rM T n)
  | 0=>hR.ze
  | n+1=>hR.pl (toR_ok hR h n) (h _ (by omega))
theorem toO_ok (hR:Rel R z) {S:List (F×F×F)} {T:Nat→M} (h:∀i,i≤16→R (S.getD i z) (T i)):∀n,R (toO z S n) (oM T n)
  | 0=>hR.ze
  | n+1=>hR.pl (toO_ok hR h n) (toR_ok hR h (n+1))

theorem set_getD {α:Type} (l:List α) (i j:Nat) (x z:α) (h:i<l.length):(l.set i x).getD j z=if j=i then x else l.getD j z:=by
  by_cases e:j=i
  · subst e
    simp [List.getD,h]
  · rw[if_neg e]
    simp [List.getD,List.getElem?_set_ne (Ne.symm e)]

/-- The rows after so many points, and what they stand for. -/
theorem bkN_ok (hR:Rel R z) {ps:List (F×F×F)} {Ps:List M} (hl:Ps.length=ps.length) (hp:∀i,i<ps.length→R (ps.getD i z) (Ps.getD i 0)) {ds:List Int} (hd:∀i,-16≤ds.getD i 0∧ds.getD i 0≤16) :
    ∀n,n≤ps.length→∃T:Nat→M,(∀i,i≤16→R ((bkN z (List.replicate 17 z) ps ds n).getD i z) (T i))∧wsum T 16=dot ((List.range n).map fun i=>ds.getD i 0) ((List.range n).map fun i=>Ps.getD i 0)
  | 0,_=>⟨fun _=>0,fun i hi=>by
      have e:(List.replicate 17 z).getD i z=z:=by
        rw[List.getD_eq_getElem?_getD,List.getElem?_replicate,if_pos (by omega)]
        rfl
      show R ((List.replicate 17 z).getD i z) 0
      rw[e]
      exact hR.ze,by
      have h:∀n,wsum (fun _=>(0:M)) n=0:=fun n=>by
        induction n with
        | zero=>rfl
        | succ n ih=>
          show wsum (fun _=>(0:M)) n+((n+1:Nat):Int) • (0:M)=0
          rw[ih,zsm_ze,ad0]
      exact (h 16).trans (dot_nil _).symm⟩
  | n+1,hn=>by
    obtain ⟨T,h1,h2⟩:=bkN_ok hR hl hp hd n (by omega)
    have hdn:=hd n
    have hlen:(bkN z (List.replicate 17 z) ps ds n).length=17:=by rw[bkN_len,List.length_replicate]
    have hdot:dot ((List.range (n+1)).map fun i=>ds.getD i 0) ((List.range (n+1)).map fun i=>Ps.getD i 0)=dot ((List.range n).map fun i=>ds.getD i 0) ((List.range n).map fun i=>Ps.getD i 0)+ds.getD n 0 • Ps.getD n 0:=by
      rw[List.range_succ,List.map_append,List.map_append]
      exact dot_snoc _ _ _ _ (by simp)
    rw[hdot]
    show ∃T:Nat→M,(∀i,i≤16→R ((bkS z (bkN z (List.replicate 17 z) ps ds n) (ps.getD n z) (ds.getD n 0)).getD i z) (T i))∧_
    have hpn:=hp n (by omega)
    generalize bkN z (List.replicate 17 z) ps ds n=S at *
    generalize ds.getD n 0=d at *
    generalize ps.getD n z=p at *
    generalize Ps.getD n 0=P at *
    by_cases hpos:d > 0
    · obtain ⟨e,rfl⟩:=Int.eq_ofNat_of_zero_le (Int.le_of_lt hpos)
      refine ⟨updT T e P,fun i hi=>?_,?_⟩
      · have eS:bkS z S p (e:Int)=S.set e (jpl (S.getD e z) p):=if_pos hpos
        rw[eS,set_getD _ _ _ _ _ (by omega)]
        by_cases hie:i=e
        · subst hie
          rw[if_pos rfl]
          have eT:updT T i P i=T i+P:=if_pos rfl
          rw[eT]
          exact hR.pl (h1 _ hi) hpn
        · rw[if_neg hie]
          have eT:updT T e P i=T i:=if_neg hie
          rw[eT]
          exact h1 _ hi
      · rw[wsum_upd _ _ _ (by omega),if_pos (by omega),h2]
    · by_cases hneg:d<0
      · obtain ⟨e,he⟩:=Int.eq_ofNat_of_zero_le (a:=-d) (by omega)
        obtain rfl:d = -(e:Int):=by omega
        refine ⟨updT T e (-P),fun i hi=>?_,?_⟩
        · have eS:bkS z S p (-(e:Int))=S.set e (jpl (S.getD e z) (jng p)):=by
            unfold bkS
            rw[if_neg hpos,if_pos hneg,Int.neg_neg,Int.toNat_natCast]
          rw[eS,set_getD _ _ _ _ _ (by omega)]
          by_cases hie:i=e
          · subst hie
            rw[if_pos rfl]
            have eT:updT T i (-P) i=T i + -P:=if_pos rfl
            rw[eT]
            exact hR.pl (h1 _ hi) (hR.ng hpn)
          · rw[if_neg hie]
            have eT:updT T e (-P) i=T i:=if_neg hie
            rw[eT]
            exact h1 _ hi
        · rw[wsum_upd _ _ _ (by omega),if_pos (by omega),h2,zsm_neg,zsm_ng]
      · obtain rfl:d=0:=by omega
        refine ⟨T,fun i hi=>?_,?_⟩
        · have eS:bkS z S p 0=S:=by unfold bkS;rw[if_neg (by decide),if_neg (by decide)]
          rw[eS]
          exact h1 _ hi
        · rw[h2,zsm_zero,ad0]

theorem getD_range {α:Type} (z:α) (l:List α) {n:Nat} (h:n=l.length):((List.range n).map fun i=>l.getD i z)=l:=by
  subst h
  apply List.ext_getElem
  · simp
  · intro i h1 h2
    simp [List.getD,h2]
theorem bkT_ok (hR:Rel R z) {ps:List (F×F×F)} {Ps:List M} (hl:Ps.length=ps.length) (hp:∀i,i<ps.length→R (ps.getD i z) (Ps.getD i 0)) {ds:List Int} (hdl:ds.length=ps.length) (hd:∀i,-16≤ds.getD i 0∧ds.getD i 0≤16) :
    R (bkT z ps ds) (dot ds Ps):=by
  obtain ⟨T,h1,h2⟩:=bkN_ok hR hl hp hd ps.length (Nat.le_refl _)
  have h3:=toO_ok hR h1 16
  rw[oM_is,h2,getD_range 0 ds hdl.symm,getD_range 0 Ps hl.symm] at h3
  exact h3

theorem jtws5 (hR:Rel R z) {a:F×F×F} {x:M} (h:R a x):R (jtws 5 a) ((32:Int) • x):=by
  have h1:=hR.tw (hR.tw (hR.tw (hR.tw (hR.tw h))))
  have e:x+x+(x+x)+(x+x+(x+x))+(x+x+(x+x)+(x+x+(x+x)))+(x+x+(x+x)+(x+x+(x+x))+(x+x+(x+x)+(x+x+(x+x))))=(32:Int) • x:=by grind
  rw[←e]
  exact h1

theorem alN_ok (hR:Rel R z) {ps:List (F×F×F)} {Ps:List M} (hl:Ps.length=ps.length) (hp:∀i,i<ps.length→R (ps.getD i z) (Ps.getD i 0)) {L:List (List Int)} {m:Nat} (hL:L.length=ps.length) (hm:∀l,l∈L→l.length=m) (hd:∀l,l∈L→∀d,d∈l → -16≤d∧d≤16) :
    ∀t,t≤m→R (alN z ps L m t) (dot (L.map fun l=>vlW (l.drop (m-t))) Ps)
  | 0,_=>by
    have e:dot (L.map fun l=>vlW (l.drop (m-0))) Ps=0:=by
      rw[show (L.map fun l=>vlW (l.drop (m-0)))=L.map fun _=>(0:Int) from List.map_congr_left fun l hl=>by rw[Nat.sub_zero,List.drop_eq_nil_of_le (Nat.le_of_eq (hm l hl))];rfl]
      exact dot_zeros L Ps
    rw[e]
    exact hR.ze
  | t+1,ht=>by
    have ih:=alN_ok hR hl hp hL hm hd t (by omega)
    have hrow:R (bkT z ps (rowAt L (m-1-t))) (dot (rowAt L (m-1-t)) Ps):=by
      refine bkT_ok hR hl hp (by unfold rowAt;rw[List.length_map];exact hL) fun i=>?_
      unfold rowAt
      rw[List.getD_eq_getElem?_getD,List.getElem?_map]
      cases e:L[i]? with
      | none=>
        show (-16:Int)≤0∧(0:Int)≤16
        exact ⟨by decide,by decide⟩
      | some l=>
        have hmem:=List.mem_of_getElem? e
        show -16≤l.getD (m-1-t) 0∧l.getD (m-1-t) 0≤16
        have hlt:m-1-t<l.length:=by rw[hm l hmem];omega
        rw[List.getD_eq_getElem?_getD,List.getElem?_eq_getElem hlt]
        exact hd l hmem _ (List.getElem_mem hlt)
    have h:=hR.pl (jtws5 hR ih) hrow
    have e:dot (L.map fun l=>vlW (l.drop (m-(t+1)))) Ps=(32:Int) • dot (L.map fun l=>vlW (l.drop (m-t))) Ps+dot (rowAt L (m-1-t)) Ps:=by
      unfold rowAt
      refine dot_lin 32 _ _ _ L Ps fun l hmem=>?_
      have e1:m-(t+1)=m-1-t:=by omega
      have e2:m-t=m-1-t+1:=by omega
      rw[e1,e2]
      exact vlW_drop l _ (by rw[hm l hmem];omega)
    rw[e]
    exact h
end
end Go.Proofs.Ytdaligcdaalnmaa

/- The points of a curve, as a group; many of them, each as often as its number says. No conditions. -/
namespace Go.Proofs.Ytdaligcdaalnmaa

section
variable {F:Type} [Fld F] [DecidableEq F] {b:F}
/-- The points of the curve. -/
def CP (b:F):Type:={ P:Pt F // OnC b P }
@[reducible] def cpAG (hc:Cv b):AG (CP b) where
  ad P Q:=⟨gadd P.1 Q.1,gadd_on hc _ _ P.2 Q.2⟩
  ng P:=⟨gneg P.1,gneg_on _ P.2⟩
  ze:=⟨none,True.intro⟩
  ad_ze P:=Subtype.ext (gadd_none _)
  ad_cm P Q:=Subtype.ext (gadd_comm hc _ _ P.2 Q.2)
  ad_as P Q S:=Subtype.ext (gadd_assoc hc _ _ _ P.2 Q.2 S.2)
  ng_ad P:=Subtype.ext (by
    show gadd (gneg P.1) P.1=none
    rw[gadd_comm hc _ _ (gneg_on _ P.2) P.2,gadd_gneg hc _ P.2])
/-- A sum of multiples of points. -/
def gsum:List Nat→List (Pt F)→Pt F
  | k::ks,P::Ps=>gadd (nmul P k) (gsum ks Ps)
  | _,_=>none
theorem gsum_on (hc:Cv b):∀(ks:List Nat) (Ps:List (Pt F)),(∀P,P∈Ps→OnC b P)→OnC b (gsum ks Ps)
  | [],_,_=>True.intro
  | _::_,[],_=>True.intro
  | k::ks,P::Ps,h=>gadd_on hc _ _ (nmul_on hc (h P (List.mem_cons_self ..)) k) (gsum_on hc ks Ps fun Q hQ=>h Q (List.mem_cons_of_mem _ hQ))

theorem ns_val (hc:Cv b) (P:CP b):∀n:Nat,(letI:=cpAG hc;AG.ns n P).1=nmul P.1 n
  | 0=>rfl
  | n+1=>by
    show gadd (letI:=cpAG hc;AG.ns n P).1 P.1=gadd (nmul P.1 n) P.1
    rw[ns_val hc P n]
theorem dot_val (hc:Cv b):∀(ks:List Nat) (Ps:List (CP b)),(letI:=cpAG hc;dot (ks.map fun k:Nat=>(k:Int)) Ps).1=gsum ks (Ps.map (·.1))
  | [],Ps=>by
    letI:=cpAG hc
    show (dot ([]:List Int) Ps).1=none
    rw[dot_nil]
    rfl
  | _::_,[]=>rfl
  | k::ks,P::Ps=>by
    show gadd (letI:=cpAG hc;AG.ns k P).1 (letI:=cpAG hc;dot (ks.map fun k:Nat=>(k:Int)) Ps).1=gadd (nmul P.1 k) (gsum ks (Ps.map (·.1)))
    rw[ns_val,dot_val hc ks Ps]

theorem cp_rel (hc:Cv b) (z:F×F×F) (hz:z.2.2=0):letI:=cpAG hc;Rel (F:=F) (M:=CP b) (fun a P=>Jc P.1 a) z:=by
  letI:=cpAG hc
  exact ⟨hz,fun {a b x y} h1 h2=>jpl_ok hc.two _ _ _ _ h1 h2,fun {a x} h=>jtw_ok hc.two _ _ h,fun {a x} h=>jng_ok _ _ h⟩

/-- All digits of all numbers. -/
def digs (n:Nat) (ks:List Nat):List (List Int):=ks.map fun k=>(dgW k n).1
theorem dig_one {k n:Nat} (hn:n=52) (h:k<2 ^ 256):vlW ((dgW k n).1.drop (n-n))=(k:Int):=by
  rw[Nat.sub_self,List.drop_zero]
  exact (dgW_all hn h).1
theorem digs_val {n:Nat} (hn:n=52) {ks:List Nat} (hk:∀k,k∈ks→k<2 ^ 256):(digs n ks).map (fun l=>vlW (l.drop (n-n)))=ks.map fun k:Nat=>(k:Int):=by
  unfold digs
  rw[List.map_map]
  exact List.map_congr_left fun k hm=>dig_one hn (hk k hm)

/-- Many points, by rows of digits, are their sum. -/
theorem many_sum {n:Nat} (hn:n=52) (hc:Cv b) (z:F×F×F) (hz:z.2.2=0) {ps:List (F×F×F)} {Ps:List (Pt F)} (hl:Ps.length=ps.length) (hon:∀P,P∈Ps→OnC b P) (hp:∀i,i<ps.length→Jc (Ps.getD i none) (ps.getD i z)) {ks:List Nat} (hkl:ks.length=ps.length) (hk:∀k,k∈ks→k<2 ^ 256) :
    Jc (gsum ks Ps) (alN z ps (digs n ks) n n):=by
  letI:=cpAG hc
  let Qs:List (CP b):=Ps.attach.map fun P=>⟨P.1,hon P.1 P.2⟩
  have hQ:Qs.map (·.1)=Ps:=by
    show (Ps.attach.map fun P=>(⟨P.1,hon P.1 P.2⟩:CP b)).map (·.1)=Ps
    rw[List.map_map]
    exact List.attach_map_subtype_val Ps
  have hQl:Qs.length=ps.length:=by rw[←hl,←hQ,List.length_map]
  have hget:∀i,(Qs.getD i 0).1=Ps.getD i none:=fun i=>by
    rw[←hQ,List.getD_eq_getElem?_getD,List.getD_eq_getElem?_getD,List.getElem?_map]
    cases Qs[i]?<;>rfl
  have h:=alN_ok (cp_rel hc z hz) (L:=digs n ks) (m:=n) hQl (fun i hi=>by
      show Jc (Qs.getD i 0).1 (ps.getD i z)
      rw[hget]
      exact hp i hi) (by unfold digs;rw[List.length_map];exact hkl) (fun l hm=>by
      obtain ⟨k,_,rfl⟩:=List.mem_map.1 hm
      exact dgW_len k n) (fun l hm d hd=>by
      obtain ⟨k,_,rfl⟩:=List.mem_map.1 hm
      exact dgW_range k n d hd) n (Nat.le_refl _)
  rw[digs_val hn hk] at h
  have h:Jc (dot (ks.map fun k:Nat=>(k:Int)) Qs).1 (alN z ps (digs n ks) n n):=h
  rw[dot_val hc ks Qs,hQ] at h
  exact h
end
end Go.Proofs.Ytdaligcdaalnmaa

/- Digits of many numbers, and what else the sums of both curves share. No conditions. -/
namespace Go.Proofs.Ytdaligcdaalnmaa

/-- Digits that are small enough. -/
def dsOk (D:List Int):Prop:=∀i,-16≤D.getD i 0∧D.getD i 0≤16
/-- All digits of all numbers; how many places there are. -/
def dgK (N:Nat) (k:List U4):List (List Int):=digs N (k.map (·.val))
def mst (N:Nat):List U4→Nat
  | []=>0
  | _::_=>N
theorem dgK_len (N:Nat) (k:List U4):(dgK N k).length=k.length:=by unfold dgK digs;rw[List.length_map,List.length_map]
theorem dgK_get (N:Nat) (k:List U4) (i:Nat) (h:i<k.length):(dgK N k).getD i []=(dgW (k.getD i 0).val N).1:=by
  unfold dgK digs
  simp [List.getD,h]
theorem dgK_row {N:Nat} (k:List U4) (i:Nat) (h:i<k.length):((dgK N k).getD i []).length=N:=by
  rw[dgK_get N k i h,dgW_len]
theorem dgK_dig (N:Nat) (k:List U4) (i j:Nat):-16≤((dgK N k).getD i []).getD j 0∧((dgK N k).getD i []).getD j 0≤16:=by
  by_cases h:i<k.length
  · rw[dgK_get N k i h]
    by_cases h2:j<(dgW (k.getD i 0).val N).1.length
    · rw[List.getD_eq_getElem?_getD,List.getElem?_eq_getElem h2]
      exact dgW_range _ _ _ (List.getElem_mem h2)
    · rw[List.getD_eq_getElem?_getD,List.getElem?_eq_none (by omega)]
      show (-16:Int)≤0∧(0:Int)≤16
      exact ⟨by decide,by decide⟩
  · have:(dgK N k).getD i []=[]:=by rw[List.getD_eq_getElem?_getD,List.getElem?_eq_none (by rw[dgK_len];omega)];rfl
    rw[this]
    show (-16:Int)≤0∧(0:Int)≤16
    exact ⟨by decide,by decide⟩
/-- The sum, as it is reckoned. -/
def smJ {F:Type} [Add F] [Sub F] [Mul F] [OfNat F 0] [DecidableEq F] (N:Nat) (z:F×F×F) (P:List (F×F×F)) (k:List U4):F×F×F:=alN z P (dgK N k) (mst N k) (mst N k)

theorem rowAt_get (L:List (List Int)) (h i:Nat):(rowAt L h).getD i 0=(L.getD i []).getD h 0:=by
  unfold rowAt
  rw[List.getD_eq_getElem?_getD,List.getElem?_map,List.getD_eq_getElem?_getD (l:=L)]
  cases L[i]? with
  | none=>rfl
  | some l=>rfl
theorem row_ext {D:List Int} {L:List (List Int)} {h:Nat} (hl:D.length=L.length) (hg:∀j,j<L.length→D.getD j 0=(L.getD j []).getD h 0):D=rowAt L h:=by
  have hr:(rowAt L h).length=L.length:=by unfold rowAt;rw[List.length_map]
  apply List.ext_getElem (by rw[hl,hr])
  intro i h1 h2
  have e:=hg i (by omega)
  rw[←rowAt_get,List.getD_eq_getElem?_getD,List.getD_eq_getElem?_getD,List.getElem?_eq_getElem h1,List.getElem?_eq_getElem h2] at e
  exact e
theorem take_snoc {α:Type} (l:List α) (z:α) {i:Nat} (h:i<l.length):l.take i++[l.getD i z]=l.take (i+1):=by
  rw[List.take_add_one,List.getElem?_eq_getElem h,List.getD_eq_getElem?_getD,List.getElem?_eq_getElem h]
  rfl

theorem map_getD {α β:Type} (f:α→β) (l:List α) (a:α) (b:β) {i:Nat} (h:i<l.length):(l.map f).getD i b=f (l.getD i a):=by
  simp [List.getD,h]
/-- How many points are refused. -/
def chkE (a b:Int) (w:Bool):Int:=if a=b then if a > 4096 then 2 else if w then 30 else 0 else 3
theorem chk_ne {a b:Int} {w:Bool} (h:¬a=b):chkE a b w=3:=if_neg h
theorem chk_gt {a b:Int} {w:Bool} (h:a=b) (h2:a > 4096):chkE a b w=2:=by unfold chkE;rw[if_pos h,if_pos h2]
theorem chk_w {a b:Int} {w:Bool} (h:a=b) (h2:¬a > 4096) (hw:w=true):chkE a b w=30:=by unfold chkE;rw[if_pos h,if_neg h2,if_pos hw]
theorem chk_ok {a b:Int} {w:Bool} (h:a=b) (h2:¬a > 4096) (hw:w=false):chkE a b w=0:=by unfold chkE;rw[if_pos h,if_neg h2,hw,if_neg Bool.false_ne_true]
theorem chk_zero {a b:Int} {w:Bool} (h:chkE a b w=0):a=b∧¬a > 4096∧w=false:=by
  by_cases h1:a=b
  · by_cases h2:a > 4096
    · rw[chk_gt h1 h2] at h;exact absurd h (by decide)
    · cases w with
      | true=>rw[chk_w h1 h2 rfl] at h;exact absurd h (by decide)
      | false=>exact ⟨h1,h2,rfl⟩
  · rw[chk_ne h1] at h;exact absurd h (by decide)

theorem nil_is {x:Ctx} {q:Sq} (hq:q.n=0) {v:Value} (h:denS x (.v (.c (.val (.slice none 0 0)))) v):denS x (.v (.c (.sl q))) v:=by
  obtain ⟨h0,d,hd⟩:=h
  have e:[v]=[Value.slice none 0 0]:=by cases d<;>exact hd.1
  exact ⟨rfl,1,.inl ⟨none,0,e,hq⟩⟩
end Go.Proofs.Ytdaligcdaalnmaa
