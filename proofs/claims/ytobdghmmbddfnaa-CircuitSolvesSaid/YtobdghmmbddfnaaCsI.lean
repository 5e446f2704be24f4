/- Parts of a proof, one behind the other: Mm, Eo, Nl, Nr, Ns, Dv, Cr. No conditions. -/
import Derived.Test.YtobdghmmbddfnaaCsH
open Go.IntKind (wrap)
namespace Go.Proofs.Ytobdghmmbddfnaa
noncomputable section
section

theorem wrapU (n:Int):wrap IntKind.u64 n=n % 18446744073709551616:=rfl

/-- A product of limbs and two limbs more. -/
theorem mac {x b t u:Int} (hx:0≤x) (hx1:x<18446744073709551616) (hb:0≤b) (hb1:b<18446744073709551616) (ht:0≤t) (ht1:t<18446744073709551616) (hu:0≤u) (hu1:u<18446744073709551616) :
    x*b+t+u=(exOut 0 (exOut 0 ((x*b) % 18446744073709551616) t 0).1 u 0).1+18446744073709551616*wrap IntKind.u64 (wrap IntKind.u64 ((x*b) / 18446744073709551616+(exOut 0 ((x*b) % 18446744073709551616) t 0).2)+(exOut 0 (exOut 0 ((x*b) % 18446744073709551616) t 0).1 u 0).2) ∧
    (0≤(exOut 0 (exOut 0 ((x*b) % 18446744073709551616) t 0).1 u 0).1∧(exOut 0 (exOut 0 ((x*b) % 18446744073709551616) t 0).1 u 0).1<18446744073709551616) ∧
    (0≤wrap IntKind.u64 (wrap IntKind.u64 ((x*b) / 18446744073709551616+(exOut 0 ((x*b) % 18446744073709551616) t 0).2)+(exOut 0 (exOut 0 ((x*b) % 18446744073709551616) t 0).1 u 0).2) ∧
     wrap IntKind.u64 (wrap IntKind.u64 ((x*b) / 18446744073709551616+(exOut 0 ((x*b) % 18446744073709551616) t 0).2)+(exOut 0 (exOut 0 ((x*b) % 18446744073709551616) t 0).1 u 0).2)<18446744073709551616) ∧
    0≤(exOut 0 ((x*b) % 18446744073709551616) t 0).1∧(exOut 0 ((x*b) % 18446744073709551616) t 0).1<18446744073709551616:=by
  have hp:=prod_bound hx hx1 hb hb1
  generalize x*b=p at *
  obtain ⟨e1,a1,a1',c1,c1'⟩:=add_step (x:=p % 18446744073709551616) (y:=t) (c:=0) (by omega) (by omega) ht ht1 (by decide) (by decide)
  generalize exOut 0 (p % 18446744073709551616) t 0=o1 at *
  obtain ⟨e2,a2,a2',c2,c2'⟩:=add_step (x:=o1.1) (y:=u) (c:=0) a1 a1' hu hu1 (by decide) (by decide)
  generalize exOut 0 o1.1 u 0=o2 at *
  rw[wrapU,wrapU]
  refine ⟨?_,⟨a2,a2'⟩,⟨?_,?_⟩,a1,a1'⟩<;>omega

/-- A product of limbs and one limb more. -/
theorem mac1 {x b t:Int} (hx:0≤x) (hx1:x<18446744073709551616) (hb:0≤b) (hb1:b<18446744073709551616) (ht:0≤t) (ht1:t<18446744073709551616) :
  x*b+t=(exOut 0 ((x*b) % 18446744073709551616) t 0).1+18446744073709551616*wrap IntKind.u64 ((x*b) / 18446744073709551616+(exOut 0 ((x*b) % 18446744073709551616) t 0).2) ∧
  (0≤(exOut 0 ((x*b) % 18446744073709551616) t 0).1∧(exOut 0 ((x*b) % 18446744073709551616) t 0).1<18446744073709551616) ∧
  0≤wrap IntKind.u64 ((x*b) / 18446744073709551616+(exOut 0 ((x*b) % 18446744073709551616) t 0).2)∧wrap IntKind.u64 ((x*b) / 18446744073709551616+(exOut 0 ((x*b) % 18446744073709551616) t 0).2)<18446744073709551616:=by
 have hp:=prod_bound hx hx1 hb hb1
 generalize x*b=p at *
 obtain ⟨e1,a1,a1',c1,c1'⟩:=add_step (x:=p % 18446744073709551616) (y:=t) (c:=0) (by omega) (by omega) ht ht1 (by decide) (by decide)
 generalize exOut 0 (p % 18446744073709551616) t 0=o1 at *
 rw[wrapU]
 refine ⟨?_,⟨a1,a1'⟩,?_,?_⟩<;>omega

/-- The lowest limb goes out: with the prime r. -/
theorem negR_low {l q:Int} (hq:q=wrap IntKind.u64 (l*18446744069414584319)):(q*18446744069414584321+l) % 18446744073709551616=0:=by
 rw[wrapU] at hq
 omega

theorem pow4' : (2 ^ (64*4):Nat)=B4:=by kernel_rfl

theorem mod_next (X i:Nat):X % 2 ^ (64*(i+1))=X % 2 ^ (64*i)+2 ^ (64*i)*(X / 2 ^ (64*i) % 18446744073709551616):=by
 have h:(2:Nat) ^ (64*(i+1))=2 ^ (64*i)*18446744073709551616:=by
  rw[Nat.mul_add,Nat.pow_add]
 rw[h,Nat.mod_mul]

theorem mont_abs {r B v x y T Q:Nat} (e:v*B % r=1 % r) (h:T*B=(x*B % r)*(y*B % r)+Q*r):T*v % r=x*y % r:=by
  have h1:T*B % r=(x*B)*(y*B) % r:=by
    rw[h,Nat.add_mul_mod_self_right,←Nat.mul_mod]
  have h2:∀a:Nat,a*(v*B) % r=a % r:=fun a=>by rw[←Nat.mul_mod_mod,e,Nat.mul_mod_mod,Nat.mul_one]
  calc T*v % r=(T*v)*(v*B) % r:=(h2 _).symm
    _=(T*B)*(v*v) % r:=by congr 1;simp only[Nat.mul_comm,Nat.mul_left_comm]
    _=(T*B % r)*(v*v) % r:=by rw[Nat.mod_mul_mod]
    _=((x*B)*(y*B) % r)*(v*v) % r:=by rw[h1]
    _=((x*B)*(y*B))*(v*v) % r:=by rw[Nat.mod_mul_mod]
    _=(x*y*(v*B))*(v*B) % r:=by congr 1;simp only[Nat.mul_comm,Nat.mul_left_comm]
    _=x*y % r:=by rw[h2,h2]

theorem rinv_B4:rinv*B4 % rN=1 % rN:=by kernel_rfl

/-- What is left when a product has gone through all limbs. -/
theorem mont_out {x y:Fr} {T Q:Nat} (h:T*B4=(Ob.s x).n*(Ob.s y).n+Q*rN):redS T=x*y:=
 Fin.ext (mont_abs rinv_B4 h)

end

section

/-- The contracts of both: where the first one has none, the second one's. -/
def Env.or (a b:Env):Env:={ a with fn:=fun f=>match a.fn f with | some s=>some s | none=>b.fn f }
theorem env_or {P:Program} {a b:Env} (hA:EnvOk P a) (hB:EnvOk P b):EnvOk P (a.or b):=by
 refine ⟨hA.ty,hA.mixed,fun f s h=>?_,hA.mu,hA.inl,hA.ex,hA.inv⟩
 have h:(match a.fn f with | some s=>some s | none=>b.fn f)=some s:=h
 cases e:a.fn f with
 | some s' => rw[e] at h;exact hA.fn f s (by rw[e];exact h)
 | none=>rw[e] at h;exact hB.fn f s h
end

section

/-- One position more, without a block. -/
def nilCtx (y:Ctx) (n:Nat):Ctx:={ y with k:=fun q=>if q=n then .nil else y.k q }

/-- A contract whose result has an empty row behind the others. -/
theorem FnD.nil {P:Program} {f:Nat} {args:List SV} {r r' : SV} {es:List En} {q:Sq} (h:FnD P f args r es) (hq:q.n=0)
  (hr:∀(y:Ctx) v,y.k es.length = .nil→denS y r v→denS y r' v):FnD P f args r' (es++[.sq q]):=by
 intro x vs hk hF hd
 refine (h x vs hk hF hd).mono fun e w' ⟨v,y,he,hw,ht,hv⟩=>?_
 have hno:y.k es.length = .no:=(ht.mem.dom es.length).1 (by simp)
 have hext:Ext y (nilCtx y es.length):=by
  refine ⟨Nat.le_refl _,fun _ h=>⟨h,rfl⟩,fun p hp=>?_,fun _ _=>rfl,fun _ _ cs _ h=>⟨cs,h,rfl⟩⟩
  have:p≠es.length:=fun e=>hp (e ▸ hno)
  simp [nilCtx,this]
 have hreal:∀p,(nilCtx y es.length).k p = .real→y.k p = .real:=by
  intro p hp
  simp only[nilCtx] at hp
  split at hp
  ·cases hp
  ·exact hp
 have hget:∀p,p≠es.length→(es++[En.sq q])[p]? = es[p]? := by
  intro p hp
  by_cases h1:p<es.length
  ·rw[List.getElem?_append_left h1]
  ·rw[List.getElem?_append_right (by omega),List.getElem?_eq_none (by simp;omega),List.getElem?_eq_none (by omega)]
 have hm:Mem (nilCtx y es.length) (fun p=>(es++[En.sq q])[p]?):=by
  refine ⟨fun p=>?_,fun p l hp=>?_,fun p s hp hn=>?_,fun p e hp hrl=>?_,fun p s hp hs he=>?_,fun p hp=>?_,fun b hb=>ht.mem.fw b hb⟩
  ·by_cases hp:p=es.length
   ·subst hp;simp [nilCtx]
   ·show (es++[En.sq q])[p]? = none↔(if p=es.length then Kd.nil else y.k p) = .no
    rw[if_neg hp,hget p hp]
    exact ht.mem.dom p
  ·by_cases h1:p=es.length
   ·subst h1;simp at hp
   ·have hp:(es++[En.sq q])[p]? = some (.fl l):=hp
    rw[hget p h1] at hp
    show (if p=es.length then Kd.nil else y.k p) = .real
    rw[if_neg h1]
    exact ht.mem.fl p l hp
  ·by_cases h1:p=es.length
   ·subst h1
    have hp:(es++[En.sq q])[es.length]? = some (.sq s):=hp
    simp at hp
    rw[←hp]
    exact hq
   ·have hp:(es++[En.sq q])[p]? = some (.sq s):=hp
    rw[hget p h1] at hp
    have hn:(if p=es.length then Kd.nil else y.k p) = .nil:=hn
    rw[if_neg h1] at hn
    exact ht.mem.nil p s hp hn
  ·have h1:p≠es.length:=by
    rintro rfl
    simp [nilCtx] at hrl
   have hp:(es++[En.sq q])[p]? = some e:=hp
   rw[hget p h1] at hp
   obtain ⟨cs,ty,hc,hde⟩:=ht.mem.ent p e hp (hreal p hrl)
   exact ⟨cs,ty,hc,denEn_ext hext hde⟩
  ·exact ht.mem.inj p s (hreal p hp) (hreal s hs) he
  ·exact ht.mem.own p (hreal p hp)
 refine ⟨v,nilCtx y es.length,he,hw,⟨ht.ext.trans hext,hm,ht.os,ht.tape,ht.output,ht.blk,fun p hp=>ht.fresh p (hreal p hp),ht.fnew⟩,hr _ _ (by simp [nilCtx]) (denS_ext hext hv)⟩

theorem nil_slc {y:Ctx} {p es:Nat} (hk:y.k p = .nil) {v:Value} (h:denV y (.c (.val (.slice none 0 0))) v):denV y (.c (.slc p 0 0 es)) v:=by
 obtain ⟨_,d,h⟩:=h
 refine ⟨rfl,d,?_⟩
 have h:[v]=[Value.slice none 0 0]:=by cases d<;>exact h.1
 have g:(y.k p = .nil∧0=0∧0=0∧[v]=[Value.slice none 0 0]) ∨
  (y.k p = .real∧∃cap cs ty,[v]=[.slice (some ⟨y.β p,0,none⟩) 0 cap]∧0≤cap∧cap≤maxLen∧y.w.heap[y.β p]? = some (.cells cs ty (0,0))∧0+cap*es≤cs.size):=.inl ⟨hk,rfl,rfl,h⟩
 cases d<;>exact g

end

section

variable {w0:World} {F0:Nat→Prop} {K:Kp} {as:List Act} {x:Ctx} {a:Act}

theorem nil_ext {p:Nat} (hno:x.k p = .no):Ext x (nilCtx x p):=
 ⟨Nat.le_refl _,fun _ h=>⟨h,rfl⟩,fun q hq=>by
  have:q≠p:=fun e=>hq (e ▸ hno)
  simp [nilCtx,this],fun _ _=>rfl,fun _ _ cs _ h=>⟨cs,h,rfl⟩⟩
theorem nil_real {p q:Nat} (h:(nilCtx x p).k q = .real):x.k q = .real:=by
 simp only[nilCtx] at h
 split at h
 ·cases h
 ·exact h

/-- Slots that hold what an empty row at p may be. -/
def convN (p:Nat):List SV→List SV→Prop
 | [],[]=>True
 | s::l,s' :: l' => (s' = s∨∃es,s = .v (.c (.val (.slice none 0 0)))∧s' = .v (.c (.slc p 0 0 es)))∧convN p l l'
 | _,_=>False
theorem convN_ok {p:Nat} (hk:x.k p = .nil):∀{svs svs' : List SV},convN p svs svs' → convs x svs svs'
 | [],[],_=>trivial
 | [],_::_,h=>h.elim
 | _::_,[],h=>h.elim
 | s::l,s' :: l',h=>⟨fun v hd=>by
   rcases h.1 with e | ⟨es,e1,e2⟩
   ·rw[e];exact hd
   ·subst e1 e2
    exact nil_slc hk hd,convN_ok hk h.2⟩

theorem Sim.nilRow {nt nx:Nat} {tl:List Nat} {svs svs' : List SV} {ml ml' : List Nat} {ens ens' : List (Option En)} {ftl:List (List Nat)} {fsv:List (List SV×Nat)}
  (hs:Sim w0 F0 K as (mkSt nt tl svs ml ens nx ftl fsv) x a) {p:Nat} (hp:look none ml ens p=none) (hp0:p≠0) {q:Sq} (hq:q.n=0) (hl:∀r,look none ml' ens' r=if r=p then some (.sq q) else look none ml ens r) (hc:convN p svs svs') :
  Sim w0 F0 K as (mkSt nt tl svs' ml' ens' nx ftl fsv) (nilCtx x p) a:=by
 have hm:=hs.mem
 have hno:x.k p = .no:=(hm.dom p).1 hp
 have hext:=nil_ext (x:=x) hno
 have hself:(nilCtx x p).k p = .nil:=by simp [nilCtx]
 have hoth:∀r,r≠p→(nilCtx x p).k r=x.k r:=fun r hr=>by simp [nilCtx,hr]
 have hget:∀r,r≠p→look none ml' ens' r=look none ml ens r:=fun r hr=>by rw[hl,if_neg hr]
 have hgp:look none ml' ens' p=some (.sq q):=by rw[hl,if_pos rfl]
 refine ⟨hs.defers,hs.nt,fun t=>?_,?_,?_,hs.frs.ext hext⟩
 ·exact look_conv (convN_ok hself hc) t _ (denS_ext hext (hs.t t))
 ·refine ⟨fun r=>?_,fun r l hr=>?_,fun r s hr hn=>?_,fun r e hr hrl=>?_,fun r s hr hs e=>hm.inj r s (nil_real hr) (nil_real hs) e,fun r hr=>hm.own r (nil_real hr),fun b hb=>hm.fw b hb⟩
  ·show look none ml' ens' r=none↔(nilCtx x p).k r = .no
   by_cases e:r=p
   ·subst e;rw[hgp,hself]
    constructor<;>(intro h;cases h)
   ·rw[hget r e,hoth r e]
    exact hm.dom r
  ·have hr:look none ml' ens' r=some (.fl l):=hr
   by_cases e:r=p
   ·subst e;rw[hgp] at hr;cases hr
   ·rw[hget r e] at hr
    rw[hoth r e]
    exact hm.fl r l hr
  ·have hr:look none ml' ens' r=some (.sq s):=hr
   by_cases e:r=p
   ·subst e;rw[hgp] at hr;cases hr;exact hq
   ·rw[hget r e] at hr
    rw[hoth r e] at hn
    exact hm.nil r s hr hn
  ·have hr:look none ml' ens' r=some e:=hr
   have e1:r≠p:=fun h=>by rw[h,hself] at hrl;cases hrl
   rw[hget r e1] at hr
   obtain ⟨cs,ty,hc,hde⟩:=hm.ent r e hr (nil_real hrl)
   exact ⟨cs,ty,hc,denEn_ext hext hde⟩
 ·have hb:=hs.base
  refine ⟨hb.f0,hb.fn,hb.size,hb.keep,fun r hr=>hb.ownK r (nil_real hr),hb.os,hb.tape,hb.output,fun r hr=>?_⟩
  obtain ⟨h1,h2,h3⟩:=hb.pin r hr
  exact ⟨h1,by rw[hoth 0 (Ne.symm hp0)];exact h2,h3⟩
end

section

section
variable {w0:World} {F0:Nat→Prop} {K:Kp} {aq:List Act} {x:Ctx} {a:Act}

def convIs (p:Nat):List It→List It→Prop
 | [],[]=>True
 | i::l,i' :: l' => (i' = i∨(∃es,i = .val (.slice none 0 0)∧i' = .slc p 0 0 es)∨∃b,i = .lit b∧i' = .bool b)∧convIs p l l'
 | _,_=>False
theorem convIs_ok {p:Nat} (hk:x.k p = .nil):∀{l l' : List It} {cs:List Value},convIs p l l' → catL x.D l cs→catL x.D l' cs
 | [],[],_,_,h=>h
 | [],_::_,_,h,_=>h.elim
 | _::_,[],_,h,_=>h.elim
 | i::l,i' :: l',_,h,⟨c1,c2,e,h1,h2⟩=>by
  refine ⟨c1,c2,e,?_,convIs_ok hk h.2 h2⟩
  rcases h.1 with e1 | ⟨es,e1,e2⟩ | ⟨b,e1,e2⟩
  ·rw[e1];exact h1
  ·subst e1 e2
   obtain ⟨d,hd⟩:=h1
   have hv:c1=[Value.slice none 0 0]:=by cases d<;>exact hd.1
   exact ⟨0,.inl ⟨hk,rfl,rfl,hv⟩⟩
  ·subst e1 e2
   obtain ⟨d,hd⟩:=h1
   exact ⟨d,by cases d<;>exact hd⟩

theorem Sim.nilBlk {nt nx:Nat} {tl:List Nat} {svs:List SV} {ml ml' : List Nat} {ens ens' : List (Option En)} {ftl:List (List Nat)} {fsv:List (List SV×Nat)}
  (hs:Sim w0 F0 K aq (mkSt nt tl svs ml ens nx ftl fsv) x a) {p z:Nat} (hp:look none ml ens p=none) (hp0:p≠0) {q:Sq} (hq:q.n=0) {l l' : List It} (hz:look none ml ens z=some (.fl l)) (hc:convIs p l l')
  (hl:∀r,look none ml' ens' r=if r=p then some (.sq q) else if r=z then some (.fl l') else look none ml ens r) :
  Sim w0 F0 K aq (mkSt nt tl svs ml' ens' nx ftl fsv) (nilCtx x p) a:=by
 have hm:=hs.mem
 have hno:x.k p = .no:=(hm.dom p).1 hp
 have hext:=nil_ext (x:=x) hno
 have hself:(nilCtx x p).k p = .nil:=by simp [nilCtx]
 have hoth:∀r,r≠p→(nilCtx x p).k r=x.k r:=fun r hr=>by simp [nilCtx,hr]
 have hzp:z≠p:=fun e=>by rw[e,hp] at hz;cases hz
 have hget:∀r,r≠p→r≠z→look none ml' ens' r=look none ml ens r:=fun r hr hr2=>by rw[hl,if_neg hr,if_neg hr2]
 have hgp:look none ml' ens' p=some (.sq q):=by rw[hl,if_pos rfl]
 have hgz:look none ml' ens' z=some (.fl l'):=by rw[hl,if_neg hzp,if_pos rfl]
 refine ⟨hs.defers,hs.nt,fun t=>denS_ext hext (hs.t t),?_,?_,hs.frs.ext hext⟩
 ·refine ⟨fun r=>?_,fun r s hr=>?_,fun r s hr hn=>?_,fun r e hr hrl=>?_,fun r s hr hs e=>hm.inj r s (nil_real hr) (nil_real hs) e,fun r hr=>hm.own r (nil_real hr),fun b hb=>hm.fw b hb⟩
  ·show look none ml' ens' r=none↔(nilCtx x p).k r = .no
   by_cases e:r=p
   ·subst e;rw[hgp,hself]
    constructor<;>(intro h;cases h)
   ·rw[hoth r e]
    by_cases e2:r=z
    ·subst e2
     rw[hgz]
     constructor
     ·intro h;cases h
     ·intro h;have h2:look none ml ens r=none:=(hm.dom r).2 h;rw[h2] at hz;cases hz
    ·rw[hget r e e2]
     exact hm.dom r
  ·have hr:look none ml' ens' r=some (.fl s):=hr
   by_cases e:r=p
   ·subst e;rw[hgp] at hr;cases hr
   ·rw[hoth r e]
    by_cases e2:r=z
    ·subst e2;exact hm.fl r l hz
    ·rw[hget r e e2] at hr
     exact hm.fl r s hr
  ·have hr:look none ml' ens' r=some (.sq s):=hr
   by_cases e:r=p
   ·subst e;rw[hgp] at hr;cases hr;exact hq
   ·by_cases e2:r=z
    ·subst e2;rw[hgz] at hr;cases hr
    ·rw[hget r e e2] at hr
     rw[hoth r e] at hn
     exact hm.nil r s hr hn
  ·have hr:look none ml' ens' r=some e:=hr
   have e1:r≠p:=fun h=>by rw[h,hself] at hrl;cases hrl
   by_cases e2:r=z
   ·subst e2
    rw[hgz] at hr
    cases hr
    obtain ⟨cs,ty,hcc,hde⟩:=hm.ent r (.fl l) hz (nil_real hrl)
    have h3:catL (nilCtx x p).D l cs.toList:=denEn_ext (e:=.fl l) hext hde
    exact ⟨cs,ty,hcc,convIs_ok hself hc h3⟩
   ·rw[hget r e1 e2] at hr
    obtain ⟨cs,ty,hcc,hde⟩:=hm.ent r e hr (nil_real hrl)
    exact ⟨cs,ty,hcc,denEn_ext hext hde⟩
 ·have hb:=hs.base
  refine ⟨hb.f0,hb.fn,hb.size,hb.keep,fun r hr=>hb.ownK r (nil_real hr),hb.os,hb.tape,hb.output,fun r hr=>?_⟩
  obtain ⟨h1,h2,h3⟩:=hb.pin r hr
  exact ⟨h1,by rw[hoth 0 (Ne.symm hp0)];exact h2,h3⟩
def convB:List It→List It→Prop
 | [],[]=>True
 | i::l,i' :: l' => (i' = i∨∃b,i = .lit b∧i' = .bool b)∧convB l l'
 | _,_=>False
theorem convB_ok:∀{l l' : List It} {cs:List Value},convB l l' → catL x.D l cs→catL x.D l' cs
 | [],[],_,_,h=>h
 | [],_::_,_,h,_=>h.elim
 | _::_,[],_,h,_=>h.elim
 | i::l,i' :: l',_,h,⟨c1,c2,e,h1,h2⟩=>by
  refine ⟨c1,c2,e,?_,convB_ok h.2 h2⟩
  rcases h.1 with e1 | ⟨b,e1,e2⟩
  ·rw[e1];exact h1
  ·subst e1 e2
   obtain ⟨d,hd⟩:=h1
   exact ⟨d,by cases d<;>exact hd⟩

/-- A block's part that is decided is told as one that may be either. -/
theorem Sim.reBlk {nt nx:Nat} {tl:List Nat} {svs:List SV} {ml:List Nat} {ens ens' : List (Option En)} {ftl:List (List Nat)} {fsv:List (List SV×Nat)}
  (hs:Sim w0 F0 K aq (mkSt nt tl svs ml ens nx ftl fsv) x a) {z:Nat} {l l' : List It} (hz:look none ml ens z=some (.fl l)) (hc:convB l l')
  (hl:∀r,look none ml ens' r=if r=z then some (.fl l') else look none ml ens r):Sim w0 F0 K aq (mkSt nt tl svs ml ens' nx ftl fsv) x a:=by
 have hm:=hs.mem
 have hget:∀r,r≠z→look none ml ens' r=look none ml ens r:=fun r hr=>by rw[hl,if_neg hr]
 have hgz:look none ml ens' z=some (.fl l'):=by rw[hl,if_pos rfl]
 refine ⟨hs.defers,hs.nt,hs.t,?_,hs.base,hs.frs⟩
 refine ⟨fun r=>?_,fun r s hr=>?_,fun r s hr hn=>?_,fun r e hr hrl=>?_,hm.inj,hm.own,hm.fw⟩
 ·show look none ml ens' r=none↔x.k r = .no
  by_cases e:r=z
  ·subst e
   rw[hgz]
   constructor
   ·intro h;cases h
   ·intro h;have h2:look none ml ens r=none:=(hm.dom r).2 h;rw[h2] at hz;cases hz
  ·rw[hget r e]
   exact hm.dom r
 ·have hr:look none ml ens' r=some (.fl s):=hr
  by_cases e:r=z
  ·subst e;exact hm.fl r l hz
  ·rw[hget r e] at hr
   exact hm.fl r s hr
 ·have hr:look none ml ens' r=some (.sq s):=hr
  by_cases e:r=z
  ·subst e;rw[hgz] at hr;cases hr
  ·rw[hget r e] at hr
   exact hm.nil r s hr hn
 ·have hr:look none ml ens' r=some e:=hr
  by_cases e2:r=z
  ·subst e2
   rw[hgz] at hr
   cases hr
   obtain ⟨cs,ty,hcc,hde⟩:=hm.ent r (.fl l) hz hrl
   have h3:catL x.D l cs.toList:=hde
   exact ⟨cs,ty,hcc,convB_ok hc h3⟩
  ·rw[hget r e2] at hr
   exact hm.ent r e hr hrl
end
end

section

section
variable {P:Program} {w0:World} {F0:Nat→Prop} {K:Kp} {as:List Act} {env:Env} {dec:List (Nat×Bool)} {ops:Array Oper} {Q:Exit→Act→World→Prop}

/-- Those ahead of the call and those behind it. -/
structure SplitOk (ops:Array Oper) (c:Nat) (r:List (Nat×Oper)×List (Nat×Oper)×St):Prop where
 s1:r.1.Pairwise fun a b=>a.1<b.1
 t1:∀i o,(i,o)∈r.1→ops[i]? = some o∧i≠c
 s2:r.2.1.Pairwise fun a b=>a.1<b.1
 t2:∀i o,(i,o)∈r.2.1→ops[i]? = some o∧i≠c
 part:∀i,i<ops.size→i≠c→((∃o,(i,o)∈r.2.1)↔¬ ∃o,(i,o)∈r.1)

theorem Rem.len {anc:List Nat} {c:Nat} {listed:Array Bool} {r1 r2:List (Nat×Oper)} (h:Rem ops anc c listed r1) (g:Rem ops anc c listed r2):r1.length=r2.length:=by
 have nd:∀{r:List (Nat×Oper)},r.Pairwise (fun a b=>a.1<b.1)→r.Nodup:=fun h=>h.imp fun {a b} h e=>by rw[e] at h;omega
 have sub:∀{r1 r2:List (Nat×Oper)},Rem ops anc c listed r1→Rem ops anc c listed r2→∀q∈r1,q∈r2:=by
  intro r1 r2 h g q hq
  have hio:=h.there q.1 q.2 hq
  have hlt:q.1<ops.size:=(Array.getElem?_eq_some_iff.1 hio).1
  rcases (g.left q.1 hlt).1 ((h.left q.1 hlt).2 (.inl ⟨q.2,hq⟩)) with ⟨o,ho⟩ | hc
  ·have:=g.there q.1 o ho
   rw[hio] at this
   cases this
   exact ho
  ·have:=h.small q.1 q.2 hq;omega
 exact ((List.perm_ext_iff_of_nodup (nd h.sorted) (nd g.sorted)).2 fun q=>⟨sub h g q,sub g h q⟩).length_eq

theorem head_ready {anc:List Nat} {c i0:Nat} {o0:Oper} {rest:List (Nat×Oper)} {listed:Array Bool} (hget:∀i o,ops[i]? = some o→edgesOk i o=true∧anc.getD i 0=ancOf anc o) (hr:Rem ops anc c listed ((i0,o0)::rest)):i0∈Region.ready .any ops listed:=by
 have hio0:ops[i0]? = some o0:=hr.there i0 o0 (by simp)
 have hlt0:i0<ops.size:=(Array.getElem?_eq_some_iff.1 hio0).1
 have hi0c:i0<c:=hr.small i0 o0 (by simp)
 refine mem_ready.2 ⟨(hr.left i0 hlt0).2 (.inl ⟨o0,by simp⟩),o0,hio0,fun e he hb=>?_⟩
 have hedge:=(hget i0 o0 hio0).1
 unfold edgesOk at hedge
 have he' := List.all_eq_true.1 hedge e (Array.mem_toList_iff.2 he)
 simp only[hb,Bool.not_true,Bool.false_or] at he'
 have hlt' : e.on<i0:=by simpa using he'
 have hnot:¬listed.getD e.on true=false:=by
  rw[hr.left e.on (by omega)]
  rintro (⟨o',ho'⟩ | h)
  ·rcases List.mem_cons.1 ho' with h | h
   ·cases h;omega
   ·have:=(List.pairwise_cons.1 hr.sorted).1 _ h
    simp only at this;omega
  ·omega
 rw[getD_tf] at hnot
 cases hh:listed.getD e.on false with
 | true=>rfl
 | false=>exact absurd ⟨by rw[hr.size];omega,hh⟩ hnot

theorem split_first {anc:List Nat} {lo c i:Nat} {o:Oper} {D:List (Nat×Oper)} {listed:Array Bool} {σ σ' : St} {ob:List Prop} (hs:D.Pairwise fun a b=>a.1<b.1) (ht:∀i o,(i,o)∈D→ops[i]? = some o∧i≠c) (hcf:NoCf env ops anc [] fun i=>Nat.beq i c)
  (hio:ops[i]? = some o) (hanc:∀j,(anc.getD i 0).testBit j=true→listed.getD j false=true) (hiu:listed.getD i false=false) (hsz:i<listed.size) (hmem:(i,o)∈D)
  (hd:drawRun env dec ops.toList anc [] [] lo (D.filter fun q=>!(listed.getD q.1 false)) σ=some (ob,σ')) (ho:AllP ob) :
  ∃ob1 ob2 σ1,opStep env (alF lo (anc.getD i 0) (lo+16*i) none) dec ops.toList (lo+16*i) o σ=some (ob1,σ1)∧AllP ob1∧drawRun env dec ops.toList anc [] [] lo (D.filter fun q=>!((listed.setIfInBounds i true).getD q.1 false)) σ1=some (ob2,σ')∧AllP ob2:=by
 have nb:∀j,j≠c→Nat.beq j c=false:=fun j h=>by
  cases e:Nat.beq j c with
  | false=>rfl
  | true=>exact absurd (Nat.eq_of_beq_eq_true e) h
 have hmf:(i,o)∈D.filter fun q=>!(listed.getD q.1 false):=List.mem_filter.2 ⟨hmem,by simp only[hiu];rfl⟩
 obtain ⟨pre,post,hrem⟩:=List.append_of_mem hmf
 have hsub:=List.filter_sublist (p:=fun q:Nat×Oper=>!(listed.getD q.1 false)) (l:=D)
 have hsf:=hs.sublist hsub
 rw[hrem] at hsf hd
 have hsrt:=List.pairwise_append.1 hsf
 have inD:∀q∈pre++(i,o)::post,q∈D∧listed.getD q.1 false=false:=fun q hq=>by
  rw[←hrem] at hq
  have:=List.mem_filter.1 hq
  exact ⟨this.1,by simpa using this.2⟩
 have hne:∀q∈pre++post,q.1≠i:=by
  intro q hq e
  rcases List.mem_append.1 hq with h | h
  ·have:=hsrt.2.2 q h (i,o) (by simp);simp only at this;omega
  ·have:=(List.pairwise_cons.1 hsrt.2.1).1 q h;simp only at this;omega
 have hpre:∀q∈pre,q.1<i∧(anc.getD i 0).testBit q.1=false∧conflict env ops (([]:List (Option (List Nat))).getD q.1 none) (([]:List (Option (List Nat))).getD i none) q.2 o=false:=by
  intro q hq
  have hqi:q.1<i:=hsrt.2.2 q hq (i,o) (by simp)
  obtain ⟨hqD,hqu⟩:=inD q (List.mem_append_left _ hq)
  have hbit:(anc.getD i 0).testBit q.1=false:=by
   cases hh:(anc.getD i 0).testBit q.1 with
   | false=>rfl
   | true=>have:=hanc q.1 hh;rw[hqu] at this;cases this
  obtain ⟨hq1,hq2⟩:=ht q.1 q.2 hqD
  exact ⟨hqi,hbit,(hcf i o q.1 q.2 hio hq1 hqi (nb i (ht i o hmem).2) (nb q.1 hq2)).resolve_left (by rw[hbit];simp)⟩
 obtain ⟨ob1,ob2,σ1,_,g1,g2,g3,g4⟩:=drawRun_first hpre hd ho
 refine ⟨ob1,ob2,σ1,g1,g2,?_,g4⟩
 have e:(D.filter fun q=>!((listed.setIfInBounds i true).getD q.1 false))=pre++post:=by
  have e1:(D.filter fun q=>!((listed.setIfInBounds i true).getD q.1 false))=(D.filter fun q=>!(listed.getD q.1 false)).filter fun q=>decide (q.1≠i):=by
   rw[List.filter_filter]
   refine List.filter_congr fun q _=>?_
   by_cases h:q.1=i
   ·have:(listed.setIfInBounds i true).getD q.1 false=true:=by rw[h];simp [hsz]
    rw[this]
    simp [h]
   ·rw[getD_set_ne false (Ne.symm h)]
    simp [h]
  rw[e1,hrem,List.filter_append,List.filter_cons,if_neg (by simp),←List.filter_append]
  exact List.filter_eq_self.2 fun q hq=>by simpa using hne q hq
 rw[e]
 exact g3

theorem draw_split (ρ:Option Nat) (hE:EnvOk P env) {anc:List Nat} {lo c:Nat} {oc:Oper} (hget:∀i o,ops[i]? = some o→edgesOk i o=true∧anc.getD i 0=ancOf anc o) (hcf:NoCf env ops anc [] fun i=>Nat.beq i c) (hcc:ops[c]? = some oc)
    {runs:List (List (Nat×Oper)×List (Nat×Oper)×St)} (hD:∀r∈runs,SplitOk ops c r)
    (hcov:∀b:Nat→Bool,(∀i,i<ops.size→b i=true→∀j,(anc.getD i 0).testBit j=true→b j=true)→b c=false→(∀j,(anc.getD c 0).testBit j=true→b j=true)→∃r∈runs,∀i,i<ops.size→(b i=true↔∃o,(i,o)∈r.1))
    (hmax:∃r∈runs,∀i o,ops[i]? = some o→i≠c→(anc.getD i 0).testBit c=false→(i,o)∈r.1)
    (hK:∀r∈runs,∀y a',Sim w0 F0 K as r.2.2 y a' → wpOpIn (fenceR ρ) 0 P ops Q c (fun a w=>∀listed,Rem ops anc ops.size listed r.2.1→wpAnyIn (fenceR ρ) 0 P .any ops Q r.2.1.length listed a w) a' y.w) :
    ∀(fuel:Nat) (rem:List (Nat×Oper)) (listed:Array Bool) (σ:St) (x:Ctx) (a:Act),rem.length=fuel→Rem ops anc ops.size listed rem→listed.getD c true=false →
      (∀r∈runs,(∀i,i<ops.size→listed.getD i false=true→∃o,(i,o)∈r.1)→∃ob,drawRun env dec ops.toList anc [] [] lo (r.1.filter fun q=>!(listed.getD q.1 false)) σ=some (ob,r.2.2)∧AllP ob) →
      Sim w0 F0 K as σ x a→wpAnyIn (fenceR ρ) 0 P .any ops Q fuel listed a x.w:=by
  have hc:c<ops.size:=(Array.getElem?_eq_some_iff.1 hcc).1
  intro fuel
  induction fuel with
  | zero=>
    intro rem listed σ x a hl hr hcu _ _
    have hnil:rem=[]:=List.eq_nil_of_length_eq_zero hl
    subst hnil
    rcases (hr.left c hc).1 hcu with ⟨o,ho⟩ | h
    · cases ho
    · omega
  | succ fuel ih=>
    intro rem listed σ x a hl hr hcu hruns hs
    obtain ⟨hcsz,hcf0⟩:=getD_tf.1 hcu
    refine ⟨fun hnone=>?_,fun i hi=>?_⟩
    · exfalso
      cases rem with
      | nil=>simp at hl
      | cons q rest=>
        have:=head_ready hget hr
        rw[hnone] at this
        cases this
    obtain ⟨h0,o,hio,hall⟩:=mem_ready.1 hi
    have hlt:i<ops.size:=(Array.getElem?_eq_some_iff.1 hio).1
    have hanc:=ready_anc hr (hget i o hio).2 hall
    obtain ⟨hisz,hiu⟩:=getD_tf.1 h0
    rcases (hr.left i hlt).1 h0 with ⟨o',ho'⟩ | h
    case inr=>omega
    have hoo:o' = o:=by have:=hr.there i o' ho';rw[hio] at this;cases this;rfl
    subst hoo
    obtain ⟨pre,post,hrem⟩:=List.append_of_mem ho'
    subst hrem
    have hsrt:=List.pairwise_append.1 hr.sorted
    have hr' := hr.step hsrt hlt hanc
    have hl' : (pre++post).length=fuel:=by simp only[List.length_append,List.length_cons] at hl ⊢;omega
    by_cases hic:i=c
    · subst hic
      obtain ⟨r,hrm,hb⟩:=hcov (fun j=>listed.getD j false) hr.closed hcf0 hanc
      obtain ⟨ob,hd,_⟩:=hruns r hrm fun j hj h=>(hb j hj).1 h
      have hnil:(r.1.filter fun q=>!(listed.getD q.1 false))=[]:=by
        refine List.filter_eq_nil_iff.2 fun q hq=>?_
        have hq1:=((hD r hrm).t1 q.1 q.2 hq).1
        have:=(hb q.1 (Array.getElem?_eq_some_iff.1 hq1).1).2 ⟨q.2,hq⟩
        rw[show listed.getD q.1 false=true from this]
        simp
      rw[hnil] at hd
      simp only[drawRun,Option.some.injEq,Prod.mk.injEq] at hd
      have hσ:σ=r.2.2:=hd.2
      refine wpOpIn_mono (fun a' w' h' => ?_) (hK r hrm x a (by rw[←hσ];exact hs))
      have hR:Rem ops anc ops.size (listed.setIfInBounds i true) r.2.1:=by
        refine ⟨(hD r hrm).s2,fun j oj hj=>((hD r hrm).t2 j oj hj).1,fun j oj hj=>(Array.getElem?_eq_some_iff.1 ((hD r hrm).t2 j oj hj).1).1,hr'.size,fun j hj=>?_,hr'.closed⟩
        by_cases hji:j=i
        · subst hji
          constructor
          · intro h;simp [hcsz] at h
          · rintro (⟨oj,hoj⟩ | h)
            · exact absurd rfl ((hD r hrm).t2 j oj hoj).2
            · omega
        · rw[getD_set_ne true (Ne.symm hji),getD_tf,(hD r hrm).part j hj hji,←hb j hj]
          constructor
          · rintro ⟨_,h⟩
            exact .inl (by rw[h];simp)
          · rintro (h | h)
            · exact ⟨by rw[hr.size];exact hj,by simpa using h⟩
            · omega
      have:=h' _ hR
      rw[hR.len hr',hl'] at this
      exact this
    · obtain ⟨r0,hr0m,hr0⟩:=hmax
      have below:∀j,j<ops.size→listed.getD j false=true→∃oj,(j,oj)∈r0.1:=by
        intro j hj hlj
        refine ⟨ops[j],hr0 j _ (Array.getElem?_eq_getElem hj) (fun e=>by rw[e,hcf0] at hlj;cases hlj) ?_⟩
        cases hh:(anc.getD j 0).testBit c with
        | false=>rfl
        | true=>have:=hr.closed j hj hlj c hh;rw[hcf0] at this;cases this
      obtain ⟨ob0,hd0,ho0⟩:=hruns r0 hr0m below
      have hir0:(i,o')∈r0.1:=hr0 i o' hio hic (by
        cases hh:(anc.getD i 0).testBit c with
        | false=>rfl
        | true=>have:=hanc c hh;rw[hcf0] at this;cases this)
      obtain ⟨ob1,_,σ1,g1,g2,_,_⟩:=split_first (hD r0 hr0m).s1 (hD r0 hr0m).t1 hcf hio hanc hiu hisz hir0 hd0 ho0
      refine opStep_wp ρ hE hs hio g1 g2 (fun q h=>(alF_lt h).1) fun y a' hs' => ?_
      refine ih (pre++post) _ σ1 y a' hl' hr' (by rw[getD_set_ne true hic];exact hcu) (fun r hrm hsub=>?_) hs'
      obtain ⟨ob,hd,ho⟩:=hruns r hrm fun j hj hlj=>hsub j hj (getD_set_true hlj)
      obtain ⟨oi,hoi⟩:=hsub i hlt (by simp [hisz])
      have hoi' : oi=o' := by have:=((hD r hrm).t1 i oi hoi).1;rw[hio] at this;cases this;rfl
      subst hoi'
      obtain ⟨ob1',ob2',σ1',k1,k2,k3,k4⟩:=split_first (hD r hrm).s1 (hD r hrm).t1 hcf hio hanc hiu hisz hoi hd ho
      rw[g1] at k1
      cases k1
      exact ⟨ob2',k3,k4⟩

theorem uponIn_then {F:Fence} {n:Nat} {o:Oper} {a:Act} {next A:Act→World→Prop} {r:Result Next}:o.uponIn F n P a next (Exit.then A Q) r=o.uponIn F n P a next Q r:=by
 cases r with
 | ok v w=>cases v<;>rfl
 | halt e w=>cases e<;>rfl

/-- One walk for each set that may stand ahead of the call. -/
theorem Wq.split {ρ:Option Nat} {x:Ctx} {a:Act} (hE:EnvOk P env) {id c:Nat} {oc:Oper} {σ:St} {k:List KI} (hs:Sim w0 F0 K as σ x a) (hok:drawOkX env ops (ancs ops.toList []) c ops.toList 0=true) (hcc:ops[c]? = some oc) (hg:oc.guard=none)
    {runs:List (List (Nat×Oper)×List (Nat×Oper)×St)} (hD:∀r∈runs,SplitOk ops c r)
    (hcov:∀b:Nat→Bool,(∀i,i<ops.size→b i=true→∀j,((ancs ops.toList []).getD i 0).testBit j=true→b j=true)→b c=false→(∀j,((ancs ops.toList []).getD c 0).testBit j=true→b j=true)→∃r∈runs,∀i,i<ops.size→(b i=true↔∃o,(i,o)∈r.1))
    (hmax:∃r∈runs,∀i o,ops[i]? = some o→i≠c→((ancs ops.toList []).getD i 0).testBit c=false→(i,o)∈r.1)
    (hrun:∀r∈runs,∃ob,drawRun env [] ops.toList (ancs ops.toList []) [] [] σ.nx r.1 σ=some (ob,r.2.2)∧AllP ob)
    (h:∀r∈runs,∀y a',Sim w0 F0 K as r.2.2 y a' → Wq P Q (.ops (ops.extract 0 (c+1)) c [] :: .any ops c r.2.1::k) as .normal a' y.w ρ) :
    Wq P Q (.code (.region id ops true)::k) as .normal a x.w ρ:=by
  refine ⟨?_⟩
  have hc:c<ops.size:=(Array.getElem?_eq_some_iff.1 hcc).1
  obtain ⟨hget,hcf⟩:=drawOkX_hget hok
  refine wpIn_region_any hE.mixed ?_
  refine draw_split (x:={ x with w:={ x.w with drawn:=x.w.drawn+1 } }) (dec:=[]) (lo:=σ.nx) (rndOf ρ k) hE hget hcf hcc hD hcov hmax (fun r hr y a' hs' => ?_) ops.size (withIx 0 ops.toList) _ σ a (by simp [withIx_len]) ?_ (by simp [hc]) (fun r hr _=>?_) hs.drew
  · have h1:=(h r hr y a' hs').wp
    have h1:wpOpsIn (fenceR (rndOf ρ k)) 0 P (ops.extract 0 (c+1)) (wpK P Q ρ (.any ops c r.2.1::k) as) (List.range' c ((ops.extract 0 (c+1)).size-c)) a' y.w:=h1
    have hsz:(ops.extract 0 (c+1)).size-c=1:=by simp;omega
    have hge:(ops.extract 0 (c+1))[c]? = some oc:=by
      rw[Array.getElem?_extract_of_lt (by omega)]
      obtain ⟨h1,h2⟩:=Array.getElem?_eq_some_iff.1 hcc
      simpa using h2
    rw[hsz,List.range'_one,wpOpsIn_cons] at h1
    unfold wpOpIn at h1 ⊢
    rw[hge] at h1
    rw[hcc]
    have hw:∀y,Region.wanted oc y=true:=fun y=>by unfold Region.wanted;rw[hg]
    simp only[hw,if_true] at h1 ⊢
    refine ⟨h1.1,?_⟩
    have h2:=h1.2
    have e:wpK P Q ρ (.any ops c r.2.1::k) as=Exit.then (fun a w=>∀listed,Rem ops (ancs ops.toList []) ops.size listed r.2.1→wpAnyIn (fenceR (rndOf ρ k)) 0 P .any ops (wpK P Q ρ k as) r.2.1.length listed a w) (wpK P Q ρ k as):=rfl
    rw[e,uponIn_then] at h2
    exact h2
  · have:=Rem.all (ops:=ops) (ancs ops.toList []) ops.size
    rwa [List.take_of_length_le (by simp)] at this
  · obtain ⟨ob,hd,ho⟩:=hrun r hr
    refine ⟨ob,?_,ho⟩
    rw[show (r.1.filter fun q=>!((Array.replicate ops.size false).getD q.1 false))=r.1 from List.filter_eq_self.2 fun q hq=>by
      have:=(Array.getElem?_eq_some_iff.1 ((hD r hr).t1 q.1 q.2 hq).1).1
      simp [this]]
    exact hd

/-- The region at which a run stands. -/
def anyOps (k:List KI):Array Oper:=match k with | .code (.region _ ops _)::_=>ops | .code (.seq (.region _ ops _) _)::_=>ops | _=>#[]
def anyRest (k:List KI):List KI:=match k with | .code (.region _ _ _)::k=>k | .code (.seq (.region _ _ _) c)::k=>.code c::k | _=>[]
def pickI (ops:Array Oper) (l:List Nat):List (Nat×Oper):=l.filterMap fun i=>ops[i]?.map fun o=>(i,o)
def drawSt (env:Env) (ops:Array Oper) (D:List Nat) (σ:St):St:=
 match drawRun env [] ops.toList (ancs ops.toList []) [] [] σ.nx (pickI ops D) σ with
 | some (_,σ')=>σ'
 | none=>σ

theorem pick_mem {ops:Array Oper} {l:List Nat} {i:Nat} {o:Oper}:(i,o)∈pickI ops l↔i∈l∧ops[i]? = some o:=by
 unfold pickI
 rw[List.mem_filterMap]
 constructor
 ·rintro ⟨j,hj,h⟩
  cases hh:ops[j]? with
  | none=>rw[hh] at h;cases h
  | some o' => rw[hh] at h;cases h;exact ⟨hj,hh⟩
 ·rintro ⟨h1,h2⟩
  exact ⟨i,h1,by rw[h2];rfl⟩
theorem pick_ex {ops:Array Oper} {l:List Nat} {i:Nat} (h:i<ops.size):(∃o,(i,o)∈pickI ops l)↔i∈l:=
 ⟨fun ⟨_,ho⟩=>(pick_mem.1 ho).1,fun hi=>⟨ops[i],pick_mem.2 ⟨hi,Array.getElem?_eq_getElem h⟩⟩⟩
theorem pick_sorted {ops:Array Oper}:∀{l:List Nat},l.Pairwise (fun a b=>a<b)→(pickI ops l).Pairwise fun a b=>a.1<b.1
 | [],_=>.nil
 | i::l,h=>by
  have h' := List.pairwise_cons.1 h
  unfold pickI
  rw[List.filterMap_cons]
  split
  ·exact pick_sorted h'.2
  ·rename_i q hq
   cases hh:ops[i]? with
   | none=>rw[hh] at hq;cases hq
   | some o=>
    rw[hh] at hq
    cases hq
    exact List.pairwise_cons.2 ⟨fun q hq=>h'.1 q.1 (pick_mem.1 (show (q.1,q.2)∈pickI ops l from hq)).1,pick_sorted h'.2⟩
theorem splitOk_of {ops:Array Oper} {c:Nat} {D R:List Nat} {σ:St} (h1:D.Pairwise fun a b=>a<b) (h2:R.Pairwise fun a b=>a<b) (hc:c ∉ D∧c ∉ R) (hp:∀i,i<ops.size→i≠c→(i∈R↔i ∉ D)):SplitOk ops c (pickI ops D,pickI ops R,σ):=
 ⟨pick_sorted h1,fun _ _ h=>⟨(pick_mem.1 h).2,fun e=>hc.1 (e ▸ (pick_mem.1 h).1)⟩,pick_sorted h2,fun _ _ h=>⟨(pick_mem.1 h).2,fun e=>hc.2 (e ▸ (pick_mem.1 h).1)⟩,fun i hi hne=>by rw[pick_ex hi,pick_ex hi];exact hp i hi hne⟩
theorem drawSt_is {env:Env} {ops:Array Oper} {D:List Nat} {σ:St} (h:(drawRun env [] ops.toList (ancs ops.toList []) [] [] σ.nx (pickI ops D) σ).map (·.1)=some []):drawRun env [] ops.toList (ancs ops.toList []) [] [] σ.nx (pickI ops D) σ=some ([],drawSt env ops D σ):=by
 unfold drawSt
 cases hh:drawRun env [] ops.toList (ancs ops.toList []) [] [] σ.nx (pickI ops D) σ with
 | none=>rw[hh] at h;cases h
 | some r=>
  rw[hh] at h
  obtain ⟨ob,σ'⟩:=r
  simp only[Option.map_some,Option.some.injEq] at h
  subst h
  rfl

end
end

section

section
variable {w0:World} {F0:Nat→Prop} {K:Kp} {aq:List Act} {x:Ctx} {a:Act}

theorem Sim.subRow {nt nx:Nat} {tl:List Nat} {svs:List SV} {ml:List Nat} {ens ens' : List (Option En)} {ftl:List (List Nat)} {fsv:List (List SV×Nat)}
  (hs:Sim w0 F0 K aq (mkSt nt tl svs ml ens nx ftl fsv) x a) {z:Nat} {q q' : Sq} (hz:look none ml ens z=some (.sq q)) (hn:q'.n≤q.n) (he:q'.es=q.es) (hg:∀i,i<q'.n→q'.get i=q.get i)
  (hl:∀r,look none ml ens' r=if r=z then some (.sq q') else look none ml ens r):Sim w0 F0 K aq (mkSt nt tl svs ml ens' nx ftl fsv) x a:=by
 have hm:=hs.mem
 have hget:∀r,r≠z→look none ml ens' r=look none ml ens r:=fun r hr=>by rw[hl,if_neg hr]
 have hgz:look none ml ens' z=some (.sq q'):=by rw[hl,if_pos rfl]
 refine ⟨hs.defers,hs.nt,hs.t,?_,hs.base,hs.frs⟩
 refine ⟨fun r=>?_,fun r s hr=>?_,fun r s hr hk=>?_,fun r e hr hrl=>?_,hm.inj,hm.own,hm.fw⟩
 ·show look none ml ens' r=none↔x.k r = .no
  by_cases e:r=z
  ·subst e
   rw[hgz]
   constructor
   ·intro h;cases h
   ·intro h;have h2:look none ml ens r=none:=(hm.dom r).2 h;rw[h2] at hz;cases hz
  ·rw[hget r e]
   exact hm.dom r
 ·have hr:look none ml ens' r=some (.fl s):=hr
  by_cases e:r=z
  ·subst e;rw[hgz] at hr;cases hr
  ·rw[hget r e] at hr
   exact hm.fl r s hr
 ·have hr:look none ml ens' r=some (.sq s):=hr
  by_cases e:r=z
  ·subst e
   rw[hgz] at hr
   cases hr
   have:=hm.nil r q hz hk
   omega
  ·rw[hget r e] at hr
   exact hm.nil r s hr hk
 ·have hr:look none ml ens' r=some e:=hr
  by_cases e2:r=z
  ·subst e2
   rw[hgz] at hr
   cases hr
   obtain ⟨cs,ty,hcc,h1,h2⟩:=hm.ent r (.sq q) hz hrl
   refine ⟨cs,ty,hcc,?_,fun i hi=>?_⟩
   ·rw[he]
    exact Nat.le_trans (Nat.mul_le_mul_right _ hn) h1
   ·obtain ⟨c,h3,h4⟩:=h2 i (Nat.lt_of_lt_of_le hi hn)
    refine ⟨c,?_,?_⟩
    ·rw[hg i hi];exact h3
    ·rw[he];exact h4
  ·rw[hget r e2] at hr
   exact hm.ent r e hr hrl
end

end

end
end Go.Proofs.Ytobdghmmbddfnaa
