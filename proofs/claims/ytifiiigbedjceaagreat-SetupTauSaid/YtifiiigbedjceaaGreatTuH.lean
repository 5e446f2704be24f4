/- Parts of a proof, one behind the other: FwR, FwS, FwT, FwT6, FwT7, FwU, FwV, FwW, FwX, FwY, FwZ, Wk, Rg, Mu, Ri. No conditions. -/
import Derived.Orders
import Derived.Test.YtifiiigbedjceaaGreatTuG
open Go.IntKind (wrap)
namespace Go.Proofs.YtifiiigbedjceaaGreat
noncomputable section
section
theorem Ad{env:D6}{ρ ρ' : Operand->SV}{m:Nat->Option En}{p:Nat}{o:Oper}(h:∀x∈o.op.operands,ρ x=ρ' x):I8 env ρ m p o=I8 env ρ' m p o:=by
 have MW:∀ps:Array (Nat×Operand),(∀x∈ps.map (·.2),ρ x=ρ' x)->(ps.toList.map fun (x:Nat×Operand)=>(x.1,ρ x.2))=(ps.toList.map fun (x:Nat×Operand)=>(x.1,ρ' x.2)):=fun ps hp=>
  List.map_congr_left fun q hm=>by
   rw[hp q.2 (Array.mem_map.2 ⟨q,Array.mem_toList_iff.1 hm,rfl⟩)]
 have lst:∀ps:Array Operand,(∀x∈ps,ρ x=ρ' x)->ps.toList.map ρ=ps.toList.map ρ' := fun ps hp=>
  List.map_congr_left fun q hm=>hp q (Array.mem_toList_iff.1 hm)
 obtain ⟨dst,op,type,pos,after,guard⟩:=o;unfold I8
 cases op<;>simp only[Op.operands] at h<;>try simp only[]
 case build t ps=>rw[MW ps fun x hx=>h x (by simpa using hx)]
 case buildSlice t n ps=>rw[MW ps fun x hx=>h x (by simpa using hx)]
 case makeFunc fn first caps=>rw[lst caps fun x hx=>h x (by simp [hx])]
 case slice t x lo hi mx=>cases lo<;>cases hi<;>cases mx<;>simp_all
 case call c=>
  have ha:c.args.toList.map ρ=c.args.toList.map ρ' := lst c.args fun x hx=>h x (by simp [Call.operands,hx])
  cases hc:c.callee with
  | value f=>
   have hf:ρ f=ρ' f:=h f (by simp [Call.operands,hc])
   simp only[hf,ha]
  | invoke r m=>
   have hf:ρ r=ρ' r:=h r (by simp [Call.operands,hc])
   simp only[hf,ha]
  | builtin b=>
   simp only[ha]
   cases b<;>try simp only[]
   case append=>
    have nope:∀(f g:Operand->Operand->Nat->Option Res) (l:List Operand),(∀s x,l≠[s,x])->(match c.argTypes.toList,l with
      | [t,t'],[s,x]=>if t=t' then f s x t else none
      | _,_=>none)=(match c.argTypes.toList,l with
      | [t,t'],[s,x]=>if t=t' then g s x t else none
      | _,_=>none):=by
     intro f g l hl;split
     ·rename_i s x _;exact absurd rfl (hl s x)
     ·rfl
    cases hl:c.args.toList with
    | nil=>exact nope (fun s x t=>_) (fun s x t=>_) [] (by simp)
    | cons s l=>
     cases l with
     | nil=>exact nope (fun s x t=>_) (fun s x t=>_) [s] (by simp)
     | cons x l=>
      cases l with
      | cons y l=>exact nope (fun s x t=>_) (fun s x t=>_) (s::x::y::l) (by simp)
      | nil=>
       have h1:ρ s=ρ' s:=h s (by simp [Call.operands,hc];exact Array.mem_toList_iff.1 (by rw[hl];simp))
       have h2:ρ x=ρ' x:=h x (by simp [Call.operands,hc];exact Array.mem_toList_iff.1 (by rw[hl];simp))
       cases c.argTypes.toList with
       | nil=>rfl
       | cons t r=>
        cases r with
        | nil=>rfl
        | cons t' r=>
         cases r with
         | nil=>simp only[h1,h2]
         | cons _ _=>rfl
 all_goals (first | rfl | (simp_all;done) | skip)
end
section
def CB(k:Nat):Bool:=k == 1 || k == 3 || k == 5 || k == 6
theorem A7k:∀a b:Fin 6,B2m a.val b.val=false->a.val≠4∧b.val≠4∧(CB b.val=true->a.val≠3)∧(CB a.val=true->b.val≠3):=by decide
theorem Ox{a b:Nat}(ha:a<=5)(hb:b<=5)(h:B2m a b=false):a≠4∧b≠4∧(CB b=true->a≠3)∧(CB a=true->b≠3):=
 A7k ⟨a,by omega⟩ ⟨b,by omega⟩ h
theorem Z7{f g:Option (List Nat)}(h:KE f g=true)(q:Nat)(h1:Z0 f q=true)(h2:Z0 g q=true):False:=by
 cases f with
 | none=>cases h
 | some a=>
  cases g with
  | none=>cases h
  | some b=>
   have mem:∀l:List Nat,V2 q l=true->q∈l:=by
    intro l;induction l with
    | nil=>intro h;cases h
    | cons r l ih=>
     intro h;simp only[V2] at h;split at h
     ·rename_i e;subst e;exact List.mem_cons_self
     ·exact List.mem_cons_of_mem _ (ih h)
   have:=List.all_eq_true.1 h q (mem a h1)
   have h2:V2 q b=true:=h2;rw[h2] at this
   cases this
theorem ML{a b:Nat}{f g:Option (List Nat)}(ha:a<=5)(hb:b<=5)(h:Ov a b f g=false):a≠4∧b≠4∧(CB b=true->a=3->KE f g=true)∧(CB a=true->b=3->KE f g=true):=by
 have na:Nat.beq a 6=false:=by
  cases h6:Nat.beq a 6 with
  | false=>rfl
  | true=>have:=Nat.eq_of_beq_eq_true h6;omega
 have nb:Nat.beq b 6=false:=by
  cases h6:Nat.beq b 6 with
  | false=>rfl
  | true=>have:=Nat.eq_of_beq_eq_true h6;omega
 simp only[Ov,na,nb,Bool.false_eq_true,if_false,Bool.or_eq_false_iff,Bool.and_eq_false_iff,Bool.not_eq_false'] at h;obtain ⟨⟨h1,h2⟩,h3⟩:=h;have n1:a≠4:=fun e=>by subst e;cases h1
 have n2:b≠4:=fun e=>by subst e;cases h2
 refine ⟨n1,n2,fun hr h3' => ?_,fun hr h3' => ?_⟩
 ·rcases h3 with h3 | h3
  ·exact absurd h3' ((Ox ha hb h3).2.2.1 hr)
  ·exact h3
 ·rcases h3 with h3 | h3
  ·exact absurd h3' ((Ox ha hb h3).2.2.2 hr)
  ·exact h3
theorem Wu{m:Nat->Option En}{s x:SV}{i:TyI}{o:List Prop}{ups:List (Nat×En)}(h:Gj m s x i=some (o,ups)):∀q e,(q,e)∈ups->m q≠none:=by
 have one:∀{p:Nat} {e0 e1:En},m p=some e0->∀q e,(q,e)∈[(p,e1)]->m q≠none:=by
  intro p e0 e1 hp q e hq;simp only[List.mem_cons,List.not_mem_nil,or_false,Prod.mk.injEq] at hq;rw[hq.1,hp];simp
 unfold Gj at h;split at h
 ·split at h
  ·split at h
   ·split at h
    ·rename_i l hl
     simp only[Option.map_eq_some_iff] at h;obtain ⟨r,_,he⟩:=h;simp only[Prod.mk.injEq] at he;obtain ⟨rfl,rfl⟩:=he;exact one hl
    ·rename_i q hq
     split at h
     ·simp only[Option.map_eq_some_iff] at h
      obtain ⟨r,_,he⟩:=h;simp only[Prod.mk.injEq] at he;obtain ⟨rfl,rfl⟩:=he;exact one hq
     ·cases h
    ·cases h
   ·split at h
    ·rename_i q hq
     split at h
     ·split at h
      ·simp only[Option.map_eq_some_iff] at h
       obtain ⟨r,_,he⟩:=h;simp only[Prod.mk.injEq] at he;obtain ⟨rfl,rfl⟩:=he;exact one hq
      ·cases h
     ·cases h
    ·cases h
   ·cases h
  ·cases h
 ·cases h
section
variable {env:D6} {ρ:Operand->SV} {m:Nat->Option En} {p:Nat} {o:Oper} {r:Res}
theorem B5n(env:D6)(o:Oper):D1 env o<=6:=by
 unfold D1;split<;>(try decide)<;>(split<;>(try decide)<;>(split<;>(try decide)<;>(split<;>decide)))
theorem NH{env:D6}{o:Oper}(h:D1 env o≠6):D1 env o<=5:=by have:=B5n env o;omega
theorem EK(hρ:∀f,ρ (.func f) = .v (.c (.clo f [])))(m' : Nat->Option En)(h:CB (D1 env o)=false)(h4:D1 env o≠4):I8 env ρ m p o=I8 env ρ m' p o:=by
 unfold D1 at h h4;unfold I8
 cases hop:o.op<;>simp only[hop] at h h4 ⊢<;>try (first | rfl | (exact absurd rfl h4) | (cases h;done))
 case convert src dst v=>
  cases hs:env.ty src with
  | none=>rfl
  | some j=>
   simp only[hs] at h ⊢
   cases hj:j.slc with
   | none=>cases env.ty dst<;>simp only[hj]
   | some e=>simp only[hj] at h;cases h
 case call c=>
  cases hc:c.callee with
  | builtin b=>
   simp only[hc] at h h4 ⊢
   cases b<;>first | rfl | exact absurd rfl h4 | (cases h;done)
  | invoke _ _=>simp only[hc] at h;cases h
  | value f=>
   simp only[hc] at h h4
   cases f with
   | func g=>
    simp only at h h4
    cases hx:env.ex g with
    | some k=>simp only[hρ,hx]
    | none=>
     cases hg:env.fn g with
     | none=>simp only[hx,hg] at h4;exact absurd rfl h4
     | some s=>simp only[hx,hg] at h;cases h
   | tmp t=>cases h
   | const v=>cases h
   | global g=>cases h
theorem TI:∀(es:List En) (p q:Nat) (e:En),(q,e)∈AM p es->p<=q
 | [],_,_,_,h=>by cases h
 | _::es,p,q,e,h=>by
  simp only[AM,List.mem_cons,Prod.mk.injEq] at h;rcases h with ⟨rfl,_⟩ | h
  ·exact Nat.le_refl _
  ·have:=TI es (p+1) q e h;omega
theorem TR{i:It}(h:pureV i=some r):r.ups=[]∧r.kill=none:=by cases h;exact ⟨rfl,rfl⟩
theorem B0x{x:Option (List Prop×It)}(h:Nn x=some r):r.ups=[]∧r.kill=none:=by
 obtain ⟨_,_,_,rfl⟩:=AP h;exact ⟨rfl,rfl⟩
theorem LF(hρ:∀f,ρ (.func f) = .v (.c (.clo f [])))(h:I8 env ρ m p o=some r)(h4:D1 env o≠4)(h6:D1 env o≠6) :
  r.kill=none∧(D1 env o≠3->∀q e,(q,e)∈r.ups->p<=q)∧(D1 env o=3->∀q e,(q,e)∈r.ups->m q≠none):=by
 have fin0:r.ups=[]∧r.kill=none->r.kill=none∧(D1 env o≠3->∀q e,(q,e)∈r.ups->p<=q)∧(D1 env o=3->∀q e,(q,e)∈r.ups->m q≠none):=by
  rintro ⟨h1,h2⟩
  exact ⟨h2,fun _ q e hq=>(by rw[h1] at hq;cases hq),fun _ q e hq=>(by rw[h1] at hq;cases hq)⟩
 have fin1:D1 env o≠3->(∃e,r.ups=[(p,e)])∧r.kill=none->r.kill=none∧(D1 env o≠3->∀q e,(q,e)∈r.ups->p<=q)∧(D1 env o=3->∀q e,(q,e)∈r.ups->m q≠none):=by
  rintro hne ⟨⟨e0,h1⟩,h2⟩
  refine ⟨h2,fun _ q e hq=>?_,fun h3=>absurd h3 hne⟩
  rw[h1] at hq;simp only[List.mem_cons,List.not_mem_nil,or_false,Prod.mk.injEq] at hq;omega
 unfold I8 at h
 cases hop:o.op<;>simp only[hop] at h
 case store t ad v=>
  have h3:D1 env o=3:=by simp [D1,hop]
  split at h
  ·split at h
   ·rename_i ob ups hs
    cases h
    exact ⟨rfl,fun hne=>absurd h3 hne,fun _=>Wu hs⟩
   ·cases h
  ·cases h
 case call c=>
  have key:∀{g:Nat} {args:List SV} {s:B2},env.fn g=some s->D1 env o≠3->BH env m p g args=some r->r.kill=none∧(D1 env o≠3->∀q e,(q,e)∈r.ups->p<=q)∧(D1 env o=3->∀q e,(q,e)∈r.ups->m q≠none):=by
   intro g args s hg hne hr;unfold BH at hr;simp only[hg] at hr;repeat' split at hr
   all_goals first
    | (cases hr;done)
    | (cases hr;exact ⟨rfl,fun _ q e hq=>TI _ p q e hq,fun h3=>absurd h3 hne⟩)
  have key2:∀{f:Operand} {g:Nat} {args:List SV},D1 env o≠3->(∀g,f ≠ .func g)->Om env m p f g args=some r->r.kill=none∧(D1 env o≠3->∀q e,(q,e)∈r.ups->p<=q)∧(D1 env o=3->∀q e,(q,e)∈r.ups->m q≠none):=by
   intro f g args hne hf hr;unfold Om at hr;split at hr
   ·rename_i g2
    exact absurd rfl (hf g2)
   ·split at hr
    ·rename_i hs
     exact key hs hne hr
    ·cases hr
  cases hc:c.callee with
  | invoke f name=>
   have hne:D1 env o≠3:=by simp [D1,hop,hc]
   simp only[hc] at h;unfold UZ at h;split at h
   ·split at h
    ·split at h
     ·split at h
      ·rename_i hs;exact key hs hne h
      ·cases h
     ·cases h
    ·cases h
   ·cases h
  | builtin b=>
   simp only[hc] at h
   cases b<;>simp only[] at h<;>try (first | (cases h;done) | (exfalso;apply h4;simp [D1,hop,hc];done) | (exfalso;apply h6;simp [D1,hop,hc];done))
   all_goals
    repeat' split at h
    all_goals first | (cases h;done) | exact fin0 (TR h)
  | value f=>
   cases f with
   | func g=>
    cases hx:env.ex g with
    | some k=>
     simp only[hc,hρ,hx] at h;unfold OQ at h;split at h
     ·cases h;exact fin0 ⟨rfl,rfl⟩
     ·cases h
    | none=>
     cases hg:env.fn g with
     | none=>exfalso;apply h4;simp [D1,hop,hc,hx,hg]
     | some s=>
      have hne:D1 env o≠3:=by simp [D1,hop,hc,hx,hg]
      simp only[hc,hρ,hx,Om] at h;exact key hg hne h
   | tmp t=>
    have hne:D1 env o≠3:=by simp [D1,hop,hc]
    simp only[hc] at h;split at h
    ·split at h
     ·unfold OQ at h
      split at h
      ·cases h;exact fin0 ⟨rfl,rfl⟩
      ·cases h
     ·exact key2 hne (fun g=>by simp) h
    ·exact key2 hne (fun g=>by simp) h
    ·cases h
   | const v=>
    have hne:D1 env o≠3:=by simp [D1,hop,hc]
    simp only[hc] at h;split at h
    ·split at h
     ·unfold OQ at h
      split at h
      ·cases h;exact fin0 ⟨rfl,rfl⟩
      ·cases h
     ·exact key2 hne (fun g=>by simp) h
    ·exact key2 hne (fun g=>by simp) h
    ·cases h
   | global g=>
    have hne:D1 env o≠3:=by simp [D1,hop,hc]
    simp only[hc] at h;split at h
    ·split at h
     ·unfold OQ at h
      split at h
      ·cases h;exact fin0 ⟨rfl,rfl⟩
      ·cases h
     ·exact key2 hne (fun g=>by simp) h
    ·exact key2 hne (fun g=>by simp) h
    ·cases h
 all_goals
  repeat' split at h
  all_goals first
   | (cases h;done)
   | exact fin0 (TR h)
   | exact fin0 (B0x h)
   | (cases h;exact fin0 ⟨rfl,rfl⟩)
   | (cases h;exact fin1 (by simp [D1,hop]) ⟨⟨_,rfl⟩,rfl⟩)
end
def J6(ops:List Oper)(o:Oper)(t:Nat->SV):Option Bool:=
 match o.guard with
 | none=>some true
 | some (j,want)=>match (ops[j]?).bind (·.dst) with
  | none=>none
  | some d=>match t d with
   | .v (.c (.lit b))=>some (b == want)
   | .t []=>some false
   | _=>none
def S3(t:Nat->SV):Option Nat->SV->Nat->SV
 | none,_=>t
 | some d,s=>M7 t d s
def M8(σ:St)(dst:Option Nat)(s:SV)(ups:List (Nat×En)):St:={ σ with t:=S3 σ.t dst s,m:=H8 σ.m ups }
def F5(al:Nat->Bool)(m:Nat->Option En):Nat->Option En:=fun q=>if al q then m q else none
inductive Y8(env:D6)(al:Nat->Bool)(dec:List (Nat×Bool))(ops:List Oper)(p:Nat)(o:Oper)(σ:St):List Prop->SV->List (Nat×En)->Prop
 | skip:J6 ops o σ.t=some false->(∀d,o.dst=some d->d<σ.nt)->Y8 env al dec ops p o σ [] (.t []) []
 | plain (r:Res):J6 ops o σ.t=some true->o.dst=none->I8 env σ.ev (F5 al σ.m) p o=some r->r.kill=none->W5 al σ.m p r.ups=true->Y8 env al dec ops p o σ r.obl .top r.ups
 | dst (r:Res) (d:Nat) (ob:List Prop) (s:SV):J6 ops o σ.t=some true->o.dst=some d->d<σ.nt->I8 env σ.ev (F5 al σ.m) p o=some r->r.kill=none->W5 al σ.m p r.ups=true->O3 dec d r.val=(ob,s)->Y8 env al dec ops p o σ (ob++r.obl) s r.ups
theorem Ek(env:D6)(al:Nat->Bool)(dec:List (Nat×Bool))(ops:List Oper)(p:Nat)(o:Oper)(σ:St):Bo env al dec ops p o σ =
  match J6 ops o σ.t with
  | some true=>VG env al dec p o σ
  | some false=>(match o.dst with
   | some e=>if e<σ.nt then some ([],{ σ with t:=M7 σ.t e (.t []) }) else none
   | none=>some ([],σ))
  | none=>none:=rfl
theorem Af(m:Nat->Option En):H8 m []=m:=rfl
theorem Df{env:D6}{al:Nat->Bool}{dec:List (Nat×Bool)}{ops:List Oper}{p:Nat}{o:Oper}{σ σ' : St}{ob:List Prop}(h4:D1 env o≠4)(h6:D1 env o≠6)(h:Bo env al dec ops p o σ=some (ob,σ')) :
  ∃s ups,Y8 env al dec ops p o σ ob s ups∧σ' = M8 σ o.dst s ups:=by
 rw[Ek] at h;split at h
 ·rename_i hw
  unfold VG at h;split at h
  ·cases h
  ·rename_i r hr
   obtain ⟨hk,_⟩:=LF (fun f=>rfl) hr h4 h6
   split at h
   ·rename_i hups
    simp only[Bool.and_eq_true] at hups;obtain ⟨_,hups⟩:=hups;split at h
    ·rename_i hd
     cases h
     refine ⟨.top,r.ups,.plain r hw hd hr hk hups,?_⟩
     simp only[M8,hd,S3,hk,BA,O5,Da]
    ·rename_i d hd
     split at h
     ·rename_i hlt
      cases hdv:O3 dec d r.val with
      | mk o' v=>
       simp only[hdv] at h
       cases h
       refine ⟨v,r.ups,.dst r d o' v hw hd hlt hr hk hups hdv,?_⟩
       simp only[M8,hd,S3,hk,BA,O5,Da]
     ·cases h
   ·cases h
 ·rename_i hw
  split at h
  ·rename_i e he
   split at h
   ·rename_i hlt
    cases h
    exact ⟨.t [],[],.skip hw (fun d hd=>by rw[he] at hd;cases hd;exact hlt),by simp only[M8,he,S3,Af]⟩
   ·cases h
  ·rename_i he
   cases h
   exact ⟨.t [],[],.skip hw (fun d hd=>by rw[he] at hd;cases hd),by simp only[M8,he,S3,Af]⟩
 ·cases h
theorem CU{env:D6}{al:Nat->Bool}{dec:List (Nat×Bool)}{ops:List Oper}{p:Nat}{o:Oper}{σ:St}{ob:List Prop}{s:SV}{ups:List (Nat×En)}(h:Y8 env al dec ops p o σ ob s ups) :
  Bo env al dec ops p o σ=some (ob,M8 σ o.dst s ups):=by
 rw[Ek]
 cases h with
 | skip hw hd=>
  rw[hw]
  cases he:o.dst with
  | none=>simp only[M8,S3,Af]
  | some d=>simp only[M8,S3,Af];rw[if_pos (hd d he)]
 | plain r hw hd hr hk hups=>
  rw[hw];simp only[VG];unfold F5 at hr;rw[hr];simp only[hups,HB,Bool.and_self,if_true,hd,hk,BA,O5,Da,M8,S3]
 | dst r d ob s hw hd hlt hr hk hups hdv=>
  rw[hw];simp only[VG];unfold F5 at hr;rw[hr];simp only[hups,HB,Bool.and_self,if_true,hd,hk,BA,O5,Da,M8,S3,hlt,hdv]
end
section
theorem S8{ops:Array Oper}{o:Oper}{t t' : Nat->SV}(h:∀d∈o.looksAt ops,t' d=t d):J6 ops.toList o t' = J6 ops.toList o t:=by
 unfold J6
 cases hg:o.guard with
 | none=>rfl
 | some g=>
  obtain ⟨j,want⟩:=g;simp only
  cases hb:(ops.toList[j]?).bind (·.dst) with
  | none=>rfl
  | some d=>
   have:d∈o.looksAt ops:=by
    unfold Oper.looksAt;refine List.mem_append_right _ ?_
    have hb' : (ops[j]?).bind (·.dst)=some d:=by simpa using hb
    simp [hg,hb']
   simp only[h d this]
theorem DX{ops:Array Oper}{o:Oper}{σ σ' : St}(h:∀d∈o.looksAt ops,σ'.t d=σ.t d):∀x∈o.op.operands,σ'.ev x=σ.ev x:=by
 intro x hx
 cases x with
 | tmp t=>
  refine h t ?_
  exact List.mem_append_left _ (List.mem_filterMap.2 ⟨.tmp t,by simpa using hx,rfl⟩)
 | const v=>rfl
 | global g=>rfl
 | func f=>rfl
section
variable {env:D6} {al:Nat->Bool} {dec:List (Nat×Bool)} {ops:Array Oper} {p:Nat} {o:Oper} {σ σ' : St} {ob:List Prop} {s:SV} {ups:List (Nat×En)}
theorem Y8.move(h:Y8 env al dec ops.toList p o σ ob s ups)(hnt:σ'.nt=σ.nt)(ht:∀d∈o.looksAt ops,σ'.t d=σ.t d)(h4:D1 env o≠4)
  (hm:CB (D1 env o)=true->F5 al σ'.m=F5 al σ.m) (hu:W5 al σ.m p ups=true->W5 al σ'.m p ups=true):Y8 env al dec ops.toList p o σ' ob s ups:=by
 have hop:∀r,I8 env σ.ev (F5 al σ.m) p o=some r->I8 env σ'.ev (F5 al σ'.m) p o=some r:=by
  intro r hr;rw[Ad (DX ht)];by_cases hr' : CB (D1 env o)=true
  ·rw[hm hr'];exact hr
  ·rw[EK (fun f=>rfl) (F5 al σ.m) (by simpa using hr') h4];exact hr
 cases h with
 | skip hw hd=>exact .skip (by rw[S8 ht];exact hw) (fun d hd' => by rw[hnt];exact hd d hd')
 | plain r hw hd hr hk hups=>exact .plain r (by rw[S8 ht];exact hw) hd (hop r hr) hk (hu hups)
 | dst r d ob s hw hd hlt hr hk hups hdv=>exact .dst r d ob s (by rw[S8 ht];exact hw) hd (by rw[hnt];exact hlt) (hop r hr) hk (hu hups) hdv
theorem N8:∀{ups:List (Nat×En)} {m:Nat->Option En},W5 al m p ups=true↔∀q e,(q,e)∈ups->(match m q with | some _=>al q=true | none=>p<=q∧q<p+16)
 | [],m=>by simp [W5]
 | (q,e)::l,m=>by
  simp only[W5,Bool.and_eq_true,N8 (ups:=l),List.mem_cons,Prod.mk.injEq];constructor
  ·rintro ⟨h1,h2⟩ q' e' (⟨rfl,rfl⟩ | h)
   ·cases hm:m q' with
    | some x=>simp only[hm] at h1;exact h1
    | none=>
     simp only[hm,Bool.and_eq_true] at h1;exact ⟨by simpa using h1.1,by simpa using h1.2⟩
   ·exact h2 q' e' h
  ·intro h
   refine ⟨?_,fun q' e' h' => h q' e' (.inr h')⟩
   have:=h q e (.inl ⟨rfl,rfl⟩)
   cases hm:m q with
   | some x=>simp only[hm] at this;exact this
   | none=>
    simp only[hm] at this;simp only[Bool.and_eq_true];exact ⟨by simpa using this.1,by simpa using this.2⟩
theorem Y8.facts(h:Y8 env al dec ops.toList p o σ ob s ups)(h4:D1 env o≠4)(h6:D1 env o≠6):W5 al σ.m p ups=true∧(D1 env o≠3->∀q e,(q,e)∈ups->p<=q)∧(D1 env o=3->∀q e,(q,e)∈ups->F5 al σ.m q≠none):=by
 cases h with
 | skip hw hd=>exact ⟨rfl,fun _ q e h=>(by cases h),fun _ q e h=>(by cases h)⟩
 | plain r hw hd hr hk hups=>exact ⟨hups,(LF (fun f=>rfl) hr h4 h6).2⟩
 | dst r d ob s hw hd hlt hr hk hups hdv=>exact ⟨hups,(LF (fun f=>rfl) hr h4 h6).2⟩
theorem M1:∀{ups:List (Nat×En)} {m:Nat->Option En} {q:Nat},(∀e,(q,e) ∉ ups)->H8 m ups q=m q
 | [],m,q,_=>rfl
 | (q',e)::l,m,q,h=>by
  simp only[H8];rw[M1 (ups:=l) (fun e' he=>h e' (List.mem_cons_of_mem _ he))]
  have:q≠q' := fun e' => h e (by rw[e'];exact List.mem_cons_self ..)
  simp [this]
theorem ES:∀{ups:List (Nat×En)} {m:Nat->Option En} {q:Nat},H8 m ups q=none->m q=none
 | [],m,q,h=>h
 | (q',e)::l,m,q,h=>by
  simp only[H8] at h;have:=ES (ups:=l) h
  by_cases hq:q=q'
  ·simp [hq] at this
  ·simpa [hq] using this
theorem Gh:∀{ups:List (Nat×En)} {m m' : Nat->Option En} {q:Nat},m q=m' q->H8 m ups q=H8 m' ups q
 | [],m,m',q,h=>h
 | (q',e)::l,m,m',q,h=>by
  simp only[H8];refine Gh (ups:=l) ?_
  by_cases hq:q=q'<;>simp [hq,h]
theorem YJ:∀{ups:List (Nat×En)} {m m' : Nat->Option En} {q:Nat} {e:En},(q,e)∈ups->H8 m ups q=H8 m' ups q
 | (q',e')::l,m,m',q,e,h=>by
  simp only[H8];by_cases hq:q=q'
  ·exact Gh (ups:=l) (by simp [hq])
  ·refine YJ (ups:=l) (e:=e) ?_
   rcases List.mem_cons.1 h with h | h
   ·cases h;exact absurd rfl hq
   ·exact h
theorem Iw{ups ups' : List (Nat×En)}{m:Nat->Option En}(h:∀q e e',(q,e)∈ups->(q,e') ∉ ups'):H8 (H8 m ups) ups' = H8 (H8 m ups') ups:=by
 funext q
 by_cases h1:∃e,(q,e)∈ups
 ·obtain ⟨e,he⟩:=h1
  have hout:∀e',(q,e') ∉ ups' := fun e' => h q e e' he
  rw[M1 hout];exact YJ he
 ·have hout:∀e,(q,e) ∉ ups:=fun e he=>h1 ⟨e,he⟩
  rw[M1 (m:=H8 m ups') hout];exact Gh (M1 hout)
theorem E6p{o1 o2:Oper}{p1 p2:Nat}{al1 al2:Nat->Bool}{ob1 ob2:List Prop}{s1 s2:SV}{ups1 ups2:List (Nat×En)}{f1 f2:Option (List Nat)}(m1:D1 env o1≠6)(m2:D1 env o2≠6)(hcon:U8 env ops f1 f2 o1 o2=false)(hf1:∀q,al1 q=true->Z0 f1 q=true)(hf2:∀q,al2 q=true->Z0 f2 q=true)
  (hp:p1+16<=p2) (hal1:∀q,al1 q=true->q<p1) (hal2:∀q,al2 q=true->q<p2) (hno:∀q,p1<=q->q<p1+16->al2 q=false)
  (h1:Y8 env al1 dec ops.toList p1 o1 σ ob1 s1 ups1) (h2:Y8 env al2 dec ops.toList p2 o2 (M8 σ o1.dst s1 ups1) ob2 s2 ups2) :
  Y8 env al2 dec ops.toList p2 o2 σ ob2 s2 ups2∧Y8 env al1 dec ops.toList p1 o1 (M8 σ o2.dst s2 ups2) ob1 s1 ups1∧M8 (M8 σ o1.dst s1 ups1) o2.dst s2 ups2=M8 (M8 σ o2.dst s2 ups2) o1.dst s1 ups1 ∧
   (CB (D1 env o2)=true->F5 al2 σ.m=F5 al2 (M8 σ o1.dst s1 ups1).m)∧(CB (D1 env o1)=true->F5 al1 (M8 σ o2.dst s2 ups2).m=F5 al1 σ.m):=by
 simp only[U8,Bool.or_eq_false_iff,Bool.not_eq_false'] at hcon;obtain ⟨hap,hcl⟩:=hcon;obtain ⟨a1,a2,a3⟩:=Oper.apart_spec hap;obtain ⟨n1,n2,c1,c2⟩:=ML (NH m1) (NH m2) hcl;obtain ⟨u1,f1,g1⟩:=h1.facts n1 m1;obtain ⟨u2,f2,g2⟩:=h2.facts n2 m2;rw[N8] at u1 u2;have w1:∀q e,(q,e)∈ups1->(D1 env o1≠3∧σ.m q=none∧p1<=q∧q<p1+16)∨(D1 env o1=3∧σ.m q≠none∧al1 q=true):=by
  intro q e hq;have hu:=u1 q e hq;by_cases h3:D1 env o1=3
  ·right
   have:=g1 h3 q e hq
   simp only[F5] at this;split at this
   ·rename_i hal;exact ⟨h3,this,hal⟩
   ·exact absurd rfl this
  ·left
   have hge:=f1 h3 q e hq
   cases hm:σ.m q with
   | some x=>simp only[hm] at hu;have:=hal1 q hu;omega
   | none=>simp only[hm] at hu;exact ⟨h3,rfl,hu⟩
 have w2:∀q e,(q,e)∈ups2->(D1 env o2≠3∧σ.m q=none∧p2<=q∧q<p2+16)∨(D1 env o2=3∧σ.m q≠none∧al2 q=true):=by
  intro q e hq;have hu:=u2 q e hq;by_cases h3:D1 env o2=3
  ·right
   have hv:=g2 h3 q e hq;simp only[F5] at hv;split at hv
   ·rename_i hal
    refine ⟨h3,fun hnone=>hv ?_,hal⟩
    have hout:∀e,(q,e) ∉ ups1:=by
     intro e' he'
     rcases w1 q e' he' with ⟨_,_,h5,h6⟩ | ⟨h5,_,h7⟩
     ·rw[hno q h5 h6] at hal;cases hal
     ·exact Z7 (c1 (by rw[h3];rfl) h5) q (hf1 q h7) (hf2 q hal)
    simp only[M8];rw[M1 hout];exact hnone
   ·exact absurd rfl hv
  ·left
   have hge:=f2 h3 q e hq
   cases hm:(M8 σ o1.dst s1 ups1).m q with
   | some x=>simp only[hm] at hu;have:=hal2 q hu;omega
   | none=>simp only[hm] at hu;exact ⟨h3,ES hm,hu⟩
 have disj:∀q e e',(q,e)∈ups1->(q,e') ∉ ups2:=by
  intro q e e' h h'
  rcases w1 q e h with ⟨i1,i2,i3,i4⟩ | ⟨i1,i2,i3⟩
  ·rcases w2 q e' h' with ⟨j1,j2,j3,j4⟩ | ⟨j1,j2,j3⟩
   ·omega
   ·exact j2 i2
  ·rcases w2 q e' h' with ⟨j1,j2,j3,j4⟩ | ⟨j1,j2,j3⟩
   ·have:=hal1 q i3
    omega
   ·have:CB (D1 env o2)=true:=by rw[j1];rfl
    exact Z7 (c1 this i1) q (hf1 q i3) (hf2 q j3)
 have view2:CB (D1 env o2)=true->F5 al2 σ.m=F5 al2 (M8 σ o1.dst s1 ups1).m:=by
  intro hr;funext q
  simp only[F5];split
  ·rename_i hal
   simp only[M8];rw[M1];intro e he;rcases w1 q e he with ⟨_,_,h5,h6⟩ | ⟨h5,_,h7⟩
   ·rw[hno q h5 h6] at hal;cases hal
   ·exact Z7 (c1 hr h5) q (hf1 q h7) (hf2 q hal)
  ·rfl
 have h2' : Y8 env al2 dec ops.toList p2 o2 σ ob2 s2 ups2:=by
  refine h2.move rfl (fun d hd=>?_) n2 view2 (fun _=>?_)
  ·simp only[M8]
   cases hd1:o1.dst with
   | none=>rfl
   | some e=>
    have:d≠e:=fun he=>a1 e hd1 (he ▸ hd)
    simp [S3,M7,this]
  ·rw[N8]
   intro q e hq;have hu:=u2 q e hq;rcases w2 q e hq with ⟨j1,j2,j3,j4⟩ | ⟨j1,j2,j3⟩
   ·rw[j2];exact ⟨j3,j4⟩
   ·cases hm:σ.m q with
    | none=>exact absurd hm j2
    | some x=>exact j3
 have view1:CB (D1 env o1)=true->F5 al1 (M8 σ o2.dst s2 ups2).m=F5 al1 σ.m:=by
  intro hr;funext q
  simp only[F5];split
  ·rename_i hal
   simp only[M8];rw[M1];intro e he;have:=hal1 q hal
   rcases w2 q e he with ⟨_,_,h5,h6⟩ | ⟨h5,_,h7⟩
   ·omega
   ·exact Z7 (c2 hr h5) q (hf1 q hal) (hf2 q h7)
  ·rfl
 refine ⟨h2',?_,?_,view2,view1⟩
 ·refine h1.move rfl (fun d hd=>?_) n1 view1 (fun _=>?_)
  ·simp only[M8]
   cases hd2:o2.dst with
   | none=>rfl
   | some e=>
    have:d≠e:=fun he=>a3 e hd2 (he ▸ hd)
    simp [S3,M7,this]
  ·rw[N8]
   intro q e hq;have hu:=u1 q e hq;simp only[M8];rw[M1 (fun e' he' => disj q e e' hq he')]
   exact hu
 ·simp only[M8,St.mk.injEq,and_true]
  refine ⟨?_,Iw disj⟩
  cases hd1:o1.dst with
  | none=>rfl
  | some d1=>
   cases hd2:o2.dst with
   | none=>rfl
   | some d2=>
    have hne:d1≠d2:=fun e=>a2 d1 hd1 (by rw[hd2,e])
    funext x
    simp only[S3,M7];by_cases hx1:x=d1
    ·subst hx1;simp [hne]
    ·simp [hx1]
end
end
section
def Fa:Option Nat->SV->SV
 | none,s=>s
 | some q,s=>N3 q s
def Tt:Option Nat->En->En
 | none,e=>e
 | some q,e=>W0 q e
theorem Bc(t:Nat->SV)(kl:Option Nat)(x:Nat):BA t kl x=Fa kl (t x):=by cases kl<;>rfl
theorem FM(m:Nat->Option En)(kl:Option Nat)(q:Nat):O5 m kl q=(m q).map (Tt kl):=by
 cases kl with
 | none=>show m q=(m q).map fun e=>e;cases m q<;>rfl
 | some p=>rfl
theorem Kx(al:Nat->Bool)(m:Nat->Option En):A6i al m=F5 al m:=rfl
theorem Eg{q:Nat}:∀{ks:List Nat} {p:Nat},V2 q ks=true->V2 p ks=false->p≠q
 | ks,p,h1,h2,e=>by subst e;rw[h1] at h2;cases h2
section
variable {q:Nat} {ks:List Nat}
theorem YI(hq:V2 q ks=true):∀i:It,Yh ks i=true->E3 q i=i:=by
 intro i h
 cases i<;>simp only[Yh,E3,Bool.not_eq_true'] at h ⊢
 case sv=>cases h
 case slc p off len es=>rw[if_neg (Eg hq h)]
 case ptr p off=>rw[if_neg (Eg hq h)]
 case ep p es i off=>rw[if_neg (Eg hq h)]
 case mp p=>rw[if_neg (Eg hq h)]
 case arr p off n es=>rw[if_neg (Eg hq h)]
 case clo f c=>
  rw[if_neg];intro ha;obtain ⟨a,ha,e⟩:=List.any_eq_true.1 ha;have:=List.all_eq_true.1 h a ha
  simp only[Bool.not_eq_true'] at this;exact Eg hq this (by simpa using e)
theorem Rx:∀i:It,Yh ks (E3 q i)=true->E3 q i=i:=by
 intro i h
 cases i<;>simp only[E3] at h ⊢
 case sv=>cases h
 all_goals
  split at h
  ·cases h
  ·rename_i hn;rw[if_neg hn]
theorem Ln(hq:V2 q ks=true):∀l:List It,l.all (Yh ks)=true->l.map (E3 q)=l
 | [],_=>rfl
 | i::l,h=>by
  simp only[List.all_cons,Bool.and_eq_true] at h;rw[List.map_cons,YI hq i h.1,Ln hq l h.2]
theorem FR:∀l:List It,(l.map (E3 q)).all (Yh ks)=true->l.map (E3 q)=l
 | [],_=>rfl
 | i::l,h=>by
  simp only[List.map_cons,List.all_cons,Bool.and_eq_true] at h;rw[List.map_cons,Rx i h.1,FR l h.2]
theorem Ue(hq:V2 q ks=true)(v:V1)(h:okV ks v=true):Br q v=v:=by
 cases v with
 | c i=>exact congrArg V1.c (YI hq i h)
 | a l=>exact congrArg V1.a (Ln hq l h)
theorem Nk(v:V1)(h:okV ks (Br q v)=true):Br q v=v:=by
 cases v with
 | c i=>exact congrArg V1.c (Rx i h)
 | a l=>exact congrArg V1.a (FR l h)
theorem PX(hq:V2 q ks=true):∀l:List V1,l.all (okV ks)=true->l.map (Br q)=l
 | [],_=>rfl
 | i::l,h=>by
  simp only[List.all_cons,Bool.and_eq_true] at h;rw[List.map_cons,Ue hq i h.1,PX hq l h.2]
theorem Jx:∀l:List V1,(l.map (Br q)).all (okV ks)=true->l.map (Br q)=l
 | [],_=>rfl
 | i::l,h=>by
  simp only[List.map_cons,List.all_cons,Bool.and_eq_true] at h;rw[List.map_cons,Nk i h.1,Jx l h.2]
theorem LY(hq:V2 q ks=true)(s:SV)(h:A9f ks s=true):N3 q s=s:=by
 cases s with
 | v x=>exact congrArg SV.v (Ue hq x h)
 | t l=>exact congrArg SV.t (PX hq l h)
 | top=>rfl
theorem YX(s:SV)(h:A9f ks (N3 q s)=true):N3 q s=s:=by
 cases s with
 | v x=>exact congrArg SV.v (Nk x h)
 | t l=>exact congrArg SV.t (Jx l h)
 | top=>rfl
theorem Es(hq:V2 q ks=true)(e:En)(h:A9d ks e=true):W0 q e=e:=by
 cases e with
 | fl l=>exact congrArg En.fl (Ln hq l h)
 | sq s=>rfl
theorem YW(e:En)(h:A9d ks (W0 q e)=true):W0 q e=e:=by
 cases e with
 | fl l=>exact congrArg En.fl (FR l h)
 | sq s=>rfl
end
theorem A8p{α:Type}(q:Nat)(s:SV)(A:Bool->α)(B C:α):(match N3 q s with | .v (.c (.lit b))=>A b | .t []=>B | _=>C)=(match s with | .v (.c (.lit b))=>A b | .t []=>B | _=>C):=by
 cases s with
 | top=>rfl
 | t l=>cases l<;>rfl
 | v x=>
  cases x with
  | a l=>rfl
  | c i=>
   have key:∀(c:Prop) [Decidable c] (i j:It),(match SV.v (V1.c i) with | .v (.c (.lit b))=>A b | .t []=>B | _=>C)=C->(match SV.v (V1.c j) with | .v (.c (.lit b))=>A b | .t []=>B | _=>C)=C ->
     (match SV.v (V1.c (if c then i else j)) with | .v (.c (.lit b))=>A b | .t []=>B | _=>C)=C:=by
    intro c _ i j h1 h2;by_cases h:c
    ·rw[if_pos h];exact h1
    ·rw[if_neg h];exact h2
   cases i
   case slc=>exact key _ _ _ rfl rfl
   case ptr=>exact key _ _ _ rfl rfl
   case ep=>exact key _ _ _ rfl rfl
   case mp=>exact key _ _ _ rfl rfl
   case arr=>exact key _ _ _ rfl rfl
   case clo=>exact key _ _ _ rfl rfl
   all_goals rfl
theorem RZ(ops:List Oper)(o:Oper)(t t' : Nat->SV)(kl:Option Nat)(h:∀d,(∃j w,o.guard=some (j,w)∧(ops[j]?).bind (·.dst)=some d)->t' d=Fa kl (t d)):J6 ops o t' = J6 ops o t:=by
 unfold J6
 cases hg:o.guard with
 | none=>rfl
 | some g=>
  obtain ⟨j,want⟩:=g;simp only
  cases hb:(ops[j]?).bind (·.dst) with
  | none=>rfl
  | some d=>
   simp only
   rw[h d ⟨j,want,hg,hb⟩]
   cases kl with
   | none=>rfl
   | some q=>exact A8p q (t d) _ _ _
theorem AQ{dec:List (Nat×Bool)}{d q:Nat}{v s:SV}{o' : List Prop}(h:O3 dec d v=(o',s)):O3 dec d (N3 q v)=(o',N3 q s):=by
 have other:∀u:SV,(∀b,u ≠ .v (.c (.bool b)))->O3 dec d u=([],u):=by
  intro u hu;unfold O3;split
  ·rename_i b;exact absurd rfl (hu b)
  ·rfl
 by_cases hb:∃b,v = .v (.c (.bool b))
 ·obtain ⟨b,rfl⟩:=hb
  unfold O3 at h;show O3 dec d (.v (.c (.bool b)))=_;unfold O3
  cases hl:Vl d dec with
  | none=>simp only[hl] at h ⊢;cases h;rfl
  | some x=>simp only[hl] at h ⊢;cases h;rfl
 ·rw[other v fun b e=>hb ⟨b,e⟩] at h
  cases h
  refine other _ fun b e=>?_
  cases v with
  | top=>cases e
  | t l=>cases e
  | v x=>
   cases x with
   | a l=>cases e
   | c i=>
    cases i<;>simp only[N3,Br,E3] at e
    case bool b' => exact hb ⟨b',rfl⟩
    all_goals first
     | (cases e;done)
     | (split at e<;>cases e)
theorem PT(a b:SV)(l:List SV):Cb (a::b::l)=none:=by
 unfold Cb;split<;>first | rfl | (rename_i heq;cases heq)
theorem Vg(q:Nat):∀l:List SV,Cb (l.map (N3 q))=Cb l
 | []=>rfl
 | a::b::l=>by
  rw[List.map_cons,List.map_cons,PT,PT]
 | [.top]=>rfl
 | [.t _]=>rfl
 | [.v (.a _)]=>rfl
 | [.v (.c i)]=>by
  cases i<;>simp only[List.map_cons,List.map_nil,N3,Br,E3]
  case slc p off len es=>split<;>rfl
  case sv=>rfl
  case ptr=>split<;>rfl
  case ep=>split<;>rfl
  case mp=>split<;>rfl
  case arr=>split<;>rfl
  case clo=>split<;>rfl
theorem PU(a b:SV)(l:List SV):Dx (a::b::l)=none:=by
 unfold Dx;split<;>first | rfl | (rename_i heq;cases heq)
theorem Vi(q:Nat):∀l:List SV,Dx (l.map (N3 q))=Dx l
 | []=>rfl
 | a::b::l=>by
  rw[List.map_cons,List.map_cons,PU,PU]
 | [.top]=>rfl
 | [.t _]=>rfl
 | [.v (.a _)]=>rfl
 | [.v (.c i)]=>by
  cases i<;>simp only[List.map_cons,List.map_nil,N3,Br,E3]
  case slc p off len es=>split<;>rfl
  case sv=>rfl
  case ptr=>split<;>rfl
  case ep=>split<;>rfl
  case mp=>split<;>rfl
  case arr=>split<;>rfl
  case clo=>split<;>rfl
theorem ZZ{l:List SV}{i:It}(h:Cb l=some i):∃n,i = .int .i64 n:=by
 unfold Cb at h;split at h<;>first | (cases h;exact ⟨_,rfl⟩) | cases h
theorem Xk{ops:Array Oper}{o:Oper}{σ σ' : St}{kl:Option Nat}(h:∀d∈o.looksAt ops,σ'.t d=Fa kl (σ.t d)):∀x∈o.op.operands,σ'.ev x=Fa kl (σ.ev x):=by
 intro x hx
 cases x with
 | tmp t=>exact h t (List.mem_append_left _ (List.mem_filterMap.2 ⟨.tmp t,by simpa using hx,rfl⟩))
 | const v=>
  show Gt v=Fa kl (Gt v)
  cases kl with
  | none=>rfl
  | some q=>unfold Gt;split<;>rfl
 | global g=>cases kl<;>rfl
 | func f=>cases kl<;>rfl
section
variable {env:D6} {al:Nat->Bool} {dec:List (Nat×Bool)} {ops:Array Oper} {p:Nat} {o:Oper} {σ σ' : St} {ob:List Prop} {s:SV} {ups:List (Nat×En)} {ks:List Nat} {ft:Option (List Nat)} {kl:Option Nat}
theorem A0h(hn:Qf o=true){ρ ρ' : Operand->SV}{m m' : Nat->Option En}{q:Nat}(hρ:∀x∈o.op.operands,ρ' x=N3 q (ρ x)) :
  (∀r,I8 env ρ m p o=some r->r.ups=[]∧r.kill=none∧I8 env ρ' m' p o=some ⟨r.obl,N3 q r.val,[],none⟩) ∧
  (∀r',I8 env ρ' m' p o=some r' -> r'.ups=[]∧r'.kill=none∧∃s,N3 q s=r'.val∧I8 env ρ m p o=some ⟨r'.obl,s,[],none⟩):=by
 obtain ⟨dst,op,type,pos,after,guard⟩:=o;unfold Qf at hn
 cases op<;>simp only[] at hn<;>try (cases hn;done)
 case move x=>
  have hx:=hρ x (by simp [Op.operands])
  refine ⟨fun r h=>?_,fun r' h=>?_⟩
  ·cases h;exact ⟨rfl,rfl,by show some _=some _;rw[hx]⟩
  ·cases h;exact ⟨rfl,rfl,ρ x,hx.symm,rfl⟩
 case assign x=>
  have hx:=hρ x (by simp [Op.operands])
  refine ⟨fun r h=>?_,fun r' h=>?_⟩
  ·cases h;exact ⟨rfl,rfl,by show some _=some _;rw[hx]⟩
  ·cases h;exact ⟨rfl,rfl,ρ x,hx.symm,rfl⟩
 case call c=>
  cases hc:c.callee with
  | invoke f m=>simp only[hc] at hn;cases hn
  | value f=>simp only[hc] at hn;cases hn
  | builtin b=>
   simp only[hc] at hn
   cases b<;>simp only[] at hn<;>try (cases hn;done)
   have ha:Cb (c.args.toList.map ρ')=Cb (c.args.toList.map ρ):=by
    rw[<-Vg q (c.args.toList.map ρ),List.map_map];exact congrArg Cb (List.map_congr_left fun x hx=>hρ x (by simp [Op.operands,Call.operands,hc];exact Array.mem_toList_iff.1 hx))
   have hb:Dx (c.args.toList.map ρ')=Dx (c.args.toList.map ρ):=by
    rw[<-Vi q (c.args.toList.map ρ),List.map_map];exact congrArg Dx (List.map_congr_left fun x hx=>hρ x (by simp [Op.operands,Call.operands,hc];exact Array.mem_toList_iff.1 hx))
   have key:∀(M M' : Nat->Option En),I8 env ρ' M' p ⟨dst,.call c,type,pos,after,guard⟩=I8 env ρ M p ⟨dst,.call c,type,pos,after,guard⟩:=by
    intro M M'
    unfold I8;simp only[hc,ha,hb]
   have val:∀M r,I8 env ρ M p ⟨dst,.call c,type,pos,after,guard⟩=some r->r.ups=[]∧r.kill=none∧N3 q r.val=r.val:=by
    intro M r h;unfold I8 at h;simp only[hc] at h;split at h
    ·split at h
     ·split at h
      ·rename_i hl
       obtain ⟨n,rfl⟩:=ZZ hl
       cases h
       exact ⟨rfl,rfl,rfl⟩
      ·cases h
      ·split at h
       ·split at h
        ·cases h
         exact ⟨rfl,rfl,rfl⟩
        ·cases h
       ·cases h
     ·cases h
    ·cases h
   refine ⟨fun r h=>?_,fun r' h=>?_⟩
   ·obtain ⟨h1,h2,h3⟩:=val m r h
    refine ⟨h1,h2,?_⟩
    rw[key m m',h,h3];obtain ⟨a1,a2,a3,a4⟩:=r;simp only at h1 h2
    subst h1 h2;rfl
   ·rw[key m m'] at h
    obtain ⟨h1,h2,h3⟩:=val m r' h;refine ⟨h1,h2,r'.val,h3,?_⟩
    rw[h];obtain ⟨a1,a2,a3,a4⟩:=r';simp only at h1 h2
    subst h1 h2;rfl
theorem Oy(h:K3 env ks al ft p o σ=true)(hn:Qf o=false):(∀x∈o.op.operands,A9f ks (σ.ev x)=true) ∧
  (D1 env o=1->∀r,al r=true->Z0 ft r=true->∀e,σ.m r=some e->A9d ks e=true) ∧
  (∀r,I8 env σ.ev (F5 al σ.m) p o=some r->A9f ks r.val=true∧∀x∈r.ups,A9d ks x.2=true):=by
 simp only[K3,hn,Bool.false_or,Bool.and_eq_true] at h;obtain ⟨⟨h1,h2⟩,h3⟩:=h;refine ⟨fun x hx=>List.all_eq_true.1 h1 x (Array.mem_toList_iff.2 hx),fun hc r hr hf e he=>?_,fun r hr=>?_⟩
 ·rw[hc] at h2
  cases ft with
  | none=>cases h2
  | some l=>
   have mem:∀l:List Nat,V2 r l=true->r∈l:=by
    intro l;induction l with
    | nil=>intro h;cases h
    | cons a l ih=>
     intro h;simp only[V2] at h;split at h
     ·rename_i e;subst e;exact List.mem_cons_self
     ·exact List.mem_cons_of_mem _ (ih h)
   have:=List.all_eq_true.1 h2 r (mem l hf)
   rw[hr,he] at this;simpa using this
 ·rw[Kx,hr] at h3
  simp only[Bool.and_eq_true] at h3;exact ⟨h3.1,fun x hx=>List.all_eq_true.1 h3.2 x hx⟩
theorem Ak(he:∀x∈o.op.operands,σ'.ev x=σ.ev x)(hm:D1 env o=1->∀r,al r=true->Z0 ft r=true->σ'.m r=σ.m r)(hr:I8 env σ'.ev (F5 al σ'.m) p o=I8 env σ.ev (F5 al σ.m) p o)
  (h:K3 env ks al ft p o σ=true):K3 env ks al ft p o σ' = true:=by
 cases hn:Qf o with
 | true=>simp only[K3,hn,Bool.true_or]
 | false=>
  simp only[K3,hn,Bool.false_or,Bool.and_eq_true,Kx] at h ⊢
  obtain ⟨⟨h1,h2⟩,h3⟩:=h;refine ⟨⟨List.all_eq_true.2 fun x hx=>?_,?_⟩,by rw[hr];exact h3⟩
  ·rw[he x (Array.mem_toList_iff.1 hx)]
   exact List.all_eq_true.1 h1 x hx
  ·by_cases hc:D1 env o=1
   ·rw[hc] at h2 ⊢
    cases ft with
    | none=>cases h2
    | some l=>
     refine List.all_eq_true.2 fun r hr' => ?_
     have:=List.all_eq_true.1 h2 r hr'
     cases hal:al r with
     | false=>rfl
     | true=>
      have mem:∀l:List Nat,r∈l->V2 r l=true:=by
       intro l;induction l with
       | nil=>intro h;cases h
       | cons a l ih=>
        intro h;simp only[V2];split
        ·rfl
        ·rename_i hne
         rcases List.mem_cons.1 h with e | h
         ·exact absurd e.symm hne
         ·exact ih h
      rw[hal] at this;rw[hm hc r hal (mem l hr')];exact this
   ·clear h2 hm hr
    generalize D1 env o=n at hc ⊢
    match n,hc with
    | 0,_=>rfl
    | n+2,_=>rfl
theorem Y8.same(h:Y8 env al dec ops.toList p o σ ob s ups)(hnt:σ'.nt=σ.nt)(hw:J6 ops.toList o σ'.t=J6 ops.toList o σ.t)(hr:I8 env σ'.ev (F5 al σ'.m) p o=I8 env σ.ev (F5 al σ.m) p o)
  (hu:W5 al σ.m p ups=true->W5 al σ'.m p ups=true):Y8 env al dec ops.toList p o σ' ob s ups:=by
 cases h with
 | skip hw' hd=>exact .skip (by rw[hw];exact hw') (fun d hd' => by rw[hnt];exact hd d hd')
 | plain r hw' hd hr' hk hups=>exact .plain r (by rw[hw];exact hw') hd (by rw[hr];exact hr') hk (hu hups)
 | dst r d ob s hw' hd hlt hr' hk hups hdv=>exact .dst r d ob s (by rw[hw];exact hw') hd (by rw[hnt];exact hlt) (by rw[hr];exact hr') hk (hu hups) hdv
theorem Ky{t t' : Nat->SV}(h:∀d∈o.looksAt ops,t' d=Fa kl (t d)):J6 ops.toList o t' = J6 ops.toList o t:=by
 refine RZ ops.toList o t t' kl fun d hd=>h d ?_
 obtain ⟨j,w,hg,hb⟩:=hd;unfold Oper.looksAt;refine List.mem_append_right _ ?_
 have hb' : (ops[j]?).bind (·.dst)=some d:=by simpa using hb
 simp [hg,hb']
theorem NR{m m' : Nat->Option En}(h:∀r,al r=true->m' r=m r):F5 al m' = F5 al m:=by
 funext r
 simp only[F5];split
 ·rename_i hr;exact h r hr
 ·rfl
theorem A9m(h:Y8 env al dec ops.toList p o σ ob s ups)(hc:D1 env o<=2)(hcl:kl=none∨∃q,kl=some q∧V2 q ks=true∧K3 env ks al ft p o σ=true)(hnt:σ'.nt=σ.nt)
  (hT:∀d∈o.looksAt ops,σ'.t d=Fa kl (σ.t d)) (hM:D1 env o=1->∀r,al r=true->σ'.m r=(σ.m r).map (Tt kl)) (hf:∀r,al r=true->Z0 ft r=true) (hu:W5 al σ.m p ups=true->W5 al σ'.m p ups=true) :
  Y8 env al dec ops.toList p o σ' ob (Fa kl s) ups∧(∀x∈ups,Tt kl x.2=x.2)∧(K3 env ks al ft p o σ=true->K3 env ks al ft p o σ' = true):=by
 have h4:D1 env o≠4:=by omega
 have hev:=Xk (kl:=kl) hT;have hw:=Ky (o:=o) (ops:=ops) hT;have same:(∀x∈o.op.operands,σ'.ev x=σ.ev x)->(D1 env o=1->∀r,al r=true->σ'.m r=σ.m r)->I8 env σ'.ev (F5 al σ'.m) p o=I8 env σ.ev (F5 al σ.m) p o:=by
  intro he hm;rw[Ad he];by_cases h1:D1 env o=1
  ·rw[NR (hm h1)]
  ·exact EK (fun f=>rfl) _ (by
    have:D1 env o=0∨D1 env o=2:=by omega
    rcases this with e | e<;>rw[e]<;>rfl) h4
 rcases hcl with rfl | ⟨q,rfl,hq,hb⟩
 ·have hM' : D1 env o=1->∀r,al r=true->σ'.m r=σ.m r:=fun h1 r hr=>by
   rw[hM h1 r hr]
   cases σ.m r<;>rfl
  have hr:=same hev hM';exact ⟨h.same hnt hw hr hu,fun x _=>rfl,Ak hev (fun h1 r hr _=>hM' h1 r hr) hr⟩
 ·cases hn:Qf o with
  | true=>
   refine ⟨?_,fun x hx=>?_,fun _=>by simp only[K3,hn,Bool.true_or]⟩
   ·have hnat:=fun m m' => A0h (env:=env) (p:=p) hn (m:=m) (m' := m') hev
    cases h with
    | skip hw' hd=>exact .skip (by rw[hw];exact hw') (fun d hd' => by rw[hnt];exact hd d hd')
    | plain r hw' hd hr' hk hups=>
     obtain ⟨e1,e2,e3⟩:=(hnat _ (F5 al σ'.m)).1 r hr';have:=Y8.plain (al:=al) (dec:=dec) (ops:=ops.toList) ⟨r.obl,N3 q r.val,[],none⟩ (by rw[hw];exact hw') hd e3 rfl rfl
     rw[e1];exact this
    | dst r d ob s hw' hd hlt hr' hk hups hdv=>
     obtain ⟨e1,e2,e3⟩:=(hnat _ (F5 al σ'.m)).1 r hr';have:=Y8.dst (al:=al) (dec:=dec) (ops:=ops.toList) ⟨r.obl,N3 q r.val,[],none⟩ d ob (N3 q s) (by rw[hw];exact hw') hd (by rw[hnt];exact hlt) e3 rfl rfl (AQ hdv)
     rw[e1];exact this
   ·have hnat:=fun m m' => A0h (env:=env) (p:=p) hn (m:=m) (m' := m') hev
    cases h with
    | skip hw' hd=>cases hx
    | plain r hw' hd hr' hk hups=>rw[((hnat _ (F5 al σ'.m)).1 r hr').1] at hx;cases hx
    | dst r d ob s hw' hd hlt hr' hk hups hdv=>rw[((hnat _ (F5 al σ'.m)).1 r hr').1] at hx;cases hx
  | false=>
   obtain ⟨c1,c2,c3⟩:=Oy hb hn;have he:∀x∈o.op.operands,σ'.ev x=σ.ev x:=fun x hx=>(hev x hx).trans (LY hq _ (c1 x hx))
   have hM' : D1 env o=1->∀r,al r=true->σ'.m r=σ.m r:=fun h1 r hr=>by
    rw[hM h1 r hr]
    cases hm:σ.m r with
    | none=>rfl
    | some e=>exact congrArg some (Es hq e (c2 h1 r hr (hf r hr) e hm))
   have hr:=same he hM';have h' := h.same hnt hw hr hu;refine ⟨?_,fun x hx=>?_,Ak he (fun h1 r hr _=>hM' h1 r hr) hr⟩
   ·have hs:N3 q s=s:=by
     cases h with
     | skip hw' hd=>rfl
     | plain r hw' hd hr' hk hups=>rfl
     | dst r d ob s hw' hd hlt hr' hk hups hdv=>
      have hv:=LY hq _ (c3 r hr').1;have:=AQ (q:=q) hdv
      rw[hv,hdv] at this;exact (congrArg Prod.snd this).symm
    show Y8 env al dec ops.toList p o σ' ob (N3 q s) ups;rw[hs];exact h'
   ·cases h with
    | skip hw' hd=>cases hx
    | plain r hw' hd hr' hk hups=>exact Es hq _ ((c3 r hr').2 x hx)
    | dst r d ob s hw' hd hlt hr' hk hups hdv=>exact Es hq _ ((c3 r hr').2 x hx)
theorem A9l(h:Y8 env al dec ops.toList p o σ' ob s ups)(hc:D1 env o<=2)(hcl:kl=none∨∃q,kl=some q∧V2 q ks=true∧K3 env ks al ft p o σ' = true)(hnt:σ'.nt=σ.nt)
  (hT:∀d∈o.looksAt ops,σ'.t d=Fa kl (σ.t d)) (hM:D1 env o=1->∀r,al r=true->σ'.m r=(σ.m r).map (Tt kl)) (hf:∀r,al r=true->Z0 ft r=true) (hu:W5 al σ'.m p ups=true->W5 al σ.m p ups=true) :
  ∃s0,Fa kl s0=s∧Y8 env al dec ops.toList p o σ ob s0 ups∧(∀x∈ups,Tt kl x.2=x.2)∧(K3 env ks al ft p o σ' = true->K3 env ks al ft p o σ=true):=by
 have h4:D1 env o≠4:=by omega
 have hev:=Xk (kl:=kl) hT;have hw:=Ky (o:=o) (ops:=ops) hT;have same:(∀x∈o.op.operands,σ.ev x=σ'.ev x)->(D1 env o=1->∀r,al r=true->σ.m r=σ'.m r)->I8 env σ.ev (F5 al σ.m) p o=I8 env σ'.ev (F5 al σ'.m) p o:=by
  intro he hm;rw[Ad he];by_cases h1:D1 env o=1
  ·rw[NR (hm h1)]
  ·exact EK (fun f=>rfl) _ (by
    have:D1 env o=0∨D1 env o=2:=by omega
    rcases this with e | e<;>rw[e]<;>rfl) h4
 rcases hcl with rfl | ⟨q,rfl,hq,hb⟩
 ·have hM' : D1 env o=1->∀r,al r=true->σ.m r=σ'.m r:=fun h1 r hr=>by
   rw[hM h1 r hr]
   cases σ.m r<;>rfl
  have he:∀x∈o.op.operands,σ.ev x=σ'.ev x:=fun x hx=>(hev x hx).symm
  have hr:=same he hM';exact ⟨s,rfl,h.same hnt.symm hw.symm hr hu,fun x _=>rfl,Ak he (fun h1 r hr _=>hM' h1 r hr) hr⟩
 ·cases hn:Qf o with
  | true=>
   have hnat:=fun m m' => A0h (env:=env) (p:=p) hn (m:=m) (m' := m') hev
   have hcb:K3 env ks al ft p o σ' = true->K3 env ks al ft p o σ=true:=fun _=>by simp only[K3,hn,Bool.true_or]
   cases h with
   | skip hw' hd=>exact ⟨.t [],rfl,.skip (by rw[<-hw];exact hw') (fun d hd' => by rw[<-hnt];exact hd d hd'),(fun x hx=>by cases hx),hcb⟩
   | plain r hw' hd hr' hk hups=>
    obtain ⟨e1,e2,s0,e3,e4⟩:=(hnat (F5 al σ.m) _).2 r hr';have:=Y8.plain (al:=al) (dec:=dec) (ops:=ops.toList) ⟨r.obl,s0,[],none⟩ (by rw[<-hw];exact hw') hd e4 rfl rfl
    rw[e1];exact ⟨.top,rfl,this,(fun x hx=>by cases hx),hcb⟩
   | dst r d ob s hw' hd hlt hr' hk hups hdv=>
    obtain ⟨e1,e2,s0,e3,e4⟩:=(hnat (F5 al σ.m) _).2 r hr'
    cases hdv0:O3 dec d s0 with
    | mk o0 v0=>
     have hd2:=AQ (q:=q) hdv0;rw[e3,hdv] at hd2
     cases hd2
     have:=Y8.dst (al:=al) (dec:=dec) (ops:=ops.toList) ⟨r.obl,s0,[],none⟩ d _ v0 (by rw[<-hw];exact hw') hd (by rw[<-hnt];exact hlt) e4 rfl rfl hdv0
     rw[e1];exact ⟨v0,rfl,this,(fun x hx=>by cases hx),hcb⟩
  | false=>
   obtain ⟨c1,c2,c3⟩:=Oy hb hn;have he:∀x∈o.op.operands,σ.ev x=σ'.ev x:=fun x hx=>by
    have h1:=c1 x hx;rw[hev x hx] at h1 ⊢
    exact (YX _ h1).symm
   have hM' : D1 env o=1->∀r,al r=true->σ.m r=σ'.m r:=fun h1 r hr=>by
    have e0:=hM h1 r hr
    cases hm:σ.m r with
    | none=>rw[hm] at e0;exact e0.symm
    | some e=>
     rw[hm] at e0;have:=c2 h1 r hr (hf r hr) (W0 q e) e0
     rw[e0];exact congrArg some (YW e this).symm
   have hr:=same he hM';have h' := h.same hnt.symm hw.symm hr hu;refine ⟨s,?_,h',fun x hx=>?_,Ak he (fun h1 r hr _=>hM' h1 r hr) hr⟩
   ·cases h with
    | skip hw' hd=>rfl
    | plain r hw' hd hr' hk hups=>rfl
    | dst r d ob s hw' hd hlt hr' hk hups hdv=>
     have hv:=LY hq _ (c3 r hr').1;have:=AQ (q:=q) hdv
     rw[hv,hdv] at this;exact (congrArg Prod.snd this).symm
   ·cases h with
    | skip hw' hd=>cases hx
    | plain r hw' hd hr' hk hups=>exact Es hq _ ((c3 r hr').2 x hx)
    | dst r d ob s hw' hd hlt hr' hk hups hdv=>exact Es hq _ ((c3 r hr').2 x hx)
end
end
section
section
variable {env:D6} {ρ:Operand->SV} {m:Nat->Option En} {p:Nat} {o:Oper} {r:Res}
theorem Uu{i:TyI}{e:Sq}{s x:SV}(h:NY m p i e s x=some r):∃y e,r.ups=[(y,e)]∧((y=p∧r.kill=none)∨(r.kill=some y∧m y≠none)):=by
 unfold NY at h;split at h
 ·split at h
  ·split at h
   ·cases h;exact ⟨p,_,rfl,.inl ⟨rfl,rfl⟩⟩
   ·cases h
  ·split at h
   ·rename_i hm
    split at h
    ·split at h
     ·cases h;exact ⟨_,_,rfl,.inr ⟨rfl,by rw[hm];simp⟩⟩
     ·cases h
    ·cases h
   ·cases h
  ·split at h
   ·split at h
    ·cases h;exact ⟨p,_,rfl,.inl ⟨rfl,rfl⟩⟩
    ·cases h
   ·cases h
  ·cases h
 ·cases h
theorem A6q(h:I8 env ρ m p o=some r)(h6:D1 env o=6):∃y e,r.ups=[(y,e)]∧((y=p∧r.kill=none)∨(r.kill=some y∧m y≠none)):=by
 unfold D1 at h6;unfold I8 at h
 cases hop:o.op<;>simp only[hop] at h6 h<;>try (cases h6;done)
 case convert src dst v=>
  split at h6
  ·split at h6<;>cases h6
  ·cases h6
 case call c=>
  cases hc:c.callee with
  | invoke f m=>simp only[hc] at h6;cases h6
  | value f=>
   simp only[hc] at h6
   cases f with
   | func g=>
    simp only at h6
    split at h6
    ·cases h6
    ·split at h6<;>cases h6
   | tmp t=>cases h6
   | const v=>cases h6
   | global g=>cases h6
  | builtin b=>
   simp only[hc] at h6 h
   cases b<;>simp only[] at h6 h<;>try (cases h6;done)
   repeat' split at h
   all_goals first
    | (cases h;done)
    | exact Uu h
end
def Au(σ:St)(dst:Option Nat)(s:SV)(ups:List (Nat×En))(kl:Option Nat):St:={ σ with t:=S3 (BA σ.t kl) dst s,m:=H8 (O5 σ.m kl) ups,fr:=Da σ.fr kl }
inductive Bw(env:D6)(al:Nat->Bool)(dec:List (Nat×Bool))(ops:List Oper)(p:Nat)(o:Oper)(σ:St):List Prop->SV->List (Nat×En)->Option Nat->Prop
 | skip:J6 ops o σ.t=some false->(∀d,o.dst=some d->d<σ.nt)->Bw env al dec ops p o σ [] (.t []) [] none
 | plain (r:Res):J6 ops o σ.t=some true->o.dst=none->I8 env σ.ev (F5 al σ.m) p o=some r->HB r.kill=true->W5 al σ.m p r.ups=true->Bw env al dec ops p o σ r.obl .top r.ups r.kill
 | dst (r:Res) (d:Nat) (ob:List Prop) (s:SV):J6 ops o σ.t=some true->o.dst=some d->d<σ.nt->I8 env σ.ev (F5 al σ.m) p o=some r->HB r.kill=true->W5 al σ.m p r.ups=true->O3 dec d r.val=(ob,s)->Bw env al dec ops p o σ (ob++r.obl) s r.ups r.kill
theorem JI{env:D6}{al:Nat->Bool}{dec:List (Nat×Bool)}{ops:List Oper}{p:Nat}{o:Oper}{σ σ' : St}{ob:List Prop}(h:Bo env al dec ops p o σ=some (ob,σ')) :
  ∃s ups kl,Bw env al dec ops p o σ ob s ups kl∧σ' = Au σ o.dst s ups kl:=by
 rw[Ek] at h;split at h
 ·rename_i hw
  unfold VG at h;split at h
  ·cases h
  ·rename_i r hr
   split at h
   ·rename_i hups
    simp only[Bool.and_eq_true] at hups;obtain ⟨hk,hups⟩:=hups;split at h
    ·rename_i hd
     cases h
     exact ⟨.top,r.ups,r.kill,.plain r hw hd hr hk hups,by simp only[Au,hd,S3]⟩
    ·rename_i d hd
     split at h
     ·rename_i hlt
      cases hdv:O3 dec d r.val with
      | mk o' v=>
       simp only[hdv] at h
       cases h
       exact ⟨v,r.ups,r.kill,.dst r d o' v hw hd hlt hr hk hups hdv,by simp only[Au,hd,S3]⟩
     ·cases h
   ·cases h
 ·rename_i hw
  split at h
  ·rename_i e he
   split at h
   ·rename_i hlt
    cases h
    exact ⟨.t [],[],none,.skip hw (fun d hd=>by rw[he] at hd;cases hd;exact hlt),by simp only[Au,he,S3,Af,BA,O5,Da]⟩
   ·cases h
  ·rename_i he
   cases h
   exact ⟨.t [],[],none,.skip hw (fun d hd=>by rw[he] at hd;cases hd),by simp only[Au,he,S3,Af,BA,O5,Da]⟩
 ·cases h
theorem IV{env:D6}{al:Nat->Bool}{dec:List (Nat×Bool)}{ops:List Oper}{p:Nat}{o:Oper}{σ:St}{ob:List Prop}{s:SV}{ups:List (Nat×En)}{kl:Option Nat}(h:Bw env al dec ops p o σ ob s ups kl) :
  Bo env al dec ops p o σ=some (ob,Au σ o.dst s ups kl):=by
 rw[Ek]
 cases h with
 | skip hw hd=>
  rw[hw]
  cases he:o.dst with
  | none=>simp only[Au,S3,Af,BA,O5,Da]
  | some d=>simp only[Au,S3,Af,BA,O5,Da];rw[if_pos (hd d he)]
 | plain r hw hd hr hk hups=>
  rw[hw];simp only[VG];unfold F5 at hr;rw[hr];simp only[hups,hk,Bool.and_self,if_true,hd,Au,S3]
 | dst r d ob s hw hd hlt hr hk hups hdv=>
  rw[hw];simp only[VG];unfold F5 at hr;rw[hr];simp only[hups,hk,Bool.and_self,if_true,hd,Au,S3,hlt,hdv]
section
variable {env:D6} {al:Nat->Bool} {dec:List (Nat×Bool)} {ops:Array Oper} {p:Nat} {o:Oper} {σ σ' : St} {ob:List Prop} {s:SV} {ups:List (Nat×En)} {kl:Option Nat} {ks:List Nat}
theorem Bw.move(h:Bw env al dec ops.toList p o σ ob s ups kl)(hnt:σ'.nt=σ.nt)(ht:∀d∈o.looksAt ops,σ'.t d=σ.t d)(hm:F5 al σ'.m=F5 al σ.m)(hu:W5 al σ.m p ups=true->W5 al σ'.m p ups=true) :
  Bw env al dec ops.toList p o σ' ob s ups kl:=by
 have hop:∀r,I8 env σ.ev (F5 al σ.m) p o=some r->I8 env σ'.ev (F5 al σ'.m) p o=some r:=by
  intro r hr;rw[Ad (DX ht),hm];exact hr
 cases h with
 | skip hw hd=>exact .skip (by rw[S8 ht];exact hw) (fun d hd' => by rw[hnt];exact hd d hd')
 | plain r hw hd hr hk hups=>exact .plain r (by rw[S8 ht];exact hw) hd (hop r hr) hk (hu hups)
 | dst r d ob s hw hd hlt hr hk hups hdv=>exact .dst r d ob s (by rw[S8 ht];exact hw) hd (by rw[hnt];exact hlt) (hop r hr) hk (hu hups) hdv
theorem Bw.facts(h:Bw env al dec ops.toList p o σ ob s ups kl)(h6:D1 env o=6)(hal:∀q,al q=true->q<p):W5 al σ.m p ups=true∧∀y e,(y,e)∈ups->(y=p∧kl=none∧σ.m y=none)∨(kl=some y∧al y=true∧σ.m y≠none):=by
 have key:∀r,I8 env σ.ev (F5 al σ.m) p o=some r->W5 al σ.m p r.ups=true->∀y e,(y,e)∈r.ups->(y=p∧r.kill=none∧σ.m y=none)∨(r.kill=some y∧al y=true∧σ.m y≠none):=by
  intro r hr hups y e hy;obtain ⟨y',e',hu,hk⟩:=A6q hr h6;have hu2:=(N8.1 hups) y e hy;rw[hu] at hy;simp only[List.mem_cons,List.not_mem_nil,or_false,Prod.mk.injEq] at hy;obtain ⟨rfl,rfl⟩:=hy;rcases hk with ⟨rfl,hk⟩ | ⟨hk,hm⟩
  ·left
   refine ⟨rfl,hk,?_⟩
   cases hm:σ.m y with
   | none=>rfl
   | some x=>simp only[hm] at hu2;have:=hal y hu2;omega
  ·right
   simp only[F5] at hm;split at hm
   ·rename_i h;exact ⟨hk,h,hm⟩
   ·exact absurd rfl hm
 cases h with
 | skip hw hd=>exact ⟨rfl,fun y e h=>(by cases h)⟩
 | plain r hw hd hr hk hups=>exact ⟨hups,key r hr hups⟩
 | dst r d ob s hw hd hlt hr hk hups hdv=>exact ⟨hups,key r hr hups⟩
theorem PR{m:Nat->Option En}:∀{ups:List (Nat×En)},(∀x∈ups,Tt kl x.2=x.2)->O5 (H8 m ups) kl=H8 (O5 m kl) ups:=by
 intro ups;induction ups generalizing m with
 | nil=>intro _;rfl
 | cons x l ih=>
  intro h;obtain ⟨q,e⟩:=x;simp only[H8];rw[ih fun x hx=>h x (List.mem_cons_of_mem _ hx)]
  congr 1
  funext y
  rw[FM];by_cases hy:y=q
  ·simp only[hy,if_true]
   exact congrArg some (h (q,e) List.mem_cons_self)
  ·simp only[hy,if_false]
   exact (FM m kl y).symm
theorem PQ{m:Nat->Option En}{q:Nat}:O5 m kl q=none↔m q=none:=by
 rw[FM]
 cases m q<;>simp
variable {o1 o2:Oper} {p1 p2:Nat} {al1 al2:Nat->Bool} {ob1 ob2:List Prop} {s1 s2:SV} {ups1 ups2:List (Nat×En)} {f1 f2:Option (List Nat)}
theorem Vf{b:Nat}{f g:Option (List Nat)}(h:FB b f g=false):b<=2∧(b=1->KE f g=true):=by
 match b,h with
 | 0,_=>exact ⟨by omega,fun h=>by cases h⟩
 | 1,h=>exact ⟨by omega,fun _=>by simpa [FB] using h⟩
 | 2,_=>exact ⟨by omega,fun h=>by cases h⟩
theorem D6r(h6:D1 env o2=6)(hap:o1.apart ops o2=true)(hcl6:FB (D1 env o1) f1 f2=false)(hf1:∀q,al1 q=true->Z0 f1 q=true)(hf2:∀q,al2 q=true->Z0 f2 q=true)
  (hp:p1+16<=p2) (hal1:∀q,al1 q=true->q<p1) (hal2:∀q,al2 q=true->q<p2) (hno:∀q,p1<=q->q<p1+16->al2 q=false)
  (hcl:kl=none∨∃q,kl=some q∧V2 q ks=true∧K3 env ks al1 f1 p1 o1 σ=true)
  (h1:Y8 env al1 dec ops.toList p1 o1 σ ob1 s1 ups1) (h2:Bw env al2 dec ops.toList p2 o2 (M8 σ o1.dst s1 ups1) ob2 s2 ups2 kl) :
  Bw env al2 dec ops.toList p2 o2 σ ob2 s2 ups2 kl∧Y8 env al1 dec ops.toList p1 o1 (Au σ o2.dst s2 ups2 kl) ob1 (Fa kl s1) ups1∧Au (M8 σ o1.dst s1 ups1) o2.dst s2 ups2 kl=M8 (Au σ o2.dst s2 ups2 kl) o1.dst (Fa kl s1) ups1 ∧
   F5 al2 σ.m=F5 al2 (M8 σ o1.dst s1 ups1).m∧(K3 env ks al1 f1 p1 o1 σ=true->K3 env ks al1 f1 p1 o1 (Au σ o2.dst s2 ups2 kl)=true):=by
 obtain ⟨hle,hft⟩:=Vf hcl6;obtain ⟨a1,a2,a3⟩:=Oper.apart_spec hap;have m4:D1 env o1≠4:=by omega
 have m6:D1 env o1≠6:=by omega
 have m3:D1 env o1≠3:=by omega
 obtain ⟨u1,g1,_⟩:=h1.facts m4 m6;obtain ⟨u2,g2⟩:=h2.facts h6 hal2;have w1:∀q e,(q,e)∈ups1->σ.m q=none∧p1<=q∧q<p1+16:=by
  intro q e hq;have hu:=(N8.1 u1) q e hq;have hge:=g1 m3 q e hq
  cases hm:σ.m q with
  | some x=>simp only[hm] at hu;have:=hal1 q hu;omega
  | none=>simp only[hm] at hu;exact ⟨rfl,hu⟩
 have w2:∀y e,(y,e)∈ups2->(y=p2∧kl=none∧σ.m y=none)∨(kl=some y∧al2 y=true∧σ.m y≠none):=by
  intro y e hy;rcases g2 y e hy with ⟨h1',h2',h3'⟩ | ⟨h1',h2',h3'⟩
  ·exact .inl ⟨h1',h2',ES h3'⟩
  ·refine .inr ⟨h1',h2',fun hn=>h3' ?_⟩
   have hout:∀e,(y,e) ∉ ups1:=fun e he=>by
    obtain ⟨_,h5,h6⟩:=w1 y e he;rw[hno y h5 h6] at h2';cases h2'
   simp only[M8];rw[M1 hout];exact hn
 have disj:∀q e e',(q,e)∈ups1->(q,e') ∉ ups2:=by
  intro q e e' h h'
  obtain ⟨i1,i2,i3⟩:=w1 q e h;rcases w2 q e' h' with ⟨j1,_,_⟩ | ⟨_,_,j3⟩
  ·omega
  ·exact j3 i1
 have view2:F5 al2 σ.m=F5 al2 (M8 σ o1.dst s1 ups1).m:=by
  refine NR fun q hq=>?_
  simp only[M8];rw[M1];intro e he;obtain ⟨_,h5,h6⟩:=w1 q e he;rw[hno q h5 h6] at hq;cases hq
 have h2' : Bw env al2 dec ops.toList p2 o2 σ ob2 s2 ups2 kl:=by
  refine h2.move rfl (fun d hd=>?_) view2 (fun _=>?_)
  ·simp only[M8]
   cases hd1:o1.dst with
   | none=>rfl
   | some e=>
    have:d≠e:=fun he=>a1 e hd1 (he ▸ hd)
    simp [S3,M7,this]
  ·rw[N8]
   intro q e hq;rcases w2 q e hq with ⟨j1,j2,j3⟩ | ⟨j1,j2,j3⟩
   ·rw[j3];exact ⟨by omega,by omega⟩
   ·cases hm:σ.m q with
    | none=>exact absurd hm j3
    | some x=>exact j2
 obtain ⟨k1,k2,k3⟩:=A9m (ks:=ks) (ft:=f1) (kl:=kl) (σ' := Au σ o2.dst s2 ups2 kl) h1 hle hcl rfl (fun d hd=>by
   simp only[Au];rw[<-Bc]
   cases hd2:o2.dst with
   | none=>rfl
   | some e=>
    have:d≠e:=fun he=>a3 e hd2 (he ▸ hd)
    simp [S3,M7,this]) (fun hc r hr=>by
   simp only[Au];rw[M1,FM];intro e he;have:=hal1 r hr
   rcases w2 r e he with ⟨j1,_,_⟩ | ⟨_,j2,_⟩
   ·omega
   ·exact Z7 (hft hc) r (hf1 r hr) (hf2 r j2)) hf1 (fun _=>by
   rw[N8];intro q e hq;obtain ⟨i1,i2,i3⟩:=w1 q e hq;simp only[Au];rw[M1 (fun e' he' => disj q e e' hq he'),PQ.2 i1]
   exact ⟨i2,i3⟩)
 refine ⟨h2',k1,?_,view2,k3⟩
 simp only[Au,M8,St.mk.injEq,and_true];refine ⟨?_,?_⟩
 ·funext x
  have e1:=Bc σ.t kl x;have e2:=Bc (S3 σ.t o1.dst s1) kl x
  cases hd1:o1.dst with
  | none=>
   cases hd2:o2.dst with
   | none=>simp only[S3]
   | some b=>simp only[S3]
  | some a=>
   cases hd2:o2.dst with
   | none=>
    simp only[S3,M7,Bc];by_cases hx:x=a
    ·simp [hx]
    ·simp [hx]
   | some b=>
    have hab:a≠b:=fun e=>a2 a hd1 (by rw[hd2,e])
    simp only[S3,M7,Bc];by_cases hx:x=a
    ·subst hx;simp [hab]
    ·simp [hx]
 ·rw[PR k2]
  exact Iw disj
theorem D6s(h6:D1 env o1=6)(hap:o1.apart ops o2=true)(hcl6:FB (D1 env o2) f1 f2=false)(hf1:∀q,al1 q=true->Z0 f1 q=true)(hf2:∀q,al2 q=true->Z0 f2 q=true)
  (hp:p1+16<=p2) (hal1:∀q,al1 q=true->q<p1) (hal2:∀q,al2 q=true->q<p2) (hno:∀q,p1<=q->q<p1+16->al2 q=false)
  (hcl:kl=none∨∃q,kl=some q∧V2 q ks=true∧K3 env ks al2 f2 p2 o2 (Au σ o1.dst s1 ups1 kl)=true)
  (h1:Bw env al1 dec ops.toList p1 o1 σ ob1 s1 ups1 kl) (h2:Y8 env al2 dec ops.toList p2 o2 (Au σ o1.dst s1 ups1 kl) ob2 s2 ups2) :
  ∃s0,Y8 env al2 dec ops.toList p2 o2 σ ob2 s0 ups2∧Bw env al1 dec ops.toList p1 o1 (M8 σ o2.dst s0 ups2) ob1 s1 ups1 kl∧M8 (Au σ o1.dst s1 ups1 kl) o2.dst s2 ups2=Au (M8 σ o2.dst s0 ups2) o1.dst s1 ups1 kl ∧
   F5 al1 (M8 σ o2.dst s0 ups2).m=F5 al1 σ.m∧(K3 env ks al2 f2 p2 o2 (Au σ o1.dst s1 ups1 kl)=true->K3 env ks al2 f2 p2 o2 σ=true):=by
 obtain ⟨hle,hft⟩:=Vf hcl6;obtain ⟨a1,a2,a3⟩:=Oper.apart_spec hap;have m4:D1 env o2≠4:=by omega
 have m6:D1 env o2≠6:=by omega
 have m3:D1 env o2≠3:=by omega
 obtain ⟨u1,w1⟩:=h1.facts h6 hal1;obtain ⟨u2,g2,_⟩:=h2.facts m4 m6;have w2:∀q e,(q,e)∈ups2->σ.m q=none∧p2<=q∧q<p2+16:=by
  intro q e hq;have hu:=(N8.1 u2) q e hq;have hge:=g2 m3 q e hq
  cases hm:(Au σ o1.dst s1 ups1 kl).m q with
  | some x=>simp only[hm] at hu;have:=hal2 q hu;omega
  | none=>
   simp only[hm] at hu;have:=ES hm
   exact ⟨PQ.1 this,hu⟩
 have disj:∀q e e',(q,e)∈ups1->(q,e') ∉ ups2:=by
  intro q e e' h h'
  obtain ⟨i1,i2,i3⟩:=w2 q e' h';rcases w1 q e h with ⟨j1,_,_⟩ | ⟨_,_,j3⟩
  ·omega
  ·exact j3 i1
 obtain ⟨s0,k0,k1,k2,k3⟩:=A9l (ks:=ks) (ft:=f2) (kl:=kl) (σ:=σ) h2 hle hcl rfl (fun d hd=>by
   simp only[Au];rw[<-Bc]
   cases hd1:o1.dst with
   | none=>rfl
   | some e=>
    have:d≠e:=fun he=>a1 e hd1 (he ▸ hd)
    simp [S3,M7,this]) (fun hc r hr=>by
   simp only[Au];rw[M1,FM];intro e he;rcases w1 r e he with ⟨j1,_,_⟩ | ⟨_,j2,_⟩
   ·rw[hno r (by omega) (by omega)] at hr;cases hr
   ·exact Z7 (hft hc) r (hf1 r j2) (hf2 r hr)) hf2 (fun _=>by
   rw[N8];intro q e hq;obtain ⟨i1,i2,i3⟩:=w2 q e hq;rw[i1];exact ⟨i2,i3⟩)
 have view1:F5 al1 (M8 σ o2.dst s0 ups2).m=F5 al1 σ.m:=by
  refine NR fun q hq=>?_
  simp only[M8];rw[M1];intro e he;obtain ⟨_,h5,_⟩:=w2 q e he;have:=hal1 q hq
  omega
 refine ⟨s0,k1,?_,?_,view1,k3⟩
 ·refine h1.move rfl (fun d hd=>?_) view1 (fun _=>?_)
  ·simp only[M8]
   cases hd2:o2.dst with
   | none=>rfl
   | some e=>
    have:d≠e:=fun he=>a3 e hd2 (he ▸ hd)
    simp [S3,M7,this]
  ·rw[N8]
   intro q e hq;have hu:=(N8.1 u1) q e hq;simp only[M8];rw[M1 (fun e' he' => disj q e e' hq he')]
   exact hu
 ·simp only[Au,M8,St.mk.injEq,and_true]
  refine ⟨?_,?_⟩
  ·funext x
   cases hd1:o1.dst with
   | none=>
    cases hd2:o2.dst with
    | none=>simp only[S3]
    | some b=>
     simp only[S3,M7,Bc];by_cases hx:x=b
     ·simp [hx,k0]
     ·simp [hx]
   | some a=>
    cases hd2:o2.dst with
    | none=>simp only[S3]
    | some b=>
     have hab:a≠b:=fun e=>a2 a hd1 (by rw[hd2,e])
     simp only[S3,M7,Bc];by_cases hx:x=b
     ·subst hx;simp [Ne.symm hab,k0]
     ·simp [hx]
  ·rw[PR k2]
   exact Iw disj
variable {anc:List Nat} {kk:List (Nat×Nat)} {i:Nat} {ft:Option (List Nat)}
theorem BQ(he:∀x∈o.op.operands,σ'.ev x=σ.ev x)(hm:CB (D1 env o)=true->F5 al σ'.m=F5 al σ.m)(h:X3 env anc kk i al ft p o σ=true):X3 env anc kk i al ft p o σ' = true:=by
 unfold X3 at h ⊢
 simp only[Kx] at h ⊢
 cases h6:Nat.beq (D1 env o) 6 with
 | true=>
  simp only[h6,if_true] at h ⊢
  have e6:=Nat.eq_of_beq_eq_true h6;rw[Ad he,hm (by rw[e6];rfl)]
  exact h
 | false=>
  simp only[h6,Bool.false_eq_true,if_false,Bool.or_eq_true] at h ⊢
  rcases h with h | h
  ·exact .inl h
  ·by_cases h3:Nat.ble 3 (D1 env o)=true
   ·exact .inl (.inr h3)
   ·right
    have hlt:D1 env o<=2:=by
     rcases Nat.lt_or_ge (D1 env o) 3 with h | h
     ·omega
     ·exact absurd (Nat.ble_eq_true_of_le h) h3
    have hpt:∀r,D1 env o=1->al r=true->σ'.m r=σ.m r:=fun r h1 hr=>by
     have:=congrFun (hm (by rw[h1];rfl)) r
     simpa [F5,hr] using this
    refine Ak he (fun h1 r hr _=>hpt r h1 hr) ?_ h
    rw[Ad he];by_cases h1:D1 env o=1
    ·rw[hm (by rw[h1];rfl)]
    ·exact EK (fun f=>rfl) _ (by
      have:D1 env o=0∨D1 env o=2:=by omega
      rcases this with e | e<;>rw[e]<;>rfl) (by omega)
theorem Ui(h6:D1 env o≠6)(hc:K3 env (FO anc i kk) al ft p o σ=true->K3 env (FO anc i kk) al ft p o σ' = true)(h:X3 env anc kk i al ft p o σ=true):X3 env anc kk i al ft p o σ' = true:=by
 have hb:Nat.beq (D1 env o) 6=false:=by
  cases hh:Nat.beq (D1 env o) 6 with
  | false=>rfl
  | true=>exact absurd (Nat.eq_of_beq_eq_true hh) h6
 unfold X3 at h ⊢
 simp only[hb,Bool.false_eq_true,if_false,Bool.or_eq_true] at h ⊢
 rcases h with h | h
 ·exact .inl h
 ·exact .inr (hc h)
theorem Kr(hle:D1 env o<=2)(hne:(FO anc i kk).isEmpty=false)(h:X3 env anc kk i al ft p o σ=true):K3 env (FO anc i kk) al ft p o σ=true:=by
 have hb:Nat.beq (D1 env o) 6=false:=by
  cases hh:Nat.beq (D1 env o) 6 with
  | false=>rfl
  | true=>have:=Nat.eq_of_beq_eq_true hh;omega
 have h3:Nat.ble 3 (D1 env o)=false:=by
  cases hh:Nat.ble 3 (D1 env o) with
  | false=>rfl
  | true=>have:=Nat.le_of_ble_eq_true hh;omega
 unfold X3 at h;simpa only[hb,hne,h3,Bool.false_eq_true,if_false,Bool.false_or] using h
theorem PS{j q:Nat}:∀{kk:List (Nat×Nat)},B4j j q kk=true->(if j<i then (anc.getD i 0).testBit j else (anc.getD j 0).testBit i)=false->V2 q (FO anc i kk)=true
 | [],h,_=>by cases h
 | (j',q')::l,h,hu=>by
  simp only[B4j] at h;simp only[FO];split at h
  ·rename_i e
   obtain ⟨rfl,rfl⟩:=e;rw[hu];simp [V2]
  ·have ih:=PS h hu
   generalize (if j' < i then (anc.getD i 0).testBit j' else (anc.getD j' 0).testBit i)=b
   cases b with
   | true=>exact ih
   | false=>
    show V2 q (q' :: FO anc i l)=true;simp only[V2];split
    ·rfl
    ·exact ih
theorem Jy{q:Nat}{l:List Nat}(h:V2 q l=true):l.isEmpty=false:=by
 cases l with
 | nil=>cases h
 | cons=>rfl
theorem Nh(h6:D1 env o=6)(h:X3 env anc kk i al ft p o σ=true)(hd:Bw env al dec ops.toList p o σ ob s ups kl):∀q,kl=some q->B4j i q kk=true:=by
 intro q hq;have hb:Nat.beq (D1 env o) 6=true:=by rw[h6];rfl
 unfold X3 at h;simp only[hb,if_true,Kx] at h
 cases hd with
 | skip hw hd' => cases hq
 | plain r hw hd' hr hk hups=>rw[hr] at h;simp only[hq] at h;exact h
 | dst r d ob s hw hd' hlt hr hk hups hdv=>rw[hr] at h;simp only[hq] at h;exact h
end
end
section
section
variable {P:Program} {w0:World} {F0:Nat->Prop} {K:Kp} {as:List Act} {env:D6} {al:Nat->Bool} {dec:List (Nat×Bool)} {ops:Array Oper} {p:Nat} {o:Oper} {σ σ' : St} {ob:List Prop} {x:C0} {a:Act}
theorem MM{d:Nat}{v v' : SV}{o' : List Prop}{u:Value}(h:O3 dec d v=(o',v'))(ho:A5 o')(hd:B8 x v u):B8 x v' u:=by
 unfold O3 at h;split at h
 ·rename_i b
  split at h
  ·cases h
   obtain ⟨rfl,_⟩:=ho;have:=NS hd
   subst this;exact NF _
  ·cases h;exact hd
 ·cases h;exact hd
theorem Ew{b:Bool}(hs:∀t,B8 x (σ.t t) (a.tmps.getD t undef))(h:J6 ops.toList o σ.t=some b):Region.wanted o (yielded ops a.tmps)=b:=by
 unfold J6 at h;unfold Region.wanted
 cases hg:o.guard with
 | none=>simp only[hg] at h ⊢;cases h;rfl
 | some g=>
  obtain ⟨j,want⟩:=g;simp only[hg] at h ⊢
  cases hb:(ops.toList[j]?).bind (·.dst) with
  | none=>simp only[hb] at h;cases h
  | some d=>
   simp only[hb] at h;have hb' : (ops[j]?).bind (·.dst)=some d:=by simpa using hb
   split at h
   ·rename_i b' hlit
    cases h
    have hd:=hs d;rw[hlit] at hd;have hv:=WN hd;have hget:a.tmps[d]? = some (.bool b'):=by
     rw[Array.getD_eq_getD_getElem?] at hv
     cases hh:a.tmps[d]? with
     | none=>rw[hh] at hv;simp [undef] at hv
     | some u=>rw[hh] at hv;simpa using hv
    have hy:yielded ops a.tmps j=some b' := by
     unfold yielded;rw[hb'];simp [hget]
    rw[hy]
    cases b'<;>cases want<;>rfl
   ·rename_i hlit
    cases h
    have hd:=hs d;rw[hlit] at hd;obtain ⟨vs,hv,hvs⟩:=hd
    cases hvs
    have hy:yielded ops a.tmps j=none:=by
     unfold yielded;rw[hb'];rw[Array.getD_eq_getD_getElem?] at hv
     cases hh:a.tmps[d]? with
     | none=>simp [hh]
     | some u=>rw[hh] at hv;simp at hv;subst hv;simp [hh]
    rw[hy]
    cases want<;>rfl
   ·cases h
theorem LG(ρ:Option Nat){Q:Exit->Act->World->Prop}{Kt:Act->World->Prop}{i:Nat}(hE:A7 P env)(hs:Sim w0 F0 K as σ x a)(hi:ops[i]? = some o)(h:Bo env al dec ops.toList p o σ=some (ob,σ'))(ho:A5 ob)(hal:∀q,al q=true->q<p)
  (hK:∀y a',Sim w0 F0 K as σ' y a' -> Kt a' y.w):wpOpIn (I3 ρ) 0 P ops Q i Kt a x.w:=by
 unfold wpOpIn;simp only[hi];rw[Ek] at h;split at h
 ·rename_i hw
  rw[Ew hs.t hw];simp only[if_true];unfold VG at h;split at h
  ·cases h
  ·rename_i r hr
   split at h
   ·rename_i hups
    simp only[Bool.and_eq_true] at hups;obtain ⟨hkill,hups⟩:=hups;rw[N8] at hups;have hfresh:∀q e,(q,e)∈r.ups->(if al q=true then σ.m q else none)=none->σ.m q=none:=by
     intro q e hq hv;have:=hups q e hq
     cases hm:σ.m q with
     | none=>rfl
     | some e' => simp only[hm] at this;simp [this,hm] at hv
    have hsub:∀q e,(if al q=true then σ.m q else none)=some e->σ.m q=some e:=by
     intro q e hv;split at hv
     ·exact hv
     ·cases hv
    have hp:∀q,p<=q->(if al q=true then σ.m q else none)=none:=by
     intro q hq;have:¬al q=true:=fun h=>by have:=hal q h;omega
     simp [this]
    have main:A5 r.obl->∀{Kt' : Act->World->Prop},(∀v y,Tr x r.kill y (H8 (O5 σ.m r.kill) r.ups)->B8 y r.val v->Kt' (a.put o.dst v) y.w)->o.wpIn (I3 ρ) 0 P a x.w Kt' Q:=fun hob _ hn=>
     (Yj hE (fun o=>FF hs.t o) hs.mem hsub hr hob hp hfresh).wpIn ρ (fun c hc=>by simp [I8,hc] at hr) hn
    split at h
    ·rename_i hd
     cases h
     refine main ho fun v y ht _=>hK y _ ?_
     have:=hs.step ht hkill (dst:=none) (sv:=.top) (v:=v) (nx:=σ.nx) (fun d h=>by cases h)
     rw[hd];exact this
    ·rename_i d hd
     split at h
     ·rename_i hlt
      cases hdv:O3 dec d r.val with
      | mk o' s=>
       simp only[hdv] at h
       cases h
       have ho:=D7.1 ho;refine main ho.2 fun v y ht hden=>hK y _ ?_
       have:=hs.step ht hkill (dst:=some d) (sv:=s) (v:=v) (nx:=σ.nx) (fun d' h=>by cases h;exact ⟨hlt,MM hdv ho.1 hden⟩)
       rw[hd];exact this
     ·cases h
   ·cases h
 ·rename_i hw
  rw[Ew hs.t hw];simp only[Bool.false_eq_true,if_false];refine ⟨fun f _=>DY ρ f,?_⟩
  split at h
  ·rename_i e he
   split at h
   ·rename_i hlt
    cases h
    refine hK x _ ?_
    have:=hs.step (Tr.refl hs.mem) rfl (dst:=some e) (sv:=.t []) (v:=undef) (nx:=σ.nx) (fun d' h=>by cases h;exact ⟨hlt,[],rfl,.nil⟩)
    rw[he];exact this
   ·cases h
  ·rename_i he
   cases h
   refine hK x _ ?_
   have:=hs.step (Tr.refl hs.mem) rfl (dst:=none) (sv:=.t []) (v:=undef) (nx:=σ.nx) (fun d' h=>by cases h)
   rw[he];exact this
 ·cases h
theorem Us{lo anc p q:Nat}{f:Option (List Nat)}(h:alF lo anc p f q=true):q<p∧Z0 f q=true:=by
 simp only[alF,A6n,Bool.and_eq_true] at h;exact ⟨by simpa using h.1.1,h.2⟩
theorem Fo{acc:List Nat}:∀{l:List Edge} {j:Nat},(Gs acc l).testBit j=true->∃e∈l,Region.binds .any e=true∧(j=e.on∨(acc.getD e.on 0).testBit j=true)
 | [],j,h=>by simp [Gs] at h
 | e::l,j,h=>by
  simp only[Gs] at h;split at h
  ·rename_i hb
   simp only[Nat.testBit_or,Bool.or_eq_true] at h;rcases h with (h | h) | h
   ·rw[Nat.testBit_two_pow] at h
    exact ⟨e,by simp,hb,.inl (by simpa using (of_decide_eq_true h).symm)⟩
   ·exact ⟨e,by simp,hb,.inr h⟩
   ·obtain ⟨e',he',h'⟩:=Fo h
    exact ⟨e',by simp [he'],h'⟩
  ·obtain ⟨e',he',h'⟩:=Fo h
   exact ⟨e',by simp [he'],h'⟩
theorem Qp{ft:List (Option (List Nat))}{fo:Option (List Nat)}{anc:Nat}:∀{l:List Oper} {k:Nat},LD env ops ft fo o anc l k=true->∀j x,l[j]? = some x->anc.testBit (k+j)=true∨U8 env ops (ft.getD (k+j) none) fo x o=false
 | [],_,_,j,x,h=>by simp at h
 | y::l,k,h,j,x,hx=>by
  simp only[LD,Bool.and_eq_true,Bool.or_eq_true,Bool.not_eq_true'] at h
  cases j with
  | zero=>simp only[List.getElem?_cons_zero,Option.some.injEq] at hx;subst hx;exact h.1
  | succ j=>
   simp only[List.getElem?_cons_succ] at hx;have:=Qp h.2 j x hx
   rw[show k+1+j=k+(j+1) from by omega] at this
   exact this
theorem OG{ft:List (Option (List Nat))}{anc:List Nat}:∀{l:List Oper} {k:Nat},Hu env ops anc ft l k=true->∀j x,l[j]? = some x ->
  U2 (k+j) x=true∧anc.getD (k+j) 0=DT anc x∧LD env ops ft (ft.getD (k+j) none) x (anc.getD (k+j) 0) (ops.toList.take (k+j)) 0=true
 | [],_,_,j,x,h=>by simp at h
 | y::l,k,h,j,x,hx=>by
  simp only[Hu,Bool.and_eq_true,and_assoc] at h
  cases j with
  | zero=>
   simp only[List.getElem?_cons_zero,Option.some.injEq] at hx;subst hx;exact ⟨h.1,Nat.eq_of_beq_eq_true h.2.1,h.2.2.1⟩
  | succ j=>
   simp only[List.getElem?_cons_succ] at hx;have:=OG h.2.2.2 j x hx
   rw[show k+1+j=k+(j+1) from by omega] at this
   exact this
theorem Ds{ft:List (Option (List Nat))}{kk:List (Nat×Nat)}{anc:List Nat}{lo:Nat}{i:Nat}{oi:Oper}{post:List (Nat×Oper)}:∀{pre:List (Nat×Oper)} {σ σ' : St} {ob:List Prop},
    (∀q∈pre,q.1<i∧(anc.getD i 0).testBit q.1=false∧U8 env ops (ft.getD q.1 none) (ft.getD i none) q.2 oi=false) ->
    I7 env dec ops.toList anc ft kk lo (pre++(i,oi)::post) σ=some (ob,σ')->A5 ob ->
    ∃ob1 ob2 σ1,X3 env anc kk i (alF lo (anc.getD i 0) (lo+16*i) (ft.getD i none)) (ft.getD i none) (lo+16*i) oi σ=true∧Bo env (alF lo (anc.getD i 0) (lo+16*i) (ft.getD i none)) dec ops.toList (lo+16*i) oi σ=some (ob1,σ1)∧A5 ob1∧I7 env dec ops.toList anc ft kk lo (pre++post) σ1=some (ob2,σ')∧A5 ob2
  | [],σ,σ',ob,_,h,ho=>by
    simp only[List.nil_append,I7] at h ⊢
    split at h
    · rename_i hok
      split at h
      · rename_i ob1 σ1 h1
        split at h
        · rename_i ob2 σ2 h2
          cases h
          have ho:=D7.1 ho;exact ⟨ob1,ob2,σ1,hok,h1,ho.1,h2,ho.2⟩
        · cases h
      · cases h
    · cases h
  | (j,oj)::pre,σ,σ',ob,hc,h,ho=>by
    simp only[List.cons_append,I7] at h;split at h
    · rename_i hokj
      split at h
      · rename_i obj σj hj
        split at h
        · rename_i obr σr hr
          cases h
          have ho:=D7.1 ho;obtain ⟨ob1,ob2,σ1,hoki,g1,g2,g3,g4⟩:=Ds (fun q hq=>hc q (List.mem_cons_of_mem _ hq)) hr ho.2
          obtain ⟨hlt,hbit,hcon⟩:=hc (j,oj) (by simp)
          have hcon' := hcon;simp only[U8,Bool.or_eq_false_iff,Bool.not_eq_false'] at hcon'
          obtain ⟨hap,hcl⟩:=hcon';have hno:∀q,lo+16*j<=q->q<lo+16*j+16->alF lo (anc.getD i 0) (lo+16*i) (ft.getD i none) q=false:=by
            intro q h1 h2;unfold alF A6n;have hq:(q-lo) / 16=j:=by omega
            have hb:Nat.blt q lo=false:=by
              cases hh:Nat.blt q lo with
              | false=>rfl
              | true => have : q < lo := by simpa using hh
                        omega
            rw[hq,hbit,hb];simp
          have hf:∀(k:Nat) (q:Nat),alF lo (anc.getD k 0) (lo+16*k) (ft.getD k none) q=true->Z0 (ft.getD k none) q=true:=fun k q h=>(Us h).2
          have hl:∀(k:Nat) (q:Nat),alF lo (anc.getD k 0) (lo+16*k) (ft.getD k none) q=true->q<lo+16*k:=fun k q h=>(Us h).1
          by_cases mj:D1 env oj=6
          · -- a row's growth stands ahead
            obtain ⟨s1,ups1,k6,d1,rfl⟩:=JI hj;have hcl6:FB (D1 env oi) (ft.getD j none) (ft.getD i none)=false:=by
              have e:Nat.beq (D1 env oj) 6=true:=by rw[mj];rfl
              simp only[Ov,e,if_true,Bool.or_eq_false_iff] at hcl;exact hcl.2
            obtain ⟨hle,_⟩:=Vf hcl6;obtain ⟨s2,ups2,d2,rfl⟩:=Df (by omega) (by omega) g1
            have hun:(if j<i then (anc.getD i 0).testBit j else (anc.getD j 0).testBit i)=false:=by rw[if_pos hlt];exact hbit
            have hclean:k6=none∨∃q,k6=some q∧V2 q (FO anc i kk)=true∧K3 env (FO anc i kk) (alF lo (anc.getD i 0) (lo+16*i) (ft.getD i none)) (ft.getD i none) (lo+16*i) oi (Au σ oj.dst s1 ups1 k6)=true:=by
              cases hk:k6 with
              | none=>exact .inl rfl
              | some q=>
                have hm:=PS (anc:=anc) (i:=i) (Nh mj hokj d1 q hk) hun;rw[hk] at hoki;exact .inr ⟨q,rfl,hm,Kr hle (Jy hm) hoki⟩
            obtain ⟨s0,e1,e2,e3,e4,e5⟩:=D6s (ks:=FO anc i kk) mj hap hcl6 (hf j) (hf i) (by omega) (hl j) (hl i) hno hclean d1 d2
            rw[e3] at g3;refine ⟨ob1,obj++ob2,_,Ui (by omega) e5 hoki,CU e1,g2,?_,D7.2 ⟨ho.1,g4⟩⟩
            have hokj' : X3 env anc kk j (alF lo (anc.getD j 0) (lo+16*j) (ft.getD j none)) (ft.getD j none) (lo+16*j) oj (M8 σ oi.dst s0 ups2)=true:=by
              refine BQ (fun x hx=>?_) (fun _=>e4) hokj
              refine DX (ops:=ops) (fun d hd=>?_) x hx
              simp only[M8]
              cases hdi:oi.dst with
              | none=>rfl
              | some e=>
                have:d≠e:=fun he=>(Oper.apart_spec hap).2.2 e hdi (he ▸ hd)
                simp [S3,M7,this]
            simp only[List.cons_append,I7,hokj',if_true,IV e2,g3]
          · by_cases mi:D1 env oi=6
            · obtain ⟨s2,ups2,k6,d2,rfl⟩:=JI g1
              have hcl6:FB (D1 env oj) (ft.getD j none) (ft.getD i none)=false:=by
                have e:Nat.beq (D1 env oj) 6=false:=by
                  cases hh:Nat.beq (D1 env oj) 6 with
                  | false=>rfl
                  | true=>exact absurd (Nat.eq_of_beq_eq_true hh) mj
                have e2:Nat.beq (D1 env oi) 6=true:=by rw[mi];rfl
                simp only[Ov,e,e2,if_true,Bool.false_eq_true,if_false,Bool.or_eq_false_iff] at hcl;exact hcl.2
              obtain ⟨hle,_⟩:=Vf hcl6;obtain ⟨s1,ups1,d1,rfl⟩:=Df (by omega) (by omega) hj
              have hun:(if i<j then (anc.getD j 0).testBit i else (anc.getD i 0).testBit j)=false:=by rw[if_neg (by omega)];exact hbit
              have hclean:k6=none∨∃q,k6=some q∧V2 q (FO anc j kk)=true∧K3 env (FO anc j kk) (alF lo (anc.getD j 0) (lo+16*j) (ft.getD j none)) (ft.getD j none) (lo+16*j) oj σ=true:=by
                cases hk:k6 with
                | none=>exact .inl rfl
                | some q=>
                  have hm:=PS (anc:=anc) (i:=j) (Nh mi hoki d2 q hk) hun;exact .inr ⟨q,rfl,hm,Kr hle (Jy hm) hokj⟩
              obtain ⟨e1,e2,e3,e4,e5⟩:=D6r (ks:=FO anc j kk) mi hap hcl6 (hf j) (hf i) (by omega) (hl j) (hl i) hno hclean d1 d2
              rw[e3] at g3;have hoki' : X3 env anc kk i (alF lo (anc.getD i 0) (lo+16*i) (ft.getD i none)) (ft.getD i none) (lo+16*i) oi σ=true:=by
                refine BQ (fun x hx=>?_) (fun _=>e4) hoki
                refine DX (ops:=ops) (fun d hd=>?_) x hx
                simp only[M8]
                cases hdj:oj.dst with
                | none=>rfl
                | some e=>
                  have:d≠e:=fun he=>(Oper.apart_spec hap).1 e hdj (he ▸ hd)
                  simp [S3,M7,this]
              refine ⟨ob1,obj++ob2,_,hoki',IV e1,g2,?_,D7.2 ⟨ho.1,g4⟩⟩
              simp only[List.cons_append,I7,Ui mj e5 hokj,if_true,CU e2,g3]
            · obtain ⟨n1,n2,_,_⟩:=ML (NH mj) (NH mi) hcl
              obtain ⟨s1,ups1,d1,rfl⟩:=Df n1 mj hj;obtain ⟨s2,ups2,d2,rfl⟩:=Df n2 mi g1;obtain ⟨e1,e2,e3,e4,e5⟩:=E6p mj mi hcon (hf j) (hf i) (by omega) (hl j) (hl i) hno d1 d2
              rw[e3] at g3;have hoki' : X3 env anc kk i (alF lo (anc.getD i 0) (lo+16*i) (ft.getD i none)) (ft.getD i none) (lo+16*i) oi σ=true:=by
                refine BQ (fun x hx=>?_) e4 hoki
                refine DX (ops:=ops) (fun d hd=>?_) x hx
                simp only[M8]
                cases hdj:oj.dst with
                | none=>rfl
                | some e=>
                  have:d≠e:=fun he=>(Oper.apart_spec hap).1 e hdj (he ▸ hd)
                  simp [S3,M7,this]
              have hokj' : X3 env anc kk j (alF lo (anc.getD j 0) (lo+16*j) (ft.getD j none)) (ft.getD j none) (lo+16*j) oj (M8 σ oi.dst s2 ups2)=true:=by
                refine BQ (fun x hx=>?_) e5 hokj
                refine DX (ops:=ops) (fun d hd=>?_) x hx
                simp only[M8]
                cases hdi:oi.dst with
                | none=>rfl
                | some e=>
                  have:d≠e:=fun he=>(Oper.apart_spec hap).2.2 e hdi (he ▸ hd)
                  simp [S3,M7,this]
              refine ⟨ob1,obj++ob2,_,hoki',CU e1,g2,?_,D7.2 ⟨ho.1,g4⟩⟩
              simp only[List.cons_append,I7,hokj',if_true,CU e2,g3]
        · cases h
      · cases h
    · cases h
end
end
section
section
variable {P:Program} {w0:World} {F0:Nat->Prop} {K:Kp} {as:List Act} {env:D6} {dec:List (Nat×Bool)} {ops:Array Oper} {Q:Exit->Act->World->Prop}
structure Rem(ops:Array Oper)(anc:List Nat)(c:Nat)(listed:Array Bool)(rem:List (Nat×Oper)):Prop where
 sorted:rem.Pairwise fun a b=>a.1<b.1
 there:∀i o,(i,o)∈rem->ops[i]? = some o
 small:∀i o,(i,o)∈rem->i<c
 size:listed.size=ops.size
 left:∀i,i<ops.size->(listed.getD i true=false↔(∃o,(i,o)∈rem)∨c<=i)
 closed:∀i,i<ops.size->listed.getD i false=true->∀j,(anc.getD i 0).testBit j=true->listed.getD j false=true
theorem BL{l:Array Bool}{i:Nat}:l.getD i true=false↔(i<l.size∧l.getD i false=false):=by
 rcases Nat.lt_or_ge i l.size with h | h
 ·simp [h]
 ·simp [Array.getElem?_eq_none h];omega
theorem GO{anc:List Nat}{c i:Nat}{o:Oper}{listed:Array Bool}{rem:List (Nat×Oper)}(hr:Rem ops anc c listed rem)(ha:anc.getD i 0=DT anc o)(hall:∀e∈o.after,Region.binds .any e=true->listed.getD e.on false=true):∀j,(anc.getD i 0).testBit j=true->listed.getD j false=true:=by
 intro j hj;rw[ha] at hj;obtain ⟨e,he,hb,hje⟩:=Fo hj;have hle:=hall e (Array.mem_toList_iff.1 he) hb;rcases hje with rfl | hje
 ·exact hle
 ·have:e.on<ops.size:=by
   rcases Nat.lt_or_ge e.on listed.size with hh | hh
   ·rw[<-hr.size];exact hh
   ·simp [Array.getElem?_eq_none hh] at hle
  exact hr.closed e.on this hle j hje
theorem Rem.step{anc:List Nat}{c i:Nat}{o' : Oper}{pre post:List (Nat×Oper)}{listed:Array Bool}(hr:Rem ops anc c listed (pre++(i,o')::post))(hsrt:pre.Pairwise (fun a b=>a.1<b.1)∧((i,o')::post).Pairwise (fun a b=>a.1<b.1)∧∀a∈pre,∀b∈(i,o')::post,a.1<b.1)(hlt:i<ops.size)
  (hanc:∀j,(anc.getD i 0).testBit j=true->listed.getD j false=true):Rem ops anc c (listed.setIfInBounds i true) (pre++post):=by
 have hsub:(pre++post).Sublist (pre++(i,o')::post):=List.Sublist.append (List.Sublist.refl _) (List.sublist_cons_self _ _);have hic:=hr.small i o' (by simp)
 refine ⟨hr.sorted.sublist hsub,fun j oj hj=>hr.there j oj (hsub.subset hj),fun j oj hj=>hr.small j oj (hsub.subset hj),by simp [hr.size],fun j hj=>?_,fun j hj hlj k hk=>?_⟩
 ·by_cases hji:j=i
  ·subst hji
   constructor
   ·intro h
    have hsz:j<listed.size:=by rw[hr.size];exact hj
    simp [hsz] at h
   ·rintro (⟨oj,hoj⟩ | h)
    ·exfalso
     rcases List.mem_append.1 hoj with h | h
     ·have:=hsrt.2.2 _ h (j,o') (by simp);simp only at this;omega
     ·have:=(List.pairwise_cons.1 hsrt.2.1).1 _ h;simp only at this;omega
    ·omega
  ·rw[getD_set_ne true (Ne.symm hji),hr.left j hj]
   constructor
   ·rintro (⟨oj,hoj⟩ | h)
    ·refine .inl ⟨oj,?_⟩
     rcases List.mem_append.1 hoj with h | h
     ·exact List.mem_append_left _ h
     ·rcases List.mem_cons.1 h with h | h
      ·cases h;exact absurd rfl hji
      ·exact List.mem_append_right _ h
    ·exact .inr h
   ·rintro (⟨oj,hoj⟩ | h)
    ·exact .inl ⟨oj,hsub.subset hoj⟩
    ·exact .inr h
 ·by_cases hji:j=i
  ·subst hji;exact getD_set_true (hanc k hk)
  ·rw[getD_set_ne false (Ne.symm hji)] at hlj
   exact getD_set_true (hr.closed j hj hlj k hk)
theorem C9c{F:Fence}{anc:List Nat}(hget:∀i o,ops[i]? = some o->U2 i o=true∧anc.getD i 0=DT anc o) :
  ∀(n c:Nat) (listed:Array Bool) (a:Act) (w:World),n=ops.size-c->(∀i,c<=i->i<ops.size->∀j,j<i->(anc.getD i 0).testBit j=true)->Rem ops anc c listed []->wpOpsIn F 0 P ops Q (List.range' c n) a w->wpAnyIn F 0 P .any ops Q n listed a w:=by
 intro n;induction n with
 | zero=>
  intro c listed a w hn _ hr h;refine ⟨?_,h⟩
  apply List.eq_nil_iff_forall_not_mem.2
  intro i hi;obtain ⟨h0,o,hio,_⟩:=mem_ready.1 hi;have hlt:i<ops.size:=(Array.getElem?_eq_some_iff.1 hio).1;rcases (hr.left i hlt).1 h0 with hx | h
  ·obtain ⟨o',ho'⟩:=hx;cases ho'
  ·omega
 | succ n ih=>
  intro c listed a w hn htl hr h;have hc:c<ops.size:=by omega
  have hio:ops[c]? = some ops[c]:=Array.getElem?_eq_getElem hc;have hun:∀j,j<c->listed.getD j false=true:=by
   intro j hj;have hnot:¬listed.getD j true=false:=by
    rw[hr.left j (by omega)]
    rintro (⟨o',ho'⟩ | h)
    ·cases ho'
    ·omega
   rw[BL] at hnot
   cases hh:listed.getD j false with
   | true=>rfl
   | false=>exact absurd ⟨by rw[hr.size];omega,hh⟩ hnot
  have hmem:c∈Region.ready .any ops listed:=by
   refine mem_ready.2 ⟨(hr.left c hc).2 (.inr (Nat.le_refl _)),_,hio,fun e he hb=>?_⟩
   have hedge:=(hget c _ hio).1;unfold U2 at hedge;have he' := List.all_eq_true.1 hedge e (Array.mem_toList_iff.2 he);simp only[hb,Bool.not_true,Bool.false_or] at he'
   exact hun e.on (by simpa using he')
  rw[List.range'_succ,wpOpsIn_cons] at h;refine ⟨fun hnone=>(by rw[hnone] at hmem;cases hmem),fun i hi=>?_⟩
  obtain ⟨h0,o,hio',hall⟩:=mem_ready.1 hi;have hlt:i<ops.size:=(Array.getElem?_eq_some_iff.1 hio').1;have hci:c<=i:=by
   rcases (hr.left i hlt).1 h0 with ⟨o',ho'⟩ | h
   ·cases ho'
   ·exact h
  have hic:i=c:=by
   rcases Nat.lt_or_ge c i with hh | hh
   ·exfalso
    have:=GO hr (hget i o hio').2 hall c (htl i hci hlt c hh)
    have h2:=(BL.1 ((hr.left c hc).2 (.inr (Nat.le_refl _)))).2;rw[this] at h2
    cases h2
   ·omega
  subst hic;refine wpOpIn_mono (fun a' w' h' => ih (i+1) _ a' w' (by omega) (fun j hj=>htl j (by omega)) ?_ h') h
  refine ⟨.nil,fun j oj hj=>(by cases hj),fun j oj hj=>(by cases hj),by simp [hr.size],fun j hj=>?_,fun j hj hlj k hk=>?_⟩
  ·by_cases hji:j=i
   ·subst hji
    constructor
    ·intro h
     have hsz:j<listed.size:=by rw[hr.size];exact hj
     simp [hsz] at h
    ·rintro (⟨oj,hoj⟩ | h)
     ·cases hoj
     ·omega
   ·rw[getD_set_ne true (Ne.symm hji),hr.left j hj]
    constructor
    ·rintro (⟨oj,hoj⟩ | h)
     ·cases hoj
     ·exact .inr (by omega)
    ·rintro (⟨oj,hoj⟩ | h)
     ·cases hoj
     ·exact .inr (by omega)
  ·by_cases hji:j=i
   ·subst hji;exact getD_set_true (GO hr (hget j o hio').2 hall k hk)
   ·rw[getD_set_ne false (Ne.symm hji)] at hlj
    exact getD_set_true (hr.closed j hj hlj k hk)
def B1d(env:D6)(ops:Array Oper)(anc:List Nat)(ft:List (Option (List Nat)))(sk:Nat->Bool):Prop:=
 ∀i o j x,ops[i]? = some o->ops[j]? = some x->j<i->sk i=false->sk j=false->(anc.getD i 0).testBit j=true∨U8 env ops (ft.getD j none) (ft.getD i none) x o=false
theorem A3t(ρ:Option Nat)(hE:A7 P env){ft:List (Option (List Nat))}{kk:List (Nat×Nat)}{anc:List Nat}{lo c:Nat}{σ' : St}{sk:Nat->Bool}(hget:∀i o,ops[i]? = some o->U2 i o=true∧anc.getD i 0=DT anc o)(hcf:B1d env ops anc ft sk)(htl:∀i,c<=i->i<ops.size->∀j,j<i->(anc.getD i 0).testBit j=true)
  (hK:∀y a',Sim w0 F0 K as σ' y a' -> wpOpsIn (I3 ρ) 0 P ops Q (List.range' c (ops.size-c)) a' y.w) :
  ∀(fuel:Nat) (rem:List (Nat×Oper)) (listed:Array Bool) (σ:St) (ob:List Prop) (x:C0) (a:Act),rem.length=fuel->(∀q∈rem,sk q.1=false)->Rem ops anc c listed rem->I7 env dec ops.toList anc ft kk lo rem σ=some (ob,σ')->A5 ob->Sim w0 F0 K as σ x a ->
   wpAnyIn (I3 ρ) 0 P .any ops Q (fuel+(ops.size-c)) listed a x.w:=by
 intro fuel;induction fuel with
 | zero=>
  intro rem listed σ ob x a hl hsk hr hd ho hs;have hnil:rem=[]:=List.eq_nil_of_length_eq_zero hl;subst hnil;simp only[I7,Option.some.injEq,Prod.mk.injEq] at hd;obtain ⟨_,rfl⟩:=hd;rw[Nat.zero_add];exact C9c hget _ c listed a x.w rfl htl hr (hK x a hs)
 | succ fuel ih=>
  intro rem listed σ ob x a hl hsk hr hd ho hs;rw[show fuel+1+(ops.size-c)=(fuel+(ops.size-c))+1 from by omega]
  obtain ⟨i0,o0,rest,hrem0⟩:∃i0 o0 rest,rem=(i0,o0)::rest:=by
   cases rem with
   | nil=>simp at hl
   | cons q rest=>exact ⟨q.1,q.2,rest,rfl⟩
  have hio0:ops[i0]? = some o0:=hr.there i0 o0 (by rw[hrem0];simp)
  have hlt0:i0<ops.size:=(Array.getElem?_eq_some_iff.1 hio0).1;have hi0c:i0<c:=hr.small i0 o0 (by rw[hrem0];simp)
  have hun0:listed.getD i0 true=false:=(hr.left i0 hlt0).2 (.inl ⟨o0,by rw[hrem0];simp⟩)
  refine ⟨fun hnone=>?_,fun i hi=>?_⟩
  ·exfalso
   have hmem:i0∈Region.ready .any ops listed:=by
    refine mem_ready.2 ⟨hun0,o0,hio0,fun e he hb=>?_⟩
    have hedge:=(hget i0 o0 hio0).1;unfold U2 at hedge;have he' := List.all_eq_true.1 hedge e (Array.mem_toList_iff.2 he);simp only[hb,Bool.not_true,Bool.false_or] at he'
    have hlt' : e.on<i0:=by simpa using he'
    have hnot:¬listed.getD e.on true=false:=by
     rw[hr.left e.on (by omega)]
     rintro (⟨o',ho'⟩ | h)
     ·rw[hrem0] at ho'
      have hsrt:=hr.sorted;rw[hrem0] at hsrt;rcases List.mem_cons.1 ho' with h | h
      ·cases h;omega
      ·have:=(List.pairwise_cons.1 hsrt).1 _ h
       simp only at this;omega
     ·omega
    rw[BL] at hnot;have hsz:e.on<listed.size:=by rw[hr.size];omega
    cases hh:listed.getD e.on false with
    | true=>rfl
    | false=>exact absurd ⟨hsz,hh⟩ hnot
   rw[hnone] at hmem
   cases hmem
  ·obtain ⟨h0,o,hio,hall⟩:=mem_ready.1 hi
   have hlt:i<ops.size:=(Array.getElem?_eq_some_iff.1 hio).1;have hanc:=GO hr (hget i o hio).2 hall;rcases (hr.left i hlt).1 h0 with ⟨o',ho'⟩ | hci
   case inr=>
    exfalso
    have:=hanc i0 (htl i hci hlt i0 (by omega))
    rw[(BL.1 hun0).2] at this
    cases this
   have hoo:o' = o:=by have:=hr.there i o' ho';rw[hio] at this;cases this;rfl
   subst hoo;have hic:=hr.small i o' ho';obtain ⟨pre,post,hrem⟩:=List.append_of_mem ho';clear hrem0;subst hrem;have hsrt:=List.pairwise_append.1 hr.sorted;have unlisted:∀q∈pre++(i,o')::post,listed.getD q.1 false=false:=by
    intro q hq;have hq' := hr.there q.1 q.2 hq;have hql:q.1<ops.size:=(Array.getElem?_eq_some_iff.1 hq').1;exact (BL.1 ((hr.left q.1 hql).2 (.inl ⟨q.2,hq⟩))).2
   have hpre:∀q∈pre,q.1<i∧(anc.getD i 0).testBit q.1=false∧U8 env ops (ft.getD q.1 none) (ft.getD i none) q.2 o' = false:=by
    intro q hq;have hqi:q.1<i:=hsrt.2.2 q hq (i,o') (by simp)
    have hqm:q∈pre++(i,o')::post:=List.mem_append_left _ hq;have hbit:(anc.getD i 0).testBit q.1=false:=by
     cases hh:(anc.getD i 0).testBit q.1 with
     | false=>rfl
     | true=>have:=hanc q.1 hh;rw[unlisted q hqm] at this;cases this
    refine ⟨hqi,hbit,?_⟩
    have hq' := hr.there q.1 q.2 hqm;exact (hcf i o' q.1 q.2 hio hq' hqi (hsk _ ho') (hsk q hqm)).resolve_left (by rw[hbit];simp)
   obtain ⟨ob1,ob2,σ1,_,g1,g2,g3,g4⟩:=Ds hpre hd ho;refine LG ρ hE hs hio g1 g2 (fun q h=>(Us h).1) fun y a' hs' => ?_
   have hsub:(pre++post).Sublist (pre++(i,o')::post):=List.Sublist.append (List.Sublist.refl _) (List.sublist_cons_self _ _);refine ih (pre++post) _ σ1 ob2 y a' (by simp only[List.length_append,List.length_cons] at hl ⊢;omega) (fun q hq=>hsk q (hsub.subset hq)) (hr.step hsrt hlt hanc) g3 g4 hs'
theorem CM:∀{l:List Oper} {k i:Nat} {o:Oper},(i,o)∈X4 k l↔k<=i∧l[i-k]? = some o
 | [],k,i,o=>by simp [X4]
 | x::l,k,i,o=>by
  simp only[X4,List.mem_cons,Prod.mk.injEq,CM (l:=l)];constructor
  ·rintro (⟨rfl,rfl⟩ | ⟨h1,h2⟩)
   ·simp
   ·refine ⟨by omega,?_⟩
    rw[show i-k=(i-(k+1))+1 from by omega,List.getElem?_cons_succ];exact h2
  ·rintro ⟨h1,h2⟩
   by_cases hik:i=k
   ·subst hik;simp at h2;exact .inl ⟨rfl,h2.symm⟩
   ·right
    refine ⟨by omega,?_⟩
    rw[show i-k=(i-(k+1))+1 from by omega,List.getElem?_cons_succ] at h2;exact h2
theorem Hl:∀(l:List Oper) (k:Nat),(X4 k l).Pairwise fun a b=>a.1<b.1
 | [],_=>.nil
 | x::l,k=>by
  simp only[X4,List.pairwise_cons];refine ⟨fun q hq=>?_,Hl l (k+1)⟩
  obtain ⟨i,o⟩:=q;have:=(CM.1 hq).1
  simp only;omega
theorem ID:∀(l:List Oper) (k:Nat),(X4 k l).length=l.length
 | [],_=>rfl
 | _::l,k=>by simp [X4,ID l]
theorem Rem.all(anc:List Nat)(c:Nat):Rem ops anc c (Array.replicate ops.size false) (X4 0 (ops.toList.take c)) where
 sorted:=Hl _ _
 there i o h:=by
  have:=(CM.1 h).2
  rw[Nat.sub_zero,List.getElem?_take] at this;split at this
  ·simpa using this
  ·cases this
 small i o h:=by
  have:=(CM.1 h).2
  rw[Nat.sub_zero,List.getElem?_take] at this;split at this
  ·assumption
  ·cases this
 size:=by simp
 left i hi:=by
  constructor
  ·intro _
   rcases Nat.lt_or_ge i c with h | h
   ·exact .inl ⟨ops[i],CM.2 ⟨Nat.zero_le _,by rw[Nat.sub_zero,List.getElem?_take_of_lt h];simp [hi]⟩⟩
   ·exact .inr h
  ·intro _;simp [hi]
 closed i hi h:=by simp [hi] at h
theorem NQ{x:C0}{m:Nat->Option En}(h:P0 x m):Tr x none { x with w:={ x.w with drawn:=x.w.drawn+1 } } m:=by
 have hx:Ext x { x with w:={ x.w with drawn:=x.w.drawn+1 } }:=⟨Nat.le_refl _,fun _ h=>⟨h,rfl⟩,fun _ _=>rfl,fun _ _=>rfl,fun _ _ cs _ h=>⟨cs,h,rfl⟩⟩
 refine ⟨hx,⟨h.dom,h.fl,h.nil,fun p e hp hr=>?_,h.inj,h.own,h.fw⟩,rfl,rfl,rfl,fun _ _ _=>rfl,fun _ hp=>.inl ⟨hp,rfl⟩,fun _ hb=>.inl hb⟩
 obtain ⟨cs,ty,hc,hd⟩:=h.ent p e hp hr;exact ⟨cs,ty,hc,K8 hx hd⟩
theorem Sim.drew{σ:St}{x:C0}{a:Act}(h:Sim w0 F0 K as σ x a):Sim w0 F0 K as σ { x with w:={ x.w with drawn:=x.w.drawn+1 } } a:=
 ⟨h.defers,h.nt,fun t=>Ba (NQ h.mem).ext (h.t t),(NQ h.mem).mem,h.base.tr (NQ h.mem) rfl,h.frs.ext (NQ h.mem).ext⟩
def wpL(P:Program)(ρ:Option Nat)(c:Code)(Q:Exit->Act->World->Prop)(a:Act)(w:World):Prop:=
 ∀(b:Frame) (k:List Item) (cs:List Frame),b.roundOf=ρ->∃e a' w',Q e a' w' ∧ ArrivesIn (Machine.fenced P (I3 ρ)) P (lone (b.atR a (.code c :: .inLoop c::k)) cs w) b k cs e a' w'
theorem ME{ρ:Option Nat}{c:Code}{a:Act}{w:World}(h:wpL P ρ c Q a w):(Code.loop c).wpIn (I3 ρ) 0 P Q a w:=by
 intro b k cs hro hb hr;obtain ⟨e,a',w',hq,harr⟩:=h b k cs (hro.trans (Je ρ));exact ⟨e,a',w',hq,.of_steps (.one (fenced_calm hb hr rfl) stepR_loop) harr⟩
theorem EX{ρ:Option Nat}{c:Code}{a:Act}{w:World}(h:c.wpIn (I3 ρ) 0 P (Exit.then (wpL P ρ c Q) Q) a w):wpL P ρ c Q a w:=by
 intro b k cs hro;have hro' : b.roundOf=(I3 ρ).round:=hro.trans (Je ρ).symm;have hb:=DY ρ b.fn;have hr:=Xm ρ (cs.length+1+0);obtain ⟨e,a₁,w₁,hq,harr⟩:=h b (.inLoop c::k) cs hro' hb hr
 cases e with
 | normal=>
  obtain ⟨e₂,a₂,w₂,hq₂,harr₂⟩:=hq b k cs hro;exact ⟨e₂,a₂,w₂,hq₂,.of_steps (StepsIn.trans harr (.one (fenced_calm hb hr rfl) stepR_inLoop)) harr₂⟩
 | exit id=>exact ⟨_,a₁,w₁,hq,.pass (x:=.inLoop c) rfl (fun _ _=>.inl (by simp)) harr⟩
 | goto l=>exact ⟨_,a₁,w₁,hq,.pass (x:=.inLoop c) rfl (fun _ _=>.inl (by simp)) harr⟩
 | ret=>exact ⟨_,a₁,w₁,hq,.pass (x:=.inLoop c) rfl (fun _ _=>.inl (by simp)) harr⟩
 | panic ch=>exact ⟨_,a₁,w₁,hq,.pass (x:=.inLoop c) rfl (fun _ _=>.inl (by simp)) harr⟩
 | outgrown=>exact ⟨_,a₁,w₁,hq,.pass (x:=.inLoop c) rfl (fun _ _=>.inl (by simp)) harr⟩
def Bz:List KI->Bool
 | []=>false
 | .fr _ _ _::_=>true
 | .code _::k=>Bz k
 | .blk _::k=>Bz k
 | .lp _::k=>Bz k
 | .ops _ _ _::k=>Bz k
 | .any _ _ _::k=>Bz k
def O1(ρ:Option Nat)(k:List KI):Option Nat:=if Bz k then none else ρ
def wpK(P:Program)(Q:Exit->Act->World->Prop)(ρ:Option Nat):List KI->List Act->Exit->Act->World->Prop
 | [],_=>Q
 | .code c::k,as=>Exit.then (c.wpIn (I3 (O1 ρ k)) 0 P (wpK P Q ρ k as)) (wpK P Q ρ k as)
 | .blk id::k,as=>Exit.inBlock id (wpK P Q ρ k as)
 | .lp c::k,as=>Exit.then (wpL P (O1 ρ k) c (wpK P Q ρ k as)) (wpK P Q ρ k as)
 | .ops l i _::k,as=>Exit.then (wpOpsIn (I3 (O1 ρ k)) 0 P l (wpK P Q ρ k as) (List.range' i (l.size-i))) (wpK P Q ρ k as)
 | .any l _ rem::k,as=>Exit.then (fun a w=>∀listed,Rem l (AA l.toList []) l.size listed rem->wpAnyIn (I3 (O1 ρ k)) 0 P .any l (wpK P Q ρ k as) rem.length listed a w) (wpK P Q ρ k as)
 | .fr fn dst _::k,aS::as=>fun e a w=>(e = .ret∨e = .normal)∧a.defers=[]∧∃v,(results fn a.tmps).run P w = .ok v w∧wpK P Q ρ k as .normal (aS.put dst v) w
 | .fr _ _ _::_,[]=>fun _ _ _=>False
end
end
section
section
variable {P:Program} {w0:World} {F0:Nat->Prop} {K:Kp} {as:List Act} {env:D6} {Q:Exit->Act->World->Prop} {x:C0} {a:Act}
theorem Sim.nx{σ:St}(h:Sim w0 F0 K as σ x a)(n:Nat):Sim w0 F0 K as { σ with nx:=n } x a:=⟨h.defers,h.nt,h.t,h.mem,h.base,h.frs⟩
theorem Vk{m:Nat->Option En}{s:SV}{i:TyI}{r:List Prop×V1}{v:Value}(h:GL m s i=some r)(hd:B8 x s v):∃ad,v = .pointer (some ad):=by
 unfold GL at h;split at h
 ·exact ⟨_,(GX hd).2⟩
 ·exact ⟨_,(A6l hd).2⟩
 ·obtain ⟨b,o,cs,d,rfl,_⟩:=B1c hd;exact ⟨_,rfl⟩
 ·cases h
def B9r(tmps:Array Value):ResultVar->Sem Value
 | .tmp t=>pure (tmps.getD t undef)
 | .cell ad t=>asAddr (tmps.getD ad undef) >>= loadVar t
theorem A1r(fn:Func)(tmps:Array Value):results fn tmps=(fn.results.mapM (B9r tmps)) >>= fun vs=>pure (if h:vs.size=1 then vs[0] else .tuple vs):=rfl
theorem Ge(hE:A7 P env){σ:St}(hm:P0 x σ.m)(ht:∀t,B8 x (σ.t t) (a.tmps.getD t undef)):∀{l:List ResultVar} {o:List Prop} {r:List V1},Hh env σ l=some (o,r)->A5 o ->
  ∃vs,(l.mapM (B9r a.tmps)).run P x.w = .ok vs x.w∧DV x r vs
 | [],o,r,h,_=>by simp [Hh] at h;obtain ⟨_,rfl⟩:=h;exact ⟨[],by simp,.nil⟩
 | .tmp t::l,o,r,h,ho=>by
  simp only[Hh] at h;split at h
  ·rename_i v o' r' hv hl
   cases h
   have hd:=ht t;rw[hv] at hd;obtain ⟨vs,hr,hvs⟩:=Ge hE hm ht hl ho;refine ⟨_::vs,?_,.cons hd hvs⟩
   rw[List.mapM_cons];simp only[B9r,Sem.run_bind,Sem.run_pure,Result.andThen_ok,hr]
  ·cases h
 | .cell ad t::l,o,r,h,ho=>by
  simp only[Hh] at h;split at h
  ·rename_i i hi
   split at h
   ·rename_i o1 v o2 r' hv hl
    cases h
    have ho:=D7.1 ho;obtain ⟨u,hu,hdu⟩:=He (hE.ty t i hi) hm (fun _ _ h=>h) (ht ad) hv ho.1
    obtain ⟨adr,hadr⟩:=Vk hv (ht ad);obtain ⟨vs,hr,hvs⟩:=Ge hE hm ht hl ho.2;refine ⟨u::vs,?_,.cons hdu hvs⟩
    rw[List.mapM_cons];rw[hadr] at hu;have hlv:(loadVar t adr).run P x.w = .ok u x.w:=by simpa [Instr.loadAt,Instr.sureAddr] using hu
    have hcell:(B9r a.tmps (.cell ad t)).run P x.w = .ok u x.w:=by
     simp only[B9r,hadr,asAddr,Sem.run_bind,Sem.run_pure,Result.andThen_ok,hlv]
    simp only[Sem.run_bind,Sem.run_pure,Result.andThen_ok,hcell,hr]
   ·cases h
  ·cases h
theorem S5(hE:A7 P env){σ:St}{fn:Func}(hm:P0 x σ.m)(ht:∀t,B8 x (σ.t t) (a.tmps.getD t undef)){o:List Prop}{r:List V1}(h:Hh env σ fn.results.toList=some (o,r))(ho:A5 o) :
  ∃v,(results fn a.tmps).run P x.w = .ok v x.w∧B8 x (Ul r) v:=by
 obtain ⟨vs,hr,hvs⟩:=Ge hE hm ht h ho;have hlen:∀{r:List V1} {vs:List Value},DV x r vs->vs.length=r.length:=by
  intro r vs h;induction h with
  | nil=>rfl
  | cons _ _ ih=>simp [ih]
 have hl:=hlen hvs;refine ⟨if h:vs.toArray.size=1 then vs.toArray[0] else .tuple vs.toArray,?_,?_⟩
 ·rw[A1r,Array.mapM_eq_mapM_toList]
  simp only[Sem.run_bind,Sem.run_map,hr];rfl
 ·unfold Ul
  split
  ·cases hvs with
   | cons h1 h2=>
    cases h2
    exact h1
  ·rename_i hne
   have h1:¬vs.toArray.size=1:=by
    intro h;simp only[List.size_toArray] at h;rw[hl] at h;match r,h with
    | [v],_=>exact hne v rfl
   rw[dif_neg h1];exact ⟨vs,rfl,hvs⟩
theorem Xh{ops:Array Oper}{anc:List Nat}{ft:List (Option (List Nat))}(hok:Hu env ops anc ft ops.toList 0=true):(∀i o,ops[i]? = some o->U2 i o=true∧anc.getD i 0=DT anc o)∧B1d env ops anc ft fun _=>false:=by
 have hget:∀i o,ops[i]? = some o->U2 i o=true∧anc.getD i 0=DT anc o∧LD env ops ft (ft.getD i none) o (anc.getD i 0) (ops.toList.take i) 0=true:=by
  intro i o hi;have:=OG hok i o (by simpa using hi)
  simpa using this
 refine ⟨fun i o h=>⟨(hget i o h).1,(hget i o h).2.1⟩,fun i o j x hi hj hlt _ _=>?_⟩
 have:=Qp (hget i o hi).2.2 j x (by rw[List.getElem?_take_of_lt hlt];simpa using hj)
 simpa using this
theorem MU{ops:Array Oper}{o:Oper}{anc ex:Nat}:∀{l:List Oper} {k:Nat},JG env ops ex o anc l k=true->∀j x,l[j]? = some x->k+j=ex∨anc.testBit (k+j)=true∨U8 env ops none none x o=false
 | [],_,_,j,x,h=>by simp at h
 | y::l,k,h,j,x,hj=>by
  simp only[JG,Bool.and_eq_true,Bool.or_eq_true,Bool.not_eq_true'] at h
  cases j with
  | zero=>
   simp only[List.getElem?_cons_zero,Option.some.injEq] at hj;subst hj;rcases h.1 with (h1 | h1) | h1
   ·exact .inl (Nat.eq_of_beq_eq_true h1)
   ·exact .inr (.inl h1)
   ·exact .inr (.inr h1)
  | succ j=>
   simp only[List.getElem?_cons_succ] at hj;have:=MU h.2 j x hj
   rw[show k+1+j=k+(j+1) from by omega] at this
   exact this
theorem FC{ops:Array Oper}{anc:List Nat}{ex:Nat}:∀{l:List Oper} {k:Nat},CV env ops anc ex l k=true->∀j x,l[j]? = some x ->
  U2 (k+j) x=true∧anc.getD (k+j) 0=DT anc x∧(k+j=ex∨JG env ops ex x (anc.getD (k+j) 0) (ops.toList.take (k+j)) 0=true)
 | [],_,_,j,x,h=>by simp at h
 | y::l,k,h,j,x,hj=>by
  simp only[CV,Bool.and_eq_true,Bool.or_eq_true] at h
  cases j with
  | zero=>
   simp only[List.getElem?_cons_zero,Option.some.injEq] at hj;subst hj;refine ⟨h.1.1.1,Nat.eq_of_beq_eq_true h.1.1.2,?_⟩
   rcases h.1.2 with h1 | h1
   ·exact .inl (Nat.eq_of_beq_eq_true h1)
   ·exact .inr h1
  | succ j=>
   simp only[List.getElem?_cons_succ] at hj;have:=FC h.2 j x hj
   rw[show k+1+j=k+(j+1) from by omega] at this
   exact this
theorem IX{ops:Array Oper}{anc:List Nat}{ex:Nat}(hok:CV env ops anc ex ops.toList 0=true):(∀i o,ops[i]? = some o->U2 i o=true∧anc.getD i 0=DT anc o)∧B1d env ops anc [] fun i=>Nat.beq i ex:=by
 refine ⟨fun i o h=>?_,fun i o j x hi hj hlt hsi hsj=>?_⟩
 ·have:=FC hok i o (by simpa using h)
  rw[Nat.zero_add] at this;exact ⟨this.1,this.2.1⟩
 ·have:=FC hok i o (by simpa using hi)
  rw[Nat.zero_add] at this;have h1:i≠ex:=fun e=>by rw[e] at hsi;simp at hsi
  have h2:j≠ex:=fun e=>by rw[e] at hsj;simp at hsj
  have:=MU (this.2.2.resolve_left h1) j x (by rw[List.getElem?_take_of_lt hlt];simpa using hj)
  rw[Nat.zero_add] at this;exact this.resolve_left h2
theorem Dj{ρ:Option Nat}(hE:A7 P env){k:List KI}{σ σ' : St}{id c:Nat}{ops:Array Oper}{dec:List (Nat×Bool)}{ob:List Prop}{ft:List (Option (List Nat))}{kk:List (Nat×Nat)}(hok:Hu env ops (AA ops.toList []) ft ops.toList 0=true)(hc:c<=ops.size)
  (htl:∀i,c<=i->i<ops.size->∀j,j<i->((AA ops.toList []).getD i 0).testBit j=true)
  (hd:I7 env dec ops.toList (AA ops.toList []) ft kk σ.nx (X4 0 (ops.toList.take c)) σ=some (ob,σ')) (ho:A5 ob) (hs:Sim w0 F0 K as σ x a) (hK:∀y a',Sim w0 F0 K as { σ' with nx:=σ.nx+16*ops.size } y a' -> wpOpsIn (I3 (O1 ρ k)) 0 P ops (wpK P Q ρ k as) (List.range' c (ops.size-c)) a' y.w) :
  (Code.region id ops true).wpIn (I3 (O1 ρ k)) 0 P (wpK P Q ρ k as) a x.w:=by
 refine wpIn_region_any hE.mixed ?_
 obtain ⟨hget,hcf⟩:=Xh hok;have:=A3t (O1 ρ k) (x:={ x with w:={ x.w with drawn:=x.w.drawn+1 } }) hE hget hcf htl (fun y a' h=>hK y a' (h.nx _)) c (X4 0 (ops.toList.take c)) _ σ ob a (by rw[ID,List.length_take];simp;omega) (fun _ _=>rfl) (Rem.all _ _) hd ho hs.drew
 rwa [show c+(ops.size-c)=ops.size from by omega] at this
theorem OC:∀(l:List (Nat×Oper)),(KP env l).1++(KP env l).2=l
 | []=>rfl
 | q::l=>by
  simp only[KP];split
  ·rfl
  ·have:=OC l
   simp only[List.cons_append,this]
theorem YQ:∀{l:List (Nat×Oper)} {c n:Nat},l.Pairwise (fun a b=>a.1<b.1)->(∀q∈l,c<=q.1∧q.1<n)->l.length=n-c->∀i,c<=i->i<n->∃o,(i,o)∈l
 | [],c,n,_,_,hl,i,h1,h2=>by simp at hl;omega
 | q::l,c,n,hs,hb,hl,i,h1,h2=>by
  have hs' := List.pairwise_cons.1 hs;have hq:=hb q (by simp)
  have hb2:∀r∈l,c+1<=r.1∧r.1<n:=fun r hr=>by
   have h3:=hs'.1 r hr;have:=hb r (by simp [hr])
   omega
  simp only[List.length_cons] at hl;by_cases hi:i=c
  ·by_cases hqc:q.1=c
   ·exact ⟨q.2,by rw[hi,<-hqc];simp⟩
   ·exfalso
    have hle:∀{l:List (Nat×Oper)} {c n:Nat},l.Pairwise (fun a b=>a.1<b.1)->(∀q∈l,c<=q.1∧q.1<n)->l.length<=n-c:=by
     intro l;induction l with
     | nil=>intros;simp
     | cons r l ih=>
      intro c n hs hb;have hs' := List.pairwise_cons.1 hs;have h1:=hb r (by simp)
      have:=ih (c:=r.1+1) (n:=n) hs'.2 fun t ht=>⟨hs'.1 t ht,(hb t (by simp [ht])).2⟩
      simp only[List.length_cons];omega
    have:=hle (c:=q.1+1) (n:=n) hs'.2 fun t ht=>⟨hs'.1 t ht,(hb t (by simp [ht])).2⟩
    omega
  ·obtain ⟨o,ho⟩:=YQ hs'.2 hb2 (by omega) i (by omega) h2
   exact ⟨o,by simp [ho]⟩
theorem Re{anc:List Nat}{n c:Nat}(h:Wz anc n c=true):c<=n∧∀i,c<=i->i<n->∀j,j<i->(anc.getD i 0).testBit j=true:=by
 unfold Wz at h;simp only[Bool.and_eq_true] at h;refine ⟨Nat.le_of_ble_eq_true h.1,fun i hi hn j hj=>?_⟩
 have h2:=List.all_eq_true.1 h.2 i (List.mem_range.2 hn);rw[Bool.or_eq_true] at h2;rcases h2 with h2 | h2
 ·have:i<c:=by simpa using h2
  omega
 ·exact List.all_eq_true.1 h2 j (List.mem_range.2 hj)
theorem YN{ρ:Option Nat}(hE:A7 P env){unroll:Bool}{k:List KI}{σ:St}{path:List Bool}{c:Code}{out:Out}(h:YM env unroll k σ path c=some out)(ho:A5 out.obl)(hs:Sim w0 F0 K as σ x a)
  (hK:∀y a',Sim w0 F0 K as out.cfg.σ y a' -> wpK P Q ρ out.cfg.k as out.cfg.x a' y.w):c.wpIn (I3 (O1 ρ k)) 0 P (wpK P Q ρ k as) a x.w:=by
 unfold YM at h;split at h
 ·cases h;exact wpIn_skip (hK x a hs)
 ·cases h;exact wpIn_seq (hK x a hs)
 ·cases h;exact wpIn_block (hK x a hs)
 ·split at h
  ·cases h;exact ME (EX (hK x a hs))
  ·cases h
 ·cases h;exact wpIn_exit (hK x a hs)
 ·cases h;exact wpIn_ret (hK x a hs)
 ·rename_i o c1 c2
  have hd:=FF hs.t o;split at h
  ·rename_i d hv
   cases h
   rw[hv] at hd;have:=hK x a hs
   refine wpIn_cond (WN hd) ?_
   cases d<;>exact this
  ·rename_i b hv
   split at h
   ·rename_i d path'
    cases h
    obtain ⟨rfl,_⟩:=ho;rw[hv] at hd;have:=hK x a hs
    refine wpIn_cond (NS hd) ?_
    cases b<;>exact this
   ·cases h
  ·cases h
 ·rename_i id ops draw
  split at h
  ·cases h
  ·rename_i dec path' _
   split at h
   ·rename_i hdraw
    subst hdraw;dsimp only at h;split at h
    ·rename_i hok
     split at h
     ·split at h
      ·rename_i ob σ' hd
       cases h
       refine Dj (c:=ops.size) hE hok (Nat.le_refl _) (fun i h1 h2=>absurd h2 (by omega)) (by rwa [List.take_of_length_le (by simp)]) ho hs fun y a' hs' => ?_
       rw[Nat.sub_self];exact hK y a' hs'
      ·cases h
     ·split at h
      ·rename_i c hca htl
       split at h
       ·rename_i ob σ' hd
        cases h
        obtain ⟨h1,h2⟩:=Re htl;exact Dj hE hok h1 h2 hd ho hs hK
       ·cases h
      ·cases h
    ·cases h
   ·rename_i hdraw
    cases h
    have hdf:draw=false:=by simpa using hdraw
    subst hdf;have:=hK x a hs
    refine wpIn_region ?_
    rw[List.range_eq_range'];exact this
 ·cases h
theorem ZN(ops:List Oper)(o:Oper)(t:Nat->SV):UT ops o t=J6 ops o t:=rfl
theorem XE(hE:A7 P env){σ:St}{o:Oper}{fn:Func}{b:Code}{args:List SV}(hs:Sim w0 F0 K as σ x a)(h:XD env σ o=some (fn,b,args)) :
  ∃g vs,P.funcs[g]? = some fn∧fn.body=some b∧J7 x args vs∧(execOp a.eval o).run P x.w = .ok (.enter g vs.toArray) x.w:=by
 unfold XD at h;split at h
 ·rename_i c hop
  split at h
  ·rename_i f hcal
   split at h
   ·rename_i g caps hf
    split at h
    ·rename_i fn' _ _ hin
     split at h
     ·rename_i b' hb
      cases h
      obtain ⟨hfn,hent⟩:=hE.inl g fn hin;have hρ:∀o,B8 x (σ.ev o) (a.eval o):=fun o=>FF hs.t o
      have hd:=hρ f;rw[hf] at hd;obtain ⟨hk,hv⟩:=NT hd;refine ⟨g,_,hfn,hb,EE (P6 hρ c.args.toList) (Ss caps hk),?_⟩
      have hargs:(c.args.toList.map a.eval++caps.map fun c=>Value.pointer (some ⟨x.β c.1,c.2,none⟩)).toArray=c.args.map a.eval++(caps.map fun c=>Value.pointer (some ⟨x.β c.1,c.2,none⟩)).toArray:=by
       apply Array.toList_inj.1;simp
      rw[hargs];have he:=hent (c.args.map a.eval++(caps.map fun c=>Value.pointer (some ⟨x.β c.1,c.2,none⟩)).toArray) x.w
      simp only[execOp,hop,resolve,hcal,Deferred.ofValue,hv,Sem.run_bind,Sem.run_pure,Result.andThen_ok,invoke];simpa using he
     ·cases h
    ·cases h
   ·cases h
  ·cases h
 ·cases h
theorem ZR{σ:St}{o:Oper}{r:Func×Code×List SV}(h:XD env σ o=some r):∀c,o.op ≠ .defer c:=by
 intro c hc;unfold XD at h;rw[hc] at h
 cases h
theorem Jg{ρ:Option Nat}(hE:A7 P env){σ σ' : St}{fn:Func}{dst:Option Nat}{dec:List (Nat×Bool)}{ob:List Prop}{k:List KI}(h:UR env σ fn dst dec=some (ob,σ'))(ho:A5 ob)(hs:Sim w0 F0 K as σ x a)
  (hK:∀as' a',(∃b,as=b::as')->Sim w0 F0 K as' σ' x a' -> wpK P Q ρ k as' .normal a' x.w) {e:Exit} (he:e = .ret∨e = .normal):wpK P Q ρ (.fr fn dst dec::k) as e a x.w:=by
 unfold UR at h;split at h
 ·rename_i ob1 r tS ntS fr hres hfr
  have hfrs:=hs.frs;have hdf:=hs.defers;rw[hfr] at hfrs hdf
  cases hfrs with
  | cons h1 h2 h3 h4=>
   rename_i aS as'
   split at h
   ·cases h
    obtain ⟨v,hv,hdv⟩:=S5 hE hs.mem hs.t hres ho;exact ⟨he,hdf,v,hv,hK as' (aS.put none v) ⟨aS,rfl⟩ ⟨h1,h2,h3,hs.mem,hs.base,h4⟩⟩
   ·rename_i d
    split at h
    ·rename_i hlt
     cases hdv:O3 dec d (Ul r) with
     | mk o' s=>
      simp only[hdv] at h
      cases h
      have ho:=D7.1 ho;obtain ⟨v,hv,hden⟩:=S5 hE hs.mem hs.t hres ho.2;refine ⟨he,hdf,v,hv,hK as' (aS.put (some d) v) ⟨aS,rfl⟩ ⟨h1,by simp [Act.put,h2],fun t=>?_,hs.mem,hs.base,h4⟩⟩
      simp only[Act.put];rw[Pz _ _ _ _ (by rw[h2];exact hlt)]
      by_cases htd:t=d
      ·subst htd;simp only[M7,if_true];exact MM hdv ho.1 hden
      ·simp only[M7,htd,if_false];exact h3 t
    ·cases h
 ·cases h
theorem AX{args:List SV}{vs:List Value}(h:J7 x args vs)(n:Nat):∀t,B8 x (Hm args t) ((vs.toArray++Array.replicate n undef).getD t undef):=by
 induction h with
 | nil=>intro t;trivial
 | cons h1 _ ih=>
  intro t
  cases t with
  | zero=>simpa [Hm,Array.getElem?_append] using h1
  | succ t=>
   have:=ih t
   simpa [Hm,Array.getElem?_append] using this
theorem Gu{args:List SV}{vs:List Value}(h:J7 x args vs):vs.length=args.length:=by
 induction h with
 | nil=>rfl
 | cons _ _ ih=>simp [ih]
def nfr:List KI->Nat
 | []=>0
 | .fr _ _ _::k=>nfr k+1
 | _::k=>nfr k
theorem B0j{unroll:Bool}{k:List KI}{σ:St}{path:List Bool}{c:Code}{out:Out}(h:YM env unroll k σ path c=some out):nfr out.cfg.k=nfr k:=by
 unfold YM at h;split at h
 ·cases h;rfl
 ·cases h;rfl
 ·cases h;rfl
 ·split at h
  ·cases h;rfl
  ·cases h
 ·cases h;rfl
 ·cases h;rfl
 ·split at h
  ·cases h;rfl
  ·split at h
   ·cases h;rfl
   ·cases h
  ·cases h
 ·split at h
  ·cases h
  ·split at h
   ·dsimp only at h
    split at h
    ·split at h
     ·split at h
      ·cases h;rfl
      ·cases h
     ·split at h
      ·split at h
       ·cases h;rfl
       ·cases h
      ·cases h
    ·cases h
   ·cases h;rfl
 ·cases h
theorem Ni{ρ:Option Nat}(hE:A7 P env){unroll:Bool}{c:G5}{path:List Bool}{out:Out}(h:step env unroll c path=some out)(ho:A5 out.obl)(hs:Sim w0 F0 K as c.σ x a)
  (hK:∀as' y a',as'.drop (nfr out.cfg.k)=as.drop (nfr c.k)->Sim w0 F0 K as' out.cfg.σ y a' -> wpK P Q ρ out.cfg.k as' out.cfg.x a' y.w):wpK P Q ρ c.k as c.x a x.w:=by
 unfold step at h;split at h
 ·rename_i c' k hx hk
  rw[hx,hk];rw[hk] at hK;exact YN hE h ho hs fun y a' hs' => hK as y a' (by rw[B0j h];rfl) hs'
 ·rename_i id k hx hk
  rw[hx,hk];rw[hk] at hK
  cases h
  exact hK as x a rfl hs
 ·rename_i c' k hx hk
  rw[hx,hk];rw[hk] at hK;split at h
  ·cases h;exact EX (hK as x a rfl hs)
  ·cases h
 ·rename_i ops i dec k hx hk
  rw[hx,hk];rw[hk] at hK;show wpOpsIn (I3 (O1 ρ k)) 0 P ops (wpK P Q ρ k as) (List.range' i (ops.size-i)) a x.w;split at h
  ·rename_i o hi
   have hlt:i<ops.size:=(Array.getElem?_eq_some_iff.1 hi).1;rw[show ops.size-i=(ops.size-(i+1))+1 from by omega,List.range'_succ,wpOpsIn_cons]
   split at h
   ·rename_i fn b args hin hw
    split at h
    ·rename_i hle
     cases h
     obtain ⟨g,vs,hfn,hb,hden,hrun⟩:=XE hE hs hin;have hw' : J6 ops.toList o c.σ.t=some true:=by
      rw[ZN] at hw
      cases hh:J6 ops.toList o c.σ.t with
      | none=>rw[hh] at hw;cases hw
      | some b=>rw[hh] at hw;simp only[XG] at hw;rw[hw]
     unfold wpOpIn;simp only[hi,Ew hs.t hw',if_true];refine ⟨fun f _=>DY _ f,?_⟩
     rw[Oper.semAt_eq _ _ _ (ZR hin),hrun];refine ⟨An _ 0,UD _ (calls_of_wp hfn hb ?_)⟩
     have hlen:=Gu hden;have hle' := Nat.le_of_ble_eq_true hle;have:=hK (a::as) x { tmps:=vs.toArray++Array.replicate (fn.ntmps-vs.toArray.size) undef,defers:=[] } rfl
      ⟨rfl,by simp;omega,AX hden _,hs.mem,hs.base,.cons hs.defers hs.nt hs.t hs.frs⟩
     refine wp_mono (wpIn_wide.1 this) fun e a1 w1 hq=>?_
     obtain ⟨he,hdf,v,hv,hk'⟩:=hq;rcases he with rfl | rfl
     ·exact ⟨hdf,v,hv,hk'⟩
     ·exact ⟨hdf,v,hv,hk'⟩
    ·cases h
   ·split at h
    ·rename_i ob σ' hop
     cases h
     exact LG _ hE hs hi hop ho (fun q h=>by simpa using h) fun y a' hs' => hK as y a' rfl (hs'.nx _)
    ·cases h
  ·rename_i hi
   cases h
   have:ops.size-i=0:=by have:=Array.getElem?_eq_none_iff.1 hi;omega
   rw[this];exact hK as x a rfl hs
 ·rename_i ops ex rem k hx hk
  rw[hx,hk];rw[hk] at hK;dsimp only at h;generalize hcut:KP env rem=cr at h;obtain ⟨pre,post⟩:=cr;dsimp only at h;split at h
  ·rename_i hc
   split at h
   ·rename_i ob σ' hd
    cases h
    simp only[Bool.and_eq_true,Nat.beq_eq] at hc;obtain ⟨hok,htl,⟨_,hpre⟩,hlen⟩:=hc;have happ:pre++post=rem:=by have:=OC (env:=env) rem;rw[hcut] at this;exact this
    show (fun a w=>∀listed,Rem ops (AA ops.toList []) ops.size listed rem->wpAnyIn (I3 (O1 ρ k)) 0 P .any ops (wpK P Q ρ k as) rem.length listed a w) a x.w
    intro listed hr;obtain ⟨hget,hcf⟩:=IX hok;obtain ⟨h1,h2⟩:=Re htl;have hpre' : ∀q∈pre,q.1<FZ ops.size post∧Nat.beq q.1 ex=false:=fun q hq=>by
     have:=List.all_eq_true.1 hpre q hq
     simp only[Bool.and_eq_true,Bool.not_eq_true'] at this;exact ⟨by simpa using this.1,this.2⟩
    subst happ;have hsrt:=List.pairwise_append.1 hr.sorted;have hpost:∀q∈post,FZ ops.size post<=q.1∧q.1<ops.size:=by
     intro q hq;refine ⟨?_,(Array.getElem?_eq_some_iff.1 (hr.there q.1 q.2 (List.mem_append_right _ hq))).1⟩
     cases post with
     | nil=>cases hq
     | cons r l=>
      rcases List.mem_cons.1 hq with rfl | hq
      ·exact Nat.le_refl _
      ·exact Nat.le_of_lt ((List.pairwise_cons.1 hsrt.2.1).1 q hq)
    have hr2:Rem ops (AA ops.toList []) (FZ ops.size post) listed pre:=by
     refine ⟨hsrt.1,fun i o h=>hr.there i o (List.mem_append_left _ h),fun i o h=>(hpre' _ h).1,hr.size,fun i hi=>?_,hr.closed⟩
     rw[hr.left i hi];constructor
     ·rintro (⟨o,ho⟩ | h)
      ·rcases List.mem_append.1 ho with h | h
       ·exact .inl ⟨o,h⟩
       ·exact .inr (hpost _ h).1
      ·omega
     ·rintro (⟨o,ho⟩ | h)
      ·exact .inl ⟨o,List.mem_append_left _ ho⟩
      ·obtain ⟨o,ho⟩:=YQ hsrt.2.1 hpost hlen i h hi
       exact .inl ⟨o,List.mem_append_right _ ho⟩
    have:=A3t (O1 ρ k) (sk:=fun i=>Nat.beq i ex) hE hget hcf h2 (fun y a' h=>hK as y a' rfl (h.nx _)) pre.length pre listed c.σ ob x a rfl (fun q hq=>(hpre' q hq).2) hr2 hd ho hs
    rwa [<-hlen,<-List.length_append] at this
   ·cases h
  ·cases h
 ·rename_i fn dst dec k hx hk
  rw[hx,hk];rw[hk] at hK;split at h
  ·rename_i ob σ' hb
   cases h
   exact Jg hE hb ho hs (fun as' a' he hs' => hK as' x a' (by obtain ⟨b,rfl⟩:=he;rfl) hs') (.inr rfl)
  ·cases h
 ·rename_i fn dst dec k hx hk
  rw[hx,hk];rw[hk] at hK;split at h
  ·rename_i ob σ' hb
   cases h
   exact Jg hE hb ho hs (fun as' a' he hs' => hK as' x a' (by obtain ⟨b,rfl⟩:=he;rfl) hs') (.inl rfl)
  ·cases h
 ·rename_i id id' k hx hk
  rw[hx,hk];rw[hk] at hK;show (Exit.inBlock id' (wpK P Q ρ k as)) (.exit id) a x.w;simp only[Exit.inBlock];split at h
  ·rename_i he
   cases h
   rw[if_pos he.symm];exact hK as x a rfl hs
  ·rename_i he
   cases h
   rw[if_neg (Ne.symm he)];exact hK as x a rfl hs
 all_goals
  first
   | (rename_i hx hk;rw[hx,hk];rw[hk] at hK;cases h;exact hK as x a rfl hs)
   | cases h
theorem A2d{ρ:Option Nat}(hE:A7 P env){unroll:Bool}{c:G5}{path:List Bool}{out:Out}(h:step env unroll c path=some out)(ho:A5 out.obl)(hs:Sim w0 F0 K as c.σ x a)
  (hK:∀as' y a',Sim w0 F0 K as' out.cfg.σ y a' -> wpK P Q ρ out.cfg.k as' out.cfg.x a' y.w):wpK P Q ρ c.k as c.x a x.w:=
 Ni hE h ho hs fun as' y a' _ hs' => hK as' y a' hs'
theorem QR{ρ:Option Nat}(hE:A7 P env){unroll:Bool}:∀(n:Nat) {c:G5} {path:List Bool} {as:List Act} {x:C0} {a:Act},A5 (run env unroll n c path).obl->Sim w0 F0 K as c.σ x a ->
  (∀as' y a',as'.drop (nfr (run env unroll n c path).cfg.k)=as.drop (nfr c.k)->Sim w0 F0 K as' (run env unroll n c path).cfg.σ y a' -> wpK P Q ρ (run env unroll n c path).cfg.k as' (run env unroll n c path).cfg.x a' y.w)->wpK P Q ρ c.k as c.x a x.w
 | 0,c,path,as,x,a,_,hs,hK=>hK as x a rfl hs
 | n+1,c,path,as,x,a,ho,hs,hK=>by
  unfold run at ho hK
  cases hst:step env unroll c path with
  | none=>simp only[hst] at ho hK;exact hK as x a rfl hs
  | some r=>
   simp only[hst] at ho hK;have ho:=D7.1 ho;exact Ni hE hst ho.1 hs fun as' y a' he hs' => QR hE n ho.2 hs' fun as2 y2 a2 he2 hs2=>hK as2 y2 a2 (he2.trans he) hs2
theorem Ep{ρ:Option Nat}(hE:A7 P env){unroll:Bool}:∀(n:Nat) {c:G5} {path:List Bool} {as:List Act} {x:C0} {a:Act},A5 (run env unroll n c path).obl->Sim w0 F0 K as c.σ x a ->
  (∀as' y a',Sim w0 F0 K as' (run env unroll n c path).cfg.σ y a' -> wpK P Q ρ (run env unroll n c path).cfg.k as' (run env unroll n c path).cfg.x a' y.w)->wpK P Q ρ c.k as c.x a x.w
 | 0,c,path,as,x,a,_,hs,hK=>hK as x a hs
 | n+1,c,path,as,x,a,ho,hs,hK=>by
  unfold run at ho hK
  cases hst:step env unroll c path with
  | none=>simp only[hst] at ho hK;exact hK as x a hs
  | some r=>
   simp only[hst] at ho hK;have ho:=D7.1 ho;exact A2d hE hst ho.1 hs fun as' y a' hs' => Ep hE n ho.2 hs' hK
theorem UY{fn:Func}{args:List SV}{vs:List Value}(hlen:args.length<=fn.ntmps)(hk:∀p,x.k p = .no)(hF:∀b,x.F b->b<x.w.heap.size)(h:J7 x args vs) :
  Sim x.w x.F AD [] (D2 fn.ntmps args) x { tmps:=vs.toArray++Array.replicate (fn.ntmps-vs.toArray.size) undef,defers:=[] } where
 defers:=rfl
 nt:=by have:=Gu h;simp [D2];omega
 t:=AX h _
 mem:=⟨fun p=>by simp [D2,hk p],fun p l h=>(by cases h),fun p q h=>(by cases h),fun p e h=>(by cases h),fun p q h=>(by rw[hk p] at h;cases h),fun p h=>(by rw[hk p] at h;cases h),hF⟩
 base:=⟨fun b h=>h,fun b h=>.inl h,Nat.le_refl _,fun b _ _=>rfl,fun p h=>(by rw[hk p] at h;cases h),rfl,rfl,rfl,fun q h=>(by cases h)⟩
 frs:=.nil
end
end
section
def Vd(p:Nat):Nat->List Nat->Option Nat
 | _,[]=>none
 | n,q::l=>if q=p then some n else Vd p (n+1) l
def U7(p:Nat):List Nat->Bool
 | []=>false
 | q::l=>if q=p then true else U7 p l
def BP(m:Nat->Option En)(ps fz:List Nat):It->Option (List Prop×It)
 | .slc p off len es=>match Vd p 0 ps with
  | some i=>some ([],.slc i off len es)
  | none=>if U7 p fz then match m p with
    | some (.sq q)=>if off=0∧es=q.es then some ([len=q.n],.sl q) else none
    | _=>none
   else none
 | .ptr p off=>match Vd p 0 ps with
  | some i=>some ([],.ptr i off)
  | none=>none
 | .ep p es j off=>match Vd p 0 ps with
  | some i=>some ([],.ep i es j off)
  | none=>none
 | .mp p=>match Vd p 0 ps with
  | some i=>some ([],.mp i)
  | none=>none
 | .clo f []=>some ([],.clo f [])
 | .clo _ _=>none
 | .sv _ _ _ _=>none
 | .int k n=>some ([],.int k n)
 | .bool b=>some ([],.bool b)
 | .lit b=>some ([],.lit b)
 | .rp q i off=>some ([],.rp q i off)
 | .sl q=>some ([],.sl q)
 | .vsl _ _=>none
 | .ob o=>some ([],.ob o)
 | .val v=>some ([],.val v)
 | .ifc t os=>some ([],.ifc t os)
 | .dead=>some ([],.dead)
 | .old n=>some ([],.old n)
 | .arr _ _ _ _=>none
def TW(m:Nat->Option En)(ps fz:List Nat):List It->Option (List Prop×List It)
 | []=>some ([],[])
 | i::l=>match BP m ps fz i,TW m ps fz l with
  | some (o,i),some (o',l)=>some (o++o',i::l)
  | _,_=>none
def rnV(m:Nat->Option En)(ps fz:List Nat):V1->Option (List Prop×V1)
 | .c i=>match BP m ps fz i with
  | some (o,i)=>some (o,.c i)
  | none=>none
 | .a l=>match TW m ps fz l with
  | some (o,l)=>some (o,.a l)
  | none=>none
def B9u(m:Nat->Option En)(ps fz:List Nat):List V1->Option (List Prop×List V1)
 | []=>some ([],[])
 | i::l=>match rnV m ps fz i,B9u m ps fz l with
  | some (o,i),some (o',l)=>some (o++o',i::l)
  | _,_=>none
def rnS(m:Nat->Option En)(ps fz:List Nat):SV->Option (List Prop×SV)
 | .v a=>match rnV m ps fz a with
  | some (o,a)=>some (o,.v a)
  | none=>none
 | .t l=>match B9u m ps fz l with
  | some (o,l)=>some (o,.t l)
  | none=>none
 | .top=>some ([],.top)
def YC(m:Nat->Option En)(ps fz:List Nat):En->Option (List Prop×En)
 | .fl l=>match TW m ps fz l with
  | some (o,l)=>some (o,.fl l)
  | none=>none
 | .sq q=>some ([],.sq q)
def QN(m:Nat->Option En)(ps fz:List Nat):List Nat->Option (List Prop×List En)
 | []=>some ([],[])
 | p::l=>match m p with
  | some e=>match YC m ps fz e,QN m ps fz l with
   | some (o,e),some (o',l)=>some (o++o',e::l)
   | _,_=>none
  | none=>none
def A9e:List Nat->List Nat->Bool
 | [],_=>true
 | p::l,fz=>!(U7 p l) && !(U7 p fz) && A9e l fz
def C2(env:D6)(fn:Func)(n:Nat)(args:List SV)(path:List Bool)(ps fz:List Nat):Option (List Prop×SV×List En):=
 match D8i env fn n args path with
 | some (ob,_,r,σ)=>
  match rnS σ.m ps fz r,QN σ.m ps fz ps with
  | some (o1,r'),some (o2,es)=>if A9e ps fz && Nat.ble args.length fn.ntmps then some (ob++(o1++o2),r',es) else none
  | _,_=>none
 | none=>none
theorem Tm{p:Nat}:∀{ps:List Nat} {n i:Nat},Vd p n ps=some i->n<=i∧ps[i-n]? = some p
 | [],n,i,h=>by simp [Vd] at h
 | q::l,n,i,h=>by
  simp only[Vd] at h;split at h
  ·rename_i hq
   cases h
   simp [hq]
  ·obtain ⟨h1,h2⟩:=Tm h
   refine ⟨by omega,?_⟩
   rw[show i-n=(i-(n+1))+1 from by omega,List.getElem?_cons_succ];exact h2
theorem Jk{p:Nat}:∀{l:List Nat},U7 p l=true↔p∈l
 | []=>by simp [U7]
 | q::l=>by
  simp only[U7,List.mem_cons];split
  ·rename_i h;simp [h]
  ·rename_i h
   rw[Jk (l:=l)];constructor
   ·exact fun h=>.inr h
   ·rintro (rfl | h')
    ·exact absurd rfl h
    ·exact h'
def J0(y:C0)(ps fz:List Nat):C0:=
  { w:=y.w,F:=fun b=>y.F b∨∃p,p∈fz∧y.k p = .real∧b=y.β p,
    k:=fun i=>match ps[i]? with | some p=>y.k p | none=>.no,
    β:=fun i=>match ps[i]? with | some p=>y.β p | none=>0 }
section
variable {P:Program} {y:C0} {m:Nat->Option En} {ps fz:List Nat}
theorem A4m{p i:Nat}(h:Vd p 0 ps=some i):ps[i]? = some p:=by
 have:=(Tm h).2
 simpa using this
theorem QO(hm:P0 y m){i i' : It}{o:List Prop}{vs:List Value}(h:BP m ps fz i=some (o,i'))(ho:A5 o)(hd:y.D i vs):(J0 y ps fz).D i' vs:=by
 have data:F4 i=true->(J0 y ps fz).D i vs:=fun hf=>Ez (x:=y) (y:=J0 y ps fz) rfl (fun b hb=>.inl hb) hf hd
 cases i with
 | sv p lo len es=>simp only[BP] at h;cases h
 | vsl v q=>simp only[BP] at h;cases h
 | arr p off n es=>simp only[BP] at h;cases h
 | slc p off len es=>
  have hs:∃v,vs=[v]∧B8 y (.v (.c (.slc p off len es))) v:=by
   have:=AW hd
   match vs,this with
   | [v],_=>exact ⟨v,rfl,rfl,hd⟩
  obtain ⟨v,rfl,hs⟩:=hs;simp only[BP] at h;split at h
  ·rename_i i hi
   cases h
   have hp:=A4m hi;refine ⟨0,?_⟩
   rcases CQ hs with ⟨h1,h2,h3,rfl⟩ | ⟨h1,cap,cs,ty,rfl,h4,h5,h6,h7⟩
   ·exact .inl ⟨by simp only[J0,hp];exact h1,h2,h3,rfl⟩
   ·exact .inr ⟨by simp only[J0,hp];exact h1,cap,cs,ty,by simp only[J0,hp],h4,h5,by simp only[J0,hp];exact h6,h7⟩
  ·split at h
   ·rename_i hf
    split at h
    ·rename_i q hq
     split at h
     ·rename_i hc
      obtain ⟨rfl,rfl⟩:=hc
      cases h
      obtain ⟨rfl,_⟩:=ho;rcases CQ hs with ⟨hk,_,h0,rfl⟩ | ⟨hk,cap,cs,ty,rfl,hlc,hcm,hcs,hfit⟩
      ·exact ⟨1,.inl ⟨none,0,rfl,h0⟩⟩
      ·obtain ⟨cs',ty',hcs',hden⟩:=hm.ent p _ hq hk
       obtain ⟨d,hd'⟩:=Gw (R:=fun d i=>∃c,C6 (F8 (J0 y ps fz) d) (q.get i) c∧rd (J0 y ps fz).w (J0 y ps fz).F (y.β p) (0+i*q.es) c) (n:=q.n)
        (fun d d' i hdd ⟨c,hc,hr⟩=>⟨c,F7 (fun _ _ h=>BX hdd h) hc,hr⟩) (fun i hi=>by
         obtain ⟨c,hc,hj⟩:=hden.2 i hi;obtain ⟨d,hc⟩:=M3 (AZ (x:=y) (y:=J0 y ps fz) rfl (fun b hb=>.inl hb) (O8 q i) hc)
         refine ⟨d,c,hc,.inr ⟨p,Jk.1 hf,hk,rfl⟩,fun j v hv=>?_⟩
         show y.w.cell? _=_;rw[V5 hcs',Nat.zero_add];exact hj j v hv)
       exact ⟨d+1,.inr ⟨y.β p,0,cap,rfl,hlc,by omega,hd'⟩⟩
     ·cases h
    ·cases h
   ·cases h
 | ptr p off=>
  simp only[BP] at h;split at h
  ·rename_i i hi
   cases h
   have hp:=A4m hi;obtain ⟨d,hd⟩:=hd;refine ⟨d,?_⟩
   cases d<;>simp only[F8,J0,hp] at hd ⊢<;>exact hd
  ·cases h
 | ep p es j off=>
  simp only[BP] at h;split at h
  ·rename_i i hi
   cases h
   have hp:=A4m hi;obtain ⟨d,hd⟩:=hd;refine ⟨d,?_⟩
   cases d<;>simp only[F8,J0,hp] at hd ⊢<;>exact hd
  ·cases h
 | mp p=>
  simp only[BP] at h;split at h
  ·rename_i i hi
   cases h
   have hp:=A4m hi;obtain ⟨d,hd⟩:=hd;refine ⟨d,?_⟩
   cases d<;>simp only[F8,J0,hp] at hd ⊢<;>exact hd
  ·cases h
 | clo f c=>
  cases c with
  | nil=>simp only[BP] at h;cases h;exact data rfl
  | cons c l=>simp only[BP] at h;cases h
 | int k n=>simp only[BP] at h;cases h;exact data rfl
 | bool b=>simp only[BP] at h;cases h;exact data rfl
 | ifc t os=>simp only[BP] at h;cases h;exact data rfl
 | lit b=>simp only[BP] at h;cases h;exact data rfl
 | rp q i off=>simp only[BP] at h;cases h;exact data rfl
 | sl q=>simp only[BP] at h;cases h;exact data rfl
 | ob o=>simp only[BP] at h;cases h;exact data rfl
 | val v=>simp only[BP] at h;cases h;exact data rfl
 | dead=>
  simp only[BP] at h;cases h
  obtain ⟨d,hd⟩:=hd;refine ⟨d,?_⟩
  cases d<;>exact hd
 | old n=>
  simp only[BP] at h;cases h
  obtain ⟨d,hd⟩:=hd;refine ⟨d,?_⟩
  cases d<;>exact hd
theorem Gf(hm:P0 y m):∀{l l' : List It} {o:List Prop} {vs:List Value},TW m ps fz l=some (o,l')->A5 o->C6 y.D l vs->C6 (J0 y ps fz).D l' vs
 | [],_,_,_,h,_,hc=>by simp [TW] at h;obtain ⟨_,rfl⟩:=h;exact hc
 | i::l,_,_,_,h,ho,⟨c1,c2,e,h1,h2⟩=>by
  simp only[TW] at h;split at h
  ·rename_i o1 i' o2 l' hi hl
   cases h
   have ho:=D7.1 ho;exact ⟨c1,c2,e,QO hm hi ho.1 h1,Gf hm hl ho.2 h2⟩
  ·cases h
theorem B0a{i i' : It}{o:List Prop}(h:BP m ps fz i=some (o,i')):i'.size=i.size:=by
  cases i<;>simp only[BP] at h
  case clo f c=>cases c<;>simp only at h<;>cases h;rfl
  all_goals
    first
      | (cases h;rfl)
      | (repeat' split at h
         all_goals first | (cases h;rfl) | cases h)
theorem TY(hm:P0 y m){a a' : V1}{o:List Prop}{v:Value}(h:rnV m ps fz a=some (o,a'))(ho:A5 o)(hd:Dq y a v):Dq (J0 y ps fz) a' v:=by
 cases a with
 | c i=>
  simp only[rnV] at h;split at h
  ·rename_i o' i' hi
   cases h
   exact ⟨(B0a hi).trans hd.1,QO hm hi ho hd.2⟩
  ·cases h
 | a l=>
  simp only[rnV] at h;split at h
  ·rename_i o' l' hl
   cases h
   obtain ⟨cs,e,hc⟩:=hd;exact ⟨cs,e,Gf hm hl ho hc⟩
  ·cases h
theorem QP(hm:P0 y m):∀{l l' : List V1} {o:List Prop} {vs:List Value},B9u m ps fz l=some (o,l')->A5 o->DV y l vs->DV (J0 y ps fz) l' vs
 | [],_,_,_,h,_,hd=>by simp [B9u] at h;obtain ⟨_,rfl⟩:=h;cases hd;exact .nil
 | a::l,_,_,_,h,ho,hd=>by
  simp only[B9u] at h;split at h
  ·rename_i o1 a' o2 l' ha hl
   cases h
   have ho:=D7.1 ho
   cases hd with
   | cons h1 h2=>exact .cons (TY hm ha ho.1 h1) (QP hm hl ho.2 h2)
  ·cases h
theorem TX(hm:P0 y m){s s' : SV}{o:List Prop}{v:Value}(h:rnS m ps fz s=some (o,s'))(ho:A5 o)(hd:B8 y s v):B8 (J0 y ps fz) s' v:=by
 cases s with
 | v a=>
  simp only[rnS] at h;split at h
  ·rename_i o' a' ha
   cases h
   exact TY hm ha ho hd
  ·cases h
 | t l=>
  simp only[rnS] at h;split at h
  ·rename_i o' l' hl
   cases h
   obtain ⟨vs,e,hc⟩:=hd;exact ⟨vs,e,QP hm hl ho hc⟩
  ·cases h
 | top=>simp only[rnS] at h;cases h;trivial
theorem A1t(hm:P0 y m){e e' : En}{o:List Prop}{cs:List Value}(h:YC m ps fz e=some (o,e'))(ho:A5 o)(hd:C9 y e cs):C9 (J0 y ps fz) e' cs:=by
 cases e with
 | fl l=>
  simp only[YC] at h;split at h
  ·rename_i o' l' hl
   cases h
   exact Gf hm hl ho hd
  ·cases h
 | sq q=>
  simp only[YC] at h
  cases h
  exact ⟨hd.1,fun i hi=>let ⟨c,hc,hj⟩:=hd.2 i hi;⟨c,AZ (x:=y) (y:=J0 y ps fz) rfl (fun b hb=>.inl hb) (O8 q i) hc,hj⟩⟩
theorem TV:∀{l:List Nat} {es:List En} {o:List Prop},QN m ps fz l=some (o,es)->A5 o->es.length=l.length∧∀(i p:Nat),l[i]? = some p->∃e e' o',m p=some e∧YC m ps fz e=some (o',e')∧A5 o' ∧ es[i]? = some e'
 | [],es,o,h,_=>by simp [QN] at h;obtain ⟨_,rfl⟩:=h;exact ⟨rfl,fun i p hi=>by simp at hi⟩
 | q::l,es,o,h,ho=>by
  simp only[QN] at h;split at h
  ·rename_i e he
   split at h
   ·rename_i o1 e' o2 es' h1 h2
    cases h
    have ho:=D7.1 ho;obtain ⟨g1,g2⟩:=TV h2 ho.2;refine ⟨by simp [g1],fun i p hi=>?_⟩
    cases i with
    | zero=>
     simp only[List.getElem?_cons_zero,Option.some.injEq] at hi ⊢
     subst hi;exact ⟨e,e',o1,he,h1,ho.1,rfl⟩
    | succ i=>
     simp only[List.getElem?_cons_succ] at hi ⊢
     exact g2 i p hi
   ·cases h
  ·cases h
theorem TK:∀{ps:List Nat},A9e ps fz=true->(∀p∈ps,p ∉ fz)∧∀(i j p:Nat),ps[i]? = some p->ps[j]? = some p->i=j
 | [],_=>⟨fun p hp=>(by cases hp),fun i j p hi=>by simp at hi⟩
 | q::l,h=>by
  simp only[A9e,Bool.and_eq_true,Bool.not_eq_true'] at h;obtain ⟨⟨h1,h2⟩,h3⟩:=h;have h1' : q ∉ l:=fun hq=>by rw[Jk.2 hq] at h1;cases h1
  have h2' : q ∉ fz:=fun hq=>by rw[Jk.2 hq] at h2;cases h2
  obtain ⟨g1,g2⟩:=TK h3;refine ⟨fun p hp=>?_,fun i j p hi hj=>?_⟩
  ·rcases List.mem_cons.1 hp with rfl | hp
   ·exact h2'
   ·exact g1 p hp
  ·cases i with
   | zero=>
    cases j with
    | zero=>rfl
    | succ j=>
     simp only[List.getElem?_cons_zero,Option.some.injEq,List.getElem?_cons_succ] at hi hj;subst hi;exact absurd (List.mem_of_getElem? hj) h1'
   | succ i=>
    cases j with
    | zero=>
     simp only[List.getElem?_cons_zero,Option.some.injEq,List.getElem?_cons_succ] at hi hj;subst hj;exact absurd (List.mem_of_getElem? hi) h1'
    | succ j=>
     simp only[List.getElem?_cons_succ] at hi hj;rw[g2 i j p hi hj]
theorem A4c(hm:P0 y m){es:List En}{o:List Prop}(h:QN m ps fz ps=some (o,es))(ho:A5 o)(hps:A9e ps fz=true):P0 (J0 y ps fz) (fun p=>es[p]?):=by
 obtain ⟨hlen,hget⟩:=TV h ho;obtain ⟨hfz,hinj⟩:=TK hps;have at_:∀i:Nat,(∃p,ps[i]? = some p)∨ps[i]? = none:=fun i=>by cases ps[i]? with
  | none=>exact .inr rfl
  | some p=>exact .inl ⟨p,rfl⟩
 have outk:∀i:Nat,ps[i]? = none->(J0 y ps fz).k i = .no:=fun i h=>by simp only[J0,h]
 have ink:∀i p:Nat,ps[i]? = some p->(J0 y ps fz).k i=y.k p∧(J0 y ps fz).β i=y.β p:=fun i p h=>by simp only[J0,h,and_self]
 refine ⟨fun i=>?_,fun i l hi=>?_,fun i q hi hn=>?_,fun i e hi hr=>?_,fun i j hi hj he=>?_,fun i hi hF=>?_,fun b hb=>?_⟩
 ·rcases at_ i with ⟨p,hp⟩ | hp
  ·obtain ⟨e,e',o',h1,_,_,h4⟩:=hget i p hp
   have hk:y.k p ≠ .no:=fun hk=>by rw[(hm.dom p).2 hk] at h1;cases h1
   simp only[h4,(ink i p hp).1,reduceCtorEq,hk]
  ·have:¬i<ps.length:=fun h=>by simp [h] at hp
   have h2:es[i]? = none:=by simp;omega
   simp only[h2,outk i hp]
 ·rcases at_ i with ⟨p,hp⟩ | hp
  ·obtain ⟨e,e',o',h1,h2,_,h4⟩:=hget i p hp
   rw[(ink i p hp).1];rw[h4] at hi
   cases hi
   cases e with
   | fl l0=>exact hm.fl p l0 h1
   | sq q=>simp only[YC] at h2;cases h2
  ·have:¬i<ps.length:=fun h=>by simp [h] at hp
   have h2:es[i]? = none:=by simp;omega
   simp only[h2] at hi
   cases hi
 ·rcases at_ i with ⟨p,hp⟩ | hp
  ·obtain ⟨e,e',o',h1,h2,_,h4⟩:=hget i p hp
   rw[(ink i p hp).1] at hn;rw[h4] at hi
   cases hi
   cases e with
   | fl l0=>
    simp only[YC] at h2;split at h2<;>cases h2
   | sq q0=>simp only[YC] at h2;cases h2;exact hm.nil p _ h1 hn
  ·rw[outk i hp] at hn;cases hn
 ·rcases at_ i with ⟨p,hp⟩ | hp
  ·obtain ⟨e0,e',o',h1,h2,h3,h4⟩:=hget i p hp
   rw[(ink i p hp).1] at hr;rw[h4] at hi
   cases hi
   obtain ⟨cs,ty,hc,hd⟩:=hm.ent p e0 h1 hr;exact ⟨cs,ty,by rw[(ink i p hp).2];exact hc,A1t hm h2 h3 hd⟩
  ·rw[outk i hp] at hr;cases hr
 ·rcases at_ i with ⟨p,hp⟩ | hp
  ·rcases at_ j with ⟨q,hq⟩ | hq
   ·rw[(ink i p hp).1] at hi
    rw[(ink j q hq).1] at hj;rw[(ink i p hp).2,(ink j q hq).2] at he;have:=hm.inj p q hi hj he
    subst this;exact hinj i j p hp hq
   ·rw[outk j hq] at hj;cases hj
  ·rw[outk i hp] at hi;cases hi
 ·rcases at_ i with ⟨p,hp⟩ | hp
  ·rw[(ink i p hp).1] at hi
   rw[(ink i p hp).2] at hF;rcases hF with hF | ⟨q,hq,hk,he⟩
   ·exact hm.own p hi hF
   ·have:=hm.inj p q hi hk he
    subst this;exact hfz p (List.mem_of_getElem? hp) hq
  ·rw[outk i hp] at hi;cases hi
 ·rcases hb with hb | ⟨p,_,hk,rfl⟩
  ·exact hm.fw b hb
  ·exact hm.lt hk
theorem A6{env:D6}(hE:A7 P env){f:Nat}{fn:Func}(hf:P.funcs[f]? = some fn){n:Nat}{args:List SV}{path:List Bool}{ob:List Prop}{r:SV}{es:List En}(h:C2 env fn n args path ps fz=some (ob,r,es))(ho:A5 ob):K2 P f args r es:=by
 unfold C2 at h;split at h
 ·rename_i ob1 path' r1 σ hev
  split at h
  ·rename_i o1 r' o2 es' hr hes
   split at h
   ·rename_i hc
    simp only[Bool.and_eq_true] at hc
    cases h
    have ho:=D7.1 ho;have ho2:=D7.1 ho.2;intro x vs hk hF hden;unfold D8i at hev;split at hev
    ·rename_i c hbody
     split at hev
     ·rename_i ob2 path2 σ2 hrun
      split at hev
      ·rename_i o3 rr hres
       cases hev
       have ho1:=D7.1 ho.1;have hlen:args.length<=fn.ntmps:=Nat.le_of_ble_eq_true hc.2;refine calls_of_wp hf hbody ((wpIn_wide (n:=0)).1 ?_)
       have hinit:=UY (fn:=fn) hlen hk hF hden;have hrs:=Ep (ρ:=none) (Q:=bodyPost P fn fun e w' => ∃v y,e = .returned v∧y.w=w' ∧ Tr x none y (fun p=>es[p]?)∧B8 y r v) hE (unroll:=true) n (c:=⟨[.code c],.normal,D2 fn.ntmps args⟩) (path:=path) (by rw[hrun];exact ho1.1) hinit
       refine hrs fun as' y a' hs=>?_
       rw[hrun] at hs ⊢
       show bodyPost P fn _ .ret a' y.w;obtain ⟨v,hv,hdv⟩:=S5 hE hs.mem hs.t hres ho1.2;refine ⟨hs.defers.trans (IY _),v,hv,v,J0 y ps fz,rfl,rfl,?_,TX hs.mem hr ho2.1 hdv⟩
       have hmem:=A4c hs.mem hes ho2.2 hc.1;have hb:=hs.base;have nok:∀p,x.k p = .real->False:=fun p hp=>by rw[hk p] at hp;cases hp
       have hreal:∀p,y.k p = .real->x.w.heap.size<=y.β p:=fun p hp=>by
        rcases Nat.lt_or_ge (y.β p) x.w.heap.size with h | h
        ·exact absurd trivial (hb.ownK p hp h)
        ·exact h
       refine ⟨⟨hb.size,fun b hb' => ⟨.inl (hb.f0 b hb'),hb.keep b (hF b hb') trivial⟩,fun p hp=>absurd (hk p) hp,fun p hp=>(nok p hp).elim,fun p hp=>(nok p hp).elim⟩,hmem,hb.os,hb.tape,hb.output,fun b hb' _=>hb.keep b hb' trivial,fun i hi=>?_,fun b hb' => ?_⟩
       ·right
        cases hp:ps[i]? with
        | none=>simp only[J0,hp] at hi;cases hi
        | some p=>simp only[J0,hp] at hi ⊢;exact hreal p hi
       ·rcases hb' with hb' | ⟨p,_,hk',rfl⟩
        ·exact hb.fn b hb'
        ·exact .inr (hreal p hk')
      ·cases hev
     ·cases hev
    ·cases hev
   ·cases h
  ·cases h
 ·cases h
end
end
section
def C7{α:Type}(d:α):List Nat->List α->Nat->α
 | t::tl,v::vl,n=>if n=t then v else C7 d tl vl n
 | _,_,_=>d
def C5g:List (List Nat)->List (List SV×Nat)->List ((Nat->SV)×Nat)
 | tl::ftl,(svs,n)::r=>(C7 .top tl svs,n)::C5g ftl r
 | _,_=>[]
def B0(nt:Nat)(tl:List Nat)(svs:List SV)(ml:List Nat)(ens:List (Option En))(nx:Nat)(ftl:List (List Nat))(fsv:List (List SV×Nat)):St:=⟨C7 .top tl svs,C7 none ml ens,nt,nx,C5g ftl fsv⟩
def Hg(keep:List Nat):It->Bool
 | .ptr p _=>U7 p keep
 | .ep p _ _ _=>U7 p keep
 | .slc p _ _ _=>U7 p keep
 | .sv p _ _ _=>U7 p keep
 | .mp p=>U7 p keep
 | .arr p _ _ _=>U7 p keep
 | .clo _ c=>c.all fun a=>U7 a.1 keep
 | _=>true
def Io(keep:List Nat):List It->Bool
 | []=>true
 | i::l=>Hg keep i && Io keep l
def D5t(keep:List Nat):V1->Bool
 | .c i=>Hg keep i
 | .a l=>Io keep l
def A5w(keep:List Nat):List V1->Bool
 | []=>true
 | i::l=>D5t keep i && A5w keep l
def C8e(keep:List Nat):SV->Bool
 | .v a=>D5t keep a
 | .t l=>A5w keep l
 | .top=>true
def TU(keep:List Nat):List SV->Bool
 | []=>true
 | i::l=>C8e keep i && TU keep l
def CC(keep:List Nat):List (Option En)->Bool
 | []=>true
 | some (.fl l)::r=>Io keep l && CC keep r
 | some (.sq _)::r=>CC keep r
 | none::_=>false
def Jw(t:Nat->SV):List Nat->List SV
 | []=>[]
 | d::l=>t d::Jw t l
def mapM(m:Nat->Option En):List Nat->List (Option En)
 | []=>[]
 | d::l=>m d::mapM m l
def Ll:List ((Nat->SV)×Nat)->List (List Nat)->Option (List (List SV×Nat))
 | [],[]=>some []
 | (t,n)::fr,tl::ftl=>match Ll fr ftl with
  | some r=>some ((Jw t tl,n)::r)
  | none=>none
 | _,_=>none
def YA(keep:List Nat):List (List SV×Nat)->Bool
 | []=>true
 | q::l=>TU keep q.1 && YA keep l
structure At where
 obl:List Prop
 x:Exit
 svs:List SV
 ens:List (Option En)
 nt:Nat
 nx:Nat
 fsv:List (List SV×Nat)
def B8n(m:Nat->Option En)(ml:List Nat):Bool:=
 match m 0 with
 | none=>true
 | some _=>U7 0 ml
def CE(env:D6)(unroll:Bool)(n:Nat)(c:G5)(path:List Bool)(tl ml:List Nat)(ftl:List (List Nat)):Option At:=
 match run env unroll n c path with
 | ⟨ob,_,⟨_,x,σ⟩⟩=>
  match Ll σ.fr ftl with
  | some fsv=>if (TU ml (Jw σ.t tl) && CC ml (mapM σ.m ml) && YA ml fsv) && B8n σ.m ml then some ⟨ob,x,Jw σ.t tl,mapM σ.m ml,σ.nt,σ.nx,fsv⟩ else none
  | none=>none
section
variable {P:Program} {w0:World} {F0:Nat->Prop} {K:Kp} {as:List Act} {env:D6} {Q:Exit->Act->World->Prop} {x:C0} {a:Act}
def G6(x:C0)(keep:List Nat):C0:={ x with k:=fun p=>if U7 p keep then x.k p else .no }
theorem XI{keep:List Nat}:∀{i:It},Hg keep i=true->∀(d:Nat) (vs:List Value),F8 x d i vs->F8 (G6 x keep) d i vs:=by
 intro i h d vs hd;by_cases hf:F4 i=true
 ·exact OD (x:=x) (y:=G6 x keep) rfl (fun b hb=>hb) d i vs hf hd
 ·cases i
  case ptr p off=>cases d<;>simp only[F8,G6,Hg] at h hd ⊢<;>exact ⟨by rw[if_pos h];exact hd.1,hd.2⟩
  case ep p es j off=>cases d<;>simp only[F8,G6,Hg] at h hd ⊢<;>exact ⟨by rw[if_pos h];exact hd.1,hd.2⟩
  case slc p off len es=>cases d<;>simp only[F8,G6,Hg] at h hd ⊢<;>(rw[if_pos h];exact hd)
  case mp p=>cases d<;>simp only[F8,G6,Hg] at h hd ⊢<;>exact ⟨by rw[if_pos h];exact hd.1,hd.2⟩
  case arr p off n es=>cases d<;>simp only[F8,G6,Hg] at h hd ⊢<;>exact ⟨by rw[if_pos h];exact hd.1,hd.2⟩
  case clo f c=>
   cases d<;>simp only[F8,G6,Hg] at h hd ⊢<;>exact ⟨fun b hb=>by rw[if_pos (List.all_eq_true.1 h b hb)];exact hd.1 b hb,hd.2⟩
  case sv p lo len es=>
   cases d<;>simp only[F8,G6,Hg] at h hd ⊢<;>(rw[if_pos h];exact hd)
  case dead=>cases d<;>exact hd
  case old=>cases d<;>exact hd
  all_goals exact absurd rfl hf
theorem Jq{keep:List Nat}:∀{l:List It} {cs:List Value},Io keep l=true->C6 x.D l cs->C6 (G6 x keep).D l cs
 | [],_,_,h=>h
 | i::l,_,hr,⟨c1,c2,e,⟨d,h1⟩,h2⟩=>by
  simp only[Io,Bool.and_eq_true] at hr;exact ⟨c1,c2,e,⟨d,XI hr.1 d c1 h1⟩,Jq hr.2 h2⟩
theorem B4n{keep:List Nat}{s:V1}{v:Value}(hr:D5t keep s=true)(h:Dq x s v):Dq (G6 x keep) s v:=by
 cases s with
 | c i=>obtain ⟨h1,d,h2⟩:=h;exact ⟨h1,d,XI hr d _ h2⟩
 | a l=>obtain ⟨cs,e,hc⟩:=h;exact ⟨cs,e,Jq hr hc⟩
theorem A4o{keep:List Nat}:∀{l:List V1} {vs:List Value},A5w keep l=true->DV x l vs->DV (G6 x keep) l vs
 | [],_,_,h=>by cases h;exact .nil
 | a::l,_,hr,h=>by
  simp only[A5w,Bool.and_eq_true] at hr
  cases h with
  | cons h1 h2=>exact .cons (B4n hr.1 h1) (A4o hr.2 h2)
theorem ZV{keep:List Nat}{s:SV}{v:Value}(hr:C8e keep s=true)(h:B8 x s v):B8 (G6 x keep) s v:=by
 cases s with
 | v a=>exact B4n hr h
 | t l=>obtain ⟨vs,e,hc⟩:=h;exact ⟨vs,e,A4o hr hc⟩
 | top=>trivial
theorem Lh{t:Nat->SV}:∀{tl:List Nat} {n:Nat},C7 .top tl (Jw t tl) n=t n∨C7 .top tl (Jw t tl) n = .top
 | [],n=>.inr rfl
 | d::l,n=>by
  simp only[Jw,C7];by_cases h:n=d
  ·subst h;simp
  ·simp only[h,if_false];exact Lh
theorem PW{t:Nat->SV}{keep:List Nat}:∀{tl:List Nat} {n:Nat},TU keep (Jw t tl)=true->C8e keep (C7 .top tl (Jw t tl) n)=true
 | [],n,_=>rfl
 | d::l,n,h=>by
  simp only[Jw,TU,Bool.and_eq_true] at h;simp only[Jw,C7];by_cases hd:n=d
  ·simp only[hd,if_true];exact h.1
  ·simp only[hd,if_false];exact PW h.2
theorem TA{m:Nat->Option En}:∀{ml:List Nat} {p:Nat},C7 none ml (mapM m ml) p=if U7 p ml then m p else none
 | [],p=>rfl
 | d::l,p=>by
  simp only[mapM,C7,U7];by_cases h:p=d
  ·subst h;simp
  ·simp only[h,Ne.symm h,if_false];exact TA
theorem Im{m:Nat->Option En}{keep:List Nat}:∀{ml:List Nat},CC keep (mapM m ml)=true->∀p,U7 p ml=true->∃e,m p=some e∧(∀l,e = .fl l->Io keep l=true)
 | [],_,p,h=>by cases h
 | d::l,h,p,hp=>by
  simp only[U7] at hp;simp only[mapM] at h
  cases hm:m d with
  | none=>rw[hm] at h;cases h
  | some e=>
   rw[hm] at h
   cases e with
   | fl its=>
    simp only[CC,Bool.and_eq_true] at h;split at hp
    ·rename_i hd;subst hd;exact ⟨.fl its,hm,fun l hl=>by cases hl;exact h.1⟩
    ·exact Im h.2 p hp
   | sq q=>
    simp only[CC] at h;split at hp
    ·rename_i hd;subst hd;exact ⟨.sq q,hm,fun l hl=>by cases hl⟩
    ·exact Im h p hp
theorem SN(ds:List Deferred):∀{fr:List ((Nat->SV)×Nat)} {ftl:List (List Nat)} {fsv:List (List SV×Nat)},Ll fr ftl=some fsv->ZJ ds (C5g ftl fsv)=ZJ ds fr:=by
 intro fr ftl fsv hm
 cases fr with
 | nil=>
  cases ftl with
  | nil=>simp only[Ll] at hm;cases hm;rfl
  | cons _ _=>simp only[Ll] at hm;cases hm
 | cons q fr=>
  cases ftl with
  | nil=>simp only[Ll] at hm;cases hm
  | cons tl ftl=>
   simp only[Ll] at hm;split at hm
   ·cases hm;rfl
   ·cases hm
theorem Frs.keep{keep:List Nat}{ds:List Deferred}{fr:List ((Nat->SV)×Nat)}(h:Frs x ds fr as):∀{ftl:List (List Nat)} {fsv:List (List SV×Nat)},Ll fr ftl=some fsv->YA keep fsv=true->Frs (G6 x keep) ds (C5g ftl fsv) as:=by
 induction h with
 | nil=>
  intro ftl fsv hm _
  cases ftl with
  | nil=>simp only[Ll] at hm;cases hm;exact .nil
  | cons _ _=>simp only[Ll] at hm;cases hm
 | cons h1 h2 h3 _ ih=>
  intro ftl fsv hm hr
  cases ftl with
  | nil=>simp only[Ll] at hm;cases hm
  | cons tl ftl=>
   simp only[Ll] at hm;split at hm
   ·rename_i r hr'
    cases hm
    simp only[YA,Bool.and_eq_true] at hr;refine .cons (h1.trans (SN ds hr').symm) h2 (fun t=>?_) (ih hr' hr.2)
    have hrt:=PW (n:=t) hr.1;rcases Lh (tl:=tl) (n:=t) with hl | hl
    ·rw[hl] at hrt ⊢;exact ZV hrt (h3 t)
    ·rw[hl];trivial
   ·cases hm
theorem Sim.keep{σ:St}{tl ml:List Nat}{nx:Nat}{ftl:List (List Nat)}{fsv:List (List SV×Nat)}(h:Sim w0 F0 K as σ x a)(hr:TU ml (Jw σ.t tl)=true)(he:CC ml (mapM σ.m ml)=true)(hf:Ll σ.fr ftl=some fsv)(hrf:YA ml fsv=true)(hpin:B8n σ.m ml=true) :
  Sim w0 F0 K as (B0 σ.nt tl (Jw σ.t tl) ml (mapM σ.m ml) nx ftl fsv) (G6 x ml) a where
 frs:=h.frs.keep hf hrf
 defers:=h.defers.trans (SN _ hf).symm
 nt:=h.nt
 t t:=by
  show B8 (G6 x ml) (C7 .top tl (Jw σ.t tl) t) _;have hrt:=PW (n:=t) hr;rcases Lh (t:=σ.t) (tl:=tl) (n:=t) with hl | hl
  ·rw[hl] at hrt ⊢;exact ZV hrt (h.t t)
  ·rw[hl];trivial
 mem:=by
  have hm:∀p,C7 none ml (mapM σ.m ml) p=if U7 p ml then σ.m p else none:=fun p=>TA
  refine ⟨fun p=>?_,fun p l hp=>?_,fun p q hp hn=>?_,fun p e hp hk=>?_,fun p q hp hq he=>?_,fun p hp=>?_,h.mem.fw⟩
  ·show C7 none ml (mapM σ.m ml) p=none↔_
   rw[hm];simp only[G6];by_cases hk:U7 p ml=true
   ·simp only[hk,if_true];exact h.mem.dom p
   ·simp [hk]
  ·have hp:C7 none ml (mapM σ.m ml) p=some (.fl l):=hp
   rw[hm] at hp;split at hp
   ·rename_i hk;simp only[G6,hk,if_true];exact h.mem.fl p l hp
   ·cases hp
  ·have hp:C7 none ml (mapM σ.m ml) p=some (.sq q):=hp
   rw[hm] at hp;split at hp
   ·rename_i hk;simp only[G6,hk,if_true] at hn;exact h.mem.nil p q hp hn
   ·cases hp
  ·have hp:C7 none ml (mapM σ.m ml) p=some e:=hp
   rw[hm] at hp;split at hp
   ·rename_i hkp
    simp only[G6,hkp,if_true] at hk;obtain ⟨cs,ty,hc,hd⟩:=h.mem.ent p e hp hk;obtain ⟨e',he',hfl⟩:=Im he p hkp;rw[hp] at he'
    cases he'
    refine ⟨cs,ty,hc,?_⟩
    cases e with
    | fl l=>exact Jq (hfl l rfl) hd
    | sq q=>exact ⟨hd.1,fun i hi=>let ⟨c,hc,hj⟩:=hd.2 i hi;⟨c,AZ (x:=x) (y:=G6 x ml) rfl (fun b hb=>hb) (O8 q i) hc,hj⟩⟩
   ·cases hp
  ·simp only[G6] at hp hq he
   split at hp
   ·split at hq
    ·exact h.mem.inj p q hp hq he
    ·cases hq
   ·cases hp
  ·simp only[G6] at hp ⊢
   split at hp
   ·exact h.mem.own p hp
   ·cases hp
 base:=by
  refine ⟨h.base.f0,h.base.fn,h.base.size,h.base.keep,fun p hp=>?_,h.base.os,h.base.tape,h.base.output,fun q hq=>?_⟩
  simp only[G6] at hp;split at hp
  ·exact h.base.ownK p hp
  ·cases hp
  obtain ⟨h1,h2,h3⟩:=h.base.pin q hq;have h0:U7 0 ml=true:=by
   unfold B8n at hpin
   cases hm:σ.m 0 with
   | none=>exact absurd ((h.mem.dom 0).1 hm) (by rw[h2];exact h1)
   | some e=>rw[hm] at hpin;exact hpin
  refine ⟨h1,?_,h3⟩
  simp only[G6,h0,if_true];exact h2
theorem C8i{ρ:Option Nat}(hE:A7 P env){unroll:Bool}{n:Nat}{c:G5}{path:List Bool}{tl ml:List Nat}{ftl:List (List Nat)}{o:At}(h:CE env unroll n c path tl ml ftl=some o){k' : List KI}(hk:(run env unroll n c path).cfg.k=k')(ho:A5 o.obl)(hs:Sim w0 F0 K as c.σ x a)
  (hK:∀as' y a',Sim w0 F0 K as' (B0 o.nt tl o.svs ml o.ens o.nx ftl o.fsv) y a' -> wpK P Q ρ k' as' o.x a' y.w):wpK P Q ρ c.k as c.x a x.w:=by
 unfold CE at h;split at h;rename_i ob path' k e σ hrun
 split at h
 ·rename_i fsv hf
  split at h
  ·rename_i hc
   simp only[Bool.and_eq_true] at hc
   cases h
   have hr:=Ep (ρ:=ρ) (Q:=Q) hE (unroll:=unroll) n (c:=c) (path:=path) (as:=as) (x:=x) (a:=a) (by rw[hrun];exact ho) hs
   refine hr fun as' y a' hs' => ?_
   rw[hrun] at hs' hk ⊢
   cases hk
   exact hK as' (G6 y ml) a' (hs'.keep hc.1.1.1 hc.1.1.2 hf hc.1.2 hc.2)
  ·cases h
 ·cases h
theorem YE{ρ:Option Nat}(hE:A7 P env){unroll:Bool}{n:Nat}{c:G5}{path:List Bool}{tl ml:List Nat}{ftl:List (List Nat)}{o:At}(h:CE env unroll n c path tl ml ftl=some o){k' : List KI}(hk:(run env unroll n c path).cfg.k=k')(ho:A5 o.obl)(hs:Sim w0 F0 K as c.σ x a)
  (hfr:nfr c.k=0) (hfr' : nfr k' = 0) (hK:∀y a',Sim w0 F0 K as (B0 o.nt tl o.svs ml o.ens o.nx ftl o.fsv) y a' -> wpK P Q ρ k' as o.x a' y.w):wpK P Q ρ c.k as c.x a x.w:=by
 unfold CE at h;split at h;rename_i ob path' k e σ hrun
 split at h
 ·rename_i fsv hf
  split at h
  ·rename_i hc
   simp only[Bool.and_eq_true] at hc
   cases h
   have hr:=QR (ρ:=ρ) (Q:=Q) hE (unroll:=unroll) n (c:=c) (path:=path) (as:=as) (x:=x) (a:=a) (by rw[hrun];exact ho) hs
   refine hr fun as' y a' he hs' => ?_
   rw[hrun] at hs' hk he ⊢
   cases hk
   have he:as'.drop (nfr k)=as.drop (nfr c.k):=he;rw[hfr,hfr',List.drop_zero,List.drop_zero] at he;subst he;exact hK (G6 y ml) a' (hs'.keep hc.1.1.1 hc.1.1.2 hf hc.1.2 hc.2)
  ·cases h
 ·cases h
def FQ:List KI->Option (Code×List KI)
 | .code (.loop c)::k=>some (c,k)
 | _=>none
theorem A0b{ρ:Option Nat}{ι:Type}(S:ι->St)(μ:ι->Nat){k0 k:List KI}{c:Code}(hl:FQ k0=some (c,k))
  (round:∀i,(∀j,μ j<μ i->∀as y b,Sim w0 F0 K as (S j) y b->wpK P Q ρ (.lp c::k) as .normal b y.w)->∀as y b,Sim w0 F0 K as (S i) y b->wpK P Q ρ (.code c :: .lp c::k) as .normal b y.w) (i:ι) (hs:Sim w0 F0 K as (S i) x a) :
  wpK P Q ρ k0 as .normal a x.w:=by
 have hk0:k0 = .code (.loop c)::k:=by
  unfold FQ at hl;split at hl
  ·cases hl;rfl
  ·cases hl
 subst hk0;have key:∀n i,μ i=n->∀as y b,Sim w0 F0 K as (S i) y b->wpL P (O1 ρ k) c (wpK P Q ρ k as) b y.w:=by
  intro n;induction n using Nat.strongRecOn with
  | _ n ih=>
   intro i hi as y b hsi;refine EX ?_
   exact round i (fun j hj as y b hsj=>ih (μ j) (hi ▸ hj) j rfl as y b hsj) as y b hsi
 exact ME (key _ i rfl as x a hs)
def NU(P:Program)(fn:Func)(x:C0)(r:SV)(es:List En):Exit->Act->World->Prop:=
 bodyPost P fn fun e w' => ∃v y,e = .returned v∧y.w=w' ∧ Tr x none y (fun p=>es[p]?)∧B8 y r v
theorem A7v{f:Nat}{fn:Func}{c:Code}{args:List SV}{r:SV}{es:List En}(hf:P.funcs[f]? = some fn)(hb:fn.body=some c)(hlen:Nat.ble args.length fn.ntmps=true)
  (h:∀(x:C0) (a:Act),(∀p,x.k p = .no)->(∀b,x.F b->b<x.w.heap.size)->Sim x.w x.F AD [] (D2 fn.ntmps args) x a->wpK P (NU P fn x r es) none [.code c] [] .normal a x.w):K2 P f args r es:=by
 intro x vs hk hF hden;exact calls_of_wp hf hb ((wpIn_wide (n:=0)).1 (h x _ hk hF (UY (Nat.le_of_ble_eq_true hlen) hk hF hden)))
def E2(env:D6)(fn:Func)(unroll:Bool)(n:Nat)(c:G5)(path:List Bool)(ps fz:List Nat):Option (List Prop×SV×List En):=
 match run env unroll n c path with
 | ⟨ob,_,⟨[],.ret,σ⟩⟩=>
  match Hh env σ fn.results.toList with
  | some (o,r)=>match rnS σ.m ps fz (Ul r),QN σ.m ps fz ps with
   | some (o1,r'),some (o2,es)=>if A9e ps fz then some (ob++(o++(o1++o2)),r',es) else none
   | _,_=>none
  | none=>none
 | _=>none
theorem V0{b b' : Bool}(h:b=b'){y:C0}{v:Value}(hd:B8 y (.v (.c (.lit b))) v):B8 y (.v (.c (.bool b'))) v:=by
 subst h;have:=WN hd
 subst this;exact BW _
theorem B9x(hE:A7 P env){fn:Func}{x0:C0}(hk:∀p,x0.k p = .no)(hF:∀b,x0.F b->b<x0.w.heap.size){unroll:Bool}{n:Nat}{c:G5}{path:List Bool}{ps fz:List Nat}{ob:List Prop}{r rr:SV}{es:List En}
  (h:E2 env fn unroll n c path ps fz=some (ob,r,es)) (ho:A5 ob) (hconv:∀y v,B8 y r v->B8 y rr v) (hs:Sim x0.w x0.F AD as c.σ x a):wpK P (NU P fn x0 rr es) none c.k as c.x a x.w:=by
 unfold E2 at h;split at h
 ·rename_i ob2 path2 σ2 hrun
  split at h
  ·rename_i o3 r3 hres
   split at h
   ·rename_i o1 r' o2 es' hr hes
    split at h
    ·rename_i hok
     cases h
     have ho1:=D7.1 ho;have ho2:=D7.1 ho1.2;have ho3:=D7.1 ho2.2;have hrs:=Ep (ρ:=none) (Q:=NU P fn x0 rr es) hE (unroll:=unroll) n (c:=c) (path:=path) (as:=as) (x:=x) (a:=a) (by rw[hrun];exact ho1.1) hs
     refine hrs fun as' y a' hs=>?_
     rw[hrun] at hs ⊢
     show bodyPost P fn (fun e w' => ∃v y,e = .returned v∧y.w=w' ∧ Tr x0 none y (fun p=>es[p]?)∧B8 y rr v) .ret a' y.w
     obtain ⟨v,hv,hdv⟩:=S5 hE hs.mem hs.t hres ho2.1;refine ⟨hs.defers.trans (IY _),v,hv,v,J0 y ps fz,rfl,rfl,?_,hconv _ _ (TX hs.mem hr ho3.1 hdv)⟩
     have hmem:=A4c hs.mem hes ho3.2 hok;have hb:=hs.base;have nok:∀p,x0.k p = .real->False:=fun p hp=>by rw[hk p] at hp;cases hp
     have hreal:∀p,y.k p = .real->x0.w.heap.size<=y.β p:=fun p hp=>by
      rcases Nat.lt_or_ge (y.β p) x0.w.heap.size with h | h
      ·exact absurd trivial (hb.ownK p hp h)
      ·exact h
     refine ⟨⟨hb.size,fun b hb' => ⟨.inl (hb.f0 b hb'),hb.keep b (hF b hb') trivial⟩,fun p hp=>absurd (hk p) hp,fun p hp=>(nok p hp).elim,fun p hp=>(nok p hp).elim⟩,hmem,hb.os,hb.tape,hb.output,fun b hb' _=>hb.keep b hb' trivial,fun i hi=>?_,fun b hb' => ?_⟩
     ·right
      cases hp:ps[i]? with
      | none=>simp only[J0,hp] at hi;cases hi
      | some p=>simp only[J0,hp] at hi ⊢;exact hreal p hi
     ·rcases hb' with hb' | ⟨p,_,hk',rfl⟩
      ·exact hb.fn b hb'
      ·exact .inr (hreal p hk')
    ·cases h
   ·cases h
  ·cases h
 ·cases h
structure Wq(P:Program)(Q:Exit->Act->World->Prop)(k:List KI)(as:List Act)(e:Exit)(a:Act)(w:World)(ρ:Option Nat:=none):Prop where
 wp:wpK P Q ρ k as e a w
theorem DN{ρ:Option Nat}(hE:A7 P env){unroll:Bool}{n:Nat}{c:G5}{path:List Bool}{tl ml:List Nat}{ftl:List (List Nat)}{o:At}(h:CE env unroll n c path tl ml ftl=some o){k' : List KI}(hk:(run env unroll n c path).cfg.k=k')(ho:A5 o.obl)(hs:Sim w0 F0 K as c.σ x a)
  (hK:∀as' y a',Sim w0 F0 K as' (B0 o.nt tl o.svs ml o.ens o.nx ftl o.fsv) y a' -> Wq P Q k' as' o.x a' y.w ρ):Wq P Q c.k as c.x a x.w ρ :=
 ⟨C8i hE h hk ho hs fun as' y a' hs' => (hK as' y a' hs').wp⟩
theorem C5{ρ:Option Nat}{ι:Type}(S:ι->St)(μ:ι->Nat){k0 k:List KI}{c:Code}(hl:FQ k0=some (c,k))
  (round:∀i,(∀j,μ j<μ i->∀as y b,Sim w0 F0 K as (S j) y b->Wq P Q (.lp c::k) as .normal b y.w ρ)->∀as y b,Sim w0 F0 K as (S i) y b->Wq P Q (.code c :: .lp c::k) as .normal b y.w ρ) (i:ι) (hs:Sim w0 F0 K as (S i) x a) :
  Wq P Q k0 as .normal a x.w ρ :=
 ⟨A0b S μ hl (fun i ih as y b hs=>(round i (fun j hj as y b hs=>⟨ih j hj as y b hs⟩) as y b hs).wp) i hs⟩
theorem H2{f:Nat}{fn:Func}{c:Code}{args:List SV}{r:SV}{es:List En}(hf:P.funcs[f]? = some fn)(hb:fn.body=some c)(hlen:Nat.ble args.length fn.ntmps=true)
  (h:∀(x:C0) (a:Act),(∀p,x.k p = .no)->(∀b,x.F b->b<x.w.heap.size)->Sim x.w x.F AD [] (D2 fn.ntmps args) x a->Wq P (NU P fn x r es) [.code c] [] .normal a x.w):K2 P f args r es:=
 A7v hf hb hlen fun x a h1 h2 h3=>(h x a h1 h2 h3).wp
theorem O4(hE:A7 P env){fn:Func}{x0:C0}(hk:∀p,x0.k p = .no)(hF:∀b,x0.F b->b<x0.w.heap.size){unroll:Bool}{n:Nat}{c:G5}{path:List Bool}{ps fz:List Nat}{ob:List Prop}{r rr:SV}{es:List En}
  (h:E2 env fn unroll n c path ps fz=some (ob,r,es)) (ho:A5 ob) (hconv:∀y v,B8 y r v->B8 y rr v) (hs:Sim x0.w x0.F AD as c.σ x a):Wq P (NU P fn x0 rr es) c.k as c.x a x.w:=
 ⟨B9x hE hk hF h ho hconv hs⟩
theorem JZ{ρ:Option Nat}(hE:A7 P env){unroll:Bool}{n:Nat}{k0:List KI}{e0:Exit}{σ0:St}{path:List Bool}{tl ml:List Nat}{ftl:List (List Nat)}{o:At}(h:CE env unroll n ⟨k0,e0,σ0⟩ path tl ml ftl=some o){k' : List KI}(hk:(run env unroll n ⟨k0,e0,σ0⟩ path).cfg.k=k')(ho:A5 o.obl)(hs:Sim w0 F0 K as σ0 x a)
  (hK:∀as' y a',Sim w0 F0 K as' (B0 o.nt tl o.svs ml o.ens o.nx ftl o.fsv) y a' -> Wq P Q k' as' o.x a' y.w ρ):Wq P Q k0 as e0 a x.w ρ :=
 DN hE (c:=⟨k0,e0,σ0⟩) h hk ho hs hK
theorem J5{ρ:Option Nat}(hE:A7 P env){unroll:Bool}{n:Nat}{k0:List KI}{e0:Exit}{σ0:St}{path:List Bool}{tl ml:List Nat}{ftl:List (List Nat)}{o:At}(h:CE env unroll n ⟨k0,e0,σ0⟩ path tl ml ftl=some o){k' : List KI}(hk:(run env unroll n ⟨k0,e0,σ0⟩ path).cfg.k=k')(ho:A5 o.obl)(hfr:nfr k0=0)(hfr' : nfr k' = 0)(hs:Sim w0 F0 K as σ0 x a)
  (hK:∀y a',Sim w0 F0 K as (B0 o.nt tl o.svs ml o.ens o.nx ftl o.fsv) y a' -> Wq P Q k' as o.x a' y.w ρ):Wq P Q k0 as e0 a x.w ρ :=
 ⟨YE hE (c:=⟨k0,e0,σ0⟩) h hk ho hs hfr hfr' fun y a' hs' => (hK y a' hs').wp⟩
theorem H4(hE:A7 P env){fn:Func}{x0:C0}(hk:∀p,x0.k p = .no)(hF:∀b,x0.F b->b<x0.w.heap.size){unroll:Bool}{n:Nat}{k0:List KI}{e0:Exit}{σ0:St}{path:List Bool}{ps fz:List Nat}{ob:List Prop}{r rr:SV}{es:List En}
  (h:E2 env fn unroll n ⟨k0,e0,σ0⟩ path ps fz=some (ob,r,es)) (ho:A5 ob) (hconv:∀y v,B8 y r v->B8 y rr v) (hs:Sim x0.w x0.F AD as σ0 x a):Wq P (NU P fn x0 rr es) k0 as e0 a x.w:=
 O4 hE hk hF (c:=⟨k0,e0,σ0⟩) h ho hconv hs
end
abbrev SV.ci(i:It):SV:=.v (.c i)
abbrev B9(l:List It):Option En:=some (.fl l)
abbrev D9(q:Sq):Option En:=some (.sq q)
abbrev Sg(P:Program)(σ σ2:St)(e:Exit)(k2 k:List KI):Prop:=∀{w0:World} {F0:Nat->Prop} {K:Kp} {ac:List Act} {Q:Exit->Act->World->Prop} {cX:C0} {aX:Act},Sim w0 F0 K ac σ cX aX->(∀ac cY aY,Sim w0 F0 K ac σ2 cY aY->Wq P Q k2 ac e aY cY.w)->Wq P Q k ac .normal aX cX.w
abbrev dF{α:Type}[Inhabited α]:α:=default
theorem E4(u:Bool)(n:Nat)(p:List Bool){P:Program}{env:D6}{k0:List KI}{σ0:St}{tl ml:List Nat}{ftl:List (List Nat)}{ob:List Prop}{e:Exit}{svs:List SV}{ens:List (Option En)}{nt nx:Nat}{fsv:List (List SV×Nat)}{k1:List KI}(hE:A7 P env)(h:CE env u n ⟨k0,.normal,σ0⟩ p tl ml ftl=some ⟨ob,e,svs,ens,nt,nx,fsv⟩:=by kernel_rfl)(hk:(run env u n ⟨k0,.normal,σ0⟩ p).cfg.k=k1:=by kernel_rfl)(ho:A5 ob):Sg P σ0 (B0 nt tl svs ml ens nx ftl fsv) e k1 k0:=fun hs hK=>JZ hE h hk ho hs hK
end
section
def YT:List (Nat×TyI)->Nat->Option TyI
 | [],_=>none
 | (k,i)::l,t=>if t=k then some i else YT l t
theorem Bj{P:Program}:∀(l:List (Nat×TyI)),(l.all fun r=>EV P r.1 r.2)=true->∀t i,YT l t=some i->I2 P t i
 | [],_,t,i,h=>by simp [YT] at h
 | (k,j)::l,hl,t,i,h=>by
  simp only[List.all_cons,Bool.and_eq_true] at hl;simp only[YT] at h;split at h
  ·rename_i hk
   cases h
   subst hk;exact ⟨hl.1⟩
  ·exact Bj l hl.2 t i h
theorem A2 {P : Program} {f : Nat} {fn : Func} (h : P.funcs[f]? = some fn) (hn : (fn.name == "runtime.NumGoroutine") = false) (hb : fn.body.isNone = false) : Bl P f := by
  intro args w;have hn' : ¬ fn.name = "runtime.NumGoroutine" := by intro e; rw [e] at hn; simp at hn
  have hb' : ¬fn.body=none:=by intro e;rw[e] at hb;simp at hb
  simp [callFunc,h,hn',hb']
def E0(T:Nat->Option B2)(f:Nat)(s:B2):Nat->Option B2:=fun g=>if g=f then some s else T g
def D6.set(env:D6)(T:Nat->Option B2):D6:={ env with fn:=T }
theorem A8{P:Program}{env:D6}(hE:A7 P env)(f:Nat)(s:B2)(he:Bl P f)(h:∀args o r es,s args=some (o,r,es)->A5 o->K2 P f args r es):A7 P (env.set (E0 env.fn f s)):=by
 refine ⟨hE.ty,hE.mixed,fun g s' hg=>?_,hE.mu,hE.inl,hE.ex,hE.inv⟩
 have hg:(if g=f then some s else env.fn g)=some s' := hg
 split at hg
 ·rename_i hgf
  cases hg
  subst hgf;exact ⟨he,h⟩
 ·exact hE.fn g s' hg
theorem K2.conv{P:Program}{f:Nat}{args args' : List SV}{r r' : SV}{es:List En}(h:K2 P f args r es)(ha:∀x vs,J7 x args' vs->J7 x args vs)(hr:∀x v,B8 x r v->B8 x r' v):K2 P f args' r' es:=by
 intro x vs hk hF hd;exact (h x vs hk hF (ha x vs hd)).mono fun e w' ⟨v,y,he,hw,ht,hv⟩=>⟨v,y,he,hw,ht,hr y v hv⟩
end
section
abbrev SV.iu(n:Int):SV:=.v (.c (.int .u64 n))
abbrev SV.ii(n:Int):SV:=.v (.c (.int .i64 n))
abbrev SV.pt(p o:Nat):SV:=.v (.c (.ptr p o))
def B5(fn:Func):Code:=fn.body.getD .skip
def X5(k:List KI):Code:=((FQ k).getD (.skip,[])).1
def X8(k:List KI):List KI:=((FQ k).getD (.skip,[])).2
def B7(k:List KI):List KI:=.code (X5 k) :: .lp (X5 k)::X8 k
def D4(k:List KI):List KI:=.lp (X5 k)::X8 k
theorem D6k{x:C0}{q:Sq}{v:Value}(h:B8 x (.v (.c (.sl q))) v):q.n<=maxLen:=by
 rcases A6m h with ⟨_,_,_,h⟩ | ⟨_,_,_,_,_,h,_⟩
 ·omega
 ·exact h
theorem A9{n:Int}(h1:-9223372036854775808<=n)(h2:n<9223372036854775808):wrap IntKind.i64 n=n:=by
 show (if (true && decide (n % (2 ^ 64:Int) >= (2 ^ (64-1):Int)))=true then n % (2 ^ 64:Int)-(2 ^ 64:Int) else n % (2 ^ 64:Int))=n
 split
 ·rename_i h;have h:=of_decide_eq_true (by simpa using h:decide (n % (2 ^ 64:Int) >= (2 ^ (64-1):Int))=true);omega
 ·rename_i h;have h:¬(n % (2 ^ 64:Int) >= (2 ^ (64-1):Int)):=fun h' => h (by simpa using h');omega
theorem Av{n:Int}(h1:0<=n)(h2:n<18446744073709551616):wrap IntKind.u64 n=n:=by
 simp only[IntKind.wrap,IntKind.bits,IntKind.signed,Bool.false_and,Bool.false_eq_true,if_false];omega
theorem IE:wrap IntKind.i64 ((0:Int)+1)=1:=by decide
theorem IF:wrap IntKind.i64 ((1:Int)+1)=2:=by decide
theorem IG:wrap IntKind.i64 ((2:Int)+1)=3:=by decide
theorem WO{α:Type}(f:α->Bool)(d:α):∀(l:List α) (i:Nat),i<l.length->(l.drop i).all f=(f (l.getD i d) && (l.drop (i+1)).all f)
 | [],i,h=>by simp at h
 | a::l,0,_=>by simp
 | a::l,i+1,h=>by
  simp only[List.length_cons,Nat.succ_lt_succ_iff] at h;simpa using WO f d l i h
end
section
section
variable {P:Program} {w0:World} {F0:Nat->Prop} {K:Kp} {as:List Act} {Q:Exit->Act->World->Prop} {x:C0} {a:Act} {σ:St}
theorem Sim.world(h:Sim w0 F0 K as σ x a){W:World}(hos:W.os=x.w.os)(htape:W.tape=x.w.tape)(hout:W.output=x.w.output)(hsz:x.w.heap.size<=W.heap.size)
  (hF:∀b,x.F b->W.heap[b]? = x.w.heap[b]?) (hown:∀p,x.k p = .real->W.heap[x.β p]? = x.w.heap[x.β p]?) (hkeep:∀b,b<w0.heap.size->K.at_ b->W.heap[b]? = x.w.heap[b]?):Sim w0 F0 K as σ { x with w:=W } a:=by
 have hext:Ext x { x with w:=W }:=⟨hsz,fun b hb=>⟨hb,hF b hb⟩,fun _ _=>rfl,fun _ _=>rfl,fun p hp cs ty hc=>⟨cs,(hown p hp).trans hc,rfl⟩⟩
 refine ⟨h.defers,h.nt,fun t=>Ba hext (h.t t),⟨h.mem.dom,h.mem.fl,h.mem.nil,fun p e hp hr=>?_,h.mem.inj,h.mem.own,fun b hb=>Nat.lt_of_lt_of_le (h.mem.fw b hb) hsz⟩,
  ⟨h.base.f0,h.base.fn,Nat.le_trans h.base.size hsz,fun b hb hk=>(hkeep b hb hk).trans (h.base.keep b hb hk),h.base.ownK,hos.trans h.base.os,htape.trans h.base.tape,hout.trans h.base.output,fun q hq=>?_⟩,h.frs.ext hext⟩
 ·obtain ⟨cs,ty,hc,hd⟩:=h.mem.ent p e hp hr
  exact ⟨cs,ty,(hown p hr).trans hc,K8 hext hd⟩
 ·obtain ⟨h1,h2,h3⟩:=h.base.pin q hq
  refine ⟨h1,h2,fun hr=>?_⟩
  obtain ⟨g1,cs,g2,g3⟩:=h3 hr;exact ⟨g1,cs,(hown 0 (h2.trans hr)).trans g2,g3⟩
def BM(x:C0)(K:Kp)(ds:List Deferred):Kp:=⟨fun b=>∀p,x.k p = .real->x.β p≠b,K.pin,ds⟩
theorem KD.own(h:KD w0 F0 K x)(ds:List Deferred):KD x.w x.F (BM x K ds) x:=
 ⟨fun _ h=>h,fun _ h=>.inl h,Nat.le_refl _,fun _ _ _=>rfl,fun p hp _ hk=>hk p hp rfl,rfl,rfl,rfl,h.pin⟩
theorem KD.trans{ds:List Deferred}{y:C0}(h:KD w0 F0 K x)(g:KD x.w x.F (BM x K ds) y):KD w0 F0 K y where
 f0 b hb:=g.f0 b (h.f0 b hb)
 fn b hb:=by
  rcases g.fn b hb with h1 | h1
  ·exact h.fn b h1
  ·exact .inr (Nat.le_trans h.size h1)
 size:=Nat.le_trans h.size g.size
 keep b hb hk:=(g.keep b (Nat.lt_of_lt_of_le hb h.size) (fun p hp e=>h.ownK p hp (e ▸ hb) (e ▸ hk))).trans (h.keep b hb hk)
 ownK p hp hb:=by
  intro hk;refine g.ownK p hp (Nat.lt_of_lt_of_le hb h.size) fun q hq e=>?_
  exact h.ownK q hq (e ▸ hb) (e ▸ hk)
 os:=g.os.trans h.os
 tape:=g.tape.trans h.tape
 output:=g.output.trans h.output
 pin:=g.pin
structure Bt(w0:World)(F0:Nat->Prop)(K:Kp)(as:List Act)(a:Act)(B:Nat)(s:St)(W:World)(y:C0):Prop where
 w:y.w=W
 sim:Sim w0 F0 K as s y a
 fr:∀b,y.F b->b<B∨B+2<=b
theorem Bt.grow{B:Nat}{s:St}{W W' : World}{y:C0}(h:Bt w0 F0 K as a B s W y)(hg:W.grownBy W' none):Bt w0 F0 K as a B s W' { y with w:=W' }:=by
 obtain ⟨rfl,hs,hf⟩:=h;have hb:∀b,b<y.w.heap.size->W'.heap[b]? = y.w.heap[b]? := fun b hb=>hg.block b hb (fun e=>by cases e)
 exact ⟨rfl,hs.world hg.os hg.tape hg.output hg.size (fun b h=>hb b (hs.mem.fw b h)) (fun p hp=>hb _ (hs.mem.lt hp)) (fun b h _=>hb b (Nat.lt_of_lt_of_le h hs.base.size)),hf⟩
theorem Bt.put{B:Nat}{s:St}{W:World}{y:C0}(h:Bt w0 F0 K as a B s W y)(hB:w0.heap.size<=B){o:Obj}(o' : Obj)(hl:W.heap[B+1]? = some o)(ho:o.isCells=false):Bt w0 F0 K as a B s (W.putObj (B+1) o') { y with w:=W.putObj (B+1) o' }:=by
 obtain ⟨rfl,hs,hf⟩:=h;refine ⟨rfl,hs.world rfl rfl rfl (by simp) (fun b h=>World.putObj_heap_other ?_) (fun p hp=>World.putObj_heap_other ?_) (fun b h _=>World.putObj_heap_other ?_),hf⟩
 ·rcases hf b h with h | h<;>omega
 ·intro e
  have hp' := hp
  cases hm:s.m p with
  | none=>rw[(hs.mem.dom p).1 hm] at hp;cases hp
  | some en=>
   obtain ⟨cs,ty,hc,_⟩:=hs.mem.ent p en hm hp';rw[e,hl] at hc
   cases hc
   cases ho
 ·omega
theorem Sim.own(h:Sim w0 F0 K as σ x a):Sim x.w x.F (BM x K K.ds) as σ x a:=⟨h.defers,h.nt,h.t,h.mem,h.base.own K.ds,h.frs⟩
theorem P8{m:Nat->Option En}(hm:P0 x m){ds:List Deferred}{y:C0}(g:KD x.w x.F (BM x K ds) y){j:Nat}{o:Obj}(hj:x.w.heap[j]? = some o)(ho:o.isCells=false):y.w.heap[j]? = some o:=by
 refine (g.keep j (Array.getElem?_eq_some_iff.1 hj).1 fun p hp e=>?_).trans hj
 cases h:m p with
 | none=>rw[(hm.dom p).1 h] at hp;cases hp
 | some en=>
  obtain ⟨cs,ty,hc,_⟩:=hm.ent p en h hp;rw[e,hj] at hc
  cases hc
  cases ho
theorem Bt.step{B:Nat}{s σ2:St}{W:World}{y z:C0}{as' : List Act}{b:Act}(h:Bt w0 F0 K as a B s W y)(hW:B+2<=W.heap.size)(g:Sim y.w y.F (BM y K K.ds) as' σ2 z b):Bt w0 F0 K as' b B σ2 z.w z:=by
 obtain ⟨rfl,hs,hf⟩:=h;refine ⟨rfl,⟨g.defers,g.nt,g.t,g.mem,hs.base.trans g.base,g.frs⟩,fun b hb=>?_⟩
 rcases g.base.fn b hb with h1 | h1
 ·exact hf b h1
 ·omega
def JK(σ:St):St:=match σ.fr with
 | (tS,nt)::l=>⟨tS,σ.m,nt,σ.nx,l⟩
 | []=>σ
theorem Bt.out{B:Nat}{σ2:St}{W:World}{z:C0}{b:Act}(h:Bt w0 F0 K (a::as) b B σ2 W z):Bt w0 F0 K as a B (JK σ2) W z:=by
 obtain ⟨rfl,hs,hf⟩:=h;refine ⟨rfl,?_,hf⟩
 have hfr:=hs.frs;unfold JK
 cases hl:σ2.fr with
 | nil=>rw[hl] at hfr;cases hfr
 | cons q l=>
  obtain ⟨tS,nt⟩:=q;rw[hl] at hfr
  cases hfr with
  | cons h1 h2 h3 h4=>exact ⟨h1,h2,h3,hs.mem,hs.base,h4⟩
def C0b(t:Nat->SV):List (Nat×SV)->Nat->SV
 | []=>t
 | (p,v)::l=>C0b (M7 t p v) l
def Y6(s:St)(pv:List (Nat×SV)):St:=⟨C0b s.t pv,s.m,s.nt,s.nx,(s.t,s.nt)::s.fr⟩
theorem Xw{y:C0}{nt:Nat}:∀{pl:List Nat} {svs:List SV} {vs:List Value} {t:Nat->SV} {tm:Array Value},J7 y svs vs->pl.length=vs.length->tm.size=nt->(∀p∈pl,p<nt)->(∀j,B8 y (t j) (tm.getD j undef)) ->
  ((pl.zip vs).foldl (fun t (q:Nat×Value)=>t.setIfInBounds q.1 q.2) tm).size=nt∧∀j,B8 y (C0b t (pl.zip svs) j) (((pl.zip vs).foldl (fun t (q:Nat×Value)=>t.setIfInBounds q.1 q.2) tm).getD j undef)
 | [],svs,vs,t,tm,_,_,hs,_,ht=>by
  simp only[List.zip_nil_left,List.foldl_nil];exact ⟨hs,ht⟩
 | p::pl,_,_,t,tm,hd,hl,hs,hp,ht=>by
  cases hd with
  | nil=>simp at hl
  | cons h1 h2=>
   simp only[List.zip_cons_cons,List.foldl_cons];refine Xw h2 (by simpa using hl) (by simpa using hs) (fun q hq=>hp q (List.mem_cons_of_mem _ hq)) fun j=>?_
   rw[Pz _ _ _ _ (by rw[hs];exact hp p List.mem_cons_self)]
   by_cases hj:j=p
   ·subst hj;simp only[M7,if_true];exact h1
   ·simp only[M7,hj,if_false];exact ht j
theorem Bt.into{B:Nat}{s:St}{W:World}{y:C0}(h:Bt w0 F0 K as a B s W y){ps:Array Nat}{svs:List SV}{vs:List Value}(hd:J7 y svs vs)(hl:ps.size=vs.length)(hp:∀p∈ps.toList,p<s.nt) :
  Bt w0 F0 K (a::as) { tmps:=(ps.zip vs.toArray).foldl (fun t (q:Nat×Value)=>t.setIfInBounds q.1 q.2) a.tmps,defers:=[] } B (Y6 s (ps.toList.zip svs)) W y:=by
 obtain ⟨rfl,hs,hf⟩:=h;have e:(ps.zip vs.toArray).foldl (fun t (q:Nat×Value)=>t.setIfInBounds q.1 q.2) a.tmps=(ps.toList.zip vs).foldl (fun t (q:Nat×Value)=>t.setIfInBounds q.1 q.2) a.tmps:=by
  rw[<-Array.foldl_toList,Array.toList_zip]
 obtain ⟨h1,h2⟩:=Xw (pl:=ps.toList) (svs:=svs) hd (by simpa using hl) hs.nt hp hs.t
 rw[e];exact ⟨rfl,⟨rfl,h1,h2,hs.mem,hs.base,.cons hs.defers hs.nt hs.t hs.frs⟩,hf⟩
def MK(P:Program)(x:C0)(gf:Nat)(caps:List (Nat×Nat)){α:Type}(encs:α->List Value)(xs:List α)(M:List α->Nat->Option En):Prop:=
 ∀(l:Nat) (J:List α->World->Prop) (W:World),(∀s W W',J s W->W.grownBy W' none->J s W') ->
  (∀s W,J s W->∃y,y.w=W∧P0 y (M s)∧∀c∈caps,y.k c.1 = .real∧y.β c.1=x.β c.1) ->
  (∀pre z W1,J pre W1->(∃t,xs=pre++z::t)->YieldAt Fence.wide 0 P l (encs z).toArray W1 fun e W' => e = .returned (.bool true)∧J (pre++[z]) W') ->
  J [] W->Calls P gf (#[.func (.yield l) #[] #[]]++(caps.map fun c=>Value.pointer (some ⟨x.β c.1,c.2,none⟩)).toArray) W fun e W' => (∃v,e = .returned v)∧J xs W'
def C9u(P:Program)(x:C0)(gf:Nat)(caps:List (Nat×Nat)){α:Type}(encs:α->List Value)(ys:List α)(stop:Option α)(M:List α->Nat->Option En)(G:C0->Prop):Prop:=
 ∀(l:Nat) (J:List α->World->Prop) (J' : World->Prop) (W:World),(∀s W W',J s W->W.grownBy W' none->J s W')->(∀W W',J' W->W.grownBy W' none->J' W') ->
  (∀s W,J s W->∃y,y.w=W∧G y∧P0 y (M s)∧∀c∈caps,y.k c.1 = .real∧y.β c.1=x.β c.1) ->
  (∀pre z W1,J pre W1->(∃t,ys=pre++z::t)->YieldAt Fence.wide 0 P l (encs z).toArray W1 fun e W' => e = .returned (.bool true)∧J (pre++[z]) W') ->
  (∀z,stop=some z->∀W1,J ys W1->YieldAt Fence.wide 0 P l (encs z).toArray W1 fun e W' => e = .returned (.bool false)∧J' W')->(stop=none->∀W1,J ys W1->J' W1) ->
  J [] W->Calls P gf (#[.func (.yield l) #[] #[]]++(caps.map fun c=>Value.pointer (some ⟨x.β c.1,c.2,none⟩)).toArray) W fun e W' => (∃v,e = .returned v)∧J' W'
theorem MK.toX{P:Program}{gf:Nat}{caps:List (Nat×Nat)}{α:Type}{encs:α->List Value}{xs:List α}{M:List α->Nat->Option En}{G:C0->Prop}(h:MK P x gf caps encs xs M):C9u P x gf caps encs xs none M G:=
 fun l J J' W hg _ hr hy _ hn h0=>(h l J W hg (fun s W hs=>by obtain ⟨y,e,_,m⟩:=hr s W hs;exact ⟨y,e,m⟩) hy h0).mono fun _ _ h=>⟨h.1,hn rfl _ h.2⟩
theorem Su{y:C0}{gf:Nat}:∀{caps:List (Nat×Nat)},(∀c∈caps,y.k c.1 = .real) ->
  Value.func (.func gf) #[] (caps.map fun c=>Value.pointer (some ⟨x.β c.1,c.2,none⟩)).toArray=Value.func (.func gf) #[] (caps.map fun c=>Value.pointer (some ⟨y.β c.1,c.2,none⟩)).toArray->∀c∈caps,y.k c.1 = .real∧y.β c.1=x.β c.1:=by
 intro caps h1 h2 c hc;refine ⟨h1 c hc,?_⟩
 simp only[Value.func.injEq,true_and] at h2;have h3:caps.map (fun c=>Value.pointer (some ⟨x.β c.1,c.2,none⟩))=caps.map fun c=>Value.pointer (some ⟨y.β c.1,c.2,none⟩):=by
  have:=congrArg Array.toList h2
  simpa using this
 have h4:=(List.map_inj_left.1 h3) c hc;simp at h4
 exact h4.symm
theorem Yw{α:Type}{g:Operand}{ps:Array Tmp}{assign body:Code}{k:List KI}{gf:Nat}{caps:List (Nat×Nat)}{σ:St}
  (hk:Bz k=false) (hs:Sim w0 F0 K as σ x a)
  (eg:Bl P gf) (S:List α->St) (hg:∀s,(S s).ev g = .v (.c (.clo gf caps))) (h0:∃n,σ = { S [] with nx:=n }) (ys:List α) (stop:Option α) (vals:α->List SV) (encs:α->List Value) (henc:∀y z,J7 y (vals z) (encs z)) (hps:∀z,ps.size=(encs z).length)
  (hpt:∀pre,∀p∈ps.toList,p<(S pre).nt) (iter:C9u P x gf caps encs ys stop (fun s=>(S s).m) (KD w0 F0 K))
  (SB SE:List α->α->St) (hSE:∀pre z,(∃t,ys=pre++z::t)->∃n,JK (SE pre z) = { S (pre++[z]) with nx:=n })
  (hassign:∀pre z,(∃t,ys++stop.toList=pre++z::t)->∀(w1:World) (F1:Nat->Prop) (K1:Kp) (as1:List Act) (Q1:Exit->Act->World->Prop) (l:Nat) (y:C0) (b:Act),Sim w1 F1 K1 as1 (Y6 (S pre) (ps.toList.zip (vals z))) y b->(∀y' b',Sim w1 F1 K1 as1 (SB pre z) y' b' -> Q1 .normal b' y'.w)->Wq P Q1 [.code assign] as1 .normal b y.w (some l))
  (hbody:∀pre z,(∃t,ys=pre++z::t)->∀(w1:World) (F1:Nat->Prop) (K1:Kp) (as1:List Act) (Q1:Exit->Act->World->Prop) (l:Nat) (y:C0) (b:Act),Sim w1 F1 K1 as1 (SB pre z) y b->(∀y' b',Sim w1 F1 K1 as1 (SE pre z) y' b' -> Q1 .normal b' y'.w)->Wq P Q1 [.code body] as1 .normal b y.w (some l))
  (hstop:∀z,stop=some z->∀(w1:World) (F1:Nat->Prop) (K1:Kp) (as1:List Act) (Q1:Exit->Act->World->Prop) (l:Nat) (y:C0) (b:Act),Sim w1 F1 K1 as1 (SB ys z) y b->(∀y' b',Sim w1 F1 K1 as1 (SE ys z) y' b' -> Q1 .ret b' y'.w)->Wq P Q1 [.code body] as1 .normal b y.w (some l))
  (rest:stop=none->∀(D:Nat) (y:C0),Sim w0 F0 K as (S ys) y a->w0.heap.size<=D->¬y.F D->y.w.heap[D]? = some (.deferred (some []))->Wq P Q k as .normal { a with defers:={ target:=.collected D,args:=#[] } :: a.defers } y.w)
  (restS:∀z,stop=some z->∀(D:Nat) (y:C0),Sim w0 F0 K as (JK (SE ys z)) y a->w0.heap.size<=D->¬y.F D->y.w.heap[D]? = some (.deferred (some []))->Wq P Q (.code .ret::k) as .normal { a with defers:={ target:=.collected D,args:=#[] } :: a.defers } y.w) :
  Wq P Q (.code (.rangeFunc g ps assign body)::k) as .normal a x.w:=by
 refine ⟨?_⟩
 show (Code.rangeFunc g ps assign body).wpIn (I3 (O1 none k)) 0 P (wpK P Q none k as) a x.w;have hro:O1 none k=none:=by unfold O1;rw[hk];rfl
 rw[hro];have hev:a.eval g = .func (.func gf) #[] (caps.map fun c=>Value.pointer (some ⟨x.β c.1,c.2,none⟩)).toArray:=by
  have hd:=FF hs.t g;have hg0:σ.ev g = .v (.c (.clo gf caps)):=by
   obtain ⟨n,hn⟩:=h0;rw[hn];exact hg []
  rw[hg0] at hd;exact (NT hd).2
 refine wpIn_rangeFunc fun fn _=>?_
 let lb:=(caps.map fun c=>Value.pointer (some ⟨x.β c.1,c.2,none⟩)).toArray
 obtain ⟨B,hB⟩:∃B,B=x.w.heap.size:=⟨_,rfl⟩
 obtain ⟨rec,hrec⟩:∃rec:LoopState->Option Code->Loop,rec=fun st pe=>{ state:=st,pending:=pe,fn,tmps:=a.tmps,params:=ps,assign,body,defers:=B }:=⟨_,rfl⟩
 obtain ⟨W1,hW1⟩:∃W1,(x.w.alloc (.deferred (some []))).alloc (.loop (rec .ready none))=W1:=⟨_,rfl⟩
 have hL1:W1.heap[B+1]? = some (.loop (rec .ready none)):=by
  rw[<-hW1,hB];have:=World.alloc_heap_new (x.w.alloc (.deferred (some []))) (.loop (rec .ready none));rwa [World.size_alloc] at this
 have hK1:W1.heap[B]? = some (.deferred (some [])):=by
  rw[<-hW1,hB];exact (Go.RowKit.Below.heap_alloc _ _ _ (by simp)).trans (World.alloc_heap_new x.w _)
 have hsz:w0.heap.size<=B:=by rw[hB];exact hs.base.size
 have hb0:Bt w0 F0 K as a B (S []) x.w x:=by
  obtain ⟨n,hn⟩:=h0;refine ⟨rfl,?_,fun b hb=>.inl (by rw[hB];exact hs.mem.fw b hb)⟩
  rw[hn] at hs;exact hs.nx (S []).nx
 have hb1:∃y,Bt w0 F0 K as a B (S []) W1 y:=by
  rw[<-hW1];exact ⟨_,(hb0.grow (World.grownBy_alloc _ _ none)).grow (World.grownBy_alloc _ _ none)⟩
 refine ⟨B+1,[{ target:=.collected B,args:=#[] }],W1,{ target:=.fn (.func gf) lb,args:=#[.func (.yield (B+1)) #[] #[]] },W1,gf,#[.func (.yield (B+1)) #[] #[]]++lb,W1,?_,?_,?_,?_,An none 0,?_⟩
 ·rw[<-hW1,hrec,hB];exact run_enterLoop_outer _ _ _ _ _
 ·simp only[resolve,hev]
  simp [go_sem]
  rfl
 ·intro f' _;exact trivial
 ·simp [invoke,go_sem]
  exact eg _ _
 ·refine UD none ((iter (B+1) (fun s W=>(∃y,Bt w0 F0 K as a B (S s) W y)∧W.heap[B+1]? = some (.loop (rec .ready none))∧W.heap[B]? = some (.deferred (some []))) (fun W=>(stop=none->(∃y,Bt w0 F0 K as a B (S ys) W y)∧W.heap[B+1]? = some (.loop (rec .ready none))∧W.heap[B]? = some (.deferred (some [])))∧∀z,stop=some z->(∃y,Bt w0 F0 K as a B (JK (SE ys z)) W y)∧W.heap[B+1]? = some (.loop (rec .done (some .ret)))∧W.heap[B]? = some (.deferred (some []))) W1 ?_ ?_ ?_ ?_ ?_ (fun h W hW=>⟨fun _=>hW,fun z hz=>by rw[h] at hz;cases hz⟩) ⟨hb1,hL1,hK1⟩).mono ?_)
  ·rintro s W W' ⟨⟨y,hy⟩,hl,hd⟩ hgr
   have hkeep:∀{j:Nat} {o:Obj},W.heap[j]? = some o->W'.heap[j]? = some o:=fun h=>(hgr.block _ (Array.getElem?_eq_some_iff.1 h).1 (fun e=>by cases e)).trans h
   exact ⟨⟨_,hy.grow hgr⟩,hkeep hl,hkeep hd⟩
  ·rintro W W' ⟨h1,h2⟩ hgr
   have hkeep:∀{j:Nat} {o:Obj},W.heap[j]? = some o->W'.heap[j]? = some o:=fun h=>(hgr.block _ (Array.getElem?_eq_some_iff.1 h).1 (fun e=>by cases e)).trans h
   refine ⟨fun e=>?_,fun z e=>?_⟩
   ·obtain ⟨⟨y,hy⟩,hl,hd⟩:=h1 e
    exact ⟨⟨_,hy.grow hgr⟩,hkeep hl,hkeep hd⟩
   ·obtain ⟨⟨y,hy⟩,hl,hd⟩:=h2 z e
    exact ⟨⟨_,hy.grow hgr⟩,hkeep hl,hkeep hd⟩
  ·rintro s W ⟨⟨y,rfl,hy,hf⟩,_,_⟩
   refine ⟨y,rfl,hy.base,hy.mem,?_⟩
   have hd:=FF hy.t g;rw[hg s] at hd;obtain ⟨h1,h2⟩:=NT hd;rw[hev] at h2;exact Su h1 h2
  ·rintro pre z W ⟨⟨y,hy⟩,hl,hd⟩ hpre
   have hyr:=run_yield (P:=P) (args:=(encs z).toArray) hl (by rw[hrec];simpa using (hps z).symm)
   rw[hrec] at hyr;have hin:=hy.into (henc y z) (hps z) (hpt pre);have hWs:B+2<=W.heap.size:=(Array.getElem?_eq_some_iff.1 hl).1;refine ⟨fn,_,assign,body,hyr,roundIn_of_wpIn trivial ?_⟩
   have hyw:=hy.w;rw[<-hyw];refine (hassign pre z (by obtain ⟨t,ht⟩:=hpre;exact ⟨t++stop.toList,by rw[ht];simp⟩) y.w y.F (BM y K K.ds) (a::as) _ (B+1) y _ hin.sim.own fun y' b' hs' => ?_).wp
   have hb2:=hin.step hWs hs';have hl2:=P8 hy.sim.mem hs'.base (by rw[hyw];exact hl) rfl
   have hd2:=P8 hy.sim.mem hs'.base (by rw[hyw];exact hd) rfl
   obtain ⟨W3,hW3⟩:∃W3,W3=y'.w.putObj (B+1) (.loop (rec .busy none)):=⟨_,rfl⟩
   have hWs2:B+2<=y'.w.heap.size:=(Array.getElem?_eq_some_iff.1 hl2).1;obtain ⟨y3,hb3⟩:∃y3,Bt w0 F0 K (a::as) b' B (SB pre z) W3 y3:=by rw[hW3];exact ⟨_,hb2.put hsz _ hl2 rfl⟩
   have hl3:W3.heap[B+1]? = some (.loop (rec .busy none)):=by rw[hW3];exact World.putObj_heap_same (by omega)
   have hd3:W3.heap[B]? = some (.deferred (some [])):=by rw[hW3];exact (World.putObj_heap_other (by omega)).trans hd2
   have hWs3:B+2<=W3.heap.size:=(Array.getElem?_eq_some_iff.1 hl3).1;have hbeg:=run_beginRound (P:=P) hl2 (by rw[hrec])
   have hrb:({ rec .ready none with state:=.busy }:Loop)=rec .busy none:=by rw[hrec]
   rw[hrb,<-hW3] at hbeg;refine ⟨W3,hbeg,?_⟩
   have hyw3:=hb3.w;rw[<-hyw3];refine (hbody pre z hpre y3.w y3.F (BM y3 K K.ds) (a::as) _ (B+1) y3 b' hb3.sim.own fun y4 b4 hs4=>?_).wp
   have hb4:=(hb3.step (b:=b4) hWs3 hs4).out;obtain ⟨n4,hn4⟩:=hSE pre z hpre;have hl4:=P8 hb3.sim.mem hs4.base (by rw[hyw3];exact hl3) rfl
   have hd4:=P8 hb3.sim.mem hs4.base (by rw[hyw3];exact hd3) rfl
   have hend:=run_endRound (P:=P) none hl4;have hre:({ rec .busy none with state:=if (none:Option Code).isNone then .ready else .done,pending:=none }:Loop)=rec .ready none:=by rw[hrec];rfl
   rw[hre] at hend;have hb5:Bt w0 F0 K as a B (S (pre++[z])) y4.w y4:=by
    rw[hn4] at hb4;exact ⟨hb4.w,hb4.sim.nx (S (pre++[z])).nx,hb4.fr⟩
   exact ⟨_,_,hend,rfl,⟨_,hb5.put hsz _ hl4 rfl⟩,World.putObj_heap_same (Array.getElem?_eq_some_iff.1 hl4).1,(World.putObj_heap_other (by omega)).trans hd4⟩
  ·rintro z hz W ⟨⟨y,hy⟩,hl,hd⟩
   have hyr:=run_yield (P:=P) (args:=(encs z).toArray) hl (by rw[hrec];simpa using (hps z).symm)
   rw[hrec] at hyr;have hin:=hy.into (henc y z) (hps z) (hpt ys);have hWs:B+2<=W.heap.size:=(Array.getElem?_eq_some_iff.1 hl).1;refine ⟨fn,_,assign,body,hyr,roundIn_of_wpIn trivial ?_⟩
   have hyw:=hy.w;rw[<-hyw];refine (hassign ys z ⟨[],by rw[hz];rfl⟩ y.w y.F (BM y K K.ds) (a::as) _ (B+1) y _ hin.sim.own fun y' b' hs' => ?_).wp
   have hb2:=hin.step hWs hs';have hl2:=P8 hy.sim.mem hs'.base (by rw[hyw];exact hl) rfl
   have hd2:=P8 hy.sim.mem hs'.base (by rw[hyw];exact hd) rfl
   obtain ⟨W3,hW3⟩:∃W3,W3=y'.w.putObj (B+1) (.loop (rec .busy none)):=⟨_,rfl⟩
   have hWs2:B+2<=y'.w.heap.size:=(Array.getElem?_eq_some_iff.1 hl2).1;obtain ⟨y3,hb3⟩:∃y3,Bt w0 F0 K (a::as) b' B (SB ys z) W3 y3:=by rw[hW3];exact ⟨_,hb2.put hsz _ hl2 rfl⟩
   have hl3:W3.heap[B+1]? = some (.loop (rec .busy none)):=by rw[hW3];exact World.putObj_heap_same (by omega)
   have hd3:W3.heap[B]? = some (.deferred (some [])):=by rw[hW3];exact (World.putObj_heap_other (by omega)).trans hd2
   have hWs3:B+2<=W3.heap.size:=(Array.getElem?_eq_some_iff.1 hl3).1;have hbeg:=run_beginRound (P:=P) hl2 (by rw[hrec])
   have hrb:({ rec .ready none with state:=.busy }:Loop)=rec .busy none:=by rw[hrec]
   rw[hrb,<-hW3] at hbeg;refine ⟨W3,hbeg,?_⟩
   have hyw3:=hb3.w;rw[<-hyw3];refine (hstop z hz y3.w y3.F (BM y3 K K.ds) (a::as) _ (B+1) y3 b' hb3.sim.own fun y4 b4 hs4=>?_).wp
   have hb4:=(hb3.step (b:=b4) hWs3 hs4).out;have hl4:=P8 hb3.sim.mem hs4.base (by rw[hyw3];exact hl3) rfl
   have hd4:=P8 hb3.sim.mem hs4.base (by rw[hyw3];exact hd3) rfl
   have hend:=run_endRound (P:=P) (some .ret) hl4;have hre:({ rec .busy none with state:=if (some Code.ret:Option Code).isNone then .ready else .done,pending:=some .ret }:Loop)=rec .done (some .ret):=by rw[hrec];rfl
   rw[hre] at hend;refine ⟨_,_,hend,rfl,⟨fun e=>(by rw[hz] at e;cases e),fun z' hz' => ?_⟩⟩
   rw[hz] at hz'
   cases hz'
   exact ⟨⟨_,hb4.put hsz _ hl4 rfl⟩,World.putObj_heap_same (Array.getElem?_eq_some_iff.1 hl4).1,(World.putObj_heap_other (by omega)).trans hd4⟩
  ·rintro e W2 ⟨⟨v,rfl⟩,h1,h2⟩
   cases hst:stop with
   | none=>
    obtain ⟨⟨y,hy⟩,hl,hd⟩:=h1 hst;have hend:=run_endLoop (P:=P) hl (by rw[hrec];simp)
    obtain ⟨W3,hW3⟩:∃W3,W3=W2.putObj (B+1) (.loop { rec .ready none with state:=.exhausted }):=⟨_,rfl⟩
    obtain ⟨y3,hb⟩:∃y3,Bt w0 F0 K as a B (S ys) W3 y3:=by rw[hW3];exact ⟨_,hy.put hsz _ hl rfl⟩
    have hd3:W3.heap[B]? = some (.deferred (some [])):=by rw[hW3];exact (World.putObj_heap_other (by omega)).trans hd
    rw[<-hW3] at hend;have hp:(rec .ready none).pending=none:=by rw[hrec]
    rw[hp] at hend;have hr:=rest hst B y3 hb.sim hsz (fun h=>by have:=hb.fr B h;omega) (by rw[hb.w];exact hd3)
    rw[hb.w] at hr;exact ⟨none,W3,hend,hr.wp⟩
   | some z=>
    obtain ⟨⟨y,hy⟩,hl,hd⟩:=h2 z hst;have hend:=run_endLoop (P:=P) hl (by rw[hrec];simp)
    obtain ⟨W3,hW3⟩:∃W3,W3=W2.putObj (B+1) (.loop { rec .done (some .ret) with state:=.exhausted }):=⟨_,rfl⟩
    obtain ⟨y3,hb⟩:∃y3,Bt w0 F0 K as a B (JK (SE ys z)) W3 y3:=by rw[hW3];exact ⟨_,hy.put hsz _ hl rfl⟩
    have hd3:W3.heap[B]? = some (.deferred (some [])):=by rw[hW3];exact (World.putObj_heap_other (by omega)).trans hd
    rw[<-hW3] at hend;have hp:(rec .done (some .ret)).pending=some .ret:=by rw[hrec]
    rw[hp] at hend;have hr:=restS z hst B y3 hb.sim hsz (fun h=>by have:=hb.fr B h;omega) (by rw[hb.w];exact hd3)
    rw[hb.w] at hr;refine ⟨some .ret,W3,hend,?_⟩
    have hr:=hr.wp;change (Code.ret).wpIn (I3 (O1 none k)) 0 P (wpK P Q none k as) _ _ at hr
    rw[hro] at hr;exact hr
theorem Cm{α:Type}{g:Operand}{ps:Array Tmp}{assign body:Code}{k:List KI}{gf:Nat}{caps:List (Nat×Nat)}{σ:St}
  (hk:Bz k=false) (hs:Sim w0 F0 K as σ x a)
  (eg:Bl P gf) (S:List α->St) (hg:∀s,(S s).ev g = .v (.c (.clo gf caps))) (h0:∃n,σ = { S [] with nx:=n }) (xs:List α) (vals:α->List SV) (encs:α->List Value) (henc:∀y z,J7 y (vals z) (encs z)) (hps:∀z,ps.size=(encs z).length)
  (hpt:∀pre,∀p∈ps.toList,p<(S pre).nt) (iter:MK P x gf caps encs xs fun s=>(S s).m)
  (SB SE:List α->α->St) (hSE:∀pre z,∃n,JK (SE pre z) = { S (pre++[z]) with nx:=n })
  (hassign:∀pre z,(∃t,xs=pre++z::t)->∀(w1:World) (F1:Nat->Prop) (K1:Kp) (as1:List Act) (Q1:Exit->Act->World->Prop) (l:Nat) (y:C0) (b:Act),Sim w1 F1 K1 as1 (Y6 (S pre) (ps.toList.zip (vals z))) y b->(∀y' b',Sim w1 F1 K1 as1 (SB pre z) y' b' -> Q1 .normal b' y'.w)->Wq P Q1 [.code assign] as1 .normal b y.w (some l))
  (hbody:∀pre z,(∃t,xs=pre++z::t)->∀(w1:World) (F1:Nat->Prop) (K1:Kp) (as1:List Act) (Q1:Exit->Act->World->Prop) (l:Nat) (y:C0) (b:Act),Sim w1 F1 K1 as1 (SB pre z) y b->(∀y' b',Sim w1 F1 K1 as1 (SE pre z) y' b' -> Q1 .normal b' y'.w)->Wq P Q1 [.code body] as1 .normal b y.w (some l))
  (rest:∀(D:Nat) (y:C0),Sim w0 F0 K as (S xs) y a->w0.heap.size<=D->¬y.F D->y.w.heap[D]? = some (.deferred (some []))->Wq P Q k as .normal { a with defers:={ target:=.collected D,args:=#[] } :: a.defers } y.w) :
  Wq P Q (.code (.rangeFunc g ps assign body)::k) as .normal a x.w:=
 Yw hk hs eg S hg h0 xs none vals encs henc hps hpt iter.toX SB SE (fun pre z _=>hSE pre z) (fun pre z h=>hassign pre z (by simpa using h)) hbody (fun z h=>by cases h) (fun _=>rest) (fun z h=>by cases h)
def AK(D:Nat):List Deferred:=[{ target:=.collected D,args:=#[] }]
theorem Sim.marked(h:Sim w0 F0 K as σ x a)(hfr:σ.fr=[])(hds:K.ds=[])(D:Nat):Sim x.w x.F (BM x K (AK D)) as σ x { a with defers:={ target:=.collected D,args:=#[] } :: a.defers }:=by
 have hd:=h.defers;have hf:=h.frs;rw[hfr] at hd hf;rw[hds] at hd;refine ⟨?_,h.nt,h.t,h.mem,h.base.own (AK D),?_⟩
 ·rw[hfr]
  show _::a.defers=AK D;rw[hd];rfl
 ·rw[hfr]
  cases hf
  exact .nil
theorem Sim.unmark{D:Nat}{σ2:St}{as' : List Act}{z:C0}{b:Act}(h:Sim w0 F0 K as σ x a)(hds:K.ds=[])(hD:w0.heap.size<=D)(hF:¬x.F D)(hd:x.w.heap[D]? = some (.deferred (some [])))(hfr:σ2.fr=[])
  (g:Sim x.w x.F (BM x K (AK D)) as' σ2 z b):b.defers=AK D∧z.w.heap[D]? = some (.deferred (some []))∧Sim w0 F0 K as' σ2 { z with w:=z.w.putObj D (.deferred none) } { b with defers:=[] }:=by
 have hz:=P8 h.mem g.base hd rfl;have hlt:D<x.w.heap.size:=(Array.getElem?_eq_some_iff.1 hd).1;have hb:=g.defers;have hf:=g.frs;rw[hfr] at hb hf;refine ⟨hb,hz,?_⟩
 have hs:Sim w0 F0 K as' σ2 z { b with defers:=[] }:=by
  refine ⟨?_,g.nt,g.t,g.mem,h.base.trans g.base,?_⟩
  ·rw[hfr,hds];rfl
  ·rw[hfr]
   cases hf
   exact .nil
 refine hs.world rfl rfl rfl (by simp) (fun c hc=>World.putObj_heap_other ?_) (fun p hp=>World.putObj_heap_other ?_) (fun c hc _=>World.putObj_heap_other ?_)
 ·intro e
  subst e;rcases g.base.fn c hc with h1 | h1
  ·exact hF h1
  ·omega
 ·intro e
  cases hm:σ2.m p with
  | none=>rw[(g.mem.dom p).1 hm] at hp;cases hp
  | some en=>
   obtain ⟨cs,ty,hc,_⟩:=g.mem.ent p en hm hp;rw[e,hz] at hc
   cases hc
 ·omega
theorem OJ{fn:Func}{R:Ending->World->Prop}{D:Nat}{e:Exit}{w:World}(hd:a.defers=AK D)(hh:w.heap[D]? = some (.deferred (some [])))(he:e = .ret∨e = .normal)
  (h:bodyPost P fn R e { a with defers:=[] } (w.putObj D (.deferred none))):bodyPostM Fence.wide 0 P fn R e a w:=by
 have key:LeavesInM Fence.wide 0 P fn a.tmps R a.defers .returning w:=by
  rw[hd];refine ⟨by simp,.inl ⟨_,_,rfl,run_takeDeferred hh,?_⟩⟩
  rcases he with rfl | rfl
  ·obtain ⟨_,v,hv,hR⟩:=h
   exact ⟨v,hv,hR⟩
  ·obtain ⟨_,v,hv,hR⟩:=h
   exact ⟨v,hv,hR⟩
 rcases he with rfl | rfl<;>exact key
theorem IL{f:FuncId}{fn:Func}{c:Code}{args:Array Value}{w:World}{R:Ending->World->Prop}(hf:P.funcs[f]? = some fn)(hb:fn.body=some c)
  (h:Wq P (bodyPostM Fence.wide 0 P fn R) [.code c] [] .normal { tmps:=args++Array.replicate (fn.ntmps-args.size) undef,defers:=[] } w):Calls P f args w R:=
 (callsIn_wide (n:=0)).1 (callsIn_of_wp_marks hf hb trivial h.wp rfl)
theorem A2u{ops:Array Oper}{i:Nat}{dec:List (Nat×Bool)}{k:List KI}{o:Oper}{c:Call}{f:Operand}{l:Nat}{w:World}{R:World->Prop}{ans:Bool}(hk:Bz k=false)(hi:ops[i]? = some o)(hw:Region.wanted o (yielded ops a.tmps)=true)
  (hop:o.op = .call c) (hcal:c.callee = .value f) (hf:a.eval f = .func (.yield l) #[] #[])
  (hy:YieldAt Fence.wide 0 P l (c.args.map a.eval) w fun e W' => e = .returned (.bool ans)∧R W') (hK:∀W',R W' -> Wq P Q (.ops ops (i+1) dec::k) as .normal (a.put o.dst (.bool ans)) W'):Wq P Q (.ops ops i dec::k) as .normal a w:=by
 refine ⟨?_⟩
 have hro:O1 none k=none:=by unfold O1;rw[hk];rfl
 show wpOpsIn (I3 (O1 none k)) 0 P ops (wpK P Q none k as) (List.range' i (ops.size-i)) a w;have hlt:i<ops.size:=(Array.getElem?_eq_some_iff.1 hi).1;rw[show ops.size-i=(ops.size-(i+1))+1 from by omega,List.range'_succ,wpOpsIn_cons]
 unfold wpOpIn;simp only[hi,hw,if_true];rw[hro];obtain ⟨fn,tmps,assign,body,hyr,hR⟩:=hy;have hrun:(execOp a.eval o).run P w = .ok (.round l fn tmps assign body) w:=by
  simp only[execOp,hop,resolve,hcal,Deferred.ofValue,hf,Sem.run_bind,Sem.run_pure,Result.andThen_ok,invoke];simpa using hyr
 refine ⟨fun g _=>trivial,?_⟩
 rw[Oper.semAt_eq _ _ _ (fun d hd=>by rw[hop] at hd;cases hd),hrun]
 refine ⟨An none 0,hR.mono fun e W' h=>?_⟩
 obtain ⟨rfl,hr⟩:=h;have:=(hK W' hr).wp
 have h2:wpOpsIn (I3 (O1 none k)) 0 P ops (wpK P Q none k as) (List.range' (i+1) (ops.size-(i+1))) (a.put o.dst (.bool ans)) W' := this;rw[hro] at h2;exact h2
end
end
section
def one(e:En):Nat->Option En:=fun p=>if p=0 then some e else none
def MuC(P:Program)(f:Nat)(off len es:Nat)(e:En)(rest:List SV)(e' : En):Prop:=
 ∀(x:C0) (vs:List Value),(∀p,p≠0->x.k p = .no)->P0 x (one e)->J7 x (.v (.c (.slc 0 off len es))::rest) vs ->
  Calls P f vs.toArray x.w fun ε w' => ∃v y,ε = .returned v∧y.w=w' ∧ Tr x none y (one e')∧B8 y (.t []) v
def GY(x:C0):Nat×Nat:=
 match x.w.heap[x.β 0]? with
 | some (.cells cs ty _)=>(ty,cs.size)
 | _=>(0,0)
def HA(x:C0):Kp:=⟨fun b=>x.k 0 = .real->x.β 0≠b,some (x.k 0,x.β 0,GY x),[]⟩
def RQ(nt off len es:Nat)(e:En)(rest:List SV):St:=⟨Hm (.v (.c (.slc 0 off len es))::rest),one e,nt,16,[]⟩
def B1e(P:Program)(fn:Func)(x:C0)(e' : En):Exit->Act->World->Prop:=
 bodyPost P fn fun ε w' => ∃v y,ε = .returned v∧y.w=w' ∧ Tr x none y (one e')∧B8 y (.t []) v
theorem JA{P:Program}{f:Nat}{fn:Func}{c:Code}{off len es:Nat}{e e' : En}{rest:List SV}(hf:P.funcs[f]? = some fn)(hb:fn.body=some c)(hlen:Nat.ble (rest.length+1) fn.ntmps=true)
  (h:∀(x:C0) (a:Act),(∀p,p≠0->x.k p = .no)->P0 x (one e)->Sim x.w x.F (HA x) [] (RQ fn.ntmps off len es e rest) x a->Wq P (B1e P fn x e') [.code c] [] .normal a x.w):MuC P f off len es e rest e' := by
 intro x vs hk hm hden;refine calls_of_wp hf hb ((wpIn_wide (n:=0)).1 (h x _ hk hm ?_).wp)
 have hl:=Nat.le_of_ble_eq_true hlen;have hn:x.k 0 ≠ .no:=fun h0=>by
  have:=(hm.dom 0).2 h0
  simp [one] at this
 refine ⟨rfl,by have:=Gu hden;simp at this;simp [RQ];omega,AX hden _,hm,?_,.nil⟩
 refine ⟨fun b h=>h,fun b h=>.inl h,Nat.le_refl _,fun b _ _=>rfl,fun p hp _=>?_,rfl,rfl,rfl,fun q hq=>?_⟩
 ·by_cases h0:p=0
  ·subst h0
   intro hK;exact hK hp rfl
  ·rw[hk p h0] at hp;cases hp
 ·cases hq
  refine ⟨hn,rfl,fun hr=>⟨rfl,?_⟩⟩
  obtain ⟨cs,ty,hc,_⟩:=hm.ent 0 e rfl hr;refine ⟨cs,?_,?_⟩<;>simp [GY,hc]
def Hf(env:D6)(fn:Func)(unroll:Bool)(n:Nat)(c:G5)(path:List Bool):Option (List Prop×En):=
 match run env unroll n c path with
 | ⟨ob,_,⟨[],x,σ⟩⟩=>
  match fn.results.toList,σ.m 0,(match x with | .ret=>true | .normal=>true | _=>false) with
  | [],some e,true=>some (ob,e)
  | _,_,_=>none
 | _=>none
def T9(i:It):Bool:=F4 i && Dz i
def EO:En->Bool
 | .fl l=>l.all T9
 | .sq q=>A0m q
theorem Yu{x y:C0}:∀{i:It},T9 i=true->∀(d:Nat) (vs:List Value),F8 x d i vs->F8 y d i vs:=by
 intro i h d vs hd
 cases i
 case sl q=>simp [T9,Dz] at h
 case rp q j off=>simp [T9,Dz] at h
 case vsl v q=>simp [T9,Dz] at h
 case ptr p off=>simp [T9,F4] at h
 case ep p es j off=>simp [T9,F4] at h
 case slc p off len es=>simp [T9,F4] at h
 case sv p lo len es=>simp [T9,F4] at h
 case mp p=>simp [T9,F4] at h
 case dead=>simp [T9,F4] at h
 case old=>simp [T9,F4] at h
 case arr p off n es=>simp [T9,F4] at h
 case clo f c=>
  cases c with
  | nil=>cases d<;>(simp only[F8] at hd ⊢;exact ⟨fun b hb=>by simp at hb,hd.2⟩)
  | cons a l=>simp [T9,F4] at h
 all_goals (cases d<;>exact hd)
theorem QK{x y:C0}:∀{l:List It} {cs:List Value},(∀i∈l,T9 i=true)->C6 x.D l cs->C6 y.D l cs
 | [],_,_,h=>h
 | i::_,_,hr,⟨c1,c2,e,⟨d,h1⟩,h2⟩=>⟨c1,c2,e,⟨d,Yu (hr i List.mem_cons_self) d c1 h1⟩,QK (fun j hj=>hr j (List.mem_cons_of_mem _ hj)) h2⟩
theorem TS:∀(l:List (Fp×Fp×Fp)) (n k:Nat),∀i∈J9 l k n,T9 i=true
 | _,0,_,_,h=>by cases h
 | l,n+1,k,i,h=>by
  simp only[J9,List.mem_cons] at h;rcases h with rfl | rfl | rfl | h
  ·rfl
  ·rfl
  ·rfl
  ·exact TS l n (k+1) i h
theorem B9b{q:Sq}(h:A0m q=true)(j:Nat):∀i∈q.get j,T9 i=true:=by
 intro i hi
 cases q<;>simp only[Sq.get,A0.its,G0.its,K5.its,M5,W8,List.mem_cons,List.not_mem_nil,or_false] at hi<;>first
  | (cases h;done)
  | (exact TS _ _ _ i hi)
  | (rcases hi with rfl | rfl | rfl | rfl | rfl | rfl | rfl | rfl<;>rfl)
  | (rcases hi with rfl | rfl | rfl | rfl | rfl | rfl<;>rfl)
  | (rcases hi with rfl | rfl | rfl | rfl | rfl<;>rfl)
  | (rcases hi with rfl | rfl | rfl<;>rfl)
  | (rcases hi with rfl | rfl<;>rfl)
  | (subst hi;rfl)
theorem JS{x y:C0}{e:En}{cs:List Value}(h:EO e=true)(hd:C9 x e cs):C9 y e cs:=by
 cases e with
 | fl l=>exact QK (fun i hi=>List.all_eq_true.1 h i hi) hd
 | sq q=>exact ⟨hd.1,fun i hi=>let ⟨c,hc,hj⟩:=hd.2 i hi;⟨c,QK (B9b h i) hc,hj⟩⟩
section
variable {P:Program} {env:D6}
theorem HL(hE:A7 P env){fn:Func}{x0:C0}{e0:En}(hk:∀p,p≠0->x0.k p = .no)(hm0:P0 x0 (one e0)){unroll:Bool}{n:Nat}{k0:List KI}{ex:Exit}{σ0:St}{path:List Bool}{ob:List Prop}{e e' : En}{as:List Act}{x:C0}{a:Act}
  (h:Hf env fn unroll n ⟨k0,ex,σ0⟩ path=some (ob,e)) (hp:EO e=true) (ho:A5 ob) (hconv:∀y cs,C9 y e cs->C9 y e' cs) (hfl:(∃l l',e = .fl l∧e' = .fl l')∨∃q q',e = .sq q∧e' = .sq q' ∧ q'.n=q.n)
  (hs:Sim x0.w x0.F (HA x0) as σ0 x a):Wq P (B1e P fn x0 e') k0 as ex a x.w:=by
 unfold Hf at h;split at h
 ·rename_i ob2 path2 e2 σ2 hrun
  split at h
  ·rename_i e3 hres hm hx
   cases h
   refine ⟨?_⟩
   have hrs:=Ep (ρ:=none) (Q:=B1e P fn x0 e') hE (unroll:=unroll) n (c:=⟨k0,ex,σ0⟩) (path:=path) (as:=as) (x:=x) (a:=a) (by rw[hrun];exact ho) hs
   refine hrs fun as' y a' hs=>?_
   rw[hrun] at hs ⊢
   have hb:=hs.base;obtain ⟨hn0,hp1,hp2⟩:=hb.pin _ rfl;have hp1:y.k 0=x0.k 0:=hp1;obtain ⟨v,hv,hdv⟩:=S5 hE hs.mem hs.t (r:=[]) (o:=[]) (by rw[hres];rfl) trivial
   have hold:∀b,x0.F b->y.w.heap[b]? = x0.w.heap[b]? := fun b hF=>hb.keep b (hm0.fw b hF) fun hr e=>hm0.own 0 hr (e ▸ hF)
   have hmo:=hs.mem;have tr:Tr x0 none ⟨y.w,x0.F,fun p=>if p=0 then x0.k 0 else .no,x0.β⟩ (one e'):=by
    refine ⟨⟨hb.size,fun b hF=>⟨hF,hold b hF⟩,fun p hp=>?_,fun _ _=>rfl,fun p hp cs ty hc=>?_⟩,⟨fun p=>?_,fun p l hl=>?_,fun p q hq hn=>?_,fun p e1 he hr=>?_,fun p q hp hq _=>?_,fun p hp=>?_,fun b hF=>Nat.lt_of_lt_of_le (hm0.fw b hF) hb.size⟩,hb.os,hb.tape,hb.output,fun b hlt hne=>?_,fun p hp=>?_,fun b hF=>.inl hF⟩
    ·by_cases h0:p=0
     ·subst h0;rfl
     ·exact absurd (hk p h0) hp
    ·have hp:x0.k p = .real:=hp
     have hc:x0.w.heap[x0.β p]? = some (.cells cs ty (0,0)):=hc;by_cases h0:p=0
     ·subst h0
      obtain ⟨g1,cs',g2,g3⟩:=hp2 hp;have g1:y.β 0=x0.β 0:=g1;rw[g1] at g2;have hb1:GY x0=(ty,cs.size):=by simp [GY,hc]
      rw[hb1] at g2 g3;exact ⟨cs',g2,g3⟩
     ·rw[hk p h0] at hp;cases hp
    ·by_cases h0:p=0
     ·subst h0
      show one e' 0=none↔(if (0:Nat)=0 then x0.k 0 else .no) = .no
      simp only[one,if_true];exact ⟨fun h=>(by cases h),fun h=>absurd h hn0⟩
     ·show one e' p=none↔(if p=0 then x0.k 0 else .no) = .no
      simp [one,h0]
    ·by_cases h0:p=0
     ·subst h0
      simp only[one,if_true,Option.some.injEq] at hl;subst hl;rcases hfl with ⟨l1,l2,he,he'⟩ | ⟨q1,q2,_,he',_⟩
      ·show (if (0:Nat)=0 then x0.k 0 else .no) = .real
       rw[if_pos rfl,<-hp1];exact hmo.fl 0 l1 (by rw[hm,he])
      ·cases he'
     ·simp [one,h0] at hl
    ·by_cases h0:p=0
     ·subst h0
      simp only[one,if_true,Option.some.injEq] at hq;subst hq;rcases hfl with ⟨l1,l2,_,he'⟩ | ⟨q1,q2,he,he',hqn⟩
      ·cases he'
      ·cases he'
       rw[hqn];refine hmo.nil 0 q1 (by rw[hm,he]) ?_
       rw[hp1];simpa using hn
     ·simp [one,h0] at hq
    ·by_cases h0:p=0
     ·subst h0
      simp only[one,if_true,Option.some.injEq] at he;subst he;have hr:x0.k 0 = .real:=by simpa using hr
      obtain ⟨cs,ty,hc,hd⟩:=hmo.ent 0 _ hm (by rw[hp1];exact hr)
      have g1:y.β 0=x0.β 0:=(hp2 hr).1;rw[g1] at hc;exact ⟨cs,ty,hc,hconv _ _ (JS hp hd)⟩
     ·simp [one,h0] at he
    ·by_cases h0:p=0
     ·by_cases h1:q=0
      ·rw[h0,h1]
      ·simp [h1] at hq
     ·simp [h0] at hp
    ·by_cases h0:p=0
     ·subst h0
      exact hm0.own 0 (by simpa using hp)
     ·simp [h0] at hp
    ·exact hb.keep b hlt fun hr=>hne 0 hr
    ·by_cases h0:p=0
     ·subst h0
      exact .inl ⟨by simpa using hp,rfl⟩
     ·simp [h0] at hp
   have hv0:B8 (⟨y.w,x0.F,fun p=>if p=0 then x0.k 0 else .no,x0.β⟩:C0) (.t []) v:=by
    obtain ⟨vs,e,hc⟩:=hdv
    cases hc
    exact ⟨[],e,.nil⟩
   cases e2<;>simp at hx
   ·exact ⟨hs.defers.trans (IY _),v,hv,v,⟨y.w,x0.F,fun p=>if p=0 then x0.k 0 else .no,x0.β⟩,rfl,rfl,tr,hv0⟩
   ·exact ⟨hs.defers.trans (IY _),v,hv,v,⟨y.w,x0.F,fun p=>if p=0 then x0.k 0 else .no,x0.β⟩,rfl,rfl,tr,hv0⟩
  ·cases h
 ·cases h
theorem XQ{x:C0}{m:Nat->Option En}(h:P0 x m)(p:Nat):P0 (kx x (some p)) (fun q=>if q=p then none else (m q).map (W0 p)):=by
 refine ⟨fun q=>?_,fun q l hq=>?_,fun q s hq hn=>?_,fun q e hq hr=>?_,fun q r hq hr he=>?_,fun q hq=>?_,h.fw⟩
 ·by_cases h0:q=p
  ·simp [kx,h0]
  ·simp only[kx,h0,if_false,Option.map_eq_none_iff];exact h.dom q
 ·by_cases h0:q=p
  ·simp [h0] at hq
  ·simp only[h0,if_false,Option.map_eq_some_iff] at hq
   obtain ⟨e,he,hs⟩:=hq
   cases e with
   | sq s=>simp [W0] at hs
   | fl l0=>simp only[kx,h0,if_false];exact h.fl q l0 he
 ·by_cases h0:q=p
  ·simp [h0] at hq
  ·simp only[h0,if_false,Option.map_eq_some_iff] at hq
   obtain ⟨e,he,hs⟩:=hq;simp only[kx,h0,if_false] at hn
   cases e with
   | fl l0=>simp [W0] at hs
   | sq s0=>simp only[W0,En.sq.injEq] at hs;subst hs;exact h.nil q s0 he hn
 ·by_cases h0:q=p
  ·simp [h0] at hq
  ·simp only[h0,if_false,Option.map_eq_some_iff] at hq
   obtain ⟨e0,he,hs⟩:=hq;simp only[kx,h0,if_false] at hr;obtain ⟨cs,ty,hc,hd⟩:=h.ent q e0 he hr;subst hs;exact ⟨cs,ty,hc,YG p hd⟩
 ·by_cases h0:q=p
  ·simp [kx,h0] at hq
  ·by_cases h1:r=p
   ·simp [kx,h1] at hr
   ·simp only[kx,h0,h1,if_false] at hq hr
    exact h.inj q r hq hr he
 ·by_cases h0:q=p
  ·simp [kx,h0] at hq
  ·simp only[kx,h0,if_false] at hq
   exact h.own q hq
abbrev MuS:=Nat->Nat->Nat->En->List SV->Option (List Prop×En)
def mu1(spec:MuS):Zj:=fun args m=>
 match args with
 | .v (.c (.slc p off len es))::rest=>
  match m p with
  | some e=>
   match MZ (fun q=>if q=p then none else (m q).map (W0 p)) (rest.map (N3 p)) with
   | some (o,rest')=>
    match spec off len es e rest' with
    | some (o',e')=>if EO e && EO e' then some (o++o',.t [],[(p,e')]) else none
    | none=>none
   | none=>none
  | none=>none
 | _=>none
theorem YH{x:C0}(p:Nat):∀{l:List SV} {vs:List Value},J7 x l vs->J7 (kx x (some p)) (l.map (N3 p)) vs
 | [],_,h=>by cases h;exact .nil
 | a::l,_,h=>by cases h with | cons h1 h2=>exact .cons (Wl p h1) (YH p h2)
theorem D2y{f:Nat}{spec:MuS}(h:∀off len es e rest o e',spec off len es e rest=some (o,e')->A5 o->EO e=true->EO e' = true->MuC P f off len es e rest e'):MuD P f (mu1 spec):=by
 intro args m' o r ups hsp ho x m vs hsub hm hd
 unfold mu1 at hsp;split at hsp
 ·rename_i p off len es rest
  split at hsp
  ·rename_i e he
   split at hsp
   ·rename_i o1 rest' hrd
    split at hsp
    ·rename_i o2 e' hs
     split at hsp
     ·rename_i hpe
      simp only[Bool.and_eq_true] at hpe
      cases hsp
      have ho:=D7.1 ho;have hmp:=hsub p e he
      cases hd with
      | cons hd1 hd2=>
       rename_i v1 vs1;have hkp:x.k p ≠ .no:=fun h0=>by have:=(hm.dom p).2 h0;rw[hmp] at this;cases this
       let F' : Nat->Prop:=fun b=>x.F b∨∃q,q≠p∧x.k q = .real∧b=x.β q
       let x' : C0:=⟨x.w,F',fun q=>if q=0 then x.k p else .no,fun _=>x.β p⟩
       have hrest:J7 x' rest' vs1:=by
        refine Di (x:=kx x (some p)) (y:=x') (XQ hm p) (fun q e1 hq=>?_) rfl (fun b hb=>.inl hb) (.inr fun q hq=>?_) (YH p hd2) hrd ho.1
        ·by_cases h0:q=p
         ·simp [h0] at hq
         ·simp only[h0,if_false,Option.map_eq_some_iff] at hq ⊢
          obtain ⟨e0,h1,h2⟩:=hq;exact ⟨e0,hsub q e0 h1,h2⟩
        ·by_cases h0:q=p
         ·simp [kx,h0] at hq
         ·simp only[kx,h0,if_false] at hq
          exact .inr ⟨q,h0,hq,rfl⟩
       have hmem:P0 x' (one e):=by
        refine ⟨fun q=>?_,fun q l hq=>?_,fun q s hq hn=>?_,fun q e1 hq hr=>?_,fun q r hq hr _=>?_,fun q hq=>?_,fun b hb=>?_⟩
        ·by_cases h0:q=0
         ·subst h0;simp [one,x',hkp]
         ·simp [one,x',h0]
        ·by_cases h0:q=0
         ·subst h0
          simp only[one,if_true,Option.some.injEq] at hq;subst hq;exact hm.fl p l hmp
         ·simp [one,h0] at hq
        ·by_cases h0:q=0
         ·subst h0
          simp only[one,if_true,Option.some.injEq] at hq;subst hq;exact hm.nil p s hmp hn
         ·simp [one,h0] at hq
        ·by_cases h0:q=0
         ·subst h0
          simp only[one,if_true,Option.some.injEq] at hq;subst hq;obtain ⟨cs,ty,hc,hdd⟩:=hm.ent p e hmp hr;exact ⟨cs,ty,hc,JS hpe.1 hdd⟩
         ·simp [one,h0] at hq
        ·by_cases h0:q=0
         ·by_cases h1:r=0
          ·rw[h0,h1]
          ·simp [x',h1] at hr
         ·simp [x',h0] at hq
        ·by_cases h0:q=0
         ·subst h0
          have hr:x.k p = .real:=hq;intro hF;rcases hF with hF | ⟨q,hne,hq,e⟩
          ·exact hm.own p hr hF
          ·exact hne (hm.inj p q hr hq e).symm
         ·simp [x',h0] at hq
        ·rcases hb with hb | ⟨q,_,hq,rfl⟩
         ·exact hm.fw b hb
         ·exact hm.lt hq
       have hslc:B8 x' (.v (.c (.slc 0 off len es))) v1:=by
        obtain ⟨h1,d,h2⟩:=hd1;refine ⟨h1,d,?_⟩
        cases d<;>(simp only[F8] at h2 ⊢;exact h2)
       refine (h off len es e rest' o2 e' hs ho.2 hpe.1 hpe.2 x' (v1::vs1) (fun q h0=>by simp [x',h0]) hmem (.cons hslc hrest)).mono fun ε w' ⟨v,y,he1,hw,ht,hv⟩=>?_
       have hold:∀b,F' b->y.w.heap[b]? = x.w.heap[b]? := fun b hb=>(ht.ext.ro b hb).2
       have hk0:y.k 0=x.k p:=ht.ext.k 0 (by show (if (0:Nat)=0 then x.k p else .no) ≠ .no;rw[if_pos rfl];exact hkp)
       have hext:Ext x ⟨y.w,x.F,x.k,x.β⟩:=by
        refine ⟨ht.ext.size,fun b hb=>⟨hb,hold b (.inl hb)⟩,fun _ _=>rfl,fun _ _=>rfl,fun q hq cs ty hc=>?_⟩
        by_cases h0:q=p
        ·subst h0
         exact ht.ext.own 0 hq cs ty hc
        ·exact ⟨cs,by show y.w.heap[x.β q]? = _;rw[hold _ (.inr ⟨q,h0,hq,rfl⟩)];exact hc,rfl⟩
       refine ⟨v,⟨y.w,x.F,x.k,x.β⟩,he1,hw,?_,?_⟩
       ·rw[Et]
        refine ⟨hext,⟨fun q=>?_,fun q l hq=>?_,fun q s hq hn=>?_,fun q e1 hq hr=>?_,hm.inj,hm.own,fun b hb=>Nat.lt_of_lt_of_le (hm.fw b hb) ht.ext.size⟩,ht.os,ht.tape,ht.output,fun b hlt hne=>?_,fun q hq=>.inl ⟨hq,rfl⟩,fun b hb=>.inl hb⟩
        ·by_cases h0:q=p
         ·subst h0;simp [hkp]
         ·simp only[h0,if_false];exact hm.dom q
        ·by_cases h0:q=p
         ·subst h0
          simp only[if_true,Option.some.injEq] at hq;subst hq;have:=ht.mem.fl 0 l rfl
          rw[hk0] at this;exact this
         ·simp only[h0,if_false] at hq;exact hm.fl q l hq
        ·by_cases h0:q=p
         ·subst h0
          simp only[if_true,Option.some.injEq] at hq;subst hq;exact ht.mem.nil 0 s rfl (by rw[hk0];exact hn)
         ·simp only[h0,if_false] at hq;exact hm.nil q s hq hn
        ·by_cases h0:q=p
         ·subst h0
          simp only[if_true,Option.some.injEq] at hq;subst hq;obtain ⟨cs,ty,hc,hdd⟩:=ht.mem.ent 0 _ rfl (by rw[hk0];exact hr)
          have hβ:y.β 0=x.β q:=ht.ext.β 0 hr;rw[hβ] at hc;exact ⟨cs,ty,hc,JS hpe.2 hdd⟩
         ·simp only[h0,if_false] at hq
          obtain ⟨cs,ty,hc,hdd⟩:=hm.ent q e1 hq hr;exact ⟨cs,ty,by show y.w.heap[x.β q]? = _;rw[hold _ (.inr ⟨q,h0,hr,rfl⟩)];exact hc,K8 hext hdd⟩
        ·refine ht.blk b hlt fun q hq=>?_
         by_cases h0:q=0
         ·subst h0;exact hne p hq
         ·simp [x',h0] at hq
       ·obtain ⟨vs,e2,hc⟩:=hv
        cases hc
        exact ⟨[],e2,.nil⟩
     ·cases hsp
    ·cases hsp
   ·cases hsp
  ·cases hsp
 ·cases hsp
theorem OK(hE:A7 P env)(f:Nat)(spec:MuS)(he:Bl P f)(h:∀off len es e rest o e',spec off len es e rest=some (o,e')->A5 o->EO e=true->EO e' = true->MuC P f off len es e rest e') :
  A7 P { env with mu:=fun g=>if g=f then some (mu1 spec) else env.mu g }:=by
 refine ⟨hE.ty,hE.mixed,hE.fn,fun g s hg=>?_,hE.inl,hE.ex,hE.inv⟩
 have hg:(if g=f then some (mu1 spec) else env.mu g)=some s:=hg
 split at hg
 ·rename_i hgf
  cases hg
  subst hgf;exact ⟨he,D2y h⟩
 ·exact hE.mu g s hg
end
end
section
def C3n:It->Bool
 | .int _ _ | .bool _ | .lit _ | .ob _ | .val _ | .vsl _ _=>true
 | _=>false
theorem A4a{x y:C0}{d e:Nat}{i:It}{vs us:List Value}(h:C3n i=true)(h1:F8 x d i vs)(h2:F8 y e i us):vs=us:=by
 cases i<;>simp only[C3n] at h
 case int=>cases d<;>cases e<;>exact Eq.trans h1 (Eq.symm h2)
 case bool=>cases d<;>cases e<;>exact Eq.trans h1 (Eq.symm h2)
 case lit=>cases d<;>cases e<;>exact Eq.trans h1 (Eq.symm h2)
 case ob=>cases d<;>cases e<;>exact Eq.trans h1 (Eq.symm h2)
 case val=>cases d<;>cases e<;>exact h1.1.trans h2.1.symm
 case vsl=>cases d<;>cases e<;>first | exact h1.elim | exact h2.elim | exact h1.1.trans h2.1.symm
 all_goals cases h
def D5(y:C0)(p:Nat):C0:=⟨y.w,y.F,fun q=>if q=0 then .real else .no,fun _=>y.β p⟩
section
variable {P:Program} {y:C0} {m:Nat->Option En} {p:Nat} {e e' : En}
theorem Dt(h:P0 y m)(hp:m p=some e)(hr:y.k p = .real)(hd:∀(cs:Array Value) ty,y.w.heap[y.β p]? = some (.cells cs ty (0,0))->C9 y e cs.toList->C9 (D5 y p) e' cs.toList):P0 (D5 y p) (one e'):=by
 refine ⟨fun q=>?_,fun q l hq=>?_,fun q s hq hn=>?_,fun q e1 hq hk=>?_,fun q r hq hr' _=>?_,fun q hq=>?_,h.fw⟩
 ·by_cases h0:q=0<;>simp [one,D5,h0]
 ·by_cases h0:q=0
  ·simp [D5,h0]
  ·simp [one,h0] at hq
 ·by_cases h0:q=0<;>simp [D5,h0] at hn hq
 ·by_cases h0:q=0
  ·subst h0
   simp only[one,if_true,Option.some.injEq] at hq;subst hq;obtain ⟨cs,ty,hc,hdd⟩:=h.ent p e hp hr;exact ⟨cs,ty,hc,hd cs ty hc hdd⟩
  ·simp [one,h0] at hq
 ·by_cases h0:q=0
  ·by_cases h1:r=0
   ·rw[h0,h1]
   ·simp [D5,h1] at hr'
  ·simp [D5,h0] at hq
 ·exact h.own p hr
theorem KY(h:P0 y m)(hp:m p=some e)(hr:y.k p = .real)(hd:∀(cs:Array Value) ty,y.w.heap[y.β p]? = some (.cells cs ty (0,0))->C9 y e cs.toList->C9 (D5 y p) e' cs.toList){t:Nat->SV}{nt nx:Nat}{a:Act}(had:a.defers=[])(hnt:a.tmps.size=nt)
  (ht:∀j,B8 (D5 y p) (t j) (a.tmps.getD j undef)):Sim y.w y.F (HA (D5 y p)) [] ⟨t,one e',nt,nx,[]⟩ (D5 y p) a:=by
 refine ⟨had,hnt,ht,Dt h hp hr hd,?_,.nil⟩
 refine ⟨fun b h=>h,fun b h=>.inl h,Nat.le_refl _,fun b _ _=>rfl,fun q hq _=>?_,rfl,rfl,rfl,fun q hq=>?_⟩
 ·by_cases h0:q=0
  ·subst h0
   intro hK;exact hK hq rfl
  ·simp [D5,h0] at hq
 ·cases hq
  refine ⟨by simp [D5],rfl,fun hk=>⟨rfl,?_⟩⟩
  obtain ⟨cs,ty,hc,_⟩:=h.ent p e hp hr;have hc' : (D5 y p).w.heap[(D5 y p).β 0]? = some (.cells cs ty (0,0)):=hc;refine ⟨cs,?_,?_⟩<;>simp [GY,hc']
theorem CZ{i:It}{as:List Act}{σ:St}{z:C0}{a:Act}(hm:P0 (D5 y p) (one (.fl [i])))(hi:C3n i=true)(hs:Sim y.w y.F (HA (D5 y p)) as σ z a)(hσ:σ.m 0=some (.fl [i])) :
  y.w.grownBy z.w none∧z.k 0 = .real∧z.β 0=y.β p:=by
 obtain ⟨hn0,hp1,hp2⟩:=hs.base.pin _ rfl;have hk:z.k 0 = .real:=hp1;obtain ⟨hβ,cs,hc,hsz⟩:=hp2 rfl;have hβ:z.β 0=y.β p:=hβ;refine ⟨⟨hs.base.os,hs.base.tape,hs.base.output,hs.base.size,fun b hb _=>?_⟩,hk,hβ⟩
 by_cases h0:b=y.β p
 ·subst h0
  obtain ⟨cs1,ty1,hc1,d1,d2,e1,⟨n1,g1⟩,hcat1⟩:=hm.ent 0 _ rfl rfl;obtain ⟨cs2,ty2,hc2,f1,f2,e2,⟨n2,g2⟩,hcat2⟩:=hs.mem.ent 0 _ hσ hk;have hc1:y.w.heap[y.β p]? = some (.cells cs1 ty1 (0,0)):=hc1;rw[hβ] at hc2 hc;have hb1:GY (D5 y p)=(ty1,cs1.size):=by
   have hc1' : (D5 y p).w.heap[(D5 y p).β 0]? = some (.cells cs1 ty1 (0,0)):=hc1;simp [GY,hc1']
  rw[hb1] at hc;have h1:=A4a hi g1 g2;have h2:d2=[]:=hcat1;have h3:f2=[]:=hcat2;have h4:cs1=cs2:=by
   rw[<-Array.toList_inj,e1,e2,h1,h2,h3]
  rw[hc2] at hc;have hty:ty2=ty1:=by injection hc with hc;injection hc
  rw[hc2,hc1,h4,hty]
 ·exact hs.base.keep b hb (fun _ he=>h0 he.symm)
def C9y:It->Bool
 | .ptr 0 _=>true
 | i=>T9 i
def C2r:SV->Bool
 | .v (.c i)=>C9y i
 | .top=>true
 | _=>false
def A3b:List SV->Bool
 | []=>true
 | s::l=>C2r s && A3b l
theorem C2s{z z' : C0}{s:SV}{v:Value}(h:C2r s=true)(hk:z'.k 0 = .real)(hβ:z'.β 0=z.β 0)(hd:B8 z s v):B8 z' s v:=by
 unfold C2r at h;split at h
 ·rename_i i
  obtain ⟨h1,d,h2⟩:=hd;refine ⟨h1,d,?_⟩
  unfold C9y at h;split at h
  ·cases d<;>(simp only[F8] at h2 ⊢;exact ⟨hk,by rw[hβ];exact h2.2⟩)
  ·exact Yu h d _ h2
 ·trivial
 ·cases h
theorem B2a{tl:List Nat}:∀{svs:List SV},A3b svs=true->∀j,C2r (C7 .top tl svs j)=true:=by
 induction tl with
 | nil=>intro svs _ j;rfl
 | cons a tl ih=>
  intro svs h j
  cases svs with
  | nil=>rfl
  | cons s l=>
   simp only[A3b,Bool.and_eq_true] at h;simp only[C7];by_cases hj:j=a
   ·simp only[hj,if_true];exact h.1
   ·simp only[hj,if_false];exact ih h.2 j
theorem PO{z:C0}{nt nx nx' : Nat}{tl:List Nat}{svs:List SV}{ml:List Nat}{ens:List (Option En)}{w0:World}{F0:Nat->Prop}{K:Kp}{as:List Act}{a:Act}(hs:Sim w0 F0 K as (B0 nt tl svs ml ens nx [] []) z a)(hcap:A3b svs=true)(hds:K.ds=[])
  (hm:P0 y m) (hp:m p=some e) (hr:y.k p = .real) (hd:∀(cs:Array Value) ty,y.w.heap[y.β p]? = some (.cells cs ty (0,0))->C9 y e cs.toList->C9 (D5 y p) e' cs.toList) (hβ:z.β 0=y.β p) {dst:Nat} {b:Bool} (hdst:Nat.blt dst nt=true) :
  Sim y.w y.F (HA (D5 y p)) as ⟨M7 (C7 .top tl svs) dst (.v (.c (.lit b))),one e',nt,nx',[]⟩ (D5 y p) (a.put (some dst) (.bool b)):=by
 have hfr:Frs z K.ds [] as:=hs.frs
 cases hfr
 have had:a.defers=[]:=hs.defers.trans hds;refine KY hm hp hr hd (by simpa [Act.put] using had) (by have:=hs.nt;simp [Act.put];exact this) fun j=>?_
 have h0:=C2s (z' := D5 y p) (B2a hcap j) rfl hβ.symm (hs.t j);show B8 _ (M7 (C7 .top tl svs) dst (.v (.c (.lit b))) j) _;unfold M7;by_cases hj:j=dst
 ·subst hj
  simp only[if_true];have hlt:j<a.tmps.size:=by
   have h1:=hs.nt;have h2:a.tmps.size=nt:=h1;rw[h2];simpa [Nat.blt_eq] using hdst
  simp only[Act.put,Array.getD_eq_getD_getElem?,Array.getElem?_setIfInBounds,if_true,hlt,Option.getD_some];exact ⟨rfl,0,rfl⟩
 ·simp only[hj,if_false]
  have:(a.put (some dst) (.bool b)).tmps.getD j undef=a.tmps.getD j undef:=by
   simp [Act.put,Array.getD_eq_getD_getElem?,Ne.symm hj]
  rw[this];exact h0
theorem I5{ρ:Option Nat}{Q:Exit->Act->World->Prop}{ι:Type}(I:ι->List Act->Act->World->Prop)(μ:ι->Nat){k0 k:List KI}{c:Code}(hl:FQ k0=some (c,k))
  (round:∀i,(∀j,μ j<μ i->∀as b w,I j as b w->Wq P Q (.lp c::k) as .normal b w ρ)->∀as b w,I i as b w->Wq P Q (.code c :: .lp c::k) as .normal b w ρ) (i:ι) {as:List Act} {a:Act} {w:World} (hs:I i as a w) :
  Wq P Q k0 as .normal a w ρ:=by
 have hk0:k0 = .code (.loop c)::k:=by
  unfold FQ at hl;split at hl
  ·cases hl;rfl
  ·cases hl
 subst hk0;refine ⟨?_⟩
 have key:∀n i,μ i=n->∀as b w,I i as b w->wpL P (O1 ρ k) c (wpK P Q ρ k as) b w:=by
  intro n;induction n using Nat.strongRecOn with
  | _ n ih=>
   intro i hi as b w hsi;refine EX ?_
   exact (round i (fun j hj as b w hsj=>⟨ih (μ j) (hi ▸ hj) j rfl as b w hsj⟩) as b w hsi).wp
 exact ME (key _ i rfl as a w hs)
theorem Va{fn:Func}{R:Ending->World->Prop}{w0:World}{F0:Nat->Prop}{K:Kp}{as:List Act}{σ:St}{z:C0}{a:Act}{env:D6}(hE:A7 P env)(hs:Sim w0 F0 K as σ z a)(hds:K.ds=[])(hfr:σ.fr=[])(hres:fn.results.toList=[])
  (hR:∀v,R (.returned v) z.w) {x:Exit} (hx:x = .ret∨x = .normal):bodyPost P fn R x a z.w:=by
 obtain ⟨v,hv,_⟩:=S5 hE hs.mem hs.t (r:=[]) (o:=[]) (by rw[hres];rfl) trivial
 have hd:a.defers=[]:=by
  have:=hs.defers
  rw[hfr] at this;exact this.trans hds
 rcases hx with rfl | rfl
 ·exact ⟨hd,v,hv,hR v⟩
 ·exact ⟨hd,v,hv,hR v⟩
def J4:List KI->List KI
 | .ops o i d::k=>.ops o (i+1) d::k
 | k=>k
def C2a(k:List KI)(t:Nat->SV):Option (Option Nat×Operand×List Operand):=
 match k with
 | .ops ops i _::k=>
  match Bz k,ops[i]? with
  | false,some o=>
   match J6 ops.toList o t,o.op with
   | some true,.call c=>
    match c.callee with
    | .value f=>some (o.dst,f,c.args.toList)
    | _=>none
   | _,_=>none
  | _,_=>none
 | _=>none
theorem B0y{Q:Exit->Act->World->Prop}{k0:List KI}{w0:World}{F0:Nat->Prop}{K:Kp}{as:List Act}{σ:St}{z:C0}{a:Act}{dst:Option Nat}{f:Operand}{args:List Operand}(hy:C2a k0 σ.t=some (dst,f,args))(hs:Sim w0 F0 K as σ z a){l:Nat}
  (hf:σ.ev f = .v (.c (.val (.func (.yield l) #[] #[])))) {vs:List Value} (hv:args.map a.eval=vs) {R:World->Prop} {ans:Bool} (hY:YieldAt Fence.wide 0 P l vs.toArray z.w fun e W' => e = .returned (.bool ans)∧R W')
  (hK:∀W',R W' -> Wq P Q (J4 k0) as .normal (a.put dst (.bool ans)) W'):Wq P Q k0 as .normal a z.w:=by
 unfold C2a at hy;split at hy
 ·rename_i ops i dec k
  split at hy
  ·rename_i o hk hi
   split at hy
   ·rename_i c hw hop
    split at hy
    ·rename_i f2 hcal
     cases hy
     have hev:=FF hs.t f;rw[hf] at hev;refine A2u hk hi (Ew hs.t hw) hop hcal (U0 hev).1 ?_ hK
     rw[<-hv] at hY;have e:(List.map a.eval c.args.toList).toArray=c.args.map a.eval:=by rw[<-Array.toList_map]
     rw[e] at hY;exact hY
    ·cases hy
   ·cases hy
  ·cases hy
 ·cases hy
theorem Ey{Q:Exit->Act->World->Prop}{k0:List KI}{w0:World}{F0:Nat->Prop}{K:Kp}{as:List Act}{σ:St}{z:C0}{a:Act}{dst:Option Nat}{f:Operand}{args:List Operand}(hy:C2a k0 σ.t=some (dst,f,args))(hs:Sim w0 F0 K as σ z a){l:Nat}
  (hf:σ.ev f = .v (.c (.val (.func (.yield l) #[] #[])))) {vs:List Value} (hv:args.map a.eval=vs) {R:World->Prop} (hY:YieldAt Fence.wide 0 P l vs.toArray z.w fun e W' => e = .returned (.bool true)∧R W')
  (hK:∀W',R W' -> Wq P Q (J4 k0) as .normal (a.put dst (.bool true)) W'):Wq P Q k0 as .normal a z.w:=B0y (ans:=true) hy hs hf hv hY hK
def rfG:List KI->Operand
 | .code (.rangeFunc g _ _ _)::_=>g
 | _=>.tmp 0
def rfP:List KI->Array Tmp
 | .code (.rangeFunc _ p _ _)::_=>p
 | _=>#[]
def rfA:List KI->Code
 | .code (.rangeFunc _ _ c _)::_=>c
 | _=>.skip
def rfB:List KI->Code
 | .code (.rangeFunc _ _ _ c)::_=>c
 | _=>.skip
def rfR:List KI->List KI
 | .code (.rangeFunc _ _ _ _)::k=>k
 | _=>[]
def D9a:List KI->Bool
 | .code (.rangeFunc _ _ _ _)::k=>!Bz k
 | _=>false
theorem GG{k:List KI}(h:D9a k=true):k = .code (.rangeFunc (rfG k) (rfP k) (rfA k) (rfB k))::rfR k∧Bz (rfR k)=false:=by
 unfold D9a at h;split at h
 ·rename_i k
  exact ⟨rfl,by show Bz k=false;simpa using h⟩
 ·cases h
def RM(x:C0)(e' : En):Ending->World->Prop:=fun ε w' => ∃v y,ε = .returned v∧y.w=w' ∧ Tr x none y (one e')∧B8 y (.t []) v
theorem A0d{f:Nat}{fn:Func}{c:Code}{off len es:Nat}{e e' : En}{rest:List SV}(hf:P.funcs[f]? = some fn)(hb:fn.body=some c)(hlen:Nat.ble (rest.length+1) fn.ntmps=true)
  (h:∀(x:C0) (a:Act),(∀p,p≠0->x.k p = .no)->P0 x (one e)->Sim x.w x.F (HA x) [] (RQ fn.ntmps off len es e rest) x a->Wq P (bodyPostM Fence.wide 0 P fn (RM x e')) [.code c] [] .normal a x.w):MuC P f off len es e rest e' := by
 intro x vs hk hm hden;refine IL hf hb (h x _ hk hm ?_)
 have hl:=Nat.le_of_ble_eq_true hlen;have hn:x.k 0 ≠ .no:=fun h0=>by
  have:=(hm.dom 0).2 h0
  simp [one] at this
 refine ⟨rfl,by have:=Gu hden;simp at this;simp [RQ];omega,AX hden _,hm,?_,.nil⟩
 refine ⟨fun b h=>h,fun b h=>.inl h,Nat.le_refl _,fun b _ _=>rfl,fun p hp _=>?_,rfl,rfl,rfl,fun q hq=>?_⟩
 ·by_cases h0:p=0
  ·subst h0
   intro hK;exact hK hp rfl
  ·rw[hk p h0] at hp;cases hp
 ·cases hq
  refine ⟨hn,rfl,fun hr=>⟨rfl,?_⟩⟩
  obtain ⟨cs,ty,hc,_⟩:=hm.ent 0 e rfl hr;refine ⟨cs,?_,?_⟩<;>simp [GY,hc]
theorem A8x{env:D6}(hE:A7 P env){fn:Func}{x0:C0}{e0:En}(hk:∀p,p≠0->x0.k p = .no)(hm0:P0 x0 (one e0))(hres:fn.results.toList=[]){D:Nat}{y:C0}{a0:Act}{σ1:St}{as0:List Act}(h1:Sim x0.w x0.F (HA x0) as0 σ1 y a0)(hD:x0.w.heap.size<=D)(hF:¬y.F D)
  (hd:y.w.heap[D]? = some (.deferred (some []))) {σ2:St} {as:List Act} {z:C0} {b:Act} {e e' : En} (hfr:σ2.fr=[]) (hm2:σ2.m 0=some e) (hp:EO e=true) (hconv:∀y cs,C9 y e cs->C9 y e' cs) (hfl:(∃l l',e = .fl l∧e' = .fl l')∨∃q q',e = .sq q∧e' = .sq q' ∧ q'.n=q.n)
  (g:Sim y.w y.F (BM y (HA x0) (AK D)) as σ2 z b):bodyPostM Fence.wide 0 P fn (RM x0 e') .normal b z.w:=by
 obtain ⟨g1,g2,g3⟩:=h1.unmark rfl hD hF hd hfr g;refine OJ g1 g2 (.inr rfl) ?_
 have hmu:Hf env fn false 0 ⟨[],.normal,σ2⟩ []=some ([],e):=by
  simp [Hf,run,hres,hm2]
 exact (HL hE hk hm0 hmu hp trivial hconv hfl g3).wp
end
end
end
end Go.Proofs.YtifiiigbedjceaaGreat
