/- Parts of a proof, one behind the other: FwR, FwS, FwT, FwT6, FwT7, FwU, FwV, FwW, FwX, FwY, FwZ, Wk, Lm, Mm, Mu, Sz, Nl, Rg. No conditions. -/
import Derived.Orders
import Derived.Test.YtifiiigbedjceaaSkG
open Go.IntKind (wrap)
namespace Go.Proofs.Ytifiiigbedjceaa
noncomputable section
section

theorem V5 {env:Env} {ρ ρ' : Operand->SV} {m:Nat->Option En} {p:Nat} {o:Oper} (h:∀x∈o.op.operands,ρ x=ρ' x):H2 env ρ m p o=H2 env ρ' m p o:=by
 have C3b:∀ps:Array (Nat×Operand),(∀x∈ps.map (·.2),ρ x=ρ' x)->(ps.toList.map fun (x:Nat×Operand)=>(x.1,ρ x.2))=(ps.toList.map fun (x:Nat×Operand)=>(x.1,ρ' x.2)):=fun ps hp=>
  List.map_congr_left fun q hm=>by
   rw[hp q.2 (Array.mem_map.2 ⟨q,Array.mem_toList_iff.1 hm,rfl⟩)]
 have lst:∀ps:Array Operand,(∀x∈ps,ρ x=ρ' x)->ps.toList.map ρ=ps.toList.map ρ' := fun ps hp=>
  List.map_congr_left fun q hm=>hp q (Array.mem_toList_iff.1 hm)
 obtain ⟨dst,op,type,pos,after,guard⟩:=o;unfold H2
 cases op<;>simp only[Op.operands] at h<;>try simp only[]
 case build t ps=>rw[C3b ps fun x hx=>h x (by simpa using hx)]
 case buildSlice t n ps=>rw[C3b ps fun x hx=>h x (by simpa using hx)]
 case makeFunc fn first caps=>rw[lst caps fun x hx=>h x (by simp [hx])]
 case slice t x lo hi mx=>cases lo<;>cases hi<;>cases mx<;>simp_all
 case call c=>
  have ha:c.args.toList.map ρ=c.args.toList.map ρ' := lst c.args fun x hx=>h x (by simp [Call.operands,hx])
  cases hc:c.callee with
  | value f=>
   have hf:ρ f=ρ' f:=h f (by simp [Call.operands,hc])
   simp only[hf,ha]
  | invoke r m=>
   have hf:ρ r=ρ' r:=h r (by simp [Call.operands,hc])
   simp only[hf,ha]
  | builtin b=>
   simp only[ha]
   cases b<;>try simp only[]
   case append=>
    have nope:∀(f g:Operand->Operand->Nat->Option Res) (l:List Operand),(∀s x,l≠[s,x])->(match c.argTypes.toList,l with
      | [t,t'],[s,x]=>if t=t' then f s x t else none
      | _,_=>none)=(match c.argTypes.toList,l with
      | [t,t'],[s,x]=>if t=t' then g s x t else none
      | _,_=>none):=by
     intro f g l hl;split
     ·rename_i s x _;exact absurd rfl (hl s x)
     ·rfl
    cases hl:c.args.toList with
    | nil=>exact nope (fun s x t=>_) (fun s x t=>_) [] (by simp)
    | cons s l=>
     cases l with
     | nil=>exact nope (fun s x t=>_) (fun s x t=>_) [s] (by simp)
     | cons x l=>
      cases l with
      | cons y l=>exact nope (fun s x t=>_) (fun s x t=>_) (s::x::y::l) (by simp)
      | nil=>
       have h1:ρ s=ρ' s:=h s (by simp [Call.operands,hc];exact Array.mem_toList_iff.1 (by rw[hl];simp))
       have h2:ρ x=ρ' x:=h x (by simp [Call.operands,hc];exact Array.mem_toList_iff.1 (by rw[hl];simp))
       cases c.argTypes.toList with
       | nil=>rfl
       | cons t r=>
        cases r with
        | nil=>rfl
        | cons t' r=>
         cases r with
         | nil=>simp only[h1,h2]
         | cons _ _=>rfl
 all_goals (first | rfl | (simp_all;done) | skip)

end

section

def Z4 (k:Nat):Bool:=k == 1 || k == 3 || k == 5 || k == 6

theorem D9i:∀a b:Fin 6,E3u a.val b.val=false->a.val≠4∧b.val≠4∧(Z4 b.val=true->a.val≠3)∧(Z4 a.val=true->b.val≠3):=by decide

theorem B7a {a b:Nat} (ha:a<=5) (hb:b<=5) (h:E3u a b=false):a≠4∧b≠4∧(Z4 b=true->a≠3)∧(Z4 a=true->b≠3):=
 D9i ⟨a,by omega⟩ ⟨b,by omega⟩ h

theorem U7 {f g:Option (List Nat)} (h:B2a f g=true) (q:Nat) (h1:U1 f q=true) (h2:U1 g q=true):False:=by
 cases f with
 | none=>cases h
 | some a=>
  cases g with
  | none=>cases h
  | some b=>
   have mem:∀l:List Nat,P7 q l=true->q∈l:=by
    intro l;induction l with
    | nil=>intro h;cases h
    | cons r l ih=>
     intro h;simp only[P7] at h;split at h
     ·rename_i e;subst e;exact List.mem_cons_self
     ·exact List.mem_cons_of_mem _ (ih h)
   have:=List.all_eq_true.1 h q (mem a h1)
   have h2:P7 q b=true:=h2;rw[h2] at this
   cases this

theorem B4m {a b:Nat} {f g:Option (List Nat)} (ha:a<=5) (hb:b<=5) (h:B6z a b f g=false):a≠4∧b≠4∧(Z4 b=true->a=3->B2a f g=true)∧(Z4 a=true->b=3->B2a f g=true):=by
 have na:Nat.beq a 6=false:=by
  cases h6:Nat.beq a 6 with
  | false=>rfl
  | true=>have:=Nat.eq_of_beq_eq_true h6;omega
 have nb:Nat.beq b 6=false:=by
  cases h6:Nat.beq b 6 with
  | false=>rfl
  | true=>have:=Nat.eq_of_beq_eq_true h6;omega
 simp only[B6z,na,nb,Bool.false_eq_true,if_false,Bool.or_eq_false_iff,Bool.and_eq_false_iff,Bool.not_eq_false'] at h;obtain ⟨⟨h1,h2⟩,h3⟩:=h;have n1:a≠4:=fun e=>by subst e;cases h1
 have n2:b≠4:=fun e=>by subst e;cases h2
 refine ⟨n1,n2,fun hr h3' => ?_,fun hr h3' => ?_⟩
 ·rcases h3 with h3 | h3
  ·exact absurd h3' ((B7a ha hb h3).2.2.1 hr)
  ·exact h3
 ·rcases h3 with h3 | h3
  ·exact absurd h3' ((B7a ha hb h3).2.2.2 hr)
  ·exact h3

theorem C7k {m:Nat->Option En} {s x:SV} {i:TyI} {o:List Prop} {ups:List (Nat×En)} (h:A6e m s x i=some (o,ups)):∀q e,(q,e)∈ups->m q≠none:=by
 have one:∀{p:Nat} {e0 e1:En},m p=some e0->∀q e,(q,e)∈[(p,e1)]->m q≠none:=by
  intro p e0 e1 hp q e hq;simp only[List.mem_cons,List.not_mem_nil,or_false,Prod.mk.injEq] at hq;rw[hq.1,hp];simp
 unfold A6e at h;split at h
 ·split at h
  ·split at h
   ·split at h
    ·rename_i l hl
     simp only[Option.map_eq_some_iff] at h;obtain ⟨r,_,he⟩:=h;simp only[Prod.mk.injEq] at he;obtain ⟨rfl,rfl⟩:=he;exact one hl
    ·rename_i q hq
     split at h
     ·simp only[Option.map_eq_some_iff] at h
      obtain ⟨r,_,he⟩:=h;simp only[Prod.mk.injEq] at he;obtain ⟨rfl,rfl⟩:=he;exact one hq
     ·cases h
    ·cases h
   ·split at h
    ·rename_i q hq
     split at h
     ·split at h
      ·simp only[Option.map_eq_some_iff] at h
       obtain ⟨r,_,he⟩:=h;simp only[Prod.mk.injEq] at he;obtain ⟨rfl,rfl⟩:=he;exact one hq
      ·cases h
     ·cases h
    ·cases h
   ·cases h
  ·cases h
 ·cases h

section
variable {env:Env} {ρ:Operand->SV} {m:Nat->Option En} {p:Nat} {o:Oper} {r:Res}

theorem E7g (env:Env) (o:Oper):C4 env o<=6:=by
 unfold C4;split<;>(try decide)<;>(split<;>(try decide)<;>(split<;>(try decide)<;>(split<;>decide)))

theorem B5s {env:Env} {o:Oper} (h:C4 env o≠6):C4 env o<=5:=by have:=E7g env o;omega

/-- Only operations that read look at memory. -/
theorem A4j (hρ:∀f,ρ (.func f) = .v (.c (.clo f []))) (m' : Nat->Option En) (h:Z4 (C4 env o)=false) (h4:C4 env o≠4):H2 env ρ m p o=H2 env ρ m' p o:=by
 unfold C4 at h h4;unfold H2
 cases hop:o.op<;>simp only[hop] at h h4 ⊢<;>try (first | rfl | (exact absurd rfl h4) | (cases h;done))
 case convert src dst v=>
  cases hs:env.ty src with
  | none=>rfl
  | some j=>
   simp only[hs] at h ⊢
   cases hj:j.slc with
   | none=>cases env.ty dst<;>simp only[hj]
   | some e=>simp only[hj] at h;cases h
 case call c=>
  cases hc:c.callee with
  | builtin b=>
   simp only[hc] at h h4 ⊢
   cases b<;>first | rfl | exact absurd rfl h4 | (cases h;done)
  | invoke _ _=>simp only[hc] at h;cases h
  | value f=>
   simp only[hc] at h h4
   cases f with
   | func g=>
    simp only at h h4
    cases hx:env.ex g with
    | some k=>simp only[hρ,hx]
    | none=>
     cases hg:env.fn g with
     | none=>simp only[hx,hg] at h4;exact absurd rfl h4
     | some s=>simp only[hx,hg] at h;cases h
   | tmp t=>cases h
   | const v=>cases h
   | global g=>cases h

theorem C2y:∀(es:List En) (p q:Nat) (e:En),(q,e)∈G0 p es->p<=q
 | [],_,_,_,h=>by cases h
 | _::es,p,q,e,h=>by
  simp only[G0,List.mem_cons,Prod.mk.injEq] at h;rcases h with ⟨rfl,_⟩ | h
  ·exact Nat.le_refl _
  ·have:=C2y es (p+1) q e h;omega

theorem C3e {i:It} (h:pureV i=some r):r.ups=[]∧r.kill=none:=by cases h;exact ⟨rfl,rfl⟩
theorem E2q {x:Option (List Prop×It)} (h:B5d x=some r):r.ups=[]∧r.kill=none:=by
 obtain ⟨_,_,_,rfl⟩:=X9 h;exact ⟨rfl,rfl⟩

/-- What is written: new blocks, or, by a store, what is seen. -/
theorem B3i (hρ:∀f,ρ (.func f) = .v (.c (.clo f []))) (h:H2 env ρ m p o=some r) (h4:C4 env o≠4) (h6:C4 env o≠6) :
  r.kill=none∧(C4 env o≠3->∀q e,(q,e)∈r.ups->p<=q)∧(C4 env o=3->∀q e,(q,e)∈r.ups->m q≠none):=by
 have fin0:r.ups=[]∧r.kill=none->r.kill=none∧(C4 env o≠3->∀q e,(q,e)∈r.ups->p<=q)∧(C4 env o=3->∀q e,(q,e)∈r.ups->m q≠none):=by
  rintro ⟨h1,h2⟩
  exact ⟨h2,fun _ q e hq=>(by rw[h1] at hq;cases hq),fun _ q e hq=>(by rw[h1] at hq;cases hq)⟩
 have fin1:C4 env o≠3->(∃e,r.ups=[(p,e)])∧r.kill=none->r.kill=none∧(C4 env o≠3->∀q e,(q,e)∈r.ups->p<=q)∧(C4 env o=3->∀q e,(q,e)∈r.ups->m q≠none):=by
  rintro hne ⟨⟨e0,h1⟩,h2⟩
  refine ⟨h2,fun _ q e hq=>?_,fun h3=>absurd h3 hne⟩
  rw[h1] at hq;simp only[List.mem_cons,List.not_mem_nil,or_false,Prod.mk.injEq] at hq;omega
 unfold H2 at h
 cases hop:o.op<;>simp only[hop] at h
 case store t ad v=>
  have h3:C4 env o=3:=by simp [C4,hop]
  split at h
  ·split at h
   ·rename_i ob ups hs
    cases h
    exact ⟨rfl,fun hne=>absurd h3 hne,fun _=>C7k hs⟩
   ·cases h
  ·cases h
 case call c=>
  have key:∀{g:Nat} {args:List SV} {s:B7},env.fn g=some s->C4 env o≠3->A0m env m p g args=some r->r.kill=none∧(C4 env o≠3->∀q e,(q,e)∈r.ups->p<=q)∧(C4 env o=3->∀q e,(q,e)∈r.ups->m q≠none):=by
   intro g args s hg hne hr;unfold A0m at hr;simp only[hg] at hr;repeat' split at hr
   all_goals first
    | (cases hr;done)
    | (cases hr;exact ⟨rfl,fun _ q e hq=>C2y _ p q e hq,fun h3=>absurd h3 hne⟩)
  have key2:∀{f:Operand} {g:Nat} {args:List SV},C4 env o≠3->(∀g,f ≠ .func g)->B6t env m p f g args=some r->r.kill=none∧(C4 env o≠3->∀q e,(q,e)∈r.ups->p<=q)∧(C4 env o=3->∀q e,(q,e)∈r.ups->m q≠none):=by
   intro f g args hne hf hr;unfold B6t at hr;split at hr
   ·rename_i g2
    exact absurd rfl (hf g2)
   ·split at hr
    ·rename_i hs
     exact key hs hne hr
    ·cases hr
  cases hc:c.callee with
  | invoke f name=>
   have hne:C4 env o≠3:=by simp [C4,hop,hc]
   simp only[hc] at h;unfold C5g at h;split at h
   ·split at h
    ·split at h
     ·split at h
      ·rename_i hs;exact key hs hne h
      ·cases h
     ·cases h
    ·cases h
   ·cases h
  | builtin b=>
   simp only[hc] at h
   cases b<;>simp only[] at h<;>try (first | (cases h;done) | (exfalso;apply h4;simp [C4,hop,hc];done) | (exfalso;apply h6;simp [C4,hop,hc];done))
   all_goals
    repeat' split at h
    all_goals first | (cases h;done) | exact fin0 (C3e h)
  | value f=>
   cases f with
   | func g=>
    cases hx:env.ex g with
    | some k=>
     simp only[hc,hρ,hx] at h;unfold B7p at h;split at h
     ·cases h;exact fin0 ⟨rfl,rfl⟩
     ·cases h
    | none=>
     cases hg:env.fn g with
     | none=>exfalso;apply h4;simp [C4,hop,hc,hx,hg]
     | some s=>
      have hne:C4 env o≠3:=by simp [C4,hop,hc,hx,hg]
      simp only[hc,hρ,hx,B6t] at h;exact key hg hne h
   | tmp t=>
    have hne:C4 env o≠3:=by simp [C4,hop,hc]
    simp only[hc] at h;split at h
    ·split at h
     ·unfold B7p at h
      split at h
      ·cases h;exact fin0 ⟨rfl,rfl⟩
      ·cases h
     ·exact key2 hne (fun g=>by simp) h
    ·exact key2 hne (fun g=>by simp) h
    ·cases h
   | const v=>
    have hne:C4 env o≠3:=by simp [C4,hop,hc]
    simp only[hc] at h;split at h
    ·split at h
     ·unfold B7p at h
      split at h
      ·cases h;exact fin0 ⟨rfl,rfl⟩
      ·cases h
     ·exact key2 hne (fun g=>by simp) h
    ·exact key2 hne (fun g=>by simp) h
    ·cases h
   | global g=>
    have hne:C4 env o≠3:=by simp [C4,hop,hc]
    simp only[hc] at h;split at h
    ·split at h
     ·unfold B7p at h
      split at h
      ·cases h;exact fin0 ⟨rfl,rfl⟩
      ·cases h
     ·exact key2 hne (fun g=>by simp) h
    ·exact key2 hne (fun g=>by simp) h
    ·cases h
 all_goals
  repeat' split at h
  all_goals first
   | (cases h;done)
   | exact fin0 (C3e h)
   | exact fin0 (E2q h)
   | (cases h;exact fin0 ⟨rfl,rfl⟩)
   | (cases h;exact fin1 (by simp [C4,hop]) ⟨⟨_,rfl⟩,rfl⟩)

end

/-! One operation, as what it turns. -/
def H9 (ops:List Oper) (o:Oper) (t:Nat->SV):Option Bool:=
 match o.guard with
 | none=>some true
 | some (j,want)=>match (ops[j]?).bind (·.dst) with
  | none=>none
  | some d=>match t d with
   | .v (.c (.lit b))=>some (b == want)
   | .t []=>some false
   | _=>none

def O4 (t:Nat->SV):Option Nat->SV->Nat->SV
 | none,_=>t
 | some d,s=>J7 t d s

def J8 (σ:St) (dst:Option Nat) (s:SV) (ups:List (Nat×En)):St:={ σ with t:=O4 σ.t dst s,m:=F8 σ.m ups }

def E4 (al:Nat->Bool) (m:Nat->Option En):Nat->Option En:=fun q=>if al q then m q else none

inductive U0 (env:Env) (al:Nat->Bool) (dec:List (Nat×Bool)) (ops:List Oper) (p:Nat) (o:Oper) (σ:St):List Prop->SV->List (Nat×En)->Prop
 | skip:H9 ops o σ.t=some false->(∀d,o.dst=some d->d<σ.nt)->U0 env al dec ops p o σ [] (.t []) []
 | plain (r:Res):H9 ops o σ.t=some true->o.dst=none->H2 env σ.ev (E4 al σ.m) p o=some r->r.kill=none->Q6 al σ.m p r.ups=true->U0 env al dec ops p o σ r.obl .top r.ups
 | dst (r:Res) (d:Nat) (ob:List Prop) (s:SV):H9 ops o σ.t=some true->o.dst=some d->d<σ.nt->H2 env σ.ev (E4 al σ.m) p o=some r->r.kill=none->Q6 al σ.m p r.ups=true->M1 dec d r.val=(ob,s)->U0 env al dec ops p o σ (ob++r.obl) s r.ups

theorem A3q (env:Env) (al:Nat->Bool) (dec:List (Nat×Bool)) (ops:List Oper) (p:Nat) (o:Oper) (σ:St):A0a env al dec ops p o σ =
  match H9 ops o σ.t with
  | some true=>C6h env al dec p o σ
  | some false=>(match o.dst with
   | some e=>if e<σ.nt then some ([],{ σ with t:=J7 σ.t e (.t []) }) else none
   | none=>some ([],σ))
  | none=>none:=rfl

theorem V7 (m:Nat->Option En):F8 m []=m:=rfl

theorem A2j {env:Env} {al:Nat->Bool} {dec:List (Nat×Bool)} {ops:List Oper} {p:Nat} {o:Oper} {σ σ' : St} {ob:List Prop} (h4:C4 env o≠4) (h6:C4 env o≠6) (h:A0a env al dec ops p o σ=some (ob,σ')) :
  ∃s ups,U0 env al dec ops p o σ ob s ups∧σ' = J8 σ o.dst s ups:=by
 rw[A3q] at h;split at h
 ·rename_i hw
  unfold C6h at h;split at h
  ·cases h
  ·rename_i r hr
   obtain ⟨hk,_⟩:=B3i (fun f=>rfl) hr h4 h6
   split at h
   ·rename_i hups
    simp only[Bool.and_eq_true] at hups;obtain ⟨_,hups⟩:=hups;split at h
    ·rename_i hd
     cases h
     refine ⟨.top,r.ups,.plain r hw hd hr hk hups,?_⟩
     simp only[J8,hd,O4,hk,A0g,M5,A2i]
    ·rename_i d hd
     split at h
     ·rename_i hlt
      cases hdv:M1 dec d r.val with
      | mk o' v=>
       simp only[hdv] at h
       cases h
       refine ⟨v,r.ups,.dst r d o' v hw hd hlt hr hk hups hdv,?_⟩
       simp only[J8,hd,O4,hk,A0g,M5,A2i]
     ·cases h
   ·cases h
 ·rename_i hw
  split at h
  ·rename_i e he
   split at h
   ·rename_i hlt
    cases h
    exact ⟨.t [],[],.skip hw (fun d hd=>by rw[he] at hd;cases hd;exact hlt),by simp only[J8,he,O4,V7]⟩
   ·cases h
  ·rename_i he
   cases h
   exact ⟨.t [],[],.skip hw (fun d hd=>by rw[he] at hd;cases hd),by simp only[J8,he,O4,V7]⟩
 ·cases h

theorem A2e {env:Env} {al:Nat->Bool} {dec:List (Nat×Bool)} {ops:List Oper} {p:Nat} {o:Oper} {σ:St} {ob:List Prop} {s:SV} {ups:List (Nat×En)} (h:U0 env al dec ops p o σ ob s ups) :
  A0a env al dec ops p o σ=some (ob,J8 σ o.dst s ups):=by
 rw[A3q]
 cases h with
 | skip hw hd=>
  rw[hw]
  cases he:o.dst with
  | none=>simp only[J8,O4,V7]
  | some d=>simp only[J8,O4,V7];rw[if_pos (hd d he)]
 | plain r hw hd hr hk hups=>
  rw[hw];simp only[C6h];unfold E4 at hr;rw[hr];simp only[hups,A8d,Bool.and_self,if_true,hd,hk,A0g,M5,A2i,J8,O4]
 | dst r d ob s hw hd hlt hr hk hups hdv=>
  rw[hw];simp only[C6h];unfold E4 at hr;rw[hr];simp only[hups,A8d,Bool.and_self,if_true,hd,hk,A0g,M5,A2i,J8,O4,hlt,hdv]

end

section

theorem O7 {ops:Array Oper} {o:Oper} {t t' : Nat->SV} (h:∀d∈o.looksAt ops,t' d=t d):H9 ops.toList o t' = H9 ops.toList o t:=by
 unfold H9
 cases hg:o.guard with
 | none=>rfl
 | some g=>
  obtain ⟨j,want⟩:=g;simp only
  cases hb:(ops.toList[j]?).bind (·.dst) with
  | none=>rfl
  | some d=>
   have:d∈o.looksAt ops:=by
    unfold Oper.looksAt;refine List.mem_append_right _ ?_
    have hb' : (ops[j]?).bind (·.dst)=some d:=by simpa using hb
    simp [hg,hb']
   simp only[h d this]

theorem A3i {ops:Array Oper} {o:Oper} {σ σ' : St} (h:∀d∈o.looksAt ops,σ'.t d=σ.t d):∀x∈o.op.operands,σ'.ev x=σ.ev x:=by
 intro x hx
 cases x with
 | tmp t=>
  refine h t ?_
  exact List.mem_append_left _ (List.mem_filterMap.2 ⟨.tmp t,by simpa using hx,rfl⟩)
 | const v=>rfl
 | global g=>rfl
 | func f=>rfl

section
variable {env:Env} {al:Nat->Bool} {dec:List (Nat×Bool)} {ops:Array Oper} {p:Nat} {o:Oper} {σ σ' : St} {ob:List Prop} {s:SV} {ups:List (Nat×En)}

theorem U0.move (h:U0 env al dec ops.toList p o σ ob s ups) (hnt:σ'.nt=σ.nt) (ht:∀d∈o.looksAt ops,σ'.t d=σ.t d) (h4:C4 env o≠4)
  (hm:Z4 (C4 env o)=true->E4 al σ'.m=E4 al σ.m) (hu:Q6 al σ.m p ups=true->Q6 al σ'.m p ups=true):U0 env al dec ops.toList p o σ' ob s ups:=by
 have hop:∀r,H2 env σ.ev (E4 al σ.m) p o=some r->H2 env σ'.ev (E4 al σ'.m) p o=some r:=by
  intro r hr;rw[V5 (A3i ht)];by_cases hr' : Z4 (C4 env o)=true
  ·rw[hm hr'];exact hr
  ·rw[A4j (fun f=>rfl) (E4 al σ.m) (by simpa using hr') h4];exact hr
 cases h with
 | skip hw hd=>exact .skip (by rw[O7 ht];exact hw) (fun d hd' => by rw[hnt];exact hd d hd')
 | plain r hw hd hr hk hups=>exact .plain r (by rw[O7 ht];exact hw) hd (hop r hr) hk (hu hups)
 | dst r d ob s hw hd hlt hr hk hups hdv=>exact .dst r d ob s (by rw[O7 ht];exact hw) hd (by rw[hnt];exact hlt) (hop r hr) hk (hu hups) hdv

theorem K7:∀{ups:List (Nat×En)} {m:Nat->Option En},Q6 al m p ups=true↔∀q e,(q,e)∈ups->(match m q with | some _=>al q=true | none=>p<=q∧q<p+16)
 | [],m=>by simp [Q6]
 | (q,e)::l,m=>by
  simp only[Q6,Bool.and_eq_true,K7 (ups:=l),List.mem_cons,Prod.mk.injEq];constructor
  ·rintro ⟨h1,h2⟩ q' e' (⟨rfl,rfl⟩ | h)
   ·cases hm:m q' with
    | some x=>simp only[hm] at h1;exact h1
    | none=>
     simp only[hm,Bool.and_eq_true] at h1;exact ⟨by simpa using h1.1,by simpa using h1.2⟩
   ·exact h2 q' e' h
  ·intro h
   refine ⟨?_,fun q' e' h' => h q' e' (.inr h')⟩
   have:=h q e (.inl ⟨rfl,rfl⟩)
   cases hm:m q with
   | some x=>simp only[hm] at this;exact this
   | none=>
    simp only[hm] at this;simp only[Bool.and_eq_true];exact ⟨by simpa using this.1,by simpa using this.2⟩

theorem U0.facts (h:U0 env al dec ops.toList p o σ ob s ups) (h4:C4 env o≠4) (h6:C4 env o≠6):Q6 al σ.m p ups=true∧(C4 env o≠3->∀q e,(q,e)∈ups->p<=q)∧(C4 env o=3->∀q e,(q,e)∈ups->E4 al σ.m q≠none):=by
 cases h with
 | skip hw hd=>exact ⟨rfl,fun _ q e h=>(by cases h),fun _ q e h=>(by cases h)⟩
 | plain r hw hd hr hk hups=>exact ⟨hups,(B3i (fun f=>rfl) hr h4 h6).2⟩
 | dst r d ob s hw hd hlt hr hk hups hdv=>exact ⟨hups,(B3i (fun f=>rfl) hr h4 h6).2⟩

theorem J1:∀{ups:List (Nat×En)} {m:Nat->Option En} {q:Nat},(∀e,(q,e) ∉ ups)->F8 m ups q=m q
 | [],m,q,_=>rfl
 | (q',e)::l,m,q,h=>by
  simp only[F8];rw[J1 (ups:=l) (fun e' he=>h e' (List.mem_cons_of_mem _ he))]
  have:q≠q' := fun e' => h e (by rw[e'];exact List.mem_cons_self ..)
  simp [this]

theorem A4o:∀{ups:List (Nat×En)} {m:Nat->Option En} {q:Nat},F8 m ups q=none->m q=none
 | [],m,q,h=>h
 | (q',e)::l,m,q,h=>by
  simp only[F8] at h;have:=A4o (ups:=l) h
  by_cases hq:q=q'
  ·simp [hq] at this
  ·simpa [hq] using this

theorem A6c:∀{ups:List (Nat×En)} {m m' : Nat->Option En} {q:Nat},m q=m' q->F8 m ups q=F8 m' ups q
 | [],m,m',q,h=>h
 | (q',e)::l,m,m',q,h=>by
  simp only[F8];refine A6c (ups:=l) ?_
  by_cases hq:q=q'<;>simp [hq,h]

theorem D1l:∀{ups:List (Nat×En)} {m m' : Nat->Option En} {q:Nat} {e:En},(q,e)∈ups->F8 m ups q=F8 m' ups q
 | (q',e')::l,m,m',q,e,h=>by
  simp only[F8];by_cases hq:q=q'
  ·exact A6c (ups:=l) (by simp [hq])
  ·refine D1l (ups:=l) (e:=e) ?_
   rcases List.mem_cons.1 h with h | h
   ·cases h;exact absurd rfl hq
   ·exact h

theorem A9h {ups ups' : List (Nat×En)} {m:Nat->Option En} (h:∀q e e',(q,e)∈ups->(q,e') ∉ ups'):F8 (F8 m ups) ups' = F8 (F8 m ups') ups:=by
 funext q
 by_cases h1:∃e,(q,e)∈ups
 ·obtain ⟨e,he⟩:=h1
  have hout:∀e',(q,e') ∉ ups' := fun e' => h q e e' he
  rw[J1 hout];exact D1l he
 ·have hout:∀e,(q,e) ∉ ups:=fun e he=>h1 ⟨e,he⟩
  rw[J1 (m:=F8 m ups') hout];exact A6c (J1 hout)

/-- Two that do not touch each other. -/
theorem H3b {o1 o2:Oper} {p1 p2:Nat} {al1 al2:Nat->Bool} {ob1 ob2:List Prop} {s1 s2:SV} {ups1 ups2:List (Nat×En)} {f1 f2:Option (List Nat)} (m1:C4 env o1≠6) (m2:C4 env o2≠6) (hcon:P4 env ops f1 f2 o1 o2=false) (hf1:∀q,al1 q=true->U1 f1 q=true) (hf2:∀q,al2 q=true->U1 f2 q=true)
  (hp:p1+16<=p2) (hal1:∀q,al1 q=true->q<p1) (hal2:∀q,al2 q=true->q<p2) (hno:∀q,p1<=q->q<p1+16->al2 q=false)
  (h1:U0 env al1 dec ops.toList p1 o1 σ ob1 s1 ups1) (h2:U0 env al2 dec ops.toList p2 o2 (J8 σ o1.dst s1 ups1) ob2 s2 ups2) :
  U0 env al2 dec ops.toList p2 o2 σ ob2 s2 ups2∧U0 env al1 dec ops.toList p1 o1 (J8 σ o2.dst s2 ups2) ob1 s1 ups1∧J8 (J8 σ o1.dst s1 ups1) o2.dst s2 ups2=J8 (J8 σ o2.dst s2 ups2) o1.dst s1 ups1 ∧
   (Z4 (C4 env o2)=true->E4 al2 σ.m=E4 al2 (J8 σ o1.dst s1 ups1).m)∧(Z4 (C4 env o1)=true->E4 al1 (J8 σ o2.dst s2 ups2).m=E4 al1 σ.m):=by
 simp only[P4,Bool.or_eq_false_iff,Bool.not_eq_false'] at hcon;obtain ⟨hap,hcl⟩:=hcon;obtain ⟨a1,a2,a3⟩:=Oper.apart_spec hap;obtain ⟨n1,n2,c1,c2⟩:=B4m (B5s m1) (B5s m2) hcl;obtain ⟨u1,f1,g1⟩:=h1.facts n1 m1;obtain ⟨u2,f2,g2⟩:=h2.facts n2 m2;rw[K7] at u1 u2
 -- where the first writes
 have w1:∀q e,(q,e)∈ups1->(C4 env o1≠3∧σ.m q=none∧p1<=q∧q<p1+16)∨(C4 env o1=3∧σ.m q≠none∧al1 q=true):=by
  intro q e hq;have hu:=u1 q e hq;by_cases h3:C4 env o1=3
  ·right
   have:=g1 h3 q e hq
   simp only[E4] at this;split at this
   ·rename_i hal;exact ⟨h3,this,hal⟩
   ·exact absurd rfl this
  ·left
   have hge:=f1 h3 q e hq
   cases hm:σ.m q with
   | some x=>simp only[hm] at hu;have:=hal1 q hu;omega
   | none=>simp only[hm] at hu;exact ⟨h3,rfl,hu⟩
 have w2:∀q e,(q,e)∈ups2->(C4 env o2≠3∧σ.m q=none∧p2<=q∧q<p2+16)∨(C4 env o2=3∧σ.m q≠none∧al2 q=true):=by
  intro q e hq;have hu:=u2 q e hq;by_cases h3:C4 env o2=3
  ·right
   have hv:=g2 h3 q e hq;simp only[E4] at hv;split at hv
   ·rename_i hal
    refine ⟨h3,fun hnone=>hv ?_,hal⟩
    have hout:∀e,(q,e) ∉ ups1:=by
     intro e' he'
     rcases w1 q e' he' with ⟨_,_,h5,h6⟩ | ⟨h5,_,h7⟩
     ·rw[hno q h5 h6] at hal;cases hal
     ·exact U7 (c1 (by rw[h3];rfl) h5) q (hf1 q h7) (hf2 q hal)
    simp only[J8];rw[J1 hout];exact hnone
   ·exact absurd rfl hv
  ·left
   have hge:=f2 h3 q e hq
   cases hm:(J8 σ o1.dst s1 ups1).m q with
   | some x=>simp only[hm] at hu;have:=hal2 q hu;omega
   | none=>simp only[hm] at hu;exact ⟨h3,A4o hm,hu⟩
 have disj:∀q e e',(q,e)∈ups1->(q,e') ∉ ups2:=by
  intro q e e' h h'
  rcases w1 q e h with ⟨i1,i2,i3,i4⟩ | ⟨i1,i2,i3⟩
  ·rcases w2 q e' h' with ⟨j1,j2,j3,j4⟩ | ⟨j1,j2,j3⟩
   ·omega
   ·exact j2 i2
  ·rcases w2 q e' h' with ⟨j1,j2,j3,j4⟩ | ⟨j1,j2,j3⟩
   ·have:=hal1 q i3
    omega
   ·have:Z4 (C4 env o2)=true:=by rw[j1];rfl
    exact U7 (c1 this i1) q (hf1 q i3) (hf2 q j3)
 have view2:Z4 (C4 env o2)=true->E4 al2 σ.m=E4 al2 (J8 σ o1.dst s1 ups1).m:=by
  intro hr;funext q
  simp only[E4];split
  ·rename_i hal
   simp only[J8];rw[J1];intro e he;rcases w1 q e he with ⟨_,_,h5,h6⟩ | ⟨h5,_,h7⟩
   ·rw[hno q h5 h6] at hal;cases hal
   ·exact U7 (c1 hr h5) q (hf1 q h7) (hf2 q hal)
  ·rfl
 have h2' : U0 env al2 dec ops.toList p2 o2 σ ob2 s2 ups2:=by
  refine h2.move rfl (fun d hd=>?_) n2 view2 (fun _=>?_)
  ·simp only[J8]
   cases hd1:o1.dst with
   | none=>rfl
   | some e=>
    have:d≠e:=fun he=>a1 e hd1 (he ▸ hd)
    simp [O4,J7,this]
  ·rw[K7]
   intro q e hq;have hu:=u2 q e hq;rcases w2 q e hq with ⟨j1,j2,j3,j4⟩ | ⟨j1,j2,j3⟩
   ·rw[j2];exact ⟨j3,j4⟩
   ·cases hm:σ.m q with
    | none=>exact absurd hm j2
    | some x=>exact j3
 have view1:Z4 (C4 env o1)=true->E4 al1 (J8 σ o2.dst s2 ups2).m=E4 al1 σ.m:=by
  intro hr;funext q
  simp only[E4];split
  ·rename_i hal
   simp only[J8];rw[J1];intro e he;have:=hal1 q hal
   rcases w2 q e he with ⟨_,_,h5,h6⟩ | ⟨h5,_,h7⟩
   ·omega
   ·exact U7 (c2 hr h5) q (hf1 q hal) (hf2 q h7)
  ·rfl
 refine ⟨h2',?_,?_,view2,view1⟩
 ·refine h1.move rfl (fun d hd=>?_) n1 view1 (fun _=>?_)
  ·simp only[J8]
   cases hd2:o2.dst with
   | none=>rfl
   | some e=>
    have:d≠e:=fun he=>a3 e hd2 (he ▸ hd)
    simp [O4,J7,this]
  ·rw[K7]
   intro q e hq;have hu:=u1 q e hq;simp only[J8];rw[J1 (fun e' he' => disj q e e' hq he')]
   exact hu
 ·simp only[J8,St.mk.injEq,and_true]
  refine ⟨?_,A9h disj⟩
  cases hd1:o1.dst with
  | none=>rfl
  | some d1=>
   cases hd2:o2.dst with
   | none=>rfl
   | some d2=>
    have hne:d1≠d2:=fun e=>a2 d1 hd1 (by rw[hd2,e])
    funext x
    simp only[O4,J7];by_cases hx1:x=d1
    ·subst hx1;simp [hne]
    ·simp [hx1]

end
end

section

def A4s:Option Nat->SV->SV
 | none,s=>s
 | some q,s=>K2 q s
def C2p:Option Nat->En->En
 | none,e=>e
 | some q,e=>Q5 q e
theorem Z1 (t:Nat->SV) (kl:Option Nat) (x:Nat):A0g t kl x=A4s kl (t x):=by cases kl<;>rfl
theorem A5l (m:Nat->Option En) (kl:Option Nat) (q:Nat):M5 m kl q=(m q).map (C2p kl):=by
 cases kl with
 | none=>show m q=(m q).map fun e=>e;cases m q<;>rfl
 | some p=>rfl
theorem B1u (al:Nat->Bool) (m:Nat->Option En):D8i al m=E4 al m:=rfl

theorem A3p {q:Nat}:∀{ks:List Nat} {p:Nat},P7 q ks=true->P7 p ks=false->p≠q
 | ks,p,h1,h2,e=>by subst e;rw[h1] at h2;cases h2

section
variable {q:Nat} {ks:List Nat}
theorem D1j (hq:P7 q ks=true):∀i:It,D0n ks i=true->E2 q i=i:=by
 intro i h
 cases i<;>simp only[D0n,E2,Bool.not_eq_true'] at h ⊢
 case sv=>cases h
 case slc p off len es=>rw[if_neg (A3p hq h)]
 case ptr p off=>rw[if_neg (A3p hq h)]
 case ep p es i off=>rw[if_neg (A3p hq h)]
 case mp p=>rw[if_neg (A3p hq h)]
 case arr p off n es=>rw[if_neg (A3p hq h)]
 case clo f c=>
  rw[if_neg];intro ha;obtain ⟨a,ha,e⟩:=List.any_eq_true.1 ha;have:=List.all_eq_true.1 h a ha
  simp only[Bool.not_eq_true'] at this;exact A3p hq this (by simpa using e)
theorem C1a:∀i:It,D0n ks (E2 q i)=true->E2 q i=i:=by
 intro i h
 cases i<;>simp only[E2] at h ⊢
 case sv=>cases h
 all_goals
  split at h
  ·cases h
  ·rename_i hn;rw[if_neg hn]
theorem B3a (hq:P7 q ks=true):∀l:List It,l.all (D0n ks)=true->l.map (E2 q)=l
 | [],_=>rfl
 | i::l,h=>by
  simp only[List.all_cons,Bool.and_eq_true] at h;rw[List.map_cons,D1j hq i h.1,B3a hq l h.2]
theorem A5p:∀l:List It,(l.map (E2 q)).all (D0n ks)=true->l.map (E2 q)=l
 | [],_=>rfl
 | i::l,h=>by
  simp only[List.map_cons,List.all_cons,Bool.and_eq_true] at h;rw[List.map_cons,C1a i h.1,A5p l h.2]
theorem C3s (hq:P7 q ks=true) (v:V1) (h:okV ks v=true):A0c q v=v:=by
 cases v with
 | c i=>exact congrArg V1.c (D1j hq i h)
 | a l=>exact congrArg V1.a (B3a hq l h)
theorem B5c (v:V1) (h:okV ks (A0c q v)=true):A0c q v=v:=by
 cases v with
 | c i=>exact congrArg V1.c (C1a i h)
 | a l=>exact congrArg V1.a (A5p l h)
theorem B9a (hq:P7 q ks=true):∀l:List V1,l.all (okV ks)=true->l.map (A0c q)=l
 | [],_=>rfl
 | i::l,h=>by
  simp only[List.all_cons,Bool.and_eq_true] at h;rw[List.map_cons,C3s hq i h.1,B9a hq l h.2]
theorem B0s:∀l:List V1,(l.map (A0c q)).all (okV ks)=true->l.map (A0c q)=l
 | [],_=>rfl
 | i::l,h=>by
  simp only[List.map_cons,List.all_cons,Bool.and_eq_true] at h;rw[List.map_cons,B5c i h.1,B0s l h.2]
theorem B4b (hq:P7 q ks=true) (s:SV) (h:E1f ks s=true):K2 q s=s:=by
 cases s with
 | v x=>exact congrArg SV.v (C3s hq x h)
 | t l=>exact congrArg SV.t (B9a hq l h)
 | top=>rfl
theorem D1y (s:SV) (h:E1f ks (K2 q s)=true):K2 q s=s:=by
 cases s with
 | v x=>exact congrArg SV.v (B5c x h)
 | t l=>exact congrArg SV.t (B0s l h)
 | top=>rfl
theorem A3t (hq:P7 q ks=true) (e:En) (h:E1d ks e=true):Q5 q e=e:=by
 cases e with
 | fl l=>exact congrArg En.fl (B3a hq l h)
 | sq s=>rfl
theorem D1x (e:En) (h:E1d ks (Q5 q e)=true):Q5 q e=e:=by
 cases e with
 | fl l=>exact congrArg En.fl (A5p l h)
 | sq s=>rfl
end

theorem E0r {α:Type} (q:Nat) (s:SV) (A:Bool->α) (B C:α):(match K2 q s with | .v (.c (.lit b))=>A b | .t []=>B | _=>C)=(match s with | .v (.c (.lit b))=>A b | .t []=>B | _=>C):=by
 cases s with
 | top=>rfl
 | t l=>cases l<;>rfl
 | v x=>
  cases x with
  | a l=>rfl
  | c i=>
   have key:∀(c:Prop) [Decidable c] (i j:It),(match SV.v (V1.c i) with | .v (.c (.lit b))=>A b | .t []=>B | _=>C)=C->(match SV.v (V1.c j) with | .v (.c (.lit b))=>A b | .t []=>B | _=>C)=C ->
     (match SV.v (V1.c (if c then i else j)) with | .v (.c (.lit b))=>A b | .t []=>B | _=>C)=C:=by
    intro c _ i j h1 h2;by_cases h:c
    ·rw[if_pos h];exact h1
    ·rw[if_neg h];exact h2
   cases i
   case slc=>exact key _ _ _ rfl rfl
   case ptr=>exact key _ _ _ rfl rfl
   case ep=>exact key _ _ _ rfl rfl
   case mp=>exact key _ _ _ rfl rfl
   case arr=>exact key _ _ _ rfl rfl
   case clo=>exact key _ _ _ rfl rfl
   all_goals rfl
theorem C1r (ops:List Oper) (o:Oper) (t t' : Nat->SV) (kl:Option Nat) (h:∀d,(∃j w,o.guard=some (j,w)∧(ops[j]?).bind (·.dst)=some d)->t' d=A4s kl (t d)):H9 ops o t' = H9 ops o t:=by
 unfold H9
 cases hg:o.guard with
 | none=>rfl
 | some g=>
  obtain ⟨j,want⟩:=g;simp only
  cases hb:(ops[j]?).bind (·.dst) with
  | none=>rfl
  | some d=>
   simp only
   rw[h d ⟨j,want,hg,hb⟩]
   cases kl with
   | none=>rfl
   | some q=>exact E0r q (t d) _ _ _

theorem Y4 {dec:List (Nat×Bool)} {d q:Nat} {v s:SV} {o' : List Prop} (h:M1 dec d v=(o',s)):M1 dec d (K2 q v)=(o',K2 q s):=by
 have other:∀u:SV,(∀b,u ≠ .v (.c (.bool b)))->M1 dec d u=([],u):=by
  intro u hu;unfold M1;split
  ·rename_i b;exact absurd rfl (hu b)
  ·rfl
 by_cases hb:∃b,v = .v (.c (.bool b))
 ·obtain ⟨b,rfl⟩:=hb
  unfold M1 at h;show M1 dec d (.v (.c (.bool b)))=_;unfold M1
  cases hl:C5o d dec with
  | none=>simp only[hl] at h ⊢;cases h;rfl
  | some x=>simp only[hl] at h ⊢;cases h;rfl
 ·rw[other v fun b e=>hb ⟨b,e⟩] at h
  cases h
  refine other _ fun b e=>?_
  cases v with
  | top=>cases e
  | t l=>cases e
  | v x=>
   cases x with
   | a l=>cases e
   | c i=>
    cases i<;>simp only[K2,A0c,E2] at e
    case bool b' => exact hb ⟨b',rfl⟩
    all_goals first
     | (cases e;done)
     | (split at e<;>cases e)

theorem B8t (a b:SV) (l:List SV):A1f (a::b::l)=none:=by
 unfold A1f;split<;>first | rfl | (rename_i heq;cases heq)
theorem C5j (q:Nat):∀l:List SV,A1f (l.map (K2 q))=A1f l
 | []=>rfl
 | a::b::l=>by
  rw[List.map_cons,List.map_cons,B8t,B8t]
 | [.top]=>rfl
 | [.t _]=>rfl
 | [.v (.a _)]=>rfl
 | [.v (.c i)]=>by
  cases i<;>simp only[List.map_cons,List.map_nil,K2,A0c,E2]
  case slc p off len es=>split<;>rfl
  case sv=>rfl
  case ptr=>split<;>rfl
  case ep=>split<;>rfl
  case mp=>split<;>rfl
  case arr=>split<;>rfl
  case clo=>split<;>rfl
theorem B8u (a b:SV) (l:List SV):A2u (a::b::l)=none:=by
 unfold A2u;split<;>first | rfl | (rename_i heq;cases heq)
theorem C5l (q:Nat):∀l:List SV,A2u (l.map (K2 q))=A2u l
 | []=>rfl
 | a::b::l=>by
  rw[List.map_cons,List.map_cons,B8u,B8u]
 | [.top]=>rfl
 | [.t _]=>rfl
 | [.v (.a _)]=>rfl
 | [.v (.c i)]=>by
  cases i<;>simp only[List.map_cons,List.map_nil,K2,A0c,E2]
  case slc p off len es=>split<;>rfl
  case sv=>rfl
  case ptr=>split<;>rfl
  case ep=>split<;>rfl
  case mp=>split<;>rfl
  case arr=>split<;>rfl
  case clo=>split<;>rfl
theorem D3y {l:List SV} {i:It} (h:A1f l=some i):∃n,i = .int .i64 n:=by
 unfold A1f at h;split at h<;>first | (cases h;exact ⟨_,rfl⟩) | cases h

theorem C8u {ops:Array Oper} {o:Oper} {σ σ' : St} {kl:Option Nat} (h:∀d∈o.looksAt ops,σ'.t d=A4s kl (σ.t d)):∀x∈o.op.operands,σ'.ev x=A4s kl (σ.ev x):=by
 intro x hx
 cases x with
 | tmp t=>exact h t (List.mem_append_left _ (List.mem_filterMap.2 ⟨.tmp t,by simpa using hx,rfl⟩))
 | const v=>
  show A6m v=A4s kl (A6m v)
  cases kl with
  | none=>rfl
  | some q=>unfold A6m;split<;>rfl
 | global g=>cases kl<;>rfl
 | func f=>cases kl<;>rfl

section
variable {env:Env} {al:Nat->Bool} {dec:List (Nat×Bool)} {ops:Array Oper} {p:Nat} {o:Oper} {σ σ' : St} {ob:List Prop} {s:SV} {ups:List (Nat×En)} {ks:List Nat} {ft:Option (List Nat)} {kl:Option Nat}

/-- What goes over from slot to slot does so scrubbed, too. -/
theorem D4g (hn:B9e o=true) {ρ ρ' : Operand->SV} {m m' : Nat->Option En} {q:Nat} (hρ:∀x∈o.op.operands,ρ' x=K2 q (ρ x)) :
  (∀r,H2 env ρ m p o=some r->r.ups=[]∧r.kill=none∧H2 env ρ' m' p o=some ⟨r.obl,K2 q r.val,[],none⟩) ∧
  (∀r',H2 env ρ' m' p o=some r' -> r'.ups=[]∧r'.kill=none∧∃s,K2 q s=r'.val∧H2 env ρ m p o=some ⟨r'.obl,s,[],none⟩):=by
 obtain ⟨dst,op,type,pos,after,guard⟩:=o;unfold B9e at hn
 cases op<;>simp only[] at hn<;>try (cases hn;done)
 case move x=>
  have hx:=hρ x (by simp [Op.operands])
  refine ⟨fun r h=>?_,fun r' h=>?_⟩
  ·cases h;exact ⟨rfl,rfl,by show some _=some _;rw[hx]⟩
  ·cases h;exact ⟨rfl,rfl,ρ x,hx.symm,rfl⟩
 case assign x=>
  have hx:=hρ x (by simp [Op.operands])
  refine ⟨fun r h=>?_,fun r' h=>?_⟩
  ·cases h;exact ⟨rfl,rfl,by show some _=some _;rw[hx]⟩
  ·cases h;exact ⟨rfl,rfl,ρ x,hx.symm,rfl⟩
 case call c=>
  cases hc:c.callee with
  | invoke f m=>simp only[hc] at hn;cases hn
  | value f=>simp only[hc] at hn;cases hn
  | builtin b=>
   simp only[hc] at hn
   cases b<;>simp only[] at hn<;>try (cases hn;done)
   have ha:A1f (c.args.toList.map ρ')=A1f (c.args.toList.map ρ):=by
    rw[<-C5j q (c.args.toList.map ρ),List.map_map];exact congrArg A1f (List.map_congr_left fun x hx=>hρ x (by simp [Op.operands,Call.operands,hc];exact Array.mem_toList_iff.1 hx))
   have hb:A2u (c.args.toList.map ρ')=A2u (c.args.toList.map ρ):=by
    rw[<-C5l q (c.args.toList.map ρ),List.map_map];exact congrArg A2u (List.map_congr_left fun x hx=>hρ x (by simp [Op.operands,Call.operands,hc];exact Array.mem_toList_iff.1 hx))
   have key:∀(M M' : Nat->Option En),H2 env ρ' M' p ⟨dst,.call c,type,pos,after,guard⟩=H2 env ρ M p ⟨dst,.call c,type,pos,after,guard⟩:=by
    intro M M'
    unfold H2;simp only[hc,ha,hb]
   have val:∀M r,H2 env ρ M p ⟨dst,.call c,type,pos,after,guard⟩=some r->r.ups=[]∧r.kill=none∧K2 q r.val=r.val:=by
    intro M r h;unfold H2 at h;simp only[hc] at h;split at h
    ·split at h
     ·split at h
      ·rename_i hl
       obtain ⟨n,rfl⟩:=D3y hl
       cases h
       exact ⟨rfl,rfl,rfl⟩
      ·cases h
      ·split at h
       ·split at h
        ·cases h
         exact ⟨rfl,rfl,rfl⟩
        ·cases h
       ·cases h
     ·cases h
    ·cases h
   refine ⟨fun r h=>?_,fun r' h=>?_⟩
   ·obtain ⟨h1,h2,h3⟩:=val m r h
    refine ⟨h1,h2,?_⟩
    rw[key m m',h,h3];obtain ⟨a1,a2,a3,a4⟩:=r;simp only at h1 h2
    subst h1 h2;rfl
   ·rw[key m m'] at h
    obtain ⟨h1,h2,h3⟩:=val m r' h;refine ⟨h1,h2,r'.val,h3,?_⟩
    rw[h];obtain ⟨a1,a2,a3,a4⟩:=r';simp only at h1 h2
    subst h1 h2;rfl

/-- What is asked of an operation that is not natural. -/
theorem B7b (h:I5 env ks al ft p o σ=true) (hn:B9e o=false):(∀x∈o.op.operands,E1f ks (σ.ev x)=true) ∧
  (C4 env o=1->∀r,al r=true->U1 ft r=true->∀e,σ.m r=some e->E1d ks e=true) ∧
  (∀r,H2 env σ.ev (E4 al σ.m) p o=some r->E1f ks r.val=true∧∀x∈r.ups,E1d ks x.2=true):=by
 simp only[I5,hn,Bool.false_or,Bool.and_eq_true] at h;obtain ⟨⟨h1,h2⟩,h3⟩:=h;refine ⟨fun x hx=>List.all_eq_true.1 h1 x (Array.mem_toList_iff.2 hx),fun hc r hr hf e he=>?_,fun r hr=>?_⟩
 ·rw[hc] at h2
  cases ft with
  | none=>cases h2
  | some l=>
   have mem:∀l:List Nat,P7 r l=true->r∈l:=by
    intro l;induction l with
    | nil=>intro h;cases h
    | cons a l ih=>
     intro h;simp only[P7] at h;split at h
     ·rename_i e;subst e;exact List.mem_cons_self
     ·exact List.mem_cons_of_mem _ (ih h)
   have:=List.all_eq_true.1 h2 r (mem l hf)
   rw[hr,he] at this;simpa using this
 ·rw[B1u,hr] at h3
  simp only[Bool.and_eq_true] at h3;exact ⟨h3.1,fun x hx=>List.all_eq_true.1 h3.2 x hx⟩
theorem V9 (he:∀x∈o.op.operands,σ'.ev x=σ.ev x) (hm:C4 env o=1->∀r,al r=true->U1 ft r=true->σ'.m r=σ.m r) (hr:H2 env σ'.ev (E4 al σ'.m) p o=H2 env σ.ev (E4 al σ.m) p o)
  (h:I5 env ks al ft p o σ=true):I5 env ks al ft p o σ' = true:=by
 cases hn:B9e o with
 | true=>simp only[I5,hn,Bool.true_or]
 | false=>
  simp only[I5,hn,Bool.false_or,Bool.and_eq_true,B1u] at h ⊢
  obtain ⟨⟨h1,h2⟩,h3⟩:=h;refine ⟨⟨List.all_eq_true.2 fun x hx=>?_,?_⟩,by rw[hr];exact h3⟩
  ·rw[he x (Array.mem_toList_iff.1 hx)]
   exact List.all_eq_true.1 h1 x hx
  ·by_cases hc:C4 env o=1
   ·rw[hc] at h2 ⊢
    cases ft with
    | none=>cases h2
    | some l=>
     refine List.all_eq_true.2 fun r hr' => ?_
     have:=List.all_eq_true.1 h2 r hr'
     cases hal:al r with
     | false=>rfl
     | true=>
      have mem:∀l:List Nat,r∈l->P7 r l=true:=by
       intro l;induction l with
       | nil=>intro h;cases h
       | cons a l ih=>
        intro h;simp only[P7];split
        ·rfl
        ·rename_i hne
         rcases List.mem_cons.1 h with e | h
         ·exact absurd e.symm hne
         ·exact ih h
      rw[hal] at this;rw[hm hc r hal (mem l hr')];exact this
   ·clear h2 hm hr
    generalize C4 env o=n at hc ⊢
    match n,hc with
    | 0,_=>rfl
    | n+2,_=>rfl

/-- Looked at the same. -/
theorem U0.same (h:U0 env al dec ops.toList p o σ ob s ups) (hnt:σ'.nt=σ.nt) (hw:H9 ops.toList o σ'.t=H9 ops.toList o σ.t) (hr:H2 env σ'.ev (E4 al σ'.m) p o=H2 env σ.ev (E4 al σ.m) p o)
  (hu:Q6 al σ.m p ups=true->Q6 al σ'.m p ups=true):U0 env al dec ops.toList p o σ' ob s ups:=by
 cases h with
 | skip hw' hd=>exact .skip (by rw[hw];exact hw') (fun d hd' => by rw[hnt];exact hd d hd')
 | plain r hw' hd hr' hk hups=>exact .plain r (by rw[hw];exact hw') hd (by rw[hr];exact hr') hk (hu hups)
 | dst r d ob s hw' hd hlt hr' hk hups hdv=>exact .dst r d ob s (by rw[hw];exact hw') hd (by rw[hnt];exact hlt) (by rw[hr];exact hr') hk (hu hups) hdv

theorem B1v {t t' : Nat->SV} (h:∀d∈o.looksAt ops,t' d=A4s kl (t d)):H9 ops.toList o t' = H9 ops.toList o t:=by
 refine C1r ops.toList o t t' kl fun d hd=>h d ?_
 obtain ⟨j,w,hg,hb⟩:=hd;unfold Oper.looksAt;refine List.mem_append_right _ ?_
 have hb' : (ops[j]?).bind (·.dst)=some d:=by simpa using hb
 simp [hg,hb']

theorem B6b {m m' : Nat->Option En} (h:∀r,al r=true->m' r=m r):E4 al m' = E4 al m:=by
 funext r
 simp only[E4];split
 ·rename_i hr;exact h r hr
 ·rfl

/-- An operation behind a row's growth, if it could go ahead of it. -/
theorem E1k (h:U0 env al dec ops.toList p o σ ob s ups) (hc:C4 env o<=2) (hcl:kl=none∨∃q,kl=some q∧P7 q ks=true∧I5 env ks al ft p o σ=true) (hnt:σ'.nt=σ.nt)
  (hT:∀d∈o.looksAt ops,σ'.t d=A4s kl (σ.t d)) (hM:C4 env o=1->∀r,al r=true->σ'.m r=(σ.m r).map (C2p kl)) (hf:∀r,al r=true->U1 ft r=true) (hu:Q6 al σ.m p ups=true->Q6 al σ'.m p ups=true) :
  U0 env al dec ops.toList p o σ' ob (A4s kl s) ups∧(∀x∈ups,C2p kl x.2=x.2)∧(I5 env ks al ft p o σ=true->I5 env ks al ft p o σ' = true):=by
 have h4:C4 env o≠4:=by omega
 have hev:=C8u (kl:=kl) hT;have hw:=B1v (o:=o) (ops:=ops) hT
 -- with nothing given up, or nothing that hangs on it, all is looked at the same
 have same:(∀x∈o.op.operands,σ'.ev x=σ.ev x)->(C4 env o=1->∀r,al r=true->σ'.m r=σ.m r)->H2 env σ'.ev (E4 al σ'.m) p o=H2 env σ.ev (E4 al σ.m) p o:=by
  intro he hm;rw[V5 he];by_cases h1:C4 env o=1
  ·rw[B6b (hm h1)]
  ·exact A4j (fun f=>rfl) _ (by
    have:C4 env o=0∨C4 env o=2:=by omega
    rcases this with e | e<;>rw[e]<;>rfl) h4
 rcases hcl with rfl | ⟨q,rfl,hq,hb⟩
 ·have hM' : C4 env o=1->∀r,al r=true->σ'.m r=σ.m r:=fun h1 r hr=>by
   rw[hM h1 r hr]
   cases σ.m r<;>rfl
  have hr:=same hev hM';exact ⟨h.same hnt hw hr hu,fun x _=>rfl,V9 hev (fun h1 r hr _=>hM' h1 r hr) hr⟩
 ·cases hn:B9e o with
  | true=>
   refine ⟨?_,fun x hx=>?_,fun _=>by simp only[I5,hn,Bool.true_or]⟩
   ·have hnat:=fun m m' => D4g (env:=env) (p:=p) hn (m:=m) (m' := m') hev
    cases h with
    | skip hw' hd=>exact .skip (by rw[hw];exact hw') (fun d hd' => by rw[hnt];exact hd d hd')
    | plain r hw' hd hr' hk hups=>
     obtain ⟨e1,e2,e3⟩:=(hnat _ (E4 al σ'.m)).1 r hr';have:=U0.plain (al:=al) (dec:=dec) (ops:=ops.toList) ⟨r.obl,K2 q r.val,[],none⟩ (by rw[hw];exact hw') hd e3 rfl rfl
     rw[e1];exact this
    | dst r d ob s hw' hd hlt hr' hk hups hdv=>
     obtain ⟨e1,e2,e3⟩:=(hnat _ (E4 al σ'.m)).1 r hr';have:=U0.dst (al:=al) (dec:=dec) (ops:=ops.toList) ⟨r.obl,K2 q r.val,[],none⟩ d ob (K2 q s) (by rw[hw];exact hw') hd (by rw[hnt];exact hlt) e3 rfl rfl (Y4 hdv)
     rw[e1];exact this
   ·have hnat:=fun m m' => D4g (env:=env) (p:=p) hn (m:=m) (m' := m') hev
    cases h with
    | skip hw' hd=>cases hx
    | plain r hw' hd hr' hk hups=>rw[((hnat _ (E4 al σ'.m)).1 r hr').1] at hx;cases hx
    | dst r d ob s hw' hd hlt hr' hk hups hdv=>rw[((hnat _ (E4 al σ'.m)).1 r hr').1] at hx;cases hx
  | false=>
   obtain ⟨c1,c2,c3⟩:=B7b hb hn;have he:∀x∈o.op.operands,σ'.ev x=σ.ev x:=fun x hx=>(hev x hx).trans (B4b hq _ (c1 x hx))
   have hM' : C4 env o=1->∀r,al r=true->σ'.m r=σ.m r:=fun h1 r hr=>by
    rw[hM h1 r hr]
    cases hm:σ.m r with
    | none=>rfl
    | some e=>exact congrArg some (A3t hq e (c2 h1 r hr (hf r hr) e hm))
   have hr:=same he hM';have h' := h.same hnt hw hr hu;refine ⟨?_,fun x hx=>?_,V9 he (fun h1 r hr _=>hM' h1 r hr) hr⟩
   ·have hs:K2 q s=s:=by
     cases h with
     | skip hw' hd=>rfl
     | plain r hw' hd hr' hk hups=>rfl
     | dst r d ob s hw' hd hlt hr' hk hups hdv=>
      have hv:=B4b hq _ (c3 r hr').1;have:=Y4 (q:=q) hdv
      rw[hv,hdv] at this;exact (congrArg Prod.snd this).symm
    show U0 env al dec ops.toList p o σ' ob (K2 q s) ups;rw[hs];exact h'
   ·cases h with
    | skip hw' hd=>cases hx
    | plain r hw' hd hr' hk hups=>exact A3t hq _ ((c3 r hr').2 x hx)
    | dst r d ob s hw' hd hlt hr' hk hups hdv=>exact A3t hq _ ((c3 r hr').2 x hx)

/-- An operation ahead of a row's growth, if it could go behind it. -/
theorem E1j (h:U0 env al dec ops.toList p o σ' ob s ups) (hc:C4 env o<=2) (hcl:kl=none∨∃q,kl=some q∧P7 q ks=true∧I5 env ks al ft p o σ' = true) (hnt:σ'.nt=σ.nt)
  (hT:∀d∈o.looksAt ops,σ'.t d=A4s kl (σ.t d)) (hM:C4 env o=1->∀r,al r=true->σ'.m r=(σ.m r).map (C2p kl)) (hf:∀r,al r=true->U1 ft r=true) (hu:Q6 al σ'.m p ups=true->Q6 al σ.m p ups=true) :
  ∃s0,A4s kl s0=s∧U0 env al dec ops.toList p o σ ob s0 ups∧(∀x∈ups,C2p kl x.2=x.2)∧(I5 env ks al ft p o σ' = true->I5 env ks al ft p o σ=true):=by
 have h4:C4 env o≠4:=by omega
 have hev:=C8u (kl:=kl) hT;have hw:=B1v (o:=o) (ops:=ops) hT;have same:(∀x∈o.op.operands,σ.ev x=σ'.ev x)->(C4 env o=1->∀r,al r=true->σ.m r=σ'.m r)->H2 env σ.ev (E4 al σ.m) p o=H2 env σ'.ev (E4 al σ'.m) p o:=by
  intro he hm;rw[V5 he];by_cases h1:C4 env o=1
  ·rw[B6b (hm h1)]
  ·exact A4j (fun f=>rfl) _ (by
    have:C4 env o=0∨C4 env o=2:=by omega
    rcases this with e | e<;>rw[e]<;>rfl) h4
 rcases hcl with rfl | ⟨q,rfl,hq,hb⟩
 ·have hM' : C4 env o=1->∀r,al r=true->σ.m r=σ'.m r:=fun h1 r hr=>by
   rw[hM h1 r hr]
   cases σ.m r<;>rfl
  have he:∀x∈o.op.operands,σ.ev x=σ'.ev x:=fun x hx=>(hev x hx).symm
  have hr:=same he hM';exact ⟨s,rfl,h.same hnt.symm hw.symm hr hu,fun x _=>rfl,V9 he (fun h1 r hr _=>hM' h1 r hr) hr⟩
 ·cases hn:B9e o with
  | true=>
   have hnat:=fun m m' => D4g (env:=env) (p:=p) hn (m:=m) (m' := m') hev
   have hcb:I5 env ks al ft p o σ' = true->I5 env ks al ft p o σ=true:=fun _=>by simp only[I5,hn,Bool.true_or]
   cases h with
   | skip hw' hd=>exact ⟨.t [],rfl,.skip (by rw[<-hw];exact hw') (fun d hd' => by rw[<-hnt];exact hd d hd'),(fun x hx=>by cases hx),hcb⟩
   | plain r hw' hd hr' hk hups=>
    obtain ⟨e1,e2,s0,e3,e4⟩:=(hnat (E4 al σ.m) _).2 r hr';have:=U0.plain (al:=al) (dec:=dec) (ops:=ops.toList) ⟨r.obl,s0,[],none⟩ (by rw[<-hw];exact hw') hd e4 rfl rfl
    rw[e1];exact ⟨.top,rfl,this,(fun x hx=>by cases hx),hcb⟩
   | dst r d ob s hw' hd hlt hr' hk hups hdv=>
    obtain ⟨e1,e2,s0,e3,e4⟩:=(hnat (E4 al σ.m) _).2 r hr'
    cases hdv0:M1 dec d s0 with
    | mk o0 v0=>
     have hd2:=Y4 (q:=q) hdv0;rw[e3,hdv] at hd2
     cases hd2
     have:=U0.dst (al:=al) (dec:=dec) (ops:=ops.toList) ⟨r.obl,s0,[],none⟩ d _ v0 (by rw[<-hw];exact hw') hd (by rw[<-hnt];exact hlt) e4 rfl rfl hdv0
     rw[e1];exact ⟨v0,rfl,this,(fun x hx=>by cases hx),hcb⟩
  | false=>
   obtain ⟨c1,c2,c3⟩:=B7b hb hn;have he:∀x∈o.op.operands,σ.ev x=σ'.ev x:=fun x hx=>by
    have h1:=c1 x hx;rw[hev x hx] at h1 ⊢
    exact (D1y _ h1).symm
   have hM' : C4 env o=1->∀r,al r=true->σ.m r=σ'.m r:=fun h1 r hr=>by
    have e0:=hM h1 r hr
    cases hm:σ.m r with
    | none=>rw[hm] at e0;exact e0.symm
    | some e=>
     rw[hm] at e0;have:=c2 h1 r hr (hf r hr) (Q5 q e) e0
     rw[e0];exact congrArg some (D1x e this).symm
   have hr:=same he hM';have h' := h.same hnt.symm hw.symm hr hu;refine ⟨s,?_,h',fun x hx=>?_,V9 he (fun h1 r hr _=>hM' h1 r hr) hr⟩
   ·cases h with
    | skip hw' hd=>rfl
    | plain r hw' hd hr' hk hups=>rfl
    | dst r d ob s hw' hd hlt hr' hk hups hdv=>
     have hv:=B4b hq _ (c3 r hr').1;have:=Y4 (q:=q) hdv
     rw[hv,hdv] at this;exact (congrArg Prod.snd this).symm
   ·cases h with
    | skip hw' hd=>cases hx
    | plain r hw' hd hr' hk hups=>exact A3t hq _ ((c3 r hr').2 x hx)
    | dst r d ob s hw' hd hlt hr' hk hups hdv=>exact A3t hq _ ((c3 r hr').2 x hx)
end
end

section

section
variable {env:Env} {ρ:Operand->SV} {m:Nat->Option En} {p:Nat} {o:Oper} {r:Res}
theorem C4h {i:TyI} {e:Sq} {s x:SV} (h:B6i m p i e s x=some r):∃y e,r.ups=[(y,e)]∧((y=p∧r.kill=none)∨(r.kill=some y∧m y≠none)):=by
 unfold B6i at h;split at h
 ·split at h
  ·split at h
   ·cases h;exact ⟨p,_,rfl,.inl ⟨rfl,rfl⟩⟩
   ·cases h
  ·split at h
   ·rename_i hm
    split at h
    ·split at h
     ·cases h;exact ⟨_,_,rfl,.inr ⟨rfl,by rw[hm];simp⟩⟩
     ·cases h
    ·cases h
   ·cases h
  ·split at h
   ·split at h
    ·cases h;exact ⟨p,_,rfl,.inl ⟨rfl,rfl⟩⟩
    ·cases h
   ·cases h
  ·cases h
 ·cases h
/-- What a row's growth writes, and which row is given up. -/
theorem D8q (h:H2 env ρ m p o=some r) (h6:C4 env o=6):∃y e,r.ups=[(y,e)]∧((y=p∧r.kill=none)∨(r.kill=some y∧m y≠none)):=by
 unfold C4 at h6;unfold H2 at h
 cases hop:o.op<;>simp only[hop] at h6 h<;>try (cases h6;done)
 case convert src dst v=>
  split at h6
  ·split at h6<;>cases h6
  ·cases h6
 case call c=>
  cases hc:c.callee with
  | invoke f m=>simp only[hc] at h6;cases h6
  | value f=>
   simp only[hc] at h6
   cases f with
   | func g=>
    simp only at h6
    split at h6
    ·cases h6
    ·split at h6<;>cases h6
   | tmp t=>cases h6
   | const v=>cases h6
   | global g=>cases h6
  | builtin b=>
   simp only[hc] at h6 h
   cases b<;>simp only[] at h6 h<;>try (cases h6;done)
   repeat' split at h
   all_goals first
    | (cases h;done)
    | exact C4h h
end

def W8 (σ:St) (dst:Option Nat) (s:SV) (ups:List (Nat×En)) (kl:Option Nat):St:={ σ with t:=O4 (A0g σ.t kl) dst s,m:=F8 (M5 σ.m kl) ups,fr:=A2i σ.fr kl }

inductive A0e (env:Env) (al:Nat->Bool) (dec:List (Nat×Bool)) (ops:List Oper) (p:Nat) (o:Oper) (σ:St):List Prop->SV->List (Nat×En)->Option Nat->Prop
 | skip:H9 ops o σ.t=some false->(∀d,o.dst=some d->d<σ.nt)->A0e env al dec ops p o σ [] (.t []) [] none
 | plain (r:Res):H9 ops o σ.t=some true->o.dst=none->H2 env σ.ev (E4 al σ.m) p o=some r->A8d r.kill=true->Q6 al σ.m p r.ups=true->A0e env al dec ops p o σ r.obl .top r.ups r.kill
 | dst (r:Res) (d:Nat) (ob:List Prop) (s:SV):H9 ops o σ.t=some true->o.dst=some d->d<σ.nt->H2 env σ.ev (E4 al σ.m) p o=some r->A8d r.kill=true->Q6 al σ.m p r.ups=true->M1 dec d r.val=(ob,s)->A0e env al dec ops p o σ (ob++r.obl) s r.ups r.kill

theorem B0z {env:Env} {al:Nat->Bool} {dec:List (Nat×Bool)} {ops:List Oper} {p:Nat} {o:Oper} {σ σ' : St} {ob:List Prop} (h:A0a env al dec ops p o σ=some (ob,σ')) :
  ∃s ups kl,A0e env al dec ops p o σ ob s ups kl∧σ' = W8 σ o.dst s ups kl:=by
 rw[A3q] at h;split at h
 ·rename_i hw
  unfold C6h at h;split at h
  ·cases h
  ·rename_i r hr
   split at h
   ·rename_i hups
    simp only[Bool.and_eq_true] at hups;obtain ⟨hk,hups⟩:=hups;split at h
    ·rename_i hd
     cases h
     exact ⟨.top,r.ups,r.kill,.plain r hw hd hr hk hups,by simp only[W8,hd,O4]⟩
    ·rename_i d hd
     split at h
     ·rename_i hlt
      cases hdv:M1 dec d r.val with
      | mk o' v=>
       simp only[hdv] at h
       cases h
       exact ⟨v,r.ups,r.kill,.dst r d o' v hw hd hlt hr hk hups hdv,by simp only[W8,hd,O4]⟩
     ·cases h
   ·cases h
 ·rename_i hw
  split at h
  ·rename_i e he
   split at h
   ·rename_i hlt
    cases h
    exact ⟨.t [],[],none,.skip hw (fun d hd=>by rw[he] at hd;cases hd;exact hlt),by simp only[W8,he,O4,V7,A0g,M5,A2i]⟩
   ·cases h
  ·rename_i he
   cases h
   exact ⟨.t [],[],none,.skip hw (fun d hd=>by rw[he] at hd;cases hd),by simp only[W8,he,O4,V7,A0g,M5,A2i]⟩
 ·cases h

theorem B0c {env:Env} {al:Nat->Bool} {dec:List (Nat×Bool)} {ops:List Oper} {p:Nat} {o:Oper} {σ:St} {ob:List Prop} {s:SV} {ups:List (Nat×En)} {kl:Option Nat} (h:A0e env al dec ops p o σ ob s ups kl) :
  A0a env al dec ops p o σ=some (ob,W8 σ o.dst s ups kl):=by
 rw[A3q]
 cases h with
 | skip hw hd=>
  rw[hw]
  cases he:o.dst with
  | none=>simp only[W8,O4,V7,A0g,M5,A2i]
  | some d=>simp only[W8,O4,V7,A0g,M5,A2i];rw[if_pos (hd d he)]
 | plain r hw hd hr hk hups=>
  rw[hw];simp only[C6h];unfold E4 at hr;rw[hr];simp only[hups,hk,Bool.and_self,if_true,hd,W8,O4]
 | dst r d ob s hw hd hlt hr hk hups hdv=>
  rw[hw];simp only[C6h];unfold E4 at hr;rw[hr];simp only[hups,hk,Bool.and_self,if_true,hd,W8,O4,hlt,hdv]

section
variable {env:Env} {al:Nat->Bool} {dec:List (Nat×Bool)} {ops:Array Oper} {p:Nat} {o:Oper} {σ σ' : St} {ob:List Prop} {s:SV} {ups:List (Nat×En)} {kl:Option Nat} {ks:List Nat}

theorem A0e.move (h:A0e env al dec ops.toList p o σ ob s ups kl) (hnt:σ'.nt=σ.nt) (ht:∀d∈o.looksAt ops,σ'.t d=σ.t d) (hm:E4 al σ'.m=E4 al σ.m) (hu:Q6 al σ.m p ups=true->Q6 al σ'.m p ups=true) :
  A0e env al dec ops.toList p o σ' ob s ups kl:=by
 have hop:∀r,H2 env σ.ev (E4 al σ.m) p o=some r->H2 env σ'.ev (E4 al σ'.m) p o=some r:=by
  intro r hr;rw[V5 (A3i ht),hm];exact hr
 cases h with
 | skip hw hd=>exact .skip (by rw[O7 ht];exact hw) (fun d hd' => by rw[hnt];exact hd d hd')
 | plain r hw hd hr hk hups=>exact .plain r (by rw[O7 ht];exact hw) hd (hop r hr) hk (hu hups)
 | dst r d ob s hw hd hlt hr hk hups hdv=>exact .dst r d ob s (by rw[O7 ht];exact hw) hd (by rw[hnt];exact hlt) (hop r hr) hk (hu hups) hdv

theorem A0e.facts (h:A0e env al dec ops.toList p o σ ob s ups kl) (h6:C4 env o=6) (hal:∀q,al q=true->q<p):Q6 al σ.m p ups=true∧∀y e,(y,e)∈ups->(y=p∧kl=none∧σ.m y=none)∨(kl=some y∧al y=true∧σ.m y≠none):=by
 have key:∀r,H2 env σ.ev (E4 al σ.m) p o=some r->Q6 al σ.m p r.ups=true->∀y e,(y,e)∈r.ups->(y=p∧r.kill=none∧σ.m y=none)∨(r.kill=some y∧al y=true∧σ.m y≠none):=by
  intro r hr hups y e hy;obtain ⟨y',e',hu,hk⟩:=D8q hr h6;have hu2:=(K7.1 hups) y e hy;rw[hu] at hy;simp only[List.mem_cons,List.not_mem_nil,or_false,Prod.mk.injEq] at hy;obtain ⟨rfl,rfl⟩:=hy;rcases hk with ⟨rfl,hk⟩ | ⟨hk,hm⟩
  ·left
   refine ⟨rfl,hk,?_⟩
   cases hm:σ.m y with
   | none=>rfl
   | some x=>simp only[hm] at hu2;have:=hal y hu2;omega
  ·right
   simp only[E4] at hm;split at hm
   ·rename_i h;exact ⟨hk,h,hm⟩
   ·exact absurd rfl hm
 cases h with
 | skip hw hd=>exact ⟨rfl,fun y e h=>(by cases h)⟩
 | plain r hw hd hr hk hups=>exact ⟨hups,key r hr hups⟩
 | dst r d ob s hw hd hlt hr hk hups hdv=>exact ⟨hups,key r hr hups⟩

theorem B8q {m:Nat->Option En}:∀{ups:List (Nat×En)},(∀x∈ups,C2p kl x.2=x.2)->M5 (F8 m ups) kl=F8 (M5 m kl) ups:=by
 intro ups;induction ups generalizing m with
 | nil=>intro _;rfl
 | cons x l ih=>
  intro h;obtain ⟨q,e⟩:=x;simp only[F8];rw[ih fun x hx=>h x (List.mem_cons_of_mem _ hx)]
  congr 1
  funext y
  rw[A5l];by_cases hy:y=q
  ·simp only[hy,if_true]
   exact congrArg some (h (q,e) List.mem_cons_self)
  ·simp only[hy,if_false]
   exact (A5l m kl y).symm
theorem B8p {m:Nat->Option En} {q:Nat}:M5 m kl q=none↔m q=none:=by
 rw[A5l]
 cases m q<;>simp

variable {o1 o2:Oper} {p1 p2:Nat} {al1 al2:Nat->Bool} {ob1 ob2:List Prop} {s1 s2:SV} {ups1 ups2:List (Nat×En)} {f1 f2:Option (List Nat)}
theorem C5i {b:Nat} {f g:Option (List Nat)} (h:A5d b f g=false):b<=2∧(b=1->B2a f g=true):=by
 match b,h with
 | 0,_=>exact ⟨by omega,fun h=>by cases h⟩
 | 1,h=>exact ⟨by omega,fun _=>by simpa [A5d] using h⟩
 | 2,_=>exact ⟨by omega,fun h=>by cases h⟩

/-- An operation, and behind it a row's growth. -/
theorem G3t (h6:C4 env o2=6) (hap:o1.apart ops o2=true) (hcl6:A5d (C4 env o1) f1 f2=false) (hf1:∀q,al1 q=true->U1 f1 q=true) (hf2:∀q,al2 q=true->U1 f2 q=true)
  (hp:p1+16<=p2) (hal1:∀q,al1 q=true->q<p1) (hal2:∀q,al2 q=true->q<p2) (hno:∀q,p1<=q->q<p1+16->al2 q=false)
  (hcl:kl=none∨∃q,kl=some q∧P7 q ks=true∧I5 env ks al1 f1 p1 o1 σ=true)
  (h1:U0 env al1 dec ops.toList p1 o1 σ ob1 s1 ups1) (h2:A0e env al2 dec ops.toList p2 o2 (J8 σ o1.dst s1 ups1) ob2 s2 ups2 kl) :
  A0e env al2 dec ops.toList p2 o2 σ ob2 s2 ups2 kl∧U0 env al1 dec ops.toList p1 o1 (W8 σ o2.dst s2 ups2 kl) ob1 (A4s kl s1) ups1∧W8 (J8 σ o1.dst s1 ups1) o2.dst s2 ups2 kl=J8 (W8 σ o2.dst s2 ups2 kl) o1.dst (A4s kl s1) ups1 ∧
   E4 al2 σ.m=E4 al2 (J8 σ o1.dst s1 ups1).m∧(I5 env ks al1 f1 p1 o1 σ=true->I5 env ks al1 f1 p1 o1 (W8 σ o2.dst s2 ups2 kl)=true):=by
 obtain ⟨hle,hft⟩:=C5i hcl6;obtain ⟨a1,a2,a3⟩:=Oper.apart_spec hap;have m4:C4 env o1≠4:=by omega
 have m6:C4 env o1≠6:=by omega
 have m3:C4 env o1≠3:=by omega
 obtain ⟨u1,g1,_⟩:=h1.facts m4 m6;obtain ⟨u2,g2⟩:=h2.facts h6 hal2;have w1:∀q e,(q,e)∈ups1->σ.m q=none∧p1<=q∧q<p1+16:=by
  intro q e hq;have hu:=(K7.1 u1) q e hq;have hge:=g1 m3 q e hq
  cases hm:σ.m q with
  | some x=>simp only[hm] at hu;have:=hal1 q hu;omega
  | none=>simp only[hm] at hu;exact ⟨rfl,hu⟩
 have w2:∀y e,(y,e)∈ups2->(y=p2∧kl=none∧σ.m y=none)∨(kl=some y∧al2 y=true∧σ.m y≠none):=by
  intro y e hy;rcases g2 y e hy with ⟨h1',h2',h3'⟩ | ⟨h1',h2',h3'⟩
  ·exact .inl ⟨h1',h2',A4o h3'⟩
  ·refine .inr ⟨h1',h2',fun hn=>h3' ?_⟩
   have hout:∀e,(y,e) ∉ ups1:=fun e he=>by
    obtain ⟨_,h5,h6⟩:=w1 y e he;rw[hno y h5 h6] at h2';cases h2'
   simp only[J8];rw[J1 hout];exact hn
 have disj:∀q e e',(q,e)∈ups1->(q,e') ∉ ups2:=by
  intro q e e' h h'
  obtain ⟨i1,i2,i3⟩:=w1 q e h;rcases w2 q e' h' with ⟨j1,_,_⟩ | ⟨_,_,j3⟩
  ·omega
  ·exact j3 i1
 have view2:E4 al2 σ.m=E4 al2 (J8 σ o1.dst s1 ups1).m:=by
  refine B6b fun q hq=>?_
  simp only[J8];rw[J1];intro e he;obtain ⟨_,h5,h6⟩:=w1 q e he;rw[hno q h5 h6] at hq;cases hq
 have h2' : A0e env al2 dec ops.toList p2 o2 σ ob2 s2 ups2 kl:=by
  refine h2.move rfl (fun d hd=>?_) view2 (fun _=>?_)
  ·simp only[J8]
   cases hd1:o1.dst with
   | none=>rfl
   | some e=>
    have:d≠e:=fun he=>a1 e hd1 (he ▸ hd)
    simp [O4,J7,this]
  ·rw[K7]
   intro q e hq;rcases w2 q e hq with ⟨j1,j2,j3⟩ | ⟨j1,j2,j3⟩
   ·rw[j3];exact ⟨by omega,by omega⟩
   ·cases hm:σ.m q with
    | none=>exact absurd hm j3
    | some x=>exact j2
 obtain ⟨k1,k2,k3⟩:=E1k (ks:=ks) (ft:=f1) (kl:=kl) (σ' := W8 σ o2.dst s2 ups2 kl) h1 hle hcl rfl (fun d hd=>by
   simp only[W8];rw[<-Z1]
   cases hd2:o2.dst with
   | none=>rfl
   | some e=>
    have:d≠e:=fun he=>a3 e hd2 (he ▸ hd)
    simp [O4,J7,this]) (fun hc r hr=>by
   simp only[W8];rw[J1,A5l];intro e he;have:=hal1 r hr
   rcases w2 r e he with ⟨j1,_,_⟩ | ⟨_,j2,_⟩
   ·omega
   ·exact U7 (hft hc) r (hf1 r hr) (hf2 r j2)) hf1 (fun _=>by
   rw[K7];intro q e hq;obtain ⟨i1,i2,i3⟩:=w1 q e hq;simp only[W8];rw[J1 (fun e' he' => disj q e e' hq he'),B8p.2 i1]
   exact ⟨i2,i3⟩)
 refine ⟨h2',k1,?_,view2,k3⟩
 simp only[W8,J8,St.mk.injEq,and_true];refine ⟨?_,?_⟩
 ·funext x
  have e1:=Z1 σ.t kl x;have e2:=Z1 (O4 σ.t o1.dst s1) kl x
  cases hd1:o1.dst with
  | none=>
   cases hd2:o2.dst with
   | none=>simp only[O4]
   | some b=>simp only[O4]
  | some a=>
   cases hd2:o2.dst with
   | none=>
    simp only[O4,J7,Z1];by_cases hx:x=a
    ·simp [hx]
    ·simp [hx]
   | some b=>
    have hab:a≠b:=fun e=>a2 a hd1 (by rw[hd2,e])
    simp only[O4,J7,Z1];by_cases hx:x=a
    ·subst hx;simp [hab]
    ·simp [hx]
 ·rw[B8q k2]
  exact A9h disj

/-- A row's growth, and behind it an operation. -/
theorem G3u (h6:C4 env o1=6) (hap:o1.apart ops o2=true) (hcl6:A5d (C4 env o2) f1 f2=false) (hf1:∀q,al1 q=true->U1 f1 q=true) (hf2:∀q,al2 q=true->U1 f2 q=true)
  (hp:p1+16<=p2) (hal1:∀q,al1 q=true->q<p1) (hal2:∀q,al2 q=true->q<p2) (hno:∀q,p1<=q->q<p1+16->al2 q=false)
  (hcl:kl=none∨∃q,kl=some q∧P7 q ks=true∧I5 env ks al2 f2 p2 o2 (W8 σ o1.dst s1 ups1 kl)=true)
  (h1:A0e env al1 dec ops.toList p1 o1 σ ob1 s1 ups1 kl) (h2:U0 env al2 dec ops.toList p2 o2 (W8 σ o1.dst s1 ups1 kl) ob2 s2 ups2) :
  ∃s0,U0 env al2 dec ops.toList p2 o2 σ ob2 s0 ups2∧A0e env al1 dec ops.toList p1 o1 (J8 σ o2.dst s0 ups2) ob1 s1 ups1 kl∧J8 (W8 σ o1.dst s1 ups1 kl) o2.dst s2 ups2=W8 (J8 σ o2.dst s0 ups2) o1.dst s1 ups1 kl ∧
   E4 al1 (J8 σ o2.dst s0 ups2).m=E4 al1 σ.m∧(I5 env ks al2 f2 p2 o2 (W8 σ o1.dst s1 ups1 kl)=true->I5 env ks al2 f2 p2 o2 σ=true):=by
 obtain ⟨hle,hft⟩:=C5i hcl6;obtain ⟨a1,a2,a3⟩:=Oper.apart_spec hap;have m4:C4 env o2≠4:=by omega
 have m6:C4 env o2≠6:=by omega
 have m3:C4 env o2≠3:=by omega
 obtain ⟨u1,w1⟩:=h1.facts h6 hal1;obtain ⟨u2,g2,_⟩:=h2.facts m4 m6;have w2:∀q e,(q,e)∈ups2->σ.m q=none∧p2<=q∧q<p2+16:=by
  intro q e hq;have hu:=(K7.1 u2) q e hq;have hge:=g2 m3 q e hq
  cases hm:(W8 σ o1.dst s1 ups1 kl).m q with
  | some x=>simp only[hm] at hu;have:=hal2 q hu;omega
  | none=>
   simp only[hm] at hu;have:=A4o hm
   exact ⟨B8p.1 this,hu⟩
 have disj:∀q e e',(q,e)∈ups1->(q,e') ∉ ups2:=by
  intro q e e' h h'
  obtain ⟨i1,i2,i3⟩:=w2 q e' h';rcases w1 q e h with ⟨j1,_,_⟩ | ⟨_,_,j3⟩
  ·omega
  ·exact j3 i1
 obtain ⟨s0,k0,k1,k2,k3⟩:=E1j (ks:=ks) (ft:=f2) (kl:=kl) (σ:=σ) h2 hle hcl rfl (fun d hd=>by
   simp only[W8];rw[<-Z1]
   cases hd1:o1.dst with
   | none=>rfl
   | some e=>
    have:d≠e:=fun he=>a1 e hd1 (he ▸ hd)
    simp [O4,J7,this]) (fun hc r hr=>by
   simp only[W8];rw[J1,A5l];intro e he;rcases w1 r e he with ⟨j1,_,_⟩ | ⟨_,j2,_⟩
   ·rw[hno r (by omega) (by omega)] at hr;cases hr
   ·exact U7 (hft hc) r (hf1 r j2) (hf2 r hr)) hf2 (fun _=>by
   rw[K7];intro q e hq;obtain ⟨i1,i2,i3⟩:=w2 q e hq;rw[i1];exact ⟨i2,i3⟩)
 have view1:E4 al1 (J8 σ o2.dst s0 ups2).m=E4 al1 σ.m:=by
  refine B6b fun q hq=>?_
  simp only[J8];rw[J1];intro e he;obtain ⟨_,h5,_⟩:=w2 q e he;have:=hal1 q hq
  omega
 refine ⟨s0,k1,?_,?_,view1,k3⟩
 ·refine h1.move rfl (fun d hd=>?_) view1 (fun _=>?_)
  ·simp only[J8]
   cases hd2:o2.dst with
   | none=>rfl
   | some e=>
    have:d≠e:=fun he=>a3 e hd2 (he ▸ hd)
    simp [O4,J7,this]
  ·rw[K7]
   intro q e hq;have hu:=(K7.1 u1) q e hq;simp only[J8];rw[J1 (fun e' he' => disj q e e' hq he')]
   exact hu
 ·simp only[W8,J8,St.mk.injEq,and_true]
  refine ⟨?_,?_⟩
  ·funext x
   cases hd1:o1.dst with
   | none=>
    cases hd2:o2.dst with
    | none=>simp only[O4]
    | some b=>
     simp only[O4,J7,Z1];by_cases hx:x=b
     ·simp [hx,k0]
     ·simp [hx]
   | some a=>
    cases hd2:o2.dst with
    | none=>simp only[O4]
    | some b=>
     have hab:a≠b:=fun e=>a2 a hd1 (by rw[hd2,e])
     simp only[O4,J7,Z1];by_cases hx:x=b
     ·subst hx;simp [Ne.symm hab,k0]
     ·simp [hx]
  ·rw[B8q k2]
   exact A9h disj

/-! What is asked ahead of a step, carried over. -/
variable {anc:List Nat} {kk:List (Nat×Nat)} {i:Nat} {ft:Option (List Nat)}
theorem A0t (he:∀x∈o.op.operands,σ'.ev x=σ.ev x) (hm:Z4 (C4 env o)=true->E4 al σ'.m=E4 al σ.m) (h:Q9 env anc kk i al ft p o σ=true):Q9 env anc kk i al ft p o σ' = true:=by
 unfold Q9 at h ⊢
 simp only[B1u] at h ⊢
 cases h6:Nat.beq (C4 env o) 6 with
 | true=>
  simp only[h6,if_true] at h ⊢
  have e6:=Nat.eq_of_beq_eq_true h6;rw[V5 he,hm (by rw[e6];rfl)]
  exact h
 | false=>
  simp only[h6,Bool.false_eq_true,if_false,Bool.or_eq_true] at h ⊢
  rcases h with h | h
  ·exact .inl h
  ·by_cases h3:Nat.ble 3 (C4 env o)=true
   ·exact .inl (.inr h3)
   ·right
    have hlt:C4 env o<=2:=by
     rcases Nat.lt_or_ge (C4 env o) 3 with h | h
     ·omega
     ·exact absurd (Nat.ble_eq_true_of_le h) h3
    have hpt:∀r,C4 env o=1->al r=true->σ'.m r=σ.m r:=fun r h1 hr=>by
     have:=congrFun (hm (by rw[h1];rfl)) r
     simpa [E4,hr] using this
    refine V9 he (fun h1 r hr _=>hpt r h1 hr) ?_ h
    rw[V5 he];by_cases h1:C4 env o=1
    ·rw[hm (by rw[h1];rfl)]
    ·exact A4j (fun f=>rfl) _ (by
      have:C4 env o=0∨C4 env o=2:=by omega
      rcases this with e | e<;>rw[e]<;>rfl) (by omega)
theorem C3x (h6:C4 env o≠6) (hc:I5 env (A5n anc i kk) al ft p o σ=true->I5 env (A5n anc i kk) al ft p o σ' = true) (h:Q9 env anc kk i al ft p o σ=true):Q9 env anc kk i al ft p o σ' = true:=by
 have hb:Nat.beq (C4 env o) 6=false:=by
  cases hh:Nat.beq (C4 env o) 6 with
  | false=>rfl
  | true=>exact absurd (Nat.eq_of_beq_eq_true hh) h6
 unfold Q9 at h ⊢
 simp only[hb,Bool.false_eq_true,if_false,Bool.or_eq_true] at h ⊢
 rcases h with h | h
 ·exact .inl h
 ·exact .inr (hc h)
theorem B1p (hle:C4 env o<=2) (hne:(A5n anc i kk).isEmpty=false) (h:Q9 env anc kk i al ft p o σ=true):I5 env (A5n anc i kk) al ft p o σ=true:=by
 have hb:Nat.beq (C4 env o) 6=false:=by
  cases hh:Nat.beq (C4 env o) 6 with
  | false=>rfl
  | true=>have:=Nat.eq_of_beq_eq_true hh;omega
 have h3:Nat.ble 3 (C4 env o)=false:=by
  cases hh:Nat.ble 3 (C4 env o) with
  | false=>rfl
  | true=>have:=Nat.le_of_ble_eq_true hh;omega
 unfold Q9 at h;simpa only[hb,hne,h3,Bool.false_eq_true,if_false,Bool.false_or] using h
theorem B8r {j q:Nat}:∀{kk:List (Nat×Nat)},E5f j q kk=true->(if j<i then (anc.getD i 0).testBit j else (anc.getD j 0).testBit i)=false->P7 q (A5n anc i kk)=true
 | [],h,_=>by cases h
 | (j',q')::l,h,hu=>by
  simp only[E5f] at h;simp only[A5n];split at h
  ·rename_i e
   obtain ⟨rfl,rfl⟩:=e;rw[hu];simp [P7]
  ·have ih:=B8r h hu
   generalize (if j' < i then (anc.getD i 0).testBit j' else (anc.getD j' 0).testBit i)=b
   cases b with
   | true=>exact ih
   | false=>
    show P7 q (q' :: A5n anc i l)=true;simp only[P7];split
    ·rfl
    ·exact ih
theorem B0t {q:Nat} {l:List Nat} (h:P7 q l=true):l.isEmpty=false:=by
 cases l with
 | nil=>cases h
 | cons=>rfl
theorem B4z (h6:C4 env o=6) (h:Q9 env anc kk i al ft p o σ=true) (hd:A0e env al dec ops.toList p o σ ob s ups kl):∀q,kl=some q->E5f i q kk=true:=by
 intro q hq;have hb:Nat.beq (C4 env o) 6=true:=by rw[h6];rfl
 unfold Q9 at h;simp only[hb,if_true,B1u] at h
 cases hd with
 | skip hw hd' => cases hq
 | plain r hw hd' hr hk hups=>rw[hr] at h;simp only[hq] at h;exact h
 | dst r d ob s hw hd' hlt hr hk hups hdv=>rw[hr] at h;simp only[hq] at h;exact h
end
end

section

section
variable {P:Program} {w0:World} {F0:Nat->Prop} {K:Kp} {as:List Act} {env:Env} {al:Nat->Bool} {dec:List (Nat×Bool)} {ops:Array Oper} {p:Nat} {o:Oper} {σ σ' : St} {ob:List Prop} {x:Ctx} {a:Act}

theorem B4n {d:Nat} {v v' : SV} {o' : List Prop} {u:Value} (h:M1 dec d v=(o',v')) (ho:A3 o') (hd:B1 x v u):B1 x v' u:=by
 unfold M1 at h;split at h
 ·rename_i b
  split at h
  ·cases h
   obtain ⟨rfl,_⟩:=ho;have:=B6c hd
   subst this;exact B5p _
  ·cases h;exact hd
 ·cases h;exact hd

theorem A3w {b:Bool} (hs:∀t,B1 x (σ.t t) (a.tmps.getD t undef)) (h:H9 ops.toList o σ.t=some b):Region.wanted o (yielded ops a.tmps)=b:=by
 unfold H9 at h;unfold Region.wanted
 cases hg:o.guard with
 | none=>simp only[hg] at h ⊢;cases h;rfl
 | some g=>
  obtain ⟨j,want⟩:=g;simp only[hg] at h ⊢
  cases hb:(ops.toList[j]?).bind (·.dst) with
  | none=>simp only[hb] at h;cases h
  | some d=>
   simp only[hb] at h;have hb' : (ops[j]?).bind (·.dst)=some d:=by simpa using hb
   split at h
   ·rename_i b' hlit
    cases h
    have hd:=hs d;rw[hlit] at hd;have hv:=C7x hd;have hget:a.tmps[d]? = some (.bool b'):=by
     rw[Array.getD_eq_getD_getElem?] at hv
     cases hh:a.tmps[d]? with
     | none=>rw[hh] at hv;simp [undef] at hv
     | some u=>rw[hh] at hv;simpa using hv
    have hy:yielded ops a.tmps j=some b' := by
     unfold yielded;rw[hb'];simp [hget]
    rw[hy]
    cases b'<;>cases want<;>rfl
   ·rename_i hlit
    cases h
    have hd:=hs d;rw[hlit] at hd;obtain ⟨vs,hv,hvs⟩:=hd
    cases hvs
    have hy:yielded ops a.tmps j=none:=by
     unfold yielded;rw[hb'];rw[Array.getD_eq_getD_getElem?] at hv
     cases hh:a.tmps[d]? with
     | none=>simp [hh]
     | some u=>rw[hh] at hv;simp at hv;subst hv;simp [hh]
    rw[hy]
    cases want<;>rfl
   ·cases h

theorem B3j (ρ:Option Nat) {Q:Exit->Act->World->Prop} {Kt:Act->World->Prop} {i:Nat} (hE:A6 P env) (hs:Sim w0 F0 K as σ x a) (hi:ops[i]? = some o) (h:A0a env al dec ops.toList p o σ=some (ob,σ')) (ho:A3 ob) (hal:∀q,al q=true->q<p)
  (hK:∀y a',Sim w0 F0 K as σ' y a' -> Kt a' y.w):wpOpIn (G6 ρ) 0 P ops Q i Kt a x.w:=by
 unfold wpOpIn;simp only[hi];rw[A3q] at h;split at h
 ·rename_i hw
  rw[A3w hs.t hw];simp only[if_true];unfold C6h at h;split at h
  ·cases h
  ·rename_i r hr
   split at h
   ·rename_i hups
    simp only[Bool.and_eq_true] at hups;obtain ⟨hkill,hups⟩:=hups;rw[K7] at hups;have hfresh:∀q e,(q,e)∈r.ups->(if al q=true then σ.m q else none)=none->σ.m q=none:=by
     intro q e hq hv;have:=hups q e hq
     cases hm:σ.m q with
     | none=>rfl
     | some e' => simp only[hm] at this;simp [this,hm] at hv
    have hsub:∀q e,(if al q=true then σ.m q else none)=some e->σ.m q=some e:=by
     intro q e hv;split at hv
     ·exact hv
     ·cases hv
    have hp:∀q,p<=q->(if al q=true then σ.m q else none)=none:=by
     intro q hq;have:¬al q=true:=fun h=>by have:=hal q h;omega
     simp [this]
    have main:A3 r.obl->∀{Kt' : Act->World->Prop},(∀v y,Tr x r.kill y (F8 (M5 σ.m r.kill) r.ups)->B1 y r.val v->Kt' (a.put o.dst v) y.w)->o.wpIn (G6 ρ) 0 P a x.w Kt' Q:=fun hob _ hn=>
     (D0o hE (fun o=>A5f hs.t o) hs.mem hsub hr hob hp hfresh).wpIn ρ (fun c hc=>by simp [H2,hc] at hr) hn
    split at h
    ·rename_i hd
     cases h
     refine main ho fun v y ht _=>hK y _ ?_
     have:=hs.step ht hkill (dst:=none) (sv:=.top) (v:=v) (nx:=σ.nx) (fun d h=>by cases h)
     rw[hd];exact this
    ·rename_i d hd
     split at h
     ·rename_i hlt
      cases hdv:M1 dec d r.val with
      | mk o' s=>
       simp only[hdv] at h
       cases h
       have ho:=D3.1 ho;refine main ho.2 fun v y ht hden=>hK y _ ?_
       have:=hs.step ht hkill (dst:=some d) (sv:=s) (v:=v) (nx:=σ.nx) (fun d' h=>by cases h;exact ⟨hlt,B4n hdv ho.1 hden⟩)
       rw[hd];exact this
     ·cases h
   ·cases h
 ·rename_i hw
  rw[A3w hs.t hw];simp only[Bool.false_eq_true,if_false];refine ⟨fun f _=>A3j ρ f,?_⟩
  split at h
  ·rename_i e he
   split at h
   ·rename_i hlt
    cases h
    refine hK x _ ?_
    have:=hs.step (Tr.refl hs.mem) rfl (dst:=some e) (sv:=.t []) (v:=undef) (nx:=σ.nx) (fun d' h=>by cases h;exact ⟨hlt,[],rfl,.nil⟩)
    rw[he];exact this
   ·cases h
  ·rename_i he
   cases h
   refine hK x _ ?_
   have:=hs.step (Tr.refl hs.mem) rfl (dst:=none) (sv:=.t []) (v:=undef) (nx:=σ.nx) (fun d' h=>by cases h)
   rw[he];exact this
 ·cases h

/-! Order open. -/
theorem C4f {lo anc p q:Nat} {f:Option (List Nat)} (h:alF lo anc p f q=true):q<p∧U1 f q=true:=by
 simp only[alF,D8n,Bool.and_eq_true] at h;exact ⟨by simpa using h.1.1,h.2⟩

theorem A4z {acc:List Nat}:∀{l:List Edge} {j:Nat},(A6l acc l).testBit j=true->∃e∈l,Region.binds .any e=true∧(j=e.on∨(acc.getD e.on 0).testBit j=true)
 | [],j,h=>by simp [A6l] at h
 | e::l,j,h=>by
  simp only[A6l] at h;split at h
  ·rename_i hb
   simp only[Nat.testBit_or,Bool.or_eq_true] at h;rcases h with (h | h) | h
   ·rw[Nat.testBit_two_pow] at h
    exact ⟨e,by simp,hb,.inl (by simpa using (of_decide_eq_true h).symm)⟩
   ·exact ⟨e,by simp,hb,.inr h⟩
   ·obtain ⟨e',he',h'⟩:=A4z h
    exact ⟨e',by simp [he'],h'⟩
  ·obtain ⟨e',he',h'⟩:=A4z h
   exact ⟨e',by simp [he'],h'⟩

theorem B9m {ft:List (Option (List Nat))} {fo:Option (List Nat)} {anc:Nat}:∀{l:List Oper} {k:Nat},B3g env ops ft fo o anc l k=true->∀j x,l[j]? = some x->anc.testBit (k+j)=true∨P4 env ops (ft.getD (k+j) none) fo x o=false
 | [],_,_,j,x,h=>by simp at h
 | y::l,k,h,j,x,hx=>by
  simp only[B3g,Bool.and_eq_true,Bool.or_eq_true,Bool.not_eq_true'] at h
  cases j with
  | zero=>simp only[List.getElem?_cons_zero,Option.some.injEq] at hx;subst hx;exact h.1
  | succ j=>
   simp only[List.getElem?_cons_succ] at hx;have:=B9m h.2 j x hx
   rw[show k+1+j=k+(j+1) from by omega] at this
   exact this

theorem B7i {ft:List (Option (List Nat))} {anc:List Nat}:∀{l:List Oper} {k:Nat},A8a env ops anc ft l k=true->∀j x,l[j]? = some x ->
  P2 (k+j) x=true∧anc.getD (k+j) 0=A3e anc x∧B3g env ops ft (ft.getD (k+j) none) x (anc.getD (k+j) 0) (ops.toList.take (k+j)) 0=true
 | [],_,_,j,x,h=>by simp at h
 | y::l,k,h,j,x,hx=>by
  simp only[A8a,Bool.and_eq_true,and_assoc] at h
  cases j with
  | zero=>
   simp only[List.getElem?_cons_zero,Option.some.injEq] at hx;subst hx;exact ⟨h.1,Nat.eq_of_beq_eq_true h.2.1,h.2.2.1⟩
  | succ j=>
   simp only[List.getElem?_cons_succ] at hx;have:=B7i h.2.2.2 j x hx
   rw[show k+1+j=k+(j+1) from by omega] at this
   exact this

/-- One that touches none of those ahead of it may go first. -/
theorem A2t {ft:List (Option (List Nat))} {kk:List (Nat×Nat)} {anc:List Nat} {lo:Nat} {i:Nat} {oi:Oper} {post:List (Nat×Oper)}:∀{pre:List (Nat×Oper)} {σ σ' : St} {ob:List Prop},
    (∀q∈pre,q.1<i∧(anc.getD i 0).testBit q.1=false∧P4 env ops (ft.getD q.1 none) (ft.getD i none) q.2 oi=false) ->
    G9 env dec ops.toList anc ft kk lo (pre++(i,oi)::post) σ=some (ob,σ')->A3 ob ->
    ∃ob1 ob2 σ1,Q9 env anc kk i (alF lo (anc.getD i 0) (lo+16*i) (ft.getD i none)) (ft.getD i none) (lo+16*i) oi σ=true∧A0a env (alF lo (anc.getD i 0) (lo+16*i) (ft.getD i none)) dec ops.toList (lo+16*i) oi σ=some (ob1,σ1)∧A3 ob1∧G9 env dec ops.toList anc ft kk lo (pre++post) σ1=some (ob2,σ')∧A3 ob2
  | [],σ,σ',ob,_,h,ho=>by
    simp only[List.nil_append,G9] at h ⊢
    split at h
    · rename_i hok
      split at h
      · rename_i ob1 σ1 h1
        split at h
        · rename_i ob2 σ2 h2
          cases h
          have ho:=D3.1 ho;exact ⟨ob1,ob2,σ1,hok,h1,ho.1,h2,ho.2⟩
        · cases h
      · cases h
    · cases h
  | (j,oj)::pre,σ,σ',ob,hc,h,ho=>by
    simp only[List.cons_append,G9] at h;split at h
    · rename_i hokj
      split at h
      · rename_i obj σj hj
        split at h
        · rename_i obr σr hr
          cases h
          have ho:=D3.1 ho;obtain ⟨ob1,ob2,σ1,hoki,g1,g2,g3,g4⟩:=A2t (fun q hq=>hc q (List.mem_cons_of_mem _ hq)) hr ho.2
          obtain ⟨hlt,hbit,hcon⟩:=hc (j,oj) (by simp)
          have hcon' := hcon;simp only[P4,Bool.or_eq_false_iff,Bool.not_eq_false'] at hcon'
          obtain ⟨hap,hcl⟩:=hcon';have hno:∀q,lo+16*j<=q->q<lo+16*j+16->alF lo (anc.getD i 0) (lo+16*i) (ft.getD i none) q=false:=by
            intro q h1 h2;unfold alF D8n;have hq:(q-lo) / 16=j:=by omega
            have hb:Nat.blt q lo=false:=by
              cases hh:Nat.blt q lo with
              | false=>rfl
              | true => have : q < lo := by simpa using hh
                        omega
            rw[hq,hbit,hb];simp
          have hf:∀(k:Nat) (q:Nat),alF lo (anc.getD k 0) (lo+16*k) (ft.getD k none) q=true->U1 (ft.getD k none) q=true:=fun k q h=>(C4f h).2
          have hl:∀(k:Nat) (q:Nat),alF lo (anc.getD k 0) (lo+16*k) (ft.getD k none) q=true->q<lo+16*k:=fun k q h=>(C4f h).1
          by_cases mj:C4 env oj=6
          · -- a row's growth stands ahead
            obtain ⟨s1,ups1,k6,d1,rfl⟩:=B0z hj;have hcl6:A5d (C4 env oi) (ft.getD j none) (ft.getD i none)=false:=by
              have e:Nat.beq (C4 env oj) 6=true:=by rw[mj];rfl
              simp only[B6z,e,if_true,Bool.or_eq_false_iff] at hcl;exact hcl.2
            obtain ⟨hle,_⟩:=C5i hcl6;obtain ⟨s2,ups2,d2,rfl⟩:=A2j (by omega) (by omega) g1
            have hun:(if j<i then (anc.getD i 0).testBit j else (anc.getD j 0).testBit i)=false:=by rw[if_pos hlt];exact hbit
            have hclean:k6=none∨∃q,k6=some q∧P7 q (A5n anc i kk)=true∧I5 env (A5n anc i kk) (alF lo (anc.getD i 0) (lo+16*i) (ft.getD i none)) (ft.getD i none) (lo+16*i) oi (W8 σ oj.dst s1 ups1 k6)=true:=by
              cases hk:k6 with
              | none=>exact .inl rfl
              | some q=>
                have hm:=B8r (anc:=anc) (i:=i) (B4z mj hokj d1 q hk) hun;rw[hk] at hoki;exact .inr ⟨q,rfl,hm,B1p hle (B0t hm) hoki⟩
            obtain ⟨s0,e1,e2,e3,e4,e5⟩:=G3u (ks:=A5n anc i kk) mj hap hcl6 (hf j) (hf i) (by omega) (hl j) (hl i) hno hclean d1 d2
            rw[e3] at g3;refine ⟨ob1,obj++ob2,_,C3x (by omega) e5 hoki,A2e e1,g2,?_,D3.2 ⟨ho.1,g4⟩⟩
            have hokj' : Q9 env anc kk j (alF lo (anc.getD j 0) (lo+16*j) (ft.getD j none)) (ft.getD j none) (lo+16*j) oj (J8 σ oi.dst s0 ups2)=true:=by
              refine A0t (fun x hx=>?_) (fun _=>e4) hokj
              refine A3i (ops:=ops) (fun d hd=>?_) x hx
              simp only[J8]
              cases hdi:oi.dst with
              | none=>rfl
              | some e=>
                have:d≠e:=fun he=>(Oper.apart_spec hap).2.2 e hdi (he ▸ hd)
                simp [O4,J7,this]
            simp only[List.cons_append,G9,hokj',if_true,B0c e2,g3]
          · by_cases mi:C4 env oi=6
            · obtain ⟨s2,ups2,k6,d2,rfl⟩:=B0z g1
              have hcl6:A5d (C4 env oj) (ft.getD j none) (ft.getD i none)=false:=by
                have e:Nat.beq (C4 env oj) 6=false:=by
                  cases hh:Nat.beq (C4 env oj) 6 with
                  | false=>rfl
                  | true=>exact absurd (Nat.eq_of_beq_eq_true hh) mj
                have e2:Nat.beq (C4 env oi) 6=true:=by rw[mi];rfl
                simp only[B6z,e,e2,if_true,Bool.false_eq_true,if_false,Bool.or_eq_false_iff] at hcl;exact hcl.2
              obtain ⟨hle,_⟩:=C5i hcl6;obtain ⟨s1,ups1,d1,rfl⟩:=A2j (by omega) (by omega) hj
              have hun:(if i<j then (anc.getD j 0).testBit i else (anc.getD i 0).testBit j)=false:=by rw[if_neg (by omega)];exact hbit
              have hclean:k6=none∨∃q,k6=some q∧P7 q (A5n anc j kk)=true∧I5 env (A5n anc j kk) (alF lo (anc.getD j 0) (lo+16*j) (ft.getD j none)) (ft.getD j none) (lo+16*j) oj σ=true:=by
                cases hk:k6 with
                | none=>exact .inl rfl
                | some q=>
                  have hm:=B8r (anc:=anc) (i:=j) (B4z mi hoki d2 q hk) hun;exact .inr ⟨q,rfl,hm,B1p hle (B0t hm) hokj⟩
              obtain ⟨e1,e2,e3,e4,e5⟩:=G3t (ks:=A5n anc j kk) mi hap hcl6 (hf j) (hf i) (by omega) (hl j) (hl i) hno hclean d1 d2
              rw[e3] at g3;have hoki' : Q9 env anc kk i (alF lo (anc.getD i 0) (lo+16*i) (ft.getD i none)) (ft.getD i none) (lo+16*i) oi σ=true:=by
                refine A0t (fun x hx=>?_) (fun _=>e4) hoki
                refine A3i (ops:=ops) (fun d hd=>?_) x hx
                simp only[J8]
                cases hdj:oj.dst with
                | none=>rfl
                | some e=>
                  have:d≠e:=fun he=>(Oper.apart_spec hap).1 e hdj (he ▸ hd)
                  simp [O4,J7,this]
              refine ⟨ob1,obj++ob2,_,hoki',B0c e1,g2,?_,D3.2 ⟨ho.1,g4⟩⟩
              simp only[List.cons_append,G9,C3x mj e5 hokj,if_true,A2e e2,g3]
            · obtain ⟨n1,n2,_,_⟩:=B4m (B5s mj) (B5s mi) hcl
              obtain ⟨s1,ups1,d1,rfl⟩:=A2j n1 mj hj;obtain ⟨s2,ups2,d2,rfl⟩:=A2j n2 mi g1;obtain ⟨e1,e2,e3,e4,e5⟩:=H3b mj mi hcon (hf j) (hf i) (by omega) (hl j) (hl i) hno d1 d2
              rw[e3] at g3;have hoki' : Q9 env anc kk i (alF lo (anc.getD i 0) (lo+16*i) (ft.getD i none)) (ft.getD i none) (lo+16*i) oi σ=true:=by
                refine A0t (fun x hx=>?_) e4 hoki
                refine A3i (ops:=ops) (fun d hd=>?_) x hx
                simp only[J8]
                cases hdj:oj.dst with
                | none=>rfl
                | some e=>
                  have:d≠e:=fun he=>(Oper.apart_spec hap).1 e hdj (he ▸ hd)
                  simp [O4,J7,this]
              have hokj' : Q9 env anc kk j (alF lo (anc.getD j 0) (lo+16*j) (ft.getD j none)) (ft.getD j none) (lo+16*j) oj (J8 σ oi.dst s2 ups2)=true:=by
                refine A0t (fun x hx=>?_) e5 hokj
                refine A3i (ops:=ops) (fun d hd=>?_) x hx
                simp only[J8]
                cases hdi:oi.dst with
                | none=>rfl
                | some e=>
                  have:d≠e:=fun he=>(Oper.apart_spec hap).2.2 e hdi (he ▸ hd)
                  simp [O4,J7,this]
              refine ⟨ob1,obj++ob2,_,hoki',A2e e1,g2,?_,D3.2 ⟨ho.1,g4⟩⟩
              simp only[List.cons_append,G9,hokj',if_true,A2e e2,g3]
        · cases h
      · cases h
    · cases h

end
end

section

section
variable {P:Program} {w0:World} {F0:Nat->Prop} {K:Kp} {as:List Act} {env:Env} {dec:List (Nat×Bool)} {ops:Array Oper} {Q:Exit->Act->World->Prop}

structure Rem (ops:Array Oper) (anc:List Nat) (c:Nat) (listed:Array Bool) (rem:List (Nat×Oper)):Prop where
 sorted:rem.Pairwise fun a b=>a.1<b.1
 there:∀i o,(i,o)∈rem->ops[i]? = some o
 small:∀i o,(i,o)∈rem->i<c
 size:listed.size=ops.size
 left:∀i,i<ops.size->(listed.getD i true=false↔(∃o,(i,o)∈rem)∨c<=i)
 closed:∀i,i<ops.size->listed.getD i false=true->∀j,(anc.getD i 0).testBit j=true->listed.getD j false=true

theorem A0p {l:Array Bool} {i:Nat}:l.getD i true=false↔(i<l.size∧l.getD i false=false):=by
 rcases Nat.lt_or_ge i l.size with h | h
 ·simp [h]
 ·simp [Array.getElem?_eq_none h];omega

theorem A6y {anc:List Nat} {c i:Nat} {o:Oper} {listed:Array Bool} {rem:List (Nat×Oper)} (hr:Rem ops anc c listed rem) (ha:anc.getD i 0=A3e anc o) (hall:∀e∈o.after,Region.binds .any e=true->listed.getD e.on false=true):∀j,(anc.getD i 0).testBit j=true->listed.getD j false=true:=by
 intro j hj;rw[ha] at hj;obtain ⟨e,he,hb,hje⟩:=A4z hj;have hle:=hall e (Array.mem_toList_iff.1 he) hb;rcases hje with rfl | hje
 ·exact hle
 ·have:e.on<ops.size:=by
   rcases Nat.lt_or_ge e.on listed.size with hh | hh
   ·rw[<-hr.size];exact hh
   ·simp [Array.getElem?_eq_none hh] at hle
  exact hr.closed e.on this hle j hje

/-- One more is done. -/
theorem Rem.step {anc:List Nat} {c i:Nat} {o' : Oper} {pre post:List (Nat×Oper)} {listed:Array Bool} (hr:Rem ops anc c listed (pre++(i,o')::post)) (hsrt:pre.Pairwise (fun a b=>a.1<b.1)∧((i,o')::post).Pairwise (fun a b=>a.1<b.1)∧∀a∈pre,∀b∈(i,o')::post,a.1<b.1) (hlt:i<ops.size)
  (hanc:∀j,(anc.getD i 0).testBit j=true->listed.getD j false=true):Rem ops anc c (listed.setIfInBounds i true) (pre++post):=by
 have hsub:(pre++post).Sublist (pre++(i,o')::post):=List.Sublist.append (List.Sublist.refl _) (List.sublist_cons_self _ _);have hic:=hr.small i o' (by simp)
 refine ⟨hr.sorted.sublist hsub,fun j oj hj=>hr.there j oj (hsub.subset hj),fun j oj hj=>hr.small j oj (hsub.subset hj),by simp [hr.size],fun j hj=>?_,fun j hj hlj k hk=>?_⟩
 ·by_cases hji:j=i
  ·subst hji
   constructor
   ·intro h
    have hsz:j<listed.size:=by rw[hr.size];exact hj
    simp [hsz] at h
   ·rintro (⟨oj,hoj⟩ | h)
    ·exfalso
     rcases List.mem_append.1 hoj with h | h
     ·have:=hsrt.2.2 _ h (j,o') (by simp);simp only at this;omega
     ·have:=(List.pairwise_cons.1 hsrt.2.1).1 _ h;simp only at this;omega
    ·omega
  ·rw[getD_set_ne true (Ne.symm hji),hr.left j hj]
   constructor
   ·rintro (⟨oj,hoj⟩ | h)
    ·refine .inl ⟨oj,?_⟩
     rcases List.mem_append.1 hoj with h | h
     ·exact List.mem_append_left _ h
     ·rcases List.mem_cons.1 h with h | h
      ·cases h;exact absurd rfl hji
      ·exact List.mem_append_right _ h
    ·exact .inr h
   ·rintro (⟨oj,hoj⟩ | h)
    ·exact .inl ⟨oj,hsub.subset hoj⟩
    ·exact .inr h
 ·by_cases hji:j=i
  ·subst hji;exact getD_set_true (hanc k hk)
  ·rw[getD_set_ne false (Ne.symm hji)] at hlj
   exact getD_set_true (hr.closed j hj hlj k hk)

/-- What stands in order behind all else comes in order. -/
theorem F7q {F:Fence} {anc:List Nat} (hget:∀i o,ops[i]? = some o->P2 i o=true∧anc.getD i 0=A3e anc o) :
  ∀(n c:Nat) (listed:Array Bool) (a:Act) (w:World),n=ops.size-c->(∀i,c<=i->i<ops.size->∀j,j<i->(anc.getD i 0).testBit j=true)->Rem ops anc c listed []->wpOpsIn F 0 P ops Q (List.range' c n) a w->wpAnyIn F 0 P .any ops Q n listed a w:=by
 intro n;induction n with
 | zero=>
  intro c listed a w hn _ hr h;refine ⟨?_,h⟩
  apply List.eq_nil_iff_forall_not_mem.2
  intro i hi;obtain ⟨h0,o,hio,_⟩:=mem_ready.1 hi;have hlt:i<ops.size:=(Array.getElem?_eq_some_iff.1 hio).1;rcases (hr.left i hlt).1 h0 with hx | h
  ·obtain ⟨o',ho'⟩:=hx;cases ho'
  ·omega
 | succ n ih=>
  intro c listed a w hn htl hr h;have hc:c<ops.size:=by omega
  have hio:ops[c]? = some ops[c]:=Array.getElem?_eq_getElem hc;have hun:∀j,j<c->listed.getD j false=true:=by
   intro j hj;have hnot:¬listed.getD j true=false:=by
    rw[hr.left j (by omega)]
    rintro (⟨o',ho'⟩ | h)
    ·cases ho'
    ·omega
   rw[A0p] at hnot
   cases hh:listed.getD j false with
   | true=>rfl
   | false=>exact absurd ⟨by rw[hr.size];omega,hh⟩ hnot
  have hmem:c∈Region.ready .any ops listed:=by
   refine mem_ready.2 ⟨(hr.left c hc).2 (.inr (Nat.le_refl _)),_,hio,fun e he hb=>?_⟩
   have hedge:=(hget c _ hio).1;unfold P2 at hedge;have he' := List.all_eq_true.1 hedge e (Array.mem_toList_iff.2 he);simp only[hb,Bool.not_true,Bool.false_or] at he'
   exact hun e.on (by simpa using he')
  rw[List.range'_succ,wpOpsIn_cons] at h;refine ⟨fun hnone=>(by rw[hnone] at hmem;cases hmem),fun i hi=>?_⟩
  obtain ⟨h0,o,hio',hall⟩:=mem_ready.1 hi;have hlt:i<ops.size:=(Array.getElem?_eq_some_iff.1 hio').1;have hci:c<=i:=by
   rcases (hr.left i hlt).1 h0 with ⟨o',ho'⟩ | h
   ·cases ho'
   ·exact h
  have hic:i=c:=by
   rcases Nat.lt_or_ge c i with hh | hh
   ·exfalso
    have:=A6y hr (hget i o hio').2 hall c (htl i hci hlt c hh)
    have h2:=(A0p.1 ((hr.left c hc).2 (.inr (Nat.le_refl _)))).2;rw[this] at h2
    cases h2
   ·omega
  subst hic;refine wpOpIn_mono (fun a' w' h' => ih (i+1) _ a' w' (by omega) (fun j hj=>htl j (by omega)) ?_ h') h
  refine ⟨.nil,fun j oj hj=>(by cases hj),fun j oj hj=>(by cases hj),by simp [hr.size],fun j hj=>?_,fun j hj hlj k hk=>?_⟩
  ·by_cases hji:j=i
   ·subst hji
    constructor
    ·intro h
     have hsz:j<listed.size:=by rw[hr.size];exact hj
     simp [hsz] at h
    ·rintro (⟨oj,hoj⟩ | h)
     ·cases hoj
     ·omega
   ·rw[getD_set_ne true (Ne.symm hji),hr.left j hj]
    constructor
    ·rintro (⟨oj,hoj⟩ | h)
     ·cases hoj
     ·exact .inr (by omega)
    ·rintro (⟨oj,hoj⟩ | h)
     ·cases hoj
     ·exact .inr (by omega)
  ·by_cases hji:j=i
   ·subst hji;exact getD_set_true (A6y hr (hget j o hio').2 hall k hk)
   ·rw[getD_set_ne false (Ne.symm hji)] at hlj
    exact getD_set_true (hr.closed j hj hlj k hk)

/-- Two that are not ordered do not get into each other's way, but for those left out. -/
def E2u (env:Env) (ops:Array Oper) (anc:List Nat) (ft:List (Option (List Nat))) (sk:Nat->Bool):Prop:=
 ∀i o j x,ops[i]? = some o->ops[j]? = some x->j<i->sk i=false->sk j=false->(anc.getD i 0).testBit j=true∨P4 env ops (ft.getD j none) (ft.getD i none) x o=false

theorem D6t (ρ:Option Nat) (hE:A6 P env) {ft:List (Option (List Nat))} {kk:List (Nat×Nat)} {anc:List Nat} {lo c:Nat} {σ' : St} {sk:Nat->Bool} (hget:∀i o,ops[i]? = some o->P2 i o=true∧anc.getD i 0=A3e anc o) (hcf:E2u env ops anc ft sk) (htl:∀i,c<=i->i<ops.size->∀j,j<i->(anc.getD i 0).testBit j=true)
  (hK:∀y a',Sim w0 F0 K as σ' y a' -> wpOpsIn (G6 ρ) 0 P ops Q (List.range' c (ops.size-c)) a' y.w) :
  ∀(fuel:Nat) (rem:List (Nat×Oper)) (listed:Array Bool) (σ:St) (ob:List Prop) (x:Ctx) (a:Act),rem.length=fuel->(∀q∈rem,sk q.1=false)->Rem ops anc c listed rem->G9 env dec ops.toList anc ft kk lo rem σ=some (ob,σ')->A3 ob->Sim w0 F0 K as σ x a ->
   wpAnyIn (G6 ρ) 0 P .any ops Q (fuel+(ops.size-c)) listed a x.w:=by
 intro fuel;induction fuel with
 | zero=>
  intro rem listed σ ob x a hl hsk hr hd ho hs;have hnil:rem=[]:=List.eq_nil_of_length_eq_zero hl;subst hnil;simp only[G9,Option.some.injEq,Prod.mk.injEq] at hd;obtain ⟨_,rfl⟩:=hd;rw[Nat.zero_add];exact F7q hget _ c listed a x.w rfl htl hr (hK x a hs)
 | succ fuel ih=>
  intro rem listed σ ob x a hl hsk hr hd ho hs;rw[show fuel+1+(ops.size-c)=(fuel+(ops.size-c))+1 from by omega]
  obtain ⟨i0,o0,rest,hrem0⟩:∃i0 o0 rest,rem=(i0,o0)::rest:=by
   cases rem with
   | nil=>simp at hl
   | cons q rest=>exact ⟨q.1,q.2,rest,rfl⟩
  have hio0:ops[i0]? = some o0:=hr.there i0 o0 (by rw[hrem0];simp)
  have hlt0:i0<ops.size:=(Array.getElem?_eq_some_iff.1 hio0).1;have hi0c:i0<c:=hr.small i0 o0 (by rw[hrem0];simp)
  have hun0:listed.getD i0 true=false:=(hr.left i0 hlt0).2 (.inl ⟨o0,by rw[hrem0];simp⟩)
  refine ⟨fun hnone=>?_,fun i hi=>?_⟩
  ·exfalso
   have hmem:i0∈Region.ready .any ops listed:=by
    refine mem_ready.2 ⟨hun0,o0,hio0,fun e he hb=>?_⟩
    have hedge:=(hget i0 o0 hio0).1;unfold P2 at hedge;have he' := List.all_eq_true.1 hedge e (Array.mem_toList_iff.2 he);simp only[hb,Bool.not_true,Bool.false_or] at he'
    have hlt' : e.on<i0:=by simpa using he'
    have hnot:¬listed.getD e.on true=false:=by
     rw[hr.left e.on (by omega)]
     rintro (⟨o',ho'⟩ | h)
     ·rw[hrem0] at ho'
      have hsrt:=hr.sorted;rw[hrem0] at hsrt;rcases List.mem_cons.1 ho' with h | h
      ·cases h;omega
      ·have:=(List.pairwise_cons.1 hsrt).1 _ h
       simp only at this;omega
     ·omega
    rw[A0p] at hnot;have hsz:e.on<listed.size:=by rw[hr.size];omega
    cases hh:listed.getD e.on false with
    | true=>rfl
    | false=>exact absurd ⟨hsz,hh⟩ hnot
   rw[hnone] at hmem
   cases hmem
  ·obtain ⟨h0,o,hio,hall⟩:=mem_ready.1 hi
   have hlt:i<ops.size:=(Array.getElem?_eq_some_iff.1 hio).1;have hanc:=A6y hr (hget i o hio).2 hall;rcases (hr.left i hlt).1 h0 with ⟨o',ho'⟩ | hci
   case inr=>
    exfalso
    have:=hanc i0 (htl i hci hlt i0 (by omega))
    rw[(A0p.1 hun0).2] at this
    cases this
   have hoo:o' = o:=by have:=hr.there i o' ho';rw[hio] at this;cases this;rfl
   subst hoo;have hic:=hr.small i o' ho';obtain ⟨pre,post,hrem⟩:=List.append_of_mem ho';clear hrem0;subst hrem;have hsrt:=List.pairwise_append.1 hr.sorted;have unlisted:∀q∈pre++(i,o')::post,listed.getD q.1 false=false:=by
    intro q hq;have hq' := hr.there q.1 q.2 hq;have hql:q.1<ops.size:=(Array.getElem?_eq_some_iff.1 hq').1;exact (A0p.1 ((hr.left q.1 hql).2 (.inl ⟨q.2,hq⟩))).2
   have hpre:∀q∈pre,q.1<i∧(anc.getD i 0).testBit q.1=false∧P4 env ops (ft.getD q.1 none) (ft.getD i none) q.2 o' = false:=by
    intro q hq;have hqi:q.1<i:=hsrt.2.2 q hq (i,o') (by simp)
    have hqm:q∈pre++(i,o')::post:=List.mem_append_left _ hq;have hbit:(anc.getD i 0).testBit q.1=false:=by
     cases hh:(anc.getD i 0).testBit q.1 with
     | false=>rfl
     | true=>have:=hanc q.1 hh;rw[unlisted q hqm] at this;cases this
    refine ⟨hqi,hbit,?_⟩
    have hq' := hr.there q.1 q.2 hqm;exact (hcf i o' q.1 q.2 hio hq' hqi (hsk _ ho') (hsk q hqm)).resolve_left (by rw[hbit];simp)
   obtain ⟨ob1,ob2,σ1,_,g1,g2,g3,g4⟩:=A2t hpre hd ho;refine B3j ρ hE hs hio g1 g2 (fun q h=>(C4f h).1) fun y a' hs' => ?_
   have hsub:(pre++post).Sublist (pre++(i,o')::post):=List.Sublist.append (List.Sublist.refl _) (List.sublist_cons_self _ _);refine ih (pre++post) _ σ1 ob2 y a' (by simp only[List.length_append,List.length_cons] at hl ⊢;omega) (fun q hq=>hsk q (hsub.subset hq)) (hr.step hsrt hlt hanc) g3 g4 hs'

theorem A1v:∀{l:List Oper} {k i:Nat} {o:Oper},(i,o)∈R7 k l↔k<=i∧l[i-k]? = some o
 | [],k,i,o=>by simp [R7]
 | x::l,k,i,o=>by
  simp only[R7,List.mem_cons,Prod.mk.injEq,A1v (l:=l)];constructor
  ·rintro (⟨rfl,rfl⟩ | ⟨h1,h2⟩)
   ·simp
   ·refine ⟨by omega,?_⟩
    rw[show i-k=(i-(k+1))+1 from by omega,List.getElem?_cons_succ];exact h2
  ·rintro ⟨h1,h2⟩
   by_cases hik:i=k
   ·subst hik;simp at h2;exact .inl ⟨rfl,h2.symm⟩
   ·right
    refine ⟨by omega,?_⟩
    rw[show i-k=(i-(k+1))+1 from by omega,List.getElem?_cons_succ] at h2;exact h2

theorem A7t:∀(l:List Oper) (k:Nat),(R7 k l).Pairwise fun a b=>a.1<b.1
 | [],_=>.nil
 | x::l,k=>by
  simp only[R7,List.pairwise_cons];refine ⟨fun q hq=>?_,A7t l (k+1)⟩
  obtain ⟨i,o⟩:=q;have:=(A1v.1 hq).1
  simp only;omega

theorem A9m:∀(l:List Oper) (k:Nat),(R7 k l).length=l.length
 | [],_=>rfl
 | _::l,k=>by simp [R7,A9m l]

theorem Rem.all (anc:List Nat) (c:Nat):Rem ops anc c (Array.replicate ops.size false) (R7 0 (ops.toList.take c)) where
 sorted:=A7t _ _
 there i o h:=by
  have:=(A1v.1 h).2
  rw[Nat.sub_zero,List.getElem?_take] at this;split at this
  ·simpa using this
  ·cases this
 small i o h:=by
  have:=(A1v.1 h).2
  rw[Nat.sub_zero,List.getElem?_take] at this;split at this
  ·assumption
  ·cases this
 size:=by simp
 left i hi:=by
  constructor
  ·intro _
   rcases Nat.lt_or_ge i c with h | h
   ·exact .inl ⟨ops[i],A1v.2 ⟨Nat.zero_le _,by rw[Nat.sub_zero,List.getElem?_take_of_lt h];simp [hi]⟩⟩
   ·exact .inr h
  ·intro _;simp [hi]
 closed i hi h:=by simp [hi] at h

theorem B6a {x:Ctx} {m:Nat->Option En} (h:Mem x m):Tr x none { x with w:={ x.w with drawn:=x.w.drawn+1 } } m:=by
 have hx:Ext x { x with w:={ x.w with drawn:=x.w.drawn+1 } }:=⟨Nat.le_refl _,fun _ h=>⟨h,rfl⟩,fun _ _=>rfl,fun _ _=>rfl,fun _ _ cs _ h=>⟨cs,h,rfl⟩⟩
 refine ⟨hx,⟨h.dom,h.fl,h.nil,fun p e hp hr=>?_,h.inj,h.own,h.fw⟩,rfl,rfl,rfl,fun _ _ _=>rfl,fun _ hp=>.inl ⟨hp,rfl⟩,fun _ hb=>.inl hb⟩
 obtain ⟨cs,ty,hc,hd⟩:=h.ent p e hp hr;exact ⟨cs,ty,hc,J9 hx hd⟩

theorem Sim.drew {σ:St} {x:Ctx} {a:Act} (h:Sim w0 F0 K as σ x a):Sim w0 F0 K as σ { x with w:={ x.w with drawn:=x.w.drawn+1 } } a:=
 ⟨h.defers,h.nt,fun t=>A1b (B6a h.mem).ext (h.t t),(B6a h.mem).mem,h.base.tr (B6a h.mem) rfl,h.frs.ext (B6a h.mem).ext⟩

/-! Code. -/
/-- Right behind the entry of a loop. -/
def wpL (P:Program) (ρ:Option Nat) (c:Code) (Q:Exit->Act->World->Prop) (a:Act) (w:World):Prop:=
 ∀(b:Frame) (k:List Item) (cs:List Frame),b.roundOf=ρ->∃e a' w',Q e a' w' ∧ ArrivesIn (Machine.fenced P (G6 ρ)) P (lone (b.atR a (.code c :: .inLoop c::k)) cs w) b k cs e a' w'

theorem B4h {ρ:Option Nat} {c:Code} {a:Act} {w:World} (h:wpL P ρ c Q a w):(Code.loop c).wpIn (G6 ρ) 0 P Q a w:=by
 intro b k cs hro hb hr;obtain ⟨e,a',w',hq,harr⟩:=h b k cs (hro.trans (B0g ρ));exact ⟨e,a',w',hq,.of_steps (.one (fenced_calm hb hr rfl) stepR_loop) harr⟩

theorem A4r {ρ:Option Nat} {c:Code} {a:Act} {w:World} (h:c.wpIn (G6 ρ) 0 P (Exit.then (wpL P ρ c Q) Q) a w):wpL P ρ c Q a w:=by
 intro b k cs hro;have hro' : b.roundOf=(G6 ρ).round:=hro.trans (B0g ρ).symm;have hb:=A3j ρ b.fn;have hr:=C8v ρ (cs.length+1+0);obtain ⟨e,a₁,w₁,hq,harr⟩:=h b (.inLoop c::k) cs hro' hb hr
 cases e with
 | normal=>
  obtain ⟨e₂,a₂,w₂,hq₂,harr₂⟩:=hq b k cs hro;exact ⟨e₂,a₂,w₂,hq₂,.of_steps (StepsIn.trans harr (.one (fenced_calm hb hr rfl) stepR_inLoop)) harr₂⟩
 | exit id=>exact ⟨_,a₁,w₁,hq,.pass (x:=.inLoop c) rfl (fun _ _=>.inl (by simp)) harr⟩
 | goto l=>exact ⟨_,a₁,w₁,hq,.pass (x:=.inLoop c) rfl (fun _ _=>.inl (by simp)) harr⟩
 | ret=>exact ⟨_,a₁,w₁,hq,.pass (x:=.inLoop c) rfl (fun _ _=>.inl (by simp)) harr⟩
 | panic ch=>exact ⟨_,a₁,w₁,hq,.pass (x:=.inLoop c) rfl (fun _ _=>.inl (by simp)) harr⟩
 | outgrown=>exact ⟨_,a₁,w₁,hq,.pass (x:=.inLoop c) rfl (fun _ _=>.inl (by simp)) harr⟩

/-- The round in which the top frame of a stack stands: a function that was stepped into stands in none. -/
def A0f:List KI->Bool
 | []=>false
 | .fr _ _ _::_=>true
 | .code _::k=>A0f k
 | .blk _::k=>A0f k
 | .lp _::k=>A0f k
 | .ops _ _ _::k=>A0f k
 | .any _ _ _::k=>A0f k
def L8 (ρ:Option Nat) (k:List KI):Option Nat:=if A0f k then none else ρ

/-- What a stack leads to, with the callers that wait. -/
def wpK (P:Program) (Q:Exit->Act->World->Prop) (ρ:Option Nat):List KI->List Act->Exit->Act->World->Prop
 | [],_=>Q
 | .code c::k,as=>Exit.then (c.wpIn (G6 (L8 ρ k)) 0 P (wpK P Q ρ k as)) (wpK P Q ρ k as)
 | .blk id::k,as=>Exit.inBlock id (wpK P Q ρ k as)
 | .lp c::k,as=>Exit.then (wpL P (L8 ρ k) c (wpK P Q ρ k as)) (wpK P Q ρ k as)
 | .ops l i _::k,as=>Exit.then (wpOpsIn (G6 (L8 ρ k)) 0 P l (wpK P Q ρ k as) (List.range' i (l.size-i))) (wpK P Q ρ k as)
 | .any l _ rem::k,as=>Exit.then (fun a w=>∀listed,Rem l (X1 l.toList []) l.size listed rem->wpAnyIn (G6 (L8 ρ k)) 0 P .any l (wpK P Q ρ k as) rem.length listed a w) (wpK P Q ρ k as)
 | .fr fn dst _::k,aS::as=>fun e a w=>(e = .ret∨e = .normal)∧a.defers=[]∧∃v,(results fn a.tmps).run P w = .ok v w∧wpK P Q ρ k as .normal (aS.put dst v) w
 | .fr _ _ _::_,[]=>fun _ _ _=>False

end
end

section

section
variable {P:Program} {w0:World} {F0:Nat->Prop} {K:Kp} {as:List Act} {env:Env} {Q:Exit->Act->World->Prop} {x:Ctx} {a:Act}

theorem Sim.nx {σ:St} (h:Sim w0 F0 K as σ x a) (n:Nat):Sim w0 F0 K as { σ with nx:=n } x a:=⟨h.defers,h.nt,h.t,h.mem,h.base,h.frs⟩

theorem C5n {m:Nat->Option En} {s:SV} {i:TyI} {r:List Prop×V1} {v:Value} (h:A6x m s i=some r) (hd:B1 x s v):∃ad,v = .pointer (some ad):=by
 unfold A6x at h;split at h
 ·exact ⟨_,(A7g hd).2⟩
 ·exact ⟨_,(D8l hd).2⟩
 ·obtain ⟨b,o,cs,d,rfl,_⟩:=E2t hd;exact ⟨_,rfl⟩
 ·cases h

def F0e (tmps:Array Value):ResultVar->Sem Value
 | .tmp t=>pure (tmps.getD t undef)
 | .cell ad t=>asAddr (tmps.getD ad undef) >>= loadVar t

theorem D5g (fn:Func) (tmps:Array Value):results fn tmps=(fn.results.mapM (F0e tmps)) >>= fun vs=>pure (if h:vs.size=1 then vs[0] else .tuple vs):=rfl

theorem A6a (hE:A6 P env) {σ:St} (hm:Mem x σ.m) (ht:∀t,B1 x (σ.t t) (a.tmps.getD t undef)):∀{l:List ResultVar} {o:List Prop} {r:List V1},A7o env σ l=some (o,r)->A3 o ->
  ∃vs,(l.mapM (F0e a.tmps)).run P x.w = .ok vs x.w∧A3g x r vs
 | [],o,r,h,_=>by simp [A7o] at h;obtain ⟨_,rfl⟩:=h;exact ⟨[],by simp,.nil⟩
 | .tmp t::l,o,r,h,ho=>by
  simp only[A7o] at h;split at h
  ·rename_i v o' r' hv hl
   cases h
   have hd:=ht t;rw[hv] at hd;obtain ⟨vs,hr,hvs⟩:=A6a hE hm ht hl ho;refine ⟨_::vs,?_,.cons hd hvs⟩
   rw[List.mapM_cons];simp only[F0e,Sem.run_bind,Sem.run_pure,Result.andThen_ok,hr]
  ·cases h
 | .cell ad t::l,o,r,h,ho=>by
  simp only[A7o] at h;split at h
  ·rename_i i hi
   split at h
   ·rename_i o1 v o2 r' hv hl
    cases h
    have ho:=D3.1 ho;obtain ⟨u,hu,hdu⟩:=A7k (hE.ty t i hi) hm (fun _ _ h=>h) (ht ad) hv ho.1
    obtain ⟨adr,hadr⟩:=C5n hv (ht ad);obtain ⟨vs,hr,hvs⟩:=A6a hE hm ht hl ho.2;refine ⟨u::vs,?_,.cons hdu hvs⟩
    rw[List.mapM_cons];rw[hadr] at hu;have hlv:(loadVar t adr).run P x.w = .ok u x.w:=by simpa [Instr.loadAt,Instr.sureAddr] using hu
    have hcell:(F0e a.tmps (.cell ad t)).run P x.w = .ok u x.w:=by
     simp only[F0e,hadr,asAddr,Sem.run_bind,Sem.run_pure,Result.andThen_ok,hlv]
    simp only[Sem.run_bind,Sem.run_pure,Result.andThen_ok,hcell,hr]
   ·cases h
  ·cases h

theorem O5 (hE:A6 P env) {σ:St} {fn:Func} (hm:Mem x σ.m) (ht:∀t,B1 x (σ.t t) (a.tmps.getD t undef)) {o:List Prop} {r:List V1} (h:A7o env σ fn.results.toList=some (o,r)) (ho:A3 o) :
  ∃v,(results fn a.tmps).run P x.w = .ok v x.w∧B1 x (C3z r) v:=by
 obtain ⟨vs,hr,hvs⟩:=A6a hE hm ht h ho;have hlen:∀{r:List V1} {vs:List Value},A3g x r vs->vs.length=r.length:=by
  intro r vs h;induction h with
  | nil=>rfl
  | cons _ _ ih=>simp [ih]
 have hl:=hlen hvs;refine ⟨if h:vs.toArray.size=1 then vs.toArray[0] else .tuple vs.toArray,?_,?_⟩
 ·rw[D5g,Array.mapM_eq_mapM_toList]
  simp only[Sem.run_bind,Sem.run_map,hr];rfl
 ·unfold C3z
  split
  ·cases hvs with
   | cons h1 h2=>
    cases h2
    exact h1
  ·rename_i hne
   have h1:¬vs.toArray.size=1:=by
    intro h;simp only[List.size_toArray] at h;rw[hl] at h;match r,h with
    | [v],_=>exact hne v rfl
   rw[dif_neg h1];exact ⟨vs,rfl,hvs⟩

theorem C8r {ops:Array Oper} {anc:List Nat} {ft:List (Option (List Nat))} (hok:A8a env ops anc ft ops.toList 0=true):(∀i o,ops[i]? = some o->P2 i o=true∧anc.getD i 0=A3e anc o)∧E2u env ops anc ft fun _=>false:=by
 have hget:∀i o,ops[i]? = some o->P2 i o=true∧anc.getD i 0=A3e anc o∧B3g env ops ft (ft.getD i none) o (anc.getD i 0) (ops.toList.take i) 0=true:=by
  intro i o hi;have:=B7i hok i o (by simpa using hi)
  simpa using this
 refine ⟨fun i o h=>⟨(hget i o h).1,(hget i o h).2.1⟩,fun i o j x hi hj hlt _ _=>?_⟩
 have:=B9m (hget i o hi).2.2 j x (by rw[List.getElem?_take_of_lt hlt];simpa using hj)
 simpa using this

theorem B4r {ops:Array Oper} {o:Oper} {anc ex:Nat}:∀{l:List Oper} {k:Nat},B0y env ops ex o anc l k=true->∀j x,l[j]? = some x->k+j=ex∨anc.testBit (k+j)=true∨P4 env ops none none x o=false
 | [],_,_,j,x,h=>by simp at h
 | y::l,k,h,j,x,hj=>by
  simp only[B0y,Bool.and_eq_true,Bool.or_eq_true,Bool.not_eq_true'] at h
  cases j with
  | zero=>
   simp only[List.getElem?_cons_zero,Option.some.injEq] at hj;subst hj;rcases h.1 with (h1 | h1) | h1
   ·exact .inl (Nat.eq_of_beq_eq_true h1)
   ·exact .inr (.inl h1)
   ·exact .inr (.inr h1)
  | succ j=>
   simp only[List.getElem?_cons_succ] at hj;have:=B4r h.2 j x hj
   rw[show k+1+j=k+(j+1) from by omega] at this
   exact this

theorem A5e {ops:Array Oper} {anc:List Nat} {ex:Nat}:∀{l:List Oper} {k:Nat},A2f env ops anc ex l k=true->∀j x,l[j]? = some x ->
  P2 (k+j) x=true∧anc.getD (k+j) 0=A3e anc x∧(k+j=ex∨B0y env ops ex x (anc.getD (k+j) 0) (ops.toList.take (k+j)) 0=true)
 | [],_,_,j,x,h=>by simp at h
 | y::l,k,h,j,x,hj=>by
  simp only[A2f,Bool.and_eq_true,Bool.or_eq_true] at h
  cases j with
  | zero=>
   simp only[List.getElem?_cons_zero,Option.some.injEq] at hj;subst hj;refine ⟨h.1.1.1,Nat.eq_of_beq_eq_true h.1.1.2,?_⟩
   rcases h.1.2 with h1 | h1
   ·exact .inl (Nat.eq_of_beq_eq_true h1)
   ·exact .inr h1
  | succ j=>
   simp only[List.getElem?_cons_succ] at hj;have:=A5e h.2 j x hj
   rw[show k+1+j=k+(j+1) from by omega] at this
   exact this

theorem B0d {ops:Array Oper} {anc:List Nat} {ex:Nat} (hok:A2f env ops anc ex ops.toList 0=true):(∀i o,ops[i]? = some o->P2 i o=true∧anc.getD i 0=A3e anc o)∧E2u env ops anc [] fun i=>Nat.beq i ex:=by
 refine ⟨fun i o h=>?_,fun i o j x hi hj hlt hsi hsj=>?_⟩
 ·have:=A5e hok i o (by simpa using h)
  rw[Nat.zero_add] at this;exact ⟨this.1,this.2.1⟩
 ·have:=A5e hok i o (by simpa using hi)
  rw[Nat.zero_add] at this;have h1:i≠ex:=fun e=>by rw[e] at hsi;simp at hsi
  have h2:j≠ex:=fun e=>by rw[e] at hsj;simp at hsj
  have:=B4r (this.2.2.resolve_left h1) j x (by rw[List.getElem?_take_of_lt hlt];simpa using hj)
  rw[Nat.zero_add] at this;exact this.resolve_left h2

theorem A2m {ρ:Option Nat} (hE:A6 P env) {k:List KI} {σ σ' : St} {id c:Nat} {ops:Array Oper} {dec:List (Nat×Bool)} {ob:List Prop} {ft:List (Option (List Nat))} {kk:List (Nat×Nat)} (hok:A8a env ops (X1 ops.toList []) ft ops.toList 0=true) (hc:c<=ops.size)
  (htl:∀i,c<=i->i<ops.size->∀j,j<i->((X1 ops.toList []).getD i 0).testBit j=true)
  (hd:G9 env dec ops.toList (X1 ops.toList []) ft kk σ.nx (R7 0 (ops.toList.take c)) σ=some (ob,σ')) (ho:A3 ob) (hs:Sim w0 F0 K as σ x a) (hK:∀y a',Sim w0 F0 K as { σ' with nx:=σ.nx+16*ops.size } y a' -> wpOpsIn (G6 (L8 ρ k)) 0 P ops (wpK P Q ρ k as) (List.range' c (ops.size-c)) a' y.w) :
  (Code.region id ops true).wpIn (G6 (L8 ρ k)) 0 P (wpK P Q ρ k as) a x.w:=by
 refine wpIn_region_any hE.mixed ?_
 obtain ⟨hget,hcf⟩:=C8r hok;have:=D6t (L8 ρ k) (x:={ x with w:={ x.w with drawn:=x.w.drawn+1 } }) hE hget hcf htl (fun y a' h=>hK y a' (h.nx _)) c (R7 0 (ops.toList.take c)) _ σ ob a (by rw[A9m,List.length_take];simp;omega) (fun _ _=>rfl) (Rem.all _ _) hd ho hs.drew
 rwa [show c+(ops.size-c)=ops.size from by omega] at this

theorem B7f:∀(l:List (Nat×Oper)),(B2i env l).1++(B2i env l).2=l
 | []=>rfl
 | q::l=>by
  simp only[B2i];split
  ·rfl
  ·have:=B7f l
   simp only[List.cons_append,this]

/-- Sorted places from a first one on, as many as there are up to the end, are all. -/
theorem D1r:∀{l:List (Nat×Oper)} {c n:Nat},l.Pairwise (fun a b=>a.1<b.1)->(∀q∈l,c<=q.1∧q.1<n)->l.length=n-c->∀i,c<=i->i<n->∃o,(i,o)∈l
 | [],c,n,_,_,hl,i,h1,h2=>by simp at hl;omega
 | q::l,c,n,hs,hb,hl,i,h1,h2=>by
  have hs' := List.pairwise_cons.1 hs;have hq:=hb q (by simp)
  have hb2:∀r∈l,c+1<=r.1∧r.1<n:=fun r hr=>by
   have h3:=hs'.1 r hr;have:=hb r (by simp [hr])
   omega
  simp only[List.length_cons] at hl;by_cases hi:i=c
  ·by_cases hqc:q.1=c
   ·exact ⟨q.2,by rw[hi,<-hqc];simp⟩
   ·exfalso
    have hle:∀{l:List (Nat×Oper)} {c n:Nat},l.Pairwise (fun a b=>a.1<b.1)->(∀q∈l,c<=q.1∧q.1<n)->l.length<=n-c:=by
     intro l;induction l with
     | nil=>intros;simp
     | cons r l ih=>
      intro c n hs hb;have hs' := List.pairwise_cons.1 hs;have h1:=hb r (by simp)
      have:=ih (c:=r.1+1) (n:=n) hs'.2 fun t ht=>⟨hs'.1 t ht,(hb t (by simp [ht])).2⟩
      simp only[List.length_cons];omega
    have:=hle (c:=q.1+1) (n:=n) hs'.2 fun t ht=>⟨hs'.1 t ht,(hb t (by simp [ht])).2⟩
    omega
  ·obtain ⟨o,ho⟩:=D1r hs'.2 hb2 (by omega) i (by omega) h2
   exact ⟨o,by simp [ho]⟩

theorem C0s {anc:List Nat} {n c:Nat} (h:C7p anc n c=true):c<=n∧∀i,c<=i->i<n->∀j,j<i->(anc.getD i 0).testBit j=true:=by
 unfold C7p at h;simp only[Bool.and_eq_true] at h;refine ⟨Nat.le_of_ble_eq_true h.1,fun i hi hn j hj=>?_⟩
 have h2:=List.all_eq_true.1 h.2 i (List.mem_range.2 hn);rw[Bool.or_eq_true] at h2;rcases h2 with h2 | h2
 ·have:i<c:=by simpa using h2
  omega
 ·exact List.all_eq_true.1 h2 j (List.mem_range.2 hj)

theorem D1p {ρ:Option Nat} (hE:A6 P env) {unroll:Bool} {k:List KI} {σ:St} {path:List Bool} {c:Code} {out:Out} (h:D1o env unroll k σ path c=some out) (ho:A3 out.obl) (hs:Sim w0 F0 K as σ x a)
  (hK:∀y a',Sim w0 F0 K as out.cfg.σ y a' -> wpK P Q ρ out.cfg.k as out.cfg.x a' y.w):c.wpIn (G6 (L8 ρ k)) 0 P (wpK P Q ρ k as) a x.w:=by
 unfold D1o at h;split at h
 ·cases h;exact wpIn_skip (hK x a hs)
 ·cases h;exact wpIn_seq (hK x a hs)
 ·cases h;exact wpIn_block (hK x a hs)
 ·split at h
  ·cases h;exact B4h (A4r (hK x a hs))
  ·cases h
 ·cases h;exact wpIn_exit (hK x a hs)
 ·cases h;exact wpIn_ret (hK x a hs)
 ·rename_i o c1 c2
  have hd:=A5f hs.t o;split at h
  ·rename_i d hv
   cases h
   rw[hv] at hd;have:=hK x a hs
   refine wpIn_cond (C7x hd) ?_
   cases d<;>exact this
  ·rename_i b hv
   split at h
   ·rename_i d path'
    cases h
    obtain ⟨rfl,_⟩:=ho;rw[hv] at hd;have:=hK x a hs
    refine wpIn_cond (B6c hd) ?_
    cases b<;>exact this
   ·cases h
  ·cases h
 ·rename_i id ops draw
  split at h
  ·cases h
  ·rename_i dec path' _
   split at h
   ·rename_i hdraw
    subst hdraw;dsimp only at h;split at h
    ·rename_i hok
     split at h
     ·split at h
      ·rename_i ob σ' hd
       cases h
       refine A2m (c:=ops.size) hE hok (Nat.le_refl _) (fun i h1 h2=>absurd h2 (by omega)) (by rwa [List.take_of_length_le (by simp)]) ho hs fun y a' hs' => ?_
       rw[Nat.sub_self];exact hK y a' hs'
      ·cases h
     ·split at h
      ·rename_i c hca htl
       split at h
       ·rename_i ob σ' hd
        cases h
        obtain ⟨h1,h2⟩:=C0s htl;exact A2m hE hok h1 h2 hd ho hs hK
       ·cases h
      ·cases h
    ·cases h
   ·rename_i hdraw
    cases h
    have hdf:draw=false:=by simpa using hdraw
    subst hdf;have:=hK x a hs
    refine wpIn_region ?_
    rw[List.range_eq_range'];exact this
 ·cases h

theorem D3n (ops:List Oper) (o:Oper) (t:Nat->SV):C5c ops o t=H9 ops o t:=rfl

theorem C9m (hE:A6 P env) {σ:St} {o:Oper} {fn:Func} {b:Code} {args:List SV} (hs:Sim w0 F0 K as σ x a) (h:C9l env σ o=some (fn,b,args)) :
  ∃g vs,P.funcs[g]? = some fn∧fn.body=some b∧I0 x args vs∧(execOp a.eval o).run P x.w = .ok (.enter g vs.toArray) x.w:=by
 unfold C9l at h;split at h
 ·rename_i c hop
  split at h
  ·rename_i f hcal
   split at h
   ·rename_i g caps hf
    split at h
    ·rename_i fn' _ _ hin
     split at h
     ·rename_i b' hb
      cases h
      obtain ⟨hfn,hent⟩:=hE.inl g fn hin;have hρ:∀o,B1 x (σ.ev o) (a.eval o):=fun o=>A5f hs.t o
      have hd:=hρ f;rw[hf] at hd;obtain ⟨hk,hv⟩:=B6d hd;refine ⟨g,_,hfn,hb,A4c (N5 hρ c.args.toList) (C1x caps hk),?_⟩
      have hargs:(c.args.toList.map a.eval++caps.map fun c=>Value.pointer (some ⟨x.β c.1,c.2,none⟩)).toArray=c.args.map a.eval++(caps.map fun c=>Value.pointer (some ⟨x.β c.1,c.2,none⟩)).toArray:=by
       apply Array.toList_inj.1;simp
      rw[hargs];have he:=hent (c.args.map a.eval++(caps.map fun c=>Value.pointer (some ⟨x.β c.1,c.2,none⟩)).toArray) x.w
      simp only[execOp,hop,resolve,hcal,Deferred.ofValue,hv,Sem.run_bind,Sem.run_pure,Result.andThen_ok,invoke];simpa using he
     ·cases h
    ·cases h
   ·cases h
  ·cases h
 ·cases h

theorem D3r {σ:St} {o:Oper} {r:Func×Code×List SV} (h:C9l env σ o=some r):∀c,o.op ≠ .defer c:=by
 intro c hc;unfold C9l at h;rw[hc] at h
 cases h

theorem B0i {ρ:Option Nat} (hE:A6 P env) {σ σ' : St} {fn:Func} {dst:Option Nat} {dec:List (Nat×Bool)} {ob:List Prop} {k:List KI} (h:C5a env σ fn dst dec=some (ob,σ')) (ho:A3 ob) (hs:Sim w0 F0 K as σ x a)
  (hK:∀as' a',(∃b,as=b::as')->Sim w0 F0 K as' σ' x a' -> wpK P Q ρ k as' .normal a' x.w) {e:Exit} (he:e = .ret∨e = .normal):wpK P Q ρ (.fr fn dst dec::k) as e a x.w:=by
 unfold C5a at h;split at h
 ·rename_i ob1 r tS ntS fr hres hfr
  have hfrs:=hs.frs;have hdf:=hs.defers;rw[hfr] at hfrs hdf
  cases hfrs with
  | cons h1 h2 h3 h4=>
   rename_i aS as'
   split at h
   ·cases h
    obtain ⟨v,hv,hdv⟩:=O5 hE hs.mem hs.t hres ho;exact ⟨he,hdf,v,hv,hK as' (aS.put none v) ⟨aS,rfl⟩ ⟨h1,h2,h3,hs.mem,hs.base,h4⟩⟩
   ·rename_i d
    split at h
    ·rename_i hlt
     cases hdv:M1 dec d (C3z r) with
     | mk o' s=>
      simp only[hdv] at h
      cases h
      have ho:=D3.1 ho;obtain ⟨v,hv,hden⟩:=O5 hE hs.mem hs.t hres ho.2;refine ⟨he,hdf,v,hv,hK as' (aS.put (some d) v) ⟨aS,rfl⟩ ⟨h1,by simp [Act.put,h2],fun t=>?_,hs.mem,hs.base,h4⟩⟩
      simp only[Act.put];rw[B8d _ _ _ _ (by rw[h2];exact hlt)]
      by_cases htd:t=d
      ·subst htd;simp only[J7,if_true];exact B4n hdv ho.1 hden
      ·simp only[J7,htd,if_false];exact h3 t
    ·cases h
 ·cases h

theorem A0y {args:List SV} {vs:List Value} (h:I0 x args vs) (n:Nat):∀t,B1 x (B2b args t) ((vs.toArray++Array.replicate n undef).getD t undef):=by
 induction h with
 | nil=>intro t;trivial
 | cons h1 _ ih=>
  intro t
  cases t with
  | zero=>simpa [B2b,Array.getElem?_append] using h1
  | succ t=>
   have:=ih t
   simpa [B2b,Array.getElem?_append] using this

theorem A6n {args:List SV} {vs:List Value} (h:I0 x args vs):vs.length=args.length:=by
 induction h with
 | nil=>rfl
 | cons _ _ ih=>simp [ih]

/-- How many callers wait. -/
def nfr:List KI->Nat
 | []=>0
 | .fr _ _ _::k=>nfr k+1
 | _::k=>nfr k

theorem E2d {unroll:Bool} {k:List KI} {σ:St} {path:List Bool} {c:Code} {out:Out} (h:D1o env unroll k σ path c=some out):nfr out.cfg.k=nfr k:=by
 unfold D1o at h;split at h
 ·cases h;rfl
 ·cases h;rfl
 ·cases h;rfl
 ·split at h
  ·cases h;rfl
  ·cases h
 ·cases h;rfl
 ·cases h;rfl
 ·split at h
  ·cases h;rfl
  ·split at h
   ·cases h;rfl
   ·cases h
  ·cases h
 ·split at h
  ·cases h
  ·split at h
   ·dsimp only at h
    split at h
    ·split at h
     ·split at h
      ·cases h;rfl
      ·cases h
     ·split at h
      ·split at h
       ·cases h;rfl
       ·cases h
      ·cases h
    ·cases h
   ·cases h;rfl
 ·cases h

theorem B5a {ρ:Option Nat} (hE:A6 P env) {unroll:Bool} {c:Cfg} {path:List Bool} {out:Out} (h:step env unroll c path=some out) (ho:A3 out.obl) (hs:Sim w0 F0 K as c.σ x a)
  (hK:∀as' y a',as'.drop (nfr out.cfg.k)=as.drop (nfr c.k)->Sim w0 F0 K as' out.cfg.σ y a' -> wpK P Q ρ out.cfg.k as' out.cfg.x a' y.w):wpK P Q ρ c.k as c.x a x.w:=by
 unfold step at h;split at h
 ·rename_i c' k hx hk
  rw[hx,hk];rw[hk] at hK;exact D1p hE h ho hs fun y a' hs' => hK as y a' (by rw[E2d h];rfl) hs'
 ·rename_i id k hx hk
  rw[hx,hk];rw[hk] at hK
  cases h
  exact hK as x a rfl hs
 ·rename_i c' k hx hk
  rw[hx,hk];rw[hk] at hK;split at h
  ·cases h;exact A4r (hK as x a rfl hs)
  ·cases h
 ·rename_i ops i dec k hx hk
  rw[hx,hk];rw[hk] at hK;show wpOpsIn (G6 (L8 ρ k)) 0 P ops (wpK P Q ρ k as) (List.range' i (ops.size-i)) a x.w;split at h
  ·rename_i o hi
   have hlt:i<ops.size:=(Array.getElem?_eq_some_iff.1 hi).1;rw[show ops.size-i=(ops.size-(i+1))+1 from by omega,List.range'_succ,wpOpsIn_cons]
   split at h
   ·rename_i fn b args hin hw
    split at h
    ·rename_i hle
     cases h
     obtain ⟨g,vs,hfn,hb,hden,hrun⟩:=C9m hE hs hin;have hw' : H9 ops.toList o c.σ.t=some true:=by
      rw[D3n] at hw
      cases hh:H9 ops.toList o c.σ.t with
      | none=>rw[hh] at hw;cases hw
      | some b=>rw[hh] at hw;simp only[C9o] at hw;rw[hw]
     unfold wpOpIn;simp only[hi,A3w hs.t hw',if_true];refine ⟨fun f _=>A3j _ f,?_⟩
     rw[Oper.semAt_eq _ _ _ (D3r hin),hrun];refine ⟨W0 _ 0,C4n _ (calls_of_wp hfn hb ?_)⟩
     have hlen:=A6n hden;have hle' := Nat.le_of_ble_eq_true hle;have:=hK (a::as) x { tmps:=vs.toArray++Array.replicate (fn.ntmps-vs.toArray.size) undef,defers:=[] } rfl
      ⟨rfl,by simp;omega,A0y hden _,hs.mem,hs.base,.cons hs.defers hs.nt hs.t hs.frs⟩
     refine wp_mono (wpIn_wide.1 this) fun e a1 w1 hq=>?_
     obtain ⟨he,hdf,v,hv,hk'⟩:=hq;rcases he with rfl | rfl
     ·exact ⟨hdf,v,hv,hk'⟩
     ·exact ⟨hdf,v,hv,hk'⟩
    ·cases h
   ·split at h
    ·rename_i ob σ' hop
     cases h
     exact B3j _ hE hs hi hop ho (fun q h=>by simpa using h) fun y a' hs' => hK as y a' rfl (hs'.nx _)
    ·cases h
  ·rename_i hi
   cases h
   have:ops.size-i=0:=by have:=Array.getElem?_eq_none_iff.1 hi;omega
   rw[this];exact hK as x a rfl hs
 ·rename_i ops ex rem k hx hk
  rw[hx,hk];rw[hk] at hK;dsimp only at h;generalize hcut:B2i env rem=cr at h;obtain ⟨pre,post⟩:=cr;dsimp only at h;split at h
  ·rename_i hc
   split at h
   ·rename_i ob σ' hd
    cases h
    simp only[Bool.and_eq_true,Nat.beq_eq] at hc;obtain ⟨hok,htl,⟨_,hpre⟩,hlen⟩:=hc;have happ:pre++post=rem:=by have:=B7f (env:=env) rem;rw[hcut] at this;exact this
    show (fun a w=>∀listed,Rem ops (X1 ops.toList []) ops.size listed rem->wpAnyIn (G6 (L8 ρ k)) 0 P .any ops (wpK P Q ρ k as) rem.length listed a w) a x.w
    intro listed hr;obtain ⟨hget,hcf⟩:=B0d hok;obtain ⟨h1,h2⟩:=C0s htl;have hpre' : ∀q∈pre,q.1<A5z ops.size post∧Nat.beq q.1 ex=false:=fun q hq=>by
     have:=List.all_eq_true.1 hpre q hq
     simp only[Bool.and_eq_true,Bool.not_eq_true'] at this;exact ⟨by simpa using this.1,this.2⟩
    subst happ;have hsrt:=List.pairwise_append.1 hr.sorted;have hpost:∀q∈post,A5z ops.size post<=q.1∧q.1<ops.size:=by
     intro q hq;refine ⟨?_,(Array.getElem?_eq_some_iff.1 (hr.there q.1 q.2 (List.mem_append_right _ hq))).1⟩
     cases post with
     | nil=>cases hq
     | cons r l=>
      rcases List.mem_cons.1 hq with rfl | hq
      ·exact Nat.le_refl _
      ·exact Nat.le_of_lt ((List.pairwise_cons.1 hsrt.2.1).1 q hq)
    have hr2:Rem ops (X1 ops.toList []) (A5z ops.size post) listed pre:=by
     refine ⟨hsrt.1,fun i o h=>hr.there i o (List.mem_append_left _ h),fun i o h=>(hpre' _ h).1,hr.size,fun i hi=>?_,hr.closed⟩
     rw[hr.left i hi];constructor
     ·rintro (⟨o,ho⟩ | h)
      ·rcases List.mem_append.1 ho with h | h
       ·exact .inl ⟨o,h⟩
       ·exact .inr (hpost _ h).1
      ·omega
     ·rintro (⟨o,ho⟩ | h)
      ·exact .inl ⟨o,List.mem_append_left _ ho⟩
      ·obtain ⟨o,ho⟩:=D1r hsrt.2.1 hpost hlen i h hi
       exact .inl ⟨o,List.mem_append_right _ ho⟩
    have:=D6t (L8 ρ k) (sk:=fun i=>Nat.beq i ex) hE hget hcf h2 (fun y a' h=>hK as y a' rfl (h.nx _)) pre.length pre listed c.σ ob x a rfl (fun q hq=>(hpre' q hq).2) hr2 hd ho hs
    rwa [<-hlen,<-List.length_append] at this
   ·cases h
  ·cases h
 ·rename_i fn dst dec k hx hk
  rw[hx,hk];rw[hk] at hK;split at h
  ·rename_i ob σ' hb
   cases h
   exact B0i hE hb ho hs (fun as' a' he hs' => hK as' x a' (by obtain ⟨b,rfl⟩:=he;rfl) hs') (.inr rfl)
  ·cases h
 ·rename_i fn dst dec k hx hk
  rw[hx,hk];rw[hk] at hK;split at h
  ·rename_i ob σ' hb
   cases h
   exact B0i hE hb ho hs (fun as' a' he hs' => hK as' x a' (by obtain ⟨b,rfl⟩:=he;rfl) hs') (.inl rfl)
  ·cases h
 ·rename_i id id' k hx hk
  rw[hx,hk];rw[hk] at hK;show (Exit.inBlock id' (wpK P Q ρ k as)) (.exit id) a x.w;simp only[Exit.inBlock];split at h
  ·rename_i he
   cases h
   rw[if_pos he.symm];exact hK as x a rfl hs
  ·rename_i he
   cases h
   rw[if_neg (Ne.symm he)];exact hK as x a rfl hs
 all_goals
  first
   | (rename_i hx hk;rw[hx,hk];rw[hk] at hK;cases h;exact hK as x a rfl hs)
   | cases h

theorem D5q {ρ:Option Nat} (hE:A6 P env) {unroll:Bool} {c:Cfg} {path:List Bool} {out:Out} (h:step env unroll c path=some out) (ho:A3 out.obl) (hs:Sim w0 F0 K as c.σ x a)
  (hK:∀as' y a',Sim w0 F0 K as' out.cfg.σ y a' -> wpK P Q ρ out.cfg.k as' out.cfg.x a' y.w):wpK P Q ρ c.k as c.x a x.w:=
 B5a hE h ho hs fun as' y a' _ hs' => hK as' y a' hs'

theorem C0j {ρ:Option Nat} (hE:A6 P env) {unroll:Bool}:∀(n:Nat) {c:Cfg} {path:List Bool} {as:List Act} {x:Ctx} {a:Act},A3 (run env unroll n c path).obl->Sim w0 F0 K as c.σ x a ->
  (∀as' y a',as'.drop (nfr (run env unroll n c path).cfg.k)=as.drop (nfr c.k)->Sim w0 F0 K as' (run env unroll n c path).cfg.σ y a' -> wpK P Q ρ (run env unroll n c path).cfg.k as' (run env unroll n c path).cfg.x a' y.w)->wpK P Q ρ c.k as c.x a x.w
 | 0,c,path,as,x,a,_,hs,hK=>hK as x a rfl hs
 | n+1,c,path,as,x,a,ho,hs,hK=>by
  unfold run at ho hK
  cases hst:step env unroll c path with
  | none=>simp only[hst] at ho hK;exact hK as x a rfl hs
  | some r=>
   simp only[hst] at ho hK;have ho:=D3.1 ho;exact B5a hE hst ho.1 hs fun as' y a' he hs' => C0j hE n ho.2 hs' fun as2 y2 a2 he2 hs2=>hK as2 y2 a2 (he2.trans he) hs2

theorem A3s {ρ:Option Nat} (hE:A6 P env) {unroll:Bool}:∀(n:Nat) {c:Cfg} {path:List Bool} {as:List Act} {x:Ctx} {a:Act},A3 (run env unroll n c path).obl->Sim w0 F0 K as c.σ x a ->
  (∀as' y a',Sim w0 F0 K as' (run env unroll n c path).cfg.σ y a' -> wpK P Q ρ (run env unroll n c path).cfg.k as' (run env unroll n c path).cfg.x a' y.w)->wpK P Q ρ c.k as c.x a x.w
 | 0,c,path,as,x,a,_,hs,hK=>hK as x a hs
 | n+1,c,path,as,x,a,ho,hs,hK=>by
  unfold run at ho hK
  cases hst:step env unroll c path with
  | none=>simp only[hst] at ho hK;exact hK as x a hs
  | some r=>
   simp only[hst] at ho hK;have ho:=D3.1 ho;exact D5q hE hst ho.1 hs fun as' y a' hs' => A3s hE n ho.2 hs' hK

/-! Functions. -/
theorem C5f {fn:Func} {args:List SV} {vs:List Value} (hlen:args.length<=fn.ntmps) (hk:∀p,x.k p = .no) (hF:∀b,x.F b->b<x.w.heap.size) (h:I0 x args vs) :
  Sim x.w x.F Z8 [] (D6 fn.ntmps args) x { tmps:=vs.toArray++Array.replicate (fn.ntmps-vs.toArray.size) undef,defers:=[] } where
 defers:=rfl
 nt:=by have:=A6n h;simp [D6];omega
 t:=A0y h _
 mem:=⟨fun p=>by simp [D6,hk p],fun p l h=>(by cases h),fun p q h=>(by cases h),fun p e h=>(by cases h),fun p q h=>(by rw[hk p] at h;cases h),fun p h=>(by rw[hk p] at h;cases h),hF⟩
 base:=⟨fun b h=>h,fun b h=>.inl h,Nat.le_refl _,fun b _ _=>rfl,fun p h=>(by rw[hk p] at h;cases h),rfl,rfl,rfl,fun q h=>(by cases h)⟩
 frs:=.nil

end
end

section

def C5h (p:Nat):Nat->List Nat->Option Nat
 | _,[]=>none
 | n,q::l=>if q=p then some n else C5h p (n+1) l

def A1e (p:Nat):List Nat->Bool
 | []=>false
 | q::l=>if q=p then true else A1e p l

def A0s (m:Nat->Option En) (ps fz:List Nat):It->Option (List Prop×It)
 | .slc p off len es=>match C5h p 0 ps with
  | some i=>some ([],.slc i off len es)
  | none=>if A1e p fz then match m p with
    | some (.sq q)=>if off=0∧es=q.es then some ([len=q.n],.sl q) else none
    | _=>none
   else none
 | .ptr p off=>match C5h p 0 ps with
  | some i=>some ([],.ptr i off)
  | none=>none
 | .ep p es j off=>match C5h p 0 ps with
  | some i=>some ([],.ep i es j off)
  | none=>none
 | .mp p=>match C5h p 0 ps with
  | some i=>some ([],.mp i)
  | none=>none
 | .clo f []=>some ([],.clo f [])
 | .clo _ _=>none
 | .sv _ _ _ _=>none
 | .int k n=>some ([],.int k n)
 | .bool b=>some ([],.bool b)
 | .lit b=>some ([],.lit b)
 | .rp q i off=>some ([],.rp q i off)
 | .sl q=>some ([],.sl q)
 | .vsl _ _=>none
 | .ob o=>some ([],.ob o)
 | .val v=>some ([],.val v)
 | .ifc t os=>some ([],.ifc t os)
 | .dead=>some ([],.dead)
 | .old n=>some ([],.old n)
 | .arr _ _ _ _=>none

def C3k (m:Nat->Option En) (ps fz:List Nat):List It->Option (List Prop×List It)
 | []=>some ([],[])
 | i::l=>match A0s m ps fz i,C3k m ps fz l with
  | some (o,i),some (o',l)=>some (o++o',i::l)
  | _,_=>none

def rnV (m:Nat->Option En) (ps fz:List Nat):V1->Option (List Prop×V1)
 | .c i=>match A0s m ps fz i with
  | some (o,i)=>some (o,.c i)
  | none=>none
 | .a l=>match C3k m ps fz l with
  | some (o,l)=>some (o,.a l)
  | none=>none

def F0h (m:Nat->Option En) (ps fz:List Nat):List V1->Option (List Prop×List V1)
 | []=>some ([],[])
 | i::l=>match rnV m ps fz i,F0h m ps fz l with
  | some (o,i),some (o',l)=>some (o++o',i::l)
  | _,_=>none

def rnS (m:Nat->Option En) (ps fz:List Nat):SV->Option (List Prop×SV)
 | .v a=>match rnV m ps fz a with
  | some (o,a)=>some (o,.v a)
  | none=>none
 | .t l=>match F0h m ps fz l with
  | some (o,l)=>some (o,.t l)
  | none=>none
 | .top=>some ([],.top)

def D1e (m:Nat->Option En) (ps fz:List Nat):En->Option (List Prop×En)
 | .fl l=>match C3k m ps fz l with
  | some (o,l)=>some (o,.fl l)
  | none=>none
 | .sq q=>some ([],.sq q)

def C0f (m:Nat->Option En) (ps fz:List Nat):List Nat->Option (List Prop×List En)
 | []=>some ([],[])
 | p::l=>match m p with
  | some e=>match D1e m ps fz e,C0f m ps fz l with
   | some (o,e),some (o',l)=>some (o++o',e::l)
   | _,_=>none
  | none=>none

def E1e:List Nat->List Nat->Bool
 | [],_=>true
 | p::l,fz=>!(A1e p l) && !(A1e p fz) && E1e l fz

def C9 (env:Env) (fn:Func) (n:Nat) (args:List SV) (path:List Bool) (ps fz:List Nat):Option (List Prop×SV×List En):=
 match G4r env fn n args path with
 | some (ob,_,r,σ)=>
  match rnS σ.m ps fz r,C0f σ.m ps fz ps with
  | some (o1,r'),some (o2,es)=>if E1e ps fz && Nat.ble args.length fn.ntmps then some (ob++(o1++o2),r',es) else none
  | _,_=>none
 | none=>none

theorem C2n {p:Nat}:∀{ps:List Nat} {n i:Nat},C5h p n ps=some i->n<=i∧ps[i-n]? = some p
 | [],n,i,h=>by simp [C5h] at h
 | q::l,n,i,h=>by
  simp only[C5h] at h;split at h
  ·rename_i hq
   cases h
   simp [hq]
  ·obtain ⟨h1,h2⟩:=C2n h
   refine ⟨by omega,?_⟩
   rw[show i-n=(i-(n+1))+1 from by omega,List.getElem?_cons_succ];exact h2

theorem B0l {p:Nat}:∀{l:List Nat},A1e p l=true↔p∈l
 | []=>by simp [A1e]
 | q::l=>by
  simp only[A1e,List.mem_cons];split
  ·rename_i h;simp [h]
  ·rename_i h
   rw[B0l (l:=l)];constructor
   ·exact fun h=>.inr h
   ·rintro (rfl | h')
    ·exact absurd rfl h
    ·exact h'

def H5 (y:Ctx) (ps fz:List Nat):Ctx:=
  { w:=y.w,F:=fun b=>y.F b∨∃p,p∈fz∧y.k p = .real∧b=y.β p,
    k:=fun i=>match ps[i]? with | some p=>y.k p | none=>.no,
    β:=fun i=>match ps[i]? with | some p=>y.β p | none=>0 }

section
variable {P:Program} {y:Ctx} {m:Nat->Option En} {ps fz:List Nat}

theorem D7e {p i:Nat} (h:C5h p 0 ps=some i):ps[i]? = some p:=by
 have:=(C2n h).2
 simpa using this

theorem C0g (hm:Mem y m) {i i' : It} {o:List Prop} {vs:List Value} (h:A0s m ps fz i=some (o,i')) (ho:A3 o) (hd:y.D i vs):(H5 y ps fz).D i' vs:=by
 have data:E3 i=true->(H5 y ps fz).D i vs:=fun hf=>A3x (x:=y) (y:=H5 y ps fz) rfl (fun b hb=>.inl hb) hf hd
 cases i with
 | sv p lo len es=>simp only[A0s] at h;cases h
 | vsl v q=>simp only[A0s] at h;cases h
 | arr p off n es=>simp only[A0s] at h;cases h
 | slc p off len es=>
  have hs:∃v,vs=[v]∧B1 y (.v (.c (.slc p off len es))) v:=by
   have:=B4l hd
   match vs,this with
   | [v],_=>exact ⟨v,rfl,rfl,hd⟩
  obtain ⟨v,rfl,hs⟩:=hs;simp only[A0s] at h;split at h
  ·rename_i i hi
   cases h
   have hp:=D7e hi;refine ⟨0,?_⟩
   rcases A2b hs with ⟨h1,h2,h3,rfl⟩ | ⟨h1,cap,cs,ty,rfl,h4,h5,h6,h7⟩
   ·exact .inl ⟨by simp only[H5,hp];exact h1,h2,h3,rfl⟩
   ·exact .inr ⟨by simp only[H5,hp];exact h1,cap,cs,ty,by simp only[H5,hp],h4,h5,by simp only[H5,hp];exact h6,h7⟩
  ·split at h
   ·rename_i hf
    split at h
    ·rename_i q hq
     split at h
     ·rename_i hc
      obtain ⟨rfl,rfl⟩:=hc
      cases h
      obtain ⟨rfl,_⟩:=ho;rcases A2b hs with ⟨hk,_,h0,rfl⟩ | ⟨hk,cap,cs,ty,rfl,hlc,hcm,hcs,hfit⟩
      ·exact ⟨1,.inl ⟨none,0,rfl,h0⟩⟩
      ·obtain ⟨cs',ty',hcs',hden⟩:=hm.ent p _ hq hk
       obtain ⟨d,hd'⟩:=A6p (R:=fun d i=>∃c,B8 (den (H5 y ps fz) d) (q.get i) c∧rd (H5 y ps fz).w (H5 y ps fz).F (y.β p) (0+i*q.es) c) (n:=q.n)
        (fun d d' i hdd ⟨c,hc,hr⟩=>⟨c,E6 (fun _ _ h=>A1d hdd h) hc,hr⟩) (fun i hi=>by
         obtain ⟨c,hc,hj⟩:=hden.2 i hi;obtain ⟨d,hc⟩:=J3 (A1a (x:=y) (y:=H5 y ps fz) rfl (fun b hb=>.inl hb) (O1 q i) hc)
         refine ⟨d,c,hc,.inr ⟨p,B0l.1 hf,hk,rfl⟩,fun j v hv=>?_⟩
         show y.w.cell? _=_;rw[Q0 hcs',Nat.zero_add];exact hj j v hv)
       exact ⟨d+1,.inr ⟨y.β p,0,cap,rfl,hlc,by omega,hd'⟩⟩
     ·cases h
    ·cases h
   ·cases h
 | ptr p off=>
  simp only[A0s] at h;split at h
  ·rename_i i hi
   cases h
   have hp:=D7e hi;obtain ⟨d,hd⟩:=hd;refine ⟨d,?_⟩
   cases d<;>simp only[den,H5,hp] at hd ⊢<;>exact hd
  ·cases h
 | ep p es j off=>
  simp only[A0s] at h;split at h
  ·rename_i i hi
   cases h
   have hp:=D7e hi;obtain ⟨d,hd⟩:=hd;refine ⟨d,?_⟩
   cases d<;>simp only[den,H5,hp] at hd ⊢<;>exact hd
  ·cases h
 | mp p=>
  simp only[A0s] at h;split at h
  ·rename_i i hi
   cases h
   have hp:=D7e hi;obtain ⟨d,hd⟩:=hd;refine ⟨d,?_⟩
   cases d<;>simp only[den,H5,hp] at hd ⊢<;>exact hd
  ·cases h
 | clo f c=>
  cases c with
  | nil=>simp only[A0s] at h;cases h;exact data rfl
  | cons c l=>simp only[A0s] at h;cases h
 | int k n=>simp only[A0s] at h;cases h;exact data rfl
 | bool b=>simp only[A0s] at h;cases h;exact data rfl
 | ifc t os=>simp only[A0s] at h;cases h;exact data rfl
 | lit b=>simp only[A0s] at h;cases h;exact data rfl
 | rp q i off=>simp only[A0s] at h;cases h;exact data rfl
 | sl q=>simp only[A0s] at h;cases h;exact data rfl
 | ob o=>simp only[A0s] at h;cases h;exact data rfl
 | val v=>simp only[A0s] at h;cases h;exact data rfl
 | dead=>
  simp only[A0s] at h;cases h
  obtain ⟨d,hd⟩:=hd;refine ⟨d,?_⟩
  cases d<;>exact hd
 | old n=>
  simp only[A0s] at h;cases h
  obtain ⟨d,hd⟩:=hd;refine ⟨d,?_⟩
  cases d<;>exact hd

theorem A6b (hm:Mem y m):∀{l l' : List It} {o:List Prop} {vs:List Value},C3k m ps fz l=some (o,l')->A3 o->B8 y.D l vs->B8 (H5 y ps fz).D l' vs
 | [],_,_,_,h,_,hc=>by simp [C3k] at h;obtain ⟨_,rfl⟩:=h;exact hc
 | i::l,_,_,_,h,ho,⟨c1,c2,e,h1,h2⟩=>by
  simp only[C3k] at h;split at h
  ·rename_i o1 i' o2 l' hi hl
   cases h
   have ho:=D3.1 ho;exact ⟨c1,c2,e,C0g hm hi ho.1 h1,A6b hm hl ho.2 h2⟩
  ·cases h

theorem E1v {i i' : It} {o:List Prop} (h:A0s m ps fz i=some (o,i')):i'.size=i.size:=by
  cases i<;>simp only[A0s] at h
  case clo f c=>cases c<;>simp only at h<;>cases h;rfl
  all_goals
    first
      | (cases h;rfl)
      | (repeat' split at h
         all_goals first | (cases h;rfl) | cases h)

theorem C3m (hm:Mem y m) {a a' : V1} {o:List Prop} {v:Value} (h:rnV m ps fz a=some (o,a')) (ho:A3 o) (hd:A2s y a v):A2s (H5 y ps fz) a' v:=by
 cases a with
 | c i=>
  simp only[rnV] at h;split at h
  ·rename_i o' i' hi
   cases h
   exact ⟨(E1v hi).trans hd.1,C0g hm hi ho hd.2⟩
  ·cases h
 | a l=>
  simp only[rnV] at h;split at h
  ·rename_i o' l' hl
   cases h
   obtain ⟨cs,e,hc⟩:=hd;exact ⟨cs,e,A6b hm hl ho hc⟩
  ·cases h

theorem C0h (hm:Mem y m):∀{l l' : List V1} {o:List Prop} {vs:List Value},F0h m ps fz l=some (o,l')->A3 o->A3g y l vs->A3g (H5 y ps fz) l' vs
 | [],_,_,_,h,_,hd=>by simp [F0h] at h;obtain ⟨_,rfl⟩:=h;cases hd;exact .nil
 | a::l,_,_,_,h,ho,hd=>by
  simp only[F0h] at h;split at h
  ·rename_i o1 a' o2 l' ha hl
   cases h
   have ho:=D3.1 ho
   cases hd with
   | cons h1 h2=>exact .cons (C3m hm ha ho.1 h1) (C0h hm hl ho.2 h2)
  ·cases h

theorem C3l (hm:Mem y m) {s s' : SV} {o:List Prop} {v:Value} (h:rnS m ps fz s=some (o,s')) (ho:A3 o) (hd:B1 y s v):B1 (H5 y ps fz) s' v:=by
 cases s with
 | v a=>
  simp only[rnS] at h;split at h
  ·rename_i o' a' ha
   cases h
   exact C3m hm ha ho hd
  ·cases h
 | t l=>
  simp only[rnS] at h;split at h
  ·rename_i o' l' hl
   cases h
   obtain ⟨vs,e,hc⟩:=hd;exact ⟨vs,e,C0h hm hl ho hc⟩
  ·cases h
 | top=>simp only[rnS] at h;cases h;trivial

theorem D5i (hm:Mem y m) {e e' : En} {o:List Prop} {cs:List Value} (h:D1e m ps fz e=some (o,e')) (ho:A3 o) (hd:D9 y e cs):D9 (H5 y ps fz) e' cs:=by
 cases e with
 | fl l=>
  simp only[D1e] at h;split at h
  ·rename_i o' l' hl
   cases h
   exact A6b hm hl ho hd
  ·cases h
 | sq q=>
  simp only[D1e] at h
  cases h
  exact ⟨hd.1,fun i hi=>let ⟨c,hc,hj⟩:=hd.2 i hi;⟨c,A1a (x:=y) (y:=H5 y ps fz) rfl (fun b hb=>.inl hb) (O1 q i) hc,hj⟩⟩

theorem C3j:∀{l:List Nat} {es:List En} {o:List Prop},C0f m ps fz l=some (o,es)->A3 o->es.length=l.length∧∀(i p:Nat),l[i]? = some p->∃e e' o',m p=some e∧D1e m ps fz e=some (o',e')∧A3 o' ∧ es[i]? = some e'
 | [],es,o,h,_=>by simp [C0f] at h;obtain ⟨_,rfl⟩:=h;exact ⟨rfl,fun i p hi=>by simp at hi⟩
 | q::l,es,o,h,ho=>by
  simp only[C0f] at h;split at h
  ·rename_i e he
   split at h
   ·rename_i o1 e' o2 es' h1 h2
    cases h
    have ho:=D3.1 ho;obtain ⟨g1,g2⟩:=C3j h2 ho.2;refine ⟨by simp [g1],fun i p hi=>?_⟩
    cases i with
    | zero=>
     simp only[List.getElem?_cons_zero,Option.some.injEq] at hi ⊢
     subst hi;exact ⟨e,e',o1,he,h1,ho.1,rfl⟩
    | succ i=>
     simp only[List.getElem?_cons_succ] at hi ⊢
     exact g2 i p hi
   ·cases h
  ·cases h

theorem C3a:∀{ps:List Nat},E1e ps fz=true->(∀p∈ps,p ∉ fz)∧∀(i j p:Nat),ps[i]? = some p->ps[j]? = some p->i=j
 | [],_=>⟨fun p hp=>(by cases hp),fun i j p hi=>by simp at hi⟩
 | q::l,h=>by
  simp only[E1e,Bool.and_eq_true,Bool.not_eq_true'] at h;obtain ⟨⟨h1,h2⟩,h3⟩:=h;have h1' : q ∉ l:=fun hq=>by rw[B0l.2 hq] at h1;cases h1
  have h2' : q ∉ fz:=fun hq=>by rw[B0l.2 hq] at h2;cases h2
  obtain ⟨g1,g2⟩:=C3a h3;refine ⟨fun p hp=>?_,fun i j p hi hj=>?_⟩
  ·rcases List.mem_cons.1 hp with rfl | hp
   ·exact h2'
   ·exact g1 p hp
  ·cases i with
   | zero=>
    cases j with
    | zero=>rfl
    | succ j=>
     simp only[List.getElem?_cons_zero,Option.some.injEq,List.getElem?_cons_succ] at hi hj;subst hi;exact absurd (List.mem_of_getElem? hj) h1'
   | succ i=>
    cases j with
    | zero=>
     simp only[List.getElem?_cons_zero,Option.some.injEq,List.getElem?_cons_succ] at hi hj;subst hj;exact absurd (List.mem_of_getElem? hi) h1'
    | succ j=>
     simp only[List.getElem?_cons_succ] at hi hj;rw[g2 i j p hi hj]

theorem D6y (hm:Mem y m) {es:List En} {o:List Prop} (h:C0f m ps fz ps=some (o,es)) (ho:A3 o) (hps:E1e ps fz=true):Mem (H5 y ps fz) (fun p=>es[p]?):=by
 obtain ⟨hlen,hget⟩:=C3j h ho;obtain ⟨hfz,hinj⟩:=C3a hps;have at_:∀i:Nat,(∃p,ps[i]? = some p)∨ps[i]? = none:=fun i=>by cases ps[i]? with
  | none=>exact .inr rfl
  | some p=>exact .inl ⟨p,rfl⟩
 have outk:∀i:Nat,ps[i]? = none->(H5 y ps fz).k i = .no:=fun i h=>by simp only[H5,h]
 have ink:∀i p:Nat,ps[i]? = some p->(H5 y ps fz).k i=y.k p∧(H5 y ps fz).β i=y.β p:=fun i p h=>by simp only[H5,h,and_self]
 refine ⟨fun i=>?_,fun i l hi=>?_,fun i q hi hn=>?_,fun i e hi hr=>?_,fun i j hi hj he=>?_,fun i hi hF=>?_,fun b hb=>?_⟩
 ·rcases at_ i with ⟨p,hp⟩ | hp
  ·obtain ⟨e,e',o',h1,_,_,h4⟩:=hget i p hp
   have hk:y.k p ≠ .no:=fun hk=>by rw[(hm.dom p).2 hk] at h1;cases h1
   simp only[h4,(ink i p hp).1,reduceCtorEq,hk]
  ·have:¬i<ps.length:=fun h=>by simp [h] at hp
   have h2:es[i]? = none:=by simp;omega
   simp only[h2,outk i hp]
 ·rcases at_ i with ⟨p,hp⟩ | hp
  ·obtain ⟨e,e',o',h1,h2,_,h4⟩:=hget i p hp
   rw[(ink i p hp).1];rw[h4] at hi
   cases hi
   cases e with
   | fl l0=>exact hm.fl p l0 h1
   | sq q=>simp only[D1e] at h2;cases h2
  ·have:¬i<ps.length:=fun h=>by simp [h] at hp
   have h2:es[i]? = none:=by simp;omega
   simp only[h2] at hi
   cases hi
 ·rcases at_ i with ⟨p,hp⟩ | hp
  ·obtain ⟨e,e',o',h1,h2,_,h4⟩:=hget i p hp
   rw[(ink i p hp).1] at hn;rw[h4] at hi
   cases hi
   cases e with
   | fl l0=>
    simp only[D1e] at h2;split at h2<;>cases h2
   | sq q0=>simp only[D1e] at h2;cases h2;exact hm.nil p _ h1 hn
  ·rw[outk i hp] at hn;cases hn
 ·rcases at_ i with ⟨p,hp⟩ | hp
  ·obtain ⟨e0,e',o',h1,h2,h3,h4⟩:=hget i p hp
   rw[(ink i p hp).1] at hr;rw[h4] at hi
   cases hi
   obtain ⟨cs,ty,hc,hd⟩:=hm.ent p e0 h1 hr;exact ⟨cs,ty,by rw[(ink i p hp).2];exact hc,D5i hm h2 h3 hd⟩
  ·rw[outk i hp] at hr;cases hr
 ·rcases at_ i with ⟨p,hp⟩ | hp
  ·rcases at_ j with ⟨q,hq⟩ | hq
   ·rw[(ink i p hp).1] at hi
    rw[(ink j q hq).1] at hj;rw[(ink i p hp).2,(ink j q hq).2] at he;have:=hm.inj p q hi hj he
    subst this;exact hinj i j p hp hq
   ·rw[outk j hq] at hj;cases hj
  ·rw[outk i hp] at hi;cases hi
 ·rcases at_ i with ⟨p,hp⟩ | hp
  ·rw[(ink i p hp).1] at hi
   rw[(ink i p hp).2] at hF;rcases hF with hF | ⟨q,hq,hk,he⟩
   ·exact hm.own p hi hF
   ·have:=hm.inj p q hi hk he
    subst this;exact hfz p (List.mem_of_getElem? hp) hq
  ·rw[outk i hp] at hi;cases hi
 ·rcases hb with hb | ⟨p,_,hk,rfl⟩
  ·exact hm.fw b hb
  ·exact hm.lt hk

theorem A7 {env:Env} (hE:A6 P env) {f:Nat} {fn:Func} (hf:P.funcs[f]? = some fn) {n:Nat} {args:List SV} {path:List Bool} {ob:List Prop} {r:SV} {es:List En} (h:C9 env fn n args path ps fz=some (ob,r,es)) (ho:A3 ob):FnD P f args r es:=by
 unfold C9 at h;split at h
 ·rename_i ob1 path' r1 σ hev
  split at h
  ·rename_i o1 r' o2 es' hr hes
   split at h
   ·rename_i hc
    simp only[Bool.and_eq_true] at hc
    cases h
    have ho:=D3.1 ho;have ho2:=D3.1 ho.2;intro x vs hk hF hden;unfold G4r at hev;split at hev
    ·rename_i c hbody
     split at hev
     ·rename_i ob2 path2 σ2 hrun
      split at hev
      ·rename_i o3 rr hres
       cases hev
       have ho1:=D3.1 ho.1;have hlen:args.length<=fn.ntmps:=Nat.le_of_ble_eq_true hc.2;refine calls_of_wp hf hbody ((wpIn_wide (n:=0)).1 ?_)
       have hinit:=C5f (fn:=fn) hlen hk hF hden;have hrs:=A3s (ρ:=none) (Q:=bodyPost P fn fun e w' => ∃v y,e = .returned v∧y.w=w' ∧ Tr x none y (fun p=>es[p]?)∧B1 y r v) hE (unroll:=true) n (c:=⟨[.code c],.normal,D6 fn.ntmps args⟩) (path:=path) (by rw[hrun];exact ho1.1) hinit
       refine hrs fun as' y a' hs=>?_
       rw[hrun] at hs ⊢
       show bodyPost P fn _ .ret a' y.w;obtain ⟨v,hv,hdv⟩:=O5 hE hs.mem hs.t hres ho1.2;refine ⟨hs.defers.trans (B0e _),v,hv,v,H5 y ps fz,rfl,rfl,?_,C3l hs.mem hr ho2.1 hdv⟩
       have hmem:=D6y hs.mem hes ho2.2 hc.1;have hb:=hs.base;have nok:∀p,x.k p = .real->False:=fun p hp=>by rw[hk p] at hp;cases hp
       have hreal:∀p,y.k p = .real->x.w.heap.size<=y.β p:=fun p hp=>by
        rcases Nat.lt_or_ge (y.β p) x.w.heap.size with h | h
        ·exact absurd trivial (hb.ownK p hp h)
        ·exact h
       refine ⟨⟨hb.size,fun b hb' => ⟨.inl (hb.f0 b hb'),hb.keep b (hF b hb') trivial⟩,fun p hp=>absurd (hk p) hp,fun p hp=>(nok p hp).elim,fun p hp=>(nok p hp).elim⟩,hmem,hb.os,hb.tape,hb.output,fun b hb' _=>hb.keep b hb' trivial,fun i hi=>?_,fun b hb' => ?_⟩
       ·right
        cases hp:ps[i]? with
        | none=>simp only[H5,hp] at hi;cases hi
        | some p=>simp only[H5,hp] at hi ⊢;exact hreal p hi
       ·rcases hb' with hb' | ⟨p,_,hk',rfl⟩
        ·exact hb.fn b hb'
        ·exact .inr (hreal p hk')
      ·cases hev
     ·cases hev
    ·cases hev
   ·cases h
  ·cases h
 ·cases h

end
end

section

def E1 {α:Type} (d:α):List Nat->List α->Nat->α
 | t::tl,v::vl,n=>if n=t then v else E1 d tl vl n
 | _,_,_=>d

/-- A state: of so many slots these are known, and these blocks. -/
def F4n:List (List Nat)->List (List SV×Nat)->List ((Nat->SV)×Nat)
 | tl::ftl,(svs,n)::r=>(E1 .top tl svs,n)::F4n ftl r
 | _,_=>[]

def A5 (nt:Nat) (tl:List Nat) (svs:List SV) (ml:List Nat) (ens:List (Option En)) (nx:Nat) (ftl:List (List Nat)) (fsv:List (List SV×Nat)):St:=⟨E1 .top tl svs,E1 none ml ens,nt,nx,F4n ftl fsv⟩

def A7n (keep:List Nat):It->Bool
 | .ptr p _=>A1e p keep
 | .ep p _ _ _=>A1e p keep
 | .slc p _ _ _=>A1e p keep
 | .sv p _ _ _=>A1e p keep
 | .mp p=>A1e p keep
 | .arr p _ _ _=>A1e p keep
 | .clo _ c=>c.all fun a=>A1e a.1 keep
 | _=>true
def B3y (keep:List Nat):List It->Bool
 | []=>true
 | i::l=>A7n keep i && B3y keep l
def G3c (keep:List Nat):V1->Bool
 | .c i=>A7n keep i
 | .a l=>B3y keep l
def D8d (keep:List Nat):List V1->Bool
 | []=>true
 | i::l=>G3c keep i && D8d keep l
def G3b (keep:List Nat):SV->Bool
 | .v a=>G3c keep a
 | .t l=>D8d keep l
 | .top=>true
def C3i (keep:List Nat):List SV->Bool
 | []=>true
 | i::l=>G3b keep i && C3i keep l
def A9d (keep:List Nat):List (Option En)->Bool
 | []=>true
 | some (.fl l)::r=>B3y keep l && A9d keep r
 | some (.sq _)::r=>A9d keep r
 | none::_=>false

def B0r (t:Nat->SV):List Nat->List SV
 | []=>[]
 | d::l=>t d::B0r t l
def mapM (m:Nat->Option En):List Nat->List (Option En)
 | []=>[]
 | d::l=>m d::mapM m l

def B2z:List ((Nat->SV)×Nat)->List (List Nat)->Option (List (List SV×Nat))
 | [],[]=>some []
 | (t,n)::fr,tl::ftl=>match B2z fr ftl with
  | some r=>some ((B0r t tl,n)::r)
  | none=>none
 | _,_=>none
def D1c (keep:List Nat):List (List SV×Nat)->Bool
 | []=>true
 | q::l=>C3i keep q.1 && D1c keep l

/-- A run up to a place, and what is known there of some slots and blocks. -/
structure At where
 obl:List Prop
 x:Exit
 svs:List SV
 ens:List (Option En)
 nt:Nat
 nx:Nat
 fsv:List (List SV×Nat)

def E9i (m:Nat->Option En) (ml:List Nat):Bool:=
 match m 0 with
 | none=>true
 | some _=>A1e 0 ml

def A1q (env:Env) (unroll:Bool) (n:Nat) (c:Cfg) (path:List Bool) (tl ml:List Nat) (ftl:List (List Nat)):Option At:=
 match run env unroll n c path with
 | ⟨ob,_,⟨_,x,σ⟩⟩=>
  match B2z σ.fr ftl with
  | some fsv=>if (C3i ml (B0r σ.t tl) && A9d ml (mapM σ.m ml) && D1c ml fsv) && E9i σ.m ml then some ⟨ob,x,B0r σ.t tl,mapM σ.m ml,σ.nt,σ.nx,fsv⟩ else none
  | none=>none

section
variable {P:Program} {w0:World} {F0:Nat->Prop} {K:Kp} {as:List Act} {env:Env} {Q:Exit->Act->World->Prop} {x:Ctx} {a:Act}

def G7 (x:Ctx) (keep:List Nat):Ctx:={ x with k:=fun p=>if A1e p keep then x.k p else .no }

theorem C9q {keep:List Nat}:∀{i:It},A7n keep i=true->∀(d:Nat) (vs:List Value),den x d i vs->den (G7 x keep) d i vs:=by
 intro i h d vs hd;by_cases hf:E3 i=true
 ·exact B7g (x:=x) (y:=G7 x keep) rfl (fun b hb=>hb) d i vs hf hd
 ·cases i
  case ptr p off=>cases d<;>simp only[den,G7,A7n] at h hd ⊢<;>exact ⟨by rw[if_pos h];exact hd.1,hd.2⟩
  case ep p es j off=>cases d<;>simp only[den,G7,A7n] at h hd ⊢<;>exact ⟨by rw[if_pos h];exact hd.1,hd.2⟩
  case slc p off len es=>cases d<;>simp only[den,G7,A7n] at h hd ⊢<;>(rw[if_pos h];exact hd)
  case mp p=>cases d<;>simp only[den,G7,A7n] at h hd ⊢<;>exact ⟨by rw[if_pos h];exact hd.1,hd.2⟩
  case arr p off n es=>cases d<;>simp only[den,G7,A7n] at h hd ⊢<;>exact ⟨by rw[if_pos h];exact hd.1,hd.2⟩
  case clo f c=>
   cases d<;>simp only[den,G7,A7n] at h hd ⊢<;>exact ⟨fun b hb=>by rw[if_pos (List.all_eq_true.1 h b hb)];exact hd.1 b hb,hd.2⟩
  case sv p lo len es=>
   cases d<;>simp only[den,G7,A7n] at h hd ⊢<;>(rw[if_pos h];exact hd)
  case dead=>cases d<;>exact hd
  case old=>cases d<;>exact hd
  all_goals exact absurd rfl hf

theorem B8o {keep:List Nat}:∀{l:List It} {cs:List Value},B3y keep l=true->B8 x.D l cs->B8 (G7 x keep).D l cs
 | [],_,_,h=>h
 | i::l,_,hr,⟨c1,c2,e,⟨d,h1⟩,h2⟩=>by
  simp only[B3y,Bool.and_eq_true] at hr;exact ⟨c1,c2,e,⟨d,C9q hr.1 d c1 h1⟩,B8o hr.2 h2⟩

theorem E5i {keep:List Nat} {s:V1} {v:Value} (hr:G3c keep s=true) (h:A2s x s v):A2s (G7 x keep) s v:=by
 cases s with
 | c i=>obtain ⟨h1,d,h2⟩:=h;exact ⟨h1,d,C9q hr d _ h2⟩
 | a l=>obtain ⟨cs,e,hc⟩:=h;exact ⟨cs,e,B8o hr hc⟩

theorem D7f {keep:List Nat}:∀{l:List V1} {vs:List Value},D8d keep l=true->A3g x l vs->A3g (G7 x keep) l vs
 | [],_,_,h=>by cases h;exact .nil
 | a::l,_,hr,h=>by
  simp only[D8d,Bool.and_eq_true] at hr
  cases h with
  | cons h1 h2=>exact .cons (E5i hr.1 h1) (D7f hr.2 h2)

theorem E5h {keep:List Nat} {s:SV} {v:Value} (hr:G3b keep s=true) (h:B1 x s v):B1 (G7 x keep) s v:=by
 cases s with
 | v a=>exact E5i hr h
 | t l=>obtain ⟨vs,e,hc⟩:=h;exact ⟨vs,e,D7f hr hc⟩
 | top=>trivial

theorem B2x {t:Nat->SV}:∀{tl:List Nat} {n:Nat},E1 .top tl (B0r t tl) n=t n∨E1 .top tl (B0r t tl) n = .top
 | [],n=>.inr rfl
 | d::l,n=>by
  simp only[B0r,E1];by_cases h:n=d
  ·subst h;simp
  ·simp only[h,if_false];exact B2x

theorem B8x {t:Nat->SV} {keep:List Nat}:∀{tl:List Nat} {n:Nat},C3i keep (B0r t tl)=true->G3b keep (E1 .top tl (B0r t tl) n)=true
 | [],n,_=>rfl
 | d::l,n,h=>by
  simp only[B0r,C3i,Bool.and_eq_true] at h;simp only[B0r,E1];by_cases hd:n=d
  ·simp only[hd,if_true];exact h.1
  ·simp only[hd,if_false];exact B8x h.2

theorem C2u {m:Nat->Option En}:∀{ml:List Nat} {p:Nat},E1 none ml (mapM m ml) p=if A1e p ml then m p else none
 | [],p=>rfl
 | d::l,p=>by
  simp only[mapM,E1,A1e];by_cases h:p=d
  ·subst h;simp
  ·simp only[h,Ne.symm h,if_false];exact C2u

theorem A9e {m:Nat->Option En} {keep:List Nat}:∀{ml:List Nat},A9d keep (mapM m ml)=true->∀p,A1e p ml=true->∃e,m p=some e∧(∀l,e = .fl l->B3y keep l=true)
 | [],_,p,h=>by cases h
 | d::l,h,p,hp=>by
  simp only[A1e] at hp;simp only[mapM] at h
  cases hm:m d with
  | none=>rw[hm] at h;cases h
  | some e=>
   rw[hm] at h
   cases e with
   | fl its=>
    simp only[A9d,Bool.and_eq_true] at h;split at hp
    ·rename_i hd;subst hd;exact ⟨.fl its,hm,fun l hl=>by cases hl;exact h.1⟩
    ·exact A9e h.2 p hp
   | sq q=>
    simp only[A9d] at h;split at hp
    ·rename_i hd;subst hd;exact ⟨.sq q,hm,fun l hl=>by cases hl⟩
    ·exact A9e h p hp

theorem C2f (ds:List Deferred):∀{fr:List ((Nat->SV)×Nat)} {ftl:List (List Nat)} {fsv:List (List SV×Nat)},B2z fr ftl=some fsv->D3h ds (F4n ftl fsv)=D3h ds fr:=by
 intro fr ftl fsv hm
 cases fr with
 | nil=>
  cases ftl with
  | nil=>simp only[B2z] at hm;cases hm;rfl
  | cons _ _=>simp only[B2z] at hm;cases hm
 | cons q fr=>
  cases ftl with
  | nil=>simp only[B2z] at hm;cases hm
  | cons tl ftl=>
   simp only[B2z] at hm;split at hm
   ·cases hm;rfl
   ·cases hm

theorem Frs.keep {keep:List Nat} {ds:List Deferred} {fr:List ((Nat->SV)×Nat)} (h:Frs x ds fr as):∀{ftl:List (List Nat)} {fsv:List (List SV×Nat)},B2z fr ftl=some fsv->D1c keep fsv=true->Frs (G7 x keep) ds (F4n ftl fsv) as:=by
 induction h with
 | nil=>
  intro ftl fsv hm _
  cases ftl with
  | nil=>simp only[B2z] at hm;cases hm;exact .nil
  | cons _ _=>simp only[B2z] at hm;cases hm
 | cons h1 h2 h3 _ ih=>
  intro ftl fsv hm hr
  cases ftl with
  | nil=>simp only[B2z] at hm;cases hm
  | cons tl ftl=>
   simp only[B2z] at hm;split at hm
   ·rename_i r hr'
    cases hm
    simp only[D1c,Bool.and_eq_true] at hr;refine .cons (h1.trans (C2f ds hr').symm) h2 (fun t=>?_) (ih hr' hr.2)
    have hrt:=B8x (n:=t) hr.1;rcases B2x (tl:=tl) (n:=t) with hl | hl
    ·rw[hl] at hrt ⊢;exact E5h hrt (h3 t)
    ·rw[hl];trivial
   ·cases hm

theorem Sim.keep {σ:St} {tl ml:List Nat} {nx:Nat} {ftl:List (List Nat)} {fsv:List (List SV×Nat)} (h:Sim w0 F0 K as σ x a) (hr:C3i ml (B0r σ.t tl)=true) (he:A9d ml (mapM σ.m ml)=true) (hf:B2z σ.fr ftl=some fsv) (hrf:D1c ml fsv=true) (hpin:E9i σ.m ml=true) :
  Sim w0 F0 K as (A5 σ.nt tl (B0r σ.t tl) ml (mapM σ.m ml) nx ftl fsv) (G7 x ml) a where
 frs:=h.frs.keep hf hrf
 defers:=h.defers.trans (C2f _ hf).symm
 nt:=h.nt
 t t:=by
  show B1 (G7 x ml) (E1 .top tl (B0r σ.t tl) t) _;have hrt:=B8x (n:=t) hr;rcases B2x (t:=σ.t) (tl:=tl) (n:=t) with hl | hl
  ·rw[hl] at hrt ⊢;exact E5h hrt (h.t t)
  ·rw[hl];trivial
 mem:=by
  have hm:∀p,E1 none ml (mapM σ.m ml) p=if A1e p ml then σ.m p else none:=fun p=>C2u
  refine ⟨fun p=>?_,fun p l hp=>?_,fun p q hp hn=>?_,fun p e hp hk=>?_,fun p q hp hq he=>?_,fun p hp=>?_,h.mem.fw⟩
  ·show E1 none ml (mapM σ.m ml) p=none↔_
   rw[hm];simp only[G7];by_cases hk:A1e p ml=true
   ·simp only[hk,if_true];exact h.mem.dom p
   ·simp [hk]
  ·have hp:E1 none ml (mapM σ.m ml) p=some (.fl l):=hp
   rw[hm] at hp;split at hp
   ·rename_i hk;simp only[G7,hk,if_true];exact h.mem.fl p l hp
   ·cases hp
  ·have hp:E1 none ml (mapM σ.m ml) p=some (.sq q):=hp
   rw[hm] at hp;split at hp
   ·rename_i hk;simp only[G7,hk,if_true] at hn;exact h.mem.nil p q hp hn
   ·cases hp
  ·have hp:E1 none ml (mapM σ.m ml) p=some e:=hp
   rw[hm] at hp;split at hp
   ·rename_i hkp
    simp only[G7,hkp,if_true] at hk;obtain ⟨cs,ty,hc,hd⟩:=h.mem.ent p e hp hk;obtain ⟨e',he',hfl⟩:=A9e he p hkp;rw[hp] at he'
    cases he'
    refine ⟨cs,ty,hc,?_⟩
    cases e with
    | fl l=>exact B8o (hfl l rfl) hd
    | sq q=>exact ⟨hd.1,fun i hi=>let ⟨c,hc,hj⟩:=hd.2 i hi;⟨c,A1a (x:=x) (y:=G7 x ml) rfl (fun b hb=>hb) (O1 q i) hc,hj⟩⟩
   ·cases hp
  ·simp only[G7] at hp hq he
   split at hp
   ·split at hq
    ·exact h.mem.inj p q hp hq he
    ·cases hq
   ·cases hp
  ·simp only[G7] at hp ⊢
   split at hp
   ·exact h.mem.own p hp
   ·cases hp
 base:=by
  refine ⟨h.base.f0,h.base.fn,h.base.size,h.base.keep,fun p hp=>?_,h.base.os,h.base.tape,h.base.output,fun q hq=>?_⟩
  simp only[G7] at hp;split at hp
  ·exact h.base.ownK p hp
  ·cases hp
  obtain ⟨h1,h2,h3⟩:=h.base.pin q hq;have h0:A1e 0 ml=true:=by
   unfold E9i at hpin
   cases hm:σ.m 0 with
   | none=>exact absurd ((h.mem.dom 0).1 hm) (by rw[h2];exact h1)
   | some e=>rw[hm] at hpin;exact hpin
  refine ⟨h1,?_,h3⟩
  simp only[G7,h0,if_true];exact h2

/-- Up to a place. -/
theorem F6y {ρ:Option Nat} (hE:A6 P env) {unroll:Bool} {n:Nat} {c:Cfg} {path:List Bool} {tl ml:List Nat} {ftl:List (List Nat)} {o:At} (h:A1q env unroll n c path tl ml ftl=some o) {k' : List KI} (hk:(run env unroll n c path).cfg.k=k') (ho:A3 o.obl) (hs:Sim w0 F0 K as c.σ x a)
  (hK:∀as' y a',Sim w0 F0 K as' (A5 o.nt tl o.svs ml o.ens o.nx ftl o.fsv) y a' -> wpK P Q ρ k' as' o.x a' y.w):wpK P Q ρ c.k as c.x a x.w:=by
 unfold A1q at h;split at h;rename_i ob path' k e σ hrun
 split at h
 ·rename_i fsv hf
  split at h
  ·rename_i hc
   simp only[Bool.and_eq_true] at hc
   cases h
   have hr:=A3s (ρ:=ρ) (Q:=Q) hE (unroll:=unroll) n (c:=c) (path:=path) (as:=as) (x:=x) (a:=a) (by rw[hrun];exact ho) hs
   refine hr fun as' y a' hs' => ?_
   rw[hrun] at hs' hk ⊢
   cases hk
   exact hK as' (G7 y ml) a' (hs'.keep hc.1.1.1 hc.1.1.2 hf hc.1.2 hc.2)
  ·cases h
 ·cases h

/-- Up to a place, where no caller waits. -/
theorem D1f {ρ:Option Nat} (hE:A6 P env) {unroll:Bool} {n:Nat} {c:Cfg} {path:List Bool} {tl ml:List Nat} {ftl:List (List Nat)} {o:At} (h:A1q env unroll n c path tl ml ftl=some o) {k' : List KI} (hk:(run env unroll n c path).cfg.k=k') (ho:A3 o.obl) (hs:Sim w0 F0 K as c.σ x a)
  (hfr:nfr c.k=0) (hfr' : nfr k' = 0) (hK:∀y a',Sim w0 F0 K as (A5 o.nt tl o.svs ml o.ens o.nx ftl o.fsv) y a' -> wpK P Q ρ k' as o.x a' y.w):wpK P Q ρ c.k as c.x a x.w:=by
 unfold A1q at h;split at h;rename_i ob path' k e σ hrun
 split at h
 ·rename_i fsv hf
  split at h
  ·rename_i hc
   simp only[Bool.and_eq_true] at hc
   cases h
   have hr:=C0j (ρ:=ρ) (Q:=Q) hE (unroll:=unroll) n (c:=c) (path:=path) (as:=as) (x:=x) (a:=a) (by rw[hrun];exact ho) hs
   refine hr fun as' y a' he hs' => ?_
   rw[hrun] at hs' hk he ⊢
   cases hk
   have he:as'.drop (nfr k)=as.drop (nfr c.k):=he;rw[hfr,hfr',List.drop_zero,List.drop_zero] at he;subst he;exact hK (G7 y ml) a' (hs'.keep hc.1.1.1 hc.1.1.2 hf hc.1.2 hc.2)
  ·cases h
 ·cases h

def A5o:List KI->Option (Code×List KI)
 | .code (.loop c)::k=>some (c,k)
 | _=>none

/-- A loop, by what holds ahead of each round. -/
theorem D4a {ρ:Option Nat} {ι:Type} (S:ι->St) (μ:ι->Nat) {k0 k:List KI} {c:Code} (hl:A5o k0=some (c,k))
  (round:∀i,(∀j,μ j<μ i->∀as y b,Sim w0 F0 K as (S j) y b->wpK P Q ρ (.lp c::k) as .normal b y.w)->∀as y b,Sim w0 F0 K as (S i) y b->wpK P Q ρ (.code c :: .lp c::k) as .normal b y.w) (i:ι) (hs:Sim w0 F0 K as (S i) x a) :
  wpK P Q ρ k0 as .normal a x.w:=by
 have hk0:k0 = .code (.loop c)::k:=by
  unfold A5o at hl;split at hl
  ·cases hl;rfl
  ·cases hl
 subst hk0;have key:∀n i,μ i=n->∀as y b,Sim w0 F0 K as (S i) y b->wpL P (L8 ρ k) c (wpK P Q ρ k as) b y.w:=by
  intro n;induction n using Nat.strongRecOn with
  | _ n ih=>
   intro i hi as y b hsi;refine A4r ?_
   exact round i (fun j hj as y b hsj=>ih (μ j) (hi ▸ hj) j rfl as y b hsj) as y b hsi
 exact B4h (key _ i rfl as x a hs)

/-! The beginning and the end of a function. -/
def A9r (P:Program) (fn:Func) (x:Ctx) (r:SV) (es:List En):Exit->Act->World->Prop:=
 bodyPost P fn fun e w' => ∃v y,e = .returned v∧y.w=w' ∧ Tr x none y (fun p=>es[p]?)∧B1 y r v

theorem D9v {f:Nat} {fn:Func} {c:Code} {args:List SV} {r:SV} {es:List En} (hf:P.funcs[f]? = some fn) (hb:fn.body=some c) (hlen:Nat.ble args.length fn.ntmps=true)
  (h:∀(x:Ctx) (a:Act),(∀p,x.k p = .no)->(∀b,x.F b->b<x.w.heap.size)->Sim x.w x.F Z8 [] (D6 fn.ntmps args) x a->wpK P (A9r P fn x r es) none [.code c] [] .normal a x.w):FnD P f args r es:=by
 intro x vs hk hF hden;exact calls_of_wp hf hb ((wpIn_wide (n:=0)).1 (h x _ hk hF (C5f (Nat.le_of_ble_eq_true hlen) hk hF hden)))

def C2 (env:Env) (fn:Func) (unroll:Bool) (n:Nat) (c:Cfg) (path:List Bool) (ps fz:List Nat):Option (List Prop×SV×List En):=
 match run env unroll n c path with
 | ⟨ob,_,⟨[],.ret,σ⟩⟩=>
  match A7o env σ fn.results.toList with
  | some (o,r)=>match rnS σ.m ps fz (C3z r),C0f σ.m ps fz ps with
   | some (o1,r'),some (o2,es)=>if E1e ps fz then some (ob++(o++(o1++o2)),r',es) else none
   | _,_=>none
  | none=>none
 | _=>none

theorem Z2 {b b' : Bool} (h:b=b') {y:Ctx} {v:Value} (hd:B1 y (.v (.c (.lit b))) v):B1 y (.v (.c (.bool b'))) v:=by
 subst h;have:=C7x hd
 subst this;exact A1c _

theorem F0j (hE:A6 P env) {fn:Func} {x0:Ctx} (hk:∀p,x0.k p = .no) (hF:∀b,x0.F b->b<x0.w.heap.size) {unroll:Bool} {n:Nat} {c:Cfg} {path:List Bool} {ps fz:List Nat} {ob:List Prop} {r rr:SV} {es:List En}
  (h:C2 env fn unroll n c path ps fz=some (ob,r,es)) (ho:A3 ob) (hconv:∀y v,B1 y r v->B1 y rr v) (hs:Sim x0.w x0.F Z8 as c.σ x a):wpK P (A9r P fn x0 rr es) none c.k as c.x a x.w:=by
 unfold C2 at h;split at h
 ·rename_i ob2 path2 σ2 hrun
  split at h
  ·rename_i o3 r3 hres
   split at h
   ·rename_i o1 r' o2 es' hr hes
    split at h
    ·rename_i hok
     cases h
     have ho1:=D3.1 ho;have ho2:=D3.1 ho1.2;have ho3:=D3.1 ho2.2;have hrs:=A3s (ρ:=none) (Q:=A9r P fn x0 rr es) hE (unroll:=unroll) n (c:=c) (path:=path) (as:=as) (x:=x) (a:=a) (by rw[hrun];exact ho1.1) hs
     refine hrs fun as' y a' hs=>?_
     rw[hrun] at hs ⊢
     show bodyPost P fn (fun e w' => ∃v y,e = .returned v∧y.w=w' ∧ Tr x0 none y (fun p=>es[p]?)∧B1 y rr v) .ret a' y.w
     obtain ⟨v,hv,hdv⟩:=O5 hE hs.mem hs.t hres ho2.1;refine ⟨hs.defers.trans (B0e _),v,hv,v,H5 y ps fz,rfl,rfl,?_,hconv _ _ (C3l hs.mem hr ho3.1 hdv)⟩
     have hmem:=D6y hs.mem hes ho3.2 hok;have hb:=hs.base;have nok:∀p,x0.k p = .real->False:=fun p hp=>by rw[hk p] at hp;cases hp
     have hreal:∀p,y.k p = .real->x0.w.heap.size<=y.β p:=fun p hp=>by
      rcases Nat.lt_or_ge (y.β p) x0.w.heap.size with h | h
      ·exact absurd trivial (hb.ownK p hp h)
      ·exact h
     refine ⟨⟨hb.size,fun b hb' => ⟨.inl (hb.f0 b hb'),hb.keep b (hF b hb') trivial⟩,fun p hp=>absurd (hk p) hp,fun p hp=>(nok p hp).elim,fun p hp=>(nok p hp).elim⟩,hmem,hb.os,hb.tape,hb.output,fun b hb' _=>hb.keep b hb' trivial,fun i hi=>?_,fun b hb' => ?_⟩
     ·right
      cases hp:ps[i]? with
      | none=>simp only[H5,hp] at hi;cases hi
      | some p=>simp only[H5,hp] at hi ⊢;exact hreal p hi
     ·rcases hb' with hb' | ⟨p,_,hk',rfl⟩
      ·exact hb.fn b hb'
      ·exact .inr (hreal p hk')
    ·cases h
   ·cases h
  ·cases h
 ·cases h

/-- The same, under a name that is not looked into. -/
structure Wq (P:Program) (Q:Exit->Act->World->Prop) (k:List KI) (as:List Act) (e:Exit) (a:Act) (w:World) (ρ:Option Nat:=none):Prop where
 wp:wpK P Q ρ k as e a w

theorem U5 {ρ:Option Nat} (hE:A6 P env) {unroll:Bool} {n:Nat} {c:Cfg} {path:List Bool} {tl ml:List Nat} {ftl:List (List Nat)} {o:At} (h:A1q env unroll n c path tl ml ftl=some o) {k' : List KI} (hk:(run env unroll n c path).cfg.k=k') (ho:A3 o.obl) (hs:Sim w0 F0 K as c.σ x a)
  (hK:∀as' y a',Sim w0 F0 K as' (A5 o.nt tl o.svs ml o.ens o.nx ftl o.fsv) y a' -> Wq P Q k' as' o.x a' y.w ρ):Wq P Q c.k as c.x a x.w ρ :=
 ⟨F6y hE h hk ho hs fun as' y a' hs' => (hK as' y a' hs').wp⟩

theorem C0 {ρ:Option Nat} {ι:Type} (S:ι->St) (μ:ι->Nat) {k0 k:List KI} {c:Code} (hl:A5o k0=some (c,k))
  (round:∀i,(∀j,μ j<μ i->∀as y b,Sim w0 F0 K as (S j) y b->Wq P Q (.lp c::k) as .normal b y.w ρ)->∀as y b,Sim w0 F0 K as (S i) y b->Wq P Q (.code c :: .lp c::k) as .normal b y.w ρ) (i:ι) (hs:Sim w0 F0 K as (S i) x a) :
  Wq P Q k0 as .normal a x.w ρ :=
 ⟨D4a S μ hl (fun i ih as y b hs=>(round i (fun j hj as y b hs=>⟨ih j hj as y b hs⟩) as y b hs).wp) i hs⟩

theorem F5 {f:Nat} {fn:Func} {c:Code} {args:List SV} {r:SV} {es:List En} (hf:P.funcs[f]? = some fn) (hb:fn.body=some c) (hlen:Nat.ble args.length fn.ntmps=true)
  (h:∀(x:Ctx) (a:Act),(∀p,x.k p = .no)->(∀b,x.F b->b<x.w.heap.size)->Sim x.w x.F Z8 [] (D6 fn.ntmps args) x a->Wq P (A9r P fn x r es) [.code c] [] .normal a x.w):FnD P f args r es:=
 D9v hf hb hlen fun x a h1 h2 h3=>(h x a h1 h2 h3).wp

theorem M3 (hE:A6 P env) {fn:Func} {x0:Ctx} (hk:∀p,x0.k p = .no) (hF:∀b,x0.F b->b<x0.w.heap.size) {unroll:Bool} {n:Nat} {c:Cfg} {path:List Bool} {ps fz:List Nat} {ob:List Prop} {r rr:SV} {es:List En}
  (h:C2 env fn unroll n c path ps fz=some (ob,r,es)) (ho:A3 ob) (hconv:∀y v,B1 y r v->B1 y rr v) (hs:Sim x0.w x0.F Z8 as c.σ x a):Wq P (A9r P fn x0 rr es) c.k as c.x a x.w:=
 ⟨F0j hE hk hF h ho hconv hs⟩

theorem M8 {ρ:Option Nat} (hE:A6 P env) {unroll:Bool} {n:Nat} {k0:List KI} {e0:Exit} {σ0:St} {path:List Bool} {tl ml:List Nat} {ftl:List (List Nat)} {o:At} (h:A1q env unroll n ⟨k0,e0,σ0⟩ path tl ml ftl=some o) {k' : List KI} (hk:(run env unroll n ⟨k0,e0,σ0⟩ path).cfg.k=k') (ho:A3 o.obl) (hs:Sim w0 F0 K as σ0 x a)
  (hK:∀as' y a',Sim w0 F0 K as' (A5 o.nt tl o.svs ml o.ens o.nx ftl o.fsv) y a' -> Wq P Q k' as' o.x a' y.w ρ):Wq P Q k0 as e0 a x.w ρ :=
 U5 hE (c:=⟨k0,e0,σ0⟩) h hk ho hs hK

theorem N1 {ρ:Option Nat} (hE:A6 P env) {unroll:Bool} {n:Nat} {k0:List KI} {e0:Exit} {σ0:St} {path:List Bool} {tl ml:List Nat} {ftl:List (List Nat)} {o:At} (h:A1q env unroll n ⟨k0,e0,σ0⟩ path tl ml ftl=some o) {k' : List KI} (hk:(run env unroll n ⟨k0,e0,σ0⟩ path).cfg.k=k') (ho:A3 o.obl) (hfr:nfr k0=0) (hfr' : nfr k' = 0) (hs:Sim w0 F0 K as σ0 x a)
  (hK:∀y a',Sim w0 F0 K as (A5 o.nt tl o.svs ml o.ens o.nx ftl o.fsv) y a' -> Wq P Q k' as o.x a' y.w ρ):Wq P Q k0 as e0 a x.w ρ :=
 ⟨D1f hE (c:=⟨k0,e0,σ0⟩) h hk ho hs hfr hfr' fun y a' hs' => (hK y a' hs').wp⟩

theorem C7 (hE:A6 P env) {fn:Func} {x0:Ctx} (hk:∀p,x0.k p = .no) (hF:∀b,x0.F b->b<x0.w.heap.size) {unroll:Bool} {n:Nat} {k0:List KI} {e0:Exit} {σ0:St} {path:List Bool} {ps fz:List Nat} {ob:List Prop} {r rr:SV} {es:List En}
  (h:C2 env fn unroll n ⟨k0,e0,σ0⟩ path ps fz=some (ob,r,es)) (ho:A3 ob) (hconv:∀y v,B1 y r v->B1 y rr v) (hs:Sim x0.w x0.F Z8 as σ0 x a):Wq P (A9r P fn x0 rr es) k0 as e0 a x.w:=
 M3 hE hk hF (c:=⟨k0,e0,σ0⟩) h ho hconv hs

end
abbrev SV.ci (i:It):SV:=.v (.c i)
abbrev eF_ (l:List It):Option En:=some (.fl l)
abbrev eQ_ (q:Sq):Option En:=some (.sq q)
abbrev Sg (P:Program) (σ σ2:St) (e:Exit) (k2 k:List KI):Prop:=∀{w0:World} {F0:Nat->Prop} {K:Kp} {ac:List Act} {Q:Exit->Act->World->Prop} {cX:Ctx} {aX:Act},Sim w0 F0 K ac σ cX aX->(∀ac cY aY,Sim w0 F0 K ac σ2 cY aY->Wq P Q k2 ac e aY cY.w)->Wq P Q k ac .normal aX cX.w
abbrev dF {α:Type} [Inhabited α]:α:=default
theorem sgA (u:Bool) (n:Nat) (p:List Bool) {P:Program} {env:Env} {k0:List KI} {σ0:St} {tl ml:List Nat} {ftl:List (List Nat)} {ob:List Prop} {e:Exit} {svs:List SV} {ens:List (Option En)} {nt nx:Nat} {fsv:List (List SV×Nat)} {k1:List KI} (hE:A6 P env) (h:A1q env u n ⟨k0,.normal,σ0⟩ p tl ml ftl=some ⟨ob,e,svs,ens,nt,nx,fsv⟩:=by kernel_rfl) (hk:(run env u n ⟨k0,.normal,σ0⟩ p).cfg.k=k1:=by kernel_rfl) (ho:A3 ob):Sg P σ0 (A5 nt tl svs ml ens nx ftl fsv) e k1 k0:=fun hs hK=>M8 hE h hk ho hs hK
end

section

def D1u:List (Nat×TyI)->Nat->Option TyI
 | [],_=>none
 | (k,i)::l,t=>if t=k then some i else D1u l t

theorem Z5 {P:Program}:∀(l:List (Nat×TyI)),(l.all fun r=>A4p P r.1 r.2)=true->∀t i,D1u l t=some i->G5 P t i
 | [],_,t,i,h=>by simp [D1u] at h
 | (k,j)::l,hl,t,i,h=>by
  simp only[List.all_cons,Bool.and_eq_true] at hl;simp only[D1u] at h;split at h
  ·rename_i hk
   cases h
   subst hk;exact ⟨hl.1⟩
  ·exact Z5 l hl.2 t i h

theorem A4 {P : Program} {f : Nat} {fn : Func} (h : P.funcs[f]? = some fn) (hn : (fn.name == "runtime.NumGoroutine") = false) (hb : fn.body.isNone = false) : Z6 P f := by
  intro args w;have hn' : ¬ fn.name = "runtime.NumGoroutine" := by intro e; rw [e] at hn; simp at hn
  have hb' : ¬fn.body=none:=by intro e;rw[e] at hb;simp at hb
  simp [callFunc,h,hn',hb']

/-- One contract more. -/
def E8 (T:Nat->Option B7) (f:Nat) (s:B7):Nat->Option B7:=fun g=>if g=f then some s else T g

def Env.set (env:Env) (T:Nat->Option B7):Env:={ env with fn:=T }

theorem A9 {P:Program} {env:Env} (hE:A6 P env) (f:Nat) (s:B7) (he:Z6 P f) (h:∀args o r es,s args=some (o,r,es)->A3 o->FnD P f args r es):A6 P (env.set (E8 env.fn f s)):=by
 refine ⟨hE.ty,hE.mixed,fun g s' hg=>?_,hE.mu,hE.inl,hE.ex,hE.inv⟩
 have hg:(if g=f then some s else env.fn g)=some s' := hg
 split at hg
 ·rename_i hgf
  cases hg
  subst hgf;exact ⟨he,h⟩
 ·exact hE.fn g s' hg

theorem FnD.conv {P:Program} {f:Nat} {args args' : List SV} {r r' : SV} {es:List En} (h:FnD P f args r es) (ha:∀x vs,I0 x args' vs->I0 x args vs) (hr:∀x v,B1 x r v->B1 x r' v):FnD P f args' r' es:=by
 intro x vs hk hF hd;exact (h x vs hk hF (ha x vs hd)).mono fun e w' ⟨v,y,he,hw,ht,hv⟩=>⟨v,y,he,hw,ht,hr y v hv⟩

end

section

/- Short words for what a slot holds. -/
abbrev SV.iu (n:Int):SV:=.v (.c (.int .u64 n))
abbrev SV.ii (n:Int):SV:=.v (.c (.int .i64 n))
abbrev SV.pt (p o:Nat):SV:=.v (.c (.ptr p o))
def B2 (fn:Func):Code:=fn.body.getD .skip
/-- A loop at which a run stands: its body, what is behind it. -/
def lpC (k:List KI):Code:=((A5o k).getD (.skip,[])).1
def lpR (k:List KI):List KI:=((A5o k).getD (.skip,[])).2
def B5 (k:List KI):List KI:=.code (lpC k) :: .lp (lpC k)::lpR k
def D5 (k:List KI):List KI:=.lp (lpC k)::lpR k

theorem F0q {x:Ctx} {q:Sq} {v:Value} (h:B1 x (.v (.c (.sl q))) v):q.n<=maxLen:=by
 rcases D8m h with ⟨_,_,_,h⟩ | ⟨_,_,_,_,_,h,_⟩
 ·omega
 ·exact h

theorem B0 {n:Int} (h1:-9223372036854775808<=n) (h2:n<9223372036854775808):wrap IntKind.i64 n=n:=by
 show (if (true && decide (n % (2 ^ 64:Int) >= (2 ^ (64-1):Int)))=true then n % (2 ^ 64:Int)-(2 ^ 64:Int) else n % (2 ^ 64:Int))=n
 split
 ·rename_i h;have h:=of_decide_eq_true (by simpa using h:decide (n % (2 ^ 64:Int) >= (2 ^ (64-1):Int))=true);omega
 ·rename_i h;have h:¬(n % (2 ^ 64:Int) >= (2 ^ (64-1):Int)):=fun h' => h (by simpa using h');omega

theorem A1x {n:Int} (h1:0<=n) (h2:n<18446744073709551616):wrap IntKind.u64 n=n:=by
 simp only[IntKind.wrap,IntKind.bits,IntKind.signed,Bool.false_and,Bool.false_eq_true,if_false];omega

theorem A9n:wrap IntKind.i64 ((0:Int)+1)=1:=by decide
theorem A9o:wrap IntKind.i64 ((1:Int)+1)=2:=by decide
theorem A9p:wrap IntKind.i64 ((2:Int)+1)=3:=by decide

theorem C7y {α:Type} (f:α->Bool) (d:α):∀(l:List α) (i:Nat),i<l.length->(l.drop i).all f=(f (l.getD i d) && (l.drop (i+1)).all f)
 | [],i,h=>by simp at h
 | a::l,0,_=>by simp
 | a::l,i+1,h=>by
  simp only[List.length_cons,Nat.succ_lt_succ_iff] at h;simpa using C7y f d l i h

end

section

theorem E5 {x y c:Int} (hx:0<=x) (hx1:x<18446744073709551616) (hy:0<=y) (hy1:y<18446744073709551616) (hc:0<=c) (hc1:c<=1) :
  (A2 1 x y c).1=x-y-c+18446744073709551616*(A2 1 x y c).2∧0<=(A2 1 x y c).1∧(A2 1 x y c).1<18446744073709551616∧0<=(A2 1 x y c).2∧(A2 1 x y c).2<=1:=by
 show (x-y-c) % 18446744073709551616=x-y-c+18446744073709551616*(if x<y+c then 1 else 0)∧0<=(x-y-c) % 18446744073709551616∧(x-y-c) % 18446744073709551616<18446744073709551616∧0<=(if x<y+c then (1:Int) else 0)∧(if x<y+c then (1:Int) else 0)<=1
 split<;>omega

theorem F2 {x y c:Int} (hx:0<=x) (hx1:x<18446744073709551616) (hy:0<=y) (hy1:y<18446744073709551616) (hc:0<=c) (hc1:c<=1) :
  x+y+c=(A2 0 x y c).1+18446744073709551616*(A2 0 x y c).2∧0<=(A2 0 x y c).1∧(A2 0 x y c).1<18446744073709551616∧0<=(A2 0 x y c).2∧(A2 0 x y c).2<=1:=by
 show x+y+c=(x+y+c) % 18446744073709551616+18446744073709551616*((x+y+c) / 18446744073709551616)∧_;refine ⟨by omega,?_,?_,?_,?_⟩<;>(simp only[A2];omega)

theorem B9y {x y:Int} (hx:0<=x) (hx1:x<18446744073709551616) (hy:0<=y) (hy1:y<18446744073709551616):0<=x*y∧x*y<=340282366920938463426481119284349108225:=by
 refine ⟨Int.mul_nonneg hx hy,?_⟩
 have:x*y<=18446744073709551615*18446744073709551615:=Int.mul_le_mul (by omega) (by omega) hy (by decide)
 omega

/-- The limbs of a number below 2 to the power of 256. -/
theorem V4 {n:Nat} {a b c d:Int} (ha:0<=a) (ha1:a<18446744073709551616) (hb:0<=b) (hb1:b<18446744073709551616) (hc:0<=c) (hc1:c<18446744073709551616) (hd:0<=d) (hd1:d<18446744073709551616)
  (e:(n:Int)=a+18446744073709551616*b+340282366920938463463374607431768211456*c+6277101735386680763835789423207666416102355444464034512896*d):A0 n 0=a∧A0 n 1=b∧A0 n 2=c∧A0 n 3=d:=by
 have h0:A0 n 0=((n / 1 % 18446744073709551616:Nat):Int):=rfl;have h1:A0 n 1=((n / 18446744073709551616 % 18446744073709551616:Nat):Int):=rfl;have h2:A0 n 2=((n / 340282366920938463463374607431768211456 % 18446744073709551616:Nat):Int):=rfl;have h3:A0 n 3=((n / 6277101735386680763835789423207666416102355444464034512896 % 18446744073709551616:Nat):Int):=rfl;rw[h0,h1,h2,h3];omega

/-- A number is its limbs. -/
theorem W4 (n:Nat) (h:n<B4):(n:Int)=A0 n 0+18446744073709551616*A0 n 1+340282366920938463463374607431768211456*A0 n 2+6277101735386680763835789423207666416102355444464034512896*A0 n 3 ∧
  0<=A0 n 0∧A0 n 0<18446744073709551616∧0<=A0 n 1∧A0 n 1<18446744073709551616∧0<=A0 n 2∧A0 n 2<18446744073709551616∧0<=A0 n 3∧A0 n 3<18446744073709551616:=by
 have h0:A0 n 0=((n / 1 % 18446744073709551616:Nat):Int):=rfl;have h1:A0 n 1=((n / 18446744073709551616 % 18446744073709551616:Nat):Int):=rfl;have h2:A0 n 2=((n / 340282366920938463463374607431768211456 % 18446744073709551616:Nat):Int):=rfl;have h3:A0 n 3=((n / 6277101735386680763835789423207666416102355444464034512896 % 18446744073709551616:Nat):Int):=rfl;unfold B4 at h;rw[h0,h1,h2,h3];omega

/-- Four limbs in a row are a number. -/
theorem A6u {x:Ctx} {o:Ob} (hk:o.k=4) {a b c d:Int} (h:A0 o.n 0=a∧A0 o.n 1=b∧A0 o.n 2=c∧A0 o.n 3=d) {v:Value}
  (hd:B1 x (.v (.a [.int .u64 a,.int .u64 b,.int .u64 c,.int .u64 d])) v):B1 x (.v (.a [.ob o])) v:=by
 obtain ⟨cs,e,hc⟩:=hd;refine ⟨cs,e,cs,[],(List.append_nil cs).symm,⟨0,?_⟩,rfl⟩
 obtain ⟨c1,r1,e1,⟨d1,h1⟩,c2,r2,e2,⟨d2,h2⟩,c3,r3,e3,⟨d3,h3⟩,c4,r4,e4,⟨d4,h4⟩,h5⟩:=hc;have h1:c1=[.int .u64 a]:=by cases d1<;>exact h1
 have h2:c2=[.int .u64 b]:=by cases d2<;>exact h2
 have h3:c3=[.int .u64 c]:=by cases d3<;>exact h3
 have h4:c4=[.int .u64 d]:=by cases d4<;>exact h4
 have h5:r4=[]:=h5;show cs=o.cells;subst h1 h2 h3 h4 h5 e4 e3 e2 e1;unfold Ob.cells;rw[hk];show _=[Value.int .u64 (A0 o.n 0),Value.int .u64 (A0 o.n 1),Value.int .u64 (A0 o.n 2),Value.int .u64 (A0 o.n 3)];rw[h.1,h.2.1,h.2.2.1,h.2.2.2];rfl

/-- Two numbers of four limbs that are the same. -/
theorem D0m {x:Ctx} {o o' : Ob} (hk:o.k=o'.k) (hn:o.n=o'.n) {v:Value} (hd:B1 x (.v (.a [.ob o])) v):B1 x (.v (.a [.ob o'])) v:=by
 obtain ⟨cs,e,c1,r1,e1,⟨d1,h1⟩,h2⟩:=hd;have h1:c1=o.cells:=by cases d1<;>exact h1
 have h2:r1=[]:=h2;refine ⟨cs,e,cs,[],(List.append_nil cs).symm,⟨0,?_⟩,rfl⟩
 show cs=o'.cells;rw[e1,h1,h2,List.append_nil];unfold Ob.cells;rw[hk,hn]

/-- What a row of limbs is, taken out of the form in which products are reckoned. -/
def C7a:Nat:=12549076656233958353659347336803947287922716146853412054870763148006372261952
def C1k (n:Nat):Fr:=Fin.ofNat rN (n*C7a)

theorem F0d (n:Nat):(Ob.s (C1k n)).n=n % rN:=by
 show (n*C7a % rN)*B4 % rN=n % rN;rw[Nat.mod_mul_mod,Nat.mul_assoc];have e:C7a*B4 % rN=1:=by decide +kernel
 rw[<-Nat.mul_mod_mod,e,Nat.mul_one]

end

section

theorem B1w (n:Int):wrap IntKind.u64 n=n % 18446744073709551616:=rfl

/-- A product of limbs and two limbs more. -/
theorem mac {x b t u:Int} (hx:0<=x) (hx1:x<18446744073709551616) (hb:0<=b) (hb1:b<18446744073709551616) (ht:0<=t) (ht1:t<18446744073709551616) (hu:0<=u) (hu1:u<18446744073709551616) :
    x*b+t+u=(A2 0 (A2 0 ((x*b) % 18446744073709551616) t 0).1 u 0).1+18446744073709551616*wrap IntKind.u64 (wrap IntKind.u64 ((x*b) / 18446744073709551616+(A2 0 ((x*b) % 18446744073709551616) t 0).2)+(A2 0 (A2 0 ((x*b) % 18446744073709551616) t 0).1 u 0).2) ∧
    (0<=(A2 0 (A2 0 ((x*b) % 18446744073709551616) t 0).1 u 0).1∧(A2 0 (A2 0 ((x*b) % 18446744073709551616) t 0).1 u 0).1<18446744073709551616) ∧
    (0<=wrap IntKind.u64 (wrap IntKind.u64 ((x*b) / 18446744073709551616+(A2 0 ((x*b) % 18446744073709551616) t 0).2)+(A2 0 (A2 0 ((x*b) % 18446744073709551616) t 0).1 u 0).2) ∧
     wrap IntKind.u64 (wrap IntKind.u64 ((x*b) / 18446744073709551616+(A2 0 ((x*b) % 18446744073709551616) t 0).2)+(A2 0 (A2 0 ((x*b) % 18446744073709551616) t 0).1 u 0).2)<18446744073709551616) ∧
    0<=(A2 0 ((x*b) % 18446744073709551616) t 0).1∧(A2 0 ((x*b) % 18446744073709551616) t 0).1<18446744073709551616:=by
  have hp:=B9y hx hx1 hb hb1;generalize x*b=p at *;obtain ⟨e1,a1,a1',c1,c1'⟩:=F2 (x:=p % 18446744073709551616) (y:=t) (c:=0) (by omega) (by omega) ht ht1 (by decide) (by decide)
  generalize A2 0 (p % 18446744073709551616) t 0=o1 at *;obtain ⟨e2,a2,a2',c2,c2'⟩:=F2 (x:=o1.1) (y:=u) (c:=0) a1 a1' hu hu1 (by decide) (by decide)
  generalize A2 0 o1.1 u 0=o2 at *;rw[B1w,B1w];refine ⟨?_,⟨a2,a2'⟩,⟨?_,?_⟩,a1,a1'⟩<;>omega

/-- A product of limbs and one limb more. -/
theorem E0t {x b t:Int} (hx:0<=x) (hx1:x<18446744073709551616) (hb:0<=b) (hb1:b<18446744073709551616) (ht:0<=t) (ht1:t<18446744073709551616) :
  x*b+t=(A2 0 ((x*b) % 18446744073709551616) t 0).1+18446744073709551616*wrap IntKind.u64 ((x*b) / 18446744073709551616+(A2 0 ((x*b) % 18446744073709551616) t 0).2) ∧
  (0<=(A2 0 ((x*b) % 18446744073709551616) t 0).1∧(A2 0 ((x*b) % 18446744073709551616) t 0).1<18446744073709551616) ∧
  0<=wrap IntKind.u64 ((x*b) / 18446744073709551616+(A2 0 ((x*b) % 18446744073709551616) t 0).2)∧wrap IntKind.u64 ((x*b) / 18446744073709551616+(A2 0 ((x*b) % 18446744073709551616) t 0).2)<18446744073709551616:=by
 have hp:=B9y hx hx1 hb hb1;generalize x*b=p at *;obtain ⟨e1,a1,a1',c1,c1'⟩:=F2 (x:=p % 18446744073709551616) (y:=t) (c:=0) (by omega) (by omega) ht ht1 (by decide) (by decide)
 generalize A2 0 (p % 18446744073709551616) t 0=o1 at *;rw[B1w];refine ⟨?_,⟨a1,a1'⟩,?_,?_⟩<;>omega

/-- The lowest limb goes out: with the prime r. -/
theorem D0d {l q:Int} (hq:q=wrap IntKind.u64 (l*18446744069414584319)):(q*18446744069414584321+l) % 18446744073709551616=0:=by
 rw[B1w] at hq;omega

theorem E9o : (2 ^ (64*4):Nat)=B4:=by kernel_rfl

theorem B9c (X i:Nat):X % 2 ^ (64*(i+1))=X % 2 ^ (64*i)+2 ^ (64*i)*(X / 2 ^ (64*i) % 18446744073709551616):=by
 have h:(2:Nat) ^ (64*(i+1))=2 ^ (64*i)*18446744073709551616:=by
  rw[Nat.mul_add,Nat.pow_add]
 rw[h,Nat.mod_mul]

theorem C9z {r B v x y T Q:Nat} (e:v*B % r=1 % r) (h:T*B=(x*B % r)*(y*B % r)+Q*r):T*v % r=x*y % r:=by
  have h1:T*B % r=(x*B)*(y*B) % r:=by
    rw[h,Nat.add_mul_mod_self_right,<-Nat.mul_mod]
  have h2:∀a:Nat,a*(v*B) % r=a % r:=fun a=>by rw[<-Nat.mul_mod_mod,e,Nat.mul_mod_mod,Nat.mul_one]
  calc T*v % r=(T*v)*(v*B) % r:=(h2 _).symm
    _=(T*B)*(v*v) % r:=by congr 1;simp only[Nat.mul_comm,Nat.mul_left_comm]
    _=(T*B % r)*(v*v) % r:=by rw[Nat.mod_mul_mod]
    _=((x*B)*(y*B) % r)*(v*v) % r:=by rw[h1]
    _=((x*B)*(y*B))*(v*v) % r:=by rw[Nat.mod_mul_mod]
    _=(x*y*(v*B))*(v*B) % r:=by congr 1;simp only[Nat.mul_comm,Nat.mul_left_comm]
    _=x*y % r:=by rw[h2,h2]

theorem B1k:C7a*B4 % rN=1 % rN:=by kernel_rfl

/-- What is left when a product has gone through all limbs. -/
theorem E7u {x y:Fr} {T Q:Nat} (h:T*B4=(Ob.s x).n*(Ob.s y).n+Q*rN):C1k T=x*y:=
 Fin.ext (C9z B1k h)

end

section

def one (e:En):Nat->Option En:=fun p=>if p=0 then some e else none

/-- A function whose first argument is a row that it writes into; the other arguments are data. -/
def MuC (P:Program) (f:Nat) (off len es:Nat) (e:En) (rest:List SV) (e' : En):Prop:=
 ∀(x:Ctx) (vs:List Value),(∀p,p≠0->x.k p = .no)->Mem x (one e)->I0 x (.v (.c (.slc 0 off len es))::rest) vs ->
  Calls P f vs.toArray x.w fun ε w' => ∃v y,ε = .returned v∧y.w=w' ∧ Tr x none y (one e')∧B1 y (.t []) v

def A7h (x:Ctx):Nat×Nat:=
 match x.w.heap[x.β 0]? with
 | some (.cells cs ty _)=>(ty,cs.size)
 | _=>(0,0)
def B2t (x:Ctx):Kp:=⟨fun b=>x.k 0 = .real->x.β 0≠b,some (x.k 0,x.β 0,A7h x),[]⟩

def C1j (nt off len es:Nat) (e:En) (rest:List SV):St:=⟨B2b (.v (.c (.slc 0 off len es))::rest),one e,nt,16,[]⟩

def E2v (P:Program) (fn:Func) (x:Ctx) (e' : En):Exit->Act->World->Prop:=
 bodyPost P fn fun ε w' => ∃v y,ε = .returned v∧y.w=w' ∧ Tr x none y (one e')∧B1 y (.t []) v

theorem B0u {P:Program} {f:Nat} {fn:Func} {c:Code} {off len es:Nat} {e e' : En} {rest:List SV} (hf:P.funcs[f]? = some fn) (hb:fn.body=some c) (hlen:Nat.ble (rest.length+1) fn.ntmps=true)
  (h:∀(x:Ctx) (a:Act),(∀p,p≠0->x.k p = .no)->Mem x (one e)->Sim x.w x.F (B2t x) [] (C1j fn.ntmps off len es e rest) x a->Wq P (E2v P fn x e') [.code c] [] .normal a x.w):MuC P f off len es e rest e' := by
 intro x vs hk hm hden;refine calls_of_wp hf hb ((wpIn_wide (n:=0)).1 (h x _ hk hm ?_).wp)
 have hl:=Nat.le_of_ble_eq_true hlen;have hn:x.k 0 ≠ .no:=fun h0=>by
  have:=(hm.dom 0).2 h0
  simp [one] at this
 refine ⟨rfl,by have:=A6n hden;simp at this;simp [C1j];omega,A0y hden _,hm,?_,.nil⟩
 refine ⟨fun b h=>h,fun b h=>.inl h,Nat.le_refl _,fun b _ _=>rfl,fun p hp _=>?_,rfl,rfl,rfl,fun q hq=>?_⟩
 ·by_cases h0:p=0
  ·subst h0
   intro hK;exact hK hp rfl
  ·rw[hk p h0] at hp;cases hp
 ·cases hq
  refine ⟨hn,rfl,fun hr=>⟨rfl,?_⟩⟩
  obtain ⟨cs,ty,hc,_⟩:=hm.ent 0 e rfl hr;refine ⟨cs,?_,?_⟩<;>simp [A7h,hc]

def A7m (env:Env) (fn:Func) (unroll:Bool) (n:Nat) (c:Cfg) (path:List Bool):Option (List Prop×En):=
 match run env unroll n c path with
 | ⟨ob,_,⟨[],x,σ⟩⟩=>
  match fn.results.toList,σ.m 0,(match x with | .ret=>true | .normal=>true | _=>false) with
  | [],some e,true=>some (ob,e)
  | _,_,_=>none
 | _=>none

/-- Data that hang on no memory. -/
def O8 (i:It):Bool:=E3 i && A2w i
def A4l:En->Bool
 | .fl l=>l.all O8
 | .sq q=>D4h q

theorem D0x {x y:Ctx}:∀{i:It},O8 i=true->∀(d:Nat) (vs:List Value),den x d i vs->den y d i vs:=by
 intro i h d vs hd
 cases i
 case sl q=>simp [O8,A2w] at h
 case rp q j off=>simp [O8,A2w] at h
 case vsl v q=>simp [O8,A2w] at h
 case ptr p off=>simp [O8,E3] at h
 case ep p es j off=>simp [O8,E3] at h
 case slc p off len es=>simp [O8,E3] at h
 case sv p lo len es=>simp [O8,E3] at h
 case mp p=>simp [O8,E3] at h
 case dead=>simp [O8,E3] at h
 case old=>simp [O8,E3] at h
 case arr p off n es=>simp [O8,E3] at h
 case clo f c=>
  cases c with
  | nil=>cases d<;>(simp only[den] at hd ⊢;exact ⟨fun b hb=>by simp at hb,hd.2⟩)
  | cons a l=>simp [O8,E3] at h
 all_goals (cases d<;>exact hd)

theorem B9z {x y:Ctx}:∀{l:List It} {cs:List Value},(∀i∈l,O8 i=true)->B8 x.D l cs->B8 y.D l cs
 | [],_,_,h=>h
 | i::_,_,hr,⟨c1,c2,e,⟨d,h1⟩,h2⟩=>⟨c1,c2,e,⟨d,D0x (hr i List.mem_cons_self) d c1 h1⟩,B9z (fun j hj=>hr j (List.mem_cons_of_mem _ hj)) h2⟩

theorem C3f:∀(l:List (Fp×Fp×Fp)) (n k:Nat),∀i∈J4 l k n,O8 i=true
 | _,0,_,_,h=>by cases h
 | l,n+1,k,i,h=>by
  simp only[J4,List.mem_cons] at h;rcases h with rfl | rfl | rfl | h
  ·rfl
  ·rfl
  ·rfl
  ·exact C3f l n (k+1) i h

theorem E9t {q:Sq} (h:D4h q=true) (j:Nat):∀i∈q.get j,O8 i=true:=by
 intro i hi
 cases q<;>simp only[Sq.get,A1.its,G1D.its,G2D.its,S7,B3t,List.mem_cons,List.not_mem_nil,or_false] at hi<;>first
  | (cases h;done)
  | (exact C3f _ _ _ i hi)
  | (rcases hi with rfl | rfl | rfl | rfl | rfl | rfl | rfl | rfl<;>rfl)
  | (rcases hi with rfl | rfl | rfl | rfl | rfl | rfl<;>rfl)
  | (rcases hi with rfl | rfl | rfl | rfl | rfl<;>rfl)
  | (rcases hi with rfl | rfl | rfl<;>rfl)
  | (rcases hi with rfl | rfl<;>rfl)
  | (subst hi;rfl)

theorem B5u {x y:Ctx} {e:En} {cs:List Value} (h:A4l e=true) (hd:D9 x e cs):D9 y e cs:=by
 cases e with
 | fl l=>exact B9z (fun i hi=>List.all_eq_true.1 h i hi) hd
 | sq q=>exact ⟨hd.1,fun i hi=>let ⟨c,hc,hj⟩:=hd.2 i hi;⟨c,B9z (E9t h i) hc,hj⟩⟩

section
variable {P:Program} {env:Env}

theorem A8l (hE:A6 P env) {fn:Func} {x0:Ctx} {e0:En} (hk:∀p,p≠0->x0.k p = .no) (hm0:Mem x0 (one e0)) {unroll:Bool} {n:Nat} {k0:List KI} {ex:Exit} {σ0:St} {path:List Bool} {ob:List Prop} {e e' : En} {as:List Act} {x:Ctx} {a:Act}
  (h:A7m env fn unroll n ⟨k0,ex,σ0⟩ path=some (ob,e)) (hp:A4l e=true) (ho:A3 ob) (hconv:∀y cs,D9 y e cs->D9 y e' cs) (hfl:(∃l l',e = .fl l∧e' = .fl l')∨∃q q',e = .sq q∧e' = .sq q' ∧ q'.n=q.n)
  (hs:Sim x0.w x0.F (B2t x0) as σ0 x a):Wq P (E2v P fn x0 e') k0 as ex a x.w:=by
 unfold A7m at h;split at h
 ·rename_i ob2 path2 e2 σ2 hrun
  split at h
  ·rename_i e3 hres hm hx
   cases h
   refine ⟨?_⟩
   have hrs:=A3s (ρ:=none) (Q:=E2v P fn x0 e') hE (unroll:=unroll) n (c:=⟨k0,ex,σ0⟩) (path:=path) (as:=as) (x:=x) (a:=a) (by rw[hrun];exact ho) hs
   refine hrs fun as' y a' hs=>?_
   rw[hrun] at hs ⊢
   have hb:=hs.base;obtain ⟨hn0,hp1,hp2⟩:=hb.pin _ rfl;have hp1:y.k 0=x0.k 0:=hp1;obtain ⟨v,hv,hdv⟩:=O5 hE hs.mem hs.t (r:=[]) (o:=[]) (by rw[hres];rfl) trivial
   have hold:∀b,x0.F b->y.w.heap[b]? = x0.w.heap[b]? := fun b hF=>hb.keep b (hm0.fw b hF) fun hr e=>hm0.own 0 hr (e ▸ hF)
   have hmo:=hs.mem;have tr:Tr x0 none ⟨y.w,x0.F,fun p=>if p=0 then x0.k 0 else .no,x0.β⟩ (one e'):=by
    refine ⟨⟨hb.size,fun b hF=>⟨hF,hold b hF⟩,fun p hp=>?_,fun _ _=>rfl,fun p hp cs ty hc=>?_⟩,⟨fun p=>?_,fun p l hl=>?_,fun p q hq hn=>?_,fun p e1 he hr=>?_,fun p q hp hq _=>?_,fun p hp=>?_,fun b hF=>Nat.lt_of_lt_of_le (hm0.fw b hF) hb.size⟩,hb.os,hb.tape,hb.output,fun b hlt hne=>?_,fun p hp=>?_,fun b hF=>.inl hF⟩
    ·by_cases h0:p=0
     ·subst h0;rfl
     ·exact absurd (hk p h0) hp
    ·have hp:x0.k p = .real:=hp
     have hc:x0.w.heap[x0.β p]? = some (.cells cs ty (0,0)):=hc;by_cases h0:p=0
     ·subst h0
      obtain ⟨g1,cs',g2,g3⟩:=hp2 hp;have g1:y.β 0=x0.β 0:=g1;rw[g1] at g2;have hb1:A7h x0=(ty,cs.size):=by simp [A7h,hc]
      rw[hb1] at g2 g3;exact ⟨cs',g2,g3⟩
     ·rw[hk p h0] at hp;cases hp
    ·by_cases h0:p=0
     ·subst h0
      show one e' 0=none↔(if (0:Nat)=0 then x0.k 0 else .no) = .no
      simp only[one,if_true];exact ⟨fun h=>(by cases h),fun h=>absurd h hn0⟩
     ·show one e' p=none↔(if p=0 then x0.k 0 else .no) = .no
      simp [one,h0]
    ·by_cases h0:p=0
     ·subst h0
      simp only[one,if_true,Option.some.injEq] at hl;subst hl;rcases hfl with ⟨l1,l2,he,he'⟩ | ⟨q1,q2,_,he',_⟩
      ·show (if (0:Nat)=0 then x0.k 0 else .no) = .real
       rw[if_pos rfl,<-hp1];exact hmo.fl 0 l1 (by rw[hm,he])
      ·cases he'
     ·simp [one,h0] at hl
    ·by_cases h0:p=0
     ·subst h0
      simp only[one,if_true,Option.some.injEq] at hq;subst hq;rcases hfl with ⟨l1,l2,_,he'⟩ | ⟨q1,q2,he,he',hqn⟩
      ·cases he'
      ·cases he'
       rw[hqn];refine hmo.nil 0 q1 (by rw[hm,he]) ?_
       rw[hp1];simpa using hn
     ·simp [one,h0] at hq
    ·by_cases h0:p=0
     ·subst h0
      simp only[one,if_true,Option.some.injEq] at he;subst he;have hr:x0.k 0 = .real:=by simpa using hr
      obtain ⟨cs,ty,hc,hd⟩:=hmo.ent 0 _ hm (by rw[hp1];exact hr)
      have g1:y.β 0=x0.β 0:=(hp2 hr).1;rw[g1] at hc;exact ⟨cs,ty,hc,hconv _ _ (B5u hp hd)⟩
     ·simp [one,h0] at he
    ·by_cases h0:p=0
     ·by_cases h1:q=0
      ·rw[h0,h1]
      ·simp [h1] at hq
     ·simp [h0] at hp
    ·by_cases h0:p=0
     ·subst h0
      exact hm0.own 0 (by simpa using hp)
     ·simp [h0] at hp
    ·exact hb.keep b hlt fun hr=>hne 0 hr
    ·by_cases h0:p=0
     ·subst h0
      exact .inl ⟨by simpa using hp,rfl⟩
     ·simp [h0] at hp
   have hv0:B1 (⟨y.w,x0.F,fun p=>if p=0 then x0.k 0 else .no,x0.β⟩:Ctx) (.t []) v:=by
    obtain ⟨vs,e,hc⟩:=hdv
    cases hc
    exact ⟨[],e,.nil⟩
   cases e2<;>simp at hx
   ·exact ⟨hs.defers.trans (B0e _),v,hv,v,⟨y.w,x0.F,fun p=>if p=0 then x0.k 0 else .no,x0.β⟩,rfl,rfl,tr,hv0⟩
   ·exact ⟨hs.defers.trans (B0e _),v,hv,v,⟨y.w,x0.F,fun p=>if p=0 then x0.k 0 else .no,x0.β⟩,rfl,rfl,tr,hv0⟩
  ·cases h
 ·cases h

/-- All but one position: what refers to it is forgotten. -/
theorem C9w {x:Ctx} {m:Nat->Option En} (h:Mem x m) (p:Nat):Mem (kx x (some p)) (fun q=>if q=p then none else (m q).map (Q5 p)):=by
 refine ⟨fun q=>?_,fun q l hq=>?_,fun q s hq hn=>?_,fun q e hq hr=>?_,fun q r hq hr he=>?_,fun q hq=>?_,h.fw⟩
 ·by_cases h0:q=p
  ·simp [kx,h0]
  ·simp only[kx,h0,if_false,Option.map_eq_none_iff];exact h.dom q
 ·by_cases h0:q=p
  ·simp [h0] at hq
  ·simp only[h0,if_false,Option.map_eq_some_iff] at hq
   obtain ⟨e,he,hs⟩:=hq
   cases e with
   | sq s=>simp [Q5] at hs
   | fl l0=>simp only[kx,h0,if_false];exact h.fl q l0 he
 ·by_cases h0:q=p
  ·simp [h0] at hq
  ·simp only[h0,if_false,Option.map_eq_some_iff] at hq
   obtain ⟨e,he,hs⟩:=hq;simp only[kx,h0,if_false] at hn
   cases e with
   | fl l0=>simp [Q5] at hs
   | sq s0=>simp only[Q5,En.sq.injEq] at hs;subst hs;exact h.nil q s0 he hn
 ·by_cases h0:q=p
  ·simp [h0] at hq
  ·simp only[h0,if_false,Option.map_eq_some_iff] at hq
   obtain ⟨e0,he,hs⟩:=hq;simp only[kx,h0,if_false] at hr;obtain ⟨cs,ty,hc,hd⟩:=h.ent q e0 he hr;subst hs;exact ⟨cs,ty,hc,D1h p hd⟩
 ·by_cases h0:q=p
  ·simp [kx,h0] at hq
  ·by_cases h1:r=p
   ·simp [kx,h1] at hr
   ·simp only[kx,h0,h1,if_false] at hq hr
    exact h.inj q r hq hr he
 ·by_cases h0:q=p
  ·simp [kx,h0] at hq
  ·simp only[kx,h0,if_false] at hq
   exact h.own q hq

abbrev MuS:=Nat->Nat->Nat->En->List SV->Option (List Prop×En)

/-- The contract of such a function, at its caller's positions. -/
def mu1 (spec:MuS):D2k:=fun args m=>
 match args with
 | .v (.c (.slc p off len es))::rest=>
  match m p with
  | some e=>
   match B4v (fun q=>if q=p then none else (m q).map (Q5 p)) (rest.map (K2 p)) with
   | some (o,rest')=>
    match spec off len es e rest' with
    | some (o',e')=>if A4l e && A4l e' then some (o++o',.t [],[(p,e')]) else none
    | none=>none
   | none=>none
  | none=>none
 | _=>none

theorem D1i {x:Ctx} (p:Nat):∀{l:List SV} {vs:List Value},I0 x l vs->I0 (kx x (some p)) (l.map (K2 p)) vs
 | [],_,h=>by cases h;exact .nil
 | a::l,_,h=>by cases h with | cons h1 h2=>exact .cons (C7e p h1) (D1i p h2)

theorem G0y {f:Nat} {spec:MuS} (h:∀off len es e rest o e',spec off len es e rest=some (o,e')->A3 o->A4l e=true->A4l e' = true->MuC P f off len es e rest e'):MuD P f (mu1 spec):=by
 intro args m' o r ups hsp ho x m vs hsub hm hd
 unfold mu1 at hsp;split at hsp
 ·rename_i p off len es rest
  split at hsp
  ·rename_i e he
   split at hsp
   ·rename_i o1 rest' hrd
    split at hsp
    ·rename_i o2 e' hs
     split at hsp
     ·rename_i hpe
      simp only[Bool.and_eq_true] at hpe
      cases hsp
      have ho:=D3.1 ho;have hmp:=hsub p e he
      cases hd with
      | cons hd1 hd2=>
       rename_i v1 vs1;have hkp:x.k p ≠ .no:=fun h0=>by have:=(hm.dom p).2 h0;rw[hmp] at this;cases this
       -- the callee's view
       let F' : Nat->Prop:=fun b=>x.F b∨∃q,q≠p∧x.k q = .real∧b=x.β q
       let x' : Ctx:=⟨x.w,F',fun q=>if q=0 then x.k p else .no,fun _=>x.β p⟩
       have hrest:I0 x' rest' vs1:=by
        refine A2l (x:=kx x (some p)) (y:=x') (C9w hm p) (fun q e1 hq=>?_) rfl (fun b hb=>.inl hb) (.inr fun q hq=>?_) (D1i p hd2) hrd ho.1
        ·by_cases h0:q=p
         ·simp [h0] at hq
         ·simp only[h0,if_false,Option.map_eq_some_iff] at hq ⊢
          obtain ⟨e0,h1,h2⟩:=hq;exact ⟨e0,hsub q e0 h1,h2⟩
        ·by_cases h0:q=p
         ·simp [kx,h0] at hq
         ·simp only[kx,h0,if_false] at hq
          exact .inr ⟨q,h0,hq,rfl⟩
       have hmem:Mem x' (one e):=by
        refine ⟨fun q=>?_,fun q l hq=>?_,fun q s hq hn=>?_,fun q e1 hq hr=>?_,fun q r hq hr _=>?_,fun q hq=>?_,fun b hb=>?_⟩
        ·by_cases h0:q=0
         ·subst h0;simp [one,x',hkp]
         ·simp [one,x',h0]
        ·by_cases h0:q=0
         ·subst h0
          simp only[one,if_true,Option.some.injEq] at hq;subst hq;exact hm.fl p l hmp
         ·simp [one,h0] at hq
        ·by_cases h0:q=0
         ·subst h0
          simp only[one,if_true,Option.some.injEq] at hq;subst hq;exact hm.nil p s hmp hn
         ·simp [one,h0] at hq
        ·by_cases h0:q=0
         ·subst h0
          simp only[one,if_true,Option.some.injEq] at hq;subst hq;obtain ⟨cs,ty,hc,hdd⟩:=hm.ent p e hmp hr;exact ⟨cs,ty,hc,B5u hpe.1 hdd⟩
         ·simp [one,h0] at hq
        ·by_cases h0:q=0
         ·by_cases h1:r=0
          ·rw[h0,h1]
          ·simp [x',h1] at hr
         ·simp [x',h0] at hq
        ·by_cases h0:q=0
         ·subst h0
          have hr:x.k p = .real:=hq;intro hF;rcases hF with hF | ⟨q,hne,hq,e⟩
          ·exact hm.own p hr hF
          ·exact hne (hm.inj p q hr hq e).symm
         ·simp [x',h0] at hq
        ·rcases hb with hb | ⟨q,_,hq,rfl⟩
         ·exact hm.fw b hb
         ·exact hm.lt hq
       have hslc:B1 x' (.v (.c (.slc 0 off len es))) v1:=by
        obtain ⟨h1,d,h2⟩:=hd1;refine ⟨h1,d,?_⟩
        cases d<;>(simp only[den] at h2 ⊢;exact h2)
       refine (h off len es e rest' o2 e' hs ho.2 hpe.1 hpe.2 x' (v1::vs1) (fun q h0=>by simp [x',h0]) hmem (.cons hslc hrest)).mono fun ε w' ⟨v,y,he1,hw,ht,hv⟩=>?_
       have hold:∀b,F' b->y.w.heap[b]? = x.w.heap[b]? := fun b hb=>(ht.ext.ro b hb).2
       have hk0:y.k 0=x.k p:=ht.ext.k 0 (by show (if (0:Nat)=0 then x.k p else .no) ≠ .no;rw[if_pos rfl];exact hkp)
       have hext:Ext x ⟨y.w,x.F,x.k,x.β⟩:=by
        refine ⟨ht.ext.size,fun b hb=>⟨hb,hold b (.inl hb)⟩,fun _ _=>rfl,fun _ _=>rfl,fun q hq cs ty hc=>?_⟩
        by_cases h0:q=p
        ·subst h0
         exact ht.ext.own 0 hq cs ty hc
        ·exact ⟨cs,by show y.w.heap[x.β q]? = _;rw[hold _ (.inr ⟨q,h0,hq,rfl⟩)];exact hc,rfl⟩
       refine ⟨v,⟨y.w,x.F,x.k,x.β⟩,he1,hw,?_,?_⟩
       ·rw[A3u]
        refine ⟨hext,⟨fun q=>?_,fun q l hq=>?_,fun q s hq hn=>?_,fun q e1 hq hr=>?_,hm.inj,hm.own,fun b hb=>Nat.lt_of_lt_of_le (hm.fw b hb) ht.ext.size⟩,ht.os,ht.tape,ht.output,fun b hlt hne=>?_,fun q hq=>.inl ⟨hq,rfl⟩,fun b hb=>.inl hb⟩
        ·by_cases h0:q=p
         ·subst h0;simp [hkp]
         ·simp only[h0,if_false];exact hm.dom q
        ·by_cases h0:q=p
         ·subst h0
          simp only[if_true,Option.some.injEq] at hq;subst hq;have:=ht.mem.fl 0 l rfl
          rw[hk0] at this;exact this
         ·simp only[h0,if_false] at hq;exact hm.fl q l hq
        ·by_cases h0:q=p
         ·subst h0
          simp only[if_true,Option.some.injEq] at hq;subst hq;exact ht.mem.nil 0 s rfl (by rw[hk0];exact hn)
         ·simp only[h0,if_false] at hq;exact hm.nil q s hq hn
        ·by_cases h0:q=p
         ·subst h0
          simp only[if_true,Option.some.injEq] at hq;subst hq;obtain ⟨cs,ty,hc,hdd⟩:=ht.mem.ent 0 _ rfl (by rw[hk0];exact hr)
          have hβ:y.β 0=x.β q:=ht.ext.β 0 hr;rw[hβ] at hc;exact ⟨cs,ty,hc,B5u hpe.2 hdd⟩
         ·simp only[h0,if_false] at hq
          obtain ⟨cs,ty,hc,hdd⟩:=hm.ent q e1 hq hr;exact ⟨cs,ty,by show y.w.heap[x.β q]? = _;rw[hold _ (.inr ⟨q,h0,hr,rfl⟩)];exact hc,J9 hext hdd⟩
        ·refine ht.blk b hlt fun q hq=>?_
         by_cases h0:q=0
         ·subst h0;exact hne p hq
         ·simp [x',h0] at hq
       ·obtain ⟨vs,e2,hc⟩:=hv
        cases hc
        exact ⟨[],e2,.nil⟩
     ·cases hsp
    ·cases hsp
   ·cases hsp
  ·cases hsp
 ·cases hsp

theorem B7m (hE:A6 P env) (f:Nat) (spec:MuS) (he:Z6 P f) (h:∀off len es e rest o e',spec off len es e rest=some (o,e')->A3 o->A4l e=true->A4l e' = true->MuC P f off len es e rest e') :
  A6 P { env with mu:=fun g=>if g=f then some (mu1 spec) else env.mu g }:=by
 refine ⟨hE.ty,hE.mixed,hE.fn,fun g s hg=>?_,hE.inl,hE.ex,hE.inv⟩
 have hg:(if g=f then some (mu1 spec) else env.mu g)=some s:=hg
 split at hg
 ·rename_i hgf
  cases hg
  subst hgf;exact ⟨he,G0y h⟩
 ·exact hE.mu g s hg

end
end

section
abbrev St.z (σ:St) (n:Nat):St:={ σ with nx:=n }
end

section

/-- One position more, without a block. -/
def F9 (y:Ctx) (n:Nat):Ctx:={ y with k:=fun q=>if q=n then .nil else y.k q }

/-- A contract whose result has an empty row behind the others. -/
theorem FnD.nil {P:Program} {f:Nat} {args:List SV} {r r' : SV} {es:List En} {q:Sq} (h:FnD P f args r es) (hq:q.n=0)
  (hr:∀(y:Ctx) v,y.k es.length = .nil->B1 y r v->B1 y r' v):FnD P f args r' (es++[.sq q]):=by
 intro x vs hk hF hd;refine (h x vs hk hF hd).mono fun e w' ⟨v,y,he,hw,ht,hv⟩=>?_
 have hno:y.k es.length = .no:=(ht.mem.dom es.length).1 (by simp)
 have hext:Ext y (F9 y es.length):=by
  refine ⟨Nat.le_refl _,fun _ h=>⟨h,rfl⟩,fun p hp=>?_,fun _ _=>rfl,fun _ _ cs _ h=>⟨cs,h,rfl⟩⟩
  have:p≠es.length:=fun e=>hp (e ▸ hno)
  simp [F9,this]
 have hreal:∀p,(F9 y es.length).k p = .real->y.k p = .real:=by
  intro p hp;simp only[F9] at hp;split at hp
  ·cases hp
  ·exact hp
 have hget:∀p,p≠es.length->(es++[En.sq q])[p]? = es[p]? := by
  intro p hp;by_cases h1:p<es.length
  ·rw[List.getElem?_append_left h1]
  ·rw[List.getElem?_append_right (by omega),List.getElem?_eq_none (by simp;omega),List.getElem?_eq_none (by omega)]
 have hm:Mem (F9 y es.length) (fun p=>(es++[En.sq q])[p]?):=by
  refine ⟨fun p=>?_,fun p l hp=>?_,fun p s hp hn=>?_,fun p e hp hrl=>?_,fun p s hp hs he=>?_,fun p hp=>?_,fun b hb=>ht.mem.fw b hb⟩
  ·by_cases hp:p=es.length
   ·subst hp;simp [F9]
   ·show (es++[En.sq q])[p]? = none↔(if p=es.length then Kd.nil else y.k p) = .no
    rw[if_neg hp,hget p hp];exact ht.mem.dom p
  ·by_cases h1:p=es.length
   ·subst h1;simp at hp
   ·have hp:(es++[En.sq q])[p]? = some (.fl l):=hp
    rw[hget p h1] at hp;show (if p=es.length then Kd.nil else y.k p) = .real
    rw[if_neg h1];exact ht.mem.fl p l hp
  ·by_cases h1:p=es.length
   ·subst h1
    have hp:(es++[En.sq q])[es.length]? = some (.sq s):=hp;simp at hp
    rw[<-hp];exact hq
   ·have hp:(es++[En.sq q])[p]? = some (.sq s):=hp
    rw[hget p h1] at hp;have hn:(if p=es.length then Kd.nil else y.k p) = .nil:=hn
    rw[if_neg h1] at hn;exact ht.mem.nil p s hp hn
  ·have h1:p≠es.length:=by
    rintro rfl
    simp [F9] at hrl
   have hp:(es++[En.sq q])[p]? = some e:=hp;rw[hget p h1] at hp;obtain ⟨cs,ty,hc,hde⟩:=ht.mem.ent p e hp (hreal p hrl);exact ⟨cs,ty,hc,J9 hext hde⟩
  ·exact ht.mem.inj p s (hreal p hp) (hreal s hs) he
  ·exact ht.mem.own p (hreal p hp)
 refine ⟨v,F9 y es.length,he,hw,⟨ht.ext.trans hext,hm,ht.os,ht.tape,ht.output,ht.blk,fun p hp=>ht.fresh p (hreal p hp),ht.fnew⟩,hr _ _ (by simp [F9]) (A1b hext hv)⟩

theorem D7n {y:Ctx} {p es:Nat} (hk:y.k p = .nil) {v:Value} (h:A2s y (.c (.val (.slice none 0 0))) v):A2s y (.c (.slc p 0 0 es)) v:=by
 obtain ⟨_,d,h⟩:=h;refine ⟨rfl,d,?_⟩
 have h:[v]=[Value.slice none 0 0]:=by cases d<;>exact h.1
 have g:(y.k p = .nil∧0=0∧0=0∧[v]=[Value.slice none 0 0]) ∨
  (y.k p = .real∧∃cap cs ty,[v]=[.slice (some ⟨y.β p,0,none⟩) 0 cap]∧0<=cap∧cap<=maxLen∧y.w.heap[y.β p]? = some (.cells cs ty (0,0))∧0+cap*es<=cs.size):=.inl ⟨hk,rfl,rfl,h⟩
 cases d<;>exact g

/-- No slice, and what is told with it: an empty row. -/
theorem FnD.nil2 {P:Program} {f:Nat} {args:List SV} {b:V1} {es:Nat} {q:Sq} (h:FnD P f args (.t [.c (.val (.slice none 0 0)),b]) []) (hq:q.n=0):FnD P f args (.t [.c (.slc 0 0 0 es),b]) [.sq q]:=
 h.nil (r' := .t [.c (.slc 0 0 0 es),b]) (q:=q) hq fun y v hk ⟨vs,e,hd⟩=>by
  cases hd with | cons h1 hd=>exact ⟨_,e,.cons (D7n hk h1) hd⟩

end

section

section
variable {P:Program} {w0:World} {F0:Nat->Prop} {K:Kp} {as:List Act} {Q:Exit->Act->World->Prop} {x:Ctx} {a:Act} {σ:St}

/-- A world in which what is known lies as it lay. -/
theorem Sim.world (h:Sim w0 F0 K as σ x a) {W:World} (hos:W.os=x.w.os) (htape:W.tape=x.w.tape) (hout:W.output=x.w.output) (hsz:x.w.heap.size<=W.heap.size)
  (hF:∀b,x.F b->W.heap[b]? = x.w.heap[b]?) (hown:∀p,x.k p = .real->W.heap[x.β p]? = x.w.heap[x.β p]?) (hkeep:∀b,b<w0.heap.size->K.at_ b->W.heap[b]? = x.w.heap[b]?):Sim w0 F0 K as σ { x with w:=W } a:=by
 have hext:Ext x { x with w:=W }:=⟨hsz,fun b hb=>⟨hb,hF b hb⟩,fun _ _=>rfl,fun _ _=>rfl,fun p hp cs ty hc=>⟨cs,(hown p hp).trans hc,rfl⟩⟩
 refine ⟨h.defers,h.nt,fun t=>A1b hext (h.t t),⟨h.mem.dom,h.mem.fl,h.mem.nil,fun p e hp hr=>?_,h.mem.inj,h.mem.own,fun b hb=>Nat.lt_of_lt_of_le (h.mem.fw b hb) hsz⟩,
  ⟨h.base.f0,h.base.fn,Nat.le_trans h.base.size hsz,fun b hb hk=>(hkeep b hb hk).trans (h.base.keep b hb hk),h.base.ownK,hos.trans h.base.os,htape.trans h.base.tape,hout.trans h.base.output,fun q hq=>?_⟩,h.frs.ext hext⟩
 ·obtain ⟨cs,ty,hc,hd⟩:=h.mem.ent p e hp hr
  exact ⟨cs,ty,(hown p hr).trans hc,J9 hext hd⟩
 ·obtain ⟨h1,h2,h3⟩:=h.base.pin q hq
  refine ⟨h1,h2,fun hr=>?_⟩
  obtain ⟨g1,cs,g2,g3⟩:=h3 hr;exact ⟨g1,cs,(hown 0 (h2.trans hr)).trans g2,g3⟩

/-- All but the own blocks stay. -/
def A1z (x:Ctx) (K:Kp) (ds:List Deferred):Kp:=⟨fun b=>∀p,x.k p = .real->x.β p≠b,K.pin,ds⟩

theorem B1z.own (h:B1z w0 F0 K x) (ds:List Deferred):B1z x.w x.F (A1z x K ds) x:=
 ⟨fun _ h=>h,fun _ h=>.inl h,Nat.le_refl _,fun _ _ _=>rfl,fun p hp _ hk=>hk p hp rfl,rfl,rfl,rfl,h.pin⟩

theorem B1z.trans {ds:List Deferred} {y:Ctx} (h:B1z w0 F0 K x) (g:B1z x.w x.F (A1z x K ds) y):B1z w0 F0 K y where
 f0 b hb:=g.f0 b (h.f0 b hb)
 fn b hb:=by
  rcases g.fn b hb with h1 | h1
  ·exact h.fn b h1
  ·exact .inr (Nat.le_trans h.size h1)
 size:=Nat.le_trans h.size g.size
 keep b hb hk:=(g.keep b (Nat.lt_of_lt_of_le hb h.size) (fun p hp e=>h.ownK p hp (e ▸ hb) (e ▸ hk))).trans (h.keep b hb hk)
 ownK p hp hb:=by
  intro hk;refine g.ownK p hp (Nat.lt_of_lt_of_le hb h.size) fun q hq e=>?_
  exact h.ownK q hq (e ▸ hb) (e ▸ hk)
 os:=g.os.trans h.os
 tape:=g.tape.trans h.tape
 output:=g.output.trans h.output
 pin:=g.pin

/-- Between two rounds. -/
structure Bt (w0:World) (F0:Nat->Prop) (K:Kp) (as:List Act) (a:Act) (B:Nat) (s:St) (W:World) (y:Ctx):Prop where
 w:y.w=W
 sim:Sim w0 F0 K as s y a
 fr:∀b,y.F b->b<B∨B+2<=b

theorem Bt.grow {B:Nat} {s:St} {W W' : World} {y:Ctx} (h:Bt w0 F0 K as a B s W y) (hg:W.grownBy W' none):Bt w0 F0 K as a B s W' { y with w:=W' }:=by
 obtain ⟨rfl,hs,hf⟩:=h;have hb:∀b,b<y.w.heap.size->W'.heap[b]? = y.w.heap[b]? := fun b hb=>hg.block b hb (fun e=>by cases e)
 exact ⟨rfl,hs.world hg.os hg.tape hg.output hg.size (fun b h=>hb b (hs.mem.fw b h)) (fun p hp=>hb _ (hs.mem.lt hp)) (fun b h _=>hb b (Nat.lt_of_lt_of_le h hs.base.size)),hf⟩

theorem Bt.put {B:Nat} {s:St} {W:World} {y:Ctx} (h:Bt w0 F0 K as a B s W y) (hB:w0.heap.size<=B) {o:Obj} (o' : Obj) (hl:W.heap[B+1]? = some o) (ho:o.isCells=false):Bt w0 F0 K as a B s (W.putObj (B+1) o') { y with w:=W.putObj (B+1) o' }:=by
 obtain ⟨rfl,hs,hf⟩:=h;refine ⟨rfl,hs.world rfl rfl rfl (by simp) (fun b h=>World.putObj_heap_other ?_) (fun p hp=>World.putObj_heap_other ?_) (fun b h _=>World.putObj_heap_other ?_),hf⟩
 ·rcases hf b h with h | h<;>omega
 ·intro e
  have hp' := hp
  cases hm:s.m p with
  | none=>rw[(hs.mem.dom p).1 hm] at hp;cases hp
  | some en=>
   obtain ⟨cs,ty,hc,_⟩:=hs.mem.ent p en hm hp';rw[e,hl] at hc
   cases hc
   cases ho
 ·omega

theorem Sim.own (h:Sim w0 F0 K as σ x a):Sim x.w x.F (A1z x K K.ds) as σ x a:=⟨h.defers,h.nt,h.t,h.mem,h.base.own K.ds,h.frs⟩

/-- What is no cells stays. -/
theorem N8 {m:Nat->Option En} (hm:Mem x m) {ds:List Deferred} {y:Ctx} (g:B1z x.w x.F (A1z x K ds) y) {j:Nat} {o:Obj} (hj:x.w.heap[j]? = some o) (ho:o.isCells=false):y.w.heap[j]? = some o:=by
 refine (g.keep j (Array.getElem?_eq_some_iff.1 hj).1 fun p hp e=>?_).trans hj
 cases h:m p with
 | none=>rw[(hm.dom p).1 h] at hp;cases hp
 | some en=>
  obtain ⟨cs,ty,hc,_⟩:=hm.ent p en h hp;rw[e,hj] at hc
  cases hc
  cases ho

/-- Steps behind it. -/
theorem Bt.step {B:Nat} {s σ2:St} {W:World} {y z:Ctx} {as' : List Act} {b:Act} (h:Bt w0 F0 K as a B s W y) (hW:B+2<=W.heap.size) (g:Sim y.w y.F (A1z y K K.ds) as' σ2 z b):Bt w0 F0 K as' b B σ2 z.w z:=by
 obtain ⟨rfl,hs,hf⟩:=h;refine ⟨rfl,⟨g.defers,g.nt,g.t,g.mem,hs.base.trans g.base,g.frs⟩,fun b hb=>?_⟩
 rcases g.base.fn b hb with h1 | h1
 ·exact hf b h1
 ·omega

/-- Out of a round. -/
def B1a (σ:St):St:=match σ.fr with
 | (tS,nt)::l=>⟨tS,σ.m,nt,σ.nx,l⟩
 | []=>σ

theorem Bt.out {B:Nat} {σ2:St} {W:World} {z:Ctx} {b:Act} (h:Bt w0 F0 K (a::as) b B σ2 W z):Bt w0 F0 K as a B (B1a σ2) W z:=by
 obtain ⟨rfl,hs,hf⟩:=h;refine ⟨rfl,?_,hf⟩
 have hfr:=hs.frs;unfold B1a
 cases hl:σ2.fr with
 | nil=>rw[hl] at hfr;cases hfr
 | cons q l=>
  obtain ⟨tS,nt⟩:=q;rw[hl] at hfr
  cases hfr with
  | cons h1 h2 h3 h4=>exact ⟨h1,h2,h3,hs.mem,hs.base,h4⟩

/-- Into a round: the loop's variables are set in a copy of the slots. -/
def F0n (t:Nat->SV):List (Nat×SV)->Nat->SV
 | []=>t
 | (p,v)::l=>F0n (J7 t p v) l
def Y8 (s:St) (pv:List (Nat×SV)):St:=⟨F0n s.t pv,s.m,s.nt,s.nx,(s.t,s.nt)::s.fr⟩

theorem C9f {y:Ctx} {nt:Nat}:∀{pl:List Nat} {svs:List SV} {vs:List Value} {t:Nat->SV} {tm:Array Value},I0 y svs vs->pl.length=vs.length->tm.size=nt->(∀p∈pl,p<nt)->(∀j,B1 y (t j) (tm.getD j undef)) ->
  ((pl.zip vs).foldl (fun t (q:Nat×Value)=>t.setIfInBounds q.1 q.2) tm).size=nt∧∀j,B1 y (F0n t (pl.zip svs) j) (((pl.zip vs).foldl (fun t (q:Nat×Value)=>t.setIfInBounds q.1 q.2) tm).getD j undef)
 | [],svs,vs,t,tm,_,_,hs,_,ht=>by
  simp only[List.zip_nil_left,List.foldl_nil];exact ⟨hs,ht⟩
 | p::pl,_,_,t,tm,hd,hl,hs,hp,ht=>by
  cases hd with
  | nil=>simp at hl
  | cons h1 h2=>
   simp only[List.zip_cons_cons,List.foldl_cons];refine C9f h2 (by simpa using hl) (by simpa using hs) (fun q hq=>hp q (List.mem_cons_of_mem _ hq)) fun j=>?_
   rw[B8d _ _ _ _ (by rw[hs];exact hp p List.mem_cons_self)]
   by_cases hj:j=p
   ·subst hj;simp only[J7,if_true];exact h1
   ·simp only[J7,hj,if_false];exact ht j

theorem Bt.into {B:Nat} {s:St} {W:World} {y:Ctx} (h:Bt w0 F0 K as a B s W y) {ps:Array Nat} {svs:List SV} {vs:List Value} (hd:I0 y svs vs) (hl:ps.size=vs.length) (hp:∀p∈ps.toList,p<s.nt) :
  Bt w0 F0 K (a::as) { tmps:=(ps.zip vs.toArray).foldl (fun t (q:Nat×Value)=>t.setIfInBounds q.1 q.2) a.tmps,defers:=[] } B (Y8 s (ps.toList.zip svs)) W y:=by
 obtain ⟨rfl,hs,hf⟩:=h;have e:(ps.zip vs.toArray).foldl (fun t (q:Nat×Value)=>t.setIfInBounds q.1 q.2) a.tmps=(ps.toList.zip vs).foldl (fun t (q:Nat×Value)=>t.setIfInBounds q.1 q.2) a.tmps:=by
  rw[<-Array.foldl_toList,Array.toList_zip]
 obtain ⟨h1,h2⟩:=C9f (pl:=ps.toList) (svs:=svs) hd (by simpa using hl) hs.nt hp hs.t
 rw[e];exact ⟨rfl,⟨rfl,h1,h2,hs.mem,hs.base,.cons hs.defers hs.nt hs.t hs.frs⟩,hf⟩

/-- What an iterator owes: it yields these, one by one, and looks at the caller's blocks that it has captured. -/
def B6e (P:Program) (x:Ctx) (gf:Nat) (caps:List (Nat×Nat)) {α:Type} (encs:α->List Value) (xs:List α) (M:List α->Nat->Option En):Prop:=
 ∀(l:Nat) (J:List α->World->Prop) (W:World),(∀s W W',J s W->W.grownBy W' none->J s W') ->
  (∀s W,J s W->∃y,y.w=W∧Mem y (M s)∧∀c∈caps,y.k c.1 = .real∧y.β c.1=x.β c.1) ->
  (∀pre z W1,J pre W1->(∃t,xs=pre++z::t)->YieldAt Fence.wide 0 P l (encs z).toArray W1 fun e W' => e = .returned (.bool true)∧J (pre++[z]) W') ->
  J [] W->Calls P gf (#[.func (.yield l) #[] #[]]++(caps.map fun c=>Value.pointer (some ⟨x.β c.1,c.2,none⟩)).toArray) W fun e W' => (∃v,e = .returned v)∧J xs W'


/-- The same, where the last yield may answer that it is enough; and what is known of the world in between. -/
def F7z (P:Program) (x:Ctx) (gf:Nat) (caps:List (Nat×Nat)) {α:Type} (encs:α->List Value) (ys:List α) (stop:Option α) (M:List α->Nat->Option En) (G:Ctx->Prop):Prop:=
 ∀(l:Nat) (J:List α->World->Prop) (J' : World->Prop) (W:World),(∀s W W',J s W->W.grownBy W' none->J s W')->(∀W W',J' W->W.grownBy W' none->J' W') ->
  (∀s W,J s W->∃y,y.w=W∧G y∧Mem y (M s)∧∀c∈caps,y.k c.1 = .real∧y.β c.1=x.β c.1) ->
  (∀pre z W1,J pre W1->(∃t,ys=pre++z::t)->YieldAt Fence.wide 0 P l (encs z).toArray W1 fun e W' => e = .returned (.bool true)∧J (pre++[z]) W') ->
  (∀z,stop=some z->∀W1,J ys W1->YieldAt Fence.wide 0 P l (encs z).toArray W1 fun e W' => e = .returned (.bool false)∧J' W')->(stop=none->∀W1,J ys W1->J' W1) ->
  J [] W->Calls P gf (#[.func (.yield l) #[] #[]]++(caps.map fun c=>Value.pointer (some ⟨x.β c.1,c.2,none⟩)).toArray) W fun e W' => (∃v,e = .returned v)∧J' W'
theorem B6e.toX {P:Program} {gf:Nat} {caps:List (Nat×Nat)} {α:Type} {encs:α->List Value} {xs:List α} {M:List α->Nat->Option En} {G:Ctx->Prop} (h:B6e P x gf caps encs xs M):F7z P x gf caps encs xs none M G:=
 fun l J J' W hg _ hr hy _ hn h0=>(h l J W hg (fun s W hs=>by obtain ⟨y,e,_,m⟩:=hr s W hs;exact ⟨y,e,m⟩) hy h0).mono fun _ _ h=>⟨h.1,hn rfl _ h.2⟩

theorem C1y {y:Ctx} {gf:Nat}:∀{caps:List (Nat×Nat)},(∀c∈caps,y.k c.1 = .real) ->
  Value.func (.func gf) #[] (caps.map fun c=>Value.pointer (some ⟨x.β c.1,c.2,none⟩)).toArray=Value.func (.func gf) #[] (caps.map fun c=>Value.pointer (some ⟨y.β c.1,c.2,none⟩)).toArray->∀c∈caps,y.k c.1 = .real∧y.β c.1=x.β c.1:=by
 intro caps h1 h2 c hc;refine ⟨h1 c hc,?_⟩
 simp only[Value.func.injEq,true_and] at h2;have h3:caps.map (fun c=>Value.pointer (some ⟨x.β c.1,c.2,none⟩))=caps.map fun c=>Value.pointer (some ⟨y.β c.1,c.2,none⟩):=by
  have:=congrArg Array.toList h2
  simpa using this
 have h4:=(List.map_inj_left.1 h3) c hc;simp at h4
 exact h4.symm

theorem D0z {α:Type} {g:Operand} {ps:Array Tmp} {assign body:Code} {k:List KI} {gf:Nat} {caps:List (Nat×Nat)} {σ:St}
  (hk:A0f k=false) (hs:Sim w0 F0 K as σ x a)
  (eg:Z6 P gf) (S:List α->St) (hg:∀s,(S s).ev g = .v (.c (.clo gf caps))) (h0:∃n,σ = { S [] with nx:=n }) (ys:List α) (stop:Option α) (vals:α->List SV) (encs:α->List Value) (henc:∀y z,I0 y (vals z) (encs z)) (hps:∀z,ps.size=(encs z).length)
  (hpt:∀pre,∀p∈ps.toList,p<(S pre).nt) (iter:F7z P x gf caps encs ys stop (fun s=>(S s).m) (B1z w0 F0 K))
  (SB SE:List α->α->St) (hSE:∀pre z,(∃t,ys=pre++z::t)->∃n,B1a (SE pre z) = { S (pre++[z]) with nx:=n })
  (hassign:∀pre z,(∃t,ys++stop.toList=pre++z::t)->∀(w1:World) (F1:Nat->Prop) (K1:Kp) (as1:List Act) (Q1:Exit->Act->World->Prop) (l:Nat) (y:Ctx) (b:Act),Sim w1 F1 K1 as1 (Y8 (S pre) (ps.toList.zip (vals z))) y b->(∀y' b',Sim w1 F1 K1 as1 (SB pre z) y' b' -> Q1 .normal b' y'.w)->Wq P Q1 [.code assign] as1 .normal b y.w (some l))
  (hbody:∀pre z,(∃t,ys=pre++z::t)->∀(w1:World) (F1:Nat->Prop) (K1:Kp) (as1:List Act) (Q1:Exit->Act->World->Prop) (l:Nat) (y:Ctx) (b:Act),Sim w1 F1 K1 as1 (SB pre z) y b->(∀y' b',Sim w1 F1 K1 as1 (SE pre z) y' b' -> Q1 .normal b' y'.w)->Wq P Q1 [.code body] as1 .normal b y.w (some l))
  (hstop:∀z,stop=some z->∀(w1:World) (F1:Nat->Prop) (K1:Kp) (as1:List Act) (Q1:Exit->Act->World->Prop) (l:Nat) (y:Ctx) (b:Act),Sim w1 F1 K1 as1 (SB ys z) y b->(∀y' b',Sim w1 F1 K1 as1 (SE ys z) y' b' -> Q1 .ret b' y'.w)->Wq P Q1 [.code body] as1 .normal b y.w (some l))
  (rest:stop=none->∀(D:Nat) (y:Ctx),Sim w0 F0 K as (S ys) y a->w0.heap.size<=D->¬y.F D->y.w.heap[D]? = some (.deferred (some []))->Wq P Q k as .normal { a with defers:={ target:=.collected D,args:=#[] } :: a.defers } y.w)
  (restS:∀z,stop=some z->∀(D:Nat) (y:Ctx),Sim w0 F0 K as (B1a (SE ys z)) y a->w0.heap.size<=D->¬y.F D->y.w.heap[D]? = some (.deferred (some []))->Wq P Q (.code .ret::k) as .normal { a with defers:={ target:=.collected D,args:=#[] } :: a.defers } y.w) :
  Wq P Q (.code (.rangeFunc g ps assign body)::k) as .normal a x.w:=by
 refine ⟨?_⟩
 show (Code.rangeFunc g ps assign body).wpIn (G6 (L8 none k)) 0 P (wpK P Q none k as) a x.w;have hro:L8 none k=none:=by unfold L8;rw[hk];rfl
 rw[hro];have hev:a.eval g = .func (.func gf) #[] (caps.map fun c=>Value.pointer (some ⟨x.β c.1,c.2,none⟩)).toArray:=by
  have hd:=A5f hs.t g;have hg0:σ.ev g = .v (.c (.clo gf caps)):=by
   obtain ⟨n,hn⟩:=h0;rw[hn];exact hg []
  rw[hg0] at hd;exact (B6d hd).2
 refine wpIn_rangeFunc fun fn _=>?_
 let lb:=(caps.map fun c=>Value.pointer (some ⟨x.β c.1,c.2,none⟩)).toArray
 obtain ⟨B,hB⟩:∃B,B=x.w.heap.size:=⟨_,rfl⟩
 obtain ⟨rec,hrec⟩:∃rec:LoopState->Option Code->Loop,rec=fun st pe=>{ state:=st,pending:=pe,fn,tmps:=a.tmps,params:=ps,assign,body,defers:=B }:=⟨_,rfl⟩
 obtain ⟨W1,hW1⟩:∃W1,(x.w.alloc (.deferred (some []))).alloc (.loop (rec .ready none))=W1:=⟨_,rfl⟩
 have hL1:W1.heap[B+1]? = some (.loop (rec .ready none)):=by
  rw[<-hW1,hB];have:=World.alloc_heap_new (x.w.alloc (.deferred (some []))) (.loop (rec .ready none));rwa [World.size_alloc] at this
 have hK1:W1.heap[B]? = some (.deferred (some [])):=by
  rw[<-hW1,hB];exact (Go.RowKit.Below.heap_alloc _ _ _ (by simp)).trans (World.alloc_heap_new x.w _)
 have hsz:w0.heap.size<=B:=by rw[hB];exact hs.base.size
 have hb0:Bt w0 F0 K as a B (S []) x.w x:=by
  obtain ⟨n,hn⟩:=h0;refine ⟨rfl,?_,fun b hb=>.inl (by rw[hB];exact hs.mem.fw b hb)⟩
  rw[hn] at hs;exact hs.nx (S []).nx
 have hb1:∃y,Bt w0 F0 K as a B (S []) W1 y:=by
  rw[<-hW1];exact ⟨_,(hb0.grow (World.grownBy_alloc _ _ none)).grow (World.grownBy_alloc _ _ none)⟩
 refine ⟨B+1,[{ target:=.collected B,args:=#[] }],W1,{ target:=.fn (.func gf) lb,args:=#[.func (.yield (B+1)) #[] #[]] },W1,gf,#[.func (.yield (B+1)) #[] #[]]++lb,W1,?_,?_,?_,?_,W0 none 0,?_⟩
 ·rw[<-hW1,hrec,hB];exact run_enterLoop_outer _ _ _ _ _
 ·simp only[resolve,hev]
  simp [go_sem]
  rfl
 ·intro f' _;exact trivial
 ·simp [invoke,go_sem]
  exact eg _ _
 ·refine C4n none ((iter (B+1) (fun s W=>(∃y,Bt w0 F0 K as a B (S s) W y)∧W.heap[B+1]? = some (.loop (rec .ready none))∧W.heap[B]? = some (.deferred (some []))) (fun W=>(stop=none->(∃y,Bt w0 F0 K as a B (S ys) W y)∧W.heap[B+1]? = some (.loop (rec .ready none))∧W.heap[B]? = some (.deferred (some [])))∧∀z,stop=some z->(∃y,Bt w0 F0 K as a B (B1a (SE ys z)) W y)∧W.heap[B+1]? = some (.loop (rec .done (some .ret)))∧W.heap[B]? = some (.deferred (some []))) W1 ?_ ?_ ?_ ?_ ?_ (fun h W hW=>⟨fun _=>hW,fun z hz=>by rw[h] at hz;cases hz⟩) ⟨hb1,hL1,hK1⟩).mono ?_)
  ·rintro s W W' ⟨⟨y,hy⟩,hl,hd⟩ hgr
   have hkeep:∀{j:Nat} {o:Obj},W.heap[j]? = some o->W'.heap[j]? = some o:=fun h=>(hgr.block _ (Array.getElem?_eq_some_iff.1 h).1 (fun e=>by cases e)).trans h
   exact ⟨⟨_,hy.grow hgr⟩,hkeep hl,hkeep hd⟩
  ·rintro W W' ⟨h1,h2⟩ hgr
   have hkeep:∀{j:Nat} {o:Obj},W.heap[j]? = some o->W'.heap[j]? = some o:=fun h=>(hgr.block _ (Array.getElem?_eq_some_iff.1 h).1 (fun e=>by cases e)).trans h
   refine ⟨fun e=>?_,fun z e=>?_⟩
   ·obtain ⟨⟨y,hy⟩,hl,hd⟩:=h1 e
    exact ⟨⟨_,hy.grow hgr⟩,hkeep hl,hkeep hd⟩
   ·obtain ⟨⟨y,hy⟩,hl,hd⟩:=h2 z e
    exact ⟨⟨_,hy.grow hgr⟩,hkeep hl,hkeep hd⟩
  ·rintro s W ⟨⟨y,rfl,hy,hf⟩,_,_⟩
   refine ⟨y,rfl,hy.base,hy.mem,?_⟩
   have hd:=A5f hy.t g;rw[hg s] at hd;obtain ⟨h1,h2⟩:=B6d hd;rw[hev] at h2;exact C1y h1 h2
  ·rintro pre z W ⟨⟨y,hy⟩,hl,hd⟩ hpre
   have hyr:=run_yield (P:=P) (args:=(encs z).toArray) hl (by rw[hrec];simpa using (hps z).symm)
   rw[hrec] at hyr;have hin:=hy.into (henc y z) (hps z) (hpt pre);have hWs:B+2<=W.heap.size:=(Array.getElem?_eq_some_iff.1 hl).1;refine ⟨fn,_,assign,body,hyr,roundIn_of_wpIn trivial ?_⟩
   have hyw:=hy.w;rw[<-hyw];refine (hassign pre z (by obtain ⟨t,ht⟩:=hpre;exact ⟨t++stop.toList,by rw[ht];simp⟩) y.w y.F (A1z y K K.ds) (a::as) _ (B+1) y _ hin.sim.own fun y' b' hs' => ?_).wp
   have hb2:=hin.step hWs hs';have hl2:=N8 hy.sim.mem hs'.base (by rw[hyw];exact hl) rfl
   have hd2:=N8 hy.sim.mem hs'.base (by rw[hyw];exact hd) rfl
   obtain ⟨W3,hW3⟩:∃W3,W3=y'.w.putObj (B+1) (.loop (rec .busy none)):=⟨_,rfl⟩
   have hWs2:B+2<=y'.w.heap.size:=(Array.getElem?_eq_some_iff.1 hl2).1;obtain ⟨y3,hb3⟩:∃y3,Bt w0 F0 K (a::as) b' B (SB pre z) W3 y3:=by rw[hW3];exact ⟨_,hb2.put hsz _ hl2 rfl⟩
   have hl3:W3.heap[B+1]? = some (.loop (rec .busy none)):=by rw[hW3];exact World.putObj_heap_same (by omega)
   have hd3:W3.heap[B]? = some (.deferred (some [])):=by rw[hW3];exact (World.putObj_heap_other (by omega)).trans hd2
   have hWs3:B+2<=W3.heap.size:=(Array.getElem?_eq_some_iff.1 hl3).1;have hbeg:=run_beginRound (P:=P) hl2 (by rw[hrec])
   have hrb:({ rec .ready none with state:=.busy }:Loop)=rec .busy none:=by rw[hrec]
   rw[hrb,<-hW3] at hbeg;refine ⟨W3,hbeg,?_⟩
   have hyw3:=hb3.w;rw[<-hyw3];refine (hbody pre z hpre y3.w y3.F (A1z y3 K K.ds) (a::as) _ (B+1) y3 b' hb3.sim.own fun y4 b4 hs4=>?_).wp
   have hb4:=(hb3.step (b:=b4) hWs3 hs4).out;obtain ⟨n4,hn4⟩:=hSE pre z hpre;have hl4:=N8 hb3.sim.mem hs4.base (by rw[hyw3];exact hl3) rfl
   have hd4:=N8 hb3.sim.mem hs4.base (by rw[hyw3];exact hd3) rfl
   have hend:=run_endRound (P:=P) none hl4;have hre:({ rec .busy none with state:=if (none:Option Code).isNone then .ready else .done,pending:=none }:Loop)=rec .ready none:=by rw[hrec];rfl
   rw[hre] at hend;have hb5:Bt w0 F0 K as a B (S (pre++[z])) y4.w y4:=by
    rw[hn4] at hb4;exact ⟨hb4.w,hb4.sim.nx (S (pre++[z])).nx,hb4.fr⟩
   exact ⟨_,_,hend,rfl,⟨_,hb5.put hsz _ hl4 rfl⟩,World.putObj_heap_same (Array.getElem?_eq_some_iff.1 hl4).1,(World.putObj_heap_other (by omega)).trans hd4⟩
  ·rintro z hz W ⟨⟨y,hy⟩,hl,hd⟩
   have hyr:=run_yield (P:=P) (args:=(encs z).toArray) hl (by rw[hrec];simpa using (hps z).symm)
   rw[hrec] at hyr;have hin:=hy.into (henc y z) (hps z) (hpt ys);have hWs:B+2<=W.heap.size:=(Array.getElem?_eq_some_iff.1 hl).1;refine ⟨fn,_,assign,body,hyr,roundIn_of_wpIn trivial ?_⟩
   have hyw:=hy.w;rw[<-hyw];refine (hassign ys z ⟨[],by rw[hz];rfl⟩ y.w y.F (A1z y K K.ds) (a::as) _ (B+1) y _ hin.sim.own fun y' b' hs' => ?_).wp
   have hb2:=hin.step hWs hs';have hl2:=N8 hy.sim.mem hs'.base (by rw[hyw];exact hl) rfl
   have hd2:=N8 hy.sim.mem hs'.base (by rw[hyw];exact hd) rfl
   obtain ⟨W3,hW3⟩:∃W3,W3=y'.w.putObj (B+1) (.loop (rec .busy none)):=⟨_,rfl⟩
   have hWs2:B+2<=y'.w.heap.size:=(Array.getElem?_eq_some_iff.1 hl2).1;obtain ⟨y3,hb3⟩:∃y3,Bt w0 F0 K (a::as) b' B (SB ys z) W3 y3:=by rw[hW3];exact ⟨_,hb2.put hsz _ hl2 rfl⟩
   have hl3:W3.heap[B+1]? = some (.loop (rec .busy none)):=by rw[hW3];exact World.putObj_heap_same (by omega)
   have hd3:W3.heap[B]? = some (.deferred (some [])):=by rw[hW3];exact (World.putObj_heap_other (by omega)).trans hd2
   have hWs3:B+2<=W3.heap.size:=(Array.getElem?_eq_some_iff.1 hl3).1;have hbeg:=run_beginRound (P:=P) hl2 (by rw[hrec])
   have hrb:({ rec .ready none with state:=.busy }:Loop)=rec .busy none:=by rw[hrec]
   rw[hrb,<-hW3] at hbeg;refine ⟨W3,hbeg,?_⟩
   have hyw3:=hb3.w;rw[<-hyw3];refine (hstop z hz y3.w y3.F (A1z y3 K K.ds) (a::as) _ (B+1) y3 b' hb3.sim.own fun y4 b4 hs4=>?_).wp
   have hb4:=(hb3.step (b:=b4) hWs3 hs4).out;have hl4:=N8 hb3.sim.mem hs4.base (by rw[hyw3];exact hl3) rfl
   have hd4:=N8 hb3.sim.mem hs4.base (by rw[hyw3];exact hd3) rfl
   have hend:=run_endRound (P:=P) (some .ret) hl4;have hre:({ rec .busy none with state:=if (some Code.ret:Option Code).isNone then .ready else .done,pending:=some .ret }:Loop)=rec .done (some .ret):=by rw[hrec];rfl
   rw[hre] at hend;refine ⟨_,_,hend,rfl,⟨fun e=>(by rw[hz] at e;cases e),fun z' hz' => ?_⟩⟩
   rw[hz] at hz'
   cases hz'
   exact ⟨⟨_,hb4.put hsz _ hl4 rfl⟩,World.putObj_heap_same (Array.getElem?_eq_some_iff.1 hl4).1,(World.putObj_heap_other (by omega)).trans hd4⟩
  ·rintro e W2 ⟨⟨v,rfl⟩,h1,h2⟩
   cases hst:stop with
   | none=>
    obtain ⟨⟨y,hy⟩,hl,hd⟩:=h1 hst;have hend:=run_endLoop (P:=P) hl (by rw[hrec];simp)
    obtain ⟨W3,hW3⟩:∃W3,W3=W2.putObj (B+1) (.loop { rec .ready none with state:=.exhausted }):=⟨_,rfl⟩
    obtain ⟨y3,hb⟩:∃y3,Bt w0 F0 K as a B (S ys) W3 y3:=by rw[hW3];exact ⟨_,hy.put hsz _ hl rfl⟩
    have hd3:W3.heap[B]? = some (.deferred (some [])):=by rw[hW3];exact (World.putObj_heap_other (by omega)).trans hd
    rw[<-hW3] at hend;have hp:(rec .ready none).pending=none:=by rw[hrec]
    rw[hp] at hend;have hr:=rest hst B y3 hb.sim hsz (fun h=>by have:=hb.fr B h;omega) (by rw[hb.w];exact hd3)
    rw[hb.w] at hr;exact ⟨none,W3,hend,hr.wp⟩

   | some z=>
    obtain ⟨⟨y,hy⟩,hl,hd⟩:=h2 z hst;have hend:=run_endLoop (P:=P) hl (by rw[hrec];simp)
    obtain ⟨W3,hW3⟩:∃W3,W3=W2.putObj (B+1) (.loop { rec .done (some .ret) with state:=.exhausted }):=⟨_,rfl⟩
    obtain ⟨y3,hb⟩:∃y3,Bt w0 F0 K as a B (B1a (SE ys z)) W3 y3:=by rw[hW3];exact ⟨_,hy.put hsz _ hl rfl⟩
    have hd3:W3.heap[B]? = some (.deferred (some [])):=by rw[hW3];exact (World.putObj_heap_other (by omega)).trans hd
    rw[<-hW3] at hend;have hp:(rec .done (some .ret)).pending=some .ret:=by rw[hrec]
    rw[hp] at hend;have hr:=restS z hst B y3 hb.sim hsz (fun h=>by have:=hb.fr B h;omega) (by rw[hb.w];exact hd3)
    rw[hb.w] at hr;refine ⟨some .ret,W3,hend,?_⟩
    have hr:=hr.wp;change (Code.ret).wpIn (G6 (L8 none k)) 0 P (wpK P Q none k as) _ _ at hr
    rw[hro] at hr;exact hr


theorem A9b {α:Type} {g:Operand} {ps:Array Tmp} {assign body:Code} {k:List KI} {gf:Nat} {caps:List (Nat×Nat)} {σ:St}
  (hk:A0f k=false) (hs:Sim w0 F0 K as σ x a)
  (eg:Z6 P gf) (S:List α->St) (hg:∀s,(S s).ev g = .v (.c (.clo gf caps))) (h0:∃n,σ = { S [] with nx:=n }) (xs:List α) (vals:α->List SV) (encs:α->List Value) (henc:∀y z,I0 y (vals z) (encs z)) (hps:∀z,ps.size=(encs z).length)
  (hpt:∀pre,∀p∈ps.toList,p<(S pre).nt) (iter:B6e P x gf caps encs xs fun s=>(S s).m)
  (SB SE:List α->α->St) (hSE:∀pre z,∃n,B1a (SE pre z) = { S (pre++[z]) with nx:=n })
  (hassign:∀pre z,(∃t,xs=pre++z::t)->∀(w1:World) (F1:Nat->Prop) (K1:Kp) (as1:List Act) (Q1:Exit->Act->World->Prop) (l:Nat) (y:Ctx) (b:Act),Sim w1 F1 K1 as1 (Y8 (S pre) (ps.toList.zip (vals z))) y b->(∀y' b',Sim w1 F1 K1 as1 (SB pre z) y' b' -> Q1 .normal b' y'.w)->Wq P Q1 [.code assign] as1 .normal b y.w (some l))
  (hbody:∀pre z,(∃t,xs=pre++z::t)->∀(w1:World) (F1:Nat->Prop) (K1:Kp) (as1:List Act) (Q1:Exit->Act->World->Prop) (l:Nat) (y:Ctx) (b:Act),Sim w1 F1 K1 as1 (SB pre z) y b->(∀y' b',Sim w1 F1 K1 as1 (SE pre z) y' b' -> Q1 .normal b' y'.w)->Wq P Q1 [.code body] as1 .normal b y.w (some l))
  (rest:∀(D:Nat) (y:Ctx),Sim w0 F0 K as (S xs) y a->w0.heap.size<=D->¬y.F D->y.w.heap[D]? = some (.deferred (some []))->Wq P Q k as .normal { a with defers:={ target:=.collected D,args:=#[] } :: a.defers } y.w) :
  Wq P Q (.code (.rangeFunc g ps assign body)::k) as .normal a x.w:=
 D0z hk hs eg S hg h0 xs none vals encs henc hps hpt iter.toX SB SE (fun pre z _=>hSE pre z) (fun pre z h=>hassign pre z (by simpa using h)) hbody (fun z h=>by cases h) (fun _=>rest) (fun z h=>by cases h)

/-- Behind the loop: the activation bears the mark of the loop's deferred calls. -/
def A1h (D:Nat):List Deferred:=[{ target:=.collected D,args:=#[] }]

theorem Sim.marked (h:Sim w0 F0 K as σ x a) (hfr:σ.fr=[]) (hds:K.ds=[]) (D:Nat):Sim x.w x.F (A1z x K (A1h D)) as σ x { a with defers:={ target:=.collected D,args:=#[] } :: a.defers }:=by
 have hd:=h.defers;have hf:=h.frs;rw[hfr] at hd hf;rw[hds] at hd;refine ⟨?_,h.nt,h.t,h.mem,h.base.own (A1h D),?_⟩
 ·rw[hfr]
  show _::a.defers=A1h D;rw[hd];rfl
 ·rw[hfr]
  cases hf
  exact .nil

/-- At the end of such a function: the mark is taken up; what is known of the blocks is as it was. -/
theorem Sim.unmark {D:Nat} {σ2:St} {as' : List Act} {z:Ctx} {b:Act} (h:Sim w0 F0 K as σ x a) (hds:K.ds=[]) (hD:w0.heap.size<=D) (hF:¬x.F D) (hd:x.w.heap[D]? = some (.deferred (some []))) (hfr:σ2.fr=[])
  (g:Sim x.w x.F (A1z x K (A1h D)) as' σ2 z b):b.defers=A1h D∧z.w.heap[D]? = some (.deferred (some []))∧Sim w0 F0 K as' σ2 { z with w:=z.w.putObj D (.deferred none) } { b with defers:=[] }:=by
 have hz:=N8 h.mem g.base hd rfl;have hlt:D<x.w.heap.size:=(Array.getElem?_eq_some_iff.1 hd).1;have hb:=g.defers;have hf:=g.frs;rw[hfr] at hb hf;refine ⟨hb,hz,?_⟩
 have hs:Sim w0 F0 K as' σ2 z { b with defers:=[] }:=by
  refine ⟨?_,g.nt,g.t,g.mem,h.base.trans g.base,?_⟩
  ·rw[hfr,hds];rfl
  ·rw[hfr]
   cases hf
   exact .nil
 refine hs.world rfl rfl rfl (by simp) (fun c hc=>World.putObj_heap_other ?_) (fun p hp=>World.putObj_heap_other ?_) (fun c hc _=>World.putObj_heap_other ?_)
 ·intro e
  subst e;rcases g.base.fn c hc with h1 | h1
  ·exact hF h1
  ·omega
 ·intro e
  cases hm:σ2.m p with
  | none=>rw[(g.mem.dom p).1 hm] at hp;cases hp
  | some en=>
   obtain ⟨cs,ty,hc,_⟩:=g.mem.ent p en hm hp;rw[e,hz] at hc
   cases hc
 ·omega

/-- What the body of a function must achieve, if it holds a range over a function. -/
theorem B7l {fn:Func} {R:Ending->World->Prop} {D:Nat} {e:Exit} {w:World} (hd:a.defers=A1h D) (hh:w.heap[D]? = some (.deferred (some []))) (he:e = .ret∨e = .normal)
  (h:bodyPost P fn R e { a with defers:=[] } (w.putObj D (.deferred none))):bodyPostM Fence.wide 0 P fn R e a w:=by
 have key:LeavesInM Fence.wide 0 P fn a.tmps R a.defers .returning w:=by
  rw[hd];refine ⟨by simp,.inl ⟨_,_,rfl,run_takeDeferred hh,?_⟩⟩
  rcases he with rfl | rfl
  ·obtain ⟨_,v,hv,hR⟩:=h
   exact ⟨v,hv,hR⟩
  ·obtain ⟨_,v,hv,hR⟩:=h
   exact ⟨v,hv,hR⟩
 rcases he with rfl | rfl<;>exact key

theorem A9u {f:FuncId} {fn:Func} {c:Code} {args:Array Value} {w:World} {R:Ending->World->Prop} (hf:P.funcs[f]? = some fn) (hb:fn.body=some c)
  (h:Wq P (bodyPostM Fence.wide 0 P fn R) [.code c] [] .normal { tmps:=args++Array.replicate (fn.ntmps-args.size) undef,defers:=[] } w):Calls P f args w R:=
 (callsIn_wide (n:=0)).1 (callsIn_of_wp_marks hf hb trivial h.wp rfl)

/-- A call of yield. -/
theorem D6c {ops:Array Oper} {i:Nat} {dec:List (Nat×Bool)} {k:List KI} {o:Oper} {c:Call} {f:Operand} {l:Nat} {w:World} {R:World->Prop} {ans:Bool} (hk:A0f k=false) (hi:ops[i]? = some o) (hw:Region.wanted o (yielded ops a.tmps)=true)
  (hop:o.op = .call c) (hcal:c.callee = .value f) (hf:a.eval f = .func (.yield l) #[] #[])
  (hy:YieldAt Fence.wide 0 P l (c.args.map a.eval) w fun e W' => e = .returned (.bool ans)∧R W') (hK:∀W',R W' -> Wq P Q (.ops ops (i+1) dec::k) as .normal (a.put o.dst (.bool ans)) W'):Wq P Q (.ops ops i dec::k) as .normal a w:=by
 refine ⟨?_⟩
 have hro:L8 none k=none:=by unfold L8;rw[hk];rfl
 show wpOpsIn (G6 (L8 none k)) 0 P ops (wpK P Q none k as) (List.range' i (ops.size-i)) a w;have hlt:i<ops.size:=(Array.getElem?_eq_some_iff.1 hi).1;rw[show ops.size-i=(ops.size-(i+1))+1 from by omega,List.range'_succ,wpOpsIn_cons]
 unfold wpOpIn;simp only[hi,hw,if_true];rw[hro];obtain ⟨fn,tmps,assign,body,hyr,hR⟩:=hy;have hrun:(execOp a.eval o).run P w = .ok (.round l fn tmps assign body) w:=by
  simp only[execOp,hop,resolve,hcal,Deferred.ofValue,hf,Sem.run_bind,Sem.run_pure,Result.andThen_ok,invoke];simpa using hyr
 refine ⟨fun g _=>trivial,?_⟩
 rw[Oper.semAt_eq _ _ _ (fun d hd=>by rw[hop] at hd;cases hd),hrun]
 refine ⟨W0 none 0,hR.mono fun e W' h=>?_⟩
 obtain ⟨rfl,hr⟩:=h;have:=(hK W' hr).wp
 have h2:wpOpsIn (G6 (L8 none k)) 0 P ops (wpK P Q none k as) (List.range' (i+1) (ops.size-(i+1))) (a.put o.dst (.bool ans)) W' := this;rw[hro] at h2;exact h2

end
end

end
end Go.Proofs.Ytifiiigbedjceaa
