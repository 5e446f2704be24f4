/- Parts of a proof, one behind the other: FwR, FwS, FwT, FwT6, FwT7, FwU, FwV, FwW, FwX, FwY, FwZ, Wk, Rg, Mu, Ri, Rj, Lm, Mm, L6, Dg, Jt, Eo, Fz. No conditions. -/
import Derived.Orders
import Derived.Test.YtefimjofjjdndaaGreatKoH
open Go.IntKind (wrap)
namespace Go.Proofs.YtefimjofjjdndaaGreat
noncomputable section
section

theorem A2l {env:Env} {ρ ρ' : Operand->SV} {m:Nat->Option En} {p:Nat} {o:Oper} (h:∀x∈o.op.operands,ρ x=ρ' x):L8 env ρ m p o=L8 env ρ' m p o:=by
 have B7c:∀ps:Array (Nat×Operand),(∀x∈ps.map (·.2),ρ x=ρ' x)->(ps.toList.map fun (x:Nat×Operand)=>(x.1,ρ x.2))=(ps.toList.map fun (x:Nat×Operand)=>(x.1,ρ' x.2)):=fun ps hp=>
  List.map_congr_left fun q hm=>by
   rw[hp q.2 (Array.mem_map.2 ⟨q,Array.mem_toList_iff.1 hm,rfl⟩)]
 have lst:∀ps:Array Operand,(∀x∈ps,ρ x=ρ' x)->ps.toList.map ρ=ps.toList.map ρ' := fun ps hp=>
  List.map_congr_left fun q hm=>hp q (Array.mem_toList_iff.1 hm)
 obtain ⟨dst,op,type,pos,after,guard⟩:=o;unfold L8
 cases op<;>simp only[Op.operands] at h<;>try simp only[]
 case build t ps=>rw[B7c ps fun x hx=>h x (by simpa using hx)]
 case buildSlice t n ps=>rw[B7c ps fun x hx=>h x (by simpa using hx)]
 case makeFunc fn first caps=>rw[lst caps fun x hx=>h x (by simp [hx])]
 case slice t x lo hi mx=>cases lo<;>cases hi<;>cases mx<;>simp_all
 case call c=>
  have ha:c.args.toList.map ρ=c.args.toList.map ρ' := lst c.args fun x hx=>h x (by simp [Call.operands,hx])
  cases hc:c.callee with
  | value f=>
   have hf:ρ f=ρ' f:=h f (by simp [Call.operands,hc])
   simp only[hf,ha]
  | invoke r m=>
   have hf:ρ r=ρ' r:=h r (by simp [Call.operands,hc])
   simp only[hf,ha]
  | builtin b=>
   simp only[ha]
   cases b<;>try simp only[]
   case append=>
    have nope:∀(f g:Operand->Operand->Nat->Option Res) (l:List Operand),(∀s x,l≠[s,x])->(match c.argTypes.toList,l with
      | [t,t'],[s,x]=>if t=t' then f s x t else none
      | _,_=>none)=(match c.argTypes.toList,l with
      | [t,t'],[s,x]=>if t=t' then g s x t else none
      | _,_=>none):=by
     intro f g l hl;split
     ·rename_i s x _;exact absurd rfl (hl s x)
     ·rfl
    cases hl:c.args.toList with
    | nil=>exact nope (fun s x t=>_) (fun s x t=>_) [] (by simp)
    | cons s l=>
     cases l with
     | nil=>exact nope (fun s x t=>_) (fun s x t=>_) [s] (by simp)
     | cons x l=>
      cases l with
      | cons y l=>exact nope (fun s x t=>_) (fun s x t=>_) (s::x::y::l) (by simp)
      | nil=>
       have h1:ρ s=ρ' s:=h s (by simp [Call.operands,hc];exact Array.mem_toList_iff.1 (by rw[hl];simp))
       have h2:ρ x=ρ' x:=h x (by simp [Call.operands,hc];exact Array.mem_toList_iff.1 (by rw[hl];simp))
       cases c.argTypes.toList with
       | nil=>rfl
       | cons t r=>
        cases r with
        | nil=>rfl
        | cons t' r=>
         cases r with
         | nil=>simp only[h1,h2]
         | cons _ _=>rfl
 all_goals (first | rfl | (simp_all;done) | skip)

end

section

def A0q (k:Nat):Bool:=k == 1 || k == 3 || k == 5 || k == 6

theorem E8n:∀a b:Fin 6,F3i a.val b.val=false->a.val≠4∧b.val≠4∧(A0q b.val=true->a.val≠3)∧(A0q a.val=true->b.val≠3):=by decide

theorem B9r {a b:Nat} (ha:a<=5) (hb:b<=5) (h:F3i a b=false):a≠4∧b≠4∧(A0q b=true->a≠3)∧(A0q a=true->b≠3):=
 E8n ⟨a,by omega⟩ ⟨b,by omega⟩ h

theorem A2e {f g:Option (List Nat)} (h:C8n f g=true) (q:Nat) (h1:A5u f q=true) (h2:A5u g q=true):False:=by
 cases f with
 | none=>cases h
 | some a=>
  cases g with
  | none=>cases h
  | some b=>
   have mem:∀l:List Nat,B2r q l=true->q∈l:=by
    intro l;induction l with
    | nil=>intro h;cases h
    | cons r l ih=>
     intro h;simp only[B2r] at h;split at h
     ·rename_i e;subst e;exact List.mem_cons_self
     ·exact List.mem_cons_of_mem _ (ih h)
   have:=List.all_eq_true.1 h q (mem a h1)
   have h2:B2r q b=true:=h2;rw[h2] at this
   cases this

theorem B6p {a b:Nat} {f g:Option (List Nat)} (ha:a<=5) (hb:b<=5) (h:B9q a b f g=false):a≠4∧b≠4∧(A0q b=true->a=3->C8n f g=true)∧(A0q a=true->b=3->C8n f g=true):=by
 have na:Nat.beq a 6=false:=by
  cases h6:Nat.beq a 6 with
  | false=>rfl
  | true=>have:=Nat.eq_of_beq_eq_true h6;omega
 have nb:Nat.beq b 6=false:=by
  cases h6:Nat.beq b 6 with
  | false=>rfl
  | true=>have:=Nat.eq_of_beq_eq_true h6;omega
 simp only[B9q,na,nb,Bool.false_eq_true,if_false,Bool.or_eq_false_iff,Bool.and_eq_false_iff,Bool.not_eq_false'] at h;obtain ⟨⟨h1,h2⟩,h3⟩:=h;have n1:a≠4:=fun e=>by subst e;cases h1
 have n2:b≠4:=fun e=>by subst e;cases h2
 refine ⟨n1,n2,fun hr h3' => ?_,fun hr h3' => ?_⟩
 ·rcases h3 with h3 | h3
  ·exact absurd h3' ((B9r ha hb h3).2.2.1 hr)
  ·exact h3
 ·rcases h3 with h3 | h3
  ·exact absurd h3' ((B9r ha hb h3).2.2.2 hr)
  ·exact h3

theorem D3c {m:Nat->Option En} {s x:SV} {i:TyI} {o:List Prop} {ups:List (Nat×En)} (h:A6u m s x i=some (o,ups)):∀q e,(q,e)∈ups->m q≠none:=by
 have one:∀{p:Nat} {e0 e1:En},m p=some e0->∀q e,(q,e)∈[(p,e1)]->m q≠none:=by
  intro p e0 e1 hp q e hq;simp only[List.mem_cons,List.not_mem_nil,or_false,Prod.mk.injEq] at hq;rw[hq.1,hp];simp
 unfold A6u at h;split at h
 ·split at h
  ·split at h
   ·split at h
    ·rename_i l hl
     simp only[Option.map_eq_some_iff] at h;obtain ⟨r,_,he⟩:=h;simp only[Prod.mk.injEq] at he;obtain ⟨rfl,rfl⟩:=he;exact one hl
    ·rename_i q hq
     split at h
     ·simp only[Option.map_eq_some_iff] at h
      obtain ⟨r,_,he⟩:=h;simp only[Prod.mk.injEq] at he;obtain ⟨rfl,rfl⟩:=he;exact one hq
     ·cases h
    ·cases h
   ·split at h
    ·rename_i q hq
     split at h
     ·split at h
      ·simp only[Option.map_eq_some_iff] at h
       obtain ⟨r,_,he⟩:=h;simp only[Prod.mk.injEq] at he;obtain ⟨rfl,rfl⟩:=he;exact one hq
      ·cases h
     ·cases h
    ·cases h
   ·cases h
  ·cases h
 ·cases h

section
variable {env:Env} {ρ:Operand->SV} {m:Nat->Option En} {p:Nat} {o:Oper} {r:Res}

theorem F8c (env:Env) (o:Oper):F7 env o<=6:=by
 unfold F7;split<;>(try decide)<;>(split<;>(try decide)<;>(split<;>(try decide)<;>(split<;>decide)))

theorem B8f {env:Env} {o:Oper} (h:F7 env o≠6):F7 env o<=5:=by have:=F8c env o;omega

/-- Only operations that read look at memory. -/
theorem C2t (hρ:∀f,ρ (.func f) = .v (.c (.clo f []))) (m' : Nat->Option En) (h:A0q (F7 env o)=false) (h4:F7 env o≠4):L8 env ρ m p o=L8 env ρ m' p o:=by
 unfold F7 at h h4;unfold L8
 cases hop:o.op<;>simp only[hop] at h h4 ⊢<;>try (first | rfl | (exact absurd rfl h4) | (cases h;done))
 case convert src dst v=>
  cases hs:env.ty src with
  | none=>rfl
  | some j=>
   simp only[hs] at h ⊢
   cases hj:j.slc with
   | none=>cases env.ty dst<;>simp only[hj]
   | some e=>simp only[hj] at h;cases h
 case call c=>
  cases hc:c.callee with
  | builtin b=>
   simp only[hc] at h h4 ⊢
   cases b<;>first | rfl | exact absurd rfl h4 | (cases h;done)
  | invoke _ _=>simp only[hc] at h;cases h
  | value f=>
   simp only[hc] at h h4
   cases f with
   | func g=>
    simp only at h h4
    cases hx:env.ex g with
    | some k=>simp only[hρ,hx]
    | none=>
     cases hg:env.fn g with
     | none=>simp only[hx,hg] at h4;exact absurd rfl h4
     | some s=>simp only[hx,hg] at h;cases h
   | tmp t=>cases h
   | const v=>cases h
   | global g=>cases h

theorem C7h:∀(es:List En) (p q:Nat) (e:En),(q,e)∈F9 p es->p<=q
 | [],_,_,_,h=>by cases h
 | _::es,p,q,e,h=>by
  simp only[F9,List.mem_cons,Prod.mk.injEq] at h;rcases h with ⟨rfl,_⟩ | h
  ·exact Nat.le_refl _
  ·have:=C7h es (p+1) q e h;omega

theorem C7p {i:It} (h:pureV i=some r):r.ups=[]∧r.kill=none:=by cases h;exact ⟨rfl,rfl⟩
theorem F1m {x:Option (List Prop×It)} (h:B7j x=some r):r.ups=[]∧r.kill=none:=by
 obtain ⟨_,_,_,rfl⟩:=Z7 h;exact ⟨rfl,rfl⟩

/-- What is written: new blocks, or, by a store, what is seen. -/
theorem B5k (hρ:∀f,ρ (.func f) = .v (.c (.clo f []))) (h:L8 env ρ m p o=some r) (h4:F7 env o≠4) (h6:F7 env o≠6) :
  r.kill=none∧(F7 env o≠3->∀q e,(q,e)∈r.ups->p<=q)∧(F7 env o=3->∀q e,(q,e)∈r.ups->m q≠none):=by
 have fin0:r.ups=[]∧r.kill=none->r.kill=none∧(F7 env o≠3->∀q e,(q,e)∈r.ups->p<=q)∧(F7 env o=3->∀q e,(q,e)∈r.ups->m q≠none):=by
  rintro ⟨h1,h2⟩
  exact ⟨h2,fun _ q e hq=>(by rw[h1] at hq;cases hq),fun _ q e hq=>(by rw[h1] at hq;cases hq)⟩
 have fin1:F7 env o≠3->(∃e,r.ups=[(p,e)])∧r.kill=none->r.kill=none∧(F7 env o≠3->∀q e,(q,e)∈r.ups->p<=q)∧(F7 env o=3->∀q e,(q,e)∈r.ups->m q≠none):=by
  rintro hne ⟨⟨e0,h1⟩,h2⟩
  refine ⟨h2,fun _ q e hq=>?_,fun h3=>absurd h3 hne⟩
  rw[h1] at hq;simp only[List.mem_cons,List.not_mem_nil,or_false,Prod.mk.injEq] at hq;omega
 unfold L8 at h
 cases hop:o.op<;>simp only[hop] at h
 case store t ad v=>
  have h3:F7 env o=3:=by simp [F7,hop]
  split at h
  ·split at h
   ·rename_i ob ups hs
    cases h
    exact ⟨rfl,fun hne=>absurd h3 hne,fun _=>D3c hs⟩
   ·cases h
  ·cases h
 case call c=>
  have key:∀{g:Nat} {args:List SV} {s:B2},env.fn g=some s->F7 env o≠3->A1a env m p g args=some r->r.kill=none∧(F7 env o≠3->∀q e,(q,e)∈r.ups->p<=q)∧(F7 env o=3->∀q e,(q,e)∈r.ups->m q≠none):=by
   intro g args s hg hne hr;unfold A1a at hr;simp only[hg] at hr;repeat' split at hr
   all_goals first
    | (cases hr;done)
    | (cases hr;exact ⟨rfl,fun _ q e hq=>C7h _ p q e hq,fun h3=>absurd h3 hne⟩)
  have key2:∀{f:Operand} {g:Nat} {args:List SV},F7 env o≠3->(∀g,f ≠ .func g)->B9h env m p f g args=some r->r.kill=none∧(F7 env o≠3->∀q e,(q,e)∈r.ups->p<=q)∧(F7 env o=3->∀q e,(q,e)∈r.ups->m q≠none):=by
   intro f g args hne hf hr;unfold B9h at hr;split at hr
   ·rename_i g2
    exact absurd rfl (hf g2)
   ·split at hr
    ·rename_i hs
     exact key hs hne hr
    ·cases hr
  cases hc:c.callee with
  | invoke f name=>
   have hne:F7 env o≠3:=by simp [F7,hop,hc]
   simp only[hc] at h;unfold D0i at h;split at h
   ·split at h
    ·split at h
     ·split at h
      ·rename_i hs;exact key hs hne h
      ·cases h
     ·cases h
    ·cases h
   ·cases h
  | builtin b=>
   simp only[hc] at h
   cases b<;>simp only[] at h<;>try (first | (cases h;done) | (exfalso;apply h4;simp [F7,hop,hc];done) | (exfalso;apply h6;simp [F7,hop,hc];done))
   all_goals
    repeat' split at h
    all_goals first | (cases h;done) | exact fin0 (C7p h)
  | value f=>
   cases f with
   | func g=>
    cases hx:env.ex g with
    | some k=>
     simp only[hc,hρ,hx] at h;unfold C0i at h;split at h
     ·cases h;exact fin0 ⟨rfl,rfl⟩
     ·cases h
    | none=>
     cases hg:env.fn g with
     | none=>exfalso;apply h4;simp [F7,hop,hc,hx,hg]
     | some s=>
      have hne:F7 env o≠3:=by simp [F7,hop,hc,hx,hg]
      simp only[hc,hρ,hx,B9h] at h;exact key hg hne h
   | tmp t=>
    have hne:F7 env o≠3:=by simp [F7,hop,hc]
    simp only[hc] at h;split at h
    ·split at h
     ·unfold C0i at h
      split at h
      ·cases h;exact fin0 ⟨rfl,rfl⟩
      ·cases h
     ·exact key2 hne (fun g=>by simp) h
    ·exact key2 hne (fun g=>by simp) h
    ·cases h
   | const v=>
    have hne:F7 env o≠3:=by simp [F7,hop,hc]
    simp only[hc] at h;split at h
    ·split at h
     ·unfold C0i at h
      split at h
      ·cases h;exact fin0 ⟨rfl,rfl⟩
      ·cases h
     ·exact key2 hne (fun g=>by simp) h
    ·exact key2 hne (fun g=>by simp) h
    ·cases h
   | global g=>
    have hne:F7 env o≠3:=by simp [F7,hop,hc]
    simp only[hc] at h;split at h
    ·split at h
     ·unfold C0i at h
      split at h
      ·cases h;exact fin0 ⟨rfl,rfl⟩
      ·cases h
     ·exact key2 hne (fun g=>by simp) h
    ·exact key2 hne (fun g=>by simp) h
    ·cases h
 all_goals
  repeat' split at h
  all_goals first
   | (cases h;done)
   | exact fin0 (C7p h)
   | exact fin0 (F1m h)
   | (cases h;exact fin0 ⟨rfl,rfl⟩)
   | (cases h;exact fin1 (by simp [F7,hop]) ⟨⟨_,rfl⟩,rfl⟩)

end

/-! One operation, as what it turns. -/
def L0 (ops:List Oper) (o:Oper) (t:Nat->SV):Option Bool:=
 match o.guard with
 | none=>some true
 | some (j,want)=>match (ops[j]?).bind (·.dst) with
  | none=>none
  | some d=>match t d with
   | .v (.c (.lit b))=>some (b == want)
   | .t []=>some false
   | _=>none

def B3o (t:Nat->SV):Option Nat->SV->Nat->SV
 | none,_=>t
 | some d,s=>Q8 t d s

def U7 (σ:St) (dst:Option Nat) (s:SV) (ups:List (Nat×En)):St:={ σ with t:=B3o σ.t dst s,m:=G6 σ.m ups }

def I8 (al:Nat->Bool) (m:Nat->Option En):Nat->Option En:=fun q=>if al q then m q else none

inductive A5a (env:Env) (al:Nat->Bool) (dec:List (Nat×Bool)) (ops:List Oper) (p:Nat) (o:Oper) (σ:St):List Prop->SV->List (Nat×En)->Prop
 | skip:L0 ops o σ.t=some false->(∀d,o.dst=some d->d<σ.nt)->A5a env al dec ops p o σ [] (.t []) []
 | plain (r:Res):L0 ops o σ.t=some true->o.dst=none->L8 env σ.ev (I8 al σ.m) p o=some r->r.kill=none->Y4 al σ.m p r.ups=true->A5a env al dec ops p o σ r.obl .top r.ups
 | dst (r:Res) (d:Nat) (ob:List Prop) (s:SV):L0 ops o σ.t=some true->o.dst=some d->d<σ.nt->L8 env σ.ev (I8 al σ.m) p o=some r->r.kill=none->Y4 al σ.m p r.ups=true->A1b dec d r.val=(ob,s)->A5a env al dec ops p o σ (ob++r.obl) s r.ups

theorem B5l (env:Env) (al:Nat->Bool) (dec:List (Nat×Bool)) (ops:List Oper) (p:Nat) (o:Oper) (σ:St):A4n env al dec ops p o σ =
  match L0 ops o σ.t with
  | some true=>F0b env al dec p o σ
  | some false=>(match o.dst with
   | some e=>if e<σ.nt then some ([],{ σ with t:=Q8 σ.t e (.t []) }) else none
   | none=>some ([],σ))
  | none=>none:=rfl

theorem A8a (m:Nat->Option En):G6 m []=m:=rfl

theorem B7a {env:Env} {al:Nat->Bool} {dec:List (Nat×Bool)} {ops:List Oper} {p:Nat} {o:Oper} {σ σ' : St} {ob:List Prop} (h4:F7 env o≠4) (h6:F7 env o≠6) (h:A4n env al dec ops p o σ=some (ob,σ')) :
  ∃s ups,A5a env al dec ops p o σ ob s ups∧σ' = U7 σ o.dst s ups:=by
 rw[B5l] at h;split at h
 ·rename_i hw
  unfold F0b at h;split at h
  ·cases h
  ·rename_i r hr
   obtain ⟨hk,_⟩:=B5k (fun f=>rfl) hr h4 h6
   split at h
   ·rename_i hups
    simp only[Bool.and_eq_true] at hups;obtain ⟨_,hups⟩:=hups;split at h
    ·rename_i hd
     cases h
     refine ⟨.top,r.ups,.plain r hw hd hr hk hups,?_⟩
     simp only[U7,hd,B3o,hk,A8k,S8,B2l]
    ·rename_i d hd
     split at h
     ·rename_i hlt
      cases hdv:A1b dec d r.val with
      | mk o' v=>
       simp only[hdv] at h
       cases h
       refine ⟨v,r.ups,.dst r d o' v hw hd hlt hr hk hups hdv,?_⟩
       simp only[U7,hd,B3o,hk,A8k,S8,B2l]
     ·cases h
   ·cases h
 ·rename_i hw
  split at h
  ·rename_i e he
   split at h
   ·rename_i hlt
    cases h
    exact ⟨.t [],[],.skip hw (fun d hd=>by rw[he] at hd;cases hd;exact hlt),by simp only[U7,he,B3o,A8a]⟩
   ·cases h
  ·rename_i he
   cases h
   exact ⟨.t [],[],.skip hw (fun d hd=>by rw[he] at hd;cases hd),by simp only[U7,he,B3o,A8a]⟩
 ·cases h

theorem B6s {env:Env} {al:Nat->Bool} {dec:List (Nat×Bool)} {ops:List Oper} {p:Nat} {o:Oper} {σ:St} {ob:List Prop} {s:SV} {ups:List (Nat×En)} (h:A5a env al dec ops p o σ ob s ups) :
  A4n env al dec ops p o σ=some (ob,U7 σ o.dst s ups):=by
 rw[B5l]
 cases h with
 | skip hw hd=>
  rw[hw]
  cases he:o.dst with
  | none=>simp only[U7,B3o,A8a]
  | some d=>simp only[U7,B3o,A8a];rw[if_pos (hd d he)]
 | plain r hw hd hr hk hups=>
  rw[hw];simp only[F0b];unfold I8 at hr;rw[hr];simp only[hups,A9l,Bool.and_self,if_true,hd,hk,A8k,S8,B2l,U7,B3o]
 | dst r d ob s hw hd hlt hr hk hups hdv=>
  rw[hw];simp only[F0b];unfold I8 at hr;rw[hr];simp only[hups,A9l,Bool.and_self,if_true,hd,hk,A8k,S8,B2l,U7,B3o,hlt,hdv]

end

section

theorem P4 {ops:Array Oper} {o:Oper} {t t' : Nat->SV} (h:∀d∈o.looksAt ops,t' d=t d):L0 ops.toList o t' = L0 ops.toList o t:=by
 unfold L0
 cases hg:o.guard with
 | none=>rfl
 | some g=>
  obtain ⟨j,want⟩:=g;simp only
  cases hb:(ops.toList[j]?).bind (·.dst) with
  | none=>rfl
  | some d=>
   have:d∈o.looksAt ops:=by
    unfold Oper.looksAt;refine List.mem_append_right _ ?_
    have hb' : (ops[j]?).bind (·.dst)=some d:=by simpa using hb
    simp [hg,hb']
   simp only[h d this]

theorem B1x {ops:Array Oper} {o:Oper} {σ σ' : St} (h:∀d∈o.looksAt ops,σ'.t d=σ.t d):∀x∈o.op.operands,σ'.ev x=σ.ev x:=by
 intro x hx
 cases x with
 | tmp t=>
  refine h t ?_
  exact List.mem_append_left _ (List.mem_filterMap.2 ⟨.tmp t,by simpa using hx,rfl⟩)
 | const v=>rfl
 | global g=>rfl
 | func f=>rfl

section
variable {env:Env} {al:Nat->Bool} {dec:List (Nat×Bool)} {ops:Array Oper} {p:Nat} {o:Oper} {σ σ' : St} {ob:List Prop} {s:SV} {ups:List (Nat×En)}

theorem A5a.move (h:A5a env al dec ops.toList p o σ ob s ups) (hnt:σ'.nt=σ.nt) (ht:∀d∈o.looksAt ops,σ'.t d=σ.t d) (h4:F7 env o≠4)
  (hm:A0q (F7 env o)=true->I8 al σ'.m=I8 al σ.m) (hu:Y4 al σ.m p ups=true->Y4 al σ'.m p ups=true):A5a env al dec ops.toList p o σ' ob s ups:=by
 have hop:∀r,L8 env σ.ev (I8 al σ.m) p o=some r->L8 env σ'.ev (I8 al σ'.m) p o=some r:=by
  intro r hr;rw[A2l (B1x ht)];by_cases hr' : A0q (F7 env o)=true
  ·rw[hm hr'];exact hr
  ·rw[C2t (fun f=>rfl) (I8 al σ.m) (by simpa using hr') h4];exact hr
 cases h with
 | skip hw hd=>exact .skip (by rw[P4 ht];exact hw) (fun d hd' => by rw[hnt];exact hd d hd')
 | plain r hw hd hr hk hups=>exact .plain r (by rw[P4 ht];exact hw) hd (hop r hr) hk (hu hups)
 | dst r d ob s hw hd hlt hr hk hups hdv=>exact .dst r d ob s (by rw[P4 ht];exact hw) hd (by rw[hnt];exact hlt) (hop r hr) hk (hu hups) hdv

theorem A1n:∀{ups:List (Nat×En)} {m:Nat->Option En},Y4 al m p ups=true↔∀q e,(q,e)∈ups->(match m q with | some _=>al q=true | none=>p<=q∧q<p+16)
 | [],m=>by simp [Y4]
 | (q,e)::l,m=>by
  simp only[Y4,Bool.and_eq_true,A1n (ups:=l),List.mem_cons,Prod.mk.injEq];constructor
  ·rintro ⟨h1,h2⟩ q' e' (⟨rfl,rfl⟩ | h)
   ·cases hm:m q' with
    | some x=>simp only[hm] at h1;exact h1
    | none=>
     simp only[hm,Bool.and_eq_true] at h1;exact ⟨by simpa using h1.1,by simpa using h1.2⟩
   ·exact h2 q' e' h
  ·intro h
   refine ⟨?_,fun q' e' h' => h q' e' (.inr h')⟩
   have:=h q e (.inl ⟨rfl,rfl⟩)
   cases hm:m q with
   | some x=>simp only[hm] at this;exact this
   | none=>
    simp only[hm] at this;simp only[Bool.and_eq_true];exact ⟨by simpa using this.1,by simpa using this.2⟩

theorem A5a.facts (h:A5a env al dec ops.toList p o σ ob s ups) (h4:F7 env o≠4) (h6:F7 env o≠6):Y4 al σ.m p ups=true∧(F7 env o≠3->∀q e,(q,e)∈ups->p<=q)∧(F7 env o=3->∀q e,(q,e)∈ups->I8 al σ.m q≠none):=by
 cases h with
 | skip hw hd=>exact ⟨rfl,fun _ q e h=>(by cases h),fun _ q e h=>(by cases h)⟩
 | plain r hw hd hr hk hups=>exact ⟨hups,(B5k (fun f=>rfl) hr h4 h6).2⟩
 | dst r d ob s hw hd hlt hr hk hups hdv=>exact ⟨hups,(B5k (fun f=>rfl) hr h4 h6).2⟩

theorem V7:∀{ups:List (Nat×En)} {m:Nat->Option En} {q:Nat},(∀e,(q,e) ∉ ups)->G6 m ups q=m q
 | [],m,q,_=>rfl
 | (q',e)::l,m,q,h=>by
  simp only[G6];rw[V7 (ups:=l) (fun e' he=>h e' (List.mem_cons_of_mem _ he))]
  have:q≠q' := fun e' => h e (by rw[e'];exact List.mem_cons_self ..)
  simp [this]

theorem C3x:∀{ups:List (Nat×En)} {m:Nat->Option En} {q:Nat},G6 m ups q=none->m q=none
 | [],m,q,h=>h
 | (q',e)::l,m,q,h=>by
  simp only[G6] at h;have:=C3x (ups:=l) h
  by_cases hq:q=q'
  ·simp [hq] at this
  ·simpa [hq] using this

theorem A6s:∀{ups:List (Nat×En)} {m m' : Nat->Option En} {q:Nat},m q=m' q->G6 m ups q=G6 m' ups q
 | [],m,m',q,h=>h
 | (q',e)::l,m,m',q,h=>by
  simp only[G6];refine A6s (ups:=l) ?_
  by_cases hq:q=q'<;>simp [hq,h]

theorem D8i:∀{ups:List (Nat×En)} {m m' : Nat->Option En} {q:Nat} {e:En},(q,e)∈ups->G6 m ups q=G6 m' ups q
 | (q',e')::l,m,m',q,e,h=>by
  simp only[G6];by_cases hq:q=q'
  ·exact A6s (ups:=l) (by simp [hq])
  ·refine D8i (ups:=l) (e:=e) ?_
   rcases List.mem_cons.1 h with h | h
   ·cases h;exact absurd rfl hq
   ·exact h

theorem E2v {ups ups' : List (Nat×En)} {m:Nat->Option En} (h:∀q e e',(q,e)∈ups->(q,e') ∉ ups'):G6 (G6 m ups) ups' = G6 (G6 m ups') ups:=by
 funext q
 by_cases h1:∃e,(q,e)∈ups
 ·obtain ⟨e,he⟩:=h1
  have hout:∀e',(q,e') ∉ ups' := fun e' => h q e e' he
  rw[V7 hout];exact D8i he
 ·have hout:∀e,(q,e) ∉ ups:=fun e he=>h1 ⟨e,he⟩
  rw[V7 (m:=G6 m ups') hout];exact A6s (V7 hout)

/-- Two that do not touch each other. -/
theorem swap {o1 o2:Oper} {p1 p2:Nat} {al1 al2:Nat->Bool} {ob1 ob2:List Prop} {s1 s2:SV} {ups1 ups2:List (Nat×En)} {f1 f2:Option (List Nat)} (m1:F7 env o1≠6) (m2:F7 env o2≠6) (hcon:S3 env ops f1 f2 o1 o2=false) (hf1:∀q,al1 q=true->A5u f1 q=true) (hf2:∀q,al2 q=true->A5u f2 q=true)
  (hp:p1+16<=p2) (hal1:∀q,al1 q=true->q<p1) (hal2:∀q,al2 q=true->q<p2) (hno:∀q,p1<=q->q<p1+16->al2 q=false)
  (h1:A5a env al1 dec ops.toList p1 o1 σ ob1 s1 ups1) (h2:A5a env al2 dec ops.toList p2 o2 (U7 σ o1.dst s1 ups1) ob2 s2 ups2) :
  A5a env al2 dec ops.toList p2 o2 σ ob2 s2 ups2∧A5a env al1 dec ops.toList p1 o1 (U7 σ o2.dst s2 ups2) ob1 s1 ups1∧U7 (U7 σ o1.dst s1 ups1) o2.dst s2 ups2=U7 (U7 σ o2.dst s2 ups2) o1.dst s1 ups1 ∧
   (A0q (F7 env o2)=true->I8 al2 σ.m=I8 al2 (U7 σ o1.dst s1 ups1).m)∧(A0q (F7 env o1)=true->I8 al1 (U7 σ o2.dst s2 ups2).m=I8 al1 σ.m):=by
 simp only[S3,Bool.or_eq_false_iff,Bool.not_eq_false'] at hcon;obtain ⟨hap,hcl⟩:=hcon;obtain ⟨a1,a2,a3⟩:=Oper.apart_spec hap;obtain ⟨n1,n2,c1,c2⟩:=B6p (B8f m1) (B8f m2) hcl;obtain ⟨u1,f1,g1⟩:=h1.facts n1 m1;obtain ⟨u2,f2,g2⟩:=h2.facts n2 m2;rw[A1n] at u1 u2
 -- where the first writes
 have w1:∀q e,(q,e)∈ups1->(F7 env o1≠3∧σ.m q=none∧p1<=q∧q<p1+16)∨(F7 env o1=3∧σ.m q≠none∧al1 q=true):=by
  intro q e hq;have hu:=u1 q e hq;by_cases h3:F7 env o1=3
  ·right
   have:=g1 h3 q e hq
   simp only[I8] at this;split at this
   ·rename_i hal;exact ⟨h3,this,hal⟩
   ·exact absurd rfl this
  ·left
   have hge:=f1 h3 q e hq
   cases hm:σ.m q with
   | some x=>simp only[hm] at hu;have:=hal1 q hu;omega
   | none=>simp only[hm] at hu;exact ⟨h3,rfl,hu⟩
 have w2:∀q e,(q,e)∈ups2->(F7 env o2≠3∧σ.m q=none∧p2<=q∧q<p2+16)∨(F7 env o2=3∧σ.m q≠none∧al2 q=true):=by
  intro q e hq;have hu:=u2 q e hq;by_cases h3:F7 env o2=3
  ·right
   have hv:=g2 h3 q e hq;simp only[I8] at hv;split at hv
   ·rename_i hal
    refine ⟨h3,fun hnone=>hv ?_,hal⟩
    have hout:∀e,(q,e) ∉ ups1:=by
     intro e' he'
     rcases w1 q e' he' with ⟨_,_,h5,h6⟩ | ⟨h5,_,h7⟩
     ·rw[hno q h5 h6] at hal;cases hal
     ·exact A2e (c1 (by rw[h3];rfl) h5) q (hf1 q h7) (hf2 q hal)
    simp only[U7];rw[V7 hout];exact hnone
   ·exact absurd rfl hv
  ·left
   have hge:=f2 h3 q e hq
   cases hm:(U7 σ o1.dst s1 ups1).m q with
   | some x=>simp only[hm] at hu;have:=hal2 q hu;omega
   | none=>simp only[hm] at hu;exact ⟨h3,C3x hm,hu⟩
 have disj:∀q e e',(q,e)∈ups1->(q,e') ∉ ups2:=by
  intro q e e' h h'
  rcases w1 q e h with ⟨i1,i2,i3,i4⟩ | ⟨i1,i2,i3⟩
  ·rcases w2 q e' h' with ⟨j1,j2,j3,j4⟩ | ⟨j1,j2,j3⟩
   ·omega
   ·exact j2 i2
  ·rcases w2 q e' h' with ⟨j1,j2,j3,j4⟩ | ⟨j1,j2,j3⟩
   ·have:=hal1 q i3
    omega
   ·have:A0q (F7 env o2)=true:=by rw[j1];rfl
    exact A2e (c1 this i1) q (hf1 q i3) (hf2 q j3)
 have view2:A0q (F7 env o2)=true->I8 al2 σ.m=I8 al2 (U7 σ o1.dst s1 ups1).m:=by
  intro hr;funext q
  simp only[I8];split
  ·rename_i hal
   simp only[U7];rw[V7];intro e he;rcases w1 q e he with ⟨_,_,h5,h6⟩ | ⟨h5,_,h7⟩
   ·rw[hno q h5 h6] at hal;cases hal
   ·exact A2e (c1 hr h5) q (hf1 q h7) (hf2 q hal)
  ·rfl
 have h2' : A5a env al2 dec ops.toList p2 o2 σ ob2 s2 ups2:=by
  refine h2.move rfl (fun d hd=>?_) n2 view2 (fun _=>?_)
  ·simp only[U7]
   cases hd1:o1.dst with
   | none=>rfl
   | some e=>
    have:d≠e:=fun he=>a1 e hd1 (he ▸ hd)
    simp [B3o,Q8,this]
  ·rw[A1n]
   intro q e hq;have hu:=u2 q e hq;rcases w2 q e hq with ⟨j1,j2,j3,j4⟩ | ⟨j1,j2,j3⟩
   ·rw[j2];exact ⟨j3,j4⟩
   ·cases hm:σ.m q with
    | none=>exact absurd hm j2
    | some x=>exact j3
 have view1:A0q (F7 env o1)=true->I8 al1 (U7 σ o2.dst s2 ups2).m=I8 al1 σ.m:=by
  intro hr;funext q
  simp only[I8];split
  ·rename_i hal
   simp only[U7];rw[V7];intro e he;have:=hal1 q hal
   rcases w2 q e he with ⟨_,_,h5,h6⟩ | ⟨h5,_,h7⟩
   ·omega
   ·exact A2e (c2 hr h5) q (hf1 q hal) (hf2 q h7)
  ·rfl
 refine ⟨h2',?_,?_,view2,view1⟩
 ·refine h1.move rfl (fun d hd=>?_) n1 view1 (fun _=>?_)
  ·simp only[U7]
   cases hd2:o2.dst with
   | none=>rfl
   | some e=>
    have:d≠e:=fun he=>a3 e hd2 (he ▸ hd)
    simp [B3o,Q8,this]
  ·rw[A1n]
   intro q e hq;have hu:=u1 q e hq;simp only[U7];rw[V7 (fun e' he' => disj q e e' hq he')]
   exact hu
 ·simp only[U7,St.mk.injEq,and_true]
  refine ⟨?_,E2v disj⟩
  cases hd1:o1.dst with
  | none=>rfl
  | some d1=>
   cases hd2:o2.dst with
   | none=>rfl
   | some d2=>
    have hne:d1≠d2:=fun e=>a2 d1 hd1 (by rw[hd2,e])
    funext x
    simp only[B3o,Q8];by_cases hx1:x=d1
    ·subst hx1;simp [hne]
    ·simp [hx1]

end
end

section

theorem D8y (al:Nat->Bool) (m:Nat->Option En):E7m al m=I8 al m:=rfl

section
variable {q:Nat} {ks:List Nat}
end

section
variable {env:Env} {al:Nat->Bool} {dec:List (Nat×Bool)} {ops:Array Oper} {p:Nat} {o:Oper} {σ σ' : St} {ob:List Prop} {s:SV} {ups:List (Nat×En)} {ks:List Nat} {ft:Option (List Nat)} {kl:Option Nat}

theorem C9a (he:∀x∈o.op.operands,σ'.ev x=σ.ev x) (hm:F7 env o=1->∀r,al r=true->A5u ft r=true->σ'.m r=σ.m r) (hr:L8 env σ'.ev (I8 al σ'.m) p o=L8 env σ.ev (I8 al σ.m) p o)
  (h:B9s env ks al ft p o σ=true):B9s env ks al ft p o σ' = true:=by
 cases hn:H3p o with
 | true=>simp only[B9s,hn,Bool.true_or]
 | false=>
  simp only[B9s,hn,Bool.false_or,Bool.and_eq_true,D8y] at h ⊢
  obtain ⟨⟨h1,h2⟩,h3⟩:=h;refine ⟨⟨List.all_eq_true.2 fun x hx=>?_,?_⟩,by rw[hr];exact h3⟩
  ·rw[he x (Array.mem_toList_iff.1 hx)]
   exact List.all_eq_true.1 h1 x hx
  ·by_cases hc:F7 env o=1
   ·rw[hc] at h2 ⊢
    cases ft with
    | none=>cases h2
    | some l=>
     refine List.all_eq_true.2 fun r hr' => ?_
     have:=List.all_eq_true.1 h2 r hr'
     cases hal:al r with
     | false=>rfl
     | true=>
      have mem:∀l:List Nat,r∈l->B2r r l=true:=by
       intro l;induction l with
       | nil=>intro h;cases h
       | cons a l ih=>
        intro h;simp only[B2r];split
        ·rfl
        ·rename_i hne
         rcases List.mem_cons.1 h with e | h
         ·exact absurd e.symm hne
         ·exact ih h
      rw[hal] at this;rw[hm hc r hal (mem l hr')];exact this
   ·clear h2 hm hr
    generalize F7 env o=n at hc ⊢
    match n,hc with
    | 0,_=>rfl
    | n+2,_=>rfl

/-- Looked at the same. -/
theorem A5a.same (h:A5a env al dec ops.toList p o σ ob s ups) (hnt:σ'.nt=σ.nt) (hw:L0 ops.toList o σ'.t=L0 ops.toList o σ.t) (hr:L8 env σ'.ev (I8 al σ'.m) p o=L8 env σ.ev (I8 al σ.m) p o)
  (hu:Y4 al σ.m p ups=true->Y4 al σ'.m p ups=true):A5a env al dec ops.toList p o σ' ob s ups:=by
 cases h with
 | skip hw' hd=>exact .skip (by rw[hw];exact hw') (fun d hd' => by rw[hnt];exact hd d hd')
 | plain r hw' hd hr' hk hups=>exact .plain r (by rw[hw];exact hw') hd (by rw[hr];exact hr') hk (hu hups)
 | dst r d ob s hw' hd hlt hr' hk hups hdv=>exact .dst r d ob s (by rw[hw];exact hw') hd (by rw[hnt];exact hlt) (by rw[hr];exact hr') hk (hu hups) hdv

end
end

section

section
variable {env:Env} {ρ:Operand->SV} {m:Nat->Option En} {p:Nat} {o:Oper} {r:Res}
theorem C8o {i:TyI} {e:Sq} {s x:SV} (h:B8v m p i e s x=some r):∃y e,r.ups=[(y,e)]∧((y=p∧r.kill=none)∨(r.kill=some y∧m y≠none)):=by
 unfold B8v at h;split at h
 ·split at h
  ·split at h
   ·cases h;exact ⟨p,_,rfl,.inl ⟨rfl,rfl⟩⟩
   ·cases h
  ·split at h
   ·rename_i hm
    split at h
    ·split at h
     ·cases h;exact ⟨_,_,rfl,.inr ⟨rfl,by rw[hm];simp⟩⟩
     ·cases h
    ·cases h
   ·cases h
  ·split at h
   ·split at h
    ·cases h;exact ⟨p,_,rfl,.inl ⟨rfl,rfl⟩⟩
    ·cases h
   ·cases h
  ·cases h
 ·cases h
/-- What a row's growth writes, and which row is given up. -/
theorem E7u (h:L8 env ρ m p o=some r) (h6:F7 env o=6):∃y e,r.ups=[(y,e)]∧((y=p∧r.kill=none)∨(r.kill=some y∧m y≠none)):=by
 unfold F7 at h6;unfold L8 at h
 cases hop:o.op<;>simp only[hop] at h6 h<;>try (cases h6;done)
 case convert src dst v=>
  split at h6
  ·split at h6<;>cases h6
  ·cases h6
 case call c=>
  cases hc:c.callee with
  | invoke f m=>simp only[hc] at h6;cases h6
  | value f=>
   simp only[hc] at h6
   cases f with
   | func g=>
    simp only at h6
    split at h6
    ·cases h6
    ·split at h6<;>cases h6
   | tmp t=>cases h6
   | const v=>cases h6
   | global g=>cases h6
  | builtin b=>
   simp only[hc] at h6 h
   cases b<;>simp only[] at h6 h<;>try (cases h6;done)
   repeat' split at h
   all_goals first
    | (cases h;done)
    | exact C8o h
end

inductive B6o (env:Env) (al:Nat->Bool) (dec:List (Nat×Bool)) (ops:List Oper) (p:Nat) (o:Oper) (σ:St):List Prop->SV->List (Nat×En)->Option Nat->Prop
 | skip:L0 ops o σ.t=some false->(∀d,o.dst=some d->d<σ.nt)->B6o env al dec ops p o σ [] (.t []) [] none
 | plain (r:Res):L0 ops o σ.t=some true->o.dst=none->L8 env σ.ev (I8 al σ.m) p o=some r->A9l r.kill=true->Y4 al σ.m p r.ups=true->B6o env al dec ops p o σ r.obl .top r.ups r.kill
 | dst (r:Res) (d:Nat) (ob:List Prop) (s:SV):L0 ops o σ.t=some true->o.dst=some d->d<σ.nt->L8 env σ.ev (I8 al σ.m) p o=some r->A9l r.kill=true->Y4 al σ.m p r.ups=true->A1b dec d r.val=(ob,s)->B6o env al dec ops p o σ (ob++r.obl) s r.ups r.kill

section
variable {env:Env} {al:Nat->Bool} {dec:List (Nat×Bool)} {ops:Array Oper} {p:Nat} {o:Oper} {σ σ' : St} {ob:List Prop} {s:SV} {ups:List (Nat×En)} {kl:Option Nat} {ks:List Nat}

theorem B6o.move (h:B6o env al dec ops.toList p o σ ob s ups kl) (hnt:σ'.nt=σ.nt) (ht:∀d∈o.looksAt ops,σ'.t d=σ.t d) (hm:I8 al σ'.m=I8 al σ.m) (hu:Y4 al σ.m p ups=true->Y4 al σ'.m p ups=true) :
  B6o env al dec ops.toList p o σ' ob s ups kl:=by
 have hop:∀r,L8 env σ.ev (I8 al σ.m) p o=some r->L8 env σ'.ev (I8 al σ'.m) p o=some r:=by
  intro r hr;rw[A2l (B1x ht),hm];exact hr
 cases h with
 | skip hw hd=>exact .skip (by rw[P4 ht];exact hw) (fun d hd' => by rw[hnt];exact hd d hd')
 | plain r hw hd hr hk hups=>exact .plain r (by rw[P4 ht];exact hw) hd (hop r hr) hk (hu hups)
 | dst r d ob s hw hd hlt hr hk hups hdv=>exact .dst r d ob s (by rw[P4 ht];exact hw) hd (by rw[hnt];exact hlt) (hop r hr) hk (hu hups) hdv

theorem B6o.facts (h:B6o env al dec ops.toList p o σ ob s ups kl) (h6:F7 env o=6) (hal:∀q,al q=true->q<p):Y4 al σ.m p ups=true∧∀y e,(y,e)∈ups->(y=p∧kl=none∧σ.m y=none)∨(kl=some y∧al y=true∧σ.m y≠none):=by
 have key:∀r,L8 env σ.ev (I8 al σ.m) p o=some r->Y4 al σ.m p r.ups=true->∀y e,(y,e)∈r.ups->(y=p∧r.kill=none∧σ.m y=none)∨(r.kill=some y∧al y=true∧σ.m y≠none):=by
  intro r hr hups y e hy;obtain ⟨y',e',hu,hk⟩:=E7u hr h6;have hu2:=(A1n.1 hups) y e hy;rw[hu] at hy;simp only[List.mem_cons,List.not_mem_nil,or_false,Prod.mk.injEq] at hy;obtain ⟨rfl,rfl⟩:=hy;rcases hk with ⟨rfl,hk⟩ | ⟨hk,hm⟩
  ·left
   refine ⟨rfl,hk,?_⟩
   cases hm:σ.m y with
   | none=>rfl
   | some x=>simp only[hm] at hu2;have:=hal y hu2;omega
  ·right
   simp only[I8] at hm;split at hm
   ·rename_i h;exact ⟨hk,h,hm⟩
   ·exact absurd rfl hm
 cases h with
 | skip hw hd=>exact ⟨rfl,fun y e h=>(by cases h)⟩
 | plain r hw hd hr hk hups=>exact ⟨hups,key r hr hups⟩
 | dst r d ob s hw hd hlt hr hk hups hdv=>exact ⟨hups,key r hr hups⟩

variable {o1 o2:Oper} {p1 p2:Nat} {al1 al2:Nat->Bool} {ob1 ob2:List Prop} {s1 s2:SV} {ups1 ups2:List (Nat×En)} {f1 f2:Option (List Nat)}
/-! What is asked ahead of a step, carried over. -/
variable {anc:List Nat} {kk:List (Nat×Nat)} {i:Nat} {ft:Option (List Nat)}
theorem B3r (he:∀x∈o.op.operands,σ'.ev x=σ.ev x) (hm:A0q (F7 env o)=true->I8 al σ'.m=I8 al σ.m) (h:B0y env anc kk i al ft p o σ=true):B0y env anc kk i al ft p o σ' = true:=by
 unfold B0y at h ⊢
 simp only[D8y] at h ⊢
 cases h6:Nat.beq (F7 env o) 6 with
 | true=>
  simp only[h6,if_true] at h ⊢
  have e6:=Nat.eq_of_beq_eq_true h6;rw[A2l he,hm (by rw[e6];rfl)]
  exact h
 | false=>
  simp only[h6,Bool.false_eq_true,if_false,Bool.or_eq_true] at h ⊢
  rcases h with h | h
  ·exact .inl h
  ·by_cases h3:Nat.ble 3 (F7 env o)=true
   ·exact .inl (.inr h3)
   ·right
    have hlt:F7 env o<=2:=by
     rcases Nat.lt_or_ge (F7 env o) 3 with h | h
     ·omega
     ·exact absurd (Nat.ble_eq_true_of_le h) h3
    have hpt:∀r,F7 env o=1->al r=true->σ'.m r=σ.m r:=fun r h1 hr=>by
     have:=congrFun (hm (by rw[h1];rfl)) r
     simpa [I8,hr] using this
    refine C9a he (fun h1 r hr _=>hpt r h1 hr) ?_ h
    rw[A2l he];by_cases h1:F7 env o=1
    ·rw[hm (by rw[h1];rfl)]
    ·exact C2t (fun f=>rfl) _ (by
      have:F7 env o=0∨F7 env o=2:=by omega
      rcases this with e | e<;>rw[e]<;>rfl) (by omega)
end
end

section

section
variable {P:Program} {w0:World} {F0:Nat->Prop} {K:Kp} {as:List Act} {env:Env} {al:Nat->Bool} {dec:List (Nat×Bool)} {ops:Array Oper} {p:Nat} {o:Oper} {σ σ' : St} {ob:List Prop} {x:Ctx} {a:Act}

theorem B6q {d:Nat} {v v' : SV} {o' : List Prop} {u:Value} (h:A1b dec d v=(o',v')) (ho:B1 o') (hd:B8 x v u):B8 x v' u:=by
 unfold A1b at h;split at h
 ·rename_i b
  split at h
  ·cases h
   obtain ⟨rfl,_⟩:=ho;have:=B8r hd
   subst this;exact B8b _
  ·cases h;exact hd
 ·cases h;exact hd

theorem A8c {b:Bool} (hs:∀t,B8 x (σ.t t) (a.tmps.getD t undef)) (h:L0 ops.toList o σ.t=some b):Region.wanted o (yielded ops a.tmps)=b:=by
 unfold L0 at h;unfold Region.wanted
 cases hg:o.guard with
 | none=>simp only[hg] at h ⊢;cases h;rfl
 | some g=>
  obtain ⟨j,want⟩:=g;simp only[hg] at h ⊢
  cases hb:(ops.toList[j]?).bind (·.dst) with
  | none=>simp only[hb] at h;cases h
  | some d=>
   simp only[hb] at h;have hb' : (ops[j]?).bind (·.dst)=some d:=by simpa using hb
   split at h
   ·rename_i b' hlit
    cases h
    have hd:=hs d;rw[hlit] at hd;have hv:=D3r hd;have hget:a.tmps[d]? = some (.bool b'):=by
     rw[Array.getD_eq_getD_getElem?] at hv
     cases hh:a.tmps[d]? with
     | none=>rw[hh] at hv;simp [undef] at hv
     | some u=>rw[hh] at hv;simpa using hv
    have hy:yielded ops a.tmps j=some b' := by
     unfold yielded;rw[hb'];simp [hget]
    rw[hy]
    cases b'<;>cases want<;>rfl
   ·rename_i hlit
    cases h
    have hd:=hs d;rw[hlit] at hd;obtain ⟨vs,hv,hvs⟩:=hd
    cases hvs
    have hy:yielded ops a.tmps j=none:=by
     unfold yielded;rw[hb'];rw[Array.getD_eq_getD_getElem?] at hv
     cases hh:a.tmps[d]? with
     | none=>simp [hh]
     | some u=>rw[hh] at hv;simp at hv;subst hv;simp [hh]
    rw[hy]
    cases want<;>rfl
   ·cases h

theorem C7k (ρ:Option Nat) {Q:Exit->Act->World->Prop} {Kt:Act->World->Prop} {i:Nat} (hE:A9 P env) (hs:Sim w0 F0 K as σ x a) (hi:ops[i]? = some o) (h:A4n env al dec ops.toList p o σ=some (ob,σ')) (ho:B1 ob) (hal:∀q,al q=true->q<p)
  (hK:∀y a',Sim w0 F0 K as σ' y a' -> Kt a' y.w):wpOpIn (J4 ρ) 0 P ops Q i Kt a x.w:=by
 unfold wpOpIn;simp only[hi];rw[B5l] at h;split at h
 ·rename_i hw
  rw[A8c hs.t hw];simp only[if_true];unfold F0b at h;split at h
  ·cases h
  ·rename_i r hr
   split at h
   ·rename_i hups
    simp only[Bool.and_eq_true] at hups;obtain ⟨hkill,hups⟩:=hups;rw[A1n] at hups;have hfresh:∀q e,(q,e)∈r.ups->(if al q=true then σ.m q else none)=none->σ.m q=none:=by
     intro q e hq hv;have:=hups q e hq
     cases hm:σ.m q with
     | none=>rfl
     | some e' => simp only[hm] at this;simp [this,hm] at hv
    have hsub:∀q e,(if al q=true then σ.m q else none)=some e->σ.m q=some e:=by
     intro q e hv;split at hv
     ·exact hv
     ·cases hv
    have hp:∀q,p<=q->(if al q=true then σ.m q else none)=none:=by
     intro q hq;have:¬al q=true:=fun h=>by have:=hal q h;omega
     simp [this]
    have main:B1 r.obl->∀{Kt' : Act->World->Prop},(∀v y,Tr x r.kill y (G6 (S8 σ.m r.kill) r.ups)->B8 y r.val v->Kt' (a.put o.dst v) y.w)->o.wpIn (J4 ρ) 0 P a x.w Kt' Q:=fun hob _ hn=>
     (D7h hE (fun o=>B4m hs.t o) hs.mem hsub hr hob hp hfresh).wpIn ρ (fun c hc=>by simp [L8,hc] at hr) hn
    split at h
    ·rename_i hd
     cases h
     refine main ho fun v y ht _=>hK y _ ?_
     have:=hs.step ht hkill (dst:=none) (sv:=.top) (v:=v) (nx:=σ.nx) (fun d h=>by cases h)
     rw[hd];exact this
    ·rename_i d hd
     split at h
     ·rename_i hlt
      cases hdv:A1b dec d r.val with
      | mk o' s=>
       simp only[hdv] at h
       cases h
       have ho:=E0.1 ho;refine main ho.2 fun v y ht hden=>hK y _ ?_
       have:=hs.step ht hkill (dst:=some d) (sv:=s) (v:=v) (nx:=σ.nx) (fun d' h=>by cases h;exact ⟨hlt,B6q hdv ho.1 hden⟩)
       rw[hd];exact this
     ·cases h
   ·cases h
 ·rename_i hw
  rw[A8c hs.t hw];simp only[Bool.false_eq_true,if_false];refine ⟨fun f _=>A7j ρ f,?_⟩
  split at h
  ·rename_i e he
   split at h
   ·rename_i hlt
    cases h
    refine hK x _ ?_
    have:=hs.step (Tr.refl hs.mem) rfl (dst:=some e) (sv:=.t []) (v:=undef) (nx:=σ.nx) (fun d' h=>by cases h;exact ⟨hlt,[],rfl,.nil⟩)
    rw[he];exact this
   ·cases h
  ·rename_i he
   cases h
   refine hK x _ ?_
   have:=hs.step (Tr.refl hs.mem) rfl (dst:=none) (sv:=.t []) (v:=undef) (nx:=σ.nx) (fun d' h=>by cases h)
   rw[he];exact this
 ·cases h

/-! Order open. -/
theorem D9n {lo anc p q:Nat} {f:Option (List Nat)} (h:alF lo anc p f q=true):q<p∧A5u f q=true:=by
 simp only[alF,E7s,Bool.and_eq_true] at h;exact ⟨by simpa using h.1.1,h.2⟩

theorem A5e {acc:List Nat}:∀{l:List Edge} {j:Nat},(A7a acc l).testBit j=true->∃e∈l,Region.binds .any e=true∧(j=e.on∨(acc.getD e.on 0).testBit j=true)
 | [],j,h=>by simp [A7a] at h
 | e::l,j,h=>by
  simp only[A7a] at h;split at h
  ·rename_i hb
   simp only[Nat.testBit_or,Bool.or_eq_true] at h;rcases h with (h | h) | h
   ·rw[Nat.testBit_two_pow] at h
    exact ⟨e,by simp,hb,.inl (by simpa using (of_decide_eq_true h).symm)⟩
   ·exact ⟨e,by simp,hb,.inr h⟩
   ·obtain ⟨e',he',h'⟩:=A5e h
    exact ⟨e',by simp [he'],h'⟩
  ·obtain ⟨e',he',h'⟩:=A5e h
   exact ⟨e',by simp [he'],h'⟩

theorem C2r {ft:List (Option (List Nat))} {fo:Option (List Nat)} {anc:Nat}:∀{l:List Oper} {k:Nat},B5i env ops ft fo o anc l k=true->∀j x,l[j]? = some x->anc.testBit (k+j)=true∨S3 env ops (ft.getD (k+j) none) fo x o=false
 | [],_,_,j,x,h=>by simp at h
 | y::l,k,h,j,x,hx=>by
  simp only[B5i,Bool.and_eq_true,Bool.or_eq_true,Bool.not_eq_true'] at h
  cases j with
  | zero=>simp only[List.getElem?_cons_zero,Option.some.injEq] at hx;subst hx;exact h.1
  | succ j=>
   simp only[List.getElem?_cons_succ] at hx;have:=C2r h.2 j x hx
   rw[show k+1+j=k+(j+1) from by omega] at this
   exact this

theorem C0b {ft:List (Option (List Nat))} {anc:List Nat}:∀{l:List Oper} {k:Nat},A9b env ops anc ft l k=true->∀j x,l[j]? = some x ->
  W5 (k+j) x=true∧anc.getD (k+j) 0=A5f anc x∧B5i env ops ft (ft.getD (k+j) none) x (anc.getD (k+j) 0) (ops.toList.take (k+j)) 0=true
 | [],_,_,j,x,h=>by simp at h
 | y::l,k,h,j,x,hx=>by
  simp only[A9b,Bool.and_eq_true,and_assoc] at h
  cases j with
  | zero=>
   simp only[List.getElem?_cons_zero,Option.some.injEq] at hx;subst hx;exact ⟨h.1,Nat.eq_of_beq_eq_true h.2.1,h.2.2.1⟩
  | succ j=>
   simp only[List.getElem?_cons_succ] at hx;have:=C0b h.2.2.2 j x hx
   rw[show k+1+j=k+(j+1) from by omega] at this
   exact this

/-- One that touches none of those ahead of it may go first. -/
theorem A8h {ft:List (Option (List Nat))} {kk:List (Nat×Nat)} {anc:List Nat} {lo:Nat} {i:Nat} {oi:Oper} {post:List (Nat×Oper)}:∀{pre:List (Nat×Oper)} {σ σ' : St} {ob:List Prop},
    (∀q∈pre,q.1<i∧(anc.getD i 0).testBit q.1=false∧S3 env ops (ft.getD q.1 none) (ft.getD i none) q.2 oi=false) ->
    T9 env dec ops.toList anc ft kk lo (pre++(i,oi)::post) σ=some (ob,σ')->B1 ob ->
    ∃ob1 ob2 σ1,B0y env anc kk i (alF lo (anc.getD i 0) (lo+16*i) (ft.getD i none)) (ft.getD i none) (lo+16*i) oi σ=true∧A4n env (alF lo (anc.getD i 0) (lo+16*i) (ft.getD i none)) dec ops.toList (lo+16*i) oi σ=some (ob1,σ1)∧B1 ob1∧T9 env dec ops.toList anc ft kk lo (pre++post) σ1=some (ob2,σ')∧B1 ob2
  | [],σ,σ',ob,_,h,ho=>by
    simp only[List.nil_append,T9] at h ⊢
    split at h
    · rename_i hok
      split at h
      · rename_i ob1 σ1 h1
        split at h
        · rename_i ob2 σ2 h2
          cases h
          have ho:=E0.1 ho;exact ⟨ob1,ob2,σ1,hok,h1,ho.1,h2,ho.2⟩
        · cases h
      · cases h
    · cases h
  | (j,oj)::pre,σ,σ',ob,hc,h,ho=>by
    simp only[List.cons_append,T9] at h;split at h
    · rename_i hokj
      split at h
      · rename_i obj σj hj
        split at h
        · rename_i obr σr hr
          cases h
          have ho:=E0.1 ho;obtain ⟨ob1,ob2,σ1,hoki,g1,g2,g3,g4⟩:=A8h (fun q hq=>hc q (List.mem_cons_of_mem _ hq)) hr ho.2
          obtain ⟨hlt,hbit,hcon⟩:=hc (j,oj) (by simp)
          have hcon' := hcon;simp only[S3,Bool.or_eq_false_iff,Bool.not_eq_false'] at hcon'
          obtain ⟨hap,hcl⟩:=hcon';have hno:∀q,lo+16*j<=q->q<lo+16*j+16->alF lo (anc.getD i 0) (lo+16*i) (ft.getD i none) q=false:=by
            intro q h1 h2;unfold alF E7s;have hq:(q-lo) / 16=j:=by omega
            have hb:Nat.blt q lo=false:=by
              cases hh:Nat.blt q lo with
              | false=>rfl
              | true => have : q < lo := by simpa using hh
                        omega
            rw[hq,hbit,hb];simp
          have hf:∀(k:Nat) (q:Nat),alF lo (anc.getD k 0) (lo+16*k) (ft.getD k none) q=true->A5u (ft.getD k none) q=true:=fun k q h=>(D9n h).2
          have hl:∀(k:Nat) (q:Nat),alF lo (anc.getD k 0) (lo+16*k) (ft.getD k none) q=true->q<lo+16*k:=fun k q h=>(D9n h).1
          by_cases mj:F7 env oj=6
          · -- a row's growth stands ahead
            have e:Nat.beq (F7 env oj) 6=true:=by rw[mj];rfl
            simp [B9q,e,C8z] at hcl
          · by_cases mi:F7 env oi=6
            · have e2:Nat.beq (F7 env oi) 6=true:=by rw[mi];rfl
              simp [B9q,e2,C8z] at hcl
            · obtain ⟨n1,n2,_,_⟩:=B6p (B8f mj) (B8f mi) hcl
              obtain ⟨s1,ups1,d1,rfl⟩:=B7a n1 mj hj;obtain ⟨s2,ups2,d2,rfl⟩:=B7a n2 mi g1;obtain ⟨e1,e2,e3,e4,e5⟩:=swap mj mi hcon (hf j) (hf i) (by omega) (hl j) (hl i) hno d1 d2
              rw[e3] at g3;have hoki' : B0y env anc kk i (alF lo (anc.getD i 0) (lo+16*i) (ft.getD i none)) (ft.getD i none) (lo+16*i) oi σ=true:=by
                refine B3r (fun x hx=>?_) e4 hoki
                refine B1x (ops:=ops) (fun d hd=>?_) x hx
                simp only[U7]
                cases hdj:oj.dst with
                | none=>rfl
                | some e=>
                  have:d≠e:=fun he=>(Oper.apart_spec hap).1 e hdj (he ▸ hd)
                  simp [B3o,Q8,this]
              have hokj' : B0y env anc kk j (alF lo (anc.getD j 0) (lo+16*j) (ft.getD j none)) (ft.getD j none) (lo+16*j) oj (U7 σ oi.dst s2 ups2)=true:=by
                refine B3r (fun x hx=>?_) e5 hokj
                refine B1x (ops:=ops) (fun d hd=>?_) x hx
                simp only[U7]
                cases hdi:oi.dst with
                | none=>rfl
                | some e=>
                  have:d≠e:=fun he=>(Oper.apart_spec hap).2.2 e hdi (he ▸ hd)
                  simp [B3o,Q8,this]
              refine ⟨ob1,obj++ob2,_,hoki',B6s e1,g2,?_,E0.2 ⟨ho.1,g4⟩⟩
              simp only[List.cons_append,T9,hokj',if_true,B6s e2,g3]
        · cases h
      · cases h
    · cases h

end
end

section

section
variable {P:Program} {w0:World} {F0:Nat->Prop} {K:Kp} {as:List Act} {env:Env} {dec:List (Nat×Bool)} {ops:Array Oper} {Q:Exit->Act->World->Prop}

structure Rem (ops:Array Oper) (anc:List Nat) (c:Nat) (listed:Array Bool) (rem:List (Nat×Oper)):Prop where
 sorted:rem.Pairwise fun a b=>a.1<b.1
 there:∀i o,(i,o)∈rem->ops[i]? = some o
 small:∀i o,(i,o)∈rem->i<c
 size:listed.size=ops.size
 left:∀i,i<ops.size->(listed.getD i true=false↔(∃o,(i,o)∈rem)∨c<=i)
 closed:∀i,i<ops.size->listed.getD i false=true->∀j,(anc.getD i 0).testBit j=true->listed.getD j false=true

theorem B2a {l:Array Bool} {i:Nat}:l.getD i true=false↔(i<l.size∧l.getD i false=false):=by
 rcases Nat.lt_or_ge i l.size with h | h
 ·simp [h]
 ·simp [Array.getElem?_eq_none h];omega

theorem B5z {anc:List Nat} {c i:Nat} {o:Oper} {listed:Array Bool} {rem:List (Nat×Oper)} (hr:Rem ops anc c listed rem) (ha:anc.getD i 0=A5f anc o) (hall:∀e∈o.after,Region.binds .any e=true->listed.getD e.on false=true):∀j,(anc.getD i 0).testBit j=true->listed.getD j false=true:=by
 intro j hj;rw[ha] at hj;obtain ⟨e,he,hb,hje⟩:=A5e hj;have hle:=hall e (Array.mem_toList_iff.1 he) hb;rcases hje with rfl | hje
 ·exact hle
 ·have:e.on<ops.size:=by
   rcases Nat.lt_or_ge e.on listed.size with hh | hh
   ·rw[<-hr.size];exact hh
   ·simp [Array.getElem?_eq_none hh] at hle
  exact hr.closed e.on this hle j hje

/-- One more is done. -/
theorem Rem.step {anc:List Nat} {c i:Nat} {o' : Oper} {pre post:List (Nat×Oper)} {listed:Array Bool} (hr:Rem ops anc c listed (pre++(i,o')::post)) (hsrt:pre.Pairwise (fun a b=>a.1<b.1)∧((i,o')::post).Pairwise (fun a b=>a.1<b.1)∧∀a∈pre,∀b∈(i,o')::post,a.1<b.1) (hlt:i<ops.size)
  (hanc:∀j,(anc.getD i 0).testBit j=true->listed.getD j false=true):Rem ops anc c (listed.setIfInBounds i true) (pre++post):=by
 have hsub:(pre++post).Sublist (pre++(i,o')::post):=List.Sublist.append (List.Sublist.refl _) (List.sublist_cons_self _ _);have hic:=hr.small i o' (by simp)
 refine ⟨hr.sorted.sublist hsub,fun j oj hj=>hr.there j oj (hsub.subset hj),fun j oj hj=>hr.small j oj (hsub.subset hj),by simp [hr.size],fun j hj=>?_,fun j hj hlj k hk=>?_⟩
 ·by_cases hji:j=i
  ·subst hji
   constructor
   ·intro h
    have hsz:j<listed.size:=by rw[hr.size];exact hj
    simp [hsz] at h
   ·rintro (⟨oj,hoj⟩ | h)
    ·exfalso
     rcases List.mem_append.1 hoj with h | h
     ·have:=hsrt.2.2 _ h (j,o') (by simp);simp only at this;omega
     ·have:=(List.pairwise_cons.1 hsrt.2.1).1 _ h;simp only at this;omega
    ·omega
  ·rw[getD_set_ne true (Ne.symm hji),hr.left j hj]
   constructor
   ·rintro (⟨oj,hoj⟩ | h)
    ·refine .inl ⟨oj,?_⟩
     rcases List.mem_append.1 hoj with h | h
     ·exact List.mem_append_left _ h
     ·rcases List.mem_cons.1 h with h | h
      ·cases h;exact absurd rfl hji
      ·exact List.mem_append_right _ h
    ·exact .inr h
   ·rintro (⟨oj,hoj⟩ | h)
    ·exact .inl ⟨oj,hsub.subset hoj⟩
    ·exact .inr h
 ·by_cases hji:j=i
  ·subst hji;exact getD_set_true (hanc k hk)
  ·rw[getD_set_ne false (Ne.symm hji)] at hlj
   exact getD_set_true (hr.closed j hj hlj k hk)

/-- What stands in order behind all else comes in order. -/
theorem H2i {F:Fence} {anc:List Nat} (hget:∀i o,ops[i]? = some o->W5 i o=true∧anc.getD i 0=A5f anc o) :
  ∀(n c:Nat) (listed:Array Bool) (a:Act) (w:World),n=ops.size-c->(∀i,c<=i->i<ops.size->∀j,j<i->(anc.getD i 0).testBit j=true)->Rem ops anc c listed []->wpOpsIn F 0 P ops Q (List.range' c n) a w->wpAnyIn F 0 P .any ops Q n listed a w:=by
 intro n;induction n with
 | zero=>
  intro c listed a w hn _ hr h;refine ⟨?_,h⟩
  apply List.eq_nil_iff_forall_not_mem.2
  intro i hi;obtain ⟨h0,o,hio,_⟩:=mem_ready.1 hi;have hlt:i<ops.size:=(Array.getElem?_eq_some_iff.1 hio).1;rcases (hr.left i hlt).1 h0 with hx | h
  ·obtain ⟨o',ho'⟩:=hx;cases ho'
  ·omega
 | succ n ih=>
  intro c listed a w hn htl hr h;have hc:c<ops.size:=by omega
  have hio:ops[c]? = some ops[c]:=Array.getElem?_eq_getElem hc;have hun:∀j,j<c->listed.getD j false=true:=by
   intro j hj;have hnot:¬listed.getD j true=false:=by
    rw[hr.left j (by omega)]
    rintro (⟨o',ho'⟩ | h)
    ·cases ho'
    ·omega
   rw[B2a] at hnot
   cases hh:listed.getD j false with
   | true=>rfl
   | false=>exact absurd ⟨by rw[hr.size];omega,hh⟩ hnot
  have hmem:c∈Region.ready .any ops listed:=by
   refine mem_ready.2 ⟨(hr.left c hc).2 (.inr (Nat.le_refl _)),_,hio,fun e he hb=>?_⟩
   have hedge:=(hget c _ hio).1;unfold W5 at hedge;have he' := List.all_eq_true.1 hedge e (Array.mem_toList_iff.2 he);simp only[hb,Bool.not_true,Bool.false_or] at he'
   exact hun e.on (by simpa using he')
  rw[List.range'_succ,wpOpsIn_cons] at h;refine ⟨fun hnone=>(by rw[hnone] at hmem;cases hmem),fun i hi=>?_⟩
  obtain ⟨h0,o,hio',hall⟩:=mem_ready.1 hi;have hlt:i<ops.size:=(Array.getElem?_eq_some_iff.1 hio').1;have hci:c<=i:=by
   rcases (hr.left i hlt).1 h0 with ⟨o',ho'⟩ | h
   ·cases ho'
   ·exact h
  have hic:i=c:=by
   rcases Nat.lt_or_ge c i with hh | hh
   ·exfalso
    have:=B5z hr (hget i o hio').2 hall c (htl i hci hlt c hh)
    have h2:=(B2a.1 ((hr.left c hc).2 (.inr (Nat.le_refl _)))).2;rw[this] at h2
    cases h2
   ·omega
  subst hic;refine wpOpIn_mono (fun a' w' h' => ih (i+1) _ a' w' (by omega) (fun j hj=>htl j (by omega)) ?_ h') h
  refine ⟨.nil,fun j oj hj=>(by cases hj),fun j oj hj=>(by cases hj),by simp [hr.size],fun j hj=>?_,fun j hj hlj k hk=>?_⟩
  ·by_cases hji:j=i
   ·subst hji
    constructor
    ·intro h
     have hsz:j<listed.size:=by rw[hr.size];exact hj
     simp [hsz] at h
    ·rintro (⟨oj,hoj⟩ | h)
     ·cases hoj
     ·omega
   ·rw[getD_set_ne true (Ne.symm hji),hr.left j hj]
    constructor
    ·rintro (⟨oj,hoj⟩ | h)
     ·cases hoj
     ·exact .inr (by omega)
    ·rintro (⟨oj,hoj⟩ | h)
     ·cases hoj
     ·exact .inr (by omega)
  ·by_cases hji:j=i
   ·subst hji;exact getD_set_true (B5z hr (hget j o hio').2 hall k hk)
   ·rw[getD_set_ne false (Ne.symm hji)] at hlj
    exact getD_set_true (hr.closed j hj hlj k hk)

/-- Two that are not ordered do not get into each other's way, but for those left out. -/
def H4c (env:Env) (ops:Array Oper) (anc:List Nat) (ft:List (Option (List Nat))) (sk:Nat->Bool):Prop:=
 ∀i o j x,ops[i]? = some o->ops[j]? = some x->j<i->sk i=false->sk j=false->(anc.getD i 0).testBit j=true∨S3 env ops (ft.getD j none) (ft.getD i none) x o=false

theorem E4w (ρ:Option Nat) (hE:A9 P env) {ft:List (Option (List Nat))} {kk:List (Nat×Nat)} {anc:List Nat} {lo c:Nat} {σ' : St} {sk:Nat->Bool} (hget:∀i o,ops[i]? = some o->W5 i o=true∧anc.getD i 0=A5f anc o) (hcf:H4c env ops anc ft sk) (htl:∀i,c<=i->i<ops.size->∀j,j<i->(anc.getD i 0).testBit j=true)
  (hK:∀y a',Sim w0 F0 K as σ' y a' -> wpOpsIn (J4 ρ) 0 P ops Q (List.range' c (ops.size-c)) a' y.w) :
  ∀(fuel:Nat) (rem:List (Nat×Oper)) (listed:Array Bool) (σ:St) (ob:List Prop) (x:Ctx) (a:Act),rem.length=fuel->(∀q∈rem,sk q.1=false)->Rem ops anc c listed rem->T9 env dec ops.toList anc ft kk lo rem σ=some (ob,σ')->B1 ob->Sim w0 F0 K as σ x a ->
   wpAnyIn (J4 ρ) 0 P .any ops Q (fuel+(ops.size-c)) listed a x.w:=by
 intro fuel;induction fuel with
 | zero=>
  intro rem listed σ ob x a hl hsk hr hd ho hs;have hnil:rem=[]:=List.eq_nil_of_length_eq_zero hl;subst hnil;simp only[T9,Option.some.injEq,Prod.mk.injEq] at hd;obtain ⟨_,rfl⟩:=hd;rw[Nat.zero_add];exact H2i hget _ c listed a x.w rfl htl hr (hK x a hs)
 | succ fuel ih=>
  intro rem listed σ ob x a hl hsk hr hd ho hs;rw[show fuel+1+(ops.size-c)=(fuel+(ops.size-c))+1 from by omega]
  obtain ⟨i0,o0,rest,hrem0⟩:∃i0 o0 rest,rem=(i0,o0)::rest:=by
   cases rem with
   | nil=>simp at hl
   | cons q rest=>exact ⟨q.1,q.2,rest,rfl⟩
  have hio0:ops[i0]? = some o0:=hr.there i0 o0 (by rw[hrem0];simp)
  have hlt0:i0<ops.size:=(Array.getElem?_eq_some_iff.1 hio0).1;have hi0c:i0<c:=hr.small i0 o0 (by rw[hrem0];simp)
  have hun0:listed.getD i0 true=false:=(hr.left i0 hlt0).2 (.inl ⟨o0,by rw[hrem0];simp⟩)
  refine ⟨fun hnone=>?_,fun i hi=>?_⟩
  ·exfalso
   have hmem:i0∈Region.ready .any ops listed:=by
    refine mem_ready.2 ⟨hun0,o0,hio0,fun e he hb=>?_⟩
    have hedge:=(hget i0 o0 hio0).1;unfold W5 at hedge;have he' := List.all_eq_true.1 hedge e (Array.mem_toList_iff.2 he);simp only[hb,Bool.not_true,Bool.false_or] at he'
    have hlt' : e.on<i0:=by simpa using he'
    have hnot:¬listed.getD e.on true=false:=by
     rw[hr.left e.on (by omega)]
     rintro (⟨o',ho'⟩ | h)
     ·rw[hrem0] at ho'
      have hsrt:=hr.sorted;rw[hrem0] at hsrt;rcases List.mem_cons.1 ho' with h | h
      ·cases h;omega
      ·have:=(List.pairwise_cons.1 hsrt).1 _ h
       simp only at this;omega
     ·omega
    rw[B2a] at hnot;have hsz:e.on<listed.size:=by rw[hr.size];omega
    cases hh:listed.getD e.on false with
    | true=>rfl
    | false=>exact absurd ⟨hsz,hh⟩ hnot
   rw[hnone] at hmem
   cases hmem
  ·obtain ⟨h0,o,hio,hall⟩:=mem_ready.1 hi
   have hlt:i<ops.size:=(Array.getElem?_eq_some_iff.1 hio).1;have hanc:=B5z hr (hget i o hio).2 hall;rcases (hr.left i hlt).1 h0 with ⟨o',ho'⟩ | hci
   case inr=>
    exfalso
    have:=hanc i0 (htl i hci hlt i0 (by omega))
    rw[(B2a.1 hun0).2] at this
    cases this
   have hoo:o' = o:=by have:=hr.there i o' ho';rw[hio] at this;cases this;rfl
   subst hoo;have hic:=hr.small i o' ho';obtain ⟨pre,post,hrem⟩:=List.append_of_mem ho';clear hrem0;subst hrem;have hsrt:=List.pairwise_append.1 hr.sorted;have unlisted:∀q∈pre++(i,o')::post,listed.getD q.1 false=false:=by
    intro q hq;have hq' := hr.there q.1 q.2 hq;have hql:q.1<ops.size:=(Array.getElem?_eq_some_iff.1 hq').1;exact (B2a.1 ((hr.left q.1 hql).2 (.inl ⟨q.2,hq⟩))).2
   have hpre:∀q∈pre,q.1<i∧(anc.getD i 0).testBit q.1=false∧S3 env ops (ft.getD q.1 none) (ft.getD i none) q.2 o' = false:=by
    intro q hq;have hqi:q.1<i:=hsrt.2.2 q hq (i,o') (by simp)
    have hqm:q∈pre++(i,o')::post:=List.mem_append_left _ hq;have hbit:(anc.getD i 0).testBit q.1=false:=by
     cases hh:(anc.getD i 0).testBit q.1 with
     | false=>rfl
     | true=>have:=hanc q.1 hh;rw[unlisted q hqm] at this;cases this
    refine ⟨hqi,hbit,?_⟩
    have hq' := hr.there q.1 q.2 hqm;exact (hcf i o' q.1 q.2 hio hq' hqi (hsk _ ho') (hsk q hqm)).resolve_left (by rw[hbit];simp)
   obtain ⟨ob1,ob2,σ1,_,g1,g2,g3,g4⟩:=A8h hpre hd ho;refine C7k ρ hE hs hio g1 g2 (fun q h=>(D9n h).1) fun y a' hs' => ?_
   have hsub:(pre++post).Sublist (pre++(i,o')::post):=List.Sublist.append (List.Sublist.refl _) (List.sublist_cons_self _ _);refine ih (pre++post) _ σ1 ob2 y a' (by simp only[List.length_append,List.length_cons] at hl ⊢;omega) (fun q hq=>hsk q (hsub.subset hq)) (hr.step hsrt hlt hanc) g3 g4 hs'

theorem A1z:∀{l:List Oper} {k i:Nat} {o:Oper},(i,o)∈U8 k l↔k<=i∧l[i-k]? = some o
 | [],k,i,o=>by simp [U8]
 | x::l,k,i,o=>by
  simp only[U8,List.mem_cons,Prod.mk.injEq,A1z (l:=l)];constructor
  ·rintro (⟨rfl,rfl⟩ | ⟨h1,h2⟩)
   ·simp
   ·refine ⟨by omega,?_⟩
    rw[show i-k=(i-(k+1))+1 from by omega,List.getElem?_cons_succ];exact h2
  ·rintro ⟨h1,h2⟩
   by_cases hik:i=k
   ·subst hik;simp at h2;exact .inl ⟨rfl,h2.symm⟩
   ·right
    refine ⟨by omega,?_⟩
    rw[show i-k=(i-(k+1))+1 from by omega,List.getElem?_cons_succ] at h2;exact h2

theorem A8s:∀(l:List Oper) (k:Nat),(U8 k l).Pairwise fun a b=>a.1<b.1
 | [],_=>.nil
 | x::l,k=>by
  simp only[U8,List.pairwise_cons];refine ⟨fun q hq=>?_,A8s l (k+1)⟩
  obtain ⟨i,o⟩:=q;have:=(A1z.1 hq).1
  simp only;omega

theorem C4r:∀(l:List Oper) (k:Nat),(U8 k l).length=l.length
 | [],_=>rfl
 | _::l,k=>by simp [U8,C4r l]

theorem Rem.all (anc:List Nat) (c:Nat):Rem ops anc c (Array.replicate ops.size false) (U8 0 (ops.toList.take c)) where
 sorted:=A8s _ _
 there i o h:=by
  have:=(A1z.1 h).2
  rw[Nat.sub_zero,List.getElem?_take] at this;split at this
  ·simpa using this
  ·cases this
 small i o h:=by
  have:=(A1z.1 h).2
  rw[Nat.sub_zero,List.getElem?_take] at this;split at this
  ·assumption
  ·cases this
 size:=by simp
 left i hi:=by
  constructor
  ·intro _
   rcases Nat.lt_or_ge i c with h | h
   ·exact .inl ⟨ops[i],A1z.2 ⟨Nat.zero_le _,by rw[Nat.sub_zero,List.getElem?_take_of_lt h];simp [hi]⟩⟩
   ·exact .inr h
  ·intro _;simp [hi]
 closed i hi h:=by simp [hi] at h

theorem B8q {x:Ctx} {m:Nat->Option En} (h:Mem x m):Tr x none { x with w:={ x.w with drawn:=x.w.drawn+1 } } m:=by
 have hx:Ext x { x with w:={ x.w with drawn:=x.w.drawn+1 } }:=⟨Nat.le_refl _,fun _ h=>⟨h,rfl⟩,fun _ _=>rfl,fun _ _=>rfl,fun _ _ cs _ h=>⟨cs,h,rfl⟩⟩
 refine ⟨hx,⟨h.dom,h.fl,h.nil,fun p e hp hr=>?_,h.inj,h.own,h.fw⟩,rfl,rfl,rfl,fun _ _ _=>rfl,fun _ hp=>.inl ⟨hp,rfl⟩,fun _ hb=>.inl hb⟩
 obtain ⟨cs,ty,hc,hd⟩:=h.ent p e hp hr;exact ⟨cs,ty,hc,K4 hx hd⟩

theorem Sim.drew {σ:St} {x:Ctx} {a:Act} (h:Sim w0 F0 K as σ x a):Sim w0 F0 K as σ { x with w:={ x.w with drawn:=x.w.drawn+1 } } a:=
 ⟨h.defers,h.nt,fun t=>A1q (B8q h.mem).ext (h.t t),(B8q h.mem).mem,h.base.tr (B8q h.mem) rfl,h.frs.ext (B8q h.mem).ext⟩

/-! Code. -/
/-- Right behind the entry of a loop. -/
def wpL (P:Program) (ρ:Option Nat) (c:Code) (Q:Exit->Act->World->Prop) (a:Act) (w:World):Prop:=
 ∀(b:Frame) (k:List Item) (cs:List Frame),b.roundOf=ρ->∃e a' w',Q e a' w' ∧ ArrivesIn (Machine.fenced P (J4 ρ)) P (lone (b.atR a (.code c :: .inLoop c::k)) cs w) b k cs e a' w'

theorem B6j {ρ:Option Nat} {c:Code} {a:Act} {w:World} (h:wpL P ρ c Q a w):(Code.loop c).wpIn (J4 ρ) 0 P Q a w:=by
 intro b k cs hro hb hr;obtain ⟨e,a',w',hq,harr⟩:=h b k cs (hro.trans (B1y ρ));exact ⟨e,a',w',hq,.of_steps (.one (fenced_calm hb hr rfl) stepR_loop) harr⟩

theorem A4w {ρ:Option Nat} {c:Code} {a:Act} {w:World} (h:c.wpIn (J4 ρ) 0 P (Exit.then (wpL P ρ c Q) Q) a w):wpL P ρ c Q a w:=by
 intro b k cs hro;have hro' : b.roundOf=(J4 ρ).round:=hro.trans (B1y ρ).symm;have hb:=A7j ρ b.fn;have hr:=D4w ρ (cs.length+1+0);obtain ⟨e,a₁,w₁,hq,harr⟩:=h b (.inLoop c::k) cs hro' hb hr
 cases e with
 | normal=>
  obtain ⟨e₂,a₂,w₂,hq₂,harr₂⟩:=hq b k cs hro;exact ⟨e₂,a₂,w₂,hq₂,.of_steps (StepsIn.trans harr (.one (fenced_calm hb hr rfl) stepR_inLoop)) harr₂⟩
 | exit id=>exact ⟨_,a₁,w₁,hq,.pass (x:=.inLoop c) rfl (fun _ _=>.inl (by simp)) harr⟩
 | goto l=>exact ⟨_,a₁,w₁,hq,.pass (x:=.inLoop c) rfl (fun _ _=>.inl (by simp)) harr⟩
 | ret=>exact ⟨_,a₁,w₁,hq,.pass (x:=.inLoop c) rfl (fun _ _=>.inl (by simp)) harr⟩
 | panic ch=>exact ⟨_,a₁,w₁,hq,.pass (x:=.inLoop c) rfl (fun _ _=>.inl (by simp)) harr⟩
 | outgrown=>exact ⟨_,a₁,w₁,hq,.pass (x:=.inLoop c) rfl (fun _ _=>.inl (by simp)) harr⟩

/-- The round in which the top frame of a stack stands: a function that was stepped into stands in none. -/
def A3n:List KI->Bool
 | []=>false
 | .fr _ _ _::_=>true
 | .code _::k=>A3n k
 | .blk _::k=>A3n k
 | .lp _::k=>A3n k
 | .ops _ _ _::k=>A3n k
 | .any _ _ _::k=>A3n k
def T0 (ρ:Option Nat) (k:List KI):Option Nat:=if A3n k then none else ρ

/-- What a stack leads to, with the callers that wait. -/
def wpK (P:Program) (Q:Exit->Act->World->Prop) (ρ:Option Nat):List KI->List Act->Exit->Act->World->Prop
 | [],_=>Q
 | .code c::k,as=>Exit.then (c.wpIn (J4 (T0 ρ k)) 0 P (wpK P Q ρ k as)) (wpK P Q ρ k as)
 | .blk id::k,as=>Exit.inBlock id (wpK P Q ρ k as)
 | .lp c::k,as=>Exit.then (wpL P (T0 ρ k) c (wpK P Q ρ k as)) (wpK P Q ρ k as)
 | .ops l i _::k,as=>Exit.then (wpOpsIn (J4 (T0 ρ k)) 0 P l (wpK P Q ρ k as) (List.range' i (l.size-i))) (wpK P Q ρ k as)
 | .any l _ rem::k,as=>Exit.then (fun a w=>∀listed,Rem l (C8m l.toList []) l.size listed rem->wpAnyIn (J4 (T0 ρ k)) 0 P .any l (wpK P Q ρ k as) rem.length listed a w) (wpK P Q ρ k as)
 | .fr fn dst _::k,aS::as=>fun e a w=>(e = .ret∨e = .normal)∧a.defers=[]∧∃v,(results fn a.tmps).run P w = .ok v w∧wpK P Q ρ k as .normal (aS.put dst v) w
 | .fr _ _ _::_,[]=>fun _ _ _=>False

end
end

section

section
variable {P:Program} {w0:World} {F0:Nat->Prop} {K:Kp} {as:List Act} {env:Env} {Q:Exit->Act->World->Prop} {x:Ctx} {a:Act}

theorem Sim.nx {σ:St} (h:Sim w0 F0 K as σ x a) (n:Nat):Sim w0 F0 K as { σ with nx:=n } x a:=⟨h.defers,h.nt,h.t,h.mem,h.base,h.frs⟩

theorem D0t {m:Nat->Option En} {s:SV} {i:TyI} {r:List Prop×V1} {v:Value} (h:A7s m s i=some r) (hd:B8 x s v):∃ad,v = .pointer (some ad):=by
 unfold A7s at h;split at h
 ·exact ⟨_,(A8f hd).2⟩
 ·exact ⟨_,(E7p hd).2⟩
 ·obtain ⟨b,o,cs,d,rfl,_⟩:=F1q hd;exact ⟨_,rfl⟩
 ·cases h

def G2f (tmps:Array Value):ResultVar->Sem Value
 | .tmp t=>pure (tmps.getD t undef)
 | .cell ad t=>asAddr (tmps.getD ad undef) >>= loadVar t

theorem E2p (fn:Func) (tmps:Array Value):results fn tmps=(fn.results.mapM (G2f tmps)) >>= fun vs=>pure (if h:vs.size=1 then vs[0] else .tuple vs):=rfl

theorem A6p (hE:A9 P env) {σ:St} (hm:Mem x σ.m) (ht:∀t,B8 x (σ.t t) (a.tmps.getD t undef)):∀{l:List ResultVar} {o:List Prop} {r:List V1},A8p env σ l=some (o,r)->B1 o ->
  ∃vs,(l.mapM (G2f a.tmps)).run P x.w = .ok vs x.w∧A3j x r vs
 | [],o,r,h,_=>by simp [A8p] at h;obtain ⟨_,rfl⟩:=h;exact ⟨[],by simp,.nil⟩
 | .tmp t::l,o,r,h,ho=>by
  simp only[A8p] at h;split at h
  ·rename_i v o' r' hv hl
   cases h
   have hd:=ht t;rw[hv] at hd;obtain ⟨vs,hr,hvs⟩:=A6p hE hm ht hl ho;refine ⟨_::vs,?_,.cons hd hvs⟩
   rw[List.mapM_cons];simp only[G2f,Sem.run_bind,Sem.run_pure,Result.andThen_ok,hr]
  ·cases h
 | .cell ad t::l,o,r,h,ho=>by
  simp only[A8p] at h;split at h
  ·rename_i i hi
   split at h
   ·rename_i o1 v o2 r' hv hl
    cases h
    have ho:=E0.1 ho;obtain ⟨u,hu,hdu⟩:=A8l (hE.ty t i hi) hm (fun _ _ h=>h) (ht ad) hv ho.1
    obtain ⟨adr,hadr⟩:=D0t hv (ht ad);obtain ⟨vs,hr,hvs⟩:=A6p hE hm ht hl ho.2;refine ⟨u::vs,?_,.cons hdu hvs⟩
    rw[List.mapM_cons];rw[hadr] at hu;have hlv:(loadVar t adr).run P x.w = .ok u x.w:=by simpa [Instr.loadAt,Instr.sureAddr] using hu
    have hcell:(G2f a.tmps (.cell ad t)).run P x.w = .ok u x.w:=by
     simp only[G2f,hadr,asAddr,Sem.run_bind,Sem.run_pure,Result.andThen_ok,hlv]
    simp only[Sem.run_bind,Sem.run_pure,Result.andThen_ok,hcell,hr]
   ·cases h
  ·cases h

theorem P2 (hE:A9 P env) {σ:St} {fn:Func} (hm:Mem x σ.m) (ht:∀t,B8 x (σ.t t) (a.tmps.getD t undef)) {o:List Prop} {r:List V1} (h:A8p env σ fn.results.toList=some (o,r)) (ho:B1 o) :
  ∃v,(results fn a.tmps).run P x.w = .ok v x.w∧B8 x (C8c r) v:=by
 obtain ⟨vs,hr,hvs⟩:=A6p hE hm ht h ho;have hlen:∀{r:List V1} {vs:List Value},A3j x r vs->vs.length=r.length:=by
  intro r vs h;induction h with
  | nil=>rfl
  | cons _ _ ih=>simp [ih]
 have hl:=hlen hvs;refine ⟨if h:vs.toArray.size=1 then vs.toArray[0] else .tuple vs.toArray,?_,?_⟩
 ·rw[E2p,Array.mapM_eq_mapM_toList]
  simp only[Sem.run_bind,Sem.run_map,hr];rfl
 ·unfold C8c
  split
  ·cases hvs with
   | cons h1 h2=>
    cases h2
    exact h1
  ·rename_i hne
   have h1:¬vs.toArray.size=1:=by
    intro h;simp only[List.size_toArray] at h;rw[hl] at h;match r,h with
    | [v],_=>exact hne v rfl
   rw[dif_neg h1];exact ⟨vs,rfl,hvs⟩

theorem D4q {ops:Array Oper} {anc:List Nat} {ft:List (Option (List Nat))} (hok:A9b env ops anc ft ops.toList 0=true):(∀i o,ops[i]? = some o->W5 i o=true∧anc.getD i 0=A5f anc o)∧H4c env ops anc ft fun _=>false:=by
 have hget:∀i o,ops[i]? = some o->W5 i o=true∧anc.getD i 0=A5f anc o∧B5i env ops ft (ft.getD i none) o (anc.getD i 0) (ops.toList.take i) 0=true:=by
  intro i o hi;have:=C0b hok i o (by simpa using hi)
  simpa using this
 refine ⟨fun i o h=>⟨(hget i o h).1,(hget i o h).2.1⟩,fun i o j x hi hj hlt _ _=>?_⟩
 have:=C2r (hget i o hi).2.2 j x (by rw[List.getElem?_take_of_lt hlt];simpa using hj)
 simpa using this

theorem B6z {ops:Array Oper} {o:Oper} {anc ex:Nat}:∀{l:List Oper} {k:Nat},B3d env ops ex o anc l k=true->∀j x,l[j]? = some x->k+j=ex∨anc.testBit (k+j)=true∨S3 env ops none none x o=false
 | [],_,_,j,x,h=>by simp at h
 | y::l,k,h,j,x,hj=>by
  simp only[B3d,Bool.and_eq_true,Bool.or_eq_true,Bool.not_eq_true'] at h
  cases j with
  | zero=>
   simp only[List.getElem?_cons_zero,Option.some.injEq] at hj;subst hj;rcases h.1 with (h1 | h1) | h1
   ·exact .inl (Nat.eq_of_beq_eq_true h1)
   ·exact .inr (.inl h1)
   ·exact .inr (.inr h1)
  | succ j=>
   simp only[List.getElem?_cons_succ] at hj;have:=B6z h.2 j x hj
   rw[show k+1+j=k+(j+1) from by omega] at this
   exact this

theorem A5n {ops:Array Oper} {anc:List Nat} {ex:Nat}:∀{l:List Oper} {k:Nat},B1s env ops anc ex l k=true->∀j x,l[j]? = some x ->
  W5 (k+j) x=true∧anc.getD (k+j) 0=A5f anc x∧(k+j=ex∨B3d env ops ex x (anc.getD (k+j) 0) (ops.toList.take (k+j)) 0=true)
 | [],_,_,j,x,h=>by simp at h
 | y::l,k,h,j,x,hj=>by
  simp only[B1s,Bool.and_eq_true,Bool.or_eq_true] at h
  cases j with
  | zero=>
   simp only[List.getElem?_cons_zero,Option.some.injEq] at hj;subst hj;refine ⟨h.1.1.1,Nat.eq_of_beq_eq_true h.1.1.2,?_⟩
   rcases h.1.2 with h1 | h1
   ·exact .inl (Nat.eq_of_beq_eq_true h1)
   ·exact .inr h1
  | succ j=>
   simp only[List.getElem?_cons_succ] at hj;have:=A5n h.2 j x hj
   rw[show k+1+j=k+(j+1) from by omega] at this
   exact this

theorem C9i {ops:Array Oper} {anc:List Nat} {ex:Nat} (hok:B1s env ops anc ex ops.toList 0=true):(∀i o,ops[i]? = some o->W5 i o=true∧anc.getD i 0=A5f anc o)∧H4c env ops anc [] fun i=>Nat.beq i ex:=by
 refine ⟨fun i o h=>?_,fun i o j x hi hj hlt hsi hsj=>?_⟩
 ·have:=A5n hok i o (by simpa using h)
  rw[Nat.zero_add] at this;exact ⟨this.1,this.2.1⟩
 ·have:=A5n hok i o (by simpa using hi)
  rw[Nat.zero_add] at this;have h1:i≠ex:=fun e=>by rw[e] at hsi;simp at hsi
  have h2:j≠ex:=fun e=>by rw[e] at hsj;simp at hsj
  have:=B6z (this.2.2.resolve_left h1) j x (by rw[List.getElem?_take_of_lt hlt];simpa using hj)
  rw[Nat.zero_add] at this;exact this.resolve_left h2

theorem A2n {ρ:Option Nat} (hE:A9 P env) {k:List KI} {σ σ' : St} {id c:Nat} {ops:Array Oper} {dec:List (Nat×Bool)} {ob:List Prop} {ft:List (Option (List Nat))} {kk:List (Nat×Nat)} (hok:A9b env ops (C8m ops.toList []) ft ops.toList 0=true) (hc:c<=ops.size)
  (htl:∀i,c<=i->i<ops.size->∀j,j<i->((C8m ops.toList []).getD i 0).testBit j=true)
  (hd:T9 env dec ops.toList (C8m ops.toList []) ft kk σ.nx (U8 0 (ops.toList.take c)) σ=some (ob,σ')) (ho:B1 ob) (hs:Sim w0 F0 K as σ x a) (hK:∀y a',Sim w0 F0 K as { σ' with nx:=σ.nx+16*ops.size } y a' -> wpOpsIn (J4 (T0 ρ k)) 0 P ops (wpK P Q ρ k as) (List.range' c (ops.size-c)) a' y.w) :
  (Code.region id ops true).wpIn (J4 (T0 ρ k)) 0 P (wpK P Q ρ k as) a x.w:=by
 refine wpIn_region_any hE.mixed ?_
 obtain ⟨hget,hcf⟩:=D4q hok;have:=E4w (T0 ρ k) (x:={ x with w:={ x.w with drawn:=x.w.drawn+1 } }) hE hget hcf htl (fun y a' h=>hK y a' (h.nx _)) c (U8 0 (ops.toList.take c)) _ σ ob a (by rw[C4r,List.length_take];simp;omega) (fun _ _=>rfl) (Rem.all _ _) hd ho hs.drew
 rwa [show c+(ops.size-c)=ops.size from by omega] at this

theorem B9w:∀(l:List (Nat×Oper)),(B4h env l).1++(B4h env l).2=l
 | []=>rfl
 | q::l=>by
  simp only[B4h];split
  ·rfl
  ·have:=B9w l
   simp only[List.cons_append,this]

/-- Sorted places from a first one on, as many as there are up to the end, are all. -/
theorem D8n:∀{l:List (Nat×Oper)} {c n:Nat},l.Pairwise (fun a b=>a.1<b.1)->(∀q∈l,c<=q.1∧q.1<n)->l.length=n-c->∀i,c<=i->i<n->∃o,(i,o)∈l
 | [],c,n,_,_,hl,i,h1,h2=>by simp at hl;omega
 | q::l,c,n,hs,hb,hl,i,h1,h2=>by
  have hs' := List.pairwise_cons.1 hs;have hq:=hb q (by simp)
  have hb2:∀r∈l,c+1<=r.1∧r.1<n:=fun r hr=>by
   have h3:=hs'.1 r hr;have:=hb r (by simp [hr])
   omega
  simp only[List.length_cons] at hl;by_cases hi:i=c
  ·by_cases hqc:q.1=c
   ·exact ⟨q.2,by rw[hi,<-hqc];simp⟩
   ·exfalso
    have hle:∀{l:List (Nat×Oper)} {c n:Nat},l.Pairwise (fun a b=>a.1<b.1)->(∀q∈l,c<=q.1∧q.1<n)->l.length<=n-c:=by
     intro l;induction l with
     | nil=>intros;simp
     | cons r l ih=>
      intro c n hs hb;have hs' := List.pairwise_cons.1 hs;have h1:=hb r (by simp)
      have:=ih (c:=r.1+1) (n:=n) hs'.2 fun t ht=>⟨hs'.1 t ht,(hb t (by simp [ht])).2⟩
      simp only[List.length_cons];omega
    have:=hle (c:=q.1+1) (n:=n) hs'.2 fun t ht=>⟨hs'.1 t ht,(hb t (by simp [ht])).2⟩
    omega
  ·obtain ⟨o,ho⟩:=D8n hs'.2 hb2 (by omega) i (by omega) h2
   exact ⟨o,by simp [ho]⟩

theorem C4d {anc:List Nat} {n c:Nat} (h:D3f anc n c=true):c<=n∧∀i,c<=i->i<n->∀j,j<i->(anc.getD i 0).testBit j=true:=by
 unfold D3f at h;simp only[Bool.and_eq_true] at h;refine ⟨Nat.le_of_ble_eq_true h.1,fun i hi hn j hj=>?_⟩
 have h2:=List.all_eq_true.1 h.2 i (List.mem_range.2 hn);rw[Bool.or_eq_true] at h2;rcases h2 with h2 | h2
 ·have:i<c:=by simpa using h2
  omega
 ·exact List.all_eq_true.1 h2 j (List.mem_range.2 hj)

theorem D8l {ρ:Option Nat} (hE:A9 P env) {unroll:Bool} {k:List KI} {σ:St} {path:List Bool} {c:Code} {out:Out} (h:D8k env unroll k σ path c=some out) (ho:B1 out.obl) (hs:Sim w0 F0 K as σ x a)
  (hK:∀y a',Sim w0 F0 K as out.cfg.σ y a' -> wpK P Q ρ out.cfg.k as out.cfg.x a' y.w):c.wpIn (J4 (T0 ρ k)) 0 P (wpK P Q ρ k as) a x.w:=by
 unfold D8k at h;split at h
 ·cases h;exact wpIn_skip (hK x a hs)
 ·cases h;exact wpIn_seq (hK x a hs)
 ·cases h;exact wpIn_block (hK x a hs)
 ·split at h
  ·cases h;exact B6j (A4w (hK x a hs))
  ·cases h
 ·cases h;exact wpIn_exit (hK x a hs)
 ·cases h;exact wpIn_ret (hK x a hs)
 ·rename_i o c1 c2
  have hd:=B4m hs.t o;split at h
  ·rename_i d hv
   cases h
   rw[hv] at hd;have:=hK x a hs
   refine wpIn_cond (D3r hd) ?_
   cases d<;>exact this
  ·rename_i b hv
   split at h
   ·rename_i d path'
    cases h
    obtain ⟨rfl,_⟩:=ho;rw[hv] at hd;have:=hK x a hs
    refine wpIn_cond (B8r hd) ?_
    cases b<;>exact this
   ·cases h
  ·cases h
 ·rename_i id ops draw
  split at h
  ·cases h
  ·rename_i dec path' _
   split at h
   ·rename_i hdraw
    subst hdraw;dsimp only at h;split at h
    ·rename_i hok
     split at h
     ·split at h
      ·rename_i ob σ' hd
       cases h
       refine A2n (c:=ops.size) hE hok (Nat.le_refl _) (fun i h1 h2=>absurd h2 (by omega)) (by rwa [List.take_of_length_le (by simp)]) ho hs fun y a' hs' => ?_
       rw[Nat.sub_self];exact hK y a' hs'
      ·cases h
     ·split at h
      ·rename_i c hca htl
       split at h
       ·rename_i ob σ' hd
        cases h
        obtain ⟨h1,h2⟩:=C4d htl;exact A2n hE hok h1 h2 hd ho hs hK
       ·cases h
      ·cases h
    ·cases h
   ·rename_i hdraw
    cases h
    have hdf:draw=false:=by simpa using hdraw
    subst hdf;have:=hK x a hs
    refine wpIn_region ?_
    rw[List.range_eq_range'];exact this
 ·cases h

theorem E0o (ops:List Oper) (o:Oper) (t:Nat->SV):D0d ops o t=L0 ops o t:=rfl

theorem D5u (hE:A9 P env) {σ:St} {o:Oper} {fn:Func} {b:Code} {args:List SV} (hs:Sim w0 F0 K as σ x a) (h:D5t env σ o=some (fn,b,args)) :
  ∃g vs,P.funcs[g]? = some fn∧fn.body=some b∧I7 x args vs∧(execOp a.eval o).run P x.w = .ok (.enter g vs.toArray) x.w:=by
 unfold D5t at h;split at h
 ·rename_i c hop
  split at h
  ·rename_i f hcal
   split at h
   ·rename_i g caps hf
    split at h
    ·rename_i fn' _ _ hin
     split at h
     ·rename_i b' hb
      cases h
      obtain ⟨hfn,hent⟩:=hE.inl g fn hin;have hρ:∀o,B8 x (σ.ev o) (a.eval o):=fun o=>B4m hs.t o
      have hd:=hρ f;rw[hf] at hd;obtain ⟨hk,hv⟩:=D3q hd;refine ⟨g,_,hfn,hb,A4g (N6 hρ c.args.toList) (C5w caps hk),?_⟩
      have hargs:(c.args.toList.map a.eval++caps.map fun c=>Value.pointer (some ⟨x.β c.1,c.2,none⟩)).toArray=c.args.map a.eval++(caps.map fun c=>Value.pointer (some ⟨x.β c.1,c.2,none⟩)).toArray:=by
       apply Array.toList_inj.1;simp
      rw[hargs];have he:=hent (c.args.map a.eval++(caps.map fun c=>Value.pointer (some ⟨x.β c.1,c.2,none⟩)).toArray) x.w
      simp only[execOp,hop,resolve,hcal,Deferred.ofValue,hv,Sem.run_bind,Sem.run_pure,Result.andThen_ok,invoke];simpa using he
     ·cases h
    ·cases h
   ·cases h
  ·cases h
 ·cases h

theorem E0q {σ:St} {o:Oper} {r:Func×Code×List SV} (h:D5t env σ o=some r):∀c,o.op ≠ .defer c:=by
 intro c hc;unfold D5t at h;rw[hc] at h
 cases h

theorem B1z {ρ:Option Nat} (hE:A9 P env) {σ σ' : St} {fn:Func} {dst:Option Nat} {dec:List (Nat×Bool)} {ob:List Prop} {k:List KI} (h:C9v env σ fn dst dec=some (ob,σ')) (ho:B1 ob) (hs:Sim w0 F0 K as σ x a)
  (hK:∀as' a',(∃b,as=b::as')->Sim w0 F0 K as' σ' x a' -> wpK P Q ρ k as' .normal a' x.w) {e:Exit} (he:e = .ret∨e = .normal):wpK P Q ρ (.fr fn dst dec::k) as e a x.w:=by
 unfold C9v at h;split at h
 ·rename_i ob1 r tS ntS fr hres hfr
  have hfrs:=hs.frs;have hdf:=hs.defers;rw[hfr] at hfrs hdf
  cases hfrs with
  | cons h1 h2 h3 h4=>
   rename_i aS as'
   split at h
   ·cases h
    obtain ⟨v,hv,hdv⟩:=P2 hE hs.mem hs.t hres ho;exact ⟨he,hdf,v,hv,hK as' (aS.put none v) ⟨aS,rfl⟩ ⟨h1,h2,h3,hs.mem,hs.base,h4⟩⟩
   ·rename_i d
    split at h
    ·rename_i hlt
     cases hdv:A1b dec d (C8c r) with
     | mk o' s=>
      simp only[hdv] at h
      cases h
      have ho:=E0.1 ho;obtain ⟨v,hv,hden⟩:=P2 hE hs.mem hs.t hres ho.2;refine ⟨he,hdf,v,hv,hK as' (aS.put (some d) v) ⟨aS,rfl⟩ ⟨h1,by simp [Act.put,h2],fun t=>?_,hs.mem,hs.base,h4⟩⟩
      simp only[Act.put];rw[C1f _ _ _ _ (by rw[h2];exact hlt)]
      by_cases htd:t=d
      ·subst htd;simp only[Q8,if_true];exact B6q hdv ho.1 hden
      ·simp only[Q8,htd,if_false];exact h3 t
    ·cases h
 ·cases h

theorem A3g {args:List SV} {vs:List Value} (h:I7 x args vs) (n:Nat):∀t,B8 x (B3z args t) ((vs.toArray++Array.replicate n undef).getD t undef):=by
 induction h with
 | nil=>intro t;trivial
 | cons h1 _ ih=>
  intro t
  cases t with
  | zero=>simpa [B3z,Array.getElem?_append] using h1
  | succ t=>
   have:=ih t
   simpa [B3z,Array.getElem?_append] using this

theorem B4i {args:List SV} {vs:List Value} (h:I7 x args vs):vs.length=args.length:=by
 induction h with
 | nil=>rfl
 | cons _ _ ih=>simp [ih]

/-- How many callers wait. -/
def nfr:List KI->Nat
 | []=>0
 | .fr _ _ _::k=>nfr k+1
 | _::k=>nfr k

theorem F1b {unroll:Bool} {k:List KI} {σ:St} {path:List Bool} {c:Code} {out:Out} (h:D8k env unroll k σ path c=some out):nfr out.cfg.k=nfr k:=by
 unfold D8k at h;split at h
 ·cases h;rfl
 ·cases h;rfl
 ·cases h;rfl
 ·split at h
  ·cases h;rfl
  ·cases h
 ·cases h;rfl
 ·cases h;rfl
 ·split at h
  ·cases h;rfl
  ·split at h
   ·cases h;rfl
   ·cases h
  ·cases h
 ·split at h
  ·cases h
  ·split at h
   ·dsimp only at h
    split at h
    ·split at h
     ·split at h
      ·cases h;rfl
      ·cases h
     ·split at h
      ·split at h
       ·cases h;rfl
       ·cases h
      ·cases h
    ·cases h
   ·cases h;rfl
 ·cases h

theorem B7g {ρ:Option Nat} (hE:A9 P env) {unroll:Bool} {c:Cfg} {path:List Bool} {out:Out} (h:step env unroll c path=some out) (ho:B1 out.obl) (hs:Sim w0 F0 K as c.σ x a)
  (hK:∀as' y a',as'.drop (nfr out.cfg.k)=as.drop (nfr c.k)->Sim w0 F0 K as' out.cfg.σ y a' -> wpK P Q ρ out.cfg.k as' out.cfg.x a' y.w):wpK P Q ρ c.k as c.x a x.w:=by
 unfold step at h;split at h
 ·rename_i c' k hx hk
  rw[hx,hk];rw[hk] at hK;exact D8l hE h ho hs fun y a' hs' => hK as y a' (by rw[F1b h];rfl) hs'
 ·rename_i id k hx hk
  rw[hx,hk];rw[hk] at hK
  cases h
  exact hK as x a rfl hs
 ·rename_i c' k hx hk
  rw[hx,hk];rw[hk] at hK;split at h
  ·cases h;exact A4w (hK as x a rfl hs)
  ·cases h
 ·rename_i ops i dec k hx hk
  rw[hx,hk];rw[hk] at hK;show wpOpsIn (J4 (T0 ρ k)) 0 P ops (wpK P Q ρ k as) (List.range' i (ops.size-i)) a x.w;split at h
  ·rename_i o hi
   have hlt:i<ops.size:=(Array.getElem?_eq_some_iff.1 hi).1;rw[show ops.size-i=(ops.size-(i+1))+1 from by omega,List.range'_succ,wpOpsIn_cons]
   split at h
   ·rename_i fn b args hin hw
    split at h
    ·rename_i hle
     cases h
     obtain ⟨g,vs,hfn,hb,hden,hrun⟩:=D5u hE hs hin;have hw' : L0 ops.toList o c.σ.t=some true:=by
      rw[E0o] at hw
      cases hh:L0 ops.toList o c.σ.t with
      | none=>rw[hh] at hw;cases hw
      | some b=>rw[hh] at hw;simp only[D5w] at hw;rw[hw]
     unfold wpOpIn;simp only[hi,A8c hs.t hw',if_true];refine ⟨fun f _=>A7j _ f,?_⟩
     rw[Oper.semAt_eq _ _ _ (E0q hin),hrun];refine ⟨A1e _ 0,D9t _ (calls_of_wp hfn hb ?_)⟩
     have hlen:=B4i hden;have hle' := Nat.le_of_ble_eq_true hle;have:=hK (a::as) x { tmps:=vs.toArray++Array.replicate (fn.ntmps-vs.toArray.size) undef,defers:=[] } rfl
      ⟨rfl,by simp;omega,A3g hden _,hs.mem,hs.base,.cons hs.defers hs.nt hs.t hs.frs⟩
     refine wp_mono (wpIn_wide.1 this) fun e a1 w1 hq=>?_
     obtain ⟨he,hdf,v,hv,hk'⟩:=hq;rcases he with rfl | rfl
     ·exact ⟨hdf,v,hv,hk'⟩
     ·exact ⟨hdf,v,hv,hk'⟩
    ·cases h
   ·split at h
    ·rename_i ob σ' hop
     cases h
     exact C7k _ hE hs hi hop ho (fun q h=>by simpa using h) fun y a' hs' => hK as y a' rfl (hs'.nx _)
    ·cases h
  ·rename_i hi
   cases h
   have:ops.size-i=0:=by have:=Array.getElem?_eq_none_iff.1 hi;omega
   rw[this];exact hK as x a rfl hs
 ·rename_i ops ex rem k hx hk
  rw[hx,hk];rw[hk] at hK;dsimp only at h;generalize hcut:B4h env rem=cr at h;obtain ⟨pre,post⟩:=cr;dsimp only at h;split at h
  ·rename_i hc
   split at h
   ·rename_i ob σ' hd
    cases h
    simp only[Bool.and_eq_true,Nat.beq_eq] at hc;obtain ⟨hok,htl,⟨_,hpre⟩,hlen⟩:=hc;have happ:pre++post=rem:=by have:=B9w (env:=env) rem;rw[hcut] at this;exact this
    show (fun a w=>∀listed,Rem ops (C8m ops.toList []) ops.size listed rem->wpAnyIn (J4 (T0 ρ k)) 0 P .any ops (wpK P Q ρ k as) rem.length listed a w) a x.w
    intro listed hr;obtain ⟨hget,hcf⟩:=C9i hok;obtain ⟨h1,h2⟩:=C4d htl;have hpre' : ∀q∈pre,q.1<A6o ops.size post∧Nat.beq q.1 ex=false:=fun q hq=>by
     have:=List.all_eq_true.1 hpre q hq
     simp only[Bool.and_eq_true,Bool.not_eq_true'] at this;exact ⟨by simpa using this.1,this.2⟩
    subst happ;have hsrt:=List.pairwise_append.1 hr.sorted;have hpost:∀q∈post,A6o ops.size post<=q.1∧q.1<ops.size:=by
     intro q hq;refine ⟨?_,(Array.getElem?_eq_some_iff.1 (hr.there q.1 q.2 (List.mem_append_right _ hq))).1⟩
     cases post with
     | nil=>cases hq
     | cons r l=>
      rcases List.mem_cons.1 hq with rfl | hq
      ·exact Nat.le_refl _
      ·exact Nat.le_of_lt ((List.pairwise_cons.1 hsrt.2.1).1 q hq)
    have hr2:Rem ops (C8m ops.toList []) (A6o ops.size post) listed pre:=by
     refine ⟨hsrt.1,fun i o h=>hr.there i o (List.mem_append_left _ h),fun i o h=>(hpre' _ h).1,hr.size,fun i hi=>?_,hr.closed⟩
     rw[hr.left i hi];constructor
     ·rintro (⟨o,ho⟩ | h)
      ·rcases List.mem_append.1 ho with h | h
       ·exact .inl ⟨o,h⟩
       ·exact .inr (hpost _ h).1
      ·omega
     ·rintro (⟨o,ho⟩ | h)
      ·exact .inl ⟨o,List.mem_append_left _ ho⟩
      ·obtain ⟨o,ho⟩:=D8n hsrt.2.1 hpost hlen i h hi
       exact .inl ⟨o,List.mem_append_right _ ho⟩
    have:=E4w (T0 ρ k) (sk:=fun i=>Nat.beq i ex) hE hget hcf h2 (fun y a' h=>hK as y a' rfl (h.nx _)) pre.length pre listed c.σ ob x a rfl (fun q hq=>(hpre' q hq).2) hr2 hd ho hs
    rwa [<-hlen,<-List.length_append] at this
   ·cases h
  ·cases h
 ·rename_i fn dst dec k hx hk
  rw[hx,hk];rw[hk] at hK;split at h
  ·rename_i ob σ' hb
   cases h
   exact B1z hE hb ho hs (fun as' a' he hs' => hK as' x a' (by obtain ⟨b,rfl⟩:=he;rfl) hs') (.inr rfl)
  ·cases h
 ·rename_i fn dst dec k hx hk
  rw[hx,hk];rw[hk] at hK;split at h
  ·rename_i ob σ' hb
   cases h
   exact B1z hE hb ho hs (fun as' a' he hs' => hK as' x a' (by obtain ⟨b,rfl⟩:=he;rfl) hs') (.inl rfl)
  ·cases h
 ·rename_i id id' k hx hk
  rw[hx,hk];rw[hk] at hK;show (Exit.inBlock id' (wpK P Q ρ k as)) (.exit id) a x.w;simp only[Exit.inBlock];split at h
  ·rename_i he
   cases h
   rw[if_pos he.symm];exact hK as x a rfl hs
  ·rename_i he
   cases h
   rw[if_neg (Ne.symm he)];exact hK as x a rfl hs
 all_goals
  first
   | (rename_i hx hk;rw[hx,hk];rw[hk] at hK;cases h;exact hK as x a rfl hs)
   | cases h

theorem E3c {ρ:Option Nat} (hE:A9 P env) {unroll:Bool} {c:Cfg} {path:List Bool} {out:Out} (h:step env unroll c path=some out) (ho:B1 out.obl) (hs:Sim w0 F0 K as c.σ x a)
  (hK:∀as' y a',Sim w0 F0 K as' out.cfg.σ y a' -> wpK P Q ρ out.cfg.k as' out.cfg.x a' y.w):wpK P Q ρ c.k as c.x a x.w:=
 B7g hE h ho hs fun as' y a' _ hs' => hK as' y a' hs'

theorem C3w {ρ:Option Nat} (hE:A9 P env) {unroll:Bool}:∀(n:Nat) {c:Cfg} {path:List Bool} {as:List Act} {x:Ctx} {a:Act},B1 (run env unroll n c path).obl->Sim w0 F0 K as c.σ x a ->
  (∀as' y a',as'.drop (nfr (run env unroll n c path).cfg.k)=as.drop (nfr c.k)->Sim w0 F0 K as' (run env unroll n c path).cfg.σ y a' -> wpK P Q ρ (run env unroll n c path).cfg.k as' (run env unroll n c path).cfg.x a' y.w)->wpK P Q ρ c.k as c.x a x.w
 | 0,c,path,as,x,a,_,hs,hK=>hK as x a rfl hs
 | n+1,c,path,as,x,a,ho,hs,hK=>by
  unfold run at ho hK
  cases hst:step env unroll c path with
  | none=>simp only[hst] at ho hK;exact hK as x a rfl hs
  | some r=>
   simp only[hst] at ho hK;have ho:=E0.1 ho;exact B7g hE hst ho.1 hs fun as' y a' he hs' => C3w hE n ho.2 hs' fun as2 y2 a2 he2 hs2=>hK as2 y2 a2 (he2.trans he) hs2

theorem A3z {ρ:Option Nat} (hE:A9 P env) {unroll:Bool}:∀(n:Nat) {c:Cfg} {path:List Bool} {as:List Act} {x:Ctx} {a:Act},B1 (run env unroll n c path).obl->Sim w0 F0 K as c.σ x a ->
  (∀as' y a',Sim w0 F0 K as' (run env unroll n c path).cfg.σ y a' -> wpK P Q ρ (run env unroll n c path).cfg.k as' (run env unroll n c path).cfg.x a' y.w)->wpK P Q ρ c.k as c.x a x.w
 | 0,c,path,as,x,a,_,hs,hK=>hK as x a hs
 | n+1,c,path,as,x,a,ho,hs,hK=>by
  unfold run at ho hK
  cases hst:step env unroll c path with
  | none=>simp only[hst] at ho hK;exact hK as x a hs
  | some r=>
   simp only[hst] at ho hK;have ho:=E0.1 ho;exact E3c hE hst ho.1 hs fun as' y a' hs' => A3z hE n ho.2 hs' hK

/-! Functions. -/
theorem D0h {fn:Func} {args:List SV} {vs:List Value} (hlen:args.length<=fn.ntmps) (hk:∀p,x.k p = .no) (hF:∀b,x.F b->b<x.w.heap.size) (h:I7 x args vs) :
  Sim x.w x.F V9 [] (D7 fn.ntmps args) x { tmps:=vs.toArray++Array.replicate (fn.ntmps-vs.toArray.size) undef,defers:=[] } where
 defers:=rfl
 nt:=by have:=B4i h;simp [D7];omega
 t:=A3g h _
 mem:=⟨fun p=>by simp [D7,hk p],fun p l h=>(by cases h),fun p q h=>(by cases h),fun p e h=>(by cases h),fun p q h=>(by rw[hk p] at h;cases h),fun p h=>(by rw[hk p] at h;cases h),hF⟩
 base:=⟨fun b h=>h,fun b h=>.inl h,Nat.le_refl _,fun b _ _=>rfl,fun p h=>(by rw[hk p] at h;cases h),rfl,rfl,rfl,fun q h=>(by cases h)⟩
 frs:=.nil

end
end

section

def D0l (p:Nat):Nat->List Nat->Option Nat
 | _,[]=>none
 | n,q::l=>if q=p then some n else D0l p (n+1) l

def Q0 (p:Nat):List Nat->Bool
 | []=>false
 | q::l=>if q=p then true else Q0 p l

def A1k (m:Nat->Option En) (ps fz:List Nat):It->Option (List Prop×It)
 | .slc p off len es=>match D0l p 0 ps with
  | some i=>some ([],.slc i off len es)
  | none=>if Q0 p fz then match m p with
    | some (.sq q)=>if off=0∧es=q.es then some ([len=q.n],.sl q) else none
    | _=>none
   else none
 | .ptr p off=>match D0l p 0 ps with
  | some i=>some ([],.ptr i off)
  | none=>none
 | .ep p es j off=>match D0l p 0 ps with
  | some i=>some ([],.ep i es j off)
  | none=>none
 | .mp p=>match D0l p 0 ps with
  | some i=>some ([],.mp i)
  | none=>none
 | .clo f []=>some ([],.clo f [])
 | .clo _ _=>none
 | .sv _ _ _ _=>none
 | .int k n=>some ([],.int k n)
 | .bool b=>some ([],.bool b)
 | .lit b=>some ([],.lit b)
 | .rp q i off=>some ([],.rp q i off)
 | .sl q=>some ([],.sl q)
 | .vsl _ _=>none
 | .ob o=>some ([],.ob o)
 | .val v=>some ([],.val v)
 | .ifc t os=>some ([],.ifc t os)
 | .dead=>some ([],.dead)
 | .old n=>some ([],.old n)
 | .arr _ _ _ _=>none

def C7t (m:Nat->Option En) (ps fz:List Nat):List It->Option (List Prop×List It)
 | []=>some ([],[])
 | i::l=>match A1k m ps fz i,C7t m ps fz l with
  | some (o,i),some (o',l)=>some (o++o',i::l)
  | _,_=>none

def rnV (m:Nat->Option En) (ps fz:List Nat):V1->Option (List Prop×V1)
 | .c i=>match A1k m ps fz i with
  | some (o,i)=>some (o,.c i)
  | none=>none
 | .a l=>match C7t m ps fz l with
  | some (o,l)=>some (o,.a l)
  | none=>none

def G2g (m:Nat->Option En) (ps fz:List Nat):List V1->Option (List Prop×List V1)
 | []=>some ([],[])
 | i::l=>match rnV m ps fz i,G2g m ps fz l with
  | some (o,i),some (o',l)=>some (o++o',i::l)
  | _,_=>none

def rnS (m:Nat->Option En) (ps fz:List Nat):SV->Option (List Prop×SV)
 | .v a=>match rnV m ps fz a with
  | some (o,a)=>some (o,.v a)
  | none=>none
 | .t l=>match G2g m ps fz l with
  | some (o,l)=>some (o,.t l)
  | none=>none
 | .top=>some ([],.top)

def D8d (m:Nat->Option En) (ps fz:List Nat):En->Option (List Prop×En)
 | .fl l=>match C7t m ps fz l with
  | some (o,l)=>some (o,.fl l)
  | none=>none
 | .sq q=>some ([],.sq q)

def C3s (m:Nat->Option En) (ps fz:List Nat):List Nat->Option (List Prop×List En)
 | []=>some ([],[])
 | p::l=>match m p with
  | some e=>match D8d m ps fz e,C3s m ps fz l with
   | some (o,e),some (o',l)=>some (o++o',e::l)
   | _,_=>none
  | none=>none

def F0a:List Nat->List Nat->Bool
 | [],_=>true
 | p::l,fz=>!(Q0 p l) && !(Q0 p fz) && F0a l fz

def B5 (env:Env) (fn:Func) (n:Nat) (args:List SV) (path:List Bool) (ps fz:List Nat):Option (List Prop×SV×List En):=
 match I4j env fn n args path with
 | some (ob,_,r,σ)=>
  match rnS σ.m ps fz r,C3s σ.m ps fz ps with
  | some (o1,r'),some (o2,es)=>if F0a ps fz && Nat.ble args.length fn.ntmps then some (ob++(o1++o2),r',es) else none
  | _,_=>none
 | none=>none

theorem C6v {p:Nat}:∀{ps:List Nat} {n i:Nat},D0l p n ps=some i->n<=i∧ps[i-n]? = some p
 | [],n,i,h=>by simp [D0l] at h
 | q::l,n,i,h=>by
  simp only[D0l] at h;split at h
  ·rename_i hq
   cases h
   simp [hq]
  ·obtain ⟨h1,h2⟩:=C6v h
   refine ⟨by omega,?_⟩
   rw[show i-n=(i-(n+1))+1 from by omega,List.getElem?_cons_succ];exact h2

theorem B2f {p:Nat}:∀{l:List Nat},Q0 p l=true↔p∈l
 | []=>by simp [Q0]
 | q::l=>by
  simp only[Q0,List.mem_cons];split
  ·rename_i h;simp [h]
  ·rename_i h
   rw[B2f (l:=l)];constructor
   ·exact fun h=>.inr h
   ·rintro (rfl | h')
    ·exact absurd rfl h
    ·exact h'

def H6 (y:Ctx) (ps fz:List Nat):Ctx:=
  { w:=y.w,F:=fun b=>y.F b∨∃p,p∈fz∧y.k p = .real∧b=y.β p,
    k:=fun i=>match ps[i]? with | some p=>y.k p | none=>.no,
    β:=fun i=>match ps[i]? with | some p=>y.β p | none=>0 }

section
variable {P:Program} {y:Ctx} {m:Nat->Option En} {ps fz:List Nat}

theorem E5x {p i:Nat} (h:D0l p 0 ps=some i):ps[i]? = some p:=by
 have:=(C6v h).2
 simpa using this

theorem C3t (hm:Mem y m) {i i' : It} {o:List Prop} {vs:List Value} (h:A1k m ps fz i=some (o,i')) (ho:B1 o) (hd:y.D i vs):(H6 y ps fz).D i' vs:=by
 have data:E7 i=true->(H6 y ps fz).D i vs:=fun hf=>A4d (x:=y) (y:=H6 y ps fz) rfl (fun b hb=>.inl hb) hf hd
 cases i with
 | sv p lo len es=>simp only[A1k] at h;cases h
 | vsl v q=>simp only[A1k] at h;cases h
 | arr p off n es=>simp only[A1k] at h;cases h
 | slc p off len es=>
  have hs:∃v,vs=[v]∧B8 y (.v (.c (.slc p off len es))) v:=by
   have:=A0h hd
   match vs,this with
   | [v],_=>exact ⟨v,rfl,rfl,hd⟩
  obtain ⟨v,rfl,hs⟩:=hs;simp only[A1k] at h;split at h
  ·rename_i i hi
   cases h
   have hp:=E5x hi;refine ⟨0,?_⟩
   rcases A1o hs with ⟨h1,h2,h3,rfl⟩ | ⟨h1,cap,cs,ty,rfl,h4,h5,h6,h7⟩
   ·exact .inl ⟨by simp only[H6,hp];exact h1,h2,h3,rfl⟩
   ·exact .inr ⟨by simp only[H6,hp];exact h1,cap,cs,ty,by simp only[H6,hp],h4,h5,by simp only[H6,hp];exact h6,h7⟩
  ·split at h
   ·rename_i hf
    split at h
    ·rename_i q hq
     split at h
     ·rename_i hc
      obtain ⟨rfl,rfl⟩:=hc
      cases h
      obtain ⟨rfl,_⟩:=ho;rcases A1o hs with ⟨hk,_,h0,rfl⟩ | ⟨hk,cap,cs,ty,rfl,hlc,hcm,hcs,hfit⟩
      ·exact ⟨1,.inl ⟨none,0,rfl,h0⟩⟩
      ·obtain ⟨cs',ty',hcs',hden⟩:=hm.ent p _ hq hk
       obtain ⟨d,hd'⟩:=A3k (R:=fun d i=>∃c,C4 (den (H6 y ps fz) d) (q.get i) c∧rd (H6 y ps fz).w (H6 y ps fz).F (y.β p) (0+i*q.es) c) (n:=q.n)
        (fun d d' i hdd ⟨c,hc,hr⟩=>⟨c,E9 (fun _ _ h=>A0s hdd h) hc,hr⟩) (fun i hi=>by
         obtain ⟨c,hc,hj⟩:=hden.2 i hi;obtain ⟨d,hc⟩:=I9 (W4 (x:=y) (y:=H6 y ps fz) rfl (fun b hb=>.inl hb) (K2 q i) hc)
         refine ⟨d,c,hc,.inr ⟨p,B2f.1 hf,hk,rfl⟩,fun j v hv=>?_⟩
         show y.w.cell? _=_;rw[P8 hcs',Nat.zero_add];exact hj j v hv)
       exact ⟨d+1,.inr ⟨y.β p,0,cap,rfl,hlc,by omega,hd'⟩⟩
     ·cases h
    ·cases h
   ·cases h
 | ptr p off=>
  simp only[A1k] at h;split at h
  ·rename_i i hi
   cases h
   have hp:=E5x hi;obtain ⟨d,hd⟩:=hd;refine ⟨d,?_⟩
   cases d<;>simp only[den,H6,hp] at hd ⊢<;>exact hd
  ·cases h
 | ep p es j off=>
  simp only[A1k] at h;split at h
  ·rename_i i hi
   cases h
   have hp:=E5x hi;obtain ⟨d,hd⟩:=hd;refine ⟨d,?_⟩
   cases d<;>simp only[den,H6,hp] at hd ⊢<;>exact hd
  ·cases h
 | mp p=>
  simp only[A1k] at h;split at h
  ·rename_i i hi
   cases h
   have hp:=E5x hi;obtain ⟨d,hd⟩:=hd;refine ⟨d,?_⟩
   cases d<;>simp only[den,H6,hp] at hd ⊢<;>exact hd
  ·cases h
 | clo f c=>
  cases c with
  | nil=>simp only[A1k] at h;cases h;exact data rfl
  | cons c l=>simp only[A1k] at h;cases h
 | int k n=>simp only[A1k] at h;cases h;exact data rfl
 | bool b=>simp only[A1k] at h;cases h;exact data rfl
 | ifc t os=>simp only[A1k] at h;cases h;exact data rfl
 | lit b=>simp only[A1k] at h;cases h;exact data rfl
 | rp q i off=>simp only[A1k] at h;cases h;exact data rfl
 | sl q=>simp only[A1k] at h;cases h;exact data rfl
 | ob o=>simp only[A1k] at h;cases h;exact data rfl
 | val v=>simp only[A1k] at h;cases h;exact data rfl
 | dead=>
  simp only[A1k] at h;cases h
  obtain ⟨d,hd⟩:=hd;refine ⟨d,?_⟩
  cases d<;>exact hd
 | old n=>
  simp only[A1k] at h;cases h
  obtain ⟨d,hd⟩:=hd;refine ⟨d,?_⟩
  cases d<;>exact hd

theorem A6q (hm:Mem y m):∀{l l' : List It} {o:List Prop} {vs:List Value},C7t m ps fz l=some (o,l')->B1 o->C4 y.D l vs->C4 (H6 y ps fz).D l' vs
 | [],_,_,_,h,_,hc=>by simp [C7t] at h;obtain ⟨_,rfl⟩:=h;exact hc
 | i::l,_,_,_,h,ho,⟨c1,c2,e,h1,h2⟩=>by
  simp only[C7t] at h;split at h
  ·rename_i o1 i' o2 l' hi hl
   cases h
   have ho:=E0.1 ho;exact ⟨c1,c2,e,C3t hm hi ho.1 h1,A6q hm hl ho.2 h2⟩
  ·cases h

theorem F0v {i i' : It} {o:List Prop} (h:A1k m ps fz i=some (o,i')):i'.size=i.size:=by
  cases i<;>simp only[A1k] at h
  case clo f c=>cases c<;>simp only at h<;>cases h;rfl
  all_goals
    first
      | (cases h;rfl)
      | (repeat' split at h
         all_goals first | (cases h;rfl) | cases h)

theorem C7v (hm:Mem y m) {a a' : V1} {o:List Prop} {v:Value} (h:rnV m ps fz a=some (o,a')) (ho:B1 o) (hd:A2u y a v):A2u (H6 y ps fz) a' v:=by
 cases a with
 | c i=>
  simp only[rnV] at h;split at h
  ·rename_i o' i' hi
   cases h
   exact ⟨(F0v hi).trans hd.1,C3t hm hi ho hd.2⟩
  ·cases h
 | a l=>
  simp only[rnV] at h;split at h
  ·rename_i o' l' hl
   cases h
   obtain ⟨cs,e,hc⟩:=hd;exact ⟨cs,e,A6q hm hl ho hc⟩
  ·cases h

theorem C3u (hm:Mem y m):∀{l l' : List V1} {o:List Prop} {vs:List Value},G2g m ps fz l=some (o,l')->B1 o->A3j y l vs->A3j (H6 y ps fz) l' vs
 | [],_,_,_,h,_,hd=>by simp [G2g] at h;obtain ⟨_,rfl⟩:=h;cases hd;exact .nil
 | a::l,_,_,_,h,ho,hd=>by
  simp only[G2g] at h;split at h
  ·rename_i o1 a' o2 l' ha hl
   cases h
   have ho:=E0.1 ho
   cases hd with
   | cons h1 h2=>exact .cons (C7v hm ha ho.1 h1) (C3u hm hl ho.2 h2)
  ·cases h

theorem C7u (hm:Mem y m) {s s' : SV} {o:List Prop} {v:Value} (h:rnS m ps fz s=some (o,s')) (ho:B1 o) (hd:B8 y s v):B8 (H6 y ps fz) s' v:=by
 cases s with
 | v a=>
  simp only[rnS] at h;split at h
  ·rename_i o' a' ha
   cases h
   exact C7v hm ha ho hd
  ·cases h
 | t l=>
  simp only[rnS] at h;split at h
  ·rename_i o' l' hl
   cases h
   obtain ⟨vs,e,hc⟩:=hd;exact ⟨vs,e,C3u hm hl ho hc⟩
  ·cases h
 | top=>simp only[rnS] at h;cases h;trivial

theorem E2q (hm:Mem y m) {e e' : En} {o:List Prop} {cs:List Value} (h:D8d m ps fz e=some (o,e')) (ho:B1 o) (hd:C7 y e cs):C7 (H6 y ps fz) e' cs:=by
 cases e with
 | fl l=>
  simp only[D8d] at h;split at h
  ·rename_i o' l' hl
   cases h
   exact A6q hm hl ho hd
  ·cases h
 | sq q=>
  simp only[D8d] at h
  cases h
  exact ⟨hd.1,fun i hi=>let ⟨c,hc,hj⟩:=hd.2 i hi;⟨c,W4 (x:=y) (y:=H6 y ps fz) rfl (fun b hb=>.inl hb) (K2 q i) hc,hj⟩⟩

theorem C7s:∀{l:List Nat} {es:List En} {o:List Prop},C3s m ps fz l=some (o,es)->B1 o->es.length=l.length∧∀(i p:Nat),l[i]? = some p->∃e e' o',m p=some e∧D8d m ps fz e=some (o',e')∧B1 o' ∧ es[i]? = some e'
 | [],es,o,h,_=>by simp [C3s] at h;obtain ⟨_,rfl⟩:=h;exact ⟨rfl,fun i p hi=>by simp at hi⟩
 | q::l,es,o,h,ho=>by
  simp only[C3s] at h;split at h
  ·rename_i e he
   split at h
   ·rename_i o1 e' o2 es' h1 h2
    cases h
    have ho:=E0.1 ho;obtain ⟨g1,g2⟩:=C7s h2 ho.2;refine ⟨by simp [g1],fun i p hi=>?_⟩
    cases i with
    | zero=>
     simp only[List.getElem?_cons_zero,Option.some.injEq] at hi ⊢
     subst hi;exact ⟨e,e',o1,he,h1,ho.1,rfl⟩
    | succ i=>
     simp only[List.getElem?_cons_succ] at hi ⊢
     exact g2 i p hi
   ·cases h
  ·cases h

theorem C7j:∀{ps:List Nat},F0a ps fz=true->(∀p∈ps,p ∉ fz)∧∀(i j p:Nat),ps[i]? = some p->ps[j]? = some p->i=j
 | [],_=>⟨fun p hp=>(by cases hp),fun i j p hi=>by simp at hi⟩
 | q::l,h=>by
  simp only[F0a,Bool.and_eq_true,Bool.not_eq_true'] at h;obtain ⟨⟨h1,h2⟩,h3⟩:=h;have h1' : q ∉ l:=fun hq=>by rw[B2f.2 hq] at h1;cases h1
  have h2' : q ∉ fz:=fun hq=>by rw[B2f.2 hq] at h2;cases h2
  obtain ⟨g1,g2⟩:=C7j h3;refine ⟨fun p hp=>?_,fun i j p hi hj=>?_⟩
  ·rcases List.mem_cons.1 hp with rfl | hp
   ·exact h2'
   ·exact g1 p hp
  ·cases i with
   | zero=>
    cases j with
    | zero=>rfl
    | succ j=>
     simp only[List.getElem?_cons_zero,Option.some.injEq,List.getElem?_cons_succ] at hi hj;subst hi;exact absurd (List.mem_of_getElem? hj) h1'
   | succ i=>
    cases j with
    | zero=>
     simp only[List.getElem?_cons_zero,Option.some.injEq,List.getElem?_cons_succ] at hi hj;subst hj;exact absurd (List.mem_of_getElem? hi) h1'
    | succ j=>
     simp only[List.getElem?_cons_succ] at hi hj;rw[g2 i j p hi hj]

theorem E5h (hm:Mem y m) {es:List En} {o:List Prop} (h:C3s m ps fz ps=some (o,es)) (ho:B1 o) (hps:F0a ps fz=true):Mem (H6 y ps fz) (fun p=>es[p]?):=by
 obtain ⟨hlen,hget⟩:=C7s h ho;obtain ⟨hfz,hinj⟩:=C7j hps;have at_:∀i:Nat,(∃p,ps[i]? = some p)∨ps[i]? = none:=fun i=>by cases ps[i]? with
  | none=>exact .inr rfl
  | some p=>exact .inl ⟨p,rfl⟩
 have outk:∀i:Nat,ps[i]? = none->(H6 y ps fz).k i = .no:=fun i h=>by simp only[H6,h]
 have ink:∀i p:Nat,ps[i]? = some p->(H6 y ps fz).k i=y.k p∧(H6 y ps fz).β i=y.β p:=fun i p h=>by simp only[H6,h,and_self]
 refine ⟨fun i=>?_,fun i l hi=>?_,fun i q hi hn=>?_,fun i e hi hr=>?_,fun i j hi hj he=>?_,fun i hi hF=>?_,fun b hb=>?_⟩
 ·rcases at_ i with ⟨p,hp⟩ | hp
  ·obtain ⟨e,e',o',h1,_,_,h4⟩:=hget i p hp
   have hk:y.k p ≠ .no:=fun hk=>by rw[(hm.dom p).2 hk] at h1;cases h1
   simp only[h4,(ink i p hp).1,reduceCtorEq,hk]
  ·have:¬i<ps.length:=fun h=>by simp [h] at hp
   have h2:es[i]? = none:=by simp;omega
   simp only[h2,outk i hp]
 ·rcases at_ i with ⟨p,hp⟩ | hp
  ·obtain ⟨e,e',o',h1,h2,_,h4⟩:=hget i p hp
   rw[(ink i p hp).1];rw[h4] at hi
   cases hi
   cases e with
   | fl l0=>exact hm.fl p l0 h1
   | sq q=>simp only[D8d] at h2;cases h2
  ·have:¬i<ps.length:=fun h=>by simp [h] at hp
   have h2:es[i]? = none:=by simp;omega
   simp only[h2] at hi
   cases hi
 ·rcases at_ i with ⟨p,hp⟩ | hp
  ·obtain ⟨e,e',o',h1,h2,_,h4⟩:=hget i p hp
   rw[(ink i p hp).1] at hn;rw[h4] at hi
   cases hi
   cases e with
   | fl l0=>
    simp only[D8d] at h2;split at h2<;>cases h2
   | sq q0=>simp only[D8d] at h2;cases h2;exact hm.nil p _ h1 hn
  ·rw[outk i hp] at hn;cases hn
 ·rcases at_ i with ⟨p,hp⟩ | hp
  ·obtain ⟨e0,e',o',h1,h2,h3,h4⟩:=hget i p hp
   rw[(ink i p hp).1] at hr;rw[h4] at hi
   cases hi
   obtain ⟨cs,ty,hc,hd⟩:=hm.ent p e0 h1 hr;exact ⟨cs,ty,by rw[(ink i p hp).2];exact hc,E2q hm h2 h3 hd⟩
  ·rw[outk i hp] at hr;cases hr
 ·rcases at_ i with ⟨p,hp⟩ | hp
  ·rcases at_ j with ⟨q,hq⟩ | hq
   ·rw[(ink i p hp).1] at hi
    rw[(ink j q hq).1] at hj;rw[(ink i p hp).2,(ink j q hq).2] at he;have:=hm.inj p q hi hj he
    subst this;exact hinj i j p hp hq
   ·rw[outk j hq] at hj;cases hj
  ·rw[outk i hp] at hi;cases hi
 ·rcases at_ i with ⟨p,hp⟩ | hp
  ·rw[(ink i p hp).1] at hi
   rw[(ink i p hp).2] at hF;rcases hF with hF | ⟨q,hq,hk,he⟩
   ·exact hm.own p hi hF
   ·have:=hm.inj p q hi hk he
    subst this;exact hfz p (List.mem_of_getElem? hp) hq
  ·rw[outk i hp] at hi;cases hi
 ·rcases hb with hb | ⟨p,_,hk,rfl⟩
  ·exact hm.fw b hb
  ·exact hm.lt hk

theorem A5 {env:Env} (hE:A9 P env) {f:Nat} {fn:Func} (hf:P.funcs[f]? = some fn) {n:Nat} {args:List SV} {path:List Bool} {ob:List Prop} {r:SV} {es:List En} (h:B5 env fn n args path ps fz=some (ob,r,es)) (ho:B1 ob):FnD P f args r es:=by
 unfold B5 at h;split at h
 ·rename_i ob1 path' r1 σ hev
  split at h
  ·rename_i o1 r' o2 es' hr hes
   split at h
   ·rename_i hc
    simp only[Bool.and_eq_true] at hc
    cases h
    have ho:=E0.1 ho;have ho2:=E0.1 ho.2;intro x vs hk hF hden;unfold I4j at hev;split at hev
    ·rename_i c hbody
     split at hev
     ·rename_i ob2 path2 σ2 hrun
      split at hev
      ·rename_i o3 rr hres
       cases hev
       have ho1:=E0.1 ho.1;have hlen:args.length<=fn.ntmps:=Nat.le_of_ble_eq_true hc.2;refine calls_of_wp hf hbody ((wpIn_wide (n:=0)).1 ?_)
       have hinit:=D0h (fn:=fn) hlen hk hF hden;have hrs:=A3z (ρ:=none) (Q:=bodyPost P fn fun e w' => ∃v y,e = .returned v∧y.w=w' ∧ Tr x none y (fun p=>es[p]?)∧B8 y r v) hE (unroll:=true) n (c:=⟨[.code c],.normal,D7 fn.ntmps args⟩) (path:=path) (by rw[hrun];exact ho1.1) hinit
       refine hrs fun as' y a' hs=>?_
       rw[hrun] at hs ⊢
       show bodyPost P fn _ .ret a' y.w;obtain ⟨v,hv,hdv⟩:=P2 hE hs.mem hs.t hres ho1.2;refine ⟨hs.defers.trans (B1t _),v,hv,v,H6 y ps fz,rfl,rfl,?_,C7u hs.mem hr ho2.1 hdv⟩
       have hmem:=E5h hs.mem hes ho2.2 hc.1;have hb:=hs.base;have nok:∀p,x.k p = .real->False:=fun p hp=>by rw[hk p] at hp;cases hp
       have hreal:∀p,y.k p = .real->x.w.heap.size<=y.β p:=fun p hp=>by
        rcases Nat.lt_or_ge (y.β p) x.w.heap.size with h | h
        ·exact absurd trivial (hb.ownK p hp h)
        ·exact h
       refine ⟨⟨hb.size,fun b hb' => ⟨.inl (hb.f0 b hb'),hb.keep b (hF b hb') trivial⟩,fun p hp=>absurd (hk p) hp,fun p hp=>(nok p hp).elim,fun p hp=>(nok p hp).elim⟩,hmem,hb.os,hb.tape,hb.output,fun b hb' _=>hb.keep b hb' trivial,fun i hi=>?_,fun b hb' => ?_⟩
       ·right
        cases hp:ps[i]? with
        | none=>simp only[H6,hp] at hi;cases hi
        | some p=>simp only[H6,hp] at hi ⊢;exact hreal p hi
       ·rcases hb' with hb' | ⟨p,_,hk',rfl⟩
        ·exact hb.fn b hb'
        ·exact .inr (hreal p hk')
      ·cases hev
     ·cases hev
    ·cases hev
   ·cases h
  ·cases h
 ·cases h

end
end

section

def D9 {α:Type} (d:α):List Nat->List α->Nat->α
 | t::tl,v::vl,n=>if n=t then v else D9 d tl vl n
 | _,_,_=>d

/-- A state: of so many slots these are known, and these blocks. -/
def G9a:List (List Nat)->List (List SV×Nat)->List ((Nat->SV)×Nat)
 | tl::ftl,(svs,n)::r=>(D9 .top tl svs,n)::G9a ftl r
 | _,_=>[]

def B0 (nt:Nat) (tl:List Nat) (svs:List SV) (ml:List Nat) (ens:List (Option En)) (nx:Nat) (ftl:List (List Nat)) (fsv:List (List SV×Nat)):St:=⟨D9 .top tl svs,D9 none ml ens,nt,nx,G9a ftl fsv⟩

def A8o (keep:List Nat):It->Bool
 | .ptr p _=>Q0 p keep
 | .ep p _ _ _=>Q0 p keep
 | .slc p _ _ _=>Q0 p keep
 | .sv p _ _ _=>Q0 p keep
 | .mp p=>Q0 p keep
 | .arr p _ _ _=>Q0 p keep
 | .clo _ c=>c.all fun a=>Q0 a.1 keep
 | _=>true
def B0p (keep:List Nat):List It->Bool
 | []=>true
 | i::l=>A8o keep i && B0p keep l
def I0j (keep:List Nat):V1->Bool
 | .c i=>A8o keep i
 | .a l=>B0p keep l
def E7f (keep:List Nat):List V1->Bool
 | []=>true
 | i::l=>I0j keep i && E7f keep l
def H1m (keep:List Nat):SV->Bool
 | .v a=>I0j keep a
 | .t l=>E7f keep l
 | .top=>true
def C7r (keep:List Nat):List SV->Bool
 | []=>true
 | i::l=>H1m keep i && C7r keep l
def A1x (keep:List Nat):List (Option En)->Bool
 | []=>true
 | some (.fl l)::r=>B0p keep l && A1x keep r
 | some (.sq _)::r=>A1x keep r
 | none::_=>false

def B2q (t:Nat->SV):List Nat->List SV
 | []=>[]
 | d::l=>t d::B2q t l
def mapM (m:Nat->Option En):List Nat->List (Option En)
 | []=>[]
 | d::l=>m d::mapM m l

def B5b:List ((Nat->SV)×Nat)->List (List Nat)->Option (List (List SV×Nat))
 | [],[]=>some []
 | (t,n)::fr,tl::ftl=>match B5b fr ftl with
  | some r=>some ((B2q t tl,n)::r)
  | none=>none
 | _,_=>none
def D8c (keep:List Nat):List (List SV×Nat)->Bool
 | []=>true
 | q::l=>C7r keep q.1 && D8c keep l

/-- A run up to a place, and what is known there of some slots and blocks. -/
structure At where
 obl:List Prop
 x:Exit
 svs:List SV
 ens:List (Option En)
 nt:Nat
 nx:Nat
 fsv:List (List SV×Nat)

def G0x (m:Nat->Option En) (ml:List Nat):Bool:=
 match m 0 with
 | none=>true
 | some _=>Q0 0 ml

def A4z (env:Env) (unroll:Bool) (n:Nat) (c:Cfg) (path:List Bool) (tl ml:List Nat) (ftl:List (List Nat)):Option At:=
 match run env unroll n c path with
 | ⟨ob,_,⟨_,x,σ⟩⟩=>
  match B5b σ.fr ftl with
  | some fsv=>if (C7r ml (B2q σ.t tl) && A1x ml (mapM σ.m ml) && D8c ml fsv) && G0x σ.m ml then some ⟨ob,x,B2q σ.t tl,mapM σ.m ml,σ.nt,σ.nx,fsv⟩ else none
  | none=>none

section
variable {P:Program} {w0:World} {F0:Nat->Prop} {K:Kp} {as:List Act} {env:Env} {Q:Exit->Act->World->Prop} {x:Ctx} {a:Act}

def G0 (x:Ctx) (keep:List Nat):Ctx:={ x with k:=fun p=>if Q0 p keep then x.k p else .no }

theorem D6b {keep:List Nat}:∀{i:It},A8o keep i=true->∀(d:Nat) (vs:List Value),den x d i vs->den (G0 x keep) d i vs:=by
 intro i h d vs hd;by_cases hf:E7 i=true
 ·exact B9x (x:=x) (y:=G0 x keep) rfl (fun b hb=>hb) d i vs hf hd
 ·cases i
  case ptr p off=>cases d<;>simp only[den,G0,A8o] at h hd ⊢<;>exact ⟨by rw[if_pos h];exact hd.1,hd.2⟩
  case ep p es j off=>cases d<;>simp only[den,G0,A8o] at h hd ⊢<;>exact ⟨by rw[if_pos h];exact hd.1,hd.2⟩
  case slc p off len es=>cases d<;>simp only[den,G0,A8o] at h hd ⊢<;>(rw[if_pos h];exact hd)
  case mp p=>cases d<;>simp only[den,G0,A8o] at h hd ⊢<;>exact ⟨by rw[if_pos h];exact hd.1,hd.2⟩
  case arr p off n es=>cases d<;>simp only[den,G0,A8o] at h hd ⊢<;>exact ⟨by rw[if_pos h];exact hd.1,hd.2⟩
  case clo f c=>
   cases d<;>simp only[den,G0,A8o] at h hd ⊢<;>exact ⟨fun b hb=>by rw[if_pos (List.all_eq_true.1 h b hb)];exact hd.1 b hb,hd.2⟩
  case sv p lo len es=>
   cases d<;>simp only[den,G0,A8o] at h hd ⊢<;>(rw[if_pos h];exact hd)
  case dead=>cases d<;>exact hd
  case old=>cases d<;>exact hd
  all_goals exact absurd rfl hf

theorem B2k {keep:List Nat}:∀{l:List It} {cs:List Value},B0p keep l=true->C4 x.D l cs->C4 (G0 x keep).D l cs
 | [],_,_,h=>h
 | i::l,_,hr,⟨c1,c2,e,⟨d,h1⟩,h2⟩=>by
  simp only[B0p,Bool.and_eq_true] at hr;exact ⟨c1,c2,e,⟨d,D6b hr.1 d c1 h1⟩,B2k hr.2 h2⟩

theorem F7a {keep:List Nat} {s:V1} {v:Value} (hr:I0j keep s=true) (h:A2u x s v):A2u (G0 x keep) s v:=by
 cases s with
 | c i=>obtain ⟨h1,d,h2⟩:=h;exact ⟨h1,d,D6b hr d _ h2⟩
 | a l=>obtain ⟨cs,e,hc⟩:=h;exact ⟨cs,e,B2k hr hc⟩

theorem E5z {keep:List Nat}:∀{l:List V1} {vs:List Value},E7f keep l=true->A3j x l vs->A3j (G0 x keep) l vs
 | [],_,_,h=>by cases h;exact .nil
 | a::l,_,hr,h=>by
  simp only[E7f,Bool.and_eq_true] at hr
  cases h with
  | cons h1 h2=>exact .cons (F7a hr.1 h1) (E5z hr.2 h2)

theorem E0y {keep:List Nat} {s:SV} {v:Value} (hr:H1m keep s=true) (h:B8 x s v):B8 (G0 x keep) s v:=by
 cases s with
 | v a=>exact F7a hr h
 | t l=>obtain ⟨vs,e,hc⟩:=h;exact ⟨vs,e,E5z hr hc⟩
 | top=>trivial

theorem B4z {t:Nat->SV}:∀{tl:List Nat} {n:Nat},D9 .top tl (B2q t tl) n=t n∨D9 .top tl (B2q t tl) n = .top
 | [],n=>.inr rfl
 | d::l,n=>by
  simp only[B2q,D9];by_cases h:n=d
  ·subst h;simp
  ·simp only[h,if_false];exact B4z

theorem C1v {t:Nat->SV} {keep:List Nat}:∀{tl:List Nat} {n:Nat},C7r keep (B2q t tl)=true->H1m keep (D9 .top tl (B2q t tl) n)=true
 | [],n,_=>rfl
 | d::l,n,h=>by
  simp only[B2q,C7r,Bool.and_eq_true] at h;simp only[B2q,D9];by_cases hd:n=d
  ·simp only[hd,if_true];exact h.1
  ·simp only[hd,if_false];exact C1v h.2

theorem C7b {m:Nat->Option En}:∀{ml:List Nat} {p:Nat},D9 none ml (mapM m ml) p=if Q0 p ml then m p else none
 | [],p=>rfl
 | d::l,p=>by
  simp only[mapM,D9,Q0];by_cases h:p=d
  ·subst h;simp
  ·simp only[h,Ne.symm h,if_false];exact C7b

theorem B0o {m:Nat->Option En} {keep:List Nat}:∀{ml:List Nat},A1x keep (mapM m ml)=true->∀p,Q0 p ml=true->∃e,m p=some e∧(∀l,e = .fl l->B0p keep l=true)
 | [],_,p,h=>by cases h
 | d::l,h,p,hp=>by
  simp only[Q0] at hp;simp only[mapM] at h
  cases hm:m d with
  | none=>rw[hm] at h;cases h
  | some e=>
   rw[hm] at h
   cases e with
   | fl its=>
    simp only[A1x,Bool.and_eq_true] at h;split at hp
    ·rename_i hd;subst hd;exact ⟨.fl its,hm,fun l hl=>by cases hl;exact h.1⟩
    ·exact B0o h.2 p hp
   | sq q=>
    simp only[A1x] at h;split at hp
    ·rename_i hd;subst hd;exact ⟨.sq q,hm,fun l hl=>by cases hl⟩
    ·exact B0o h p hp

theorem C6h (ds:List Deferred):∀{fr:List ((Nat->SV)×Nat)} {ftl:List (List Nat)} {fsv:List (List SV×Nat)},B5b fr ftl=some fsv->E0d ds (G9a ftl fsv)=E0d ds fr:=by
 intro fr ftl fsv hm
 cases fr with
 | nil=>
  cases ftl with
  | nil=>simp only[B5b] at hm;cases hm;rfl
  | cons _ _=>simp only[B5b] at hm;cases hm
 | cons q fr=>
  cases ftl with
  | nil=>simp only[B5b] at hm;cases hm
  | cons tl ftl=>
   simp only[B5b] at hm;split at hm
   ·cases hm;rfl
   ·cases hm

theorem Frs.keep {keep:List Nat} {ds:List Deferred} {fr:List ((Nat->SV)×Nat)} (h:Frs x ds fr as):∀{ftl:List (List Nat)} {fsv:List (List SV×Nat)},B5b fr ftl=some fsv->D8c keep fsv=true->Frs (G0 x keep) ds (G9a ftl fsv) as:=by
 induction h with
 | nil=>
  intro ftl fsv hm _
  cases ftl with
  | nil=>simp only[B5b] at hm;cases hm;exact .nil
  | cons _ _=>simp only[B5b] at hm;cases hm
 | cons h1 h2 h3 _ ih=>
  intro ftl fsv hm hr
  cases ftl with
  | nil=>simp only[B5b] at hm;cases hm
  | cons tl ftl=>
   simp only[B5b] at hm;split at hm
   ·rename_i r hr'
    cases hm
    simp only[D8c,Bool.and_eq_true] at hr;refine .cons (h1.trans (C6h ds hr').symm) h2 (fun t=>?_) (ih hr' hr.2)
    have hrt:=C1v (n:=t) hr.1;rcases B4z (tl:=tl) (n:=t) with hl | hl
    ·rw[hl] at hrt ⊢;exact E0y hrt (h3 t)
    ·rw[hl];trivial
   ·cases hm

theorem Sim.keep {σ:St} {tl ml:List Nat} {nx:Nat} {ftl:List (List Nat)} {fsv:List (List SV×Nat)} (h:Sim w0 F0 K as σ x a) (hr:C7r ml (B2q σ.t tl)=true) (he:A1x ml (mapM σ.m ml)=true) (hf:B5b σ.fr ftl=some fsv) (hrf:D8c ml fsv=true) (hpin:G0x σ.m ml=true) :
  Sim w0 F0 K as (B0 σ.nt tl (B2q σ.t tl) ml (mapM σ.m ml) nx ftl fsv) (G0 x ml) a where
 frs:=h.frs.keep hf hrf
 defers:=h.defers.trans (C6h _ hf).symm
 nt:=h.nt
 t t:=by
  show B8 (G0 x ml) (D9 .top tl (B2q σ.t tl) t) _;have hrt:=C1v (n:=t) hr;rcases B4z (t:=σ.t) (tl:=tl) (n:=t) with hl | hl
  ·rw[hl] at hrt ⊢;exact E0y hrt (h.t t)
  ·rw[hl];trivial
 mem:=by
  have hm:∀p,D9 none ml (mapM σ.m ml) p=if Q0 p ml then σ.m p else none:=fun p=>C7b
  refine ⟨fun p=>?_,fun p l hp=>?_,fun p q hp hn=>?_,fun p e hp hk=>?_,fun p q hp hq he=>?_,fun p hp=>?_,h.mem.fw⟩
  ·show D9 none ml (mapM σ.m ml) p=none↔_
   rw[hm];simp only[G0];by_cases hk:Q0 p ml=true
   ·simp only[hk,if_true];exact h.mem.dom p
   ·simp [hk]
  ·have hp:D9 none ml (mapM σ.m ml) p=some (.fl l):=hp
   rw[hm] at hp;split at hp
   ·rename_i hk;simp only[G0,hk,if_true];exact h.mem.fl p l hp
   ·cases hp
  ·have hp:D9 none ml (mapM σ.m ml) p=some (.sq q):=hp
   rw[hm] at hp;split at hp
   ·rename_i hk;simp only[G0,hk,if_true] at hn;exact h.mem.nil p q hp hn
   ·cases hp
  ·have hp:D9 none ml (mapM σ.m ml) p=some e:=hp
   rw[hm] at hp;split at hp
   ·rename_i hkp
    simp only[G0,hkp,if_true] at hk;obtain ⟨cs,ty,hc,hd⟩:=h.mem.ent p e hp hk;obtain ⟨e',he',hfl⟩:=B0o he p hkp;rw[hp] at he'
    cases he'
    refine ⟨cs,ty,hc,?_⟩
    cases e with
    | fl l=>exact B2k (hfl l rfl) hd
    | sq q=>exact ⟨hd.1,fun i hi=>let ⟨c,hc,hj⟩:=hd.2 i hi;⟨c,W4 (x:=x) (y:=G0 x ml) rfl (fun b hb=>hb) (K2 q i) hc,hj⟩⟩
   ·cases hp
  ·simp only[G0] at hp hq he
   split at hp
   ·split at hq
    ·exact h.mem.inj p q hp hq he
    ·cases hq
   ·cases hp
  ·simp only[G0] at hp ⊢
   split at hp
   ·exact h.mem.own p hp
   ·cases hp
 base:=by
  refine ⟨h.base.f0,h.base.fn,h.base.size,h.base.keep,fun p hp=>?_,h.base.os,h.base.tape,h.base.output,fun q hq=>?_⟩
  simp only[G0] at hp;split at hp
  ·exact h.base.ownK p hp
  ·cases hp
  obtain ⟨h1,h2,h3⟩:=h.base.pin q hq;have h0:Q0 0 ml=true:=by
   unfold G0x at hpin
   cases hm:σ.m 0 with
   | none=>exact absurd ((h.mem.dom 0).1 hm) (by rw[h2];exact h1)
   | some e=>rw[hm] at hpin;exact hpin
  refine ⟨h1,?_,h3⟩
  simp only[G0,h0,if_true];exact h2

/-- Up to a place. -/
theorem H1o {ρ:Option Nat} (hE:A9 P env) {unroll:Bool} {n:Nat} {c:Cfg} {path:List Bool} {tl ml:List Nat} {ftl:List (List Nat)} {o:At} (h:A4z env unroll n c path tl ml ftl=some o) {k' : List KI} (hk:(run env unroll n c path).cfg.k=k') (ho:B1 o.obl) (hs:Sim w0 F0 K as c.σ x a)
  (hK:∀as' y a',Sim w0 F0 K as' (B0 o.nt tl o.svs ml o.ens o.nx ftl o.fsv) y a' -> wpK P Q ρ k' as' o.x a' y.w):wpK P Q ρ c.k as c.x a x.w:=by
 unfold A4z at h;split at h;rename_i ob path' k e σ hrun
 split at h
 ·rename_i fsv hf
  split at h
  ·rename_i hc
   simp only[Bool.and_eq_true] at hc
   cases h
   have hr:=A3z (ρ:=ρ) (Q:=Q) hE (unroll:=unroll) n (c:=c) (path:=path) (as:=as) (x:=x) (a:=a) (by rw[hrun];exact ho) hs
   refine hr fun as' y a' hs' => ?_
   rw[hrun] at hs' hk ⊢
   cases hk
   exact hK as' (G0 y ml) a' (hs'.keep hc.1.1.1 hc.1.1.2 hf hc.1.2 hc.2)
  ·cases h
 ·cases h

/-- Up to a place, where no caller waits. -/
theorem G2j {ρ:Option Nat} (hE:A9 P env) {unroll:Bool} {n:Nat} {c:Cfg} {path:List Bool} {tl ml:List Nat} {ftl:List (List Nat)} {o:At} (h:A4z env unroll n c path tl ml ftl=some o) {k' : List KI} (hk:(run env unroll n c path).cfg.k=k') (ho:B1 o.obl) (hs:Sim w0 F0 K as c.σ x a)
  (hfr:nfr c.k=0) (hfr' : nfr k' = 0) (hK:∀y a',Sim w0 F0 K as (B0 o.nt tl o.svs ml o.ens o.nx ftl o.fsv) y a' -> wpK P Q ρ k' as o.x a' y.w):wpK P Q ρ c.k as c.x a x.w:=by
 unfold A4z at h;split at h;rename_i ob path' k e σ hrun
 split at h
 ·rename_i fsv hf
  split at h
  ·rename_i hc
   simp only[Bool.and_eq_true] at hc
   cases h
   have hr:=C3w (ρ:=ρ) (Q:=Q) hE (unroll:=unroll) n (c:=c) (path:=path) (as:=as) (x:=x) (a:=a) (by rw[hrun];exact ho) hs
   refine hr fun as' y a' he hs' => ?_
   rw[hrun] at hs' hk he ⊢
   cases hk
   have he:as'.drop (nfr k)=as.drop (nfr c.k):=he;rw[hfr,hfr',List.drop_zero,List.drop_zero] at he;subst he;exact hK (G0 y ml) a' (hs'.keep hc.1.1.1 hc.1.1.2 hf hc.1.2 hc.2)
  ·cases h
 ·cases h

def A9o:List KI->Option (Code×List KI)
 | .code (.loop c)::k=>some (c,k)
 | _=>none

/-- A loop, by what holds ahead of each round. -/
theorem E1i {ρ:Option Nat} {ι:Type} (S:ι->St) (μ:ι->Nat) {k0 k:List KI} {c:Code} (hl:A9o k0=some (c,k))
  (round:∀i,(∀j,μ j<μ i->∀as y b,Sim w0 F0 K as (S j) y b->wpK P Q ρ (.lp c::k) as .normal b y.w)->∀as y b,Sim w0 F0 K as (S i) y b->wpK P Q ρ (.code c :: .lp c::k) as .normal b y.w) (i:ι) (hs:Sim w0 F0 K as (S i) x a) :
  wpK P Q ρ k0 as .normal a x.w:=by
 have hk0:k0 = .code (.loop c)::k:=by
  unfold A9o at hl;split at hl
  ·cases hl;rfl
  ·cases hl
 subst hk0;have key:∀n i,μ i=n->∀as y b,Sim w0 F0 K as (S i) y b->wpL P (T0 ρ k) c (wpK P Q ρ k as) b y.w:=by
  intro n;induction n using Nat.strongRecOn with
  | _ n ih=>
   intro i hi as y b hsi;refine A4w ?_
   exact round i (fun j hj as y b hsj=>ih (μ j) (hi ▸ hj) j rfl as y b hsj) as y b hsi
 exact B6j (key _ i rfl as x a hs)

/-! The beginning and the end of a function. -/
def D3t (P:Program) (fn:Func) (x:Ctx) (r:SV) (es:List En):Exit->Act->World->Prop:=
 bodyPost P fn fun e w' => ∃v y,e = .returned v∧y.w=w' ∧ Tr x none y (fun p=>es[p]?)∧B8 y r v

theorem E9a {f:Nat} {fn:Func} {c:Code} {args:List SV} {r:SV} {es:List En} (hf:P.funcs[f]? = some fn) (hb:fn.body=some c) (hlen:Nat.ble args.length fn.ntmps=true)
  (h:∀(x:Ctx) (a:Act),(∀p,x.k p = .no)->(∀b,x.F b->b<x.w.heap.size)->Sim x.w x.F V9 [] (D7 fn.ntmps args) x a->wpK P (D3t P fn x r es) none [.code c] [] .normal a x.w):FnD P f args r es:=by
 intro x vs hk hF hden;exact calls_of_wp hf hb ((wpIn_wide (n:=0)).1 (h x _ hk hF (D0h (Nat.le_of_ble_eq_true hlen) hk hF hden)))

def G5 (env:Env) (fn:Func) (unroll:Bool) (n:Nat) (c:Cfg) (path:List Bool) (ps fz:List Nat):Option (List Prop×SV×List En):=
 match run env unroll n c path with
 | ⟨ob,_,⟨[],.ret,σ⟩⟩=>
  match A8p env σ fn.results.toList with
  | some (o,r)=>match rnS σ.m ps fz (C8c r),C3s σ.m ps fz ps with
   | some (o1,r'),some (o2,es)=>if F0a ps fz then some (ob++(o++(o1++o2)),r',es) else none
   | _,_=>none
  | none=>none
 | _=>none

theorem Q4 {b b' : Bool} (h:b=b') {y:Ctx} {v:Value} (hd:B8 y (.v (.c (.lit b))) v):B8 y (.v (.c (.bool b'))) v:=by
 subst h;have:=D3r hd
 subst this;exact A1r _

theorem G2k (hE:A9 P env) {fn:Func} {x0:Ctx} (hk:∀p,x0.k p = .no) (hF:∀b,x0.F b->b<x0.w.heap.size) {unroll:Bool} {n:Nat} {c:Cfg} {path:List Bool} {ps fz:List Nat} {ob:List Prop} {r rr:SV} {es:List En}
  (h:G5 env fn unroll n c path ps fz=some (ob,r,es)) (ho:B1 ob) (hconv:∀y v,B8 y r v->B8 y rr v) (hs:Sim x0.w x0.F V9 as c.σ x a):wpK P (D3t P fn x0 rr es) none c.k as c.x a x.w:=by
 unfold G5 at h;split at h
 ·rename_i ob2 path2 σ2 hrun
  split at h
  ·rename_i o3 r3 hres
   split at h
   ·rename_i o1 r' o2 es' hr hes
    split at h
    ·rename_i hok
     cases h
     have ho1:=E0.1 ho;have ho2:=E0.1 ho1.2;have ho3:=E0.1 ho2.2;have hrs:=A3z (ρ:=none) (Q:=D3t P fn x0 rr es) hE (unroll:=unroll) n (c:=c) (path:=path) (as:=as) (x:=x) (a:=a) (by rw[hrun];exact ho1.1) hs
     refine hrs fun as' y a' hs=>?_
     rw[hrun] at hs ⊢
     show bodyPost P fn (fun e w' => ∃v y,e = .returned v∧y.w=w' ∧ Tr x0 none y (fun p=>es[p]?)∧B8 y rr v) .ret a' y.w
     obtain ⟨v,hv,hdv⟩:=P2 hE hs.mem hs.t hres ho2.1;refine ⟨hs.defers.trans (B1t _),v,hv,v,H6 y ps fz,rfl,rfl,?_,hconv _ _ (C7u hs.mem hr ho3.1 hdv)⟩
     have hmem:=E5h hs.mem hes ho3.2 hok;have hb:=hs.base;have nok:∀p,x0.k p = .real->False:=fun p hp=>by rw[hk p] at hp;cases hp
     have hreal:∀p,y.k p = .real->x0.w.heap.size<=y.β p:=fun p hp=>by
      rcases Nat.lt_or_ge (y.β p) x0.w.heap.size with h | h
      ·exact absurd trivial (hb.ownK p hp h)
      ·exact h
     refine ⟨⟨hb.size,fun b hb' => ⟨.inl (hb.f0 b hb'),hb.keep b (hF b hb') trivial⟩,fun p hp=>absurd (hk p) hp,fun p hp=>(nok p hp).elim,fun p hp=>(nok p hp).elim⟩,hmem,hb.os,hb.tape,hb.output,fun b hb' _=>hb.keep b hb' trivial,fun i hi=>?_,fun b hb' => ?_⟩
     ·right
      cases hp:ps[i]? with
      | none=>simp only[H6,hp] at hi;cases hi
      | some p=>simp only[H6,hp] at hi ⊢;exact hreal p hi
     ·rcases hb' with hb' | ⟨p,_,hk',rfl⟩
      ·exact hb.fn b hb'
      ·exact .inr (hreal p hk')
    ·cases h
   ·cases h
  ·cases h
 ·cases h

/-- The same, under a name that is not looked into. -/
structure Wq (P:Program) (Q:Exit->Act->World->Prop) (k:List KI) (as:List Act) (e:Exit) (a:Act) (w:World) (ρ:Option Nat:=none):Prop where
 wp:wpK P Q ρ k as e a w

theorem C3v {ρ:Option Nat} (hE:A9 P env) {unroll:Bool} {n:Nat} {c:Cfg} {path:List Bool} {tl ml:List Nat} {ftl:List (List Nat)} {o:At} (h:A4z env unroll n c path tl ml ftl=some o) {k' : List KI} (hk:(run env unroll n c path).cfg.k=k') (ho:B1 o.obl) (hs:Sim w0 F0 K as c.σ x a)
  (hK:∀as' y a',Sim w0 F0 K as' (B0 o.nt tl o.svs ml o.ens o.nx ftl o.fsv) y a' -> Wq P Q k' as' o.x a' y.w ρ):Wq P Q c.k as c.x a x.w ρ :=
 ⟨H1o hE h hk ho hs fun as' y a' hs' => (hK as' y a' hs').wp⟩

theorem E6 {ρ:Option Nat} {ι:Type} (S:ι->St) (μ:ι->Nat) {k0 k:List KI} {c:Code} (hl:A9o k0=some (c,k))
  (round:∀i,(∀j,μ j<μ i->∀as y b,Sim w0 F0 K as (S j) y b->Wq P Q (.lp c::k) as .normal b y.w ρ)->∀as y b,Sim w0 F0 K as (S i) y b->Wq P Q (.code c :: .lp c::k) as .normal b y.w ρ) (i:ι) (hs:Sim w0 F0 K as (S i) x a) :
  Wq P Q k0 as .normal a x.w ρ :=
 ⟨E1i S μ hl (fun i ih as y b hs=>(round i (fun j hj as y b hs=>⟨ih j hj as y b hs⟩) as y b hs).wp) i hs⟩

theorem J3 {f:Nat} {fn:Func} {c:Code} {args:List SV} {r:SV} {es:List En} (hf:P.funcs[f]? = some fn) (hb:fn.body=some c) (hlen:Nat.ble args.length fn.ntmps=true)
  (h:∀(x:Ctx) (a:Act),(∀p,x.k p = .no)->(∀b,x.F b->b<x.w.heap.size)->Sim x.w x.F V9 [] (D7 fn.ntmps args) x a->Wq P (D3t P fn x r es) [.code c] [] .normal a x.w):FnD P f args r es:=
 E9a hf hb hlen fun x a h1 h2 h3=>(h x a h1 h2 h3).wp

theorem D2q (hE:A9 P env) {fn:Func} {x0:Ctx} (hk:∀p,x0.k p = .no) (hF:∀b,x0.F b->b<x0.w.heap.size) {unroll:Bool} {n:Nat} {c:Cfg} {path:List Bool} {ps fz:List Nat} {ob:List Prop} {r rr:SV} {es:List En}
  (h:G5 env fn unroll n c path ps fz=some (ob,r,es)) (ho:B1 ob) (hconv:∀y v,B8 y r v->B8 y rr v) (hs:Sim x0.w x0.F V9 as c.σ x a):Wq P (D3t P fn x0 rr es) c.k as c.x a x.w:=
 ⟨G2k hE hk hF h ho hconv hs⟩

theorem A1l {ρ:Option Nat} (hE:A9 P env) {unroll:Bool} {n:Nat} {k0:List KI} {e0:Exit} {σ0:St} {path:List Bool} {tl ml:List Nat} {ftl:List (List Nat)} {o:At} (h:A4z env unroll n ⟨k0,e0,σ0⟩ path tl ml ftl=some o) {k' : List KI} (hk:(run env unroll n ⟨k0,e0,σ0⟩ path).cfg.k=k') (ho:B1 o.obl) (hs:Sim w0 F0 K as σ0 x a)
  (hK:∀as' y a',Sim w0 F0 K as' (B0 o.nt tl o.svs ml o.ens o.nx ftl o.fsv) y a' -> Wq P Q k' as' o.x a' y.w ρ):Wq P Q k0 as e0 a x.w ρ :=
 C3v hE (c:=⟨k0,e0,σ0⟩) h hk ho hs hK

theorem G8 {ρ:Option Nat} (hE:A9 P env) {unroll:Bool} {n:Nat} {k0:List KI} {e0:Exit} {σ0:St} {path:List Bool} {tl ml:List Nat} {ftl:List (List Nat)} {o:At} (h:A4z env unroll n ⟨k0,e0,σ0⟩ path tl ml ftl=some o) {k' : List KI} (hk:(run env unroll n ⟨k0,e0,σ0⟩ path).cfg.k=k') (ho:B1 o.obl) (hfr:nfr k0=0) (hfr' : nfr k' = 0) (hs:Sim w0 F0 K as σ0 x a)
  (hK:∀y a',Sim w0 F0 K as (B0 o.nt tl o.svs ml o.ens o.nx ftl o.fsv) y a' -> Wq P Q k' as o.x a' y.w ρ):Wq P Q k0 as e0 a x.w ρ :=
 ⟨G2j hE (c:=⟨k0,e0,σ0⟩) h hk ho hs hfr hfr' fun y a' hs' => (hK y a' hs').wp⟩

theorem H2 (hE:A9 P env) {fn:Func} {x0:Ctx} (hk:∀p,x0.k p = .no) (hF:∀b,x0.F b->b<x0.w.heap.size) {unroll:Bool} {n:Nat} {k0:List KI} {e0:Exit} {σ0:St} {path:List Bool} {ps fz:List Nat} {ob:List Prop} {r rr:SV} {es:List En}
  (h:G5 env fn unroll n ⟨k0,e0,σ0⟩ path ps fz=some (ob,r,es)) (ho:B1 ob) (hconv:∀y v,B8 y r v->B8 y rr v) (hs:Sim x0.w x0.F V9 as σ0 x a):Wq P (D3t P fn x0 rr es) k0 as e0 a x.w:=
 D2q hE hk hF (c:=⟨k0,e0,σ0⟩) h ho hconv hs

end
abbrev SV.ci (i:It):SV:=.v (.c i)
abbrev eF_ (l:List It):Option En:=some (.fl l)
abbrev eQ_ (q:Sq):Option En:=some (.sq q)
abbrev Sg (P:Program) (σ σ2:St) (e:Exit) (k2 k:List KI):Prop:=∀{w0:World} {F0:Nat->Prop} {K:Kp} {ac:List Act} {Q:Exit->Act->World->Prop} {cX:Ctx} {aX:Act},Sim w0 F0 K ac σ cX aX->(∀ac cY aY,Sim w0 F0 K ac σ2 cY aY->Wq P Q k2 ac e aY cY.w)->Wq P Q k ac .normal aX cX.w
abbrev dF {α:Type} [Inhabited α]:α:=default
theorem sgA (u:Bool) (n:Nat) (p:List Bool) {P:Program} {env:Env} {k0:List KI} {σ0:St} {tl ml:List Nat} {ftl:List (List Nat)} {ob:List Prop} {e:Exit} {svs:List SV} {ens:List (Option En)} {nt nx:Nat} {fsv:List (List SV×Nat)} {k1:List KI} (hE:A9 P env) (h:A4z env u n ⟨k0,.normal,σ0⟩ p tl ml ftl=some ⟨ob,e,svs,ens,nt,nx,fsv⟩:=by kernel_rfl) (hk:(run env u n ⟨k0,.normal,σ0⟩ p).cfg.k=k1:=by kernel_rfl) (ho:B1 ob):Sg P σ0 (B0 nt tl svs ml ens nx ftl fsv) e k1 k0:=fun hs hK=>A1l hE h hk ho hs hK
end

section

def D8u:List (Nat×TyI)->Nat->Option TyI
 | [],_=>none
 | (k,i)::l,t=>if t=k then some i else D8u l t

theorem D8v {P:Program}:∀(l:List (Nat×TyI)),(l.all fun r=>A4u P r.1 r.2)=true->∀t i,D8u l t=some i->G9 P t i
 | [],_,t,i,h=>by simp [D8u] at h
 | (k,j)::l,hl,t,i,h=>by
  simp only[List.all_cons,Bool.and_eq_true] at hl;simp only[D8u] at h;split at h
  ·rename_i hk
   cases h
   subst hk;exact ⟨hl.1⟩
  ·exact D8v l hl.2 t i h

theorem A4 {P : Program} {f : Nat} {fn : Func} (h : P.funcs[f]? = some fn) (hn : (fn.name == "runtime.NumGoroutine") = false) (hb : fn.body.isNone = false) : A2s P f := by
  intro args w;have hn' : ¬ fn.name = "runtime.NumGoroutine" := by intro e; rw [e] at hn; simp at hn
  have hb' : ¬fn.body=none:=by intro e;rw[e] at hb;simp at hb
  simp [callFunc,h,hn',hb']

/-- One contract more. -/
def C6 (T:Nat->Option B2) (f:Nat) (s:B2):Nat->Option B2:=fun g=>if g=f then some s else T g

def Env.set (env:Env) (T:Nat->Option B2):Env:={ env with fn:=T }

theorem A8 {P:Program} {env:Env} (hE:A9 P env) (f:Nat) (s:B2) (he:A2s P f) (h:∀args o r es,s args=some (o,r,es)->B1 o->FnD P f args r es):A9 P (env.set (C6 env.fn f s)):=by
 refine ⟨hE.ty,hE.mixed,fun g s' hg=>?_,hE.mu,hE.inl,hE.ex,hE.inv⟩
 have hg:(if g=f then some s else env.fn g)=some s' := hg
 split at hg
 ·rename_i hgf
  cases hg
  subst hgf;exact ⟨he,h⟩
 ·exact hE.fn g s' hg

theorem FnD.conv {P:Program} {f:Nat} {args args' : List SV} {r r' : SV} {es:List En} (h:FnD P f args r es) (ha:∀x vs,I7 x args' vs->I7 x args vs) (hr:∀x v,B8 x r v->B8 x r' v):FnD P f args' r' es:=by
 intro x vs hk hF hd;exact (h x vs hk hF (ha x vs hd)).mono fun e w' ⟨v,y,he,hw,ht,hv⟩=>⟨v,y,he,hw,ht,hr y v hv⟩

end

section

/- Short words for what a slot holds. -/
abbrev SV.iu (n:Int):SV:=.v (.c (.int .u64 n))
abbrev SV.ii (n:Int):SV:=.v (.c (.int .i64 n))
abbrev SV.pt (p o:Nat):SV:=.v (.c (.ptr p o))
def B9 (fn:Func):Code:=fn.body.getD .skip
/-- A loop at which a run stands: its body, what is behind it. -/
def lpC (k:List KI):Code:=((A9o k).getD (.skip,[])).1
def lpR (k:List KI):List KI:=((A9o k).getD (.skip,[])).2
def E8 (k:List KI):List KI:=.code (lpC k) :: .lp (lpC k)::lpR k
def M7 (k:List KI):List KI:=.lp (lpC k)::lpR k

theorem G2o {x:Ctx} {q:Sq} {v:Value} (h:B8 x (.v (.c (.sl q))) v):q.n<=maxLen:=by
 rcases E7r h with ⟨_,_,_,h⟩ | ⟨_,_,_,_,_,h,_⟩
 ·omega
 ·exact h

theorem C0 {n:Int} (h1:-9223372036854775808<=n) (h2:n<9223372036854775808):wrap IntKind.i64 n=n:=by
 show (if (true && decide (n % (2 ^ 64:Int) >= (2 ^ (64-1):Int)))=true then n % (2 ^ 64:Int)-(2 ^ 64:Int) else n % (2 ^ 64:Int))=n
 split
 ·rename_i h;have h:=of_decide_eq_true (by simpa using h:decide (n % (2 ^ 64:Int) >= (2 ^ (64-1):Int))=true);omega
 ·rename_i h;have h:¬(n % (2 ^ 64:Int) >= (2 ^ (64-1):Int)):=fun h' => h (by simpa using h');omega

theorem G4e {n:Int} (h1:0<=n) (h2:n<18446744073709551616):wrap IntKind.u64 n=n:=by
 simp only[IntKind.wrap,IntKind.bits,IntKind.signed,Bool.false_and,Bool.false_eq_true,if_false];omega

end

section

section
variable {P:Program} {w0:World} {F0:Nat->Prop} {K:Kp} {as:List Act} {Q:Exit->Act->World->Prop} {x:Ctx} {a:Act} {σ:St}

/-- A world in which what is known lies as it lay. -/
theorem Sim.world (h:Sim w0 F0 K as σ x a) {W:World} (hos:W.os=x.w.os) (htape:W.tape=x.w.tape) (hout:W.output=x.w.output) (hsz:x.w.heap.size<=W.heap.size)
  (hF:∀b,x.F b->W.heap[b]? = x.w.heap[b]?) (hown:∀p,x.k p = .real->W.heap[x.β p]? = x.w.heap[x.β p]?) (hkeep:∀b,b<w0.heap.size->K.at_ b->W.heap[b]? = x.w.heap[b]?):Sim w0 F0 K as σ { x with w:=W } a:=by
 have hext:Ext x { x with w:=W }:=⟨hsz,fun b hb=>⟨hb,hF b hb⟩,fun _ _=>rfl,fun _ _=>rfl,fun p hp cs ty hc=>⟨cs,(hown p hp).trans hc,rfl⟩⟩
 refine ⟨h.defers,h.nt,fun t=>A1q hext (h.t t),⟨h.mem.dom,h.mem.fl,h.mem.nil,fun p e hp hr=>?_,h.mem.inj,h.mem.own,fun b hb=>Nat.lt_of_lt_of_le (h.mem.fw b hb) hsz⟩,
  ⟨h.base.f0,h.base.fn,Nat.le_trans h.base.size hsz,fun b hb hk=>(hkeep b hb hk).trans (h.base.keep b hb hk),h.base.ownK,hos.trans h.base.os,htape.trans h.base.tape,hout.trans h.base.output,fun q hq=>?_⟩,h.frs.ext hext⟩
 ·obtain ⟨cs,ty,hc,hd⟩:=h.mem.ent p e hp hr
  exact ⟨cs,ty,(hown p hr).trans hc,K4 hext hd⟩
 ·obtain ⟨h1,h2,h3⟩:=h.base.pin q hq
  refine ⟨h1,h2,fun hr=>?_⟩
  obtain ⟨g1,cs,g2,g3⟩:=h3 hr;exact ⟨g1,cs,(hown 0 (h2.trans hr)).trans g2,g3⟩

/-- All but the own blocks stay. -/
def U3 (x:Ctx) (K:Kp) (ds:List Deferred):Kp:=⟨fun b=>∀p,x.k p = .real->x.β p≠b,K.pin,ds⟩

theorem A8u.own (h:A8u w0 F0 K x) (ds:List Deferred):A8u x.w x.F (U3 x K ds) x:=
 ⟨fun _ h=>h,fun _ h=>.inl h,Nat.le_refl _,fun _ _ _=>rfl,fun p hp _ hk=>hk p hp rfl,rfl,rfl,rfl,h.pin⟩

theorem A8u.trans {ds:List Deferred} {y:Ctx} (h:A8u w0 F0 K x) (g:A8u x.w x.F (U3 x K ds) y):A8u w0 F0 K y where
 f0 b hb:=g.f0 b (h.f0 b hb)
 fn b hb:=by
  rcases g.fn b hb with h1 | h1
  ·exact h.fn b h1
  ·exact .inr (Nat.le_trans h.size h1)
 size:=Nat.le_trans h.size g.size
 keep b hb hk:=(g.keep b (Nat.lt_of_lt_of_le hb h.size) (fun p hp e=>h.ownK p hp (e ▸ hb) (e ▸ hk))).trans (h.keep b hb hk)
 ownK p hp hb:=by
  intro hk;refine g.ownK p hp (Nat.lt_of_lt_of_le hb h.size) fun q hq e=>?_
  exact h.ownK q hq (e ▸ hb) (e ▸ hk)
 os:=g.os.trans h.os
 tape:=g.tape.trans h.tape
 output:=g.output.trans h.output
 pin:=g.pin

/-- Between two rounds. -/
structure Bt (w0:World) (F0:Nat->Prop) (K:Kp) (as:List Act) (a:Act) (B:Nat) (s:St) (W:World) (y:Ctx):Prop where
 w:y.w=W
 sim:Sim w0 F0 K as s y a
 fr:∀b,y.F b->b<B∨B+2<=b

theorem Bt.grow {B:Nat} {s:St} {W W' : World} {y:Ctx} (h:Bt w0 F0 K as a B s W y) (hg:W.grownBy W' none):Bt w0 F0 K as a B s W' { y with w:=W' }:=by
 obtain ⟨rfl,hs,hf⟩:=h;have hb:∀b,b<y.w.heap.size->W'.heap[b]? = y.w.heap[b]? := fun b hb=>hg.block b hb (fun e=>by cases e)
 exact ⟨rfl,hs.world hg.os hg.tape hg.output hg.size (fun b h=>hb b (hs.mem.fw b h)) (fun p hp=>hb _ (hs.mem.lt hp)) (fun b h _=>hb b (Nat.lt_of_lt_of_le h hs.base.size)),hf⟩

theorem Bt.put {B:Nat} {s:St} {W:World} {y:Ctx} (h:Bt w0 F0 K as a B s W y) (hB:w0.heap.size<=B) {o:Obj} (o' : Obj) (hl:W.heap[B+1]? = some o) (ho:o.isCells=false):Bt w0 F0 K as a B s (W.putObj (B+1) o') { y with w:=W.putObj (B+1) o' }:=by
 obtain ⟨rfl,hs,hf⟩:=h;refine ⟨rfl,hs.world rfl rfl rfl (by simp) (fun b h=>World.putObj_heap_other ?_) (fun p hp=>World.putObj_heap_other ?_) (fun b h _=>World.putObj_heap_other ?_),hf⟩
 ·rcases hf b h with h | h<;>omega
 ·intro e
  have hp' := hp
  cases hm:s.m p with
  | none=>rw[(hs.mem.dom p).1 hm] at hp;cases hp
  | some en=>
   obtain ⟨cs,ty,hc,_⟩:=hs.mem.ent p en hm hp';rw[e,hl] at hc
   cases hc
   cases ho
 ·omega

theorem Sim.own (h:Sim w0 F0 K as σ x a):Sim x.w x.F (U3 x K K.ds) as σ x a:=⟨h.defers,h.nt,h.t,h.mem,h.base.own K.ds,h.frs⟩

/-- What is no cells stays. -/
theorem P1 {m:Nat->Option En} (hm:Mem x m) {ds:List Deferred} {y:Ctx} (g:A8u x.w x.F (U3 x K ds) y) {j:Nat} {o:Obj} (hj:x.w.heap[j]? = some o) (ho:o.isCells=false):y.w.heap[j]? = some o:=by
 refine (g.keep j (Array.getElem?_eq_some_iff.1 hj).1 fun p hp e=>?_).trans hj
 cases h:m p with
 | none=>rw[(hm.dom p).1 h] at hp;cases hp
 | some en=>
  obtain ⟨cs,ty,hc,_⟩:=hm.ent p en h hp;rw[e,hj] at hc
  cases hc
  cases ho

/-- Steps behind it. -/
theorem Bt.step {B:Nat} {s σ2:St} {W:World} {y z:Ctx} {as' : List Act} {b:Act} (h:Bt w0 F0 K as a B s W y) (hW:B+2<=W.heap.size) (g:Sim y.w y.F (U3 y K K.ds) as' σ2 z b):Bt w0 F0 K as' b B σ2 z.w z:=by
 obtain ⟨rfl,hs,hf⟩:=h;refine ⟨rfl,⟨g.defers,g.nt,g.t,g.mem,hs.base.trans g.base,g.frs⟩,fun b hb=>?_⟩
 rcases g.base.fn b hb with h1 | h1
 ·exact hf b h1
 ·omega

/-- Out of a round. -/
def B7b (σ:St):St:=match σ.fr with
 | (tS,nt)::l=>⟨tS,σ.m,nt,σ.nx,l⟩
 | []=>σ

theorem Bt.out {B:Nat} {σ2:St} {W:World} {z:Ctx} {b:Act} (h:Bt w0 F0 K (a::as) b B σ2 W z):Bt w0 F0 K as a B (B7b σ2) W z:=by
 obtain ⟨rfl,hs,hf⟩:=h;refine ⟨rfl,?_,hf⟩
 have hfr:=hs.frs;unfold B7b
 cases hl:σ2.fr with
 | nil=>rw[hl] at hfr;cases hfr
 | cons q l=>
  obtain ⟨tS,nt⟩:=q;rw[hl] at hfr
  cases hfr with
  | cons h1 h2 h3 h4=>exact ⟨h1,h2,h3,hs.mem,hs.base,h4⟩

/-- Into a round: the loop's variables are set in a copy of the slots. -/
def G2m (t:Nat->SV):List (Nat×SV)->Nat->SV
 | []=>t
 | (p,v)::l=>G2m (Q8 t p v) l
def X5 (s:St) (pv:List (Nat×SV)):St:=⟨G2m s.t pv,s.m,s.nt,s.nx,(s.t,s.nt)::s.fr⟩

theorem D5g {y:Ctx} {nt:Nat}:∀{pl:List Nat} {svs:List SV} {vs:List Value} {t:Nat->SV} {tm:Array Value},I7 y svs vs->pl.length=vs.length->tm.size=nt->(∀p∈pl,p<nt)->(∀j,B8 y (t j) (tm.getD j undef)) ->
  ((pl.zip vs).foldl (fun t (q:Nat×Value)=>t.setIfInBounds q.1 q.2) tm).size=nt∧∀j,B8 y (G2m t (pl.zip svs) j) (((pl.zip vs).foldl (fun t (q:Nat×Value)=>t.setIfInBounds q.1 q.2) tm).getD j undef)
 | [],svs,vs,t,tm,_,_,hs,_,ht=>by
  simp only[List.zip_nil_left,List.foldl_nil];exact ⟨hs,ht⟩
 | p::pl,_,_,t,tm,hd,hl,hs,hp,ht=>by
  cases hd with
  | nil=>simp at hl
  | cons h1 h2=>
   simp only[List.zip_cons_cons,List.foldl_cons];refine D5g h2 (by simpa using hl) (by simpa using hs) (fun q hq=>hp q (List.mem_cons_of_mem _ hq)) fun j=>?_
   rw[C1f _ _ _ _ (by rw[hs];exact hp p List.mem_cons_self)]
   by_cases hj:j=p
   ·subst hj;simp only[Q8,if_true];exact h1
   ·simp only[Q8,hj,if_false];exact ht j

theorem Bt.into {B:Nat} {s:St} {W:World} {y:Ctx} (h:Bt w0 F0 K as a B s W y) {ps:Array Nat} {svs:List SV} {vs:List Value} (hd:I7 y svs vs) (hl:ps.size=vs.length) (hp:∀p∈ps.toList,p<s.nt) :
  Bt w0 F0 K (a::as) { tmps:=(ps.zip vs.toArray).foldl (fun t (q:Nat×Value)=>t.setIfInBounds q.1 q.2) a.tmps,defers:=[] } B (X5 s (ps.toList.zip svs)) W y:=by
 obtain ⟨rfl,hs,hf⟩:=h;have e:(ps.zip vs.toArray).foldl (fun t (q:Nat×Value)=>t.setIfInBounds q.1 q.2) a.tmps=(ps.toList.zip vs).foldl (fun t (q:Nat×Value)=>t.setIfInBounds q.1 q.2) a.tmps:=by
  rw[<-Array.foldl_toList,Array.toList_zip]
 obtain ⟨h1,h2⟩:=D5g (pl:=ps.toList) (svs:=svs) hd (by simpa using hl) hs.nt hp hs.t
 rw[e];exact ⟨rfl,⟨rfl,h1,h2,hs.mem,hs.base,.cons hs.defers hs.nt hs.t hs.frs⟩,hf⟩

/-- What an iterator owes: it yields these, one by one, and looks at the caller's blocks that it has captured. -/
def B1i (P:Program) (x:Ctx) (gf:Nat) (caps:List (Nat×Nat)) {α:Type} (encs:α->List Value) (xs:List α) (M:List α->Nat->Option En):Prop:=
 ∀(l:Nat) (J:List α->World->Prop) (W:World),(∀s W W',J s W->W.grownBy W' none->J s W') ->
  (∀s W,J s W->∃y,y.w=W∧Mem y (M s)∧∀c∈caps,y.k c.1 = .real∧y.β c.1=x.β c.1) ->
  (∀pre z W1,J pre W1->(∃t,xs=pre++z::t)->YieldAt Fence.wide 0 P l (encs z).toArray W1 fun e W' => e = .returned (.bool true)∧J (pre++[z]) W') ->
  J [] W->Calls P gf (#[.func (.yield l) #[] #[]]++(caps.map fun c=>Value.pointer (some ⟨x.β c.1,c.2,none⟩)).toArray) W fun e W' => (∃v,e = .returned v)∧J xs W'


/-- The same, where the last yield may answer that it is enough; and what is known of the world in between. -/
def E3u (P:Program) (x:Ctx) (gf:Nat) (caps:List (Nat×Nat)) {α:Type} (encs:α->List Value) (ys:List α) (stop:Option α) (M:List α->Nat->Option En) (G:Ctx->Prop):Prop:=
 ∀(l:Nat) (J:List α->World->Prop) (J' : World->Prop) (W:World),(∀s W W',J s W->W.grownBy W' none->J s W')->(∀W W',J' W->W.grownBy W' none->J' W') ->
  (∀s W,J s W->∃y,y.w=W∧G y∧Mem y (M s)∧∀c∈caps,y.k c.1 = .real∧y.β c.1=x.β c.1) ->
  (∀pre z W1,J pre W1->(∃t,ys=pre++z::t)->YieldAt Fence.wide 0 P l (encs z).toArray W1 fun e W' => e = .returned (.bool true)∧J (pre++[z]) W') ->
  (∀z,stop=some z->∀W1,J ys W1->YieldAt Fence.wide 0 P l (encs z).toArray W1 fun e W' => e = .returned (.bool false)∧J' W')->(stop=none->∀W1,J ys W1->J' W1) ->
  J [] W->Calls P gf (#[.func (.yield l) #[] #[]]++(caps.map fun c=>Value.pointer (some ⟨x.β c.1,c.2,none⟩)).toArray) W fun e W' => (∃v,e = .returned v)∧J' W'
theorem B1i.toX {P:Program} {gf:Nat} {caps:List (Nat×Nat)} {α:Type} {encs:α->List Value} {xs:List α} {M:List α->Nat->Option En} {G:Ctx->Prop} (h:B1i P x gf caps encs xs M):E3u P x gf caps encs xs none M G:=
 fun l J J' W hg _ hr hy _ hn h0=>(h l J W hg (fun s W hs=>by obtain ⟨y,e,_,m⟩:=hr s W hs;exact ⟨y,e,m⟩) hy h0).mono fun _ _ h=>⟨h.1,hn rfl _ h.2⟩

theorem E8a {y:Ctx} {gf:Nat}:∀{caps:List (Nat×Nat)},(∀c∈caps,y.k c.1 = .real) ->
  Value.func (.func gf) #[] (caps.map fun c=>Value.pointer (some ⟨x.β c.1,c.2,none⟩)).toArray=Value.func (.func gf) #[] (caps.map fun c=>Value.pointer (some ⟨y.β c.1,c.2,none⟩)).toArray->∀c∈caps,y.k c.1 = .real∧y.β c.1=x.β c.1:=by
 intro caps h1 h2 c hc;refine ⟨h1 c hc,?_⟩
 simp only[Value.func.injEq,true_and] at h2;have h3:caps.map (fun c=>Value.pointer (some ⟨x.β c.1,c.2,none⟩))=caps.map fun c=>Value.pointer (some ⟨y.β c.1,c.2,none⟩):=by
  have:=congrArg Array.toList h2
  simpa using this
 have h4:=(List.map_inj_left.1 h3) c hc;simp at h4
 exact h4.symm

theorem A6l {α:Type} {g:Operand} {ps:Array Tmp} {assign body:Code} {k:List KI} {gf:Nat} {caps:List (Nat×Nat)} {σ:St}
  (hk:A3n k=false) (hs:Sim w0 F0 K as σ x a)
  (eg:A2s P gf) (S:List α->St) (hg:∀s,(S s).ev g = .v (.c (.clo gf caps))) (h0:∃n,σ = { S [] with nx:=n }) (ys:List α) (stop:Option α) (vals:α->List SV) (encs:α->List Value) (henc:∀y z,I7 y (vals z) (encs z)) (hps:∀z,ps.size=(encs z).length)
  (hpt:∀pre,∀p∈ps.toList,p<(S pre).nt) (iter:E3u P x gf caps encs ys stop (fun s=>(S s).m) (A8u w0 F0 K))
  (SB SE:List α->α->St) (hSE:∀pre z,(∃t,ys=pre++z::t)->∃n,B7b (SE pre z) = { S (pre++[z]) with nx:=n })
  (hassign:∀pre z,(∃t,ys++stop.toList=pre++z::t)->∀(w1:World) (F1:Nat->Prop) (K1:Kp) (as1:List Act) (Q1:Exit->Act->World->Prop) (l:Nat) (y:Ctx) (b:Act),Sim w1 F1 K1 as1 (X5 (S pre) (ps.toList.zip (vals z))) y b->(∀y' b',Sim w1 F1 K1 as1 (SB pre z) y' b' -> Q1 .normal b' y'.w)->Wq P Q1 [.code assign] as1 .normal b y.w (some l))
  (hbody:∀pre z,(∃t,ys=pre++z::t)->∀(w1:World) (F1:Nat->Prop) (K1:Kp) (as1:List Act) (Q1:Exit->Act->World->Prop) (l:Nat) (y:Ctx) (b:Act),Sim w1 F1 K1 as1 (SB pre z) y b->(∀y' b',Sim w1 F1 K1 as1 (SE pre z) y' b' -> Q1 .normal b' y'.w)->Wq P Q1 [.code body] as1 .normal b y.w (some l))
  (hstop:∀z,stop=some z->∀(w1:World) (F1:Nat->Prop) (K1:Kp) (as1:List Act) (Q1:Exit->Act->World->Prop) (l:Nat) (y:Ctx) (b:Act),Sim w1 F1 K1 as1 (SB ys z) y b->(∀y' b',Sim w1 F1 K1 as1 (SE ys z) y' b' -> Q1 .ret b' y'.w)->Wq P Q1 [.code body] as1 .normal b y.w (some l))
  (rest:stop=none->∀(D:Nat) (y:Ctx),Sim w0 F0 K as (S ys) y a->w0.heap.size<=D->¬y.F D->y.w.heap[D]? = some (.deferred (some []))->Wq P Q k as .normal { a with defers:={ target:=.collected D,args:=#[] } :: a.defers } y.w)
  (restS:∀z,stop=some z->∀(D:Nat) (y:Ctx),Sim w0 F0 K as (B7b (SE ys z)) y a->w0.heap.size<=D->¬y.F D->y.w.heap[D]? = some (.deferred (some []))->Wq P Q (.code .ret::k) as .normal { a with defers:={ target:=.collected D,args:=#[] } :: a.defers } y.w) :
  Wq P Q (.code (.rangeFunc g ps assign body)::k) as .normal a x.w:=by
 refine ⟨?_⟩
 show (Code.rangeFunc g ps assign body).wpIn (J4 (T0 none k)) 0 P (wpK P Q none k as) a x.w;have hro:T0 none k=none:=by unfold T0;rw[hk];rfl
 rw[hro];have hev:a.eval g = .func (.func gf) #[] (caps.map fun c=>Value.pointer (some ⟨x.β c.1,c.2,none⟩)).toArray:=by
  have hd:=B4m hs.t g;have hg0:σ.ev g = .v (.c (.clo gf caps)):=by
   obtain ⟨n,hn⟩:=h0;rw[hn];exact hg []
  rw[hg0] at hd;exact (D3q hd).2
 refine wpIn_rangeFunc fun fn _=>?_
 let lb:=(caps.map fun c=>Value.pointer (some ⟨x.β c.1,c.2,none⟩)).toArray
 obtain ⟨B,hB⟩:∃B,B=x.w.heap.size:=⟨_,rfl⟩
 obtain ⟨rec,hrec⟩:∃rec:LoopState->Option Code->Loop,rec=fun st pe=>{ state:=st,pending:=pe,fn,tmps:=a.tmps,params:=ps,assign,body,defers:=B }:=⟨_,rfl⟩
 obtain ⟨W1,hW1⟩:∃W1,(x.w.alloc (.deferred (some []))).alloc (.loop (rec .ready none))=W1:=⟨_,rfl⟩
 have hL1:W1.heap[B+1]? = some (.loop (rec .ready none)):=by
  rw[<-hW1,hB];have:=World.alloc_heap_new (x.w.alloc (.deferred (some []))) (.loop (rec .ready none));rwa [World.size_alloc] at this
 have hK1:W1.heap[B]? = some (.deferred (some [])):=by
  rw[<-hW1,hB];exact (Go.RowKit.Below.heap_alloc _ _ _ (by simp)).trans (World.alloc_heap_new x.w _)
 have hsz:w0.heap.size<=B:=by rw[hB];exact hs.base.size
 have hb0:Bt w0 F0 K as a B (S []) x.w x:=by
  obtain ⟨n,hn⟩:=h0;refine ⟨rfl,?_,fun b hb=>.inl (by rw[hB];exact hs.mem.fw b hb)⟩
  rw[hn] at hs;exact hs.nx (S []).nx
 have hb1:∃y,Bt w0 F0 K as a B (S []) W1 y:=by
  rw[<-hW1];exact ⟨_,(hb0.grow (World.grownBy_alloc _ _ none)).grow (World.grownBy_alloc _ _ none)⟩
 refine ⟨B+1,[{ target:=.collected B,args:=#[] }],W1,{ target:=.fn (.func gf) lb,args:=#[.func (.yield (B+1)) #[] #[]] },W1,gf,#[.func (.yield (B+1)) #[] #[]]++lb,W1,?_,?_,?_,?_,A1e none 0,?_⟩
 ·rw[<-hW1,hrec,hB];exact run_enterLoop_outer _ _ _ _ _
 ·simp only[resolve,hev]
  simp [go_sem]
  rfl
 ·intro f' _;exact trivial
 ·simp [invoke,go_sem]
  exact eg _ _
 ·refine D9t none ((iter (B+1) (fun s W=>(∃y,Bt w0 F0 K as a B (S s) W y)∧W.heap[B+1]? = some (.loop (rec .ready none))∧W.heap[B]? = some (.deferred (some []))) (fun W=>(stop=none->(∃y,Bt w0 F0 K as a B (S ys) W y)∧W.heap[B+1]? = some (.loop (rec .ready none))∧W.heap[B]? = some (.deferred (some [])))∧∀z,stop=some z->(∃y,Bt w0 F0 K as a B (B7b (SE ys z)) W y)∧W.heap[B+1]? = some (.loop (rec .done (some .ret)))∧W.heap[B]? = some (.deferred (some []))) W1 ?_ ?_ ?_ ?_ ?_ (fun h W hW=>⟨fun _=>hW,fun z hz=>by rw[h] at hz;cases hz⟩) ⟨hb1,hL1,hK1⟩).mono ?_)
  ·rintro s W W' ⟨⟨y,hy⟩,hl,hd⟩ hgr
   have hkeep:∀{j:Nat} {o:Obj},W.heap[j]? = some o->W'.heap[j]? = some o:=fun h=>(hgr.block _ (Array.getElem?_eq_some_iff.1 h).1 (fun e=>by cases e)).trans h
   exact ⟨⟨_,hy.grow hgr⟩,hkeep hl,hkeep hd⟩
  ·rintro W W' ⟨h1,h2⟩ hgr
   have hkeep:∀{j:Nat} {o:Obj},W.heap[j]? = some o->W'.heap[j]? = some o:=fun h=>(hgr.block _ (Array.getElem?_eq_some_iff.1 h).1 (fun e=>by cases e)).trans h
   refine ⟨fun e=>?_,fun z e=>?_⟩
   ·obtain ⟨⟨y,hy⟩,hl,hd⟩:=h1 e
    exact ⟨⟨_,hy.grow hgr⟩,hkeep hl,hkeep hd⟩
   ·obtain ⟨⟨y,hy⟩,hl,hd⟩:=h2 z e
    exact ⟨⟨_,hy.grow hgr⟩,hkeep hl,hkeep hd⟩
  ·rintro s W ⟨⟨y,rfl,hy,hf⟩,_,_⟩
   refine ⟨y,rfl,hy.base,hy.mem,?_⟩
   have hd:=B4m hy.t g;rw[hg s] at hd;obtain ⟨h1,h2⟩:=D3q hd;rw[hev] at h2;exact E8a h1 h2
  ·rintro pre z W ⟨⟨y,hy⟩,hl,hd⟩ hpre
   have hyr:=run_yield (P:=P) (args:=(encs z).toArray) hl (by rw[hrec];simpa using (hps z).symm)
   rw[hrec] at hyr;have hin:=hy.into (henc y z) (hps z) (hpt pre);have hWs:B+2<=W.heap.size:=(Array.getElem?_eq_some_iff.1 hl).1;refine ⟨fn,_,assign,body,hyr,roundIn_of_wpIn trivial ?_⟩
   have hyw:=hy.w;rw[<-hyw];refine (hassign pre z (by obtain ⟨t,ht⟩:=hpre;exact ⟨t++stop.toList,by rw[ht];simp⟩) y.w y.F (U3 y K K.ds) (a::as) _ (B+1) y _ hin.sim.own fun y' b' hs' => ?_).wp
   have hb2:=hin.step hWs hs';have hl2:=P1 hy.sim.mem hs'.base (by rw[hyw];exact hl) rfl
   have hd2:=P1 hy.sim.mem hs'.base (by rw[hyw];exact hd) rfl
   obtain ⟨W3,hW3⟩:∃W3,W3=y'.w.putObj (B+1) (.loop (rec .busy none)):=⟨_,rfl⟩
   have hWs2:B+2<=y'.w.heap.size:=(Array.getElem?_eq_some_iff.1 hl2).1;obtain ⟨y3,hb3⟩:∃y3,Bt w0 F0 K (a::as) b' B (SB pre z) W3 y3:=by rw[hW3];exact ⟨_,hb2.put hsz _ hl2 rfl⟩
   have hl3:W3.heap[B+1]? = some (.loop (rec .busy none)):=by rw[hW3];exact World.putObj_heap_same (by omega)
   have hd3:W3.heap[B]? = some (.deferred (some [])):=by rw[hW3];exact (World.putObj_heap_other (by omega)).trans hd2
   have hWs3:B+2<=W3.heap.size:=(Array.getElem?_eq_some_iff.1 hl3).1;have hbeg:=run_beginRound (P:=P) hl2 (by rw[hrec])
   have hrb:({ rec .ready none with state:=.busy }:Loop)=rec .busy none:=by rw[hrec]
   rw[hrb,<-hW3] at hbeg;refine ⟨W3,hbeg,?_⟩
   have hyw3:=hb3.w;rw[<-hyw3];refine (hbody pre z hpre y3.w y3.F (U3 y3 K K.ds) (a::as) _ (B+1) y3 b' hb3.sim.own fun y4 b4 hs4=>?_).wp
   have hb4:=(hb3.step (b:=b4) hWs3 hs4).out;obtain ⟨n4,hn4⟩:=hSE pre z hpre;have hl4:=P1 hb3.sim.mem hs4.base (by rw[hyw3];exact hl3) rfl
   have hd4:=P1 hb3.sim.mem hs4.base (by rw[hyw3];exact hd3) rfl
   have hend:=run_endRound (P:=P) none hl4;have hre:({ rec .busy none with state:=if (none:Option Code).isNone then .ready else .done,pending:=none }:Loop)=rec .ready none:=by rw[hrec];rfl
   rw[hre] at hend;have hb5:Bt w0 F0 K as a B (S (pre++[z])) y4.w y4:=by
    rw[hn4] at hb4;exact ⟨hb4.w,hb4.sim.nx (S (pre++[z])).nx,hb4.fr⟩
   exact ⟨_,_,hend,rfl,⟨_,hb5.put hsz _ hl4 rfl⟩,World.putObj_heap_same (Array.getElem?_eq_some_iff.1 hl4).1,(World.putObj_heap_other (by omega)).trans hd4⟩
  ·rintro z hz W ⟨⟨y,hy⟩,hl,hd⟩
   have hyr:=run_yield (P:=P) (args:=(encs z).toArray) hl (by rw[hrec];simpa using (hps z).symm)
   rw[hrec] at hyr;have hin:=hy.into (henc y z) (hps z) (hpt ys);have hWs:B+2<=W.heap.size:=(Array.getElem?_eq_some_iff.1 hl).1;refine ⟨fn,_,assign,body,hyr,roundIn_of_wpIn trivial ?_⟩
   have hyw:=hy.w;rw[<-hyw];refine (hassign ys z ⟨[],by rw[hz];rfl⟩ y.w y.F (U3 y K K.ds) (a::as) _ (B+1) y _ hin.sim.own fun y' b' hs' => ?_).wp
   have hb2:=hin.step hWs hs';have hl2:=P1 hy.sim.mem hs'.base (by rw[hyw];exact hl) rfl
   have hd2:=P1 hy.sim.mem hs'.base (by rw[hyw];exact hd) rfl
   obtain ⟨W3,hW3⟩:∃W3,W3=y'.w.putObj (B+1) (.loop (rec .busy none)):=⟨_,rfl⟩
   have hWs2:B+2<=y'.w.heap.size:=(Array.getElem?_eq_some_iff.1 hl2).1;obtain ⟨y3,hb3⟩:∃y3,Bt w0 F0 K (a::as) b' B (SB ys z) W3 y3:=by rw[hW3];exact ⟨_,hb2.put hsz _ hl2 rfl⟩
   have hl3:W3.heap[B+1]? = some (.loop (rec .busy none)):=by rw[hW3];exact World.putObj_heap_same (by omega)
   have hd3:W3.heap[B]? = some (.deferred (some [])):=by rw[hW3];exact (World.putObj_heap_other (by omega)).trans hd2
   have hWs3:B+2<=W3.heap.size:=(Array.getElem?_eq_some_iff.1 hl3).1;have hbeg:=run_beginRound (P:=P) hl2 (by rw[hrec])
   have hrb:({ rec .ready none with state:=.busy }:Loop)=rec .busy none:=by rw[hrec]
   rw[hrb,<-hW3] at hbeg;refine ⟨W3,hbeg,?_⟩
   have hyw3:=hb3.w;rw[<-hyw3];refine (hstop z hz y3.w y3.F (U3 y3 K K.ds) (a::as) _ (B+1) y3 b' hb3.sim.own fun y4 b4 hs4=>?_).wp
   have hb4:=(hb3.step (b:=b4) hWs3 hs4).out;have hl4:=P1 hb3.sim.mem hs4.base (by rw[hyw3];exact hl3) rfl
   have hd4:=P1 hb3.sim.mem hs4.base (by rw[hyw3];exact hd3) rfl
   have hend:=run_endRound (P:=P) (some .ret) hl4;have hre:({ rec .busy none with state:=if (some Code.ret:Option Code).isNone then .ready else .done,pending:=some .ret }:Loop)=rec .done (some .ret):=by rw[hrec];rfl
   rw[hre] at hend;refine ⟨_,_,hend,rfl,⟨fun e=>(by rw[hz] at e;cases e),fun z' hz' => ?_⟩⟩
   rw[hz] at hz'
   cases hz'
   exact ⟨⟨_,hb4.put hsz _ hl4 rfl⟩,World.putObj_heap_same (Array.getElem?_eq_some_iff.1 hl4).1,(World.putObj_heap_other (by omega)).trans hd4⟩
  ·rintro e W2 ⟨⟨v,rfl⟩,h1,h2⟩
   cases hst:stop with
   | none=>
    obtain ⟨⟨y,hy⟩,hl,hd⟩:=h1 hst;have hend:=run_endLoop (P:=P) hl (by rw[hrec];simp)
    obtain ⟨W3,hW3⟩:∃W3,W3=W2.putObj (B+1) (.loop { rec .ready none with state:=.exhausted }):=⟨_,rfl⟩
    obtain ⟨y3,hb⟩:∃y3,Bt w0 F0 K as a B (S ys) W3 y3:=by rw[hW3];exact ⟨_,hy.put hsz _ hl rfl⟩
    have hd3:W3.heap[B]? = some (.deferred (some [])):=by rw[hW3];exact (World.putObj_heap_other (by omega)).trans hd
    rw[<-hW3] at hend;have hp:(rec .ready none).pending=none:=by rw[hrec]
    rw[hp] at hend;have hr:=rest hst B y3 hb.sim hsz (fun h=>by have:=hb.fr B h;omega) (by rw[hb.w];exact hd3)
    rw[hb.w] at hr;exact ⟨none,W3,hend,hr.wp⟩

   | some z=>
    obtain ⟨⟨y,hy⟩,hl,hd⟩:=h2 z hst;have hend:=run_endLoop (P:=P) hl (by rw[hrec];simp)
    obtain ⟨W3,hW3⟩:∃W3,W3=W2.putObj (B+1) (.loop { rec .done (some .ret) with state:=.exhausted }):=⟨_,rfl⟩
    obtain ⟨y3,hb⟩:∃y3,Bt w0 F0 K as a B (B7b (SE ys z)) W3 y3:=by rw[hW3];exact ⟨_,hy.put hsz _ hl rfl⟩
    have hd3:W3.heap[B]? = some (.deferred (some [])):=by rw[hW3];exact (World.putObj_heap_other (by omega)).trans hd
    rw[<-hW3] at hend;have hp:(rec .done (some .ret)).pending=some .ret:=by rw[hrec]
    rw[hp] at hend;have hr:=restS z hst B y3 hb.sim hsz (fun h=>by have:=hb.fr B h;omega) (by rw[hb.w];exact hd3)
    rw[hb.w] at hr;refine ⟨some .ret,W3,hend,?_⟩
    have hr:=hr.wp;change (Code.ret).wpIn (J4 (T0 none k)) 0 P (wpK P Q none k as) _ _ at hr
    rw[hro] at hr;exact hr


theorem Z6 {α:Type} {g:Operand} {ps:Array Tmp} {assign body:Code} {k:List KI} {gf:Nat} {caps:List (Nat×Nat)} {σ:St}
  (hk:A3n k=false) (hs:Sim w0 F0 K as σ x a)
  (eg:A2s P gf) (S:List α->St) (hg:∀s,(S s).ev g = .v (.c (.clo gf caps))) (h0:∃n,σ = { S [] with nx:=n }) (xs:List α) (vals:α->List SV) (encs:α->List Value) (henc:∀y z,I7 y (vals z) (encs z)) (hps:∀z,ps.size=(encs z).length)
  (hpt:∀pre,∀p∈ps.toList,p<(S pre).nt) (iter:B1i P x gf caps encs xs fun s=>(S s).m)
  (SB SE:List α->α->St) (hSE:∀pre z,∃n,B7b (SE pre z) = { S (pre++[z]) with nx:=n })
  (hassign:∀pre z,(∃t,xs=pre++z::t)->∀(w1:World) (F1:Nat->Prop) (K1:Kp) (as1:List Act) (Q1:Exit->Act->World->Prop) (l:Nat) (y:Ctx) (b:Act),Sim w1 F1 K1 as1 (X5 (S pre) (ps.toList.zip (vals z))) y b->(∀y' b',Sim w1 F1 K1 as1 (SB pre z) y' b' -> Q1 .normal b' y'.w)->Wq P Q1 [.code assign] as1 .normal b y.w (some l))
  (hbody:∀pre z,(∃t,xs=pre++z::t)->∀(w1:World) (F1:Nat->Prop) (K1:Kp) (as1:List Act) (Q1:Exit->Act->World->Prop) (l:Nat) (y:Ctx) (b:Act),Sim w1 F1 K1 as1 (SB pre z) y b->(∀y' b',Sim w1 F1 K1 as1 (SE pre z) y' b' -> Q1 .normal b' y'.w)->Wq P Q1 [.code body] as1 .normal b y.w (some l))
  (rest:∀(D:Nat) (y:Ctx),Sim w0 F0 K as (S xs) y a->w0.heap.size<=D->¬y.F D->y.w.heap[D]? = some (.deferred (some []))->Wq P Q k as .normal { a with defers:={ target:=.collected D,args:=#[] } :: a.defers } y.w) :
  Wq P Q (.code (.rangeFunc g ps assign body)::k) as .normal a x.w:=
 A6l hk hs eg S hg h0 xs none vals encs henc hps hpt iter.toX SB SE (fun pre z _=>hSE pre z) (fun pre z h=>hassign pre z (by simpa using h)) hbody (fun z h=>by cases h) (fun _=>rest) (fun z h=>by cases h)

/-- Behind the loop: the activation bears the mark of the loop's deferred calls. -/
def I0 (D:Nat):List Deferred:=[{ target:=.collected D,args:=#[] }]

theorem Sim.marked (h:Sim w0 F0 K as σ x a) (hfr:σ.fr=[]) (hds:K.ds=[]) (D:Nat):Sim x.w x.F (U3 x K (I0 D)) as σ x { a with defers:={ target:=.collected D,args:=#[] } :: a.defers }:=by
 have hd:=h.defers;have hf:=h.frs;rw[hfr] at hd hf;rw[hds] at hd;refine ⟨?_,h.nt,h.t,h.mem,h.base.own (I0 D),?_⟩
 ·rw[hfr]
  show _::a.defers=I0 D;rw[hd];rfl
 ·rw[hfr]
  cases hf
  exact .nil

/-- At the end of such a function: the mark is taken up; what is known of the blocks is as it was. -/
theorem Sim.unmark {D:Nat} {σ2:St} {as' : List Act} {z:Ctx} {b:Act} (h:Sim w0 F0 K as σ x a) (hds:K.ds=[]) (hD:w0.heap.size<=D) (hF:¬x.F D) (hd:x.w.heap[D]? = some (.deferred (some []))) (hfr:σ2.fr=[])
  (g:Sim x.w x.F (U3 x K (I0 D)) as' σ2 z b):b.defers=I0 D∧z.w.heap[D]? = some (.deferred (some []))∧Sim w0 F0 K as' σ2 { z with w:=z.w.putObj D (.deferred none) } { b with defers:=[] }:=by
 have hz:=P1 h.mem g.base hd rfl;have hlt:D<x.w.heap.size:=(Array.getElem?_eq_some_iff.1 hd).1;have hb:=g.defers;have hf:=g.frs;rw[hfr] at hb hf;refine ⟨hb,hz,?_⟩
 have hs:Sim w0 F0 K as' σ2 z { b with defers:=[] }:=by
  refine ⟨?_,g.nt,g.t,g.mem,h.base.trans g.base,?_⟩
  ·rw[hfr,hds];rfl
  ·rw[hfr]
   cases hf
   exact .nil
 refine hs.world rfl rfl rfl (by simp) (fun c hc=>World.putObj_heap_other ?_) (fun p hp=>World.putObj_heap_other ?_) (fun c hc _=>World.putObj_heap_other ?_)
 ·intro e
  subst e;rcases g.base.fn c hc with h1 | h1
  ·exact hF h1
  ·omega
 ·intro e
  cases hm:σ2.m p with
  | none=>rw[(g.mem.dom p).1 hm] at hp;cases hp
  | some en=>
   obtain ⟨cs,ty,hc,_⟩:=g.mem.ent p en hm hp;rw[e,hz] at hc
   cases hc
 ·omega

/-- What the body of a function must achieve, if it holds a range over a function. -/
theorem E0f {fn:Func} {R:Ending->World->Prop} {D:Nat} {e:Exit} {w:World} (hd:a.defers=I0 D) (hh:w.heap[D]? = some (.deferred (some []))) (he:e = .ret∨e = .normal)
  (h:bodyPost P fn R e { a with defers:=[] } (w.putObj D (.deferred none))):bodyPostM Fence.wide 0 P fn R e a w:=by
 have key:LeavesInM Fence.wide 0 P fn a.tmps R a.defers .returning w:=by
  rw[hd];refine ⟨by simp,.inl ⟨_,_,rfl,run_takeDeferred hh,?_⟩⟩
  rcases he with rfl | rfl
  ·obtain ⟨_,v,hv,hR⟩:=h
   exact ⟨v,hv,hR⟩
  ·obtain ⟨_,v,hv,hR⟩:=h
   exact ⟨v,hv,hR⟩
 rcases he with rfl | rfl<;>exact key

theorem C8v {f:FuncId} {fn:Func} {c:Code} {args:Array Value} {w:World} {R:Ending->World->Prop} (hf:P.funcs[f]? = some fn) (hb:fn.body=some c)
  (h:Wq P (bodyPostM Fence.wide 0 P fn R) [.code c] [] .normal { tmps:=args++Array.replicate (fn.ntmps-args.size) undef,defers:=[] } w):Calls P f args w R:=
 (callsIn_wide (n:=0)).1 (callsIn_of_wp_marks hf hb trivial h.wp rfl)

/-- A call of yield. -/
theorem E3t {ops:Array Oper} {i:Nat} {dec:List (Nat×Bool)} {k:List KI} {o:Oper} {c:Call} {f:Operand} {l:Nat} {w:World} {R:World->Prop} {ans:Bool} (hk:A3n k=false) (hi:ops[i]? = some o) (hw:Region.wanted o (yielded ops a.tmps)=true)
  (hop:o.op = .call c) (hcal:c.callee = .value f) (hf:a.eval f = .func (.yield l) #[] #[])
  (hy:YieldAt Fence.wide 0 P l (c.args.map a.eval) w fun e W' => e = .returned (.bool ans)∧R W') (hK:∀W',R W' -> Wq P Q (.ops ops (i+1) dec::k) as .normal (a.put o.dst (.bool ans)) W'):Wq P Q (.ops ops i dec::k) as .normal a w:=by
 refine ⟨?_⟩
 have hro:T0 none k=none:=by unfold T0;rw[hk];rfl
 show wpOpsIn (J4 (T0 none k)) 0 P ops (wpK P Q none k as) (List.range' i (ops.size-i)) a w;have hlt:i<ops.size:=(Array.getElem?_eq_some_iff.1 hi).1;rw[show ops.size-i=(ops.size-(i+1))+1 from by omega,List.range'_succ,wpOpsIn_cons]
 unfold wpOpIn;simp only[hi,hw,if_true];rw[hro];obtain ⟨fn,tmps,assign,body,hyr,hR⟩:=hy;have hrun:(execOp a.eval o).run P w = .ok (.round l fn tmps assign body) w:=by
  simp only[execOp,hop,resolve,hcal,Deferred.ofValue,hf,Sem.run_bind,Sem.run_pure,Result.andThen_ok,invoke];simpa using hyr
 refine ⟨fun g _=>trivial,?_⟩
 rw[Oper.semAt_eq _ _ _ (fun d hd=>by rw[hop] at hd;cases hd),hrun]
 refine ⟨A1e none 0,hR.mono fun e W' h=>?_⟩
 obtain ⟨rfl,hr⟩:=h;have:=(hK W' hr).wp
 have h2:wpOpsIn (J4 (T0 none k)) 0 P ops (wpK P Q none k as) (List.range' (i+1) (ops.size-(i+1))) (a.put o.dst (.bool ans)) W' := this;rw[hro] at h2;exact h2

end
end

section

def one (e:En):Nat->Option En:=fun p=>if p=0 then some e else none

/-- A function whose first argument is a row that it writes into; the other arguments are data. -/
def MuC (P:Program) (f:Nat) (off len es:Nat) (e:En) (rest:List SV) (e' : En):Prop:=
 ∀(x:Ctx) (vs:List Value),(∀p,p≠0->x.k p = .no)->Mem x (one e)->I7 x (.v (.c (.slc 0 off len es))::rest) vs ->
  Calls P f vs.toArray x.w fun ε w' => ∃v y,ε = .returned v∧y.w=w' ∧ Tr x none y (one e')∧B8 y (.t []) v

def B9d (x:Ctx):Nat×Nat:=
 match x.w.heap[x.β 0]? with
 | some (.cells cs ty _)=>(ty,cs.size)
 | _=>(0,0)
def B4v (x:Ctx):Kp:=⟨fun b=>x.k 0 = .real->x.β 0≠b,some (x.k 0,x.β 0,B9d x),[]⟩

def E9v (nt off len es:Nat) (e:En) (rest:List SV):St:=⟨B3z (.v (.c (.slc 0 off len es))::rest),one e,nt,16,[]⟩

def F1r (P:Program) (fn:Func) (x:Ctx) (e' : En):Exit->Act->World->Prop:=
 bodyPost P fn fun ε w' => ∃v y,ε = .returned v∧y.w=w' ∧ Tr x none y (one e')∧B8 y (.t []) v

theorem B2x {P:Program} {f:Nat} {fn:Func} {c:Code} {off len es:Nat} {e e' : En} {rest:List SV} (hf:P.funcs[f]? = some fn) (hb:fn.body=some c) (hlen:Nat.ble (rest.length+1) fn.ntmps=true)
  (h:∀(x:Ctx) (a:Act),(∀p,p≠0->x.k p = .no)->Mem x (one e)->Sim x.w x.F (B4v x) [] (E9v fn.ntmps off len es e rest) x a->Wq P (F1r P fn x e') [.code c] [] .normal a x.w):MuC P f off len es e rest e' := by
 intro x vs hk hm hden;refine calls_of_wp hf hb ((wpIn_wide (n:=0)).1 (h x _ hk hm ?_).wp)
 have hl:=Nat.le_of_ble_eq_true hlen;have hn:x.k 0 ≠ .no:=fun h0=>by
  have:=(hm.dom 0).2 h0
  simp [one] at this
 refine ⟨rfl,by have:=B4i hden;simp at this;simp [E9v];omega,A3g hden _,hm,?_,.nil⟩
 refine ⟨fun b h=>h,fun b h=>.inl h,Nat.le_refl _,fun b _ _=>rfl,fun p hp _=>?_,rfl,rfl,rfl,fun q hq=>?_⟩
 ·by_cases h0:p=0
  ·subst h0
   intro hK;exact hK hp rfl
  ·rw[hk p h0] at hp;cases hp
 ·cases hq
  refine ⟨hn,rfl,fun hr=>⟨rfl,?_⟩⟩
  obtain ⟨cs,ty,hc,_⟩:=hm.ent 0 e rfl hr;refine ⟨cs,?_,?_⟩<;>simp [B9d,hc]

def B6y (env:Env) (fn:Func) (unroll:Bool) (n:Nat) (c:Cfg) (path:List Bool):Option (List Prop×En):=
 match run env unroll n c path with
 | ⟨ob,_,⟨[],x,σ⟩⟩=>
  match fn.results.toList,σ.m 0,(match x with | .ret=>true | .normal=>true | _=>false) with
  | [],some e,true=>some (ob,e)
  | _,_,_=>none
 | _=>none

/-- Data that hang on no memory. -/
def P6 (i:It):Bool:=E7 i && A2z i
def A6i:En->Bool
 | .fl l=>l.all P6
 | .sq q=>E1o q

theorem D7w {x y:Ctx}:∀{i:It},P6 i=true->∀(d:Nat) (vs:List Value),den x d i vs->den y d i vs:=by
 intro i h d vs hd
 cases i
 case sl q=>simp [P6,A2z] at h
 case rp q j off=>simp [P6,A2z] at h
 case vsl v q=>simp [P6,A2z] at h
 case ptr p off=>simp [P6,E7] at h
 case ep p es j off=>simp [P6,E7] at h
 case slc p off len es=>simp [P6,E7] at h
 case sv p lo len es=>simp [P6,E7] at h
 case mp p=>simp [P6,E7] at h
 case dead=>simp [P6,E7] at h
 case old=>simp [P6,E7] at h
 case arr p off n es=>simp [P6,E7] at h
 case clo f c=>
  cases c with
  | nil=>cases d<;>(simp only[den] at hd ⊢;exact ⟨fun b hb=>by simp at hb,hd.2⟩)
  | cons a l=>simp [P6,E7] at h
 all_goals (cases d<;>exact hd)

theorem C3p {x y:Ctx}:∀{l:List It} {cs:List Value},(∀i∈l,P6 i=true)->C4 x.D l cs->C4 y.D l cs
 | [],_,_,h=>h
 | i::_,_,hr,⟨c1,c2,e,⟨d,h1⟩,h2⟩=>⟨c1,c2,e,⟨d,D7w (hr i List.mem_cons_self) d c1 h1⟩,C3p (fun j hj=>hr j (List.mem_cons_of_mem _ hj)) h2⟩

theorem C7q:∀(l:List (Fp×Fp×Fp)) (n k:Nat),∀i∈I3 l k n,P6 i=true
 | _,0,_,_,h=>by cases h
 | l,n+1,k,i,h=>by
  simp only[I3,List.mem_cons] at h;rcases h with rfl | rfl | rfl | h
  ·rfl
  ·rfl
  ·rfl
  ·exact C7q l n (k+1) i h

theorem G1n {q:Sq} (h:E1o q=true) (j:Nat):∀i∈q.get j,P6 i=true:=by
 intro i hi
 cases q<;>simp only[Sq.get,B1h.its,G1D.its,G2D.its,J6,L9,List.mem_cons,List.not_mem_nil,or_false] at hi<;>first
  | (cases h;done)
  | (exact C7q _ _ _ i hi)
  | (rcases hi with rfl | rfl | rfl | rfl | rfl | rfl | rfl | rfl<;>rfl)
  | (rcases hi with rfl | rfl | rfl | rfl | rfl | rfl<;>rfl)
  | (rcases hi with rfl | rfl | rfl | rfl | rfl<;>rfl)
  | (rcases hi with rfl | rfl | rfl<;>rfl)
  | (rcases hi with rfl | rfl<;>rfl)
  | (subst hi;rfl)

theorem B8k {x y:Ctx} {e:En} {cs:List Value} (h:A6i e=true) (hd:C7 x e cs):C7 y e cs:=by
 cases e with
 | fl l=>exact C3p (fun i hi=>List.all_eq_true.1 h i hi) hd
 | sq q=>exact ⟨hd.1,fun i hi=>let ⟨c,hc,hj⟩:=hd.2 i hi;⟨c,C3p (G1n h i) hc,hj⟩⟩

section
variable {P:Program} {env:Env}

theorem B5e (hE:A9 P env) {fn:Func} {x0:Ctx} {e0:En} (hk:∀p,p≠0->x0.k p = .no) (hm0:Mem x0 (one e0)) {unroll:Bool} {n:Nat} {k0:List KI} {ex:Exit} {σ0:St} {path:List Bool} {ob:List Prop} {e e' : En} {as:List Act} {x:Ctx} {a:Act}
  (h:B6y env fn unroll n ⟨k0,ex,σ0⟩ path=some (ob,e)) (hp:A6i e=true) (ho:B1 ob) (hconv:∀y cs,C7 y e cs->C7 y e' cs) (hfl:(∃l l',e = .fl l∧e' = .fl l')∨∃q q',e = .sq q∧e' = .sq q' ∧ q'.n=q.n)
  (hs:Sim x0.w x0.F (B4v x0) as σ0 x a):Wq P (F1r P fn x0 e') k0 as ex a x.w:=by
 unfold B6y at h;split at h
 ·rename_i ob2 path2 e2 σ2 hrun
  split at h
  ·rename_i e3 hres hm hx
   cases h
   refine ⟨?_⟩
   have hrs:=A3z (ρ:=none) (Q:=F1r P fn x0 e') hE (unroll:=unroll) n (c:=⟨k0,ex,σ0⟩) (path:=path) (as:=as) (x:=x) (a:=a) (by rw[hrun];exact ho) hs
   refine hrs fun as' y a' hs=>?_
   rw[hrun] at hs ⊢
   have hb:=hs.base;obtain ⟨hn0,hp1,hp2⟩:=hb.pin _ rfl;have hp1:y.k 0=x0.k 0:=hp1;obtain ⟨v,hv,hdv⟩:=P2 hE hs.mem hs.t (r:=[]) (o:=[]) (by rw[hres];rfl) trivial
   have hold:∀b,x0.F b->y.w.heap[b]? = x0.w.heap[b]? := fun b hF=>hb.keep b (hm0.fw b hF) fun hr e=>hm0.own 0 hr (e ▸ hF)
   have hmo:=hs.mem;have tr:Tr x0 none ⟨y.w,x0.F,fun p=>if p=0 then x0.k 0 else .no,x0.β⟩ (one e'):=by
    refine ⟨⟨hb.size,fun b hF=>⟨hF,hold b hF⟩,fun p hp=>?_,fun _ _=>rfl,fun p hp cs ty hc=>?_⟩,⟨fun p=>?_,fun p l hl=>?_,fun p q hq hn=>?_,fun p e1 he hr=>?_,fun p q hp hq _=>?_,fun p hp=>?_,fun b hF=>Nat.lt_of_lt_of_le (hm0.fw b hF) hb.size⟩,hb.os,hb.tape,hb.output,fun b hlt hne=>?_,fun p hp=>?_,fun b hF=>.inl hF⟩
    ·by_cases h0:p=0
     ·subst h0;rfl
     ·exact absurd (hk p h0) hp
    ·have hp:x0.k p = .real:=hp
     have hc:x0.w.heap[x0.β p]? = some (.cells cs ty (0,0)):=hc;by_cases h0:p=0
     ·subst h0
      obtain ⟨g1,cs',g2,g3⟩:=hp2 hp;have g1:y.β 0=x0.β 0:=g1;rw[g1] at g2;have hb1:B9d x0=(ty,cs.size):=by simp [B9d,hc]
      rw[hb1] at g2 g3;exact ⟨cs',g2,g3⟩
     ·rw[hk p h0] at hp;cases hp
    ·by_cases h0:p=0
     ·subst h0
      show one e' 0=none↔(if (0:Nat)=0 then x0.k 0 else .no) = .no
      simp only[one,if_true];exact ⟨fun h=>(by cases h),fun h=>absurd h hn0⟩
     ·show one e' p=none↔(if p=0 then x0.k 0 else .no) = .no
      simp [one,h0]
    ·by_cases h0:p=0
     ·subst h0
      simp only[one,if_true,Option.some.injEq] at hl;subst hl;rcases hfl with ⟨l1,l2,he,he'⟩ | ⟨q1,q2,_,he',_⟩
      ·show (if (0:Nat)=0 then x0.k 0 else .no) = .real
       rw[if_pos rfl,<-hp1];exact hmo.fl 0 l1 (by rw[hm,he])
      ·cases he'
     ·simp [one,h0] at hl
    ·by_cases h0:p=0
     ·subst h0
      simp only[one,if_true,Option.some.injEq] at hq;subst hq;rcases hfl with ⟨l1,l2,_,he'⟩ | ⟨q1,q2,he,he',hqn⟩
      ·cases he'
      ·cases he'
       rw[hqn];refine hmo.nil 0 q1 (by rw[hm,he]) ?_
       rw[hp1];simpa using hn
     ·simp [one,h0] at hq
    ·by_cases h0:p=0
     ·subst h0
      simp only[one,if_true,Option.some.injEq] at he;subst he;have hr:x0.k 0 = .real:=by simpa using hr
      obtain ⟨cs,ty,hc,hd⟩:=hmo.ent 0 _ hm (by rw[hp1];exact hr)
      have g1:y.β 0=x0.β 0:=(hp2 hr).1;rw[g1] at hc;exact ⟨cs,ty,hc,hconv _ _ (B8k hp hd)⟩
     ·simp [one,h0] at he
    ·by_cases h0:p=0
     ·by_cases h1:q=0
      ·rw[h0,h1]
      ·simp [h1] at hq
     ·simp [h0] at hp
    ·by_cases h0:p=0
     ·subst h0
      exact hm0.own 0 (by simpa using hp)
     ·simp [h0] at hp
    ·exact hb.keep b hlt fun hr=>hne 0 hr
    ·by_cases h0:p=0
     ·subst h0
      exact .inl ⟨by simpa using hp,rfl⟩
     ·simp [h0] at hp
   have hv0:B8 (⟨y.w,x0.F,fun p=>if p=0 then x0.k 0 else .no,x0.β⟩:Ctx) (.t []) v:=by
    obtain ⟨vs,e,hc⟩:=hdv
    cases hc
    exact ⟨[],e,.nil⟩
   cases e2<;>simp at hx
   ·exact ⟨hs.defers.trans (B1t _),v,hv,v,⟨y.w,x0.F,fun p=>if p=0 then x0.k 0 else .no,x0.β⟩,rfl,rfl,tr,hv0⟩
   ·exact ⟨hs.defers.trans (B1t _),v,hv,v,⟨y.w,x0.F,fun p=>if p=0 then x0.k 0 else .no,x0.β⟩,rfl,rfl,tr,hv0⟩
  ·cases h
 ·cases h

/-- All but one position: what refers to it is forgotten. -/
theorem D6i {x:Ctx} {m:Nat->Option En} (h:Mem x m) (p:Nat):Mem (kx x (some p)) (fun q=>if q=p then none else (m q).map (A2o p)):=by
 refine ⟨fun q=>?_,fun q l hq=>?_,fun q s hq hn=>?_,fun q e hq hr=>?_,fun q r hq hr he=>?_,fun q hq=>?_,h.fw⟩
 ·by_cases h0:q=p
  ·simp [kx,h0]
  ·simp only[kx,h0,if_false,Option.map_eq_none_iff];exact h.dom q
 ·by_cases h0:q=p
  ·simp [h0] at hq
  ·simp only[h0,if_false,Option.map_eq_some_iff] at hq
   obtain ⟨e,he,hs⟩:=hq
   cases e with
   | sq s=>simp [A2o] at hs
   | fl l0=>simp only[kx,h0,if_false];exact h.fl q l0 he
 ·by_cases h0:q=p
  ·simp [h0] at hq
  ·simp only[h0,if_false,Option.map_eq_some_iff] at hq
   obtain ⟨e,he,hs⟩:=hq;simp only[kx,h0,if_false] at hn
   cases e with
   | fl l0=>simp [A2o] at hs
   | sq s0=>simp only[A2o,En.sq.injEq] at hs;subst hs;exact h.nil q s0 he hn
 ·by_cases h0:q=p
  ·simp [h0] at hq
  ·simp only[h0,if_false,Option.map_eq_some_iff] at hq
   obtain ⟨e0,he,hs⟩:=hq;simp only[kx,h0,if_false] at hr;obtain ⟨cs,ty,hc,hd⟩:=h.ent q e0 he hr;subst hs;exact ⟨cs,ty,hc,D8g p hd⟩
 ·by_cases h0:q=p
  ·simp [kx,h0] at hq
  ·by_cases h1:r=p
   ·simp [kx,h1] at hr
   ·simp only[kx,h0,h1,if_false] at hq hr
    exact h.inj q r hq hr he
 ·by_cases h0:q=p
  ·simp [kx,h0] at hq
  ·simp only[kx,h0,if_false] at hq
   exact h.own q hq

abbrev MuS:=Nat->Nat->Nat->En->List SV->Option (List Prop×En)

/-- The contract of such a function, at its caller's positions. -/
def mu1 (spec:MuS):D9k:=fun args m=>
 match args with
 | .v (.c (.slc p off len es))::rest=>
  match m p with
  | some e=>
   match B7f (fun q=>if q=p then none else (m q).map (A2o p)) (rest.map (D2x p)) with
   | some (o,rest')=>
    match spec off len es e rest' with
    | some (o',e')=>if A6i e && A6i e' then some (o++o',.t [],[(p,e')]) else none
    | none=>none
   | none=>none
  | none=>none
 | _=>none

theorem D8h {x:Ctx} (p:Nat):∀{l:List SV} {vs:List Value},I7 x l vs->I7 (kx x (some p)) (l.map (D2x p)) vs
 | [],_,h=>by cases h;exact .nil
 | a::l,_,h=>by cases h with | cons h1 h2=>exact .cons (D2y p h1) (D8h p h2)

theorem H7q {f:Nat} {spec:MuS} (h:∀off len es e rest o e',spec off len es e rest=some (o,e')->B1 o->A6i e=true->A6i e' = true->MuC P f off len es e rest e'):MuD P f (mu1 spec):=by
 intro args m' o r ups hsp ho x m vs hsub hm hd
 unfold mu1 at hsp;split at hsp
 ·rename_i p off len es rest
  split at hsp
  ·rename_i e he
   split at hsp
   ·rename_i o1 rest' hrd
    split at hsp
    ·rename_i o2 e' hs
     split at hsp
     ·rename_i hpe
      simp only[Bool.and_eq_true] at hpe
      cases hsp
      have ho:=E0.1 ho;have hmp:=hsub p e he
      cases hd with
      | cons hd1 hd2=>
       rename_i v1 vs1;have hkp:x.k p ≠ .no:=fun h0=>by have:=(hm.dom p).2 h0;rw[hmp] at this;cases this
       -- the callee's view
       let F' : Nat->Prop:=fun b=>x.F b∨∃q,q≠p∧x.k q = .real∧b=x.β q
       let x' : Ctx:=⟨x.w,F',fun q=>if q=0 then x.k p else .no,fun _=>x.β p⟩
       have hrest:I7 x' rest' vs1:=by
        refine A2m (x:=kx x (some p)) (y:=x') (D6i hm p) (fun q e1 hq=>?_) rfl (fun b hb=>.inl hb) (.inr fun q hq=>?_) (D8h p hd2) hrd ho.1
        ·by_cases h0:q=p
         ·simp [h0] at hq
         ·simp only[h0,if_false,Option.map_eq_some_iff] at hq ⊢
          obtain ⟨e0,h1,h2⟩:=hq;exact ⟨e0,hsub q e0 h1,h2⟩
        ·by_cases h0:q=p
         ·simp [kx,h0] at hq
         ·simp only[kx,h0,if_false] at hq
          exact .inr ⟨q,h0,hq,rfl⟩
       have hmem:Mem x' (one e):=by
        refine ⟨fun q=>?_,fun q l hq=>?_,fun q s hq hn=>?_,fun q e1 hq hr=>?_,fun q r hq hr _=>?_,fun q hq=>?_,fun b hb=>?_⟩
        ·by_cases h0:q=0
         ·subst h0;simp [one,x',hkp]
         ·simp [one,x',h0]
        ·by_cases h0:q=0
         ·subst h0
          simp only[one,if_true,Option.some.injEq] at hq;subst hq;exact hm.fl p l hmp
         ·simp [one,h0] at hq
        ·by_cases h0:q=0
         ·subst h0
          simp only[one,if_true,Option.some.injEq] at hq;subst hq;exact hm.nil p s hmp hn
         ·simp [one,h0] at hq
        ·by_cases h0:q=0
         ·subst h0
          simp only[one,if_true,Option.some.injEq] at hq;subst hq;obtain ⟨cs,ty,hc,hdd⟩:=hm.ent p e hmp hr;exact ⟨cs,ty,hc,B8k hpe.1 hdd⟩
         ·simp [one,h0] at hq
        ·by_cases h0:q=0
         ·by_cases h1:r=0
          ·rw[h0,h1]
          ·simp [x',h1] at hr
         ·simp [x',h0] at hq
        ·by_cases h0:q=0
         ·subst h0
          have hr:x.k p = .real:=hq;intro hF;rcases hF with hF | ⟨q,hne,hq,e⟩
          ·exact hm.own p hr hF
          ·exact hne (hm.inj p q hr hq e).symm
         ·simp [x',h0] at hq
        ·rcases hb with hb | ⟨q,_,hq,rfl⟩
         ·exact hm.fw b hb
         ·exact hm.lt hq
       have hslc:B8 x' (.v (.c (.slc 0 off len es))) v1:=by
        obtain ⟨h1,d,h2⟩:=hd1;refine ⟨h1,d,?_⟩
        cases d<;>(simp only[den] at h2 ⊢;exact h2)
       refine (h off len es e rest' o2 e' hs ho.2 hpe.1 hpe.2 x' (v1::vs1) (fun q h0=>by simp [x',h0]) hmem (.cons hslc hrest)).mono fun ε w' ⟨v,y,he1,hw,ht,hv⟩=>?_
       have hold:∀b,F' b->y.w.heap[b]? = x.w.heap[b]? := fun b hb=>(ht.ext.ro b hb).2
       have hk0:y.k 0=x.k p:=ht.ext.k 0 (by show (if (0:Nat)=0 then x.k p else .no) ≠ .no;rw[if_pos rfl];exact hkp)
       have hext:Ext x ⟨y.w,x.F,x.k,x.β⟩:=by
        refine ⟨ht.ext.size,fun b hb=>⟨hb,hold b (.inl hb)⟩,fun _ _=>rfl,fun _ _=>rfl,fun q hq cs ty hc=>?_⟩
        by_cases h0:q=p
        ·subst h0
         exact ht.ext.own 0 hq cs ty hc
        ·exact ⟨cs,by show y.w.heap[x.β q]? = _;rw[hold _ (.inr ⟨q,h0,hq,rfl⟩)];exact hc,rfl⟩
       refine ⟨v,⟨y.w,x.F,x.k,x.β⟩,he1,hw,?_,?_⟩
       ·rw[A4a]
        refine ⟨hext,⟨fun q=>?_,fun q l hq=>?_,fun q s hq hn=>?_,fun q e1 hq hr=>?_,hm.inj,hm.own,fun b hb=>Nat.lt_of_lt_of_le (hm.fw b hb) ht.ext.size⟩,ht.os,ht.tape,ht.output,fun b hlt hne=>?_,fun q hq=>.inl ⟨hq,rfl⟩,fun b hb=>.inl hb⟩
        ·by_cases h0:q=p
         ·subst h0;simp [hkp]
         ·simp only[h0,if_false];exact hm.dom q
        ·by_cases h0:q=p
         ·subst h0
          simp only[if_true,Option.some.injEq] at hq;subst hq;have:=ht.mem.fl 0 l rfl
          rw[hk0] at this;exact this
         ·simp only[h0,if_false] at hq;exact hm.fl q l hq
        ·by_cases h0:q=p
         ·subst h0
          simp only[if_true,Option.some.injEq] at hq;subst hq;exact ht.mem.nil 0 s rfl (by rw[hk0];exact hn)
         ·simp only[h0,if_false] at hq;exact hm.nil q s hq hn
        ·by_cases h0:q=p
         ·subst h0
          simp only[if_true,Option.some.injEq] at hq;subst hq;obtain ⟨cs,ty,hc,hdd⟩:=ht.mem.ent 0 _ rfl (by rw[hk0];exact hr)
          have hβ:y.β 0=x.β q:=ht.ext.β 0 hr;rw[hβ] at hc;exact ⟨cs,ty,hc,B8k hpe.2 hdd⟩
         ·simp only[h0,if_false] at hq
          obtain ⟨cs,ty,hc,hdd⟩:=hm.ent q e1 hq hr;exact ⟨cs,ty,by show y.w.heap[x.β q]? = _;rw[hold _ (.inr ⟨q,h0,hr,rfl⟩)];exact hc,K4 hext hdd⟩
        ·refine ht.blk b hlt fun q hq=>?_
         by_cases h0:q=0
         ·subst h0;exact hne p hq
         ·simp [x',h0] at hq
       ·obtain ⟨vs,e2,hc⟩:=hv
        cases hc
        exact ⟨[],e2,.nil⟩
     ·cases hsp
    ·cases hsp
   ·cases hsp
  ·cases hsp
 ·cases hsp

theorem C9m (hE:A9 P env) (f:Nat) (spec:MuS) (he:A2s P f) (h:∀off len es e rest o e',spec off len es e rest=some (o,e')->B1 o->A6i e=true->A6i e' = true->MuC P f off len es e rest e') :
  A9 P { env with mu:=fun g=>if g=f then some (mu1 spec) else env.mu g }:=by
 refine ⟨hE.ty,hE.mixed,hE.fn,fun g s hg=>?_,hE.inl,hE.ex,hE.inv⟩
 have hg:(if g=f then some (mu1 spec) else env.mu g)=some s:=hg
 split at hg
 ·rename_i hgf
  cases hg
  subst hgf;exact ⟨he,H7q h⟩
 ·exact hE.mu g s hg

end
end

section

/-- A part that tells its cells. -/
def H5l:It->Bool
 | .int _ _ | .bool _ | .lit _ | .ob _ | .val _ | .vsl _ _=>true
 | _=>false

theorem G6h {x y:Ctx} {d e:Nat} {i:It} {vs us:List Value} (h:H5l i=true) (h1:den x d i vs) (h2:den y e i us):vs=us:=by
 cases i<;>simp only[H5l] at h
 case int=>cases d<;>cases e<;>exact Eq.trans h1 (Eq.symm h2)
 case bool=>cases d<;>cases e<;>exact Eq.trans h1 (Eq.symm h2)
 case lit=>cases d<;>cases e<;>exact Eq.trans h1 (Eq.symm h2)
 case ob=>cases d<;>cases e<;>exact Eq.trans h1 (Eq.symm h2)
 case val=>cases d<;>cases e<;>exact h1.1.trans h2.1.symm
 case vsl=>cases d<;>cases e<;>first | exact h1.elim | exact h2.elim | exact h1.1.trans h2.1.symm
 all_goals cases h

/-- The iterator's view: of the caller's blocks it knows one. -/
def E1 (y:Ctx) (p:Nat):Ctx:=⟨y.w,y.F,fun q=>if q=0 then .real else .no,fun _=>y.β p⟩

section
variable {P:Program} {y:Ctx} {m:Nat->Option En} {p:Nat} {e e' : En}

theorem A9i (h:Mem y m) (hp:m p=some e) (hr:y.k p = .real) (hd:∀(cs:Array Value) ty,y.w.heap[y.β p]? = some (.cells cs ty (0,0))->C7 y e cs.toList->C7 (E1 y p) e' cs.toList):Mem (E1 y p) (one e'):=by
 refine ⟨fun q=>?_,fun q l hq=>?_,fun q s hq hn=>?_,fun q e1 hq hk=>?_,fun q r hq hr' _=>?_,fun q hq=>?_,h.fw⟩
 ·by_cases h0:q=0<;>simp [one,E1,h0]
 ·by_cases h0:q=0
  ·simp [E1,h0]
  ·simp [one,h0] at hq
 ·by_cases h0:q=0<;>simp [E1,h0] at hn hq
 ·by_cases h0:q=0
  ·subst h0
   simp only[one,if_true,Option.some.injEq] at hq;subst hq;obtain ⟨cs,ty,hc,hdd⟩:=h.ent p e hp hr;exact ⟨cs,ty,hc,hd cs ty hc hdd⟩
  ·simp [one,h0] at hq
 ·by_cases h0:q=0
  ·by_cases h1:r=0
   ·rw[h0,h1]
   ·simp [E1,h1] at hr'
  ·simp [E1,h0] at hq
 ·exact h.own p hr

theorem B4t (h:Mem y m) (hp:m p=some e) (hr:y.k p = .real) (hd:∀(cs:Array Value) ty,y.w.heap[y.β p]? = some (.cells cs ty (0,0))->C7 y e cs.toList->C7 (E1 y p) e' cs.toList) {t:Nat->SV} {nt nx:Nat} {a:Act} (had:a.defers=[]) (hnt:a.tmps.size=nt)
  (ht:∀j,B8 (E1 y p) (t j) (a.tmps.getD j undef)):Sim y.w y.F (B4v (E1 y p)) [] ⟨t,one e',nt,nx,[]⟩ (E1 y p) a:=by
 refine ⟨had,hnt,ht,A9i h hp hr hd,?_,.nil⟩
 refine ⟨fun b h=>h,fun b h=>.inl h,Nat.le_refl _,fun b _ _=>rfl,fun q hq _=>?_,rfl,rfl,rfl,fun q hq=>?_⟩
 ·by_cases h0:q=0
  ·subst h0
   intro hK;exact hK hq rfl
  ·simp [E1,h0] at hq
 ·cases hq
  refine ⟨by simp [E1],rfl,fun hk=>⟨rfl,?_⟩⟩
  obtain ⟨cs,ty,hc,_⟩:=h.ent p e hp hr;have hc' : (E1 y p).w.heap[(E1 y p).β 0]? = some (.cells cs ty (0,0)):=hc;refine ⟨cs,?_,?_⟩<;>simp [B9d,hc']

/-- The world has grown, no more. -/
theorem A1g {i:It} {as:List Act} {σ:St} {z:Ctx} {a:Act} (hm:Mem (E1 y p) (one (.fl [i]))) (hi:H5l i=true) (hs:Sim y.w y.F (B4v (E1 y p)) as σ z a) (hσ:σ.m 0=some (.fl [i])) :
  y.w.grownBy z.w none∧z.k 0 = .real∧z.β 0=y.β p:=by
 obtain ⟨hn0,hp1,hp2⟩:=hs.base.pin _ rfl;have hk:z.k 0 = .real:=hp1;obtain ⟨hβ,cs,hc,hsz⟩:=hp2 rfl;have hβ:z.β 0=y.β p:=hβ;refine ⟨⟨hs.base.os,hs.base.tape,hs.base.output,hs.base.size,fun b hb _=>?_⟩,hk,hβ⟩
 by_cases h0:b=y.β p
 ·subst h0
  obtain ⟨cs1,ty1,hc1,d1,d2,e1,⟨n1,g1⟩,hcat1⟩:=hm.ent 0 _ rfl rfl;obtain ⟨cs2,ty2,hc2,f1,f2,e2,⟨n2,g2⟩,hcat2⟩:=hs.mem.ent 0 _ hσ hk;have hc1:y.w.heap[y.β p]? = some (.cells cs1 ty1 (0,0)):=hc1;rw[hβ] at hc2 hc;have hb1:B9d (E1 y p)=(ty1,cs1.size):=by
   have hc1' : (E1 y p).w.heap[(E1 y p).β 0]? = some (.cells cs1 ty1 (0,0)):=hc1;simp [B9d,hc1']
  rw[hb1] at hc;have h1:=G6h hi g1 g2;have h2:d2=[]:=hcat1;have h3:f2=[]:=hcat2;have h4:cs1=cs2:=by
   rw[<-Array.toList_inj,e1,e2,h1,h2,h3]
  rw[hc2] at hc;have hty:ty2=ty1:=by injection hc with hc;injection hc
  rw[hc2,hc1,h4,hty]
 ·exact hs.base.keep b hb (fun _ he=>h0 he.symm)

/-- Slots that hang on the box alone. -/
def H2z:It->Bool
 | .ptr 0 _=>true
 | i=>P6 i
def G5a:SV->Bool
 | .v (.c i)=>H2z i
 | .top=>true
 | _=>false
def E4b:List SV->Bool
 | []=>true
 | s::l=>G5a s && E4b l

theorem G5b {z z' : Ctx} {s:SV} {v:Value} (h:G5a s=true) (hk:z'.k 0 = .real) (hβ:z'.β 0=z.β 0) (hd:B8 z s v):B8 z' s v:=by
 unfold G5a at h;split at h
 ·rename_i i
  obtain ⟨h1,d,h2⟩:=hd;refine ⟨h1,d,?_⟩
  unfold H2z at h;split at h
  ·cases d<;>(simp only[den] at h2 ⊢;exact ⟨hk,by rw[hβ];exact h2.2⟩)
  ·exact D7w h d _ h2
 ·trivial
 ·cases h

theorem F2s {tl:List Nat}:∀{svs:List SV},E4b svs=true->∀j,G5a (D9 .top tl svs j)=true:=by
 induction tl with
 | nil=>intro svs _ j;rfl
 | cons a tl ih=>
  intro svs h j
  cases svs with
  | nil=>rfl
  | cons s l=>
   simp only[E4b,Bool.and_eq_true] at h;simp only[D9];by_cases hj:j=a
   ·simp only[hj,if_true];exact h.1
   ·simp only[hj,if_false];exact ih h.2 j

/-- The next state of the iterator, in the world that a yield has left. -/
theorem D5x {z:Ctx} {nt nx nx' : Nat} {tl:List Nat} {svs:List SV} {ml:List Nat} {ens:List (Option En)} {w0:World} {F0:Nat->Prop} {K:Kp} {as:List Act} {a:Act} (hs:Sim w0 F0 K as (B0 nt tl svs ml ens nx [] []) z a) (hcap:E4b svs=true) (hds:K.ds=[])
  (hm:Mem y m) (hp:m p=some e) (hr:y.k p = .real) (hd:∀(cs:Array Value) ty,y.w.heap[y.β p]? = some (.cells cs ty (0,0))->C7 y e cs.toList->C7 (E1 y p) e' cs.toList) (hβ:z.β 0=y.β p) {dst:Nat} {b:Bool} (hdst:Nat.blt dst nt=true) :
  Sim y.w y.F (B4v (E1 y p)) as ⟨Q8 (D9 .top tl svs) dst (.v (.c (.lit b))),one e',nt,nx',[]⟩ (E1 y p) (a.put (some dst) (.bool b)):=by
 have hfr:Frs z K.ds [] as:=hs.frs
 cases hfr
 have had:a.defers=[]:=hs.defers.trans hds;refine B4t hm hp hr hd (by simpa [Act.put] using had) (by have:=hs.nt;simp [Act.put];exact this) fun j=>?_
 have h0:=G5b (z' := E1 y p) (F2s hcap j) rfl hβ.symm (hs.t j);show B8 _ (Q8 (D9 .top tl svs) dst (.v (.c (.lit b))) j) _;unfold Q8;by_cases hj:j=dst
 ·subst hj
  simp only[if_true];have hlt:j<a.tmps.size:=by
   have h1:=hs.nt;have h2:a.tmps.size=nt:=h1;rw[h2];simpa [Nat.blt_eq] using hdst
  simp only[Act.put,Array.getD_eq_getD_getElem?,Array.getElem?_setIfInBounds,if_true,hlt,Option.getD_some];exact ⟨rfl,0,rfl⟩
 ·simp only[hj,if_false]
  have:(a.put (some dst) (.bool b)).tmps.getD j undef=a.tmps.getD j undef:=by
   simp [Act.put,Array.getD_eq_getD_getElem?,Ne.symm hj]
  rw[this];exact h0

theorem A5z {ρ:Option Nat} {Q:Exit->Act->World->Prop} {ι:Type} (I:ι->List Act->Act->World->Prop) (μ:ι->Nat) {k0 k:List KI} {c:Code} (hl:A9o k0=some (c,k))
  (round:∀i,(∀j,μ j<μ i->∀as b w,I j as b w->Wq P Q (.lp c::k) as .normal b w ρ)->∀as b w,I i as b w->Wq P Q (.code c :: .lp c::k) as .normal b w ρ) (i:ι) {as:List Act} {a:Act} {w:World} (hs:I i as a w) :
  Wq P Q k0 as .normal a w ρ:=by
 have hk0:k0 = .code (.loop c)::k:=by
  unfold A9o at hl;split at hl
  ·cases hl;rfl
  ·cases hl
 subst hk0;refine ⟨?_⟩
 have key:∀n i,μ i=n->∀as b w,I i as b w->wpL P (T0 ρ k) c (wpK P Q ρ k as) b w:=by
  intro n;induction n using Nat.strongRecOn with
  | _ n ih=>
   intro i hi as b w hsi;refine A4w ?_
   exact (round i (fun j hj as b w hsj=>⟨ih (μ j) (hi ▸ hj) j rfl as b w hsj⟩) as b w hsi).wp
 exact B6j (key _ i rfl as a w hs)

theorem D0j {fn:Func} {R:Ending->World->Prop} {w0:World} {F0:Nat->Prop} {K:Kp} {as:List Act} {σ:St} {z:Ctx} {a:Act} {env:Env} (hE:A9 P env) (hs:Sim w0 F0 K as σ z a) (hds:K.ds=[]) (hfr:σ.fr=[]) (hres:fn.results.toList=[])
  (hR:∀v,R (.returned v) z.w) {x:Exit} (hx:x = .ret∨x = .normal):bodyPost P fn R x a z.w:=by
 obtain ⟨v,hv,_⟩:=P2 hE hs.mem hs.t (r:=[]) (o:=[]) (by rw[hres];rfl) trivial
 have hd:a.defers=[]:=by
  have:=hs.defers
  rw[hfr] at this;exact this.trans hds
 rcases hx with rfl | rfl
 ·exact ⟨hd,v,hv,hR v⟩
 ·exact ⟨hd,v,hv,hR v⟩

/-! A call of yield at the top. -/
def A0e:List KI->List KI
 | .ops o i d::k=>.ops o (i+1) d::k
 | k=>k
def G4f (k:List KI) (t:Nat->SV):Option (Option Nat×Operand×List Operand):=
 match k with
 | .ops ops i _::k=>
  match A3n k,ops[i]? with
  | false,some o=>
   match L0 ops.toList o t,o.op with
   | some true,.call c=>
    match c.callee with
    | .value f=>some (o.dst,f,c.args.toList)
    | _=>none
   | _,_=>none
  | _,_=>none
 | _=>none

theorem C8g {Q:Exit->Act->World->Prop} {k0:List KI} {w0:World} {F0:Nat->Prop} {K:Kp} {as:List Act} {σ:St} {z:Ctx} {a:Act} {dst:Option Nat} {f:Operand} {args:List Operand} (hy:G4f k0 σ.t=some (dst,f,args)) (hs:Sim w0 F0 K as σ z a) {l:Nat}
  (hf:σ.ev f = .v (.c (.val (.func (.yield l) #[] #[])))) {vs:List Value} (hv:args.map a.eval=vs) {R:World->Prop} {ans:Bool} (hY:YieldAt Fence.wide 0 P l vs.toArray z.w fun e W' => e = .returned (.bool ans)∧R W')
  (hK:∀W',R W' -> Wq P Q (A0e k0) as .normal (a.put dst (.bool ans)) W'):Wq P Q k0 as .normal a z.w:=by
 unfold G4f at hy;split at hy
 ·rename_i ops i dec k
  split at hy
  ·rename_i o hk hi
   split at hy
   ·rename_i c hw hop
    split at hy
    ·rename_i f2 hcal
     cases hy
     have hev:=B4m hs.t f;rw[hf] at hev;refine E3t hk hi (A8c hs.t hw) hop hcal (A0x hev).1 ?_ hK
     rw[<-hv] at hY;have e:(List.map a.eval c.args.toList).toArray=c.args.map a.eval:=by rw[<-Array.toList_map]
     rw[e] at hY;exact hY
    ·cases hy
   ·cases hy
  ·cases hy
 ·cases hy

theorem C4x {Q:Exit->Act->World->Prop} {k0:List KI} {w0:World} {F0:Nat->Prop} {K:Kp} {as:List Act} {σ:St} {z:Ctx} {a:Act} {dst:Option Nat} {f:Operand} {args:List Operand} (hy:G4f k0 σ.t=some (dst,f,args)) (hs:Sim w0 F0 K as σ z a) {l:Nat}
  (hf:σ.ev f = .v (.c (.val (.func (.yield l) #[] #[])))) {vs:List Value} (hv:args.map a.eval=vs) {R:World->Prop} (hY:YieldAt Fence.wide 0 P l vs.toArray z.w fun e W' => e = .returned (.bool true)∧R W')
  (hK:∀W',R W' -> Wq P Q (A0e k0) as .normal (a.put dst (.bool true)) W'):Wq P Q k0 as .normal a z.w:=C8g (ans:=true) hy hs hf hv hY hK

/-! A range over a function at the top. -/
def rfG:List KI->Operand
 | .code (.rangeFunc g _ _ _)::_=>g
 | _=>.tmp 0
def rfP:List KI->Array Tmp
 | .code (.rangeFunc _ p _ _)::_=>p
 | _=>#[]
def rfA:List KI->Code
 | .code (.rangeFunc _ _ c _)::_=>c
 | _=>.skip
def rfB:List KI->Code
 | .code (.rangeFunc _ _ _ c)::_=>c
 | _=>.skip
def rfR:List KI->List KI
 | .code (.rangeFunc _ _ _ _)::k=>k
 | _=>[]
def I5i:List KI->Bool
 | .code (.rangeFunc _ _ _ _)::k=>!A3n k
 | _=>false
theorem A2i {k:List KI} (h:I5i k=true):k = .code (.rangeFunc (rfG k) (rfP k) (rfA k) (rfB k))::rfR k∧A3n (rfR k)=false:=by
 unfold I5i at h;split at h
 ·rename_i k
  exact ⟨rfl,by show A3n k=false;simpa using h⟩
 ·cases h

/-! Functions that write into one row of their caller, with a range over a function within. -/
end
end

section

section
variable {P:Program} {y:Ctx} {m:Nat->Option En} {p:Nat} {q:Sq}

theorem I0y {x:Ctx} {d:Nat} {v:Value} (h:den x d (.sl q) [v]):v.oneCell' = true:=by
 cases d with
 | zero=>simp [den] at h
 | succ d=>
  simp only[den,List.cons.injEq,and_true] at h;rcases h with ⟨a,cap,rfl,_⟩ | ⟨b,o,cap,rfl,_⟩<;>rfl

/-- What the box holds. -/
theorem F2q (h:Mem y m) (hp:m p=some (.fl [.sl q])) (hr:y.k p = .real):∃v,y.D (.sl q) [v]∧∀(cs:Array Value) ty,y.w.heap[y.β p]? = some (.cells cs ty (0,0))->C7 y (.fl [.sl q]) cs.toList->C7 (E1 y p) (.fl [.val v]) cs.toList:=by
 obtain ⟨cs,ty,hc,c1,c2,e,h1,h2⟩:=h.ent p _ hp hr;have h2:c2=[]:=h2;obtain ⟨v,hv⟩:∃v,c1=[v]:=by
  have:=A0h h1
  match c1,this with
  | [v],_=>exact ⟨v,rfl⟩
 rw[hv] at h1;refine ⟨v,h1,fun cs' ty' hc' _=>?_⟩
 rw[hc] at hc'
 have hcs:cs=cs' := by injection hc' with hc';injection hc'
 rw[<-hcs,e,hv,h2];obtain ⟨d,h1⟩:=h1;exact ⟨[v],[],rfl,⟨0,rfl,I0y h1⟩,rfl⟩

/-- What is data stays it while the world grows. -/
theorem C6b {y z:Ctx} (hg:y.w.grownBy z.w none) (hF:∀b,y.F b->z.F b) (hlt:∀b,y.F b->b<y.w.heap.size) {i:It} {vs:List Value} (hi:E7 i=true) (h:y.D i vs):z.D i vs:=by
 have h1:(⟨y.w,y.F,fun _=>.no,y.β⟩:Ctx).D i vs:=A4d (x:=y) (y:=⟨y.w,y.F,fun _=>.no,y.β⟩) rfl (fun _ h=>h) hi h
 have hext:Ext ⟨y.w,y.F,fun _=>.no,y.β⟩ ⟨z.w,z.F,fun _=>.no,z.β⟩:=
  ⟨hg.size,fun b hb=>⟨hF b hb,hg.block b (hlt b hb) (fun e=>by cases e)⟩,fun p hp=>absurd rfl hp,fun p hp=>(by cases hp),fun p hp=>(by cases hp)⟩
 exact A4d (x:=⟨z.w,z.F,fun _=>.no,z.β⟩) (y:=z) rfl (fun _ h=>h) hi (C5n hext _ _ h1)

def E4i (x:Ctx):List SV->List SV->Prop
 | [],[]=>True
 | s::l,s' :: l' => (∀v,B8 x s v->B8 x s' v)∧E4i x l l'
 | _,_=>False

theorem B4x {x:Ctx}:∀{tl:List Nat} {svs svs' : List SV},E4i x svs svs' -> ∀j v,B8 x (D9 .top tl svs j) v->B8 x (D9 .top tl svs' j) v
 | [],_,_,_,_,_,_=>trivial
 | _::_,[],[],_,_,_,_=>trivial
 | _::_,[],_::_,h,_,_,_=>h.elim
 | _::_,_::_,[],h,_,_,_=>h.elim
 | t::tl,s::l,s' :: l',h,j,v,hd=>by
  simp only[D9] at hd ⊢
  by_cases hj:j=t
  ·simp only[hj,if_true] at hd ⊢;exact h.1 v hd
  ·simp only[hj,if_false] at hd ⊢;exact B4x h.2 j v hd

/-- A slot told in other words. -/
theorem Sim.slots {w0:World} {F0:Nat->Prop} {K:Kp} {as:List Act} {nt nx:Nat} {tl:List Nat} {svs svs' : List SV} {ml:List Nat} {ens:List (Option En)} {ftl:List (List Nat)} {fsv:List (List SV×Nat)} {x:Ctx} {a:Act}
  (hs:Sim w0 F0 K as (B0 nt tl svs ml ens nx ftl fsv) x a) (h:E4i x svs svs'):Sim w0 F0 K as (B0 nt tl svs' ml ens nx ftl fsv) x a:=
 ⟨hs.defers,hs.nt,fun t=>B4x h t _ (hs.t t),hs.mem,hs.base,hs.frs⟩

theorem D4j {x:Ctx} {v:Value} {i:It} (hi:i.size=1) (h:x.D i [v]):∀u,B8 x (.v (.c (.val v))) u->B8 x (.v (.c i)) u:=by
 intro u hu;rw[(A0x hu).1];exact ⟨hi,h⟩

/-- A contract that leaves the world as it was. -/
theorem F5e {f:Nat} {args:List SV} {r:SV} (h:∀(x:Ctx) (vs:List Value),I7 x args vs->∃v,Calls P f vs.toArray x.w (fun e w' => e = .returned v∧w' = x.w)∧B8 x r v):FnD P f args r []:=by
 intro x vs hk hF hd;obtain ⟨v,hc,hv⟩:=h x vs hd;refine hc.mono fun e w' he=>?_
 obtain ⟨rfl,rfl⟩:=he;refine ⟨v,x,rfl,rfl,Tr.refl ⟨fun p=>⟨fun _=>hk p,fun _=>rfl⟩,fun p l hp=>(by cases hp),fun p s hp=>(by cases hp),fun p e hp=>(by cases hp),fun p q hp=>?_,fun p hp=>?_,hF⟩,hv⟩
 ·rw[hk p] at hp;cases hp
 ·rw[hk p] at hp;cases hp

/-! Functions with a range over a function within that return data. -/
def RF (x:Ctx) (r:SV) (es:List En):Ending->World->Prop:=fun e w' => ∃v y,e = .returned v∧y.w=w' ∧ Tr x none y (fun p=>es[p]?)∧B8 y r v

theorem U2 {f:Nat} {fn:Func} {c:Code} {args:List SV} {r:SV} {es:List En} (hf:P.funcs[f]? = some fn) (hb:fn.body=some c) (hlen:Nat.ble args.length fn.ntmps=true)
  (h:∀(x:Ctx) (a:Act),(∀p,x.k p = .no)->(∀b,x.F b->b<x.w.heap.size)->Sim x.w x.F V9 [] (D7 fn.ntmps args) x a->Wq P (bodyPostM Fence.wide 0 P fn (RF x r es)) [.code c] [] .normal a x.w):FnD P f args r es:=by
 intro x vs hk hF hden;exact C8v hf hb (h x _ hk hF (D0h (Nat.le_of_ble_eq_true hlen) hk hF hden))

theorem Y7 {env:Env} (hE:A9 P env) {fn:Func} {x0:Ctx} (hk:∀p,x0.k p = .no) (hF:∀b,x0.F b->b<x0.w.heap.size) {unroll:Bool} {n:Nat} {path:List Bool} {ps fz:List Nat} {ob:List Prop} {r rr:SV} {es:List En} {D:Nat} {y:Ctx} {a0:Act} {σ1 σ2:St} {as0 as:List Act} {z:Ctx} {b:Act}
  (h:G5 env fn unroll n ⟨[],.ret,σ2⟩ path ps fz=some (ob,r,es)) (ho:B1 ob) (hconv:∀y v,B8 y r v->B8 y rr v)
  (h1:Sim x0.w x0.F V9 as0 σ1 y a0) (hD:x0.w.heap.size<=D) (hFD:¬y.F D) (hd:y.w.heap[D]? = some (.deferred (some []))) (hfr:σ2.fr=[])
  (g:Sim y.w y.F (U3 y V9 (I0 D)) as σ2 z b):bodyPostM Fence.wide 0 P fn (RF x0 rr es) .ret b z.w:=by
 obtain ⟨g1,g2,g3⟩:=h1.unmark rfl hD hFD hd hfr g;refine E0f g1 g2 (.inl rfl) ?_
 exact (H2 hE hk hF h ho hconv g3).wp
end
end

section

theorem F5 {x y c:Int} (hx:0<=x) (hx1:x<18446744073709551616) (hy:0<=y) (hy1:y<18446744073709551616) (hc:0<=c) (hc1:c<=1) :
  (A6 1 x y c).1=x-y-c+18446744073709551616*(A6 1 x y c).2∧0<=(A6 1 x y c).1∧(A6 1 x y c).1<18446744073709551616∧0<=(A6 1 x y c).2∧(A6 1 x y c).2<=1:=by
 show (x-y-c) % 18446744073709551616=x-y-c+18446744073709551616*(if x<y+c then 1 else 0)∧0<=(x-y-c) % 18446744073709551616∧(x-y-c) % 18446744073709551616<18446744073709551616∧0<=(if x<y+c then (1:Int) else 0)∧(if x<y+c then (1:Int) else 0)<=1
 split<;>omega

theorem F8 {x y c:Int} (hx:0<=x) (hx1:x<18446744073709551616) (hy:0<=y) (hy1:y<18446744073709551616) (hc:0<=c) (hc1:c<=1) :
  x+y+c=(A6 0 x y c).1+18446744073709551616*(A6 0 x y c).2∧0<=(A6 0 x y c).1∧(A6 0 x y c).1<18446744073709551616∧0<=(A6 0 x y c).2∧(A6 0 x y c).2<=1:=by
 show x+y+c=(x+y+c) % 18446744073709551616+18446744073709551616*((x+y+c) / 18446744073709551616)∧_;refine ⟨by omega,?_,?_,?_,?_⟩<;>(simp only[A6];omega)

theorem C3o {x y:Int} (hx:0<=x) (hx1:x<18446744073709551616) (hy:0<=y) (hy1:y<18446744073709551616):0<=x*y∧x*y<=340282366920938463426481119284349108225:=by
 refine ⟨Int.mul_nonneg hx hy,?_⟩
 have:x*y<=18446744073709551615*18446744073709551615:=Int.mul_le_mul (by omega) (by omega) hy (by decide)
 omega

/-- The limbs of a number below 2 to the power of 256. -/
theorem Y8 {n:Nat} {a b c d:Int} (ha:0<=a) (ha1:a<18446744073709551616) (hb:0<=b) (hb1:b<18446744073709551616) (hc:0<=c) (hc1:c<18446744073709551616) (hd:0<=d) (hd1:d<18446744073709551616)
  (e:(n:Int)=a+18446744073709551616*b+340282366920938463463374607431768211456*c+6277101735386680763835789423207666416102355444464034512896*d):A0 n 0=a∧A0 n 1=b∧A0 n 2=c∧A0 n 3=d:=by
 have h0:A0 n 0=((n / 1 % 18446744073709551616:Nat):Int):=rfl;have h1:A0 n 1=((n / 18446744073709551616 % 18446744073709551616:Nat):Int):=rfl;have h2:A0 n 2=((n / 340282366920938463463374607431768211456 % 18446744073709551616:Nat):Int):=rfl;have h3:A0 n 3=((n / 6277101735386680763835789423207666416102355444464034512896 % 18446744073709551616:Nat):Int):=rfl;rw[h0,h1,h2,h3];omega

/-- A number is its limbs. -/
theorem A0l (n:Nat) (h:n<B4):(n:Int)=A0 n 0+18446744073709551616*A0 n 1+340282366920938463463374607431768211456*A0 n 2+6277101735386680763835789423207666416102355444464034512896*A0 n 3 ∧
  0<=A0 n 0∧A0 n 0<18446744073709551616∧0<=A0 n 1∧A0 n 1<18446744073709551616∧0<=A0 n 2∧A0 n 2<18446744073709551616∧0<=A0 n 3∧A0 n 3<18446744073709551616:=by
 have h0:A0 n 0=((n / 1 % 18446744073709551616:Nat):Int):=rfl;have h1:A0 n 1=((n / 18446744073709551616 % 18446744073709551616:Nat):Int):=rfl;have h2:A0 n 2=((n / 340282366920938463463374607431768211456 % 18446744073709551616:Nat):Int):=rfl;have h3:A0 n 3=((n / 6277101735386680763835789423207666416102355444464034512896 % 18446744073709551616:Nat):Int):=rfl;unfold B4 at h;rw[h0,h1,h2,h3];omega

/-- Four limbs in a row are a number. -/
theorem B2i {x:Ctx} {o:Ob} (hk:o.k=4) {a b c d:Int} (h:A0 o.n 0=a∧A0 o.n 1=b∧A0 o.n 2=c∧A0 o.n 3=d) {v:Value}
  (hd:B8 x (.v (.a [.int .u64 a,.int .u64 b,.int .u64 c,.int .u64 d])) v):B8 x (.v (.a [.ob o])) v:=by
 obtain ⟨cs,e,hc⟩:=hd;refine ⟨cs,e,cs,[],(List.append_nil cs).symm,⟨0,?_⟩,rfl⟩
 obtain ⟨c1,r1,e1,⟨d1,h1⟩,c2,r2,e2,⟨d2,h2⟩,c3,r3,e3,⟨d3,h3⟩,c4,r4,e4,⟨d4,h4⟩,h5⟩:=hc;have h1:c1=[.int .u64 a]:=by cases d1<;>exact h1
 have h2:c2=[.int .u64 b]:=by cases d2<;>exact h2
 have h3:c3=[.int .u64 c]:=by cases d3<;>exact h3
 have h4:c4=[.int .u64 d]:=by cases d4<;>exact h4
 have h5:r4=[]:=h5;show cs=o.cells;subst h1 h2 h3 h4 h5 e4 e3 e2 e1;unfold Ob.cells;rw[hk];show _=[Value.int .u64 (A0 o.n 0),Value.int .u64 (A0 o.n 1),Value.int .u64 (A0 o.n 2),Value.int .u64 (A0 o.n 3)];rw[h.1,h.2.1,h.2.2.1,h.2.2.2];rfl

/-- Two numbers of four limbs that are the same. -/
theorem E6p {x:Ctx} {o o' : Ob} (hk:o.k=o'.k) (hn:o.n=o'.n) {v:Value} (hd:B8 x (.v (.a [.ob o])) v):B8 x (.v (.a [.ob o'])) v:=by
 obtain ⟨cs,e,c1,r1,e1,⟨d1,h1⟩,h2⟩:=hd;have h1:c1=o.cells:=by cases d1<;>exact h1
 have h2:r1=[]:=h2;refine ⟨cs,e,cs,[],(List.append_nil cs).symm,⟨0,?_⟩,rfl⟩
 show cs=o'.cells;rw[e1,h1,h2,List.append_nil];unfold Ob.cells;rw[hk,hn]

/-- What a row of limbs is, taken out of the form in which products are reckoned. -/
def D2m:Nat:=12549076656233958353659347336803947287922716146853412054870763148006372261952
def C5k (n:Nat):Fr:=Fin.ofNat rN (n*D2m)

theorem G2d (n:Nat):(Ob.s (C5k n)).n=n % rN:=by
 show (n*D2m % rN)*B4 % rN=n % rN;rw[Nat.mod_mul_mod,Nat.mul_assoc];have e:D2m*B4 % rN=1:=by decide +kernel
 rw[<-Nat.mul_mod_mod,e,Nat.mul_one]

end

section

theorem C4s (n:Int):wrap IntKind.u64 n=n % 18446744073709551616:=rfl

/-- A product of limbs and two limbs more. -/
theorem mac {x b t u:Int} (hx:0<=x) (hx1:x<18446744073709551616) (hb:0<=b) (hb1:b<18446744073709551616) (ht:0<=t) (ht1:t<18446744073709551616) (hu:0<=u) (hu1:u<18446744073709551616) :
    x*b+t+u=(A6 0 (A6 0 ((x*b) % 18446744073709551616) t 0).1 u 0).1+18446744073709551616*wrap IntKind.u64 (wrap IntKind.u64 ((x*b) / 18446744073709551616+(A6 0 ((x*b) % 18446744073709551616) t 0).2)+(A6 0 (A6 0 ((x*b) % 18446744073709551616) t 0).1 u 0).2) ∧
    (0<=(A6 0 (A6 0 ((x*b) % 18446744073709551616) t 0).1 u 0).1∧(A6 0 (A6 0 ((x*b) % 18446744073709551616) t 0).1 u 0).1<18446744073709551616) ∧
    (0<=wrap IntKind.u64 (wrap IntKind.u64 ((x*b) / 18446744073709551616+(A6 0 ((x*b) % 18446744073709551616) t 0).2)+(A6 0 (A6 0 ((x*b) % 18446744073709551616) t 0).1 u 0).2) ∧
     wrap IntKind.u64 (wrap IntKind.u64 ((x*b) / 18446744073709551616+(A6 0 ((x*b) % 18446744073709551616) t 0).2)+(A6 0 (A6 0 ((x*b) % 18446744073709551616) t 0).1 u 0).2)<18446744073709551616) ∧
    0<=(A6 0 ((x*b) % 18446744073709551616) t 0).1∧(A6 0 ((x*b) % 18446744073709551616) t 0).1<18446744073709551616:=by
  have hp:=C3o hx hx1 hb hb1;generalize x*b=p at *;obtain ⟨e1,a1,a1',c1,c1'⟩:=F8 (x:=p % 18446744073709551616) (y:=t) (c:=0) (by omega) (by omega) ht ht1 (by decide) (by decide)
  generalize A6 0 (p % 18446744073709551616) t 0=o1 at *;obtain ⟨e2,a2,a2',c2,c2'⟩:=F8 (x:=o1.1) (y:=u) (c:=0) a1 a1' hu hu1 (by decide) (by decide)
  generalize A6 0 o1.1 u 0=o2 at *;rw[C4s,C4s];refine ⟨?_,⟨a2,a2'⟩,⟨?_,?_⟩,a1,a1'⟩<;>omega

/-- A product of limbs and one limb more. -/
theorem E9p {x b t:Int} (hx:0<=x) (hx1:x<18446744073709551616) (hb:0<=b) (hb1:b<18446744073709551616) (ht:0<=t) (ht1:t<18446744073709551616) :
  x*b+t=(A6 0 ((x*b) % 18446744073709551616) t 0).1+18446744073709551616*wrap IntKind.u64 ((x*b) / 18446744073709551616+(A6 0 ((x*b) % 18446744073709551616) t 0).2) ∧
  (0<=(A6 0 ((x*b) % 18446744073709551616) t 0).1∧(A6 0 ((x*b) % 18446744073709551616) t 0).1<18446744073709551616) ∧
  0<=wrap IntKind.u64 ((x*b) / 18446744073709551616+(A6 0 ((x*b) % 18446744073709551616) t 0).2)∧wrap IntKind.u64 ((x*b) / 18446744073709551616+(A6 0 ((x*b) % 18446744073709551616) t 0).2)<18446744073709551616:=by
 have hp:=C3o hx hx1 hb hb1;generalize x*b=p at *;obtain ⟨e1,a1,a1',c1,c1'⟩:=F8 (x:=p % 18446744073709551616) (y:=t) (c:=0) (by omega) (by omega) ht ht1 (by decide) (by decide)
 generalize A6 0 (p % 18446744073709551616) t 0=o1 at *;rw[C4s];refine ⟨?_,⟨a1,a1'⟩,?_,?_⟩<;>omega

/-- The lowest limb goes out: with the prime r. -/
theorem D6u {l q:Int} (hq:q=wrap IntKind.u64 (l*18446744069414584319)):(q*18446744069414584321+l) % 18446744073709551616=0:=by
 rw[C4s] at hq;omega

theorem G1d : (2 ^ (64*4):Nat)=B4:=by kernel_rfl

theorem C2b (X i:Nat):X % 2 ^ (64*(i+1))=X % 2 ^ (64*i)+2 ^ (64*i)*(X / 2 ^ (64*i) % 18446744073709551616):=by
 have h:(2:Nat) ^ (64*(i+1))=2 ^ (64*i)*18446744073709551616:=by
  rw[Nat.mul_add,Nat.pow_add]
 rw[h,Nat.mod_mul]

theorem D6m {r B v x y T Q:Nat} (e:v*B % r=1 % r) (h:T*B=(x*B % r)*(y*B % r)+Q*r):T*v % r=x*y % r:=by
  have h1:T*B % r=(x*B)*(y*B) % r:=by
    rw[h,Nat.add_mul_mod_self_right,<-Nat.mul_mod]
  have h2:∀a:Nat,a*(v*B) % r=a % r:=fun a=>by rw[<-Nat.mul_mod_mod,e,Nat.mul_mod_mod,Nat.mul_one]
  calc T*v % r=(T*v)*(v*B) % r:=(h2 _).symm
    _=(T*B)*(v*v) % r:=by congr 1;simp only[Nat.mul_comm,Nat.mul_left_comm]
    _=(T*B % r)*(v*v) % r:=by rw[Nat.mod_mul_mod]
    _=((x*B)*(y*B) % r)*(v*v) % r:=by rw[h1]
    _=((x*B)*(y*B))*(v*v) % r:=by rw[Nat.mod_mul_mod]
    _=(x*y*(v*B))*(v*B) % r:=by congr 1;simp only[Nat.mul_comm,Nat.mul_left_comm]
    _=x*y % r:=by rw[h2,h2]

theorem B3n:D2m*B4 % rN=1 % rN:=by kernel_rfl

/-- What is left when a product has gone through all limbs. -/
theorem F8x {x y:Fr} {T Q:Nat} (h:T*B4=(Ob.s x).n*(Ob.s y).n+Q*rN):C5k T=x*y:=
 Fin.ext (D6m B3n h)

end

section

def G4 (a b c d e f:Int):Int:=a+18446744073709551616*b+340282366920938463463374607431768211456*c+6277101735386680763835789423207666416102355444464034512896*d+115792089237316195423570985008687907853269984665640564039457584007913129639936*e+2135987035920910082395021706169552114602704522356652769947041607822219725780640550022962086936576*f

/-- The limbs of a number below 2 to the power of 384. -/
theorem Y9 {n:Nat} {a b c d e f:Int} (ha:0<=a) (ha1:a<18446744073709551616) (hb:0<=b) (hb1:b<18446744073709551616) (hc:0<=c) (hc1:c<18446744073709551616) (hd:0<=d) (hd1:d<18446744073709551616) (he:0<=e) (he1:e<18446744073709551616) (hf:0<=f) (hf1:f<18446744073709551616)
  (e1:(n:Int)=G4 a b c d e f):A0 n 0=a∧A0 n 1=b∧A0 n 2=c∧A0 n 3=d∧A0 n 4=e∧A0 n 5=f:=by
 unfold G4 at e1;have k0:A0 n 0=((n / 1 % 18446744073709551616:Nat):Int):=rfl;have k1:A0 n 1=((n / 18446744073709551616 % 18446744073709551616:Nat):Int):=rfl;have k2:A0 n 2=((n / 340282366920938463463374607431768211456 % 18446744073709551616:Nat):Int):=rfl;have k3:A0 n 3=((n / 6277101735386680763835789423207666416102355444464034512896 % 18446744073709551616:Nat):Int):=rfl;have k4:A0 n 4=((n / 115792089237316195423570985008687907853269984665640564039457584007913129639936 % 18446744073709551616:Nat):Int):=rfl;have k5:A0 n 5=((n / 2135987035920910082395021706169552114602704522356652769947041607822219725780640550022962086936576 % 18446744073709551616:Nat):Int):=by kernel_rfl
 rw[k0,k1,k2,k3,k4,k5];omega

/-- A number is its limbs. -/
theorem A1t (n:Nat) (h:n<B6):(n:Int)=G4 (A0 n 0) (A0 n 1) (A0 n 2) (A0 n 3) (A0 n 4) (A0 n 5) ∧
  0<=A0 n 0∧A0 n 0<18446744073709551616∧0<=A0 n 1∧A0 n 1<18446744073709551616∧0<=A0 n 2∧A0 n 2<18446744073709551616∧0<=A0 n 3∧A0 n 3<18446744073709551616∧0<=A0 n 4∧A0 n 4<18446744073709551616∧0<=A0 n 5∧A0 n 5<18446744073709551616:=by
 unfold G4;have k0:A0 n 0=((n / 1 % 18446744073709551616:Nat):Int):=rfl;have k1:A0 n 1=((n / 18446744073709551616 % 18446744073709551616:Nat):Int):=rfl;have k2:A0 n 2=((n / 340282366920938463463374607431768211456 % 18446744073709551616:Nat):Int):=rfl;have k3:A0 n 3=((n / 6277101735386680763835789423207666416102355444464034512896 % 18446744073709551616:Nat):Int):=rfl;have k4:A0 n 4=((n / 115792089237316195423570985008687907853269984665640564039457584007913129639936 % 18446744073709551616:Nat):Int):=rfl;have k5:A0 n 5=((n / 2135987035920910082395021706169552114602704522356652769947041607822219725780640550022962086936576 % 18446744073709551616:Nat):Int):=by kernel_rfl
 unfold B6 at h;rw[k0,k1,k2,k3,k4,k5];omega

/-- Six limbs in a row are a number. -/
theorem A5v {x:Ctx} {o:Ob} (hk:o.k=6) {a b c d e f:Int} (h:A0 o.n 0=a∧A0 o.n 1=b∧A0 o.n 2=c∧A0 o.n 3=d∧A0 o.n 4=e∧A0 o.n 5=f) {v:Value}
  (hd:B8 x (.v (.a [.int .u64 a,.int .u64 b,.int .u64 c,.int .u64 d,.int .u64 e,.int .u64 f])) v):B8 x (.v (.a [.ob o])) v:=by
 obtain ⟨cs,ev,hc⟩:=hd;refine ⟨cs,ev,cs,[],(List.append_nil cs).symm,⟨0,?_⟩,rfl⟩
 obtain ⟨c1,r1,e1,⟨d1,h1⟩,c2,r2,e2,⟨d2,h2⟩,c3,r3,e3,⟨d3,h3⟩,c4,r4,e4,⟨d4,h4⟩,c5,r5,e5,⟨d5,h5⟩,c6,r6,e6,⟨d6,h6⟩,h7⟩:=hc;have h1:c1=[.int .u64 a]:=by cases d1<;>exact h1
 have h2:c2=[.int .u64 b]:=by cases d2<;>exact h2
 have h3:c3=[.int .u64 c]:=by cases d3<;>exact h3
 have h4:c4=[.int .u64 d]:=by cases d4<;>exact h4
 have h5:c5=[.int .u64 e]:=by cases d5<;>exact h5
 have h6:c6=[.int .u64 f]:=by cases d6<;>exact h6
 have h7:r6=[]:=h7;show cs=o.cells;subst h1 h2 h3 h4 h5 h6 h7 e6 e5 e4 e3 e2 e1;unfold Ob.cells;rw[hk];show _=[Value.int .u64 (A0 o.n 0),Value.int .u64 (A0 o.n 1),Value.int .u64 (A0 o.n 2),Value.int .u64 (A0 o.n 3),Value.int .u64 (A0 o.n 4),Value.int .u64 (A0 o.n 5)];rw[h.1,h.2.1,h.2.2.1,h.2.2.2.1,h.2.2.2.2.1,h.2.2.2.2.2];rfl

theorem E4c {x:Ctx} {o:Ob} (hk:o.k=6) {a b c d e f:Int} (h:A0 o.n 0=a∧A0 o.n 1=b∧A0 o.n 2=c∧A0 o.n 3=d∧A0 o.n 4=e∧A0 o.n 5=f) {cs:List Value}
  (hc:C4 x.D [.int .u64 a,.int .u64 b,.int .u64 c,.int .u64 d,.int .u64 e,.int .u64 f] cs):C4 x.D [.ob o] cs:=by
 obtain ⟨cs',ev,h'⟩:=A5v hk h (v:=.agg cs.toArray) ⟨cs,rfl,hc⟩;have ev:cs=cs' := by simpa using ev
 rw[ev];exact h'

theorem F9v {x:Ctx} {o:Ob} (hk:o.k=6) {cs:List Value} (h:C4 x.D [.ob o] cs):C4 x.D [.int .u64 (A0 o.n 0),.int .u64 (A0 o.n 1),.int .u64 (A0 o.n 2),.int .u64 (A0 o.n 3),.int .u64 (A0 o.n 4),.int .u64 (A0 o.n 5)] cs:=by
 obtain ⟨c1,c2,e,⟨d,h1⟩,h2⟩:=h;have h1:c1=o.cells:=by cases d<;>exact h1
 have h2:c2=[]:=h2;subst h2 h1 e;rw[List.append_nil];unfold Ob.cells;rw[hk];exact ⟨[_],_,rfl,⟨0,rfl⟩,[_],_,rfl,⟨0,rfl⟩,[_],_,rfl,⟨0,rfl⟩,[_],_,rfl,⟨0,rfl⟩,[_],_,rfl,⟨0,rfl⟩,[_],_,rfl,⟨0,rfl⟩,rfl⟩

/-- What a row of limbs is, taken out of the form in which products are reckoned. -/
def pnv:Nat:=3231460744492646417066832100176244795738767926513225105051837195607029917124509527734802654356338138714468589979680
def B7s (n:Nat):Fp:=Fin.ofNat pN (n*pnv)
theorem C3g:pnv*B6 % pN=1 % pN:=by kernel_rfl

theorem G2b (n:Nat):(Ob.p (B7s n)).n=n % pN:=by
 show (n*pnv % pN)*B6 % pN=n % pN;rw[Nat.mod_mul_mod,Nat.mul_assoc];have e:pnv*B6 % pN=1:=by decide +kernel
 rw[<-Nat.mul_mod_mod,e,Nat.mul_one]

/-- The lowest limb goes out: with the prime p. -/
theorem D6t {l q:Int} (hq:q=wrap IntKind.u64 (l*9940570264628428797)):(q*13402431016077863595+l) % 18446744073709551616=0:=by
 rw[C4s] at hq;omega

theorem E6x : (2 ^ (64*6):Nat)=B6:=by kernel_rfl
theorem H0p:pN<2 ^ (64*6):=by rw[E6x];decide

/-- What is left when a product has gone through all limbs. -/
theorem E9u {x y:Fp} {T Q:Nat} (h:T*B6=(Ob.p x).n*(Ob.p y).n+Q*pN):B7s T=x*y:=
 Fin.ext (D6m C3g h)

theorem B5o (x:Fp):(Ob.p x).n<pN:=Nat.mod_lt _ (by decide)
theorem D7c (z a b c d e f:Int):z*G4 a b c d e f=(z*a)+18446744073709551616*(z*b)+340282366920938463463374607431768211456*(z*c)+6277101735386680763835789423207666416102355444464034512896*(z*d)+115792089237316195423570985008687907853269984665640564039457584007913129639936*(z*e)+2135987035920910082395021706169552114602704522356652769947041607822219725780640550022962086936576*(z*f):=by
 unfold G4;simp only[Int.mul_add,Int.mul_left_comm z]

/-- The product's lowest limb taken out, round by round. -/
theorem C7w {A Y r i Q:Nat} {T T' q:Int} (hq:0<=q) (h:T*((2 ^ (64*i):Nat):Int)=((A % 2 ^ (64*i):Nat):Int)*(Y:Int)+(Q:Int)*(r:Int))
  (h' : 18446744073709551616*T' = T+A0 A i*(Y:Int)+q*(r:Int)) :
  ∃Q:Nat,T' * ((2 ^ (64*(i+1)):Nat):Int)=((A % 2 ^ (64*(i+1)):Nat):Int)*(Y:Int)+(Q:Int)*(r:Int):=by
 obtain ⟨q,rfl⟩:=Int.eq_ofNat_of_zero_le hq;refine ⟨Q+q*2 ^ (64*i),?_⟩
 rw[C2b];have hp:(2:Nat) ^ (64*(i+1))=2 ^ (64*i)*18446744073709551616:=by rw[Nat.mul_add,Nat.pow_add]
 rw[hp];have hl:A0 A i=((A / 2 ^ (64*i) % 18446744073709551616:Nat):Int):=rfl;rw[hl] at h'
 generalize A / 2 ^ (64*i) % 18446744073709551616=xi at *;generalize A % 2 ^ (64*i)=X at *;generalize 2 ^ (64*i)=m at *;have e1:T' * ((m*18446744073709551616:Nat):Int)=(18446744073709551616*T')*(m:Int):=by
  rw[Int.natCast_mul,Int.mul_comm (m:Int),<-Int.mul_assoc,Int.mul_comm T'];rfl
 rw[e1,h',Int.add_mul,Int.add_mul,h];push_cast
 simp only[Int.add_mul,Int.mul_assoc];have e2:(xi:Int)*((Y:Int)*(m:Int))=(m:Int)*((xi:Int)*(Y:Int)):=by rw[<-Int.mul_assoc,Int.mul_comm]
 have e3:(q:Int)*((r:Int)*(m:Int))=(q:Int)*((m:Int)*(r:Int)):=by rw[Int.mul_comm (r:Int)]
 rw[e2,e3];omega

def B7 (a:Int):Prop:=0<=a∧a<18446744073709551616
theorem D7d {a b c d e f:Int} (ha:B7 a) (hb:B7 b) (hc:B7 c) (hd:B7 d) (he:B7 e) (hf:B7 f):∃n:Nat,n<B6∧G4 a b c d e f=(n:Int)∧A0 n 0=a∧A0 n 1=b∧A0 n 2=c∧A0 n 3=d∧A0 n 4=e∧A0 n 5=f:=by
 obtain ⟨ha,ha1⟩:=ha;obtain ⟨hb,hb1⟩:=hb;obtain ⟨hc,hc1⟩:=hc;obtain ⟨hd,hd1⟩:=hd;obtain ⟨he,he1⟩:=he;obtain ⟨hf,hf1⟩:=hf;have h0:0<=G4 a b c d e f:=by unfold G4;omega
 obtain ⟨n,hn⟩:=Int.eq_ofNat_of_zero_le h0;refine ⟨n,?_,hn,Y9 ha ha1 hb hb1 hc hc1 hd hd1 he he1 hf hf1 (by rw[<-hn])⟩
 unfold G4 at hn;unfold B6;omega

def A3c (n:Nat):U6:=Fin.ofNat B6 (n % pN)
theorem B3m (n:Nat):(A3c n).val=n % pN:=Nat.mod_eq_of_lt (Nat.lt_trans (Nat.mod_lt _ (by decide)) (by decide))
theorem E2n {a b:Nat} (h:a % pN=b % pN):A3c a=A3c b:=by unfold A3c;rw[h]

end

section

/-- The digits that t steps have handed on. -/
def dgT (n:Nat):Nat->List Nat
 | 0=>[]
 | t+1=>if (dgT n t).isEmpty=true∧n / 16 ^ (63-t) % 16=0 then [] else dgT n t++[n / 16 ^ (63-t) % 16]

theorem B1o {n t:Nat} (h1:(dgT n t).isEmpty=true) (h2:n / 16 ^ (63-t) % 16=0):dgT n (t+1)=[]:=if_pos ⟨h1,h2⟩
theorem B9y {n t:Nat} (h:¬((dgT n t).isEmpty=true∧n / 16 ^ (63-t) % 16=0)):dgT n (t+1)=dgT n t++[n / 16 ^ (63-t) % 16]:=if_neg h

theorem E4n (n:Nat) {t:Nat}:∀{m:Nat},t<=m->∃r,dgT n m=dgT n t++r
 | 0,h=>⟨[],by rw[Nat.le_zero.1 h];rfl⟩
 | m+1,h=>by
  by_cases e:t=m+1
  ·exact ⟨[],by rw[e,List.append_nil]⟩
  ·obtain ⟨r,hr⟩:=E4n n (m:=m) (t:=t) (by omega)
   by_cases hc:(dgT n m).isEmpty=true∧n / 16 ^ (63-m) % 16=0
   ·rw[B1o hc.1 hc.2]
    have h1:dgT n m=[]:=List.isEmpty_iff.1 hc.1;rw[h1] at hr;obtain ⟨h2,h3⟩:=List.append_eq_nil_iff.1 hr.symm;exact ⟨[],by rw[h2];rfl⟩
   ·exact ⟨r++[n / 16 ^ (63-m) % 16],by rw[B9y hc,hr,List.append_assoc]⟩

def dgV (l:List Nat):Nat:=l.foldl (fun v d=>16*v+d) 0
theorem F3v (l:List Nat) (d:Nat):dgV (l++[d])=16*dgV l+d:=by simp [dgV]
theorem G5u (n s:Nat):n / 16 ^ s=16*(n / 16 ^ (s+1))+n / 16 ^ s % 16:=by
 rw[Nat.pow_succ,<-Nat.div_div_eq_div_mul];omega
theorem H3c {n:Nat} (h:n<16 ^ 64):∀t,t<=64->dgV (dgT n t)=n / 16 ^ (64-t)
 | 0,_=>(Nat.div_eq_of_lt h).symm
 | t+1,ht=>by
  have ih:=H3c h t (by omega)
  have e1:64-t=(63-t)+1:=by omega
  have e2:64-(t+1)=63-t:=by omega
  rw[e1] at ih;rw[e2,G5u n (63-t),<-ih];by_cases hc:(dgT n t).isEmpty=true∧n / 16 ^ (63-t) % 16=0
  ·rw[B1o hc.1 hc.2,hc.2,List.isEmpty_iff.1 hc.1]
   rfl
  ·rw[B9y hc,F3v]
theorem E0b {n:Nat}:∀t d,d∈dgT n t->d<16
 | 0,d,h=>by cases h
 | t+1,d,h=>by
  by_cases hc:(dgT n t).isEmpty=true∧n / 16 ^ (63-t) % 16=0
  ·rw[B1o hc.1 hc.2] at h;cases h
  ·rw[B9y hc,List.mem_append] at h
   rcases h with h | h
   ·exact E0b t d h
   ·rw[List.mem_singleton] at h
    rw[h];exact Nat.mod_lt _ (by decide)

theorem E4t (n i:Nat):n / 2 ^ (64*(i / 16)) % 18446744073709551616 / 2 ^ (4*(i % 16)) % 16=n / 16 ^ i % 16:=by
 have h64:18446744073709551616=2 ^ (4*(i % 16))*(16*2 ^ (60-4*(i % 16))):=by
  rw[show (16:Nat)=2 ^ 4 from rfl,<-Nat.pow_add,<-Nat.pow_add,show 4*(i % 2 ^ 4)+(4+(60-4*(i % 2 ^ 4)))=64 from by omega]
 rw[h64,Nat.mod_mul_right_div_self,Nat.mod_mul_right_mod,Nat.div_div_eq_div_mul,<-Nat.pow_add,show 64*(i / 16)+4*(i % 16)=4*i from by omega,Nat.pow_mul]

theorem H2x {m:Nat}:I1 BinOp.and IntKind.u64 (m:Int) (15:Int)=((m % 16:Nat):Int):=by
 show wrap IntKind.u64 ((BitVec.ofInt 64 (m:Int) &&& BitVec.ofInt 64 ((15:Nat):Int)).toNat:Int)=_;rw[BitVec.ofInt_natCast,BitVec.ofInt_natCast,BitVec.toNat_and,BitVec.toNat_ofNat,BitVec.toNat_ofNat];have e:15 % 2 ^ 64=2 ^ 4-1:=by decide
 rw[e,Nat.and_two_pow_sub_one_eq_mod];show (((m % 2 ^ 64 % 2 ^ 4:Nat):Int)) % 18446744073709551616=_;omega

/-- A digit, as it is reckoned. -/
theorem F3x (k:U4) {i:Nat} (hi:i<64):wrap IntKind.i64 (I1 BinOp.and IntKind.u64 (Int.fdiv (A0 (Ob.n (Ob.fr k)) (0+(((wrap IntKind.i64 (Int.tdiv (i:Int) (16:Int)))).toNat*1))) ((2:Int) ^ (Min.min ((wrap IntKind.i64 ((4:Int)*(Int.tmod (i:Int) (16:Int))))).toNat 64))) (15:Int))=((k.val / 16 ^ i % 16:Nat):Int):=by
 have e1:Int.tdiv (i:Int) (16:Int)=((i / 16:Nat):Int):=Int.tdiv_eq_ediv_of_nonneg (by omega)
 have e2:Int.tmod (i:Int) (16:Int)=((i % 16:Nat):Int):=Int.tmod_eq_emod_of_nonneg (by omega)
 rw[e1,e2,C0 (n:=((i / 16:Nat):Int)) (by omega) (by omega),C0 (n:=(4:Int)*((i % 16:Nat):Int)) (by omega) (by omega),Int.toNat_natCast]
 have e3:Min.min ((4:Int)*((i % 16:Nat):Int)).toNat 64=4*(i % 16):=by omega
 have e4:0+i / 16*1=i / 16:=by omega
 rw[e3,e4];have hl:A0 (Ob.n (Ob.fr k)) (i / 16)=((k.val / 2 ^ (64*(i / 16)) % 18446744073709551616:Nat):Int):=rfl;rw[hl,<-E4t k.val i];generalize k.val / 2 ^ (64*(i / 16)) % 18446744073709551616=m;have hp:((2:Int) ^ (4*(i % 16)))=((2 ^ (4*(i % 16)):Nat):Int):=by simp
 rw[hp,Int.fdiv_eq_ediv_of_nonneg _ (Int.natCast_nonneg _),<-Int.natCast_ediv,H2x];exact C0 (by omega) (by omega)

theorem C6d {i:Nat} (hi:i<64):wrap IntKind.i64 (Int.tdiv (i:Int) (16:Int))=((i / 16:Nat):Int):=by
 have e1:Int.tdiv (i:Int) (16:Int)=((i / 16:Nat):Int):=Int.tdiv_eq_ediv_of_nonneg (by omega)
 rw[e1];exact C0 (by omega) (by omega)
theorem C6e (i:Nat):(0:Int)<=wrap IntKind.i64 ((4:Int)*(Int.tmod (i:Int) (16:Int))):=by
 have e2:Int.tmod (i:Int) (16:Int)=((i % 16:Nat):Int):=Int.tmod_eq_emod_of_nonneg (by omega)
 rw[e2,C0 (by omega) (by omega)]
 omega

/-! A block told in other words. -/
def F3m (x:Ctx):List (Option En)->List (Option En)->Prop
 | [],[]=>True
 | e::l,e' :: l' => (e=e' ∨ ∃f f' r,e=some (.fl r)∧e=some f∧e' = some f' ∧ ∀cs,C7 x f cs->C7 x f' cs)∧F3m x l l'
 | _,_=>False

theorem B9t {x:Ctx}:∀{ml:List Nat} {ens ens' : List (Option En)},F3m x ens ens' -> ∀p,D9 none ml ens p=D9 none ml ens' p∨∃f f' r,D9 none ml ens p=some (.fl r)∧D9 none ml ens p=some f∧D9 none ml ens' p=some f' ∧ ∀cs,C7 x f cs->C7 x f' cs
 | [],_,_,_,_=>.inl rfl
 | _::_,[],[],_,_=>.inl rfl
 | _::_,[],_::_,h,_=>h.elim
 | _::_,_::_,[],h,_=>h.elim
 | t::tl,e::l,e' :: l',h,p=>by
  simp only[D9];by_cases hp:p=t
  ·simp only[hp,if_true];exact h.1
  ·simp only[hp,if_false];exact B9t h.2 p

theorem Sim.blocks {w0:World} {F0:Nat->Prop} {K:Kp} {as:List Act} {nt nx:Nat} {tl:List Nat} {svs:List SV} {ml:List Nat} {ens ens' : List (Option En)} {ftl:List (List Nat)} {fsv:List (List SV×Nat)} {x:Ctx} {a:Act}
  (hs:Sim w0 F0 K as (B0 nt tl svs ml ens nx ftl fsv) x a) (h:F3m x ens ens'):Sim w0 F0 K as (B0 nt tl svs ml ens' nx ftl fsv) x a:=by
 have hm:=hs.mem;refine ⟨hs.defers,hs.nt,hs.t,?_,hs.base,hs.frs⟩
 have key:=B9t (ml:=ml) h;refine ⟨fun p=>?_,fun p l hp=>?_,fun p q hp hn=>?_,fun p e hp hr=>?_,hm.inj,hm.own,hm.fw⟩
 ·rw[<-hm.dom p]
  show D9 none ml ens' p=none↔D9 none ml ens p=none;rcases key p with e | ⟨f,f',r,e1,e2,e3,_⟩
  ·rw[e]
  ·rw[e2,e3]
   constructor<;>(intro h;cases h)
 ·have hp:D9 none ml ens' p=some (.fl l):=hp
  rcases key p with e | ⟨f,f',r,e1,e2,e3,_⟩
  ·rw[<-e] at hp;exact hm.fl p l hp
  ·exact hm.fl p r e1
 ·have hp:D9 none ml ens' p=some (.sq q):=hp
  rcases key p with e | ⟨f,f',r,e1,e2,e3,_⟩
  ·rw[<-e] at hp;exact hm.nil p q hp hn
  ·have:=hm.fl p r e1
   rw[this] at hn;cases hn
 ·have hp:D9 none ml ens' p=some e:=hp
  rcases key p with e0 | ⟨f,f',r,e1,e2,e3,hc⟩
  ·rw[<-e0] at hp;exact hm.ent p e hp hr
  ·rw[e3] at hp
   cases hp
   obtain ⟨cs,ty,h1,h2⟩:=hm.ent p f e2 hr;exact ⟨cs,ty,h1,hc _ h2⟩

end

section

section
variable {F:Type} [Add F] [Sub F] [Mul F] [OfNat F 0] [DecidableEq F]
/-- The table: the point 0, 1, 2 .. times. -/
def V8 (a:F×F×F):Nat->F×F×F
 | 0=>(a.1,a.2.1,0)
 | n+1=>jpl (V8 a n) a
def jst (a o:F×F×F) (d:Nat):F×F×F:=jpl (jtw (jtw (jtw (jtw o)))) (V8 a d)
def jmn (a:F×F×F) (l:List Nat):F×F×F:=l.foldl (jst a) (V8 a 0)
def A3r:Nat->F×F×F->F×F×F
 | 0,o=>o
 | n+1,o=>jtw (A3r n o)
end

theorem G7z {F:Type} [Add F] [Sub F] [Mul F] [OfNat F 0] [DecidableEq F] (a o:F×F×F) (d:Nat):jst a o d=jpl (A3r 4 o) (V8 a d):=rfl
theorem C6w {F:Type} [Add F] [Sub F] [Mul F] [OfNat F 0] [DecidableEq F] (n:Nat) (o:F×F×F):A3r (n+1) o=jtw (A3r n o):=rfl
section
variable {F:Type} [Fld F] [DecidableEq F] {b:F}

/-- A point as often as a number says. -/
def D6 (P:Pt F):Nat->Pt F
 | 0=>none
 | n+1=>C5 (D6 P n) P

theorem J0 (hc:Cv b) {P:Pt F} (h:OnC b P):∀n,OnC b (D6 P n)
 | 0=>True.intro
 | n+1=>J8 hc _ _ (J0 hc h n) h

theorem D6y (P:Pt F):D6 P 1=P:=rfl
theorem Q5 (hc:Cv b) {P:Pt F} (h:OnC b P) (m:Nat):∀n,D6 P (m+n)=C5 (D6 P m) (D6 P n)
 | 0=>(O9 _).symm
 | n+1=>by
  show C5 (D6 P (m+n)) P=C5 (D6 P m) (C5 (D6 P n) P);rw[Q5 hc h m n,O1 hc _ _ _ (J0 hc h m) (J0 hc h n) h]

theorem Z4:∀n,D6 (none:Pt F) n=none
 | 0=>rfl
 | n+1=>by
  show C5 (D6 none n) none=none;rw[Z4 n];rfl

theorem Q6 (hc:Cv b) {P:Pt F} (h:OnC b P) (m:Nat):∀n,D6 P (m*n)=D6 (D6 P m) n
 | 0=>rfl
 | n+1=>by
  rw[Nat.mul_succ,Q5 hc h,Q6 hc h m n];rfl

theorem E9c (hc:Cv b) {P Q R S:Pt F} (hP:OnC b P) (hQ:OnC b Q) (hR:OnC b R) (hS:OnC b S):C5 (C5 P Q) (C5 R S)=C5 (C5 P R) (C5 Q S):=by
 rw[O1 hc _ _ _ hP hQ (J8 hc _ _ hR hS),<-O1 hc _ _ _ hQ hR hS,V5 hc Q R hQ hR,O1 hc _ _ _ hR hQ hS,<-O1 hc _ _ _ hP hR (J8 hc _ _ hQ hS)]

theorem B5g (hc:Cv b) {P Q:Pt F} (hP:OnC b P) (hQ:OnC b Q):∀n,D6 (C5 P Q) n=C5 (D6 P n) (D6 Q n)
 | 0=>rfl
 | n+1=>by
  show C5 (D6 (C5 P Q) n) (C5 P Q)=C5 (C5 (D6 P n) P) (C5 (D6 Q n) Q);rw[B5g hc hP hQ n,E9c hc (J0 hc hP n) (J0 hc hQ n) hP hQ]

/-- What adds up to that at infinity is less the other. -/
theorem E9e (hc:Cv b) {P Q:Pt F} (hP:OnC b P) (hQ:OnC b Q) (h:C5 P Q=none):Q=P5 P:=by
 have e1:C5 (P5 P) (C5 P Q)=P5 P:=by rw[h,O9]
 rw[<-O1 hc _ _ _ (U1 P hP) hP hQ,V5 hc _ _ (U1 P hP) hP,R1 hc P hP] at e1;exact e1

theorem E9y (hc:Cv b) {P:Pt F} (hP:OnC b P) (n:Nat):D6 (P5 P) n=P5 (D6 P n):=by
 apply E9e hc (J0 hc hP n) (J0 hc (U1 P hP) n)
 rw[<-B5g hc hP (U1 P hP),R1 hc P hP,Z4]

theorem E5y (two:(1:F)+1≠0) {P:Pt F} {a:F×F×F} (h:Jc P a):∀n,Jc (D6 P n) (V8 a n)
 | 0=>rfl
 | n+1=>A2y two _ _ _ _ (E5y two h n) h

theorem H6o (hc:Cv b) {P:Pt F} {a:F×F×F} (hP:OnC b P) (h:Jc P a) {m:Nat} {o:F×F×F} (ho:Jc (D6 P m) o) (d:Nat):Jc (D6 P (16*m+d)) (jst a o d):=by
 have h1:=A5w hc.two _ _ ho;rw[<-Q5 hc hP] at h1;have h2:=A5w hc.two _ _ h1;rw[<-Q5 hc hP] at h2;have h3:=A5w hc.two _ _ h2;rw[<-Q5 hc hP] at h3;have h4:=A5w hc.two _ _ h3;rw[<-Q5 hc hP] at h4;have h5:=A2y hc.two _ _ _ _ h4 (E5y hc.two h d);rw[<-Q5 hc hP] at h5;rw[show 16*m+d=m+m+(m+m)+(m+m+(m+m))+(m+m+(m+m)+(m+m+(m+m)))+d from by omega]
 exact h5

theorem D5y (hc:Cv b) {P:Pt F} {a:F×F×F} (hP:OnC b P) (h:Jc P a):∀(l:List Nat) (m:Nat) (o:F×F×F),Jc (D6 P m) o->Jc (D6 P (l.foldl (fun v d=>16*v+d) m)) (l.foldl (jst a) o)
 | [],_,_,ho=>ho
 | d::l,m,o,ho=>D5y hc hP h l (16*m+d) (jst a o d) (H6o hc hP h ho d)

theorem E0v (hc:Cv b) {P:Pt F} {a:F×F×F} (hP:OnC b P) (h:Jc P a) (l:List Nat):Jc (D6 P (dgV l)) (jmn a l):=D5y hc hP h l 0 (V8 a 0) (rfl:(0:F)=0)
end

theorem E4o {n t:Nat} (ht:t=64) (h:n<16 ^ 64):dgV (dgT n t)=n:=by
 have e:=H3c h t (by omega)
 rw[show 64-t=0 from by omega,Nat.pow_zero,Nat.div_one] at e
 exact e
theorem I3u (k:U4):k.val<16 ^ 64:=by
 have h:B4=16 ^ 64:=by decide +kernel
 rw[<-h];exact k.isLt

theorem F3u (k:U4):dgV (dgT k.val 64)=k.val:=E4o (Eq.refl 64) (I3u k)

end

section

/-- The contracts of both: where the first one has none, the second one's. -/
def Env.or (a b:Env):Env:={ a with fn:=fun f=>match a.fn f with | some s=>some s | none=>b.fn f }
theorem A5p {P:Program} {a b:Env} (hA:A9 P a) (hB:A9 P b):A9 P (a.or b):=by
 refine ⟨hA.ty,hA.mixed,fun f s h=>?_,hA.mu,hA.inl,hA.ex,hA.inv⟩
 have h:(match a.fn f with | some s=>some s | none=>b.fn f)=some s:=h
 cases e:a.fn f with
 | some s' => rw[e] at h;exact hA.fn f s (by rw[e];exact h)
 | none=>rw[e] at h;exact hB.fn f s h
end

section

/-- The row at pb is told as data, and nothing else but the box at p is told of. -/
def C1a (y:Ctx) (p pb:Nat):Ctx:=
  { w:=y.w,F:=fun b=>y.F b∨(y.k pb = .real∧b=y.β pb),k:=fun i=>if i=p then y.k p else .no,β:=y.β }
def fzM (p:Nat) (q:Sq):Nat->Option En:=fun i=>if i=p then some (.fl [.sl q]) else none

theorem H5s {y:Ctx} {m:Nat->Option En} {p pb len es:Nat} {q:Sq} (hm:Mem y m) (hq:m pb=some (.sq q)) (hl:len=q.n) {vs:List Value} (hd:y.D (.slc pb 0 len es) vs):(C1a y p pb).D (.sl q) vs:=by
 have hs:∃v,vs=[v]∧B8 y (.v (.c (.slc pb 0 len es))) v:=by
  have:=A0h hd
  match vs,this with
  | [v],_=>exact ⟨v,rfl,rfl,hd⟩
 obtain ⟨v,rfl,hs⟩:=hs;subst hl;rcases A1o hs with ⟨hk,_,h0,rfl⟩ | ⟨hk,cap,cs,ty,rfl,hlc,hcm,hcs,hfit⟩
 ·exact ⟨1,.inl ⟨none,0,rfl,h0⟩⟩
 ·obtain ⟨cs',ty',hcs',hden⟩:=hm.ent pb _ hq hk
  obtain ⟨d,hd'⟩:=A3k (R:=fun d i=>∃c,C4 (den (C1a y p pb) d) (q.get i) c∧rd (C1a y p pb).w (C1a y p pb).F (y.β pb) (0+i*q.es) c) (n:=q.n)
   (fun d d' i hdd ⟨c,hc,hr⟩=>⟨c,E9 (fun _ _ h=>A0s hdd h) hc,hr⟩) (fun i hi=>by
    obtain ⟨c,hc,hj⟩:=hden.2 i hi;obtain ⟨d,hc⟩:=I9 (W4 (x:=y) (y:=C1a y p pb) rfl (fun b hb=>.inl hb) (K2 q i) hc)
    refine ⟨d,c,hc,.inr ⟨hk,rfl⟩,fun j v hv=>?_⟩
    show y.w.cell? _=_;rw[P8 hcs',Nat.zero_add];exact hj j v hv)
  exact ⟨d+1,.inr ⟨y.β pb,0,cap,rfl,hlc,by omega,hd'⟩⟩

theorem H5t {y:Ctx} {m:Nat->Option En} {p pb len es:Nat} {q:Sq} (hm:Mem y m) (hp:m p=some (.fl [.slc pb 0 len es])) (hq:m pb=some (.sq q)) (hl:len=q.n) (hr:y.k p = .real):Mem (C1a y p pb) (fzM p q):=by
 have hne:p≠pb:=fun e=>by rw[e,hq] at hp;cases hp
 refine ⟨fun i=>?_,fun i l h=>?_,fun i q' h=>?_,fun i e h hk=>?_,fun i j hi hj h=>?_,fun i hi=>?_,fun b hb=>?_⟩
 ·show (if i=p then some (En.fl [.sl q]) else none)=none↔(if i=p then y.k p else .no) = .no
  by_cases e:i=p
  ·rw[if_pos e,if_pos e,hr];exact ⟨fun h=>(nomatch h),fun h=>(nomatch h)⟩
  ·rw[if_neg e,if_neg e];exact ⟨fun _=>rfl,fun _=>rfl⟩
 ·have h:(if i=p then some (En.fl [.sl q]) else none)=some (.fl l):=h
  show (if i=p then y.k p else .no) = .real
  split at h
  ·rename_i e;rw[if_pos e];exact hr
  ·cases h
 ·have h:(if i=p then some (En.fl [.sl q]) else none)=some (.sq q'):=h
  split at h<;>cases h
 ·have h:(if i=p then some (En.fl [.sl q]) else none)=some e:=h
  split at h
  ·rename_i ei
   cases h
   subst ei;obtain ⟨cs,ty,h1,c1,c2,e1,h2,h3⟩:=hm.ent i _ hp hr;exact ⟨cs,ty,h1,c1,c2,e1,H5s hm hq hl h2,h3⟩
  ·cases h
 ·have hi:(if i=p then y.k p else .no) = .real:=hi
  have hj:(if j=p then y.k p else .no) = .real:=hj
  by_cases e1:i=p
  ·by_cases e2:j=p
   ·rw[e1,e2]
   ·rw[if_neg e2] at hj;cases hj
  ·rw[if_neg e1] at hi;cases hi
 ·have hi:(if i=p then y.k p else .no) = .real:=hi
  by_cases e1:i=p
  ·subst e1
   rintro (h | ⟨h1,h2⟩)
   ·exact hm.own i hr h
   ·exact hne (hm.inj i pb hr h1 h2)
  ·rw[if_neg e1] at hi;cases hi
 ·rcases hb with hb | ⟨h1,rfl⟩
  ·exact hm.fw b hb
  ·obtain ⟨cs,ty,h,_⟩:=hm.ent pb _ hq h1
   exact (Array.getElem?_eq_some_iff.1 h).1

theorem B1i.freeze {P:Program} {x:Ctx} {gf p pb len es:Nat} {α:Type} {encs:α->List Value} {xs:List α} {M:List α->Nat->Option En} {q:Sq} (hp:∀s,M s p=some (.fl [.slc pb 0 len es])) (hq:∀s,M s pb=some (.sq q)) (hl:len=q.n)
  (h:B1i P x gf [(p,0)] encs xs fun _=>fzM p q):B1i P x gf [(p,0)] encs xs M:=by
 intro l J W hgrow hread hyield hJ;refine h l J W hgrow (fun s W hs=>?_) hyield hJ
 obtain ⟨y,e,hm,hc⟩:=hread s W hs;obtain ⟨hr,hβ⟩:=hc (p,0) List.mem_cons_self;refine ⟨C1a y p pb,e,H5t hm (hp s) (hq s) hl hr,fun c hc' => ?_⟩
 have:c=(p,0):=List.mem_singleton.1 hc'
 subst this;refine ⟨?_,hβ⟩
 show (if p=p then y.k p else .no) = .real
 rw[if_pos rfl];exact hr
end

end
end Go.Proofs.YtefimjofjjdndaaGreat
