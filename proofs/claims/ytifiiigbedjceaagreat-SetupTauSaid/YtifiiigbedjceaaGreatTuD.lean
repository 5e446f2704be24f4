/- Parts of a proof, one behind the other: FwH, FwI, FwJ, FwK. No conditions. -/
import Derived.OrdersIn
import Derived.RangeFuncNested
import Derived.Test.YtifiiigbedjceaaGreatTuC
open Go.IntKind (wrap)
namespace Go.Proofs.YtifiiigbedjceaaGreat
noncomputable section
section
inductive J7(x:C0):List SV->List Value->Prop
 | nil:J7 x [] []
 | cons {a v l vs}:B8 x a v->J7 x l vs->J7 x (a::l) (v::vs)
def K2(P:Program)(f:Nat)(args:List SV)(r:SV)(news:List En):Prop:=
 ∀(x:C0) (vs:List Value),(∀p,x.k p = .no)->(∀b,x.F b->b<x.w.heap.size)->J7 x args vs ->
  Calls P f vs.toArray x.w fun e w' => ∃v y,e = .returned v∧y.w=w' ∧ Tr x none y (fun p=>news[p]?)∧B8 y r v
def MuD(P:Program)(f:Nat)(spec:Zj):Prop:=
 ∀args m' o r ups,spec args m' = some (o,r,ups)->A5 o->∀(x:C0) (m:Nat->Option En) (vs:List Value),(∀q e,m' q=some e->m q=some e)->P0 x m->J7 x args vs ->
  Calls P f vs.toArray x.w fun e w' => ∃v y,e = .returned v∧y.w=w' ∧ Tr x none y (H8 m ups)∧B8 y r v
def Bl(P:Program)(f:Nat):Prop:=∀args w,(callFunc f args).run P w = .ok (.enter f args) w
structure A7(P:Program)(env:D6):Prop where
 ty:∀t i,env.ty t=some i->I2 P t i
 mixed:P.follows .mixedOrders=true
 fn:∀f s,env.fn f=some s->Bl P f∧∀args o r es,s args=some (o,r,es)->A5 o->K2 P f args r es
 mu:∀f s,env.mu f=some s->Bl P f∧MuD P f s
 inl:∀f fn,env.inl f=some fn->P.funcs[f]? = some fn∧Bl P f
 ex:∀f k,env.ex f=some k->∀(x y c:Int) (w:World),0<=x->0<=y->y<18446744073709551616->0<=c->c<=1 ->
  (callFunc f #[.int .u64 x,.int .u64 y,.int .u64 c]).run P w = .ok (.value (.tuple #[.int .u64 (A3 k x y c).1,.int .u64 (A3 k x y c).2])) w
 inv:∀t l,env.inv t=some l->P.concrete t=true∧∀name g,BB name l=some g->∀(v:Value) (args:Array Value) (w:World),(callMethod (.iface t v) name args).run P w=(callFunc g (#[v]++args)).run P w
inductive OpS(P:Program)(o:Oper)(a:Act)(x:C0)(m:Nat->Option En)(r:Res):Prop
 | value (v:Value) (y:C0):(execOp a.eval o).run P x.w = .ok (.value v) y.w->Tr x r.kill y (H8 (O5 m r.kill) r.ups)->B8 y r.val v->OpS P o a x m r
 | skip (y:C0):r.val = .top->(execOp a.eval o).run P x.w = .ok .skip y.w->Tr x r.kill y (H8 (O5 m r.kill) r.ups)->OpS P o a x m r
 | enter (f:Nat) (args:Array Value):(execOp a.eval o).run P x.w = .ok (.enter f args) x.w ->
   (Calls P f args x.w fun e w' => ∃v y,e = .returned v∧y.w=w' ∧ Tr x r.kill y (H8 (O5 m r.kill) r.ups)∧B8 y r.val v)->OpS P o a x m r
section
variable {P:Program} {o:Oper} {a:Act} {x:C0} {m:Nat->Option En}
theorem OpS.pure{obl:List Prop}{s:SV}{v:Value}(hm:P0 x m)(hr:(execOp a.eval o).run P x.w = .ok (.value v) x.w)(hd:B8 x s v):OpS P o a x m ⟨obl,s,[],none⟩:=
 .value v x hr (Tr.refl hm) hd
def I3:Option Nat->Fence
 | none=>Fence.wide
 | some l=>Fence.wide.inRound l
theorem DY(ρ:Option Nat)(f:FuncId):(I3 ρ).fn f:=by cases ρ<;>exact trivial
theorem Xm(ρ:Option Nat)(n:Nat):(I3 ρ).room n:=by cases ρ<;>exact room_wide n
theorem Je(ρ:Option Nat):(I3 ρ).round=ρ:=by cases ρ<;>rfl
theorem An(ρ:Option Nat)(n:Nat):(I3 ρ).depth.isSome=true->1<=n:=by cases ρ<;>(intro h;cases h)
theorem UD(ρ:Option Nat){n:Nat}{f:FuncId}{args:Array Value}{w:World}{R:Ending->World->Prop}(h:Calls P f args w R):CallsIn (I3 ρ) n P f args w R:=by
 cases ρ with
 | none=>exact callsIn_wide.2 h
 | some l=>exact CallsIn.inRound l (callsIn_wide.2 h)
theorem OpS.wpIn{r:Res}{next:Act->World->Prop}{Q:Exit->Act->World->Prop}(ρ:Option Nat)(hnd:∀c,o.op ≠ .defer c)(h:OpS P o a x m r)
  (hn:∀v y,Tr x r.kill y (H8 (O5 m r.kill) r.ups)->B8 y r.val v->next (a.put o.dst v) y.w):o.wpIn (I3 ρ) 0 P a x.w next Q:=by
 refine ⟨fun f _=>DY ρ f,?_⟩
 rw[Oper.semAt_eq _ _ _ hnd];rcases h with ⟨v,y,hr,ht,hd⟩ | ⟨y,hv,hr,ht⟩ | ⟨f,args,hr,hc⟩
 ·rw[hr];exact hn v y ht hd
 ·rw[hr];exact hn undef y ht (by rw[hv];trivial)
 ·rw[hr]
  refine ⟨An ρ 0,UD ρ (hc.mono fun e w' ⟨v,y,he,hw,ht,hd⟩=>?_)⟩
  subst he;subst hw
  exact hn v y ht hd
theorem OpS.wp{r:Res}{next:Act->World->Prop}{Q:Exit->Act->World->Prop}(h:OpS P o a x m r)
  (hn:∀v y,Tr x r.kill y (H8 (O5 m r.kill) r.ups)->B8 y r.val v->next (a.put o.dst v) y.w):o.wp P a x.w next Q:=by
 unfold Oper.wp;rcases h with ⟨v,y,hr,ht,hd⟩ | ⟨y,hv,hr,ht⟩ | ⟨f,args,hr,hc⟩
 ·rw[hr];exact hn v y ht hd
 ·rw[hr];exact hn undef y ht (by rw[hv];trivial)
 ·rw[hr]
  refine hc.mono fun e w' ⟨v,y,he,hw,ht,hd⟩=>?_
  subst he;subst hw
  exact hn v y ht hd
theorem M9{k:IntKind}{n:Int}{v:Value}(h:B8 x (.v (.c (.int k n))) v):v = .int k n:=by
 obtain ⟨_,d,h⟩:=h
 cases d<;>simpa [F8] using h
theorem NS{b:Bool}{v:Value}(h:B8 x (.v (.c (.bool b))) v):v = .bool b:=by
 obtain ⟨_,d,h⟩:=h
 cases d<;>simpa [F8] using h
theorem WN{b:Bool}{v:Value}(h:B8 x (.v (.c (.lit b))) v):v = .bool b:=by
 obtain ⟨_,d,h⟩:=h
 cases d<;>simpa [F8] using h
theorem GX{p off:Nat}{v:Value}(h:B8 x (.v (.c (.ptr p off))) v):x.k p = .real∧v = .pointer (some ⟨x.β p,off,none⟩):=by
 obtain ⟨_,d,h⟩:=h
 cases d<;>simpa [F8] using h
theorem A6l{p es i off:Nat}{v:Value}(h:B8 x (.v (.c (.ep p es i off))) v):x.k p = .real∧v = .pointer (some ⟨x.β p,i*es+off,none⟩):=by
 obtain ⟨_,d,h⟩:=h
 cases d<;>simpa [F8] using h
theorem U0{u v:Value}(h:B8 x (.v (.c (.val u))) v):v=u∧u.oneCell' = true:=by
 obtain ⟨_,d,h⟩:=h
 cases d<;>(simp [F8] at h;exact ⟨h.1,h.2⟩)
theorem CQ{p off len es:Nat}{v:Value}(h:B8 x (.v (.c (.slc p off len es))) v) :
  (x.k p = .nil∧off=0∧len=0∧v = .slice none 0 0) ∨
  (x.k p = .real∧∃cap cs ty,v = .slice (some ⟨x.β p,off,none⟩) len cap∧len<=cap∧cap<=maxLen∧x.w.heap[x.β p]? = some (.cells cs ty (0,0))∧off+cap*es<=cs.size):=by
 obtain ⟨_,d,h⟩:=h
 cases d<;>simpa [F8] using h
theorem A6m{q:Sq}{v:Value}(h:B8 x (.v (.c (.sl q))) v) :
  (∃a cap,v = .slice a 0 cap∧q.n=0) ∨
  (∃b o cap,v = .slice (some ⟨b,o,none⟩) q.n cap∧q.n<=cap∧q.n<=maxLen∧∃d,∀i,i<q.n->∃cs,C6 (F8 x d) (q.get i) cs∧rd x.w x.F b (o+i*q.es) cs):=by
 obtain ⟨_,d,h⟩:=h
 cases d with
 | zero=>simp [F8] at h
 | succ d=>
  simp only[F8,List.cons.injEq,and_true] at h;rcases h with h | ⟨b,o,cap,h1,h2,h3,h4⟩
  ·exact .inl h
  ·exact .inr ⟨b,o,cap,h1,h2,h3,d,h4⟩
theorem D0t{w:Value}{q:Sq}{v:Value}(h:B8 x (.v (.c (.vsl w q))) v):B8 x (.v (.c (.sl q))) v:=⟨rfl,(A2t h.2).2⟩
theorem B1c{q:Sq}{i off:Nat}{v:Value}(h:B8 x (.v (.c (.rp q i off))) v) :
  ∃b o cs d,v = .pointer (some ⟨b,o+off,none⟩)∧i<q.n∧C6 (F8 x d) (q.get i) cs∧rd x.w x.F b o cs:=by
 obtain ⟨_,d,h⟩:=h
 cases d with
 | zero=>simp [F8] at h
 | succ d=>
  simp only[F8,List.cons.injEq,and_true] at h;obtain ⟨b,o,cs,h1,h2,h3,h4⟩:=h;exact ⟨b,o,cs,d,h1,h2,h3,h4⟩
theorem NT{f:Nat}{caps:List (Nat×Nat)}{v:Value}(h:B8 x (.v (.c (.clo f caps))) v) :
  (∀c∈caps,x.k c.1 = .real)∧v = .func (.func f) #[] (caps.map fun c=>Value.pointer (some ⟨x.β c.1,c.2,none⟩)).toArray:=by
 obtain ⟨_,d,h⟩:=h
 cases d<;>(simp only[F8,List.cons.injEq,and_true] at h;exact h)
theorem J8(k:IntKind)(n:Int):B8 x (.v (.c (.int k n))) (.int k n):=⟨rfl,0,rfl⟩
theorem BW(b:Bool):B8 x (.v (.c (.bool b))) (.bool b):=⟨rfl,0,rfl⟩
theorem NF(b:Bool):B8 x (.v (.c (.lit b))) (.bool b):=⟨rfl,0,rfl⟩
theorem A7m(v:Value):B8 x (Gt v) v:=by
 unfold Gt;split
 ·exact J8 _ _
 ·exact NF _
 ·exact ⟨rfl,0,rfl,rfl⟩
 ·exact ⟨rfl,0,rfl,rfl⟩
 ·exact ⟨rfl,0,rfl,rfl⟩
 ·exact ⟨rfl,0,rfl,rfl⟩
 ·trivial
theorem FF{σ:St}(h:∀t,B8 x (σ.t t) (a.tmps.getD t undef))(o:Operand):B8 x (σ.ev o) (a.eval o):=by
 cases o with
 | tmp t=>exact h t
 | const v=>exact A7m v
 | global g=>trivial
 | func f=>exact ⟨rfl,0,by simp [F8,Act.eval]⟩
theorem GF{s:SV}{k:IntKind}{n:Int}{v:Value}(h:XF s=some (k,n))(hd:B8 x s v):v = .int k n:=by
 unfold XF at h;split at h
 ·simp only[Option.some.injEq,Prod.mk.injEq] at h
  obtain ⟨rfl,rfl⟩:=h;exact M9 hd
 ·cases h
theorem MQ(op:BinOp)(t:TypeId)(p q:Operand)(k k' : IntKind)(n n' : Int)(w:World):(eqGuard op t p q (.int k n) (.int k' n')).run P w = .ok () w:=by
 cases op<;>simp [eqGuard]
theorem B0c{op:BinOp}{k:IntKind}{n n' : Int}{obl:List Prop}{i:It}(h:Oa op k n n' = some (obl,i))(ho:A5 obl)(t:TypeId)(w:World) :
  ∃v,(binOp op t (.int k n) (.int k n')).run P w = .ok v w∧B8 x (.v (.c i)) v:=by
 cases op<;>simp only[Oa,Option.some.injEq,Prod.mk.injEq] at h<;>obtain ⟨rfl,rfl⟩:=h
 case add=>exact ⟨_,by simp [binOp,Op.intArith],J8 _ _⟩
 case sub=>exact ⟨_,by simp [binOp,Op.intArith],J8 _ _⟩
 case mul=>exact ⟨_,by simp [binOp,Op.intArith],J8 _ _⟩
 case quo=>exact ⟨_,by simp [binOp,Op.intDiv,ho.1],J8 _ _⟩
 case rem=>exact ⟨_,by simp [binOp,Op.intDiv,ho.1],J8 _ _⟩
 case and=>exact ⟨.int k (E1 .and k n n'),by simp [binOp,Op.intBits,E1],J8 _ _⟩
 case or=>exact ⟨.int k (E1 .or k n n'),by simp [binOp,Op.intBits,E1],J8 _ _⟩
 case xor=>exact ⟨.int k (E1 .xor k n n'),by simp [binOp,Op.intBits,E1],J8 _ _⟩
 case andNot=>exact ⟨.int k (E1 .andNot k n n'),by simp [binOp,Op.intBits,E1],J8 _ _⟩
 case shl=>
  have h0:¬n' < 0:=by have:=ho.1;omega
  exact ⟨_,by simp [binOp,Op.shift,h0],J8 _ _⟩
 case shr=>
  have h0:¬n' < 0:=by have:=ho.1;omega
  exact ⟨_,by simp [binOp,Op.shift,h0],J8 _ _⟩
 all_goals exact ⟨_,by simp [binOp,Op.intCmp],BW _⟩
theorem Ud{op:BinOp}(hop:op = .shl∨op = .shr){k k' : IntKind}{n n' : Int}{obl:List Prop}{i:It}(h:Oa op k n n' = some (obl,i))(ho:A5 obl)(t:TypeId)(w:World) :
  ∃v,(binOp op t (.int k n) (.int k' n')).run P w = .ok v w∧B8 x (.v (.c i)) v:=by
 rcases hop with rfl | rfl<;>simp only[Oa,Option.some.injEq,Prod.mk.injEq] at h<;>obtain ⟨rfl,rfl⟩:=h
 all_goals
  have h0:¬n' < 0:=by have:=ho.1;omega
  exact ⟨_,by simp [binOp,Op.shift,h0],J8 _ _⟩
theorem A4d{s:List Bool}{v1 v2:Value}(h:Fit s [v1] [v2]):(∃k n1 n2,v1 = .int k n1∧v2 = .int k n2)∨(∃b1 b2,v1 = .bool b1∧v2 = .bool b2):=by
 cases h with
 | int _=>exact .inl ⟨_,_,_,rfl,rfl⟩
 | bool _=>exact .inr ⟨_,_,rfl,rfl⟩
theorem B3h{t:Nat}{i:TyI}(ht:I2 P t i){op:BinOp}{e:Bool}(hop:Ti op=some e){u1 u2:Value}{l1 l2:List Value}(h1:u1=O2 i.agg l1)(h2:u2=O2 i.agg l2)
  (hf:Fit i.eqk l1 l2) (hne:i.eqk≠[]) (hnot:i.agg=false->∃v1 v2,l1=[v1]∧l2=[v2]) (p q:Operand) (w:World) :
  ∃b:Bool,((do eqGuard op t p q u1 u2;binOp op t u1 u2):Sem Value).run P w = .ok (.bool (if e then b else !b)) w∧(b=true↔l1=l2):=by
 obtain ⟨inf,d,hi,hd,hs,hb,ha,hc1,hz,hfl,har,hsl,hkd,heq,hes,hfd⟩:=ht.parts;obtain ⟨hsh,hg⟩:=heq hne;obtain ⟨hEq,_⟩:=Wn (P:=P) 9992 8 t i.eqk hsh;obtain ⟨d',hd',b,hb',hbi⟩:=hEq w l1 l2 hf;rw[hd] at hd';cases hd'
 rw[ha,<-h1,<-h2] at hb'
 refine ⟨b,?_,hbi⟩
 have hguard:(eqGuard op t p q u1 u2).run P w = .ok () w:=by
  cases hag:i.agg with
  | true=>
   rw[hag] at h1 h2;simp only[O2,if_true] at h1 h2;subst h1;subst h2
   exact run_eqGuard_agg w op t p q _ _ hg
  | false=>
   obtain ⟨v1,v2,rfl,rfl⟩:=hnot hag;rw[hag] at h1 h2;simp only[O2,List.headD_cons] at h1 h2;simp only[Bool.false_eq_true,if_false] at h1 h2;rcases A4d hf with ⟨_,_,_,rfl,rfl⟩ | ⟨_,_,rfl,rfl⟩
   ·subst h1;subst h2;exact MQ op t p q _ _ _ _ w
   ·subst h1;subst h2;cases op<;>simp [eqGuard]
 have hbin:(binOp op t u1 u2).run P w = .ok (.bool (if e then b else !b)) w:=by
  have hEqual:(Op.equal t u1 u2).run P w = .ok b w:=hb';have hcase:(∃c1 c2,u1 = .agg c1∧u2 = .agg c2)∨(∃k n1 n2,u1 = .int k n1∧u2 = .int k n2)∨(∃b1 b2,u1 = .bool b1∧u2 = .bool b2):=by
   cases hag:i.agg with
   | true=>
    rw[hag] at h1 h2;exact .inl ⟨_,_,by simpa [O2] using h1,by simpa [O2] using h2⟩
   | false=>
    obtain ⟨v1,v2,rfl,rfl⟩:=hnot hag;rw[hag] at h1 h2;rcases A4d hf with ⟨_,_,_,rfl,rfl⟩ | ⟨_,_,rfl,rfl⟩
    ·exact .inr (.inl ⟨_,_,_,by simpa [O2] using h1,by simpa [O2] using h2⟩)
    ·exact .inr (.inr ⟨_,_,by simpa [O2] using h1,by simpa [O2] using h2⟩)
  have hint:∀k n1 n2,u1 = .int k n1->u2 = .int k n2->b=(n1 == n2):=by
   intro k n1 n2 e1 e2;have hl:l1=l2↔n1=n2:=by
    cases hag:i.agg with
    | true=>rw[hag] at h1;simp [O2,e1] at h1
    | false=>
     obtain ⟨v1,v2,rfl,rfl⟩:=hnot hag;rw[hag] at h1 h2;simp only[O2,List.headD_cons,Bool.false_eq_true,if_false] at h1 h2;rw[<-h1,<-h2,e1,e2];simp
   rw[Bool.eq_iff_iff,hbi,hl];simp
  cases op<;>simp only[Ti,Option.some.injEq] at hop<;>try (cases hop;done)
  ·subst hop
   rcases hcase with ⟨c1,c2,e1,e2⟩ | ⟨k,n1,n2,e1,e2⟩ | ⟨b1,b2,e1,e2⟩
   ·rw[e1,e2] at hEqual ⊢;simp [binOp,hEqual]
   ·have hbe:=hint k n1 n2 e1 e2
    rw[e1,e2];simp [binOp,Op.intCmp,hbe]
   ·rw[e1,e2] at hEqual ⊢;simp [binOp,hEqual]
  ·subst hop
   rcases hcase with ⟨c1,c2,e1,e2⟩ | ⟨k,n1,n2,e1,e2⟩ | ⟨b1,b2,e1,e2⟩
   ·rw[e1,e2] at hEqual ⊢;simp [binOp,hEqual]
   ·have hbe:=hint k n1 n2 e1 e2
    rw[e1,e2];simp [binOp,Op.intCmp,hbe,bne]
   ·rw[e1,e2] at hEqual ⊢;simp [binOp,hEqual]
 simp [hguard,hbin]
theorem Nw(n:Nat)(t e:Nat)(a:Option Addr)(w:World)(hu:P.underlying t=some (.pointer e)):(Op.equalIn (n+1) t (.pointer a) (.pointer none)).run P w = .ok a.isNone w:=by
 cases a<;>simp [Op.equalIn,run_underlying hu]
theorem JC{env:D6}(hE:A7 P env){op:BinOp}{t:Nat}{a:Option Addr}{b:Bool}(hb:a.isNone=b){obl:List Prop}{i:It}(h:Vx env op t b=some (obl,i))(p q:Operand) :
  ∃v,((do eqGuard op t p q (.pointer a) (.pointer none);binOp op t (.pointer a) (.pointer none)):Sem Value).run P x.w = .ok v x.w∧B8 x (.v (.c i)) v:=by
 unfold Vx at h;split at h
 ·rename_i e ti he hti
  split at h
  ·rename_i hc
   simp only[Bool.and_eq_true,Bool.not_eq_true'] at hc
   cases h
   obtain ⟨el,hu⟩:=(hE.ty _ _ hti).nilp hc.1 hc.2;have hEq:(Op.equal t (.pointer a) (.pointer none)).run P x.w = .ok b x.w:=by
    subst hb;exact Nw 9999 t el a x.w hu
   refine ⟨.bool (if e then b else !b),?_,NF _⟩
   cases op<;>simp only[Ti,Option.some.injEq] at he<;>first | (cases he;done) | subst he
   ·simp [eqGuard,binOp,hEq]
   ·simp [eqGuard,binOp,hEq]
  ·cases h
 ·cases h
theorem Wv{op:BinOp}{t:Nat}{a b:ByteArray}{obl:List Prop}{i:It}(h:A2e op a b=some (obl,i))(ho:A5 obl)(p q:Operand) :
  ∃v,((do eqGuard op t p q (.string a) (.string b);binOp op t (.string a) (.string b)):Sem Value).run P x.w = .ok v x.w∧B8 x (.v (.c i)) v:=by
 unfold A2e at h;split at h
 ·cases h
  obtain ⟨h1,_⟩:=ho;rw[C2u];refine ⟨.string (a++b),?_,rfl,0,rfl,rfl⟩
  simp [eqGuard,binOp,Op.stringOp]
  omega
 ·cases h
  exact ⟨.bool (a.toList == b.toList),by simp [eqGuard,binOp,Op.stringOp],BW _⟩
 ·cases h
  exact ⟨.bool (!(a.toList == b.toList)),by simp [eqGuard,binOp,Op.stringOp],BW _⟩
 ·cases h
theorem Ux{env:D6}(hE:A7 P env){op:BinOp}{t:Nat}{s1 s2:SV}{v1 v2:Value}{obl:List Prop}{i:It}(h:Zp env op t s1 s2=some (obl,i))(ho:A5 obl)
  (h1:B8 x s1 v1) (h2:B8 x s2 v2) (p q:Operand):∃v,((do eqGuard op t p q v1 v2;binOp op t v1 v2):Sem Value).run P x.w = .ok v x.w∧B8 x (.v (.c i)) v:=by
 unfold Zp at h;split at h
 ·rename_i k n k' n'
  have e1:=M9 h1;have e2:=M9 h2
  subst e1;subst e2
  have fin:∀{v},(binOp op t (.int k n) (.int k' n')).run P x.w = .ok v x.w->((do eqGuard op t p q (.int k n) (.int k' n');binOp op t (.int k n) (.int k' n')):Sem Value).run P x.w = .ok v x.w:=by
   intro v hv;simp [MQ,hv]
  split at h
  ·obtain ⟨v,hv,hd⟩:=Ud (P:=P) (x:=x) (.inl rfl) h ho t x.w (k' := k');exact ⟨v,fin hv,hd⟩
  ·obtain ⟨v,hv,hd⟩:=Ud (P:=P) (x:=x) (.inr rfl) h ho t x.w (k' := k');exact ⟨v,fin hv,hd⟩
  ·split at h
   ·rename_i hk
    cases NL hk
    obtain ⟨v,hv,hd⟩:=B0c (P:=P) (x:=x) h ho t x.w;exact ⟨v,fin hv,hd⟩
   ·cases h
 ·rename_i p1 off
  obtain ⟨_,e1⟩:=GX h1;obtain ⟨e2,_⟩:=U0 h2;subst e1;subst e2
  exact JC hE rfl h p q
 ·obtain ⟨e1,_⟩:=U0 h1
  obtain ⟨e2,_⟩:=U0 h2;subst e1;subst e2
  exact JC hE rfl h p q
 ·obtain ⟨e1,_⟩:=U0 h1
  obtain ⟨e2,_⟩:=U0 h2;subst e1;subst e2
  exact Wv h ho p q
 ·rename_i a b _
  split at h
  ·rename_i e ti r he hti hr
   split at h
   ·rename_i hc
    simp only[Bool.and_eq_true,Bool.not_eq_true',beq_iff_eq] at hc
    cases h
    obtain ⟨s,g1,g2,hf,hiff⟩:=OL hr h1.2 h2.2;rw[hc.1.2] at g1;cases g1
    have hne:ti.eqk≠[]:=by intro e;have:=hf.len.1;rw[e] at this;simp at this
    obtain ⟨b',hb,hbi⟩:=B3h (hE.ty _ _ hti) he (u1:=v1) (u2:=v2) (l1:=[v1]) (l2:=[v2]) (by simp [O2,hc.1.1]) (by simp [O2,hc.1.1]) hf hne (fun _=>⟨_,_,rfl,rfl⟩) p q x.w
    have:b' = r:=by rw[Bool.eq_iff_iff,hbi,hiff]
    subst this;exact ⟨_,hb,BW _⟩
   ·cases h
  ·cases h
 ·rename_i a b
  split at h
  ·rename_i e ti r he hti hr
   split at h
   ·rename_i hc
    simp only[Bool.and_eq_true,beq_iff_eq] at hc
    cases h
    obtain ⟨c1,e1,k1⟩:=h1;obtain ⟨c2,e2,k2⟩:=h2;obtain ⟨s,g1,g2,hf,hiff⟩:=SO hr k1 k2;rw[hc.1.2] at g1;cases g1
    have hne:ti.eqk≠[]:=by
     intro e;have:=hc.1.1.2;simp [e] at this
    obtain ⟨b',hb,hbi⟩:=B3h (hE.ty _ _ hti) he (u1:=v1) (u2:=v2) (l1:=c1) (l2:=c2) (by simp [O2,hc.1.1.1,e1]) (by simp [O2,hc.1.1.1,e2]) hf hne (fun g=>by rw[hc.1.1.1] at g;cases g) p q x.w
    have:b' = r:=by rw[Bool.eq_iff_iff,hbi,hiff]
    subst this;exact ⟨_,hb,BW _⟩
   ·cases h
  ·cases h
 ·cases h
end
end
section
theorem Ji(q:Sq)(i:Nat):J3 (q.get i)=q.es:=by
 have flat:∀(l:List (Fp×Fp×Fp)) (n k:Nat),J3 (J9 l k n)=18*n:=by
  intro l n;induction n with
  | zero=>intro k;rfl
  | succ n ih=>intro k;simp only[J9,J3,It.size,Ob.k,ih];omega
 cases q
 case ptt l=>simp only[Sq.get,Sq.es,flat]
 all_goals rfl
theorem SZ{α:Type}(l:List α)(i j:Nat)(y d:α):(l.set i y).getD j d=if j=i∧i<l.length then y else l.getD j d:=by
 by_cases h:j=i
 ·subst h
  by_cases hl:j<l.length
  ·simp [hl]
  ·simp [hl]
 ·simp [h,List.getElem?_set_ne (Ne.symm h)]
theorem C0c{q q' : Sq}{i:Nat}{its:List It}(h:q.set i its=some q') :
    q'.n=q.n∧q'.es=q.es∧J3 its=q.es∧(∀j,j≠i->q'.get j=q.get j)∧(i<q.n->∀x d cs,C6 (F8 x d) its cs->C6 (F8 x d) (q'.get i) cs):=by
  unfold Sq.set at h;split at h
  all_goals first
    | (cases h
       refine ⟨by simp [Sq.n],rfl,rfl,fun j hj=>by simp only[Sq.get,SZ,hj,false_and,if_false],fun hi x d cs hc=>?_⟩
       simp only[Sq.n] at hi;simp only[Sq.get,SZ,hi,and_self,if_true,A0.its,OpD.its,G0.its,K5.its,M5,W8];first
         | exact hc
         | (refine F7 (fun i vs h=>?_) hc;exact h)
         | (obtain ⟨c1,c2,e1,g1,c3,c4,e2,g2,c5,c6,e3,g3,g4⟩:=hc
            exact ⟨c1,c2,e1,g1,c3,c4,e2,g2,c5,c6,e3,by cases d<;>simpa [F8] using g3,g4⟩)
         | (obtain ⟨c1,c2,e1,g1,c3,c4,e2,g2,c5,c6,e3,g3,c7,c8,e4,g4,c9,c10,e5,g5,g6⟩:=hc
            exact ⟨c1,c2,e1,g1,c3,c4,e2,g2,c5,c6,e3,g3,c7,c8,e4,g4,c9,c10,e5,by cases d<;>simpa [F8] using g5,g6⟩))
    | cases h
theorem GB{α:Type}(l l' : List α)(j:Nat)(d:α)(h:j<l.length):(l++l').getD j d=l.getD j d:=by
 simp only[List.getD_eq_getElem?_getD,List.getElem?_append_left h]
theorem ZM{α:Type}(l l' : List α)(j:Nat)(d:α):(l++l').getD (l.length+j) d=l'.getD j d:=by
 simp only[List.getD_eq_getElem?_getD,List.getElem?_append_right (Nat.le_add_right _ _),Nat.add_sub_cancel_left]
theorem Um(L:List (Fp×Fp×Fp)):∀(n:Nat) (its:List It) (t:List (Fp×Fp×Fp)),Rw n its=some t->∀k,(∀j,j<n->L.getD (k+j) E7=t.getD j E7)->J9 L k n=its
 | 0,its,t,h,k,hL=>by
  unfold Rw at h;split at h
  ·rfl
  ·rename_i h1 h2;cases h2
  ·cases h
 | n+1,its,t,h,k,hL=>by
  unfold Rw at h;split at h
  ·omega
  ·rename_i m a b c r e
   cases e
   split at h
   ·rename_i t' ht
    cases h
    have h0:=hL 0 (by omega)
    simp only[Nat.add_zero,List.getD_cons_zero] at h0;have hr:=Um L n r t' ht (k+1) fun j hj=>by
     have:=hL (j+1) (by omega)
     simp only[List.getD_cons_succ] at this;rw[<-this];congr 1
     omega
    show It.ob (.p (L.getD k E7).1) :: .ob (.p (L.getD k E7).2.1) :: .ob (.p (L.getD k E7).2.2)::J9 L (k+1) n=_;rw[h0,hr]
   ·cases h
  ·cases h
theorem A7u(l:List (Fp×Fp×Fp))(n:Nat):∀k,J3 (J9 l k n)=18*n:=by
 induction n with
 | zero=>intro k;rfl
 | succ n ih=>intro k;simp only[J9,J3,It.size,Ob.k,ih];omega
theorem LR{q q' : Sq}{its:List It}(h:q.push its=some q') :
    q'.n=q.n+1∧q'.es=q.es∧J3 its=q.es∧(∀j,j<q.n->q'.get j=q.get j)∧(∀x d cs,C6 (F8 x d) its cs->C6 (F8 x (d+1)) (q'.get q.n) cs):=by
  unfold Sq.push at h;split at h
  all_goals first
    | (split at h
       · rename_i t ht
         cases h
         have e:=Um t 16 _ _ ht 0 fun j _=>by rw[Nat.zero_add]
         refine ⟨by simp [Sq.n],rfl,by rw[<-e,A7u];rfl,fun j hj=>by simp only[Sq.n] at hj;simp only[Sq.get,GB _ _ _ _ hj],fun x d cs hc=>?_⟩
         simp only[Sq.get,Sq.n,List.getD_eq_getElem?_getD,List.getElem?_concat_length,Option.getD_some];rw[e];exact F7 (fun i vs h=>ZE d i vs h) hc
       · cases h)
    | (cases h
       refine ⟨by simp [Sq.n],rfl,rfl,fun j hj=>by simp only[Sq.n] at hj;simp only[Sq.get,GB _ _ _ _ hj],fun x d cs hc=>?_⟩
       simp only[Sq.get,Sq.n,List.getD_eq_getElem?_getD,List.getElem?_concat_length,Option.getD_some];obtain ⟨c1,c2,e,h1,h2⟩:=hc;have h1:c1=[Value.slice none 0 0]:=by cases d<;>exact h1.1
       exact ⟨c1,c2,e,.inl ⟨none,0,h1,rfl⟩,h2⟩)
    | (cases h
       refine ⟨by simp [Sq.n],rfl,rfl,fun j hj=>by simp only[Sq.n] at hj;simp only[Sq.get,GB _ _ _ _ hj],fun x d cs hc=>?_⟩
       simp only[Sq.get,Sq.n,List.getD_eq_getElem?_getD,List.getElem?_concat_length,Option.getD_some,A0.its,OpD.its,G0.its,K5.its,M5,W8];refine F7 (fun i vs h=>ZE d i vs h) ?_
       first
         | exact hc
         | (obtain ⟨c1,c2,e1,g1,c3,c4,e2,g2,c5,c6,e3,g3,g4⟩:=hc
            exact ⟨c1,c2,e1,g1,c3,c4,e2,g2,c5,c6,e3,by cases d<;>simpa [F8] using g3,g4⟩)
         | (obtain ⟨c1,c2,e1,g1,c3,c4,e2,g2,c5,c6,e3,g3,c7,c8,e4,g4,c9,c10,e5,g5,g6⟩:=hc
            exact ⟨c1,c2,e1,g1,c3,c4,e2,g2,c5,c6,e3,g3,c7,c8,e4,g4,c9,c10,e5,by cases d<;>simpa [F8] using g5,g6⟩))
    | cases h
theorem Ft{q q' r:Sq}(h:q.app q' = some r) :
    r.n=q.n+q'.n∧r.es=q.es∧q'.es=q.es∧(∀j,j<q.n->r.get j=q.get j)∧(∀j,j<q'.n->r.get (q.n+j)=q'.get j):=by
  unfold Sq.app at h;split at h
  all_goals first
    | (cases h
       exact ⟨by simp [Sq.n],rfl,rfl,fun j hj=>by simp only[Sq.n] at hj;simp only[Sq.get,GB _ _ _ _ hj],fun j _=>by simp only[Sq.get,Sq.n,ZM]⟩)
    | cases h
theorem B3t{α:Type}(l:List α)(lo n j:Nat)(d:α)(h:j<n):((l.drop lo).take n).getD j d=l.getD (lo+j) d:=by
 simp [h]
theorem IN(q:Sq)(lo n:Nat)(h:lo+n<=q.n):(q.cut lo n).n=n∧(q.cut lo n).es=q.es∧∀j,j<n->(q.cut lo n).get j=q.get (lo+j):=by
 cases q<;>simp only[Sq.n] at h <;>
 exact ⟨by simp only[Sq.cut,Sq.n,List.length_take,List.length_drop];omega,rfl,fun j hj=>by simp only[Sq.cut,Sq.get,B3t _ _ _ _ _ hj]⟩
theorem RE{q z:Sq}{n:Nat}(h:KB q n=some z):z.n=n∧z.es=q.es∧∃z1,KB q 1=some z1∧∀i,i<n->z.get i=z1.get 0:=by
 cases q<;>simp only[KB,Option.some.injEq] at h<;>try (cases h;done)
 all_goals
  subst h
  exact ⟨by simp [Sq.n],rfl,_,rfl,fun i hi=>by simp [Sq.get,hi]⟩
theorem V6{x:C0}{q:Sq}{cs:List Value}(h:C9 x (.sq q) cs){i:Nat}(hi:i<q.n) :
  ∃c d,C6 (F8 x d) (q.get i) c∧c.length=q.es∧i*q.es+q.es<=cs.length∧∀(j:Nat) (v:Value),c[j]? = some v->cs[i*q.es+j]? = some v:=by
 obtain ⟨c,hc,hj⟩:=h.2 i hi;obtain ⟨d,hc⟩:=M3 hc;have hl:=P5 hc;rw[Ji] at hl;have:(i+1)*q.es<=q.n*q.es:=Nat.mul_le_mul_right _ hi
 rw[Nat.add_mul,Nat.one_mul] at this;have:=h.1
 exact ⟨c,d,hc,hl,by omega,hj⟩
theorem SI{x:C0}{q q' : Sq}{cs c' : List Value}{i:Nat}{its:List It}(h:C9 x (.sq q) cs)(hi:i<q.n)(hs:q.set i its=some q'){d:Nat}(hc:C6 (F8 x d) its c') :
  C9 x (.sq q') (cs.take (i*q.es)++c' ++ cs.drop (i*q.es+q.es)):=by
 obtain ⟨h1,h2,h3,h4,h5⟩:=C0c hs;have hl:=P5 hc;rw[h3] at hl;have hle:(i+1)*q.es<=q.n*q.es:=Nat.mul_le_mul_right _ hi;rw[Nat.add_mul,Nat.one_mul] at hle;have hn:=h.1;refine ⟨?_,fun j hj=>?_⟩
 ·rw[h1,h2];simp only[List.length_append,List.length_take,List.length_drop,hl];omega
 ·rw[h1] at hj
  by_cases hji:j=i
  ·subst hji
   refine ⟨c',P4 (h5 hi x d c' hc),fun k v hk=>?_⟩
   rw[h2,List.append_assoc,List.getElem?_append_right (by simp only[List.length_take];omega),List.length_take,Nat.min_eq_left (by omega),Nat.add_sub_cancel_left]
   rw[List.getElem?_append_left (by
    rcases Nat.lt_or_ge k c'.length with hh | hh
    ·exact hh
    ·rw[List.getElem?_eq_none hh] at hk;cases hk)]
   exact hk
  ·obtain ⟨c,d',hcj,hlc,hfit,hcell⟩:=V6 h hj
   refine ⟨c,by rw[h4 j hji];exact P4 hcj,fun k v hk=>?_⟩
   have hk' : k<q.es:=by
    rcases Nat.lt_or_ge k c.length with hh | hh
    ·omega
    ·rw[List.getElem?_eq_none hh] at hk;cases hk
   rw[h2,<-hcell k v hk];rcases Nat.lt_or_gt_of_ne hji with hlt | hgt
   ·have hm:(j+1)*q.es<=i*q.es:=Nat.mul_le_mul_right _ hlt
    rw[Nat.add_mul,Nat.one_mul] at hm;rw[List.append_assoc,List.getElem?_append_left (by simp only[List.length_take];omega),List.getElem?_take_of_lt (by omega)]
   ·have hm:(i+1)*q.es<=j*q.es:=Nat.mul_le_mul_right _ hgt
    rw[Nat.add_mul,Nat.one_mul] at hm;rw[List.getElem?_append_right (by simp only[List.length_append,List.length_take,hl];omega)]
    simp only[List.length_append,List.length_take,hl,Nat.min_eq_left (show i*q.es<=cs.length by omega),List.getElem?_drop]
    congr 1
    omega
end
section
section
variable {P:Program} {x:C0} {m m' : Nat->Option En}
theorem V5{w:World}{b:Nat}{cs:Array Value}{ty:TypeId}{fz:Nat×Nat}(h:w.heap[b]? = some (.cells cs ty fz))(o:Nat):w.cell? ⟨b,o,none⟩=cs.toList[o]? := by
 simp [World.cell?,h]
theorem Z4{t:Nat}{i:TyI}(ht:I2 P t i){r:List It}{c:List Value}{v:V1}{d b o:Nat}(hc:C6 (F8 x d) r c)(hs:J3 r=i.cells)(hv:mkV i.agg r=some v)
  (hcell:∀(j:Nat) (u:Value),c[j]? = some u->x.w.cell? ⟨b,o+j,none⟩=some u) :
  ∃u,(Instr.loadAt t (.pointer (some ⟨b,o,none⟩))).run P x.w = .ok u x.w∧Dq x v u:=by
 obtain ⟨inf,dd,hi,hd,hsz,_,ha,h1,_⟩:=ht.parts;have hl:=P5 hc;have hrun:=YF ht (w:=x.w) (b:=b) (o:=o) (cs:=c) (by omega) hcell
 refine ⟨_,?_,(Vr hv (P4 hc) (fun g=>by rw[hs];exact h1 g)).1⟩
 simp [Instr.loadAt,Instr.sureAddr,hrun]
theorem HZ{cs:List Value}{off n:Nat}{w:World}{b o:Nat}(h:∀(j:Nat) (u:Value),cs[j]? = some u->w.cell? ⟨b,o+j,none⟩=some u) :
  ∀(j:Nat) (u:Value),((cs.drop off).take n)[j]? = some u->w.cell? ⟨b,o+off+j,none⟩=some u:=by
 intro j u hu;rw[List.getElem?_take] at hu;split at hu
 ·rw[List.getElem?_drop] at hu
  rw[Nat.add_assoc];exact h _ _ hu
 ·cases hu
theorem He{t:Nat}{i:TyI}(ht:I2 P t i)(hm:P0 x m)(hsub:∀q e,m' q=some e->m q=some e){s:SV}{av:Value}(hs:B8 x s av){obl:List Prop}{v:V1}
  (h:GL m' s i=some (obl,v)) (ho:A5 obl):∃u,(Instr.loadAt t av).run P x.w = .ok u x.w∧Dq x v u:=by
 unfold GL at h;split at h
 ·rename_i p off
  obtain ⟨hk,rfl⟩:=GX hs;split at h
  ·rename_i l hl
   obtain ⟨cs,ty,hcs,hden⟩:=hm.ent p _ (hsub _ _ hl) hk;obtain ⟨d,hden⟩:=M3 hden;have hcell:∀(j:Nat) (u:Value),cs.toList[j]? = some u->x.w.cell? ⟨x.β p,0+j,none⟩=some u:=by
    intro j u hu;rw[Nat.zero_add,V5 hcs];exact hu
   split at h
   ·rename_i o hag _
    simp only[Option.some.injEq,Prod.mk.injEq] at h;obtain ⟨rfl,rfl⟩:=h;have hlt:=ho.1;obtain ⟨c1,c2,e,g1,g2⟩:=hden;simp only[C6] at g2;subst g2;have hc1:c1=o.cells:=by cases d<;>simpa [F8] using g1
    rw[List.append_nil,hc1] at e;obtain ⟨inf,dd,hi,hd,hsz,_,ha,h1,_⟩:=ht.parts;refine Z4 ht (r:=[.int .u64 (A1 o.n off)]) (c:=[.int .u64 (A1 o.n off)]) (d:=0) ⟨[_],[],rfl,rfl,rfl⟩ (by simp [J3,It.size,h1 hag]) (by simp [mkV,hag]) ?_
    intro j u hu
    cases j with
    | zero=>
     simp only[List.getElem?_cons_zero,Option.some.injEq] at hu;subst hu;have:=hcell off (.int .u64 (A1 o.n off)) (by rw[e];simp [Ob.cells,hlt])
     simpa using this
    | succ j=>simp at hu
   ·split at h
    ·rename_i r hr
     simp only[Option.map_eq_some_iff] at h;obtain ⟨v',hv',he⟩:=h;simp only[Prod.mk.injEq] at he;obtain ⟨rfl,rfl⟩:=he;obtain ⟨hc,hsz⟩:=AB hr hden;have:=HZ (off:=off) (n:=i.cells) hcell
     simp only[Nat.zero_add] at this;exact Z4 ht hc hsz hv' this
    ·cases h
  ·rename_i q hq
   split at h
   ·rename_i hes
    simp only[Bool.and_eq_true,decide_eq_true_eq] at hes;simp only[Option.map_eq_some_iff] at h;obtain ⟨v',hv',he⟩:=h;simp only[Prod.mk.injEq] at he;obtain ⟨rfl,rfl⟩:=he;obtain ⟨cs,ty,hcs,hden⟩:=hm.ent p _ (hsub _ _ hq) hk;obtain ⟨c,d,hc,hlc,hfit,hcell⟩:=V6 hden ho.1;refine Z4 ht hc (by rw[Ji,hes.1,hes.2]) hv' fun j u hu=>?_
    rw[V5 hcs];have:=hcell j u hu
    rwa [hes.1,Nat.mul_one] at this
   ·split at h
    ·rename_i hes
     simp only[Bool.and_eq_true,decide_eq_true_eq] at hes;obtain ⟨rfl,hes⟩:=hes;simp only[Option.map_eq_some_iff] at h;obtain ⟨v',hv',he⟩:=h;simp only[Prod.mk.injEq] at he;obtain ⟨rfl,rfl⟩:=he;obtain ⟨cs,ty,hcs,hden⟩:=hm.ent p _ (hsub _ _ hq) hk;obtain ⟨c,d,hc,hlc,hfit,hcell⟩:=V6 hden ho.1;refine Z4 ht hc (by rw[Ji,hes]) hv' fun j u hu=>?_
     rw[V5 hcs];have:=hcell j u hu
     rwa [Nat.zero_mul] at this
    ·cases h
  ·cases h
 ·rename_i p es ix off
  obtain ⟨hk,rfl⟩:=A6l hs;split at h
  ·rename_i q hq
   split at h
   ·rename_i hes
    subst hes;split at h
    ·rename_i o hag hgo
     simp only[Option.some.injEq,Prod.mk.injEq] at h;obtain ⟨rfl,rfl⟩:=h;have hlt:=ho.2.1;obtain ⟨cs,ty,hcs,hden⟩:=hm.ent p _ (hsub _ _ hq) hk;obtain ⟨c,d,hc,hlc,hfit,hcell⟩:=V6 hden ho.1;rw[hgo] at hc;obtain ⟨c1,c2,e,g1,g2⟩:=hc;simp only[C6] at g2;subst g2;have hc1:c1=o.cells:=by cases d<;>simpa [F8] using g1
     rw[List.append_nil,hc1] at e;obtain ⟨inf,dd,hi,hd,hsz,_,ha,h1,_⟩:=ht.parts;refine Z4 ht (r:=[.int .u64 (A1 o.n off)]) (c:=[.int .u64 (A1 o.n off)]) (d:=0) ⟨[_],[],rfl,rfl,rfl⟩ (by simp [J3,It.size,h1 hag]) (by simp [mkV,hag]) ?_
     intro j u hu
     cases j with
     | zero=>
      simp only[List.getElem?_cons_zero,Option.some.injEq] at hu;subst hu;rw[V5 hcs];exact hcell off (.int .u64 (A1 o.n off)) (by rw[e];simp [Ob.cells,hlt])
     | succ j=>simp at hu
    ·split at h
     ·rename_i r hr
      simp only[Option.map_eq_some_iff] at h;obtain ⟨v',hv',he⟩:=h;simp only[Prod.mk.injEq] at he;obtain ⟨rfl,rfl⟩:=he;obtain ⟨cs,ty,hcs,hden⟩:=hm.ent p _ (hsub _ _ hq) hk;obtain ⟨c,d,hc,hlc,hfit,hcell⟩:=V6 hden ho.1;obtain ⟨hc',hsz⟩:=AB hr hc;refine Z4 ht hc' hsz hv' (HZ (o:=ix*q.es) fun j u hu=>?_)
      rw[V5 hcs];exact hcell j u hu
     ·cases h
   ·cases h
  ·cases h
 ·rename_i q ix off
  obtain ⟨b,o,cs,d,rfl,hix,hc,hF,hrd⟩:=B1c hs;split at h
  ·rename_i r hr
   simp only[Option.map_eq_some_iff] at h;obtain ⟨v',hv',he⟩:=h;simp only[Prod.mk.injEq] at he;obtain ⟨rfl,rfl⟩:=he;obtain ⟨hc',hsz⟩:=AB hr hc;exact Z4 ht hc' hsz hv' (HZ hrd)
  ·cases h
 ·cases h
theorem Gk{t:Nat}{i:TyI}(ht:I2 P t i)(hm:P0 x m){p:Nat}(hk:x.k p = .real){u:Value}{cn:List Value}(hu:u.cells=cn.toArray)(hl:cn.length=i.cells)(h1:∀v∈cn,v.oneCell' = true)
  {cur:Array Value} {ty:TypeId} (hcs:x.w.heap[x.β p]? = some (.cells cur ty (0,0))) {o:Nat} (hfit:o+cn.length<=cur.size) {e:En}
  (hd:C9 x e (cur.toList.take o++cn++cur.toList.drop (o+cn.length))) :
  ∃y,(Instr.storeAt t (.pointer (some ⟨x.β p,o,none⟩)) u).run P x.w = .ok () y.w∧Tr x none y (H8 m [(p,e)]):=by
 have hrun:=Wg ht (w:=x.w) hu hl h1 hcs hfit;refine ⟨Ar x p _,by simp [Instr.storeAt,Instr.sureAddr,hrun,Ar];rfl,Rl hm hk hcs ?_ e (by simpa using hd)⟩
 simp only[List.size_toArray,List.length_append,List.length_take,List.length_drop,Array.length_toList];omega
theorem QW{t:Nat}{i:TyI}(ht:I2 P t i)(hm:P0 x m)(hsub:∀q e,m' q=some e->m q=some e){s xs:SV}{av u:Value}(hs:B8 x s av)(hx:B8 x xs u){obl:List Prop}{ups:List (Nat×En)}
  (h:Gj m' s xs i=some (obl,ups)) (ho:A5 obl):∃y,(Instr.storeAt t av u).run P x.w = .ok () y.w∧Tr x none y (H8 m ups):=by
 unfold Gj at h;split at h
 ·rename_i v
  obtain ⟨cn,hu,hcn⟩:=EF hx;obtain ⟨dn,hcn⟩:=M3 hcn;have hln:=P5 hcn;have hone:=Fz hcn;split at h
  ·rename_i hsz
   split at h
   ·rename_i p off
    obtain ⟨hk,rfl⟩:=GX hs;split at h
    ·rename_i l hl
     simp only[Option.map_eq_some_iff] at h;obtain ⟨r,hr,he⟩:=h;simp only[Prod.mk.injEq] at he;obtain ⟨rfl,rfl⟩:=he;obtain ⟨cs,ty,hcs,hden⟩:=hm.ent p _ (hsub _ _ hl) hk;obtain ⟨d,hden⟩:=M3 hden;obtain ⟨hp,hfit⟩:=BO hr (F7 (fun _ _ h=>BX (Nat.le_max_left dn d) h) hcn) (F7 (fun _ _ h=>BX (Nat.le_max_right dn d) h) hden)
     exact Gk ht hm hk hu (by omega) hone hcs (by simpa using hfit) (P4 hp)
    ·rename_i q hq
     split at h
     ·rename_i hes
      simp only[Bool.and_eq_true,decide_eq_true_eq] at hes;simp only[Option.map_eq_some_iff] at h;obtain ⟨r,hr,he⟩:=h;simp only[Prod.mk.injEq] at he;obtain ⟨rfl,rfl⟩:=he;obtain ⟨cs,ty,hcs,hden⟩:=hm.ent p _ (hsub _ _ hq) hk;have hnew:=SI hden ho.1 hr hcn;have hlt:=ho.1;have hn:=hden.1;rw[hes.1,Nat.mul_one] at hnew;have hl1:cn.length=1:=by omega
      rw[hes.1,Nat.mul_one] at hn;refine Gk ht hm hk hu (by omega) hone hcs (by simp at hn;omega) ?_
      rw[hl1];exact hnew
     ·cases h
    ·cases h
   ·rename_i p es ix off
    obtain ⟨hk,rfl⟩:=A6l hs;split at h
    ·rename_i q hq
     split at h
     ·rename_i hes
      subst hes;split at h
      ·rename_i r hr
       simp only[Option.map_eq_some_iff] at h;obtain ⟨q',hq',he⟩:=h;simp only[Prod.mk.injEq] at he;obtain ⟨rfl,rfl⟩:=he;obtain ⟨cs,ty,hcs,hden⟩:=hm.ent p _ (hsub _ _ hq) hk;obtain ⟨c,d,hc,hlc,hfit,hcell⟩:=V6 hden ho.1;obtain ⟨hp,hfit'⟩:=BO hr (F7 (fun _ _ h=>BX (Nat.le_max_left dn d) h) hcn) (F7 (fun _ _ h=>BX (Nat.le_max_right dn d) h) hc)
       have hnew:=SI hden ho.1 hq' hp;have hsplit:(cs.toList.drop (ix*q.es)).take q.es=c:=by
        apply List.ext_getElem?
        intro j;rw[List.getElem?_take];split
        ·rename_i hj
         rw[List.getElem?_drop];have hjc:j<c.length:=by omega
         rw[hcell j c[j] (by simp [hjc])]
         simp [hjc]
        ·rw[List.getElem?_eq_none (by omega)]
       refine Gk ht hm hk hu (by omega) hone hcs (by simp at hfit;omega) ?_
       have:cs.toList.take (ix*q.es+off)++cn++cs.toList.drop (ix*q.es+off+cn.length) =
         cs.toList.take (ix*q.es)++(c.take off++cn++c.drop (off+cn.length))++cs.toList.drop (ix*q.es+q.es):=by
        rw[<-hsplit];simp only[List.append_assoc];rw[List.take_add,List.append_assoc,List.take_take,Nat.min_eq_left (by omega)]
        congr 3
        rw[List.drop_take,List.drop_drop];rw[show q.es-(off+cn.length)=q.es-(off+cn.length) from rfl]
        rw[show cs.toList.drop (ix*q.es+q.es)=(cs.toList.drop (ix*q.es+(off+cn.length))).drop (q.es-(off+cn.length)) by
         rw[List.drop_drop];congr 1;omega]
        rw[List.take_append_drop,Nat.add_assoc]
       rw[this];exact hnew
      ·cases h
     ·cases h
    ·cases h
   ·cases h
  ·cases h
 ·cases h
theorem FH{s:Nat}{i:TyI}(ht:I2 P s i){f fo fs:Nat}{g:Bool}(hf:i.fields[f]? = some (fo,fs,g))(hfs:fs≠0)(b o:Nat)(w:World) :
  (Instr.fieldAt s (.pointer (some ⟨b,o,none⟩)) f).run P w = .ok (.pointer (some ⟨b,o+fo,none⟩)) w:=by
 obtain ⟨inf,d,hi,hd,hsz,_,ha,h1,hz,hfl,har,hsl,hkd,heq,hes,hfd⟩:=ht.parts;obtain ⟨fields,rfl⟩:=hfd (by intro e;rw[e] at hf;simp at hf)
 obtain ⟨hok,_⟩:=hfl _ rfl;obtain ⟨fd,hget,hoff,inf',d',hi',hd',hs',_⟩:=EG hok f fo fs g hf;have hget' : fields[f]? = some fd:=by simpa using hget
 have hsz0:¬inf'.size=0:=by rw[hs'];exact hfs
 simp [Instr.fieldAt,run_underlying hd,hget',Instr.sureAddr,fieldPlace,Go.sizeOf,typeInfo,hi',hsz0,hoff,Addr.add_lit]
theorem Pj{s:Nat}{i:TyI}(ht:I2 P s i){f fo fs:Nat}{g:Bool}(hf:i.fields[f]? = some (fo,fs,g))(hfs:fs≠0){sv:SV}{v:Value}(hd:B8 x sv v){r:It}(h:Ph sv fo=some r) :
  ∃u,(Instr.fieldAt s v f).run P x.w = .ok u x.w∧B8 x (.v (.c r)) u:=by
 unfold Ph at h;split at h
 ·cases h
  obtain ⟨hk,rfl⟩:=GX hd;exact ⟨_,FH ht hf hfs _ _ _,rfl,0,hk,rfl⟩
 ·cases h
  obtain ⟨hk,rfl⟩:=A6l hd;exact ⟨_,FH ht hf hfs _ _ _,rfl,0,hk,by rw[Nat.add_assoc]⟩
 ·cases h
  obtain ⟨b,o,cs,d,rfl,hix,hc,hrd⟩:=B1c hd;exact ⟨_,FH ht hf hfs _ _ _,rfl,d+1,b,o,cs,by rw[Nat.add_assoc],hix,hc,hrd⟩
 ·cases h
theorem AT{t e:Nat}{i ie:TyI}(ht:I2 P t i)(hsl:i.slc=some e)(hte:I2 P e ie){k:IntKind}{n:Int}(h0:0<=n){b o len cap:Nat}(hn:n<len)(w:World) :
  (Instr.indexAt t (.slice (some ⟨b,o,none⟩) len cap) (.int k n)).run P w = .ok (.pointer (some ⟨b,o+n.toNat*ie.cells,none⟩)) w:=by
 obtain ⟨inf,d,hi,hd,_,_,_,_,_,_,_,hs,_⟩:=ht.parts;obtain ⟨rfl,_⟩:=hs e hsl;simp [Instr.indexAt,asIntOf,run_underlying hd,h0,hn,hte.sizeOf,Addr.add_lit]
theorem AS{t e len:Nat}{i ie:TyI}(ht:I2 P t i)(har:i.arr=some (len,e))(hte:I2 P e ie){k:IntKind}{n:Int}(h0:0<=n){b o:Nat}(hn:n<len)(w:World) :
  (Instr.indexAt t (.pointer (some ⟨b,o,none⟩)) (.int k n)).run P w = .ok (.pointer (some ⟨b,o+n.toNat*ie.cells,none⟩)) w:=by
 obtain ⟨inf,d,hi,hd,_,_,_,_,_,_,ha,_,_⟩:=ht.parts;obtain ⟨rfl,_⟩:=ha len e har;simp [Instr.indexAt,asIntOf,run_underlying hd,h0,hn,hte.sizeOf,Addr.add_lit,Instr.sureAddr]
theorem PL{t e:Nat}{i ie:TyI}(ht:I2 P t i)(hsl:i.slc=some e)(hte:I2 P e ie){s:SV}{v:Value}(hd:B8 x s v){k:IntKind}{n:Int}{obl:List Prop}{r:It}
  (h:Ee m' s n none ie.cells=some (obl,r)) (ho:A5 obl):∃u,(Instr.indexAt t v (.int k n)).run P x.w = .ok u x.w∧B8 x (.v (.c r)) u:=by
 unfold Ee at h;split at h
 ·rename_i p off len es'
  split at h
  ·rename_i hes
   subst hes;rcases CQ hd with ⟨_,_,hlen,_⟩ | ⟨hk,cap,cs,ty,rfl,hlc,hcm,hcs,hfit⟩
   ·split at h
    ·split at h
     ·cases h;have:=ho.1;have:=ho.2.1;omega
     ·cases h
    ·cases h;have:=ho.1;have:=ho.2.1;omega
    ·cases h
   ·split at h
    ·split at h
     ·cases h
      obtain ⟨g1,g2,g3,_⟩:=ho;subst g3;exact ⟨_,AT ht hsl hte g1 g2 _,rfl,0,hk,by simp⟩
     ·cases h
    ·cases h
     exact ⟨_,AT ht hsl hte ho.1 ho.2.1 _,rfl,0,hk,rfl⟩
    ·cases h
  ·cases h
 ·rename_i q _
  split at h
  ·rename_i hes
   cases h
   rcases A6m hd with ⟨a,cap,rfl,hn⟩ | ⟨b,o,cap,rfl,hlc,hcm,d,hel⟩
   ·have:=ho.1;have:=ho.2.1;omega
   ·have h0:=ho.1
    have hlt:n.toNat<q.n:=by have:=ho.2.1;omega
    obtain ⟨cs,hc,hrd⟩:=hel n.toNat hlt;rw[hes] at hrd;exact ⟨_,AT ht hsl hte ho.1 ho.2.1 _,rfl,d+1,b,o+n.toNat*ie.cells,cs,by simp,hlt,hc,hrd⟩
  ·cases h
 ·rename_i _ q _
  split at h
  ·rename_i hes
   cases h
   rcases A6m (D0t hd) with ⟨a,cap,rfl,hn⟩ | ⟨b,o,cap,rfl,hlc,hcm,d,hel⟩
   ·have:=ho.1;have:=ho.2.1;omega
   ·have h0:=ho.1
    have hlt:n.toNat<q.n:=by have:=ho.2.1;omega
    obtain ⟨cs,hc,hrd⟩:=hel n.toNat hlt;rw[hes] at hrd;exact ⟨_,AT ht hsl hte ho.1 ho.2.1 _,rfl,d+1,b,o+n.toNat*ie.cells,cs,by simp,hlt,hc,hrd⟩
  ·cases h
 ·rename_i hh;cases hh
 ·rename_i hh;cases hh
 ·rename_i hh;cases hh
 ·cases h
theorem PK{t e len:Nat}{i ie:TyI}(ht:I2 P t i)(har:i.arr=some (len,e))(hte:I2 P e ie){s:SV}{v:Value}(hd:B8 x s v){k:IntKind}{n:Int}{obl:List Prop}{r:It}
  (h:Ee m' s n (some len) ie.cells=some (obl,r)) (ho:A5 obl):∃u,(Instr.indexAt t v (.int k n)).run P x.w = .ok u x.w∧B8 x (.v (.c r)) u:=by
 unfold Ee at h;split at h
 ·rename_i hh;cases hh
 ·rename_i hh;cases hh
 ·rename_i hh;cases hh
 ·rename_i n' p off hh
  cases hh
  obtain ⟨hk,rfl⟩:=GX hd;split at h
  ·split at h
   ·cases h
    obtain ⟨g1,g2,g3,_⟩:=ho;subst g3;exact ⟨_,AS ht har hte g1 g2 _,rfl,0,hk,by simp⟩
   ·cases h
  ·cases h
   exact ⟨_,AS ht har hte ho.1 ho.2.1 _,rfl,0,hk,rfl⟩
  ·cases h
 ·rename_i n' p es' ix off hh
  cases hh
  obtain ⟨hk,rfl⟩:=A6l hd
  cases h
  exact ⟨_,AS ht har hte ho.1 ho.2.1 _,rfl,0,hk,by rw[Nat.add_assoc]⟩
 ·rename_i n' q ix off hh
  cases hh
  obtain ⟨b,o,cs,d,rfl,hix,hc,hrd⟩:=B1c hd
  cases h
  exact ⟨_,AS ht har hte ho.1 ho.2.1 _,rfl,d+1,b,o,cs,by rw[Nat.add_assoc],hix,hc,hrd⟩
 ·cases h
end
end
section
section
variable {P:Program} {x:C0} {m m' : Nat->Option En}
theorem Cf{ρ:Operand->SV}{a:Act}(hρ:∀o,B8 x (ρ o) (a.eval o)){o:Option Operand}{r:Option Int}(h:HV (o.map ρ)=some r) :
  (r=none∧o.map a.eval=none)∨∃n k,r=some n∧o.map a.eval=some (.int k n):=by
 cases o with
 | none=>simp [HV] at h;exact .inl ⟨h.symm,rfl⟩
 | some o=>
  simp only[Option.map_some,HV,Option.map_eq_some_iff] at h;obtain ⟨⟨k,n⟩,hi,rfl⟩:=h;exact .inr ⟨n,k,rfl,by simp [GF hi (hρ o)]⟩
theorem Z8{k:IntKind}{n:Int}{y:Nat}{c:BoundsCode}(h0:0<=n)(h1:n<=y)(w:World):(Instr.sliceBound (.int k n) y c).run P w = .ok n.toNat w:=by
 simp [Instr.sliceBound,asIntOf,h0,h1]
theorem QT{t e len:Nat}{i ie:TyI}(ht:I2 P t i)(har:i.arr=some (len,e))(hte:I2 P e ie)(hm:P0 x m)(hsub:∀q e,m' q=some e->m q=some e){s:SV}{v:Value}(hd:B8 x s v)
  {lo hi:Option Int} {vlo vhi:Option Value} (hlo:(lo=none∧vlo=none)∨∃n k,lo=some n∧vlo=some (.int k n)) (hhi:(hi=none∧vhi=none)∨∃n k,hi=some n∧vhi=some (.int k n))
  {obl:List Prop} {r:It} (h:Eu m' s lo hi (some len) ie.cells=some (obl,r)) (ho:A5 obl):∃u,(Instr.sliceAt t v vlo vhi none).run P x.w = .ok u x.w∧B8 x (.v (.c r)) u:=by
 obtain ⟨inf,d,hinf,hdd,_,_,_,_,_,_,ha,_,_⟩:=ht.parts;obtain ⟨rfl,_⟩:=ha len e har;unfold Eu at h;split at h
 ·rename_i n' p off hh
  cases hh
  obtain ⟨hk,rfl⟩:=GX hd;split at h
  ·rename_i o hroom
   have key:A5 o->∃cs ty,x.w.heap[x.β p]? = some (.cells cs ty (0,0))∧off+len*ie.cells<=cs.size:=by
    intro ho;split at hroom
    ·rename_i l hl
     split at hroom
     ·rename_i hle
      obtain ⟨cs,ty,hcs,hden⟩:=hm.ent p _ (hsub _ _ hl) hk;obtain ⟨dd,hden⟩:=M3 hden;have:=P5 hden
      exact ⟨cs,ty,hcs,by simp at this;omega⟩
     ·cases hroom
    ·rename_i q hq
     split at hroom
     ·rename_i hes
      cases hroom
      obtain ⟨cs,ty,hcs,hden⟩:=hm.ent p _ (hsub _ _ hq) hk;have h1:=hden.1;obtain ⟨g1,g2,_⟩:=ho;have:len*ie.cells<=q.n*q.es:=by rw[hes];exact Nat.mul_le_mul_right _ g2
      exact ⟨cs,ty,hcs,by simp at h1;omega⟩
     ·cases hroom
    ·cases hroom
   split at h
   ·rename_i hn1 hn2
    split at h
    ·rename_i hle
     cases h
     obtain ⟨cs,ty,hcs,hfit⟩:=key ho;rcases hlo with ⟨_,rfl⟩ | ⟨_,_,hh,_⟩
     ·rcases hhi with ⟨_,rfl⟩ | ⟨_,_,hh,_⟩
      ·refine ⟨.slice (some ⟨x.β p,off,none⟩) len len,?_,?_⟩
       rotate_left
       ·split
        ·exact ⟨rfl,0,hk,rfl⟩
        ·exact ⟨rfl,0,.inr ⟨hk,len,cs,ty,rfl,Nat.le_refl _,by simp only[maxLen];omega,hcs,hfit⟩⟩
       simp [Instr.sliceAt,run_underlying hdd,Instr.sureAddr,Instr.sliceBounds,hte.sizeOf,Addr.add_lit]
      ·cases hh
     ·cases hh
    ·cases h
   ·rename_i hv
    split at h
    ·rename_i hle
     cases h
     obtain ⟨g1,g2,ho⟩:=ho;obtain ⟨cs,ty,hcs,hfit⟩:=key ho;rcases hlo with ⟨_,rfl⟩ | ⟨_,_,hh,_⟩
     ·rcases hhi with ⟨hh,_⟩ | ⟨_,_,hh,rfl⟩
      ·cases hh
      ·cases hh
       refine ⟨.slice (some ⟨x.β p,off,none⟩) hv.toNat len,?_,rfl,0,.inr ⟨hk,len,cs,ty,rfl,by omega,by simp only[maxLen];omega,hcs,hfit⟩⟩
       simp [Instr.sliceAt,run_underlying hdd,Instr.sureAddr,Instr.sliceBounds,hte.sizeOf,Addr.add_lit,Z8 g1 g2]
     ·cases hh
    ·cases h
   ·cases h
  ·cases h
 ·rename_i hh;cases hh
 ·rename_i hh;cases hh
 ·cases h
theorem S7{t e:Nat}{i ie:TyI}(ht:I2 P t i)(hsl:i.slc=some e)(hte:I2 P e ie){a:Option Addr}{len cap l h:Nat}{vlo vhi:Option Value}(hl:(vlo=none∧l=0)∨∃k n,vlo=some (.int k n)∧0<=n∧n.toNat=l)
  (hh:(vhi=none∧h=len)∨∃k n,vhi=some (.int k n)∧0<=n∧n.toNat=h) (hlh:l<=h) (hhc:h<=cap) (w:World) :
  (Instr.sliceAt t (.slice a len cap) vlo vhi none).run P w = .ok (.slice (if cap=l then a else a.map (·.add (l*ie.cells))) (h-l) (cap-l)) w:=by
 obtain ⟨inf,d,hinf,hdd,_,_,_,_,_,_,_,hs,_⟩:=ht.parts;obtain ⟨rfl,_⟩:=hs e hsl;have hb:(Instr.sliceBounds true len cap vlo vhi none).run P w = .ok (l,h,cap) w:=by
  rcases hh with ⟨rfl,rfl⟩ | ⟨k,n,rfl,hn,rfl⟩
  ·rcases hl with ⟨rfl,rfl⟩ | ⟨k',n',rfl,hn',rfl⟩
   ·simp [Instr.sliceBounds]
   ·simp [Instr.sliceBounds,Z8 hn' (show n' <= (h:Int) by omega)]
  ·rcases hl with ⟨rfl,rfl⟩ | ⟨k',n',rfl,hn',rfl⟩
   ·simp [Instr.sliceBounds,Z8 hn (show n<=(cap:Int) by omega)]
   ·simp [Instr.sliceBounds,Z8 hn (show n<=(cap:Int) by omega),Z8 hn' (show n' <= (n.toNat:Int) by omega)]
 simp [Instr.sliceAt,run_underlying hdd,Instr.slice,hb,hte.sizeOf]
theorem A1y{q:Sq}{a:Option Addr}{cap l h:Nat}{es:Nat}(hes:q.es=es)(hlh:l<=h)(hhn:h<=q.n)
  (hd:(∃a cap',Value.slice a q.n cap = .slice a 0 cap' ∧ q.n=0)∨(∃b o,a=some ⟨b,o,none⟩∧q.n<=cap∧q.n<=maxLen∧∃d,∀i,i<q.n->∃cs,C6 (F8 x d) (q.get i) cs∧rd x.w x.F b (o+i*q.es) cs)) :
  B8 x (.v (.c (.sl (q.cut l (h-l))))) (.slice (if cap=l then a else a.map (·.add (l*es))) (h-l) (cap-l)):=by
 obtain ⟨g1,g2,g3⟩:=IN q l (h-l) (by omega)
 rcases hd with ⟨a',cap',_,hn⟩ | ⟨b,o,rfl,hc,hm,d,hel⟩
 ·have e0:h-l=0:=by omega
  rw[e0] at g1 ⊢
  exact ⟨rfl,1,.inl ⟨_,_,rfl,g1⟩⟩
 ·by_cases hcl:cap=l
  ·have e0:h-l=0:=by omega
   rw[e0] at g1 ⊢
   exact ⟨rfl,1,.inl ⟨_,_,rfl,g1⟩⟩
  ·refine ⟨rfl,d+1,.inr ⟨b,o+l*es,cap-l,?_,by omega,by omega,fun i hi=>?_⟩⟩
   ·simp [hcl,g1,Addr.add_lit]
   ·rw[g1] at hi
    obtain ⟨cs,hc',hrd⟩:=hel (l+i) (by omega)
    refine ⟨cs,by rw[g3 i hi];exact hc',?_⟩
    rw[g2,hes];rw[hes,Nat.add_mul,<-Nat.add_assoc] at hrd;exact hrd
theorem Kq{q:Sq}{v:Value}(h:B8 x (.v (.c (.sl q))) v):∃a cap,v = .slice a q.n cap∧q.n<=cap ∧
  ((∃a cap',Value.slice a q.n cap = .slice a 0 cap' ∧ q.n=0)∨(∃b o,a=some ⟨b,o,none⟩∧q.n<=cap∧q.n<=maxLen∧∃d,∀i,i<q.n->∃cs,C6 (F8 x d) (q.get i) cs∧rd x.w x.F b (o+i*q.es) cs)):=by
 rcases A6m h with ⟨a,cap,rfl,hn⟩ | ⟨b,o,cap,rfl,h1,h2,h3⟩
 ·exact ⟨a,cap,by rw[hn],by omega,.inl ⟨a,cap,by rw[hn],hn⟩⟩
 ·exact ⟨_,cap,rfl,h1,.inr ⟨b,o,rfl,h1,h2,h3⟩⟩
theorem QY{t e:Nat}{i ie:TyI}(ht:I2 P t i)(hsl:i.slc=some e)(hte:I2 P e ie){p len l h:Nat}{v:Value}(hd:B8 x (.v (.c (.slc p 0 len ie.cells))) v){vlo vhi:Option Value}
  (hl:(vlo=none∧l=0)∨∃k n,vlo=some (.int k n)∧0<=n∧n.toNat=l) (hh:(vhi=none∧h=len)∨∃k n,vhi=some (.int k n)∧0<=n∧n.toNat=h) (hlh:l<=h) (hhl:h<=len) :
  ∃u,(Instr.sliceAt t v vlo vhi none).run P x.w = .ok u x.w∧B8 x (.v (.c (.sv p l (h-l) ie.cells))) u:=by
 rcases CQ hd with ⟨_,_,rfl,rfl⟩ | ⟨hk,cap,cs,ty,rfl,hlc,hcm,hcs,hfit⟩
 ·have e1:h=0:=by omega
  have e2:l=0:=by omega
  refine ⟨_,S7 ht hsl hte hl hh hlh (by omega) _,rfl,0,.inl ⟨by omega,?_⟩⟩
  rw[show h-l=0 from by omega]
  exact ⟨_,_,rfl⟩
 ·refine ⟨_,S7 ht hsl hte hl hh hlh (by omega) _,?_⟩
  by_cases hcl:cap=l
  ·refine ⟨rfl,0,.inl ⟨by omega,?_⟩⟩
   rw[show h-l=0 from by omega]
   exact ⟨_,_,rfl⟩
  ·refine ⟨rfl,0,.inr ⟨hk,cap-l,?_,by omega,by omega⟩⟩
   simp [hcl,Addr.add_lit]
theorem B0h{t e:Nat}{i ie:TyI}(ht:I2 P t i)(hsl:i.slc=some e)(hte:I2 P e ie){p len h:Nat}{v:Value}(hd:B8 x (.v (.c (.slc p 0 len ie.cells))) v){vhi:Option Value}
  (hh:(vhi=none∧h=len)∨∃k n,vhi=some (.int k n)∧0<=n∧n.toNat=h) (hhl:h<=len) :
  ∃u,(Instr.sliceAt t v none vhi none).run P x.w = .ok u x.w∧B8 x (.v (.c (.slc p 0 h ie.cells))) u:=by
 rcases CQ hd with ⟨hk,_,rfl,rfl⟩ | ⟨hk,cap,cs,ty,rfl,hlc,hcm,hcs,hfit⟩
 ·have e1:h=0:=by omega
  subst e1;refine ⟨_,S7 ht hsl hte (.inl ⟨rfl,rfl⟩) hh (Nat.le_refl _) (by omega) _,?_⟩
  simpa using hd
 ·refine ⟨_,S7 ht hsl hte (.inl ⟨rfl,rfl⟩) hh (Nat.zero_le _) (by omega) _,?_⟩
  refine ⟨rfl,0,.inr ⟨hk,cap,cs,ty,?_,by omega,hcm,hcs,hfit⟩⟩
  simp [Addr.add_lit]
theorem QU{t e:Nat}{i ie:TyI}(ht:I2 P t i)(hsl:i.slc=some e)(hte:I2 P e ie){s:SV}{v:Value}(hd:B8 x s v)
  {lo hi:Option Int} {vlo vhi:Option Value} (hlo:(lo=none∧vlo=none)∨∃n k,lo=some n∧vlo=some (.int k n)) (hhi:(hi=none∧vhi=none)∨∃n k,hi=some n∧vhi=some (.int k n))
  {obl:List Prop} {r:It} (h:Eu m' s lo hi none ie.cells=some (obl,r)) (ho:A5 obl):∃u,(Instr.sliceAt t v vlo vhi none).run P x.w = .ok u x.w∧B8 x (.v (.c r)) u:=by
 unfold Eu at h;split at h
 ·rename_i hh;cases hh
 ·rename_i p off len es' _
  split at h
  ·cases h
   rcases hlo with ⟨_,rfl⟩ | ⟨_,_,hh,_⟩
   ·rcases hhi with ⟨_,rfl⟩ | ⟨_,_,hh,_⟩
    ·rcases CQ hd with ⟨_,_,_,rfl⟩ | ⟨hk,cap,cs,ty,rfl,hlc,hcm,hcs,hfit⟩
     ·exact ⟨_,S7 ht hsl hte (.inl ⟨rfl,rfl⟩) (.inl ⟨rfl,rfl⟩) (Nat.le_refl _) (Nat.le_refl _) _,by simpa using hd⟩
     ·refine ⟨_,S7 ht hsl hte (.inl ⟨rfl,rfl⟩) (.inl ⟨rfl,rfl⟩) (Nat.zero_le _) hlc _,?_⟩
      simpa [Addr.add_lit] using hd
    ·cases hh
   ·cases hh
  ·cases h
   rcases hlo with ⟨_,rfl⟩ | ⟨_,_,hh,_⟩
   ·rcases hhi with ⟨hh,_⟩ | ⟨_,_,hh,rfl⟩
    ·cases hh
    ·cases hh
     obtain ⟨rfl,rfl,g1,g2,_⟩:=ho;split
     ·exact B0h ht hsl hte hd (.inr ⟨_,_,rfl,g1,rfl⟩) (Int.toNat_le.2 g2)
     ·exact QY ht hsl hte hd (.inl ⟨rfl,rfl⟩) (.inr ⟨_,_,rfl,g1,rfl⟩) (Nat.zero_le _) (Int.toNat_le.2 g2)
   ·cases hh
  ·cases h
   rcases hlo with ⟨hh,_⟩ | ⟨_,_,hh,rfl⟩
   ·cases hh
   ·cases hh
    rcases hhi with ⟨_,rfl⟩ | ⟨_,_,hh,_⟩
    ·obtain ⟨rfl,rfl,g1,g2,_⟩:=ho
     exact QY ht hsl hte hd (.inr ⟨_,_,rfl,g1,rfl⟩) (.inl ⟨rfl,rfl⟩) (Int.toNat_le.2 g2) (Nat.le_refl _)
    ·cases hh
  ·cases h
   rcases hlo with ⟨hh,_⟩ | ⟨_,_,hh,rfl⟩
   ·cases hh
   ·cases hh
    rcases hhi with ⟨hh,_⟩ | ⟨_,_,hh,rfl⟩
    ·cases hh
    ·cases hh
     obtain ⟨rfl,rfl,g1,g2,g3,_⟩:=ho;exact QY ht hsl hte hd (.inr ⟨_,_,rfl,g1,rfl⟩) (.inr ⟨_,_,rfl,Int.le_trans g1 g2,rfl⟩) (Int.toNat_le_toNat g2) (Int.toNat_le.2 g3)
 ·rename_i q _
  obtain ⟨a,cap,rfl,hqc,hel⟩:=Kq hd;split at h
  ·rename_i hes
   split at h
   ·cases h
    rcases hlo with ⟨_,rfl⟩ | ⟨_,_,hh,_⟩
    ·rcases hhi with ⟨_,rfl⟩ | ⟨_,_,hh,_⟩
     ·refine ⟨_,S7 ht hsl hte (.inl ⟨rfl,rfl⟩) (.inl ⟨rfl,rfl⟩) (Nat.zero_le _) hqc _,?_⟩
      have:(Option.map (fun x:Addr=>x.add (0*ie.cells)) a)=a:=by cases a<;>simp [Addr.add]
      rw[this];simpa using hd
     ·cases hh
    ·cases hh
   ·cases h
    rcases hlo with ⟨_,rfl⟩ | ⟨_,_,hh,_⟩
    ·rcases hhi with ⟨hh,_⟩ | ⟨_,_,hh,rfl⟩
     ·cases hh
     ·cases hh
      rename_i hv _ _;have hle:hv.toNat<=q.n:=by have:=ho.1;have:=ho.2.1;omega
      exact ⟨_,S7 ht hsl hte (.inl ⟨rfl,rfl⟩) (.inr ⟨_,_,rfl,ho.1,rfl⟩) (Nat.zero_le _) (Nat.le_trans hle hqc) _,A1y hes (Nat.zero_le _) hle hel⟩
    ·cases hh
   ·cases h
    rcases hlo with ⟨hh,_⟩ | ⟨_,_,hh,rfl⟩
    ·cases hh
    ·cases hh
     rcases hhi with ⟨_,rfl⟩ | ⟨_,_,hh,_⟩
     ·exact ⟨_,S7 ht hsl hte (.inr ⟨_,_,rfl,ho.1,rfl⟩) (.inl ⟨rfl,rfl⟩) (by have:=ho.2.1;omega) hqc _,A1y hes (by have:=ho.2.1;omega) (Nat.le_refl _) hel⟩
     ·cases hh
   ·cases h
    rcases hlo with ⟨hh,_⟩ | ⟨_,_,hh,rfl⟩
    ·cases hh
    ·cases hh
     rcases hhi with ⟨hh,_⟩ | ⟨_,_,hh,rfl⟩
     ·cases hh
     ·cases hh
      obtain ⟨g1,g2,g3,_⟩:=ho;exact ⟨_,S7 ht hsl hte (.inr ⟨_,_,rfl,g1,rfl⟩) (.inr ⟨_,_,rfl,by omega,rfl⟩) (by omega) (by omega) _,A1y hes (by omega) (by omega) hel⟩
  ·cases h
 ·cases h
theorem Ws{t e:Nat}{i ie:TyI}(ht:I2 P t i)(hsl:i.slc=some e)(hte:I2 P e ie){q:Sq}(_hes:q.es=ie.cells){v:Value}(hd:B8 x (.v (.c (.sl q))) v){k k' : IntKind}{h mx:Int}(h0:0<=h)(h1:h<=mx)(h2:mx<=q.n) :
  ∃u,(Instr.sliceAt t v none (some (.int k h)) (some (.int k' mx))).run P x.w = .ok u x.w∧B8 x (.v (.c (.sl (q.cut 0 h.toNat)))) u:=by
 obtain ⟨a,cap,rfl,hqc,hel⟩:=Kq hd;obtain ⟨inf,d,hinf,hdd,_,_,_,_,_,_,_,hs,_⟩:=ht.parts;obtain ⟨rfl,_⟩:=hs e hsl;obtain ⟨g1,g2,g3⟩:=IN q 0 h.toNat (by omega)
 have hb:(Instr.sliceBounds true q.n cap none (some (.int k h)) (some (.int k' mx))).run P x.w = .ok (0,h.toNat,mx.toNat) x.w:=by
  simp [Instr.sliceBounds,Z8 (show 0<=mx by omega) (show mx<=(cap:Int) by omega),Z8 h0 (show h<=(mx.toNat:Int) by omega)]
 refine ⟨.slice a h.toNat mx.toNat,?_,?_⟩
 ·have:(Option.map (fun x:Addr=>x.add (0*ie.cells)) a)=a:=by cases a<;>simp [Addr.add]
  simp [Instr.sliceAt,run_underlying hdd,Instr.slice,hb,hte.sizeOf,Addr.add]
 ·rcases hel with ⟨a',cap',_,hn⟩ | ⟨b,o,rfl,hc,hm,d,hel⟩
  ·have e0:h.toNat=0:=by omega
   rw[e0] at g1 ⊢
   exact ⟨rfl,1,.inl ⟨_,_,rfl,g1⟩⟩
  ·refine ⟨rfl,d+1,.inr ⟨b,o,mx.toNat,by rw[g1],by omega,by omega,fun j hj=>?_⟩⟩
   rw[g1] at hj;obtain ⟨cs,hc',hrd⟩:=hel j (by omega)
   exact ⟨cs,by rw[g3 j hj,Nat.zero_add];exact hc',by rw[g2];exact hrd⟩
theorem Xa{l r:List It}{off n d:Nat}{cs:List Value}(h:Dp off n l=some r)(hc:C6 (F8 x d) l cs)(hn:n≠0):off+n<=cs.length:=by
 obtain ⟨h1,h2⟩:=AB h hc;have:=P5 h1
 rw[h2,List.length_take,List.length_drop] at this;omega
theorem Xn{s:Nat}{i:TyI}(ht:I2 P s i){f fo fs:Nat}{g:Bool}(hf:i.fields[f]? = some (fo,fs,g))(hfs:fs≠0){l r:List It}{v:Value}{u:V1}(hd:B8 x (.v (.a l)) v)(hr:Dp fo fs l=some r)(hv:mkV g r=some u) :
  ∃z,(Instr.field s v f).run P x.w = .ok z x.w∧Dq x u z:=by
 obtain ⟨cs,rfl,hc⟩:=hd;obtain ⟨d,hc⟩:=M3 hc;obtain ⟨inf,dd,hi,hdd,hsz,_,ha,h1,hz,hfl,har,hsl,hkd,heq,hes,hfd⟩:=ht.parts;obtain ⟨fields,rfl⟩:=hfd (by intro e;rw[e] at hf;simp at hf)
 obtain ⟨hok,_⟩:=hfl _ rfl;obtain ⟨fd,hget,hoff,inf',d',hi',hd',hs',hg',h1'⟩:=EG hok f fo fs g hf;have hget' : fields[f]? = some fd:=by simpa using hget
 have hroom:=Xa hr hc hfs;have hpart:=CG hi' hd' (cs:=cs) (off:=fo) x.w (fun e=>by rw[hs'];exact h1' (hg' ▸ e)) (by rw[hs'];exact hroom)
 obtain ⟨hcr,hsr⟩:=AB hr hc;rw[hs',hg'] at hpart;refine ⟨_,?_,(Vr hv (P4 hcr) (fun e=>by rw[hsr];exact h1' e)).1⟩
 simp only[Instr.field,Sem.run_bind,run_underlying hdd,Result.andThen_ok];simp only[hget',asAgg,Sem.run_bind,Sem.run_pure,Result.andThen_ok,hoff];exact hpart
theorem XC{t e len:Nat}{i ie:TyI}(ht:I2 P t i)(har:i.arr=some (len,e))(hte:I2 P e ie){l r:List It}{v:Value}{u:V1}{k:IntKind}{n:Int}(h0:0<=n)(hn:n<len)(hd:B8 x (.v (.a l)) v)
  (hr:Dp (n.toNat*ie.cells) ie.cells l=some r) (hv:mkV ie.agg r=some u) (hne:ie.cells≠0):∃z,(Instr.index t v (.int k n)).run P x.w = .ok z x.w∧Dq x u z:=by
 obtain ⟨cs,rfl,hc⟩:=hd;obtain ⟨d,hc⟩:=M3 hc;obtain ⟨inf,dd,hi,hdd,_,_,_,_,_,_,ha,_,_⟩:=ht.parts;obtain ⟨rfl,_⟩:=ha len e har;obtain ⟨inf',d',hi',hd',hs',_,hg',h1',_⟩:=hte.parts;have hroom:=Xa hr hc hne;have hpart:=CG hi' hd' (cs:=cs) (off:=n.toNat*ie.cells) x.w (fun e=>by rw[hs'];exact h1' (hg' ▸ e)) (by rw[hs'];exact hroom)
 obtain ⟨hcr,hsr⟩:=AB hr hc;rw[hs',hg'] at hpart;refine ⟨_,?_,(Vr hv (P4 hcr) (fun e=>by rw[hsr];exact h1' e)).1⟩
 simp only[Instr.index,asIntOf,Sem.run_bind,Sem.run_pure,Result.andThen_ok,run_underlying hdd];simp only[h0,hn,and_self,if_true,Sem.run_bind,hte.sizeOf,Result.andThen_ok];exact hpart
theorem B4c{t e len:Nat}{i ie:TyI}(ht:I2 P t i)(har:i.arr=some (len,e))(hte:I2 P e ie)(hag:ie.agg=false){o:Ob}(hk:o.k=len){v:Value}{k:IntKind}{n:Int}(h0:0<=n)(hn:n<len)(hd:B8 x (.v (.a [.ob o])) v) :
  (Instr.index t v (.int k n)).run P x.w = .ok (.int .u64 (A1 o.n n.toNat)) x.w:=by
 obtain ⟨cs,rfl,c1,c2,e1,⟨d,g1⟩,g2⟩:=hd;simp only[C6] at g2;subst g2;have hc1:c1=o.cells:=by cases d<;>simpa [F8] using g1
 rw[List.append_nil,hc1] at e1;subst e1;obtain ⟨inf,dd,hi,hdd,_,_,_,_,_,_,ha,_,_⟩:=ht.parts;obtain ⟨rfl,_⟩:=ha len e har;obtain ⟨inf',d',hi',hd',hs',_,hg',h1',_⟩:=hte.parts;have hc1:=h1' hag;have hlt:n.toNat<o.k:=by omega
 have hpart:=CG hi' hd' (cs:=o.cells) (off:=n.toNat*ie.cells) x.w (fun e=>by rw[hs'];exact hc1) (by rw[hs',hc1,A0t];omega)
 rw[hs',hc1,hg',hag,Nat.mul_one] at hpart;simp only[Instr.index,asIntOf,Sem.run_bind,Sem.run_pure,Result.andThen_ok,run_underlying hdd];simp only[h0,hn,and_self,if_true,Sem.run_bind,hte.sizeOf,Result.andThen_ok,hc1,Nat.mul_one];rw[hpart];have hlen:n.toNat<o.cells.length:=by rw[A0t];exact hlt
 rw[List.drop_eq_getElem_cons hlen];simp [O2,Ob.cells]
theorem A6p{t:Nat}{i:TyI}(ht:I2 P t i)(w:World):∃cells ty,(Instr.alloc t true (.tuple #[])).run P w = .ok (.pointer (some ⟨w.heap.size,0,none⟩)) (w.alloc (.cells cells ty))∧∀(x:C0),C9 x (.fl i.zero) cells.toList:=by
 obtain ⟨inf,d,hi,hd,hsz,_,ha,h1,⟨z,hz,hzm,_⟩,_⟩:=ht.parts;refine ⟨z.cells,t,?_,fun x=>P4 (AV (d:=0) hzm)⟩
 simp [Instr.alloc,zeroValue,typeInfo,hi,hz,newVar,newRow]
theorem C2n(t:Nat)(v:Value)(w:World):(Instr.box t v).run P w = .ok (.pointer (some ⟨w.heap.size,0,none⟩)) (w.alloc (.cells v.cells t)):=by
 simp [Instr.box,newVar,newRow]
theorem Xx(off:Nat):∀(vs:List Value) (k:Nat) (cs:Array Value),off+k+vs.length<=cs.size ->
  ((vs.zipIdx k).foldl (fun cs (c:Value×Nat)=>cs.setIfInBounds (off+c.2) c.1) cs).toList=cs.toList.take (off+k)++vs++cs.toList.drop (off+k+vs.length)
 | [],k,cs,_=>by simp
 | v::vs,k,cs,h=>by
  simp only[List.length_cons] at h;simp only[List.zipIdx_cons,List.foldl_cons];rw[Xx off vs (k+1) _ (by simp only[Array.size_setIfInBounds];omega)]
  have hlt:off+k<cs.toList.length:=by simp;omega
  simp only[Array.toList_setIfInBounds,List.length_cons];have hset:cs.toList.set (off+k) v=cs.toList.take (off+k)++v::cs.toList.drop (off+k+1):=List.set_eq_take_append_cons_drop .. |>.trans (by rw[if_pos hlt])
  rw[hset];have hl:(cs.toList.take (off+k)).length=off+k:=by rw[List.length_take];omega
  rw[show off+(k+1)=(off+k)+1 from by omega,List.take_append,hl,List.take_of_length_le (by omega)]
  rw[show off+k+1-(off+k)=1 from by omega,List.take_succ_cons,List.take_zero]
  rw[List.drop_append,hl,List.drop_of_length_le (by omega)]
  simp only[List.nil_append,List.append_assoc,List.cons_append];rw[show off+k+1+vs.length-(off+k)=vs.length+1 from by omega,List.drop_succ_cons,List.drop_drop]
  congr 4
  omega
theorem Xp{place:Nat->Option (Nat×Nat)}{cells:Array Value}{i off size:Nat}{v:Value}{cn:List Value}{rest:List (Nat×Value)}(hp:place i=some (off,size))(hv:v.cells=cn.toArray)(hl:cn.length=size)(hfit:off+size<=cells.size) :
  Instr.fill place cells ((i,v)::rest)=Instr.fill place (cells.toList.take off++cn++cells.toList.drop (off+cn.length)).toArray rest:=by
 have h1:¬(v.cells.size≠size∨off+v.cells.size > cells.size):=by rw[hv];simp [hl];omega
 have hf:=Xx off cn 0 cells (by omega)
 simp only[Nat.add_zero] at hf;have hf' : (v.cells.zipIdx.foldl (fun (cs:Array Value) (c:Value×Nat)=>cs.setIfInBounds (off+c.2) c.1) cells)=(cells.toList.take off++cn++cells.toList.drop (off+cn.length)).toArray:=by
  apply Array.toList_inj.1
  rw[hv,<-Array.foldl_toList];simpa using hf
 have he:Instr.fill place cells ((i,v)::rest)=Instr.fill place (v.cells.zipIdx.foldl (fun (cs:Array Value) (c:Value×Nat)=>cs.setIfInBounds (off+c.2) c.1) cells) rest:=by
  rw[Instr.fill];simp only[hp];rw[if_neg];intro hc;simp only[Bool.or_eq_true,decide_eq_true_eq] at hc;exact h1 hc
 rw[he,hf']
theorem BV{ρ:Operand->SV}{a:Act}(hρ:∀o,B8 x (ρ o) (a.eval o)){fields:List (Nat×Nat×Bool)}{arr:Option (Nat×Nat)}{place:Nat->Option (Nat×Nat)}
  (hp:∀i off size,NJ fields arr i=some (off,size)->place i=some (off,size)) :
  ∀(parts:List (Nat×Operand)) (l r:List It) (cells:Array Value),AY fields arr l (parts.map fun p=>(p.1,ρ p.2))=some r->C6 x.D l cells.toList ->
   ∃cells',Instr.fill place cells (parts.map fun p=>(p.1,a.eval p.2))=some cells' ∧ C6 x.D r cells'.toList
 | [],l,r,cells,h,hc=>by simp [AY] at h;subst h;exact ⟨cells,rfl,hc⟩
 | (i,o)::parts,l,r,cells,h,hc=>by
  simp only[List.map_cons] at h ⊢
  cases hsv:ρ o with
  | v v=>
   rw[hsv] at h;simp only[AY] at h;split at h
   ·rename_i off size hplace
    split at h
    ·rename_i hsz
     split at h
     ·rename_i l' hl'
      have hd:=hρ o;rw[hsv] at hd;obtain ⟨cn,hu,hcn⟩:=EF hd;obtain ⟨dn,hcn⟩:=M3 hcn;obtain ⟨dl,hcl⟩:=M3 hc;have hln:=P5 hcn;obtain ⟨hpd,hfit⟩:=BO hl' (F7 (fun _ _ h=>BX (Nat.le_max_left dn dl) h) hcn) (F7 (fun _ _ h=>BX (Nat.le_max_right dn dl) h) hcl)
      rw[Xp (hp i off size hplace) hu (by omega) (by simp at hfit;omega)]
      exact BV hρ hp parts l' r _ h (by simpa using P4 hpd)
     ·cases h
    ·cases h
   ·cases h
  | t l' => rw[hsv] at h;simp [AY] at h
  | top=>rw[hsv] at h;simp [AY] at h
end
end
end
end Go.Proofs.YtifiiigbedjceaaGreat
