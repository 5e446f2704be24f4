/- Parts of a proof, one behind the other: Ri, Rj, Nr, Ns, Rk, Rn, Dv, L6, Dg, Jt, Eo, Ms, Cp, Dk, Ej. No conditions. -/
import Derived.Test.YtifiiigbedjceaaSkH
open Go.IntKind (wrap)
namespace Go.Proofs.Ytifiiigbedjceaa
noncomputable section
section

/-- A part that tells its cells. -/
def F2w:It->Bool
 | .int _ _ | .bool _ | .lit _ | .ob _ | .val _ | .vsl _ _=>true
 | _=>false

theorem D6w {x y:Ctx} {d e:Nat} {i:It} {vs us:List Value} (h:F2w i=true) (h1:den x d i vs) (h2:den y e i us):vs=us:=by
 cases i<;>simp only[F2w] at h
 case int=>cases d<;>cases e<;>exact Eq.trans h1 (Eq.symm h2)
 case bool=>cases d<;>cases e<;>exact Eq.trans h1 (Eq.symm h2)
 case lit=>cases d<;>cases e<;>exact Eq.trans h1 (Eq.symm h2)
 case ob=>cases d<;>cases e<;>exact Eq.trans h1 (Eq.symm h2)
 case val=>cases d<;>cases e<;>exact h1.1.trans h2.1.symm
 case vsl=>cases d<;>cases e<;>first | exact h1.elim | exact h2.elim | exact h1.1.trans h2.1.symm
 all_goals cases h

/-- The iterator's view: of the caller's blocks it knows one. -/
def E0 (y:Ctx) (p:Nat):Ctx:=⟨y.w,y.F,fun q=>if q=0 then .real else .no,fun _=>y.β p⟩

section
variable {P:Program} {y:Ctx} {m:Nat->Option En} {p:Nat} {e e' : En}

theorem A5k (h:Mem y m) (hp:m p=some e) (hr:y.k p = .real) (hd:∀(cs:Array Value) ty,y.w.heap[y.β p]? = some (.cells cs ty (0,0))->D9 y e cs.toList->D9 (E0 y p) e' cs.toList):Mem (E0 y p) (one e'):=by
 refine ⟨fun q=>?_,fun q l hq=>?_,fun q s hq hn=>?_,fun q e1 hq hk=>?_,fun q r hq hr' _=>?_,fun q hq=>?_,h.fw⟩
 ·by_cases h0:q=0<;>simp [one,E0,h0]
 ·by_cases h0:q=0
  ·simp [E0,h0]
  ·simp [one,h0] at hq
 ·by_cases h0:q=0<;>simp [E0,h0] at hn hq
 ·by_cases h0:q=0
  ·subst h0
   simp only[one,if_true,Option.some.injEq] at hq;subst hq;obtain ⟨cs,ty,hc,hdd⟩:=h.ent p e hp hr;exact ⟨cs,ty,hc,hd cs ty hc hdd⟩
  ·simp [one,h0] at hq
 ·by_cases h0:q=0
  ·by_cases h1:r=0
   ·rw[h0,h1]
   ·simp [E0,h1] at hr'
  ·simp [E0,h0] at hq
 ·exact h.own p hr

theorem B8n (h:Mem y m) (hp:m p=some e) (hr:y.k p = .real) (hd:∀(cs:Array Value) ty,y.w.heap[y.β p]? = some (.cells cs ty (0,0))->D9 y e cs.toList->D9 (E0 y p) e' cs.toList) {t:Nat->SV} {nt nx:Nat} {a:Act} (had:a.defers=[]) (hnt:a.tmps.size=nt)
  (ht:∀j,B1 (E0 y p) (t j) (a.tmps.getD j undef)):Sim y.w y.F (B2t (E0 y p)) [] ⟨t,one e',nt,nx,[]⟩ (E0 y p) a:=by
 refine ⟨had,hnt,ht,A5k h hp hr hd,?_,.nil⟩
 refine ⟨fun b h=>h,fun b h=>.inl h,Nat.le_refl _,fun b _ _=>rfl,fun q hq _=>?_,rfl,rfl,rfl,fun q hq=>?_⟩
 ·by_cases h0:q=0
  ·subst h0
   intro hK;exact hK hq rfl
  ·simp [E0,h0] at hq
 ·cases hq
  refine ⟨by simp [E0],rfl,fun hk=>⟨rfl,?_⟩⟩
  obtain ⟨cs,ty,hc,_⟩:=h.ent p e hp hr;have hc' : (E0 y p).w.heap[(E0 y p).β 0]? = some (.cells cs ty (0,0)):=hc;refine ⟨cs,?_,?_⟩<;>simp [A7h,hc']

/-- The world has grown, no more. -/
theorem A6v {i:It} {as:List Act} {σ:St} {z:Ctx} {a:Act} (hm:Mem (E0 y p) (one (.fl [i]))) (hi:F2w i=true) (hs:Sim y.w y.F (B2t (E0 y p)) as σ z a) (hσ:σ.m 0=some (.fl [i])) :
  y.w.grownBy z.w none∧z.k 0 = .real∧z.β 0=y.β p:=by
 obtain ⟨hn0,hp1,hp2⟩:=hs.base.pin _ rfl;have hk:z.k 0 = .real:=hp1;obtain ⟨hβ,cs,hc,hsz⟩:=hp2 rfl;have hβ:z.β 0=y.β p:=hβ;refine ⟨⟨hs.base.os,hs.base.tape,hs.base.output,hs.base.size,fun b hb _=>?_⟩,hk,hβ⟩
 by_cases h0:b=y.β p
 ·subst h0
  obtain ⟨cs1,ty1,hc1,d1,d2,e1,⟨n1,g1⟩,hcat1⟩:=hm.ent 0 _ rfl rfl;obtain ⟨cs2,ty2,hc2,f1,f2,e2,⟨n2,g2⟩,hcat2⟩:=hs.mem.ent 0 _ hσ hk;have hc1:y.w.heap[y.β p]? = some (.cells cs1 ty1 (0,0)):=hc1;rw[hβ] at hc2 hc;have hb1:A7h (E0 y p)=(ty1,cs1.size):=by
   have hc1' : (E0 y p).w.heap[(E0 y p).β 0]? = some (.cells cs1 ty1 (0,0)):=hc1;simp [A7h,hc1']
  rw[hb1] at hc;have h1:=D6w hi g1 g2;have h2:d2=[]:=hcat1;have h3:f2=[]:=hcat2;have h4:cs1=cs2:=by
   rw[<-Array.toList_inj,e1,e2,h1,h2,h3]
  rw[hc2] at hc;have hty:ty2=ty1:=by injection hc with hc;injection hc
  rw[hc2,hc1,h4,hty]
 ·exact hs.base.keep b hb (fun _ he=>h0 he.symm)

/-- Slots that hang on the box alone. -/
def F8c:It->Bool
 | .ptr 0 _=>true
 | i=>O8 i
def F2e:SV->Bool
 | .v (.c i)=>F8c i
 | .top=>true
 | _=>false
def D6k:List SV->Bool
 | []=>true
 | s::l=>F2e s && D6k l

theorem F2f {z z' : Ctx} {s:SV} {v:Value} (h:F2e s=true) (hk:z'.k 0 = .real) (hβ:z'.β 0=z.β 0) (hd:B1 z s v):B1 z' s v:=by
 unfold F2e at h;split at h
 ·rename_i i
  obtain ⟨h1,d,h2⟩:=hd;refine ⟨h1,d,?_⟩
  unfold F8c at h;split at h
  ·cases d<;>(simp only[den] at h2 ⊢;exact ⟨hk,by rw[hβ];exact h2.2⟩)
  ·exact D0x h d _ h2
 ·trivial
 ·cases h

theorem E3m {tl:List Nat}:∀{svs:List SV},D6k svs=true->∀j,F2e (E1 .top tl svs j)=true:=by
 induction tl with
 | nil=>intro svs _ j;rfl
 | cons a tl ih=>
  intro svs h j
  cases svs with
  | nil=>rfl
  | cons s l=>
   simp only[D6k,Bool.and_eq_true] at h;simp only[E1];by_cases hj:j=a
   ·simp only[hj,if_true];exact h.1
   ·simp only[hj,if_false];exact ih h.2 j

/-- The next state of the iterator, in the world that a yield has left. -/
theorem C9p {z:Ctx} {nt nx nx' : Nat} {tl:List Nat} {svs:List SV} {ml:List Nat} {ens:List (Option En)} {w0:World} {F0:Nat->Prop} {K:Kp} {as:List Act} {a:Act} (hs:Sim w0 F0 K as (A5 nt tl svs ml ens nx [] []) z a) (hcap:D6k svs=true) (hds:K.ds=[])
  (hm:Mem y m) (hp:m p=some e) (hr:y.k p = .real) (hd:∀(cs:Array Value) ty,y.w.heap[y.β p]? = some (.cells cs ty (0,0))->D9 y e cs.toList->D9 (E0 y p) e' cs.toList) (hβ:z.β 0=y.β p) {dst:Nat} {b:Bool} (hdst:Nat.blt dst nt=true) :
  Sim y.w y.F (B2t (E0 y p)) as ⟨J7 (E1 .top tl svs) dst (.v (.c (.lit b))),one e',nt,nx',[]⟩ (E0 y p) (a.put (some dst) (.bool b)):=by
 have hfr:Frs z K.ds [] as:=hs.frs
 cases hfr
 have had:a.defers=[]:=hs.defers.trans hds;refine B8n hm hp hr hd (by simpa [Act.put] using had) (by have:=hs.nt;simp [Act.put];exact this) fun j=>?_
 have h0:=F2f (z' := E0 y p) (E3m hcap j) rfl hβ.symm (hs.t j);show B1 _ (J7 (E1 .top tl svs) dst (.v (.c (.lit b))) j) _;unfold J7;by_cases hj:j=dst
 ·subst hj
  simp only[if_true];have hlt:j<a.tmps.size:=by
   have h1:=hs.nt;have h2:a.tmps.size=nt:=h1;rw[h2];simpa [Nat.blt_eq] using hdst
  simp only[Act.put,Array.getD_eq_getD_getElem?,Array.getElem?_setIfInBounds,if_true,hlt,Option.getD_some];exact ⟨rfl,0,rfl⟩
 ·simp only[hj,if_false]
  have:(a.put (some dst) (.bool b)).tmps.getD j undef=a.tmps.getD j undef:=by
   simp [Act.put,Array.getD_eq_getD_getElem?,Ne.symm hj]
  rw[this];exact h0

theorem I2 {ρ:Option Nat} {Q:Exit->Act->World->Prop} {ι:Type} (I:ι->List Act->Act->World->Prop) (μ:ι->Nat) {k0 k:List KI} {c:Code} (hl:A5o k0=some (c,k))
  (round:∀i,(∀j,μ j<μ i->∀as b w,I j as b w->Wq P Q (.lp c::k) as .normal b w ρ)->∀as b w,I i as b w->Wq P Q (.code c :: .lp c::k) as .normal b w ρ) (i:ι) {as:List Act} {a:Act} {w:World} (hs:I i as a w) :
  Wq P Q k0 as .normal a w ρ:=by
 have hk0:k0 = .code (.loop c)::k:=by
  unfold A5o at hl;split at hl
  ·cases hl;rfl
  ·cases hl
 subst hk0;refine ⟨?_⟩
 have key:∀n i,μ i=n->∀as b w,I i as b w->wpL P (L8 ρ k) c (wpK P Q ρ k as) b w:=by
  intro n;induction n using Nat.strongRecOn with
  | _ n ih=>
   intro i hi as b w hsi;refine A4r ?_
   exact (round i (fun j hj as b w hsj=>⟨ih (μ j) (hi ▸ hj) j rfl as b w hsj⟩) as b w hsi).wp
 exact B4h (key _ i rfl as a w hs)

theorem D3t {fn:Func} {R:Ending->World->Prop} {w0:World} {F0:Nat->Prop} {K:Kp} {as:List Act} {σ:St} {z:Ctx} {a:Act} {env:Env} (hE:A6 P env) (hs:Sim w0 F0 K as σ z a) (hds:K.ds=[]) (hfr:σ.fr=[]) (hres:fn.results.toList=[])
  (hR:∀v,R (.returned v) z.w) {x:Exit} (hx:x = .ret∨x = .normal):bodyPost P fn R x a z.w:=by
 obtain ⟨v,hv,_⟩:=O5 hE hs.mem hs.t (r:=[]) (o:=[]) (by rw[hres];rfl) trivial
 have hd:a.defers=[]:=by
  have:=hs.defers
  rw[hfr] at this;exact this.trans hds
 rcases hx with rfl | rfl
 ·exact ⟨hd,v,hv,hR v⟩
 ·exact ⟨hd,v,hv,hR v⟩

/-! A call of yield at the top. -/
def I3:List KI->List KI
 | .ops o i d::k=>.ops o (i+1) d::k
 | k=>k
def F1r (k:List KI) (t:Nat->SV):Option (Option Nat×Operand×List Operand):=
 match k with
 | .ops ops i _::k=>
  match A0f k,ops[i]? with
  | false,some o=>
   match H9 ops.toList o t,o.op with
   | some true,.call c=>
    match c.callee with
    | .value f=>some (o.dst,f,c.args.toList)
    | _=>none
   | _,_=>none
  | _,_=>none
 | _=>none

theorem E2r {Q:Exit->Act->World->Prop} {k0:List KI} {w0:World} {F0:Nat->Prop} {K:Kp} {as:List Act} {σ:St} {z:Ctx} {a:Act} {dst:Option Nat} {f:Operand} {args:List Operand} (hy:F1r k0 σ.t=some (dst,f,args)) (hs:Sim w0 F0 K as σ z a) {l:Nat}
  (hf:σ.ev f = .v (.c (.val (.func (.yield l) #[] #[])))) {vs:List Value} (hv:args.map a.eval=vs) {R:World->Prop} {ans:Bool} (hY:YieldAt Fence.wide 0 P l vs.toArray z.w fun e W' => e = .returned (.bool ans)∧R W')
  (hK:∀W',R W' -> Wq P Q (I3 k0) as .normal (a.put dst (.bool ans)) W'):Wq P Q k0 as .normal a z.w:=by
 unfold F1r at hy;split at hy
 ·rename_i ops i dec k
  split at hy
  ·rename_i o hk hi
   split at hy
   ·rename_i c hw hop
    split at hy
    ·rename_i f2 hcal
     cases hy
     have hev:=A5f hs.t f;rw[hf] at hev;refine D6c hk hi (A3w hs.t hw) hop hcal (O9 hev).1 ?_ hK
     rw[<-hv] at hY;have e:(List.map a.eval c.args.toList).toArray=c.args.map a.eval:=by rw[<-Array.toList_map]
     rw[e] at hY;exact hY
    ·cases hy
   ·cases hy
  ·cases hy
 ·cases hy

theorem A6k {Q:Exit->Act->World->Prop} {k0:List KI} {w0:World} {F0:Nat->Prop} {K:Kp} {as:List Act} {σ:St} {z:Ctx} {a:Act} {dst:Option Nat} {f:Operand} {args:List Operand} (hy:F1r k0 σ.t=some (dst,f,args)) (hs:Sim w0 F0 K as σ z a) {l:Nat}
  (hf:σ.ev f = .v (.c (.val (.func (.yield l) #[] #[])))) {vs:List Value} (hv:args.map a.eval=vs) {R:World->Prop} (hY:YieldAt Fence.wide 0 P l vs.toArray z.w fun e W' => e = .returned (.bool true)∧R W')
  (hK:∀W',R W' -> Wq P Q (I3 k0) as .normal (a.put dst (.bool true)) W'):Wq P Q k0 as .normal a z.w:=E2r (ans:=true) hy hs hf hv hY hK

/-! A range over a function at the top. -/
def rfG:List KI->Operand
 | .code (.rangeFunc g _ _ _)::_=>g
 | _=>.tmp 0
def rfP:List KI->Array Tmp
 | .code (.rangeFunc _ p _ _)::_=>p
 | _=>#[]
def rfA:List KI->Code
 | .code (.rangeFunc _ _ c _)::_=>c
 | _=>.skip
def rfB:List KI->Code
 | .code (.rangeFunc _ _ _ c)::_=>c
 | _=>.skip
def rfR:List KI->List KI
 | .code (.rangeFunc _ _ _ _)::k=>k
 | _=>[]
def G5h:List KI->Bool
 | .code (.rangeFunc _ _ _ _)::k=>!A0f k
 | _=>false
theorem B5r {k:List KI} (h:G5h k=true):k = .code (.rangeFunc (rfG k) (rfP k) (rfA k) (rfB k))::rfR k∧A0f (rfR k)=false:=by
 unfold G5h at h;split at h
 ·rename_i k
  exact ⟨rfl,by show A0f k=false;simpa using h⟩
 ·cases h

/-! Functions that write into one row of their caller, with a range over a function within. -/
def RM (x:Ctx) (e' : En):Ending->World->Prop:=fun ε w' => ∃v y,ε = .returned v∧y.w=w' ∧ Tr x none y (one e')∧B1 y (.t []) v

theorem D4f {f:Nat} {fn:Func} {c:Code} {off len es:Nat} {e e' : En} {rest:List SV} (hf:P.funcs[f]? = some fn) (hb:fn.body=some c) (hlen:Nat.ble (rest.length+1) fn.ntmps=true)
  (h:∀(x:Ctx) (a:Act),(∀p,p≠0->x.k p = .no)->Mem x (one e)->Sim x.w x.F (B2t x) [] (C1j fn.ntmps off len es e rest) x a->Wq P (bodyPostM Fence.wide 0 P fn (RM x e')) [.code c] [] .normal a x.w):MuC P f off len es e rest e' := by
 intro x vs hk hm hden;refine A9u hf hb (h x _ hk hm ?_)
 have hl:=Nat.le_of_ble_eq_true hlen;have hn:x.k 0 ≠ .no:=fun h0=>by
  have:=(hm.dom 0).2 h0
  simp [one] at this
 refine ⟨rfl,by have:=A6n hden;simp at this;simp [C1j];omega,A0y hden _,hm,?_,.nil⟩
 refine ⟨fun b h=>h,fun b h=>.inl h,Nat.le_refl _,fun b _ _=>rfl,fun p hp _=>?_,rfl,rfl,rfl,fun q hq=>?_⟩
 ·by_cases h0:p=0
  ·subst h0
   intro hK;exact hK hp rfl
  ·rw[hk p h0] at hp;cases hp
 ·cases hq
  refine ⟨hn,rfl,fun hr=>⟨rfl,?_⟩⟩
  obtain ⟨cs,ty,hc,_⟩:=hm.ent 0 e rfl hr;refine ⟨cs,?_,?_⟩<;>simp [A7h,hc]

theorem E0y {env:Env} (hE:A6 P env) {fn:Func} {x0:Ctx} {e0:En} (hk:∀p,p≠0->x0.k p = .no) (hm0:Mem x0 (one e0)) (hres:fn.results.toList=[]) {D:Nat} {y:Ctx} {a0:Act} {σ1:St} {as0:List Act} (h1:Sim x0.w x0.F (B2t x0) as0 σ1 y a0) (hD:x0.w.heap.size<=D) (hF:¬y.F D)
  (hd:y.w.heap[D]? = some (.deferred (some []))) {σ2:St} {as:List Act} {z:Ctx} {b:Act} {e e' : En} (hfr:σ2.fr=[]) (hm2:σ2.m 0=some e) (hp:A4l e=true) (hconv:∀y cs,D9 y e cs->D9 y e' cs) (hfl:(∃l l',e = .fl l∧e' = .fl l')∨∃q q',e = .sq q∧e' = .sq q' ∧ q'.n=q.n)
  (g:Sim y.w y.F (A1z y (B2t x0) (A1h D)) as σ2 z b):bodyPostM Fence.wide 0 P fn (RM x0 e') .normal b z.w:=by
 obtain ⟨g1,g2,g3⟩:=h1.unmark rfl hD hF hd hfr g;refine B7l g1 g2 (.inr rfl) ?_
 have hmu:A7m env fn false 0 ⟨[],.normal,σ2⟩ []=some ([],e):=by
  simp [A7m,run,hres,hm2]
 exact (A8l hE hk hm0 hmu hp trivial hconv hfl g3).wp

end
end

section

section
variable {P:Program} {y:Ctx} {m:Nat->Option En} {p:Nat} {q:Sq}

theorem G3o {x:Ctx} {d:Nat} {v:Value} (h:den x d (.sl q) [v]):v.oneCell' = true:=by
 cases d with
 | zero=>simp [den] at h
 | succ d=>
  simp only[den,List.cons.injEq,and_true] at h;rcases h with ⟨a,cap,rfl,_⟩ | ⟨b,o,cap,rfl,_⟩<;>rfl

/-- What the box holds. -/
theorem E3i (h:Mem y m) (hp:m p=some (.fl [.sl q])) (hr:y.k p = .real):∃v,y.D (.sl q) [v]∧∀(cs:Array Value) ty,y.w.heap[y.β p]? = some (.cells cs ty (0,0))->D9 y (.fl [.sl q]) cs.toList->D9 (E0 y p) (.fl [.val v]) cs.toList:=by
 obtain ⟨cs,ty,hc,c1,c2,e,h1,h2⟩:=h.ent p _ hp hr;have h2:c2=[]:=h2;obtain ⟨v,hv⟩:∃v,c1=[v]:=by
  have:=B4l h1
  match c1,this with
  | [v],_=>exact ⟨v,rfl⟩
 rw[hv] at h1;refine ⟨v,h1,fun cs' ty' hc' _=>?_⟩
 rw[hc] at hc'
 have hcs:cs=cs' := by injection hc' with hc';injection hc'
 rw[<-hcs,e,hv,h2];obtain ⟨d,h1⟩:=h1;exact ⟨[v],[],rfl,⟨0,rfl,G3o h1⟩,rfl⟩

/-- What is data stays it while the world grows. -/
theorem C2d {y z:Ctx} (hg:y.w.grownBy z.w none) (hF:∀b,y.F b->z.F b) (hlt:∀b,y.F b->b<y.w.heap.size) {i:It} {vs:List Value} (hi:E3 i=true) (h:y.D i vs):z.D i vs:=by
 have h1:(⟨y.w,y.F,fun _=>.no,y.β⟩:Ctx).D i vs:=A3x (x:=y) (y:=⟨y.w,y.F,fun _=>.no,y.β⟩) rfl (fun _ h=>h) hi h
 have hext:Ext ⟨y.w,y.F,fun _=>.no,y.β⟩ ⟨z.w,z.F,fun _=>.no,z.β⟩:=
  ⟨hg.size,fun b hb=>⟨hF b hb,hg.block b (hlt b hb) (fun e=>by cases e)⟩,fun p hp=>absurd rfl hp,fun p hp=>(by cases hp),fun p hp=>(by cases hp)⟩
 exact A3x (x:=⟨z.w,z.F,fun _=>.no,z.β⟩) (y:=z) rfl (fun _ h=>h) hi (C7w hext _ _ h1)

def D6n (x:Ctx):List SV->List SV->Prop
 | [],[]=>True
 | s::l,s' :: l' => (∀v,B1 x s v->B1 x s' v)∧D6n x l l'
 | _,_=>False

theorem B2w {x:Ctx}:∀{tl:List Nat} {svs svs' : List SV},D6n x svs svs' -> ∀j v,B1 x (E1 .top tl svs j) v->B1 x (E1 .top tl svs' j) v
 | [],_,_,_,_,_,_=>trivial
 | _::_,[],[],_,_,_,_=>trivial
 | _::_,[],_::_,h,_,_,_=>h.elim
 | _::_,_::_,[],h,_,_,_=>h.elim
 | t::tl,s::l,s' :: l',h,j,v,hd=>by
  simp only[E1] at hd ⊢
  by_cases hj:j=t
  ·simp only[hj,if_true] at hd ⊢;exact h.1 v hd
  ·simp only[hj,if_false] at hd ⊢;exact B2w h.2 j v hd

/-- A slot told in other words. -/
theorem Sim.slots {w0:World} {F0:Nat->Prop} {K:Kp} {as:List Act} {nt nx:Nat} {tl:List Nat} {svs svs' : List SV} {ml:List Nat} {ens:List (Option En)} {ftl:List (List Nat)} {fsv:List (List SV×Nat)} {x:Ctx} {a:Act}
  (hs:Sim w0 F0 K as (A5 nt tl svs ml ens nx ftl fsv) x a) (h:D6n x svs svs'):Sim w0 F0 K as (A5 nt tl svs' ml ens nx ftl fsv) x a:=
 ⟨hs.defers,hs.nt,fun t=>B2w h t _ (hs.t t),hs.mem,hs.base,hs.frs⟩

theorem C8j {x:Ctx} {v:Value} {i:It} (hi:i.size=1) (h:x.D i [v]):∀u,B1 x (.v (.c (.val v))) u->B1 x (.v (.c i)) u:=by
 intro u hu;rw[(O9 hu).1];exact ⟨hi,h⟩

/-- A contract that leaves the world as it was. -/
theorem E4r {f:Nat} {args:List SV} {r:SV} (h:∀(x:Ctx) (vs:List Value),I0 x args vs->∃v,Calls P f vs.toArray x.w (fun e w' => e = .returned v∧w' = x.w)∧B1 x r v):FnD P f args r []:=by
 intro x vs hk hF hd;obtain ⟨v,hc,hv⟩:=h x vs hd;refine hc.mono fun e w' he=>?_
 obtain ⟨rfl,rfl⟩:=he;refine ⟨v,x,rfl,rfl,Tr.refl ⟨fun p=>⟨fun _=>hk p,fun _=>rfl⟩,fun p l hp=>(by cases hp),fun p s hp=>(by cases hp),fun p e hp=>(by cases hp),fun p q hp=>?_,fun p hp=>?_,hF⟩,hv⟩
 ·rw[hk p] at hp;cases hp
 ·rw[hk p] at hp;cases hp

/-! Functions with a range over a function within that return data. -/
def RF (x:Ctx) (r:SV) (es:List En):Ending->World->Prop:=fun e w' => ∃v y,e = .returned v∧y.w=w' ∧ Tr x none y (fun p=>es[p]?)∧B1 y r v

theorem A8b {f:Nat} {fn:Func} {c:Code} {args:List SV} {r:SV} {es:List En} (hf:P.funcs[f]? = some fn) (hb:fn.body=some c) (hlen:Nat.ble args.length fn.ntmps=true)
  (h:∀(x:Ctx) (a:Act),(∀p,x.k p = .no)->(∀b,x.F b->b<x.w.heap.size)->Sim x.w x.F Z8 [] (D6 fn.ntmps args) x a->Wq P (bodyPostM Fence.wide 0 P fn (RF x r es)) [.code c] [] .normal a x.w):FnD P f args r es:=by
 intro x vs hk hF hden;exact A9u hf hb (h x _ hk hF (C5f (Nat.le_of_ble_eq_true hlen) hk hF hden))

theorem B2p {env:Env} (hE:A6 P env) {fn:Func} {x0:Ctx} (hk:∀p,x0.k p = .no) (hF:∀b,x0.F b->b<x0.w.heap.size) {unroll:Bool} {n:Nat} {path:List Bool} {ps fz:List Nat} {ob:List Prop} {r rr:SV} {es:List En} {D:Nat} {y:Ctx} {a0:Act} {σ1 σ2:St} {as0 as:List Act} {z:Ctx} {b:Act}
  (h:C2 env fn unroll n ⟨[],.ret,σ2⟩ path ps fz=some (ob,r,es)) (ho:A3 ob) (hconv:∀y v,B1 y r v->B1 y rr v)
  (h1:Sim x0.w x0.F Z8 as0 σ1 y a0) (hD:x0.w.heap.size<=D) (hFD:¬y.F D) (hd:y.w.heap[D]? = some (.deferred (some []))) (hfr:σ2.fr=[])
  (g:Sim y.w y.F (A1z y Z8 (A1h D)) as σ2 z b):bodyPostM Fence.wide 0 P fn (RF x0 rr es) .ret b z.w:=by
 obtain ⟨g1,g2,g3⟩:=h1.unmark rfl hD hFD hd hfr g;refine B7l g1 g2 (.inl rfl) ?_
 exact (C7 hE hk hF h ho hconv g3).wp
end
end

section

variable {w0:World} {F0:Nat->Prop} {K:Kp} {as:List Act} {x:Ctx} {a:Act}

theorem D7m {p:Nat} (hno:x.k p = .no):Ext x (F9 x p):=
 ⟨Nat.le_refl _,fun _ h=>⟨h,rfl⟩,fun q hq=>by
  have:q≠p:=fun e=>hq (e ▸ hno)
  simp [F9,this],fun _ _=>rfl,fun _ _ cs _ h=>⟨cs,h,rfl⟩⟩
theorem P8 {p q:Nat} (h:(F9 x p).k q = .real):x.k q = .real:=by
 simp only[F9] at h;split at h
 ·cases h
 ·exact h

/-- Slots that hold what an empty row at p may be. -/
def E3w (p:Nat):List SV->List SV->Prop
 | [],[]=>True
 | s::l,s' :: l' => (s' = s∨∃es,s = .v (.c (.val (.slice none 0 0)))∧s' = .v (.c (.slc p 0 0 es)))∧E3w p l l'
 | _,_=>False
theorem C8i {p:Nat} (hk:x.k p = .nil):∀{svs svs' : List SV},E3w p svs svs' -> D6n x svs svs'
 | [],[],_=>trivial
 | [],_::_,h=>h.elim
 | _::_,[],h=>h.elim
 | s::l,s' :: l',h=>⟨fun v hd=>by
   rcases h.1 with e | ⟨es,e1,e2⟩
   ·rw[e];exact hd
   ·subst e1 e2
    exact D7n hk hd,C8i hk h.2⟩

theorem Sim.nilRow {nt nx:Nat} {tl:List Nat} {svs svs' : List SV} {ml ml' : List Nat} {ens ens' : List (Option En)} {ftl:List (List Nat)} {fsv:List (List SV×Nat)}
  (hs:Sim w0 F0 K as (A5 nt tl svs ml ens nx ftl fsv) x a) {p:Nat} (hp:E1 none ml ens p=none) (hp0:p≠0) {q:Sq} (hq:q.n=0) (hl:∀r,E1 none ml' ens' r=if r=p then some (.sq q) else E1 none ml ens r) (hc:E3w p svs svs') :
  Sim w0 F0 K as (A5 nt tl svs' ml' ens' nx ftl fsv) (F9 x p) a:=by
 have hm:=hs.mem;have hno:x.k p = .no:=(hm.dom p).1 hp;have hext:=D7m (x:=x) hno;have hself:(F9 x p).k p = .nil:=by simp [F9]
 have hoth:∀r,r≠p->(F9 x p).k r=x.k r:=fun r hr=>by simp [F9,hr]
 have hget:∀r,r≠p->E1 none ml' ens' r=E1 none ml ens r:=fun r hr=>by rw[hl,if_neg hr]
 have hgp:E1 none ml' ens' p=some (.sq q):=by rw[hl,if_pos rfl]
 refine ⟨hs.defers,hs.nt,fun t=>?_,?_,?_,hs.frs.ext hext⟩
 ·exact B2w (C8i hself hc) t _ (A1b hext (hs.t t))
 ·refine ⟨fun r=>?_,fun r l hr=>?_,fun r s hr hn=>?_,fun r e hr hrl=>?_,fun r s hr hs e=>hm.inj r s (P8 hr) (P8 hs) e,fun r hr=>hm.own r (P8 hr),fun b hb=>hm.fw b hb⟩
  ·show E1 none ml' ens' r=none↔(F9 x p).k r = .no
   by_cases e:r=p
   ·subst e;rw[hgp,hself]
    constructor<;>(intro h;cases h)
   ·rw[hget r e,hoth r e]
    exact hm.dom r
  ·have hr:E1 none ml' ens' r=some (.fl l):=hr
   by_cases e:r=p
   ·subst e;rw[hgp] at hr;cases hr
   ·rw[hget r e] at hr
    rw[hoth r e];exact hm.fl r l hr
  ·have hr:E1 none ml' ens' r=some (.sq s):=hr
   by_cases e:r=p
   ·subst e;rw[hgp] at hr;cases hr;exact hq
   ·rw[hget r e] at hr
    rw[hoth r e] at hn;exact hm.nil r s hr hn
  ·have hr:E1 none ml' ens' r=some e:=hr
   have e1:r≠p:=fun h=>by rw[h,hself] at hrl;cases hrl
   rw[hget r e1] at hr;obtain ⟨cs,ty,hc,hde⟩:=hm.ent r e hr (P8 hrl);exact ⟨cs,ty,hc,J9 hext hde⟩
 ·have hb:=hs.base
  refine ⟨hb.f0,hb.fn,hb.size,hb.keep,fun r hr=>hb.ownK r (P8 hr),hb.os,hb.tape,hb.output,fun r hr=>?_⟩
  obtain ⟨h1,h2,h3⟩:=hb.pin r hr;exact ⟨h1,by rw[hoth 0 (Ne.symm hp0)];exact h2,h3⟩
theorem D7a {r p:Nat} {e f:Option En} {q:Nat} (h:p≠q):E1 none [q,p] [e,f] r=if r=p then f else E1 none [q] [e] r:=by
 simp only[E1];by_cases h1:r=q
 ·subst h1
  rw[if_pos rfl,if_pos rfl,if_neg (Ne.symm h)]
 ·rw[if_neg h1,if_neg h1]

end

section

section
variable {w0:World} {F0:Nat->Prop} {K:Kp} {aq:List Act} {x:Ctx} {a:Act}

def D2w (p:Nat):List It->List It->Prop
 | [],[]=>True
 | i::l,i' :: l' => (i' = i∨(∃es,i = .val (.slice none 0 0)∧i' = .slc p 0 0 es)∨∃b,i = .lit b∧i' = .bool b)∧D2w p l l'
 | _,_=>False
theorem C2b {p:Nat} (hk:x.k p = .nil):∀{l l' : List It} {cs:List Value},D2w p l l' -> B8 x.D l cs->B8 x.D l' cs
 | [],[],_,_,h=>h
 | [],_::_,_,h,_=>h.elim
 | _::_,[],_,h,_=>h.elim
 | i::l,i' :: l',_,h,⟨c1,c2,e,h1,h2⟩=>by
  refine ⟨c1,c2,e,?_,C2b hk h.2 h2⟩
  rcases h.1 with e1 | ⟨es,e1,e2⟩ | ⟨b,e1,e2⟩
  ·rw[e1];exact h1
  ·subst e1 e2
   obtain ⟨d,hd⟩:=h1;have hv:c1=[Value.slice none 0 0]:=by cases d<;>exact hd.1
   exact ⟨0,.inl ⟨hk,rfl,rfl,hv⟩⟩
  ·subst e1 e2
   obtain ⟨d,hd⟩:=h1;exact ⟨d,by cases d<;>exact hd⟩

theorem Sim.nilBlk {nt nx:Nat} {tl:List Nat} {svs:List SV} {ml ml' : List Nat} {ens ens' : List (Option En)} {ftl:List (List Nat)} {fsv:List (List SV×Nat)}
  (hs:Sim w0 F0 K aq (A5 nt tl svs ml ens nx ftl fsv) x a) {p z:Nat} (hp:E1 none ml ens p=none) (hp0:p≠0) {q:Sq} (hq:q.n=0) {l l' : List It} (hz:E1 none ml ens z=some (.fl l)) (hc:D2w p l l')
  (hl:∀r,E1 none ml' ens' r=if r=p then some (.sq q) else if r=z then some (.fl l') else E1 none ml ens r) :
  Sim w0 F0 K aq (A5 nt tl svs ml' ens' nx ftl fsv) (F9 x p) a:=by
 have hm:=hs.mem;have hno:x.k p = .no:=(hm.dom p).1 hp;have hext:=D7m (x:=x) hno;have hself:(F9 x p).k p = .nil:=by simp [F9]
 have hoth:∀r,r≠p->(F9 x p).k r=x.k r:=fun r hr=>by simp [F9,hr]
 have hzp:z≠p:=fun e=>by rw[e,hp] at hz;cases hz
 have hget:∀r,r≠p->r≠z->E1 none ml' ens' r=E1 none ml ens r:=fun r hr hr2=>by rw[hl,if_neg hr,if_neg hr2]
 have hgp:E1 none ml' ens' p=some (.sq q):=by rw[hl,if_pos rfl]
 have hgz:E1 none ml' ens' z=some (.fl l'):=by rw[hl,if_neg hzp,if_pos rfl]
 refine ⟨hs.defers,hs.nt,fun t=>A1b hext (hs.t t),?_,?_,hs.frs.ext hext⟩
 ·refine ⟨fun r=>?_,fun r s hr=>?_,fun r s hr hn=>?_,fun r e hr hrl=>?_,fun r s hr hs e=>hm.inj r s (P8 hr) (P8 hs) e,fun r hr=>hm.own r (P8 hr),fun b hb=>hm.fw b hb⟩
  ·show E1 none ml' ens' r=none↔(F9 x p).k r = .no
   by_cases e:r=p
   ·subst e;rw[hgp,hself]
    constructor<;>(intro h;cases h)
   ·rw[hoth r e]
    by_cases e2:r=z
    ·subst e2
     rw[hgz];constructor
     ·intro h;cases h
     ·intro h;have h2:E1 none ml ens r=none:=(hm.dom r).2 h;rw[h2] at hz;cases hz
    ·rw[hget r e e2]
     exact hm.dom r
  ·have hr:E1 none ml' ens' r=some (.fl s):=hr
   by_cases e:r=p
   ·subst e;rw[hgp] at hr;cases hr
   ·rw[hoth r e]
    by_cases e2:r=z
    ·subst e2;exact hm.fl r l hz
    ·rw[hget r e e2] at hr
     exact hm.fl r s hr
  ·have hr:E1 none ml' ens' r=some (.sq s):=hr
   by_cases e:r=p
   ·subst e;rw[hgp] at hr;cases hr;exact hq
   ·by_cases e2:r=z
    ·subst e2;rw[hgz] at hr;cases hr
    ·rw[hget r e e2] at hr
     rw[hoth r e] at hn;exact hm.nil r s hr hn
  ·have hr:E1 none ml' ens' r=some e:=hr
   have e1:r≠p:=fun h=>by rw[h,hself] at hrl;cases hrl
   by_cases e2:r=z
   ·subst e2
    rw[hgz] at hr
    cases hr
    obtain ⟨cs,ty,hcc,hde⟩:=hm.ent r (.fl l) hz (P8 hrl);have h3:B8 (F9 x p).D l cs.toList:=J9 (e:=.fl l) hext hde;exact ⟨cs,ty,hcc,C2b hself hc h3⟩
   ·rw[hget r e1 e2] at hr
    obtain ⟨cs,ty,hcc,hde⟩:=hm.ent r e hr (P8 hrl);exact ⟨cs,ty,hcc,J9 hext hde⟩
 ·have hb:=hs.base
  refine ⟨hb.f0,hb.fn,hb.size,hb.keep,fun r hr=>hb.ownK r (P8 hr),hb.os,hb.tape,hb.output,fun r hr=>?_⟩
  obtain ⟨h1,h2,h3⟩:=hb.pin r hr;exact ⟨h1,by rw[hoth 0 (Ne.symm hp0)];exact h2,h3⟩
end
end

section

def F9b (x y:Ctx):List SV->List SV->Prop
 | [],[]=>True
 | s::l,s' :: l' => (∀v,B1 x s v->B1 y s' v)∧F9b x y l l'
 | _,_=>False
theorem C2t {x y:Ctx}:∀{tl:List Nat} {svs svs' : List SV},F9b x y svs svs' -> ∀j v,B1 x (E1 .top tl svs j) v->B1 y (E1 .top tl svs' j) v
 | [],_,_,_,_,_,_=>trivial
 | _::_,[],[],_,_,_,_=>trivial
 | _::_,[],_::_,h,_,_,_=>h.elim
 | _::_,_::_,[],h,_,_,_=>h.elim
 | t::tl,s::l,s' :: l',h,j,v,hd=>by
  simp only[E1] at hd ⊢
  by_cases hj:j=t
  ·simp only[hj,if_true] at hd ⊢;exact h.1 v hd
  ·simp only[hj,if_false] at hd ⊢;exact C2t h.2 j v hd
theorem D3a {x y:Ctx} {u:Value}:∀v,B1 x (.v (.c (.val u))) v->B1 y (.v (.c (.val u))) v:=fun v h=>⟨rfl,0,by obtain ⟨rfl,h1⟩:=O9 h;exact ⟨rfl,h1⟩⟩
theorem Z7 {x y:Ctx} {k:IntKind} {n:Int}:∀v,B1 x (.v (.c (.int k n))) v->B1 y (.v (.c (.int k n))) v:=fun v h=>by rw[K3 h];exact ⟨rfl,0,rfl⟩
theorem D3b {x y:Ctx} {u:Value} {q:Sq} (h:y.D (.sl q) [u]):∀v,B1 x (.v (.c (.vsl u q))) v->B1 y (.v (.c (.vsl u q))) v:=fun v hv=>by
 have e:=(D6b hv.2).1;simp only[List.cons.injEq,and_true] at e;subst e;exact ⟨rfl,F0r h⟩
theorem A4b {x y:Ctx} {s:SV}:∀v,B1 x s v->B1 y .top v:=fun _ _=>trivial
theorem D2z {z y:Ctx} {q:Nat} (hβ:z.β 0=y.β q):∀v,B1 z (.v (.c (.ptr 0 0))) v->B1 (E0 y q) (.v (.c (.ptr 0 0))) v:=fun v h=>by
 obtain ⟨_,rfl⟩:=A7g h;exact ⟨rfl,0,rfl,by show _=[Value.pointer (some ⟨y.β q,0,none⟩)];rw[hβ]⟩

section
variable {P:Program} {y:Ctx} {m:Nat->Option En} {q:Nat} {e e' : En}
/-- The same, where a slot holds what a yield has answered. -/
theorem B8m {z:Ctx} {nt nx nx' : Nat} {tl:List Nat} {svs svs' : List SV} {ml:List Nat} {ens:List (Option En)} {w0:World} {F0:Nat->Prop} {K:Kp} {as:List Act} {a:Act} (hs:Sim w0 F0 K as (A5 nt tl svs ml ens nx [] []) z a) (hds:K.ds=[])
  (hm:Mem y m) (hp:m q=some e) (hr:y.k q = .real) (hd:∀(cs:Array Value) ty,y.w.heap[y.β q]? = some (.cells cs ty (0,0))->D9 y e cs.toList->D9 (E0 y q) e' cs.toList) (hc:F9b z (E0 y q) svs svs') {dst:Nat} {b:Bool} (hdst:Nat.blt dst nt=true) :
  Sim y.w y.F (B2t (E0 y q)) as ⟨J7 (E1 .top tl svs') dst (.v (.c (.lit b))),one e',nt,nx',[]⟩ (E0 y q) (a.put (some dst) (.bool b)):=by
 have hfr:Frs z K.ds [] as:=hs.frs
 cases hfr
 have had:a.defers=[]:=hs.defers.trans hds;refine B8n hm hp hr hd (by simpa [Act.put] using had) (by have:=hs.nt;simp [Act.put];exact this) fun j=>?_
 have h0:=C2t hc j _ (hs.t j);show B1 _ (J7 (E1 .top tl svs') dst (.v (.c (.lit b))) j) _;unfold J7;by_cases hj:j=dst
 ·subst hj
  simp only[if_true];have hlt:j<a.tmps.size:=by
   have h1:=hs.nt;have h2:a.tmps.size=nt:=h1;rw[h2];simpa [Nat.blt_eq] using hdst
  simp only[Act.put,Array.getD_eq_getD_getElem?,Array.getElem?_setIfInBounds,if_true,hlt,Option.getD_some];exact ⟨rfl,0,rfl⟩
 ·simp only[hj,if_false]
  have:(a.put (some dst) (.bool b)).tmps.getD j undef=a.tmps.getD j undef:=by
   simp [Act.put,Array.getD_eq_getD_getElem?,Ne.symm hj]
  rw[this];exact h0
end
end

section

def D6v:List It->Bool
 | []=>true
 | i::l=>F2w i && D6v l
theorem C8e {x y:Ctx}:∀{l:List It} {cs us:List Value},D6v l=true->B8 x.D l cs->B8 y.D l us->cs=us
 | [],_,_,_,h1,h2=>by
  have h1:_=[]:=h1;have h2:_=[]:=h2;rw[h1,h2]
 | i::l,_,_,h,⟨c1,c2,e1,⟨d1,g1⟩,r1⟩,⟨u1,u2,e2,⟨d2,g2⟩,r2⟩=>by
  simp only[D6v,Bool.and_eq_true] at h;rw[e1,e2,D6w h.1 g1 g2,C8e h.2 r1 r2]

section
variable {y:Ctx} {p:Nat}
/-- The world has grown, no more. -/
theorem B0n {l:List It} {as:List Act} {σ:St} {z:Ctx} {a:Act} (hm:Mem (E0 y p) (one (.fl l))) (hi:D6v l=true) (hs:Sim y.w y.F (B2t (E0 y p)) as σ z a) (hσ:σ.m 0=some (.fl l)) :
  y.w.grownBy z.w none∧z.k 0 = .real∧z.β 0=y.β p:=by
 obtain ⟨hn0,hp1,hp2⟩:=hs.base.pin _ rfl;have hk:z.k 0 = .real:=hp1;obtain ⟨hβ,cs,hc,hsz⟩:=hp2 rfl;have hβ:z.β 0=y.β p:=hβ;refine ⟨⟨hs.base.os,hs.base.tape,hs.base.output,hs.base.size,fun b hb _=>?_⟩,hk,hβ⟩
 by_cases h0:b=y.β p
 ·subst h0
  obtain ⟨cs1,ty1,hc1,g1⟩:=hm.ent 0 _ rfl rfl;obtain ⟨cs2,ty2,hc2,g2⟩:=hs.mem.ent 0 _ hσ hk;have hc1:y.w.heap[y.β p]? = some (.cells cs1 ty1 (0,0)):=hc1;rw[hβ] at hc2 hc;have hb1:A7h (E0 y p)=(ty1,cs1.size):=by
   have hc1' : (E0 y p).w.heap[(E0 y p).β 0]? = some (.cells cs1 ty1 (0,0)):=hc1;simp [A7h,hc1']
  rw[hb1] at hc;have h4:cs1=cs2:=by
   rw[<-Array.toList_inj];exact C8e hi g1 g2
  rw[hc2] at hc;have hty:ty2=ty1:=by injection hc with hc;injection hc
  rw[hc2,hc1,h4,hty]
 ·exact hs.base.keep b hb (fun _ he=>h0 he.symm)
/-- A captured block of a slice and two numbers, seen by the iterator; what the slice is. -/
theorem B5k {v:Value} {s:Sq} {k j:IntKind} {a b:Int} (cs:Array Value) (hc:D9 y (.fl [.vsl v s,.int k a,.int j b]) cs.toList):D9 (E0 y p) (.fl [.vsl v s,.int k a,.int j b]) cs.toList:=by
 obtain ⟨c1,c2,e,h1,c3,c4,e2,h2,c5,c6,e3,h3,h4⟩:=hc;exact ⟨c1,c2,e,A3x (x:=y) (y:=E0 y p) rfl (fun _ h=>h) rfl h1,c3,c4,e2,A3x (x:=y) (y:=E0 y p) rfl (fun _ h=>h) rfl h2,c5,c6,e3,A3x (x:=y) (y:=E0 y p) rfl (fun _ h=>h) rfl h3,h4⟩
theorem C4l {m:Nat->Option En} {v:Value} {s:Sq} {l:List It} (hm:Mem y m) (hp:m p=some (.fl (.vsl v s::l))) (hr:y.k p = .real):(E0 y p).D (.sl s) [v]:=by
 obtain ⟨cs,ty,_,c1,c2,_,h1,_⟩:=hm.ent p _ hp hr;obtain ⟨e,h2⟩:=D6b h1;rw[e] at h2;exact A3x (x:=y) (y:=E0 y p) rfl (fun _ h=>h) rfl h2
end
section
variable {w0:World} {F0:Nat->Prop} {K:Kp} {as:List Act} {x:Ctx} {a:Act}
/-- A block's parts, told otherwise. -/
theorem Sim.reBlkG {nt nx:Nat} {tl:List Nat} {svs:List SV} {ml:List Nat} {ens ens' : List (Option En)} {ftl:List (List Nat)} {fsv:List (List SV×Nat)}
  (hs:Sim w0 F0 K as (A5 nt tl svs ml ens nx ftl fsv) x a) {z:Nat} {l l' : List It} (hz:E1 none ml ens z=some (.fl l)) (hc:∀(cs:Array Value) (ty:TypeId),x.w.heap[x.β z]? = some (.cells cs ty (0,0))->B8 x.D l cs.toList->B8 x.D l' cs.toList)
  (hl:∀r,E1 none ml ens' r=if r=z then some (.fl l') else E1 none ml ens r):Sim w0 F0 K as (A5 nt tl svs ml ens' nx ftl fsv) x a:=by
 have hm:=hs.mem;have hget:∀r,r≠z->E1 none ml ens' r=E1 none ml ens r:=fun r hr=>by rw[hl,if_neg hr]
 have hgz:E1 none ml ens' z=some (.fl l'):=by rw[hl,if_pos rfl]
 refine ⟨hs.defers,hs.nt,hs.t,?_,hs.base,hs.frs⟩
 refine ⟨fun r=>?_,fun r s hr=>?_,fun r s hr hn=>?_,fun r e hr hrl=>?_,hm.inj,hm.own,hm.fw⟩
 ·show E1 none ml ens' r=none↔x.k r = .no
  by_cases e:r=z
  ·subst e
   rw[hgz];constructor
   ·intro h;cases h
   ·intro h;have h2:E1 none ml ens r=none:=(hm.dom r).2 h;rw[h2] at hz;cases hz
  ·rw[hget r e]
   exact hm.dom r
 ·have hr:E1 none ml ens' r=some (.fl s):=hr
  by_cases e:r=z
  ·subst e;exact hm.fl r l hz
  ·rw[hget r e] at hr
   exact hm.fl r s hr
 ·have hr:E1 none ml ens' r=some (.sq s):=hr
  by_cases e:r=z
  ·subst e;rw[hgz] at hr;cases hr
  ·rw[hget r e] at hr
   exact hm.nil r s hr hn
 ·have hr:E1 none ml ens' r=some e:=hr
  by_cases e2:r=z
  ·subst e2
   rw[hgz] at hr
   cases hr
   obtain ⟨cs,ty,hcc,hde⟩:=hm.ent r (.fl l) hz hrl;have h3:B8 x.D l cs.toList:=hde;exact ⟨cs,ty,hcc,hc _ _ hcc h3⟩
  ·rw[hget r e2] at hr
   exact hm.ent r e hr hrl
/-- A block whose first part is a slice: it has a value. -/
theorem Sim.vslBlk {nt nx:Nat} {tl:List Nat} {svs:List SV} {ml:List Nat} {ens:List (Option En)} {ftl:List (List Nat)} {fsv:List (List SV×Nat)}
  (hs:Sim w0 F0 K as (A5 nt tl svs ml ens nx ftl fsv) x a) {z:Nat} {q:Sq} {l:List It} (hz:E1 none ml ens z=some (.fl (.sl q::l))) :
  ∃v,∀ens',(∀r,E1 none ml ens' r=if r=z then some (.fl (.vsl v q::l)) else E1 none ml ens r)->Sim w0 F0 K as (A5 nt tl svs ml ens' nx ftl fsv) x a:=by
 obtain ⟨cs,ty,hc,c1,c2,e,h1,h2⟩:=hs.mem.ent z _ hz (hs.mem.fl z _ hz);obtain ⟨v,hv⟩:∃v,c1=[v]:=by
  have:=B4l h1
  match c1,this with
  | [v],_=>exact ⟨v,rfl⟩
 subst hv;refine ⟨v,fun ens' hl=>hs.reBlkG hz (fun cs' ty' hc' _=>?_) hl⟩
 rw[hc] at hc'
 have hcs:cs=cs' := by injection hc' with hc';injection hc'
 rw[<-hcs];exact ⟨[v],c2,e,F0r h1,h2⟩
end
end

section

section
variable {P:Program} {w0:World} {F0:Nat->Prop} {K:Kp} {as:List Act} {env:Env} {dec:List (Nat×Bool)} {ops:Array Oper} {Q:Exit->Act->World->Prop}

/-- Those ahead of the call and those behind it. -/
structure C4e (ops:Array Oper) (c:Nat) (r:List (Nat×Oper)×List (Nat×Oper)×St):Prop where
 s1:r.1.Pairwise fun a b=>a.1<b.1
 t1:∀i o,(i,o)∈r.1->ops[i]? = some o∧i≠c
 s2:r.2.1.Pairwise fun a b=>a.1<b.1
 t2:∀i o,(i,o)∈r.2.1->ops[i]? = some o∧i≠c
 part:∀i,i<ops.size->i≠c->((∃o,(i,o)∈r.2.1)↔¬ ∃o,(i,o)∈r.1)

theorem Rem.len {anc:List Nat} {c:Nat} {listed:Array Bool} {r1 r2:List (Nat×Oper)} (h:Rem ops anc c listed r1) (g:Rem ops anc c listed r2):r1.length=r2.length:=by
 have nd:∀{r:List (Nat×Oper)},r.Pairwise (fun a b=>a.1<b.1)->r.Nodup:=fun h=>h.imp fun {a b} h e=>by rw[e] at h;omega
 have sub:∀{r1 r2:List (Nat×Oper)},Rem ops anc c listed r1->Rem ops anc c listed r2->∀q∈r1,q∈r2:=by
  intro r1 r2 h g q hq;have hio:=h.there q.1 q.2 hq;have hlt:q.1<ops.size:=(Array.getElem?_eq_some_iff.1 hio).1;rcases (g.left q.1 hlt).1 ((h.left q.1 hlt).2 (.inl ⟨q.2,hq⟩)) with ⟨o,ho⟩ | hc
  ·have:=g.there q.1 o ho
   rw[hio] at this
   cases this
   exact ho
  ·have:=h.small q.1 q.2 hq;omega
 exact ((List.perm_ext_iff_of_nodup (nd h.sorted) (nd g.sorted)).2 fun q=>⟨sub h g q,sub g h q⟩).length_eq

theorem D3o {anc:List Nat} {c i0:Nat} {o0:Oper} {rest:List (Nat×Oper)} {listed:Array Bool} (hget:∀i o,ops[i]? = some o->P2 i o=true∧anc.getD i 0=A3e anc o) (hr:Rem ops anc c listed ((i0,o0)::rest)):i0∈Region.ready .any ops listed:=by
 have hio0:ops[i0]? = some o0:=hr.there i0 o0 (by simp)
 have hlt0:i0<ops.size:=(Array.getElem?_eq_some_iff.1 hio0).1;have hi0c:i0<c:=hr.small i0 o0 (by simp)
 refine mem_ready.2 ⟨(hr.left i0 hlt0).2 (.inl ⟨o0,by simp⟩),o0,hio0,fun e he hb=>?_⟩
 have hedge:=(hget i0 o0 hio0).1;unfold P2 at hedge;have he' := List.all_eq_true.1 hedge e (Array.mem_toList_iff.2 he);simp only[hb,Bool.not_true,Bool.false_or] at he'
 have hlt' : e.on<i0:=by simpa using he'
 have hnot:¬listed.getD e.on true=false:=by
  rw[hr.left e.on (by omega)]
  rintro (⟨o',ho'⟩ | h)
  ·rcases List.mem_cons.1 ho' with h | h
   ·cases h;omega
   ·have:=(List.pairwise_cons.1 hr.sorted).1 _ h
    simp only at this;omega
  ·omega
 rw[A0p] at hnot
 cases hh:listed.getD e.on false with
 | true=>rfl
 | false=>exact absurd ⟨by rw[hr.size];omega,hh⟩ hnot

theorem B4y {anc:List Nat} {lo c i:Nat} {o:Oper} {D:List (Nat×Oper)} {listed:Array Bool} {σ σ' : St} {ob:List Prop} (hs:D.Pairwise fun a b=>a.1<b.1) (ht:∀i o,(i,o)∈D->ops[i]? = some o∧i≠c) (hcf:E2u env ops anc [] fun i=>Nat.beq i c)
  (hio:ops[i]? = some o) (hanc:∀j,(anc.getD i 0).testBit j=true->listed.getD j false=true) (hiu:listed.getD i false=false) (hsz:i<listed.size) (hmem:(i,o)∈D)
  (hd:G9 env dec ops.toList anc [] [] lo (D.filter fun q=>!(listed.getD q.1 false)) σ=some (ob,σ')) (ho:A3 ob) :
  ∃ob1 ob2 σ1,A0a env (alF lo (anc.getD i 0) (lo+16*i) none) dec ops.toList (lo+16*i) o σ=some (ob1,σ1)∧A3 ob1∧G9 env dec ops.toList anc [] [] lo (D.filter fun q=>!((listed.setIfInBounds i true).getD q.1 false)) σ1=some (ob2,σ')∧A3 ob2:=by
 have nb:∀j,j≠c->Nat.beq j c=false:=fun j h=>by
  cases e:Nat.beq j c with
  | false=>rfl
  | true=>exact absurd (Nat.eq_of_beq_eq_true e) h
 have hmf:(i,o)∈D.filter fun q=>!(listed.getD q.1 false):=List.mem_filter.2 ⟨hmem,by simp only[hiu];rfl⟩
 obtain ⟨pre,post,hrem⟩:=List.append_of_mem hmf;have hsub:=List.filter_sublist (p:=fun q:Nat×Oper=>!(listed.getD q.1 false)) (l:=D)
 have hsf:=hs.sublist hsub;rw[hrem] at hsf hd;have hsrt:=List.pairwise_append.1 hsf;have inD:∀q∈pre++(i,o)::post,q∈D∧listed.getD q.1 false=false:=fun q hq=>by
  rw[<-hrem] at hq;have:=List.mem_filter.1 hq
  exact ⟨this.1,by simpa using this.2⟩
 have hne:∀q∈pre++post,q.1≠i:=by
  intro q hq e;rcases List.mem_append.1 hq with h | h
  ·have:=hsrt.2.2 q h (i,o) (by simp);simp only at this;omega
  ·have:=(List.pairwise_cons.1 hsrt.2.1).1 q h;simp only at this;omega
 have hpre:∀q∈pre,q.1<i∧(anc.getD i 0).testBit q.1=false∧P4 env ops (([]:List (Option (List Nat))).getD q.1 none) (([]:List (Option (List Nat))).getD i none) q.2 o=false:=by
  intro q hq;have hqi:q.1<i:=hsrt.2.2 q hq (i,o) (by simp)
  obtain ⟨hqD,hqu⟩:=inD q (List.mem_append_left _ hq);have hbit:(anc.getD i 0).testBit q.1=false:=by
   cases hh:(anc.getD i 0).testBit q.1 with
   | false=>rfl
   | true=>have:=hanc q.1 hh;rw[hqu] at this;cases this
  obtain ⟨hq1,hq2⟩:=ht q.1 q.2 hqD;exact ⟨hqi,hbit,(hcf i o q.1 q.2 hio hq1 hqi (nb i (ht i o hmem).2) (nb q.1 hq2)).resolve_left (by rw[hbit];simp)⟩
 obtain ⟨ob1,ob2,σ1,_,g1,g2,g3,g4⟩:=A2t hpre hd ho;refine ⟨ob1,ob2,σ1,g1,g2,?_,g4⟩
 have e:(D.filter fun q=>!((listed.setIfInBounds i true).getD q.1 false))=pre++post:=by
  have e1:(D.filter fun q=>!((listed.setIfInBounds i true).getD q.1 false))=(D.filter fun q=>!(listed.getD q.1 false)).filter fun q=>decide (q.1≠i):=by
   rw[List.filter_filter];refine List.filter_congr fun q _=>?_
   by_cases h:q.1=i
   ·have:(listed.setIfInBounds i true).getD q.1 false=true:=by rw[h];simp [hsz]
    rw[this];simp [h]
   ·rw[getD_set_ne false (Ne.symm h)]
    simp [h]
  rw[e1,hrem,List.filter_append,List.filter_cons,if_neg (by simp),<-List.filter_append]
  exact List.filter_eq_self.2 fun q hq=>by simpa using hne q hq
 rw[e];exact g3

theorem D3g (ρ:Option Nat) (hE:A6 P env) {anc:List Nat} {lo c:Nat} {oc:Oper} (hget:∀i o,ops[i]? = some o->P2 i o=true∧anc.getD i 0=A3e anc o) (hcf:E2u env ops anc [] fun i=>Nat.beq i c) (hcc:ops[c]? = some oc)
    {runs:List (List (Nat×Oper)×List (Nat×Oper)×St)} (hD:∀r∈runs,C4e ops c r)
    (hcov:∀b:Nat->Bool,(∀i,i<ops.size->b i=true->∀j,(anc.getD i 0).testBit j=true->b j=true)->b c=false->(∀j,(anc.getD c 0).testBit j=true->b j=true)->∃r∈runs,∀i,i<ops.size->(b i=true↔∃o,(i,o)∈r.1))
    (hmax:∃r∈runs,∀i o,ops[i]? = some o->i≠c->(anc.getD i 0).testBit c=false->(i,o)∈r.1)
    (hK:∀r∈runs,∀y a',Sim w0 F0 K as r.2.2 y a' -> wpOpIn (G6 ρ) 0 P ops Q c (fun a w=>∀listed,Rem ops anc ops.size listed r.2.1->wpAnyIn (G6 ρ) 0 P .any ops Q r.2.1.length listed a w) a' y.w) :
    ∀(fuel:Nat) (rem:List (Nat×Oper)) (listed:Array Bool) (σ:St) (x:Ctx) (a:Act),rem.length=fuel->Rem ops anc ops.size listed rem->listed.getD c true=false ->
      (∀r∈runs,(∀i,i<ops.size->listed.getD i false=true->∃o,(i,o)∈r.1)->∃ob,G9 env dec ops.toList anc [] [] lo (r.1.filter fun q=>!(listed.getD q.1 false)) σ=some (ob,r.2.2)∧A3 ob) ->
      Sim w0 F0 K as σ x a->wpAnyIn (G6 ρ) 0 P .any ops Q fuel listed a x.w:=by
  have hc:c<ops.size:=(Array.getElem?_eq_some_iff.1 hcc).1;intro fuel;induction fuel with
  | zero=>
    intro rem listed σ x a hl hr hcu _ _;have hnil:rem=[]:=List.eq_nil_of_length_eq_zero hl;subst hnil;rcases (hr.left c hc).1 hcu with ⟨o,ho⟩ | h
    · cases ho
    · omega
  | succ fuel ih=>
    intro rem listed σ x a hl hr hcu hruns hs;obtain ⟨hcsz,hcf0⟩:=A0p.1 hcu;refine ⟨fun hnone=>?_,fun i hi=>?_⟩
    · exfalso
      cases rem with
      | nil=>simp at hl
      | cons q rest=>
        have:=D3o hget hr
        rw[hnone] at this
        cases this
    obtain ⟨h0,o,hio,hall⟩:=mem_ready.1 hi;have hlt:i<ops.size:=(Array.getElem?_eq_some_iff.1 hio).1;have hanc:=A6y hr (hget i o hio).2 hall;obtain ⟨hisz,hiu⟩:=A0p.1 h0;rcases (hr.left i hlt).1 h0 with ⟨o',ho'⟩ | h
    case inr=>omega
    have hoo:o' = o:=by have:=hr.there i o' ho';rw[hio] at this;cases this;rfl
    subst hoo;obtain ⟨pre,post,hrem⟩:=List.append_of_mem ho';subst hrem;have hsrt:=List.pairwise_append.1 hr.sorted;have hr' := hr.step hsrt hlt hanc;have hl' : (pre++post).length=fuel:=by simp only[List.length_append,List.length_cons] at hl ⊢;omega
    by_cases hic:i=c
    · subst hic
      obtain ⟨r,hrm,hb⟩:=hcov (fun j=>listed.getD j false) hr.closed hcf0 hanc
      obtain ⟨ob,hd,_⟩:=hruns r hrm fun j hj h=>(hb j hj).1 h
      have hnil:(r.1.filter fun q=>!(listed.getD q.1 false))=[]:=by
        refine List.filter_eq_nil_iff.2 fun q hq=>?_
        have hq1:=((hD r hrm).t1 q.1 q.2 hq).1;have:=(hb q.1 (Array.getElem?_eq_some_iff.1 hq1).1).2 ⟨q.2,hq⟩
        rw[show listed.getD q.1 false=true from this]
        simp
      rw[hnil] at hd;simp only[G9,Option.some.injEq,Prod.mk.injEq] at hd;have hσ:σ=r.2.2:=hd.2;refine wpOpIn_mono (fun a' w' h' => ?_) (hK r hrm x a (by rw[<-hσ];exact hs))
      have hR:Rem ops anc ops.size (listed.setIfInBounds i true) r.2.1:=by
        refine ⟨(hD r hrm).s2,fun j oj hj=>((hD r hrm).t2 j oj hj).1,fun j oj hj=>(Array.getElem?_eq_some_iff.1 ((hD r hrm).t2 j oj hj).1).1,hr'.size,fun j hj=>?_,hr'.closed⟩
        by_cases hji:j=i
        · subst hji
          constructor
          · intro h;simp [hcsz] at h
          · rintro (⟨oj,hoj⟩ | h)
            · exact absurd rfl ((hD r hrm).t2 j oj hoj).2
            · omega
        · rw[getD_set_ne true (Ne.symm hji),A0p,(hD r hrm).part j hj hji,<-hb j hj]
          constructor
          · rintro ⟨_,h⟩
            exact .inl (by rw[h];simp)
          · rintro (h | h)
            · exact ⟨by rw[hr.size];exact hj,by simpa using h⟩
            · omega
      have:=h' _ hR
      rw[hR.len hr',hl'] at this;exact this
    · obtain ⟨r0,hr0m,hr0⟩:=hmax
      have below:∀j,j<ops.size->listed.getD j false=true->∃oj,(j,oj)∈r0.1:=by
        intro j hj hlj;refine ⟨ops[j],hr0 j _ (Array.getElem?_eq_getElem hj) (fun e=>by rw[e,hcf0] at hlj;cases hlj) ?_⟩
        cases hh:(anc.getD j 0).testBit c with
        | false=>rfl
        | true=>have:=hr.closed j hj hlj c hh;rw[hcf0] at this;cases this
      obtain ⟨ob0,hd0,ho0⟩:=hruns r0 hr0m below;have hir0:(i,o')∈r0.1:=hr0 i o' hio hic (by
        cases hh:(anc.getD i 0).testBit c with
        | false=>rfl
        | true=>have:=hanc c hh;rw[hcf0] at this;cases this)
      obtain ⟨ob1,_,σ1,g1,g2,_,_⟩:=B4y (hD r0 hr0m).s1 (hD r0 hr0m).t1 hcf hio hanc hiu hisz hir0 hd0 ho0;refine B3j ρ hE hs hio g1 g2 (fun q h=>(C4f h).1) fun y a' hs' => ?_
      refine ih (pre++post) _ σ1 y a' hl' hr' (by rw[getD_set_ne true hic];exact hcu) (fun r hrm hsub=>?_) hs'
      obtain ⟨ob,hd,ho⟩:=hruns r hrm fun j hj hlj=>hsub j hj (getD_set_true hlj)
      obtain ⟨oi,hoi⟩:=hsub i hlt (by simp [hisz])
      have hoi' : oi=o' := by have:=((hD r hrm).t1 i oi hoi).1;rw[hio] at this;cases this;rfl
      subst hoi'
      obtain ⟨ob1',ob2',σ1',k1,k2,k3,k4⟩:=B4y (hD r hrm).s1 (hD r hrm).t1 hcf hio hanc hiu hisz hoi hd ho;rw[g1] at k1
      cases k1
      exact ⟨ob2',k3,k4⟩

theorem D1z {F:Fence} {n:Nat} {o:Oper} {a:Act} {next A:Act->World->Prop} {r:Result Next}:o.uponIn F n P a next (Exit.then A Q) r=o.uponIn F n P a next Q r:=by
 cases r with
 | ok v w=>cases v<;>rfl
 | halt e w=>cases e<;>rfl

/-- One walk for each set that may stand ahead of the call. -/
theorem Wq.split {ρ:Option Nat} {x:Ctx} {a:Act} (hE:A6 P env) {id c:Nat} {oc:Oper} {σ:St} {k:List KI} (hs:Sim w0 F0 K as σ x a) (hok:A2f env ops (X1 ops.toList []) c ops.toList 0=true) (hcc:ops[c]? = some oc) (hg:oc.guard=none)
    {runs:List (List (Nat×Oper)×List (Nat×Oper)×St)} (hD:∀r∈runs,C4e ops c r)
    (hcov:∀b:Nat->Bool,(∀i,i<ops.size->b i=true->∀j,((X1 ops.toList []).getD i 0).testBit j=true->b j=true)->b c=false->(∀j,((X1 ops.toList []).getD c 0).testBit j=true->b j=true)->∃r∈runs,∀i,i<ops.size->(b i=true↔∃o,(i,o)∈r.1))
    (hmax:∃r∈runs,∀i o,ops[i]? = some o->i≠c->((X1 ops.toList []).getD i 0).testBit c=false->(i,o)∈r.1)
    (hrun:∀r∈runs,∃ob,G9 env [] ops.toList (X1 ops.toList []) [] [] σ.nx r.1 σ=some (ob,r.2.2)∧A3 ob)
    (h:∀r∈runs,∀y a',Sim w0 F0 K as r.2.2 y a' -> Wq P Q (.ops (ops.extract 0 (c+1)) c [] :: .any ops c r.2.1::k) as .normal a' y.w ρ) :
    Wq P Q (.code (.region id ops true)::k) as .normal a x.w ρ:=by
  refine ⟨?_⟩
  have hc:c<ops.size:=(Array.getElem?_eq_some_iff.1 hcc).1;obtain ⟨hget,hcf⟩:=B0d hok;refine wpIn_region_any hE.mixed ?_
  refine D3g (x:={ x with w:={ x.w with drawn:=x.w.drawn+1 } }) (dec:=[]) (lo:=σ.nx) (L8 ρ k) hE hget hcf hcc hD hcov hmax (fun r hr y a' hs' => ?_) ops.size (R7 0 ops.toList) _ σ a (by simp [A9m]) ?_ (by simp [hc]) (fun r hr _=>?_) hs.drew
  · have h1:=(h r hr y a' hs').wp
    have h1:wpOpsIn (G6 (L8 ρ k)) 0 P (ops.extract 0 (c+1)) (wpK P Q ρ (.any ops c r.2.1::k) as) (List.range' c ((ops.extract 0 (c+1)).size-c)) a' y.w:=h1;have hsz:(ops.extract 0 (c+1)).size-c=1:=by simp;omega
    have hge:(ops.extract 0 (c+1))[c]? = some oc:=by
      rw[Array.getElem?_extract_of_lt (by omega)]
      obtain ⟨h1,h2⟩:=Array.getElem?_eq_some_iff.1 hcc;simpa using h2
    rw[hsz,List.range'_one,wpOpsIn_cons] at h1;unfold wpOpIn at h1 ⊢
    rw[hge] at h1;rw[hcc];have hw:∀y,Region.wanted oc y=true:=fun y=>by unfold Region.wanted;rw[hg]
    simp only[hw,if_true] at h1 ⊢
    refine ⟨h1.1,?_⟩
    have h2:=h1.2;have e:wpK P Q ρ (.any ops c r.2.1::k) as=Exit.then (fun a w=>∀listed,Rem ops (X1 ops.toList []) ops.size listed r.2.1->wpAnyIn (G6 (L8 ρ k)) 0 P .any ops (wpK P Q ρ k as) r.2.1.length listed a w) (wpK P Q ρ k as):=rfl
    rw[e,D1z] at h2;exact h2
  · have:=Rem.all (ops:=ops) (X1 ops.toList []) ops.size
    rwa [List.take_of_length_le (by simp)] at this
  · obtain ⟨ob,hd,ho⟩:=hrun r hr
    refine ⟨ob,?_,ho⟩
    rw[show (r.1.filter fun q=>!((Array.replicate ops.size false).getD q.1 false))=r.1 from List.filter_eq_self.2 fun q hq=>by
      have:=(Array.getElem?_eq_some_iff.1 ((hD r hr).t1 q.1 q.2 hq).1).1
      simp [this]]
    exact hd

/-- The region at which a run stands. -/
def F8y (k:List KI):Array Oper:=match k with | .code (.region _ ops _)::_=>ops | .code (.seq (.region _ ops _) _)::_=>ops | _=>#[]
def A2c (k:List KI):List KI:=match k with | .code (.region _ _ _)::k=>k | .code (.seq (.region _ _ _) c)::k=>.code c::k | _=>[]
def V6 (ops:Array Oper) (l:List Nat):List (Nat×Oper):=l.filterMap fun i=>ops[i]?.map fun o=>(i,o)
def J0 (env:Env) (ops:Array Oper) (D:List Nat) (σ:St):St:=
 match G9 env [] ops.toList (X1 ops.toList []) [] [] σ.nx (V6 ops D) σ with
 | some (_,σ')=>σ'
 | none=>σ

theorem Z3 {ops:Array Oper} {l:List Nat} {i:Nat} {o:Oper}:(i,o)∈V6 ops l↔i∈l∧ops[i]? = some o:=by
 unfold V6;rw[List.mem_filterMap];constructor
 ·rintro ⟨j,hj,h⟩
  cases hh:ops[j]? with
  | none=>rw[hh] at h;cases h
  | some o' => rw[hh] at h;cases h;exact ⟨hj,hh⟩
 ·rintro ⟨h1,h2⟩
  exact ⟨i,h1,by rw[h2];rfl⟩
theorem C6k {ops:Array Oper} {l:List Nat} {i:Nat} (h:i<ops.size):(∃o,(i,o)∈V6 ops l)↔i∈l:=
 ⟨fun ⟨_,ho⟩=>(Z3.1 ho).1,fun hi=>⟨ops[i],Z3.2 ⟨hi,Array.getElem?_eq_getElem h⟩⟩⟩
theorem A2k {ops:Array Oper}:∀{l:List Nat},l.Pairwise (fun a b=>a<b)->(V6 ops l).Pairwise fun a b=>a.1<b.1
 | [],_=>.nil
 | i::l,h=>by
  have h' := List.pairwise_cons.1 h;unfold V6;rw[List.filterMap_cons];split
  ·exact A2k h'.2
  ·rename_i q hq
   cases hh:ops[i]? with
   | none=>rw[hh] at hq;cases hq
   | some o=>
    rw[hh] at hq
    cases hq
    exact List.pairwise_cons.2 ⟨fun q hq=>h'.1 q.1 (Z3.1 (show (q.1,q.2)∈V6 ops l from hq)).1,A2k h'.2⟩
theorem D5p {ops:Array Oper} {c:Nat} {D R:List Nat} {σ:St} (h1:D.Pairwise fun a b=>a<b) (h2:R.Pairwise fun a b=>a<b) (hc:c ∉ D∧c ∉ R) (hp:∀i,i<ops.size->i≠c->(i∈R↔i ∉ D)):C4e ops c (V6 ops D,V6 ops R,σ):=
 ⟨A2k h1,fun _ _ h=>⟨(Z3.1 h).2,fun e=>hc.1 (e ▸ (Z3.1 h).1)⟩,A2k h2,fun _ _ h=>⟨(Z3.1 h).2,fun e=>hc.2 (e ▸ (Z3.1 h).1)⟩,fun i hi hne=>by rw[C6k hi,C6k hi];exact hp i hi hne⟩
end
end

section

def G3 (a b c d e f:Int):Int:=a+18446744073709551616*b+340282366920938463463374607431768211456*c+6277101735386680763835789423207666416102355444464034512896*d+115792089237316195423570985008687907853269984665640564039457584007913129639936*e+2135987035920910082395021706169552114602704522356652769947041607822219725780640550022962086936576*f

/-- The limbs of a number below 2 to the power of 384. -/
theorem X5 {n:Nat} {a b c d e f:Int} (ha:0<=a) (ha1:a<18446744073709551616) (hb:0<=b) (hb1:b<18446744073709551616) (hc:0<=c) (hc1:c<18446744073709551616) (hd:0<=d) (hd1:d<18446744073709551616) (he:0<=e) (he1:e<18446744073709551616) (hf:0<=f) (hf1:f<18446744073709551616)
  (e1:(n:Int)=G3 a b c d e f):A0 n 0=a∧A0 n 1=b∧A0 n 2=c∧A0 n 3=d∧A0 n 4=e∧A0 n 5=f:=by
 unfold G3 at e1;have k0:A0 n 0=((n / 1 % 18446744073709551616:Nat):Int):=rfl;have k1:A0 n 1=((n / 18446744073709551616 % 18446744073709551616:Nat):Int):=rfl;have k2:A0 n 2=((n / 340282366920938463463374607431768211456 % 18446744073709551616:Nat):Int):=rfl;have k3:A0 n 3=((n / 6277101735386680763835789423207666416102355444464034512896 % 18446744073709551616:Nat):Int):=rfl;have k4:A0 n 4=((n / 115792089237316195423570985008687907853269984665640564039457584007913129639936 % 18446744073709551616:Nat):Int):=rfl;have k5:A0 n 5=((n / 2135987035920910082395021706169552114602704522356652769947041607822219725780640550022962086936576 % 18446744073709551616:Nat):Int):=by kernel_rfl
 rw[k0,k1,k2,k3,k4,k5];omega

/-- A number is its limbs. -/
theorem A1g (n:Nat) (h:n<B6):(n:Int)=G3 (A0 n 0) (A0 n 1) (A0 n 2) (A0 n 3) (A0 n 4) (A0 n 5) ∧
  0<=A0 n 0∧A0 n 0<18446744073709551616∧0<=A0 n 1∧A0 n 1<18446744073709551616∧0<=A0 n 2∧A0 n 2<18446744073709551616∧0<=A0 n 3∧A0 n 3<18446744073709551616∧0<=A0 n 4∧A0 n 4<18446744073709551616∧0<=A0 n 5∧A0 n 5<18446744073709551616:=by
 unfold G3;have k0:A0 n 0=((n / 1 % 18446744073709551616:Nat):Int):=rfl;have k1:A0 n 1=((n / 18446744073709551616 % 18446744073709551616:Nat):Int):=rfl;have k2:A0 n 2=((n / 340282366920938463463374607431768211456 % 18446744073709551616:Nat):Int):=rfl;have k3:A0 n 3=((n / 6277101735386680763835789423207666416102355444464034512896 % 18446744073709551616:Nat):Int):=rfl;have k4:A0 n 4=((n / 115792089237316195423570985008687907853269984665640564039457584007913129639936 % 18446744073709551616:Nat):Int):=rfl;have k5:A0 n 5=((n / 2135987035920910082395021706169552114602704522356652769947041607822219725780640550022962086936576 % 18446744073709551616:Nat):Int):=by kernel_rfl
 unfold B6 at h;rw[k0,k1,k2,k3,k4,k5];omega

/-- Six limbs in a row are a number. -/
theorem A5j {x:Ctx} {o:Ob} (hk:o.k=6) {a b c d e f:Int} (h:A0 o.n 0=a∧A0 o.n 1=b∧A0 o.n 2=c∧A0 o.n 3=d∧A0 o.n 4=e∧A0 o.n 5=f) {v:Value}
  (hd:B1 x (.v (.a [.int .u64 a,.int .u64 b,.int .u64 c,.int .u64 d,.int .u64 e,.int .u64 f])) v):B1 x (.v (.a [.ob o])) v:=by
 obtain ⟨cs,ev,hc⟩:=hd;refine ⟨cs,ev,cs,[],(List.append_nil cs).symm,⟨0,?_⟩,rfl⟩
 obtain ⟨c1,r1,e1,⟨d1,h1⟩,c2,r2,e2,⟨d2,h2⟩,c3,r3,e3,⟨d3,h3⟩,c4,r4,e4,⟨d4,h4⟩,c5,r5,e5,⟨d5,h5⟩,c6,r6,e6,⟨d6,h6⟩,h7⟩:=hc;have h1:c1=[.int .u64 a]:=by cases d1<;>exact h1
 have h2:c2=[.int .u64 b]:=by cases d2<;>exact h2
 have h3:c3=[.int .u64 c]:=by cases d3<;>exact h3
 have h4:c4=[.int .u64 d]:=by cases d4<;>exact h4
 have h5:c5=[.int .u64 e]:=by cases d5<;>exact h5
 have h6:c6=[.int .u64 f]:=by cases d6<;>exact h6
 have h7:r6=[]:=h7;show cs=o.cells;subst h1 h2 h3 h4 h5 h6 h7 e6 e5 e4 e3 e2 e1;unfold Ob.cells;rw[hk];show _=[Value.int .u64 (A0 o.n 0),Value.int .u64 (A0 o.n 1),Value.int .u64 (A0 o.n 2),Value.int .u64 (A0 o.n 3),Value.int .u64 (A0 o.n 4),Value.int .u64 (A0 o.n 5)];rw[h.1,h.2.1,h.2.2.1,h.2.2.2.1,h.2.2.2.2.1,h.2.2.2.2.2];rfl

theorem D6l {x:Ctx} {o:Ob} (hk:o.k=6) {a b c d e f:Int} (h:A0 o.n 0=a∧A0 o.n 1=b∧A0 o.n 2=c∧A0 o.n 3=d∧A0 o.n 4=e∧A0 o.n 5=f) {cs:List Value}
  (hc:B8 x.D [.int .u64 a,.int .u64 b,.int .u64 c,.int .u64 d,.int .u64 e,.int .u64 f] cs):B8 x.D [.ob o] cs:=by
 obtain ⟨cs',ev,h'⟩:=A5j hk h (v:=.agg cs.toArray) ⟨cs,rfl,hc⟩;have ev:cs=cs' := by simpa using ev
 rw[ev];exact h'

theorem E8s {x:Ctx} {o:Ob} (hk:o.k=6) {cs:List Value} (h:B8 x.D [.ob o] cs):B8 x.D [.int .u64 (A0 o.n 0),.int .u64 (A0 o.n 1),.int .u64 (A0 o.n 2),.int .u64 (A0 o.n 3),.int .u64 (A0 o.n 4),.int .u64 (A0 o.n 5)] cs:=by
 obtain ⟨c1,c2,e,⟨d,h1⟩,h2⟩:=h;have h1:c1=o.cells:=by cases d<;>exact h1
 have h2:c2=[]:=h2;subst h2 h1 e;rw[List.append_nil];unfold Ob.cells;rw[hk];exact ⟨[_],_,rfl,⟨0,rfl⟩,[_],_,rfl,⟨0,rfl⟩,[_],_,rfl,⟨0,rfl⟩,[_],_,rfl,⟨0,rfl⟩,[_],_,rfl,⟨0,rfl⟩,[_],_,rfl,⟨0,rfl⟩,rfl⟩

/-- What a row of limbs is, taken out of the form in which products are reckoned. -/
def pnv:Nat:=3231460744492646417066832100176244795738767926513225105051837195607029917124509527734802654356338138714468589979680
def B5h (n:Nat):Fp:=Fin.ofNat pN (n*pnv)
theorem B9u:pnv*B6 % pN=1 % pN:=by kernel_rfl

theorem F0b (n:Nat):(Ob.p (B5h n)).n=n % pN:=by
 show (n*pnv % pN)*B6 % pN=n % pN;rw[Nat.mod_mul_mod,Nat.mul_assoc];have e:pnv*B6 % pN=1:=by decide +kernel
 rw[<-Nat.mul_mod_mod,e,Nat.mul_one]

/-- The lowest limb goes out: with the prime p. -/
theorem D0c {l q:Int} (hq:q=wrap IntKind.u64 (l*9940570264628428797)):(q*13402431016077863595+l) % 18446744073709551616=0:=by
 rw[B1w] at hq;omega

theorem D7x : (2 ^ (64*6):Nat)=B6:=by kernel_rfl
theorem F5v:pN<2 ^ (64*6):=by rw[D7x];decide

/-- What is left when a product has gone through all limbs. -/
theorem E0x {x y:Fp} {T Q:Nat} (h:T*B6=(Ob.p x).n*(Ob.p y).n+Q*pN):B5h T=x*y:=
 Fin.ext (C9z B9u h)

theorem B3m (x:Fp):(Ob.p x).n<pN:=Nat.mod_lt _ (by decide)
theorem D0h (z a b c d e f:Int):z*G3 a b c d e f=(z*a)+18446744073709551616*(z*b)+340282366920938463463374607431768211456*(z*c)+6277101735386680763835789423207666416102355444464034512896*(z*d)+115792089237316195423570985008687907853269984665640564039457584007913129639936*(z*e)+2135987035920910082395021706169552114602704522356652769947041607822219725780640550022962086936576*(z*f):=by
 unfold G3;simp only[Int.mul_add,Int.mul_left_comm z]

/-- The product's lowest limb taken out, round by round. -/
theorem C3n {A Y r i Q:Nat} {T T' q:Int} (hq:0<=q) (h:T*((2 ^ (64*i):Nat):Int)=((A % 2 ^ (64*i):Nat):Int)*(Y:Int)+(Q:Int)*(r:Int))
  (h' : 18446744073709551616*T' = T+A0 A i*(Y:Int)+q*(r:Int)) :
  ∃Q:Nat,T' * ((2 ^ (64*(i+1)):Nat):Int)=((A % 2 ^ (64*(i+1)):Nat):Int)*(Y:Int)+(Q:Int)*(r:Int):=by
 obtain ⟨q,rfl⟩:=Int.eq_ofNat_of_zero_le hq;refine ⟨Q+q*2 ^ (64*i),?_⟩
 rw[B9c];have hp:(2:Nat) ^ (64*(i+1))=2 ^ (64*i)*18446744073709551616:=by rw[Nat.mul_add,Nat.pow_add]
 rw[hp];have hl:A0 A i=((A / 2 ^ (64*i) % 18446744073709551616:Nat):Int):=rfl;rw[hl] at h'
 generalize A / 2 ^ (64*i) % 18446744073709551616=xi at *;generalize A % 2 ^ (64*i)=X at *;generalize 2 ^ (64*i)=m at *;have e1:T' * ((m*18446744073709551616:Nat):Int)=(18446744073709551616*T')*(m:Int):=by
  rw[Int.natCast_mul,Int.mul_comm (m:Int),<-Int.mul_assoc,Int.mul_comm T'];rfl
 rw[e1,h',Int.add_mul,Int.add_mul,h];push_cast
 simp only[Int.add_mul,Int.mul_assoc];have e2:(xi:Int)*((Y:Int)*(m:Int))=(m:Int)*((xi:Int)*(Y:Int)):=by rw[<-Int.mul_assoc,Int.mul_comm]
 have e3:(q:Int)*((r:Int)*(m:Int))=(q:Int)*((m:Int)*(r:Int)):=by rw[Int.mul_comm (r:Int)]
 rw[e2,e3];omega

def A8 (a:Int):Prop:=0<=a∧a<18446744073709551616
theorem D0i {a b c d e f:Int} (ha:A8 a) (hb:A8 b) (hc:A8 c) (hd:A8 d) (he:A8 e) (hf:A8 f):∃n:Nat,n<B6∧G3 a b c d e f=(n:Int)∧A0 n 0=a∧A0 n 1=b∧A0 n 2=c∧A0 n 3=d∧A0 n 4=e∧A0 n 5=f:=by
 obtain ⟨ha,ha1⟩:=ha;obtain ⟨hb,hb1⟩:=hb;obtain ⟨hc,hc1⟩:=hc;obtain ⟨hd,hd1⟩:=hd;obtain ⟨he,he1⟩:=he;obtain ⟨hf,hf1⟩:=hf;have h0:0<=G3 a b c d e f:=by unfold G3;omega
 obtain ⟨n,hn⟩:=Int.eq_ofNat_of_zero_le h0;refine ⟨n,?_,hn,X5 ha ha1 hb hb1 hc hc1 hd hd1 he he1 hf hf1 (by rw[<-hn])⟩
 unfold G3 at hn;unfold B6;omega

def A3b (n:Nat):U6:=Fin.ofNat B6 (n % pN)
theorem B1j (n:Nat):(A3b n).val=n % pN:=Nat.mod_eq_of_lt (Nat.lt_trans (Nat.mod_lt _ (by decide)) (by decide))
theorem D5e {a b:Nat} (h:a % pN=b % pN):A3b a=A3b b:=by unfold A3b;rw[h]

end

section

/-! A block told in other words. -/
def E3v (x:Ctx):List (Option En)->List (Option En)->Prop
 | [],[]=>True
 | e::l,e' :: l' => (e=e' ∨ ∃f f' r,e=some (.fl r)∧e=some f∧e' = some f' ∧ ∀cs,D9 x f cs->D9 x f' cs)∧E3v x l l'
 | _,_=>False

theorem B7d {x:Ctx}:∀{ml:List Nat} {ens ens' : List (Option En)},E3v x ens ens' -> ∀p,E1 none ml ens p=E1 none ml ens' p∨∃f f' r,E1 none ml ens p=some (.fl r)∧E1 none ml ens p=some f∧E1 none ml ens' p=some f' ∧ ∀cs,D9 x f cs->D9 x f' cs
 | [],_,_,_,_=>.inl rfl
 | _::_,[],[],_,_=>.inl rfl
 | _::_,[],_::_,h,_=>h.elim
 | _::_,_::_,[],h,_=>h.elim
 | t::tl,e::l,e' :: l',h,p=>by
  simp only[E1];by_cases hp:p=t
  ·simp only[hp,if_true];exact h.1
  ·simp only[hp,if_false];exact B7d h.2 p

theorem Sim.blocks {w0:World} {F0:Nat->Prop} {K:Kp} {as:List Act} {nt nx:Nat} {tl:List Nat} {svs:List SV} {ml:List Nat} {ens ens' : List (Option En)} {ftl:List (List Nat)} {fsv:List (List SV×Nat)} {x:Ctx} {a:Act}
  (hs:Sim w0 F0 K as (A5 nt tl svs ml ens nx ftl fsv) x a) (h:E3v x ens ens'):Sim w0 F0 K as (A5 nt tl svs ml ens' nx ftl fsv) x a:=by
 have hm:=hs.mem;refine ⟨hs.defers,hs.nt,hs.t,?_,hs.base,hs.frs⟩
 have key:=B7d (ml:=ml) h;refine ⟨fun p=>?_,fun p l hp=>?_,fun p q hp hn=>?_,fun p e hp hr=>?_,hm.inj,hm.own,hm.fw⟩
 ·rw[<-hm.dom p]
  show E1 none ml ens' p=none↔E1 none ml ens p=none;rcases key p with e | ⟨f,f',r,e1,e2,e3,_⟩
  ·rw[e]
  ·rw[e2,e3]
   constructor<;>(intro h;cases h)
 ·have hp:E1 none ml ens' p=some (.fl l):=hp
  rcases key p with e | ⟨f,f',r,e1,e2,e3,_⟩
  ·rw[<-e] at hp;exact hm.fl p l hp
  ·exact hm.fl p r e1
 ·have hp:E1 none ml ens' p=some (.sq q):=hp
  rcases key p with e | ⟨f,f',r,e1,e2,e3,_⟩
  ·rw[<-e] at hp;exact hm.nil p q hp hn
  ·have:=hm.fl p r e1
   rw[this] at hn;cases hn
 ·have hp:E1 none ml ens' p=some e:=hp
  rcases key p with e0 | ⟨f,f',r,e1,e2,e3,hc⟩
  ·rw[<-e0] at hp;exact hm.ent p e hp hr
  ·rw[e3] at hp
   cases hp
   obtain ⟨cs,ty,h1,h2⟩:=hm.ent p f e2 hr;exact ⟨cs,ty,h1,hc _ h2⟩

end

section

section
variable {F:Type} [Add F] [Sub F] [Mul F] [OfNat F 0] [DecidableEq F]
def C1f:Nat->F×F×F->F×F×F
 | 0,o=>o
 | n+1,o=>jtw (C1f n o)
end

theorem E0b {F:Type} [Add F] [Sub F] [Mul F] [OfNat F 0] [DecidableEq F] (n:Nat) (o:F×F×F):C1f (n+1) o=jtw (C1f n o):=rfl
section
variable {F:Type} [Fld F] [DecidableEq F] {b:F}

end

end

section

/-- The contracts of both: where the first one has none, the second one's. -/
def Env.or (a b:Env):Env:={ a with fn:=fun f=>match a.fn f with | some s=>some s | none=>b.fn f }
theorem C4x {P:Program} {a b:Env} (hA:A6 P a) (hB:A6 P b):A6 P (a.or b):=by
 refine ⟨hA.ty,hA.mixed,fun f s h=>?_,hA.mu,hA.inl,hA.ex,hA.inv⟩
 have h:(match a.fn f with | some s=>some s | none=>b.fn f)=some s:=h
 cases e:a.fn f with
 | some s' => rw[e] at h;exact hA.fn f s (by rw[e];exact h)
 | none=>rw[e] at h;exact hB.fn f s h
end

section

section
variable {F:Type} [Add F] [Sub F] [Mul F] [OfNat F 0] [DecidableEq F]
/-- One point is put into the row of its digit. -/
def bkS (z:F×F×F) (S:List (F×F×F)) (p:F×F×F) (d:Int):List (F×F×F):=
 if d > 0 then S.set d.toNat (jpl (S.getD d.toNat z) p) else if d<0 then S.set (-d).toNat (jpl (S.getD (-d).toNat z) (jng p)) else S
/-- So many points are. -/
def bkN (z:F×F×F) (S:List (F×F×F)) (ps:List (F×F×F)) (ds:List Int):Nat->List (F×F×F)
 | 0=>S
 | i+1=>bkS z (bkN z S ps ds i) (ps.getD i z) (ds.getD i 0)
/-- Sums from above, and their sums. -/
def toR (z:F×F×F) (S:List (F×F×F)):Nat->F×F×F
 | 0=>z
 | n+1=>jpl (toR z S n) (S.getD (16-n) z)
def toO (z:F×F×F) (S:List (F×F×F)):Nat->F×F×F
 | 0=>z
 | n+1=>jpl (toO z S n) (toR z S (n+1))
def bkT (z:F×F×F) (ps:List (F×F×F)) (ds:List Int):F×F×F:=toO z (bkN z (List.replicate 17 z) ps ds ps.length) 16
/-- The digits of one place. -/
def A7q (L:List (List Int)) (i:Nat):List Int:=L.map fun l=>l.getD i 0
def alN (z:F×F×F) (ps:List (F×F×F)) (L:List (List Int)) (m:Nat):Nat->F×F×F
 | 0=>z
 | t+1=>jpl (C1f 5 (alN z ps L m t)) (bkT z ps (A7q L (m-1-t)))
theorem F2a (z:F×F×F) (S:List (F×F×F)) (p:F×F×F) (d:Int):(bkS z S p d).length=S.length:=by
 unfold bkS;split
 ·exact List.length_set
 ·split
  ·exact List.length_set
  ·rfl
theorem D6i (z:F×F×F) (S ps:List (F×F×F)) (ds:List Int):∀i,(bkN z S ps ds i).length=S.length
 | 0=>rfl
 | i+1=>(F2a ..).trans (D6i z S ps ds i)
end

/-! What stands for what: any relation that goes along with sums, doubles and negatives. -/
section
variable {F:Type} [Add F] [Sub F] [Mul F] [OfNat F 0] [DecidableEq F] {M:Type} [F8x M]
variable {R:F×F×F->M->Prop} {z:F×F×F}

theorem D1k {α:Type} (l:List α) (i j:Nat) (x z:α) (h:i<l.length):(l.set i x).getD j z=if j=i then x else l.getD j z:=by
 by_cases e:j=i
 ·subst e
  simp [List.getD,h]
 ·rw[if_neg e]
  simp [List.getD,List.getElem?_set_ne (Ne.symm e)]

end
end

section

section
variable {F:Type} [Fld F] [DecidableEq F] {b:F}
/-- All digits of all numbers. -/
def F9f (n:Nat) (ks:List Nat):List (List Int):=ks.map fun k=>(dgW k n).1
end
end

section

/-- Digits that are small enough. -/
def F2t (D:List Int):Prop:=∀i,-16<=D.getD i 0∧D.getD i 0<=16
/-- All digits of all numbers; how many places there are. -/
def dgK (N:Nat) (k:List U4):List (List Int):=F9f N (k.map (·.val))
def D0b (N:Nat):List U4->Nat
 | []=>0
 | _::_=>N
theorem D6r (N:Nat) (k:List U4):(dgK N k).length=k.length:=by unfold dgK F9f;rw[List.length_map,List.length_map]
theorem C4u (N:Nat) (k:List U4) (i:Nat) (h:i<k.length):(dgK N k).getD i []=(dgW (k.getD i 0).val N).1:=by
 unfold dgK F9f;simp [List.getD,h]
theorem F2q {N:Nat} (k:List U4) (i:Nat) (h:i<k.length):((dgK N k).getD i []).length=N:=by
 rw[C4u N k i h,B0a]
theorem F2p (N:Nat) (k:List U4) (i j:Nat):-16<=((dgK N k).getD i []).getD j 0∧((dgK N k).getD i []).getD j 0<=16:=by
 by_cases h:i<k.length
 ·rw[C4u N k i h]
  by_cases h2:j<(dgW (k.getD i 0).val N).1.length
  ·rw[List.getD_eq_getElem?_getD,List.getElem?_eq_getElem h2]
   exact B2k _ _ _ (List.getElem_mem h2)
  ·rw[List.getD_eq_getElem?_getD,List.getElem?_eq_none (by omega)]
   show (-16:Int)<=0∧(0:Int)<=16;exact ⟨by decide,by decide⟩
 ·have:(dgK N k).getD i []=[]:=by rw[List.getD_eq_getElem?_getD,List.getElem?_eq_none (by rw[D6r];omega)];rfl
  rw[this];show (-16:Int)<=0∧(0:Int)<=16;exact ⟨by decide,by decide⟩
/-- The sum, as it is reckoned. -/
def smJ {F:Type} [Add F] [Sub F] [Mul F] [OfNat F 0] [DecidableEq F] (N:Nat) (z:F×F×F) (P:List (F×F×F)) (k:List U4):F×F×F:=alN z P (dgK N k) (D0b N k) (D0b N k)

theorem C3o (L:List (List Int)) (h i:Nat):(A7q L h).getD i 0=(L.getD i []).getD h 0:=by
 unfold A7q;rw[List.getD_eq_getElem?_getD,List.getElem?_map,List.getD_eq_getElem?_getD (l:=L)]
 cases L[i]? with
 | none=>rfl
 | some l=>rfl
theorem F6x {D:List Int} {L:List (List Int)} {h:Nat} (hl:D.length=L.length) (hg:∀j,j<L.length->D.getD j 0=(L.getD j []).getD h 0):D=A7q L h:=by
 have hr:(A7q L h).length=L.length:=by unfold A7q;rw[List.length_map]
 apply List.ext_getElem (by rw[hl,hr])
 intro i h1 h2;have e:=hg i (by omega)
 rw[<-C3o,List.getD_eq_getElem?_getD,List.getD_eq_getElem?_getD,List.getElem?_eq_getElem h1,List.getElem?_eq_getElem h2] at e;exact e
theorem E2j {α:Type} (l:List α) (z:α) {i:Nat} (h:i<l.length):l.take i++[l.getD i z]=l.take (i+1):=by
 rw[List.take_add_one,List.getElem?_eq_getElem h,List.getD_eq_getElem?_getD,List.getElem?_eq_getElem h];rfl

theorem E7d {α β:Type} (f:α->β) (l:List α) (a:α) (b:β) {i:Nat} (h:i<l.length):(l.map f).getD i b=f (l.getD i a):=by
 simp [List.getD,h]
/-- How many points are refused. -/
def A4u (a b:Int) (w:Bool):Int:=if a=b then if a > 4096 then 2 else if w then 30 else 0 else 3
theorem E3s {a b:Int} {w:Bool} (h:¬a=b):A4u a b w=3:=if_neg h
theorem E3r {a b:Int} {w:Bool} (h:a=b) (h2:a > 4096):A4u a b w=2:=by unfold A4u;rw[if_pos h,if_pos h2]
theorem F8d {a b:Int} {w:Bool} (h:a=b) (h2:¬a > 4096) (hw:w=true):A4u a b w=30:=by unfold A4u;rw[if_pos h,if_neg h2,if_pos hw]
theorem F2j {a b:Int} {w:Bool} (h:a=b) (h2:¬a > 4096) (hw:w=false):A4u a b w=0:=by unfold A4u;rw[if_pos h,if_neg h2,hw,if_neg Bool.false_ne_true]
theorem E3t {a b:Int} {w:Bool} (h:A4u a b w=0):a=b∧¬a > 4096∧w=false:=by
 by_cases h1:a=b
 ·by_cases h2:a > 4096
  ·rw[E3r h1 h2] at h;exact absurd h (by decide)
  ·cases w with
   | true=>rw[F8d h1 h2 rfl] at h;exact absurd h (by decide)
   | false=>exact ⟨h1,h2,rfl⟩
 ·rw[E3s h1] at h;exact absurd h (by decide)

end

section

def Env.join (a:Env) (f:Nat) (fn:Func):Env:={ a with inl:=fun g=>if g=f then some fn else a.inl g }
theorem C8t {P:Program} {a:Env} (hA:A6 P a) {f:Nat} {fn:Func} (h1:P.funcs[f]? = some fn) (h2:Z6 P f):A6 P (a.join f fn):=by
 refine ⟨hA.ty,hA.mixed,hA.fn,hA.mu,fun g fn' h=>?_,hA.ex,hA.inv⟩
 have h:(if g=f then some fn else a.inl g)=some fn' := h
 split at h
 ·rename_i e;cases h;subst e;exact ⟨h1,h2⟩
 ·exact hA.inl g fn' h
end

end
end Go.Proofs.Ytifiiigbedjceaa
