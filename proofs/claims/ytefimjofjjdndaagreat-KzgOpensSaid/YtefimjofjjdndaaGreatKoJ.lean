/- Parts of a proof, one behind the other: Rk, Rl, Nl, Nr, Ms, Cp, Dk, Lk, Lr, Ls, Lt, Lv, Ly, Lu, Ct, Tb, Mv. No conditions. -/
import Derived.Test.YtefimjofjjdndaaGreatKoI
open Go.IntKind (wrap)
namespace Go.Proofs.YtefimjofjjdndaaGreat
noncomputable section
section

def G5p (x y:Ctx):List SV->List SV->Prop
 | [],[]=>True
 | s::l,s' :: l' => (∀v,B8 x s v->B8 y s' v)∧G5p x y l l'
 | _,_=>False
theorem B4y {x y:Ctx}:∀{tl:List Nat} {svs svs' : List SV},G5p x y svs svs' -> ∀j v,B8 x (D9 .top tl svs j) v->B8 y (D9 .top tl svs' j) v
 | [],_,_,_,_,_,_=>trivial
 | _::_,[],[],_,_,_,_=>trivial
 | _::_,[],_::_,h,_,_,_=>h.elim
 | _::_,_::_,[],h,_,_,_=>h.elim
 | t::tl,s::l,s' :: l',h,j,v,hd=>by
  simp only[D9] at hd ⊢
  by_cases hj:j=t
  ·simp only[hj,if_true] at hd ⊢;exact h.1 v hd
  ·simp only[hj,if_false] at hd ⊢;exact B4y h.2 j v hd
theorem F3q {x y:Ctx} {u:Value}:∀v,B8 x (.v (.c (.val u))) v->B8 y (.v (.c (.val u))) v:=fun v h=>⟨rfl,0,by obtain ⟨rfl,h1⟩:=A0x h;exact ⟨rfl,h1⟩⟩
theorem C9f {x y:Ctx} {k:IntKind} {n:Int}:∀v,B8 x (.v (.c (.int k n))) v->B8 y (.v (.c (.int k n))) v:=fun v h=>by rw[U9 h];exact ⟨rfl,0,rfl⟩
theorem F3r {x y:Ctx} {u:Value} {q:Sq} (h:y.D (.sl q) [u]):∀v,B8 x (.v (.c (.vsl u q))) v->B8 y (.v (.c (.vsl u q))) v:=fun v hv=>by
 have e:=(E3r hv.2).1;simp only[List.cons.injEq,and_true] at e;subst e;exact ⟨rfl,E2z h⟩
theorem D9y {x y:Ctx} {s:SV}:∀v,B8 x s v->B8 y .top v:=fun _ _=>trivial
theorem H4q {x y z:Ctx} {q:Nat} (hβ:z.β q=y.β q):∀v,B8 x (.v (.c (.val (.pointer (some ⟨z.β q,0,none⟩))))) v->B8 (E1 y q) (.v (.c (.ptr 0 0))) v:=fun v h=>by
 obtain ⟨rfl,_⟩:=A0x h;exact ⟨rfl,0,rfl,by show _=[Value.pointer (some ⟨y.β q,0,none⟩)];rw[hβ]⟩
theorem H4p {z y:Ctx} {q:Nat} (hβ:z.β 0=y.β q):∀v,B8 z (.v (.c (.ptr 0 0))) v->B8 (E1 y q) (.v (.c (.ptr 0 0))) v:=fun v h=>by
 obtain ⟨_,rfl⟩:=A8f h;exact ⟨rfl,0,rfl,by show _=[Value.pointer (some ⟨y.β q,0,none⟩)];rw[hβ]⟩

/-- A world of which nothing is told. -/
def E4a (w:World):Ctx:=⟨w,fun _=>False,fun _=>.no,fun _=>0⟩
theorem G7t {w:World} {nt nx:Nat} {a:Act} (hnt:a.tmps.size=nt) (hd:a.defers=[]) {dst:Nat} {b:Bool} (hdst:Nat.blt dst nt=true) :
  Sim w (fun _=>False) V9 [] ⟨Q8 (D9 .top [] []) dst (.v (.c (.lit b))),D9 none [] [],nt,nx,[]⟩ (E4a w) (a.put (some dst) (.bool b)):=by
 refine ⟨hd,by simp [Act.put];exact hnt,fun j=>?_,?_,?_,.nil⟩
 ·show B8 _ (Q8 (D9 .top [] []) dst (.v (.c (.lit b))) j) _
  unfold Q8;by_cases hj:j=dst
  ·subst hj
   simp only[if_true];have hlt:j<a.tmps.size:=by rw[hnt];simpa [Nat.blt_eq] using hdst
   simp only[Act.put,Array.getD_eq_getD_getElem?,Array.getElem?_setIfInBounds,if_true,hlt,Option.getD_some];exact ⟨rfl,0,rfl⟩
  ·simp only[hj,if_false]
   exact trivial
 ·exact ⟨fun _=>⟨fun _=>rfl,fun _=>rfl⟩,fun _ _ h=>(by cases h),fun _ _ h=>(by cases h),fun _ _ h=>(by cases h),fun _ _ h=>(by cases h),fun _ h=>(by cases h),fun _ h=>h.elim⟩
 ·exact ⟨fun _ h=>h,fun _ h=>.inl h,Nat.le_refl _,fun _ _ _=>rfl,fun _ h=>(by cases h),rfl,rfl,rfl,fun _ h=>(by cases h)⟩

section
variable {P:Program} {y:Ctx} {m:Nat->Option En} {q:Nat} {e e' : En}
/-- The next state, told anew in a world that is looked at anew. -/
theorem G7u {z:Ctx} {nt nx nx' : Nat} {tl:List Nat} {svs svs' : List SV} {ml:List Nat} {ens:List (Option En)} {w0:World} {F0:Nat->Prop} {K:Kp} {as:List Act} {a:Act} (hs:Sim w0 F0 K as (B0 nt tl svs ml ens nx [] []) z a) (hds:K.ds=[])
  (hm:Mem y m) (hp:m q=some e) (hr:y.k q = .real) (hd:∀(cs:Array Value) ty,y.w.heap[y.β q]? = some (.cells cs ty (0,0))->C7 y e cs.toList->C7 (E1 y q) e' cs.toList) (hc:G5p z (E1 y q) svs svs') :
  Sim y.w y.F (B4v (E1 y q)) as (B0 nt tl svs' [0] [some e'] nx' [] []) (E1 y q) a:=by
 have hfr:Frs z K.ds [] as:=hs.frs
 cases hfr
 have had:a.defers=[]:=hs.defers.trans hds;have k:=B4t (nx:=nx') hm hp hr hd had hs.nt (t:=D9 .top tl svs') fun j=>B4y hc j _ (hs.t j)
 have e1:D9 none [0] [some e']=one e' := by
  funext i
  simp only[D9,one]
 show Sim y.w y.F (B4v (E1 y q)) [] ⟨D9 .top tl svs',D9 none [0] [some e'],nt,nx',[]⟩ (E1 y q) a;rw[e1];exact k
/-- The same, where a slot holds what a yield has answered. -/
theorem F6q {z:Ctx} {nt nx nx' : Nat} {tl:List Nat} {svs svs' : List SV} {ml:List Nat} {ens:List (Option En)} {w0:World} {F0:Nat->Prop} {K:Kp} {as:List Act} {a:Act} (hs:Sim w0 F0 K as (B0 nt tl svs ml ens nx [] []) z a) (hds:K.ds=[])
  (hm:Mem y m) (hp:m q=some e) (hr:y.k q = .real) (hd:∀(cs:Array Value) ty,y.w.heap[y.β q]? = some (.cells cs ty (0,0))->C7 y e cs.toList->C7 (E1 y q) e' cs.toList) (hc:G5p z (E1 y q) svs svs') {dst:Nat} {b:Bool} (hdst:Nat.blt dst nt=true) :
  Sim y.w y.F (B4v (E1 y q)) as ⟨Q8 (D9 .top tl svs') dst (.v (.c (.lit b))),one e',nt,nx',[]⟩ (E1 y q) (a.put (some dst) (.bool b)):=by
 have hfr:Frs z K.ds [] as:=hs.frs
 cases hfr
 have had:a.defers=[]:=hs.defers.trans hds;refine B4t hm hp hr hd (by simpa [Act.put] using had) (by have:=hs.nt;simp [Act.put];exact this) fun j=>?_
 have h0:=B4y hc j _ (hs.t j);show B8 _ (Q8 (D9 .top tl svs') dst (.v (.c (.lit b))) j) _;unfold Q8;by_cases hj:j=dst
 ·subst hj
  simp only[if_true];have hlt:j<a.tmps.size:=by
   have h1:=hs.nt;have h2:a.tmps.size=nt:=h1;rw[h2];simpa [Nat.blt_eq] using hdst
  simp only[Act.put,Array.getD_eq_getD_getElem?,Array.getElem?_setIfInBounds,if_true,hlt,Option.getD_some];exact ⟨rfl,0,rfl⟩
 ·simp only[hj,if_false]
  have:(a.put (some dst) (.bool b)).tmps.getD j undef=a.tmps.getD j undef:=by
   simp [Act.put,Array.getD_eq_getD_getElem?,Ne.symm hj]
  rw[this];exact h0
/-- What a captured box holds, seen by the iterator. -/
theorem H4i {v:Value} {s:Sq} (cs:Array Value) (hc:C7 y (.fl [.vsl v s]) cs.toList):C7 (E1 y q) (.fl [.vsl v s]) cs.toList:=by
 obtain ⟨c1,c2,e,h1,h2⟩:=hc;have h2:c2=[]:=h2;exact ⟨c1,c2,e,A4d (x:=y) (y:=E1 y q) rfl (fun _ h=>h) rfl h1,by rw[h2];rfl⟩
/-- What is data stays it, while own blocks change. -/
theorem C5t {x:Ctx} {K:Kp} {ds:List Deferred} {m:Nat->Option En} (hm:Mem x m) (hb:A8u x.w x.F (U3 x K ds) y) {i:It} {vs:List Value} (hi:E7 i=true) (h:x.D i vs):y.D i vs:=by
 have h1:(⟨x.w,x.F,fun _=>.no,x.β⟩:Ctx).D i vs:=A4d (x:=x) (y:=⟨x.w,x.F,fun _=>.no,x.β⟩) rfl (fun _ h=>h) hi h
 have hext:Ext ⟨x.w,x.F,fun _=>.no,x.β⟩ ⟨y.w,y.F,fun _=>.no,y.β⟩:=
  ⟨hb.size,fun b hF=>⟨hb.f0 b hF,hb.keep b (hm.fw b hF) fun p hp e=>hm.own p hp (e ▸ hF)⟩,fun p hp=>absurd rfl hp,fun p hp=>(by cases hp),fun p hp=>(by cases hp)⟩
 exact A4d (x:=⟨y.w,y.F,fun _=>.no,y.β⟩) (y:=y) rfl (fun _ h=>h) hi (C5n hext _ _ h1)
end
end

section

section
variable {P:Program} {w0:World} {F0:Nat->Prop} {K:Kp} {as:List Act} {x:Ctx} {a:Act} {σ:St}

theorem Sim.outOwn (hs:Sim w0 F0 K as σ x a) {σ2:St} {y:Ctx} {b:Act} {as' : List Act} (g:Sim x.w x.F (U3 x K K.ds) as' σ2 y b):Sim w0 F0 K as' σ2 y b:=⟨g.defers,g.nt,g.t,g.mem,hs.base.trans g.base,g.frs⟩

theorem Sim.marked2 (h:Sim w0 F0 K as σ x a) (hfr:σ.fr=[]) (D:Nat):Sim x.w x.F (U3 x K (I0 D++K.ds)) as σ x { a with defers:={ target:=.collected D,args:=#[] } :: a.defers }:=by
 have hd:=h.defers;have hf:=h.frs;rw[hfr] at hd hf;refine ⟨?_,h.nt,h.t,h.mem,h.base.own _,?_⟩
 ·rw[hfr]
  show _::a.defers=I0 D++K.ds;rw[hd];rfl
 ·rw[hfr]
  cases hf
  exact .nil

theorem Sim.unmark2 {D:Nat} {σ2:St} {as' : List Act} {z:Ctx} {b:Act} (h:Sim w0 F0 K as σ x a) (hD:w0.heap.size<=D) (hF:¬x.F D) (hd:x.w.heap[D]? = some (.deferred (some []))) (hfr:σ2.fr=[])
  (g:Sim x.w x.F (U3 x K (I0 D++K.ds)) as' σ2 z b):b.defers=I0 D++K.ds∧z.w.heap[D]? = some (.deferred (some []))∧Sim w0 F0 K as' σ2 { z with w:=z.w.putObj D (.deferred none) } { b with defers:=K.ds }:=by
 have hz:=P1 h.mem g.base hd rfl;have hlt:D<x.w.heap.size:=(Array.getElem?_eq_some_iff.1 hd).1;have hb:=g.defers;have hf:=g.frs;rw[hfr] at hb hf;refine ⟨hb,hz,?_⟩
 have hs:Sim w0 F0 K as' σ2 z { b with defers:=K.ds }:=by
  refine ⟨?_,g.nt,g.t,g.mem,h.base.trans g.base,?_⟩
  ·rw[hfr];rfl
  ·rw[hfr]
   cases hf
   exact .nil
 refine hs.world rfl rfl rfl (by simp) (fun c hc=>World.putObj_heap_other ?_) (fun p hp=>World.putObj_heap_other ?_) (fun c hc _=>World.putObj_heap_other ?_)
 ·intro e
  subst e;rcases g.base.fn c hc with h1 | h1
  ·exact hF h1
  ·omega
 ·intro e
  cases hm:σ2.m p with
  | none=>rw[(g.mem.dom p).1 hm] at hp;cases hp
  | some en=>
   obtain ⟨cs,ty,hc,_⟩:=g.mem.ent p en hm hp;rw[e,hz] at hc
   cases hc
 ·omega

theorem D4r {fn:Func} {R:Ending->World->Prop} {D D' : Nat} {w:World} (hd:a.defers=I0 D' ++ I0 D) (hh:w.heap[D']? = some (.deferred (some []))) (hh2:(w.putObj D' (.deferred none)).heap[D]? = some (.deferred (some [])))
  (h:bodyPost P fn R .ret { a with defers:=[] } ((w.putObj D' (.deferred none)).putObj D (.deferred none))):bodyPostM Fence.wide 0 P fn R .ret a w:=by
 have key:LeavesInM Fence.wide 0 P fn a.tmps R a.defers .returning w:=by
  rw[hd];refine ⟨by simp,.inl ⟨_,_,rfl,run_takeDeferred hh,?_⟩⟩
  refine ⟨by simp,.inl ⟨_,_,rfl,run_takeDeferred hh2,?_⟩⟩
  obtain ⟨_,v,hv,hR⟩:=h;exact ⟨v,hv,hR⟩
 exact key

theorem E0l {env:Env} (hE:A9 P env) {fn:Func} {x0:Ctx} (hk:∀p,x0.k p = .no) (hF:∀b,x0.F b->b<x0.w.heap.size) {unroll:Bool} {n:Nat} {path:List Bool} {ps fz:List Nat} {ob:List Prop} {r rr:SV} {es:List En} {D D' : Nat} {y y' : Ctx} {a0 a1:Act} {σ1 σ2 σ3:St} {as0 as1 as:List Act} {z:Ctx} {b:Act}
  (h:G5 env fn unroll n ⟨[],.ret,σ3⟩ path ps fz=some (ob,r,es)) (ho:B1 ob) (hconv:∀y v,B8 y r v->B8 y rr v)
  (h1:Sim x0.w x0.F V9 as0 σ1 y a0) (hD:x0.w.heap.size<=D) (hFD:¬y.F D) (hd:y.w.heap[D]? = some (.deferred (some [])))
  (h2:Sim y.w y.F (U3 y V9 (I0 D)) as1 σ2 y' a1) (hD' : y.w.heap.size<=D') (hFD' : ¬y'.F D') (hd' : y'.w.heap[D']? = some (.deferred (some []))) (hfr:σ3.fr=[])
  (g:Sim y'.w y'.F (U3 y' (U3 y V9 (I0 D)) (I0 D' ++ I0 D)) as σ3 z b):bodyPostM Fence.wide 0 P fn (RF x0 rr es) .ret b z.w:=by
 obtain ⟨g1,g2,g3⟩:=h2.unmark2 hD' hFD' hd' hfr g;obtain ⟨k1,k2,k3⟩:=h1.unmark rfl hD hFD hd hfr g3;refine D4r g1 g2 k2 ?_
 exact (H2 hE hk hF h ho hconv k3).wp
end
end

section

/-- One position more, without a block. -/
def K7 (y:Ctx) (n:Nat):Ctx:={ y with k:=fun q=>if q=n then .nil else y.k q }

/-- A contract whose result has an empty row behind the others. -/
theorem FnD.nil {P:Program} {f:Nat} {args:List SV} {r r' : SV} {es:List En} {q:Sq} (h:FnD P f args r es) (hq:q.n=0)
  (hr:∀(y:Ctx) v,y.k es.length = .nil->B8 y r v->B8 y r' v):FnD P f args r' (es++[.sq q]):=by
 intro x vs hk hF hd;refine (h x vs hk hF hd).mono fun e w' ⟨v,y,he,hw,ht,hv⟩=>?_
 have hno:y.k es.length = .no:=(ht.mem.dom es.length).1 (by simp)
 have hext:Ext y (K7 y es.length):=by
  refine ⟨Nat.le_refl _,fun _ h=>⟨h,rfl⟩,fun p hp=>?_,fun _ _=>rfl,fun _ _ cs _ h=>⟨cs,h,rfl⟩⟩
  have:p≠es.length:=fun e=>hp (e ▸ hno)
  simp [K7,this]
 have hreal:∀p,(K7 y es.length).k p = .real->y.k p = .real:=by
  intro p hp;simp only[K7] at hp;split at hp
  ·cases hp
  ·exact hp
 have hget:∀p,p≠es.length->(es++[En.sq q])[p]? = es[p]? := by
  intro p hp;by_cases h1:p<es.length
  ·rw[List.getElem?_append_left h1]
  ·rw[List.getElem?_append_right (by omega),List.getElem?_eq_none (by simp;omega),List.getElem?_eq_none (by omega)]
 have hm:Mem (K7 y es.length) (fun p=>(es++[En.sq q])[p]?):=by
  refine ⟨fun p=>?_,fun p l hp=>?_,fun p s hp hn=>?_,fun p e hp hrl=>?_,fun p s hp hs he=>?_,fun p hp=>?_,fun b hb=>ht.mem.fw b hb⟩
  ·by_cases hp:p=es.length
   ·subst hp;simp [K7]
   ·show (es++[En.sq q])[p]? = none↔(if p=es.length then Kd.nil else y.k p) = .no
    rw[if_neg hp,hget p hp];exact ht.mem.dom p
  ·by_cases h1:p=es.length
   ·subst h1;simp at hp
   ·have hp:(es++[En.sq q])[p]? = some (.fl l):=hp
    rw[hget p h1] at hp;show (if p=es.length then Kd.nil else y.k p) = .real
    rw[if_neg h1];exact ht.mem.fl p l hp
  ·by_cases h1:p=es.length
   ·subst h1
    have hp:(es++[En.sq q])[es.length]? = some (.sq s):=hp;simp at hp
    rw[<-hp];exact hq
   ·have hp:(es++[En.sq q])[p]? = some (.sq s):=hp
    rw[hget p h1] at hp;have hn:(if p=es.length then Kd.nil else y.k p) = .nil:=hn
    rw[if_neg h1] at hn;exact ht.mem.nil p s hp hn
  ·have h1:p≠es.length:=by
    rintro rfl
    simp [K7] at hrl
   have hp:(es++[En.sq q])[p]? = some e:=hp;rw[hget p h1] at hp;obtain ⟨cs,ty,hc,hde⟩:=ht.mem.ent p e hp (hreal p hrl);exact ⟨cs,ty,hc,K4 hext hde⟩
  ·exact ht.mem.inj p s (hreal p hp) (hreal s hs) he
  ·exact ht.mem.own p (hreal p hp)
 refine ⟨v,K7 y es.length,he,hw,⟨ht.ext.trans hext,hm,ht.os,ht.tape,ht.output,ht.blk,fun p hp=>ht.fresh p (hreal p hp),ht.fnew⟩,hr _ _ (by simp [K7]) (A1q hext hv)⟩

theorem G9l {y:Ctx} {p es:Nat} (hk:y.k p = .nil) {v:Value} (h:A2u y (.c (.val (.slice none 0 0))) v):A2u y (.c (.slc p 0 0 es)) v:=by
 obtain ⟨_,d,h⟩:=h;refine ⟨rfl,d,?_⟩
 have h:[v]=[Value.slice none 0 0]:=by cases d<;>exact h.1
 have g:(y.k p = .nil∧0=0∧0=0∧[v]=[Value.slice none 0 0]) ∨
  (y.k p = .real∧∃cap cs ty,[v]=[.slice (some ⟨y.β p,0,none⟩) 0 cap]∧0<=cap∧cap<=maxLen∧y.w.heap[y.β p]? = some (.cells cs ty (0,0))∧0+cap*es<=cs.size):=.inl ⟨hk,rfl,rfl,h⟩
 cases d<;>exact g

end

section

variable {w0:World} {F0:Nat->Prop} {K:Kp} {as:List Act} {x:Ctx} {a:Act}

theorem G9k {p:Nat} (hno:x.k p = .no):Ext x (K7 x p):=
 ⟨Nat.le_refl _,fun _ h=>⟨h,rfl⟩,fun q hq=>by
  have:q≠p:=fun e=>hq (e ▸ hno)
  simp [K7,this],fun _ _=>rfl,fun _ _ cs _ h=>⟨cs,h,rfl⟩⟩
theorem A6c {p q:Nat} (h:(K7 x p).k q = .real):x.k q = .real:=by
 simp only[K7] at h;split at h
 ·cases h
 ·exact h

/-- Slots that hold what an empty row at p may be. -/
def F3o (p:Nat):List SV->List SV->Prop
 | [],[]=>True
 | s::l,s' :: l' => (s' = s∨∃es,s = .v (.c (.val (.slice none 0 0)))∧s' = .v (.c (.slc p 0 0 es)))∧F3o p l l'
 | _,_=>False
theorem D4i {p:Nat} (hk:x.k p = .nil):∀{svs svs' : List SV},F3o p svs svs' -> E4i x svs svs'
 | [],[],_=>trivial
 | [],_::_,h=>h.elim
 | _::_,[],h=>h.elim
 | s::l,s' :: l',h=>⟨fun v hd=>by
   rcases h.1 with e | ⟨es,e1,e2⟩
   ·rw[e];exact hd
   ·subst e1 e2
    exact G9l hk hd,D4i hk h.2⟩

theorem Sim.nilRow {nt nx:Nat} {tl:List Nat} {svs svs' : List SV} {ml ml' : List Nat} {ens ens' : List (Option En)} {ftl:List (List Nat)} {fsv:List (List SV×Nat)}
  (hs:Sim w0 F0 K as (B0 nt tl svs ml ens nx ftl fsv) x a) {p:Nat} (hp:D9 none ml ens p=none) (hp0:p≠0) {q:Sq} (hq:q.n=0) (hl:∀r,D9 none ml' ens' r=if r=p then some (.sq q) else D9 none ml ens r) (hc:F3o p svs svs') :
  Sim w0 F0 K as (B0 nt tl svs' ml' ens' nx ftl fsv) (K7 x p) a:=by
 have hm:=hs.mem;have hno:x.k p = .no:=(hm.dom p).1 hp;have hext:=G9k (x:=x) hno;have hself:(K7 x p).k p = .nil:=by simp [K7]
 have hoth:∀r,r≠p->(K7 x p).k r=x.k r:=fun r hr=>by simp [K7,hr]
 have hget:∀r,r≠p->D9 none ml' ens' r=D9 none ml ens r:=fun r hr=>by rw[hl,if_neg hr]
 have hgp:D9 none ml' ens' p=some (.sq q):=by rw[hl,if_pos rfl]
 refine ⟨hs.defers,hs.nt,fun t=>?_,?_,?_,hs.frs.ext hext⟩
 ·exact B4x (D4i hself hc) t _ (A1q hext (hs.t t))
 ·refine ⟨fun r=>?_,fun r l hr=>?_,fun r s hr hn=>?_,fun r e hr hrl=>?_,fun r s hr hs e=>hm.inj r s (A6c hr) (A6c hs) e,fun r hr=>hm.own r (A6c hr),fun b hb=>hm.fw b hb⟩
  ·show D9 none ml' ens' r=none↔(K7 x p).k r = .no
   by_cases e:r=p
   ·subst e;rw[hgp,hself]
    constructor<;>(intro h;cases h)
   ·rw[hget r e,hoth r e]
    exact hm.dom r
  ·have hr:D9 none ml' ens' r=some (.fl l):=hr
   by_cases e:r=p
   ·subst e;rw[hgp] at hr;cases hr
   ·rw[hget r e] at hr
    rw[hoth r e];exact hm.fl r l hr
  ·have hr:D9 none ml' ens' r=some (.sq s):=hr
   by_cases e:r=p
   ·subst e;rw[hgp] at hr;cases hr;exact hq
   ·rw[hget r e] at hr
    rw[hoth r e] at hn;exact hm.nil r s hr hn
  ·have hr:D9 none ml' ens' r=some e:=hr
   have e1:r≠p:=fun h=>by rw[h,hself] at hrl;cases hrl
   rw[hget r e1] at hr;obtain ⟨cs,ty,hc,hde⟩:=hm.ent r e hr (A6c hrl);exact ⟨cs,ty,hc,K4 hext hde⟩
 ·have hb:=hs.base
  refine ⟨hb.f0,hb.fn,hb.size,hb.keep,fun r hr=>hb.ownK r (A6c hr),hb.os,hb.tape,hb.output,fun r hr=>?_⟩
  obtain ⟨h1,h2,h3⟩:=hb.pin r hr;exact ⟨h1,by rw[hoth 0 (Ne.symm hp0)];exact h2,h3⟩
theorem C9t {r p:Nat} {e f:Option En} {q:Nat} (h:p≠q):D9 none [q,p] [e,f] r=if r=p then f else D9 none [q] [e] r:=by
 simp only[D9];by_cases h1:r=q
 ·subst h1
  rw[if_pos rfl,if_pos rfl,if_neg (Ne.symm h)]
 ·rw[if_neg h1,if_neg h1]

end

section

section
variable {F:Type} [Add F] [Sub F] [Mul F] [OfNat F 0] [DecidableEq F]
/-- One point is put into the row of its digit. -/
def bkS (z:F×F×F) (S:List (F×F×F)) (p:F×F×F) (d:Int):List (F×F×F):=
 if d > 0 then S.set d.toNat (jpl (S.getD d.toNat z) p) else if d<0 then S.set (-d).toNat (jpl (S.getD (-d).toNat z) (jng p)) else S
/-- So many points are. -/
def bkN (z:F×F×F) (S:List (F×F×F)) (ps:List (F×F×F)) (ds:List Int):Nat->List (F×F×F)
 | 0=>S
 | i+1=>bkS z (bkN z S ps ds i) (ps.getD i z) (ds.getD i 0)
/-- Sums from above, and their sums. -/
def toR (z:F×F×F) (S:List (F×F×F)):Nat->F×F×F
 | 0=>z
 | n+1=>jpl (toR z S n) (S.getD (16-n) z)
def toO (z:F×F×F) (S:List (F×F×F)):Nat->F×F×F
 | 0=>z
 | n+1=>jpl (toO z S n) (toR z S (n+1))
def bkT (z:F×F×F) (ps:List (F×F×F)) (ds:List Int):F×F×F:=toO z (bkN z (List.replicate 17 z) ps ds ps.length) 16
/-- The digits of one place. -/
def A0z (L:List (List Int)) (i:Nat):List Int:=L.map fun l=>l.getD i 0
def alN (z:F×F×F) (ps:List (F×F×F)) (L:List (List Int)) (m:Nat):Nat->F×F×F
 | 0=>z
 | t+1=>jpl (A3r 5 (alN z ps L m t)) (bkT z ps (A0z L (m-1-t)))
theorem G4w (z:F×F×F) (S:List (F×F×F)) (p:F×F×F) (d:Int):(bkS z S p d).length=S.length:=by
 unfold bkS;split
 ·exact List.length_set
 ·split
  ·exact List.length_set
  ·rfl
theorem C8r (z:F×F×F) (S ps:List (F×F×F)) (ds:List Int):∀i,(bkN z S ps ds i).length=S.length
 | 0=>rfl
 | i+1=>(G4w ..).trans (C8r z S ps ds i)
end

/-! What stands for what: any relation that goes along with sums, doubles and negatives. -/
section
variable {F:Type} [Add F] [Sub F] [Mul F] [OfNat F 0] [DecidableEq F] {M:Type} [C8k M]
structure Rel (R:F×F×F->M->Prop) (z:F×F×F):Prop where
 ze:R z 0
 pl:∀{a b x y},R a x->R b y->R (jpl a b) (x+y)
 tw:∀{a x},R a x->R (jtw a) (x+x)
 ng:∀{a x},R a x->R (jng a) (-x)
variable {R:F×F×F->M->Prop} {z:F×F×F}

/-- Sums of multiples. -/
def B7v (T:Nat->M):Nat->M
 | 0=>0
 | n+1=>B7v T n+((n+1:Nat):Int) • T (n+1)
def B7u (T:Nat->M) (d:Nat) (p:M):Nat->M:=fun i=>if i=d then T i+p else T i
theorem C4v (T:Nat->M) (d:Nat) (p:M) (hd:1<=d):∀n,B7v (B7u T d p) n=if d<=n then B7v T n+(d:Int) • p else B7v T n
 | 0=>by rw[if_neg (by omega)];rfl
 | n+1=>by
  show B7v (B7u T d p) n+((n+1:Nat):Int) • B7u T d p (n+1)=_;rw[C4v T d p hd n];by_cases h:d<=n
  ·rw[if_pos h,if_pos (by omega)]
   have e:B7u T d p (n+1)=T (n+1):=if_neg (by omega)
   rw[e];show _=B7v T n+((n+1:Nat):Int) • T (n+1)+(d:Int) • p;generalize ((n+1:Nat):Int) • T (n+1)=x;generalize (d:Int) • p=y;grind
  ·rw[if_neg h]
   by_cases h2:d=n+1
   ·subst h2
    rw[if_pos (Nat.le_refl _)];have e:B7u T (n+1) p (n+1)=T (n+1)+p:=if_pos rfl;rw[e,C5a];show _=B7v T n+((n+1:Nat):Int) • T (n+1)+((n+1:Nat):Int) • p;generalize ((n+1:Nat):Int) • T (n+1)=x;generalize ((n+1:Nat):Int) • p=y;grind
   ·rw[if_neg (by omega)]
    have e:B7u T d p (n+1)=T (n+1):=if_neg (fun h=>h2 h.symm)
    rw[e];rfl

def rM (T:Nat->M):Nat->M
 | 0=>0
 | n+1=>rM T n+T (16-n)
def oM (T:Nat->M):Nat->M
 | 0=>0
 | n+1=>oM T n+rM T (n+1)
/-- Sums from above n: each so often as it lies above n. -/
theorem I6h (T:Nat->M):oM T 16=B7v T 16:=by
 simp only[oM,rM,B7v];grind

theorem G3k (hR:Rel R z) {S:List (F×F×F)} {T:Nat->M} (h:∀i,i<=16->R (S.getD i z) (T i)):∀n,R (toR z S n) (rM T n)
 | 0=>hR.ze
 | n+1=>hR.pl (G3k hR h n) (h _ (by omega))
theorem G3j (hR:Rel R z) {S:List (F×F×F)} {T:Nat->M} (h:∀i,i<=16->R (S.getD i z) (T i)):∀n,R (toO z S n) (oM T n)
 | 0=>hR.ze
 | n+1=>hR.pl (G3j hR h n) (G3k hR h (n+1))

theorem A6r {α:Type} (l:List α) (i j:Nat) (x z:α) (h:i<l.length):(l.set i x).getD j z=if j=i then x else l.getD j z:=by
 by_cases e:j=i
 ·subst e
  simp [List.getD,h]
 ·rw[if_neg e]
  simp [List.getD,List.getElem?_set_ne (Ne.symm e)]

/-- The rows after so many points, and what they stand for. -/
theorem F2o (hR:Rel R z) {ps:List (F×F×F)} {Ps:List M} (hl:Ps.length=ps.length) (hp:∀i,i<ps.length->R (ps.getD i z) (Ps.getD i 0)) {ds:List Int} (hd:∀i,-16<=ds.getD i 0∧ds.getD i 0<=16) :
  ∀n,n<=ps.length->∃T:Nat->M,(∀i,i<=16->R ((bkN z (List.replicate 17 z) ps ds n).getD i z) (T i))∧B7v T 16=dot ((List.range n).map fun i=>ds.getD i 0) ((List.range n).map fun i=>Ps.getD i 0)
 | 0,_=>⟨fun _=>0,fun i hi=>by
   have e:(List.replicate 17 z).getD i z=z:=by
    rw[List.getD_eq_getElem?_getD,List.getElem?_replicate,if_pos (by omega)]
    rfl
   show R ((List.replicate 17 z).getD i z) 0;rw[e];exact hR.ze,by
   have h:∀n,B7v (fun _=>(0:M)) n=0:=fun n=>by
    induction n with
    | zero=>rfl
    | succ n ih=>
     show B7v (fun _=>(0:M)) n+((n+1:Nat):Int) • (0:M)=0
     rw[ih,D3p,ad0]
   exact (h 16).trans (B1r _).symm⟩
 | n+1,hn=>by
  obtain ⟨T,h1,h2⟩:=F2o hR hl hp hd n (by omega)
  have hdn:=hd n;have hlen:(bkN z (List.replicate 17 z) ps ds n).length=17:=by rw[C8r,List.length_replicate]
  have hdot:dot ((List.range (n+1)).map fun i=>ds.getD i 0) ((List.range (n+1)).map fun i=>Ps.getD i 0)=dot ((List.range n).map fun i=>ds.getD i 0) ((List.range n).map fun i=>Ps.getD i 0)+ds.getD n 0 • Ps.getD n 0:=by
   rw[List.range_succ,List.map_append,List.map_append];exact D4p _ _ _ _ (by simp)
  rw[hdot];show ∃T:Nat->M,(∀i,i<=16->R ((bkS z (bkN z (List.replicate 17 z) ps ds n) (ps.getD n z) (ds.getD n 0)).getD i z) (T i))∧_;have hpn:=hp n (by omega)
  generalize bkN z (List.replicate 17 z) ps ds n=S at *;generalize ds.getD n 0=d at *;generalize ps.getD n z=p at *;generalize Ps.getD n 0=P at *;by_cases hpos:d > 0
  ·obtain ⟨e,rfl⟩:=Int.eq_ofNat_of_zero_le (Int.le_of_lt hpos)
   refine ⟨B7u T e P,fun i hi=>?_,?_⟩
   ·have eS:bkS z S p (e:Int)=S.set e (jpl (S.getD e z) p):=if_pos hpos
    rw[eS,A6r _ _ _ _ _ (by omega)]
    by_cases hie:i=e
    ·subst hie
     rw[if_pos rfl];have eT:B7u T i P i=T i+P:=if_pos rfl;rw[eT];exact hR.pl (h1 _ hi) hpn
    ·rw[if_neg hie]
     have eT:B7u T e P i=T i:=if_neg hie;rw[eT];exact h1 _ hi
   ·rw[C4v _ _ _ (by omega),if_pos (by omega),h2]
  ·by_cases hneg:d<0
   ·obtain ⟨e,he⟩:=Int.eq_ofNat_of_zero_le (a:=-d) (by omega)
    obtain rfl:d = -(e:Int):=by omega
    refine ⟨B7u T e (-P),fun i hi=>?_,?_⟩
    ·have eS:bkS z S p (-(e:Int))=S.set e (jpl (S.getD e z) (jng p)):=by
      unfold bkS;rw[if_neg hpos,if_pos hneg,Int.neg_neg,Int.toNat_natCast]
     rw[eS,A6r _ _ _ _ _ (by omega)]
     by_cases hie:i=e
     ·subst hie
      rw[if_pos rfl];have eT:B7u T i (-P) i=T i + -P:=if_pos rfl;rw[eT];exact hR.pl (h1 _ hi) (hR.ng hpn)
     ·rw[if_neg hie]
      have eT:B7u T e (-P) i=T i:=if_neg hie;rw[eT];exact h1 _ hi
    ·rw[C4v _ _ _ (by omega),if_pos (by omega),h2,A4y,I3i]
   ·obtain rfl:d=0:=by omega
    refine ⟨T,fun i hi=>?_,?_⟩
    ·have eS:bkS z S p 0=S:=by unfold bkS;rw[if_neg (by decide),if_neg (by decide)]
     rw[eS];exact h1 _ hi
    ·rw[h2,X8,ad0]

theorem C1e {α:Type} (z:α) (l:List α) {n:Nat} (h:n=l.length):((List.range n).map fun i=>l.getD i z)=l:=by
 subst h;apply List.ext_getElem
 ·simp
 ·intro i h1 h2
  simp [List.getD,h2]
theorem H4h (hR:Rel R z) {ps:List (F×F×F)} {Ps:List M} (hl:Ps.length=ps.length) (hp:∀i,i<ps.length->R (ps.getD i z) (Ps.getD i 0)) {ds:List Int} (hdl:ds.length=ps.length) (hd:∀i,-16<=ds.getD i 0∧ds.getD i 0<=16) :
  R (bkT z ps ds) (dot ds Ps):=by
 obtain ⟨T,h1,h2⟩:=F2o hR hl hp hd ps.length (Nat.le_refl _);have h3:=G3j hR h1 16;rw[I6h,h2,C1e 0 ds hdl.symm,C1e 0 Ps hl.symm] at h3;exact h3

theorem I5l (hR:Rel R z) {a:F×F×F} {x:M} (h:R a x):R (A3r 5 a) ((32:Int) • x):=by
 have h1:=hR.tw (hR.tw (hR.tw (hR.tw (hR.tw h))));have e:x+x+(x+x)+(x+x+(x+x))+(x+x+(x+x)+(x+x+(x+x)))+(x+x+(x+x)+(x+x+(x+x))+(x+x+(x+x)+(x+x+(x+x))))=(32:Int) • x:=by grind
 rw[<-e];exact h1

theorem F1w (hR:Rel R z) {ps:List (F×F×F)} {Ps:List M} (hl:Ps.length=ps.length) (hp:∀i,i<ps.length->R (ps.getD i z) (Ps.getD i 0)) {L:List (List Int)} {m:Nat} (hL:L.length=ps.length) (hm:∀l,l∈L->l.length=m) (hd:∀l,l∈L->∀d,d∈l -> -16<=d∧d<=16) :
  ∀t,t<=m->R (alN z ps L m t) (dot (L.map fun l=>vlW (l.drop (m-t))) Ps)
 | 0,_=>by
  have e:dot (L.map fun l=>vlW (l.drop (m-0))) Ps=0:=by
   rw[show (L.map fun l=>vlW (l.drop (m-0)))=L.map fun _=>(0:Int) from List.map_congr_left fun l hl=>by rw[Nat.sub_zero,List.drop_eq_nil_of_le (Nat.le_of_eq (hm l hl))];rfl]
   exact C6g L Ps
  rw[e];exact hR.ze
 | t+1,ht=>by
  have ih:=F1w hR hl hp hL hm hd t (by omega)
  have hrow:R (bkT z ps (A0z L (m-1-t))) (dot (A0z L (m-1-t)) Ps):=by
   refine H4h hR hl hp (by unfold A0z;rw[List.length_map];exact hL) fun i=>?_
   unfold A0z;rw[List.getD_eq_getElem?_getD,List.getElem?_map]
   cases e:L[i]? with
   | none=>
    show (-16:Int)<=0∧(0:Int)<=16;exact ⟨by decide,by decide⟩
   | some l=>
    have hmem:=List.mem_of_getElem? e;show -16<=l.getD (m-1-t) 0∧l.getD (m-1-t) 0<=16;have hlt:m-1-t<l.length:=by rw[hm l hmem];omega
    rw[List.getD_eq_getElem?_getD,List.getElem?_eq_getElem hlt];exact hd l hmem _ (List.getElem_mem hlt)
  have h:=hR.pl (I5l hR ih) hrow;have e:dot (L.map fun l=>vlW (l.drop (m-(t+1)))) Ps=(32:Int) • dot (L.map fun l=>vlW (l.drop (m-t))) Ps+dot (A0z L (m-1-t)) Ps:=by
   unfold A0z;refine E4u 32 _ _ _ L Ps fun l hmem=>?_
   have e1:m-(t+1)=m-1-t:=by omega
   have e2:m-t=m-1-t+1:=by omega
   rw[e1,e2];exact G4b l _ (by rw[hm l hmem];omega)
  rw[e];exact h
end
end

section

section
variable {F:Type} [Fld F] [DecidableEq F] {b:F}
/-- The points of the curve. -/
def CP (b:F):Type:={ P:Pt F // OnC b P }
@[reducible] def M8 (hc:Cv b):AG (CP b) where
 ad P Q:=⟨C5 P.1 Q.1,J8 hc _ _ P.2 Q.2⟩
 ng P:=⟨P5 P.1,U1 _ P.2⟩
 ze:=⟨none,True.intro⟩
 ad_ze P:=Subtype.ext (O9 _)
 ad_cm P Q:=Subtype.ext (V5 hc _ _ P.2 Q.2)
 ad_as P Q S:=Subtype.ext (O1 hc _ _ _ P.2 Q.2 S.2)
 ng_ad P:=Subtype.ext (by
  show C5 (P5 P.1) P.1=none;rw[V5 hc _ _ (U1 _ P.2) P.2,R1 hc _ P.2])
/-- A sum of multiples of points. -/
def A9e:List Nat->List (Pt F)->Pt F
 | k::ks,P::Ps=>C5 (D6 P k) (A9e ks Ps)
 | _,_=>none
theorem B8e (hc:Cv b):∀(ks:List Nat) (Ps:List (Pt F)),(∀P,P∈Ps->OnC b P)->OnC b (A9e ks Ps)
 | [],_,_=>True.intro
 | _::_,[],_=>True.intro
 | k::ks,P::Ps,h=>J8 hc _ _ (J0 hc (h P (List.mem_cons_self ..)) k) (B8e hc ks Ps fun Q hQ=>h Q (List.mem_cons_of_mem _ hQ))

theorem F9q (hc:Cv b) (P:CP b):∀n:Nat,(letI:=M8 hc;AG.ns n P).1=D6 P.1 n
 | 0=>rfl
 | n+1=>by
  show C5 (letI:=M8 hc;AG.ns n P).1 P.1=C5 (D6 P.1 n) P.1
  rw[F9q hc P n]
theorem E4v (hc:Cv b):∀(ks:List Nat) (Ps:List (CP b)),(letI:=M8 hc;dot (ks.map fun k:Nat=>(k:Int)) Ps).1=A9e ks (Ps.map (·.1))
 | [],Ps=>by
  letI:=M8 hc
  show (dot ([]:List Int) Ps).1=none;rw[B1r];rfl
 | _::_,[]=>rfl
 | k::ks,P::Ps=>by
  show C5 (letI:=M8 hc;AG.ns k P).1 (letI:=M8 hc;dot (ks.map fun k:Nat=>(k:Int)) Ps).1=C5 (D6 P.1 k) (A9e ks (Ps.map (·.1)))
  rw[F9q,E4v hc ks Ps]

theorem H4o (hc:Cv b) (z:F×F×F) (hz:z.2.2=0):letI:=M8 hc;Rel (F:=F) (M:=CP b) (fun a P=>Jc P.1 a) z:=by
 letI:=M8 hc
 exact ⟨hz,fun {a b x y} h1 h2=>A2y hc.two _ _ _ _ h1 h2,fun {a x} h=>A5w hc.two _ _ h,fun {a x} h=>E0w _ _ h⟩

/-- All digits of all numbers. -/
def C5c (n:Nat) (ks:List Nat):List (List Int):=ks.map fun k=>(dgW k n).1
theorem G5w {k n:Nat} (hn:n=52) (h:k<2 ^ 256):vlW ((dgW k n).1.drop (n-n))=(k:Int):=by
 rw[Nat.sub_self,List.drop_zero];exact (E4q hn h).1
theorem F3y {n:Nat} (hn:n=52) {ks:List Nat} (hk:∀k,k∈ks->k<2 ^ 256):(C5c n ks).map (fun l=>vlW (l.drop (n-n)))=ks.map fun k:Nat=>(k:Int):=by
 unfold C5c;rw[List.map_map];exact List.map_congr_left fun k hm=>G5w hn (hk k hm)

/-- Many points, by rows of digits, are their sum. -/
theorem F7z {n:Nat} (hn:n=52) (hc:Cv b) (z:F×F×F) (hz:z.2.2=0) {ps:List (F×F×F)} {Ps:List (Pt F)} (hl:Ps.length=ps.length) (hon:∀P,P∈Ps->OnC b P) (hp:∀i,i<ps.length->Jc (Ps.getD i none) (ps.getD i z)) {ks:List Nat} (hkl:ks.length=ps.length) (hk:∀k,k∈ks->k<2 ^ 256) :
  Jc (A9e ks Ps) (alN z ps (C5c n ks) n n):=by
 letI:=M8 hc
 let Qs:List (CP b):=Ps.attach.map fun P=>⟨P.1,hon P.1 P.2⟩
 have hQ:Qs.map (·.1)=Ps:=by
  show (Ps.attach.map fun P=>(⟨P.1,hon P.1 P.2⟩:CP b)).map (·.1)=Ps
  rw[List.map_map];exact List.attach_map_subtype_val Ps
 have hQl:Qs.length=ps.length:=by rw[<-hl,<-hQ,List.length_map]
 have hget:∀i,(Qs.getD i 0).1=Ps.getD i none:=fun i=>by
  rw[<-hQ,List.getD_eq_getElem?_getD,List.getD_eq_getElem?_getD,List.getElem?_map]
  cases Qs[i]?<;>rfl
 have h:=F1w (H4o hc z hz) (L:=C5c n ks) (m:=n) hQl (fun i hi=>by
   show Jc (Qs.getD i 0).1 (ps.getD i z);rw[hget];exact hp i hi) (by unfold C5c;rw[List.length_map];exact hkl) (fun l hm=>by
   obtain ⟨k,_,rfl⟩:=List.mem_map.1 hm;exact A7f k n) (fun l hm d hd=>by
   obtain ⟨k,_,rfl⟩:=List.mem_map.1 hm;exact A7g k n d hd) n (Nat.le_refl _)
 rw[F3y hn hk] at h;have h:Jc (dot (ks.map fun k:Nat=>(k:Int)) Qs).1 (alN z ps (C5c n ks) n n):=h
 rw[E4v hc ks Qs,hQ] at h;exact h
end
end

section

/-- Digits that are small enough. -/
def G5y (D:List Int):Prop:=∀i,-16<=D.getD i 0∧D.getD i 0<=16
/-- All digits of all numbers; how many places there are. -/
def dgK (N:Nat) (k:List U4):List (List Int):=C5c N (k.map (·.val))
def D6n (N:Nat):List U4->Nat
 | []=>0
 | _::_=>N
theorem E4m (N:Nat) (k:List U4):(dgK N k).length=k.length:=by unfold dgK C5c;rw[List.length_map,List.length_map]
theorem C9g (N:Nat) (k:List U4) (i:Nat) (h:i<k.length):(dgK N k).getD i []=(dgW (k.getD i 0).val N).1:=by
 unfold dgK C5c;simp [List.getD,h]
theorem G5t {N:Nat} (k:List U4) (i:Nat) (h:i<k.length):((dgK N k).getD i []).length=N:=by
 rw[C9g N k i h,A7f]
theorem G5s (N:Nat) (k:List U4) (i j:Nat):-16<=((dgK N k).getD i []).getD j 0∧((dgK N k).getD i []).getD j 0<=16:=by
 by_cases h:i<k.length
 ·rw[C9g N k i h]
  by_cases h2:j<(dgW (k.getD i 0).val N).1.length
  ·rw[List.getD_eq_getElem?_getD,List.getElem?_eq_getElem h2]
   exact A7g _ _ _ (List.getElem_mem h2)
  ·rw[List.getD_eq_getElem?_getD,List.getElem?_eq_none (by omega)]
   show (-16:Int)<=0∧(0:Int)<=16;exact ⟨by decide,by decide⟩
 ·have:(dgK N k).getD i []=[]:=by rw[List.getD_eq_getElem?_getD,List.getElem?_eq_none (by rw[E4m];omega)];rfl
  rw[this];show (-16:Int)<=0∧(0:Int)<=16;exact ⟨by decide,by decide⟩
/-- The sum, as it is reckoned. -/
def smJ {F:Type} [Add F] [Sub F] [Mul F] [OfNat F 0] [DecidableEq F] (N:Nat) (z:F×F×F) (P:List (F×F×F)) (k:List U4):F×F×F:=alN z P (dgK N k) (D6n N k) (D6n N k)

theorem C7x (L:List (List Int)) (h i:Nat):(A0z L h).getD i 0=(L.getD i []).getD h 0:=by
 unfold A0z;rw[List.getD_eq_getElem?_getD,List.getElem?_map,List.getD_eq_getElem?_getD (l:=L)]
 cases L[i]? with
 | none=>rfl
 | some l=>rfl
theorem H1n {D:List Int} {L:List (List Int)} {h:Nat} (hl:D.length=L.length) (hg:∀j,j<L.length->D.getD j 0=(L.getD j []).getD h 0):D=A0z L h:=by
 have hr:(A0z L h).length=L.length:=by unfold A0z;rw[List.length_map]
 apply List.ext_getElem (by rw[hl,hr])
 intro i h1 h2;have e:=hg i (by omega)
 rw[<-C7x,List.getD_eq_getElem?_getD,List.getD_eq_getElem?_getD,List.getElem?_eq_getElem h1,List.getElem?_eq_getElem h2] at e;exact e
theorem B6c {α:Type} (l:List α) (z:α) {i:Nat} (h:i<l.length):l.take i++[l.getD i z]=l.take (i+1):=by
 rw[List.take_add_one,List.getElem?_eq_getElem h,List.getD_eq_getElem?_getD,List.getElem?_eq_getElem h];rfl

theorem A3u {α β:Type} (f:α->β) (l:List α) (a:α) (b:β) {i:Nat} (h:i<l.length):(l.map f).getD i b=f (l.getD i a):=by
 simp [List.getD,h]
/-- How many points are refused. -/
def A3h (a b:Int) (w:Bool):Int:=if a=b then if a > 4096 then 2 else if w then 30 else 0 else 3
theorem F2y {a b:Int} {w:Bool} (h:¬a=b):A3h a b w=3:=if_neg h
theorem F2x {a b:Int} {w:Bool} (h:a=b) (h2:a > 4096):A3h a b w=2:=by unfold A3h;rw[if_pos h,if_pos h2]
theorem H3a {a b:Int} {w:Bool} (h:a=b) (h2:¬a > 4096) (hw:w=true):A3h a b w=30:=by unfold A3h;rw[if_pos h,if_neg h2,if_pos hw]
theorem E4d {a b:Int} {w:Bool} (h:a=b) (h2:¬a > 4096) (hw:w=false):A3h a b w=0:=by unfold A3h;rw[if_pos h,if_neg h2,hw,if_neg Bool.false_ne_true]
theorem D4d {a b:Int} {w:Bool} (h:A3h a b w=0):a=b∧¬a > 4096∧w=false:=by
 by_cases h1:a=b
 ·by_cases h2:a > 4096
  ·rw[F2x h1 h2] at h;exact absurd h (by decide)
  ·cases w with
   | true=>rw[H3a h1 h2 rfl] at h;exact absurd h (by decide)
   | false=>exact ⟨h1,h2,rfl⟩
 ·rw[F2y h1] at h;exact absurd h (by decide)

theorem H7z {x:Ctx} {q:Sq} (hq:q.n=0) {v:Value} (h:B8 x (.v (.c (.val (.slice none 0 0)))) v):B8 x (.v (.c (.sl q))) v:=by
 obtain ⟨h0,d,hd⟩:=h;have e:[v]=[Value.slice none 0 0]:=by cases d<;>exact hd.1
 exact ⟨rfl,1,.inl ⟨none,0,e,hq⟩⟩
end

set_option linter.unusedVariables false
set_option linter.unusedSectionVars false
section

section
variable {M:Type} [C8k M]
theorem G9n {A B C:M} (h2:∀X:M,X+X=0->X=0) (h3:A+A+A=0->A=0) (h5A:A+A+A+A+A=0->A=0) (h5B:B+B+B+B+B=0->B=0) (hA:A≠0) (hB:B≠0) (hAB:A+B≠0)
  (k1:A+A+B=0∨A=B+C) (k2:B+A+B=0∨B+B+C=0) (k3:C=A+B∨C+B+C=0):False:=by
 rcases k1 with k1 | k1<;>rcases k2 with k2 | k2<;>rcases k3 with k3 | k3
 ·exact hA (h3 (by grind))
 ·exact hA (h3 (by grind))
 ·exact hA (h5A (by grind))
 ·exact hA (h3 (h2 _ (by grind)))
 ·exact hB (h2 _ (by grind))
 ·exact hB (h5B (by grind))
 ·exact hAB (by grind)
 ·exact hAB (by grind)
end

section
variable {F:Type} [Fld F] [DecidableEq F] {b:F}
theorem C4w {p q:F×F} (hp:OnC b (some p)) (hq:OnC b (some q)) (e:p.1=q.1):q=p∨q=ngp p:=by
 have hp:p.2*p.2=p.1*p.1*p.1+b:=hp;have hq:q.2*q.2=q.1*q.1*q.1+b:=hq;have h:(q.2-p.2)*(q.2+p.2)=0:=by rw[<-e] at hq;clear e;grind
 by_cases h1:q.2=p.2
 ·exact .inl (Prod.ext e.symm h1)
 ·right
  have h2:q.2-p.2≠0:=fun h=>h1 (by clear hp hq h1;grind)
  by_cases h3:q.2+p.2=0
  ·refine Prod.ext e.symm ?_
   show q.2=0-p.2;clear hp hq h h1 h2;grind
  ·exact absurd h (C2 h2 h3)
theorem G3r (hc:Cv b) (X:CP b):letI:=M8 hc;X+X=0->X=0:=by
 letI:=M8 hc
 intro h;obtain ⟨x,hx⟩:=X
 cases x with
 | none=>rfl
 | some p=>
  have h:C5 (some p) (some p)=none:=congrArg Subtype.val h;unfold C5 at h;dsimp only at h;rw[if_pos rfl,if_pos ⟨rfl,B3w hc hx⟩] at h
  cases h
def toC (P:Pt F) (h:OnC b P):CP b:=⟨P,h⟩
/-- Of the first points one is away from both sums. -/
theorem I3t (hc:Cv b) {a c e s t d:F×F} (ha:OnC b (some a)) (hcc:OnC b (some c)) (he:OnC b (some e)) (hs:C5 (some a) (some c)=some s) (ht:C5 (some c) (some e)=some t) (hd:C5 (some s) (some e)=some d)
  (h3:letI:=M8 hc;∀X:CP b,X.1=some a∨X.1=some c->(X+X+X=0->X=0)∧(X+X+X+X+X=0->X=0)) :
  (a.1≠s.1∧a.1≠t.1)∨(c.1≠s.1∧c.1≠t.1)∨(e.1≠s.1∧e.1≠t.1):=by
 letI:=M8 hc
 have os:OnC b (some s):=hs ▸ J8 hc _ _ ha hcc;have ot:OnC b (some t):=ht ▸ J8 hc _ _ hcc he;generalize hA:toC (some a) ha=A;generalize hB:toC (some c) hcc=B;generalize hC:toC (some e) he=C;have hS:toC (some s) os=A+B:=by rw[<-hA,<-hB];exact Subtype.ext hs.symm
 have hT:toC (some t) ot=B+C:=by rw[<-hB,<-hC];exact Subtype.ext ht.symm
 have nA:A≠0:=fun h=>by rw[<-hA] at h;exact absurd (congrArg Subtype.val h) (fun e=>nomatch e)
 have nB:B≠0:=fun h=>by rw[<-hB] at h;exact absurd (congrArg Subtype.val h) (fun e=>nomatch e)
 have nC:C≠0:=fun h=>by rw[<-hC] at h;exact absurd (congrArg Subtype.val h) (fun e=>nomatch e)
 have nS:A+B≠0:=fun h=>by rw[<-hS] at h;exact absurd (congrArg Subtype.val h) (fun e=>nomatch e)
 have nT:B+C≠0:=fun h=>by rw[<-hT] at h;exact absurd (congrArg Subtype.val h) (fun e=>nomatch e)
 have nD:A+B+C≠0:=fun h=>by
  rw[<-hS,<-hC] at h;have h:C5 (some s) (some e)=none:=congrArg Subtype.val h;rw[hd] at h
  cases h
 have sm:∀{p q:F×F} (hp:OnC b (some p)) (hq:OnC b (some q)),p.1=q.1->toC (some q) hq=toC (some p) hp∨toC (some q) hq = -(toC (some p) hp):=by
  intro p q hp hq e;rcases C4w hp hq e with h | h
  ·left;subst h;rfl
  ·right;subst h;rfl
 have h3A:=h3 A (.inl (by rw[<-hA];rfl))
 have h3B:=h3 B (.inr (by rw[<-hB];rfl))
 by_cases k1:a.1≠s.1∧a.1≠t.1
 ·exact .inl k1
 by_cases k2:c.1≠s.1∧c.1≠t.1
 ·exact .inr (.inl k2)
 by_cases k3:e.1≠s.1∧e.1≠t.1
 ·exact .inr (.inr k3)
 exfalso
 have neg:∀{x y z:F},¬(x≠y∧x≠z)->x=y∨x=z:=by
  intro x y z h;by_cases h1:x=y
  ·exact .inl h1
  ·by_cases h2:x=z
   ·exact .inr h2
   ·exact absurd ⟨h1,h2⟩ h
 have j1:A+A+B=0∨A=B+C:=by
  rcases neg k1 with k | k
  ·rcases sm ha os k with h | h
   ·rw[hS,hA] at h;exact absurd (by clear neg sm h3 h3A h3B k1 k2 k3;grind:B=0) nB
   ·rw[hS,hA] at h;left;clear neg sm h3 h3A h3B k1 k2 k3;grind
  ·rcases sm ha ot k with h | h
   ·rw[hT,hA] at h;exact .inr h.symm
   ·rw[hT,hA] at h;exact absurd (by clear neg sm h3 h3A h3B k1 k2 k3;grind:A+B+C=0) nD
 have j2:B+A+B=0∨B+B+C=0:=by
  rcases neg k2 with k | k
  ·rcases sm hcc os k with h | h
   ·rw[hS,hB] at h;exact absurd (by clear neg sm h3 h3A h3B k1 k2 k3 j1;grind:A=0) nA
   ·rw[hS,hB] at h;left;clear neg sm h3 h3A h3B k1 k2 k3 j1;grind
  ·rcases sm hcc ot k with h | h
   ·rw[hT,hB] at h;exact absurd (by clear neg sm h3 h3A h3B k1 k2 k3 j1;grind:C=0) nC
   ·rw[hT,hB] at h;right;clear neg sm h3 h3A h3B k1 k2 k3 j1;grind
 have j3:C=A+B∨C+B+C=0:=by
  rcases neg k3 with k | k
  ·rcases sm he os k with h | h
   ·rw[hS,hC] at h;exact .inl h.symm
   ·rw[hS,hC] at h;exact absurd (by clear neg sm h3 h3A h3B k1 k2 k3 j1 j2;grind:A+B+C=0) nD
  ·rcases sm he ot k with h | h
   ·rw[hT,hC] at h;exact absurd (by clear neg sm h3 h3A h3B k1 k2 k3 j1 j2;grind:B=0) nB
   ·rw[hT,hC] at h;right;clear neg sm h3 h3A h3B k1 k2 k3 j1 j2;grind
 exact G9n (G3r hc) h3A.1 h3A.2 h3B.2 nA nB nS j1 j2 j3

theorem J0i {x y y' : F} (hy:x≠0) (h:x*y=x*y'):y=y' := by
 refine C0t hy ?_
 rw[show y*x=x*y from by grind,show y' * x=x*y' from by grind]
 exact h
theorem D2v {y r r' : F} (hy:y≠0) {v:F} (h1:v=y*r) (h2:v=y*r'):r=r' := J0i hy (h1.symm.trans h2)
/-- What two lines, one behind the other, make: the same in either grouping. -/
theorem H1l (hc:Cv b) {a c e s t d:F×F} (ha:OnC b (some a)) (hcc:OnC b (some c)) (he:OnC b (some e)) (hs:C5 (some a) (some c)=some s) (ht:C5 (some c) (some e)=some t) (hd:C5 (some s) (some e)=some d) (hd2:C5 (some a) (some t)=some d)
  (hU:(a.1≠s.1∧a.1≠t.1)∨(c.1≠s.1∧c.1≠t.1)∨(e.1≠s.1∧e.1≠t.1)) :
  s.1+slp a c*slp s e=t.1+slp c e*slp a t∧s.1*s.1+s.2*(slp a c-slp s e)-slp a c*slp s e*s.1=t.1*t.1+t.2*(slp c e-slp a t)-slp c e*slp a t*t.1∧slp a c+slp s e=slp c e+slp a t:=by
 have os:OnC b (some s):=hs ▸ J8 hc _ _ ha hcc;have ot:OnC b (some t):=ht ▸ J8 hc _ _ hcc he;have T1:=O6 hc ha hcc hs;have T2:=O6 hc os he hd;have T3:=O6 hc hcc he ht;have T4:=(O6 hc ha ot hd2).swap;generalize slp a c=l1 at *;generalize icp a c=m1 at *;generalize slp s e=l2 at *;generalize icp s e=m2 at *;generalize slp c e=n1 at *;generalize icp c e=o1 at *;generalize slp a t=n2 at *;generalize icp a t=o2 at *;obtain ⟨u1,u2,u3,u4⟩:=C8e T1.ln T2.ln T1.y3 T2.y1 os;obtain ⟨v1,v2,v3,v4⟩:=C8e T3.ln T4.ln T3.y3 T4.y1 ot;have P:s.1+l1*l2=t.1+n1*n2∧s.1*s.1+s.2*(l1-l2)-l1*l2*s.1=t.1*t.1+t.2*(n1-n2)-n1*n2*t.1:=by
  have z:∀{w x y z:F},w+x+y+z=x+y+w+z∧w*x+w*y+w*z+x*y+x*z+y*z=x*y+x*w+x*z+y*w+y*z+w*z∧w*x*y+w*x*z+w*y*z+x*y*z=x*y*w+x*y*z+x*w*z+y*w*z∧w*x*y*z=x*y*w*z:=by
   intro w x y z;clear u1 u2 u3 u4 v1 v2 v3 v4 T1 T2 T3 T4 os ot ha hcc he hs ht hd hd2 hU;refine ⟨?_,?_,?_,?_⟩<;>grind
  exact F1l hc (r:=l1+l2) (r' := n1+n2) (u1.trans ((congrArg (fun x=>0-x) z.1).trans v1.symm)) (u2.trans (z.2.1.trans v2.symm)) (u3.trans ((congrArg (fun x=>0-x) z.2.2.1).trans v3.symm)) (u4.trans (z.2.2.2.trans v4.symm))
 refine ⟨P.1,P.2,?_⟩
 rcases hU with ⟨h1,h2⟩ | ⟨h1,h2⟩ | ⟨h1,h2⟩
 ·have e1:=A5i T1.y3 T2.y1 os ha T1.y1 h1
  have e2:=C5s T3.y3 T4.y1 ot ha T4.y2 h2;rw[show (ngp t).1=t.1 from rfl,<-P.1,<-P.2] at e2
  rw[show (ngp s).1=s.1 from rfl] at e1
  exact D2v (B3w hc ha) e1 e2
 ·have e1:=A5i T1.y3 T2.y1 os hcc T1.y2 h1
  have e2:=A5i T3.y3 T4.y1 ot hcc T3.y1 h2;rw[show (ngp t).1=t.1 from rfl,<-P.1,<-P.2] at e2
  rw[show (ngp s).1=s.1 from rfl] at e1
  exact D2v (B3w hc hcc) e1 e2
 ·have e1:=C5s T1.y3 T2.y1 os he T2.y2 h1
  have e2:=A5i T3.y3 T4.y1 ot he T3.y2 h2;rw[show (ngp t).1=t.1 from rfl,<-P.1,<-P.2] at e2
  rw[show (ngp s).1=s.1 from rfl] at e1
  exact D2v (B3w hc he) e1 e2
end

section
variable {F K:Type} [Fld F] [DecidableEq F] [J7 K]
/-- Elements of the lesser ring, in the greater one. -/
structure Hom (f:F->K):Prop where
 add:∀x y,f (x+y)=f x+f y
 mul:∀x y,f (x*y)=f x*f y
 sub:∀x y,f (x-y)=f x-f y
theorem Hom.zero {f:F->K} (h:Hom f):f 0=0:=by
 have:f (0-0)=f 0-f 0:=h.sub 0 0
 rw[show (0:F)-0=0 from by grind] at this
 rw[this];clear this;grind
theorem D7t {l1 m1 l2 m2 xs ys b X:K} (k1:0-ys=l1*xs+m1) (k2:ys=l2*xs+m2) (hs:ys*ys=xs*xs*xs+b) :
  X*X*X+b+(l1*X+m1)*(l2*X+m2)=(X-xs)*(X*X+(xs+l1*l2)*X+(xs*xs+ys*(l1-l2)-l1*l2*xs))∧(l1*X+m1)+(l2*X+m2)=(X-xs)*(l1+l2):=by
 have e1:m1=0-ys-l1*xs:=by clear k2 hs;grind
 have e2:m2=ys-l2*xs:=by clear k1 hs;grind
 have e3:b=ys*ys-xs*xs*xs:=by clear k1 k2 e1 e2;grind
 subst e1 e2 e3;clear k1 k2 hs;constructor<;>grind
theorem G1x {b X l1 m1 l2 m2 xs ys n1 o1 n2 o2 xt yt:K} (k1:0-ys=l1*xs+m1) (k2:ys=l2*xs+m2) (hs:ys*ys=xs*xs*xs+b) (j1:0-yt=n1*xt+o1) (j2:yt=n2*xt+o2) (ht:yt*yt=xt*xt*xt+b)
  (p:xs+l1*l2=xt+n1*n2) (q:xs*xs+ys*(l1-l2)-l1*l2*xs=xt*xt+yt*(n1-n2)-n1*n2*xt) (r:l1+l2=n1+n2) :
  (X*X*X+b+(l1*X+m1)*(l2*X+m2))*((n1*X+o1)+(n2*X+o2))=(X*X*X+b+(n1*X+o1)*(n2*X+o2))*((l1*X+m1)+(l2*X+m2)):=by
 obtain ⟨u1,u2⟩:=D7t (X:=X) k1 k2 hs;obtain ⟨v1,v2⟩:=D7t (X:=X) j1 j2 ht;rw[u1,u2,v1,v2,p,q,r];clear u1 u2 v1 v2 p q r k1 k2 hs j1 j2 ht;generalize X*X+(xt+n1*n2)*X+(xt*xt+yt*(n1-n2)-n1*n2*xt)=Q;grind
end

section
variable {F K:Type} [Fld F] [DecidableEq F] [J7 K] [Nrs K] {b:F}
/-- The line through two points, if these and their sum are not at infinity. -/
def lda:Pt F->Pt F->Option (F×F)
 | some p,some q=>if C5 (some p) (some q)=none then none else some (slp p q,icp p q)
 | _,_=>none
/-- A line at a place: X, and y0 times the square root. -/
def evl (f:F->K) (X y0:K):Option (F×F)->E2 K
 | none=>1
 | some l=>⟨-(f l.1*X+f l.2),y0⟩
/-- The same, but for an element of the lesser ring. -/
def Ass (u v:E2 K):Prop:=u.a*v.b=v.a*u.b
theorem B2m (P:Pt F):lda P none=none:=by cases P<;>rfl
theorem J5 {p q s:F×F} (h:C5 (some p) (some q)=some s):lda (some p) (some q)=some (slp p q,icp p q):=by
 exact if_neg (fun e=>by rw[h] at e;cases e)
theorem O3 {p q:F×F} (h:C5 (some p) (some q)=none):lda (some p) (some q)=none:=if_pos h
theorem W6 {p q:F×F} (hp:OnC b (some p)) (hq:OnC b (some q)) (hc:Cv b) (h:C5 (some p) (some q)=none):q=ngp p:=by
 unfold C5 at h;dsimp only at h;split at h
 ·rename_i e
  split at h
  ·cases h
  ·rename_i e2
   rcases C4w hp hq e with h | h
   ·subst h
    exact absurd ⟨rfl,B3w hc hp⟩ e2
   ·exact h
 ·cases h
theorem A7u (p:F×F):ngp (ngp p)=p:=Prod.ext rfl (by show 0-(0-p.2)=p.2;grind)
theorem D6v {f:F->K} (hf:Hom f) (l m:F) (X:K):f (0-l)*X+f (0-m) = -(f l*X+f m):=by
 rw[hf.sub,hf.sub,hf.zero];grind
theorem Ass.refl (u:E2 K):Ass u u:=rfl
theorem Ass.symm {u v:E2 K} (h:Ass u v):Ass v u:=Eq.symm h
theorem D3x {f:F->K} (hf:Hom f) (X y0:K) (l m:F):Ass (1*1) (evl f X y0 (some (l,m))*evl f X y0 (some (0-l,0-m))):=by
 unfold Ass evl;simp only[E2.mul_a,E2.mul_b,E2.one_a,E2.one_b,D6v hf];grind
theorem E2.one_mul (u:E2 K):1*u=u:=E2.ext' (by simp only[E2.mul_a,E2.one_a,E2.one_b];grind) (by simp only[E2.mul_b,E2.one_a,E2.one_b];grind)
theorem E2.mul_one (u:E2 K):u*1=u:=E2.ext' (by simp only[E2.mul_a,E2.one_a,E2.one_b];grind) (by simp only[E2.mul_b,E2.one_a,E2.one_b];grind)
/-- Lines, one behind the other: the same in either grouping. -/
theorem I8g (hc:Cv b) {f:F->K} (hf:Hom f) {X y0:K} (hX:Nrs.xi*(y0*y0)=X*X*X+f b) {A B C:Pt F} (hA:OnC b A) (hB:OnC b B) (hC:OnC b C)
  (h3:letI:=M8 hc;∀X:CP b,X.1=A∨X.1=B->(X+X+X=0->X=0)∧(X+X+X+X+X=0->X=0)) :
  Ass (evl f X y0 (lda A B)*evl f X y0 (lda (C5 A B) C)) (evl f X y0 (lda B C)*evl f X y0 (lda A (C5 B C))):=by
 cases A with
 | none=>
  show Ass (1*evl f X y0 (lda B C)) (evl f X y0 (lda B C)*1);rw[E2.one_mul,E2.mul_one];rfl
 | some a=>
  cases B with
  | none=>
   show Ass (1*evl f X y0 (lda (some a) C)) (1*evl f X y0 (lda (some a) C));rfl
  | some c=>
   cases C with
   | none=>
    rw[B2m,B2m,O9];show Ass (_*1) (1*_);rw[E2.one_mul,E2.mul_one];rfl
   | some e=>
    have has:=O1 hc _ _ _ hA hB hC;have hcs:=V5 hc _ _ hA hB;have hcs2:=V5 hc _ _ hB hC
    cases hs:C5 (some a) (some c) with
    | none=>
     rw[hs] at has;rw[O3 hs]
     cases ht:C5 (some c) (some e) with
     | none=>
      rw[O3 ht,B2m];rfl
     | some t=>
      rw[ht] at has;have T:=(O6 hc hB hC ht).mir;rw[A7u] at T;have ea:=W6 hB hA hc (hcs.symm.trans hs);rw[<-ea] at T;have k:=B6f hc T.rot.rot.swap hA has.symm;show Ass (1*1) _;rw[J5 ht,J5 has.symm,k.1,k.2];exact D3x hf X y0 _ _
    | some s=>
     have os:OnC b (some s):=hs ▸ J8 hc _ _ hA hB;have T1:=O6 hc hA hB hs;rw[hs] at has;rw[J5 hs]
     cases ht:C5 (some c) (some e) with
     | none=>
      rw[ht,O9] at has;have T:=T1.mir;rw[A7u,<-W6 hB hC hc ht] at T;have k:=B6f hc T.rot.swap os has;rw[O3 ht,B2m,J5 has,k.1,k.2];exact (D3x hf X y0 _ _).symm
     | some t=>
      have ot:OnC b (some t):=ht ▸ J8 hc _ _ hB hC;rw[ht] at has;rw[J5 ht]
      cases hd:C5 (some s) (some e) with
      | none=>
       rw[hd] at has;have T:=T1.rot;rw[<-W6 os hC hc hd] at T;have k:=B6f hc T hB ht;rw[O3 hd,O3 has.symm,k.1,k.2];rfl
      | some d=>
       rw[hd] at has;have Q:=H1l hc hA hB hC hs ht hd has.symm (I3t hc hA hB hC hs ht hd h3);have T2:=O6 hc os hC hd;have T3:=O6 hc hB hC ht;have T4:=(O6 hc hA ot has.symm).swap;rw[J5 hd,J5 has.symm];generalize slp a c=l1 at *;generalize icp a c=m1 at *;generalize slp s e=l2 at *;generalize icp s e=m2 at *;generalize slp c e=n1 at *;generalize icp c e=o1 at *;generalize slp a t=n2 at *;generalize icp a t=o2 at *;have im:∀{y l x m:F},y=l*x+m->f y=f l*f x+f m:=by
        intro y l x m h;rw[h,hf.add,hf.mul]
       have im0:∀{y l x m:F},0-y=l*x+m->0-f y=f l*f x+f m:=by
        intro y l x m h;rw[<-hf.mul,<-hf.add,<-h,hf.sub,hf.zero]
       have imc:∀{y x:F},y*y=x*x*x+b->f y*f y=f x*f x*f x+f b:=by
        intro y x h;rw[<-hf.mul,h,hf.add,hf.mul,hf.mul]
       have R:=G1x (X:=X) (im0 T1.y3) (im T2.y1) (imc os) (im0 T3.y3) (im T4.y1) (imc ot)
        (by rw[<-hf.mul,<-hf.add,<-hf.mul,<-hf.add,show (ngp s).1=s.1 from rfl,show (ngp t).1=t.1 from rfl,Q.1])
        (by rw[<-hf.mul,<-hf.sub,<-hf.mul,<-hf.add,<-hf.mul,<-hf.mul,<-hf.sub,<-hf.mul,<-hf.sub,<-hf.mul,<-hf.add,<-hf.mul,<-hf.mul,<-hf.sub,show (ngp s).1=s.1 from rfl,show (ngp t).1=t.1 from rfl,Q.2.1])
        (by rw[<-hf.add,<-hf.add,Q.2.2])
       unfold Ass evl;simp only[E2.mul_a,E2.mul_b];rw[hX];clear Q T1 T2 T3 T4 im im0 imc hX h3 has;generalize f l1*X+f m1=M1 at *;generalize f l2*X+f m2=M2 at *;generalize f n1*X+f o1=N1 at *;generalize f n2*X+f o2=N2 at *;generalize X*X*X+f b=U at *;have e1:-M1 * -M2+U=U+M1*M2:=by clear R;grind
       have e2:-N1 * -N2+U=U+N1*N2:=by clear R;grind
       have e3:-N1*y0+y0 * -N2=(N1+N2)*(-y0):=by clear R;grind
       have e4:-M1*y0+y0 * -M2=(M1+M2)*(-y0):=by clear R;grind
       rw[e1,e2,e3,e4];have e5:∀a c d:K,a*(c*d)=a*c*d:=by intro a c d;clear R;grind
       rw[e5,e5,R]
end
end

set_option linter.unusedVariables false
set_option linter.unusedSectionVars false
section

section
variable {R:Type} [J7 R]
theorem H3t (d e x1 x2 x3:R):(d*x1+e)*(d*x2+e)*(d*x3+e)=d*d*d*(x1*x2*x3)+d*d*e*(x1*x2+x1*x3+x2*x3)+d*e*e*(x1+x2+x3)+e*e*e:=by grind
theorem E9o (l m L M x:R):L*x+M-(l*x+m)=(L-l)*x+(M-m):=by grind
/-- The one line at the other one's points. -/
theorem I6x {b l m L M x1 x2 x3 X1 X2 X3:R} (a1:x1+x2+x3=l*l) (a2:x1*x2+x1*x3+x2*x3=0-(l*m+l*m)) (a3:x1*x2*x3=m*m-b)
  (A1:X1+X2+X3=L*L) (A2:X1*X2+X1*X3+X2*X3=0-(L*M+L*M)) (A3:X1*X2*X3=M*M-b) :
  (L*X1+M-(l*X1+m))*(L*X2+M-(l*X2+m))*(L*X3+M-(l*X3+m))=(L*x1+M-(l*x1+m))*(L*x2+M-(l*x2+m))*(L*x3+M-(l*x3+m)):=by
 rw[E9o,E9o,E9o,E9o,E9o,E9o,H3t,H3t,a1,a2,a3,A1,A2,A3];clear a1 a2 a3 A1 A2 A3;grind
end

section
variable {K:Type} [Fld K] [Nrs K] [DecidableEq K]
/-- The conjugate; and by what it is its element. -/
def cj (u:E2 K):E2 K:=⟨u.a,-u.b⟩
def et (u:E2 K):E2 K:=cj u*A3q u
theorem B9p (u v:E2 K):cj (u*v)=cj u*cj v:=E2.ext' (by show u.a*v.a+Nrs.xi*(u.b*v.b)=u.a*v.a+Nrs.xi*(-u.b * -v.b);grind) (by show -(u.a*v.b+u.b*v.a)=u.a * -v.b + -u.b*v.a;grind)
theorem F3e (u:E2 K):cj (cj u)=u:=E2.ext' rfl (by show - -u.b=u.b;grind)
theorem F3f:cj (1:E2 K)=1:=E2.ext' rfl (by show -(0:K)=0;grind)
variable (h:∀t:K,t*t≠Nrs.xi)
include h
theorem K0 {u:E2 K} (hu:u≠0):et u*u=cj u:=by
 have e:=A7o h u hu;unfold et;generalize A3q u=i at *;generalize cj u=c at *;have:c*i*u=c*(u*i):=by clear e;grind
 rw[this,e];clear e this;grind
theorem C9j {u v w:E2 K} (hw:w≠0) (e:u*w=v*w):u=v:=by
 have k:=A7o h w hw;have:u*w*A3q w=v*w*A3q w:=by rw[e]
 generalize A3q w=i at *;have e1:u*w*i=u*(w*i):=by clear k this e;grind
 have e2:v*w*i=v*(w*i):=by clear k this e e1;grind
 rw[e1,e2,k] at this;clear k e e1 e2;grind
theorem B6w {u e:E2 K} (hu:u≠0) (k:e*u=cj u):e=et u:=C9j h hu (k.trans (K0 h hu).symm)
theorem A8i {u v:E2 K} (hu:u≠0) (hv:v≠0):u*v≠0:=fun e=>hu (C9j h hv (by rw[e];clear e;grind))
theorem A1s {u v:E2 K} (hu:u≠0) (hv:v≠0):et (u*v)=et u*et v:=by
 symm
 refine B6w h (A8i h hu hv) ?_
 rw[B9p,<-K0 h hu,<-K0 h hv];generalize et u=a;generalize et v=c;grind
theorem C6a {u:E2 K} (hu:u≠0):cj u≠0:=fun e=>hu (by rw[<-F3e u,e];exact E2.ext' rfl (by show -(0:K)=0;grind))
theorem D4t {u:E2 K} (hu:u≠0):et (cj u)*et u=1:=by
 have k1:=K0 h hu;have k2:=K0 h (C6a h hu);rw[F3e] at k2;refine C9j h hu ?_
 generalize et u=a at *;generalize et (cj u)=c at *;have:c*a*u=c*(a*u):=by clear k1 k2;grind
 rw[this,k1,k2];clear this k1 k2;grind
theorem E0g {u v:E2 K} (hu:u≠0) (hv:v≠0) (e:Ass u v):et u=et v:=by
 symm
 refine B6w h hu ?_
 refine C9j h hv ?_
 have k:=K0 h hv;have:et v*u*v=et v*v*u:=by generalize et v=c;clear k e;grind
 rw[this,k];have e:u.a*v.b=v.a*u.b:=e;refine E2.ext' ?_ ?_
 ·show v.a*u.a+Nrs.xi*(-v.b*u.b)=u.a*v.a+Nrs.xi*(-u.b*v.b);grind
 ·show v.a*u.b + -v.b*u.a=u.a*v.b + -u.b*v.a
  clear k this;grind
theorem H5g {u:E2 K} (hu:u≠0):et (-u)=et u:=by
  have hn : -u ≠ 0 := fun e => hu (by have : u = -(-u) := by clear e; grind
                                      rw[this,e];clear e this;grind)
  refine (B6w h hn ?_).symm
  have k:=K0 h hu;have e1:et u * -u = -(et u*u):=by generalize et u=c;clear k;grind
  rw[e1,k];exact E2.ext' rfl rfl
theorem F4o {x:K} (hx:x≠0):et (⟨x,0⟩:E2 K)=1:=by
 have hu:(⟨x,0⟩:E2 K)≠0:=fun e=>hx (congrArg E2.a e)
 refine (B6w h hu ?_).symm
 rw[E2.one_mul];exact E2.ext' rfl (by show (0:K) = -0;grind)
theorem C9n:et (1:E2 K)=1:=F4o h (x:=1) Fld.one_ne
end
end

set_option linter.unusedVariables false
set_option linter.unusedSectionVars false
section

section
variable {F0 F K:Type} [Fld F0] [DecidableEq F0] [Fld F] [DecidableEq F] [Fld K] [DecidableEq K] [Nrs K] {b0:F0} {b:F}
/-- The lesser field, the middle one, and how the curves lie in the greater one. -/
structure Emb (b0:F0) (b:F) (f0:F0->K) (f:F->K):Prop where
 h0:Hom f0
 h:Hom f
 n0:∀y,y≠0->f0 y*Nrs.xi≠0
 n:∀y,y≠0->f y≠0
 hb:Nrs.xi*Nrs.xi*Nrs.xi*f0 b0=f b
 c0:Cv b0
 c:Cv b
 ns:∀t:K,t*t≠Nrs.xi
variable (f0:F0->K) (f:F->K)
/-- The line through two points of the second curve, at one of the first one. -/
def Dp (P:Pt F0) (A B:Pt F):E2 K:=
 match P with
 | none=>1
 | some p=>et (evl f (f0 p.1*Nrs.xi) (f0 p.2*Nrs.xi) (lda A B))
/-- The line through two points of the first curve, at one of the second one. -/
def lae (l:F0×F0) (a:F×F):E2 K:=⟨f a.2,-(f0 l.1*f a.1+f0 l.2*Nrs.xi)⟩
def Ep (P Q:Pt F0) (A:Pt F):E2 K:=
 match lda P Q,A with
 | some l,some a=>et (lae f0 f l a)
 | _,_=>1
variable {f0 f}
theorem A8v (P Q:Pt F0):Ep f0 f P Q none=1:=by
 unfold Ep;split
 ·rename_i h;cases h
 ·rfl
theorem P7 {P Q:Pt F0} (h:lda P Q=none) (A:Pt F):Ep f0 f P Q A=1:=by
 unfold Ep;rw[h]
theorem Z8 {P Q:Pt F0} {l:F0×F0} (h:lda P Q=some l) (a:F×F):Ep f0 f P Q (some a)=et (lae f0 f l a):=by
 unfold Ep;rw[h]
theorem T8 (P:Pt F0) {A B:Pt F} (e:Emb b0 b f0 f) (h:lda A B=none):Dp f0 f P A B=1:=by
 cases P with
 | none=>rfl
 | some p=>
  show et (evl f _ _ (lda A B))=1;rw[h];exact C9n e.ns
theorem A0t (e:Emb b0 b f0 f) {p:F0×F0} (hp:OnC b0 (some p)) (L:Option (F×F)):evl f (f0 p.1*Nrs.xi) (f0 p.2*Nrs.xi) L≠0:=by
 cases L with
 | none=>intro h;exact Fld.one_ne (congrArg E2.a h)
 | some l=>intro h;exact e.n0 _ (B3w e.c0 hp) (congrArg E2.b h)
theorem A4j (e:Emb b0 b f0 f) {a:F×F} (ha:OnC b (some a)) (l:F0×F0):lae f0 f l a≠0:=fun h=>e.n _ (B3w e.c ha) (congrArg E2.a h)
theorem I5z (e:Emb b0 b f0 f) (y:F0):f0 (0-y)*Nrs.xi = -(f0 y*Nrs.xi):=by rw[e.h0.sub,e.h0.zero];grind
theorem G6g (e:Emb b0 b f0 f) (p:F0×F0) (l:F×F):evl f (f0 (ngp p).1*Nrs.xi) (f0 (ngp p).2*Nrs.xi) (some l)=cj (evl f (f0 p.1*Nrs.xi) (f0 p.2*Nrs.xi) (some l)):=E2.ext' rfl (I5z e p.2)
theorem E6a (e:Emb b0 b f0 f) (a:F×F) (l:F0×F0):lae f0 f l (ngp a) = -cj (lae f0 f l a):=by
 refine E2.ext' ?_ ?_
 ·show f (0-a.2) = -f a.2
  rw[e.h.sub,e.h.zero];grind
 ·show -(f0 l.1*f a.1+f0 l.2*Nrs.xi) = - -(-(f0 l.1*f a.1+f0 l.2*Nrs.xi))
  grind
theorem E0h (e:Emb b0 b f0 f) {u:E2 K} (hu:u≠0):et (-cj u)*et u=1:=by rw[H5g e.ns (C6a e.ns hu),D4t e.ns hu]
/-- Both lines, each at the other one's points. -/
theorem F0t (e:Emb b0 b f0 f) {l m:F} {a c s:F×F} (T:Tri b l m a c (ngp s)) {L M:F0} {p q t:F0×F0} (U:Tri b0 L M p q (ngp t)) :
  evl f (f0 p.1*Nrs.xi) (f0 p.2*Nrs.xi) (some (l,m))*evl f (f0 q.1*Nrs.xi) (f0 q.2*Nrs.xi) (some (l,m))*cj (evl f (f0 t.1*Nrs.xi) (f0 t.2*Nrs.xi) (some (l,m)))=lae f0 f (L,M) a*lae f0 f (L,M) c*cj (lae f0 f (L,M) s):=by
 have im:∀{y l x m:F},y=l*x+m->f y=f l*f x+f m:=by
  intro y l x m h;rw[h,e.h.add,e.h.mul]
 have im0:∀{y l x m:F0},y=l*x+m->f0 y=f0 l*f0 x+f0 m:=by
  intro y l x m h;rw[h,e.h0.add,e.h0.mul]
 have a1:f a.1+f c.1+f s.1=f l*f l:=by rw[<-e.h.add,<-e.h.add,<-e.h.mul];exact congrArg f T.ln.e1
 have a2:f a.1*f c.1+f a.1*f s.1+f c.1*f s.1=0-(f l*f m+f l*f m):=by
  rw[<-e.h.zero];simp only[<-e.h.mul,<-e.h.add,<-e.h.sub];exact congrArg f T.ln.e2
 have a3:f a.1*f c.1*f s.1=f m*f m-f b:=by simp only[<-e.h.mul,<-e.h.sub];exact congrArg f T.ln.e3
 have A1:f0 p.1+f0 q.1+f0 t.1=f0 L*f0 L:=by rw[<-e.h0.add,<-e.h0.add,<-e.h0.mul];exact congrArg f0 U.ln.e1
 have A2:f0 p.1*f0 q.1+f0 p.1*f0 t.1+f0 q.1*f0 t.1=0-(f0 L*f0 M+f0 L*f0 M):=by
  rw[<-e.h0.zero];simp only[<-e.h0.mul,<-e.h0.add,<-e.h0.sub];exact congrArg f0 U.ln.e2
 have A3:f0 p.1*f0 q.1*f0 t.1=f0 M*f0 M-f0 b0:=by simp only[<-e.h0.mul,<-e.h0.sub];exact congrArg f0 U.ln.e3
 have y1:=im0 U.y1;have y2:=im0 U.y2;have y3:=im0 U.y3;have z1:=im T.y1;have z2:=im T.y2;have z3:=im T.y3;have y3:f0 t.2=0-(f0 L*f0 t.1+f0 M):=by
  have:f0 (0-t.2)=f0 L*f0 t.1+f0 M:=y3
  rw[<-this,e.h0.sub,e.h0.zero];clear this a1 a2 a3 A1 A2 A3 y1 y2 y3 z1 z2 z3;grind
 have z3:f s.2=0-(f l*f s.1+f m):=by
  have:f (0-s.2)=f l*f s.1+f m:=z3
  rw[<-this,e.h.sub,e.h.zero];clear this a1 a2 a3 A1 A2 A3 y1 y2 y3 z1 z2 z3;grind
 have hb:=e.hb;clear im im0 T U;generalize hx1:f a.1=x1 at *;generalize hx2:f c.1=x2 at *;generalize hx3:f s.1=x3 at *;generalize hX1:f0 p.1=X1 at *;generalize hX2:f0 q.1=X2 at *;generalize hX3:f0 t.1=X3 at *;have R:=I6x (b:=(⟨f b,0⟩:E2 K)) (l:=⟨f l,0⟩) (m:=⟨f m,0⟩) (L:=⟨0,f0 L⟩) (M:=⟨0,f0 M*Nrs.xi⟩) (x1:=⟨x1,0⟩) (x2:=⟨x2,0⟩) (x3:=⟨x3,0⟩) (X1:=⟨X1*Nrs.xi,0⟩) (X2:=⟨X2*Nrs.xi,0⟩) (X3:=⟨X3*Nrs.xi,0⟩)
  (by refine E2.ext' ?_ ?_<;>simp only[E2.add_a,E2.add_b,E2.mul_a,E2.mul_b]<;>clear a2 a3 A1 A2 A3 y1 y2 y3 z1 z2 z3 hb<;>grind)
  (by refine E2.ext' ?_ ?_<;>simp only[E2.add_a,E2.add_b,E2.mul_a,E2.mul_b,E2.sub_a,E2.sub_b,E2.zero_a,E2.zero_b]<;>clear a1 a3 A1 A2 A3 y1 y2 y3 z1 z2 z3 hb<;>grind)
  (by refine E2.ext' ?_ ?_<;>simp only[E2.mul_a,E2.mul_b,E2.sub_a,E2.sub_b]<;>clear a1 a2 A1 A2 A3 y1 y2 y3 z1 z2 z3 hb<;>grind)
  (by refine E2.ext' ?_ ?_<;>simp only[E2.add_a,E2.add_b,E2.mul_a,E2.mul_b]<;>clear a1 a2 a3 A2 A3 y1 y2 y3 z1 z2 z3 hb<;>grind)
  (by refine E2.ext' ?_ ?_<;>simp only[E2.add_a,E2.add_b,E2.mul_a,E2.mul_b,E2.sub_a,E2.sub_b,E2.zero_a,E2.zero_b]<;>clear a1 a2 a3 A1 A3 y1 y2 y3 z1 z2 z3 hb<;>grind)
  (by refine E2.ext' ?_ ?_<;>simp only[E2.mul_a,E2.mul_b,E2.sub_a,E2.sub_b]<;>clear a1 a2 a3 A1 A2 y1 y2 y3 z1 z2 z3<;>grind)
 clear a1 a2 a3 A1 A2 A3 hb;have p1:evl f (X1*Nrs.xi) (f0 p.2*Nrs.xi) (some (l,m))=(⟨0,f0 L⟩:E2 K)*⟨X1*Nrs.xi,0⟩+⟨0,f0 M*Nrs.xi⟩-((⟨f l,0⟩:E2 K)*⟨X1*Nrs.xi,0⟩+⟨f m,0⟩):=by
  rw[y1];refine E2.ext' ?_ ?_<;>simp only[evl,E2.add_a,E2.add_b,E2.mul_a,E2.mul_b,E2.sub_a,E2.sub_b]<;>clear R y1 y2 y3 z1 z2 z3<;>grind
 have p2:evl f (X2*Nrs.xi) (f0 q.2*Nrs.xi) (some (l,m))=(⟨0,f0 L⟩:E2 K)*⟨X2*Nrs.xi,0⟩+⟨0,f0 M*Nrs.xi⟩-((⟨f l,0⟩:E2 K)*⟨X2*Nrs.xi,0⟩+⟨f m,0⟩):=by
  rw[y2];refine E2.ext' ?_ ?_<;>simp only[evl,E2.add_a,E2.add_b,E2.mul_a,E2.mul_b,E2.sub_a,E2.sub_b]<;>clear R y1 y2 y3 z1 z2 z3 p1<;>grind
 have p3:cj (evl f (X3*Nrs.xi) (f0 t.2*Nrs.xi) (some (l,m)))=(⟨0,f0 L⟩:E2 K)*⟨X3*Nrs.xi,0⟩+⟨0,f0 M*Nrs.xi⟩-((⟨f l,0⟩:E2 K)*⟨X3*Nrs.xi,0⟩+⟨f m,0⟩):=by
  rw[y3];refine E2.ext' ?_ ?_<;>simp only[evl,cj,E2.add_a,E2.add_b,E2.mul_a,E2.mul_b,E2.sub_a,E2.sub_b]<;>clear R y1 y2 y3 z1 z2 z3 p1 p2<;>grind
 have q1:lae f0 f (L,M) a = -((⟨0,f0 L⟩:E2 K)*⟨x1,0⟩+⟨0,f0 M*Nrs.xi⟩-((⟨f l,0⟩:E2 K)*⟨x1,0⟩+⟨f m,0⟩)):=by
  unfold lae;dsimp only;rw[z1,hx1];refine E2.ext' ?_ ?_<;>simp only[E2.neg_a,E2.neg_b,E2.add_a,E2.add_b,E2.mul_a,E2.mul_b,E2.sub_a,E2.sub_b]<;>clear R y1 y2 y3 z1 z2 z3 p1 p2 p3<;>grind
 have q2:lae f0 f (L,M) c = -((⟨0,f0 L⟩:E2 K)*⟨x2,0⟩+⟨0,f0 M*Nrs.xi⟩-((⟨f l,0⟩:E2 K)*⟨x2,0⟩+⟨f m,0⟩)):=by
  unfold lae;dsimp only;rw[z2,hx2];refine E2.ext' ?_ ?_<;>simp only[E2.neg_a,E2.neg_b,E2.add_a,E2.add_b,E2.mul_a,E2.mul_b,E2.sub_a,E2.sub_b]<;>clear R y1 y2 y3 z1 z2 z3 p1 p2 p3 q1<;>grind
 have q3:cj (lae f0 f (L,M) s)=(⟨0,f0 L⟩:E2 K)*⟨x3,0⟩+⟨0,f0 M*Nrs.xi⟩-((⟨f l,0⟩:E2 K)*⟨x3,0⟩+⟨f m,0⟩):=by
  unfold lae;dsimp only;rw[z3,hx3];refine E2.ext' ?_ ?_<;>simp only[cj,E2.add_a,E2.add_b,E2.mul_a,E2.mul_b,E2.sub_a,E2.sub_b]<;>clear R y1 y2 y3 z1 z2 z3 p1 p2 p3 q1 q2<;>grind
 clear y1 y2 y3 z1 z2 z3;rw[p1,p2,p3,q1,q2,q3,R];clear p1 p2 p3 q1 q2 q3 R;generalize (⟨0,f0 L⟩:E2 K)*⟨x1,0⟩+⟨0,f0 M*Nrs.xi⟩-((⟨f l,0⟩:E2 K)*⟨x1,0⟩+⟨f m,0⟩)=u1;generalize (⟨0,f0 L⟩:E2 K)*⟨x2,0⟩+⟨0,f0 M*Nrs.xi⟩-((⟨f l,0⟩:E2 K)*⟨x2,0⟩+⟨f m,0⟩)=u2;generalize (⟨0,f0 L⟩:E2 K)*⟨x3,0⟩+⟨0,f0 M*Nrs.xi⟩-((⟨f l,0⟩:E2 K)*⟨x3,0⟩+⟨f m,0⟩)=u3;grind
/-- A sum on the first curve. -/
theorem H4v (e:Emb b0 b f0 f) {P Q:Pt F0} {A B:Pt F} (hP:OnC b0 P) (hQ:OnC b0 Q) (hA:OnC b A) (hB:OnC b B) :
  Dp f0 f P A B*Dp f0 f Q A B*Ep f0 f P Q (C5 A B)=Dp f0 f (C5 P Q) A B*(Ep f0 f P Q A*Ep f0 f P Q B):=by
 cases P with
 | none=>
  show 1*Dp f0 f Q A B*Ep f0 f none Q (C5 A B)=Dp f0 f Q A B*(Ep f0 f none Q A*Ep f0 f none Q B);have h:lda none Q=none:=rfl;rw[P7 h,P7 h,P7 h,E2.one_mul,E2.one_mul]
 | some p=>
  cases Q with
  | none=>
   have h:lda (some p) none=none:=rfl;rw[P7 h,P7 h,P7 h,O9,E2.one_mul];show _*1*1=_;rw[E2.mul_one]
  | some q=>
   cases hs:C5 (some p) (some q) with
   | none=>
    have h:=O3 hs;rw[P7 h,P7 h,P7 h,E2.one_mul,E2.mul_one];show _=1*1;rw[E2.one_mul];have eq:=W6 hP hQ e.c0 hs;subst eq
    cases hL:lda A B with
    | none=>rw[T8 _ e hL,T8 _ e hL,E2.one_mul]
    | some l=>
     show et (evl f _ _ (lda A B))*et (evl f _ _ (lda A B))=1;rw[hL,G6g e];have k:=D4t e.ns (A0t e hP (some l));rw[<-k];generalize et (evl f (f0 p.1*Nrs.xi) (f0 p.2*Nrs.xi) (some l))=u;generalize et (cj (evl f (f0 p.1*Nrs.xi) (f0 p.2*Nrs.xi) (some l)))=v;grind
   | some t=>
    have hl:=J5 hs;have ot:OnC b0 (some t):=hs ▸ J8 e.c0 _ _ hP hQ
    cases A with
    | none=>
     rw[T8 _ e rfl,T8 _ e rfl,T8 _ e rfl,A8v,E2.one_mul,E2.one_mul,E2.one_mul,E2.one_mul];rfl
    | some a=>
     cases B with
     | none=>
      rw[T8 _ e rfl,T8 _ e rfl,T8 _ e rfl,A8v,E2.one_mul,E2.one_mul,E2.one_mul,E2.mul_one];rfl
     | some c=>
      cases hs2:C5 (some a) (some c) with
      | none=>
       rw[T8 _ e (O3 hs2),T8 _ e (O3 hs2),T8 _ e (O3 hs2),A8v,E2.one_mul,E2.one_mul,E2.one_mul];have eq:=W6 hA hB e.c hs2;subst eq;rw[Z8 hl,Z8 hl,E6a e];have k:=E0h e (A4j e hA (slp p q,icp p q));rw[<-k];generalize et (-cj (lae f0 f (slp p q,icp p q) a))=u;generalize et (lae f0 f (slp p q,icp p q) a)=v;grind
      | some s=>
       have os:OnC b (some s):=hs2 ▸ J8 e.c _ _ hA hB;have R:=F0t e (O6 e.c hA hB hs2) (O6 e.c0 hP hQ hs);rw[Z8 hl,Z8 hl,Z8 hl];show et (evl f _ _ (lda (some a) (some c)))*et (evl f _ _ (lda (some a) (some c)))*_=et (evl f _ _ (lda (some a) (some c)))*_;rw[J5 hs2];have n1:=A0t e hP (some (slp a c,icp a c));have n2:=A0t e hQ (some (slp a c,icp a c));have n3:=A0t e ot (some (slp a c,icp a c));have m1:=A4j e hA (slp p q,icp p q);have m2:=A4j e hB (slp p q,icp p q);have m3:=A4j e os (slp p q,icp p q);have E:=congrArg et R;rw[A1s e.ns (A8i e.ns n1 n2) (C6a e.ns n3),A1s e.ns n1 n2,A1s e.ns (A8i e.ns m1 m2) (C6a e.ns m3),A1s e.ns m1 m2] at E;have k1:=D4t e.ns n3;have k2:=D4t e.ns m3;clear R n1 n2 n3 m1 m2 m3;generalize et (evl f (f0 p.1*Nrs.xi) (f0 p.2*Nrs.xi) (some (slp a c,icp a c)))=u1 at *;generalize et (evl f (f0 q.1*Nrs.xi) (f0 q.2*Nrs.xi) (some (slp a c,icp a c)))=u2 at *;generalize et (cj (evl f (f0 t.1*Nrs.xi) (f0 t.2*Nrs.xi) (some (slp a c,icp a c))))=u3 at *;generalize et (evl f (f0 t.1*Nrs.xi) (f0 t.2*Nrs.xi) (some (slp a c,icp a c)))=u4 at *;generalize et (lae f0 f (slp p q,icp p q) a)=v1 at *;generalize et (lae f0 f (slp p q,icp p q) c)=v2 at *;generalize et (cj (lae f0 f (slp p q,icp p q) s))=v3 at *;generalize et (lae f0 f (slp p q,icp p q) s)=v4 at *;have r1:u1*u2*v4=u1*u2*u3*u4*v4:=by
        have:u1*u2*u3*u4*v4=u1*u2*(u3*u4)*v4:=by clear E k1 k2;grind
        rw[this,k1,E2.mul_one]
       have r2:u4*(v1*v2)=v1*v2*v3*u4*v4:=by
        have:v1*v2*v3*u4*v4=u4*(v1*v2)*(v3*v4):=by clear E k1 k2 r1;grind
        rw[this,k2,E2.mul_one]
       rw[r1,r2,E]
end
end

set_option linter.unusedVariables false
set_option linter.unusedSectionVars false
section

section
variable {F:Type} [Fld F] [DecidableEq F] {b:F}
theorem F7j (hc:Cv b):∀{A B:Pt F},OnC b A->OnC b B->lda A B=lda B A
 | none,none,_,_=>rfl
 | none,some _,_,_=>rfl
 | some _,none,_,_=>rfl
 | some p,some q,hp,hq=>by
  have e:=V5 hc _ _ hp hq
  cases hs:C5 (some p) (some q) with
  | none=>rw[O3 hs,O3 (e.symm.trans hs)]
  | some s=>
   have hs2:=e.symm.trans hs;have k:=B6f hc (O6 hc hp hq hs).swap hq hs2;rw[J5 hs,J5 hs2,k.1,k.2]
end

section
variable {F0 F K:Type} [Fld F0] [DecidableEq F0] [Fld F] [DecidableEq F] [Fld K] [DecidableEq K] [Nrs K] {b0:F0} {b:F} {f0:F0->K} {f:F->K}
theorem I4h (e:Emb b0 b f0 f) {p:F0×F0} (hp:OnC b0 (some p)):Nrs.xi*(f0 p.2*Nrs.xi*(f0 p.2*Nrs.xi))=f0 p.1*Nrs.xi*(f0 p.1*Nrs.xi)*(f0 p.1*Nrs.xi)+f b:=by
 have hp:p.2*p.2=p.1*p.1*p.1+b0:=hp;have h:f0 p.2*f0 p.2=f0 p.1*f0 p.1*f0 p.1+f0 b0:=by rw[<-e.h0.mul,hp,e.h0.add,e.h0.mul,e.h0.mul]
 have hb:=e.hb;rw[<-hb];have:Nrs.xi*(f0 p.2*Nrs.xi*(f0 p.2*Nrs.xi))=Nrs.xi*Nrs.xi*Nrs.xi*(f0 p.2*f0 p.2):=by clear h hp hb;grind
 rw[this,h];clear this h hp hb;grind
theorem H4s (e:Emb b0 b f0 f) {P:Pt F0} (hP:OnC b0 P) {S:CP b->Prop} (hz:letI:=M8 e.c;S 0) (ha:letI:=M8 e.c;∀{x y:CP b},S x->S y->S (x+y))
  (h3:letI:=M8 e.c;∀X:CP b,S X->(X+X+X=0->X=0)∧(X+X+X+X+X=0->X=0)):letI:=M8 e.c;Coc S (fun A B:CP b=>Dp f0 f P A.1 B.1):=by
 letI:=M8 e.c
 refine ⟨hz,ha,fun {x} hx=>?_,fun {x y} hx hy=>?_,fun {x y z} hx hy hz=>?_⟩
 ·exact T8 P e (A:=none) rfl
 ·show Dp f0 f P x.1 y.1=Dp f0 f P y.1 x.1
  cases P with
  | none=>rfl
  | some p=>
   show et (evl f _ _ (lda x.1 y.1))=et (evl f _ _ (lda y.1 x.1));rw[F7j e.c x.2 y.2]
 ·show Dp f0 f P x.1 y.1*Dp f0 f P (C5 x.1 y.1) z.1=Dp f0 f P y.1 z.1*Dp f0 f P x.1 (C5 y.1 z.1)
  cases P with
  | none=>rfl
  | some p=>
   have k:=I8g e.c e.h (I4h e hP) x.2 y.2 z.2 (fun X hX=>by
    rcases hX with h | h
    ·have:X=x:=Subtype.ext h
     subst this;exact h3 _ hx
    ·have:X=y:=Subtype.ext h
     subst this;exact h3 _ hy)
   have n:=fun L=>A0t (f:=f) e hP L
   have k2:=E0g e.ns (A8i e.ns (n _) (n _)) (A8i e.ns (n _) (n _)) k;rw[A1s e.ns (n _) (n _),A1s e.ns (n _) (n _)] at k2;exact k2
/-- The factor of the whole way is that of the points' sum, but for the line through both. -/
theorem H4t (e:Emb b0 b f0 f) {P Q:Pt F0} (hP:OnC b0 P) (hQ:OnC b0 Q) (A:CP b) (n:Nat):letI:=M8 e.c;
  gth (fun A B:CP b=>Dp f0 f P A.1 B.1) A n*gth (fun A B:CP b=>Dp f0 f Q A.1 B.1) A n*Ep f0 f P Q (mlt A n).1=gth (fun A B:CP b=>Dp f0 f (C5 P Q) A.1 B.1) A n*A7 (Ep f0 f P Q A.1) n:=by
 letI:=M8 e.c
 refine E5t (D1:=fun A B:CP b=>Dp f0 f P A.1 B.1) (D2:=fun A B:CP b=>Dp f0 f Q A.1 B.1) (D3:=fun A B:CP b=>Dp f0 f (C5 P Q) A.1 B.1) (E:=fun A:CP b=>Ep f0 f P Q A.1) (A8v P Q) (fun n=>?_) n
 exact H4v e hP hQ (mlt A n).2 A.2
end
end

set_option linter.unusedVariables false
set_option linter.unusedSectionVars false
section

def nst (n:Nat) (z:Bool):Nat:=if z=true then n+n+1 else n+n
theorem F9r:∀(l:List Bool) (n:Nat),n<=l.foldl nst n
 | [],n=>Nat.le_refl n
 | z::l,n=>by
  refine Nat.le_trans ?_ (F9r l (nst n z))
  unfold nst;split<;>omega

section
variable {F0 F K:Type} [Fld F0] [DecidableEq F0] [Fld F] [DecidableEq F] [Fld K] [DecidableEq K] [Nrs K] {b0:F0} {b:F} {f0:F0->K} {f:F->K}
def B7q (T1 T2:F×F×F->E2 K) (q:F×F×F) (s:(F×F×F)×E2 K) (z:Bool):(F×F×F)×E2 K:=
 if z=true then (jpl (jtw s.1) q,s.2*s.2*T1 s.1*T2 (jtw s.1)) else (jtw s.1,s.2*s.2*T1 s.1)
theorem F7r (k:K) (hk:k≠0):(⟨k,0⟩:E2 K)≠0:=fun h=>hk (congrArg E2.a h)
theorem C6j (h:∀t:K,t*t≠Nrs.xi) {k:K} (hk:k≠0) {u:E2 K} (hu:u≠0):et ((⟨k,0⟩:E2 K)*u)=et u∧(⟨k,0⟩:E2 K)*u≠0:=
 ⟨by rw[A1s h (F7r k hk) hu,F4o h hk,E2.one_mul],A8i h (F7r k hk) hu⟩

theorem G8u (e:Emb b0 b f0 f) {p0:F0×F0} (hP:OnC b0 (some p0)) {S:CP b->Prop} (hC:letI:=M8 e.c;Coc S (fun A B:CP b=>Dp f0 f (some p0) A.1 B.1)) {Q:CP b} (hQ:S Q) {q:F×F} (hq:Q.1=some q) {q3:F×F×F} (hq3:Jc (some q) q3) {T1 T2:F×F×F->E2 K}
  (h1:∀(p:F×F) (t:F×F×F),OnC b (some p)->Jc (some p) t->∃k,k≠0∧T1 t=(⟨k,0⟩:E2 K)*evl f (f0 p0.1*Nrs.xi) (f0 p0.2*Nrs.xi) (lda (some p) (some p)))
  (h2:∀(p:F×F) (t:F×F×F),OnC b (some p)->Jc (some p) t->p.1≠q.1->∃k,k≠0∧T2 t=(⟨k,0⟩:E2 K)*evl f (f0 p0.1*Nrs.xi) (f0 p0.2*Nrs.xi) (lda (some p) (some q))) :
  letI:=M8 e.c;∀(l:List Bool) (n:Nat) (s:(F×F×F)×E2 K),1<=n->(∀m,0<m->m<=l.foldl nst n+1->mlt Q m≠0)->Jc (mlt Q n).1 s.1->s.2≠0->et s.2=gth (fun A B:CP b=>Dp f0 f (some p0) A.1 B.1) Q n ->
   Jc (mlt Q (l.foldl nst n)).1 (l.foldl (B7q T1 T2 q3) s).1∧(l.foldl (B7q T1 T2 q3) s).2≠0∧et (l.foldl (B7q T1 T2 q3) s).2=gth (fun A B:CP b=>Dp f0 f (some p0) A.1 B.1) Q (l.foldl nst n):=by
 letI:=M8 e.c
 intro l;induction l with
 | nil=>intro n s _ _ j1 j2 j3;exact ⟨j1,j2,j3⟩
 | cons z l ih=>
  intro n s hn hm j1 j2 j3;have hle:=F9r l (nst n z);have hnz:n+n<=nst n z:=by unfold nst;split<;>omega
  have hm:∀m,0<m->m<=l.foldl nst (nst n z)+1->mlt Q m≠0:=hm;have hA:=hm n (by omega) (by omega)
  have hB:=hm (n+n) (by omega) (by omega)
  have hV:=hm (n+n-1) (by omega) (by omega)
  have eV:mlt Q (n+n)=mlt Q (n+n-1)+Q:=by
   obtain ⟨k,hk⟩:∃k,n+n=k+1:=⟨n+n-1,by omega⟩
   rw[hk];rfl
  have eU:mlt Q (n+n+1)=mlt Q (n+n)+Q:=rfl;have eB:(mlt Q (n+n)).1=C5 (mlt Q n).1 (mlt Q n).1:=congrArg Subtype.val (A1i Q n n);have g2:=E5r hC hQ n n;have gU:gth (fun A B:CP b=>Dp f0 f (some p0) A.1 B.1) Q (n+n+1)=gth (fun A B:CP b=>Dp f0 f (some p0) A.1 B.1) Q (n+n)*Dp f0 f (some p0) (mlt Q (n+n)).1 Q.1:=rfl
  have J1:Jc (mlt Q (n+n)).1 (jtw s.1):=by rw[eB];exact A5w e.c.two _ s.1 j1
  have st:∃p,(mlt Q n).1=some p:=by
   cases h:(mlt Q n).1 with
   | none=>exact absurd (Subtype.ext h) hA
   | some p=>exact ⟨p,rfl⟩
  obtain ⟨p,hp⟩:=st;have op:OnC b (some p):=hp ▸ (mlt Q n).2;rw[hp] at j1;obtain ⟨k1,hk1,t1⟩:=h1 p s.1 op j1;have X1:=C6j e.ns hk1 (A0t (f:=f) e hP (lda (some p) (some p)));rw[<-t1] at X1;have n2:=A8i e.ns (A8i e.ns j2 j2) X1.2;have e2:et (s.2*s.2*T1 s.1)=gth (fun A B:CP b=>Dp f0 f (some p0) A.1 B.1) Q (n+n):=by
   rw[A1s e.ns (A8i e.ns j2 j2) X1.2,A1s e.ns j2 j2,j3,X1.1,g2];show _=_*Dp f0 f (some p0) (mlt Q n).1 (mlt Q n).1;rw[hp];rfl
  have step:Jc (mlt Q (nst n z)).1 (B7q T1 T2 q3 s z).1∧(B7q T1 T2 q3 s z).2≠0∧et (B7q T1 T2 q3 s z).2=gth (fun A B:CP b=>Dp f0 f (some p0) A.1 B.1) Q (nst n z):=by
   cases z with
   | false=>exact ⟨J1,n2,e2⟩
   | true=>
    have hU:=hm (n+n+1) (by omega) (by omega)
    have st:∃p,(mlt Q (n+n)).1=some p:=by
     cases h:(mlt Q (n+n)).1 with
     | none=>exact absurd (Subtype.ext h) hB
     | some p=>exact ⟨p,rfl⟩
    obtain ⟨p2,hp2⟩:=st;have op2:OnC b (some p2):=hp2 ▸ (mlt Q (n+n)).2;have oq:OnC b (some q):=hq ▸ Q.2;have hx:p2.1≠q.1:=by
     intro ex;rcases C4w op2 oq ex with h | h
     ·have:mlt Q (n+n)=Q:=Subtype.ext (by rw[hp2,hq,h])
      rw[this] at eV;exact hV (by clear ih hm g2 gU e2 eU eB this;grind)
     ·apply hU
      rw[eU];refine Subtype.ext ?_
      show C5 (mlt Q (n+n)).1 Q.1=none;rw[hp2,hq,h];exact R1 e.c _ op2
    have J2:=J1;rw[hp2] at J2;obtain ⟨k2,hk2,t2⟩:=h2 p2 (jtw s.1) op2 J2 hx;have X2:=C6j e.ns hk2 (A0t (f:=f) e hP (lda (some p2) (some q)));rw[<-t2] at X2;have jq:Jc Q.1 q3:=hq ▸ hq3;refine ⟨A2y e.c.two _ _ _ _ J1 jq,A8i e.ns n2 X2.2,?_⟩
    show et (s.2*s.2*T1 s.1*T2 (jtw s.1))=gth (fun A B:CP b=>Dp f0 f (some p0) A.1 B.1) Q (n+n+1)
    rw[A1s e.ns n2 X2.2,e2,X2.1,gU,hp2,hq];rfl
  exact ih (nst n z) (B7q T1 T2 q3 s z) (by omega) hm step.1 step.2.1 step.2.2
end
end

set_option linter.unusedVariables false
set_option linter.unusedSectionVars false
section

section
variable {F:Type} [Fld F] [DecidableEq F] {b:F}
theorem G8f (hc:Cv b):∀{A B:Pt F},OnC b A->OnC b B->lda (P5 A) (P5 B)=(lda A B).map fun l=>(0-l.1,0-l.2)
 | none,none,_,_=>rfl
 | none,some _,_,_=>rfl
 | some _,none,_,_=>rfl
 | some p,some q,hp,hq=>by
  have np:OnC b (some (ngp p)):=U1 _ hp;have nq:OnC b (some (ngp q)):=U1 _ hq;show lda (some (ngp p)) (some (ngp q))=_
  cases hs:C5 (some p) (some q) with
  | none=>
   rw[O3 hs];refine O3 ?_
   have e:=W6 hp hq hc hs;subst e;exact R1 hc _ np
  | some s=>
   have T:=O6 hc hp hq hs
   cases hn:C5 (some (ngp p)) (some (ngp q)) with
   | none=>
    have e:=W6 np nq hc hn;have e:q=ngp p:=by rw[<-A7u q,e,A7u]
    subst e;have:=R1 hc _ hp
    rw[show P5 (some p)=some (ngp p) from rfl,hs] at this
    cases this
   | some n=>
    have k:=B6f hc T.mir np hn;rw[J5 hs,J5 hn,k.1,k.2];rfl
variable (sg:F->F) (g:F)
def tu (p:F×F):F×F:=(sg p.1*(g*g),sg p.2*(g*g*g))
/-- Both coordinates turned, each times a power of g. -/
def ptu (P:Pt F):Pt F:=P.map (tu sg g)
structure Tu (b:F):Prop where
 h:Hom sg
 i:∀x,sg x=0->x=0
 g0:g≠0
 b:sg b*(g*g*g*(g*g*g))=b
variable {sg g}
theorem B7i (t:Tu sg g b):∀{P:Pt F},OnC b P->OnC b (ptu sg g P)
 | none,_=>trivial
 | some p,h=>by
  have h:p.2*p.2=p.1*p.1*p.1+b:=h;show sg p.2*(g*g*g)*(sg p.2*(g*g*g))=sg p.1*(g*g)*(sg p.1*(g*g))*(sg p.1*(g*g))+b;have k:sg p.2*sg p.2=sg p.1*sg p.1*sg p.1+sg b:=by rw[<-t.h.mul,h,t.h.add,t.h.mul,t.h.mul]
  have kb:=t.b;generalize sg p.1=x at *;generalize sg p.2=y at *;have e1:y*(g*g*g)*(y*(g*g*g))=y*y*(g*g*g*(g*g*g)):=by clear k kb h;grind
  have e2:x*(g*g)*(x*(g*g))*(x*(g*g))=x*x*x*(g*g*g*(g*g*g)):=by clear k kb h e1;grind
  rw[e1,e2,k];have e3:(x*x*x+sg b)*(g*g*g*(g*g*g))=x*x*x*(g*g*g*(g*g*g))+sg b*(g*g*g*(g*g*g)):=by clear k kb h e1 e2;grind
  rw[e3,kb]
theorem E3i (t:Tu sg g b) (p:F×F):tu sg g (ngp p)=ngp (tu sg g p):=by
 refine Prod.ext rfl ?_
 show sg (0-p.2)*(g*g*g)=0-sg p.2*(g*g*g);rw[t.h.sub,t.h.zero];grind
theorem I1o (t:Tu sg g b) {p q:F×F} (h:tu sg g p=tu sg g q):p=q:=by
 have g2:g*g≠0:=C2 t.g0 t.g0;have k1:=C0t g2 (congrArg Prod.fst h);have k2:=C0t (C2 g2 t.g0) (congrArg Prod.snd h);have key:∀{x y:F},sg x=sg y->x=y:=by
  intro x y e;have:sg (x-y)=0:=by rw[t.h.sub,e];clear e;grind
  have:=t.i _ this
  clear e k1 k2 g2;grind
 exact Prod.ext (key k1) (key k2)
theorem I1p (t:Tu sg g b) {l m:F} {p q r:F×F} (h:Tri b l m p q r):Tri b (sg l*g) (sg m*(g*g*g)) (tu sg g p) (tu sg g q) (tu sg g r):=by
 obtain ⟨⟨a1,a2,a3⟩,h1,h2,h3⟩:=h;have im:∀{y x:F},y=l*x+m->sg y*(g*g*g)=sg l*g*(sg x*(g*g))+sg m*(g*g*g):=by
  intro y x h;rw[h,t.h.add,t.h.mul];grind
 have kb:=t.b;have b1:sg p.1+sg q.1+sg r.1=sg l*sg l:=by rw[<-t.h.add,<-t.h.add,a1,t.h.mul]
 have b2:sg p.1*sg q.1+sg p.1*sg r.1+sg q.1*sg r.1=0-(sg l*sg m+sg l*sg m):=by
  rw[<-t.h.zero];simp only[<-t.h.mul,<-t.h.add,<-t.h.sub];rw[a2]
 have b3:sg p.1*sg q.1*sg r.1=sg m*sg m-sg b:=by
  simp only[<-t.h.mul,<-t.h.sub];rw[a3]
 refine ⟨⟨?_,?_,?_⟩,im h1,im h2,im h3⟩
 all_goals
  clear im h1 h2 h3 a1 a2 a3
  unfold tu;dsimp only;generalize sg p.1=x at *;generalize sg q.1=y at *;generalize sg r.1=z at *;generalize sg l=L at *;generalize sg m=N at *
 ·have:x*(g*g)+y*(g*g)+z*(g*g)=(x+y+z)*(g*g):=by clear b1 b2 b3 kb;grind
  rw[this,b1];clear b1 b2 b3 kb this;grind
 ·have:x*(g*g)*(y*(g*g))+x*(g*g)*(z*(g*g))+y*(g*g)*(z*(g*g))=(x*y+x*z+y*z)*(g*g*(g*g)):=by clear b1 b2 b3 kb;grind
  rw[this,b2];clear b1 b2 b3 kb this;grind
 ·have:x*(g*g)*(y*(g*g))*(z*(g*g))=(x*y*z)*(g*g*g*(g*g*g)):=by clear b1 b2 b3 kb;grind
  rw[this,b3];have:(N*N-sg b)*(g*g*g*(g*g*g))=N*(g*g*g)*(N*(g*g*g))-sg b*(g*g*g*(g*g*g)):=by clear b1 b2 b3 kb this;grind
  rw[this,kb]
theorem F7k (hc:Cv b) (t:Tu sg g b):∀{A B:Pt F},OnC b A->OnC b B->lda (ptu sg g A) (ptu sg g B)=(lda A B).map (fun l=>(sg l.1*g,sg l.2*(g*g*g)))∧C5 (ptu sg g A) (ptu sg g B)=ptu sg g (C5 A B)
 | none,none,_,_=>⟨rfl,rfl⟩
 | none,some _,_,_=>⟨rfl,rfl⟩
 | some _,none,_,_=>⟨rfl,rfl⟩
 | some p,some q,hp,hq=>by
  have np:OnC b (some (tu sg g p)):=B7i t hp;have nq:OnC b (some (tu sg g q)):=B7i t hq;show lda (some (tu sg g p)) (some (tu sg g q))=_∧C5 (some (tu sg g p)) (some (tu sg g q))=_
  cases hs:C5 (some p) (some q) with
  | none=>
   rw[O3 hs];have e:=W6 hp hq hc hs;subst e;have:C5 (some (tu sg g p)) (some (tu sg g (ngp p)))=none:=by rw[E3i t];exact R1 hc _ np
   exact ⟨O3 this,this⟩
  | some s=>
   have T:=O6 hc hp hq hs
   cases hn:C5 (some (tu sg g p)) (some (tu sg g q)) with
   | none=>
    have e:=W6 np nq hc hn;rw[<-E3i t] at e;have e:=I1o t e;subst e;have:=R1 hc _ hp
    rw[show P5 (some p)=some (ngp p) from rfl,hs] at this
    cases this
   | some n=>
    have U:=I1p t T;have k:=B6f hc U np hn;have V:=O6 hc np nq hn;rw[k.1,k.2] at V;have e1:(ngp n).1=(tu sg g (ngp s)).1:=by
     have a:=V.ln.e1;have c:=U.ln.e1;generalize (ngp n).1=x at *;generalize (tu sg g (ngp s)).1=y at *;generalize (tu sg g p).1=u at *;generalize (tu sg g q).1=v at *;clear V U T k hs hn;grind
    have e2:(ngp n).2=(tu sg g (ngp s)).2:=by rw[V.y3,U.y3,e1]
    have e3:n=tu sg g s:=by
     have:=congrArg ngp (Prod.ext e1 e2:ngp n=tu sg g (ngp s))
     rw[A7u,E3i t,A7u] at this;exact this
    rw[J5 hs,J5 hn,k.1,k.2,e3];exact ⟨rfl,rfl⟩
end

section
variable {F0 F K:Type} [Fld F0] [DecidableEq F0] [Fld F] [DecidableEq F] [Fld K] [DecidableEq K] [Nrs K] {b0:F0} {b:F} {f0:F0->K} {f:F->K}
theorem H4u (e:Emb b0 b f0 f) {P:Pt F0} (hP:OnC b0 P) {A B:Pt F} (hA:OnC b A) (hB:OnC b B):Dp f0 f P (P5 A) (P5 B)*Dp f0 f P A B=1:=by
 cases P with
 | none=>exact E2.one_mul 1
 | some p=>
  show et (evl f _ _ (lda (P5 A) (P5 B)))*et (evl f _ _ (lda A B))=1;rw[G8f e.c hA hB]
  cases lda A B with
  | none=>
   show et 1*et 1=1;rw[C9n e.ns,E2.one_mul]
  | some l=>
   have:evl f (f0 p.1*Nrs.xi) (f0 p.2*Nrs.xi) ((some l).map fun l:F×F=>(0-l.1,0-l.2)) = -cj (evl f (f0 p.1*Nrs.xi) (f0 p.2*Nrs.xi) (some l)):=by
    refine E2.ext' ?_ ?_
    ·show -(f (0-l.1)*_+f (0-l.2)) = - -(f l.1*_+f l.2)
     rw[D6v e.h]
    ·show f0 p.2*Nrs.xi = - -(f0 p.2*Nrs.xi)
     generalize f0 p.2*Nrs.xi=u;clear hP;grind
   rw[this];exact E0h e (A0t e hP (some l))
theorem H5d (e:Emb b0 b f0 f) (P Q:Pt F0) {A:Pt F} (hA:OnC b A):Ep f0 f P Q (P5 A)*Ep f0 f P Q A=1:=by
 cases A with
 | none=>
  show Ep f0 f P Q none*Ep f0 f P Q none=1;rw[A8v,E2.one_mul]
 | some a=>
  cases h:lda P Q with
  | none=>rw[P7 h,P7 h,E2.one_mul]
  | some l=>
   show Ep f0 f P Q (some (ngp a))*_=1;rw[Z8 h,Z8 h,E6a e];exact E0h e (A4j e hA l)
variable {sg:F->F} {g:F} {fr:E2 K->E2 K}
/-- The power that turns lines. -/
structure Frl (f0:F0->K) (f:F->K) (sg:F->F) (g:F) (fr:E2 K->E2 K):Prop where
 m:∀x y,fr (x*y)=fr x*fr y
 o:fr 1=1
 c:∀x,fr (cj x)=cj (fr x)
 e:∀(x y:F0) (l m:F),Ass (evl f (f0 x*Nrs.xi) (f0 y*Nrs.xi) (some (sg l*g,sg m*(g*g*g)))) (fr (evl f (f0 x*Nrs.xi) (f0 y*Nrs.xi) (some (l,m))))
 l:∀(l:F0×F0) (a:F×F),Ass (lae f0 f l (tu sg g a)) (fr (lae f0 f l a))
theorem F5h (e:Emb b0 b f0 f) (h:Frl f0 f sg g fr) {u:E2 K} (hu:u≠0):fr u≠0:=fun k=>by
 have:=congrArg fr (A7o e.ns u hu)
 rw[h.m,h.o,k] at this;have z:(0:E2 K)*fr (A3q u)=0:=by generalize fr (A3q u)=v;clear this k hu;grind
 rw[z] at this;exact Fld.one_ne (congrArg E2.a this).symm
theorem H3g (e:Emb b0 b f0 f) (h:Frl f0 f sg g fr) {u:E2 K} (hu:u≠0):fr (et u)=et (fr u):=by
 refine B6w e.ns (F5h e h hu) ?_
 rw[<-h.m,K0 e.ns hu,h.c]
theorem I4c (e:Emb b0 b f0 f) (t:Tu sg g b) (h:Frl f0 f sg g fr) {P:Pt F0} (hP:OnC b0 P) {A B:Pt F} (hA:OnC b A) (hB:OnC b B):Dp f0 f P (ptu sg g A) (ptu sg g B)=fr (Dp f0 f P A B):=by
 cases P with
 | none=>exact h.o.symm
 | some p=>
  show et (evl f _ _ (lda (ptu sg g A) (ptu sg g B)))=fr (et (evl f _ _ (lda A B)));rw[(F7k e.c t hA hB).1,H3g e h (A0t e hP _)]
  cases lda A B with
  | none=>show et 1=et (fr 1);rw[h.o]
  | some l=>exact E0g e.ns (A0t e hP _) (F5h e h (A0t e hP _)) (h.e _ _ _ _)
theorem I4i (e:Emb b0 b f0 f) (t:Tu sg g b) (h:Frl f0 f sg g fr) (P Q:Pt F0) {A:Pt F} (hA:OnC b A):Ep f0 f P Q (ptu sg g A)=fr (Ep f0 f P Q A):=by
 cases A with
 | none=>
  show Ep f0 f P Q none=_;rw[A8v,h.o]
 | some a=>
  cases k:lda P Q with
  | none=>rw[P7 k,P7 k,h.o]
  | some l=>
   show Ep f0 f P Q (some (tu sg g a))=_;rw[Z8 k,Z8 k,H3g e h (A4j e hA l)];exact E0g e.ns (A4j e (B7i t hA) l) (F5h e h (A4j e hA l)) (h.l l a)
/-- Sums of points of the second curve. -/
theorem F6a (e:Emb b0 b f0 f) (t:Tu sg g b) (h:Frl f0 f sg g fr) {P:Pt F0} (hP:OnC b0 P) {S:CP b->Prop} (hC:letI:=M8 e.c;Coc S (fun A B:CP b=>Dp f0 f P A.1 B.1)) {A B:CP b} (hA:S A) (hB:S B) {n:Nat} :
  letI:=M8 e.c;(mlt A n).1=P5 (ptu sg g A.1)->(mlt B n).1=P5 (ptu sg g B.1) ->
   gth (fun A B:CP b=>Dp f0 f P A.1 B.1) (A+B) n*(A7 (Dp f0 f P A.1 B.1) n*fr (Dp f0 f P A.1 B.1))=gth (fun A B:CP b=>Dp f0 f P A.1 B.1) A n*gth (fun A B:CP b=>Dp f0 f P A.1 B.1) B n:=by
 letI:=M8 e.c
 intro eA eB;have k:=E5s hC hA hB n;rw[eA,eB] at k;have j:=H4u e hP (B7i t A.2) (B7i t B.2);rw[I4c e t h hP A.2 B.2] at j;generalize gth (fun A B:CP b=>Dp f0 f P A.1 B.1) (A+B) n=x1 at *
 generalize gth (fun A B:CP b=>Dp f0 f P A.1 B.1) A n=x2 at *
 generalize gth (fun A B:CP b=>Dp f0 f P A.1 B.1) B n=x3 at *
 generalize A7 (Dp f0 f P A.1 B.1) n=x4 at *
 generalize fr (Dp f0 f P A.1 B.1)=x5 at *
 generalize Dp f0 f P (P5 (ptu sg g A.1)) (P5 (ptu sg g B.1))=x6 at *
 have e1:x1*(x4*x5)=x1*x4*x5:=by clear k j eA eB hC;grind
 have e2:x2*x3*x6*x5=x2*x3*(x6*x5):=by clear k j eA eB hC e1;grind
 rw[e1,k,e2,j];clear k j eA eB hC e1 e2;grind
/-- Sums of points of the first curve. -/
theorem F5z (e:Emb b0 b f0 f) (t:Tu sg g b) (h:Frl f0 f sg g fr) {P Q:Pt F0} (hP:OnC b0 P) (hQ:OnC b0 Q) (A:CP b) {n:Nat} :
  letI:=M8 e.c;(mlt A n).1=P5 (ptu sg g A.1) ->
   gth (fun A B:CP b=>Dp f0 f (C5 P Q) A.1 B.1) A n*(A7 (Ep f0 f P Q A.1) n*fr (Ep f0 f P Q A.1))=gth (fun A B:CP b=>Dp f0 f P A.1 B.1) A n*gth (fun A B:CP b=>Dp f0 f Q A.1 B.1) A n:=by
 letI:=M8 e.c
 intro eA;have k:=H4t e hP hQ A n;rw[eA] at k;have j:=H5d e P Q (B7i t A.2);rw[I4i e t h P Q A.2] at j;generalize gth (fun A B:CP b=>Dp f0 f (C5 P Q) A.1 B.1) A n=x1 at *
 generalize gth (fun A B:CP b=>Dp f0 f P A.1 B.1) A n=x2 at *
 generalize gth (fun A B:CP b=>Dp f0 f Q A.1 B.1) A n=x3 at *
 generalize A7 (Ep f0 f P Q A.1) n=x4 at *
 generalize fr (Ep f0 f P Q A.1)=x5 at *
 generalize Ep f0 f P Q (P5 (ptu sg g A.1))=x6 at *
 have e1:x1*(x4*x5)=x1*x4*x5:=by clear k j eA;grind
 have e2:x2*x3*x6*x5=x2*x3*(x6*x5):=by clear k j eA e1;grind
 rw[e1,<-k,e2,j];clear k j eA e1 e2;grind
end
end

set_option linter.unusedVariables false
set_option linter.unusedSectionVars false
section

section
variable {F:Type} [Fld F]
/-- A line, by its three coordinates. -/
def B7n (a b c:F):E2 (E3 F):=⟨⟨a,b,0⟩,⟨0,c,0⟩⟩
/-- The line that touches, the line through two, at x and y. -/
def I1d (t:F×F×F) (x y:F):E2 (E3 F):=
 B7n ((t.1*t.1+t.1*t.1+t.1*t.1)*t.1-t.2.1*t.2.1-t.2.1*t.2.1) (0-(t.1*t.1+t.1*t.1+t.1*t.1)*(t.2.2*t.2.2)*x) ((t.2.1*(t.2.2*t.2.2)*t.2.2+t.2.1*(t.2.2*t.2.2)*t.2.2)*y)
def I1g (t q:F×F×F) (x y:F):E2 (E3 F):=
 B7n ((q.2.1*(t.2.2*t.2.2)*t.2.2-t.2.1)*q.1-q.2.1*((q.1*(t.2.2*t.2.2)-t.1)*t.2.2)) (0-(q.2.1*(t.2.2*t.2.2)*t.2.2-t.2.1)*x) ((q.1*(t.2.2*t.2.2)-t.1)*t.2.2*y)
theorem H2j {X Y Z xt yt l m i:F} (hX:X=xt*(Z*Z)) (hY:Y=yt*(Z*Z*Z)) (hi:(yt+yt)*i=1) (hl:l=F4 (xt*xt)*i) (hm:m=yt-l*xt) :
  (X*X+X*X+X*X)*X-Y*Y-Y*Y = -m*(Y*(Z*Z)*Z+Y*(Z*Z)*Z)∧(X*X+X*X+X*X)*(Z*Z)=l*(Y*(Z*Z)*Z+Y*(Z*Z)*Z):=by
 have k:l*(yt+yt)=xt*xt+xt*xt+xt*xt:=by
  rw[hl];unfold F4
  have:(xt*xt+xt*xt+xt*xt)*i*(yt+yt)=(xt*xt+xt*xt+xt*xt)*((yt+yt)*i):=by clear hX hY hi hl hm;grind
  rw[this,hi];clear this hX hY hi hl hm;grind
 clear hi hl;subst hX hY hm;constructor
 ·have:-(yt-l*xt)*(yt*(Z*Z*Z)*(Z*Z)*Z+yt*(Z*Z*Z)*(Z*Z)*Z)=(l*(yt+yt))*xt*(Z*Z*Z*Z*Z*Z)-(yt*yt+yt*yt)*(Z*Z*Z*Z*Z*Z):=by clear k;grind
  rw[this,k];clear this k;grind
 ·have:l*(yt*(Z*Z*Z)*(Z*Z)*Z+yt*(Z*Z*Z)*(Z*Z)*Z)=l*(yt+yt)*(Z*Z*Z*Z*Z*Z):=by clear k;grind
  rw[this,k];clear this k;grind
theorem H2k {X Y Z xt yt xq yq l m i:F} (hX:X=xt*(Z*Z)) (hY:Y=yt*(Z*Z*Z)) (hi:(xq-xt)*i=1) (hl:l=(yq-yt)*i) (hm:m=yt-l*xt) :
  (yq*(Z*Z)*Z-Y)*xq-yq*((xq*(Z*Z)-X)*Z) = -m*((xq*(Z*Z)-X)*Z)∧yq*(Z*Z)*Z-Y=l*((xq*(Z*Z)-X)*Z):=by
 have k:l*(xq-xt)=yq-yt:=by
  rw[hl];have:(yq-yt)*i*(xq-xt)=(yq-yt)*((xq-xt)*i):=by clear hX hY hi hl hm;grind
  rw[this,hi];clear this hX hY hi hl hm;grind
 clear hi hl;subst hX hY hm;have k2:yq=l*(xq-xt)+yt:=by rw[k];clear k;grind
 subst k2;clear k;constructor<;>grind
end

section
variable {F:Type} [Fld F] [DecidableEq F] [Nrs F] {b:F}
/-- v, whose square root is joined. -/
@[reducible] def Y0:Nrs (E3 F):=⟨⟨0,1,0⟩⟩
def upE (x:F):E3 F:=⟨x,0,0⟩
theorem E5f (x y:F) (l m k:F):letI:=Y0 (F:=F);(⟨upE k,0⟩:E2 (E3 F))*evl upE (upE x*Nrs.xi) (upE y*Nrs.xi) (some (l,m))=B7n (-m*k) (0-l*k*x) (k*y):=by
 letI:=Y0 (F:=F)
 refine E2.ext' (E3.ext' ?_ ?_ ?_) (E3.ext' ?_ ?_ ?_)
 all_goals
  simp only[evl,B7n,upE,Nrs.xi,E2.mul_a,E2.mul_b,E3.mul_a,E3.mul_b,E3.mul_c,E3.add_a,E3.add_b,E3.add_c,E3.neg_a,E3.neg_b,E3.neg_c,E3.zero_a,E3.zero_b,E3.zero_c]
  grind
theorem I1e (hc:Cv b) {p:F×F} (hp:OnC b (some p)) {t:F×F×F} (ht:Jc (some p) t) (x y:F):letI:=Y0 (F:=F);∃k,k≠0∧I1d t x y=(⟨upE k,0⟩:E2 (E3 F))*evl upE (upE x*Nrs.xi) (upE y*Nrs.xi) (lda (some p) (some p)):=by
 letI:=Y0 (F:=F)
 obtain ⟨hz,hX,hY⟩:=ht;have hy:=B3w hc (x:=p.1) (y:=p.2) hp;have h2:p.2+p.2≠0:=fun e=>by
  have:((1:F)+1)*p.2=0:=by rw[<-e];clear e hX hY;grind
  exact C2 hc.two hy this
 have hd:∃s,C5 (some p) (some p)=some s:=by
  unfold C5;dsimp only;rw[if_pos rfl,if_pos ⟨rfl,hy⟩];exact ⟨_,rfl⟩
 obtain ⟨s,hs⟩:=hd;rw[J5 hs];have N:=H2j (l:=slp p p) (m:=icp p p) hX hY (Fld.mul_inv _ h2) (by unfold slp;rw[if_pos rfl]) rfl
 refine ⟨t.2.1*(t.2.2*t.2.2)*t.2.2+t.2.1*(t.2.2*t.2.2)*t.2.2,?_,?_⟩
 ·have:t.2.1*(t.2.2*t.2.2)*t.2.2+t.2.1*(t.2.2*t.2.2)*t.2.2=(p.2+p.2)*(t.2.2*t.2.2*t.2.2*(t.2.2*t.2.2*t.2.2)):=by rw[hY];clear N hs hX hY h2 hy;grind
  rw[this];exact C2 h2 (C2 (C2 (C2 hz hz) hz) (C2 (C2 hz hz) hz))
 ·rw[E5f]
  unfold I1d;rw[N.1,N.2]
theorem I1h (hc:Cv b) {p q:F×F} (hp:OnC b (some p)) (hq:OnC b (some q)) (hne:p.1≠q.1) {t:F×F×F} (ht:Jc (some p) t) (z:F) (x y:F):letI:=Y0 (F:=F);∃k,k≠0∧I1g t (q.1,q.2,z) x y=(⟨upE k,0⟩:E2 (E3 F))*evl upE (upE x*Nrs.xi) (upE y*Nrs.xi) (lda (some p) (some q)):=by
 letI:=Y0 (F:=F)
 obtain ⟨hz,hX,hY⟩:=ht;have hd:q.1-p.1≠0:=fun e=>hne (by clear hX hY;grind)
 have hs:∃s,C5 (some p) (some q)=some s:=by
  unfold C5;dsimp only;rw[if_neg hne];exact ⟨_,rfl⟩
 obtain ⟨s,hs⟩:=hs;rw[J5 hs];have N:=H2k (l:=slp p q) (m:=icp p q) hX hY (Fld.mul_inv _ hd) (by unfold slp;rw[if_neg hne]) rfl
 refine ⟨(q.1*(t.2.2*t.2.2)-t.1)*t.2.2,?_,?_⟩
 ·have:(q.1*(t.2.2*t.2.2)-t.1)*t.2.2=(q.1-p.1)*(t.2.2*t.2.2*t.2.2):=by rw[hX];clear N hs hX hY hd;grind
  rw[this];exact C2 hd (C2 (C2 hz hz) hz)
 ·rw[E5f]
  unfold I1g;dsimp only;rw[N.1,N.2]
end
end

section

section
variable {M:Type} [C8k M]
theorem B2t (x y:M):∀n,mlt (x-y) n=mlt x n-mlt y n
 | 0=>by show (0:M)=0-0;grind
 | n+1=>by
  show mlt (x-y) n+(x-y)=(mlt x n+x)-(mlt y n+y);rw[B2t x y n];grind
theorem D1g (x:M):mlt x 1=x:=by show 0+x=x;grind
theorem A0n (x:M) (m n:Nat):mlt (mlt x m) n=mlt (mlt x n) m:=by rw[<-B2s,<-B2s,Nat.mul_comm]
theorem D1f {S:M->Prop} (h0:S 0) (hs:∀x y,S x->S y->S (x-y)) {x:M}:∀d n,S (mlt x d)->S (mlt x n)->S (mlt x (Nat.gcd d n))
 | 0,n,_,h=>by rw[Nat.gcd_zero_left];exact h
 | d+1,n,h1,h2=>by
  rw[Nat.gcd_succ];refine D1f h0 hs (n % (d+1)) (d+1) ?_ h1
  have h3:mlt x n=mlt (mlt x (d+1)) (n / (d+1))+mlt x (n % (d+1)):=by
   rw[<-B2s,<-A1i,Nat.div_add_mod]
  have hm:∀k,S (mlt (mlt x (d+1)) k):=by
   intro k;induction k with
   | zero=>exact h0
   | succ k ih=>
    have:mlt (mlt x (d+1)) (k+1)=mlt (mlt x (d+1)) k-(0-mlt x (d+1)):=by
     show mlt (mlt x (d+1)) k+mlt x (d+1)=_;generalize mlt (mlt x (d+1)) k=u;generalize mlt x (d+1)=v;clear ih h3 h1 h2 hs;grind
    rw[this];exact hs _ _ ih (hs _ _ h0 h1)
  have:mlt x (n % (d+1))=mlt x n-mlt (mlt x (d+1)) (n / (d+1)):=by
   rw[h3];generalize mlt (mlt x (d+1)) (n / (d+1))=u;generalize mlt x (n % (d+1))=v;clear h3 h1 h2 hs hm;grind
  rw[this];exact hs _ _ h2 (hm _)
 termination_by d=>d
 decreasing_by exact Nat.mod_lt _ (Nat.succ_pos d)
theorem B2u {x:M} (d n:Nat) (h1:mlt x d=0) (h2:mlt x n=0) (h:Nat.gcd d n=1):x=0:=by
 have k:=D1f (S:=fun y:M=>y=0) rfl (fun x y hx hy=>by rw[hx,hy];grind) d n h1 h2
 rw[h,D1g] at k;exact k
theorem F6p {q c:Nat} (hq:Ir q) (h0:0<c) (h:c<q):Nat.gcd c q=1:=by
 rcases hq _ (Nat.gcd_dvd_right c q) with h | h
 ·exact h
 ·have:=Nat.gcd_le_left q h0
  omega
theorem F8t {q:Nat} (hq:Ir q) {U:M} (hU:mlt U q=0) (nU:U≠0) {c:Nat} (h0:0<c) (h:c<q):mlt U c≠0:=fun e=>nU (B2u c q e hU (F6p hq h0 h))
theorem E6h {q:Nat} (hq:Ir q) {U:M} (hU:mlt U q=0) (nU:U≠0) {i j:Nat} (hi:i<q) (hj:j<q) (e:mlt U i=mlt U j):i=j:=by
 have key:∀i c,0<c->i+c<q->mlt U i≠mlt U (i+c):=by
  intro i c hc hic e;refine F8t hq hU nU hc (by omega:c<q) ?_
  rw[A1i] at e;generalize mlt U i=u at *;generalize mlt U c=v at *;clear hU nU;grind
 rcases Nat.lt_trichotomy i j with h | h | h
 ·exact absurd (by rw[e,show i+(j-i)=j from by omega]) (key i (j-i) (by omega) (by omega))
 ·exact h
 ·exact absurd (by rw[<-e,show j+(i-j)=i from by omega]) (key j (i-j) (by omega) (by omega))
variable {r:Nat} {A H:M}
def D3s (H:M) (x:M):Prop:=∃n,x=mlt H n
theorem D6o (hr:0<r) (hH:mlt H r=0) (x y:M):D3s H x->D3s H y->D3s H (x-y):=by
 rintro ⟨m,rfl⟩ ⟨n,rfl⟩
 refine ⟨m+n*(r-1),?_⟩
 rw[A1i];have e:mlt H (n*(r-1))+mlt H n=0:=by
  rw[<-A1i,show n*(r-1)+n=r*n from by rw[Nat.mul_comm r,show r=r-1+1 from by omega,Nat.mul_add,Nat.mul_one];rfl,B2s,hH,O7]
 generalize mlt H (n*(r-1))=u at *;generalize mlt H n=v at *;generalize mlt H m=w at *;clear hH;grind
theorem G7q (hr:Ir r) (hr0:0<r) (hA:mlt A r=0) (hH:mlt H r=0) (nH:H≠0) (nA:¬D3s H A) {i j k l:Nat} (hi:i<r) (hj:j<r) (hk:k<r) (hl:l<r) (e:mlt A i+mlt H j=mlt A k+mlt H l):i=k∧j=l:=by
 have key:∀i c j l,0<c->c<r->mlt A i+mlt H j=mlt A (i+c)+mlt H l->False:=by
  intro i c j l hc hcr e;apply nA
  have k:=D1f (S:=D3s H) ⟨0,rfl⟩ (D6o hr0 hH) (x:=A) c r ?_ ?_
  ·rw[F6p hr hc hcr,D1g] at k
   exact k
  ·have:mlt A c=mlt H j-mlt H l:=by
    rw[A1i] at e;generalize mlt A i=u at *;generalize mlt A c=v at *;generalize mlt H j=w at *;generalize mlt H l=x at *;clear hA hH nH nA;grind
   rw[this];exact D6o hr0 hH _ _ ⟨_,rfl⟩ ⟨_,rfl⟩
  ·rw[hA];exact ⟨0,rfl⟩
 rcases Nat.lt_trichotomy i k with h | h | h
 ·exact (key i (k-i) j l (by omega) (by omega) (by rw[e,show i+(k-i)=k from by omega])).elim
 ·refine ⟨h,E6h hr hH nH hj hl ?_⟩
  subst h;generalize mlt A i=u at *;generalize mlt H j=w at *;generalize mlt H l=x at *;clear hA hH nH nA key;grind
 ·exact (key k (i-k) l j (by omega) (by omega) (by rw[<-e,show k+(i-k)=i from by omega])).elim
variable {q:Nat} {U:M}
theorem E9h (hr:Ir r) (hr0:0<r) (hq:Ir q) (hg:Nat.gcd r q=1) (hA:mlt A r=0) (hH:mlt H r=0) (hU:mlt U q=0) (nH:H≠0) (nU:U≠0) (nA:¬D3s H A) {i j k i' j' k' : Nat} (hi:i<r) (hj:j<r) (hk:k<q) (hi' : i' < r) (hj' : j' < r) (hk' : k' < q)
  (e:mlt A i+mlt H j+mlt U k=mlt A i' + mlt H j' + mlt U k'):i=i' ∧ j=j' ∧ k=k' := by
 have e1:mlt U k-mlt U k' = (mlt A i' - mlt A i)+(mlt H j' - mlt H j):=by
  generalize mlt A i=a at *;generalize mlt A i' = b at *;generalize mlt H j=c at *;generalize mlt H j' = d at *;generalize mlt U k=u at *;generalize mlt U k' = v at *;clear hA hH hU nH nU nA;grind
 have z1:mlt (mlt U k-mlt U k') q=0:=by
  rw[B2t,A0n U k,A0n U k',hU,O7,O7];grind
 have z2:mlt (mlt U k-mlt U k') r=0:=by
  rw[e1,B8g,B2t,B2t,A0n A i,A0n A i',A0n H j,A0n H j',hA,hH,O7,O7,O7,O7];grind
 have z:=B2u r q z2 z1 hg;have ek:mlt U k=mlt U k' := by
  generalize mlt U k=u at *;generalize mlt U k' = v at *;clear hA hH hU nH nU nA e e1 z1 z2;grind
 refine ⟨?_,?_,E6h hq hU nU hk hk' ek⟩
 all_goals
  have e2:mlt A i+mlt H j=mlt A i' + mlt H j' := by
   rw[ek] at e;generalize mlt A i+mlt H j=a at *;generalize mlt A i' + mlt H j' = b at *;generalize mlt U k' = v at *;clear hA hH hU nH nU nA e1 z1 z2 z ek;grind
  have:=G7q hr hr0 hA hH nH nA hi hj hi' hj' e2
  first | exact this.1 | exact this.2
/-- In a group of few elements: whatever has the power of r 0 is a multiple of H. -/
theorem F1z {C:Nat} (card:∀(n:Nat) (g:Nat->M),(∀i j,i<n->j<n->g i=g j->i=j)->n<=C) (hC:C<q*(r*r)) (hr:Ir r) (hr0:0<r) (hq:Ir q) (hq0:0<q) (hg:Nat.gcd r q=1) (hA:mlt A r=0) (hH:mlt H r=0) (hU:mlt U q=0) (nH:H≠0) (nU:U≠0):D3s H A:=by
 refine Classical.byContradiction fun nA=>?_
 have k:=card (q*(r*r)) (fun t=>mlt A (t / q / r)+mlt H (t / q % r)+mlt U (t % q)) fun s t hs ht e=>?_
 ·omega
 ·have b1:s / q / r<r:=Nat.div_lt_of_lt_mul (Nat.div_lt_of_lt_mul hs)
  have b2:t / q / r<r:=Nat.div_lt_of_lt_mul (Nat.div_lt_of_lt_mul ht);obtain ⟨k1,k2,k3⟩:=E9h hr hr0 hq hg hA hH hU nH nU nA b1 (Nat.mod_lt _ hr0) (Nat.mod_lt _ hq0) b2 (Nat.mod_lt _ hr0) (Nat.mod_lt _ hq0) e;have e1:s / q=t / q:=by rw[<-Nat.div_add_mod (s / q) r,<-Nat.div_add_mod (t / q) r,k1,k2]
  rw[<-Nat.div_add_mod s q,<-Nat.div_add_mod t q,e1,k3]
end

section
variable {F:Type} [Fld F] [DecidableEq F] {b:F}
def rtE (b x:F):F:=@Classical.epsilon F ⟨0⟩ fun y=>y*y=x*x*x+b
def E8u (enc:F->Nat):Pt F->Nat
 | none=>0
 | some p=>if p.2=rtE b p.1 then enc p.1+enc p.1+1 else enc p.1+enc p.1+2
theorem G5n (enc:F->Nat) (N:Nat) (he:∀x,enc x<N) (hi:∀x y,enc x=enc y->x=y) (n:Nat) (g:Nat->CP b) (hg:∀i j,i<n->j<n->g i=g j->i=j):n<=2*N+1:=by
 refine pig (fun i=>E8u (b:=b) enc (g i).1) (fun i _=>?_) fun i j h1 h2 e=>hg i j h1 h2 ?_
 ·show E8u (b:=b) enc (g i).1<2*N+1
  cases h:(g i).1 with
  | none=>show 0<_;omega
  | some p=>
   have:=he p.1
   unfold E8u;dsimp only;split<;>omega
 ·have o1:=(g i).2
  have o2:=(g j).2;refine Subtype.ext ?_
  generalize (g i).1=P at *;generalize (g j).1=Q at *
  cases P with
  | none=>
   cases Q with
   | none=>rfl
   | some q=>
    unfold E8u at e;dsimp only at e;split at e<;>omega
  | some p=>
   cases Q with
   | none=>
    unfold E8u at e;dsimp only at e;split at e<;>omega
   | some q=>
    have rp:OnC b (some (p.1,rtE b p.1)):=@Classical.epsilon_spec F (fun y=>y*y=p.1*p.1*p.1+b) ⟨p.2,o1⟩
    unfold E8u at e;dsimp only at e;split at e
    ·split at e
     ·rename_i h1 h2
      have ex:=hi p.1 q.1 (by omega)
      congr 1
      exact Prod.ext ex (by rw[h1,h2,ex])
     ·omega
    ·split at e
     ·omega
     ·rename_i h1 h2
      have ex:=hi p.1 q.1 (by omega)
      rcases C4w rp o1 rfl with k | k
      ·exact absurd (congrArg Prod.snd k) h1
      ·rw[ex] at rp
       rcases C4w rp o2 rfl with l | l
       ·exact absurd (congrArg Prod.snd l) h2
       ·rw[k,l,ex]
end

theorem H6l:Ir rN:=by
 have h7:g7.val=7:=by decide +kernel
 have h1:pw g7 (rN-1)=1:=by
  apply Fin.ext
  rw[W9 g7 256 (rN-1) (by decide +kernel),h7,I6l]
  decide +kernel
 refine E6g (g:=g7) (by decide +kernel) h1 (fun d h2 h3=>D1r F4r H5o G6j (by decide +kernel) h1 (fun p hp=>?_) h2 h3)
 intro he;have hp:=List.all_eq_true.mp G1g p hp;rw[Bool.and_eq_true,decide_eq_true_eq] at hp;have:=congrArg Fin.val he
 rw[W9 g7 256 _ hp.1,h7] at this;have e1:((1:Fin rN):Nat)=1:=by decide +kernel
 rw[e1] at this;rw[this] at hp;exact absurd hp.2 (by decide)
end

section

section
variable {F:Type} [Fld F] [DecidableEq F] {b:F}
/-- One row: nothing, once, twice, .. -/
def B6a (z a:F×F×F):Nat->F×F×F
 | 0=>z
 | d+1=>jpl (B6a z a d) a
/-- What each row begins with. -/
def baT (z a:F×F×F):Nat->F×F×F
 | 0=>a
 | i+1=>jpl (B6a z (baT z a i) 15) (baT z a i)
/-- One of each row, added up. -/
def pkT (z a:F×F×F) (v:Nat):Nat->F×F×F
 | 0=>z
 | i+1=>jpl (pkT z a v i) (B6a z (baT z a i) (v / 16 ^ i % 16))

theorem D2n (hc:Cv b) {z a:F×F×F} (hz:z.2.2=0) {P:Pt F} (h:Jc P a):∀d,Jc (D6 P d) (B6a z a d)
 | 0=>hz
 | d+1=>A2y hc.two _ _ _ _ (D2n hc hz h d) h
theorem F2h (hc:Cv b) {z a:F×F×F} (hz:z.2.2=0) {P:Pt F} (hP:OnC b P) (h:Jc P a):∀i,Jc (D6 P (16 ^ i)) (baT z a i)
 | 0=>by
  rw[Nat.pow_zero,D6y];exact h
 | i+1=>by
  have hb:=F2h hc hz hP h i;rw[Nat.pow_succ,Q6 hc hP];exact A2y hc.two _ _ _ _ (D2n hc hz hb 15) hb
theorem G0z (hc:Cv b) {z a:F×F×F} (hz:z.2.2=0) {P:Pt F} (hP:OnC b P) (h:Jc P a) (v:Nat):∀i,Jc (D6 P (v % 16 ^ i)) (pkT z a v i)
 | 0=>by
  rw[Nat.pow_zero,Nat.mod_one];exact hz
 | i+1=>by
  rw[Nat.pow_succ,Nat.mod_mul,Q5 hc hP,Q6 hc hP];exact A2y hc.two _ _ _ _ (G0z hc hz hP h v i) (D2n hc hz (F2h hc hz hP h i) _)
/-- All of them. -/
theorem H0n (hc:Cv b) {z a:F×F×F} (hz:z.2.2=0) {P:Pt F} (hP:OnC b P) (h:Jc P a) {v n:Nat} (hn:n=64) (hv:v<2 ^ 256):Jc (D6 P v) (pkT z a v n):=by
 have:=G0z hc hz hP h v n
 rwa [hn,Nat.mod_eq_of_lt (Nat.lt_of_lt_of_le hv (by decide)),<-hn] at this
end
end

section

/-- What stood at p stands at r now; of the others only these are known. -/
def A0p (x:Ctx) (keep:List Nat) (p r:Nat):Ctx:={ x with β:=fun q=>if q=r then x.β p else x.β q,k:=fun q=>if q=r then .real else if Q0 q keep then x.k q else .no }

section
variable {w0:World} {F0:Nat->Prop} {K:Kp} {aq:List Act} {x:Ctx} {a:Act} {keep:List Nat} {p r:Nat}

theorem F9c (hr:x.k r = .no):Ext (G0 x keep) (A0p x keep p r):=by
 have hne:∀q,(G0 x keep).k q ≠ .no->q≠r:=fun q hq e=>by
  subst e;apply hq
  simp only[G0,hr];split<;>rfl
 refine ⟨Nat.le_refl _,fun _ h=>⟨h,rfl⟩,fun q hq=>?_,fun q hq=>?_,fun q hq cs ty h=>⟨cs,h,rfl⟩⟩
 ·show (if q=r then Kd.real else if Q0 q keep then x.k q else .no)=_
  rw[if_neg (hne q hq)];rfl
 ·show (if q=r then x.β p else x.β q)=x.β q
  rw[if_neg (hne q (by rw[hq];intro h;cases h))]

/-- Slots that tell of the block at its new position, or not of it. -/
def F3n (keep:List Nat) (p r:Nat):List SV->List SV->Prop
 | [],[]=>True
 | s::l,s' :: l' => ((s' = s∧H1m keep s=true)∨∃off,s = .v (.c (.ptr p off))∧s' = .v (.c (.ptr r off)))∧F3n keep p r l l'
 | _,_=>False
theorem H7u {off:Nat} {v:Value} (h:B8 x (.v (.c (.ptr p off))) v):B8 (A0p x keep p r) (.v (.c (.ptr r off))) v:=by
 obtain ⟨h0,d,hd⟩:=h;refine ⟨h0,d,?_⟩
 cases d<;>(simp only[den] at hd ⊢;exact ⟨by simp [A0p],by rw[hd.2];simp [A0p]⟩)
theorem E6f (hr:x.k r = .no):∀{tl:List Nat} {svs svs' : List SV},F3n keep p r svs svs' -> ∀t v,B8 x (D9 .top tl svs t) v->B8 (A0p x keep p r) (D9 .top tl svs' t) v
 | [],svs,svs',_,t,v,_=>by
  cases svs'<;>trivial
 | _::_,[],[],_,t,v,_=>trivial
 | _::_,[],_::_,h,_,_,_=>h.elim
 | _::_,_::_,[],h,_,_,_=>h.elim
 | n::tl,s::l,s' :: l',h,t,v,hd=>by
  simp only[D9] at hd ⊢
  by_cases e:t=n
  ·rw[if_pos e] at hd ⊢
   rcases h.1 with ⟨e1,h1⟩ | ⟨off,e1,e2⟩
   ·rw[e1]
    exact A1q (F9c hr) (E0y h1 hd)
   ·subst e1 e2
    exact H7u hd
  ·rw[if_neg e] at hd ⊢
   exact E6f hr h.2 t v hd

theorem B2o:∀{ml:List Nat} {ens:List (Option En)} {q:Nat},D9 none ml ens q≠none->Q0 q ml=true
 | [],_,_,h=>by simp [D9] at h
 | _::_,[],_,h=>by simp [D9] at h
 | n::ml,e::ens,q,h=>by
  simp only[D9] at h;simp only[Q0];by_cases hq:q=n
  ·rw[if_pos hq.symm]
  ·rw[if_neg hq] at h
   rw[if_neg (Ne.symm hq)];exact B2o h
theorem D0u:∀{ml:List Nat} {ens:List (Option En)},A1x keep ens=true->∀{q:Nat} {l:List It},D9 none ml ens q=some (.fl l)->B0p keep l=true
 | [],_,_,_,_,h=>by simp [D9] at h
 | _::_,[],_,_,_,h=>by simp [D9] at h
 | n::ml,some (.fl s)::ens,h,q,l,hl=>by
  simp only[D9] at hl;simp only[A1x,Bool.and_eq_true] at h;by_cases hq:q=n
  ·rw[if_pos hq] at hl;cases hl;exact h.1
  ·rw[if_neg hq] at hl;exact D0u h.2 hl
 | n::ml,some (.sq s)::ens,h,q,l,hl=>by
  simp only[D9] at hl;simp only[A1x] at h;by_cases hq:q=n
  ·rw[if_pos hq] at hl;cases hl
  ·rw[if_neg hq] at hl;exact D0u h hl
 | _::_,none::_,h,_,_,_=>by cases h
theorem B2g {keep:List Nat}:∀{ml:List Nat},(ml.all fun q=>decide (q=p) || Q0 q keep)=true->∀{q:Nat},Q0 q ml=true->q≠p->Q0 q keep=true
 | [],_,_,h,_=>by cases h
 | n::ml,ha,q,h,hq=>by
  simp only[List.all_cons,Bool.and_eq_true] at ha;simp only[Q0] at h;split at h
  ·rename_i e
   subst e;have:=ha.1
   simpa [hq] using this
  ·exact B2g ha.2 h hq

theorem Sim.move {nt nx:Nat} {tl:List Nat} {svs:List SV} {ml:List Nat} {ens:List (Option En)}
  (hs:Sim w0 F0 K aq (B0 nt tl svs ml ens nx [] []) x a) (keep:List Nat) (p r:Nat) (hpin:K.pin=none) (hp:∃l,D9 none ml ens p=some (.fl l)) (hr:D9 none ml ens r=none) (hkp:Q0 p keep=false) (hkr:Q0 r keep=false) (hkm:(ml.all fun q=>decide (q=p) || Q0 q keep)=true)
  (he:A1x keep ens=true) {svs' : List SV} (hc:F3n keep p r svs svs') {ml' : List Nat} {ens' : List (Option En)} (hl:∀q,D9 none ml' ens' q=if q=r then D9 none ml ens p else if q=p then none else D9 none ml ens q) :
  Sim w0 F0 K aq (B0 nt tl svs' ml' ens' nx [] []) (A0p x keep p r) a:=by
 have hm:=hs.mem;have hno:x.k r = .no:=(hm.dom r).1 hr;obtain ⟨l0,hp⟩:=hp;have hreal:x.k p = .real:=hm.fl p l0 hp;have hpr:p≠r:=fun e=>by rw[e,hr] at hp;cases hp
 have hext:=F9c (keep:=keep) (p:=p) hno;have kr:(A0p x keep p r).k r = .real:=by simp [A0p]
 have br:(A0p x keep p r).β r=x.β p:=by simp [A0p]
 have ko:∀q,q≠r->(A0p x keep p r).k q=if Q0 q keep then x.k q else .no:=fun q hq=>by simp [A0p,hq]
 have bo:∀q,q≠r->(A0p x keep p r).β q=x.β q:=fun q hq=>by simp [A0p,hq]
 have kreal:∀q,q≠r->(A0p x keep p r).k q = .real->x.k q = .real∧q≠p:=fun q hq h=>by
  rw[ko q hq] at h;split at h
  ·rename_i hk
   exact ⟨h,fun e=>by rw[e,hkp] at hk;cases hk⟩
  ·cases h
 have den_ok:∀q e cs,D9 none ml ens q=some e->C7 x e cs->C7 (A0p x keep p r) e cs:=fun q e cs hq hd=>by
  refine K4 hext ?_
  cases e with
  | fl l=>exact B2k (D0u he hq) hd
  | sq q=>exact ⟨hd.1,fun i hi=>let ⟨c,hc,hj⟩:=hd.2 i hi;⟨c,W4 (x:=x) (y:=G0 x keep) rfl (fun b hb=>hb) (K2 q i) hc,hj⟩⟩
 refine ⟨hs.defers,hs.nt,fun t=>E6f hno hc t _ (hs.t t),?_,?_,?_⟩
 ·refine ⟨fun q=>?_,fun q l hq=>?_,fun q s hq hn=>?_,fun q e hq hk=>?_,fun q s hq hs e=>?_,fun q hq=>?_,fun b hb=>hm.fw b hb⟩
  ·show D9 none ml' ens' q=none↔_
   rw[hl];by_cases e:q=r
   ·subst e
    rw[if_pos rfl,hp,kr];constructor<;>(intro h;cases h)
   ·rw[if_neg e,ko q e]
    by_cases e2:q=p
    ·subst e2
     rw[if_pos rfl,hkp];exact ⟨fun _=>rfl,fun _=>rfl⟩
    ·rw[if_neg e2]
     by_cases hk:Q0 q keep=true
     ·rw[if_pos hk]
      exact hm.dom q
     ·rw[if_neg hk]
      refine ⟨fun _=>rfl,fun _=>?_⟩
      by_cases hn:D9 none ml ens q=none
      ·exact hn
      ·exact absurd (B2g hkm (B2o hn) e2) hk
  ·have hq:D9 none ml' ens' q=some (.fl l):=hq
   rw[hl] at hq;by_cases e:q=r
   ·subst e;exact kr
   ·rw[if_neg e] at hq
    by_cases e2:q=p
    ·rw[if_pos e2] at hq;cases hq
    ·rw[if_neg e2] at hq
     rw[ko q e,if_pos (B2g hkm (B2o (by rw[hq];intro h;cases h)) e2)]
     exact hm.fl q l hq
  ·have hq:D9 none ml' ens' q=some (.sq s):=hq
   rw[hl] at hq;by_cases e:q=r
   ·subst e;rw[kr] at hn;cases hn
   ·rw[if_neg e] at hq
    by_cases e2:q=p
    ·rw[if_pos e2] at hq;cases hq
    ·rw[if_neg e2] at hq
     rw[ko q e,if_pos (B2g hkm (B2o (by rw[hq];intro h;cases h)) e2)] at hn
     exact hm.nil q s hq hn
  ·have hq:D9 none ml' ens' q=some e:=hq
   rw[hl] at hq;by_cases e1:q=r
   ·subst e1
    rw[if_pos rfl] at hq;obtain ⟨cs,ty,h1,h2⟩:=hm.ent p e hq hreal;exact ⟨cs,ty,by rw[br];exact h1,den_ok p e _ hq h2⟩
   ·obtain ⟨g1,g2⟩:=kreal q e1 hk
    rw[if_neg e1,if_neg g2] at hq;obtain ⟨cs,ty,h1,h2⟩:=hm.ent q e hq g1;exact ⟨cs,ty,by rw[bo q e1];exact h1,den_ok q e _ hq h2⟩
  ·by_cases e1:q=r
   ·by_cases e2:s=r
    ·rw[e1,e2]
    ·obtain ⟨g1,g2⟩:=kreal s e2 hs
     rw[e1,br,bo s e2] at e;exact absurd (hm.inj p s hreal g1 e).symm g2
   ·obtain ⟨g1,g2⟩:=kreal q e1 hq
    by_cases e2:s=r
    ·rw[e2,br,bo q e1] at e
     exact absurd (hm.inj q p g1 hreal e) g2
    ·obtain ⟨g3,_⟩:=kreal s e2 hs
     rw[bo q e1,bo s e2] at e;exact hm.inj q s g1 g3 e
  ·by_cases e:q=r
   ·rw[e,br];exact hm.own p hreal
   ·rw[bo q e];exact hm.own q (kreal q e hq).1
 ·have hb:=hs.base
  refine ⟨hb.f0,hb.fn,hb.size,hb.keep,fun q hq hlt=>?_,hb.os,hb.tape,hb.output,fun q hq=>by rw[hpin] at hq;cases hq⟩
  by_cases e:q=r
  ·rw[e,br] at hlt ⊢
   exact hb.ownK p hreal hlt
  ·rw[bo q e] at hlt ⊢
   exact hb.ownK q (kreal q e hq).1 hlt
 ·have hf:Frs x K.ds [] aq:=hs.frs
  cases hf
  exact .nil
end
end

end
end Go.Proofs.YtefimjofjjdndaaGreat
