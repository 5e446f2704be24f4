/- Parts of a proof, one behind the other: Mp, Mi, Rm, Mj. No conditions. -/
import Derived.MapKept
import Derived.WideLaws
import Derived.Carry
import Derived.Test.YtifiiigbedjceaaGreatTuN
open Go.IntKind (wrap)
namespace Go.Proofs.YtifiiigbedjceaaGreat
noncomputable section
section
section
variable {P:Program}
theorem C3v{b:Nat}{es:Array MapEntry}{c:Nat}{w:World}(hb:w.heap[b]? = some (.map es c)):(getObj b).run P w = .ok (.map es c) w:=by simp [getObj,Sem.run,hb]
theorem A5y{b:Nat}{es:Array MapEntry}{c:Nat}{w:World}(o:Obj)(hb:w.heap[b]? = some (.map es c)):(setObj b o).run P w = .ok () (w.putObj b o):=by simp [setObj,Sem.run,hb,World.putObj]
structure Mt(w0:World)(F0:Nat->Prop)(K:Kp)(aq:List Act)(a:Act)(b:Nat)(es:Array MapEntry)(c:Nat)(σ:St)(y:C0):Prop where
 sim:Sim w0 F0 K aq σ y a
 obj:y.w.heap[b]? = some (.map es c)
 nf:¬y.F b
variable {w0:World} {F0:Nat->Prop} {K:Kp} {aq:List Act} {a:Act} {b:Nat} {es:Array MapEntry} {c:Nat} {σ:St} {y:C0}
theorem Mt.step(h:Mt w0 F0 K aq a b es c σ y){aq' : List Act}{σ2:St}{z:C0}{bb:Act}(g:Sim y.w y.F (BM y K K.ds) aq' σ2 z bb):Mt w0 F0 K aq' bb b es c σ2 z:=by
 refine ⟨⟨g.defers,g.nt,g.t,g.mem,h.sim.base.trans g.base,g.frs⟩,P8 h.sim.mem g.base h.obj rfl,fun hb=>?_⟩
 rcases g.base.fn b hb with h1 | h1
 ·exact h.nf h1
 ·have:=(Array.getElem?_eq_some_iff.1 h.obj).1
  omega
theorem Mt.put(h:Mt w0 F0 K aq a b es c σ y)(hw:w0.heap.size<=b)(es' : Array MapEntry)(c' : Nat):Mt w0 F0 K aq a b es' c' σ { y with w:=y.w.putObj b (.map es' c') }:=by
 refine ⟨h.sim.world rfl rfl rfl (by simp [World.putObj]) (fun q hq=>World.putObj_heap_other fun e=>h.nf (e ▸ hq)) (fun p hp=>World.putObj_heap_other fun e=>?_) (fun q hq _=>World.putObj_heap_other (by omega)),World.putObj_heap_same (Array.getElem?_eq_some_iff.1 h.obj).1,h.nf⟩
 cases hm:σ.m p with
 | none=>rw[(h.sim.mem.dom p).1 hm] at hp;cases hp
 | some en=>
  obtain ⟨cs,ty,hc,_⟩:=h.sim.mem.ent p en hm hp;rw[e,h.obj] at hc
  cases hc
theorem Sim.put_slot(hs:Sim w0 F0 K aq σ y a){d:Nat}(hd:d<σ.nt){s:SV}{v:Value}(hv:B8 y s v):Sim w0 F0 K aq { σ with t:=M7 σ.t d s } y (a.put (some d) v):=by
 refine ⟨hs.defers,?_,fun j=>?_,hs.mem,hs.base,hs.frs⟩
 ·have:=hs.nt
  simpa [Act.put] using this
 ·have h0:=hs.t j
  show B8 _ (M7 σ.t d s j) _;unfold M7;by_cases hj:j=d
  ·subst hj
   have hlt:j<a.tmps.size:=by rw[hs.nt];exact hd
   simp only[if_true,Act.put,Array.getD_eq_getD_getElem?,Array.getElem?_setIfInBounds,hlt,Option.getD_some];exact hv
  ·simp only[hj,if_false]
   have:(a.put (some d) v).tmps.getD j undef=a.tmps.getD j undef:=by simp [Act.put,Array.getD_eq_getD_getElem?,Ne.symm hj]
   rw[this];exact h0
theorem Mt.made(hs:Sim w0 F0 K aq σ y a){d:Nat}(hd:d<σ.nt) :
  Mt w0 F0 K aq (a.put (some d) (.map (some y.w.heap.size))) y.w.heap.size #[] 0 { σ with t:=M7 σ.t d (.v (.c (.val (.map (some y.w.heap.size))))) } { y with w:=y.w.alloc (.map #[] 0) }:=by
 have hs2:Sim w0 F0 K aq σ { y with w:=y.w.alloc (.map #[] 0) } a:=
  hs.world rfl rfl rfl (by simp) (fun q hq=>Go.RowKit.Below.heap_alloc _ _ _ (hs.mem.fw q hq)) (fun p hp=>Go.RowKit.Below.heap_alloc _ _ _ (hs.mem.lt hp)) (fun q hq _=>Go.RowKit.Below.heap_alloc _ _ _ (Nat.lt_of_lt_of_le hq hs.base.size))
 exact ⟨hs2.put_slot hd ⟨rfl,0,rfl,rfl⟩,World.alloc_heap_new y.w _,fun hb=>Nat.lt_irrefl _ (hs.mem.fw _ hb)⟩
def Qv(k:List KI)(t:Nat->SV):Option (Option Nat×Op×TypeId):=
 match k with
 | .ops ops i _::k=>
  match Bz k,ops[i]? with
  | false,some o=>
   match J6 ops.toList o t with
   | some true=>some (o.dst,o.op,o.type)
   | _=>none
  | _,_=>none
 | _=>none
end
end
section
abbrev MiL:=List (Int×Value×Nat)
def CN(e:Int×Value×Nat):MapEntry:={ key:=.int .i64 e.1,val:=e.2.1,born:=e.2.2 }
def K4(m:MiL×Nat):Obj:=.map (m.1.map CN).toArray m.2
def FK:MiL->Int->Nat->Option (Nat×Value)
 | [],_,_=>none
 | e::l,v,n=>if e.1=v then some (n,e.2.1) else FK l v (n+1)
def H9:MiL->Int->Option Value
 | [],_=>none
 | e::l,v=>if e.1=v then some e.2.1 else H9 l v
def RU(v:Int)(x:Value):MiL->MiL
 | []=>[]
 | e::l=>if e.1=v then (v,x,e.2.2)::l else e::RU v x l
def CO(m:MiL×Nat)(v:Int)(x:Value):MiL×Nat:=
 match H9 m.1 v with
 | some _=>(RU v x m.1,m.2)
 | none=>(m.1++[(v,x,m.2)],m.2+1)
theorem Jm:∀(l:MiL) (v:Int) (n:Nat),(FK l v n).map (·.2)=H9 l v
 | [],_,_=>rfl
 | e::l,v,n=>by
  show (if e.1=v then some (n,e.2.1) else FK l v (n+1)).map (·.2)=if e.1=v then some e.2.1 else H9 l v
  split
  ·rfl
  ·exact Jm l v (n+1)
theorem Xs{k0:IntKind}(v:Int):∀(l:MiL) (n:Nat),Instr.findNow (.int k0) (.int .i64 v) (l.map CN) n=some (FK l v n)
 | [],_=>rfl
 | e::l,n=>by
  have ih:=Xs (k0:=k0) v l (n+1);show (match Instr.sameNow (.int k0) (.int .i64 v) (.int .i64 e.1) with
   | some true=>some (some (n,e.2.1))
   | some false=>Instr.findNow (.int k0) (.int .i64 v) (l.map CN) (n+1)
   | none=>none)=some (if e.1=v then some (n,e.2.1) else FK l v (n+1))
  have e1:Instr.sameNow (.int k0) (.int .i64 v) (.int .i64 e.1)=some (v == e.1):=rfl;rw[e1];by_cases h:e.1=v
  ·rw[if_pos h,show (v == e.1)=true from by rw[h];exact beq_self_eq_true v]
  ·rw[if_neg h,show (v == e.1)=false from by simpa using fun k=>h k.symm]
   exact ih
theorem A4l(v:Int)(x:Value):∀(l:MiL) (n j:Nat) (y:Value),FK l v n=some (n+j,y)->(l.map CN).modify j (fun e=>{ e with key:=.int .i64 v,val:=x })=(RU v x l).map CN
 | [],_,_,_,h=>by cases h
 | e::l,n,j,y,h=>by
  have h:(if e.1=v then some (n,e.2.1) else FK l v (n+1))=some (n+j,y):=h
  show (CN e::l.map CN).modify j _=(if e.1=v then (v,x,e.2.2)::l else e::RU v x l).map CN
  by_cases he:e.1=v
  ·rw[if_pos he] at h ⊢
   have hj:j=0:=by
    have:=congrArg (fun o=>o.map (·.1)) h
    simp at this
    omega
   subst hj;rfl
  ·rw[if_neg he] at h ⊢
   have hn:∀(l:MiL) (m:Nat) (r:Nat×Value),FK l v m=some r->m<=r.1:=by
    intro l;induction l with
    | nil=>intro m r h;cases h
    | cons e l ih=>
     intro m r h;have h:(if e.1=v then some (m,e.2.1) else FK l v (m+1))=some r:=h
     split at h
     ·cases h;exact Nat.le_refl _
     ·have:=ih _ _ h;omega
   have h1:=hn _ _ _ h;have h1:n+1<=n+j:=h1;obtain ⟨j',rfl⟩:∃j',j=j' + 1:=⟨j-1,by omega⟩
   have:=A4l v x l (n+1) j' y (by rw[h];congr 2;omega)
   show CN e::(l.map CN).modify j' _=CN e::(RU v x l).map CN;rw[this]
section
variable {P:Program} {mt kt et b:Nat} {k0:IntKind} {m:MiL×Nat} {w:World}
theorem UF(hk:P.underlying kt=some (.int k0))(em:Bool)(n:Nat)(v:Int)(w:World):(Instr.checkKey em (n+1) kt (.int .i64 v)).run P w = .ok () w:=by
 simp only[Instr.checkKey,Sem.run_bind,run_underlying hk,Result.andThen_ok];rfl
theorem Pm(hk:P.underlying kt=some (.int k0))(l:MiL)(v:Int)(w:World):(Instr.findKey kt (.int .i64 v) (l.map CN)).run P w = .ok (FK l v 0) w:=by
 simp only[Instr.findKey,Sem.run_bind,run_underlying hk,Result.andThen_ok,Xs];rfl
theorem PD(hb:w.heap[b]? = some (K4 m)):(getObj b).run P w = .ok (.map (m.1.map CN).toArray m.2) w:=C3v hb
theorem XN(hm:P.underlying mt=some (.map kt et))(hk:P.underlying kt=some (.int k0))(hb:w.heap[b]? = some (K4 m)){zv:Value}(hz:(zeroValue et).run P w = .ok zv w)(v:Int) :
  (Instr.lookup mt (.map (some b)) (.int .i64 v) true).run P w = .ok (.tuple #[(H9 m.1 v).getD zv,.bool (H9 m.1 v).isSome]) w:=by
 simp only[Instr.lookup,Sem.run_bind,run_underlying hm,Result.andThen_ok,PD hb,Sem.run_pure,UF hk,Pm hk];rw[<-Jm m.1 v 0]
 cases FK m.1 v 0 with
 | none=>simp only[Sem.run_bind,hz,Result.andThen_ok,Sem.run_pure];rfl
 | some r=>simp only[Sem.run_bind,Result.andThen_ok,Sem.run_pure];rfl
theorem A8q(hm:P.underlying mt=some (.map kt et))(hk:P.underlying kt=some (.int k0))(hb:w.heap[b]? = some (K4 m)){zv:Value}(hz:(zeroValue et).run P w = .ok zv w)(v:Int) :
  (Instr.lookup mt (.map (some b)) (.int .i64 v) false).run P w = .ok ((H9 m.1 v).getD zv) w:=by
 simp only[Instr.lookup,Sem.run_bind,run_underlying hm,Result.andThen_ok,PD hb,Sem.run_pure,UF hk,Pm hk];rw[<-Jm m.1 v 0]
 cases FK m.1 v 0 with
 | none=>simp only[Sem.run_bind,hz,Result.andThen_ok,Sem.run_pure];rfl
 | some r=>simp only[Sem.run_bind,Result.andThen_ok,Sem.run_pure];rfl
theorem C0a(n:Nat)(v:Int):Instr.sameBits (n+1) (.int .i64 v) (.int .i64 v)=true:=by simp [Instr.sameBits]
theorem C9l(hm:P.underlying mt=some (.map kt et))(hk:P.underlying kt=some (.int k0))(hb:w.heap[b]? = some (K4 m))(v:Int)(x:Value) :
  (Instr.mapUpdate mt (.map (some b)) (.int .i64 v) x).run P w = .ok () (w.putObj b (K4 (CO m v x))):=by
 simp only[Instr.mapUpdate,Sem.run_bind,run_underlying hm,Result.andThen_ok,PD hb,UF hk,Pm hk];have hf:=Jm m.1 v 0;unfold CO
 cases h:FK m.1 v 0 with
 | none=>
  rw[h] at hf;rw[<-hf];have e:K4 (m.1++[(v,x,m.2)],m.2+1) = .map ((m.1.map CN).toArray.push { key:=.int .i64 v,val:=x,born:=m.2 }) (m.2+1):=by
   unfold K4;simp [CN]
  show (setObj b _).run P w=_;rw[show (Option.map (fun (x:Nat×Value)=>x.2) (none:Option (Nat×Value)))=none from rfl]
  dsimp only;rw[e];exact A5y _ hb
 | some r=>
  obtain ⟨i,y⟩:=r;rw[h] at hf;rw[<-hf];have hm2:=A4l v x m.1 0 i y (by rw[h,Nat.zero_add])
  have hk2:(((m.1.map CN).toArray[i]?).map (·.key)).getD (.int .i64 v) = .int .i64 v:=by
   have key:∀(l:MiL) (n j:Nat) (y:Value),FK l v n=some (n+j,y)->(((l.map CN))[j]?).map (·.key)=some (.int .i64 v):=by
    intro l;induction l with
    | nil=>intro n j y h;cases h
    | cons e l ih=>
     intro n j y h;have h:(if e.1=v then some (n,e.2.1) else FK l v (n+1))=some (n+j,y):=h
     split at h
     ·rename_i he
      have hj:j=0:=by
       have:=congrArg (fun o=>o.map (·.1)) h
       simp at this
       omega
      subst hj;show some (Value.int .i64 e.1)=_;rw[he]
     ·have hn:∀(l:MiL) (m:Nat) (r:Nat×Value),FK l v m=some r->m<=r.1:=by
       intro l;induction l with
       | nil=>intro m r h;cases h
       | cons e l ih=>
        intro m r h;have h:(if e.1=v then some (m,e.2.1) else FK l v (m+1))=some r:=h
        split at h
        ·cases h;exact Nat.le_refl _
        ·have:=ih _ _ h;omega
      have h1:n+1<=n+j:=hn _ _ _ h;obtain ⟨j',rfl⟩:∃j',j=j' + 1:=⟨j-1,by omega⟩
      exact ih (n+1) j' y (by rw[h];congr 2;omega)
   have:=key m.1 0 i y (by rw[h,Nat.zero_add])
   simp only[List.getElem?_toArray,this];rfl
  show ((Instr.keyThatStays (((m.1.map CN).toArray[i]?).map (·.key) |>.getD (.int .i64 v)) (.int .i64 v)).bind fun key=>setObj b (.map ((m.1.map CN).toArray.modify i fun e=>{ e with key,val:=x }) m.2)).run P w=_
  rw[hk2];have hst:(Instr.keyThatStays (.int .i64 v) (.int .i64 v)).run P w = .ok (.int .i64 v) w:=by
   unfold Instr.keyThatStays;rw[if_pos (C0a _ v)];rfl
  show ((Instr.keyThatStays (.int .i64 v) (.int .i64 v)) >>= fun key=>setObj b (.map ((m.1.map CN).toArray.modify i fun e=>{ e with key,val:=x }) m.2)).run P w=_
  rw[Sem.run_bind,hst,Result.andThen_ok];have e:K4 (RU v x m.1,m.2) = .map ((m.1.map CN).toArray.modify i fun e=>{ e with key:=.int .i64 v,val:=x }) m.2:=by
   unfold K4;rw[<-hm2];congr 1
   simp
  show _=Result.ok () (w.putObj b (K4 (RU v x m.1,m.2)));rw[e];exact A5y _ hb
end
end
section
section
variable {P:Program} {w0:World} {F0:Nat->Prop} {K:Kp} {aw:List Act} {env:D6} {Q:Exit->Act->World->Prop} {x:C0} {a:Act}
structure Ms(w0:World)(F0:Nat->Prop)(K:Kp)(aw:List Act)(a:Act)(l:List (Nat×Obj))(σ:St)(y:C0):Prop where
 sim:Sim w0 F0 K aw σ y a
 obj:∀e∈l,y.w.heap[e.1]? = some e.2
 oc:∀e∈l,e.2.isCells=false
 nf:∀e∈l,¬y.F e.1
theorem Ms.step{l:List (Nat×Obj)}{σ:St}{y:C0}(h:Ms w0 F0 K aw a l σ y){as' : List Act}{σ2:St}{z:C0}{b:Act}(g:Sim y.w y.F (BM y K K.ds) as' σ2 z b):Ms w0 F0 K as' b l σ2 z:=by
 refine ⟨⟨g.defers,g.nt,g.t,g.mem,h.sim.base.trans g.base,g.frs⟩,fun e he=>P8 h.sim.mem g.base (h.obj e he) (h.oc e he),h.oc,fun e he hb=>?_⟩
 rcases g.base.fn e.1 hb with h1 | h1
 ·exact h.nf e he h1
 ·have:=(Array.getElem?_eq_some_iff.1 (h.obj e he)).1
  omega
theorem Ms.put{l l' : List (Nat×Obj)}{σ:St}{y:C0}(h:Ms w0 F0 K aw a l σ y){p:Nat}{o:Obj}(hp:(p,o)∈l)(hw:w0.heap.size<=p){o' : Obj}(ho:o'.isCells=false)(hl:∀e∈l',e=(p,o')∨(e∈l∧e.1≠p)) :
  Ms w0 F0 K aw a l' σ { y with w:=y.w.putObj p o' }:=by
 have hpo:=h.obj _ hp;have hpc:=h.oc _ hp;have hpf:=h.nf _ hp;have hlt:=(Array.getElem?_eq_some_iff.1 hpo).1;refine ⟨h.sim.world rfl rfl rfl (by simp [World.putObj]) (fun q hq=>World.putObj_heap_other fun e=>hpf (e ▸ hq)) (fun q hq=>World.putObj_heap_other fun e=>?_) (fun q hq _=>World.putObj_heap_other (by omega)),fun e he=>?_,fun e he=>?_,fun e he=>?_⟩
 ·cases hm:σ.m q with
  | none=>rw[(h.sim.mem.dom q).1 hm] at hq;cases hq
  | some en=>
   obtain ⟨cs,ty,hc,_⟩:=h.sim.mem.ent q en hm hq;rw[e,hpo] at hc
   cases hc
   cases hpc
 ·rcases hl e he with rfl | ⟨h1,h2⟩
  ·exact World.putObj_heap_same hlt
  ·exact (World.putObj_heap_other h2).trans (h.obj e h1)
 ·rcases hl e he with rfl | ⟨h1,_⟩
  ·exact ho
  ·exact h.oc e h1
 ·rcases hl e he with rfl | ⟨h1,_⟩
  ·exact hpf
  ·exact h.nf e h1
theorem Ms.sub{l l' : List (Nat×Obj)}{σ:St}{y:C0}(h:Ms w0 F0 K aw a l σ y)(hl:∀e∈l',e∈l):Ms w0 F0 K aw a l' σ y:=⟨h.sim,fun e he=>h.obj e (hl e he),fun e he=>h.oc e (hl e he),fun e he=>h.nf e (hl e he)⟩
theorem Yv{α:Type}{g:Operand}{ps:Array Tmp}{assign body:Code}{k:List KI}{gf:Nat}{caps:List (Nat×Nat)}{σ:St}
  (hk:Bz k=false) (hs:Sim w0 F0 K aw σ x a)
  (eg:Bl P gf) (S:List α->St) (hg:∀s,(S s).ev g = .v (.c (.clo gf caps))) (h0:∃n,σ = { S [] with nx:=n }) (xs:List α) (vals:α->List SV) (encs:α->List Value) (henc:∀y z,J7 y (vals z) (encs z)) (hps:∀z,ps.size=(encs z).length)
  (hpt:∀pre,∀p∈ps.toList,p<(S pre).nt) (iter:MK P x gf caps encs xs fun s=>(S s).m)
  (MO:List α->List (Nat×Obj)) (hMO:∀s,∀e∈MO s,e.1<x.w.heap.size) (hm0:Ms w0 F0 K aw a (MO []) σ x)
  (SB SE:List α->α->St) (hSE:∀pre z,(∃t,xs=pre++z::t)->∃n,JK (SE pre z) = { S (pre++[z]) with nx:=n })
  (hassign:∀pre z,(∃t,xs=pre++z::t)->∀(w1:World) (F1:Nat->Prop) (K1:Kp) (as1:List Act) (Q1:Exit->Act->World->Prop) (l:Nat) (y:C0) (b:Act),Sim w1 F1 K1 as1 (Y6 (S pre) (ps.toList.zip (vals z))) y b->(∀y' b',Sim w1 F1 K1 as1 (SB pre z) y' b' -> Q1 .normal b' y'.w)->Wq P Q1 [.code assign] as1 .normal b y.w (some l))
  (hbody:∀pre z,(∃t,xs=pre++z::t)->∀(ex:List (Nat×Obj)) (as1:List Act) (Q1:Exit->Act->World->Prop) (l:Nat) (y:C0) (b:Act),(∀e∈ex,x.w.heap.size<=e.1)->Ms w0 F0 K as1 b (MO pre++ex) (SB pre z) y->(∀y' b',Ms w0 F0 K as1 b' (MO (pre++[z])++ex) (SE pre z) y' -> Q1 .normal b' y'.w)->Wq P Q1 [.code body] as1 .normal b y.w (some l))
  (rest:∀(D:Nat) (y:C0),Ms w0 F0 K aw a (MO xs) (S xs) y->w0.heap.size<=D->¬y.F D->y.w.heap[D]? = some (.deferred (some []))->Wq P Q k aw .normal { a with defers:={ target:=.collected D,args:=#[] } :: a.defers } y.w) :
  Wq P Q (.code (.rangeFunc g ps assign body)::k) aw .normal a x.w:=by
 refine ⟨?_⟩
 show (Code.rangeFunc g ps assign body).wpIn (I3 (O1 none k)) 0 P (wpK P Q none k aw) a x.w;have hro:O1 none k=none:=by unfold O1;rw[hk];rfl
 rw[hro];have hev:a.eval g = .func (.func gf) #[] (caps.map fun c=>Value.pointer (some ⟨x.β c.1,c.2,none⟩)).toArray:=by
  have hd:=FF hs.t g;have hg0:σ.ev g = .v (.c (.clo gf caps)):=by
   obtain ⟨n,hn⟩:=h0;rw[hn];exact hg []
  rw[hg0] at hd;exact (NT hd).2
 refine wpIn_rangeFunc fun fn _=>?_
 let lb:=(caps.map fun c=>Value.pointer (some ⟨x.β c.1,c.2,none⟩)).toArray
 obtain ⟨B,hB⟩:∃B,B=x.w.heap.size:=⟨_,rfl⟩
 obtain ⟨rec,hrec⟩:∃rec:LoopState->Option Code->Loop,rec=fun st pe=>{ state:=st,pending:=pe,fn,tmps:=a.tmps,params:=ps,assign,body,defers:=B }:=⟨_,rfl⟩
 obtain ⟨W1,hW1⟩:∃W1,(x.w.alloc (.deferred (some []))).alloc (.loop (rec .ready none))=W1:=⟨_,rfl⟩
 have hL1:W1.heap[B+1]? = some (.loop (rec .ready none)):=by
  rw[<-hW1,hB];have:=World.alloc_heap_new (x.w.alloc (.deferred (some []))) (.loop (rec .ready none));rwa [World.size_alloc] at this
 have hK1:W1.heap[B]? = some (.deferred (some [])):=by
  rw[<-hW1,hB];exact (Go.RowKit.Below.heap_alloc _ _ _ (by simp)).trans (World.alloc_heap_new x.w _)
 have hsz:w0.heap.size<=B:=by rw[hB];exact hs.base.size
 have hb0:Bt w0 F0 K aw a B (S []) x.w x:=by
  obtain ⟨n,hn⟩:=h0;refine ⟨rfl,?_,fun b hb=>.inl (by rw[hB];exact hs.mem.fw b hb)⟩
  rw[hn] at hs;exact hs.nx (S []).nx
 have hb1:∃y,Bt w0 F0 K aw a B (S []) W1 y∧(∀e∈MO [],W1.heap[e.1]? = some e.2)∧(∀e∈MO [],e.2.isCells=false)∧∀e∈MO [],¬y.F e.1:=by
  have hbB:=(hb0.grow (World.grownBy_alloc _ (.deferred (some [])) none)).grow (World.grownBy_alloc _ (.loop (rec .ready none)) none);rw[hW1] at hbB;refine ⟨_,hbB,fun e he=>?_,hm0.oc,fun e he=>hm0.nf e he⟩
  have h1:=hm0.obj e he;have hlt:=(Array.getElem?_eq_some_iff.1 h1).1;rw[<-hW1];exact ((Go.RowKit.Below.heap_alloc _ _ _ (by simp;omega)).trans (Go.RowKit.Below.heap_alloc _ _ _ hlt)).trans h1
 refine ⟨B+1,[{ target:=.collected B,args:=#[] }],W1,{ target:=.fn (.func gf) lb,args:=#[.func (.yield (B+1)) #[] #[]] },W1,gf,#[.func (.yield (B+1)) #[] #[]]++lb,W1,?_,?_,?_,?_,An none 0,?_⟩
 ·rw[<-hW1,hrec,hB];exact run_enterLoop_outer _ _ _ _ _
 ·simp only[resolve,hev]
  simp [go_sem]
  rfl
 ·intro f' _;exact trivial
 ·simp [invoke,go_sem]
  exact eg _ _
 ·refine UD none ((iter (B+1) (fun s W=>(∃y,Bt w0 F0 K aw a B (S s) W y∧(∀e∈MO s,W.heap[e.1]? = some e.2)∧(∀e∈MO s,e.2.isCells=false)∧∀e∈MO s,¬y.F e.1)∧W.heap[B+1]? = some (.loop (rec .ready none))∧W.heap[B]? = some (.deferred (some []))) W1 ?_ ?_ ?_ ⟨hb1,hL1,hK1⟩).mono ?_)
  ·rintro s W W' ⟨⟨y,hy,ho,hc,hn⟩,hl,hd⟩ hgr
   have hkeep:∀{j:Nat} {o:Obj},W.heap[j]? = some o->W'.heap[j]? = some o:=fun h=>(hgr.block _ (Array.getElem?_eq_some_iff.1 h).1 (fun e=>by cases e)).trans h
   exact ⟨⟨_,hy.grow hgr,fun e he=>hkeep (ho e he),hc,hn⟩,hkeep hl,hkeep hd⟩
  ·rintro s W ⟨⟨y,⟨rfl,hy,hf⟩,_⟩,_,_⟩
   refine ⟨y,rfl,hy.mem,?_⟩
   have hd:=FF hy.t g;rw[hg s] at hd;obtain ⟨h1,h2⟩:=NT hd;rw[hev] at h2;exact Su h1 h2
  ·rintro pre z W ⟨⟨y,hy,ho,hc,hn⟩,hl,hd⟩ hpre
   have hyr:=run_yield (P:=P) (args:=(encs z).toArray) hl (by rw[hrec];simpa using (hps z).symm)
   rw[hrec] at hyr;have hin:=hy.into (henc y z) (hps z) (hpt pre);have hWs:B+2<=W.heap.size:=(Array.getElem?_eq_some_iff.1 hl).1;refine ⟨fn,_,assign,body,hyr,roundIn_of_wpIn trivial ?_⟩
   have hyw:=hy.w;rw[<-hyw];obtain ⟨ex,hex⟩:∃ex:Option Code->LoopState->List (Nat×Obj),ex=fun pe st=>[(B+1,.loop (rec st pe)),(B,.deferred (some []))]:=⟨_,rfl⟩
   have hms0:Ms w0 F0 K (a::aw) { tmps:=(ps.zip (encs z).toArray).foldl (fun t (q:Nat×Value)=>t.setIfInBounds q.1 q.2) a.tmps,defers:=[] } (MO pre++ex none .ready) (Y6 (S pre) (ps.toList.zip (vals z))) y:=by
    refine ⟨hin.sim,fun e he=>?_,fun e he=>?_,fun e he=>?_⟩
    ·rcases List.mem_append.1 he with he | he
     ·rw[hyw];exact ho e he
     ·rw[hex] at he
      simp only[List.mem_cons,List.not_mem_nil,or_false] at he;rcases he with rfl | rfl
      ·rw[hyw];exact hl
      ·rw[hyw];exact hd
    ·rcases List.mem_append.1 he with he | he
     ·exact hc e he
     ·rw[hex] at he
      simp only[List.mem_cons,List.not_mem_nil,or_false] at he;rcases he with rfl | rfl<;>rfl
    ·rcases List.mem_append.1 he with he | he
     ·exact hn e he
     ·rw[hex] at he
      simp only[List.mem_cons,List.not_mem_nil,or_false] at he;rcases he with rfl | rfl
      ·intro hb
       have:=hy.fr _ hb
       omega
      ·intro hb
       have:=hy.fr _ hb
       omega
   refine (hassign pre z hpre y.w y.F (BM y K K.ds) (a::aw) _ (B+1) y _ hin.sim.own fun y' b' hs' => ?_).wp
   have hms1:=hms0.step hs';have hl2:y'.w.heap[B+1]? = some (.loop (rec .ready none)):=hms1.obj (B+1,.loop (rec .ready none)) (by rw[hex];simp)
   have hbeg:=run_beginRound (P:=P) hl2 (by rw[hrec])
   have hrb:({ rec .ready none with state:=.busy }:Loop)=rec .busy none:=by rw[hrec]
   rw[hrb] at hbeg;have hWs2:B+2<=y'.w.heap.size:=(Array.getElem?_eq_some_iff.1 hl2).1;have hms2:=hms1.put (p:=B+1) (o:=.loop (rec .ready none)) (by rw[hex];simp) (by omega) (o' := .loop (rec .busy none)) rfl (l' := MO pre++ex none .busy) (fun e he=>by
    rcases List.mem_append.1 he with h | h
    ·have:=hMO pre e h
     exact .inr ⟨List.mem_append_left _ h,by omega⟩
    ·rw[hex] at h
     simp only[List.mem_cons,List.not_mem_nil,or_false] at h;rcases h with rfl | rfl
     ·exact .inl rfl
     ·exact .inr ⟨by rw[hex];simp,by show B≠B+1;omega⟩)
   refine ⟨_,hbeg,?_⟩
   refine (hbody pre z hpre (ex none .busy) (a::aw) _ (B+1) _ b' (fun e he=>by
    rw[hex] at he;simp only[List.mem_cons,List.not_mem_nil,or_false] at he;rcases he with rfl | rfl
    ·show x.w.heap.size<=B+1
     omega
    ·show x.w.heap.size<=B
     omega) hms2 fun y4 b4 hms4=>?_).wp
   have hl4:y4.w.heap[B+1]? = some (.loop (rec .busy none)):=hms4.obj (B+1,.loop (rec .busy none)) (by rw[hex];simp)
   have hd4:y4.w.heap[B]? = some (.deferred (some [])):=hms4.obj (B,.deferred (some [])) (by rw[hex];simp)
   have hf1:¬y4.F (B+1):=hms4.nf (B+1,.loop (rec .busy none)) (by rw[hex];simp)
   have hf0:¬y4.F B:=hms4.nf (B,.deferred (some [])) (by rw[hex];simp)
   have hb4:Bt w0 F0 K aw a B (JK (SE pre z)) y4.w y4:=Bt.out (b:=b4) ⟨rfl,hms4.sim,fun b hb=>by
    have h1:b≠B:=fun e=>hf0 (e ▸ hb)
    have h2:b≠B+1:=fun e=>hf1 (e ▸ hb)
    omega⟩
   obtain ⟨n4,hn4⟩:=hSE pre z hpre;have hend:=run_endRound (P:=P) none hl4;have hre:({ rec .busy none with state:=if (none:Option Code).isNone then .ready else .done,pending:=none }:Loop)=rec .ready none:=by rw[hrec];rfl
   rw[hre] at hend;have hb5:Bt w0 F0 K aw a B (S (pre++[z])) y4.w y4:=by
    rw[hn4] at hb4;exact ⟨hb4.w,hb4.sim.nx (S (pre++[z])).nx,hb4.fr⟩
   have hmm:∀e∈MO (pre++[z]),e∈MO (pre++[z])++ex none .busy:=fun e he=>List.mem_append_left _ he
   exact ⟨_,_,hend,rfl,⟨_,hb5.put hsz _ hl4 rfl,fun e he=>(World.putObj_heap_other (by have:=hMO _ e he;omega)).trans (hms4.obj e (hmm e he)),fun e he=>hms4.oc e (hmm e he),fun e he=>hms4.nf e (hmm e he)⟩,World.putObj_heap_same (Array.getElem?_eq_some_iff.1 hl4).1,(World.putObj_heap_other (by omega)).trans hd4⟩
  ·rintro e W2 ⟨⟨v,rfl⟩,⟨y,hy,ho,hc,hn⟩,hl,hd⟩
   have hend:=run_endLoop (P:=P) hl (by rw[hrec];simp)
   obtain ⟨W3,hW3⟩:∃W3,W3=W2.putObj (B+1) (.loop { rec .ready none with state:=.exhausted }):=⟨_,rfl⟩
   obtain ⟨y3,hb,hy3⟩:∃y3,Bt w0 F0 K aw a B (S xs) W3 y3∧y3.F=y.F:=by rw[hW3];exact ⟨_,hy.put hsz _ hl rfl,rfl⟩
   have hd3:W3.heap[B]? = some (.deferred (some [])):=by rw[hW3];exact (World.putObj_heap_other (by omega)).trans hd
   rw[<-hW3] at hend;have hp:(rec .ready none).pending=none:=by rw[hrec]
   rw[hp] at hend;have hms:Ms w0 F0 K aw a (MO xs) (S xs) y3:=⟨hb.sim,fun e he=>by
    rw[hb.w,hW3];exact (World.putObj_heap_other (by have:=hMO _ e he;omega)).trans (ho e he),hc,fun e he h=>hn e he (by rw[<-hy3];exact h)⟩
   have hr:=rest B y3 hms hsz (fun h=>by have:=hb.fr B h;omega) (by rw[hb.w];exact hd3)
   rw[hb.w] at hr;exact ⟨none,W3,hend,hr.wp⟩
end
section
variable {P:Program} {aq:List Act} {a:Act} {σ:St}
theorem A9g{ρ:Option Nat}{Q:Exit->Act->World->Prop}{aq:List Act}{a:Act}{ops:Array Oper}{i:Nat}{dec:List (Nat×Bool)}{k:List KI}{o:Oper}{w w' : World}{v:Value}(hk:Bz k=false)(hi:ops[i]? = some o)(hw:Region.wanted o (yielded ops a.tmps)=true)
  (hnd:∀c,o.op ≠ .defer c) (hrun:(execOp a.eval o).run P w = .ok (.value v) w' ∨ ((execOp a.eval o).run P w = .ok .skip w' ∧ v=undef)) (hK:Wq P Q (.ops ops (i+1) dec::k) aq .normal (a.put o.dst v) w' ρ):Wq P Q (.ops ops i dec::k) aq .normal a w ρ:=by
 refine ⟨?_⟩
 have hro:O1 ρ k=ρ:=by unfold O1;rw[hk];rfl
 show wpOpsIn (I3 (O1 ρ k)) 0 P ops (wpK P Q ρ k aq) (List.range' i (ops.size-i)) a w;have hlt:i<ops.size:=(Array.getElem?_eq_some_iff.1 hi).1;rw[show ops.size-i=(ops.size-(i+1))+1 from by omega,List.range'_succ,wpOpsIn_cons]
 unfold wpOpIn;simp only[hi,hw,if_true];rw[hro];refine ⟨fun g _=>DY ρ g,?_⟩
 rw[Oper.semAt_eq _ _ _ hnd];have h2:wpOpsIn (I3 (O1 ρ k)) 0 P ops (wpK P Q ρ k aq) (List.range' (i+1) (ops.size-(i+1))) (a.put o.dst v) w' := hK.wp;rw[hro] at h2;rcases hrun with hrun | ⟨hrun,rfl⟩
 ·rw[hrun];exact h2
 ·rw[hrun];exact h2
theorem Ce{ρ:Option Nat}{Q:Exit->Act->World->Prop}{k0:List KI}{x:C0}{dst:Option Nat}{op:Op}{ty:TypeId}(ho:Qv k0 σ.t=some (dst,op,ty))(ht:∀t,B8 x (σ.t t) (a.tmps.getD t undef))(hnd:∀c,op ≠ .defer c){w w' : World}{v:Value}
  (hrun:∀o:Oper,o.op=op->o.type=ty->(execOp a.eval o).run P w = .ok (.value v) w' ∨ ((execOp a.eval o).run P w = .ok .skip w' ∧ v=undef)) (hK:Wq P Q (J4 k0) aq .normal (a.put dst v) w' ρ):Wq P Q k0 aq .normal a w ρ:=by
 unfold Qv at ho;split at ho
 ·rename_i ops i dec k
  split at ho
  ·rename_i o hk hi
   split at ho
   ·rename_i hw
    cases ho
    exact A9g hk hi (Ew ht hw) hnd (hrun o rfl rfl) hK
   ·cases ho
  ·cases ho
 ·cases ho
theorem Ms.made{w0:World}{F0:Nat->Prop}{K:Kp}{l:List (Nat×Obj)}{y:C0}(h:Ms w0 F0 K aq a l σ y){d:Nat}(hd:d<σ.nt) :
  Ms w0 F0 K aq (a.put (some d) (.map (some y.w.heap.size))) ((y.w.heap.size,K4 ([],0))::l) { σ with t:=M7 σ.t d (.v (.c (.val (.map (some y.w.heap.size))))) } { y with w:=y.w.alloc (.map #[] 0) }:=by
 have hm:=Mt.made (h.sim) hd;refine ⟨hm.sim,fun e he=>?_,fun e he=>?_,fun e he=>?_⟩
 ·rcases List.mem_cons.1 he with rfl | he
  ·exact hm.obj
  ·exact (Go.RowKit.Below.heap_alloc _ _ _ (Array.getElem?_eq_some_iff.1 (h.obj e he)).1).trans (h.obj e he)
 ·rcases List.mem_cons.1 he with rfl | he
  ·rfl
  ·exact h.oc e he
 ·rcases List.mem_cons.1 he with rfl | he
  ·exact hm.nf
  ·exact h.nf e he
theorem Ms.put_slot{w0:World}{F0:Nat->Prop}{K:Kp}{l:List (Nat×Obj)}{y:C0}(h:Ms w0 F0 K aq a l σ y){d:Nat}(hd:d<σ.nt){s:SV}{v:Value}(hv:B8 y s v):Ms w0 F0 K aq (a.put (some d) v) l { σ with t:=M7 σ.t d s } y:=⟨h.sim.put_slot hd hv,h.obj,h.oc,h.nf⟩
end
end
section
theorem Un{P:Program}{t:Nat}{i:TyI}(ht:I2 P t i)(w:World):∃zv,(zeroValue t).run P w = .ok zv w:=by
 obtain ⟨inf,d,hi,hd,hsz,_,ha,h1,⟨z,hz,hzm,_⟩,_⟩:=ht.parts;exact ⟨z,by simp [zeroValue,typeInfo,hi,hz]⟩
section
variable {P:Program} {mt kt et b:Nat} {k0:IntKind} {m:MiL×Nat} {w:World} {a:Act} {o:Oper} {X Y Z:Operand} {v:Int} {x:Value} {i:TyI}
theorem VH(hm:P.underlying mt=some (.map kt et))(hk:P.underlying kt=some (.int k0))(ht:I2 P et i)(h1:o.op = .lookup mt X Y false)(e1:a.eval X = .map (some b))(e2:a.eval Y = .int .i64 v)(hb:w.heap[b]? = some (K4 m))(hf:H9 m.1 v=some x):(execOp a.eval o).run P w = .ok (.value x) w:=by
 obtain ⟨zv,hz⟩:=Un ht w;have r:=A8q hm hk hb hz v;rw[hf] at r;unfold execOp;rw[h1];show (do pure (.value (<-Instr.lookup mt (a.eval X) (a.eval Y) false)):Sem Next).run P w=_
 rw[e1,e2];exact M6 r
theorem Qu(hm:P.underlying mt=some (.map kt et))(hk:P.underlying kt=some (.int k0))(ht:I2 P et i)(h1:o.op = .lookup mt X Y true)(e1:a.eval X = .map (some b))(e2:a.eval Y = .int .i64 v)(hb:w.heap[b]? = some (K4 m))(hf:H9 m.1 v=some x):(execOp a.eval o).run P w = .ok (.value (.tuple #[x,.bool true])) w:=by
 obtain ⟨zv,hz⟩:=Un ht w;have r:=XN hm hk hb hz v;rw[hf] at r;unfold execOp;rw[h1];show (do pure (.value (<-Instr.lookup mt (a.eval X) (a.eval Y) true)):Sem Next).run P w=_
 rw[e1,e2];exact M6 r
theorem B7y(hm:P.underlying mt=some (.map kt et))(hk:P.underlying kt=some (.int k0)){zv:Value}(hz:(zeroValue et).run P w = .ok zv w)(h1:o.op = .lookup mt X Y true)(e1:a.eval X = .map (some b))(e2:a.eval Y = .int .i64 v)(hb:w.heap[b]? = some (K4 m))(hf:H9 m.1 v=none):(execOp a.eval o).run P w = .ok (.value (.tuple #[zv,.bool false])) w:=by
 have r:=XN hm hk hb hz v;rw[hf] at r;unfold execOp;rw[h1];show (do pure (.value (<-Instr.lookup mt (a.eval X) (a.eval Y) true)):Sem Next).run P w=_
 rw[e1,e2];exact M6 r
theorem B7z(hm:P.underlying mt=some (.map kt et))(hk:P.underlying kt=some (.int k0))(h1:o.op = .mapUpdate mt X Y Z)(e1:a.eval X = .map (some b))(e2:a.eval Y = .int .i64 v)(e3:a.eval Z=x)(hb:w.heap[b]? = some (K4 m)):(execOp a.eval o).run P w = .ok .skip (w.putObj b (K4 (CO m v x))):=by
 have r:=C9l hm hk hb v x;unfold execOp;rw[h1];show (do Instr.mapUpdate mt (a.eval X) (a.eval Y) (a.eval Z);pure Next.skip:Sem Next).run P w=_
 rw[e1,e2,e3];exact D0p r
end
end
end
end Go.Proofs.YtifiiigbedjceaaGreat
