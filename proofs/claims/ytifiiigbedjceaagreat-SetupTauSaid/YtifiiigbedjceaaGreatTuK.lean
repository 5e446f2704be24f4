/- Parts of a proof, one behind the other: Jo. No conditions. -/
import Derived.Test.YtifiiigbedjceaaGreatRows
import Derived.ProofKit
import Derived.Test.YtifiiigbedjceaaGreatTuJ
open Go.IntKind (wrap)
namespace Go.Proofs.YtifiiigbedjceaaGreat
noncomputable section
section
open Go.ChangeShapes Go.WideShapes Go.ChangeAt Go.RowKit
def X0(W:World):C0:=⟨W,fun b=>b<W.heap.size,fun _=>.no,fun _=>0⟩
theorem Jv{α β:Type}{f:α->Option β}:∀{l:List α} {r:List β},l.mapM f=some r->∀x∈l,∃y,f x=some y
 | [],_,_,x,hx=>by cases hx
 | a::l,r,h,x,hx=>by
  rw[List.mapM_cons] at h
  cases ha:f a with
  | none=>rw[ha] at h;cases h
  | some y=>
   cases hl:l.mapM f with
   | none=>rw[ha,hl] at h;cases h
   | some ys=>
    rcases List.mem_cons.1 hx with rfl | hx
    ·exact ⟨y,ha⟩
    ·exact Jv hl x hx
theorem TC{α β:Type}{f:α->Option β}:∀{l:List α} {r:List β},l.mapM f=some r->r.length=l.length∧∀(i:Nat) (x:α),l[i]? = some x->∃y,f x=some y∧r[i]? = some y
 | [],r,h=>by
  rw[List.mapM_nil] at h
  cases h
  exact ⟨rfl,fun i x hx=>by simp at hx⟩
 | a::l,r,h=>by
  rw[List.mapM_cons] at h
  cases ha:f a with
  | none=>rw[ha] at h;cases h
  | some y=>
   cases hl:l.mapM f with
   | none=>rw[ha,hl] at h;cases h
   | some ys=>
    rw[ha,hl] at h
    cases h
    obtain ⟨h1,h2⟩:=TC hl;refine ⟨by simp [h1],fun i x hx=>?_⟩
    cases i with
    | zero=>simp at hx;subst hx;exact ⟨y,ha,rfl⟩
    | succ i=>simpa using h2 i x (by simpa using hx)
def BU(P:Program)(t:TypeId)(dp:Nat)(S:List It->Prop):Prop:=
 ∀{H:Type} (enc:TypeId×Value->H) (W:World) (fuel:Nat) (cs:List Value) (d:DataW H) (ps:List MemPlace),
  DataW.trod enc P W 0 (fun _=>true) true fuel t cs=some (d,ps)->∃its,C6 (F8 (X0 W) dp) its cs∧S its
theorem C2t{D:It->List Value->Prop}{i:It}{c:List Value}(h:D i c):C6 D [i] c:=⟨c,[],(List.append_nil c).symm,h,rfl⟩
theorem TT{P:Program}{t:TypeId}{k:IntKind}(ht:P.underlying t=some (.int k))(dp:Nat):BU P t dp fun its=>∃n,its=[.int k n]∧(Lit.int k n).wf=true:=by
 intro H enc W fuel cs d ps h
 cases fuel with
 | zero=>simp [DataW.trod] at h
 | succ fuel=>
  unfold DataW.trod at h;rw[ht] at h;split at h<;>first | (cases h;done) | (rename_i e;cases e)
  split at h
  ·rename_i hk
   obtain ⟨rfl,hw⟩:=hk;exact ⟨_,C2t (i:=.int _ _) (by cases dp<;>rfl),_,rfl,hw⟩
  ·cases h
inductive P2:List (List It->Prop)->List It->Prop
 | nil:P2 [] []
 | cons {S L a b}:S a->P2 L b->P2 (S::L) (a++b)
inductive II(P:Program)(dp:Nat):Nat->List Field->List (List It->Prop)->Nat->Prop
 | nil (o):II P dp o [] [] o
 | cons {o f fs S L e}:f.offset=o->BU P f.type dp S->II P dp (o+P.cellsOf f.type) fs L e->II P dp o (f::fs) (S::L) e
theorem Xo{P:Program}{dp:Nat}{H:Type}{enc:TypeId×Value->H}{W:World}{fuel:Nat}{cs:List Value} :
  ∀{o:Nat} {fs:List Field} {L:List (List It->Prop)} {e:Nat},II P dp o fs L e->cs.length=e ->
   (∀f∈fs,∃y,DataW.trod enc P W 0 (fun _=>true) true fuel f.type ((cs.drop f.offset).take (P.cellsOf f.type))=some y)->∃its,C6 (F8 (X0 W) dp) its (cs.drop o)∧P2 L its:=by
 intro o fs L e hF;induction hF with
 | nil o=>
  intro hl _;exact ⟨[],by show cs.drop o=[];simp [hl],.nil⟩
 | @cons o f fs S L e ho hr _ ih=>
  intro hl hy;obtain ⟨⟨d,ps⟩,h1⟩:=hy f (List.mem_cons_self);obtain ⟨its1,c1,s1⟩:=hr enc W fuel _ d ps h1;obtain ⟨its2,c2,s2⟩:=ih hl fun g hg=>hy g (List.mem_cons_of_mem _ hg)
  refine ⟨its1++its2,?_,.cons s1 s2⟩
  rw[ho] at c1;have e1:cs.drop o=(cs.drop o).take (P.cellsOf f.type)++cs.drop (o+P.cellsOf f.type):=by
   rw[<-List.drop_drop,List.take_append_drop]
  rw[e1];exact Aa c1 c2
theorem JV{P:Program}{t:TypeId}{fs:Array Field}(ht:P.underlying t=some (.struct fs)){dp e:Nat}{L:List (List It->Prop)}(hF:II P dp 0 fs.toList L e)(he:P.cellsOf t=e):BU P t dp (P2 L):=by
 intro H enc W fuel cs d ps h
 cases fuel with
 | zero=>simp [DataW.trod] at h
 | succ fuel=>
  unfold DataW.trod at h;rw[ht] at h;have h:(if cs.length=P.cellsOf t then (fs.toList.mapM fun f=>DataW.trod enc P W 0 (fun _=>true) true fuel f.type ((cs.drop f.offset).take (P.cellsOf f.type))).map (fun xs=>(DataW.agg (xs.map (·.1)),xs.flatMap (·.2))) else none)=some (d,ps):=h
  split at h
  ·rename_i hl
   cases hm:(fs.toList.mapM fun f=>DataW.trod enc P W 0 (fun _=>true) true fuel f.type ((cs.drop f.offset).take (P.cellsOf f.type))) with
   | none=>rw[hm] at h;cases h
   | some xs=>simpa using Xo hF (hl.trans he) (Jv hm)
  ·cases h
theorem QL{P:Program}{dp:Nat}{H:Type}{enc:TypeId×Value->H}{W:World}{fuel:Nat}{cs:List Value}{e z:Nat}{S:List It->Prop}(hr:BU P e dp S)(n:Nat):∀(k i:Nat),i+k=n->cs.length=n*z ->
  (∀i∈List.range n,∃y,DataW.trod enc P W 0 (fun _=>true) true fuel e ((cs.drop (i*z)).take z)=some y)->∃its,C6 (F8 (X0 W) dp) its (cs.drop (i*z))∧P2 (List.replicate k S) its
 | 0,i,hi,hl,_=>by
  refine ⟨[],?_,.nil⟩
  show cs.drop (i*z)=[];rw[show i=n from by omega,<-hl]
  simp
 | k+1,i,hi,hl,hy=>by
  obtain ⟨⟨d,ps⟩,h1⟩:=hy i (List.mem_range.2 (by omega))
  obtain ⟨its1,c1,s1⟩:=hr enc W fuel _ d ps h1;obtain ⟨its2,c2,s2⟩:=QL hr n k (i+1) (by omega) hl hy
  refine ⟨its1++its2,?_,.cons s1 s2⟩
  have e1:cs.drop (i*z)=(cs.drop (i*z)).take z++cs.drop ((i+1)*z):=by
   rw[Nat.succ_mul,<-List.drop_drop,List.take_append_drop]
  rw[e1];exact Aa c1 c2
theorem Na{P:Program}{t n e:Nat}(ht:P.underlying t=some (.array n e))(hz:P.cellsOf t=n*P.cellsOf e){dp:Nat}{S:List It->Prop}(hr:BU P e dp S):BU P t dp (P2 (List.replicate n S)):=by
 intro H enc W fuel cs d ps h
 cases fuel with
 | zero=>simp [DataW.trod] at h
 | succ fuel=>
  unfold DataW.trod at h;rw[ht] at h;have h:(if cs.length=P.cellsOf t then ((List.range n).mapM fun i=>DataW.trod enc P W 0 (fun _=>true) true fuel e ((cs.drop (i*P.cellsOf e)).take (P.cellsOf e))).map (fun xs=>(DataW.agg (xs.map (·.1)),xs.flatMap (·.2))) else none)=some (d,ps):=h
  split at h
  ·rename_i hl
   cases hm:((List.range n).mapM fun i=>DataW.trod enc P W 0 (fun _=>true) true fuel e ((cs.drop (i*P.cellsOf e)).take (P.cellsOf e))) with
   | none=>rw[hm] at h;cases h
   | some xs=>simpa using QL hr n n 0 (by omega) (hl.trans hz) (Jv hm)
  ·cases h
theorem Tv:∀(k:Nat) (L:List Int),L.length=k->(∀x∈L,0<=x∧x<18446744073709551616)->∃n:Nat,n<2 ^ (64*k)∧L=(List.range k).map (A1 n)
 | 0,[],_,_=>⟨0,A4,rfl⟩
 | k+1,x::L,hl,h=>by
  obtain ⟨n,hn,e⟩:=Tv k L (by simpa using hl) fun y hy=>h y (List.mem_cons_of_mem _ hy)
  obtain ⟨hx0,hx1⟩:=h x List.mem_cons_self;refine ⟨x.toNat+2 ^ 64*n,?_,?_⟩
  ·have:2 ^ (64*(k+1))=2 ^ 64*2 ^ (64*k):=by rw[<-Nat.pow_add];congr 1;omega
   rw[this];have h64:(2:Nat) ^ 64=18446744073709551616:=by decide
   rw[h64];generalize 2 ^ (64*k)=m at hn;omega
  ·rw[List.range_succ_eq_map,List.map_cons,List.map_map]
   have h64:(2:Nat) ^ 64=18446744073709551616:=by decide
   congr 1
   ·simp only[A1,Nat.mul_zero,Nat.pow_zero,Nat.div_one,h64]
    omega
   ·rw[e]
    refine List.map_congr_left fun i _=>?_
    simp only[Function.comp,A1];congr 2
    have:64*(i+1)=64+64*i:=by omega
    rw[this,Nat.pow_add,<-Nat.div_div_eq_div_mul];congr 1
    rw[h64];omega
theorem HW{k:IntKind}:∀{n:Nat} {its:List It},P2 (List.replicate n fun its=>∃m,its=[.int k m]∧(Lit.int k m).wf=true) its->∃L:List Int,L.length=n∧its=L.map (fun m=>.int k m)∧∀m∈L,(Lit.int k m).wf=true
 | 0,its,h=>by cases h;exact ⟨[],rfl,rfl,fun _ h=>by cases h⟩
 | n+1,its,h=>by
  cases h with
  | cons h1 h2=>
   obtain ⟨m,rfl,hw⟩:=h1;obtain ⟨L,hl,rfl,hL⟩:=HW h2;refine ⟨m::L,by simp [hl],rfl,fun x hx=>?_⟩
   rcases List.mem_cons.1 hx with rfl | hx
   ·exact hw
   ·exact hL x hx
theorem WS{x:C0}{dp:Nat}{k:IntKind}:∀{L:List Int} {cs:List Value},C6 (F8 x dp) (L.map fun m=>.int k m) cs->cs=L.map fun m=>.int k m
 | [],cs,h=>h
 | m::L,cs,⟨c1,c2,e,h1,h2⟩=>by
  have h1:c1=[.int k m]:=by cases dp<;>exact h1
  rw[e,h1,WS h2];rfl
theorem D7p{m:Int}(h:(Lit.int .u64 m).wf=true):0<=m∧m<18446744073709551616:=by
 simp [Lit.wf,IntKind.min,IntKind.max,IntKind.signed,IntKind.bits] at h
 omega
theorem A9w{P:Program}{t n e:Nat}(ht:P.underlying t=some (.array n e))(hz:P.cellsOf t=n*P.cellsOf e)(he:P.underlying e=some (.int .u64))(dp:Nat) :
  ∀{H:Type} (enc:TypeId×Value->H) (W:World) (fuel:Nat) (cs:List Value) (d:DataW H) (ps:List MemPlace),
   DataW.trod enc P W 0 (fun _=>true) true fuel t cs=some (d,ps)->∃m:Nat,m<2 ^ (64*n)∧cs=(List.range n).map fun i=>.int .u64 (A1 m i):=by
 intro H enc W fuel cs d ps h;obtain ⟨its,hc,hp⟩:=Na ht hz (TT he dp) enc W fuel cs d ps h;obtain ⟨L,hl,rfl,hw⟩:=HW hp;obtain ⟨m,hm,e⟩:=Tv n L hl fun x hx=>D7p (hw x hx)
 refine ⟨m,hm,?_⟩
 rw[WS hc,e,List.map_map];rfl
theorem E5n:2 ^ (64*4)=B4:=by kernel_rfl
theorem B9l{P:Program}{t e:Nat}(ht:P.underlying t=some (.array 4 e))(hz:P.cellsOf t=4*P.cellsOf e)(he:P.underlying e=some (.int .u64))(dp:Nat):BU P t dp fun its=>∃x:U4,its=[.ob (.fr x)]:=by
 intro H enc W fuel cs d ps h;obtain ⟨m,hm,rfl⟩:=A9w ht hz he dp enc W fuel cs d ps h;rw[E5n] at hm;exact ⟨_,C2t (i:=.ob (.fr ⟨m,hm⟩)) (by cases dp<;>rfl),_,rfl⟩
theorem B2c{W:World}{a:Addr}{n:Nat}{cs:List Value}(hn:0<n)(h:W.cells? 0 a n=some cs):a.spot=none∧rd W (fun b=>b<W.heap.size) a.block a.off cs:=by
 unfold World.cells? at h
 rw[if_pos (Nat.zero_le _)] at h;obtain ⟨hl,hg⟩:=TC h;have key:∀i,i<n->∃y,W.cell? (a.add i)=some y∧cs[i]? = some y:=fun i hi=>hg i i (by simp [hi])
 have hs:a.spot=none∧a.block<W.heap.size:=by
  obtain ⟨y,hy,_⟩:=key 0 hn;unfold World.cell? at hy
  split at hy
  ·rename_i hc
   split at hy
   ·cases hy
   ·rename_i hsp
    refine ⟨?_,(Array.getElem?_eq_some_iff.1 hc).1⟩
    have:a.spot.isSome≠true:=hsp
    simpa using this
  ·cases hy
 refine ⟨hs.1,hs.2,fun j v hj=>?_⟩
 have hj' : j<n:=by
  have:=(List.getElem?_eq_some_iff.1 hj).1
  simp at hl
  omega
 obtain ⟨y,hy,hy'⟩:=key j hj';rw[hj] at hy'
 cases hy'
 rw[<-hy];congr 1
 cases a with
 | mk ab ao asp=>
  have hs1:asp=none:=hs.1;subst hs1;unfold Addr.add;split
  ·rename_i h0;subst h0;rfl
  ·rfl
theorem Yy{P:Program}{t e dp:Nat}{α:Type}{f:α->List It}(ht:P.underlying t=some (.slice e))(he' : Nat.blt 0 (P.cellsOf e)=true)(hr:BU P e dp fun its=>∃a,its=f a)(mk:List α->Sq)
  (hn:∀l,(mk l).n=l.length) (hes:∀l,(mk l).es=P.cellsOf e) (hget:∀l i a,l[i]? = some a->(mk l).get i=f a):BU P t (dp+1) fun its=>∃l,its=[.sl (mk l)]∧l.length<=maxLen:=by
 have he:0<P.cellsOf e:=by simpa using he'
 intro H enc W fuel cs d ps h
 cases fuel with
 | zero=>simp [DataW.trod] at h
 | succ fuel=>
  unfold DataW.trod at h;rw[ht] at h;split at h<;>first | (cases h;done) | (rename_i e;cases e)
  ·exact ⟨_,C2t (i:=.sl (mk [])) (.inl ⟨none,0,rfl,hn []⟩),[],rfl,Nat.zero_le _⟩
  ·rename_i a len cap
   dsimp only at h;split at h
   ·rename_i hc
    obtain ⟨_,hc1,hc2⟩:=hc
    cases hm:((List.range len).mapM fun i=>(W.cells? 0 (a.add (i*P.cellsOf e)) (P.cellsOf e)).bind (DataW.trod enc P W 0 (fun _=>true) true fuel e)) with
    | none=>rw[hm] at h;cases h
    | some xs=>
     have key:∀i,i<len->∃u:α,∃c,C6 (F8 (X0 W) dp) (f u) c∧(i=0->a.spot=none)∧rd W (fun b=>b<W.heap.size) a.block (a.off+i*P.cellsOf e) c:=by
      intro i hi;obtain ⟨y,hy⟩:=Jv hm i (List.mem_range.2 hi)
      cases hcs:W.cells? 0 (a.add (i*P.cellsOf e)) (P.cellsOf e) with
      | none=>rw[hcs] at hy;cases hy
      | some c=>
       rw[hcs] at hy;obtain ⟨its,h1,u,rfl⟩:=hr enc W fuel c y.1 y.2 hy;obtain ⟨h2,h3⟩:=B2c he hcs;refine ⟨u,c,h1,fun h0=>?_,?_⟩
       ·subst h0
        simpa [Addr.add] using h2
       ·have hb:(a.add (i*P.cellsOf e)).block=a.block:=by unfold Addr.add;split<;>rfl
        have ho:(a.add (i*P.cellsOf e)).off=a.off+i*P.cellsOf e:=by
         unfold Addr.add;split
         ·rename_i h0;rw[h0];rfl
         ·rfl
        rw[hb,ho] at h3;exact h3
     have hl:∃l:List α,l.length=len∧∀i,i<len->∃u,l[i]? = some u∧∃c,C6 (F8 (X0 W) dp) (f u) c∧(i=0->a.spot=none)∧rd W (fun b=>b<W.heap.size) a.block (a.off+i*P.cellsOf e) c:=by
      clear hm h;induction len with
      | zero=>exact ⟨[],rfl,fun i hi=>absurd hi (Nat.not_lt_zero _)⟩
      | succ n ih=>
       obtain ⟨l,h1,h2⟩:=ih (by omega) fun i hi=>key i (by omega)
       obtain ⟨u,hu⟩:=key n (Nat.lt_succ_self n);refine ⟨l++[u],by simp [h1],fun i hi=>?_⟩
       by_cases hin:i<n
       ·obtain ⟨v,hv,hv'⟩:=h2 i hin
        exact ⟨v,by rw[List.getElem?_append_left (by omega)];exact hv,hv'⟩
       ·have:i=n:=by omega
        subst this;exact ⟨u,by rw[<-h1];simp,hu⟩
     obtain ⟨l,hll,hl⟩:=hl;refine ⟨[.sl (mk l)],C2t ?_,l,rfl,by omega⟩
     by_cases h0:len=0
     ·subst h0
      exact .inl ⟨some a,cap,rfl,by rw[hn,hll]⟩
     ·right
      obtain ⟨_,_,_,_,hsp,_⟩:=hl 0 (by omega)
      refine ⟨a.block,a.off,cap,?_,by rw[hn,hll];exact hc1,by rw[hn,hll];omega,fun i hi=>?_⟩
      ·rw[hn,hll]
       cases a
       have hsp:=hsp rfl;simp only at hsp
       rw[hsp]
      ·rw[hn,hll] at hi
       obtain ⟨u,hu,c,h1,_,h3⟩:=hl i hi;exact ⟨c,by rw[hget l i u hu];exact h1,by rw[hes];exact h3⟩
   ·cases h
theorem Hk{H:Type}{enc:TypeId×Value->H}{P:Program}(hl:laidOutB P=true){W W' : World}(hb:Below W.heap.size W W') :
  ∀{ts:List TypeId} {vs:List Value} {ds:List (DataW H)} {ps:List MemPlace},(∀t∈ts,P.readableRec t=true∧t<P.types.size)->DataW.TrodAll enc P W 0 (fun _=>true) true ts vs ds ps->(∀x∈ps,x.block<W.heap.size) ->
   ∀sp:Nat->Bool,(∀p∈ps,sp p.block=true)->DataW.TrodAll enc P W' 0 sp true ts vs ds ps
 | [],[],[],_,_,h,_,_,_=>h
 | t::ts,v::vs,d::ds,_,hr,⟨p,q,h1,h2,rfl⟩,hlt,sp,hsp=>by
  obtain ⟨hr1,hr2⟩:=hr t List.mem_cons_self;exact ⟨p,q,WideElems.Trod_stays hl hr1 hr2 h1 (fun x hx=>hb.same (hlt x (List.mem_append_left _ hx))) (fun x hx=>hsp x (List.mem_append_left _ hx)),
   Hk hl hb (fun t ht=>hr t (List.mem_cons_of_mem _ ht)) h2 (fun x hx=>hlt x (List.mem_append_right _ hx)) sp (fun x hx=>hsp x (List.mem_append_right _ hx)),rfl⟩
theorem B1r{W:World}{y:C0}{m:Nat->Option En}(h:Tr (X0 W) none y m):Below W.heap.size W y.w:=
 ⟨h.os,h.tape,h.output,h.ext.size,fun b hb=>h.blk b hb fun p hp=>by cases hp⟩
theorem B5b{P:Program}{H:Type}{enc:TypeId×Value->H}{f:Func}{s:ChangeSpec}{bt:TypeId}(hl:laidOutB P=true)(hpar:∀t∈f.params.toList,P.readableRec t=true∧t<P.types.size)
  (hres:f.resultTypes = #[bt]) (hbt:P.underlying bt=some .bool) (hv:s.vars=[]) {W W' : World} (hb:Below W.heap.size W W') {args:Array Value} {ds gs:List (DataW H)} {before:List MemPlace}
  (hs:s.fn H (ds++gs) = { results:=[.lit (.bool true)],args:=ds })
  (hW:DataW.Whole enc P f.params.toList s.vars false W args.toList ds gs before) :
  s.post enc P f false true false false W args (.bool true) W' := by
 have hW' := hW;have hlt:∀p∈before,p.block<W.heap.size:=fun p hp=>hW.lt p hp
 obtain ⟨p,q,hA,hV,rfl,hz,hn⟩:=hW;rw[hv] at hV;have hq:q=[]:=by
  cases gs with
  | nil=>exact hV
  | cons _ _=>exact hV.elim
 subst hq;have hA' : ∀sp:Nat->Bool,(∀x∈p++[],sp x.block=true)->DataW.TrodAll enc P W' 0 sp true f.params.toList args.toList (s.fn H (ds++gs)).args p:=by
  intro sp hsp;rw[hs];exact Hk hl hb hpar hA (fun x hx=>hlt x (List.mem_append_left _ hx)) sp fun x hx=>hsp x (List.mem_append_left _ hx)
 have hR:∀(b:Nat) (sp:Nat->Bool) (hd:Bool),DataW.TrodAll enc P W' b sp hd f.resultTypes.toList ((Value.bool true).resultList f.resultTypes.size) (s.fn H (ds++gs)).results []:=by
  intro b sp hd;rw[hs,hres];refine ⟨[],[],⟨1,?_⟩,rfl,rfl⟩
  unfold DataW.trod;rw[hbt];rfl
 have hV' : ∀sp:Nat->Bool,DataW.TrodVars enc P W' sp s.vars (s.fn H (ds++gs)).vars []:=by
  intro sp;rw[hs,hv];rfl
 have hfz:∀x∈p++[],∀b off,x=MemPlace.cell b off->W'.frozen? ⟨b,off,none⟩=W.frozen? ⟨b,off,none⟩:=by
  intro x hx b off e;subst e;exact hb.frozen (hlt _ hx)
 refine ⟨ds,gs,p++[],[],p,[],hW',hR _ _ _,hA' _ (fun x hx=>by simpa using hlt x hx),hV' _,hb.frame _,fun h=>by cases h⟩
theorem A2x{P:Program}{t dp:Nat}{S:List It->Prop}{H:Type}{enc:TypeId×Value->H}{W:World}{base:Nat}{v:Value}{d:DataW H}{ps:List MemPlace}(hr:BU P t dp S)
  (ht:(∃fs,P.underlying t=some (.struct fs))∨∃n e,P.underlying t=some (.array n e)) (hv:Value.okWide P W .any base t v) (h:DataW.Trod enc P W 0 (fun _=>true) true t v d ps):∃its,B8 (X0 W) (.v (.a its)) v∧S its:=by
 have hv' : ∃cs,v = .agg cs:=by
  rcases ht with ⟨fs,ht⟩ | ⟨n,e,ht⟩<;>(unfold Value.okWide at hv;rw[ht] at hv;obtain ⟨cs,hcs,_⟩:=hv;exact ⟨cs,hcs⟩)
 obtain ⟨cs,rfl⟩:=hv';obtain ⟨fuel,h⟩:=h;obtain ⟨its,hc,hs⟩:=hr enc W fuel _ d ps h;exact ⟨its,⟨cs.toList,by simp,F7 (fun i c hi=>⟨dp,hi⟩) hc⟩,hs⟩
theorem Nj{H:Type}{enc:TypeId×Value->H}{P:Program}{W:World}{base:Nat}{sp:Nat->Bool}{hd:Bool}:∀{ts:List TypeId} {vs:List Value} {ds:List (DataW H)} {ps:List MemPlace},DataW.TrodAll enc P W base sp hd ts vs ds ps->ds.length=ts.length
 | [],[],[],_,_=>rfl
 | _::_,_::_,_::_,_,⟨_,_,_,h2,_⟩=>by simp only[List.length_cons];rw[Nj h2]
theorem ZY{C:Checked}{n:Nat}{fn:Func}{s:ChangeSpec}{bt:TypeId}(own:ownKnob C.prog.godebug=none)(hinit:C.prog.inits.idxOf? n=none)(hfn:C.prog.funcs[n]? = some fn)(hl:laidOutB C.prog=true)
  (hpar' : (fn.params.toList.all fun t=>C.prog.readableRec t && Nat.blt t C.prog.types.size)=true) (hres:fn.resultTypes = #[bt]) (hbt:C.prog.underlying bt=some .bool) (hv:s.vars=[])
  {H:Type} {enc:TypeId×Value->H} (hs:∀ds:List (DataW H),ds.length=fn.params.toList.length->s.fn H (ds++[]) = { results:=[.lit (.bool true)],args:=ds }) {os:Os} (started:os.Started)
  (wit:∃(w:World) (tape:Tape) (i:Input),w.os=os∧World.Shaped C.prog (w.forCall tape i)∧i.vars=[]∧Input.okWide C.prog (w.forCall tape i) Reach.any w.heap.size n i∧ChangeSpec.pre6 enc C.prog fn s [] false (w.forCall tape i).memory i.args ∧
   ({}:Assume).holds C.prog (lone (Frame.enter C.prog n i.args CallKind.normal) [] (w.forCall tape i)))
  (walk:∀(W:World) (base:Nat) (args:Array Value) (ds:List (DataW H)) (ps:List MemPlace),(∀(j:Nat) t v,fn.params[j]? = some t->args[j]? = some v->Value.okWide C.prog W .any base t v) ->
   DataW.TrodAll enc C.prog W 0 (fun _=>true) true fn.params.toList args.toList ds ps->∃svs,J7 (X0 W) svs args.toList∧K2 C.prog n svs (.v (.c (.bool true))) []) :
  ReturnsInHanded {} C os n .any (s.pre6 enc C.prog fn [] false) (s.post enc C.prog fn false true false false):=by
 have hpar:∀t∈fn.params.toList,C.prog.readableRec t=true∧t<C.prog.types.size:=fun t ht=>by
  have:=List.all_eq_true.1 hpar' t ht
  simpa using this
 refine returnsInHanded_of_change own started hinit hfn wit ?_
 intro W base args ds gs before hval hW _ _;have hW' := hW;obtain ⟨p,q,hA,hV,rfl,hz,hn⟩:=hW;have hgs:gs=[]:=by
  rw[hv] at hV
  cases gs with
  | nil=>rfl
  | cons _ _=>exact hV.elim
 subst hgs;obtain ⟨svs,h1,h2⟩:=walk W base args ds p hval hA;have hlen:=Nj hA;have hc:=h2 (X0 W) args.toList (fun _=>rfl) (fun b hb=>hb) h1
 have e:args.toList.toArray=args:=by simp
 rw[e] at hc;refine hc.mono fun e w' ⟨v,y,he,hw,ht,hd⟩=>?_
 subst hw;have hvb:=NS hd;subst hvb;exact ⟨_,he,B5b hl hpar hres hbt hv (B1r ht) (hs ds hlen) hW'⟩
end
end
end Go.Proofs.YtifiiigbedjceaaGreat
