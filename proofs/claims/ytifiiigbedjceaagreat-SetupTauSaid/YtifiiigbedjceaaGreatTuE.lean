/- Parts of a proof, one behind the other: FwL, FwM, FwN. No conditions. -/
import Derived.Laws.MakeOwn
import Derived.Laws.AppendOwn
import Derived.Test.YtifiiigbedjceaaGreatTuD
open Go.IntKind (wrap)
namespace Go.Proofs.YtifiiigbedjceaaGreat
noncomputable section
section
def J2(x:C0)(p:Nat)(w' : World)(kd:Kd)(g:Nat):C0:=
 { w:=w',F:=x.F,k:=fun q=>if q=p then kd else x.k q,β:=fun q=>if q=p then g else x.β q }
theorem A7x(p:Nat)(q:Sq)(i:Nat):(q.get i).map (E3 p)=q.get i:=by
 have flat:∀(l:List (Fp×Fp×Fp)) (n k:Nat),(J9 l k n).map (E3 p)=J9 l k n:=by
  intro l n;induction n with
  | zero=>intro k;rfl
  | succ n ih=>intro k;simp only[J9,List.map_cons,ih];rfl
 cases q
 case ptt l=>exact flat _ _ _
 all_goals rfl
theorem PC{x:C0}(p:Nat){q:Sq}{i:Nat}{c:List Value}(h:C6 x.D (q.get i) c):C6 (kx x (some p)).D (q.get i) c:=by
 obtain ⟨d,hc⟩:=M3 h;have:=GP p d hc
 rw[A7x] at this;exact P4 this
theorem YG{x:C0}(p:Nat){e:En}{cs:List Value}(h:C9 x e cs):C9 (kx x (some p)) (W0 p e) cs:=by
 cases e with
 | fl l=>obtain ⟨d,hc⟩:=M3 h;exact P4 (GP p d hc)
 | sq q=>
  refine ⟨h.1,fun i hi=>?_⟩
  obtain ⟨c,hc,hj⟩:=h.2 i hi;exact ⟨c,PC p hc,hj⟩
theorem D9d{x:C0}{p:Nat}(h:x.k p = .no):kx x (some p)=x:=by
 unfold kx
 cases x with
 | mk w F k β =>
  simp only[C0.mk.injEq,true_and,and_true];funext q
  by_cases hq:q=p
  ·subst hq;simp only[if_true];exact h.symm
  ·simp [hq]
theorem A2n{x:C0}{m:Nat->Option En}(h:P0 x m){p:Nat}{kill:Option Nat}(hk:kill=some p∨(kill=none∧m p=none)){w' : World}{kd:Kd}(hkd:kd ≠ .no){g:Nat}{e:En}
  (hos:w'.os=x.w.os) (htape:w'.tape=x.w.tape) (hout:w'.output=x.w.output) (hsz:x.w.heap.size<=w'.heap.size)
  (hblk:∀b,b<x.w.heap.size->(x.k p = .real->x.β p≠b)->w'.heap[b]? = x.w.heap[b]?)
  (hg:kd = .real->(x.k p = .real∧g=x.β p)∨x.w.heap.size<=g)
  (hnil:kd = .nil->∃q,e = .sq q∧q.n=0)
  (hent:kd = .real->∃cs ty,w'.heap[g]? = some (.cells cs ty (0,0))∧C9 (kx x (some p)) e cs.toList) :
  Tr x kill (J2 x p w' kd g) (H8 (O5 m kill) [(p,e)]):=by
 have hx:Ext (kx x (some p)) (J2 x p w' kd g):=by
  refine ⟨hsz,fun b hb=>⟨hb,hblk b (h.fw b hb) (fun hr e=>h.own p hr (e ▸ hb))⟩,fun q hq=>?_,fun q hq=>?_,fun q hq cs ty hc=>?_⟩
  ·have:q≠p:=fun e=>hq (by simp [kx,e])
   simp [J2,kx,this]
  ·have:q≠p:=fun e=>by simp [kx,e] at hq
   simp [J2,kx,this]
  ·have hqp:q≠p:=fun e=>by simp [kx,e] at hq
   have hq' : x.k q = .real:=by simpa [kx,hqp] using hq
   exact ⟨cs,(hblk _ (h.lt hq') (fun hr e=>hqp (h.inj q p hq' hr e.symm))).trans hc,rfl⟩
 have hx' : Ext (kx x kill) (J2 x p w' kd g):=by
  rcases hk with rfl | ⟨rfl,hm⟩
  ·exact hx
  ·rw[D9d ((h.dom p).1 hm)] at hx;exact hx
 have hkill:∀q,q≠p->∀e',O5 m kill q=some e' -> ∃e0,m q=some e0∧(e' = e0∨e' = W0 p e0)∧(∀cs,C9 x e0 cs->C9 (kx x kill) e' cs):=by
  intro q hq e' he
  rcases hk with rfl | ⟨rfl,hm⟩
  ·simp only[O5,Option.map_eq_some_iff] at he
   obtain ⟨e0,h0,rfl⟩:=he;exact ⟨e0,h0,.inr rfl,fun cs hc=>YG p hc⟩
  ·exact ⟨e',he,.inl rfl,fun cs hc=>hc⟩
 refine ⟨hx',?_,hos,htape,hout,fun b hb hq=>hblk b hb (fun hr=>hq p hr),fun q hq=>?_,fun b hb=>.inl hb⟩
 ·rw[Et]
  refine ⟨fun q=>?_,fun q l hq=>?_,fun q s hq hn=>?_,fun q e' hq hr=>?_,fun q q' hq hq' he=>?_,fun q hq=>?_,fun b hb=>Nat.lt_of_lt_of_le (h.fw b hb) hsz⟩
  ·by_cases hqp:q=p
   ·simp [hqp,J2,hkd]
   ·simp only[J2,hqp,if_false]
    rw[<-h.dom q];rcases hk with rfl | ⟨rfl,hm⟩<;>simp [O5]
  ·by_cases hqp:q=p
   ·simp only[hqp,if_true,Option.some.injEq] at hq
    simp only[J2,hqp,if_true]
    cases kd with
    | no=>exact absurd rfl hkd
    | real=>rfl
    | nil=>obtain ⟨q',hq',_⟩:=hnil rfl;rw[hq] at hq';cases hq'
   ·simp only[hqp,if_false] at hq
    simp only[J2,hqp,if_false];obtain ⟨e0,h0,he,_⟩:=hkill q hqp _ hq
    cases e0 with
    | fl l0=>exact h.fl q l0 h0
    | sq s=>rcases he with he | he<;>cases he
  ·by_cases hqp:q=p
   ·simp only[hqp,if_true,Option.some.injEq] at hq
    simp only[J2,hqp,if_true] at hn;obtain ⟨q',hq',h0⟩:=hnil hn;rw[hq] at hq';cases hq';exact h0
   ·simp only[hqp,if_false] at hq
    simp only[J2,hqp,if_false] at hn;obtain ⟨e0,h0,he,_⟩:=hkill q hqp _ hq
    cases e0 with
    | fl l0=>rcases he with he | he<;>cases he
    | sq s0=>rcases he with he | he<;>(cases he;exact h.nil q _ h0 hn)
  ·by_cases hqp:q=p
   ·simp only[hqp,if_true,Option.some.injEq] at hq
    subst hq;simp only[J2,hqp,if_true] at hr;obtain ⟨cs,ty,hc,hd⟩:=hent hr;exact ⟨cs,ty,by simp only[J2,hqp,if_true];exact hc,K8 hx hd⟩
   ·simp only[hqp,if_false] at hq
    simp only[J2,hqp,if_false] at hr;obtain ⟨e0,h0,_,hd⟩:=hkill q hqp _ hq;obtain ⟨cs,ty,hc,hd0⟩:=h.ent q e0 h0 hr;refine ⟨cs,ty,?_,K8 hx' (hd _ hd0)⟩
    simp only[J2,hqp,if_false];exact (hblk _ (h.lt hr) (fun hr' e=>hqp (h.inj q p hr hr' e.symm))).trans hc
  ·by_cases hqp:q=p<;>by_cases hqp' : q' = p
   ·rw[hqp,hqp']
   ·simp only[J2,hqp,hqp',if_true,if_false] at he hq hq'
    rcases hg hq with ⟨hr,hgb⟩ | hgb
    ·exact absurd (h.inj q' p hq' hr (by rw[<-hgb,<-he])) hqp'
    ·have:=h.lt hq';omega
   ·simp only[J2,hqp,hqp',if_true,if_false] at he hq hq'
    rcases hg hq' with ⟨hr,hgb⟩ | hgb
    ·exact absurd (h.inj q p hq hr (by rw[<-hgb,he])) hqp
    ·have:=h.lt hq;omega
   ·simp only[J2,hqp,hqp',if_false] at he hq hq'
    exact h.inj q q' hq hq' he
  ·by_cases hqp:q=p
   ·simp only[J2,hqp,if_true] at hq ⊢
    rcases hg hq with ⟨hr,hgb⟩ | hgb
    ·rw[hgb];exact h.own p hr
    ·intro hF;have:=h.fw _ hF;omega
   ·simp only[J2,hqp,if_false] at hq ⊢;exact h.own q hq
 ·by_cases hqp:q=p
  ·simp only[J2,hqp,if_true] at hq ⊢
   rcases hg hq with ⟨hr,hgb⟩ | hgb
   ·exact .inl ⟨hr,hgb⟩
   ·exact .inr hgb
  ·simp only[J2,hqp,if_false] at hq ⊢;exact .inl ⟨hq,C4⟩
theorem KV{R:Nat->List Value->Prop}{es:Nat}:∀(n:Nat),(∀i,i<n->∃cs,cs.length=es∧R i cs) ->
  ∃news:List Value,news.length=n*es∧(∀i,i<n->∃cs,R i cs∧∀(j:Nat) (v:Value),cs[j]? = some v->news[i*es+j]? = some v) ∧
   ∀(j:Nat) (v:Value),news[j]? = some v->∃i k cs,i<n∧R i cs∧cs[k]? = some v∧j=i*es+k
 | 0,_=>⟨[],by simp,fun i hi=>absurd hi (Nat.not_lt_zero i),fun j v h=>by simp at h⟩
 | n+1,h=>by
  obtain ⟨news,hl,h1,h2⟩:=KV n (fun i hi=>h i (by omega))
  obtain ⟨cs,hc,hR⟩:=h n (Nat.lt_succ_self n);refine ⟨news++cs,by rw[List.length_append,hl,hc,Nat.add_mul,Nat.one_mul],fun i hi=>?_,fun j v hv=>?_⟩
  ·by_cases hin:i=n
   ·subst hin
    refine ⟨cs,hR,fun j v hv=>?_⟩
    rw[<-hl,List.getElem?_append_right (Nat.le_add_right _ _),Nat.add_sub_cancel_left];exact hv
   ·obtain ⟨c,hRc,hj⟩:=h1 i (by omega)
    refine ⟨c,hRc,fun j v hv=>?_⟩
    have:=hj j v hv
    have hlt:i*es+j<news.length:=by
     rcases Nat.lt_or_ge (i*es+j) news.length with hh | hh
     ·exact hh
     ·rw[List.getElem?_eq_none hh] at this;cases this
    rw[List.getElem?_append_left hlt];exact this
  ·rcases Nat.lt_or_ge j news.length with hh | hh
   ·rw[List.getElem?_append_left hh] at hv
    obtain ⟨i,k,c,hi,hRc,hk,e⟩:=h2 j v hv;exact ⟨i,k,c,by omega,hRc,hk,e⟩
   ·rw[List.getElem?_append_right hh] at hv
    exact ⟨n,j-news.length,cs,Nat.lt_succ_self n,hR,hv,by omega⟩
structure Src(x:C0)(q:Sq)(v:Value):Prop where
 ex:∃(a:Option Addr) (cap:Nat) (news:List Value),v = .slice a q.n cap∧news.length=q.n*q.es∧(∀u∈news,u.oneCell' = true)∧(∀i,i<q.n->∃c,C6 x.D (q.get i) c∧∀(j:Nat) (u:Value),c[j]? = some u->news[i*q.es+j]? = some u) ∧
  ((q.n=0)∨∃b o,a=some ⟨b,o,none⟩∧∀(j:Nat) (u:Value),news[j]? = some u->x.w.cell? ⟨b,o+j,none⟩=some u)
section
variable {P:Program} {x:C0} {m m' : Nat->Option En}
theorem D6p{q:Sq}{v:Value}(h:B8 x (.v (.c (.sl q))) v):Src x q v:=by
 rcases A6m h with ⟨a,cap,rfl,hn⟩ | ⟨b,o,cap,rfl,h1,h2,d,hel⟩
 ·exact ⟨a,cap,[],by rw[hn],by simp [hn],by simp,fun i hi=>by omega,.inl hn⟩
 ·obtain ⟨news,hl,g1,g2⟩:=KV (R:=fun i cs=>C6 (F8 x d) (q.get i) cs∧rd x.w x.F b (o+i*q.es) cs) (es:=q.es) q.n (fun i hi=>by
   obtain ⟨cs,hc,hr⟩:=hel i hi;exact ⟨cs,by rw[P5 hc,Ji],hc,hr⟩)
  refine ⟨_,cap,news,rfl,hl,fun u hu=>?_,fun i hi=>?_,.inr ⟨b,o,rfl,fun j u hu=>?_⟩⟩
  ·obtain ⟨j,hj⟩:=List.mem_iff_getElem?.1 hu
   obtain ⟨i,k,cs,hi,hR,hk,e⟩:=g2 j u hj;exact Fz hR.1 u (List.mem_of_getElem? hk)
  ·obtain ⟨c,hR,hj⟩:=g1 i hi
   exact ⟨c,P4 hR.1,hj⟩
  ·obtain ⟨i,k,cs,hi,hR,hk,e⟩:=g2 j u hu
   have:=hR.2.2 k u hk
   rw[e,<-Nat.add_assoc];exact this
theorem NM{q:Sq}{cs:List Value}(h:C9 x (.sq q) cs):∃news:List Value,news.length=q.n*q.es∧(∀u∈news,u.oneCell' = true)∧(∀i,i<q.n->∃c,C6 x.D (q.get i) c∧∀(j:Nat) (u:Value),c[j]? = some u->news[i*q.es+j]? = some u) ∧
  news=cs.take (q.n*q.es):=by
 have hn:=h.1;have hel:∀i,i<q.n->∃c d,C6 (F8 x d) (q.get i) c∧c.length=q.es∧∀(j:Nat) (v:Value),c[j]? = some v->cs[i*q.es+j]? = some v:=by
  intro i hi;obtain ⟨c,d,hc,hl,_,hj⟩:=V6 h hi;exact ⟨c,d,hc,hl,hj⟩
 obtain ⟨news,hl,g1,g2⟩:=KV (R:=fun i c=>∃d,C6 (F8 x d) (q.get i) c∧∀(j:Nat) (v:Value),c[j]? = some v->cs[i*q.es+j]? = some v) (es:=q.es) q.n (fun i hi=>by
  obtain ⟨c,d,hc,hl,hj⟩:=hel i hi;exact ⟨c,hl,d,hc,hj⟩)
 have e:news=cs.take (q.n*q.es):=by
  apply List.ext_getElem?
  intro j;by_cases hj:j<q.n*q.es
  ·have hjn:j<news.length:=by omega
   obtain ⟨i,k,c,hi,⟨d,hc,hR⟩,hk,e⟩:=g2 j news[j] (by simp [hjn])
   rw[List.getElem?_take_of_lt hj,e,hR k _ hk];rw[<-e];simp [hjn]
  ·rw[List.getElem?_eq_none (by omega),List.getElem?_eq_none (by simp;omega)]
 refine ⟨news,hl,fun u hu=>?_,fun i hi=>?_,e⟩
 ·obtain ⟨j,hj⟩:=List.mem_iff_getElem?.1 hu
  obtain ⟨i,k,c,hi,⟨d,hc,_⟩,hk,_⟩:=g2 j u hj;exact Fz hc u (List.mem_of_getElem? hk)
 ·obtain ⟨c,⟨d,hc,_⟩,hj⟩:=g1 i hi
  exact ⟨c,P4 hc,hj⟩
theorem C8r(hm:P0 x m){p off len es:Nat}{q:Sq}{v:Value}(hd:B8 x (.v (.c (.slc p off len es))) v)(hq:m p=some (.sq q))(ho:off=0)(hl:len=q.n):Src x q v:=by
 subst ho;subst hl
 rcases CQ hd with ⟨hk,_,h0,rfl⟩ | ⟨hk,cap,cs,ty,rfl,hlc,hcm,hcs,hfit⟩
 ·exact ⟨none,0,[],by rw[h0],by simp [h0],by simp,fun i hi=>by omega,.inl h0⟩
 ·obtain ⟨cs',ty',hcs',hden⟩:=hm.ent p _ hq hk
  obtain ⟨news,g1,g2,g3,g4⟩:=NM hden;refine ⟨_,cap,news,rfl,g1,g2,g3,.inr ⟨x.β p,0,rfl,fun j u hu=>?_⟩⟩
  rw[Nat.zero_add,V5 hcs'];rw[g4,List.getElem?_take] at hu;split at hu
  ·exact hu
  ·cases hu
theorem SC{es d:Nat}:∀(n:Nat) (l:List It) (cs:List (List It)) (q q' : Sq) (news:List Value),WV es n l=some cs->AU q cs=some q' -> q.es=es->C9 x (.sq q) news->C6 (F8 x d) l (news.drop (q.n*es)) ->
  C9 x (.sq q') news∧q'.n=q.n+n∧q'.es=es
 | 0,l,cs,q,q',news,hc,hp,he,hd,_=>by
  simp only[WV,Option.some.injEq] at hc;subst hc;simp only[AU,Option.some.injEq] at hp;subst hp;exact ⟨hd,rfl,he⟩
 | n+1,l,cs,q,q',news,hc,hp,he,hd,hl=>by
  simp only[WV] at hc;split at hc
  ·rename_i a b ha hb
   simp only[Option.map_eq_some_iff] at hc;obtain ⟨cs',hc',rfl⟩:=hc;simp only[AU] at hp;split at hp
   ·rename_i q1 hq1
    obtain ⟨h1,h2,h3,h4,h5⟩:=LR hq1;obtain ⟨g1,g2⟩:=Dm ha hl;obtain ⟨g3,g4⟩:=Ac hb hl;rw[List.drop_drop] at g3;have hlen:q.n*es+es<=news.length∨es=0:=by
     rw[List.length_drop] at g4;omega
    have hd1:C9 x (.sq q1) news:=by
     refine ⟨?_,fun i hi=>?_⟩
     ·have:=hd.1
      rw[h1,h2,he,Nat.add_mul,Nat.one_mul];rw[he] at this;omega
     ·rw[h1] at hi
      by_cases hin:i<q.n
      ·obtain ⟨c,hcc,hj⟩:=hd.2 i hin
       exact ⟨c,by rw[h4 i hin];exact hcc,by rw[h2];exact hj⟩
      ·have:i=q.n:=by omega
       subst this;refine ⟨_,P4 (h5 x d _ g1),fun j v hv=>?_⟩
       rw[List.getElem?_take] at hv;split at hv
       ·rw[List.getElem?_drop] at hv
        rw[h2,he];exact hv
       ·cases hv
    have:=SC n b cs' q1 q' news hc' hp (by rw[h2,he]) hd1 (by rw[h1,Nat.add_mul,Nat.one_mul];exact g3)
    exact ⟨this.1,by rw[this.2.1,h1];omega,this.2.2⟩
   ·cases hp
  ·cases hc
theorem D7v{p off n es:Nat}{v:Value}(h:B8 x (.v (.c (.arr p off n es))) v):x.k p = .real∧v = .slice (some ⟨x.β p,off,none⟩) n n:=by
 obtain ⟨_,d,h⟩:=h
 cases d<;>simpa [F8] using h
theorem A2z(hm:P0 x m)(hsub:∀q e,m' q=some e->m q=some e){e q:Sq}(he:e.n=0){p off n es:Nat}{v:Value}(hd:B8 x (.v (.c (.arr p off n es))) v)(h:A2y m' e p off n es=some q) :
  q.n=n∧q.es=e.es∧e.es=es∧∃news:List Value,v = .slice (some ⟨x.β p,off,none⟩) n n∧news.length=q.n*q.es∧(∀u∈news,u.oneCell' = true)∧(∀i,i<q.n->∃c,C6 x.D (q.get i) c∧∀(j:Nat) (u:Value),c[j]? = some u->news[i*q.es+j]? = some u) ∧
   ∀(j:Nat) (u:Value),news[j]? = some u->x.w.cell? ⟨x.β p,off+j,none⟩=some u:=by
 obtain ⟨hk,rfl⟩:=D7v hd;unfold A2y at h;split at h
 ·rename_i l hl
  split at h
  ·rename_i r hr
   split at h
   ·rename_i cs hcs
    split at h
    ·rename_i hes
     obtain ⟨cells,ty,hc,hden⟩:=hm.ent p _ (hsub _ _ hl) hk;obtain ⟨d,hden⟩:=M3 hden;obtain ⟨g1,g2⟩:=Ac hr hden;obtain ⟨k1,k2,k3⟩:=SC n r cs e q (cells.toList.drop off) hcs h hes ⟨by rw[he];simp,fun i hi=>by omega⟩ (by rw[he,Nat.zero_mul,List.drop_zero];exact g1)
     obtain ⟨news,j1,j2,j3,j4⟩:=NM k1;refine ⟨by omega,by rw[k3,hes],hes,news,rfl,j1,j2,j3,fun j u hu=>?_⟩
     rw[V5 hc];rw[j4,List.getElem?_take] at hu;split at hu
     ·rw[List.getElem?_drop] at hu;exact hu
     ·cases hu
    ·cases h
   ·cases h
  ·cases h
 ·cases h
theorem Ai(hm:P0 x m)(hsub:∀q e,m' q=some e->m q=some e){e q:Sq}{s:SV}{v:Value}(he:e.n=0)(hd:B8 x s v){obl:List Prop}(h:NZ m' e s=some (obl,q))(ho:A5 obl):Src x q v:=by
 unfold NZ at h;split at h
 ·cases h;exact D6p hd
 ·cases h
  obtain ⟨rfl,_⟩:=U0 hd;exact ⟨none,0,[],by rw[he],by simp [he],by simp,fun i hi=>by omega,.inl he⟩
 ·split at h
  ·rename_i hq
   split at h
   ·rename_i hoff
    cases h
    exact C8r hm hd (hsub _ _ hq) hoff ho.1
   ·cases h
  ·cases h
 ·rw[Option.map_eq_some_iff] at h
  obtain ⟨q',h1,h2⟩:=h
  cases h2
  obtain ⟨g1,g2,g3,news,g4,g5,g6,g7,g8⟩:=A2z hm hsub he hd h1;exact ⟨_,_,news,by rw[g1];exact g4,g5,g6,g7,.inr ⟨_,_,rfl,g8⟩⟩
 ·cases h
theorem KZ{y:C0}{q q' r:Sq}(hr:q.app q' = some r){olds news tail:List Value}(hl:olds.length=q.n*q.es)(hl' : news.length=q'.n*q'.es)
  (h1:∀i,i<q.n->∃c,C6 y.D (q.get i) c∧∀(j:Nat) (u:Value),c[j]? = some u->olds[i*q.es+j]? = some u)
  (h2:∀i,i<q'.n->∃c,C6 y.D (q'.get i) c∧∀(j:Nat) (u:Value),c[j]? = some u->news[i*q'.es+j]? = some u):C9 y (.sq r) (olds++news++tail):=by
 obtain ⟨g1,g2,g3,g4,g5⟩:=Ft hr;refine ⟨by rw[g1,g2,Nat.add_mul];simp only[List.length_append,hl,hl',g3];omega,fun i hi=>?_⟩
 rw[g1] at hi;have lt_of:∀{l:List Value} {j:Nat} {u:Value},l[j]? = some u->j<l.length:=by
  intro l j u h;rcases Nat.lt_or_ge j l.length with hh | hh
  ·exact hh
  ·rw[List.getElem?_eq_none hh] at h;cases h
 by_cases hin:i<q.n
 ·obtain ⟨c,hc,hj⟩:=h1 i hin
  refine ⟨c,by rw[g4 i hin];exact hc,fun j u hu=>?_⟩
  have:=hj j u hu
  rw[g2,List.append_assoc,List.getElem?_append_left (lt_of this)];exact this
 ·obtain ⟨c,hc,hj⟩:=h2 (i-q.n) (by omega)
  have hget:=g5 (i-q.n) (by omega)
  rw[show q.n+(i-q.n)=i from by omega] at hget
  refine ⟨c,by rw[hget];exact hc,fun j u hu=>?_⟩
  have:=hj j u hu
  have hidx:i*q.es+j=olds.length+((i-q.n)*q'.es+j):=by
   have:i=q.n+(i-q.n):=by omega
   rw[hl,g3,<-Nat.add_assoc,<-Nat.add_mul,<-this]
  rw[g2,List.append_assoc,hidx,List.getElem?_append_right (Nat.le_add_right _ _),Nat.add_sub_cancel_left,List.getElem?_append_left (lt_of this)];exact this
theorem B9y{t ty e:TypeId}{i:TypeInfo}(ht:P.underlying t=some (.slice e))(hi:P.info? e=some i){w:World}
  {g sLen sCap:Nat} {cur:Array Value} {ty' : TypeId} (hg:w.heap[g]? = some (.cells cur ty' (0,0)))
  {xv:Value} {n:Nat} {news:List Value} (hn:(Builtin.lenOf xv).run P w = .ok n w) (hf:(Builtin.firstCells i.size n xv).run P w = .ok news.toArray w) (h1:∀u∈news,u.oneCell' = true)
  (hroom:sLen+n<=sCap) (hfit:sLen*i.size+news.length<=cur.size) :
  (Builtin.append_ #[t,t] ty #[.slice (some ⟨g,0,none⟩) sLen sCap,xv]).run P w =
   .ok (.slice (some ⟨g,0,none⟩) (sLen+n) sCap) (w.setRow g (cur.toList.take (sLen*i.size)++news++cur.toList.drop (sLen*i.size+news.length)).toArray):=by
 have hst:=run_storeCells_at P g (sLen*i.size) ty' news 0 cur w hg (by simpa using hfit) h1
 simp only[Nat.add_zero] at hst;simp [Builtin.append_,run_underlying ht,sizeOf,typeInfo,hi,hn,hroom,hf,Addr.add_lit,hst]
theorem Nz(hm:P0 x m){p:Nat}{kill:Option Nat}(hk:kill=some p∨(kill=none∧m p=none)){q q' r:Sq}(hr:q.app q' = some r){olds news:List Value}(hl:olds.length=q.n*q.es)(hl' : news.length=q'.n*q'.es)
  (h1:∀i,i<q.n->∃c,C6 x.D (q.get i) c∧∀(j:Nat) (u:Value),c[j]? = some u->olds[i*q.es+j]? = some u)
  (h2:∀i,i<q'.n->∃c,C6 x.D (q'.get i) c∧∀(j:Nat) (u:Value),c[j]? = some u->news[i*q'.es+j]? = some u)
  {tail:Array Value} {e:TypeId} {cap:Nat} (hc:q.n+q'.n<=cap) (hcm:cap<=maxLen) (hs:tail.size=(cap-(q.n+q'.n))*q.es) (he:q'.es=q.es) :
  ∃y,y.w=x.w.drew.alloc (.cells (olds.toArray++news.toArray++tail) e)∧Tr x kill y (H8 (O5 m kill) [(p,.sq r)]) ∧
   B8 y (.v (.c (.slc p 0 (q.n+q'.n) q.es))) (.slice (some ⟨x.w.heap.size,0,none⟩) (q.n+q'.n) cap):=by
 have hnew:(x.w.drew.alloc (.cells (olds.toArray++news.toArray++tail) e)).heap[x.w.heap.size]? = some (.cells (olds.toArray++news.toArray++tail) e (0,0)):=heap_alloc_new x.w.drew _;refine ⟨J2 x p (x.w.drew.alloc (.cells (olds.toArray++news.toArray++tail) e)) .real x.w.heap.size,rfl,?_,?_⟩
 ·refine A2n hm hk (by simp) rfl rfl rfl (by show _<=(x.w.heap.push _).size;simp) (fun b hb _=>X7 x.w.drew _ hb) (fun _=>.inr (Nat.le_refl _)) (fun h=>by cases h) fun _=>⟨_,_,hnew,?_⟩
  have:=KZ (y:=kx x (some p)) (tail:=tail.toList) hr hl hl'
   (fun i hi=>let ⟨c,hc,hj⟩:=h1 i hi;⟨c,PC p hc,hj⟩) (fun i hi=>let ⟨c,hc,hj⟩:=h2 i hi;⟨c,PC p hc,hj⟩)
  simpa using this
 ·refine ⟨rfl,0,.inr ⟨by simp [J2],cap,_,_,by simp [J2],hc,hcm,by simp only[J2,if_true];exact hnew,?_⟩⟩
  simp only[Array.size_append,List.size_toArray,hl,hl',hs,he,Nat.zero_add];rw[<-Nat.add_mul,<-Nat.add_mul];exact Nat.mul_le_mul_right _ (by omega)
theorem A2w(hm:P0 x m){p:Nat}{kill:Option Nat}(hk:kill=some p∨(kill=none∧m p=none)){r:Sq}(h0:r.n=0){n es:Nat}(hn:n=0) :
  ∃y,y.w=x.w∧Tr x kill y (H8 (O5 m kill) [(p,.sq r)])∧B8 y (.v (.c (.slc p 0 n es))) (.slice none 0 0):=by
 subst hn;refine ⟨J2 x p x.w .nil 0,rfl,?_,rfl,0,.inl ⟨by simp [J2],rfl,rfl,rfl⟩⟩
 exact A2n hm hk (by simp) rfl rfl rfl (Nat.le_refl _) (fun b hb _=>rfl) (fun h=>by cases h) (fun _=>⟨r,rfl,h0⟩) fun h=>by cases h
theorem B1m(hm:P0 x m){p:Nat}(hkp:x.k p = .real){q q' r:Sq}(hr:q.app q' = some r){cur:Array Value}{ty:TypeId}(hcs:x.w.heap[x.β p]? = some (.cells cur ty (0,0)))
  {news:List Value} (hden:C9 x (.sq q) cur.toList) (hl' : news.length=q'.n*q'.es) (he:q'.es=q.es)
  (h2:∀i,i<q'.n->∃c,C6 x.D (q'.get i) c∧∀(j:Nat) (u:Value),c[j]? = some u->news[i*q'.es+j]? = some u)
  {cap:Nat} (hc:q.n+q'.n<=cap) (hcm:cap<=maxLen) (hfit:cap*q.es<=cur.size) :
  ∃y,y.w=x.w.setRow (x.β p) (cur.toList.take (q.n*q.es)++news++cur.toList.drop (q.n*q.es+news.length)).toArray∧Tr x (some p) y (H8 (O5 m (some p)) [(p,.sq r)]) ∧
   B8 y (.v (.c (.slc p 0 (q.n+q'.n) q.es))) (.slice (some ⟨x.β p,0,none⟩) (q.n+q'.n) cap):=by
 obtain ⟨olds,g1,_,g3,g4⟩:=NM hden;have hfit' : q.n*q.es+news.length<=cur.size:=by
  rw[hl',he,<-Nat.add_mul];exact Nat.le_trans (Nat.mul_le_mul_right _ hc) hfit
 have hnew:=setRow_heap x.w (x.β p) cur (cur.toList.take (q.n*q.es)++news++cur.toList.drop (q.n*q.es+news.length)).toArray ty (0,0) hcs;refine ⟨J2 x p (x.w.setRow (x.β p) (cur.toList.take (q.n*q.es)++news++cur.toList.drop (q.n*q.es+news.length)).toArray) .real (x.β p),rfl,?_,?_⟩
 ·refine A2n hm (.inl rfl) (by simp) rfl rfl rfl (by simp) (fun b hb hne=>setRow_other _ _ _ _ (fun e=>hne hkp e.symm)) (fun _=>.inl ⟨hkp,rfl⟩) (fun h=>by cases h) fun _=>⟨_,_,hnew,?_⟩
  rw[<-g4];exact KZ (y:=kx x (some p)) hr g1 hl' (fun i hi=>let ⟨c,hc,hj⟩:=g3 i hi;⟨c,PC p hc,hj⟩) (fun i hi=>let ⟨c,hc,hj⟩:=h2 i hi;⟨c,PC p hc,hj⟩)
 ·refine ⟨rfl,0,.inr ⟨by simp [J2],cap,_,_,by simp [J2],hc,hcm,by simp only[J2,if_true];exact hnew,?_⟩⟩
  simp only[List.size_toArray,List.length_append,List.length_take,List.length_drop,Array.length_toList];omega
theorem Uw{t e:Nat}{i ie:TyI}{q0:Sq}(ht:I2 P t i)(hsl:i.slc=some e)(hte:I2 P e ie)(hq0:ie.esq=some q0)(hm:P0 x m)(hsub:∀q e,m' q=some e->m q=some e)
  {p:Nat} (hp:m' p=none) {s sx:SV} {v u:Value} (hs:B8 x s v) (hx:B8 x sx u) {r:Res} (h:NY m' p ie q0 s sx=some r) (ho:A5 r.obl) (hfresh:∀q e,(q,e)∈r.ups->m' q=none->m q=none) (ty:TypeId) :
  ∃z y,(Builtin.append_ #[t,t] ty #[v,u]).run P x.w = .ok z y.w∧Tr x r.kill y (H8 (O5 m r.kill) r.ups)∧B8 y r.val z:=by
 obtain ⟨inf,d,hinf,hdd,_,_,_,_,_,_,_,hsd,_⟩:=ht.parts;obtain ⟨rfl,_⟩:=hsd e hsl;obtain ⟨inf',d',hi',hd',hs',hb',_,_,⟨z0,hz0,_,hzc,_⟩,_,_,_,_,_,hes',_⟩:=hte.parts;obtain ⟨hes,hen⟩:=hes' q0 hq0;have tailsz:∀n,(Builtin.zeroCells z0.cells n).size=n*q0.es:=by intro n;rw[size_zeroCells,hzc,hes]
 have none0:∀(a:Option Addr) (cap:Nat),(Builtin.append_ #[t,t] ty #[.slice none 0 0,.slice a 0 cap]).run P x.w = .ok (.slice none 0 0) x.w:=by
  intro a cap
  cases a<;>simp [Builtin.append_,run_underlying hdd,sizeOf,typeInfo,hi',Builtin.lenOf,Builtin.firstCells,loadCells,loadCellsFrom]
 unfold NY at h;split at h
 ·rename_i o q' hsrc
  split at h
  ·obtain ⟨rfl,_⟩:=U0 hs
   split at h
   ·rename_i rr hrr
    cases h
    obtain ⟨o1,o2,o4⟩:=ho;have hpn:m p=none:=hfresh p (.sq rr) (by simp) hp
    obtain ⟨a,cap,news,rfl,hl,h1,hel,hcell⟩:=(Ai hm hsub hen hx hsrc o4).ex;obtain ⟨g1,g2,o3,g4,g5⟩:=Ft hrr;by_cases hn:q'.n=0
    ·obtain ⟨y,hyw,hT,hD⟩:=A2w hm (p:=p) (kill:=none) (.inr ⟨rfl,hpn⟩) (r:=rr) (by omega) (n:=q'.n) (es:=q0.es) hn
     refine ⟨.slice none 0 0,y,?_,hT,hD⟩
     rw[hyw,hn];exact none0 a cap
    ·rcases hcell with h0 | ⟨b,oo,rfl,hcell⟩
     ·exact absurd h0 hn
     ·have hr:=run_append_nil (P:=P) x.w t ty e inf' z0 hdd hi' hz0 ⟨b,oo,none⟩ q'.n cap news (by rw[hl,o3,hes,hs']) (fun j v hv=>by rw[Addr.add_lit];exact hcell j v hv) (by omega) (by simp only[maxLen] at o2;omega) (by rw[hb'];omega)
      have hge:=grownCap_ge x.w q'.n 0 e;have hcm:=grownCap_le_maxLen x.w q'.n 0 e o2;obtain ⟨y,hyw,hT,hD⟩:=Nz hm (p:=p) (kill:=none) (.inr ⟨rfl,hpn⟩) hrr (olds:=[]) (news:=news) (by simp [hen]) hl (fun i hi=>by omega) hel (tail:=Builtin.zeroCells z0.cells (grownCap x.w q'.n 0 e-q'.n)) (e:=e) (cap:=grownCap x.w q'.n 0 e) (by omega) hcm (by rw[tailsz,hen,Nat.zero_add]) o3
      refine ⟨.slice (some ⟨x.w.heap.size,0,none⟩) q'.n (grownCap x.w q'.n 0 e),y,?_,hT,?_⟩
      ·rw[hyw];simpa using hr
      ·simpa [hen] using hD
   ·cases h
  ·rename_i p' off len es
   split at h
   ·rename_i q hq
    split at h
    ·rename_i rr hrr
     split at h
     ·rename_i hc
      obtain ⟨rfl,rfl,hqe⟩:=hc
      cases h
      obtain ⟨o1,o2,rfl,o7⟩:=ho;obtain ⟨a,cap,news,rfl,hl,h1,hel,hcell⟩:=(Ai hm hsub hen hx hsrc o7).ex;obtain ⟨g1,g2,o3,g4,g5⟩:=Ft hrr;rcases CQ hs with ⟨hk,_,h0,rfl⟩ | ⟨hk,cap',cs,ty',rfl,hlc,hcm,hcs,hfit⟩
      ·by_cases hn:q'.n=0
       ·obtain ⟨y,hyw,hT,hD⟩:=A2w hm (p:=p') (kill:=some p') (.inl rfl) (r:=rr) (by omega) (n:=q.n+q'.n) (es:=q.es) (by omega)
        refine ⟨.slice none 0 0,y,?_,hT,hD⟩
        rw[hyw,hn];exact none0 a cap
       ·rcases hcell with h0 | ⟨b,oo,rfl,hcell⟩
        ·exact absurd h0 hn
        ·have hr:=run_append_nil (P:=P) x.w t ty e inf' z0 hdd hi' hz0 ⟨b,oo,none⟩ q'.n cap news (by rw[hl,o3,hqe,hes,hs']) (fun j v hv=>by rw[Addr.add_lit];exact hcell j v hv) (by omega) (by simp only[maxLen] at o2;omega)
          (by rw[hb'];rw[h0,Nat.zero_add] at o1;omega)
         have hge:=grownCap_ge x.w q'.n 0 e;have hcm:=grownCap_le_maxLen x.w q'.n 0 e (by omega)
         obtain ⟨y,hyw,hT,hD⟩:=Nz hm (p:=p') (kill:=some p') (.inl rfl) hrr (olds:=[]) (news:=news) (by simp [h0]) hl (fun i hi=>by omega) hel (tail:=Builtin.zeroCells z0.cells (grownCap x.w q'.n 0 e-q'.n)) (e:=e) (cap:=grownCap x.w q'.n 0 e) (by omega) hcm (by rw[tailsz,h0,Nat.zero_add,hqe]) o3
         refine ⟨.slice (some ⟨x.w.heap.size,0,none⟩) q'.n (grownCap x.w q'.n 0 e),y,?_,hT,?_⟩
         ·rw[hyw];simpa using hr
         ·simpa [h0] using hD
      ·obtain ⟨cs',ty'',hcs',hden⟩:=hm.ent p' _ (hsub _ _ hq) hk
       rw[hcs] at hcs'
       obtain ⟨rfl,rfl⟩:cs' = cs∧ty'' = ty' := by simp only[Option.some.injEq,Obj.cells.injEq] at hcs';exact ⟨hcs'.1.symm,hcs'.2.1.symm⟩
       have hlen:(Builtin.lenOf (.slice a q'.n cap)).run P x.w = .ok q'.n x.w:=rfl;have hfc:(Builtin.firstCells inf'.size q'.n (.slice a q'.n cap)).run P x.w = .ok news.toArray x.w:=by
        rcases hcell with h0 | ⟨b,oo,rfl,hcell⟩
        ·have:news=[]:=List.eq_nil_of_length_eq_zero (by rw[hl,h0,Nat.zero_mul])
         subst this;rw[h0]
         cases a<;>simp [Builtin.firstCells,loadCells,loadCellsFrom]
        ·exact run_firstCells_some (P:=P) x.w inf'.size q'.n ⟨b,oo,none⟩ q'.n cap news (by rw[hl,o3,hqe,hes,hs']) (fun j v hv=>by rw[Addr.add_lit];exact hcell j v hv)
       have hfit' : cap' * q.es<=cs'.size:=by omega
       by_cases hroom:q.n+q'.n<=cap'
       ·have hf:q.n*inf'.size+news.length<=cs'.size:=by
         rw[hs',<-hes,<-hqe,hl,o3,<-Nat.add_mul];exact Nat.le_trans (Nat.mul_le_mul_right _ hroom) hfit'
        have hr:=B9y (P:=P) (ty:=ty) hdd hi' hcs hlen hfc h1 hroom hf;obtain ⟨y,hyw,hT,hD⟩:=B1m hm hk hrr hcs hden hl o3 hel hroom hcm hfit';refine ⟨.slice (some ⟨x.β p',0,none⟩) (q.n+q'.n) cap',y,?_,hT,hD⟩
        rw[hyw,hr,hs',<-hes,<-hqe]
       ·obtain ⟨olds,k1,k2,k3,k4⟩:=NM hden
        have hq'0:q'.n≠0:=by omega
        rcases hcell with h0 | ⟨b,oo,rfl,hcell⟩
        ·exact absurd h0 hq'0
        ·have hr:=run_append_grow (P:=P) x.w t ty e inf' z0 hdd hi' hz0 ⟨x.β p',0,none⟩ q.n cap' olds (by rw[k1,hqe,hes,hs'])
          (fun j v hv=>by
           rw[Addr.add_lit,Nat.zero_add,V5 hcs];rw[k4,List.getElem?_take] at hv;split at hv
           ·exact hv
           ·cases hv)
          ⟨b,oo,none⟩ q'.n cap news (by rw[hl,o3,hqe,hes,hs']) (fun j v hv=>by rw[Addr.add_lit];exact hcell j v hv) (by omega) (by simp only[maxLen] at o2;omega) (by rw[hb'];exact growslice_fits (by omega) o1)
         have hge:=grownCap_ge x.w (q.n+q'.n) cap' e;have hcm' := grownCap_le_maxLen x.w (q.n+q'.n) cap' e o2;obtain ⟨y,hyw,hT,hD⟩:=Nz hm (p:=p') (kill:=some p') (.inl rfl) hrr (olds:=olds) (news:=news) k1 hl k3 hel (tail:=Builtin.zeroCells z0.cells (grownCap x.w (q.n+q'.n) cap' e-(q.n+q'.n))) (e:=e) (cap:=grownCap x.w (q.n+q'.n) cap' e) (by omega) hcm' (by rw[tailsz,hqe]) o3
         exact ⟨_,y,by rw[hyw];exact hr,hT,hD⟩
     ·cases h
    ·cases h
   ·cases h
  ·rename_i p' off n es
   split at h
   ·rename_i q hq
    split at h
    ·rename_i rr hrr
     cases h
     obtain ⟨o1,o2,o5,o7⟩:=ho;have hpn:m p=none:=hfresh p (.sq rr) (by simp) hp
     obtain ⟨a,cap,news,rfl,hl,h1,hel,hcell⟩:=(Ai hm hsub hen hx hsrc o7).ex;obtain ⟨g1,g2,o3,g4,g5⟩:=Ft hrr;obtain ⟨k0,kes,_,olds,rfl,k1,k2,k3,k4⟩:=A2z hm hsub hen hs hq;rcases hcell with h0 | ⟨b,oo,rfl,hcell⟩
     ·omega
     ·have hr:=run_append_grow (P:=P) x.w t ty e inf' z0 hdd hi' hz0 ⟨x.β p',off,none⟩ n n olds (by rw[k1,k0,kes,hes,hs'])
       (fun j v hv=>by rw[Addr.add_lit];exact k4 j v hv)
       ⟨b,oo,none⟩ q'.n cap news (by rw[hl,o3,kes,hes,hs']) (fun j v hv=>by rw[Addr.add_lit];exact hcell j v hv) (by omega) (by simp only[maxLen] at o2;omega) (by rw[hb'];exact growslice_fits (by omega) o1)
      have hge:=grownCap_ge x.w (n+q'.n) n e;have hcm' := grownCap_le_maxLen x.w (n+q'.n) n e o2;obtain ⟨y,hyw,hT,hD⟩:=Nz hm (p:=p) (kill:=none) (.inr ⟨rfl,hpn⟩) hrr (olds:=olds) (news:=news) k1 hl k3 hel (tail:=Builtin.zeroCells z0.cells (grownCap x.w (n+q'.n) n e-(n+q'.n))) (e:=e) (cap:=grownCap x.w (n+q'.n) n e) (by omega) hcm' (by rw[tailsz,k0,kes]) o3
      exact ⟨_,y,by rw[hyw];exact hr,hT,by rw[k0,kes] at hD;exact hD⟩
    ·cases h
   ·cases h
  ·cases h
 ·cases h
end
end
section
section
variable {P:Program} {x y:C0} {m m' : Nat->Option En}
theorem O8(q:Sq)(i:Nat):∀it∈q.get i,F4 it=true:=by
 have flat:∀(l:List (Fp×Fp×Fp)) (n k:Nat),∀it∈J9 l k n,F4 it=true:=by
  intro l n;induction n with
  | zero=>intro k it h;simp [J9] at h
  | succ n ih=>
   intro k it h;simp only[J9,List.mem_cons] at h;rcases h with rfl | rfl | rfl | h
   ·rfl
   ·rfl
   ·rfl
   ·exact ih _ it h
 intro it h
 cases q
 case ptt l=>exact flat _ _ _ it h
 all_goals
  simp only[Sq.get,A0.its,OpD.its,G0.its,K5.its,M5,W8,List.mem_cons,List.not_mem_nil,or_false] at h
  first
   | (subst h;rfl)
   | (rcases h with rfl | rfl<;>rfl)
   | (rcases h with rfl | rfl | rfl<;>rfl)
   | (rcases h with rfl | rfl | rfl | rfl | rfl<;>rfl)
   | (rcases h with rfl | rfl | rfl | rfl | rfl | rfl<;>rfl)
   | (rcases h with rfl | rfl | rfl | rfl | rfl | rfl | rfl | rfl<;>rfl)
theorem OD(hw:y.w=x.w)(hF:∀b,x.F b->y.F b):∀(d:Nat) (i:It) (vs:List Value),F4 i=true->F8 x d i vs->F8 y d i vs:=by
 have hcat:∀d,(∀(i:It) (vs:List Value),F4 i=true->F8 x d i vs->F8 y d i vs)->∀(l:List It) (cs:List Value),(∀i∈l,F4 i=true)->C6 (F8 x d) l cs->C6 (F8 y d) l cs:=by
  intro d h l;induction l with
  | nil=>intro cs _ hc;exact hc
  | cons a l ih=>
   intro cs hl ⟨c1,c2,e,h1,h2⟩
   exact ⟨c1,c2,e,h a c1 (hl a (by simp)) h1,ih c2 (fun i hi=>hl i (by simp [hi])) h2⟩
 intro d;induction d with
 | zero=>
  intro i vs ho h
  cases i
  case clo f c=>cases c with
   | nil=>simp only[F8] at h ⊢;exact ⟨fun a ha=>(by cases ha),h.2⟩
   | cons a l=>cases ho
  all_goals first | (cases ho;done) | exact h
 | succ d ih=>
  intro i vs ho h
  cases i
  case clo f c=>cases c with
   | nil=>simp only[F8] at h ⊢;exact ⟨fun a ha=>(by cases ha),h.2⟩
   | cons a l=>cases ho
  case sl q=>
   simp only[F8] at h ⊢
   rcases h with h | ⟨b,o,cap,e,hc,hm,hr⟩
   ·exact .inl h
   ·refine .inr ⟨b,o,cap,e,hc,hm,fun i hi=>?_⟩
    obtain ⟨cs,h1,h2⟩:=hr i hi;exact ⟨cs,hcat d ih _ _ (O8 q i) h1,hF _ h2.1,by rw[hw];exact h2.2⟩
  case vsl v q=>
   simp only[F8] at h ⊢
   obtain ⟨hv,h⟩:=h;refine ⟨hv,?_⟩
   rcases h with h | ⟨b,o,cap,e,hc,hm,hr⟩
   ·exact .inl h
   ·refine .inr ⟨b,o,cap,e,hc,hm,fun i hi=>?_⟩
    obtain ⟨cs,h1,h2⟩:=hr i hi;exact ⟨cs,hcat d ih _ _ (O8 q i) h1,hF _ h2.1,by rw[hw];exact h2.2⟩
  case rp q i off=>
   simp only[F8] at h ⊢
   obtain ⟨b,o,cs,e,hi,h1,h2⟩:=h;exact ⟨b,o,cs,e,hi,hcat d ih _ _ (O8 q i) h1,hF _ h2.1,by rw[hw];exact h2.2⟩
  all_goals first | (cases ho;done) | exact h
theorem Ez(hw:y.w=x.w)(hF:∀b,x.F b->y.F b){i:It}{vs:List Value}(ho:F4 i=true)(h:x.D i vs):y.D i vs:=by
 obtain ⟨d,h⟩:=h;exact ⟨d,OD hw hF d i vs ho h⟩
theorem AZ(hw:y.w=x.w)(hF:∀b,x.F b->y.F b):∀{l:List It} {cs:List Value},(∀i∈l,F4 i=true)->C6 x.D l cs->C6 y.D l cs
 | [],_,_,h=>h
 | a::l,_,hl,⟨c1,c2,e,h1,h2⟩=>⟨c1,c2,e,Ez hw hF (hl a (by simp)) h1,AZ hw hF (fun i hi=>hl i (by simp [hi])) h2⟩
theorem Gw{R:Nat->Nat->Prop}(hmono:∀d d' i,d<=d' -> R d i->R d' i):∀(n:Nat),(∀i,i<n->∃d,R d i)->∃d,∀i,i<n->R d i
 | 0,_=>⟨0,fun i hi=>absurd hi (Nat.not_lt_zero i)⟩
 | n+1,h=>by
  obtain ⟨d,hd⟩:=Gw hmono n (fun i hi=>h i (by omega))
  obtain ⟨d',hd'⟩:=h n (Nat.lt_succ_self n);refine ⟨max d d',fun i hi=>?_⟩
  by_cases hin:i=n
  ·subst hin;exact hmono _ _ _ (Nat.le_max_right _ _) hd'
  ·exact hmono _ _ _ (Nat.le_max_left _ _) (hd i (by omega))
theorem YU{D:It->List Value->Prop}(hD:∀k n vs,D (.int k n) vs->vs=[.int k n]):∀{l:List It} {ns:List Int} {cs:List Value},u64s l=some ns->C6 D l cs->cs=ns.map fun n=>.int .u64 n
 | [],ns,cs,h,hc=>by simp [u64s] at h;subst h;exact hc
 | i::l,ns,cs,h,⟨c1,c2,e,h1,h2⟩=>by
  unfold u64s at h;split at h
  ·rename_i he;cases he
  ·rename_i n l' he
   cases he
   simp only[Option.map_eq_some_iff] at h;obtain ⟨ns',h',rfl⟩:=h;rw[e,hD _ _ _ h1,YU hD h' h2];rfl
  ·cases h
theorem YV{d:Nat}:∀k n vs,F8 x d (.int k n) vs->vs=[.int k n]:=by
 intro k n vs h;cases d<;>simpa [F8] using h
theorem Zq{l:List It}{q:Sq}(h:B1v l=some q):q.n=1∧q.get 0=l∧∀i∈l,F4 i=true:=by
 unfold B1v at h;split at h
 ·cases h;exact ⟨rfl,rfl,fun i hi=>by rw[List.mem_singleton.1 hi];rfl⟩
 ·cases h;exact ⟨rfl,rfl,fun i hi=>by rw[List.mem_singleton.1 hi];rfl⟩
 ·cases h;exact ⟨rfl,rfl,fun i hi=>by rw[List.mem_singleton.1 hi];rfl⟩
 ·cases h;exact ⟨rfl,rfl,fun i hi=>by simp only[List.mem_cons,List.not_mem_nil,or_false] at hi;rcases hi with rfl | rfl<;>rfl⟩
 ·cases h
theorem QM(hm:P0 x m)(hsub:∀q e,m' q=some e->m q=some e)(hw:y.w=x.w)(hF:∀b,x.F b->y.F b){i i' : It}{vs:List Value}{o:List Prop}
  (hown:F4 i=true∨∀p,x.k p = .real->y.F (x.β p)) (hd:x.D i vs) (h:A9u m' i=some (o,i')) (ho:A5 o):y.D i' vs:=by
 unfold A9u at h;split at h
 case h_9 p off len es=>
  rcases hown with hf | hown
  ·cases hf
  obtain ⟨v,rfl⟩:∃v,vs=[v]:=by
   have:=AW hd
   match vs,this with
   | [v],_=>exact ⟨v,rfl⟩
  have hs:B8 x (.v (.c (.slc p off len es))) v:=⟨rfl,hd⟩;split at h
  ·rename_i q hq
   cases h
   obtain ⟨rfl,rfl,rfl,_⟩:=ho;rcases CQ hs with ⟨hk,_,h0,rfl⟩ | ⟨hk,cap,cs,ty,rfl,hlc,hcm,hcs,hfit⟩
   ·exact ⟨1,.inl ⟨none,0,rfl,h0⟩⟩
   ·obtain ⟨cs',ty',hcs',hden⟩:=hm.ent p _ (hsub _ _ hq) hk
    obtain ⟨d,hd'⟩:=Gw (R:=fun d i=>∃c,C6 (F8 y d) (q.get i) c∧rd y.w y.F (x.β p) (0+i*q.es) c) (n:=q.n)
     (fun d d' i hdd ⟨c,hc,hr⟩=>⟨c,F7 (fun _ _ h=>BX hdd h) hc,hr⟩) (fun i hi=>by
      obtain ⟨c,hc,hj⟩:=hden.2 i hi;obtain ⟨d,hc⟩:=M3 (AZ hw hF (O8 q i) hc);refine ⟨d,c,hc,hown p hk,fun j v hv=>?_⟩
      rw[hw,V5 hcs',Nat.zero_add];exact hj j v hv)
    exact ⟨d+1,.inr ⟨x.β p,0,cap,rfl,hlc,by omega,hd'⟩⟩
  ·rename_i l hl
   split at h
   ·rename_i r hr
    split at h
    ·rename_i ns hns
     cases h
     rcases CQ hs with ⟨hk,_,h0,rfl⟩ | ⟨hk,cap,cs,ty,rfl,hlc,hcm,hcs,hfit⟩
     ·have:=hm.fl p _ (hsub _ _ hl)
      rw[hk] at this;cases this
     ·obtain ⟨cs',ty',hcs',hden⟩:=hm.ent p _ (hsub _ _ hl) hk
      obtain ⟨d,hden⟩:=M3 hden;obtain ⟨hc,hsz⟩:=Ho hr (CW hden);have hlen:=P5 hc;rw[hsz] at hlen;have hns' := YU YV hns hc;have hnl:ns.length=len:=by rw[<-hlen,hns'];simp
      refine ⟨1,.inr ⟨x.β p,off,cap,by rw[show (Sq.u64 ns).n=ns.length from rfl,hnl],by rw[show (Sq.u64 ns).n=ns.length from rfl];omega,by rw[show (Sq.u64 ns).n=ns.length from rfl];omega,fun i hi=>?_⟩⟩
      have hi' : i<ns.length:=hi;refine ⟨[.int .u64 (ns.getD i 0)],⟨_,[],rfl,rfl,rfl⟩,hown p hk,fun j v hv=>?_⟩
      cases j with
      | zero=>
       simp only[List.getElem?_cons_zero,Option.some.injEq] at hv;subst hv;have he:(cs'.toList.drop off).take len=ns.map fun n=>Value.int .u64 n:=hns'
       have:((cs'.toList.drop off).take len)[i]? = some (.int .u64 (ns.getD i 0)):=by rw[he];simp [hi']
       rw[List.getElem?_take_of_lt (by omega),List.getElem?_drop] at this
       rw[hw,V5 hcs',show (Sq.u64 ns).es=1 from rfl,Nat.mul_one]
       exact this
      | succ j=>simp at hv
    ·cases h
   ·cases h
  ·cases h
 case h_11 p off=>
  rcases hown with hf | hown
  ·cases hf
  split at h
  ·rename_i l hq
   split at h
   ·rename_i q hb
    cases h
    have hp:x.k p = .real∧vs=[.pointer (some ⟨x.β p,off,none⟩)]:=by
     obtain ⟨d,hd⟩:=hd
     cases d<;>exact hd
    obtain ⟨hk,rfl⟩:=hp;obtain ⟨cs',ty',hcs',hden⟩:=hm.ent p _ (hsub _ _ hq) hk;obtain ⟨b1,b2,b3⟩:=Zq hb;obtain ⟨d,hden⟩:=M3 (AZ hw hF b3 hden);refine ⟨d+1,x.β p,0,cs'.toList,by rw[Nat.zero_add],by rw[b1];exact Nat.one_pos,by rw[b2];exact hden,hown p hk,fun j v hv=>?_⟩
    rw[hw,V5 hcs',Nat.zero_add];exact hv
   ·cases h
  ·cases h
 case h_10 p lo len es=>
  rcases hown with hf | hown
  ·cases hf
  split at h
  ·rename_i q hq
   cases h
   obtain ⟨hle,rfl,_⟩:=ho;obtain ⟨g1,g2,g3⟩:=IN q lo len hle;have hs:(len=0∧∃a cap,vs=[.slice a 0 cap])∨(x.k p = .real∧∃cap,vs=[.slice (some ⟨x.β p,lo*q.es,none⟩) len cap]∧len<=cap∧cap<=maxLen):=by
    obtain ⟨d,hd⟩:=hd
    cases d<;>exact hd
   rcases hs with ⟨rfl,a,cap,rfl⟩ | ⟨hk,cap,rfl,hlc,hcm⟩
   ·exact ⟨1,.inl ⟨a,cap,rfl,g1⟩⟩
   ·obtain ⟨cs',ty',hcs',hden⟩:=hm.ent p _ (hsub _ _ hq) hk
    obtain ⟨d,hd'⟩:=Gw (R:=fun d i=>∃c,C6 (F8 y d) ((q.cut lo len).get i) c∧rd y.w y.F (x.β p) (lo*q.es+i*(q.cut lo len).es) c) (n:=(q.cut lo len).n)
     (fun d d' i hdd ⟨c,hc,hr⟩=>⟨c,F7 (fun _ _ h=>BX hdd h) hc,hr⟩) (fun i hi=>by
      rw[g1] at hi;obtain ⟨c,hc,hj⟩:=hden.2 (lo+i) (by omega)
      obtain ⟨d,hc⟩:=M3 (AZ hw hF (O8 q (lo+i)) hc);refine ⟨d,c,by rw[g3 i hi];exact hc,hown p hk,fun j v hv=>?_⟩
      rw[hw,V5 hcs',g2,<-Nat.add_mul];exact hj j v hv)
    exact ⟨d+1,.inr ⟨x.β p,lo*q.es,cap,by rw[g1],by rw[g1];exact hlc,by rw[g1];omega,hd'⟩⟩
  ·cases h
 all_goals first
  | (cases h;exact Ez hw hF rfl hd)
  | cases h
theorem MY(hm:P0 x m)(hsub:∀q e,m' q=some e->m q=some e)(hw:y.w=x.w)(hF:∀b,x.F b->y.F b):∀{l l' : List It} {vs:List Value} {o:List Prop},
  ((l.all F4=true)∨∀p,x.k p = .real->y.F (x.β p))->C6 x.D l vs->Yx m' l=some (o,l')->A5 o->C6 y.D l' vs
 | [],_,_,_,_,hd,h,_=>by simp [Yx] at h;obtain ⟨_,rfl⟩:=h;exact hd
 | i::l,_,_,_,hown,⟨c1,c2,e,h1,h2⟩,h,ho=>by
  simp only[Yx] at h;split at h
  ·rename_i o1 i' o2 l' hi hl
   cases h
   have ho:=D7.1 ho;refine ⟨c1,c2,e,QM hm hsub hw hF ?_ h1 hi ho.1,MY hm hsub hw hF ?_ h2 hl ho.2⟩
   ·rcases hown with h | h
    ·simp only[List.all_cons,Bool.and_eq_true] at h;exact .inl h.1
    ·exact .inr h
   ·rcases hown with h | h
    ·simp only[List.all_cons,Bool.and_eq_true] at h;exact .inl h.2
    ·exact .inr h
  ·cases h
theorem A9v{i i' : It}{o:List Prop}(h:A9u m i=some (o,i'))(hs:i.size=1):i'.size=1:=by
  unfold A9u at h;split at h
  all_goals first
    | (cases h;exact hs)
    | (repeat' split at h
       all_goals first | (cases h;rfl) | cases h)
    | cases h
theorem Di(hm:P0 x m)(hsub:∀q e,m' q=some e->m q=some e)(hw:y.w=x.w)(hF:∀b,x.F b->y.F b):∀{l l' : List SV} {vs:List Value} {o:List Prop},
  ((l.all A5k=true)∨∀p,x.k p = .real->y.F (x.β p))->J7 x l vs->MZ m' l=some (o,l')->A5 o->J7 y l' vs:=by
 intro l;induction l with
 | nil=>intro l' vs o _ hd h _;simp [MZ] at h;obtain ⟨_,rfl⟩:=h;cases hd;exact .nil
 | cons s l ih=>
  intro l' vs o hown hd h ho
  cases hd with
  | cons h1 h2=>
   simp only[MZ] at h;split at h
   ·rename_i o1 s' o2 l'' hs hl
    cases h
    have ho:=D7.1 ho;refine .cons ?_ (ih (by
     rcases hown with h | h
     ·simp only[List.all_cons,Bool.and_eq_true] at h;exact .inl h.2
     ·exact .inr h) h2 hl ho.2)
    unfold D5n at hs;split at hs
    ·rename_i i
     split at hs
     ·rename_i oi ii hi
      cases hs
      refine ⟨A9v hi h1.1,QM hm hsub hw hF ?_ h1.2 hi ho.1⟩
      rcases hown with h | h
      ·simp only[List.all_cons,Bool.and_eq_true] at h;exact .inl h.1
      ·exact .inr h
     ·cases hs
    ·rename_i li
     split at hs
     ·rename_i oi ii hi
      cases hs
      obtain ⟨cs,e,hc⟩:=h1;refine ⟨cs,e,MY hm hsub hw hF ?_ hc hi ho.1⟩
      rcases hown with h | h
      ·simp only[List.all_cons,Bool.and_eq_true] at h;exact .inl h.1
      ·exact .inr h
     ·cases hs
    ·cases hs
   ·cases h
theorem B2u{p:Nat}(hw:y.w=x.w)(hk:∀q,x.k q ≠ .no->y.k (p+q)=x.k q)(hβ:∀q,x.k q = .real->y.β (p+q)=x.β q){i:It}(hF:(∀b,x.F b->y.F b)∨Dz i=true) :
  ∀(d:Nat) (vs:List Value),F8 x d i vs->F8 y d (Ix p i) vs:=by
 intro d vs h;by_cases hfree:F4 i=true∧∀b,x.F b->y.F b
 ·have h' := OD hw hfree.2 d i vs hfree.1 h
  cases i
  case clo f c=>cases c with
   | nil=>exact h'
   | cons a l=>cases hfree.1
  all_goals first | exact h' | cases hfree.1
 ·cases i
  case sv q lo len es=>
   cases d<;>simp only[F8,Ix] at h ⊢ <;>
   ·rcases h with h | ⟨h1,h2⟩
    ·exact .inl h
    ·refine .inr ⟨(hk q (by simp [h1])).trans h1,?_⟩
     rw[hβ q h1];exact h2
  case slc q off len es=>
   cases d<;>simp only[F8,Ix] at h ⊢ <;>
   ·rcases h with ⟨h1,h2⟩ | ⟨h1,h2⟩
    ·exact .inl ⟨(hk q (by simp [h1])).trans h1,h2⟩
    ·refine .inr ⟨(hk q (by simp [h1])).trans h1,?_⟩
     rw[hβ q h1,hw];exact h2
  case ptr q off=>
   cases d<;>simp only[F8,Ix] at h ⊢<;>exact ⟨(hk q (by simp [h.1])).trans h.1,by rw[hβ q h.1];exact h.2⟩
  case ep q es j off=>
   cases d<;>simp only[F8,Ix] at h ⊢<;>exact ⟨(hk q (by simp [h.1])).trans h.1,by rw[hβ q h.1];exact h.2⟩
  case mp q=>
   cases d<;>simp only[F8,Ix] at h ⊢<;>exact ⟨(hk q (by simp [h.1])).trans h.1,by rw[hβ q h.1];exact h.2⟩
  case arr q off n es=>
   cases d<;>simp only[F8,Ix] at h ⊢<;>exact ⟨(hk q (by simp [h.1])).trans h.1,by rw[hβ q h.1];exact h.2⟩
  case clo f c=>
   cases d<;>simp only[F8,Ix] at h ⊢ <;>
   ·refine ⟨fun a ha=>?_,?_⟩
    ·simp only[List.mem_map] at ha
     obtain ⟨b,hb,rfl⟩:=ha;exact (hk b.1 (by simp [h.1 b hb])).trans (h.1 b hb)
    ·rw[h.2]
     congr 3
     rw[List.map_map];exact List.map_congr_left fun c hc=>by simp only[Function.comp];rw[hβ _ (h.1 c hc)]
  case sl q=>
   rcases hF with hF | hF
   ·exact absurd ⟨rfl,hF⟩ hfree
   ·cases hF
  case vsl v q=>
   rcases hF with hF | hF
   ·exact absurd ⟨rfl,hF⟩ hfree
   ·cases hF
  case rp q i off=>
   rcases hF with hF | hF
   ·exact absurd ⟨rfl,hF⟩ hfree
   ·cases hF
  all_goals (cases d<;>exact h)
end
end
section
section
variable {P:Program} {x y:C0} {m m' : Nat->Option En}
theorem UE{p:Nat}(hw:y.w=x.w)(hk:∀q,x.k q ≠ .no->y.k (p+q)=x.k q)(hβ:∀q,x.k q = .real->y.β (p+q)=x.β q):∀{l:List It} {cs:List Value},((∀b,x.F b->y.F b)∨l.all Dz=true)->C6 x.D l cs->C6 y.D (l.map (Ix p)) cs
 | [],_,_,h=>h
 | a::l,_,hF,⟨c1,c2,e,⟨d,h1⟩,h2⟩=>by
  refine ⟨c1,c2,e,⟨d,B2u hw hk hβ ?_ d c1 h1⟩,UE hw hk hβ ?_ h2⟩
  ·rcases hF with h | h
   ·exact .inl h
   ·simp only[List.all_cons,Bool.and_eq_true] at h;exact .inr h.1
  ·rcases hF with h | h
   ·exact .inl h
   ·simp only[List.all_cons,Bool.and_eq_true] at h;exact .inr h.2
theorem C8n(p:Nat)(i:It):(Ix p i).size=i.size:=by cases i<;>rfl
theorem A3f{p:Nat}(hw:y.w=x.w)(hk:∀q,x.k q ≠ .no->y.k (p+q)=x.k q)(hβ:∀q,x.k q = .real->y.β (p+q)=x.β q){a:V1}{v:Value}(hF:(∀b,x.F b->y.F b)∨B7e a=true)(h:Dq x a v):Dq y (shV p a) v:=by
 cases a with
 | c i=>obtain ⟨h1,d,h2⟩:=h;exact ⟨(C8n p i).trans h1,d,B2u hw hk hβ hF d _ h2⟩
 | a l=>obtain ⟨cs,e,hc⟩:=h;exact ⟨cs,e,UE hw hk hβ hF hc⟩
theorem C3b{p:Nat}(hw:y.w=x.w)(hk:∀q,x.k q ≠ .no->y.k (p+q)=x.k q)(hβ:∀q,x.k q = .real->y.β (p+q)=x.β q){s:SV}{v:Value}(hF:(∀b,x.F b->y.F b)∨A5b s=true)(h:B8 x s v):B8 y (D6h p s) v:=by
 cases s with
 | v a=>exact A3f hw hk hβ hF h
 | t l=>
  obtain ⟨vs,e,hc⟩:=h;refine ⟨vs,e,?_⟩
  clear e;simp only[A5b] at hF;induction hc with
  | nil=>exact .nil
  | cons h1 _ ih=>
   refine .cons (A3f hw hk hβ ?_ h1) (ih ?_)
   ·rcases hF with h | h
    ·exact .inl h
    ·simp only[List.all_cons,Bool.and_eq_true] at h;exact .inr h.1
   ·rcases hF with h | h
    ·exact .inl h
    ·simp only[List.all_cons,Bool.and_eq_true] at h;exact .inr h.2
 | top=>trivial
theorem B2t{p:Nat}(hw:y.w=x.w)(hk:∀q,x.k q ≠ .no->y.k (p+q)=x.k q)(hβ:∀q,x.k q = .real->y.β (p+q)=x.β q){e:En}{cs:List Value}(hF:(∀b,x.F b->y.F b)∨Vz e=true)(h:C9 x e cs):C9 y (B0e p e) cs:=by
 cases e with
 | fl l=>exact UE hw hk hβ hF h
 | sq q=>
  refine ⟨h.1,fun i hi=>?_⟩
  obtain ⟨c,hc,hj⟩:=h.2 i hi;refine ⟨c,?_,hj⟩
  have hg:(q.get i).map (Ix p)=q.get i:=by
   have flat:∀(l:List (Fp×Fp×Fp)) (n k:Nat),(J9 l k n).map (Ix p)=J9 l k n:=by
    intro l n;induction n with
    | zero=>intro k;rfl
    | succ n ih=>intro k;simp only[J9,List.map_cons,ih];rfl
   cases q
   case ptt l=>exact flat _ _ _
   all_goals rfl
  rw[<-hg];refine UE hw hk hβ ?_ hc
  rcases hF with h | h
  ·exact .inl h
  ·right
   simp only[Vz] at h;have flat:∀(l:List (Fp×Fp×Fp)) (n k:Nat),(J9 l k n).all Dz=true:=by
    intro l n;induction n with
    | zero=>intro k;rfl
    | succ n ih=>intro k;simp only[J9,List.all_cons,ih];rfl
   cases q
   case ptt l=>exact flat _ _ _
   all_goals first | rfl | cases h
theorem Ko(m:Nat->Option En):∀(es:List En) (p q:Nat),H8 m (AM p es) q=if p<=q∧q-p<es.length then es[q-p]? else m q
 | [],p,q=>by simp [AM,H8]
 | e::es,p,q=>by
  simp only[AM,H8];rw[Ko _ es (p+1) q];by_cases h1:p+1<=q∧q-(p+1)<es.length
  ·rw[if_pos h1,if_pos (by simp only[List.length_cons];omega)]
   rw[show q-p=(q-(p+1))+1 from by omega,List.getElem?_cons_succ]
  ·rw[if_neg h1]
   by_cases hq:q=p
   ·subst hq;simp
   ·rw[if_neg hq,if_neg (by simp only[List.length_cons];omega)]
theorem Qo:∀(es:List En) (p q:Nat) ,p<=q->q-p<es.length->∃e,(q,e)∈AM p es
 | [],p,q,_,h=>by simp at h
 | e::es,p,q,h1,h2=>by
  by_cases hq:q=p
  ·subst hq;exact ⟨e,by simp [AM]⟩
  ·obtain ⟨e',h⟩:=Qo es (p+1) q (by omega) (by simp only[List.length_cons] at h2;omega)
   exact ⟨e',by simp [AM,h]⟩
def Z9(x:C0)(F:Nat->Prop):C0:={ w:=x.w,F:=F,k:=fun _=>.no,β:=fun _=>0 }
def I6(x y0:C0)(F:Nat->Prop)(p n:Nat):C0:=
 { w:=y0.w,F:=F,k:=fun q=>if p<=q∧q-p<n then y0.k (q-p) else x.k q,β:=fun q=>if p<=q∧q-p<n then y0.β (q-p) else x.β q }
theorem Sr(hm:P0 x m){F0 F:Nat->Prop}{y0:C0}{es:List En}{p:Nat}{r:SV}{v:Value}(ht:Tr (Z9 x F0) none y0 (fun q=>es[q]?))(hd:B8 y0 r v)
  (hp:∀q,p<=q->q-p<es.length->m q=none)
  (hF1:∀b,x.F b->F b) (hF2:∀b,F b->x.F b∨(y0.F b∧x.w.heap.size<=b)) (hF3:∀b,F b->b<y0.w.heap.size) (hF4:∀q,y0.k q = .real->¬F (y0.β q))
  (hnew:∀q,y0.k q = .real->x.w.heap.size<=y0.β q)
  (hro:(∀b,y0.F b->F b)∨(A5b r=true∧es.all Vz=true)) :
  Tr x none (I6 x y0 F p es.length) (H8 m (AM p (es.map (B0e p))))∧B8 (I6 x y0 F p es.length) (D6h p r) v:=by
 have hx0:∀q,(Z9 x F0).k q = .no:=fun _=>rfl
 have blk:∀b,b<x.w.heap.size->y0.w.heap[b]? = x.w.heap[b]? := fun b hb=>ht.blk b hb (fun q hq=>by cases hq)
 have inlen:∀q,y0.k q ≠ .no->q<es.length:=by
  intro q hq;rcases Nat.lt_or_ge q es.length with h | h
  ·exact h
  ·exact absurd ((ht.mem.dom q).1 (by simp [h])) hq
 have hk:∀q,y0.k q ≠ .no->(I6 x y0 F p es.length).k (p+q)=y0.k q:=by
  intro q hq;have:=inlen q hq
  simp only[I6];rw[if_pos (by omega),Nat.add_sub_cancel_left]
 have hβ:∀q,y0.k q = .real->(I6 x y0 F p es.length).β (p+q)=y0.β q:=by
  intro q hq;have:=inlen q (by simp [hq])
  simp only[I6];rw[if_pos (by omega),Nat.add_sub_cancel_left]
 have hold:∀q,x.k q ≠ .no->¬(p<=q∧q-p<es.length):=by
  intro q hq h;exact hq ((hm.dom q).1 (hp q h.1 h.2))
 have hsz:x.w.heap.size<=y0.w.heap.size:=ht.ext.size;have hext:Ext x (I6 x y0 F p es.length):=by
  refine ⟨hsz,fun b hb=>⟨hF1 b hb,blk b (hm.fw b hb)⟩,fun q hq=>?_,fun q hq=>?_,fun q hq cs ty hc=>?_⟩
  ·simp only[I6];rw[if_neg (hold q hq)]
  ·simp only[I6];rw[if_neg (hold q (by simp [hq]))]
  ·exact ⟨cs,(blk _ (hm.lt hq)).trans hc,rfl⟩
 refine ⟨⟨hext,?_,ht.os,ht.tape,ht.output,fun b hb _=>blk b hb,fun q hq=>?_,fun b hb=>?_⟩,C3b (x:=y0) (y:=I6 x y0 F p es.length) rfl hk hβ (hro.imp (fun h=>h) (fun h=>h.1)) hd⟩
 ·have hset:∀q,H8 m (AM p (es.map (B0e p))) q=if p<=q∧q-p<es.length then (es[q-p]?).map (B0e p) else m q:=by
   intro q;rw[Ko];simp
  refine ⟨fun q=>?_,fun q l hq=>?_,fun q s hq hn=>?_,fun q e' hq hr=>?_,fun q q' hq hq' he=>?_,fun q hq=>?_,fun b hb=>hF3 b hb⟩
  ·rw[hset]
   by_cases h:p<=q∧q-p<es.length
   ·simp only[I6];rw[if_pos h,if_pos h,Option.map_eq_none_iff];exact ht.mem.dom (q-p)
   ·simp only[I6];rw[if_neg h,if_neg h];exact hm.dom q
  ·rw[hset] at hq
   by_cases h:p<=q∧q-p<es.length
   ·rw[if_pos h,Option.map_eq_some_iff] at hq
    obtain ⟨e,he,hs⟩:=hq;simp only[I6];rw[if_pos h]
    cases e with
    | fl l0=>exact ht.mem.fl _ l0 he
    | sq s=>cases hs
   ·rw[if_neg h] at hq
    simp only[I6];rw[if_neg h];exact hm.fl q l hq
  ·rw[hset] at hq
   by_cases h:p<=q∧q-p<es.length
   ·rw[if_pos h,Option.map_eq_some_iff] at hq
    obtain ⟨e,he,hs⟩:=hq;simp only[I6] at hn;rw[if_pos h] at hn
    cases e with
    | fl l0=>cases hs
    | sq s0=>cases hs;exact ht.mem.nil _ _ he hn
   ·rw[if_neg h] at hq
    simp only[I6] at hn;rw[if_neg h] at hn;exact hm.nil q s hq hn
  ·rw[hset] at hq
   by_cases h:p<=q∧q-p<es.length
   ·rw[if_pos h,Option.map_eq_some_iff] at hq
    obtain ⟨e,he,rfl⟩:=hq;simp only[I6] at hr;rw[if_pos h] at hr;obtain ⟨cs,ty,hc,hd⟩:=ht.mem.ent _ _ he hr;refine ⟨cs,ty,by simp only[I6];rw[if_pos h];exact hc,B2t (x:=y0) (y:=I6 x y0 F p es.length) rfl hk hβ (hro.imp (fun h=>h) (fun h=>?_)) hd⟩
    exact List.all_eq_true.1 h.2 _ (List.mem_of_getElem? he)
   ·rw[if_neg h] at hq
    simp only[I6] at hr;rw[if_neg h] at hr;obtain ⟨cs,ty,hc,hd⟩:=hm.ent q e' hq hr;refine ⟨cs,ty,?_,K8 hext hd⟩
    simp only[I6];rw[if_neg h];exact (blk _ (hm.lt hr)).trans hc
  ·simp only[I6] at hq hq' he
   by_cases h:p<=q∧q-p<es.length<;>by_cases h' : p<=q' ∧ q' - p<es.length
   ·rw[if_pos h] at hq he;rw[if_pos h'] at hq' he
    have:=ht.mem.inj _ _ hq hq' he;omega
   ·rw[if_pos h] at hq he;rw[if_neg h'] at hq' he
    have:=hnew _ hq;have:=hm.lt hq';omega
   ·rw[if_neg h] at hq he;rw[if_pos h'] at hq' he
    have:=hnew _ hq';have:=hm.lt hq;omega
   ·rw[if_neg h] at hq he;rw[if_neg h'] at hq' he
    exact hm.inj _ _ hq hq' he
  ·simp only[I6] at hq ⊢
   by_cases h:p<=q∧q-p<es.length
   ·rw[if_pos h] at hq ⊢;exact hF4 _ hq
   ·rw[if_neg h] at hq ⊢
    intro hF;rcases hF2 _ hF with h1 | h1
    ·exact hm.own q hq h1
    ·have:=hm.lt hq;omega
 ·simp only[I6] at hq ⊢
  by_cases h:p<=q∧q-p<es.length
  ·rw[if_pos h] at hq ⊢;exact .inr (hnew _ hq)
  ·rw[if_neg h] at hq ⊢;exact .inl ⟨hq,rfl⟩
 ·rcases hF2 b hb with h | h
  ·exact .inl h
  ·exact .inr h.2
theorem GZ{env:D6}(hE:A7 P env)(hm:P0 x m)(hsub:∀q e,m' q=some e->m q=some e){p f:Nat}{args:List SV}{vs:List Value}(hd:J7 x args vs){r:Res}(h:BH env m' p f args=some r)(ho:A5 r.obl)
  (hp:∀q,p<=q->m' q=none) (hfresh:∀q e,(q,e)∈r.ups->m' q=none->m q=none) :
  Bl P f∧Calls P f vs.toArray x.w fun e w' => ∃v y,e = .returned v∧y.w=w' ∧ Tr x r.kill y (H8 (O5 m r.kill) r.ups)∧B8 y r.val v:=by
 unfold BH at h;split at h
 ·rename_i spec hspec
  obtain ⟨hent,hfn⟩:=hE.fn f spec hspec;split at h
  ·rename_i o as has
   split at h
   ·rename_i o' r' es hsp
    split at h
    ·rename_i hc
     simp only[Bool.and_eq_true,decide_eq_true_eq,Bool.or_eq_true] at hc
     cases h
     have ho:=D7.1 ho;have hpn:∀q,p<=q->q-p<es.length->m q=none:=by
      intro q h1 h2;obtain ⟨e,he⟩:=Qo (es.map (B0e p)) p q h1 (by simpa using h2)
      exact hfresh q e he (hp q h1)
     refine ⟨hent,?_⟩
     rcases hc.2 with hfree | hro
     ·have hd0:=Di (y:=Z9 x x.F) hm hsub rfl (fun b hb=>hb) (.inl hfree) hd has ho.1
      refine (hfn as o' r' es hsp ho.2 (Z9 x x.F) vs (fun _=>rfl) (fun b hb=>hm.fw b hb) hd0).mono fun e w' ⟨v,y0,he,hw,ht,hv⟩=>?_
      have hnew:∀q,y0.k q = .real->x.w.heap.size<=y0.β q:=fun q hq=>by
       rcases ht.fresh q hq with h | h
       ·cases h.1
       ·exact h
      obtain ⟨g1,g2⟩:=Sr (p:=p) (F:=y0.F) hm ht hv hpn (fun b hb=>(ht.ext.ro b hb).1) (fun b hb=>(ht.fnew b hb).imp (fun h=>h) (fun h=>⟨hb,h⟩)) ht.mem.fw ht.mem.own hnew (.inl fun b hb=>hb)
      exact ⟨v,I6 x y0 _ p es.length,he,hw,g1,g2⟩
     ·have hd0:=Di (y:=Z9 x (fun b=>x.F b∨∃p,x.k p = .real∧b=x.β p)) hm hsub rfl (fun b hb=>.inl hb) (.inr fun p hp=>.inr ⟨p,hp,rfl⟩) hd has ho.1
      refine (hfn as o' r' es hsp ho.2 (Z9 x _) vs (fun _=>rfl) (fun b hb=>?_) hd0).mono fun e w' ⟨v,y0,he,hw,ht,hv⟩=>?_
      ·rcases hb with hb | ⟨p,hp,rfl⟩
       ·exact hm.fw b hb
       ·exact hm.lt hp
      ·have hnew:∀q,y0.k q = .real->x.w.heap.size<=y0.β q:=fun q hq=>by
        rcases ht.fresh q hq with h | h
        ·cases h.1
        ·exact h
       obtain ⟨g1,g2⟩:=Sr (p:=p) (F:=x.F) hm ht hv hpn (fun b hb=>hb) (fun b hb=>.inl hb) (fun b hb=>Nat.lt_of_lt_of_le (hm.fw b hb) ht.ext.size) (fun q hq hF=>by have:=hnew q hq;have:=hm.fw _ hF;omega) hnew (.inr hro)
       exact ⟨v,I6 x y0 _ p es.length,he,hw,g1,g2⟩
    ·cases h
   ·cases h
  ·cases h
 ·split at h
  ·rename_i spec hspec
   obtain ⟨hent,hmu⟩:=hE.mu f spec hspec;split at h
   ·rename_i o r' ups hsp
    cases h
    exact ⟨hent,hmu args m' o r' ups hsp ho x m vs hsub hm hd⟩
   ·cases h
  ·cases h
end
end
end
end Go.Proofs.YtifiiigbedjceaaGreat
