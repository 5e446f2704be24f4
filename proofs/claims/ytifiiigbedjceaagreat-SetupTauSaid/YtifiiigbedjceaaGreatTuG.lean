/- Parts of a proof, one behind the other: FwP, FwQ. No conditions. -/
import Derived.Laws.BytesArg
import Derived.Test.YtifiiigbedjceaaGreatTuF
open Go.IntKind (wrap)
namespace Go.Proofs.YtifiiigbedjceaaGreat
noncomputable section
section
section
variable {P:Program} {x:C0} {m m' : Nat->Option En} {o:Oper} {a:Act}
theorem M6{s:Sem Value}{u:Value}{w w' : World}(h:s.run P w = .ok u w'):(do pure (.value (<-s)):Sem Next).run P w = .ok (.value u) w' := by
 simp [h]
theorem D0p{s:Sem Unit}{w w' : World}(h:s.run P w = .ok () w'):(do s;pure .skip:Sem Next).run P w = .ok .skip w' := by
 simp [h]
theorem OpS.pureV{obl:List Prop}{i:It}(hm:P0 x m)(h:∃v,(execOp a.eval o).run P x.w = .ok (.value v) x.w∧B8 x (.v (.c i)) v):OpS P o a x m ⟨obl,.v (.c i),[],none⟩:=by
 obtain ⟨v,h1,h2⟩:=h;exact OpS.pure hm h1 h2
theorem AP{r:Option (List Prop×It)}{q:Res}(h:Nn r=some q):∃obl i,r=some (obl,i)∧q=⟨obl,.v (.c i),[],none⟩:=by
 unfold Nn at h;rw[Option.map_eq_some_iff] at h;obtain ⟨⟨obl,i⟩,h1,h2⟩:=h;exact ⟨obl,i,h1,h2.symm⟩
theorem P6{ρ:Operand->SV}(hρ:∀o,B8 x (ρ o) (a.eval o)):∀(l:List Operand),J7 x (l.map ρ) (l.map a.eval)
 | []=>.nil
 | o::l=>.cons (hρ o) (P6 hρ l)
theorem EE:∀{l l' : List SV} {vs vs' : List Value},J7 x l vs->J7 x l' vs' -> J7 x (l++l') (vs++vs')
 | _,_,_,_,.nil,h=>h
 | _,_,_,_,.cons h1 h2,h=>.cons h1 (EE h2 h)
theorem WR{ρ:Operand->SV}(hρ:∀o,B8 x (ρ o) (a.eval o)):∀{l:List Operand} {cs:List (Nat×Nat)},Oq (l.map ρ)=some cs->(∀c∈cs,x.k c.1 = .real)∧l.map a.eval=cs.map fun c=>Value.pointer (some ⟨x.β c.1,c.2,none⟩)
 | [],cs,h=>by simp [Oq] at h;subst h;exact ⟨fun c hc=>(by cases hc),rfl⟩
 | o::l,cs,h=>by
  simp only[List.map_cons] at h ⊢
  unfold Oq at h;split at h
  ·rename_i heq;cases heq
  ·rename_i p off l' heq
   simp only[List.cons.injEq] at heq;obtain ⟨h1,rfl⟩:=heq;rw[Option.map_eq_some_iff] at h;obtain ⟨cs',h2,rfl⟩:=h;have hd:=hρ o;rw[h1] at hd;obtain ⟨hk,hv⟩:=GX hd;obtain ⟨g1,g2⟩:=WR hρ h2;refine ⟨fun c hc=>?_,by rw[hv,g2];rfl⟩
   rcases List.mem_cons.1 hc with rfl | hc
   ·exact hk
   ·exact g1 c hc
  ·cases h
theorem Ss(cs:List (Nat×Nat))(h:∀c∈cs,x.k c.1 = .real):J7 x (cs.map fun c=>.v (.c (.ptr c.1 c.2))) (cs.map fun c=>Value.pointer (some ⟨x.β c.1,c.2,none⟩)):=by
 induction cs with
 | nil=>exact .nil
 | cons c l ih=>exact .cons ⟨rfl,0,h c (by simp),rfl⟩ (ih fun c hc=>h c (by simp [hc]))
theorem TO(parts:Array (Nat×Operand)):(parts.map fun (p:Nat×Operand)=>(p.1,a.eval p.2)).toList=parts.toList.map fun p=>(p.1,a.eval p.2):=by simp
theorem Zl{t:Nat}{i:TyI}(ht:I2 P t i)(hag:i.agg=true)(hn:i.arr=none):∃fs,P.underlying t=some (.struct fs):=by
 have hc:=ht.chk;unfold EV at hc;split at hc
 ·rename_i inf d hi hd
  simp only[Bool.and_eq_true,beq_iff_eq,Bool.or_eq_true,and_assoc] at hc;obtain ⟨h1,h2,h3,h4,h5,h6,h7,h8⟩:=hc;rw[hag] at h3
  cases d<;>simp only[X6] at h3<;>try (cases h3;done)
  ·rw[hn] at h6;simp at h6
  ·exact ⟨_,hd⟩
 ·cases hc
theorem A6x{t:Nat}{i:TyI}(ht:I2 P t i){ρ:Operand->SV}(hρ:∀o,B8 x (ρ o) (a.eval o)){arr:Option (Nat×Nat)}
  (harr:(i.arr=none∧arr=none)∨∃n e ie,i.arr=some (n,e)∧I2 P e ie∧arr=some (n,ie.cells)) {parts:Array (Nat×Operand)} {l:List It}
  (hb:AY i.fields arr i.zero (parts.toList.map fun p=>(p.1,ρ p.2))=some l) (hag:i.agg=true) :
  ∃cells,(Instr.build t (parts.map fun (i,x)=>(i,a.eval x))).run P x.w = .ok (.agg cells) x.w∧C6 x.D l cells.toList:=by
 obtain ⟨inf,d,hinf,hdd,hsz,_,hagg,_,⟨z0,hz0,hzm,hzc,_⟩,hfl,har,hsd,_,_,_,hfd⟩:=ht.parts;have hzd:C6 x.D i.zero z0.cells.toList:=P4 (AV (d:=0) hzm);rcases harr with ⟨hn,rfl⟩ | ⟨n,e,ie,hn,hte,rfl⟩
 ·-- a struct
  obtain ⟨fs,hst⟩:=Zl ht hag hn;rw[hdd] at hst
  cases hst
  obtain ⟨hok,_⟩:=hfl fs rfl;have hplaces:∀(l:List Field) (r:List (Nat×Nat×Bool)),U9 P l r=true->l.mapM (fun f=>(P.info? f.type).map fun i=>(f.offset,i.size))=some (r.map fun f=>(f.1,f.2.1)):=by
   intro l;induction l with
   | nil=>intro r hr;cases r<;>simp [U9] at hr ⊢
   | cons f l ih=>
    intro r hr
    cases r with
    | nil=>simp [U9] at hr
    | cons g r=>
     obtain ⟨o,s,gg⟩:=g;simp only[U9,Bool.and_eq_true,beq_iff_eq] at hr;obtain ⟨⟨h1,h2⟩,h3⟩:=hr;split at h2
     ·rename_i i' d' hi' hd'
      simp only[Bool.and_eq_true,beq_iff_eq] at h2;simp [List.mapM_cons,hi',ih r h3,h1,h2.1.1]
     ·cases h2
  obtain ⟨cells,hf,hc⟩:=BV hρ (place:=((i.fields.map fun f=>(f.1,f.2.1)).toArray[·]?)) (fun j off size hp=>by simpa [NJ] using hp) parts.toList i.zero l z0.cells hb hzd
  refine ⟨cells,run_build x.w t _ cells ?_,hc⟩
  rw[TO];simp only[Program.built,hinf,hdd,hz0,hplaces _ _ hok];exact hf
 ·obtain ⟨rfl,_⟩:=har n e hn
  obtain ⟨inf',d',hi',hd',hs',_⟩:=hte.parts;obtain ⟨cells,hf,hc⟩:=BV hρ (place:=fun j=>some (j*ie.cells,ie.cells)) (fun j off size hp=>by simpa [NJ] using hp) parts.toList i.zero l z0.cells hb hzd
  refine ⟨cells,run_build x.w t _ cells ?_,hc⟩
  rw[TO];simp only[Program.built,hinf,hdd,hz0,hi',hs'];exact hf
theorem XS(k k' : IntKind)(p q:Int)(w:World):(Builtin.min2 (.int k p) (.int k' q)).run P w = .ok (.int k (if q<p then q else p)) w:=by simp [Builtin.min2]
theorem B5l(k k' : IntKind)(p q:Int)(w:World):(Builtin.max2 (.int k p) (.int k' q)).run P w = .ok (.int k (if q > p then q else p)) w:=by simp [Builtin.max2]
theorem Hj(b:Bool)(w:World):(Op.unary .not (.bool b)).run P w = .ok (.bool !b) w:=by simp [Op.unary]
theorem RS(k:IntKind)(n:Int)(w:World):(Op.unary .neg (.int k n)).run P w = .ok (.int k (k.wrap (0-n))) w:=by simp [Op.unary,Op.intArith]
theorem WZ{src dst:Nat}{i:TyI}{k' : IntKind}(ht:I2 P dst i)(hk:i.kind=some k')(k:IntKind)(n:Int)(w:World)(hs:∃d,P.underlying src=some d):(convert src dst (.int k n)).run P w = .ok (.int k' (k'.wrap n)) w:=by
 obtain ⟨inf,d,hinf,hdd,_,_,_,_,_,_,_,_,hkd,_⟩:=ht.parts
 cases hkd k' hk
 obtain ⟨d,hs⟩:=hs;simp [convert,run_underlying hdd,run_underlying hs,Conv.intToInt]
theorem A6y{src dst e:Nat}{j ie i:TyI}(hj:I2 P src j)(hs:j.slc=some e)(he:I2 P e ie)(hk:ie.kind=some .u8)(hi:I2 P dst i)(hst:i.isStr=true){l:List Int}{v:Value}(h:Src x (.u8 l) v) :
  (convert src dst v).run P x.w = .ok (.string (C0j l)) x.w:=by
 rw[C0k];obtain ⟨inf,d,hinf,hdd,_,_,_,_,_,_,_,hsd,_⟩:=hj.parts;obtain ⟨rfl,_⟩:=hsd e hs;obtain ⟨inf',d',hinf',hdd',_,_,_,_,_,_,_,_,hkd,_⟩:=he.parts
 cases hkd _ hk
 obtain ⟨a,cap,news,rfl,hl,h1,hel,hcell⟩:=h.ex;rcases hcell with h0 | ⟨b,o,rfl,hcell⟩
 ·have:l=[]:=List.eq_nil_of_length_eq_zero h0
  subst this
  cases a with
  | none=>exact run_convert_bytes_nil x.w src e hdd hdd' _ _ dst (hi.str hst)
  | some a => 
   rw[run_convert_bytes_string x.w src dst e _ _ cap hdd hdd' (hi.str hst),run_bytesToString x.w _ _ cap [] (by simp [Sq.n,loadCells,loadCellsFrom])]
   rfl
 ·refine run_convert_bytes_arg x.w src e hdd hdd' b o _ cap l rfl (fun k hk=>?_) dst (hi.str hst)
  obtain ⟨c,⟨c1,c2,e1,⟨d,h2⟩,h3⟩,hj⟩:=hel k hk;have h4:c1=[.int .u8 (l.getD k 0)]:=by cases d<;>exact h2
  subst h4;have:=hj 0 (.int .u8 (l.getD k 0)) (by rw[e1];rfl)
  refine hcell k _ ?_
  rw[<-this];congr 1
  show k=k*1+0;omega
theorem B0k{t:Nat}{i:TyI}(ht:I2 P t i)(hst:i.isStr=true)(s:ByteArray){k:IntKind}{n:Int}(h0:0<=n)(h1:n<s.size)(w:World) :
  (Instr.index t (.string s) (.int k n)).run P w = .ok (.int .u8 ((s.data.toList.getD n.toNat 0).toNat:Int)) w:=by
 have hlt:n.toNat<s.size:=by omega
 simp [Instr.index,asIntOf,run_underlying (ht.str hst),h0,hlt]
 rfl
theorem B0l{t:Nat}{i:TyI}(ht:I2 P t i)(hst:i.isStr=true)(s:ByteArray){k:IntKind}{n:Int}(h0:0<=n)(h1:n<=s.size)(w:World) :
  (Instr.sliceAt t (.string s) (some (.int k n)) none none).run P w = .ok (.string (B3b s n.toNat)) w:=by
 rw[B3c];simp [Instr.sliceAt,Instr.slice,run_underlying (ht.str hst),Instr.sliceBounds,Z8 h0 h1]
theorem A8m{l:List SV}{n:Nat}(h:Dx l=some n):∃s:ByteArray,l=[.v (.c (.val (.string s)))]∧n=s.size:=by
 unfold Dx at h;split at h
 ·cases h;exact ⟨_,rfl,rfl⟩
 ·cases h
theorem C8t{t:Nat}{i:TyI}(ht:I2 P t i)(hst:i.isStr=true)(s:ByteArray)(ty:TypeId)(w:World):(Builtin.len_ #[t] ty #[.string s]).run P w = .ok (goInt s.size) w:=by
 simp [Builtin.len_,run_underlying (ht.str hst)]
end
end
section
section
variable {P:Program} {x:C0} {m m' : Nat->Option En} {o:Oper} {a:Act}
theorem On{env:D6}{p:Nat}{f:Operand}{g:Nat}{args:List SV}{r:Res}(h:Om env m p f g args=some r):BH env m p g args=some r:=by
 unfold Om at h;split at h
 ·exact h
 ·split at h
  ·exact h
  ·cases h
theorem Oo{env:D6}(hE:A7 P env){ρ:Operand->SV}(hρ:∀o,B8 x (ρ o) (a.eval o))(hm:P0 x m)(hsub:∀q e,m' q=some e->m q=some e){p:Nat}{c:Call}{f:Operand}(hop:o.op = .call c)(hc:c.callee = .value f){g:Nat}{caps:List (Nat×Nat)}
  (hf:ρ f = .v (.c (.clo g caps))) {r:Res} (h:BH env m' p g (c.args.toList.map ρ++caps.map fun x=>.v (.c (.ptr x.1 x.2)))=some r) (ho:A5 r.obl)
  (hp:∀q,p<=q->m' q=none) (hfresh:∀q e,(q,e)∈r.ups->m' q=none->m q=none):OpS P o a x m r:=by
 have hd:=hρ f;rw[hf] at hd;obtain ⟨hk,hv⟩:=NT hd;obtain ⟨hent,hcalls⟩:=GZ hE hm hsub (EE (P6 hρ c.args.toList) (Ss caps hk)) h ho hp hfresh;refine .enter g _ ?_ hcalls
 have hargs:(c.args.toList.map a.eval++caps.map fun c=>Value.pointer (some ⟨x.β c.1,c.2,none⟩)).toArray=c.args.map a.eval++(caps.map fun c=>Value.pointer (some ⟨x.β c.1,c.2,none⟩)).toArray:=by
  apply Array.toList_inj.1;simp
 rw[hargs];have he:=hent (c.args.map a.eval++(caps.map fun c=>Value.pointer (some ⟨x.β c.1,c.2,none⟩)).toArray) x.w
 simp only[execOp,hop,resolve,hc,Deferred.ofValue,hv,Sem.run_bind,Sem.run_pure,Result.andThen_ok,invoke];simpa using he
theorem TJ{x:C0}:∀{l:List It} {os:List Ob} {cs:List Value},A5i l=some os->C6 x.D l cs->cs=O0 os
 | [],os,cs,h,hc=>by cases h;exact hc
 | i::l,os,cs,h,⟨c1,c2,e,⟨d,h1⟩,h2⟩=>by
  unfold A5i at h;split at h
  ·rename_i he;cases he
  ·rename_i o l' he
   cases he
   simp only[Option.map_eq_some_iff] at h;obtain ⟨os',h',rfl⟩:=h;have e1:c1=o.cells:=by cases d<;>exact h1
   rw[e,e1,TJ h' h2];rfl
  ·cases h
theorem A5j(x:C0):∀os:List Ob,C6 x.D (os.map It.ob) (O0 os)
 | []=>rfl
 | o::l=>⟨o.cells,O0 l,rfl,⟨0,rfl⟩,A5j x l⟩
theorem D7w{t:Nat}{os:List Ob}{v:Value}(h:B8 x (.v (.c (.ifc t os))) v):v = .iface t (.agg (O0 os).toArray):=by
 obtain ⟨_,d,h⟩:=h
 cases d<;>(simp only[F8,List.cons.injEq,and_true] at h;exact h)
theorem A8a{env:D6}(hE:A7 P env){ρ:Operand->SV}(hρ:∀o,B8 x (ρ o) (a.eval o))(hm:P0 x m)(hsub:∀q e,m' q=some e->m q=some e){p:Nat}{c:Call}{f:Operand}{name:String}(hop:o.op = .call c)(hc:c.callee = .invoke f name)
  {r:Res} (h:UZ env m' p (ρ f) name (c.args.toList.map ρ)=some r) (ho:A5 r.obl)
  (hp:∀q,p<=q->m' q=none) (hfresh:∀q e,(q,e)∈r.ups->m' q=none->m q=none):OpS P o a x m r:=by
 have hd:=hρ f;unfold UZ at h;split at h
 ·rename_i t os hf
  rw[hf] at hd;have hv:=D7w hd;split at h
  ·rename_i l hl
   split at h
   ·rename_i g hg
    split at h
    ·obtain ⟨hent,hcalls⟩:=GZ hE hm hsub (J7.cons (show B8 x (.v (.a (os.map .ob))) (.agg (O0 os).toArray) from ⟨_,rfl,A5j x os⟩) (P6 hρ c.args.toList)) h ho hp hfresh
     refine .enter g _ ?_ hcalls
     have he:=hent (#[.agg (O0 os).toArray]++c.args.map a.eval) x.w;have hi:=(hE.inv t l hl).2 name g hg (.agg (O0 os).toArray) (c.args.map a.eval) x.w;have e0:(#[Value.iface t (.agg (O0 os).toArray)]++c.args.map a.eval)[0]? = some (Value.iface t (.agg (O0 os).toArray)):=by
      rw[Array.getElem?_append_left (by simp)];rfl
     have e1:(#[Value.iface t (.agg (O0 os).toArray)]++c.args.map a.eval).extract 1 (#[Value.iface t (.agg (O0 os).toArray)]++c.args.map a.eval).size=c.args.map a.eval:=by
      apply Array.toList_inj.1
      simp
      exact List.take_of_length_le (by simp)
     have e2:#[Value.agg (O0 os).toArray]++c.args.map a.eval=(Value.agg (O0 os).toArray::c.args.toList.map a.eval).toArray:=by
      apply Array.toList_inj.1;simp
     simp only[execOp,hop,resolve,hc,hv,Sem.run_bind,Sem.run_pure,Result.andThen_ok,invoke,e0,e1];rw[hi,he,e2]
    ·cases h
   ·cases h
  ·cases h
 ·cases h
theorem B3j{env:D6}(hE:A7 P env){ρ:Operand->SV}(hρ:∀o,B8 x (ρ o) (a.eval o))(hm:P0 x m){c:Call}{f:Operand}(hop:o.op = .call c)(hc:c.callee = .value f){g k:Nat}
  (hf:ρ f = .v (.c (.clo g []))) (hk:env.ex g=some k) {r:Res} (h:OQ k (c.args.toList.map ρ)=some r) (ho:A5 r.obl):OpS P o a x m r:=by
 have hd:=hρ f;rw[hf] at hd;obtain ⟨_,hv⟩:=NT hd;unfold OQ at h;split at h
 ·rename_i u y z heq
  cases h
  have hds:=P6 hρ c.args.toList;rw[heq] at hds;obtain ⟨h1,h2,h3,h4,h5,_⟩:=ho;have hargs:c.args.map a.eval = #[.int .u64 u,.int .u64 y,.int .u64 z]:=by
   generalize hl:c.args.toList.map a.eval=l at hds;have e:c.args.map a.eval=l.toArray:=by rw[<-hl];apply Array.toList_inj.1;simp
   rw[e]
   cases hds with | cons d1 hds=>cases hds with | cons d2 hds=>cases hds with | cons d3 hds=>
   cases hds
   rw[M9 d1,M9 d2,M9 d3]
  refine OpS.pure (v:=.tuple #[.int .u64 (A3 k u y z).1,.int .u64 (A3 k u y z).2]) hm ?_ ⟨_,rfl,.cons ⟨rfl,0,rfl⟩ (.cons ⟨rfl,0,rfl⟩ .nil)⟩
  have he:=hE.ex g k hk u y z x.w h1 h2 h3 h4 h5;simp only[execOp,hop,resolve,hc,Deferred.ofValue,hv,Sem.run_bind,Sem.run_pure,Result.andThen_ok,invoke,hargs];simpa using he
 ·cases h
theorem Uj(h:P0 x m){p:Nat}(hk:x.k p = .nil){q r:Sq}(h0:r.n=0)(hq:m p=some (.sq q)):Tr x none x (H8 m [(p,.sq r)]):=by
 refine ⟨Ext.refl x,?_,rfl,rfl,rfl,fun _ _ _=>rfl,fun _ hp=>.inl ⟨hp,rfl⟩,fun _ hb=>.inl hb⟩
 rw[Et];refine ⟨fun q' => ?_,fun q' l hq' => ?_,fun q' s hq' hn=>?_,fun q' e' hq' hr=>?_,h.inj,h.own,h.fw⟩
 ·by_cases hqp:q' = p
  ·subst hqp;simp [hk]
  ·simp only[hqp,if_false];exact h.dom q'
 ·by_cases hqp:q' = p
  ·subst hqp;simp at hq'
  ·simp only[hqp,if_false] at hq';exact h.fl q' l hq'
 ·by_cases hqp:q' = p
  ·subst hqp;simp only[if_true,Option.some.injEq,En.sq.injEq] at hq';subst hq';exact h0
  ·simp only[hqp,if_false] at hq';exact h.nil q' s hq' hn
 ·by_cases hqp:q' = p
  ·subst hqp;rw[hk] at hr;cases hr
  ·simp only[hqp,if_false] at hq';exact h.ent q' e' hq' hr
theorem Zx{t t' e:Nat}{i ie:TyI}{q0:Sq}(ht:I2 P t i)(hsl:i.slc=some e)(hte:I2 P e ie)(hq0:ie.esq=some q0)(hm:P0 x m)(hsub:∀q e,m' q=some e->m q=some e)
  {s sx:SV} {v u:Value} (hs:B8 x s v) (hx:B8 x sx u) {obl:List Prop} {n:Int} {ups:List (Nat×En)} (h:ND m' q0 [s,sx]=some (obl,n,ups)) (ho:A5 obl) (ty:TypeId) :
  ∃y,(Builtin.copy_ #[t,t'] ty #[v,u]).run P x.w = .ok (.int .i64 n) y.w∧Tr x none y (H8 m ups):=by
 obtain ⟨inf,d,hinf,hdd,_,_,_,_,_,_,_,hsd,_⟩:=ht.parts;obtain ⟨rfl,_⟩:=hsd e hsl;obtain ⟨inf',d',hi',hd',hs',hb',_,_,⟨z0,hz0,_,hzc,_⟩,_,_,_,_,_,hes',_⟩:=hte.parts;obtain ⟨hes,hen⟩:=hes' q0 hq0;unfold ND at h;split at h
 ·rename_i p off len es sx' heq
  simp only[List.cons.injEq,and_true] at heq;obtain ⟨rfl,rfl⟩:=heq;split at h
  ·rename_i q hq
   split at h
   ·rename_i o q' hsrc
    split at h
    ·rename_i r hr
     split at h
     ·rename_i hc
      obtain ⟨rfl,rfl,hqe⟩:=hc
      cases h
      obtain ⟨rfl,o2,o3⟩:=ho;obtain ⟨a',cap,news,rfl,hl,h1,hel,hcell⟩:=(Ai hm hsub hen hx hsrc o3).ex;obtain ⟨g1,g2,g3,_,_⟩:=Ft hr;obtain ⟨c1,c2,c3⟩:=IN q q'.n (q.n-q'.n) (by omega)
      have hq'es:q'.es=q.es:=by rw[<-g3,c2]
      have hmin:Nat.min q'.n q.n=q'.n:=Nat.min_eq_left o2;have hfc:(Builtin.firstCells inf'.size q'.n (.slice a' q'.n cap)).run P x.w = .ok news.toArray x.w:=by
       rcases hcell with h0 | ⟨b,oo,rfl,hcell⟩
       ·have:news=[]:=List.eq_nil_of_length_eq_zero (by rw[hl,h0,Nat.zero_mul])
        subst this;rw[h0]
        cases a'<;>simp [Builtin.firstCells,loadCells,loadCellsFrom]
       ·exact run_firstCells_some (P:=P) x.w inf'.size q'.n ⟨b,oo,none⟩ q'.n cap news (by rw[hl,hq'es,hqe,hes,hs']) (fun j v hv=>by rw[Addr.add_lit];exact hcell j v hv)
      rcases CQ hs with ⟨hk,_,h0,rfl⟩ | ⟨hk,cap',cs,ty',rfl,hlc,hcm,hcs,hfit⟩
      ·have hn0:q'.n=0:=by omega
       refine ⟨x,?_,Uj hm hk (by rw[g1,c1];omega) (hsub _ _ hq)⟩
       rw[hn0] at hfc ⊢
       simp [Builtin.copy_,run_underlying hdd,Builtin.lenOf,sizeOf,typeInfo,hi',hfc,goInt]
      ·obtain ⟨cs',ty'',hcs',hden⟩:=hm.ent p _ (hsub _ _ hq) hk
       rw[hcs] at hcs'
       obtain ⟨rfl,rfl⟩:cs' = cs∧ty'' = ty' := by simp only[Option.some.injEq,Obj.cells.injEq] at hcs';exact ⟨hcs'.1.symm,hcs'.2.1.symm⟩
       have hdn:=hden.1;have hle:q'.n*q.es<=q.n*q.es:=Nat.mul_le_mul_right _ o2;have hfitn:0+0+news.length<=cs'.size:=by rw[hl,hq'es];simp at hdn;omega
       have hst:=run_storeCells_at P (x.β p) 0 ty'' news 0 cs' x.w hcs hfitn h1;simp only[Nat.add_zero,List.take_zero,List.nil_append,Nat.zero_add] at hst;refine ⟨Ar x p (news++cs'.toList.drop news.length).toArray,?_,Rl hm hk hcs ?_ _ ?_⟩
       ·simp [Builtin.copy_,run_underlying hdd,Builtin.lenOf,sizeOf,typeInfo,hi',hmin,hfc,hst,goInt,Ar]
       ·simp only[List.size_toArray,List.length_append,List.length_drop,Array.length_toList];omega
       ·-- the rows
        have hlc' : ((cs'.toList.drop news.length).take ((q.n-q'.n)*q.es)).length=(q.n-q'.n)*q.es:=by
         rw[List.length_take,List.length_drop,hl,hq'es,Nat.sub_mul];simp only[Array.length_toList] at hdn ⊢
         omega
        have hj:=KZ (y:=x) (q:=q') (q' := q.cut q'.n (q.n-q'.n)) hr (olds:=news) (news:=(cs'.toList.drop news.length).take ((q.n-q'.n)*q.es)) (tail:=(cs'.toList.drop news.length).drop ((q.n-q'.n)*q.es)) hl (by rw[c1,c2];exact hlc') hel (fun i hi=>by
         rw[c1] at hi;obtain ⟨c,dd,hc,hlen,hf,hcc⟩:=V6 hden (i:=q'.n+i) (by omega)
         refine ⟨c,by rw[c3 i hi];exact P4 hc,fun j v hv=>?_⟩
         have hjl:j<q.es:=by
          rcases Nat.lt_or_ge j c.length with hh | hh
          ·omega
          ·rw[List.getElem?_eq_none hh] at hv;cases hv
         have hlt:i*q.es+j<(q.n-q'.n)*q.es:=by
          have:=Nat.mul_le_mul_right q.es (show i+1<=q.n-q'.n by omega)
          rw[Nat.add_mul,Nat.one_mul] at this;omega
         rw[c2,List.getElem?_take_of_lt hlt,List.getElem?_drop,hl,hq'es,<-hcc j v hv];congr 1
         rw[Nat.add_mul];omega)
        rw[List.append_assoc,List.take_append_drop] at hj;simpa using hj
     ·cases h
    ·cases h
   ·cases h
  ·rename_i l hl
   split at h
   ·rename_i o ns hrd
    split at h
    ·rename_i r hr
     split at h
     ·rename_i hc
      obtain ⟨rfl,hqe,rfl⟩:=hc
      cases h
      have hd' : B8 (Z9 x fun b=>x.F b∨∃p,x.k p = .real∧b=x.β p) (.v (.c (.sl (.u64 ns)))) u:=by
       have hrd' : MZ m' [sx]=some (obl++[],[.v (.c (.sl (.u64 ns)))]):=by simp [MZ,hrd]
       have:=Di (y:=Z9 x fun b=>x.F b∨∃p,x.k p = .real∧b=x.β p) hm hsub rfl (fun b hb=>.inl hb) (.inr fun p hp=>.inr ⟨p,hp,rfl⟩) (.cons hx .nil) hrd' (D7.2 ⟨ho,C4⟩)
       cases this with
       | cons h1 _=>exact h1
      have hk:=hm.fl p l (hsub _ _ hl);have hes1:inf'.size=1:=by rw[hs',<-hes];exact hqe
      have hsrc:∃a' cap,u = .slice a' ns.length cap∧(Builtin.firstCells inf'.size ns.length (.slice a' ns.length cap)).run P x.w = .ok (ns.map fun n=>Value.int .u64 n).toArray x.w:=by
       rcases A6m hd' with ⟨a',cap,rfl,h0⟩ | ⟨b,oo,cap,rfl,_,_,d,hg⟩
       ·have h0:ns.length=0:=h0
        have:ns=[]:=List.eq_nil_of_length_eq_zero h0
        subst this;exact ⟨a',cap,rfl,by cases a'<;>simp [Builtin.firstCells,loadCells,loadCellsFrom]⟩
       ·refine ⟨some ⟨b,oo,none⟩,cap,rfl,?_⟩
        refine run_firstCells_some (P:=P) x.w inf'.size ns.length ⟨b,oo,none⟩ ns.length cap (ns.map fun n=>Value.int .u64 n) (by rw[hes1];simp) (fun j v hv=>?_)
        rw[Addr.add_lit];have hj:j<ns.length:=by
         have:=(List.getElem?_eq_some_iff.1 hv).1
         simpa using this
        obtain ⟨cs,h1,h2⟩:=hg j hj;obtain ⟨c1,c2,e1,h3,h4⟩:=h1;have h3:c1=[.int .u64 (ns.getD j 0)]:=by cases d<;>exact h3
        have h4:c2=[]:=h4;subst h3 h4 e1;have:=h2.2 0 _ rfl
        simp only[Sq.es,Nat.mul_one,Nat.add_zero] at this;rw[List.getElem?_map,List.getElem?_eq_getElem hj] at hv;simp only[Option.map_some,Option.some.injEq] at hv;rw[<-hv];have this:x.w.cell? ⟨b,oo+j,none⟩=some (.int .u64 (ns.getD j 0)):=this;simpa [List.getD,hj] using this
      obtain ⟨a',cap,rfl,hfc⟩:=hsrc;rcases CQ hs with ⟨hk',_⟩ | ⟨_,cap',cs,ty',rfl,hlc,hcm,hcs,hfit⟩
      ·rw[hk'] at hk;cases hk
      ·obtain ⟨cs',ty'',hcs',hden⟩:=hm.ent p _ (hsub _ _ hl) hk
       rw[hcs] at hcs'
       obtain ⟨rfl,rfl⟩:cs' = cs∧ty'' = ty' := by simp only[Option.some.injEq,Obj.cells.injEq] at hcs';exact ⟨hcs'.1.symm,hcs'.2.1.symm⟩
       obtain ⟨d,hden⟩:=M3 hden;have hcn:∀ns:List Int,C6 (F8 x d) (ns.map fun n=>It.int .u64 n) (ns.map fun n=>Value.int .u64 n):=by
        intro ns;induction ns with
        | nil=>rfl
        | cons n ns ih=>exact ⟨[.int .u64 n],_,rfl,by cases d<;>rfl,ih⟩
       obtain ⟨hp,hfit'⟩:=BO hr (hcn ns) hden;have hst:=run_storeCells_at P (x.β p) off ty'' (ns.map fun n=>Value.int .u64 n) 0 cs' x.w hcs (by simpa using hfit') (fun v hv=>by
        simp only[List.mem_map] at hv;obtain ⟨_,_,rfl⟩:=hv;rfl)
       simp only[Nat.add_zero] at hst;refine ⟨Ar x p (cs'.toList.take off++(ns.map fun n=>Value.int .u64 n)++cs'.toList.drop (off+(ns.map fun n=>Value.int .u64 n).length)).toArray,?_,Rl hm hk hcs ?_ _ (P4 hp)⟩
       ·simp [Builtin.copy_,run_underlying hdd,Builtin.lenOf,sizeOf,typeInfo,hi',hfc,hst,goInt,Ar]
       ·simp only[List.size_toArray,List.length_append,List.length_take,List.length_drop,Array.length_toList] at hfit' ⊢;omega
     ·cases h
    ·cases h
   ·cases h
  ·cases h
 ·cases h
theorem WW{t e:Nat}{i ie:TyI}{q0:Sq}(ht:I2 P t i)(hsl:i.slc=some e)(hte:I2 P e ie)(hq0:ie.esq=some q0)(hm:P0 x m)(hsub:∀q e,m' q=some e->m q=some e)
  {s:SV} {v:Value} (hs:B8 x s v) {obl:List Prop} {ups:List (Nat×En)} (h:IM m' q0 [s]=some (obl,ups)) (ho:A5 obl) (ty:TypeId) :
  ∃u y,(Builtin.clear_ #[t] ty #[v]).run P x.w = .ok u y.w∧Tr x none y (H8 m ups):=by
 obtain ⟨inf,d,hinf,hdd,_,_,_,_,_,_,_,hsd,_⟩:=ht.parts;obtain ⟨rfl,_⟩:=hsd e hsl;obtain ⟨inf',d',hi',hd',hs',hb',_,_,⟨z0,hz0,hzm,hzc,_⟩,_,_,_,_,_,hes',_⟩:=hte.parts;obtain ⟨hes,hen⟩:=hes' q0 hq0;unfold IM at h;split at h
 ·rename_i p off len es heq
  simp only[List.cons.injEq,and_true] at heq;subst heq;split at h
  ·rename_i q hq
   split at h
   ·rename_i z hz
    split at h
    ·rename_i hc
     obtain ⟨rfl,rfl,hqe⟩:=hc
     cases h
     obtain ⟨rfl,_⟩:=ho;obtain ⟨z1,z2,_⟩:=RE hz;rcases CQ hs with ⟨hk,_,h0,rfl⟩ | ⟨hk,cap',cs,ty',rfl,hlc,hcm,hcs,hfit⟩
     ·refine ⟨.tuple #[],x,?_,Uj hm hk (by omega) (hsub _ _ hq)⟩
      simp [Builtin.clear_,run_underlying hdd]
     ·by_cases hn:q.n=0
      ·obtain ⟨cs',ty'',hcs',hden⟩:=hm.ent p _ (hsub _ _ hq) hk
       have htr:=Rl hm hk hcs (cs:=cs) rfl (.sq z) ⟨by rw[z1,hn];simp,fun i hi=>by omega⟩
       refine ⟨.tuple #[],_,?_,htr⟩
       rw[hn];simp [Builtin.clear_,run_underlying hdd,Ar,setRow_self x.w _ cs ty' (0,0) hcs]
      ·obtain ⟨cs',ty'',hcs',hden⟩:=hm.ent p _ (hsub _ _ hq) hk
       rw[hcs] at hcs'
       obtain ⟨rfl,rfl⟩:cs' = cs∧ty'' = ty' := by simp only[Option.some.injEq,Obj.cells.injEq] at hcs';exact ⟨hcs'.1.symm,hcs'.2.1.symm⟩
       have hdn:=hden.1;have hzl:(Builtin.zeroCells z0.cells q.n).toList.length=q.n*q.es:=by simp [size_zeroCells,hzc,hqe,hes]
       have hzone:=Fz (AV (x:=x) (d:=0) hzm);have hone:∀u∈(Builtin.zeroCells z0.cells q.n).toList,u.oneCell' = true:=by
        intro u hu;simp only[Builtin.zeroCells,Array.toList_map,List.mem_map,Array.toList_range,List.mem_range] at hu;obtain ⟨j,hj,rfl⟩:=hu;have hpos:0<z0.cells.size:=by
         rcases Nat.eq_zero_or_pos z0.cells.size with h0 | h0
         ·rw[h0,Nat.mul_zero] at hj;omega
         ·exact h0
        have hlt:=Nat.mod_lt j hpos;refine hzone _ ?_
        rw[getElem!_pos z0.cells _ hlt];exact Array.getElem_mem_toList hlt
       have hrun:∀(n:Nat) (w' : World),n≠0->(storeCells ⟨x.β p,0,none⟩ (Builtin.zeroCells z0.cells n).toList).run P x.w = .ok () w' -> (Builtin.clear_ #[t] ty #[.slice (some ⟨x.β p,0,none⟩) n cap']).run P x.w = .ok (.tuple #[]) w' := by
        intro n w' hn0 hst
        cases n with
        | zero=>exact absurd rfl hn0
        | succ n=>simp [Builtin.clear_,run_underlying hdd,zeroValue,typeInfo,hi',hz0,hst]
       have hst:=run_storeCells_at P (x.β p) 0 ty'' (Builtin.zeroCells z0.cells q.n).toList 0 cs' x.w hcs (by rw[hzl];simp at hdn;omega) hone
       simp only[Nat.add_zero,List.take_zero,List.nil_append,Nat.zero_add] at hst;refine ⟨.tuple #[],Ar x p ((Builtin.zeroCells z0.cells q.n).toList++cs'.toList.drop (Builtin.zeroCells z0.cells q.n).toList.length).toArray,?_,Rl hm hk hcs ?_ _ ?_⟩
       ·exact hrun q.n _ hn hst
       ·simp only[List.size_toArray,List.length_append,List.length_drop,Array.length_toList];simp at hzl hdn;omega
       ·refine Uo hte hq0 hz (z0:=z0) (by simp [hi',hz0]) ?_ fun j hj=>?_
        ·simp only[List.length_append,hzl,<-hqe];omega
        ·rw[<-hqe,<-hzl] at hj
         rw[List.getElem?_append_left hj,List.getElem?_eq_getElem hj];simp [Builtin.zeroCells]
    ·cases h
   ·cases h
  ·cases h
 ·cases h
theorem Hr{s:SV}{l:List SV}{vs:List Value}(h:J7 x (s::l) vs):∃v vs',vs=v::vs' ∧ B8 x s v∧J7 x l vs' := by
 cases h with
 | cons h1 h2=>exact ⟨_,_,rfl,h1,h2⟩
theorem Ab{s:SV}{vs:List Value}(h:J7 x [s] vs):∃v,vs=[v]∧B8 x s v:=by
 obtain ⟨v,vs',rfl,h1,h2⟩:=Hr h
 cases h2
 exact ⟨v,rfl,h1⟩
theorem Gv{s s' : SV}{vs:List Value}(h:J7 x [s,s'] vs):∃v v',vs=[v,v']∧B8 x s v∧B8 x s' v' := by
 obtain ⟨v,vs',rfl,h1,h2⟩:=Hr h;obtain ⟨v',rfl,h3⟩:=Ab h2;exact ⟨v,v',rfl,h1,h3⟩
theorem Xc{s s' s'' : SV}{vs:List Value}(h:J7 x [s,s',s''] vs):∃v v' v'',vs=[v,v',v'']∧B8 x s v∧B8 x s' v' ∧ B8 x s'' v'' := by
 obtain ⟨v,vs',rfl,h1,h2⟩:=Hr h;obtain ⟨v',v'',rfl,h3,h4⟩:=Gv h2;exact ⟨v,v',v'',rfl,h1,h3,h4⟩
theorem Q4{c:Call}{b:Builtin}(hop:o.op = .call c)(hcal:c.callee = .builtin b){u:Value}{w' : World}{args:List Value}(ha:c.args.toList.map a.eval=args){tys:List Nat}(ht:c.argTypes.toList=tys)
  (h:(builtin b tys.toArray o.type (c.args.map fun | .const _=>true | _=>false) args.toArray).run P x.w = .ok (.value u) w'):(execOp a.eval o).run P x.w = .ok (.value u) w' := by
 have hargs:c.args.map a.eval=args.toArray:=by apply Array.toList_inj.1;simp [ha]
 have htys:c.argTypes=tys.toArray:=by apply Array.toList_inj.1;simp [ht]
 simp only[execOp,hop,resolve,hcal,Sem.run_bind,Sem.run_pure,Result.andThen_ok,invoke,hargs,htys];exact h
theorem Yj{env:D6}(hE:A7 P env){ρ:Operand->SV}(hρ:∀o,B8 x (ρ o) (a.eval o))(hm:P0 x m)(hsub:∀q e,m' q=some e->m q=some e){p:Nat}{r:Res}(h:I8 env ρ m' p o=some r)(ho:A5 r.obl)
  (hp:∀q,p<=q->m' q=none) (hfresh:∀q e,(q,e)∈r.ups->m' q=none->m q=none):OpS P o a x m r:=by
 unfold I8 at h
 cases hop:o.op<;>simp only[hop] at h
 case move v=>cases h;exact OpS.pure hm (by simp [execOp,hop]) (hρ v)
 case assign v=>cases h;exact OpS.pure hm (by simp [execOp,hop]) (hρ v)
 case pick c u v=>
  split at h
  ·rename_i d hd
   cases h
   have hc:=hρ c;rw[hd] at hc;have hb:=WN hc;refine OpS.pure (v:=if d then a.eval u else a.eval v) hm (by simp [execOp,hop,hb,asBool]) ?_
   cases d
   ·exact hρ v
   ·exact hρ u
  ·cases h
 case alloc t=>
  split at h
  ·rename_i i hi
   cases h
   obtain ⟨cells,ty,hr,hd⟩:=A6p (hE.ty t i hi) x.w;have hpn:m p=none:=hfresh p (.fl i.zero) (by simp) (hp p (Nat.le_refl _))
   refine .value _ (D8 x p (.cells cells ty)) (by simp only[execOp,hop];exact M6 hr) (Kv hm hpn cells ty _ (hd x)) ?_
   exact ⟨rfl,0,by simp [D8],by simp [D8]⟩
  ·cases h
 case makeInterface t v=>
  split at h
  ·rename_i l hl
   split at h
   ·rename_i ms os hms hos
    cases h
    have hd:=hρ v;rw[hl] at hd;obtain ⟨cs,hu,hc⟩:=hd;refine OpS.pure hm (by simp only[execOp,hop];exact M6 (run_makeInterface x.w t _ (hE.inv t ms hms).1)) ⟨rfl,0,?_⟩
    simp only[F8];rw[hu,TJ hos hc]
   ·cases h
  ·cases h
 case box t v=>
  split at h
  ·rename_i sv hv
   cases h
   have hd:=hρ v;rw[hv] at hd;obtain ⟨cs,hu,hc⟩:=EF hd;have hpn:m p=none:=hfresh p (.fl sv.its) (by simp) (hp p (Nat.le_refl _))
   refine .value _ (D8 x p (.cells (a.eval v).cells t)) (by simp only[execOp,hop];exact M6 (C2n t _ x.w)) (Kv hm hpn _ t _ (by rw[hu];exact hc)) ?_
   exact ⟨rfl,0,by simp [D8],by simp [D8]⟩
  ·cases h
 case build t parts=>
  split at h
  ·rename_i i hi
   split at h
   ·rename_i arr harr
    split at h
    ·rename_i l hl
     split at h
     ·rename_i hag
      cases h
      have harr' : (i.arr=none∧arr=none)∨∃n e ie,i.arr=some (n,e)∧I2 P e ie∧arr=some (n,ie.cells):=by
       split at harr
       ·rename_i n e hne
        rw[Option.map_eq_some_iff] at harr;obtain ⟨ie,hie,rfl⟩:=harr;exact .inr ⟨n,e,ie,hne,hE.ty e ie hie,rfl⟩
       ·rename_i hne
        cases harr
        exact .inl ⟨hne,rfl⟩
      obtain ⟨cells,hr,hc⟩:=A6x (hE.ty t i hi) hρ harr' hl hag;refine OpS.pure hm (by simp only[execOp,hop];exact M6 hr) ⟨cells.toList,by simp,Oe (z:=i.zero) rfl ho hc⟩
     ·cases h
    ·cases h
   ·cases h
  ·cases h
 case buildSlice t len parts=>
  split at h
  ·rename_i i hi
   split at h
   ·rename_i e he
    split at h
    ·rename_i ie hie
     split at h
     ·rename_i q0 its hq0 hits
      split at h
      ·rename_i hc
       split at h
       ·rename_i q' hq'
        cases h
        obtain ⟨cells,hr,hden,hsz,hqn,hqe⟩:=Ol (hE.ty t i hi) he (hE.ty e ie hie) hq0 hρ hits hq' hc.1 hc.2.1;have hpn:m p=none:=hfresh p (.sq q') (by simp) (hp p (Nat.le_refl _))
        refine .value _ (D8 x p (.cells cells e)) (by simp only[execOp,hop];exact M6 hr) (Kv hm hpn cells e _ hden) ?_
        refine ⟨rfl,0,.inr ⟨by simp [D8],len,cells,e,by simp [D8],Nat.le_refl _,by simp only[maxLen];omega,?_,by omega⟩⟩
        simp only[D8,if_true];exact heap_alloc_new x.w _
       ·cases h
      ·cases h
     ·cases h
    ·cases h
   ·cases h
  ·cases h
 case load t ad=>
  split at h
  ·rename_i i hi
   split at h
   ·rename_i ob v hv
    cases h
    obtain ⟨u,hr,hd⟩:=He (hE.ty t i hi) hm hsub (hρ ad) hv ho;exact OpS.pure hm (by simp only[execOp,hop];exact M6 hr) hd
   ·cases h
  ·cases h
 case store t ad v=>
  split at h
  ·rename_i i hi
   split at h
   ·rename_i ob ups hv
    cases h
    obtain ⟨y,hr,ht⟩:=QW (hE.ty t i hi) hm hsub (hρ ad) (hρ v) hv ho;exact .skip y rfl (by simp only[execOp,hop];exact D0p hr) ht
   ·cases h
  ·cases h
 case nilCheck v=>
  have hd:=hρ v;split at h
  ·rename_i q off hv
   cases h
   rw[hv] at hd;obtain ⟨hk,he⟩:=GX hd;exact OpS.pure hm (by simp [execOp,hop,he]) (he ▸ hd)
  ·rename_i q es i off hv
   cases h
   rw[hv] at hd;obtain ⟨hk,he⟩:=A6l hd;exact OpS.pure hm (by simp [execOp,hop,he]) (he ▸ hd)
  ·rename_i q i off hv
   cases h
   rw[hv] at hd;obtain ⟨b,oo,cs,d,he,_⟩:=B1c hd;exact OpS.pure hm (by simp [execOp,hop,he]) (he ▸ hd)
  ·cases h
 case binOp op t u v k=>
  obtain ⟨obl,i,hb,rfl⟩:=AP h;obtain ⟨z,hr,hd⟩:=Ux hE hb ho (hρ u) (hρ v) u v;exact OpS.pure hm (by simp only[execOp,hop];exact M6 hr) hd
 case unOp op t v=>
  have hd:=hρ v;split at h
  ·rename_i b hv
   cases h
   rw[hv] at hd;exact OpS.pure hm (by simp only[execOp,hop,WN hd];exact M6 (Hj b x.w)) (NF _)
  ·rename_i b hv
   cases h
   rw[hv] at hd;exact OpS.pure hm (by simp only[execOp,hop,NS hd];exact M6 (Hj b x.w)) (BW _)
  ·rename_i k n hv
   cases h
   rw[hv] at hd;exact OpS.pure hm (by simp only[execOp,hop,M9 hd];exact M6 (RS k n x.w)) (J8 _ _)
  ·cases h
 case convert src dst v=>
  split at h
  ·rename_i is i hs hi
   split at h
   ·split at h
    ·rename_i k n hv
     split at h
     ·rename_i k' hk
      cases h
      have hd:=hρ v;rw[hv] at hd;obtain ⟨_,ds,_,hds,_⟩:=(hE.ty src is hs).parts;exact OpS.pure hm (by simp only[execOp,hop,M9 hd];exact M6 (WZ (hE.ty dst i hi) hk k n x.w ⟨ds,hds⟩)) (J8 _ _)
     ·cases h
    ·cases h
   ·rename_i e he
    split at h
    ·rename_i ie hie
     split at h
     ·rename_i hk
      split at h
      ·rename_i hst
       split at h
       ·rename_i ob l hsrc
        cases h
        have hsr:=Ai hm hsub (e:=.u8 []) rfl (hρ v) hsrc ho;exact OpS.pure hm (by simp only[execOp,hop];exact M6 (A6y (hE.ty src is hs) he (hE.ty e ie hie) hk (hE.ty dst i hi) hst hsr)) ⟨rfl,0,rfl,rfl⟩
       ·cases h
      ·cases h
     ·cases h
    ·cases h
  ·cases h
 case makeFunc fn first caps=>
  split at h
  ·rename_i f cs hfirst hcaps
   cases h
   obtain ⟨h1,h2⟩:=WR hρ hcaps;have hf:first = #[]:=by apply Array.size_eq_zero_iff.1;exact hfirst
   subst hf;refine OpS.pure (v:=.func (.func f) #[] (caps.map a.eval)) hm (by simp [execOp,hop,Instr.makeFunc]) ⟨rfl,0,h1,?_⟩
   rw[<-h2];have:caps.map a.eval=(caps.toList.map a.eval).toArray:=by apply Array.toList_inj.1;simp
   rw[this]
  ·cases h
 case makeSlice t l c=>
  split at h
  ·rename_i i k n k' n' hi hl hc
   split at h
   ·rename_i e he
    split at h
    ·rename_i ie hie
     split at h
     ·rename_i q hq
      split at h
      ·rename_i z hz
       cases h
       obtain ⟨h0,h1,h2,h3,_⟩:=ho;subst h1;have hdl:=hρ l;have hdc:=hρ c;rw[hl] at hdl;rw[hc] at hdc;obtain ⟨cells,hr,hden,hsz⟩:=RL (x:=x) (hE.ty t i hi) he (hE.ty e ie hie) hq (k:=k) (k' := k') h0 h2 h3 hz;have hpn:m p=none:=hfresh p (.sq z) (by simp) (hp p (Nat.le_refl _))
       refine .value _ (D8 x p (.cells cells e)) (by simp only[execOp,hop,M9 hdl,M9 hdc];exact M6 hr) (Kv hm hpn cells e _ hden) ?_
       refine ⟨rfl,0,.inr ⟨by simp [D8],n.toNat,cells,e,by simp [D8],Nat.le_refl _,by simp only[maxLen];omega,?_,by omega⟩⟩
       simp only[D8,if_true];exact heap_alloc_new x.w _
      ·cases h
     ·cases h
    ·cases h
   ·cases h
  ·cases h
 case slice t v lo hi mx=>
  split at h
  ·rename_i i hh mm hi' hlo hhi hmx
   split at h
   ·rename_i e q ha hs hq
    split at h
    ·rename_i ie hie
     split at h
     ·rename_i hes
      cases h
      obtain ⟨h0,h1,h2,_⟩:=ho;have hd:=hρ v;rw[hq] at hd;rcases Cf hρ hlo with ⟨_,hl⟩ | ⟨_,_,hl,_⟩
      ·rcases Cf hρ hhi with ⟨hl',_⟩ | ⟨n2,k2,hl2,hv2⟩
       ·cases hl'
       ·rcases Cf hρ hmx with ⟨hl',_⟩ | ⟨n3,k3,hl3,hv3⟩
        ·cases hl'
        ·cases hl2;cases hl3
         obtain ⟨u,hr,hdu⟩:=Ws (hE.ty t i hi') hs (hE.ty e ie hie) hes hd (k:=k2) (k' := k3) h0 h1 h2;exact OpS.pure hm (by simp only[execOp,hop,hl,hv2,hv3];exact M6 hr) hdu
      ·cases hl
     ·cases h
    ·cases h
   ·cases h
  ·rename_i i lo' hi'' hi' hlo hhi hmx
   have hmx' : mx.map a.eval=none:=by
    rcases Cf hρ hmx with ⟨_,hl⟩ | ⟨_,_,hl,_⟩
    ·exact hl
    ·cases hl
   have conv:∀{r:Option Int} {oo:Option Operand},HV (oo.map ρ)=some r->(r=none∧oo.map a.eval=none)∨∃n k,r=some n∧oo.map a.eval=some (.int k n):=fun h=>Cf hρ h
   split at h
   ·rename_i n e ha hs
    split at h
    ·rename_i ie hie
     obtain ⟨obl,it,hb,rfl⟩:=AP h;obtain ⟨u,hr,hdu⟩:=QT (hE.ty t i hi') ha (hE.ty e ie hie) hm hsub (hρ v) (conv hlo) (conv hhi) hb ho;exact OpS.pure hm (by simp only[execOp,hop,hmx'];exact M6 hr) hdu
    ·cases h
   ·rename_i e ha hs
    split at h
    ·rename_i ie hie
     obtain ⟨obl,it,hb,rfl⟩:=AP h;obtain ⟨u,hr,hdu⟩:=QU (hE.ty t i hi') hs (hE.ty e ie hie) (hρ v) (conv hlo) (conv hhi) hb ho;exact OpS.pure hm (by simp only[execOp,hop,hmx'];exact M6 hr) hdu
    ·cases h
   ·split at h
    ·rename_i s l hv
     split at h
     ·rename_i hst
      cases h
      obtain ⟨h0,h1,_⟩:=ho;have hd:=hρ v;rw[hv] at hd;obtain ⟨e1,_⟩:=U0 hd;rcases conv hlo with ⟨hl,_⟩ | ⟨n2,k2,hl2,hv2⟩
      ·cases hl
      ·cases hl2
       rcases conv hhi with ⟨_,hv3⟩ | ⟨_,_,hl3,_⟩
       ·exact OpS.pure hm (by simp only[execOp,hop,hmx',e1,hv2,hv3];exact M6 (B0l (hE.ty t i hi') hst s h0 h1 x.w)) ⟨rfl,0,rfl,rfl⟩
       ·cases hl3
     ·cases h
    ·cases h
   ·cases h
  ·cases h
 case fieldAddr s v f=>
  split at h
  ·rename_i i hi
   split at h
   ·rename_i fo fs g hf
    split at h
    ·cases h
    ·rename_i hfs
     split at h
     ·rename_i it hr
      cases h
      obtain ⟨u,hr,hdu⟩:=Pj (hE.ty s i hi) hf hfs (hρ v) hr;exact OpS.pure hm (by simp only[execOp,hop];exact M6 hr) hdu
     ·cases h
   ·cases h
  ·cases h
 case field s v f=>
  split at h
  ·rename_i i l hi hl
   split at h
   ·rename_i fo fs g hf
    split at h
    ·rename_i hsz
     split at h
     ·rename_i rr hr
      split at h
      ·rename_i vv hv
       cases h
       have hd:=hρ v;rw[hl] at hd;obtain ⟨z,hr',hdz⟩:=Xn (hE.ty s i hi) hf hsz.2 hd hr hv;exact OpS.pure hm (by simp only[execOp,hop];exact M6 hr') hdz
      ·cases h
     ·cases h
    ·cases h
   ·cases h
  ·cases h
 case indexAddr t v ix=>
  split at h
  ·rename_i i k n hi hn
   have hix:=GF hn (hρ ix);split at h
   ·rename_i len e ha hs
    split at h
    ·rename_i ie hie
     obtain ⟨obl,it,hb,rfl⟩:=AP h;obtain ⟨u,hr,hdu⟩:=PK (hE.ty t i hi) ha (hE.ty e ie hie) (hρ v) (k:=k) hb ho;exact OpS.pure hm (by simp only[execOp,hop,hix];exact M6 hr) hdu
    ·cases h
   ·rename_i e ha hs
    split at h
    ·rename_i ie hie
     obtain ⟨obl,it,hb,rfl⟩:=AP h;obtain ⟨u,hr,hdu⟩:=PL (hE.ty t i hi) hs (hE.ty e ie hie) (hρ v) (k:=k) hb ho;exact OpS.pure hm (by simp only[execOp,hop,hix];exact M6 hr) hdu
    ·cases h
   ·cases h
  ·cases h
 case index t v ix=>
  split at h
  ·rename_i i l k n hi hl hn
   have hix:=GF hn (hρ ix);have hd:=hρ v;rw[hl] at hd;split at h
   ·rename_i len e ha
    split at h
    ·rename_i ie hie
     split at h
     ·rename_i ob hag hcl
      split at h
      ·rename_i hk
       cases h
       obtain ⟨h0,h1,_⟩:=ho;exact OpS.pure hm (by simp only[execOp,hop,hix];exact M6 (B4c (hE.ty t i hi) ha (hE.ty e ie hie) hag hk h0 h1 hd)) (J8 _ _)
      ·cases h
     ·split at h
      ·rename_i hc
       split at h
       ·rename_i rr hr
        split at h
        ·rename_i vv hv
         cases h
         obtain ⟨h0,h1,_⟩:=ho;obtain ⟨z,hr',hdz⟩:=XC (hE.ty t i hi) ha (hE.ty e ie hie) (k:=k) h0 h1 hd hr hv hc.2;exact OpS.pure hm (by simp only[execOp,hop,hix];exact M6 hr') hdz
        ·cases h
       ·cases h
      ·cases h
    ·cases h
   ·cases h
  ·rename_i i s k n hi hl hn
   have hix:=GF hn (hρ ix);have hd:=hρ v;rw[hl] at hd;obtain ⟨e1,_⟩:=U0 hd;split at h
   ·rename_i hst
    cases h
    obtain ⟨h0,h1,_⟩:=ho;exact OpS.pure hm (by simp only[execOp,hop,hix,e1];exact M6 (B0k (hE.ty t i hi) hst s h0 h1 x.w)) (J8 _ _)
   ·cases h
  ·cases h
 case extract v i=>
  split at h
  ·rename_i l hl
   split at h
   ·rename_i u hu
    cases h
    have hd:=hρ v;rw[hl] at hd;obtain ⟨vs,hv,hc⟩:=hd;have:∀{l:List V1} {vs:List Value},DV x l vs->∀{i:Nat} {u:V1},l[i]? = some u->∃z,vs[i]? = some z∧Dq x u z:=by
     intro l vs h;induction h with
     | nil=>intro i u h;simp at h
     | cons h1 _ ih=>
      intro i u h
      cases i with
      | zero=>simp only[List.getElem?_cons_zero,Option.some.injEq] at h;subst h;exact ⟨_,rfl,h1⟩
      | succ i=>simp only[List.getElem?_cons_succ] at h ⊢;exact ih h
    obtain ⟨z,hz,hdz⟩:=this hc hu;refine OpS.pure (v:=z) hm ?_ hdz
    simp [execOp,hop,hv,Instr.extract,hz]
   ·cases h
  ·cases h
 case call c=>
  split at h
  ·rename_i f name hcal
   exact A8a hE hρ hm hsub hop hcal h ho hp hfresh
  ·rename_i f hcal
   split at h
   ·rename_i g hf
    split at h
    ·rename_i k hk
     exact B3j hE hρ hm hop hcal hf hk h ho
    ·exact Oo hE hρ hm hsub hop hcal (g:=g) (caps:=[]) hf (by simpa using On h) ho hp hfresh
   ·rename_i g caps hne hf
    exact Oo hE hρ hm hsub hop hcal hf (On h) ho hp hfresh
   ·cases h
  ·rename_i b hcal
   have hargs:c.args.map a.eval=(c.args.toList.map a.eval).toArray:=by apply Array.toList_inj.1;simp
   split at h
   ·-- len
    split at h
    ·rename_i t hat
     split at h
     ·rename_i i hi
      split at h
      ·rename_i e it hsl hl
       cases h
       have fin:∀{ad:Option Addr} {n cap:Nat},(c.args.toList.map a.eval)=[.slice ad n cap]->it = .int .i64 n->OpS P o a x m ⟨[],.v (.c it),[],none⟩:=by
        intro ad n cap h1 h2;subst h2;exact OpS.pure (v:=.int .i64 n) hm (Q4 hop hcal h1 hat (M6 (C4t (hE.ty t i hi) hsl ad _ x.w))) (J8 _ _)
       have hd:=P6 hρ c.args.toList;unfold Cb at hl;split at hl
       ·rename_i p' off len es heq
        cases hl
        rw[heq] at hd;obtain ⟨v,hv,h1⟩:=Ab hd;rcases CQ h1 with ⟨_,_,h0,rfl⟩ | ⟨_,cap,_,_,rfl,_⟩
        ·exact fin hv (by rw[h0])
        ·exact fin hv rfl
       ·rename_i q heq
        cases hl
        rw[heq] at hd;obtain ⟨v,hv,h1⟩:=Ab hd;obtain ⟨ad,cap,rfl,_⟩:=Kq h1;exact fin hv rfl
       ·rename_i _ q heq
        cases hl
        rw[heq] at hd;obtain ⟨v,hv,h1⟩:=Ab hd;obtain ⟨ad,cap,rfl,_⟩:=Kq (D0t h1);exact fin hv rfl
       ·rename_i heq
        cases hl
        rw[heq] at hd;obtain ⟨v,hv,h1⟩:=Ab hd;obtain ⟨rfl,_⟩:=U0 h1;exact fin hv rfl
       ·rename_i len heq
        cases hl
        rw[heq] at hd;obtain ⟨v,hv,h1⟩:=Ab hd;obtain ⟨ad,cap,rfl⟩:∃ad cap,v = .slice ad len cap:=by
         obtain ⟨_,d,h1⟩:=h1
         cases d<;>simpa [F8] using h1
        exact fin hv rfl
       ·cases hl
      ·cases h
      ·split at h
       ·rename_i n hn
        split at h
        ·rename_i hst
         cases h
         have hd:=P6 hρ c.args.toList;obtain ⟨s,heq,hs⟩:=A8m hn;rw[heq] at hd;obtain ⟨v,hv,h1⟩:=Ab hd;obtain ⟨rfl,_⟩:=U0 h1;subst hs;exact OpS.pure (v:=.int .i64 s.size) hm (Q4 hop hcal hv hat (M6 (C8t (hE.ty t i hi) hst s _ x.w))) (J8 _ _)
        ·cases h
       ·cases h
     ·cases h
    ·cases h
   ·-- min
    split at h
    ·rename_i it hl
     cases h
     have hd:=P6 hρ c.args.toList;unfold B5y at hl;split at hl
     ·rename_i k1 n1 k2 n2 heq
      cases hl
      rw[heq] at hd;obtain ⟨v,v',hv,h1,h2⟩:=Gv hd
      cases M9 h1;cases M9 h2
      exact OpS.pure hm (Q4 hop hcal hv rfl (M6 (u:=.int k1 (if n2<n1 then n2 else n1)) (by simp [Builtin.min_,XS]))) (J8 _ _)
     ·rename_i k1 n1 k2 n2 k3 n3 heq
      cases hl
      rw[heq] at hd;obtain ⟨v,v',v'',hv,h1,h2,h3⟩:=Xc hd
      cases M9 h1;cases M9 h2;cases M9 h3
      exact OpS.pure hm (Q4 hop hcal hv rfl (M6 (u:=.int k1 (if n3<(if n2<n1 then n2 else n1) then n3 else (if n2<n1 then n2 else n1))) (by simp [Builtin.min_,XS]))) (J8 _ _)
     ·cases hl
    ·cases h
   ·-- max
    split at h
    ·rename_i it hl
     cases h
     have hd:=P6 hρ c.args.toList;unfold B5m at hl;split at hl
     ·rename_i k1 n1 k2 n2 heq
      cases hl
      rw[heq] at hd;obtain ⟨v,v',hv,h1,h2⟩:=Gv hd
      cases M9 h1;cases M9 h2
      exact OpS.pure hm (Q4 hop hcal hv rfl (M6 (u:=.int k1 (if n2 > n1 then n2 else n1)) (by simp [Builtin.max_,B5l]))) (J8 _ _)
     ·cases hl
    ·cases h
   ·-- append
    split at h
    ·rename_i t t' s sx hat has
     split at h
     ·rename_i htt
      subst htt;split at h
      ·rename_i i hi
       split at h
       ·rename_i e hsl
        split at h
        ·rename_i ie hie
         split at h
         ·rename_i q0 hq0
          obtain ⟨z,y,hr,ht,hd⟩:=Uw (hE.ty t i hi) hsl (hE.ty e ie hie) hq0 hm hsub (hp p (Nat.le_refl _)) (hρ s) (hρ sx) h ho hfresh o.type;exact .value z y (Q4 hop hcal (args:=[a.eval s,a.eval sx]) (by rw[has];rfl) hat (M6 hr)) ht hd
         ·cases h
        ·cases h
       ·cases h
      ·cases h
     ·cases h
    ·cases h
   ·-- copy
    split at h
    ·rename_i t t' hat
     split at h
     ·rename_i i hi
      split at h
      ·rename_i e hsl
       split at h
       ·rename_i ie hie
        split at h
        ·rename_i q0 hq0
         split at h
         ·rename_i ob n ups hc
          cases h
          have hd:=P6 hρ c.args.toList;have htwo:∃s s',c.args.toList.map ρ=[s,s']:=by
           unfold ND at hc;split at hc
           ·rename_i heq;exact ⟨_,_,heq⟩
           ·cases hc
          obtain ⟨s,s',hss⟩:=htwo;rw[hss] at hd hc;obtain ⟨v,v',hv,h1,h2⟩:=Gv hd;obtain ⟨y,hr,ht⟩:=Zx (t' := t') (hE.ty t i hi) hsl (hE.ty e ie hie) hq0 hm hsub h1 h2 hc ho o.type;exact .value _ y (Q4 hop hcal hv hat (M6 hr)) ht (J8 _ _)
         ·cases h
        ·cases h
       ·cases h
      ·cases h
     ·cases h
    ·cases h
   ·-- clear
    split at h
    ·rename_i t hat
     split at h
     ·rename_i i hi
      split at h
      ·rename_i e hsl
       split at h
       ·rename_i ie hie
        split at h
        ·rename_i q0 hq0
         split at h
         ·rename_i ob ups hc
          cases h
          have hd:=P6 hρ c.args.toList;have hone:∃s,c.args.toList.map ρ=[s]:=by
           unfold IM at hc;split at hc
           ·rename_i heq;exact ⟨_,heq⟩
           ·cases hc
          obtain ⟨s,hss⟩:=hone;rw[hss] at hd hc;obtain ⟨v,hv,h1⟩:=Ab hd;obtain ⟨u,y,hr,ht⟩:=WW (hE.ty t i hi) hsl (hE.ty e ie hie) hq0 hm hsub h1 hc ho o.type;exact .value u y (Q4 hop hcal hv hat (M6 hr)) ht trivial
         ·cases h
        ·cases h
       ·cases h
      ·cases h
     ·cases h
    ·cases h
   ·cases h
 all_goals cases h
end
end
end
end Go.Proofs.YtifiiigbedjceaaGreat
