/- Parts of a proof, one behind the other: FwO. No conditions. -/
import Derived.Laws.Tables
import Derived.Test.YtifiiigbedjceaaGreatTuE
open Go.IntKind (wrap)
namespace Go.Proofs.YtifiiigbedjceaaGreat
noncomputable section
section
section
variable {P:Program} {x y:C0} {m m' : Nat->Option En}
theorem P1{a:Int}(h0:0<=a)(h1:a<18446744073709551616)(n:Nat):((a.toNat+18446744073709551616*n) % 18446744073709551616:Nat)=a∧(a.toNat+18446744073709551616*n) / 18446744073709551616=n:=by omega
theorem D2u{a b c d:Int}(a0:0<=a)(a1:a<18446744073709551616)(b0:0<=b)(b1:b<18446744073709551616)(c0:0<=c)(c1:c<18446744073709551616)(d0:0<=d)(d1:d<18446744073709551616) :
  a=(((Fin.ofNat B4 (a.toNat+18446744073709551616*(b.toNat+18446744073709551616*(c.toNat+18446744073709551616*(d.toNat+18446744073709551616*0))))).val % 18446744073709551616:Nat):Int) ∧
  b=(((Fin.ofNat B4 (a.toNat+18446744073709551616*(b.toNat+18446744073709551616*(c.toNat+18446744073709551616*(d.toNat+18446744073709551616*0))))).val / 18446744073709551616 % 18446744073709551616:Nat):Int) ∧
  c=(((Fin.ofNat B4 (a.toNat+18446744073709551616*(b.toNat+18446744073709551616*(c.toNat+18446744073709551616*(d.toNat+18446744073709551616*0))))).val / 18446744073709551616 / 18446744073709551616 % 18446744073709551616:Nat):Int) ∧
  d=(((Fin.ofNat B4 (a.toNat+18446744073709551616*(b.toNat+18446744073709551616*(c.toNat+18446744073709551616*(d.toNat+18446744073709551616*0))))).val / 18446744073709551616 / 18446744073709551616 / 18446744073709551616 % 18446744073709551616:Nat):Int):=by
 have hv:(Fin.ofNat B4 (a.toNat+18446744073709551616*(b.toNat+18446744073709551616*(c.toNat+18446744073709551616*(d.toNat+18446744073709551616*0))))).val=a.toNat+18446744073709551616*(b.toNat+18446744073709551616*(c.toNat+18446744073709551616*(d.toNat+18446744073709551616*0))):=by
  refine Nat.mod_eq_of_lt ?_
  simp only[B4];omega
 rw[hv];obtain ⟨h1,h2⟩:=P1 a0 a1 (b.toNat+18446744073709551616*(c.toNat+18446744073709551616*(d.toNat+18446744073709551616*0)));obtain ⟨h3,h4⟩:=P1 b0 b1 (c.toNat+18446744073709551616*(d.toNat+18446744073709551616*0));obtain ⟨h5,h6⟩:=P1 c0 c1 (d.toNat+18446744073709551616*0);obtain ⟨h7,h8⟩:=P1 d0 d1 0;rw[h2,h4,h6];exact ⟨h1.symm,h3.symm,h5.symm,h7.symm⟩
theorem D2v{a b c d e f:Int}(a0:0<=a)(a1:a<18446744073709551616)(b0:0<=b)(b1:b<18446744073709551616)(c0:0<=c)(c1:c<18446744073709551616)(d0:0<=d)(d1:d<18446744073709551616)
  (e0:0<=e) (e1:e<18446744073709551616) (f0:0<=f) (f1:f<18446744073709551616) {n:Nat} (hn:n=a.toNat+18446744073709551616*(b.toNat+18446744073709551616*(c.toNat+18446744073709551616*(d.toNat+18446744073709551616*(e.toNat+18446744073709551616*(f.toNat+18446744073709551616*0)))))) :
  a=(((Fin.ofNat B6 n).val % 18446744073709551616:Nat):Int) ∧
  b=(((Fin.ofNat B6 n).val / 18446744073709551616 % 18446744073709551616:Nat):Int) ∧
  c=(((Fin.ofNat B6 n).val / 18446744073709551616 / 18446744073709551616 % 18446744073709551616:Nat):Int) ∧
  d=(((Fin.ofNat B6 n).val / 18446744073709551616 / 18446744073709551616 / 18446744073709551616 % 18446744073709551616:Nat):Int) ∧
  e=(((Fin.ofNat B6 n).val / 18446744073709551616 / 18446744073709551616 / 18446744073709551616 / 18446744073709551616 % 18446744073709551616:Nat):Int) ∧
  f=(((Fin.ofNat B6 n).val / 18446744073709551616 / 18446744073709551616 / 18446744073709551616 / 18446744073709551616 / 18446744073709551616 % 18446744073709551616:Nat):Int):=by
 have hv:(Fin.ofNat B6 n).val=n:=by
  refine Nat.mod_eq_of_lt ?_
  simp only[B6];omega
 rw[hv,hn];obtain ⟨h1,h2⟩:=P1 a0 a1 (b.toNat+18446744073709551616*(c.toNat+18446744073709551616*(d.toNat+18446744073709551616*(e.toNat+18446744073709551616*(f.toNat+18446744073709551616*0)))));obtain ⟨h3,h4⟩:=P1 b0 b1 (c.toNat+18446744073709551616*(d.toNat+18446744073709551616*(e.toNat+18446744073709551616*(f.toNat+18446744073709551616*0))));obtain ⟨h5,h6⟩:=P1 c0 c1 (d.toNat+18446744073709551616*(e.toNat+18446744073709551616*(f.toNat+18446744073709551616*0)));obtain ⟨h7,h8⟩:=P1 d0 d1 (e.toNat+18446744073709551616*(f.toNat+18446744073709551616*0));obtain ⟨h9,h10⟩:=P1 e0 e1 (f.toNat+18446744073709551616*0);obtain ⟨h11,h12⟩:=P1 f0 f1 0;rw[h2,h4,h6,h8,h10];exact ⟨h1.symm,h3.symm,h5.symm,h7.symm,h9.symm,h11.symm⟩
theorem Oe{z l l' : List It}{o:List Prop}{cs:List Value}(h:Oc z l=(o,l'))(ho:A5 o)(hc:C6 x.D l cs):C6 x.D l' cs:=by
 unfold Oc at h;have hint:∀{k n c},x.D (.int k n) c->c=[.int k n]:=by
  intro k n c ⟨d,h⟩;exact YV k n c h
 split at h
 ·rename_i a b c d
  simp only[JF,Option.map_some,Jr,Prod.mk.injEq] at h;obtain ⟨rfl,rfl⟩:=h;obtain ⟨a0,a1,b0,b1,c0,c1,d0,d1,_⟩:=ho;obtain ⟨k1,r1,rfl,g1,k2,r2,rfl,g2,k3,r3,rfl,g3,k4,r4,rfl,g4,g5⟩:=hc;simp only[C6] at g5;subst g5;rw[hint g1,hint g2,hint g3,hint g4];refine ⟨_,[],(List.append_nil _).symm,⟨0,?_⟩,rfl⟩
  simp only[F8,Ob.cells,Ob.k,Ob.n,List.range_succ,List.range_zero,List.nil_append,List.cons_append,List.map_cons,List.map_nil,GH,Vj,List.append_nil,List.cons.injEq,Value.int.injEq,true_and,and_true];exact D2u a0 a1 b0 b1 c0 c1 d0 d1
 ·rename_i a b c d e f
  simp only[JF,Option.map_some,Jr,Prod.mk.injEq] at h;obtain ⟨rfl,rfl⟩:=h;obtain ⟨a0,a1,b0,b1,c0,c1,d0,d1,e0,e1,f0,f1,_⟩:=ho;obtain ⟨k1,r1,rfl,g1,k2,r2,rfl,g2,k3,r3,rfl,g3,k4,r4,rfl,g4,k5,r5,rfl,g5,k6,r6,rfl,g6,g7⟩:=hc;simp only[C6] at g7;subst g7;rw[hint g1,hint g2,hint g3,hint g4,hint g5,hint g6];refine ⟨_,[],(List.append_nil _).symm,⟨0,?_⟩,rfl⟩
  simp only[F8,Ob.cells,Ob.k,Ob.n,List.range_succ,List.range_zero,List.nil_append,List.cons_append,List.map_cons,List.map_nil,GH,Vj,List.append_nil,List.cons.injEq,Value.int.injEq,true_and,and_true];exact D2v a0 a1 b0 b1 c0 c1 d0 d1 e0 e1 f0 f1 rfl
 ·cases h;exact hc
theorem ZD{q q' : Sq}{cs c' : List Value}{its:List It}{d:Nat}(h:C9 x (.sq q) cs)(hp:q.push its=some q')(hc:C6 (F8 x d) its c')(hfit:q.n*q.es+q.es<=cs.length) :
  C9 x (.sq q') (cs.take (q.n*q.es)++c' ++ cs.drop (q.n*q.es+c'.length)):=by
 obtain ⟨h1,h2,h3,h4,h5⟩:=LR hp;have hl:=P5 hc;rw[h3] at hl;refine ⟨?_,fun j hj=>?_⟩
 ·rw[h1,h2,Nat.add_mul,Nat.one_mul];simp only[List.length_append,List.length_take,List.length_drop,hl];omega
 ·rw[h1] at hj
  by_cases hji:j=q.n
  ·subst hji
   refine ⟨c',P4 (h5 x d c' hc),fun k v hk=>?_⟩
   have hk' : k<c'.length:=by
    rcases Nat.lt_or_ge k c'.length with hh | hh
    ·exact hh
    ·rw[List.getElem?_eq_none hh] at hk;cases hk
   rw[h2,List.append_assoc,List.getElem?_append_right (by simp only[List.length_take];omega),List.length_take,Nat.min_eq_left (by omega),Nat.add_sub_cancel_left,List.getElem?_append_left hk']
   exact hk
  ·have hjq:j<q.n:=by omega
   obtain ⟨c,d',hcj,hlc,hf,hcell⟩:=V6 h hjq;refine ⟨c,by rw[h4 j hjq];exact P4 hcj,fun k v hk=>?_⟩
   have hk' : k<q.es:=by
    rcases Nat.lt_or_ge k c.length with hh | hh
    ·omega
    ·rw[List.getElem?_eq_none hh] at hk;cases hk
   have hm:(j+1)*q.es<=q.n*q.es:=Nat.mul_le_mul_right _ hjq;rw[Nat.add_mul,Nat.one_mul] at hm;rw[h2,<-hcell k v hk,List.append_assoc,List.getElem?_append_left (by simp only[List.length_take];omega),List.getElem?_take_of_lt (by omega)]
theorem SS{ρ:Operand->SV}{a:Act}(hρ:∀o,B8 x (ρ o) (a.eval o)){es len:Nat} :
  ∀(parts:List (Nat×Operand)) (k:Nat) (q q' : Sq) (its:List (List It)) (cells:Array Value),CY k (parts.map fun p=>(p.1,ρ p.2))=some its->AU q its=some q' -> q.n=k->q.es=es->C9 x (.sq q) cells.toList ->
   cells.size=len*es->k+its.length<=len ->
   ∃cells',Instr.fill (fun i=>some (i*es,es)) cells (parts.map fun p=>(p.1,a.eval p.2))=some cells' ∧ C9 x (.sq q') cells'.toList∧cells'.size=len*es∧q'.n=k+its.length∧q'.es=es
 | [],k,q,q',its,cells,hin,hpush,hk,hes,hd,hs,_=>by
  simp [CY] at hin
  subst hin;simp [AU] at hpush
  subst hpush;exact ⟨cells,rfl,hd,hs,by simpa using hk,hes⟩
 | (i,o)::parts,k,q,q',its,cells,hin,hpush,hk,hes,hd,hs,hle=>by
  simp only[List.map_cons] at hin ⊢
  cases hsv:ρ o with
  | v v=>
   rw[hsv] at hin;simp only[CY] at hin;split at hin
   ·rename_i hik
    subst hik;simp only[Option.map_eq_some_iff] at hin;obtain ⟨its',hin',rfl⟩:=hin;simp only[AU] at hpush;split at hpush
    ·rename_i q1 hq1
     obtain ⟨h1,h2,h3,h4,h5⟩:=LR hq1;have hdo:=hρ o;rw[hsv] at hdo;obtain ⟨cn,hu,hcn⟩:=EF hdo;obtain ⟨dn,hcn⟩:=M3 hcn;have hln:=P5 hcn;rw[h3,hes] at hln;simp only[List.length_cons] at hle;have hfit:i*es+es<=cells.size:=by
      rw[hs];have:=Nat.mul_le_mul_right es (show i+1<=len by omega)
      rw[Nat.add_mul,Nat.one_mul] at this;exact this
     rw[Xp (place:=fun i=>some (i*es,es)) rfl hu hln hfit]
     have hnew:=ZD hd hq1 hcn (by rw[hk,hes];simpa using hfit)
     rw[hk,hes] at hnew;obtain ⟨cells',g1,g2,g3,g4,g5⟩:=SS (es:=es) (len:=len) hρ parts (i+1) q1 q' its' (cells.toList.take (i*es)++cn++cells.toList.drop (i*es+cn.length)).toArray hin' hpush (by omega) (by rw[h2,hes]) (by simpa using hnew)
      (by simp only[List.size_toArray,List.length_append,List.length_take,List.length_drop,Array.length_toList,hln];omega) (by omega)
     exact ⟨cells',g1,g2,g3,by simp only[List.length_cons];omega,g5⟩
    ·cases hpush
   ·cases hin
  | t l' => rw[hsv] at hin;simp [CY] at hin
  | top=>rw[hsv] at hin;simp [CY] at hin
theorem Ol{t e len:Nat}{i ie:TyI}{q0 q' : Sq}(ht:I2 P t i)(hsl:i.slc=some e)(hte:I2 P e ie)(hq0:ie.esq=some q0){ρ:Operand->SV}{a:Act}(hρ:∀o,B8 x (ρ o) (a.eval o))
  {parts:Array (Nat×Operand)} {its:List (List It)} (hin:CY 0 (parts.toList.map fun p=>(p.1,ρ p.2))=some its) (hpush:AU q0 its=some q') (hlen:its.length=len) (hsm:len*ie.cells<=16777216) :
  ∃cells,(Instr.buildSlice t len (parts.map fun (i,x)=>(i,a.eval x))).run P x.w = .ok (.slice (some ⟨x.w.heap.size,0,none⟩) len len) (x.w.alloc (.cells cells e))∧C9 x (.sq q') cells.toList∧cells.size=len*ie.cells∧q'.n=len∧q'.es=ie.cells:=by
 obtain ⟨inf,d,hinf,hdd,_,_,_,_,_,_,_,hsd,_⟩:=ht.parts;obtain ⟨rfl,_⟩:=hsd e hsl;obtain ⟨inf',d',hi',hd',hs',hb',_,_,⟨z0,hz0,_,hzc,_⟩,_,_,_,_,_,hes',_⟩:=hte.parts;obtain ⟨hes,hen⟩:=hes' q0 hq0;have key:∀(c0:Array Value),c0.size=len*ie.cells->∃cells',Instr.fill (fun i=>some (i*ie.cells,ie.cells)) c0 (parts.toList.map fun p=>(p.1,a.eval p.2))=some cells' ∧ C9 x (.sq q') cells'.toList∧cells'.size=len*ie.cells∧q'.n=0+its.length∧q'.es=ie.cells:=by
  intro c0 h0;refine SS hρ parts.toList 0 q0 q' its c0 hin hpush hen hes ⟨by rw[hen];simp,fun i hi=>by omega⟩ h0 (by omega)
 have hn2:¬(2 ^ 24<len*inf'.size):=by rw[hs'];omega
 have hlist:(parts.map fun (x:Nat×Operand)=>(x.1,a.eval x.2)).toList=parts.toList.map fun p=>(p.1,a.eval p.2):=by simp
 by_cases h0:len*inf'.size=0
 ·obtain ⟨cells,g1,g2,g3,g4,g5⟩:=key #[] (by rw[<-hs',h0];rfl)
  refine ⟨cells,?_,g2,g3,by omega,g5⟩
  rw[<-hs',<-hlist] at g1;simp [Instr.buildSlice,run_underlying hdd,sizeOf,typeInfo,hi',h0,newRow,Array.range_zero']
  rw[show (Instr.fill (fun i=>some (i*inf'.size,inf'.size)) #[] (List.map (fun (x:Nat×Operand)=>(x.fst,a.eval x.snd)) parts.toList))=some cells from by simpa using g1]
  simp
 ·obtain ⟨cells,g1,g2,g3,g4,g5⟩:=key ((Array.range (len*inf'.size)).map (z0.cells[· % z0.cells.size]!)) (by simp [hs'])
  refine ⟨cells,?_,g2,g3,by omega,g5⟩
  rw[<-hs',<-hlist] at g1;simp [Instr.buildSlice,run_underlying hdd,sizeOf,typeInfo,zeroValue,hi',hz0,hn2,h0,newRow]
  rw[show (Instr.fill (fun i=>some (i*inf'.size,inf'.size)) _ (List.map (fun (x:Nat×Operand)=>(x.fst,a.eval x.snd)) parts.toList))=some cells from by simpa using g1]
  simp
theorem Uo{e:Nat}{ie:TyI}{q0 z:Sq}(hte:I2 P e ie)(hq0:ie.esq=some q0){n:Nat}(hz:KB q0 n=some z){z0:Value}(hz0:(P.info? e).bind (·.zero)=some z0){cs:List Value}(hs:n*q0.es<=cs.length)
  (hcs:∀j,j<n*q0.es->cs[j]? = some (z0.cells[j % z0.cells.size]!)):C9 x (.sq z) cs:=by
 obtain ⟨inf',d',hi',hd',hs',hb',_,_,⟨z1,hz1,_,hzc,hzq⟩,_,_,_,_,_,hes',_⟩:=hte.parts;obtain ⟨hes,hen⟩:=hes' q0 hq0;simp only[hi',Option.bind_some,hz1,Option.some.injEq] at hz0;subst hz0;obtain ⟨g1,g2,zz,g3,g4⟩:=RE hz;refine ⟨by rw[g1,g2];exact hs,fun i hi=>?_⟩
 rw[g1] at hi;refine ⟨z1.cells.toList,by rw[g4 i hi];exact P4 (AV (d:=0) (hzq q0 zz hq0 g3)),fun j v hv=>?_⟩
 have hj:j<z1.cells.size:=by
  rcases Nat.lt_or_ge j z1.cells.size with hh | hh
  ·exact hh
  ·rw[List.getElem?_eq_none (by simpa using hh)] at hv;cases hv
 have hes1:z1.cells.size=q0.es:=by rw[hzc,hes]
 have hlt:i*q0.es+j<n*q0.es:=by
  have:=Nat.mul_le_mul_right q0.es (show i+1<=n from hi)
  rw[Nat.add_mul,Nat.one_mul] at this;omega
 rw[g2,hcs _ hlt,hes1];rw[show (i*q0.es+j) % q0.es=j by rw[Nat.mul_comm,Nat.mul_add_mod,Nat.mod_eq_of_lt (by omega)]]
 rw[<-hv];simp [hj]
theorem RL{t e:Nat}{i ie:TyI}{q0 z:Sq}(ht:I2 P t i)(hsl:i.slc=some e)(hte:I2 P e ie)(hq0:ie.esq=some q0){k k' : IntKind}{n:Int}(h0:0<=n)(hb:(ie.bytes:Int)*n<=281474976710656)(h63:n<=9223372036854775807)
  (hz:KB q0 n.toNat=some z) :
  ∃cells,(Instr.makeSlice t (.int k n) (.int k' n)).run P x.w = .ok (.slice (some ⟨x.w.heap.size,0,none⟩) n.toNat n.toNat) (x.w.alloc (.cells cells e))∧C9 x (.sq z) cells.toList∧cells.size=n.toNat*ie.cells:=by
 obtain ⟨inf,d,hinf,hdd,_,_,_,_,_,_,_,hsd,_⟩:=ht.parts;obtain ⟨rfl,_⟩:=hsd e hsl;obtain ⟨inf',d',hi',hd',hs',hb',_,_,⟨z1,hz1,_,hzc,hzq⟩,_,_,_,_,_,hes',_⟩:=hte.parts;obtain ⟨hes,hen⟩:=hes' q0 hq0;have hr:=run_make (P:=P) x.w t e inf' z1 hdd hi' hz1 k k' n n h0 (Int.le_refl _) (by rw[hb'];exact hb) h63
 refine ⟨_,hr,Uo hte hq0 hz (z0:=z1) (by simp [hi',hz1]) (by simp [madeCells,hs',hes]) fun j hj=>?_,by rw[size_madeCells,hs']⟩
 rw[hes,<-hs'] at hj;simp [madeCells,hj]
theorem C4t{t e n cap:Nat}{i:TyI}(ht:I2 P t i)(hsl:i.slc=some e)(a:Option Addr)(ty:TypeId)(w:World):(Builtin.len_ #[t] ty #[.slice a n cap]).run P w = .ok (goInt n) w:=by
 obtain ⟨inf,d,hinf,hdd,_,_,_,_,_,_,_,hsd,_⟩:=ht.parts;obtain ⟨rfl,_⟩:=hsd e hsl;simp [Builtin.len_,run_underlying hdd]
end
end
end
end Go.Proofs.YtifiiigbedjceaaGreat
