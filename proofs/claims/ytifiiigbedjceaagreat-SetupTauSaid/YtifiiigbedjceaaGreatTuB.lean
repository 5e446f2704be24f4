/- Parts of a proof, one behind the other: FwG. No conditions. -/
import Derived.ChangeKeysEq
import Derived.Test.YtifiiigbedjceaaGreatTuA
open Go.IntKind (wrap)
namespace Go.Proofs.YtifiiigbedjceaaGreat
noncomputable section
section
inductive Fit:List Bool->List Value->List Value->Prop
 | nil:Fit [] [] []
 | int {s l r k a b}:Fit s l r->Fit (true::s) (.int k a::l) (.int k b::r)
 | bool {s l r a b}:Fit s l r->Fit (false::s) (.bool a::l) (.bool b::r)
theorem Fit.len{s:List Bool}{l r:List Value}(h:Fit s l r):l.length=s.length∧r.length=s.length:=by
 induction h with
 | nil=>exact ⟨rfl,rfl⟩
 | int _ ih=>simp [ih.1,ih.2]
 | bool _ ih=>simp [ih.1,ih.2]
theorem Fit.take:∀(n:Nat) {s:List Bool} {l r:List Value},Fit s l r->Fit (s.take n) (l.take n) (r.take n)
 | 0,_,_,_,_=>by simp;exact .nil
 | _+1,_,_,_,.nil=>by simp;exact .nil
 | n+1,_,_,_,.int h=>.int (h.take n)
 | n+1,_,_,_,.bool h=>.bool (h.take n)
theorem Fit.drop:∀(n:Nat) {s:List Bool} {l r:List Value},Fit s l r->Fit (s.drop n) (l.drop n) (r.drop n)
 | 0,_,_,_,h=>h
 | _+1,_,_,_,.nil=>by simp;exact .nil
 | n+1,_,_,_,.int h=>h.drop n
 | n+1,_,_,_,.bool h=>h.drop n
theorem Fit.append{s s' : List Bool}{l r l' r' : List Value}(h:Fit s l r)(h' : Fit s' l' r'):Fit (s++s') (l++l') (r++r'):=by
 induction h with
 | nil=>exact h'
 | int _ ih=>exact .int ih
 | bool _ ih=>exact .bool ih
section
variable {P:Program}
theorem CG{e:TypeId}{inf:TypeInfo}{d:TypeDesc}(hi:P.info? e=some inf)(hd:P.underlying e=some d){cs:List Value}{off:Nat}(w:World)
  (h1:X6 d=false->inf.size=1) (hl:off+inf.size<=cs.length) :
  (part e cs.toArray off).run P w = .ok (O2 (X6 d) ((cs.drop off).take inf.size)) w:=by
 unfold part;simp only[Sem.run_bind,Uc hd,Result.andThen_ok]
 cases ha:X6 d with
 | true=>
  simp [Go.sizeOf,typeInfo,hi,O2,List.extract]
 | false=>
  have h1' := h1 ha;have hlt:off<cs.length:=by omega
  have ht:(cs.drop off).take 1=[cs[off]]:=by rw[List.drop_eq_getElem_cons hlt];rfl
  simp only[h1',ht,O2];simp [hlt]
def D0u(P:Program)(dd t:Nat)(s:List Bool):Prop:=
 ∀(w:World) (l r:List Value),Fit s l r->∃d,P.underlying t=some d∧∃b:Bool,(Op.equalIn dd t (O2 (X6 d) l) (O2 (X6 d) r)).run P w = .ok b w∧(b=true↔l=r)
theorem OM{dd e:Nat}{s:List Bool}{inf:TypeInfo}{d:TypeDesc}(hi:P.info? e=some inf)(hd:P.underlying e=some d)(hs:inf.size=s.length)(h1:X6 d=false->inf.size=1)(he:D0u P dd e s)(w:World) :
  ∀(n k:Nat) (l r:List Value),Fit (List.replicate (k+n) s).flatten l r->∃b:Bool,(Op.eqItems dd e inf.size l.toArray r.toArray (List.range' k n)).run P w = .ok b w∧(b=true↔l.drop (k*s.length)=r.drop (k*s.length))
 | 0,k,l,r,hf=>by
  have hl:=hf.len;simp only[Nat.add_zero,List.length_flatten,List.map_replicate,List.sum_replicate_nat] at hl;refine ⟨true,by simp [Op.eqItems],?_⟩
  rw[List.drop_of_length_le (by omega),List.drop_of_length_le (by omega)]
  simp
 | n+1,k,l,r,hf=>by
  have hl:=hf.len;simp only[List.length_flatten,List.map_replicate,List.sum_replicate_nat] at hl;have hle:(k+1)*s.length<=(k+(n+1))*s.length:=Nat.mul_le_mul_right _ (by omega)
  have hmul:(k+1)*s.length=k*s.length+s.length:=by rw[Nat.add_mul];simp
  have hchunk:Fit s ((l.drop (k*s.length)).take s.length) ((r.drop (k*s.length)).take s.length):=by
   have h2:=(hf.drop (k*s.length)).take s.length;have:((List.replicate (k+(n+1)) s).flatten.drop (k*s.length)).take s.length=s:=by
    rw[show k+(n+1)=k+(n+1) from rfl,<-List.replicate_append_replicate,List.flatten_append]
    rw[List.drop_append_of_le_length (by simp [List.length_flatten]),List.drop_of_length_le (by simp [List.length_flatten])]
    simp [List.replicate_succ]
   rwa [this] at h2
  obtain ⟨d',hd',b,hb,hbi⟩:=he w _ _ hchunk;rw[hd] at hd';cases hd'
  have p1:=CG hi hd (cs:=l) (off:=k*inf.size) w h1 (by rw[hs,hl.1];omega)
  have p2:=CG hi hd (cs:=r) (off:=k*inf.size) w h1 (by rw[hs,hl.2];omega)
  rw[hs] at p1 p2;rw[hs];obtain ⟨b',hb',hbi'⟩:=OM hi hd hs h1 he w n (k+1) l r (by rw[show k+1+n=k+(n+1) from by omega];exact hf)
  rw[hs] at hb'
  have split:∀(c:List Value),c.drop (k*s.length)=(c.drop (k*s.length)).take s.length++c.drop ((k+1)*s.length):=by
   intro c;rw[hmul,<-List.drop_drop];exact (List.take_append_drop _ _).symm
  have hiff:(l.drop (k*s.length)=r.drop (k*s.length))↔((l.drop (k*s.length)).take s.length=(r.drop (k*s.length)).take s.length∧l.drop ((k+1)*s.length)=r.drop ((k+1)*s.length)):=by
   constructor
   ·intro h;rw[hmul,<-List.drop_drop,<-List.drop_drop,h];exact ⟨rfl,rfl⟩
   ·rintro ⟨h1,h2⟩;rw[split l,split r,h1,h2]
  simp only[List.range'_succ,Op.eqItems,Sem.run_bind,p1,p2,hb,Result.andThen_ok];rw[hiff]
  cases b with
  | false=>exact ⟨false,by simp,by simp;intro h;exact absurd (hbi.2 h) (by simp)⟩
  | true=>exact ⟨b',by simpa using hb',by rw[hbi'];simp [hbi.1 rfl]⟩
theorem MP{dd:Nat}{sh:Nat->Option (List Bool)}(he:∀t s,sh t=some s->D0u P dd t s∧∃inf d,P.info? t=some inf∧P.underlying t=some d∧(X6 d=false->s.length=1))(w:World)(l r:List Value) :
  ∀(fs:List Field) (off:Nat) (s:List Bool),Gi sh P off fs=some s->Fit s (l.drop off) (r.drop off)->off<=l.length->off<=r.length ->
   ∃b:Bool,(Op.eqFields dd l.toArray r.toArray fs).run P w = .ok b w∧(b=true↔l.drop off=r.drop off)
 | [],off,s,hs,hf,_,_=>by
  simp only[Gi,Option.some.injEq] at hs;subst hs;have:=hf.len
  refine ⟨true,by simp [Op.eqFields],?_⟩
  rw[List.eq_nil_of_length_eq_zero this.1,List.eq_nil_of_length_eq_zero this.2];simp
 | f::fs,off,s,hs,hf,hl1,hl2=>by
  simp only[Gi] at hs;split at hs
  ·rename_i s1 inf hs1 hi
   split at hs
   ·rename_i hc
    obtain ⟨ho,hsz,hn⟩:=hc;simp only[Option.map_eq_some_iff] at hs;obtain ⟨s2,hs2,rfl⟩:=hs;obtain ⟨heq,inf',d,hi',hd,h1⟩:=he _ _ hs1;rw[hi] at hi';cases hi'
    have hlen:=hf.len;simp only[List.length_append,List.length_drop] at hlen;have hc1:Fit s1 ((l.drop off).take s1.length) ((r.drop off).take s1.length):=by
     have:=hf.take s1.length
     rwa [List.take_left'] at this
     rfl
    have hc2:Fit s2 (l.drop (off+s1.length)) (r.drop (off+s1.length)):=by
     have:=hf.drop s1.length
     rw[List.drop_left' rfl,List.drop_drop,List.drop_drop] at this;exact this
    obtain ⟨d',hd',b,hb,hbi⟩:=heq w _ _ hc1;rw[hd] at hd';cases hd'
    have p1:=CG hi hd (cs:=l) (off:=off) w (fun e=>by rw[hsz];exact h1 e) (by omega)
    have p2:=CG hi hd (cs:=r) (off:=off) w (fun e=>by rw[hsz];exact h1 e) (by omega)
    rw[hsz] at p1 p2;obtain ⟨b',hb',hbi'⟩:=MP he w l r fs (off+s1.length) s2 hs2 hc2 (by omega) (by omega)
    have hiff:(l.drop off=r.drop off)↔((l.drop off).take s1.length=(r.drop off).take s1.length∧l.drop (off+s1.length)=r.drop (off+s1.length)):=by
     constructor
     ·intro h;rw[<-List.drop_drop,<-List.drop_drop,h];exact ⟨rfl,rfl⟩
     ·rintro ⟨g1,g2⟩
      rw[<-List.take_append_drop s1.length (l.drop off),<-List.take_append_drop s1.length (r.drop off),g1,List.drop_drop,List.drop_drop,g2]
    simp only[Op.eqFields,hn,ne_eq,not_false_eq_true,if_true,ho,Sem.run_bind,p1,p2,hb,Result.andThen_ok];rw[hiff]
    cases b with
    | false=>exact ⟨false,by simp,by simp;intro h;exact absurd (hbi.2 h) (by simp)⟩
    | true=>exact ⟨b',by simpa using hb',by rw[hbi'];simp [hbi.1 rfl]⟩
   ·cases hs
  ·cases hs
theorem Wn(dd:Nat):∀(n t:Nat) (s:List Bool),YK P n t=some s->D0u P (dd+n) t s∧∃inf d,P.info? t=some inf∧P.underlying t=some d∧(X6 d=false->s.length=1)
 | 0,_,_,h=>by simp [YK] at h
 | n+1,t,s,h=>by
  have hinfo:∀d,P.underlying t=some d->∃inf,P.info? t=some inf:=fun d hd=>by
   cases hi:P.info? t with
   | none=>simp [Program.underlying,hi] at hd
   | some inf=>exact ⟨inf,rfl⟩
  simp only[YK] at h;split at h
  ·rename_i hu
   cases h
   refine ⟨fun w l r hf=>⟨_,hu,?_⟩,?_⟩
   ·cases hf with
    | bool hf=>
     cases hf
     rename_i a b;exact ⟨a == b,by rw[show dd+(n+1)=(dd+n)+1 from rfl];exact run_equalIn_bool' w (dd+n) t a b hu,by simp⟩
   ·obtain ⟨inf,hi⟩:=hinfo _ hu;exact ⟨inf,_,hi,hu,fun _=>rfl⟩
  ·rename_i k hu
   cases h
   refine ⟨fun w l r hf=>⟨_,hu,?_⟩,?_⟩
   ·cases hf with
    | int hf=>
     cases hf
     rename_i k' a b
     exact ⟨a == b,by rw[show dd+(n+1)=(dd+n)+1 from rfl];exact run_equalIn_int w (dd+n) t k' k a b hu,by simp⟩
   ·obtain ⟨inf,hi⟩:=hinfo _ hu;exact ⟨inf,_,hi,hu,fun _=>rfl⟩
  ·rename_i m e hu
   split at h
   ·rename_i s1 inf hs hi
    split at h
    ·rename_i hsz
     cases h
     obtain ⟨heq,inf',d,hi',hd,h1⟩:=Wn dd n e s1 hs;rw[hi] at hi';cases hi'
     refine ⟨fun w l r hf=>⟨_,hu,?_⟩,?_⟩
     ·obtain ⟨b,hb,hbi⟩:=OM hi hd hsz (fun g=>by rw[hsz];exact h1 g) heq w m 0 l r (by simpa using hf)
      refine ⟨b,?_,by simpa using hbi⟩
      simp only[X6,O2,if_true];rw[show dd+(n+1)=(dd+n)+1 from rfl,run_equalIn_array w (dd+n) _ _ hu hi]
      have:P.cellsOf e=inf.size:=by simp [Program.cellsOf,hi]
      rw[this,List.range_eq_range'];exact hb
     ·obtain ⟨inf,hi⟩:=hinfo _ hu;exact ⟨inf,_,hi,hu,fun g=>by simp [X6] at g⟩
    ·cases h
   ·cases h
  ·rename_i fs hu
   split at h
   ·rename_i hst
    refine ⟨fun w l r hf=>⟨_,hu,?_⟩,?_⟩
    ·obtain ⟨b,hb,hbi⟩:=MP (P:=P) (dd:=dd+n) (sh:=YK P n) (fun t s h=>Wn dd n t s h) w l r fs.toList 0 s h (by simpa using hf) (Nat.zero_le _) (Nat.zero_le _)
     refine ⟨b,?_,by simpa using hbi⟩
     simp only[X6,O2,if_true];have hfo:P.fieldsOf t=fs:=by simp [Program.fieldsOf,hu]
     rw[show dd+(n+1)=(dd+n)+1 from rfl,run_equalIn_struct w (dd+n) t _ _ (by rw[hfo];exact hu) hst,hfo]
     exact hb
    ·obtain ⟨inf,hi⟩:=hinfo _ hu;exact ⟨inf,_,hi,hu,fun g=>by simp [X6] at g⟩
   ·cases h
  ·cases h
end
theorem Vj(n:Nat):A1 n 0=((n % 18446744073709551616:Nat):Int):=by simp [A1]
theorem GH(n i:Nat):A1 n (i+1)=A1 (n / 18446744073709551616) i:=by
 have:2 ^ (64*(i+1))=18446744073709551616*2 ^ (64*i):=by
  rw[Nat.mul_succ,Nat.pow_add,Nat.mul_comm]
 simp only[A1,this,Nat.div_div_eq_div_mul]
theorem A8n{a b:Nat}(ha:a<B4)(hb:b<B4)(h:∀i,i<4->A1 a i=A1 b i):a=b:=by
 have h0:=h 0 (by omega);have h1:=h 1 (by omega);have h2:=h 2 (by omega);have h3:=h 3 (by omega)
 simp only[GH,Vj] at h0 h1 h2 h3;simp only[B4] at ha hb;omega
theorem A8o{a b:Nat}(ha:a<B6)(hb:b<B6)(h:∀i,i<6->A1 a i=A1 b i):a=b:=by
 have h0:=h 0 (by omega);have h1:=h 1 (by omega);have h2:=h 2 (by omega);have h3:=h 3 (by omega);have h4:=h 4 (by omega);have h5:=h 5 (by omega)
 simp only[GH,Vj] at h0 h1 h2 h3 h4 h5;simp only[B6] at ha hb;omega
theorem D0h(o:Ob)(h:o.k=4):o.n<B4:=by
 cases o with
 | fr x=>exact x.isLt
 | s x=>exact Nat.lt_trans (Nat.mod_lt _ A4) (by decide:rN<B4)
 | fp x=>simp [Ob.k] at h
 | p x=>simp [Ob.k] at h
theorem D0i(o:Ob)(h:o.k=6):o.n<B6:=by
 cases o with
 | fp x=>exact x.isLt
 | p x=>exact Nat.lt_trans (Nat.mod_lt _ A4) (by decide:pN<B6)
 | fr x=>simp [Ob.k] at h
 | s x=>simp [Ob.k] at h
theorem Ot{a b:Ob}(ha:a.k=4)(hb:b.k=4):a.cells=b.cells↔a.n=b.n:=by
 constructor
 ·intro h
  refine A8n (D0h a ha) (D0h b hb) fun i hi=>?_
  have:=congrArg (fun l=>l[i]?) h
  simpa [Ob.cells,ha,hb,hi] using this
 ·intro h;simp [Ob.cells,ha,hb,h]
theorem Ou{a b:Ob}(ha:a.k=6)(hb:b.k=6):a.cells=b.cells↔a.n=b.n:=by
 constructor
 ·intro h
  refine A8o (D0i a ha) (D0i b hb) fun i hi=>?_
  have:=congrArg (fun l=>l[i]?) h
  simpa [Ob.cells,ha,hb,hi] using this
 ·intro h;simp [Ob.cells,ha,hb,h]
theorem A4x{N:Nat}(c d x y:Nat)(hx:x<N)(hy:y<N)(h1:c*d % N=1 % N)(h:x*c % N=y*c % N):x=y:=by
 have e:∀z:Nat,z<N->z*c % N*d % N=z:=by
  intro z hz;rw[Nat.mod_mul_mod,Nat.mul_assoc,<-Nat.mul_mod_mod,h1,Nat.mul_mod_mod,Nat.mul_one,Nat.mod_eq_of_lt hz]
 rw[<-e x hx,<-e y hy,h]
def D8v:Nat:=12549076656233958353659347336803947287922716146853412054870763148006372261952
def D8w:Nat:=3231460744492646417066832100176244795738767926513225105051837195607029917124509527734802654356338138714468589979680
theorem D3v{a b:Ob}{r:Bool}(h:Ob.eqb a b=some r):a.k=b.k∧(r=true↔a.cells=b.cells):=by
 cases a<;>cases b<;>simp only[Ob.eqb,Option.some.injEq] at h<;>try (cases h;done)
 ·subst h
  refine ⟨rfl,?_⟩
  rw[Ot rfl rfl];simp [Ob.n,Fin.ext_iff]
 ·rename_i x y
  subst h;refine ⟨rfl,?_⟩
  rw[Ot rfl rfl];simp only[Ob.n,decide_eq_true_eq,Fin.ext_iff];exact ⟨fun e=>by rw[e],fun e=>A4x B4 D8v _ _ x.isLt y.isLt A4 e⟩
 ·subst h
  refine ⟨rfl,?_⟩
  rw[Ou rfl rfl];simp [Ob.n,Fin.ext_iff]
 ·rename_i x y
  subst h;refine ⟨rfl,?_⟩
  rw[Ou rfl rfl];simp only[Ob.n,decide_eq_true_eq,Fin.ext_iff];exact ⟨fun e=>by rw[e],fun e=>A4x B6 D8w _ _ x.isLt y.isLt A4 e⟩
theorem Xu(f g:Nat->Int)(k:IntKind):∀(l:List Nat),Fit (List.replicate l.length true) (l.map fun i=>Value.int k (f i)) (l.map fun i=>Value.int k (g i))
 | []=>.nil
 | _::l=>.int (Xu f g k l)
theorem OL{x:C0}{a b:It}{r:Bool}{ca cb:List Value}(h:B3g a b=some r)(ha:x.D a ca)(hb:x.D b cb):∃s,Ff [a]=some s∧Ff [b]=some s∧Fit s ca cb∧(r=true↔ca=cb):=by
 obtain ⟨da,ha⟩:=ha;obtain ⟨db,hb⟩:=hb
 cases a<;>cases b<;>simp only[B3g] at h<;>try (cases h;done)
 case int.int k a k' b=>
  split at h
  ·rename_i hk
   cases NL hk
   cases h
   have e1:ca=[.int k a]:=by cases da<;>simpa [F8] using ha
   have e2:cb=[.int k b]:=by cases db<;>simpa [F8] using hb
   subst e1;subst e2
   exact ⟨_,rfl,rfl,.int .nil,by simp⟩
  ·cases h
 case ob.ob a b=>
  have e1:ca=a.cells:=by cases da<;>simpa [F8] using ha
  have e2:cb=b.cells:=by cases db<;>simpa [F8] using hb
  subst e1;subst e2
  obtain ⟨hk,hr⟩:=D3v h;refine ⟨List.replicate a.k true,by simp [Ff],by simp [Ff,hk],?_,hr⟩
  have:=Xu (A1 a.n) (A1 b.n) .u64 (List.range a.k)
  simpa [Ob.cells,hk] using this
 all_goals
  cases h
  rename_i a b;have e1:ca=[.bool a]:=by cases da<;>simpa [F8] using ha
  have e2:cb=[.bool b]:=by cases db<;>simpa [F8] using hb
  subst e1;subst e2
  exact ⟨_,rfl,rfl,.bool .nil,by simp⟩
theorem Tj{a:It}{l:List It}{s s' : List Bool}(h:Ff [a]=some s)(h' : Ff l=some s'):Ff (a::l)=some (s++s'):=by
 cases a<;>simp only[Ff,Option.map_some,Option.some.injEq,Option.map_eq_some_iff] at h ⊢<;>try (cases h;done)
 all_goals first
  | (subst h;exact ⟨s',h',by simp⟩)
  | (obtain ⟨_,rfl,rfl⟩:=h;exact ⟨s',h',by simp⟩)
theorem SO{x:C0}:∀{l l' : List It} {r:Bool} {cs cs' : List Value},IZ l l' = some r->C6 x.D l cs->C6 x.D l' cs' -> ∃s,Ff l=some s∧Ff l' = some s∧Fit s cs cs' ∧ (r=true↔cs=cs')
 | [],[],r,cs,cs',h,h1,h2=>by
  simp only[IZ,Option.some.injEq] at h;subst h;simp only[C6] at h1 h2;subst h1;subst h2
  exact ⟨[],rfl,rfl,.nil,by simp⟩
 | [],_::_,r,cs,cs',h,_,_=>by simp [IZ] at h
 | _::_,[],r,cs,cs',h,_,_=>by cases ‹List It›<;>simp [IZ] at h
 | [a],[b],r,cs,cs',h,⟨c1,c2,e1,g1,g2⟩,⟨c1',c2',e2,g1',g2'⟩=>by
  simp only[C6] at g2 g2'
  subst g2;subst g2'
  simp only[List.append_nil] at e1 e2;subst e1;subst e2
  exact OL (by simpa [IZ] using h) g1 g1'
 | [a],b::b' :: l',r,cs,cs',h,_,_=>by
  simp only[IZ] at h;split at h<;>simp_all
 | a::a' :: l,b::l',r,cs,cs',h,⟨c1,c2,e1,g1,g2⟩,⟨c1',c2',e2,g1',g2'⟩=>by
  simp only[IZ] at h;split at h
  ·rename_i r1 r2 hr1 hr2
   cases h
   obtain ⟨s1,k1,k1',f1,q1⟩:=OL hr1 g1 g1';obtain ⟨s2,k2,k2',f2,q2⟩:=SO hr2 g2 g2';subst e1;subst e2
   refine ⟨s1++s2,Tj k1 k2,Tj k1' k2',f1.append f2,?_⟩
   rw[Bool.and_eq_true,q1,q2];constructor
   ·rintro ⟨rfl,rfl⟩;rfl
   ·intro he;exact List.append_inj he (by rw[f1.len.1,f1.len.2])
  ·cases h
end
end
end Go.Proofs.YtifiiigbedjceaaGreat
