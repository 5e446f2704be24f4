/- Parts of a proof, one behind the other: FwA, FwB, FwC, FwE, FwD, FwF, Fm, Fq, Al, Pn, Gp, Jb, Ag, Dw, Q2. No conditions. -/
import Derived.WalkKit
import Derived.WalkSpells
import Derived.WalkLawsBesides
import Derived.KernelRfl
open Go.IntKind (wrap)
namespace Go.Proofs.YtifiiigbedjceaaGreat
noncomputable section
section
def rN:Nat:=52435875175126190479447740508185965837690552500527637822603658699938581184513
def pN:Nat:=4002409555221667393417789825735904156556882819939007885332058136124031650490837864442687629129015664037894272559787
def B4:Nat:=115792089237316195423570985008687907853269984665640564039457584007913129639936
def B6:Nat:=39402006196394479212279040100143613805079739270465446667948293404245721771497210611414266254884915640806627990306816
instance:NeZero rN:=⟨by decide⟩
instance:NeZero pN:=⟨by decide⟩
instance:NeZero B4:=⟨by decide⟩
instance:NeZero B6:=⟨by decide⟩
abbrev Fr:=Fin rN
abbrev Fp:=Fin pN
abbrev U4:=Fin B4
abbrev U6:=Fin B6
def A1(n i:Nat):Int:=((n / 2 ^ (64*i) % 18446744073709551616:Nat):Int)
inductive Ob where
 | fr (x:U4)
 | s (x:Fr)
 | fp (x:U6)
 | p (x:Fp)
def Ob.k:Ob->Nat
 | .fr _=>4
 | .s _=>4
 | .fp _=>6
 | .p _=>6
def Ob.n:Ob->Nat
 | .fr x=>x.val
 | .s x=>x.val*B4 % rN
 | .fp x=>x.val
 | .p x=>x.val*B6 % pN
def Ob.cells(o:Ob):List Value:=(List.range o.k).map fun i=>.int .u64 (A1 o.n i)
def Ob.eqb:Ob->Ob->Option Bool
 | .fr x,.fr y=>some (decide (x=y))
 | .s x,.s y=>some (decide (x=y))
 | .fp x,.fp y=>some (decide (x=y))
 | .p x,.p y=>some (decide (x=y))
 | _,_=>none
structure A0 where
 qm:U4
 ql:U4
 qr:U4
 qo:U4
 qc:U4
 a:Int
 b:Int
 c:Int
structure OpD where
 tag:Int
 a:Int
 b:Int
 c:Int
 n:Int
 k:U4
 ks:List U4
 vars:List Int
structure G0 where
 x:U6
 y:U6
 inf:Bool
structure K5 where
 xa:U6
 xb:U6
 ya:U6
 yb:U6
 inf:Bool
inductive Sq where
 | fr (l:List U4)
 | s (l:List Fr)
 | int (l:List Int)
 | u64 (l:List Int)
 | u8 (l:List Int)
 | gate (l:List A0)
 | op (l:List OpD)
 | g1 (l:List G0)
 | g2 (l:List K5)
 | pt (l:List (Fp×Fp×Fp))
 | pt2 (l:List ((Fp×Fp)×(Fp×Fp)×(Fp×Fp)))
 | place (l:List (Int×Int))
 | frs (l:List (List U4))
 | ints (l:List (List Int))
 | u64s (l:List (List Int))
 | ptt (l:List (List (Fp×Fp×Fp)))
 | dm (l:List (Int×U4))
inductive It where
 | int (k:IntKind) (n:Int)
 | bool (b:Bool)
 | lit (b:Bool)
 | ptr (p off:Nat)
 | ep (p es i off:Nat)
 | slc (p off len es:Nat)
 | sv (p lo len es:Nat)
 | rp (q:Sq) (i off:Nat)
 | sl (q:Sq)
 | vsl (v:Value) (q:Sq)
 | ob (o:Ob)
 | val (v:Value)
 | clo (f:FuncId) (caps:List (Nat×Nat))
 | mp (p:Nat)
 | ifc (t:Nat) (os:List Ob)
 | dead
 | old (len:Nat)
 | arr (p off n es:Nat)
def O0:List Ob->List Value
 | []=>[]
 | o::l=>o.cells++O0 l
def It.size:It->Nat
 | .ob o=>o.k
 | _=>1
def J3:List It->Nat
 | []=>0
 | i::l=>i.size+J3 l
def Sq.n:Sq->Nat
 | .fr l=>l.length
 | .s l=>l.length
 | .int l=>l.length
 | .u64 l=>l.length
 | .u8 l=>l.length
 | .gate l=>l.length
 | .op l=>l.length
 | .g1 l=>l.length
 | .g2 l=>l.length
 | .pt l=>l.length
 | .pt2 l=>l.length
 | .place l=>l.length
 | .frs l=>l.length
 | .ints l=>l.length
 | .u64s l=>l.length
 | .ptt l=>l.length
 | .dm l=>l.length
def Sq.es:Sq->Nat
 | .fr _=>4
 | .s _=>4
 | .int _=>1
 | .u64 _=>1
 | .u8 _=>1
 | .gate _=>23
 | .op _=>11
 | .g1 _=>13
 | .g2 _=>25
 | .pt _=>18
 | .pt2 _=>36
 | .place _=>2
 | .frs _=>1
 | .ints _=>1
 | .u64s _=>1
 | .ptt _=>288
 | .dm _=>5
def A0.its(g:A0):List It:=[.ob (.fr g.qm),.ob (.fr g.ql),.ob (.fr g.qr),.ob (.fr g.qo),.ob (.fr g.qc),.int .i64 g.a,.int .i64 g.b,.int .i64 g.c]
def OpD.its(o:OpD):List It:=[.int .i64 o.tag,.int .i64 o.a,.int .i64 o.b,.int .i64 o.c,.int .i64 o.n,.ob (.fr o.k),.sl (.fr o.ks),.sl (.int o.vars)]
def G0.its(g:G0):List It:=[.ob (.fp g.x),.ob (.fp g.y),.bool g.inf]
def K5.its(g:K5):List It:=[.ob (.fp g.xa),.ob (.fp g.xb),.ob (.fp g.ya),.ob (.fp g.yb),.bool g.inf]
def M5(x:Fp×Fp×Fp):List It:=[.ob (.p x.1),.ob (.p x.2.1),.ob (.p x.2.2)]
def W8(x:(Fp×Fp)×(Fp×Fp)×(Fp×Fp)):List It:=[.ob (.p x.1.1),.ob (.p x.1.2),.ob (.p x.2.1.1),.ob (.p x.2.1.2),.ob (.p x.2.2.1),.ob (.p x.2.2.2)]
def H7:A0:=⟨0,0,0,0,0,0,0,0⟩
def op0:OpD:=⟨0,0,0,0,0,0,[],[]⟩
def g10:G0:=⟨0,0,false⟩
def g20:K5:=⟨0,0,0,0,false⟩
def E7:Fp×Fp×Fp:=(0,0,0)
def J9(l:List (Fp×Fp×Fp)):Nat->Nat->List It
 | _,0=>[]
 | i,n+1=>.ob (.p (l.getD i E7).1) :: .ob (.p (l.getD i E7).2.1) :: .ob (.p (l.getD i E7).2.2)::J9 l (i+1) n
def EN:(Fp×Fp)×(Fp×Fp)×(Fp×Fp):=((0,0),(0,0),(0,0))
def Sq.get:Sq->Nat->List It
 | .fr l,i=>[.ob (.fr (l.getD i 0))]
 | .s l,i=>[.ob (.s (l.getD i 0))]
 | .int l,i=>[.int .i64 (l.getD i 0)]
 | .u64 l,i=>[.int .u64 (l.getD i 0)]
 | .u8 l,i=>[.int .u8 (l.getD i 0)]
 | .gate l,i=>(l.getD i H7).its
 | .op l,i=>(l.getD i op0).its
 | .g1 l,i=>(l.getD i g10).its
 | .g2 l,i=>(l.getD i g20).its
 | .pt l,i=>M5 (l.getD i E7)
 | .pt2 l,i=>W8 (l.getD i EN)
 | .place l,i=>[.int .i64 (l.getD i (0,0)).1,.int .i64 (l.getD i (0,0)).2]
 | .frs l,i=>[.sl (.fr (l.getD i []))]
 | .ints l,i=>[.sl (.int (l.getD i []))]
 | .u64s l,i=>[.sl (.u64 (l.getD i []))]
 | .ptt l,i=>J9 (l.getD i []) 0 16
 | .dm l,i=>[.int .i64 (l.getD i (0,0)).1,.ob (.fr (l.getD i (0,0)).2)]
def Sq.set(q:Sq)(i:Nat)(its:List It):Option Sq:=
 match q,its with
 | .fr l,[.ob (.fr x)]=>some (.fr (l.set i x))
 | .s l,[.ob (.s x)]=>some (.s (l.set i x))
 | .int l,[.int .i64 x]=>some (.int (l.set i x))
 | .u64 l,[.int .u64 x]=>some (.u64 (l.set i x))
 | .u8 l,[.int .u8 x]=>some (.u8 (l.set i x))
 | .gate l,[.ob (.fr x1),.ob (.fr x2),.ob (.fr x3),.ob (.fr x4),.ob (.fr x5),.int .i64 a,.int .i64 b,.int .i64 c]=>some (.gate (l.set i ⟨x1,x2,x3,x4,x5,a,b,c⟩))
 | .op l,[.int .i64 t,.int .i64 a,.int .i64 b,.int .i64 c,.int .i64 n,.ob (.fr k),.sl (.fr ks),.sl (.int vs)]=>some (.op (l.set i ⟨t,a,b,c,n,k,ks,vs⟩))
 | .g1 l,[.ob (.fp x),.ob (.fp y),.bool b]=>some (.g1 (l.set i ⟨x,y,b⟩))
 | .g1 l,[.ob (.fp x),.ob (.fp y),.lit b]=>some (.g1 (l.set i ⟨x,y,b⟩))
 | .g2 l,[.ob (.fp x),.ob (.fp x'),.ob (.fp y),.ob (.fp y'),.bool b]=>some (.g2 (l.set i ⟨x,x',y,y',b⟩))
 | .g2 l,[.ob (.fp x),.ob (.fp x'),.ob (.fp y),.ob (.fp y'),.lit b]=>some (.g2 (l.set i ⟨x,x',y,y',b⟩))
 | .pt l,[.ob (.p x),.ob (.p y),.ob (.p z)]=>some (.pt (l.set i (x,y,z)))
 | .pt2 l,[.ob (.p a),.ob (.p b),.ob (.p c),.ob (.p d),.ob (.p e),.ob (.p f)]=>some (.pt2 (l.set i ((a,b),(c,d),(e,f))))
 | .place l,[.int .i64 a,.int .i64 b]=>some (.place (l.set i (a,b)))
 | _,_=>none
def Rw:Nat->List It->Option (List (Fp×Fp×Fp))
 | 0,[]=>some []
 | n+1,.ob (.p a) :: .ob (.p b) :: .ob (.p c)::r=>match Rw n r with
  | some t=>some ((a,b,c)::t)
  | none=>none
 | _,_=>none
def Sq.push(q:Sq)(its:List It):Option Sq:=
 match q,its with
 | .fr l,[.ob (.fr x)]=>some (.fr (l++[x]))
 | .s l,[.ob (.s x)]=>some (.s (l++[x]))
 | .int l,[.int .i64 x]=>some (.int (l++[x]))
 | .u64 l,[.int .u64 x]=>some (.u64 (l++[x]))
 | .u8 l,[.int .u8 x]=>some (.u8 (l++[x]))
 | .gate l,[.ob (.fr x1),.ob (.fr x2),.ob (.fr x3),.ob (.fr x4),.ob (.fr x5),.int .i64 a,.int .i64 b,.int .i64 c]=>some (.gate (l++[⟨x1,x2,x3,x4,x5,a,b,c⟩]))
 | .op l,[.int .i64 t,.int .i64 a,.int .i64 b,.int .i64 c,.int .i64 n,.ob (.fr k),.sl (.fr ks),.sl (.int vs)]=>some (.op (l++[⟨t,a,b,c,n,k,ks,vs⟩]))
 | .g1 l,[.ob (.fp x),.ob (.fp y),.bool b]=>some (.g1 (l++[⟨x,y,b⟩]))
 | .g1 l,[.ob (.fp x),.ob (.fp y),.lit b]=>some (.g1 (l++[⟨x,y,b⟩]))
 | .g2 l,[.ob (.fp x),.ob (.fp x'),.ob (.fp y),.ob (.fp y'),.bool b]=>some (.g2 (l++[⟨x,x',y,y',b⟩]))
 | .g2 l,[.ob (.fp x),.ob (.fp x'),.ob (.fp y),.ob (.fp y'),.lit b]=>some (.g2 (l++[⟨x,x',y,y',b⟩]))
 | .pt l,[.ob (.p x),.ob (.p y),.ob (.p z)]=>some (.pt (l++[(x,y,z)]))
 | .pt2 l,[.ob (.p a),.ob (.p b),.ob (.p c),.ob (.p d),.ob (.p e),.ob (.p f)]=>some (.pt2 (l++[((a,b),(c,d),(e,f))]))
 | .place l,[.int .i64 a,.int .i64 b]=>some (.place (l++[(a,b)]))
 | .frs l,[.sl (.fr x)]=>some (.frs (l++[x]))
 | .frs l,[.val (.slice none 0 0)]=>some (.frs (l++[[]]))
 | .ints l,[.sl (.int x)]=>some (.ints (l++[x]))
 | .ptt l,its=>match Rw 16 its with
  | some t=>some (.ptt (l++[t]))
  | none=>none
 | _,_=>none
def Sq.cut(q:Sq)(lo n:Nat):Sq:=
 match q with
 | .fr l=>.fr ((l.drop lo).take n)
 | .s l=>.s ((l.drop lo).take n)
 | .int l=>.int ((l.drop lo).take n)
 | .u64 l=>.u64 ((l.drop lo).take n)
 | .u8 l=>.u8 ((l.drop lo).take n)
 | .gate l=>.gate ((l.drop lo).take n)
 | .op l=>.op ((l.drop lo).take n)
 | .g1 l=>.g1 ((l.drop lo).take n)
 | .g2 l=>.g2 ((l.drop lo).take n)
 | .pt l=>.pt ((l.drop lo).take n)
 | .pt2 l=>.pt2 ((l.drop lo).take n)
 | .place l=>.place ((l.drop lo).take n)
 | .frs l=>.frs ((l.drop lo).take n)
 | .ints l=>.ints ((l.drop lo).take n)
 | .u64s l=>.u64s ((l.drop lo).take n)
 | .ptt l=>.ptt ((l.drop lo).take n)
 | .dm l=>.dm ((l.drop lo).take n)
def Sq.app(q q' : Sq):Option Sq:=
 match q,q' with
 | .fr l,.fr l' => some (.fr (l++l'))
 | .s l,.s l' => some (.s (l++l'))
 | .int l,.int l' => some (.int (l++l'))
 | .u64 l,.u64 l' => some (.u64 (l++l'))
 | .u8 l,.u8 l' => some (.u8 (l++l'))
 | .gate l,.gate l' => some (.gate (l++l'))
 | .op l,.op l' => some (.op (l++l'))
 | .g1 l,.g1 l' => some (.g1 (l++l'))
 | .g2 l,.g2 l' => some (.g2 (l++l'))
 | .pt l,.pt l' => some (.pt (l++l'))
 | .pt2 l,.pt2 l' => some (.pt2 (l++l'))
 | .place l,.place l' => some (.place (l++l'))
 | .frs l,.frs l' => some (.frs (l++l'))
 | .ints l,.ints l' => some (.ints (l++l'))
 | .u64s l,.u64s l' => some (.u64s (l++l'))
 | .ptt l,.ptt l' => some (.ptt (l++l'))
 | _,_=>none
inductive V1 where
 | c (i:It)
 | a (l:List It)
inductive SV where
 | v (x:V1)
 | t (l:List V1)
 | top
inductive En where
 | fl (l:List It)
 | sq (q:Sq)
structure St where
 t:Nat->SV
 m:Nat->Option En
 nt:Nat
 nx:Nat
 fr:List ((Nat->SV)×Nat)
theorem A4{p:Prop}[Decidable p](h:decide p=true:=by kernel_rfl):p:=of_decide_eq_true h
theorem C4:True:=trivial
end
section
def rd(w:World)(F:Nat->Prop)(b o:Nat)(cs:List Value):Prop:=
 F b∧∀(j:Nat) (v:Value),cs[j]? = some v->w.cell? ⟨b,o+j,none⟩=some v
def C6(D:It->List Value->Prop):List It->List Value->Prop
 | [],cs=>cs=[]
 | i::l,cs=>∃c1 c2,cs=c1++c2∧D i c1∧C6 D l c2
inductive Kd where
 | no | real | nil
 deriving DecidableEq
structure C0 where
 w:World
 F:Nat->Prop
 k:Nat->Kd
 β:Nat->Nat
def F8(x:C0):Nat->It->List Value->Prop
 | _,.int k n,vs=>vs=[.int k n]
 | _,.bool b,vs=>vs=[.bool b]
 | _,.lit b,vs=>vs=[.bool b]
 | _,.ptr p off,vs=>x.k p = .real∧vs=[.pointer (some ⟨x.β p,off,none⟩)]
 | _,.ep p es i off,vs=>x.k p = .real∧vs=[.pointer (some ⟨x.β p,i*es+off,none⟩)]
 | _,.slc p off len es,vs=>
  (x.k p = .nil∧off=0∧len=0∧vs=[.slice none 0 0]) ∨
  (x.k p = .real∧∃cap cs ty,vs=[.slice (some ⟨x.β p,off,none⟩) len cap]∧len<=cap∧cap<=maxLen∧x.w.heap[x.β p]? = some (.cells cs ty (0,0))∧off+cap*es<=cs.size)
 | _,.sv p lo len es,vs=>
  (len=0∧∃a cap,vs=[.slice a 0 cap]) ∨
  (x.k p = .real∧∃cap,vs=[.slice (some ⟨x.β p,lo*es,none⟩) len cap]∧len<=cap∧cap<=maxLen)
 | _,.ob o,vs=>vs=o.cells
 | _,.val v,vs=>vs=[v]∧v.oneCell' = true
 | _,.dead,vs=>∃v:Value,vs=[v]∧v.oneCell' = true
 | _,.old len,vs=>∃a cap,vs=[.slice a len cap]
 | _,.arr p off n _,vs=>x.k p = .real∧vs=[.slice (some ⟨x.β p,off,none⟩) n n]
 | _,.clo f caps,vs=>(∀c∈caps,x.k c.1 = .real)∧vs=[.func (.func f) #[] (caps.map fun c=>Value.pointer (some ⟨x.β c.1,c.2,none⟩)).toArray]
 | _,.mp p,vs=>x.k p = .real∧vs=[.map (some (x.β p))]
 | _,.ifc t os,vs=>vs=[.iface t (.agg (O0 os).toArray)]
 | 0,.sl _,_=>False
 | 0,.vsl _ _,_=>False
 | 0,.rp _ _ _,_=>False
 | d+1,.sl q,vs=>
  (∃a cap,vs=[.slice a 0 cap]∧q.n=0) ∨
  (∃b o cap,vs=[.slice (some ⟨b,o,none⟩) q.n cap]∧q.n<=cap∧q.n<=maxLen∧∀i,i<q.n->∃cs,C6 (F8 x d) (q.get i) cs∧rd x.w x.F b (o+i*q.es) cs)
 | d+1,.vsl v q,vs=>vs=[v]∧((∃a cap,vs=[.slice a 0 cap]∧q.n=0) ∨
  (∃b o cap,vs=[.slice (some ⟨b,o,none⟩) q.n cap]∧q.n<=cap∧q.n<=maxLen∧∀i,i<q.n->∃cs,C6 (F8 x d) (q.get i) cs∧rd x.w x.F b (o+i*q.es) cs))
 | d+1,.rp q i off,vs=>∃b o cs,vs=[.pointer (some ⟨b,o+off,none⟩)]∧i<q.n∧C6 (F8 x d) (q.get i) cs∧rd x.w x.F b o cs
def C0.D(x:C0)(i:It)(vs:List Value):Prop:=∃d,F8 x d i vs
def Dq(x:C0):V1->Value->Prop
 | .c i,v=>i.size=1∧x.D i [v]
 | .a l,v=>∃cs,v = .agg cs.toArray∧C6 x.D l cs
inductive DV(x:C0):List V1->List Value->Prop
 | nil:DV x [] []
 | cons {a v l vs}:Dq x a v->DV x l vs->DV x (a::l) (v::vs)
def B8(x:C0):SV->Value->Prop
 | .v a,v=>Dq x a v
 | .t l,v=>∃vs,v = .tuple vs.toArray∧DV x l vs
 | .top,_=>True
def C9(x:C0):En->List Value->Prop
 | .fl l,cs=>C6 x.D l cs
 | .sq q,cs=>q.n*q.es<=cs.length∧∀i,i<q.n->∃c,C6 x.D (q.get i) c∧∀(j:Nat) (v:Value),c[j]? = some v->cs[i*q.es+j]? = some v
theorem A0t(o:Ob):o.cells.length=o.k:=by simp [Ob.cells]
theorem NE{x:C0}{d:Nat}{i:It}{vs:List Value}(h:F8 x d i vs):vs.length=i.size:=by
 cases i<;>cases d<;>simp only[F8] at h<;>simp only[It.size]
 all_goals first
  | (subst h;simp [A0t];done)
  | (obtain ⟨h1,rfl⟩:=h;rfl)
  | (obtain ⟨rfl,h1⟩:=h;rfl)
  | (obtain ⟨v,rfl,_⟩:=h;rfl)
  | (rcases h with ⟨_,_,_,rfl⟩ | ⟨_,_,_,_,rfl,_⟩<;>rfl)
  | (rcases h with ⟨_,_,_,rfl⟩ | ⟨_,_,rfl,_⟩<;>rfl)
  | (rcases h with ⟨_,_,rfl,_⟩ | ⟨_,_,_,rfl,_⟩<;>rfl)
  | (obtain ⟨_,_,_,rfl,_⟩:=h;rfl)
  | exact h.elim
theorem P5{x:C0}{d:Nat}:∀{l:List It} {cs:List Value},C6 (F8 x d) l cs->cs.length=J3 l
 | [],cs,h=>by simp only[C6] at h;subst h;rfl
 | i::l,cs,h=>by
  obtain ⟨c1,c2,rfl,h1,h2⟩:=h;simp [J3,NE h1,P5 h2]
theorem F7{D D' : It->List Value->Prop}(h:∀i vs,D i vs->D' i vs):∀{l:List It} {cs:List Value},C6 D l cs->C6 D' l cs
 | [],_,hc=>hc
 | _::_,_,⟨c1,c2,e,h1,h2⟩=>⟨c1,c2,e,h _ _ h1,F7 h h2⟩
theorem ZE{x:C0}:∀(d:Nat) (i:It) (vs:List Value),F8 x d i vs->F8 x (d+1) i vs:=by
  intro d;induction d with
  | zero=>intro i vs h;cases i<;>simp only[F8] at h ⊢<;>first | exact h | exact h.elim
  | succ d ih=>
    intro i vs h
    cases i<;>simp only[F8] at h ⊢
    all_goals first
      | exact h
      | (rcases h with h | ⟨b,o,cap,e,hc,hm,hr⟩
         · exact .inl h
         · refine .inr ⟨b,o,cap,e,hc,hm,fun i hi=>?_⟩
           obtain ⟨cs,h1,h2⟩:=hr i hi;exact ⟨cs,F7 ih h1,h2⟩)
      | (obtain ⟨b,o,cs,e,hi,h1,h2⟩:=h
         exact ⟨b,o,cs,e,hi,F7 ih h1,h2⟩)
      | (obtain ⟨hv,h⟩:=h
         refine ⟨hv,?_⟩
         rcases h with h | ⟨b,o,cap,e,hc,hm,hr⟩
         · exact .inl h
         · refine .inr ⟨b,o,cap,e,hc,hm,fun i hi=>?_⟩
           obtain ⟨cs,h1,h2⟩:=hr i hi;exact ⟨cs,F7 ih h1,h2⟩)
theorem A2t{x:C0}{v:Value}{q:Sq}{vs:List Value}(h:x.D (.vsl v q) vs):vs=[v]∧x.D (.sl q) vs:=by
 obtain ⟨d,h⟩:=h
 cases d with
 | zero=>exact h.elim
 | succ d=>exact ⟨h.1,d+1,h.2⟩
theorem C0e{x:C0}{v:Value}{q:Sq}(h:x.D (.sl q) [v]):x.D (.vsl v q) [v]:=by
 obtain ⟨d,h⟩:=h
 cases d with
 | zero=>exact h.elim
 | succ d=>exact ⟨d+1,rfl,h⟩
theorem BX{x:C0}{d d' : Nat}(h:d<=d'){i:It}{vs:List Value}(hd:F8 x d i vs):F8 x d' i vs:=by
 induction h with
 | refl=>exact hd
 | step _ ih=>exact ZE _ _ _ ih
theorem P4{x:C0}{d:Nat}{l:List It}{cs:List Value}(h:C6 (F8 x d) l cs):C6 x.D l cs:=F7 (fun _ _ h=>⟨d,h⟩) h
theorem M3{x:C0}:∀{l:List It} {cs:List Value},C6 x.D l cs->∃d,C6 (F8 x d) l cs
 | [],_,h=>⟨0,h⟩
 | _::_,_,⟨c1,c2,e,⟨d,h1⟩,h2⟩=>by
  obtain ⟨d',h2⟩:=M3 h2;exact ⟨max d d',c1,c2,e,BX (Nat.le_max_left _ _) h1,F7 (fun _ _ h=>BX (Nat.le_max_right _ _) h) h2⟩
theorem AW{x:C0}{i:It}{vs:List Value}(h:x.D i vs):vs.length=i.size:=by obtain ⟨d,h⟩:=h;exact NE h
structure Ext(x y:C0):Prop where
 size:x.w.heap.size<=y.w.heap.size
 ro:∀b,x.F b->y.F b∧y.w.heap[b]? = x.w.heap[b]?
 k:∀p,x.k p ≠ .no->y.k p=x.k p
 β:∀p,x.k p = .real->y.β p=x.β p
 own:∀p,x.k p = .real->∀cs ty,x.w.heap[x.β p]? = some (.cells cs ty (0,0))->∃cs',y.w.heap[x.β p]? = some (.cells cs' ty (0,0))∧cs'.size=cs.size
theorem Ext.refl(x:C0):Ext x x:=⟨Nat.le_refl _,fun _ h=>⟨h,rfl⟩,fun _ _=>rfl,fun _ _=>rfl,fun _ _ cs _ h=>⟨cs,h,rfl⟩⟩
theorem Ext.trans{x y z:C0}(h:Ext x y)(g:Ext y z):Ext x z where
 size:=Nat.le_trans h.size g.size
 ro b hb:=⟨(g.ro b (h.ro b hb).1).1,(g.ro b (h.ro b hb).1).2.trans (h.ro b hb).2⟩
 k p hp:=(g.k p (by rw[h.k p hp];exact hp)).trans (h.k p hp)
 β p hp:=(g.β p ((h.k p (by simp [hp])).trans hp)).trans (h.β p hp)
 own p hp cs ty hc:=by
  obtain ⟨cs1,h1,s1⟩:=h.own p hp cs ty hc;have hk:=(h.k p (by simp [hp])).trans hp
  have:=g.own p hk cs1 ty (by rw[h.β p hp];exact h1)
  rw[h.β p hp] at this;obtain ⟨cs2,h2,s2⟩:=this;exact ⟨cs2,h2,s2.trans s1⟩
theorem Zs{w w' : World}{b:Nat}(h:w'.heap[b]? = w.heap[b]?)(o:Nat):w'.cell? ⟨b,o,none⟩=w.cell? ⟨b,o,none⟩:=by simp [World.cell?,h]
theorem A1n{x y:C0}(h:Ext x y){b o:Nat}{cs:List Value}(hr:rd x.w x.F b o cs):rd y.w y.F b o cs:=
 ⟨(h.ro b hr.1).1,fun j v hv=>by rw[Zs (h.ro b hr.1).2];exact hr.2 j v hv⟩
theorem C3c{x y:C0}(h:Ext x y):∀(d:Nat) (i:It) (vs:List Value),F8 x d i vs->F8 y d i vs:=by
  intro d;induction d with
  | zero=>
    intro i vs hi
    cases i<;>simp only[F8] at hi ⊢
    all_goals first
      | exact hi
      | (obtain ⟨h1,h2⟩:=hi;exact ⟨(h.k _ (by simp [h1])).trans h1,by rw[h.β _ h1];exact h2⟩)
      | (rcases hi with ⟨h1,h2⟩ | ⟨h1,cap,cs,ty,e,hl,hm,hc,hs⟩
         · exact .inl ⟨(h.k _ (by simp [h1])).trans h1,h2⟩
         · obtain ⟨cs',hc',hs'⟩:=h.own _ h1 cs ty hc
           exact .inr ⟨(h.k _ (by simp [h1])).trans h1,cap,cs',ty,by rw[h.β _ h1];exact e,hl,hm,by rw[h.β _ h1];exact hc',by omega⟩)
      | (rcases hi with hi | ⟨h1,cap,e,hl,hm⟩
         · exact .inl hi
         · exact .inr ⟨(h.k _ (by simp [h1])).trans h1,cap,by rw[h.β _ h1];exact e,hl,hm⟩)
      | (obtain ⟨h1,h2⟩:=hi
         refine ⟨fun c hc=>(h.k _ (by simp [h1 c hc])).trans (h1 c hc),?_⟩
         rw[h2];congr 3
         exact List.map_congr_left fun c hc=>by rw[h.β _ (h1 c hc)])
  | succ d ih=>
    intro i vs hi
    cases i<;>simp only[F8] at hi ⊢
    all_goals first
      | exact hi
      | (obtain ⟨h1,h2⟩:=hi;exact ⟨(h.k _ (by simp [h1])).trans h1,by rw[h.β _ h1];exact h2⟩)
      | (rcases hi with ⟨h1,h2⟩ | ⟨h1,cap,cs,ty,e,hl,hm,hc,hs⟩
         · exact .inl ⟨(h.k _ (by simp [h1])).trans h1,h2⟩
         · obtain ⟨cs',hc',hs'⟩:=h.own _ h1 cs ty hc
           exact .inr ⟨(h.k _ (by simp [h1])).trans h1,cap,cs',ty,by rw[h.β _ h1];exact e,hl,hm,by rw[h.β _ h1];exact hc',by omega⟩)
      | (rcases hi with hi | ⟨h1,cap,e,hl,hm⟩
         · exact .inl hi
         · exact .inr ⟨(h.k _ (by simp [h1])).trans h1,cap,by rw[h.β _ h1];exact e,hl,hm⟩)
      | (obtain ⟨h1,h2⟩:=hi
         refine ⟨fun c hc=>(h.k _ (by simp [h1 c hc])).trans (h1 c hc),?_⟩
         rw[h2];congr 3
         exact List.map_congr_left fun c hc=>by rw[h.β _ (h1 c hc)])
      | (rcases hi with hi | ⟨b,o,cap,e,hc,hm,hr⟩
         · exact .inl hi
         · refine .inr ⟨b,o,cap,e,hc,hm,fun i hi=>?_⟩
           obtain ⟨cs,h1,h2⟩:=hr i hi;exact ⟨cs,F7 ih h1,A1n h h2⟩)
      | (obtain ⟨b,o,cs,e,hi,h1,h2⟩:=hi
         exact ⟨b,o,cs,e,hi,F7 ih h1,A1n h h2⟩)
      | (obtain ⟨hv,hi⟩:=hi
         refine ⟨hv,?_⟩
         rcases hi with hi | ⟨b,o,cap,e,hc,hm,hr⟩
         · exact .inl hi
         · refine .inr ⟨b,o,cap,e,hc,hm,fun i hi=>?_⟩
           obtain ⟨cs,h1,h2⟩:=hr i hi;exact ⟨cs,F7 ih h1,A1n h h2⟩)
theorem WM{x y:C0}(h:Ext x y)(i:It)(vs:List Value)(hd:x.D i vs):y.D i vs:=by
 obtain ⟨d,hd⟩:=hd;exact ⟨d,C3c h d i vs hd⟩
theorem Xd{x y:C0}(h:Ext x y){a:V1}{v:Value}(hv:Dq x a v):Dq y a v:=by
 cases a with
 | c i=>exact ⟨hv.1,WM h _ _ hv.2⟩
 | a l=>obtain ⟨cs,e,hc⟩:=hv;exact ⟨cs,e,F7 (WM h) hc⟩
theorem A7p{x y:C0}(h:Ext x y){l:List V1}{vs:List Value}(hv:DV x l vs):DV y l vs:=by
 induction hv with
 | nil=>exact .nil
 | cons h1 _ ih=>exact .cons (Xd h h1) ih
theorem Ba{x y:C0}(h:Ext x y){s:SV}{v:Value}(hv:B8 x s v):B8 y s v:=by
 cases s with
 | v a=>exact Xd h hv
 | t l=>obtain ⟨vs,e,hc⟩:=hv;exact ⟨vs,e,A7p h hc⟩
 | top=>trivial
theorem K8{x y:C0}(h:Ext x y){e:En}{cs:List Value}(hv:C9 x e cs):C9 y e cs:=by
 cases e with
 | fl l=>exact F7 (WM h) hv
 | sq q=>exact ⟨hv.1,fun i hi=>let ⟨c,h1,h2⟩:=hv.2 i hi;⟨c,F7 (WM h) h1,h2⟩⟩
end
section
structure TyI where
 cells:Nat
 agg:Bool
 bytes:Nat
 zero:List It
 fields:List (Nat×Nat×Bool)
 arr:Option (Nat×Nat)
 slc:Option Nat
 kind:Option IntKind
 esq:Option Sq
 eqk:List Bool
structure Res where
 obl:List Prop
 val:SV
 ups:List (Nat×En)
 kill:Option Nat
abbrev B2:=List SV->Option (List Prop×SV×List En)
abbrev Zj:=List SV->(Nat->Option En)->Option (List Prop×SV×List (Nat×En))
structure D6 where
 ty:Nat->Option TyI
 fn:Nat->Option B2
 mu:Nat->Option Zj
 inl:Nat->Option Func
 ex:Nat->Option Nat
 inv:Nat->Option (List (String×Nat))
def A5:List Prop->Prop
 | []=>True
 | p::l=>p∧A5 l
theorem D7{l l' : List Prop}:A5 (l++l')↔A5 l∧A5 l' := by
 induction l with
 | nil=>simp [A5]
 | cons p l ih=>simp [A5,ih,and_assoc]
def Dl:Nat->List It->Option (List It)
 | 0,_=>some []
 | _+1,[]=>none
 | n+1,i::l=>if i.size<=n+1 then (Dl (n+1-i.size) l).map (i :: ·) else none
def BI:Nat->List It->Option (List It)
 | 0,l=>some l
 | _+1,[]=>none
 | n+1,i::l=>if i.size<=n+1 then BI (n+1-i.size) l else none
def OB(off n:Nat)(l:List It):Option (List It):=
 match BI off l with
 | some r=>Dl n r
 | none=>none
def JM(off:Nat)(new l:List It):Option (List It):=
 match Dl off l,BI (off+J3 new) l with
 | some a,some b=>some (a++new++b)
 | _,_=>none
def B7r(o:Ob):List It:=(List.range o.k).map fun i=>.int .u64 (A1 o.n i)
def GA:List It->List It
 | []=>[]
 | .ob o::l=>B7r o++GA l
 | i::l=>i::GA l
def Dp(off n:Nat)(l:List It):Option (List It):=
 match OB off n l with
 | some r=>some r
 | none=>OB off n (GA l)
def Em(off:Nat)(new l:List It):Option (List It):=
 match JM off new l with
 | some r=>some r
 | none=>JM off new (GA l)
def mkV(agg:Bool)(l:List It):Option V1:=
 match agg,l with
 | true,l=>some (.a l)
 | false,[i]=>some (.c i)
 | _,_=>none
def V1.its:V1->List It
 | .c i=>[i]
 | .a l=>l
def E1(op:BinOp)(k:IntKind)(x y:Int):Int:=
 match op with
 | .and=>k.wrap ((BitVec.ofInt k.bits x &&& BitVec.ofInt k.bits y).toNat:Int)
 | .or=>k.wrap ((BitVec.ofInt k.bits x ||| BitVec.ofInt k.bits y).toNat:Int)
 | .xor=>k.wrap ((BitVec.ofInt k.bits x ^^^ BitVec.ofInt k.bits y).toNat:Int)
 | _=>k.wrap ((BitVec.ofInt k.bits x &&& ~~~ BitVec.ofInt k.bits y).toNat:Int)
def Oa(op:BinOp)(k:IntKind)(a b:Int):Option (List Prop×It):=
 match op with
 | .add=>some ([],.int k (k.wrap (a+b)))
 | .sub=>some ([],.int k (k.wrap (a-b)))
 | .mul=>some ([],.int k (k.wrap (a*b)))
 | .quo=>some ([b≠0],.int k (k.wrap (a.tdiv b)))
 | .rem=>some ([b≠0],.int k (a.tmod b))
 | .and=>some ([],.int k (E1 .and k a b))
 | .or=>some ([],.int k (E1 .or k a b))
 | .xor=>some ([],.int k (E1 .xor k a b))
 | .andNot=>some ([],.int k (E1 .andNot k a b))
 | .shl=>some ([0<=b],.int k (k.wrap (a*2 ^ (min b.toNat k.bits))))
 | .shr=>some ([0<=b],.int k (a.fdiv (2 ^ (min b.toNat k.bits))))
 | .eql=>some ([],.bool (a == b))
 | .neq=>some ([],.bool (a != b))
 | .lss=>some ([],.bool (a<b))
 | .leq=>some ([],.bool (a<=b))
 | .gtr=>some ([],.bool (a > b))
 | .geq=>some ([],.bool (a >= b))
def IntKind.same:IntKind->IntKind->Bool
 | .i8,.i8 | .i16,.i16 | .i32,.i32 | .i64,.i64 | .u8,.u8 | .u16,.u16 | .u32,.u32 | .u64,.u64=>true
 | _,_=>false
def B3g:It->It->Option Bool
 | .int k a,.int k' b=>if IntKind.same k k' then some (a == b) else none
 | .bool a,.bool b=>some (a == b)
 | .lit a,.bool b=>some (a == b)
 | .bool a,.lit b=>some (a == b)
 | .lit a,.lit b=>some (a == b)
 | .ob a,.ob b=>Ob.eqb a b
 | _,_=>none
def IZ:List It->List It->Option Bool
 | [],[]=>some true
 | [a],[b]=>B3g a b
 | a::l,b::l' =>
  match B3g a b,IZ l l' with
  | some x,some y=>some (x && y)
  | _,_=>none
 | _,_=>none
def Ff:List It->Option (List Bool)
 | []=>some []
 | .int _ _::l=>(Ff l).map (true :: ·)
 | .bool _::l=>(Ff l).map (false :: ·)
 | .lit _::l=>(Ff l).map (false :: ·)
 | .ob o::l=>(Ff l).map (List.replicate o.k true ++ ·)
 | _=>none
def Ti:BinOp->Option Bool
 | .eql=>some true
 | .neq=>some false
 | _=>none
def ZS:List It->Bool
 | [.val (.pointer none)]=>true
 | _=>false
def Vx(env:D6)(op:BinOp)(xt:Nat)(b:Bool):Option (List Prop×It):=
 match Ti op,env.ty xt with
 | some e,some i=>if !i.agg && ZS i.zero then some ([],.lit (if e then b else !b)) else none
 | _,_=>none
def D8d(s t:ByteArray):ByteArray:=Classical.choose (⟨s++t,rfl⟩:∃u,u=s++t)
theorem C2u(s t:ByteArray):D8d s t=s++t:=Classical.choose_spec (⟨s++t,rfl⟩:∃u,u=s++t)
def B3b(s:ByteArray)(n:Nat):ByteArray:=Classical.choose (⟨s.extract n s.size,rfl⟩:∃u,u=s.extract n s.size)
theorem B3c(s:ByteArray)(n:Nat):B3b s n=s.extract n s.size:=Classical.choose_spec (⟨s.extract n s.size,rfl⟩:∃u,u=s.extract n s.size)
def C0j(l:List Int):ByteArray:=Classical.choose (⟨⟨(l.map fun n=>UInt8.ofNat n.toNat).toArray⟩,rfl⟩:∃u:ByteArray,u=⟨(l.map fun n=>UInt8.ofNat n.toNat).toArray⟩)
theorem C0k(l:List Int):C0j l=⟨(l.map fun n=>UInt8.ofNat n.toNat).toArray⟩:=Classical.choose_spec (⟨⟨(l.map fun n=>UInt8.ofNat n.toNat).toArray⟩,rfl⟩:∃u:ByteArray,u=⟨(l.map fun n=>UInt8.ofNat n.toNat).toArray⟩)
def A2e(op:BinOp)(s t:ByteArray):Option (List Prop×It):=
 match op with
 | .add=>some ([s.size+t.size<=1152921504606846976],.val (.string (D8d s t)))
 | .eql=>some ([],.bool (s.toList == t.toList))
 | .neq=>some ([],.bool (!(s.toList == t.toList)))
 | _=>none
def D2b:List It->Bool
 | [.val (.string _)]=>true
 | _=>false
def TyI.isStr(i:TyI):Bool:=!i.agg && D2b i.zero
def Zp(env:D6)(op:BinOp)(xt:Nat)(x y:SV):Option (List Prop×It):=
 match x,y with
 | .v (.c (.int k a)),.v (.c (.int k' b))=>
  match op with
  | .shl=>Oa .shl k a b
  | .shr=>Oa .shr k a b
  | op=>if IntKind.same k k' then Oa op k a b else none
 | .v (.c (.ptr _ _)),.v (.c (.val (.pointer none)))=>Vx env op xt false
 | .v (.c (.val (.pointer none))),.v (.c (.val (.pointer none)))=>Vx env op xt true
 | .v (.c (.val (.string s))),.v (.c (.val (.string t)))=>A2e op s t
 | .v (.c a),.v (.c b)=>
  match Ti op,env.ty xt,B3g a b with
  | some e,some i,some r=>if !i.agg && (Ff [a] == some i.eqk) && (Ff [b] == some i.eqk) then some ([],.bool (if e then r else !r)) else none
  | _,_,_=>none
 | .v (.a a),.v (.a b)=>
  match Ti op,env.ty xt,IZ a b with
  | some e,some i,some r=>if i.agg && !i.eqk.isEmpty && (Ff a == some i.eqk) && (Ff b == some i.eqk) then some ([],.bool (if e then r else !r)) else none
  | _,_,_=>none
 | _,_=>none
def u64s:List It->Option (List Int)
 | []=>some []
 | .int .u64 n::l=>(u64s l).map (n :: ·)
 | _=>none
def B1v:List It->Option Sq
 | [.ob (.fr x)]=>some (.fr [x])
 | [.sl (.fr l)]=>some (.frs [l])
 | [.int .i64 n]=>some (.int [n])
 | [.int .i64 n,.ob (.fr w)]=>some (.dm [(n,w)])
 | _=>none
def A9u(m:Nat->Option En):It->Option (List Prop×It)
 | .int k n=>some ([],.int k n)
 | .bool b=>some ([],.bool b)
 | .lit b=>some ([],.lit b)
 | .ob o=>some ([],.ob o)
 | .val v=>some ([],.val v)
 | .sl q=>some ([],.sl q)
 | .rp q i off=>some ([],.rp q i off)
 | .clo f []=>some ([],.clo f [])
 | .slc p off len es=>
  match m p with
  | some (.sq q)=>some ([off=0,len=q.n,es=q.es],.sl q)
  | some (.fl l)=>
   match es,OB off len (GA l) with
   | 1,some r=>match u64s r with
    | some ns=>some ([],.sl (.u64 ns))
    | none=>none
   | _,_=>none
  | none=>none
 | .sv p lo len es=>
  match m p with
  | some (.sq q)=>some ([lo+len<=q.n,es=q.es],.sl (q.cut lo len))
  | _=>none
 | .ptr p off=>
  match m p with
  | some (.fl l)=>match B1v l with
   | some q=>some ([],.rp q 0 off)
   | none=>none
  | _=>none
 | _=>none
def Yx(m:Nat->Option En):List It->Option (List Prop×List It)
 | []=>some ([],[])
 | i::l=>
  match A9u m i,Yx m l with
  | some (o,i),some (o',l)=>some (o++o',i::l)
  | _,_=>none
def D5n(m:Nat->Option En):SV->Option (List Prop×SV)
 | .v (.c i)=>match A9u m i with
  | some (o,i)=>some (o,.v (.c i))
  | none=>none
 | .v (.a l)=>match Yx m l with
  | some (o,l)=>some (o,.v (.a l))
  | none=>none
 | _=>none
def MZ(m:Nat->Option En):List SV->Option (List Prop×List SV)
 | []=>some ([],[])
 | a::l=>
  match D5n m a,MZ m l with
  | some (o,a),some (o',l)=>some (o++o',a::l)
  | _,_=>none
def Ix(p:Nat):It->It
 | .slc q off len es=>.slc (p+q) off len es
 | .sv q lo len es=>.sv (p+q) lo len es
 | .ptr q off=>.ptr (p+q) off
 | .ep q es i off=>.ep (p+q) es i off
 | .mp q=>.mp (p+q)
 | .arr q off n es=>.arr (p+q) off n es
 | .clo f c=>.clo f (c.map fun x=>(p+x.1,x.2))
 | i=>i
def shV(p:Nat):V1->V1
 | .c i=>.c (Ix p i)
 | .a l=>.a (l.map (Ix p))
def D6h(p:Nat):SV->SV
 | .v a=>.v (shV p a)
 | .t l=>.t (l.map (shV p))
 | .top=>.top
def B0e(p:Nat):En->En
 | .fl l=>.fl (l.map (Ix p))
 | .sq q=>.sq q
def AM(p:Nat):List En->List (Nat×En)
 | []=>[]
 | e::l=>(p,e)::AM (p+1) l
def Gt:Value->SV
 | .int k n=>.v (.c (.int k n))
 | .bool b=>.v (.c (.lit b))
 | .slice none 0 0=>.v (.c (.val (.slice none 0 0)))
 | .string s=>.v (.c (.val (.string s)))
 | .map none=>.v (.c (.val (.map none)))
 | .pointer none=>.v (.c (.val (.pointer none)))
 | _=>.top
def St.ev(σ:St):Operand->SV
 | .tmp t=>σ.t t
 | .const v=>Gt v
 | .global _=>.top
 | .func f=>.v (.c (.clo f []))
def XF:SV->Option (IntKind×Int)
 | .v (.c (.int k n))=>some (k,n)
 | _=>none
def GL(m:Nat->Option En)(a:SV)(i:TyI):Option (List Prop×V1):=
 match a with
 | .v (.c (.ptr p off))=>
  match m p with
  | some (.fl l)=>
   match i.agg,l with
   | false,[.ob o]=>some ([off<o.k],.c (.int .u64 (A1 o.n off)))
   | agg,l=>match Dp off i.cells l with
    | some r=>(mkV agg r).map fun v=>([],v)
    | none=>none
  | some (.sq q)=>
   if q.es=1 && i.cells=1 then (mkV i.agg (q.get off)).map fun v=>([off<q.n],v)
   else if off=0 && q.es=i.cells then (mkV i.agg (q.get 0)).map fun v=>([0<q.n],v) else none
  | _=>none
 | .v (.c (.ep p es ix off))=>
  match m p with
  | some (.sq q)=>
   if q.es=es then
    match i.agg,q.get ix with
    | false,[.ob o]=>some ([ix<q.n,off<o.k],.c (.int .u64 (A1 o.n off)))
    | agg,l=>match Dp off i.cells l with
     | some r=>(mkV agg r).map fun v=>([ix<q.n],v)
     | none=>none
   else none
  | _=>none
 | .v (.c (.rp q ix off))=>
  match Dp off i.cells (q.get ix) with
  | some r=>(mkV i.agg r).map fun v=>([],v)
  | none=>none
 | _=>none
def Gj(m:Nat->Option En)(a x:SV)(i:TyI):Option (List Prop×List (Nat×En)):=
 match x with
 | .v v=>
  if J3 v.its=i.cells then
   match a with
   | .v (.c (.ptr p off))=>
    match m p with
    | some (.fl l)=>(Em off v.its l).map fun r=>([],[(p,.fl r)])
    | some (.sq q)=>if q.es=1 && i.cells=1 then (q.set off v.its).map fun r=>([off<q.n],[(p,.sq r)]) else none
    | none=>none
   | .v (.c (.ep p es ix off))=>
    match m p with
    | some (.sq q)=>
     if q.es=es then
      match Em off v.its (q.get ix) with
      | some r=>(q.set ix r).map fun r=>([ix<q.n],[(p,.sq r)])
      | none=>none
     else none
    | _=>none
   | _=>none
  else none
 | _=>none
def Ph(a:SV)(fo:Nat):Option It:=
 match a with
 | .v (.c (.ptr p off))=>some (.ptr p (off+fo))
 | .v (.c (.ep p es ix off))=>some (.ep p es ix (off+fo))
 | .v (.c (.rp q ix off))=>some (.rp q ix (off+fo))
 | _=>none
def Ee(m:Nat->Option En)(x:SV)(i:Int)(arr:Option Nat)(es:Nat):Option (List Prop×It):=
 match arr,x with
 | none,.v (.c (.slc p off len es'))=>
  if es' = es then
   match m p with
   | some (.sq q)=>if q.es=es then some ([0<=i,i<len,off=0],.ep p es i.toNat 0) else none
   | some (.fl _)=>some ([0<=i,i<len],.ptr p (off+i.toNat*es))
   | none=>none
  else none
 | none,.v (.c (.sl q))=>if q.es=es then some ([0<=i,i<q.n],.rp q i.toNat 0) else none
 | none,.v (.c (.vsl _ q))=>if q.es=es then some ([0<=i,i<q.n],.rp q i.toNat 0) else none
 | some n,.v (.c (.ptr p off))=>
  match m p with
  | some (.sq q)=>if q.es=es then some ([0<=i,i<n,off=0],.ep p es i.toNat 0) else none
  | some (.fl _)=>some ([0<=i,i<n],.ptr p (off+i.toNat*es))
  | none=>none
 | some n,.v (.c (.ep p es' ix off))=>some ([0<=i,i<n],.ep p es' ix (off+i.toNat*es))
 | some n,.v (.c (.rp q ix off))=>some ([0<=i,i<n],.rp q ix (off+i.toNat*es))
 | _,_=>none
def HV:Option SV->Option (Option Int)
 | none=>some none
 | some x=>(XF x).map fun y=>some y.2
def Eu(m:Nat->Option En)(x:SV)(lo hi:Option Int)(arr:Option Nat)(es:Nat):Option (List Prop×It):=
 match arr,x with
 | some n,.v (.c (.ptr p off))=>
  match (match m p with | some (.fl l)=>if off+n*es<=J3 l then some [] else none | some (.sq q)=>if q.es=es then some [off=0,n<=q.n] else none | none=>(none:Option (List Prop))) with
  | some o=>
   match lo,hi with
   | none,none=>if n<=4096 then some (o,if es=13 then .arr p off n es else .slc p off n es) else none
   | none,some h=>if n<=4096 then some ((0<=h)::(h<=n)::o,.slc p off h.toNat es) else none
   | _,_=>none
  | none=>none
 | none,.v (.c (.slc p off len es'))=>
  match lo,hi with
  | none,none=>some ([],.slc p off len es')
  | none,some h=>some ([off=0,es' = es,0<=h,h<=len],if es=11 then .slc p 0 h.toNat es else .sv p 0 h.toNat es)
  | some l,none=>some ([off=0,es' = es,0<=l,l<=len],.sv p l.toNat (len-l.toNat) es)
  | some l,some h=>some ([off=0,es' = es,0<=l,l<=h,h<=len],.sv p l.toNat (h.toNat-l.toNat) es)
 | none,.v (.c (.sl q))=>
  if q.es=es then
   match lo,hi with
   | none,none=>some ([],.sl q)
   | none,some h=>some ([0<=h,h<=q.n],.sl (q.cut 0 h.toNat))
   | some l,none=>some ([0<=l,l<=q.n],.sl (q.cut l.toNat (q.n-l.toNat)))
   | some l,some h=>some ([0<=l,l<=h,h<=q.n],.sl (q.cut l.toNat (h.toNat-l.toNat)))
  else none
 | _,_=>none
def KB:Sq->Nat->Option Sq
 | .fr _,n=>some (.fr (List.replicate n 0))
 | .s _,n=>some (.s (List.replicate n 0))
 | .int _,n=>some (.int (List.replicate n 0))
 | .u64 _,n=>some (.u64 (List.replicate n 0))
 | .u8 _,n=>some (.u8 (List.replicate n 0))
 | .gate _,n=>some (.gate (List.replicate n H7))
 | .g1 _,n=>some (.g1 (List.replicate n g10))
 | .g2 _,n=>some (.g2 (List.replicate n g20))
 | .pt _,n=>some (.pt (List.replicate n E7))
 | .pt2 _,n=>some (.pt2 (List.replicate n EN))
 | .place _,n=>some (.place (List.replicate n (0,0)))
 | .frs _,n=>some (.frs (List.replicate n []))
 | .ints _,n=>some (.ints (List.replicate n []))
 | _,_=>none
def AU(q:Sq):List (List It)->Option Sq
 | []=>some q
 | x::l=>match q.push x with
  | some q=>AU q l
  | none=>none
def CY:Nat->List (Nat×SV)->Option (List (List It))
 | _,[]=>some []
 | n,(i,.v v)::l=>if i=n then (CY (n+1) l).map (v.its :: ·) else none
 | _,_=>none
def NJ(fields:List (Nat×Nat×Bool))(arr:Option (Nat×Nat))(i:Nat):Option (Nat×Nat):=
 match arr with
 | some (_,es)=>some (i*es,es)
 | none=>(fields[i]?).map fun f=>(f.1,f.2.1)
def AY(fields:List (Nat×Nat×Bool))(arr:Option (Nat×Nat))(l:List It):List (Nat×SV)->Option (List It)
 | []=>some l
 | (i,.v v)::r=>
  match NJ fields arr i with
  | some (off,size)=>if J3 v.its=size then
    match Em off v.its l with
    | some l=>AY fields arr l r
    | none=>none
   else none
  | none=>none
 | _=>none
def JF:List It->Option Nat
 | []=>some 0
 | .int .u64 a::l=>(JF l).map fun n=>a.toNat+18446744073709551616*n
 | _=>none
def Jr:List It->List Prop
 | .int .u64 a::l=>(0<=a)::(a<18446744073709551616)::Jr l
 | _=>[]
def Oc(z l:List It):List Prop×List It:=
 match z,l with
 | [.ob (.fr _)],[.int .u64 a,.int .u64 b,.int .u64 c,.int .u64 d]=>
  match JF [.int .u64 a,.int .u64 b,.int .u64 c,.int .u64 d] with
  | some n=>(Jr [.int .u64 a,.int .u64 b,.int .u64 c,.int .u64 d],[.ob (.fr (Fin.ofNat B4 n))])
  | none=>([],l)
 | [.ob (.fp _)],[.int .u64 a,.int .u64 b,.int .u64 c,.int .u64 d,.int .u64 e,.int .u64 f]=>
  match JF [.int .u64 a,.int .u64 b,.int .u64 c,.int .u64 d,.int .u64 e,.int .u64 f] with
  | some n=>(Jr [.int .u64 a,.int .u64 b,.int .u64 c,.int .u64 d,.int .u64 e,.int .u64 f],[.ob (.fp (Fin.ofNat B6 n))])
  | none=>([],l)
 | _,l=>([],l)
def Oq:List SV->Option (List (Nat×Nat))
 | []=>some []
 | .v (.c (.ptr p off))::l=>(Oq l).map ((p,off) :: ·)
 | _=>none
def B5y:List SV->Option It
 | [.v (.c (.int k a)),.v (.c (.int _ b))]=>some (.int k (if b<a then b else a))
 | [.v (.c (.int k a)),.v (.c (.int _ b)),.v (.c (.int _ c))]=>some (.int k (if c<(if b<a then b else a) then c else (if b<a then b else a)))
 | _=>none
def B5m:List SV->Option It
 | [.v (.c (.int k a)),.v (.c (.int _ b))]=>some (.int k (if b > a then b else a))
 | _=>none
def Cb:List SV->Option It
 | [.v (.c (.slc _ _ len _))]=>some (.int .i64 len)
 | [.v (.c (.sl q))]=>some (.int .i64 q.n)
 | [.v (.c (.vsl _ q))]=>some (.int .i64 q.n)
 | [.v (.c (.val (.slice none 0 0)))]=>some (.int .i64 0)
 | [.v (.c (.old len))]=>some (.int .i64 len)
 | _=>none
def Dx:List SV->Option Nat
 | [.v (.c (.val (.string s)))]=>some s.size
 | _=>none
def WV(es:Nat):Nat->List It->Option (List (List It))
 | 0,_=>some []
 | n+1,l=>match Dl es l,BI es l with
  | some a,some b=>(WV es n b).map (a :: ·)
  | _,_=>none
def A2y(m:Nat->Option En)(e:Sq)(p off n es:Nat):Option Sq:=
 match m p with
 | some (.fl l)=>match BI off l with
  | some r=>match WV es n r with
   | some cs=>if e.es=es then AU e cs else none
   | none=>none
  | none=>none
 | _=>none
def NZ(m:Nat->Option En)(e:Sq):SV->Option (List Prop×Sq)
 | .v (.c (.sl q))=>some ([],q)
 | .v (.c (.val (.slice none 0 0)))=>some ([],e)
 | .v (.c (.slc p off len _))=>match m p with
  | some (.sq q)=>if off=0 then some ([len=q.n],q) else none
  | _=>none
 | .v (.c (.arr p off n es))=>(A2y m e p off n es).map fun q=>([],q)
 | _=>none
def NY(m:Nat->Option En)(p:Nat)(i:TyI)(e:Sq)(s x:SV):Option Res:=
 match NZ m e x with
 | some (o,q')=>
  match s with
  | .v (.c (.val (.slice none 0 0)))=>
   match e.app q' with
   | some r=>some ⟨(q'.n*i.bytes<=140737488355328)::(q'.n<=maxLen)::o,.v (.c (.slc p 0 q'.n e.es)),[(p,.sq r)],none⟩
   | none=>none
  | .v (.c (.slc p' off len es))=>
   match m p' with
   | some (.sq q)=>
    match q.app q' with
    | some r=>if off=0∧es=q.es∧q.es=e.es then some ⟨((q.n+q'.n)*i.bytes<=140737488355328)::(q.n+q'.n<=maxLen)::(len=q.n)::o,.v (.c (.slc p' 0 (q.n+q'.n) es)),[(p',.sq r)],some p'⟩ else none
    | none=>none
   | _=>none
  | .v (.c (.arr p' off n es))=>
   match A2y m e p' off n es with
   | some q=>
    match q.app q' with
    | some r=>some ⟨((n+q'.n)*i.bytes<=140737488355328)::(n+q'.n<=maxLen)::(0<q'.n)::o,.v (.c (.slc p 0 (n+q'.n) e.es)),[(p,.sq r)],none⟩
    | none=>none
   | none=>none
  | _=>none
 | none=>none
def ND(m:Nat->Option En)(e:Sq):List SV->Option (List Prop×Int×List (Nat×En))
 | [.v (.c (.slc p off len es)),x]=>
  match m p with
  | some (.sq q)=>match NZ m e x with
   | some (o,q')=>match q'.app (q.cut q'.n (q.n-q'.n)) with
    | some r=>if off=0∧es=q.es∧q.es=e.es then some ((len=q.n)::(q'.n<=q.n)::o,q'.n,[(p,.sq r)]) else none
    | none=>none
   | none=>none
  | some (.fl l)=>match D5n m x with
   | some (o,.v (.c (.sl (.u64 ns))))=>match Em off (ns.map fun n=>It.int .u64 n) l with
    | some r=>if es=1∧e.es=1∧ns.length=len then some (o,len,[(p,.fl r)]) else none
    | none=>none
   | _=>none
  | none=>none
 | _=>none
def IM(m:Nat->Option En)(e:Sq):List SV->Option (List Prop×List (Nat×En))
 | [.v (.c (.slc p off len es))]=>
  match m p with
  | some (.sq q)=>match KB e q.n with
   | some z=>if off=0∧es=q.es∧q.es=e.es then some ([len=q.n],[(p,.sq z)]) else none
   | none=>none
  | _=>none
 | _=>none
def H8(m:Nat->Option En):List (Nat×En)->Nat->Option En
 | []=>m
 | (p,e)::l=>H8 (fun q=>if q=p then some e else m q) l
def A0m:Sq->Bool
 | .op _ | .frs _ | .ints _ | .u64s _=>false
 | _=>true
def Dz:It->Bool
 | .sl _ | .vsl _ _ | .rp _ _ _=>false
 | _=>true
def B7e:V1->Bool
 | .c i=>Dz i
 | .a l=>l.all Dz
def A5b:SV->Bool
 | .v a=>B7e a
 | .t l=>l.all B7e
 | .top=>true
def Vz:En->Bool
 | .fl l=>l.all Dz
 | .sq q=>A0m q
def F4:It->Bool
 | .int _ _ | .bool _ | .lit _ | .ob _ | .val _ | .sl _ | .vsl _ _ | .rp _ _ _ | .clo _ [] | .ifc _ _=>true
 | _=>false
def A5k:SV->Bool
 | .v (.c i)=>F4 i
 | .v (.a l)=>l.all F4
 | _=>false
def BH(env:D6)(m:Nat->Option En)(p:Nat)(f:Nat)(args:List SV):Option Res:=
 match env.fn f with
 | some spec=>
  match MZ m args with
  | some (o,as)=>
   match spec as with
   | some (o',r,es)=>if es.length<=16 && (args.all A5k || (A5b r && es.all Vz)) then some ⟨o++o',D6h p r,AM p (es.map (B0e p)),none⟩ else none
   | none=>none
  | none=>none
 | none=>
  match env.mu f with
  | some spec=>
   match spec args m with
   | some (o,r,ups)=>some ⟨o,r,ups,none⟩
   | none=>none
  | none=>none
def A5i:List It->Option (List Ob)
 | []=>some []
 | .ob o::l=>(A5i l).map (o :: ·)
 | _=>none
def BB(name:String):List (String×Nat)->Option Nat
 | []=>none
 | (n,g)::l=>if n=name then some g else BB name l
def UZ(env:D6)(m:Nat->Option En)(p:Nat)(recv:SV)(name:String)(args:List SV):Option Res:=
 match recv with
 | .v (.c (.ifc t os))=>
  match env.inv t with
  | some l=>
   match BB name l with
   | some g=>
    match env.fn g with
    | some _=>BH env m p g (.v (.a (os.map .ob))::args)
    | none=>none
   | none=>none
  | none=>none
 | _=>none
def Om(env:D6)(m:Nat->Option En)(p:Nat)(f:Operand)(g:Nat)(args:List SV):Option Res:=
 match f with
 | .func _=>BH env m p g args
 | _=>match env.fn g with
  | some _=>BH env m p g args
  | none=>none
def A3(k:Nat)(x y c:Int):Int×Int:=
 match k with
 | 0=>((x+y+c) % 18446744073709551616,(x+y+c) / 18446744073709551616)
 | _=>((x-y-c) % 18446744073709551616,if x<y+c then 1 else 0)
def OQ(k:Nat)(args:List SV):Option Res:=
 match args with
 | [.v (.c (.int .u64 x)),.v (.c (.int .u64 y)),.v (.c (.int .u64 c))]=>some ⟨[0<=x,0<=y,y<18446744073709551616,0<=c,c<=1],.t [.c (.int .u64 (A3 k x y c).1),.c (.int .u64 (A3 k x y c).2)],[],none⟩
 | _=>none
def pureV(i:It):Option Res:=some ⟨[],.v (.c i),[],none⟩
def Nn(r:Option (List Prop×It)):Option Res:=r.map fun x=>⟨x.1,.v (.c x.2),[],none⟩
def I8(env:D6)(ρ:Operand->SV)(m:Nat->Option En)(p:Nat)(o:Oper):Option Res:=
  match o.op with
  | .move x=>some ⟨[],ρ x,[],none⟩
  | .assign x=>some ⟨[],ρ x,[],none⟩
  | .pick c a b=>match ρ c with
    | .v (.c (.lit d))=>some ⟨[],if d then ρ a else ρ b,[],none⟩
    | _=>none
  | .alloc t=>match env.ty t with
    | some i=>some ⟨[],.v (.c (.ptr p 0)),[(p,.fl i.zero)],none⟩
    | none=>none
  | .box _ x=>match ρ x with
    | .v v=>some ⟨[],.v (.c (.ptr p 0)),[(p,.fl v.its)],none⟩
    | _=>none
  | .build t parts=>match env.ty t with
    | some i=>
      match (match i.arr with | some (n,e)=>(env.ty e).map fun (ie:TyI)=>some (n,ie.cells) | none=>some none) with
      | some arr=>
        match AY i.fields arr i.zero (parts.toList.map fun (x:Nat×Operand)=>(x.1,ρ x.2)) with
        | some l=>if i.agg then (match Oc i.zero l with | (ob,l)=>some ⟨ob,.v (.a l),[],none⟩) else none
        | none=>none
      | none=>none
    | none=>none
  | .buildSlice t len parts=>match env.ty t with
    | some i=>match i.slc with
      | some e=>match env.ty e with
        | some ie=>match ie.esq,CY 0 (parts.toList.map fun (x:Nat×Operand)=>(x.1,ρ x.2)) with
          | some q,some l=>if l.length=len∧len*ie.cells<=16777216∧len<=16777216 then
              match AU q l with
              | some q=>some ⟨[],.v (.c (.slc p 0 len ie.cells)),[(p,.sq q)],none⟩
              | none=>none
            else none
          | _,_=>none
        | none=>none
      | none=>none
    | none=>none
  | .load t a=>match env.ty t with
    | some i=>match GL m (ρ a) i with
      | some (o,v)=>some ⟨o,.v v,[],none⟩
      | none=>none
    | none=>none
  | .store t a x=>match env.ty t with
    | some i=>match Gj m (ρ a) (ρ x) i with
      | some (o,ups)=>some ⟨o,.top,ups,none⟩
      | none=>none
    | none=>none
  | .nilCheck x=>match ρ x with
    | .v (.c (.ptr q off))=>pureV (.ptr q off)
    | .v (.c (.ep q es i off))=>pureV (.ep q es i off)
    | .v (.c (.rp q i off))=>pureV (.rp q i off)
    | _=>none
  | .binOp op xt x y _=>Nn (Zp env op xt (ρ x) (ρ y))
  | .unOp op _ x=>match op,ρ x with
    | .not,.v (.c (.lit b))=>pureV (.lit !b)
    | .not,.v (.c (.bool b))=>pureV (.bool !b)
    | .neg,.v (.c (.int k n))=>pureV (.int k (k.wrap (0-n)))
    | _,_=>none
  | .convert src dst x=>match env.ty src,env.ty dst with
    | some j,some i=>match j.slc with
      | none=>match ρ x with
        | .v (.c (.int _ n))=>match i.kind with
          | some k=>pureV (.int k (k.wrap n))
          | none=>none
        | _=>none
      | some e=>match env.ty e with
        | some ie=>match ie.kind with
          | some .u8=>if i.isStr then match NZ m (.u8 []) (ρ x) with
              | some (o,.u8 l)=>some ⟨o,.v (.c (.val (.string (C0j l)))),[],none⟩
              | _=>none
            else none
          | _=>none
        | none=>none
    | _,_=>none
  | .makeInterface t x=>match ρ x with
    | .v (.a l)=>match env.inv t,A5i l with
      | some _,some os=>pureV (.ifc t os)
      | _,_=>none
    | _=>none
  | .makeFunc fn first caps=>match fn,first.size,Oq (caps.toList.map ρ) with
    | .func f,0,some cs=>pureV (.clo f cs)
    | _,_,_=>none
  | .makeSlice t l c=>match env.ty t,ρ l,ρ c with
    | some i,.v (.c (.int _ n)),.v (.c (.int _ n'))=>match i.slc with
      | some e=>match env.ty e with
        | some ie=>match ie.esq with
          | some q=>match KB q n.toNat with
            | some z=>some ⟨[0<=n,n=n',ie.bytes*n<=281474976710656,n<=9223372036854775807],.v (.c (.slc p 0 n.toNat ie.cells)),[(p,.sq z)],none⟩
            | none=>none
          | none=>none
        | none=>none
      | none=>none
    | _,_,_=>none
  | .slice t x lo hi mx=>match env.ty t,HV (lo.map ρ),HV (hi.map ρ),HV (mx.map ρ) with
    | some i,some none,some (some h),some (some m)=>match i.arr,i.slc,ρ x with
      | none,some e,.v (.c (.sl q))=>match env.ty e with
        | some ie=>if q.es=ie.cells then some ⟨[0<=h,h<=m,m<=q.n],.v (.c (.sl (q.cut 0 h.toNat))),[],none⟩ else none
        | none=>none
      | _,_,_=>none
    | some i,some lo,some hi,some none=>match i.arr,i.slc with
      | some (n,e),none=>match env.ty e with
        | some ie=>Nn (Eu m (ρ x) lo hi (some n) ie.cells)
        | none=>none
      | none,some e=>match env.ty e with
        | some ie=>Nn (Eu m (ρ x) lo hi none ie.cells)
        | none=>none
      | none,none=>match ρ x,lo,hi with
        | .v (.c (.val (.string s))),some l,none=>if i.isStr then some ⟨[0<=l,l<=s.size],.v (.c (.val (.string (B3b s l.toNat)))),[],none⟩ else none
        | _,_,_=>none
      | _,_=>none
    | _,_,_,_=>none
  | .fieldAddr s x f=>match env.ty s with
    | some i=>match i.fields[f]? with
      | some (fo,fs,_)=>if fs=0 then none else match Ph (ρ x) fo with
        | some r=>pureV r
        | none=>none
      | none=>none
    | none=>none
  | .field s x f=>match env.ty s,ρ x with
    | some i,.v (.a l)=>match i.fields[f]? with
      | some (fo,fs,ag)=>if J3 l=i.cells∧fs≠0 then
          match Dp fo fs l with
          | some r=>match mkV ag r with
            | some v=>some ⟨[],.v v,[],none⟩
            | none=>none
          | none=>none
        else none
      | none=>none
    | _,_=>none
  | .indexAddr t x ix=>match env.ty t,XF (ρ ix) with
    | some i,some (_,n)=>match i.arr,i.slc with
      | some (len,e),none=>match env.ty e with
        | some ie=>Nn (Ee m (ρ x) n (some len) ie.cells)
        | none=>none
      | none,some e=>match env.ty e with
        | some ie=>Nn (Ee m (ρ x) n none ie.cells)
        | none=>none
      | _,_=>none
    | _,_=>none
  | .index t x ix=>match env.ty t,ρ x,XF (ρ ix) with
    | some i,.v (.a l),some (_,n)=>match i.arr with
      | some (len,e)=>match env.ty e with
        | some ie=>
          match ie.agg,ie.cells,l with
          | false,1,[.ob o]=>if o.k=len then some ⟨[0<=n,n<len],.v (.c (.int .u64 (A1 o.n n.toNat))),[],none⟩ else none
          | ag,es,l=>if J3 l=i.cells∧es≠0 then
              match Dp (n.toNat*es) es l with
              | some r=>match mkV ag r with
                | some v=>some ⟨[0<=n,n<len],.v v,[],none⟩
                | none=>none
              | none=>none
            else none
        | none=>none
      | none=>none
    | some i,.v (.c (.val (.string s))),some (_,n)=>if i.isStr then some ⟨[0<=n,n<s.size],.v (.c (.int .u8 ((s.data.toList.getD n.toNat 0).toNat:Int))),[],none⟩ else none
    | _,_,_=>none
  | .extract x i=>match ρ x with
    | .t l=>match l[i]? with
      | some v=>some ⟨[],.v v,[],none⟩
      | none=>none
    | _=>none
  | .call c=>match c.callee with
    | .invoke recv name=>UZ env m p (ρ recv) name (c.args.toList.map ρ)
    | .value f=>match ρ f with
      | .v (.c (.clo g []))=>match env.ex g with
        | some k=>OQ k (c.args.toList.map ρ)
        | none=>Om env m p f g (c.args.toList.map ρ)
      | .v (.c (.clo g caps))=>Om env m p f g (c.args.toList.map ρ++caps.map fun x=>.v (.c (.ptr x.1 x.2)))
      | _=>none
    | .builtin b=>
      match b with
      | .len=>match c.argTypes.toList with
        | [t]=>match env.ty t with
          | some i=>match i.slc,Cb (c.args.toList.map ρ) with
            | some _,some i=>pureV i
            | some _,none=>none
            | none,_=>match Dx (c.args.toList.map ρ) with
              | some n=>if i.isStr then pureV (.int .i64 n) else none
              | none=>none
          | none=>none
        | _=>none
      | .min=>match B5y (c.args.toList.map ρ) with
        | some i=>pureV i
        | none=>none
      | .max=>match B5m (c.args.toList.map ρ) with
        | some i=>pureV i
        | none=>none
      | .append=>match c.argTypes.toList,c.args.toList with
        | [t,t'],[s,x]=>if t=t' then
            match env.ty t with
            | some i=>match i.slc with
              | some e=>match env.ty e with
                | some ie=>match ie.esq with
                  | some q=>NY m p ie q (ρ s) (ρ x)
                  | none=>none
                | none=>none
              | none=>none
            | none=>none
          else none
        | _,_=>none
      | .copy=>match c.argTypes.toList with
        | [t,_]=>match env.ty t with
          | some i=>match i.slc with
            | some e=>match env.ty e with
              | some ie=>match ie.esq with
                | some q=>match ND m q (c.args.toList.map ρ) with
                  | some (o,n,ups)=>some ⟨o,.v (.c (.int .i64 n)),ups,none⟩
                  | none=>none
                | none=>none
              | none=>none
            | none=>none
          | none=>none
        | _=>none
      | .clear => match c.argTypes.toList with
        | [t]=>match env.ty t with
          | some i=>match i.slc with
            | some e=>match env.ty e with
              | some ie=>match ie.esq with
                | some q=>match IM m q (c.args.toList.map ρ) with
                  | some (o,ups)=>some ⟨o,.top,ups,none⟩
                  | none=>none
                | none=>none
              | none=>none
            | none=>none
          | none=>none
        | _=>none
      | _=>none
  | _=>none
end
section
def E3(p:Nat):It->It
 | .slc q off len es=>if q=p then .old len else .slc q off len es
 | .sv _ _ _ _=>.dead
 | .ptr q off=>if q=p then .dead else .ptr q off
 | .ep q es i off=>if q=p then .dead else .ep q es i off
 | .mp q=>if q=p then .dead else .mp q
 | .arr q off n es=>if q=p then .dead else .arr q off n es
 | .clo f c=>if c.any (fun a=>a.1 == p) then .dead else .clo f c
 | i=>i
def Br(p:Nat):V1->V1
 | .c i=>.c (E3 p i)
 | .a l=>.a (l.map (E3 p))
def N3(p:Nat):SV->SV
 | .v v=>.v (Br p v)
 | .t l=>.t (l.map (Br p))
 | .top=>.top
def W0(p:Nat):En->En
 | .fl l=>.fl (l.map (E3 p))
 | .sq q=>.sq q
def BA(t:Nat->SV):Option Nat->Nat->SV
 | none=>t
 | some p=>fun x=>N3 p (t x)
def O5(m:Nat->Option En):Option Nat->Nat->Option En
 | none=>m
 | some p=>fun x=>(m x).map (W0 p)
def Da(fr:List ((Nat->SV)×Nat)):Option Nat->List ((Nat->SV)×Nat)
 | none=>fr
 | some p=>fr.map fun q=>(BA q.1 (some p),q.2)
def M7(t:Nat->SV)(d:Nat)(v:SV):Nat->SV:=fun x=>if x=d then v else t x
def W5(al:Nat->Bool)(m:Nat->Option En)(p:Nat):List (Nat×En)->Bool
 | []=>true
 | (q,_)::l=>(match m q with | some _=>al q | none=>Nat.ble p q && Nat.blt q (p+16)) && W5 al m p l
def IR(ops:List Oper):List Oper->List Nat
 | []=>[]
 | o::l=>match o.guard with
  | some (j,_)=>match (ops[j]?).bind (·.dst) with
   | some d=>let r:=IR ops l;if r.contains d then r else d::r
   | none=>IR ops l
  | none=>IR ops l
def Sj:List Nat->List Bool->Option (List (Nat×Bool)×List Bool)
 | [],p=>some ([],p)
 | _::_,[]=>none
 | d::l,b::p=>match Sj l p with
  | some (r,p)=>some ((d,b)::r,p)
  | none=>none
def Vl(d:Nat):List (Nat×Bool)->Option Bool
 | []=>none
 | (e,b)::l=>if e=d then some b else Vl d l
def O3(dec:List (Nat×Bool))(d:Nat)(v:SV):List Prop×SV:=
 match v with
 | .v (.c (.bool b))=>match Vl d dec with
  | some x=>([b=x],.v (.c (.lit x)))
  | none=>([],.v (.c (.bool b)))
 | v=>([],v)
def HB:Option Nat->Bool
 | some 0=>false
 | _=>true
def VG(env:D6)(al:Nat->Bool)(dec:List (Nat×Bool))(p:Nat)(o:Oper)(σ:St):Option (List Prop×St):=
 match I8 env σ.ev (fun q=>if al q then σ.m q else none) p o with
 | none=>none
 | some r=>
  if HB r.kill && W5 al σ.m p r.ups then
   match o.dst with
   | none=>some (r.obl,{ σ with t:=BA σ.t r.kill,m:=H8 (O5 σ.m r.kill) r.ups,fr:=Da σ.fr r.kill })
   | some d=>if d<σ.nt then
     match O3 dec d r.val with
     | (o',v)=>some (o' ++ r.obl,{ σ with t:=M7 (BA σ.t r.kill) d v,m:=H8 (O5 σ.m r.kill) r.ups,fr:=Da σ.fr r.kill })
    else none
  else none
def UT(ops:List Oper)(o:Oper)(t:Nat->SV):Option Bool:=
 match o.guard with
 | none=>some true
 | some (j,want)=>match (ops[j]?).bind (·.dst) with
  | none=>none
  | some d=>match t d with
   | .v (.c (.lit b))=>some (b == want)
   | .t []=>some false
   | _=>none
def Bo(env:D6)(al:Nat->Bool)(dec:List (Nat×Bool))(ops:List Oper)(p:Nat)(o:Oper)(σ:St):Option (List Prop×St):=
 match UT ops o σ.t with
 | some true=>VG env al dec p o σ
 | some false=>(match o.dst with
  | some e=>if e<σ.nt then some ([],{ σ with t:=M7 σ.t e (.t []) }) else none
  | none=>some ([],σ))
 | none=>none
def Gs(acc:List Nat):List Edge->Nat
 | []=>0
 | e::l=>if Region.binds .any e then 2 ^ e.on ||| acc.getD e.on 0 ||| Gs acc l else Gs acc l
def DT(acc:List Nat)(o:Oper):Nat:=Gs acc o.after.toList
def AA:List Oper->List Nat->List Nat
 | [],acc=>acc
 | o::l,acc=>AA l (acc++[DT acc o])
def D1(env:D6)(o:Oper):Nat:=
 match o.op with
 | .move _ | .assign _ | .pick _ _ _ | .build _ _ | .fieldAddr _ _ _ | .field _ _ _ | .extract _ _ | .unOp _ _ _ | .binOp _ _ _ _ _ | .index _ _ _ | .nilCheck _ | .makeFunc _ _ _ | .makeInterface _ _=>0
 | .convert src _ _=>match env.ty src with
  | some j=>match j.slc with
   | some _=>1
   | none=>0
  | none=>0
 | .load _ _ | .indexAddr _ _ _ | .slice _ _ _ _ _=>1
 | .alloc _ | .box _ _ | .buildSlice _ _ _ | .makeSlice _ _ _=>2
 | .store _ _ _=>3
 | .call c=>match c.callee with
  | .builtin .len | .builtin .min | .builtin .max=>0
  | .builtin .append=>6
  | .value (.func f)=>match env.ex f with
   | some _=>0
   | none=>match env.fn f with
    | some _=>5
    | none=>4
  | .value _=>5
  | .invoke _ _=>5
  | _=>4
 | _=>4
def B2m(a b:Nat):Bool:=
 match a,b with
 | 4,_=>true
 | _,4=>true
 | 3,1=>true
 | 1,3=>true
 | 3,3=>true
 | 3,5=>true
 | 5,3=>true
 | _,_=>false
def V2(p:Nat):List Nat->Bool
 | []=>false
 | q::l=>if q=p then true else V2 p l
def Z0:Option (List Nat)->Nat->Bool
 | none,_=>true
 | some l,q=>V2 q l
def KE:Option (List Nat)->Option (List Nat)->Bool
 | some a,some b=>a.all fun p=>!(V2 p b)
 | _,_=>false
def B3n:It->Option (List Nat)
 | .ptr p _=>some [p]
 | .ep p _ _ _=>some [p]
 | .slc p _ _ _=>some [p]
 | .sv p _ _ _=>some [p]
 | .arr p _ _ _=>some [p]
 | .sl _ | .vsl _ _ | .rp _ _ _ | .int _ _ | .bool _ | .lit _ | .ob _ | .ifc _ _ | .val _=>some []
 | .clo _ caps=>some (caps.map (·.1))
 | _=>none
def B3o:Option (List Nat)->Option (List Nat)->Option (List Nat)
 | some a,some b=>some (a++b)
 | _,_=>none
def A4e:List It->Option (List Nat)
 | []=>some []
 | i::l=>B3o (B3n i) (A4e l)
def Hv:SV->Option (List Nat)
 | .v (.c i)=>B3n i
 | .v (.a l)=>A4e l
 | _=>none
def NG:List SV->Option (List Nat)
 | []=>some []
 | a::l=>B3o (Hv a) (NG l)
def D1r(ρ:Operand->SV)(o:Oper):Option (List Nat):=
 match o.op with
 | .load _ a=>Hv (ρ a)
 | .store _ a _=>Hv (ρ a)
 | .indexAddr _ x _=>Hv (ρ x)
 | .slice _ x _ _ _=>Hv (ρ x)
 | .convert _ _ x=>Hv (ρ x)
 | .call c=>match c.callee with
  | .value f=>B3o (Hv (ρ f)) (NG (c.args.toList.map ρ))
  | .builtin .append=>NG (c.args.toList.map ρ)
  | .invoke r _=>NG (ρ r::c.args.toList.map ρ)
  | _=>none
 | _=>none
def FB(b:Nat)(fx fo:Option (List Nat)):Bool:=
 match b with
 | 0=>false
 | 2=>false
 | 1=>!(KE fx fo)
 | _=>true
def Ov(a b:Nat)(fx fo:Option (List Nat)):Bool:=
 Nat.beq a 4 || Nat.beq b 4 || (if Nat.beq a 6 then FB b fx fo else if Nat.beq b 6 then FB a fx fo else B2m a b && !(KE fx fo))
def U8(env:D6)(ops:Array Oper)(fx fo:Option (List Nat))(x y:Oper):Bool:=!(x.apart ops y) || Ov (D1 env x) (D1 env y) fx fo
def LD(env:D6)(ops:Array Oper)(ft:List (Option (List Nat)))(fo:Option (List Nat))(o:Oper)(anc:Nat):List Oper->Nat->Bool
 | [],_=>true
 | x::l,k=>(anc.testBit k || !(U8 env ops (ft.getD k none) fo x o)) && LD env ops ft fo o anc l (k+1)
def U2(i:Nat)(o:Oper):Bool:=o.after.toList.all fun e=>!(Region.binds .any e) || Nat.blt e.on i
def Hu(env:D6)(ops:Array Oper)(anc:List Nat)(ft:List (Option (List Nat))):List Oper->Nat->Bool
 | [],_=>true
 | o::l,i=>U2 i o && Nat.beq (anc.getD i 0) (DT anc o) && LD env ops ft (ft.getD i none) o (anc.getD i 0) (ops.toList.take i) 0 && Hu env ops anc ft l (i+1)
def A6n(lo anc p:Nat)(q:Nat):Bool:=Nat.blt q p && (Nat.blt q lo || anc.testBit ((q-lo) / 16))
def alF(lo anc p:Nat)(f:Option (List Nat))(q:Nat):Bool:=A6n lo anc p q && Z0 f q
def A4b(env:D6)(dec:List (Nat×Bool))(ops:List Oper)(anc:List Nat)(lo:Nat):List (Nat×Oper)->St->List (Option (List Nat))
 | [],_=>[]
 | (i,o)::l,σ=>D1r σ.ev o::(match Bo env (A6n lo (anc.getD i 0) (lo+16*i)) dec ops (lo+16*i) o σ with
  | some (_,σ)=>A4b env dec ops anc lo l σ
  | none=>[])
def Yh(ks:List Nat):It->Bool
 | .slc p _ _ _=>!(V2 p ks)
 | .ptr p _=>!(V2 p ks)
 | .ep p _ _ _=>!(V2 p ks)
 | .mp p=>!(V2 p ks)
 | .arr p _ _ _=>!(V2 p ks)
 | .clo _ c=>c.all fun a=>!(V2 a.1 ks)
 | .sv _ _ _ _ | .dead | .old _=>false
 | _=>true
def okV(ks:List Nat):V1->Bool
 | .c i=>Yh ks i
 | .a l=>l.all (Yh ks)
def A9f(ks:List Nat):SV->Bool
 | .v v=>okV ks v
 | .t l=>l.all (okV ks)
 | .top=>true
def A9d(ks:List Nat):En->Bool
 | .fl l=>l.all (Yh ks)
 | .sq _=>true
def A6i(al:Nat->Bool)(m:Nat->Option En):Nat->Option En:=fun q=>if al q then m q else none
def Qf(o:Oper):Bool:=
 match o.op with
 | .move _ | .assign _=>true
 | .call c=>match c.callee with
  | .builtin .len=>true
  | _=>false
 | _=>false
def K3(env:D6)(ks:List Nat)(al:Nat->Bool)(ft:Option (List Nat))(p:Nat)(o:Oper)(σ:St):Bool:=
 Qf o || (o.op.operands.toList.all (fun x=>A9f ks (σ.ev x)) &&
  (match D1 env o,ft with
   | 1,some l=>l.all fun q=>!(al q) || (match σ.m q with | some e=>A9d ks e | none=>true)
   | 1,none=>false
   | _,_=>true) &&
  (match I8 env σ.ev (A6i al σ.m) p o with
   | some r=>A9f ks r.val && r.ups.all fun x=>A9d ks x.2
   | none=>true))
def B4j(i q:Nat):List (Nat×Nat)->Bool
 | []=>false
 | (j,r)::l=>if j=i∧r=q then true else B4j i q l
def FO(anc:List Nat)(i:Nat):List (Nat×Nat)->List Nat
 | []=>[]
 | (j,q)::l=>if (if j<i then (anc.getD i 0).testBit j else (anc.getD j 0).testBit i) then FO anc i l else q::FO anc i l
def X3(env:D6)(anc:List Nat)(kl:List (Nat×Nat))(i:Nat)(al:Nat->Bool)(ft:Option (List Nat))(p:Nat)(o:Oper)(σ:St):Bool:=
 if Nat.beq (D1 env o) 6 then
  match I8 env σ.ev (A6i al σ.m) p o with
  | some r=>match r.kill with
   | some q=>B4j i q kl
   | none=>true
  | none=>true
 else (FO anc i kl).isEmpty || Nat.ble 3 (D1 env o) || K3 env (FO anc i kl) al ft p o σ
def I7(env:D6)(dec:List (Nat×Bool))(ops:List Oper)(anc:List Nat)(ft:List (Option (List Nat)))(kl:List (Nat×Nat))(lo:Nat):List (Nat×Oper)->St->Option (List Prop×St)
 | [],σ=>some ([],σ)
 | (i,o)::l,σ =>
  if X3 env anc kl i (alF lo (anc.getD i 0) (lo+16*i) (ft.getD i none)) (ft.getD i none) (lo+16*i) o σ then
   match Bo env (alF lo (anc.getD i 0) (lo+16*i) (ft.getD i none)) dec ops (lo+16*i) o σ with
   | some (ob,σ)=>match I7 env dec ops anc ft kl lo l σ with
    | some (ob',σ)=>some (ob++ob',σ)
    | none=>none
   | none=>none
  else none
def FN(env:D6)(dec:List (Nat×Bool))(ops:List Oper)(anc:List Nat)(lo:Nat):List (Nat×Oper)->St->List (Nat×Nat)
 | [],_=>[]
 | (i,o)::l,σ =>
  match Bo env (A6n lo (anc.getD i 0) (lo+16*i)) dec ops (lo+16*i) o σ with
  | some (_,σ')=>
   if Nat.beq (D1 env o) 6 then
    match I8 env σ.ev (A6i (A6n lo (anc.getD i 0) (lo+16*i)) σ.m) (lo+16*i) o with
    | some r=>match r.kill with
     | some q=>(i,q)::FN env dec ops anc lo l σ'
     | none=>FN env dec ops anc lo l σ'
    | none=>FN env dec ops anc lo l σ'
   else FN env dec ops anc lo l σ'
  | none=>[]
def D7y(env:D6)(ops:List Oper):Bool:=ops.any fun o=>Nat.beq (D1 env o) 6
def X4:Nat->List Oper->List (Nat×Oper)
 | _,[]=>[]
 | i,o::l=>(i,o)::X4 (i+1) l
def C3q(env:D6)(dec:List (Nat×Bool))(ops:Array Oper)(anc:List Nat)(σ:St):List (Option (List Nat)):=
 if !(D7y env ops.toList) && Hu env ops anc [] ops.toList 0 then [] else A4b env dec ops.toList anc σ.nx (X4 0 ops.toList) σ
def XJ(env:D6)(dec:List (Nat×Bool))(ops:Array Oper)(anc:List Nat)(σ:St):List (Nat×Nat):=
 if D7y env ops.toList then FN env dec ops.toList anc σ.nx (X4 0 ops.toList) σ else []
def Hm:List SV->Nat->SV
 | [],_=>.top
 | a::_,0=>a
 | _::l,n+1=>Hm l n
def D2(nt:Nat)(args:List SV):St:=⟨Hm args,fun _=>none,nt,16,[]⟩
def Hh(env:D6)(σ:St):List ResultVar->Option (List Prop×List V1)
 | []=>some ([],[])
 | .tmp t::l=>match σ.t t,Hh env σ l with
  | .v v,some (o,r)=>some (o,v::r)
  | _,_=>none
 | .cell a t::l=>match env.ty t with
  | some i=>match GL σ.m (σ.t a) i,Hh env σ l with
   | some (o,v),some (o',r)=>some (o++o',v::r)
   | _,_=>none
  | none=>none
def Ul:List V1->SV
 | [v]=>.v v
 | l=>.t l
def XD(env:D6)(σ:St)(o:Oper):Option (Func×Code×List SV):=
 match o.op with
 | .call c=>match c.callee with
  | .value f=>match σ.ev f with
   | .v (.c (.clo g caps))=>match env.fn g,env.mu g,env.inl g with
    | none,none,some fn=>match fn.body with
     | some b=>some (fn,b,c.args.toList.map σ.ev++caps.map fun x=>.v (.c (.ptr x.1 x.2)))
     | none=>none
    | _,_,_=>none
   | _=>none
  | _=>none
 | _=>none
def XG:Option Bool->Bool
 | some b=>b
 | none=>false
def UR(env:D6)(σ:St)(fn:Func)(dst:Option Nat)(dec:List (Nat×Bool)):Option (List Prop×St):=
 match Hh env σ fn.results.toList,σ.fr with
 | some (ob,r),(tS,ntS)::fr=>
  match dst with
  | none=>some (ob,{ t:=tS,m:=σ.m,nt:=ntS,nx:=σ.nx,fr:=fr })
  | some d=>if d<ntS then
    match O3 dec d (Ul r) with
    | (o',v)=>some (o' ++ ob,{ t:=M7 tS d v,m:=σ.m,nt:=ntS,nx:=σ.nx,fr:=fr })
   else none
 | _,_=>none
inductive KI where
 | code (c:Code)
 | blk (id:Nat)
 | lp (c:Code)
 | ops (l:Array Oper) (i:Nat) (dec:List (Nat×Bool))
 | any (l:Array Oper) (c:Nat) (rem:List (Nat×Oper))
 | fr (fn:Func) (dst:Option Nat) (dec:List (Nat×Bool))
structure G5 where
 k:List KI
 x:Exit
 σ:St
structure Out where
 obl:List Prop
 path:List Bool
 cfg:G5
def D0g(env:D6)(o:Oper):Bool:=
 match o.op with
 | .call c=>match c.callee with
  | .value (.func g)=>match env.fn g,env.mu g,env.inl g,env.ex g with
   | none,none,some _,none=>true
   | _,_,_,_=>false
  | _=>false
 | _=>false
def B1z(env:D6):List Oper->Nat->Option Nat
 | [],_=>none
 | o::l,i=>if D0g env o then some i else B1z env l (i+1)
def D2x(σ:St)(t:Nat)(p:Oper):Bool:=
 match p.dst,p.op with
 | some d,.move (.tmp s)=>if Nat.beq d t then match σ.t s with
  | .v (.c (.val _))=>true
  | _=>false else false
 | _,_=>false
def A6j(σ:St)(ops:List Oper):List Oper->Nat->Option Nat
 | [],_=>none
 | o::l,i=>match o.op with
  | .call c=>match c.callee with
   | .value (.tmp t)=>if ops.any (D2x σ t) then some i else A6j σ ops l (i+1)
   | _=>A6j σ ops l (i+1)
  | _=>A6j σ ops l (i+1)
def D6q(env:D6)(σ:St)(ops:List Oper):Option Nat:=
 match B1z env ops 0 with
 | some c=>some c
 | none=>A6j σ ops ops 0
def Wz(anc:List Nat)(n c:Nat):Bool:=Nat.ble c n && (List.range n).all fun i=>Nat.blt i c || (List.range i).all fun j=>(anc.getD i 0).testBit j
def YM(env:D6)(unroll:Bool)(k:List KI)(σ:St)(path:List Bool)(c:Code):Option Out:=
 match c with
 | .skip=>some ⟨[],path,⟨k,.normal,σ⟩⟩
 | .seq a b=>some ⟨[],path,⟨.code a :: .code b::k,.normal,σ⟩⟩
 | .block id c=>some ⟨[],path,⟨.code c :: .blk id::k,.normal,σ⟩⟩
 | .loop c=>if unroll then some ⟨[],path,⟨.code c :: .lp c::k,.normal,σ⟩⟩ else none
 | .exit id=>some ⟨[],path,⟨k,.exit id,σ⟩⟩
 | .ret=>some ⟨[],path,⟨k,.ret,σ⟩⟩
 | .cond o a b=>match σ.ev o with
  | .v (.c (.lit d))=>some ⟨[],path,⟨.code (if d then a else b)::k,.normal,σ⟩⟩
  | .v (.c (.bool b'))=>match path with
   | d::path=>some ⟨[b' = d],path,⟨.code (if d then a else b)::k,.normal,σ⟩⟩
   | []=>none
  | _=>none
 | .region _ ops draw=>
  match Sj (IR ops.toList ops.toList) path with
  | none=>none
  | some (dec,path)=>
   if draw then
    let anc:=AA ops.toList []
    let ft:=C3q env dec ops anc σ
    if Hu env ops anc ft ops.toList 0 then
     match D6q env σ ops.toList with
     | none=>match I7 env dec ops.toList anc ft (XJ env dec ops anc σ) σ.nx (X4 0 ops.toList) σ with
      | some (ob,σ')=>some ⟨ob,path,⟨k,.normal,{ σ' with nx:=σ.nx+16*ops.size }⟩⟩
      | none=>none
     | some c=>if Wz anc ops.size c then
       match I7 env dec ops.toList anc ft (XJ env dec ops anc σ) σ.nx (X4 0 (ops.toList.take c)) σ with
       | some (ob,σ')=>some ⟨ob,path,⟨.ops ops c dec::k,.normal,{ σ' with nx:=σ.nx+16*ops.size }⟩⟩
       | none=>none
      else none
    else none
   else some ⟨[],path,⟨.ops ops 0 dec::k,.normal,σ⟩⟩
 | _=>none
def JG(env:D6)(ops:Array Oper)(ex:Nat)(o:Oper)(anc:Nat):List Oper->Nat->Bool
 | [],_=>true
 | x::l,k=>(Nat.beq k ex || anc.testBit k || !(U8 env ops none none x o)) && JG env ops ex o anc l (k+1)
def CV(env:D6)(ops:Array Oper)(anc:List Nat)(ex:Nat):List Oper->Nat->Bool
 | [],_=>true
 | o::l,i=>U2 i o && Nat.beq (anc.getD i 0) (DT anc o) && (Nat.beq i ex || JG env ops ex o (anc.getD i 0) (ops.toList.take i) 0) && CV env ops anc ex l (i+1)
def FZ(n:Nat):List (Nat×Oper)->Nat
 | []=>n
 | q::_=>q.1
def KP(env:D6):List (Nat×Oper)->List (Nat×Oper)×List (Nat×Oper)
 | []=>([],[])
 | q::l=>if D0g env q.2 then ([],q::l) else match KP env l with
  | (a,b)=>(q::a,b)
def step(env:D6)(unroll:Bool)(c:G5)(path:List Bool):Option Out:=
 match c.x,c.k with
 | .normal,.code c' :: k=>YM env unroll k c.σ path c'
 | .normal,.blk _::k=>some ⟨[],path,⟨k,.normal,c.σ⟩⟩
 | .normal,.lp c' :: k=>if unroll then some ⟨[],path,⟨.code c' :: .lp c' :: k,.normal,c.σ⟩⟩ else none
 | .normal,.ops ops i dec::k=>
  match ops[i]? with
  | some o=>
   match XD env c.σ o,XG (UT ops.toList o c.σ.t) with
   | some (fn,b,args),true=>
    if Nat.ble args.length fn.ntmps then
     some ⟨[],path,⟨.code b :: .fr fn o.dst dec :: .ops ops (i+1) dec::k,.normal,{ t:=Hm args,m:=c.σ.m,nt:=fn.ntmps,nx:=c.σ.nx,fr:=(c.σ.t,c.σ.nt)::c.σ.fr }⟩⟩
    else none
   | _,_=>
    match Bo env (fun q=>Nat.blt q c.σ.nx) dec ops.toList c.σ.nx o c.σ with
    | some (ob,σ)=>some ⟨ob,path,⟨.ops ops (i+1) dec::k,.normal,{ σ with nx:=c.σ.nx+16 }⟩⟩
    | none=>none
  | none=>some ⟨[],path,⟨k,.normal,c.σ⟩⟩
 | .normal,.any ops ex rem::k=>
  let anc:=AA ops.toList []
  match KP env rem with
  | (pre,post)=>
   if CV env ops anc ex ops.toList 0 && (Wz anc ops.size (FZ ops.size post) && (Nat.blt ex (FZ ops.size post) && (pre.all fun q=>Nat.blt q.1 (FZ ops.size post) && !(Nat.beq q.1 ex)) && Nat.beq post.length (ops.size-FZ ops.size post))) then
    match I7 env [] ops.toList anc [] [] c.σ.nx pre c.σ with
    | some (ob,σ')=>some ⟨ob,path,⟨.ops ops (FZ ops.size post) []::k,.normal,{ σ' with nx:=c.σ.nx+16*ops.size }⟩⟩
    | none=>none
   else none
 | .normal,.fr fn dst dec::k=>match UR env c.σ fn dst dec with
  | some (ob,σ)=>some ⟨ob,path,⟨k,.normal,σ⟩⟩
  | none=>none
 | .ret,.fr fn dst dec::k=>match UR env c.σ fn dst dec with
  | some (ob,σ)=>some ⟨ob,path,⟨k,.normal,σ⟩⟩
  | none=>none
 | .exit id,.blk id' :: k=>if id' = id then some ⟨[],path,⟨k,.normal,c.σ⟩⟩ else some ⟨[],path,⟨k,.exit id,c.σ⟩⟩
 | .exit id,.code _::k=>some ⟨[],path,⟨k,.exit id,c.σ⟩⟩
 | .exit id,.lp _::k=>some ⟨[],path,⟨k,.exit id,c.σ⟩⟩
 | .ret,.code _::k=>some ⟨[],path,⟨k,.ret,c.σ⟩⟩
 | .ret,.blk _::k=>some ⟨[],path,⟨k,.ret,c.σ⟩⟩
 | .ret,.lp _::k=>some ⟨[],path,⟨k,.ret,c.σ⟩⟩
 | _,_=>none
def run(env:D6)(unroll:Bool):Nat->G5->List Bool->Out
 | 0,c,path=>⟨[],path,c⟩
 | n+1,c,path=>match step env unroll c path with
  | none=>⟨[],path,c⟩
  | some r=>match run env unroll n r.cfg r.path with
   | ⟨ob,path,c⟩=>⟨r.obl++ob,path,c⟩
def D8i(env:D6)(fn:Func)(n:Nat)(args:List SV)(path:List Bool):Option (List Prop×List Bool×SV×St):=
 match fn.body with
 | some c=>match run env true n ⟨[.code c],.normal,D2 fn.ntmps args⟩ path with
  | ⟨ob,path,⟨[],.ret,σ⟩⟩=>match Hh env σ fn.results.toList with
   | some (o,r)=>some (ob++o,path,Ul r,σ)
   | none=>none
  | _=>none
 | none=>none
end
section
theorem Aa{D:It->List Value->Prop}:∀{l l' : List It} {cs cs' : List Value},C6 D l cs->C6 D l' cs' -> C6 D (l++l') (cs++cs')
 | [],_,cs,cs',h,h' => by simp only[C6] at h;subst h;simpa using h'
 | i::l,_,_,cs',⟨c1,c2,e,h1,h2⟩,h' => ⟨c1,c2++cs',by rw[e,List.append_assoc],h1,Aa h2 h'⟩
section
variable {x:C0} {d:Nat}
theorem Dm:∀{n:Nat} {l r:List It} {cs:List Value},Dl n l=some r->C6 (F8 x d) l cs->C6 (F8 x d) r (cs.take n)∧J3 r=n
 | 0,l,r,cs,h,_=>by simp [Dl] at h;subst h;exact ⟨by simp [C6],rfl⟩
 | n+1,[],r,cs,h,_=>by simp [Dl] at h
 | n+1,i::l,r,cs,h,hc=>by
  obtain ⟨c1,c2,rfl,h1,h2⟩:=hc;simp only[Dl] at h;split at h
  ·rename_i hle
   simp only[Option.map_eq_some_iff] at h;obtain ⟨r',hr,rfl⟩:=h;have:=Dm hr h2
   have hl:=NE h1;refine ⟨⟨c1,c2.take (n+1-i.size),?_,h1,this.1⟩,?_⟩
   ·rw[List.take_append,hl,List.take_of_length_le (by omega)]
   ·simp only[J3,this.2];omega
  ·cases h
termination_by _ l=>l.length
theorem Ac:∀{n:Nat} {l r:List It} {cs:List Value},BI n l=some r->C6 (F8 x d) l cs->C6 (F8 x d) r (cs.drop n)∧n<=cs.length
 | 0,l,r,cs,h,hc=>by simp [BI] at h;subst h;exact ⟨by simpa using hc,Nat.zero_le _⟩
 | n+1,[],r,cs,h,_=>by simp [BI] at h
 | n+1,i::l,r,cs,h,hc=>by
  obtain ⟨c1,c2,rfl,h1,h2⟩:=hc;simp only[BI] at h;split at h
  ·rename_i hle
   have hl:=NE h1;have:=Ac h h2
   refine ⟨?_,?_⟩
   ·rw[List.drop_append,hl,List.drop_of_length_le (by omega)]
    simpa using this.1
   ·simp only[List.length_append,hl];omega
  ·cases h
termination_by _ l=>l.length
theorem Ho{off n:Nat}{l r:List It}{cs:List Value}(h:OB off n l=some r)(hc:C6 (F8 x d) l cs) :
  C6 (F8 x d) r ((cs.drop off).take n)∧J3 r=n:=by
 unfold OB at h;split at h
 ·rename_i r' hr;exact Dm h (Ac hr hc).1
 ·cases h
theorem Sv(f:Nat->Int)(k:IntKind):∀(l:List Nat),C6 (F8 x d) (l.map fun i=>It.int k (f i)) (l.map fun i=>Value.int k (f i))
 | []=>by simp [C6]
 | a::l=>⟨[.int k (f a)],l.map fun i=>Value.int k (f i),rfl,by cases d<;>simp [F8],Sv f k l⟩
theorem A0s(o:Ob):C6 (F8 x d) (B7r o) o.cells:=Sv (A1 o.n) .u64 _
theorem CW:∀{l:List It} {cs:List Value},C6 (F8 x d) l cs->C6 (F8 x d) (GA l) cs
 | [],_,h=>h
 | i::l,cs,⟨c1,c2,e,h1,h2⟩=>by
  have h2' := CW h2
  cases i
  case ob o=>
   have hc:c1=o.cells:=by cases d<;>simpa [F8] using h1
   subst hc;rw[e];exact Aa (A0s o) h2'
  all_goals exact ⟨c1,c2,e,h1,h2'⟩
theorem AB{off n:Nat}{l r:List It}{cs:List Value}(h:Dp off n l=some r)(hc:C6 (F8 x d) l cs) :
  C6 (F8 x d) r ((cs.drop off).take n)∧J3 r=n:=by
 unfold Dp at h;split at h
 ·rename_i r' hr;cases h;exact Ho hr hc
 ·exact Ho h (CW hc)
theorem JO{off:Nat}{new l r:List It}{cs cn:List Value}(h:JM off new l=some r)(hn:C6 (F8 x d) new cn)(hc:C6 (F8 x d) l cs) :
  C6 (F8 x d) r (cs.take off++cn++cs.drop (off+cn.length))∧off+cn.length<=cs.length:=by
 unfold JM at h;split at h
 ·rename_i a b ha hb
  cases h
  have hl:=P5 hn;rw[<-hl] at hb;exact ⟨Aa (Aa (Dm ha hc).1 hn) (Ac hb hc).1,(Ac hb hc).2⟩
 ·cases h
theorem BO{off:Nat}{new l r:List It}{cs cn:List Value}(h:Em off new l=some r)(hn:C6 (F8 x d) new cn)(hc:C6 (F8 x d) l cs) :
  C6 (F8 x d) r (cs.take off++cn++cs.drop (off+cn.length))∧off+cn.length<=cs.length:=by
 unfold Em at h;split at h
 ·rename_i r' hr;cases h;exact JO hr hn hc
 ·exact JO h hn (CW hc)
theorem A3g:∀{d:Nat} {i:It} {vs:List Value},F8 x d i vs->∀v∈vs,v.oneCell' = true:=by
 intro d i vs h v hv
 cases i<;>cases d<;>simp only[F8] at h
 case vsl.succ=>
  obtain ⟨_,⟨_,_,rfl,_⟩ | ⟨_,_,_,rfl,_⟩⟩:=h<;>(simp only[List.mem_singleton] at hv;subst hv;rfl)
 all_goals first
  | (subst h;simp only[List.mem_singleton] at hv;subst hv;rfl)
  | (subst h;simp only[Ob.cells,List.mem_map] at hv;obtain ⟨_,_,rfl⟩:=hv;rfl)
  | (obtain ⟨h1,rfl⟩:=h;simp only[List.mem_singleton] at hv;subst hv;rfl)
  | (obtain ⟨rfl,h1⟩:=h;simp only[List.mem_singleton] at hv;subst hv;exact h1)
  | (obtain ⟨u,rfl,h1⟩:=h;simp only[List.mem_singleton] at hv;subst hv;exact h1)
  | (rcases h with ⟨_,_,_,rfl⟩ | ⟨_,_,_,_,rfl,_⟩<;>(simp only[List.mem_singleton] at hv;subst hv;rfl))
  | (rcases h with ⟨_,_,_,rfl⟩ | ⟨_,_,rfl,_⟩<;>(simp only[List.mem_singleton] at hv;subst hv;rfl))
  | (rcases h with ⟨_,_,rfl,_⟩ | ⟨_,_,_,rfl,_⟩<;>(simp only[List.mem_singleton] at hv;subst hv;rfl))
  | (obtain ⟨_,_,_,rfl,_⟩:=h;simp only[List.mem_singleton] at hv;subst hv;rfl)
  | exact h.elim
theorem Fz:∀{l:List It} {cs:List Value},C6 (F8 x d) l cs->∀v∈cs,v.oneCell' = true
 | [],_,h,v,hv=>by simp only[C6] at h;subst h;cases hv
 | _::_,_,⟨_,_,e,h1,h2⟩,v,hv=>by
  subst e;rcases List.mem_append.1 hv with h | h
  ·exact A3g h1 v h
  ·exact Fz h2 v h
end
def O2(agg:Bool)(cs:List Value):Value:=if agg then .agg cs.toArray else cs.headD undef
theorem Vr{x:C0}{agg:Bool}{r:List It}{v:V1}{cs:List Value}(h:mkV agg r=some v)(hc:C6 x.D r cs)(h1:agg=false->J3 r=1):Dq x v (O2 agg cs)∧v.its=r:=by
 unfold mkV at h;split at h
 ·cases h;exact ⟨⟨cs,by simp [O2],hc⟩,rfl⟩
 ·rename_i i
  cases h
  obtain ⟨c1,c2,rfl,h2,h3⟩:=hc;simp only[C6] at h3;subst h3;have hs:i.size=1:=by simpa [J3] using h1 rfl
  have hl:=AW h2;rw[hs] at hl;match c1,hl with
  | [u],_=>exact ⟨⟨hs,by simpa [O2] using h2⟩,rfl⟩
 ·cases h
theorem EF{x:C0}{v:V1}{u:Value}(h:Dq x v u):∃cs,u.cells=cs.toArray∧C6 x.D v.its cs:=by
 cases v with
 | c i=>
  refine ⟨[u],?_,[u],[],rfl,h.2,rfl⟩
  obtain ⟨_,d,h2⟩:=h;have:=A3g h2 u (by simp)
  cases u<;>first | rfl | simp [Value.oneCell'] at this
 | a l=>obtain ⟨cs,rfl,hc⟩:=h;exact ⟨cs,rfl,hc⟩
def C8s(s:ByteArray):Bool:=s.data.toList.isEmpty
theorem A6d{s:ByteArray}(h:C8s s=true):s=ByteArray.empty:=by
 obtain ⟨d⟩:=s;have:d = #[]:=by simpa [C8s] using h
 subst this;rfl
def I9:List It->List Value->Bool
 | [],[]=>true
 | .int k n::l,.int k' n' :: r=>IntKind.same k k' && n == n' && I9 l r
 | .lit b::l,.bool b' :: r=>b == b' && I9 l r
 | .bool b::l,.bool b' :: r=>b == b' && I9 l r
 | .sl q::l,.slice none 0 0::r=>q.n == 0 && I9 l r
 | .val (.slice none 0 0)::l,.slice none 0 0::r=>I9 l r
 | .val (.map none)::l,.map none::r=>I9 l r
 | .val (.string s)::l,.string t::r=>C8s s && C8s t && I9 l r
 | .val (.pointer none)::l,.pointer none::r=>I9 l r
 | .ob (.fr x)::l,.int .u64 a :: .int .u64 b :: .int .u64 c :: .int .u64 e::r=>x.val == 0 && a == 0 && b == 0 && c == 0 && e == 0 && I9 l r
 | .ob (.s x)::l,.int .u64 a :: .int .u64 b :: .int .u64 c :: .int .u64 e::r=>x.val == 0 && a == 0 && b == 0 && c == 0 && e == 0 && I9 l r
 | .ob (.fp x)::l,.int .u64 a :: .int .u64 b :: .int .u64 c :: .int .u64 e :: .int .u64 f :: .int .u64 g::r=>x.val == 0 && a == 0 && b == 0 && c == 0 && e == 0 && f == 0 && g == 0 && I9 l r
 | .ob (.p x)::l,.int .u64 a :: .int .u64 b :: .int .u64 c :: .int .u64 e :: .int .u64 f :: .int .u64 g::r=>x.val == 0 && a == 0 && b == 0 && c == 0 && e == 0 && f == 0 && g == 0 && I9 l r
 | _,_=>false
theorem Tu(i:Nat):A1 0 i=0:=by simp [A1]
theorem NL:∀{k k' : IntKind},IntKind.same k k' = true->k=k' := by
 intro k k' h;cases k<;>cases k'<;>first | rfl | simp [IntKind.same] at h
theorem AV{x:C0}{d:Nat}:∀{l:List It} {cs:List Value},I9 l cs=true->C6 (F8 x (d+1)) l cs:=by
  intro l cs h
  fun_induction I9 l cs
  all_goals first
    | rfl
    | (simp only[Bool.and_eq_true,beq_iff_eq] at h
       rename_i ih
       try simp only[and_assoc] at h
       first
         | (obtain ⟨h1,h2,h3⟩:=h;cases NL h1;subst h2;exact ⟨[_],_,rfl,by simp [F8],ih h3⟩)
         | (obtain ⟨h2,h2',h3⟩:=h;cases A6d h2;cases A6d h2';exact ⟨[_],_,rfl,by simp [F8,Value.oneCell'],ih h3⟩)
         | (obtain ⟨h2,h3⟩:=h;subst h2;exact ⟨[_],_,rfl,by simp [F8],ih h3⟩)
         | (obtain ⟨h2,h3⟩:=h;exact ⟨[_],_,rfl,by simp [F8,h2],ih h3⟩)
         | (obtain ⟨h0,h1,h2,h3,h4,h5⟩:=h;subst h1 h2 h3 h4
            exact ⟨[_,_,_,_],_,rfl,by simp [F8,Ob.cells,Ob.k,Ob.n,h0,Tu,List.range_succ],ih h5⟩)
         | (obtain ⟨h0,h1,h2,h3,h4,h5,h6,h7⟩:=h;subst h1 h2 h3 h4 h5 h6
            exact ⟨[_,_,_,_,_,_],_,rfl,by simp [F8,Ob.cells,Ob.k,Ob.n,h0,Tu,List.range_succ],ih h7⟩))
    | (rename_i ih;exact ⟨[_],_,rfl,by simp [F8,Value.oneCell'],ih h⟩)
    | (simp at h;done)
def X6:TypeDesc->Bool
 | .struct _ | .array _ _=>true
 | _=>false
def U9(P:Program):List Field->List (Nat×Nat×Bool)->Bool
 | [],[]=>true
 | f::l,(o,s,g)::r=>
  f.offset == o && (match P.info? f.type,P.underlying f.type with | some i,some d=>i.size == s && X6 d == g && (g || s == 1) | _,_=>false) && U9 P l r
 | _,_=>false
def Gi(sh:Nat->Option (List Bool))(P:Program):Nat->List Field->Option (List Bool)
  | _,[]=>some []
  | off,f::l=>
    match sh f.type,P.info? f.type with
    | some s, some i => if f.offset = off ∧ i.size = s.length ∧ f.name ≠ "_" then (Gi sh P (off + s.length) l).map (s ++ ·) else none
    | _,_=>none
def YK(P:Program):Nat->Nat->Option (List Bool)
 | 0,_=>none
 | n+1,t=>match P.underlying t with
  | some .bool=>some [false]
  | some (.int _)=>some [true]
  | some (.array m e)=>match YK P n e,P.info? e with
   | some s,some i=>if i.size=s.length then some (List.replicate m s).flatten else none
   | _,_=>none
  | some (.struct fs)=>if P.stoodInHeld t=false then Gi (YK P n) P 0 fs.toList else none
  | _=>none
def EV(P:Program)(t:Nat)(i:TyI):Bool:=
  match P.info? t,P.underlying t with
  | some inf,some d=>
    inf.size == i.cells && inf.bytes == i.bytes && X6 d == i.agg && (i.agg || i.cells == 1) &&
    (match inf.zero with
     | some z=>I9 i.zero z.cells.toList && z.cells.size == i.cells && (match i.esq with
       | some q=>(match KB q 1 with | some z1=>I9 (z1.get 0) z.cells.toList | none=>true)
       | none=>true)
     | none=>false) &&
    (match d with
     | .struct fs=>U9 P fs.toList i.fields && i.arr.isNone && i.slc.isNone && i.kind.isNone
     | .array n e=>i.fields.isEmpty && (match i.arr with | some (n',e')=>n == n' && e == e' | none=>false) && i.slc.isNone && i.kind.isNone
     | .slice e=>i.fields.isEmpty && i.arr.isNone && (match i.slc with | some e' => e == e' | none=>false) && i.kind.isNone
     | .int k=>i.fields.isEmpty && i.arr.isNone && i.slc.isNone && (match i.kind with | some k' => IntKind.same k k' | none=>false)
     | _=>i.fields.isEmpty && i.arr.isNone && i.slc.isNone && i.kind.isNone) &&
    (i.eqk.isEmpty || (YK P 8 t == some i.eqk && !(P.eqGuardType P.depth t))) &&
    (match i.esq with | some q=>q.es == i.cells && q.n == 0 | none=>true) &&
    ((i.agg || !(ZS i.zero) || (match d with | .pointer _=>true | _=>false)) && (!i.isStr || (match d with | .string=>true | _=>false)))
  | _,_=>false
structure I2(P:Program)(t:Nat)(i:TyI):Prop where
 chk:EV P t i=true
section
variable {P:Program} {t:Nat} {i:TyI}
theorem I2.parts(h:I2 P t i):∃inf d,P.info? t=some inf∧P.underlying t=some d∧inf.size=i.cells∧inf.bytes=i.bytes∧X6 d=i.agg∧(i.agg=false->i.cells=1) ∧
  (∃z,inf.zero=some z∧I9 i.zero z.cells.toList=true∧z.cells.size=i.cells∧∀q z1,i.esq=some q->KB q 1=some z1->I9 (z1.get 0) z.cells.toList=true) ∧
  (∀fs,d = .struct fs->U9 P fs.toList i.fields=true∧i.arr=none∧i.slc=none) ∧
  (∀n e,i.arr=some (n,e)->d = .array n e∧i.slc=none∧i.fields=[]) ∧
  (∀e,i.slc=some e->d = .slice e∧i.arr=none) ∧
  (∀k,i.kind=some k->d = .int k) ∧
  (i.eqk≠[]->YK P 8 t=some i.eqk∧P.eqGuardType P.depth t=false) ∧
  (∀q,i.esq=some q->q.es=i.cells∧q.n=0) ∧
  (i.fields≠[]->∃fs,d = .struct fs):=by
 have hc:=h.chk;unfold EV at hc;split at hc
 ·rename_i inf d hi hd
  simp only[Bool.and_eq_true,beq_iff_eq,Bool.or_eq_true,and_assoc] at hc;obtain ⟨h1,h2,h3,h4,h5,h6,h7,h8,-⟩:=hc;refine ⟨inf,d,hi,hd,h1,h2,h3,fun ha=>by simpa [ha] using h4,?_,?_,?_,?_,?_,?_,?_,?_⟩
  ·split at h5
   ·rename_i z hz
    simp only[Bool.and_eq_true,beq_iff_eq] at h5;exact ⟨z,hz,h5.1.1,h5.1.2,fun q z1 hq hz1=>by simpa [hq,hz1] using h5.2⟩
   ·cases h5
  ·rintro fs rfl
   simp only[Bool.and_eq_true,and_assoc,Option.isNone_iff_eq_none] at h6;exact ⟨h6.1,h6.2.1,h6.2.2.1⟩
  ·intro n e ha
   cases d<;>simp only[ha,Bool.and_eq_true,Option.isNone_iff_eq_none,beq_iff_eq,List.isEmpty_iff,and_assoc] at h6<;>first | (simp at h6;done) | skip
   obtain ⟨h61,rfl,rfl,h62,_⟩:=h6;exact ⟨rfl,h62,h61⟩
  ·intro e ha
   cases d<;>simp only[ha,Bool.and_eq_true,Option.isNone_iff_eq_none,beq_iff_eq,List.isEmpty_iff,and_assoc] at h6<;>first | (simp at h6;done) | skip
   obtain ⟨h61,h62,rfl,_⟩:=h6;exact ⟨rfl,h62⟩
  ·intro k ha
   cases d<;>simp only[ha,Bool.and_eq_true,Option.isNone_iff_eq_none,List.isEmpty_iff,and_assoc] at h6<;>first | (simp at h6;done) | skip
   rw[NL h6.2.2.2]
  ·intro he
   simpa [he] using h7
  ·intro q hq
   rw[hq] at h8;simpa using h8
  ·intro hf
   cases d<;>simp only[Bool.and_eq_true,List.isEmpty_iff,and_assoc] at h6
   case struct fs=>exact ⟨fs,rfl⟩
   all_goals exact absurd h6.1 hf
 ·cases hc
theorem I2.nilp(h:I2 P t i)(ha:i.agg=false)(hz:ZS i.zero=true):∃e,P.underlying t=some (.pointer e):=by
 have hc:=h.chk;unfold EV at hc;split at hc
 ·rename_i inf d hi hd
  rw[Bool.and_eq_true,ha,hz] at hc;have h2:=(Bool.and_eq_true _ _ ▸ hc.2:_∧_).1
  cases d with
  | pointer e=>exact ⟨e,hd⟩
  | _=>cases h2
 ·cases hc
theorem I2.str(h:I2 P t i)(hs:i.isStr=true):P.underlying t=some .string:=by
 have hc:=h.chk;unfold EV at hc;split at hc
 ·rename_i inf d hi hd
  rw[Bool.and_eq_true,hs] at hc;have h2:=(Bool.and_eq_true _ _ ▸ hc.2:_∧_).2
  cases d with
  | string=>exact hd
  | _=>cases h2
 ·cases hc
theorem EG:∀{l:List Field} {r:List (Nat×Nat×Bool)},U9 P l r=true->∀(n o s:Nat) (g:Bool),r[n]? = some (o,s,g) ->
  ∃f:Field,l[n]? = some f∧f.offset=o∧(∃inf d,P.info? f.type=some inf∧P.underlying f.type=some d∧inf.size=s∧X6 d=g∧(g=false->s=1))
 | [],[],_,n,o,s,g,h=>by simp at h
 | [],_::_,hf,_,_,_,_,_=>by simp [U9] at hf
 | _::_,[],hf,_,_,_,_,_=>by simp [U9] at hf
 | f::l,(o',s',g')::r,hf,n,o,s,g,h=>by
  simp only[U9,Bool.and_eq_true,beq_iff_eq] at hf;obtain ⟨⟨h1,h2⟩,h3⟩:=hf
  cases n with
  | zero=>
   simp only[List.getElem?_cons_zero,Option.some.injEq,Prod.mk.injEq] at h;obtain ⟨rfl,rfl,rfl⟩:=h;refine ⟨f,by simp,h1,?_⟩
   split at h2
   ·rename_i inf d hi hd
    simp only[Bool.and_eq_true,beq_iff_eq,Bool.or_eq_true] at h2;exact ⟨inf,d,hi,hd,h2.1.1,h2.1.2,fun hg=>by simpa [hg] using h2.2⟩
   ·cases h2
  | succ n=>
   simp only[List.getElem?_cons_succ] at h ⊢
   exact EG h3 n o s g h
theorem I2.sizeOf(h:I2 P t i)(w:World):(Go.sizeOf t).run P w = .ok i.cells w:=by
 obtain ⟨inf,d,hi,_,hs,_⟩:=h.parts;simp [Go.sizeOf,typeInfo,hi,hs]
theorem Uc{d:TypeDesc}(hd:P.underlying t=some d)(w:World):(Go.isAgg t).run P w = .ok (X6 d) w:=by
 unfold Go.isAgg;rw[Sem.run_bind,run_underlying hd w]
 cases d<;>rfl
theorem We{inf:TypeInfo}{d:TypeDesc}(hi:P.info? t=some inf)(hd:P.underlying t=some d){w:World}{b o:Nat}{cs:List Value}(hl:cs.length=inf.size)
  (h1:X6 d=false->inf.size=1) (hc:∀(j:Nat) (v:Value),cs[j]? = some v->w.cell? ⟨b,o+j,none⟩=some v) :
  (Go.loadVar t ⟨b,o,none⟩).run P w = .ok (O2 (X6 d) cs) w:=by
 simp only[Go.loadVar,Sem.run_bind,Uc hd,Result.andThen_ok]
 cases ha:X6 d with
 | true=>
  have hld:(loadCells ⟨b,o,none⟩ cs.length).run P w = .ok cs.toArray w:=
   run_loadCells_list (P:=P) w ⟨b,o,none⟩ cs (fun j v hv=>by rw[Addr.add_lit];exact hc j v hv)
  simp [Go.sizeOf,typeInfo,hi,<-hl,hld,O2]
 | false=>
  have h1' := h1 ha;rw[h1'] at hl;match cs,hl with
  | [v],_=>
   have:=hc 0 v rfl
   simp only[Nat.add_zero] at this;simp [O2,this]
theorem YF(h:I2 P t i){w:World}{b o:Nat}{cs:List Value}(hl:cs.length=i.cells)
  (hc:∀(j:Nat) (v:Value),cs[j]? = some v->w.cell? ⟨b,o+j,none⟩=some v) :
  (Go.loadVar t ⟨b,o,none⟩).run P w = .ok (O2 i.agg cs) w:=by
 obtain ⟨inf,d,hi,hd,hs,_,ha,h1,_⟩:=h.parts;rw[<-ha];exact We hi hd (hl.trans hs.symm) (fun e=>by rw[hs];exact h1 (ha ▸ e)) hc
theorem Wg(h:I2 P t i){w:World}{b o:Nat}{u:Value}{cs:List Value}(hu:u.cells=cs.toArray)(hl:cs.length=i.cells)(h1:∀v∈cs,v.oneCell' = true)
  {cur:Array Value} {ty:TypeId} (hb:w.heap[b]? = some (.cells cur ty (0,0))) (hfit:o+cs.length<=cur.size) :
  (Go.storeVar t ⟨b,o,none⟩ u).run P w = .ok () (w.setRow b (cur.toList.take o++cs++cur.toList.drop (o+cs.length)).toArray):=by
 have hst:=run_storeCells_at P b o ty cs 0 cur w hb (by simpa using hfit) h1
 simp only[Nat.add_zero] at hst;simp [Go.storeVar,hu,h.sizeOf,hl,hst]
end
end
section
structure P0(x:C0)(m:Nat->Option En):Prop where
 dom:∀p,m p=none↔x.k p = .no
 fl:∀p l,m p=some (.fl l)->x.k p = .real
 nil:∀p q,m p=some (.sq q)->x.k p = .nil->q.n=0
 ent:∀p e,m p=some e->x.k p = .real->∃cs ty,x.w.heap[x.β p]? = some (.cells cs ty (0,0))∧C9 x e cs.toList
 inj:∀p q,x.k p = .real->x.k q = .real->x.β p=x.β q->p=q
 own:∀p,x.k p = .real->¬x.F (x.β p)
 fw:∀b,x.F b->b<x.w.heap.size
def kx(x:C0):Option Nat->C0
 | none=>x
 | some p=>{ x with k:=fun q=>if q=p then .no else x.k q }
structure Tr(x:C0)(kill:Option Nat)(y:C0)(m' : Nat->Option En):Prop where
 ext:Ext (kx x kill) y
 mem:P0 y m'
 os:y.w.os=x.w.os
 tape:y.w.tape=x.w.tape
 output:y.w.output=x.w.output
 blk:∀b,b<x.w.heap.size->(∀p,x.k p = .real->x.β p≠b)->y.w.heap[b]? = x.w.heap[b]?
 fresh:∀p,y.k p = .real->(x.k p = .real∧y.β p=x.β p)∨x.w.heap.size<=y.β p
 fnew:∀b,y.F b->x.F b∨x.w.heap.size<=b
theorem P0.lt{x:C0}{m:Nat->Option En}(h:P0 x m){p:Nat}(hp:x.k p = .real):x.β p<x.w.heap.size:=by
 cases hm:m p with
 | none=>rw[(h.dom p).1 hm] at hp;cases hp
 | some e=>obtain ⟨cs,ty,hc,_⟩:=h.ent p e hm hp;exact (Array.getElem?_eq_some_iff.1 hc).1
theorem Tr.refl{x:C0}{m:Nat->Option En}(h:P0 x m):Tr x none x m:=
 ⟨Ext.refl x,h,rfl,rfl,rfl,fun _ _ _=>rfl,fun _ hp=>.inl ⟨hp,rfl⟩,fun _ hb=>.inl hb⟩
theorem Et(m:Nat->Option En)(p:Nat)(e:En):H8 m [(p,e)]=fun q=>if q=p then some e else m q:=rfl
theorem X7(w:World)(o:Obj){b:Nat}(h:b<w.heap.size):(w.alloc o).heap[b]? = w.heap[b]? := by
 show (w.heap.push o)[b]? = _;rw[Array.getElem?_push,if_neg (by omega)]
def D8(x:C0)(p:Nat)(o:Obj):C0:=
 { w:=x.w.alloc o,F:=x.F,k:=fun q=>if q=p then .real else x.k q,β:=fun q=>if q=p then x.w.heap.size else x.β q }
theorem A7t{x:C0}{m:Nat->Option En}(h:P0 x m){p:Nat}(hp:m p=none)(o:Obj):Ext x (D8 x p o) where
 size:=by simp [D8]
 ro b hb:=⟨hb,X7 _ _ (h.fw b hb)⟩
 k q hq:=by
  have:q≠p:=fun e=>hq (e ▸ (h.dom p).1 hp)
  simp [D8,this]
 β q hq:=by
  have:q≠p:=fun e=>by rw[e,(h.dom p).1 hp] at hq;cases hq
  simp [D8,this]
 own q hq cs ty hc:=⟨cs,(X7 _ _ (h.lt hq)).trans hc,rfl⟩
theorem Kv{x:C0}{m:Nat->Option En}(h:P0 x m){p:Nat}(hp:m p=none)(cells:Array Value)(ty:TypeId)(e:En)(hd:C9 x e cells.toList) :
  Tr x none (D8 x p (.cells cells ty)) (H8 m [(p,e)]):=by
 have hk:=(h.dom p).1 hp;have hx:=A7t h hp (.cells cells ty);refine ⟨hx,?_,rfl,rfl,rfl,fun b hb _=>X7 _ _ hb,fun q hq=>?_,fun b hb=>.inl hb⟩
 ·rw[Et]
  refine ⟨fun q=>?_,fun q l hq=>?_,fun q s hq hn=>?_,fun q e' hq hr=>?_,fun q q' hq hq' he=>?_,fun q hq=>?_,fun b hb=>?_⟩
  ·by_cases hqp:q=p
   ·simp [hqp,D8]
   ·simp only[D8,hqp,if_false];exact h.dom q
  ·by_cases hqp:q=p
   ·simp [hqp,D8]
   ·simp only[D8,hqp,if_false] at hq ⊢;exact h.fl q l hq
  ·by_cases hqp:q=p
   ·simp [hqp,D8] at hn
   ·simp only[D8,hqp,if_false] at hq hn;exact h.nil q s hq hn
  ·by_cases hqp:q=p
   ·simp only[hqp,if_true,Option.some.injEq] at hq
    subst hq;refine ⟨cells,ty,?_,K8 hx hd⟩
    simp only[D8,hqp,if_true];exact heap_alloc_new x.w _
   ·simp only[hqp,if_false] at hq
    simp only[D8,hqp,if_false] at hr;obtain ⟨cs,ty',hc,hd'⟩:=h.ent q e' hq hr;refine ⟨cs,ty',?_,K8 hx hd'⟩
    simp only[D8,hqp,if_false];exact (X7 _ _ (h.lt hr)).trans hc
  ·by_cases hqp:q=p<;>by_cases hqp' : q' = p
   ·rw[hqp,hqp']
   ·simp only[D8,hqp,hqp',if_true,if_false] at he hq'
    have:=h.lt hq';omega
   ·simp only[D8,hqp,hqp',if_true,if_false] at he hq
    have:=h.lt hq;omega
   ·simp only[D8,hqp,hqp',if_false] at he hq hq'
    exact h.inj q q' hq hq' he
  ·by_cases hqp:q=p
   ·simp only[D8,hqp,if_true]
    intro hF;have:=h.fw _ hF;omega
   ·simp only[D8,hqp,if_false] at hq ⊢;exact h.own q hq
  ·have:=h.fw b hb
   simp [D8];omega
 ·by_cases hqp:q=p
  ·right;simp [D8,hqp]
  ·left;simp only[D8,hqp,if_false] at hq ⊢;exact ⟨hq,C4⟩
def Ar(x:C0)(p:Nat)(cs:Array Value):C0:={ x with w:=x.w.setRow (x.β p) cs }
theorem C3o{x:C0}{m:Nat->Option En}(h:P0 x m){p:Nat}(hp:x.k p = .real){cur cs:Array Value}{ty:TypeId}(hc:x.w.heap[x.β p]? = some (.cells cur ty (0,0)))
  (hs:cs.size=cur.size):Ext x (Ar x p cs) where
 size:=by simp [Ar]
 ro b hb:=⟨hb,setRow_other _ _ _ _ (fun e=>h.own p hp (e ▸ hb))⟩
 k q _:=rfl
 β q _:=rfl
 own q hq cs' ty' hc' := by
  by_cases hqp:q=p
  ·subst hqp
   rw[hc] at hc';cases hc'
   exact ⟨cs,setRow_heap _ _ _ _ _ _ hc,hs⟩
  ·have:x.β q≠x.β p:=fun e=>hqp (h.inj q p hq hp e)
   exact ⟨cs',(setRow_other _ _ _ _ this).trans hc',rfl⟩
theorem Rl{x:C0}{m:Nat->Option En}(h:P0 x m){p:Nat}(hp:x.k p = .real){cur cs:Array Value}{ty:TypeId}(hc:x.w.heap[x.β p]? = some (.cells cur ty (0,0)))
  (hs:cs.size=cur.size) (e:En) (hd:C9 x e cs.toList):Tr x none (Ar x p cs) (H8 m [(p,e)]):=by
 have hx:=C3o h hp hc hs;have hmp:m p≠none:=fun e=>by rw[(h.dom p).1 e] at hp;cases hp
 refine ⟨hx,?_,rfl,rfl,rfl,fun b _ hq=>setRow_other _ _ _ _ (fun e=>hq p hp e.symm),fun q hq=>.inl ⟨hq,rfl⟩,fun b hb=>.inl hb⟩
 rw[Et];refine ⟨fun q=>?_,fun q l hq=>?_,fun q s hq hn=>?_,fun q e' hq hr=>?_,fun q q' hq hq' he=>h.inj q q' hq hq' he,fun q hq=>h.own q hq,fun b hb=>?_⟩
 ·by_cases hqp:q=p
  ·subst hqp;simp [Ar,hp]
  ·simp only[hqp,if_false];exact h.dom q
 ·by_cases hqp:q=p
  ·subst hqp;exact hp
  ·simp only[hqp,if_false] at hq;exact h.fl q l hq
 ·by_cases hqp:q=p
  ·subst hqp;rw[show (Ar x q cs).k q=x.k q from rfl,hp] at hn;cases hn
  ·simp only[hqp,if_false] at hq;exact h.nil q s hq hn
 ·by_cases hqp:q=p
  ·subst hqp
   simp only[if_true,Option.some.injEq] at hq;subst hq;exact ⟨cs,ty,setRow_heap _ _ _ _ _ _ hc,K8 hx hd⟩
  ·simp only[hqp,if_false] at hq
   obtain ⟨cs',ty',hc',hd'⟩:=h.ent q e' hq hr;have:x.β q≠x.β p:=fun e=>hqp (h.inj q p hr hp e)
   exact ⟨cs',ty',(setRow_other _ _ _ _ this).trans hc',K8 hx hd'⟩
 ·have:=h.fw b hb
  simp [Ar];exact this
theorem Uf{x:C0}(p:Nat):∀(d:Nat) (i:It) (vs:List Value),F8 x d i vs->F8 (kx x (some p)) d (E3 p i) vs:=by
  have hext:∀d i vs,(∀q off,i ≠ .ptr q off)->(∀q es j off,i ≠ .ep q es j off)->(∀q off len es,i ≠ .slc q off len es)->(∀f c,i ≠ .clo f c)->(∀q,i ≠ .mp q)->(∀q a b c,i ≠ .sv q a b c)->(∀q a b c,i ≠ .arr q a b c)->F8 x d i vs->F8 (kx x (some p)) d i vs:=by
    intro d;induction d with
    | zero=>intro i vs h1 h2 h3 h4 h5 h6 h7 h;cases i<;>simp only[F8] at h ⊢<;>first | exact h | exact absurd rfl (h1 _ _) | exact absurd rfl (h2 _ _ _ _) | exact absurd rfl (h3 _ _ _ _) | exact absurd rfl (h4 _ _) | exact absurd rfl (h5 _) | exact absurd rfl (h6 _ _ _ _) | exact absurd rfl (h7 _ _ _ _)
    | succ d ih=>
      intro i vs h1 h2 h3 h4 h5 h6 h7 h;have hget:∀(q:Sq) (j:Nat) (cs:List Value),C6 (F8 x d) (q.get j) cs->C6 (F8 (kx x (some p)) d) (q.get j) cs:=by
        intro q j cs hc;have:∀(l:List It) (cs:List Value),(∀i∈l,(∀q off,i ≠ .ptr q off)∧(∀q es j off,i ≠ .ep q es j off)∧(∀q off len es,i ≠ .slc q off len es)∧(∀f c,i ≠ .clo f c)∧(∀q,i ≠ .mp q)∧(∀q a b c,i ≠ .sv q a b c)∧(∀q a b c,i ≠ .arr q a b c))->C6 (F8 x d) l cs->C6 (F8 (kx x (some p)) d) l cs:=by
          intro l;induction l with
          | nil=>intro cs _ h;exact h
          | cons a l ihl=>
            intro cs hl ⟨c1,c2,e,g1,g2⟩
            obtain ⟨k1,k2,k3,k4,k5,k6,k7⟩:=hl a (by simp)
            exact ⟨c1,c2,e,ih a c1 k1 k2 k3 k4 k5 k6 k7 g1,ihl c2 (fun i hi=>hl i (by simp [hi])) g2⟩
        refine this _ _ ?_ hc
        intro i hi;have flat:∀(l:List (Fp×Fp×Fp)) (n k:Nat),i∈J9 l k n->∃o,i = .ob o:=by
          intro l n;induction n with
          | zero=>intro k hk;simp [J9] at hk
          | succ n ihn=>
            intro k hk;simp only[J9,List.mem_cons] at hk;rcases hk with rfl | rfl | rfl | hk
            · exact ⟨_,rfl⟩
            · exact ⟨_,rfl⟩
            · exact ⟨_,rfl⟩
            · exact ihn _ hk
        cases q<;>simp only[Sq.get,A0.its,OpD.its,G0.its,K5.its,M5,W8,List.mem_cons,List.not_mem_nil,or_false] at hi
        case ptt l=>obtain ⟨o,rfl⟩:=flat _ _ _ hi;simp
        all_goals first
          | (subst hi;simp;done)
          | (rcases hi with rfl | rfl<;>(simp;done))
          | (rcases hi with rfl | rfl | rfl<;>(simp;done))
          | (rcases hi with rfl | rfl | rfl | rfl | rfl<;>(simp;done))
          | (rcases hi with rfl | rfl | rfl | rfl | rfl | rfl<;>(simp;done))
          | (rcases hi with rfl | rfl | rfl | rfl | rfl | rfl | rfl | rfl<;>(simp;done))
      cases i<;>simp only[F8] at h ⊢
      all_goals first
        | exact h
        | exact absurd rfl (h1 _ _)
        | exact absurd rfl (h2 _ _ _ _)
        | exact absurd rfl (h3 _ _ _ _)
        | exact absurd rfl (h4 _ _)
        | exact absurd rfl (h5 _)
        | exact absurd rfl (h6 _ _ _ _) | exact absurd rfl (h7 _ _ _ _)
        | (obtain ⟨hv,h⟩:=h
           refine ⟨hv,?_⟩
           rcases h with h | ⟨b,o,cap,e,hc,hm,hr⟩
           · exact .inl h
           · refine .inr ⟨b,o,cap,e,hc,hm,fun j hj=>?_⟩
             obtain ⟨cs,g1,g2⟩:=hr j hj;exact ⟨cs,hget _ _ _ g1,g2⟩)
        | (rcases h with h | ⟨b,o,cap,e,hc,hm,hr⟩
           · exact .inl h
           · refine .inr ⟨b,o,cap,e,hc,hm,fun j hj=>?_⟩
             obtain ⟨cs,g1,g2⟩:=hr j hj;exact ⟨cs,hget _ _ _ g1,g2⟩)
        | (obtain ⟨b,o,cs,e,hi,g1,g2⟩:=h
           exact ⟨b,o,cs,e,hi,hget _ _ _ g1,g2⟩)
  intro d i vs h;have dead:∀(v:Value),vs=[v]->v.oneCell' = true->F8 (kx x (some p)) d .dead vs:=by
    intro v e h1;cases d<;>exact ⟨v,e,h1⟩
  cases i
  case sv q a b c=>
    simp only[E3]
    cases d<;>simp only[F8] at h <;>
    · rcases h with ⟨_,_,_,e⟩ | ⟨_,_,e,_⟩<;>exact dead _ e rfl
  case slc q off len es=>
    by_cases hq:q=p
    · subst hq
      simp only[E3,if_true]
      cases d<;>simp only[F8] at h ⊢ <;>
      · rcases h with ⟨_,_,rfl,e⟩ | ⟨_,_,_,_,e,_⟩<;>exact ⟨_,_,e⟩
    · simp only[E3,hq,if_false]
      cases d<;>simp only[F8,kx,hq,if_false] at h ⊢<;>exact h
  case ptr q off=>
    by_cases hq:q=p
    · subst hq;simp only[E3,if_true]
      cases d<;>simp only[F8] at h<;>exact dead _ h.2 rfl
    · simp only[E3,hq,if_false]
      cases d<;>simp only[F8,kx,hq,if_false] at h ⊢<;>exact h
  case ep q es j off=>
    by_cases hq:q=p
    · subst hq;simp only[E3,if_true]
      cases d<;>simp only[F8] at h<;>exact dead _ h.2 rfl
    · simp only[E3,hq,if_false]
      cases d<;>simp only[F8,kx,hq,if_false] at h ⊢<;>exact h
  case mp q=>
    by_cases hq:q=p
    · subst hq;simp only[E3,if_true]
      cases d<;>simp only[F8] at h<;>exact dead _ h.2 rfl
    · simp only[E3,hq,if_false]
      cases d<;>simp only[F8,kx,hq,if_false] at h ⊢<;>exact h
  case arr q off n es=>
    by_cases hq:q=p
    · subst hq;simp only[E3,if_true]
      cases d<;>simp only[F8] at h<;>exact dead _ h.2 rfl
    · simp only[E3,hq,if_false]
      cases d<;>simp only[F8,kx,hq,if_false] at h ⊢<;>exact h
  case clo f c=>
    by_cases hq:c.any (fun a=>a.1 == p)=true
    · simp only[E3,hq,if_true]
      cases d<;>simp only[F8] at h<;>exact dead _ h.2 rfl
    · simp only[E3,hq]
      have hne:∀a∈c,a.1≠p:=by
        intro a ha e;exact hq (List.any_eq_true.2 ⟨a,ha,by simp [e]⟩)
      cases d<;>simp only[F8,kx] at h ⊢<;>exact ⟨fun a ha=>by simp only[hne a ha,if_false];exact h.1 a ha,h.2⟩
  all_goals exact hext d _ vs (by simp [E3]) (by simp [E3]) (by simp [E3]) (by simp [E3]) (by simp [E3]) (by simp [E3]) (by simp [E3]) h
theorem GP{x:C0}(p d:Nat):∀{l:List It} {cs:List Value},C6 (F8 x d) l cs->C6 (F8 (kx x (some p)) d) (l.map (E3 p)) cs
 | [],_,h=>h
 | _::_,_,⟨c1,c2,e,h1,h2⟩=>⟨c1,c2,e,Uf p d _ _ h1,GP p d h2⟩
theorem A1w(p:Nat)(i:It)(h:i.size=1):(E3 p i).size=1:=by
 cases i<;>simp only[E3]<;>first | exact h | (split<;>rfl)
theorem A5x{x:C0}(p:Nat){a:V1}{v:Value}(h:Dq x a v):Dq (kx x (some p)) (Br p a) v:=by
 cases a with
 | c i=>obtain ⟨h1,d,h2⟩:=h;exact ⟨A1w p i h1,d,Uf p _ _ _ h2⟩
 | a l=>obtain ⟨cs,e,hc⟩:=h;obtain ⟨d,hc⟩:=M3 hc;exact ⟨cs,e,P4 (GP p d hc)⟩
theorem Wl{x:C0}(p:Nat){s:SV}{v:Value}(h:B8 x s v):B8 (kx x (some p)) (N3 p s) v:=by
 cases s with
 | v a=>exact A5x p h
 | t l=>
  obtain ⟨vs,e,hc⟩:=h;refine ⟨vs,e,?_⟩
  clear e;induction hc with
  | nil=>exact .nil
  | cons h1 _ ih=>exact .cons (A5x p h1) ih
 | top=>trivial
structure Kp where
 at_:Nat->Prop
 pin:Option (Kd×Nat×Nat×Nat)
 ds:List Deferred:=[]
def AD:Kp:=⟨fun _=>True,none,[]⟩
structure KD(w0:World)(F0:Nat->Prop)(K:Kp)(x:C0):Prop where
 f0:∀b,F0 b->x.F b
 fn:∀b,x.F b->F0 b∨w0.heap.size<=b
 size:w0.heap.size<=x.w.heap.size
 keep:∀b,b<w0.heap.size->K.at_ b->x.w.heap[b]? = w0.heap[b]?
 ownK:∀p,x.k p = .real->x.β p<w0.heap.size->¬K.at_ (x.β p)
 os:x.w.os=w0.os
 tape:x.w.tape=w0.tape
 output:x.w.output=w0.output
 pin:∀q,K.pin=some q->q.1 ≠ .no∧x.k 0=q.1∧(q.1 = .real->x.β 0=q.2.1∧∃cs,x.w.heap[x.β 0]? = some (.cells cs q.2.2.1 (0,0))∧cs.size=q.2.2.2)
def ZJ(ds:List Deferred):List ((Nat->SV)×Nat)->List Deferred
 | []=>ds
 | _::_=>[]
theorem IY(l:List ((Nat->SV)×Nat)):ZJ [] l=[]:=by cases l<;>rfl
inductive Frs(x:C0)(ds:List Deferred):List ((Nat->SV)×Nat)->List Act->Prop
 | nil:Frs x ds [] []
 | cons {tS:Nat->SV} {nt:Nat} {l:List ((Nat->SV)×Nat)} {a:Act} {as:List Act}:a.defers=ZJ ds l->a.tmps.size=nt->(∀t,B8 x (tS t) (a.tmps.getD t undef))->Frs x ds l as->Frs x ds ((tS,nt)::l) (a::as)
theorem Frs.ext{x y:C0}{ds:List Deferred}(h:Ext x y){l:List ((Nat->SV)×Nat)}{as:List Act}(hf:Frs x ds l as):Frs y ds l as:=by
 induction hf with
 | nil=>exact .nil
 | cons h1 h2 h3 _ ih=>exact .cons h1 h2 (fun t=>Ba h (h3 t)) ih
theorem KR(ds:List Deferred)(l:List ((Nat->SV)×Nat))(p:Option Nat):ZJ ds (Da l p)=ZJ ds l:=by
 cases p with
 | none=>rfl
 | some p=>cases l<;>rfl
theorem Frs.kill{x:C0}{ds:List Deferred}(p:Option Nat){l:List ((Nat->SV)×Nat)}{as:List Act}(hf:Frs x ds l as):Frs (kx x p) ds (Da l p) as:=by
 cases p with
 | none=>exact hf
 | some p=>
  induction hf with
  | nil=>exact .nil
  | cons h1 h2 h3 _ ih=>exact .cons (h1.trans (KR ds _ (some p)).symm) h2 (fun t=>Wl p (h3 t)) ih
structure Sim(w0:World)(F0:Nat->Prop)(K:Kp)(as:List Act)(σ:St)(x:C0)(a:Act):Prop where
 defers:a.defers=ZJ K.ds σ.fr
 nt:a.tmps.size=σ.nt
 t:∀t,B8 x (σ.t t) (a.tmps.getD t undef)
 mem:P0 x σ.m
 base:KD w0 F0 K x
 frs:Frs x K.ds σ.fr as
theorem KD.tr{w0:World}{F0:Nat->Prop}{K:Kp}{x y:C0}{kill:Option Nat}{m' : Nat->Option En}(h:KD w0 F0 K x)(ht:Tr x kill y m')(hkill:HB kill=true):KD w0 F0 K y where
 f0 b hb:=by
  have:=(ht.ext.ro b (by cases kill<;>exact h.f0 b hb)).1
  exact this
 fn b hb:=by
  rcases ht.fnew b hb with h1 | h1
  ·exact h.fn b h1
  ·right;exact Nat.le_trans h.size h1
 size:=Nat.le_trans h.size (by have:=ht.ext.size;cases kill<;>exact this)
 keep b hb hk:=by
  rw[<-h.keep b hb hk];exact ht.blk b (Nat.lt_of_lt_of_le hb h.size) (fun p hp e=>h.ownK p hp (e ▸ hb) (e ▸ hk))
 ownK p hp hb:=by
  rcases ht.fresh p hp with ⟨h1,h2⟩ | h1
  ·rw[h2] at hb ⊢;exact h.ownK p h1 hb
  ·have:=h.size;omega
 os:=ht.os.trans h.os
 tape:=ht.tape.trans h.tape
 output:=ht.output.trans h.output
 pin q hq:=by
  obtain ⟨h1,h2,h3⟩:=h.pin q hq;have e:(kx x kill).k 0=x.k 0∧(kx x kill).β 0=x.β 0:=by
   cases kill with
   | none=>exact ⟨rfl,rfl⟩
   | some p=>
    cases p with
    | zero=>cases hkill
    | succ p=>exact ⟨by simp [kx],rfl⟩
  refine ⟨h1,?_,fun hr=>?_⟩
  ·rw[ht.ext.k 0 (by rw[e.1,h2];exact h1),e.1,h2]
  ·obtain ⟨g1,cs,g2,g3⟩:=h3 hr
   have hb:y.β 0=x.β 0:=by rw[ht.ext.β 0 (by rw[e.1,h2];exact hr),e.2]
   have hw:(kx x kill).w=x.w:=by cases kill<;>rfl
   obtain ⟨cs',g4,g5⟩:=ht.ext.own 0 (by rw[e.1,h2];exact hr) cs q.2.2.1 (by rw[e.2,hw];exact g2)
   rw[e.2] at g4;exact ⟨hb.trans g1,cs',by rw[hb];exact g4,g5.trans g3⟩
theorem Pz(t:Array Value)(d:Nat)(v:Value)(e:Nat)(hd:d<t.size):(t.setIfInBounds d v).getD e undef=if e=d then v else t.getD e undef:=by
 by_cases h:e=d
 ·subst h;simp [hd]
 ·simp [h,Array.getElem?_setIfInBounds_ne (Ne.symm h)]
theorem Sim.step{w0:World}{F0:Nat->Prop}{K:Kp}{as:List Act}{σ:St}{x y:C0}{a:Act}{kill:Option Nat}{m' : Nat->Option En}(h:Sim w0 F0 K as σ x a)(ht:Tr x kill y m')(hkill:HB kill=true){dst:Option Nat}{sv:SV}{v:Value}{nx:Nat}
  (hd:∀d,dst=some d->d<σ.nt∧B8 y sv v) :
  Sim w0 F0 K as { σ with t:=match dst with | some d=>M7 (BA σ.t kill) d sv | none=>BA σ.t kill,m:=m',nx:=nx,fr:=Da σ.fr kill } y (a.put dst v):=by
 have hk:∀t,B8 y (BA σ.t kill t) (a.tmps.getD t undef):=by
  intro t;refine Ba ht.ext ?_
  cases kill with
  | none=>exact h.t t
  | some p=>exact Wl p (h.t t)
 cases dst with
 | none=>exact ⟨h.defers.trans (KR _ _ kill).symm,h.nt,hk,ht.mem,h.base.tr ht hkill,(h.frs.kill kill).ext ht.ext⟩
 | some d=>
  obtain ⟨hd1,hd2⟩:=hd d rfl;refine ⟨h.defers.trans (KR _ _ kill).symm,by simp [Act.put,h.nt],fun t=>?_,ht.mem,h.base.tr ht hkill,(h.frs.kill kill).ext ht.ext⟩
  simp only[Act.put];rw[Pz _ _ _ _ (by rw[h.nt];exact hd1)]
  by_cases he:t=d
  ·subst he;simp only[M7,if_true];exact hd2
  ·simp only[M7,he,if_false];exact hk t
end
section
theorem MV:∀(n:Nat) (f:Nat->Nat),(∀i,i<n->f i<n)->(∀i j,i<n->j<n->f i=f j->i=j)->∀y,y<n->∃i,i<n∧f i=y
 | 0,_,_,_,y,hy=>absurd hy (Nat.not_lt_zero y)
 | n+1,f,hb,hi,y,hy=>by
  have hv:=hb n (Nat.lt_succ_self n);have hne:∀i,i<n->f i≠f n:=fun i h e=>by have:=hi i n (by omega) (by omega) e;omega
  have ih:=MV n (fun i=>if f i=n then f n else f i)
   (fun i h=>by
    have h1:=hb i (by omega)
    have h2:=hne i h;split<;>omega)
   (fun i j h1 h2 e=>by
    have g1:=hne i h1;have g2:=hne j h2;have g3:=hi i j (by omega) (by omega)
    split at e<;>split at e<;>first | (apply g3;omega) | omega)
  by_cases e1:y=f n
  ·exact ⟨n,by omega,e1.symm⟩
  by_cases e2:y=n
  ·obtain ⟨i,h1,h2⟩:=ih (f n) (by omega)
   have g:=hne i h1;split at h2
   ·exact ⟨i,by omega,by omega⟩
   ·exact absurd h2 g
  ·obtain ⟨i,h1,h2⟩:=ih y (by omega)
   split at h2
   ·omega
   ·exact ⟨i,by omega,h2⟩
section
variable {r:Nat} [NeZero r]
def pw(x:Fin r):Nat->Fin r
 | 0=>1
 | n+1=>pw x n*x
theorem Ei(x:Fin r):x*1=x:=by grind
theorem GM(x:Fin r):1*x=x:=by grind
theorem Dc(x y z:Fin r):x*y*z=x*(y*z):=by grind
theorem Z5(x y:Fin r):x*y=y*x:=by grind
theorem R9(x:Fin r)(m:Nat):∀n,pw x (m+n)=pw x m*pw x n
 | 0=>(Ei _).symm
 | n+1=>by
  show pw x (m+n)*x=pw x m*(pw x n*x);rw[R9 x m n,Dc]
theorem Ap:∀n,pw (1:Fin r) n=1
 | 0=>rfl
 | n+1=>by
  show pw 1 n*1=1;rw[Ap n,Ei]
theorem Bh(x:Fin r)(m:Nat):∀n,pw x (m*n)=pw (pw x m) n
 | 0=>rfl
 | n+1=>by
  rw[Nat.mul_succ,R9,Bh x m n];rfl
theorem B9g{g:Fin r}:∀(d n:Nat),pw g d=1->pw g n=1->pw g (Nat.gcd d n)=1
 | 0,n,_,h=>by rw[Nat.gcd_zero_left];exact h
 | d+1,n,h1,h2=>by
  rw[Nat.gcd_succ];refine B9g (n % (d+1)) (d+1) ?_ h1
  have e:n=(d+1)*(n / (d+1))+n % (d+1):=(Nat.div_add_mod n (d+1)).symm;have h3:pw g ((d+1)*(n / (d+1))+n % (d+1))=1:=by rw[<-e];exact h2
  rw[R9,Bh,h1,Ap,GM] at h3;exact h3
 termination_by d=>d
 decreasing_by exact Nat.mod_lt _ (Nat.succ_pos d)
def Ir(q:Nat):Prop:=∀d,d ∣ q->d=1∨d=q
theorem JR{m:Nat}:∀(l:List (Nat×Nat)),(∀p,p∈l->Nat.gcd m p.1=1)->Nat.Coprime m (l.foldr (fun p a=>p.1 ^ p.2*a) 1)
 | [],_=>Nat.coprime_one_right m
 | p::l,h=>Nat.Coprime.mul_right (Nat.Coprime.pow_right _ (h p (List.mem_cons_self ..))) (JR l fun q hq=>h q (List.mem_cons_of_mem _ hq))
theorem A5c{g:Fin r}{n:Nat}(l:List (Nat×Nat))(hn:n=l.foldr (fun p a=>p.1 ^ p.2*a) 1)(hir:∀p,p∈l->Ir p.1)(h0:0<n)(h1:pw g n=1)(hq:∀p,p∈l->pw g (n / p.1)≠1){d:Nat}(hd0:0<d)(hd:d<n):pw g d≠1:=fun hp=>by
 have he:=B9g d n hp h1;obtain ⟨m,hm⟩:=Nat.gcd_dvd_right d n;have hel:Nat.gcd d n<=d:=Nat.gcd_le_left n hd0;have hep:0<Nat.gcd d n:=Nat.gcd_pos_of_pos_left n hd0;generalize Nat.gcd d n=e at *;have hm1:m≠1:=fun h=>by rw[h] at hm;omega
 have hex:∃p,p∈l∧Nat.gcd m p.1≠1:=Classical.byContradiction fun hno=>by
  have hc:Nat.Coprime m n:=by
   rw[hn];exact JR l fun p hp=>Classical.byContradiction fun h=>hno ⟨p,hp,h⟩
  have:Nat.gcd m n=m:=Nat.gcd_eq_left ⟨e,by rw[hm,Nat.mul_comm]⟩
  rw[hc] at this;exact hm1 this.symm
 obtain ⟨p,hpl,hg⟩:=hex;have hpd:p.1 ∣ m:=by
  rcases hir p hpl _ (Nat.gcd_dvd_right m p.1) with h | h
  ·exact absurd h hg
  ·rw[<-h];exact Nat.gcd_dvd_left m p.1
 obtain ⟨k,hk⟩:=hpd;have hp0:0<p.1:=Nat.pos_of_ne_zero fun h=>by
  rw[h,Nat.zero_mul] at hk;rw[hk,Nat.mul_zero] at hm;omega
 refine hq p hpl ?_
 have:n / p.1=e*k:=by
  rw[hm,hk,Nat.mul_left_comm,Nat.mul_div_cancel_left _ hp0]
 rw[this,Bh,he,Ap]
theorem GR{x:Fin r}(h:x≠0):0<x.val:=Nat.pos_of_ne_zero fun e=>h (Fin.ext (e.trans (by simp)))
theorem NV{n:Nat}(hr:r=n+1)(hn:0<n){g:Fin r}(h1:pw g n=1)(hl:∀d,0<d->d<n->pw g d≠1)(x:Fin r)(hx:x≠0):pw x n=1:=by
 have h10:(1:Fin r)≠0:=fun h=>by
  have h1:1 % r=0 % r:=congrArg Fin.val h;rw[Nat.mod_eq_of_lt (by omega),Nat.zero_mod] at h1
  omega
 have hinv:∀i,i<=n->pw g i*pw g (n-i)=1:=fun i hi=>by
  rw[<-R9,show i+(n-i)=n from by omega,h1]
 have hne:∀i,i<=n->pw g i≠0:=fun i hi h=>by
  have:=hinv i hi
  rw[h,Fin.zero_mul] at this;exact h10 this.symm
 have hinj:∀i k,i<=n->0<k->i+k<n->pw g i≠pw g (i+k):=fun i k hi hk hik e=>by
  refine hl k hk (by omega) ?_
  have h2:=hinv i hi;have h3:pw g (n-i)*pw g (i+k)=1:=by rw[<-e,Z5];exact h2
  rw[R9,<-Dc,Z5 (pw g (n-i)),h2,GM] at h3;exact h3
 obtain ⟨i,hi,he⟩:=MV n (fun i=>(pw g i).val-1)
  (fun i hi=>by
   have h1:=GR (hne i (by omega))
   have h2:=(pw g i).isLt;omega)
  (fun i j hi hj e=>by
   have g1:=GR (hne i (by omega))
   have g2:=GR (hne j (by omega))
   have e2:pw g i=pw g j:=Fin.ext (by omega)
   rcases Nat.lt_trichotomy i j with h | h | h
   ·have:=hinj i (j-i) (by omega) (by omega) (by omega)
    rw[show i+(j-i)=j from by omega] at this
    exact absurd e2 this
   ·exact h
   ·have:=hinj j (i-j) (by omega) (by omega) (by omega)
    rw[show j+(i-j)=i from by omega] at this
    exact absurd e2.symm this)
  (x.val-1) (by have:=x.isLt;have:=GR hx;omega)
 have e:pw g i=x:=Fin.ext (by
  have g1:=GR (hne i (by omega))
  have g2:=GR hx;omega)
 rw[<-e,<-Bh,Nat.mul_comm,Bh,h1,Ap]
end
def Lq(r b:Nat):Nat->Nat->Nat
 | 0,_=>1 % r
 | f+1,e=>if e=0 then 1 % r else if e % 2=1 then Lq r b f (e / 2)*Lq r b f (e / 2) % r*b % r else Lq r b f (e / 2)*Lq r b f (e / 2) % r
theorem XU(r b:Nat):∀f e,e<2 ^ f->Lq r b f e=b ^ e % r
 | 0,e,h=>by
  have:e=0:=by omega
  subst this;rfl
 | f+1,e,h=>by
  unfold Lq;have h2:e / 2<2 ^ f:=by rw[Nat.pow_succ] at h;omega
  rw[XU r b f (e / 2) h2];by_cases h0:e=0
  ·rw[if_pos h0,h0];rfl
  rw[if_neg h0];by_cases h1:e % 2=1
  ·rw[if_pos h1]
   have:b ^ e=b ^ (e / 2)*b ^ (e / 2)*b:=by
    rw[<-Nat.pow_add,<-Nat.pow_succ];congr 1
    omega
   rw[this,<-Nat.mul_mod,Nat.mod_mul_mod]
  ·rw[if_neg h1]
   have:b ^ e=b ^ (e / 2)*b ^ (e / 2):=by
    rw[<-Nat.pow_add];congr 1
    omega
   rw[this,<-Nat.mul_mod]
theorem A1h{r:Nat}[NeZero r](x:Fin r):∀n,(pw x n).val=x.val ^ n % r
 | 0=>rfl
 | n+1=>by
  show ((pw x n).val*x.val) % r=_;rw[A1h x n,Nat.pow_succ,Nat.mod_mul_mod]
theorem GN{r:Nat}[NeZero r](x:Fin r)(f e:Nat)(h:e<2 ^ f):(pw x e).val=Lq r x.val f e:=by
 rw[A1h,XU r x.val f e h]
def XY(q:Nat):Nat->Nat->Bool
 | 0,_=>true
 | f+1,k=>q % k != 0 && XY q f (k+1)
theorem Qk{q:Nat}:∀{f k:Nat},XY q f k=true->∀d,k<=d->d<k+f->q % d≠0
 | 0,k,_,d,h1,h2=>by omega
 | f+1,k,h,d,h1,h2=>by
  unfold XY at h;rw[Bool.and_eq_true] at h;by_cases e:d=k
  ·rw[e];simpa using h.1
  ·exact Qk h.2 d (by omega) (by omega)
theorem D8y{q s:Nat}(h0:1<q)(hs:q<s*s)(h:XY q s 2=true):Ir q:=fun d hd=>by
 have hd0:0<d:=Nat.pos_of_dvd_of_pos hd (by omega)
 have hle:d<=q:=Nat.le_of_dvd (by omega) hd
 by_cases h1:d=1
 ·exact .inl h1
 by_cases h2:d=q
 ·exact .inr h2
 exfalso
 obtain ⟨m,hm⟩:=hd;by_cases h3:d<2+s
 ·exact Qk h d (by omega) h3 (by rw[hm,Nat.mul_mod_right])
 ·have hms:m<s:=Classical.byContradiction fun hc=>by
   have:s*s<=d*m:=Nat.mul_le_mul (by omega) (by omega)
   omega
  have hm2:2<=m:=Classical.byContradiction fun hc=>by
   have:m=0∨m=1:=by omega
   rcases this with rfl | rfl<;>omega
  exact Qk h m hm2 (by omega) (by rw[hm,Nat.mul_mod_left])
def B3k:List (Nat×Nat):=[(2,32),(3,1),(11,1),(19,1),(10177,1),(125527,1),(859267,1),(906349,2),(2508409,1),(2529403,1),(52437899,1),(254760293,2)]
theorem D1q:rN-1=B3k.foldr (fun p a=>p.1 ^ p.2*a) 1:=by decide +kernel
def D0f(q s:Nat):Bool:=decide (1<q) && (decide (q<s*s) && XY q s 2)
theorem G2{q s:Nat}(h:D0f q s=true):Ir q:=by
 unfold D0f at h;simp only[Bool.and_eq_true,decide_eq_true_eq] at h;exact D8y h.1 h.2.1 h.2.2
theorem ir2:Ir 2:=fun d hd=>by
 have:=Nat.le_of_dvd A4 hd
 have:=Nat.pos_of_dvd_of_pos hd A4
 omega
theorem ir3:Ir 3:=fun d hd=>by
 have:=Nat.le_of_dvd A4 hd
 have:=Nat.pos_of_dvd_of_pos hd A4
 have:d≠2:=fun h=>by subst h;revert hd;decide
 omega
theorem C3p:∀p,p∈B3k->Ir p.1:=fun p hp=>by
 simp only[B3k,List.mem_cons,List.not_mem_nil,or_false] at hp;rcases hp with rfl | rfl | rfl | rfl | rfl | rfl | rfl | rfl | rfl | rfl | rfl | rfl
 ·exact ir2
 ·exact ir3
 ·exact G2 (s:=4) (by decide +kernel)
 ·exact G2 (s:=5) (by decide +kernel)
 ·exact G2 (s:=102) (by decide +kernel)
 ·exact G2 (s:=356) (by decide +kernel)
 ·exact G2 (s:=930) (by decide +kernel)
 ·exact G2 (s:=955) (by decide +kernel)
 ·exact G2 (s:=1600) (by decide +kernel)
 ·exact G2 (s:=1600) (by decide +kernel)
 ·exact G2 (s:=7300) (by decide +kernel)
 ·exact G2 (s:=15970) (by decide +kernel)
def g7:Fin rN:=Fin.ofNat rN 7
def D4h(r g n:Nat)(l:List (Nat×Nat)):Bool:=l.all fun p=>decide (n / p.1<2 ^ 256) && Lq r g 256 (n / p.1) != 1
theorem B8y:D4h rN 7 (rN-1) B3k=true:=by decide +kernel
theorem E0m:Lq rN 7 256 (rN-1)=1:=by decide +kernel
theorem B3l(x:Fin rN)(hx:x≠0):pw x (rN-1)=1:=by
 have h7:g7.val=7:=by decide +kernel
 have h1:pw g7 (rN-1)=1:=by
  apply Fin.ext
  rw[GN g7 256 (rN-1) (by decide +kernel),h7,E0m]
  decide +kernel
 refine NV (by decide +kernel) (by decide +kernel) h1 (fun d h2 h3=>A5c B3k D1q C3p (by decide +kernel) h1 (fun p hp=>?_) h2 h3) x hx
 intro he;have hp:=List.all_eq_true.mp B8y p hp;rw[Bool.and_eq_true,decide_eq_true_eq] at hp;have:=congrArg Fin.val he
 rw[GN g7 256 _ hp.1,h7] at this;have e1:((1:Fin rN):Nat)=1:=by decide +kernel
 rw[e1] at this;rw[this] at hp;exact absurd hp.2 A4
end
section
def GU(q g f:Nat)(l:List (Nat×Nat)):Bool:=decide (2<q) && (decide (g<q) && (decide (q-1<2 ^ f) && (decide (q-1=l.foldr (fun p a=>p.1 ^ p.2*a) 1) && (Lq q g f (q-1) == 1 && l.all fun p=>Lq q g f ((q-1) / p.1) != 1))))
theorem FG{q g f:Nat}{l:List (Nat×Nat)}[NeZero q](h:GU q g f l=true)(hir:∀p,p∈l->Ir p.1)(x:Fin q)(hx:x≠0):pw x (q-1)=1:=by
 unfold GU at h;simp only[Bool.and_eq_true,decide_eq_true_eq,beq_iff_eq,List.all_eq_true,bne_iff_ne] at h;obtain ⟨h2,hg,hf,hl,h1,hq⟩:=h;have hgv:(Fin.ofNat q g).val=g:=Nat.mod_eq_of_lt hg;have e1:((1:Fin q):Nat)=1:=Nat.mod_eq_of_lt (show 1<q by omega)
 have hone:pw (Fin.ofNat q g) (q-1)=1:=by
  apply Fin.ext
  rw[GN _ f (q-1) hf,hgv,h1,e1]
 refine NV (n:=q-1) (by omega) (by omega) hone (fun d h3 h4=>A5c l hl hir (by omega) hone (fun p hp=>?_) h3 h4) x hx
 intro he;have:=congrArg Fin.val he
 rw[GN _ f _ (Nat.lt_of_le_of_lt (Nat.div_le_self _ _) hf),hgv,e1] at this;exact hq p hp this
theorem N9{q g f:Nat}{l:List (Nat×Nat)}(h:GU q g f l=true)(hir:∀p,p∈l->Ir p.1):Ir q:=fun d hd=>by
 have h2:2<q:=by
  unfold GU at h;simp only[Bool.and_eq_true,decide_eq_true_eq] at h;exact h.1
 haveI:NeZero q:=⟨by omega⟩
 have hd0:0<d:=Nat.pos_of_dvd_of_pos hd (by omega)
 have hle:d<=q:=Nat.le_of_dvd (by omega) hd
 by_cases hdq:d=q
 ·exact .inr hdq
 refine .inl ?_
 have hv:(Fin.ofNat q d).val=d:=Nat.mod_eq_of_lt (by omega)
 have hne:Fin.ofNat q d≠0:=fun e=>by
  have:=congrArg Fin.val e
  rw[hv] at this;have h0:((0:Fin q):Nat)=0:=rfl;omega
 have hp:=congrArg Fin.val (FG h hir _ hne);rw[A1h,hv] at hp;have e1:((1:Fin q):Nat)=1:=Nat.mod_eq_of_lt (show 1<q by omega)
 rw[e1] at hp;have hd2:d ∣ d ^ (q-1) % q:=(Nat.dvd_mod_iff hd).2 (by have:=Nat.pow_dvd_pow d (show 1<=q-1 by omega);rwa [Nat.pow_one] at this)
 rw[hp] at hd2;exact Nat.dvd_one.1 hd2
def OR:List (Nat×Nat):=[(2,2),(3,1),(5,2),(7,1),(7577,1),(582767,1)]
theorem A6z:GU 9272813673901 2 44 OR=true:=by decide +kernel
theorem B5o:∀p,p∈OR->Ir p.1:=fun p hp=>by
 simp only[OR,List.mem_cons,List.not_mem_nil,or_false] at hp;rcases hp with rfl | rfl | rfl | rfl | rfl | rfl
 ·exact ir2
 ·exact ir3
 ·exact G2 (s:=3) (by decide +kernel)
 ·exact G2 (s:=4) (by decide +kernel)
 ·exact G2 (s:=89) (by decide +kernel)
 ·exact G2 (s:=765) (by decide +kernel)
theorem E2h:Ir 9272813673901:=N9 A6z B5o
def OS:List (Nat×Nat):=[(2,4),(13,1),(9272813673901,1)]
theorem A7a:GU 1928745244171409 3 51 OS=true:=by decide +kernel
theorem B5p:∀p,p∈OS->Ir p.1:=fun p hp=>by
 simp only[OS,List.mem_cons,List.not_mem_nil,or_false] at hp;rcases hp with rfl | rfl | rfl
 ·exact ir2
 ·exact G2 (s:=5) (by decide +kernel)
 ·exact E2h
theorem E2i:Ir 1928745244171409:=N9 A7a B5p
def OT:List (Nat×Nat):=[(2,2),(941,1),(1928745244171409,1)]
theorem A7b:GU 7259797099061183477 2 63 OT=true:=by decide +kernel
theorem B5q:∀p,p∈OT->Ir p.1:=fun p hp=>by
 simp only[OT,List.mem_cons,List.not_mem_nil,or_false] at hp;rcases hp with rfl | rfl | rfl
 ·exact ir2
 ·exact G2 (s:=32) (by decide +kernel)
 ·exact E2i
theorem E2j:Ir 7259797099061183477:=N9 A7b B5q
def OU:List (Nat×Nat):=[(2,2),(89,1),(7259797099061183477,1)]
theorem A7c:GU 2584487767265781317813 2 72 OU=true:=by decide +kernel
theorem B5r:∀p,p∈OU->Ir p.1:=fun p hp=>by
 simp only[OU,List.mem_cons,List.not_mem_nil,or_false] at hp;rcases hp with rfl | rfl | rfl
 ·exact ir2
 ·exact G2 (s:=11) (by decide +kernel)
 ·exact E2j
theorem E2k:Ir 2584487767265781317813:=N9 A7c B5r
def OV:List (Nat×Nat):=[(2,5),(3,7),(927093389,1)]
theorem A7d:GU 64881703735777 5 46 OV=true:=by decide +kernel
theorem B5s:∀p,p∈OV->Ir p.1:=fun p hp=>by
 simp only[OV,List.mem_cons,List.not_mem_nil,or_false] at hp;rcases hp with rfl | rfl | rfl
 ·exact ir2
 ·exact ir3
 ·exact G2 (s:=30450) (by decide +kernel)
theorem E2l:Ir 64881703735777:=N9 A7d B5s
def OW:List (Nat×Nat):=[(2,1),(3,1),(31,1),(467,1),(16447,1),(64881703735777,1)]
theorem A7e:GU 92691255082156974996979 3 77 OW=true:=by decide +kernel
theorem B5t:∀p,p∈OW->Ir p.1:=fun p hp=>by
 simp only[OW,List.mem_cons,List.not_mem_nil,or_false] at hp;rcases hp with rfl | rfl | rfl | rfl | rfl | rfl
 ·exact ir2
 ·exact ir3
 ·exact G2 (s:=7) (by decide +kernel)
 ·exact G2 (s:=23) (by decide +kernel)
 ·exact G2 (s:=130) (by decide +kernel)
 ·exact E2l
theorem E2m:Ir 92691255082156974996979:=N9 A7e B5t
def OX:List (Nat×Nat):=[(2,1),(5,2),(17,1),(51376543,1)]
theorem A7f:GU 43670061551 7 36 OX=true:=by decide +kernel
theorem B5u:∀p,p∈OX->Ir p.1:=fun p hp=>by
 simp only[OX,List.mem_cons,List.not_mem_nil,or_false] at hp;rcases hp with rfl | rfl | rfl | rfl
 ·exact ir2
 ·exact G2 (s:=3) (by decide +kernel)
 ·exact G2 (s:=6) (by decide +kernel)
 ·exact G2 (s:=7169) (by decide +kernel)
theorem E2n:Ir 43670061551:=N9 A7f B5u
def OY:List (Nat×Nat):=[(2,2),(3,1),(5,1),(11,1),(47,1),(421987,1)]
theorem A7g:GU 13090036741 10 34 OY=true:=by decide +kernel
theorem B5v:∀p,p∈OY->Ir p.1:=fun p hp=>by
 simp only[OY,List.mem_cons,List.not_mem_nil,or_false] at hp;rcases hp with rfl | rfl | rfl | rfl | rfl | rfl
 ·exact ir2
 ·exact ir3
 ·exact G2 (s:=3) (by decide +kernel)
 ·exact G2 (s:=5) (by decide +kernel)
 ·exact G2 (s:=8) (by decide +kernel)
 ·exact G2 (s:=651) (by decide +kernel)
theorem E2o:Ir 13090036741:=N9 A7g B5v
def OZ:List (Nat×Nat):=[(2,2),(3,2),(5,1),(19,1),(113,1),(755057,1),(13090036741,1)]
theorem A7h:GU 3819663927398918131021 6 72 OZ=true:=by decide +kernel
theorem B5w:∀p,p∈OZ->Ir p.1:=fun p hp=>by
 simp only[OZ,List.mem_cons,List.not_mem_nil,or_false] at hp;rcases hp with rfl | rfl | rfl | rfl | rfl | rfl | rfl
 ·exact ir2
 ·exact ir3
 ·exact G2 (s:=3) (by decide +kernel)
 ·exact G2 (s:=6) (by decide +kernel)
 ·exact G2 (s:=12) (by decide +kernel)
 ·exact G2 (s:=870) (by decide +kernel)
 ·exact E2o
theorem E2p:Ir 3819663927398918131021:=N9 A7h B5w
def Pe:List (Nat×Nat):=[(2,1),(3373,1),(43670061551,1),(3819663927398918131021,1)]
theorem A7i:GU 1125266252156850182658904441386709967 5 120 Pe=true:=by decide +kernel
theorem B5x:∀p,p∈Pe->Ir p.1:=fun p hp=>by
 simp only[Pe,List.mem_cons,List.not_mem_nil,or_false] at hp;rcases hp with rfl | rfl | rfl | rfl
 ·exact ir2
 ·exact G2 (s:=60) (by decide +kernel)
 ·exact E2n
 ·exact E2p
theorem E2q:Ir 1125266252156850182658904441386709967:=N9 A7i B5x
def KU:List (Nat×Nat):=[(2,1),(3,1),(53,1),(475709467,1),(92691255082156974996979,1),(1125266252156850182658904441386709967,1)]
theorem Zt:GU 15778400344354997994418419698270088123916926905054652752758194827714659 2 234 KU=true:=by decide +kernel
theorem A8t:∀p,p∈KU->Ir p.1:=fun p hp=>by
 simp only[KU,List.mem_cons,List.not_mem_nil,or_false] at hp;rcases hp with rfl | rfl | rfl | rfl | rfl | rfl
 ·exact ir2
 ·exact ir3
 ·exact G2 (s:=9) (by decide +kernel)
 ·exact G2 (s:=21812) (by decide +kernel)
 ·exact E2m
 ·exact E2q
theorem D8z:Ir 15778400344354997994418419698270088123916926905054652752758194827714659:=N9 Zt A8t
def UN:List (Nat×Nat):=[(2,1),(3,2),(11,1),(23,1),(47,1),(10177,1),(859267,1),(52437899,1),(2584487767265781317813,1),(15778400344354997994418419698270088123916926905054652752758194827714659,1)]
theorem B2d:GU pN 2 381 UN=true:=by decide +kernel
theorem C4y:∀p,p∈UN->Ir p.1:=fun p hp=>by
 simp only[UN,List.mem_cons,List.not_mem_nil,or_false] at hp;rcases hp with rfl | rfl | rfl | rfl | rfl | rfl | rfl | rfl | rfl | rfl
 ·exact ir2
 ·exact ir3
 ·exact G2 (s:=5) (by decide +kernel)
 ·exact G2 (s:=6) (by decide +kernel)
 ·exact G2 (s:=8) (by decide +kernel)
 ·exact G2 (s:=102) (by decide +kernel)
 ·exact G2 (s:=928) (by decide +kernel)
 ·exact G2 (s:=7243) (by decide +kernel)
 ·exact E2k
 ·exact D8z
theorem Pg(x:Fin pN)(hx:x≠0):pw x (pN-1)=1:=FG B2d C4y x hx
end
section
abbrev D1u{f:Type->Type}{a:Type}(_:f a):Type->Type:=f
abbrev D8h{A B:Type}(_:A->B):Type:=A
abbrev MJ:Type->Type:=D1u Dyadic.instCommRing
abbrev D0v(M:Type):Type:=D8h (@Vector.instIntModule M 0)
section
variable {F:Type} [MJ F]
def nc:Nat->F
 | 0=>0
 | n+1=>nc n+1
def ic:Int->F
 | .ofNat n=>nc n
 | .negSucc n=>- nc (n+1)
theorem Lt(a:Nat):∀b:Nat,(nc (a+b):F)=nc a+nc b
 | 0=>by show nc a=nc a+0;grind
 | b+1=>by show nc (a+b)+1=nc a+(nc b+1);rw[Lt a b];grind
theorem Qg(a:Nat):∀b:Nat,(nc (a*b):F)=nc a*nc b
 | 0=>by show (0:F)=nc a*0;grind
 | b+1=>by
  rw[Nat.mul_succ,Lt,Qg a b];show nc a*nc b+nc a=nc a*(nc b+1);grind
theorem N1(n:Nat):(ic (n:Int):F)=nc n:=rfl
theorem Y9:∀a:Int,(ic (-a):F) = - ic a
 | .ofNat 0=>by show (nc 0:F) = - nc 0;show (0:F) = - 0;grind
 | .ofNat (n+1)=>rfl
 | .negSucc n=>by show (nc (n+1):F) = - - nc (n+1);grind
theorem Td(m n:Nat):(ic ((m:Int)-(n:Int)):F)=nc m-nc n:=by
 by_cases h:n<=m
 ·obtain ⟨k,rfl⟩:=Nat.exists_eq_add_of_le h
  have e:((n+k:Nat):Int)-(n:Int)=(k:Int):=by omega
  rw[e,N1,Lt];grind
 ·obtain ⟨k,rfl⟩:=Nat.exists_eq_add_of_le (Nat.le_of_lt (Nat.lt_of_not_le h))
  have e:(m:Int)-((m+k:Nat):Int) = -(k:Int):=by omega
  rw[e,Y9,N1,Lt];grind
theorem D1v(a b:Int):(ic (a+b):F)=ic a+ic b:=by
 rcases Int.eq_nat_or_neg a with ⟨m,rfl | rfl⟩<;>rcases Int.eq_nat_or_neg b with ⟨n,rfl | rfl⟩
 ·rw[<-Int.natCast_add,N1,N1,N1,Lt]
 ·rw[<-Int.sub_eq_add_neg,Td,Y9,N1,N1];grind
 ·rw[Int.add_comm,<-Int.sub_eq_add_neg,Td,Y9,N1,N1];grind
 ·rw[<-Int.neg_add,<-Int.natCast_add,Y9,Y9,Y9,N1,N1,N1,Lt];grind
theorem D1w(a b:Int):(ic (a*b):F)=ic a*ic b:=by
 rcases Int.eq_nat_or_neg a with ⟨m,rfl | rfl⟩<;>rcases Int.eq_nat_or_neg b with ⟨n,rfl | rfl⟩
 ·rw[<-Int.natCast_mul,N1,N1,N1,Qg]
 ·rw[Int.mul_neg,<-Int.natCast_mul,Y9,Y9,N1,N1,N1,Qg];grind
 ·rw[Int.neg_mul,<-Int.natCast_mul,Y9,Y9,N1,N1,N1,Qg];grind
 ·rw[Int.neg_mul_neg,<-Int.natCast_mul,Y9,Y9,N1,N1,N1,Qg];grind
theorem C3x:(ic 0:F)=0:=rfl
theorem B3y:(ic 1:F)=1:=by show (0:F)+1=1;grind
end
end
section
inductive Ex where
 | v (i:Nat)
 | one
 | add (a b:Ex)
 | sub (a b:Ex)
 | mul (a b:Ex)
instance:Add Ex:=⟨.add⟩
instance:Sub Ex:=⟨.sub⟩
instance:Mul Ex:=⟨.mul⟩
abbrev Pl:=List (Nat×Int)
def mrg:Nat->Pl->Pl->Pl
 | 0,a,b=>a++b
 | _+1,[],b=>b
 | _+1,t::a,[]=>t::a
 | n+1,t::a,s::b=>
  match Nat.blt t.1 s.1 with
  | true=>t::mrg n a (s::b)
  | false=>
   match Nat.beq t.1 s.1 with
   | true=>
    match t.2+s.2 with
    | .ofNat 0=>mrg n a b
    | c=>(t.1,c)::mrg n a b
   | false=>s::mrg n (t::a) b
def Zk(a b:Pl):Pl:=mrg (a.length+b.length) a b
def B6u(a:Pl):Pl:=a.map fun t=>(t.1,-t.2)
def shift(m:Nat)(c:Int)(q:Pl):Pl:=q.map fun t=>(m+t.1,c*t.2)
def MW:List Pl->List Pl
 | a::b::l=>Zk a b::MW l
 | l=>l
def C2h:Nat->List Pl->Pl
 | 0,l=>l.flatten
 | n+1,l=>
  match l with
  | []=>[]
  | [a]=>a
  | l=>C2h n (MW l)
def D9h(p q:Pl):Pl:=C2h 30 (p.map fun t=>shift t.1 t.2 q)
def okM:Nat->Nat->Bool
 | 0,m=>m == 0
 | n+1,m=>Nat.blt (m % 64) 32 && okM n (m / 64)
def okP(p:Pl):Bool:=p.all fun t=>okM 7 t.1
def Y1:Nat:=16777216
def Y2:Nat:=1073741824
def Y3:Nat:=68719476736
def two(y:Nat)(t:Nat×Int):Bool:=Nat.ble 2 (t.1 / y % 64) && (Nat.ble (2*y) t.1 && okM 7 (t.1-2*y))
def put(y z:Nat)(p:Pl):Pl:=p.map fun t=>(t.1-2*y+z,t.2)
def B9q(y x3:Nat)(p:Pl):Pl:=
 let hi:=p.filter fun t=>two y t
 match hi with
 | []=>p
 | _=>Zk (p.filter fun t=>!two y t) (Zk (put y x3 hi) (put y 262144 hi))
def D5q(p:Pl):Pl:=B9q Y3 12288 (B9q Y2 192 (B9q Y1 3 p))
def Ex.norm:Ex->Option Pl
 | .v i=>if i<7 then some [(64 ^ i,1)] else none
 | .one=>some [(0,1)]
 | .add a b=>
  match a.norm,b.norm with
  | some p,some q=>some (Zk p q)
  | _,_=>none
 | .sub a b=>
  match a.norm,b.norm with
  | some p,some q=>some (Zk p (B6u q))
  | _,_=>none
 | .mul a b=>
  match a.norm,b.norm with
  | some p,some q=>if okP p && okP q then some (D5q (D9h p q)) else none
  | _,_=>none
section
variable {F:Type} [MJ F]
theorem A9q(x:F)(n m:Nat):x ^ (n+m)=x ^ n*x ^ m:=by grind
theorem QE(x:F):x ^ 0=1:=by grind
def Ex.ev(ρ:Nat->F):Ex->F
 | .v i=>ρ i
 | .one=>1
 | .add a b=>a.ev ρ+b.ev ρ
 | .sub a b=>a.ev ρ - b.ev ρ
 | .mul a b=>a.ev ρ*b.ev ρ
def N5(ρ:Nat->F):Nat->Nat->Nat->F
 | 0,_,_=>1
 | n+1,i,m=>ρ i ^ (m % 64)*N5 ρ n (i+1) (m / 64)
theorem Jz(ρ:Nat->F):∀(n i m k:Nat),okM n m=true->okM n k=true->N5 ρ n i (m+k)=N5 ρ n i m*N5 ρ n i k
 | 0,i,m,k,_,_=>by show (1:F)=1*1;grind
 | n+1,i,m,k,hm,hk=>by
  unfold okM at hm hk;simp only[Bool.and_eq_true,Nat.blt_eq] at hm hk;have e1:(m+k) % 64=m % 64+k % 64:=by omega
  have e2:(m+k) / 64=m / 64+k / 64:=by omega
  show ρ i ^ ((m+k) % 64)*N5 ρ n (i+1) ((m+k) / 64)=(ρ i ^ (m % 64)*N5 ρ n (i+1) (m / 64))*(ρ i ^ (k % 64)*N5 ρ n (i+1) (k / 64));rw[e1,e2,Jz ρ n (i+1) _ _ hm.2 hk.2,A9q];grind
def W7(ρ:Nat->F):Pl->F
 | []=>0
 | t::p=>ic t.2*N5 ρ 7 0 t.1+W7 ρ p
theorem UM(ρ:Nat->F)(b:Pl):∀a,W7 ρ (a++b)=W7 ρ a+W7 ρ b
 | []=>by show W7 ρ b=0+W7 ρ b;grind
 | t::a=>by
  show ic t.2*N5 ρ 7 0 t.1+W7 ρ (a++b)=ic t.2*N5 ρ 7 0 t.1+W7 ρ a+W7 ρ b;rw[UM ρ b a];grind
theorem Jd(ρ:Nat->F):∀(n:Nat) (a b:Pl),W7 ρ (mrg n a b)=W7 ρ a+W7 ρ b
 | 0,a,b=>UM ρ b a
 | n+1,[],b=>by show W7 ρ b=0+W7 ρ b;grind
 | n+1,t::a,[]=>by show W7 ρ (t::a)=W7 ρ (t::a)+0;grind
 | n+1,t::a,s::b=>by
  unfold mrg;split
  ·show ic t.2*N5 ρ 7 0 t.1+W7 ρ (mrg n a (s::b))=ic t.2*N5 ρ 7 0 t.1+W7 ρ a+W7 ρ (s::b)
   rw[Jd ρ n a (s::b)];grind
  ·split
   ·rename_i he
    have he:t.1=s.1:=Nat.eq_of_beq_eq_true he;have hc:(ic (t.2+s.2):F)=ic t.2+ic s.2:=D1v t.2 s.2;show _=ic t.2*N5 ρ 7 0 t.1+W7 ρ a+(ic s.2*N5 ρ 7 0 s.1+W7 ρ b);split
    ·rename_i h0
     rw[Jd ρ n a b,he];rw[h0] at hc;have hz:(ic (Int.ofNat 0):F)=0:=C3x;rw[hz] at hc;grind
    ·rename_i c hne
     show ic (t.2+s.2)*N5 ρ 7 0 t.1+W7 ρ (mrg n a b)=_;rw[Jd ρ n a b,hc,he];grind
   ·show ic s.2*N5 ρ 7 0 s.1+W7 ρ (mrg n (t::a) b)=W7 ρ (t::a)+(ic s.2*N5 ρ 7 0 s.1+W7 ρ b)
    rw[Jd ρ n (t::a) b];grind
theorem Ja(ρ:Nat->F)(a b:Pl):W7 ρ (Zk a b)=W7 ρ a+W7 ρ b:=Jd ρ _ a b
theorem A3x(ρ:Nat->F):∀a,W7 ρ (B6u a) = - W7 ρ a
 | []=>by show (0:F) = - 0;grind
 | t::a=>by
  show ic (-t.2)*N5 ρ 7 0 t.1+W7 ρ (B6u a) = - (ic t.2*N5 ρ 7 0 t.1+W7 ρ a);rw[A3x ρ a,Y9];grind
theorem SR(ρ:Nat->F)(m:Nat)(c:Int)(hm:okM 7 m=true):∀q:Pl,okP q=true->W7 ρ (shift m c q)=ic c*N5 ρ 7 0 m*W7 ρ q
 | [],_=>by show (0:F)=_*0;grind
 | t::q,h=>by
  unfold okP at h;rw[List.all_cons,Bool.and_eq_true] at h;show ic (c*t.2)*N5 ρ 7 0 (m+t.1)+W7 ρ (shift m c q)=ic c*N5 ρ 7 0 m*(ic t.2*N5 ρ 7 0 t.1+W7 ρ q);rw[SR ρ m c hm q h.2,Jz ρ 7 0 m t.1 hm h.1,D1w];grind
def evL(ρ:Nat->F):List Pl->F
 | []=>0
 | p::l=>W7 ρ p+evL ρ l
theorem SQ(ρ:Nat->F):∀l:List Pl,evL ρ (MW l)=evL ρ l
 | []=>rfl
 | [a]=>rfl
 | a::b::l=>by
  show W7 ρ (Zk a b)+evL ρ (MW l)=W7 ρ a+(W7 ρ b+evL ρ l);rw[Ja,SQ ρ l];grind
theorem Xj(ρ:Nat->F):∀l:List Pl,W7 ρ l.flatten=evL ρ l
 | []=>rfl
 | p::l=>by
  rw[List.flatten_cons,UM,Xj ρ l];rfl
theorem A3v(ρ:Nat->F):∀(n:Nat) (l:List Pl),W7 ρ (C2h n l)=evL ρ l
 | 0,l=>Xj ρ l
 | n+1,[]=>rfl
 | n+1,[a]=>by show W7 ρ a=W7 ρ a+0;grind
 | n+1,a::b::l=>by
  show W7 ρ (C2h n (MW (a::b::l)))=_;rw[A3v ρ n,SQ]
theorem A3w(ρ:Nat->F)(q:Pl)(hq:okP q=true):∀p:Pl,okP p=true->evL ρ (p.map fun t=>shift t.1 t.2 q)=W7 ρ p*W7 ρ q
 | [],_=>by show (0:F)=0*_;grind
 | t::p,h=>by
  unfold okP at h;rw[List.all_cons,Bool.and_eq_true] at h;show W7 ρ (shift t.1 t.2 q)+evL ρ (p.map fun t=>shift t.1 t.2 q)=(ic t.2*N5 ρ 7 0 t.1+W7 ρ p)*W7 ρ q
  rw[SR ρ t.1 t.2 h.1 q hq,A3w ρ q hq p h.2];grind
theorem OO(ρ:Nat->F)(f:Nat×Int->Bool):∀p:Pl,W7 ρ (p.filter f)+W7 ρ (p.filter fun t=>!f t)=W7 ρ p
 | []=>by show (0:F)+0=0;grind
 | t::p=>by
  have ih:=OO ρ f p;show _=ic t.2*N5 ρ 7 0 t.1+W7 ρ p;rw[<-ih]
  cases h:f t with
  | true=>
   rw[List.filter_cons_of_pos h,List.filter_cons_of_neg (by rw[h];decide)]
   show ic t.2*N5 ρ 7 0 t.1+W7 ρ (p.filter f)+_=_;grind
  | false=>
   rw[List.filter_cons_of_neg (by rw[h];decide),List.filter_cons_of_pos (by show (!f t)=true;rw[h];rfl)]
   show _+(ic t.2*N5 ρ 7 0 t.1+W7 ρ (p.filter fun t=>!f t))=_
   grind
theorem A3y(ρ:Nat->F)(y z:Nat)(hz:okM 7 z=true)(hy:okM 7 (2*y)=true)(hb:okM 7 262144=true)
  (e:N5 ρ 7 0 (2*y)=N5 ρ 7 0 z+N5 ρ 7 0 262144) :
  ∀p:Pl,W7 ρ (put y z (p.filter fun t=>two y t))+W7 ρ (put y 262144 (p.filter fun t=>two y t))=W7 ρ (p.filter fun t=>two y t)
 | []=>by show (0:F)+0=0;grind
 | t::p=>by
  have ih:=A3y ρ y z hz hy hb e p
  cases h:two y t with
  | false=>
   rw[List.filter_cons_of_neg (by rw[h];decide)]
   exact ih
  | true=>
   rw[List.filter_cons_of_pos h];show ic t.2*N5 ρ 7 0 (t.1-2*y+z)+W7 ρ (put y z (p.filter fun t=>two y t))+(ic t.2*N5 ρ 7 0 (t.1-2*y+262144)+W7 ρ (put y 262144 (p.filter fun t=>two y t)))=ic t.2*N5 ρ 7 0 t.1+W7 ρ (p.filter fun t=>two y t)
   unfold two at h;simp only[Bool.and_eq_true] at h;have hle:2*y<=t.1:=Nat.le_of_ble_eq_true h.2.1;have em:t.1=(t.1-2*y)+2*y:=(Nat.sub_add_cancel hle).symm;have e0:N5 ρ 7 0 t.1=N5 ρ 7 0 (t.1-2*y)*N5 ρ 7 0 (2*y):=by
    rw[<-Jz ρ 7 0 _ _ h.2.2 hy,<-em]
   rw[Jz ρ 7 0 _ _ h.2.2 hz,Jz ρ 7 0 _ _ h.2.2 hb,e0,e,<-ih];grind
theorem OP(ρ:Nat->F)(y z:Nat)(hz:okM 7 z=true)(hy:okM 7 (2*y)=true)(hb:okM 7 262144=true)
  (e:N5 ρ 7 0 (2*y)=N5 ρ 7 0 z+N5 ρ 7 0 262144) (p:Pl):W7 ρ (B9q y z p)=W7 ρ p:=by
 unfold B9q;dsimp only;split
 ·rfl
 ·rw[Ja,Ja,A3y ρ y z hz hy hb e p,<-OO ρ (fun t=>two y t) p]
  grind
def On3(ρ:Nat->F):Prop:=ρ 4*ρ 4=ρ 0*ρ 0*ρ 0+ρ 3∧ρ 5*ρ 5=ρ 1*ρ 1*ρ 1+ρ 3∧ρ 6*ρ 6=ρ 2*ρ 2*ρ 2+ρ 3
theorem B6c(ρ:Nat->F)(n i m d q:Nat)(h1:m % 64=d)(h2:m / 64=q):N5 ρ (n+1) i m=ρ i ^ d*N5 ρ n (i+1) q:=by
 subst h1;subst h2;rfl
theorem B6d(ρ:Nat->F):∀(n i:Nat),N5 ρ n i 0=1
 | 0,_=>rfl
 | n+1,i=>by
  rw[B6c ρ n i 0 0 0 rfl rfl,B6d ρ n (i+1),QE];grind
theorem K0(ρ:Nat->F)(n i m q:Nat)(h1:m % 64=0)(h2:m / 64=q):N5 ρ (n+1) i m=N5 ρ n (i+1) q:=by
 rw[B6c ρ n i m 0 q h1 h2,QE];grind
theorem Eh(ρ:Nat->F)(n i m d:Nat)(h1:m % 64=d)(h2:m / 64=0):N5 ρ (n+1) i m=ρ i ^ d:=by
 rw[B6c ρ n i m d 0 h1 h2,B6d];grind
theorem A4u(ρ:Nat->F):N5 ρ 7 0 262144=ρ 3:=by
 rw[K0 ρ 6 0 262144 4096 rfl rfl,K0 ρ 5 1 4096 64 rfl rfl,K0 ρ 4 2 64 1 rfl rfl,Eh ρ 3 3 1 1 rfl rfl];grind
theorem C3m(ρ:Nat->F)(h:On3 ρ)(p:Pl):W7 ρ (D5q p)=W7 ρ p:=by
 unfold D5q;rw[OP ρ Y3 12288 rfl rfl rfl ?_,OP ρ Y2 192 rfl rfl rfl ?_,OP ρ Y1 3 rfl rfl rfl ?_]
 ·rw[A4u,show 2*Y1=33554432 from rfl,K0 ρ 6 0 33554432 524288 rfl rfl,K0 ρ 5 1 524288 8192 rfl rfl,K0 ρ 4 2 8192 128 rfl rfl,K0 ρ 3 3 128 2 rfl rfl,Eh ρ 2 4 2 2 rfl rfl,Eh ρ 6 0 3 3 rfl rfl]
  have:=h.1
  grind
 ·rw[A4u,show 2*Y2=2147483648 from rfl,K0 ρ 6 0 2147483648 33554432 rfl rfl,K0 ρ 5 1 33554432 524288 rfl rfl,K0 ρ 4 2 524288 8192 rfl rfl,K0 ρ 3 3 8192 128 rfl rfl,K0 ρ 2 4 128 2 rfl rfl,Eh ρ 1 5 2 2 rfl rfl,K0 ρ 6 0 192 3 rfl rfl,Eh ρ 5 1 3 3 rfl rfl]
  have:=h.2.1
  grind
 ·rw[A4u,show 2*Y3=137438953472 from rfl,K0 ρ 6 0 137438953472 2147483648 rfl rfl,K0 ρ 5 1 2147483648 33554432 rfl rfl,K0 ρ 4 2 33554432 524288 rfl rfl,K0 ρ 3 3 524288 8192 rfl rfl,K0 ρ 2 4 8192 128 rfl rfl,K0 ρ 1 5 128 2 rfl rfl,Eh ρ 0 6 2 2 rfl rfl,K0 ρ 6 0 12288 192 rfl rfl,K0 ρ 5 1 192 3 rfl rfl,Eh ρ 4 2 3 3 rfl rfl]
  have:=h.2.2
  grind
theorem D9g(ρ:Nat->F):∀i,i<7->N5 ρ 7 0 (64 ^ i)=ρ i
 | 0,_=>by rw[Eh ρ 6 0 (64 ^ 0) 1 rfl rfl];grind
 | 1,_=>by rw[K0 ρ 6 0 (64 ^ 1) 1 rfl rfl,Eh ρ 5 1 1 1 rfl rfl];grind
 | 2,_=>by rw[K0 ρ 6 0 (64 ^ 2) 64 rfl rfl,K0 ρ 5 1 64 1 rfl rfl,Eh ρ 4 2 1 1 rfl rfl];grind
 | 3,_=>A4u ρ
 | 4,_=>by rw[K0 ρ 6 0 (64 ^ 4) 262144 rfl rfl,K0 ρ 5 1 262144 4096 rfl rfl,K0 ρ 4 2 4096 64 rfl rfl,K0 ρ 3 3 64 1 rfl rfl,Eh ρ 2 4 1 1 rfl rfl];grind
 | 5,_=>by rw[K0 ρ 6 0 (64 ^ 5) 16777216 rfl rfl,K0 ρ 5 1 16777216 262144 rfl rfl,K0 ρ 4 2 262144 4096 rfl rfl,K0 ρ 3 3 4096 64 rfl rfl,K0 ρ 2 4 64 1 rfl rfl,Eh ρ 1 5 1 1 rfl rfl];grind
 | 6,_=>by rw[K0 ρ 6 0 (64 ^ 6) 1073741824 rfl rfl,K0 ρ 5 1 1073741824 16777216 rfl rfl,K0 ρ 4 2 16777216 262144 rfl rfl,K0 ρ 3 3 262144 4096 rfl rfl,K0 ρ 2 4 4096 64 rfl rfl,K0 ρ 1 5 64 1 rfl rfl,Eh ρ 0 6 1 1 rfl rfl];grind
 | n+7,h=>absurd h (by omega)
theorem EI(ρ:Nat->F)(h:On3 ρ):∀(e:Ex) (p:Pl),e.norm=some p->e.ev ρ=W7 ρ p
 | .v i,p,hp=>by
  unfold Ex.norm at hp;split at hp
  ·rename_i hi
   cases hp
   show ρ i=ic 1*N5 ρ 7 0 (64 ^ i)+0;rw[D9g ρ i hi,B3y];grind
  ·exact absurd hp (by intro h;cases h)
 | .one,p,hp=>by
  cases hp
  show (1:F)=ic 1*N5 ρ 7 0 0+0;rw[B6d,B3y];grind
 | .add a b,p,hp=>by
  unfold Ex.norm at hp;split at hp
  ·rename_i q s hq hs
   cases hp
   show a.ev ρ+b.ev ρ=_;rw[Ja,EI ρ h a q hq,EI ρ h b s hs]
  ·exact absurd hp (by intro h;cases h)
 | .sub a b,p,hp=>by
  unfold Ex.norm at hp;split at hp
  ·rename_i q s hq hs
   cases hp
   show a.ev ρ - b.ev ρ=_;rw[Ja,A3x,EI ρ h a q hq,EI ρ h b s hs];grind
  ·exact absurd hp (by intro h;cases h)
 | .mul a b,p,hp=>by
  unfold Ex.norm at hp;split at hp
  ·rename_i q s hq hs
   split at hp
   ·rename_i hok
    rw[Bool.and_eq_true] at hok
    cases hp
    show a.ev ρ*b.ev ρ=_;rw[C3m ρ h,EI ρ h a q hq,EI ρ h b s hs];unfold D9h;rw[A3v,A3w ρ s hok.2 q hok.1]
   ·exact absurd hp (by intro h;cases h)
  ·exact absurd hp (by intro h;cases h)
theorem C5x(ρ:Nat->F)(h:On3 ρ)(a b:Ex)(hn:(Ex.sub a b).norm=some []):a.ev ρ=b.ev ρ:=by
 have e:=EI ρ h (Ex.sub a b) [] hn;have e:a.ev ρ - b.ev ρ=0:=e;grind
end
end
section
class Fld (F:Type) extends MJ F where
 inv:F->F
 mul_inv:∀a:F,a≠0->a*inv a=1
 one_ne:(1:F)≠0
structure H3(α:Type) where
 X:α
 Y:α
 Z:α
section
variable {α:Type} [Add α] [Sub α] [Mul α]
def H6(a:α):α:=a+a+a
def C3(b:α)(p q:H3 α):H3 α :=
  { X:=(p.X*q.Y+q.X*p.Y)*(p.Y*q.Y-H6 (b*(p.Z*q.Z)))-H6 (b*((p.Y*q.Z+q.Y*p.Z)*(p.X*q.Z+q.X*p.Z)))
    Y:=(p.Y*q.Y+H6 (b*(p.Z*q.Z)))*(p.Y*q.Y-H6 (b*(p.Z*q.Z)))+H6 (H6 (b*((p.X*q.X)*(p.X*q.Z+q.X*p.Z))))
    Z:=(p.Y*q.Z+q.Y*p.Z)*(p.Y*q.Y+H6 (b*(p.Z*q.Z)))+H6 ((p.X*q.X)*(p.X*q.Y+q.X*p.Y)) }
def nX(e d x1 x2:α):α:=e*e-(x1+x2)*(d*d)
def nY(e d x1 x2 y1:α):α:=e*(x1*(d*d)-nX e d x1 x2)-y1*(d*d*d)
end
section
variable {F:Type} [MJ F]
def rho(x1 x2 x3 b y1 y2 y3:F):Nat->F
 | 0=>x1
 | 1=>x2
 | 2=>x3
 | 3=>b
 | 4=>y1
 | 5=>y2
 | _=>y3
end
def eP:H3 Ex:=⟨.v 0,.v 4,.one⟩
def eQ:H3 Ex:=⟨.v 1,.v 5,.one⟩
def eR:H3 Ex:=⟨.v 2,.v 6,.one⟩
def eN:H3 Ex:=⟨.v 0,.sub (.sub .one .one) (.v 4),.one⟩
def eA:H3 Ex:=C3 (.v 3) (C3 (.v 3) eP eQ) eR
def eB:H3 Ex:=C3 (.v 3) eP (C3 (.v 3) eQ eR)
def eE:Ex:=.v 5 - .v 4
def eD:Ex:=.v 1 - .v 0
def eE2:Ex:=H6 (.v 0 * .v 0)
def eD2:Ex:=.v 4 + .v 4
def same(a b:Ex):Bool:=
 match (Ex.sub a b).norm with
 | some []=>true
 | _=>false
theorem Q9{F:Type}[MJ F](ρ:Nat->F)(h:On3 ρ)(a b:Ex)(hn:same a b=true):a.ev ρ=b.ev ρ:=by
 apply C5x ρ h
 unfold same at hn;split at hn
 ·assumption
 ·exact absurd hn A4
theorem B1n:same (eA.X*eB.Z) (eB.X*eA.Z)=true:=by decide +kernel
theorem B1o:same (eA.Y*eB.Z) (eB.Y*eA.Z)=true:=by decide +kernel
theorem B2j:same ((C3 (.v 3) eP eQ).X*(eD*eD)) (nX eE eD (.v 0) (.v 1)*(C3 (.v 3) eP eQ).Z)=true:=by decide +kernel
theorem B2k:same ((C3 (.v 3) eP eQ).Y*(eD*eD*eD)) (nY eE eD (.v 0) (.v 1) (.v 4)*(C3 (.v 3) eP eQ).Z)=true:=by decide +kernel
theorem B2l:same (C3 (.v 3) eP eQ).Z (nY ((.one - .one) - .v 5 - .v 4) eD (.v 0) (.v 1) (.v 4))=true:=by decide +kernel
theorem WU:same (nY eE eD (.v 0) (.v 1) (.v 4)*nY eE eD (.v 0) (.v 1) (.v 4)) (nX eE eD (.v 0) (.v 1)*nX eE eD (.v 0) (.v 1)*nX eE eD (.v 0) (.v 1) + .v 3*(eD*eD*eD*(eD*eD*eD)))=true:=by decide +kernel
theorem C1m:same ((C3 (.v 3) eP eP).X*(eD2*eD2)) (nX eE2 eD2 (.v 0) (.v 0)*(C3 (.v 3) eP eP).Z)=true:=by decide +kernel
theorem C1n:same ((C3 (.v 3) eP eP).Y*(eD2*eD2*eD2)) (nY eE2 eD2 (.v 0) (.v 0) (.v 4)*(C3 (.v 3) eP eP).Z)=true:=by decide +kernel
theorem C1o:same (C3 (.v 3) eP eP).Z (eD2*eD2*eD2)=true:=by decide +kernel
theorem YS:same (nY eE2 eD2 (.v 0) (.v 0) (.v 4)*nY eE2 eD2 (.v 0) (.v 0) (.v 4)) (nX eE2 eD2 (.v 0) (.v 0)*nX eE2 eD2 (.v 0) (.v 0)*nX eE2 eD2 (.v 0) (.v 0) + .v 3*(eD2*eD2*eD2*(eD2*eD2*eD2)))=true:=by decide +kernel
theorem C4u:same (C3 (.v 3) eP eN).X (.one - .one)=true:=by decide +kernel
theorem C4w:same (C3 (.v 3) eP eN).Z (.one - .one)=true:=by decide +kernel
theorem C4v:same (C3 (.v 3) eP eN).Y (nY eE2 eD2 (.v 0) (.v 0) (.v 4))=true:=by decide +kernel
section
variable {F:Type} [Fld F]
theorem F3{a b:F}(ha:a≠0)(hb:b≠0):a*b≠0:=by
 intro h;apply hb
 have e:=Fld.mul_inv a ha;have:b=a*b*Fld.inv a:=by grind
 rw[this,h];grind
theorem Xl{a b c:F}(hc:c≠0)(h:a*c=b*c):a=b:=by
 have e:=Fld.mul_inv c hc;have h1:a=a*c*Fld.inv c:=by grind
 have h2:b=b*c*Fld.inv c:=by grind
 rw[h1,h2,h]
abbrev Pt(F:Type):=Option (F×F)
def OnC(b:F):Pt F->Prop
 | none=>True
 | some p=>p.2*p.2=p.1*p.1*p.1+b
def thr(e d x1 x2 y1:F):F×F:=
 (e*Fld.inv d*(e*Fld.inv d)-x1-x2,e*Fld.inv d*(x1-(e*Fld.inv d*(e*Fld.inv d)-x1-x2))-y1)
theorem C1c(e d x1 x2 y1:F)(hd:d≠0):(thr e d x1 x2 y1).1*(d*d)=nX e d x1 x2:=by
 have h:=Fld.mul_inv d hd;unfold thr nX;dsimp only;grind
theorem C1d(e d x1 x2 y1:F)(hd:d≠0):(thr e d x1 x2 y1).2*(d*d*d)=nY e d x1 x2 y1:=by
 have h:=Fld.mul_inv d hd;unfold thr nY nX;dsimp only;grind
def B3u:Pt F->Pt F
 | none=>none
 | some p=>some (p.1,0-p.2)
def Rp:Pt F->H3 F->Prop
 | none,t=>t.X=0∧t.Z=0∧t.Y≠0
 | some p,t=>t.Z≠0∧t.X=p.1*t.Z∧t.Y=p.2*t.Z
def nrm:Pt F->H3 F
 | none=>⟨0,1,0⟩
 | some p=>⟨p.1,p.2,1⟩
def sc(c:F)(t:H3 F):H3 F:=⟨c*t.X,c*t.Y,c*t.Z⟩
theorem Wc:∀P:Pt F,Rp P (nrm P)
 | none=>⟨rfl,rfl,Fld.one_ne⟩
 | some p=>⟨Fld.one_ne,by show p.1=p.1*1;grind,by show p.2=p.2*1;grind⟩
theorem B9w(c:F)(hc:c≠0):∀(P:Pt F) (t:H3 F),Rp P t->Rp P (sc c t)
 | none,t,⟨h1,h2,h3⟩=>⟨by show c*t.X=0;rw[h1];grind,by show c*t.Z=0;rw[h2];grind,F3 hc h3⟩
 | some p,t,⟨h1,h2,h3⟩=>⟨F3 hc h1,by show c*t.X=p.1*(c*t.Z);rw[h2];grind,by show c*t.Y=p.2*(c*t.Z);rw[h3];grind⟩
theorem D0o:∀(P:Pt F) (t:H3 F),Rp P t->∃c,c≠0∧t=sc c (nrm P)
 | none,⟨X,Y,Z⟩,⟨h1,h2,h3⟩=>⟨Y,h3,by
   have h1:X=0:=h1;have h2:Z=0:=h2;subst h1;subst h2
   show (⟨0,Y,0⟩:H3 F)=⟨Y*0,Y*1,Y*0⟩;have e0:Y*0=0:=by grind
   have e1:Y*1=Y:=by grind
   rw[e0,e1]⟩
 | some p,⟨X,Y,Z⟩,⟨h1,h2,h3⟩=>⟨Z,h1,by
   have h2:X=p.1*Z:=h2;have h3:Y=p.2*Z:=h3;rw[h2,h3];show (⟨p.1*Z,p.2*Z,Z⟩:H3 F)=⟨Z*p.1,Z*p.2,Z*1⟩;have e0:Z*p.1=p.1*Z:=by grind
   have e1:Z*p.2=p.2*Z:=by grind
   have e2:Z*1=Z:=by grind
   rw[e0,e1,e2]⟩
theorem YD:∀(P Q:Pt F) (t s:H3 F),Rp P t->Rp Q s->t.X*s.Z=s.X*t.Z->t.Y*s.Z=s.Y*t.Z->P=Q
 | none,none,_,_,_,_,_,_=>rfl
 | none,some q,t,s,⟨_,h2,h3⟩,⟨k1,_,_⟩,_,eY=>by
  rw[h2] at eY;exact absurd (by rw[eY];grind) (F3 h3 k1)
 | some p,none,t,s,⟨h1,_,_⟩,⟨_,k2,k3⟩,_,eY=>by
  rw[k2] at eY;exact absurd (by rw[<-eY];grind) (F3 k3 h1)
 | some p,some q,t,s,⟨h1,h2,h3⟩,⟨k1,k2,k3⟩,eX,eY=>by
  have hz:=F3 h1 k1;rw[h2,k2] at eX;rw[h3,k3] at eY;have e1:p.1=q.1:=Xl hz (by grind)
  have e2:p.2=q.2:=Xl hz (by grind)
  rw[show p=(p.1,p.2) from rfl,e1,e2]
theorem D7u(b l m:F)(p q:H3 F):C3 b (sc l p) (sc m q)=sc (l*l*(m*m)) (C3 b p q):=by
 unfold C3 sc H6;dsimp only;congr 1
 ·grind
 ·grind
 ·grind
structure Cv(b:F):Prop where
 two:(1:F)+1≠0
 no2:∀x:F,x*x*x+b≠0
variable {b:F}
theorem C1z(hc:Cv b){x y:F}(h:y*y=x*x*x+b):y≠0:=by
 intro hy;apply hc.no2 x
 rw[<-h,hy];grind
theorem B7i(hc:Cv b){n m d:F}(hd:d≠0)(h:m*m=n*n*n+b*(d*d*d*(d*d*d))):m≠0:=by
 have e:=Fld.mul_inv d hd;intro hm;apply hc.no2 (n*(Fld.inv d*Fld.inv d))
 subst hm;grind
theorem WG(hc:Cv b){x y:F}(h:y*y=x*x*x+b)(P:F×F)(hP:P=thr (H6 (x*x)) (y+y) x x y):y+y≠0∧P.1*((y+y)*(y+y))=nX (H6 (x*x)) (y+y) x x∧P.2*((y+y)*(y+y)*(y+y))=nY (H6 (x*x)) (y+y) x x y:=by
 have hy:=C1z hc h;have hd:y+y≠0:=by
  have:=F3 hc.two hy
  intro e;apply this
  grind
 subst hP;exact ⟨hd,C1c _ _ _ _ _ hd,C1d _ _ _ _ _ hd⟩
theorem B7w{n m d:F}(hd:d≠0)(P:F×F)(h1:P.1*(d*d)=n)(h2:P.2*(d*d*d)=m)(h:m*m=n*n*n+b*(d*d*d*(d*d*d))):OnC b (some P):=by
 show P.2*P.2=P.1*P.1*P.1+b;subst h1;subst h2
 have hz:=F3 (F3 (F3 hd hd) hd) (F3 (F3 hd hd) hd);exact Xl hz (by grind)
theorem A4h:∀(P:Pt F),OnC b P->OnC b (B3u P)
 | none,_=>True.intro
 | some (x,y),h=>by
  have h:y*y=x*x*x+b:=h;show (0-y)*(0-y)=x*x*x+b;grind
section
variable [DecidableEq F]
def Q5:Pt F->Pt F->Pt F
 | none,q=>q
 | some p,none=>some p
 | some p,some q=>
  if p.1=q.1 then
   if p.2=q.2∧p.2≠0 then some (thr (H6 (p.1*p.1)) (p.2+p.2) p.1 p.1 p.2) else none
  else some (thr (q.2-p.2) (q.1-p.1) p.1 q.1 p.2)
theorem Jh(hc:Cv b):∀(P Q:Pt F),OnC b P->OnC b Q->OnC b (Q5 P Q)
 | none,Q,_,hq=>hq
 | some p,none,hp,_=>hp
 | some (x1,y1),some (x2,y2),hp,hq=>by
  have hp:y1*y1=x1*x1*x1+b:=hp;have hq:y2*y2=x2*x2*x2+b:=hq;unfold Q5;dsimp only;by_cases hx:x1=x2
  ·rw[if_pos hx]
   by_cases hy:y1=y2∧y1≠0
   ·rw[if_pos hy]
    obtain ⟨hd,h1,h2⟩:=WG hc hp _ rfl;exact B7w hd _ h1 h2 (Q9 (rho x1 x1 x1 b y1 y1 y1) ⟨hp,hp,hp⟩ _ _ YS)
   ·rw[if_neg hy]
    exact True.intro
  ·rw[if_neg hx]
   have hd:x2-x1≠0:=fun e=>hx (by grind)
   exact B7w hd _ (C1c _ _ _ _ _ hd) (C1d _ _ _ _ _ hd) (Q9 (rho x1 x2 x1 b y1 y2 y1) ⟨hp,hq,hp⟩ _ _ WU)
theorem FI(hc:Cv b):∀(P Q:Pt F),OnC b P->OnC b Q->Rp (Q5 P Q) (C3 b (nrm P) (nrm Q))
 | none,none,_,_=>by
  refine ⟨?_,?_,?_⟩
  ·show (0*1+0*1)*(1*1-H6 (b*(0*0)))-H6 (b*((1*0+1*0)*(0*0+0*0)))=(0:F)
   unfold H6;grind
  ·show (1*0+1*0)*(1*1+H6 (b*(0*0)))+H6 ((0*0)*(0*1+0*1))=(0:F)
   unfold H6;grind
  ·have:(C3 b (nrm (none:Pt F)) (nrm none)).Y=1:=by
    show (1*1+H6 (b*(0*0)))*(1*1-H6 (b*(0*0)))+H6 (H6 (b*((0*0)*(0*0+0*0))))=(1:F);unfold H6;grind
   rw[this];exact Fld.one_ne
 | none,some (x,y),_,hq=>by
  have hq:y*y=x*x*x+b:=hq;have hy:=C1z hc hq;have e:C3 b (nrm (none:Pt F)) (nrm (some (x,y)))=sc y (nrm (some (x,y))):=by
   unfold C3 nrm sc H6;dsimp only;congr 1
   ·grind
   ·grind
   ·grind
  rw[e];exact B9w y hy _ _ (Wc _)
 | some (x,y),none,hq,_=>by
  have hq:y*y=x*x*x+b:=hq;have hy:=C1z hc hq;have e:C3 b (nrm (some (x,y))) (nrm (none:Pt F))=sc y (nrm (some (x,y))):=by
   unfold C3 nrm sc H6;dsimp only;congr 1
   ·grind
   ·grind
   ·grind
  rw[e];exact B9w y hy _ _ (Wc _)
 | some (x1,y1),some (x2,y2),hp,hq=>by
  have hp:y1*y1=x1*x1*x1+b:=hp;have hq:y2*y2=x2*x2*x2+b:=hq;unfold Q5;dsimp only;by_cases hx:x1=x2
  ·rw[if_pos hx]
   subst hx;by_cases hy:y1=y2∧y1≠0
   ·rw[if_pos hy]
    obtain ⟨hy,_⟩:=hy;subst hy;obtain ⟨hd,h1,h2⟩:=WG hc hp _ rfl;have o:On3 (rho x1 x1 x1 b y1 y1 y1):=⟨hp,hp,hp⟩;have eX:=Q9 _ o _ _ C1m;have eY:=Q9 _ o _ _ C1n;have eZ:=Q9 _ o _ _ C1o;have eX:(C3 b (nrm (some (x1,y1))) (nrm (some (x1,y1)))).X*((y1+y1)*(y1+y1))=nX (H6 (x1*x1)) (y1+y1) x1 x1*(C3 b (nrm (some (x1,y1))) (nrm (some (x1,y1)))).Z:=eX;have eY:(C3 b (nrm (some (x1,y1))) (nrm (some (x1,y1)))).Y*((y1+y1)*(y1+y1)*(y1+y1))=nY (H6 (x1*x1)) (y1+y1) x1 x1 y1*(C3 b (nrm (some (x1,y1))) (nrm (some (x1,y1)))).Z:=eY;have eZ:(C3 b (nrm (some (x1,y1))) (nrm (some (x1,y1)))).Z=(y1+y1)*(y1+y1)*(y1+y1):=eZ;generalize C3 b (nrm (some (x1,y1))) (nrm (some (x1,y1)))=t at eX eY eZ ⊢
    generalize thr (H6 (x1*x1)) (y1+y1) x1 x1 y1=P at h1 h2 ⊢
    rw[<-h1] at eX;rw[<-h2] at eY;generalize y1+y1=d at hd eX eY eZ;refine ⟨?_,Xl (F3 hd hd) (by grind),Xl (F3 (F3 hd hd) hd) (by grind)⟩
    rw[eZ];exact F3 (F3 hd hd) hd
   ·rw[if_neg hy]
    have h0:(y1-y2)*(y1+y2)=0:=by grind
    have hn:y2=0-y1:=by
     by_cases e:y1=y2
     ·exact absurd ⟨e,C1z hc hp⟩ hy
     ·have hd:y1-y2≠0:=fun h=>e (by grind)
      have:y1+y2=0:=by
       apply Xl hd
       grind
      grind
    subst hn;have o:On3 (rho x1 x1 x1 b y1 y1 y1):=⟨hp,hp,hp⟩;have eX:=Q9 _ o _ _ C4u;have eY:=Q9 _ o _ _ C4v;have eZ:=Q9 _ o _ _ C4w;obtain ⟨hd,-,-⟩:=WG hc hp _ rfl;have hm:=B7i hc hd (Q9 _ o _ _ YS);have e0:(1:F)-1=0:=by grind
    have eX:(C3 b (nrm (some (x1,y1))) ⟨x1,(1-1)-y1,1⟩).X=1-1:=eX;have eY:(C3 b (nrm (some (x1,y1))) ⟨x1,(1-1)-y1,1⟩).Y=nY (H6 (x1*x1)) (y1+y1) x1 x1 y1:=eY;have eZ:(C3 b (nrm (some (x1,y1))) ⟨x1,(1-1)-y1,1⟩).Z=1-1:=eZ;rw[e0] at eX eY eZ;exact ⟨eX,eZ,by show (C3 b (nrm (some (x1,y1))) ⟨x1,0-y1,1⟩).Y≠0;rw[eY];exact hm⟩
  ·rw[if_neg hx]
   have hd:x2-x1≠0:=fun e=>hx (by grind)
   have o:On3 (rho x1 x2 x1 b y1 y2 y1):=⟨hp,hq,hp⟩;have eX:=Q9 _ o _ _ B2j;have eY:=Q9 _ o _ _ B2k;have eZ:=Q9 _ o _ _ B2l;have h1:=C1c (y2-y1) (x2-x1) x1 x2 y1 hd;have h2:=C1d (y2-y1) (x2-x1) x1 x2 y1 hd;have hz:(C3 b (nrm (some (x1,y1))) (nrm (some (x2,y2)))).Z≠0:=by
    have eZ:(C3 b (nrm (some (x1,y1))) (nrm (some (x2,y2)))).Z=nY ((1-1)-y2-y1) (x2-x1) x1 x2 y1:=eZ;rw[eZ];have o' : On3 (rho x1 x2 x1 b y1 (1-1-y2) y1):=⟨hp,by show (1-1-y2)*(1-1-y2)=x2*x2*x2+b;grind,hp⟩
    exact B7i hc hd (Q9 _ o' _ _ WU)
   have eX:(C3 b (nrm (some (x1,y1))) (nrm (some (x2,y2)))).X*((x2-x1)*(x2-x1))=nX (y2-y1) (x2-x1) x1 x2*(C3 b (nrm (some (x1,y1))) (nrm (some (x2,y2)))).Z:=eX;have eY:(C3 b (nrm (some (x1,y1))) (nrm (some (x2,y2)))).Y*((x2-x1)*(x2-x1)*(x2-x1))=nY (y2-y1) (x2-x1) x1 x2 y1*(C3 b (nrm (some (x1,y1))) (nrm (some (x2,y2)))).Z:=eY;generalize C3 b (nrm (some (x1,y1))) (nrm (some (x2,y2)))=t at eX eY hz ⊢
   generalize thr (y2-y1) (x2-x1) x1 x2 y1=P at h1 h2 ⊢
   rw[<-h1] at eX;rw[<-h2] at eY;generalize x2-x1=d at hd eX eY;exact ⟨hz,Xl (F3 hd hd) (by grind),Xl (F3 (F3 hd hd) hd) (by grind)⟩
theorem A4g(hc:Cv b)(P Q:Pt F)(hP:OnC b P)(hQ:OnC b Q)(p q:H3 F)(hp:Rp P p)(hq:Rp Q q):Rp (Q5 P Q) (C3 b p q):=by
 obtain ⟨l,hl,e⟩:=D0o P p hp;obtain ⟨m,hm,e'⟩:=D0o Q q hq;rw[e,e',D7u];exact B9w _ (F3 (F3 hl hl) (F3 hm hm)) _ _ (FI hc P Q hP hQ)
theorem BS(P:Pt F):Q5 P none=P:=by cases P<;>rfl
theorem SY(hc:Cv b)(P Q:Pt F)(hP:OnC b P)(hQ:OnC b Q):Q5 P Q=Q5 Q P:=by
 have h1:=FI hc P Q hP hQ;have h2:=FI hc Q P hQ hP;have e:C3 b (nrm P) (nrm Q)=C3 b (nrm Q) (nrm P):=by
  generalize nrm P=p;generalize nrm Q=q;unfold C3 H6;congr 1
  ·grind
  ·grind
  ·grind
 rw[<-e] at h2;exact YD _ _ _ _ h1 h2 rfl rfl
theorem Hy(hc:Cv b):∀(P Q R:Pt F),OnC b P->OnC b Q->OnC b R->Q5 (Q5 P Q) R=Q5 P (Q5 Q R)
 | none,_,_,_,_,_=>rfl
 | some p,none,R,_,_,_=>by rw[BS];rfl
 | some p,some q,none,_,_,_=>by rw[BS,BS]
 | some (x1,y1),some (x2,y2),some (x3,y3),hp,hq,hr=>by
  have o:On3 (rho x1 x2 x3 b y1 y2 y3):=⟨hp,hq,hr⟩;have eX:=Q9 _ o _ _ B1n;have eY:=Q9 _ o _ _ B1o;have hA:=A4g hc _ _ (Jh hc _ _ hp hq) hr _ _ (FI hc _ _ hp hq) (Wc _);have hB:=A4g hc _ _ hp (Jh hc _ _ hq hr) _ _ (Wc _) (FI hc _ _ hq hr);exact YD _ _ _ _ hA hB eX eY
theorem A7w(hc:Cv b):∀(P:Pt F),OnC b P->Q5 P (B3u P)=none
 | none,_=>rfl
 | some (x,y),h=>by
  have h:y*y=x*x*x+b:=h;have hy:=C1z hc h;show (if x=x then if y=0-y∧y≠0 then _ else none else _)=_
  rw[if_pos rfl,if_neg];intro ⟨e,_⟩
  have:=F3 hc.two hy
  apply this
  grind
end
end
end
section
section
variable {F:Type} [Add F] [Sub F] [Mul F] [OfNat F 0]
def jng(a:F×F×F):F×F×F:=(a.1,0-a.2.1,a.2.2)
variable [DecidableEq F]
def jtw(a:F×F×F):F×F×F:=
 if a.2.2=0 then a else
 let xx:=a.1*a.1
 let yy:=a.2.1*a.2.1
 let four:=yy*yy
 let d:=(a.1+yy)*(a.1+yy)-xx-four
 let d:=d+d
 let e:=xx+xx+xx
 let x:=e*e-d-d
 let eight:=four+four
 let eight:=eight+eight
 let eight:=eight+eight
 let z:=a.2.1*a.2.2
 (x,e*(d-x)-eight,z+z)
def jpl(a b:F×F×F):F×F×F:=
 if a.2.2=0 then b else if b.2.2=0 then a else
 let za:=a.2.2*a.2.2
 let zb:=b.2.2*b.2.2
 let u:=a.1*zb
 let v:=b.1*za
 let s:=a.2.1*zb*b.2.2
 let t:=b.2.1*za*a.2.2
 let h:=v-u
 let r:=t-s
 if h=0 then (if r=0 then jtw a else (a.1,a.2.1,0)) else
 let hh:=h*h
 let hhh:=hh*h
 let uhh:=u*hh
 let x:=r*r-hhh-uhh-uhh
 (x,r*(uhh-x)-s*hhh,h*a.2.2*b.2.2)
end
section
variable {F:Type} [Fld F]
def Jc:Pt F->F×F×F->Prop
 | none,t=>t.2.2=0
 | some p,t=>t.2.2≠0∧t.1=p.1*(t.2.2*t.2.2)∧t.2.1=p.2*(t.2.2*t.2.2*t.2.2)
theorem D2c:∀(P:Pt F) (t:F×F×F),Jc P t->Jc (B3u P) (jng t)
 | none,t,h=>h
 | some p,t,⟨hz,hx,hy⟩=>⟨hz,hx,by
  show 0-t.2.1=(0-p.2)*(t.2.2*t.2.2*t.2.2);rw[hy];grind⟩
variable [DecidableEq F]
theorem Lc(two:(1:F)+1≠0):∀(P:Pt F) (t:F×F×F),Jc P t->Jc (Q5 P P) (jtw t)
 | none,t,h=>by
  have h:t.2.2=0:=h;unfold jtw;rw[if_pos h];exact h
 | some (x,y),(X,Y,Z),h=>by
  have hz:Z≠0:=h.1;have hx:X=x*(Z*Z):=h.2.1;have hy:Y=y*(Z*Z*Z):=h.2.2;clear h;unfold jtw;dsimp only;rw[if_neg hz];show Jc (if x=x then if y=y∧y≠0 then some (thr (H6 (x*x)) (y+y) x x y) else none else _) _
  rw[if_pos rfl];by_cases h0:y=0
  ·rw[if_neg (fun h=>h.2 h0)]
   show Y*Z+Y*Z=0;rw[hy,h0];grind
  ·rw[if_pos ⟨rfl,h0⟩]
   have hd:y+y≠0:=by
    have:=F3 two h0
    intro e;apply this
    grind
   have h1:=C1c (H6 (x*x)) (y+y) x x y hd;have h2:=C1d (H6 (x*x)) (y+y) x x y hd;generalize thr (H6 (x*x)) (y+y) x x y=P at h1 h2 ⊢
   unfold nX H6 at h1;unfold nY nX H6 at h2;subst hx hy;refine ⟨?_,?_,?_⟩
   ·show y*(Z*Z*Z)*Z+y*(Z*Z*Z)*Z≠0
    have:=F3 hd (F3 (F3 (F3 hz hz) hz) hz)
    intro e;apply this
    grind
   ·dsimp only
    grind
   ·dsimp only
    grind
theorem La(two:(1:F)+1≠0):∀(P Q:Pt F) (s t:F×F×F),Jc P s->Jc Q t->Jc (Q5 P Q) (jpl s t)
 | none,Q,s,t,h,k=>by
  have h:s.2.2=0:=h;unfold jpl;rw[if_pos h];exact k
 | some p,none,s,t,h,k=>by
  have k:t.2.2=0:=k;unfold jpl;rw[if_neg h.1,if_pos k];exact h
 | some (x1,y1),some (x2,y2),(X1,Y1,Z1),(X2,Y2,Z2),h,k=>by
  have hd:=Lc two (some (x1,y1)) (X1,Y1,Z1) h;have hz:Z1≠0:=h.1;have hx:X1=x1*(Z1*Z1):=h.2.1;have hy:Y1=y1*(Z1*Z1*Z1):=h.2.2;have kz:Z2≠0:=k.1;have kx:X2=x2*(Z2*Z2):=k.2.1;have ky:Y2=y2*(Z2*Z2*Z2):=k.2.2;clear h k;have hw:=F3 hz kz;unfold jpl;dsimp only;rw[if_neg hz,if_neg kz];have eh:X2*(Z1*Z1)-X1*(Z2*Z2)=(x2-x1)*(Z1*Z2*(Z1*Z2)):=by rw[hx,kx];grind
  have er:Y2*(Z1*Z1)*Z1-Y1*(Z2*Z2)*Z2=(y2-y1)*(Z1*Z2*(Z1*Z2)*(Z1*Z2)):=by rw[hy,ky];grind
  rw[eh,er];by_cases e1:x1=x2
  ·have:(x2-x1)*(Z1*Z2*(Z1*Z2))=0:=by rw[e1];grind
   rw[if_pos this];by_cases e2:y1=y2
   ·have:(y2-y1)*(Z1*Z2*(Z1*Z2)*(Z1*Z2))=0:=by rw[e2];grind
    rw[if_pos this];subst e1 e2;exact hd
   ·have:¬(y2-y1)*(Z1*Z2*(Z1*Z2)*(Z1*Z2))=0:=F3 (fun e=>e2 (by grind)) (F3 (F3 hw hw) hw)
    rw[if_neg this];have hn:Q5 (some (x1,y1)) (some (x2,y2))=none:=by
     show (if x1=x2 then if y1=y2∧y1≠0 then _ else none else _)=_
     rw[if_pos e1,if_neg (fun h=>e2 h.1)]
    rw[hn];rfl
  ·have hdn:x2-x1≠0:=fun e=>e1 (by grind)
   have:¬(x2-x1)*(Z1*Z2*(Z1*Z2))=0:=F3 hdn (F3 hw hw)
   rw[if_neg this];have hn:Q5 (some (x1,y1)) (some (x2,y2))=some (thr (y2-y1) (x2-x1) x1 x2 y1):=by
    show (if x1=x2 then if y1=y2∧y1≠0 then _ else none else _)=_
    rw[if_neg e1]
   rw[hn];have h1:=C1c (y2-y1) (x2-x1) x1 x2 y1 hdn;have h2:=C1d (y2-y1) (x2-x1) x1 x2 y1 hdn;generalize thr (y2-y1) (x2-x1) x1 x2 y1=P at h1 h2 ⊢
   unfold nX at h1;unfold nY nX at h2;have ez:(x2-x1)*(Z1*Z2*(Z1*Z2))*Z1*Z2=(x2-x1)*(Z1*Z2*(Z1*Z2)*(Z1*Z2)):=by grind
   have eu:X1*(Z2*Z2)=x1*(Z1*Z2*(Z1*Z2)):=by rw[hx];grind
   have es:Y1*(Z2*Z2)*Z2=y1*(Z1*Z2*(Z1*Z2)*(Z1*Z2)):=by rw[hy];grind
   rw[ez,eu,es];clear hd hx hy kx ky eh er ez eu es this hn hz kz;generalize Z1*Z2=W at hw ⊢
   generalize hdd:x2-x1=d at h1 h2 hdn ⊢
   generalize y2-y1=e at h1 h2 ⊢
   have hx2:x2=d+x1:=by grind
   subst hx2;refine ⟨F3 hdn (F3 (F3 hw hw) hw),?_,?_⟩
   ·dsimp only
    grind
   ·dsimp only
    grind
def jpt(t:F×F×F):Pt F:=if t.2.2=0 then none else some (t.1*(Fld.inv t.2.2*Fld.inv t.2.2),t.2.1*(Fld.inv t.2.2*Fld.inv t.2.2)*Fld.inv t.2.2)
theorem D2d:∀(P:Pt F) (t:F×F×F),Jc P t->jpt t=P
 | none,t,h=>by
  have h:t.2.2=0:=h;unfold jpt;rw[if_pos h]
 | some (x,y),(X,Y,Z),h=>by
  have hz:Z≠0:=h.1;have hx:X=x*(Z*Z):=h.2.1;have hy:Y=y*(Z*Z*Z):=h.2.2;clear h;unfold jpt;dsimp only;rw[if_neg hz];have e:=Fld.mul_inv Z hz;have e1:X*(Fld.inv Z*Fld.inv Z)=x:=by rw[hx];grind
  have e2:Y*(Fld.inv Z*Fld.inv Z)*Fld.inv Z=y:=by rw[hy];grind
  rw[e1,e2]
end
end
section
class AG (M:Type) where
 ad:M->M->M
 ng:M->M
 ze:M
 ad_ze:∀a,ad a ze=a
 ad_cm:∀a b,ad a b=ad b a
 ad_as:∀a b c,ad (ad a b) c=ad a (ad b c)
 ng_ad:∀a,ad (ng a) a=ze
namespace AG
variable {M:Type} [AG M]
theorem C2c(a:M):ad ze a=a:=by rw[ad_cm,ad_ze]
theorem A2v(a:M):ad a (ng a)=ze:=by rw[ad_cm,ng_ad]
theorem Vw{a b:M}(h:ad a b=ze):b=ng a:=by
 rw[<-C2c b,<-ng_ad a,ad_as,h,ad_ze]
theorem D9j(a:M):ng (ng a)=a:=(Vw (ng_ad a)).symm
theorem D9k:ng (ze:M)=ze:=(Vw (ad_ze ze)).symm
theorem C2d(a b c d:M):ad (ad a b) (ad c d)=ad (ad a c) (ad b d):=by
 rw[ad_as,<-ad_as b,ad_cm b c,ad_as c,<-ad_as]
theorem B6x(a b:M):ng (ad a b)=ad (ng a) (ng b):=by
 symm
 apply Vw
 rw[C2d,A2v,A2v,ad_ze]
def ns:Nat->M->M
 | 0,_=>ze
 | n+1,a=>ad (ns n a) a
def zs:Int->M->M
 | .ofNat n,a=>ns n a
 | .negSucc n,a=>ng (ns (n+1) a)
theorem Qm(m:Nat)(a:M):∀n,ns (m+n) a=ad (ns m a) (ns n a)
 | 0=>(ad_ze _).symm
 | n+1=>by
  show ad (ns (m+n) a) a=ad (ns m a) (ad (ns n a) a);rw[Qm m a n,ad_as]
theorem Bv(n:Nat)(a:M):zs (n:Int) a=ns n a:=rfl
theorem MI(a:M):∀n:Int,zs (-n) a=ng (zs n a)
 | .ofNat 0=>by show (ze:M)=ng ze;rw[D9k]
 | .ofNat (n+1)=>rfl
 | .negSucc n=>by show ns (n+1) a=ng (ng (ns (n+1) a));rw[D9j]
theorem Up(a:M)(m n:Nat):zs ((m:Int)-(n:Int)) a=ad (ns m a) (ng (ns n a)):=by
 by_cases h:n<=m
 ·obtain ⟨k,rfl⟩:=Nat.exists_eq_add_of_le h
  have e:((n+k:Nat):Int)-(n:Int)=(k:Int):=by omega
  rw[e,Bv,Qm,ad_cm (ns n a),ad_as,A2v,ad_ze]
 ·obtain ⟨k,rfl⟩:=Nat.exists_eq_add_of_le (Nat.le_of_lt (Nat.lt_of_not_le h))
  have e:(m:Int)-((m+k:Nat):Int) = -(k:Int):=by omega
  rw[e,MI,Bv,Qm,B6x,<-ad_as,A2v,C2c]
theorem D7s(x y:Int)(a:M):zs (x+y) a=ad (zs x a) (zs y a):=by
 rcases Int.eq_nat_or_neg x with ⟨m,rfl | rfl⟩<;>rcases Int.eq_nat_or_neg y with ⟨n,rfl | rfl⟩
 ·rw[<-Int.natCast_add,Bv,Bv,Bv,Qm]
 ·rw[<-Int.sub_eq_add_neg,Up,MI,Bv,Bv]
 ·rw[Int.add_comm,<-Int.sub_eq_add_neg,Up,MI,Bv,Bv,ad_cm]
 ·rw[<-Int.neg_add,<-Int.natCast_add,MI,MI,MI,Bv,Bv,Bv,Qm,B6x]
instance:D0v M where
 zero:=ze
 add:=ad
 neg:=ng
 sub a b:=ad a (ng b)
 add_zero:=ad_ze
 add_comm:=ad_cm
 add_assoc:=ad_as
 neg_add_cancel:=ng_ad
 sub_eq_add_neg _ _:=rfl
 nsmul:=⟨ns⟩
 zsmul:=⟨zs⟩
 zero_zsmul _:=rfl
 one_zsmul a:=C2c a
 add_zsmul:=D7s
 zsmul_natCast_eq_nsmul _ _:=rfl
end AG
section
variable {M:Type} [inst:D0v M]
theorem Dn(n m:Int)(a:M):(n+m) • a=n • a+m • a:=inst.add_zsmul n m a
theorem Aw(a:M):(0:Int) • a=0:=inst.zero_zsmul a
theorem KC(a:M):(1:Int) • a=a:=inst.one_zsmul a
theorem ad0(a:M):a+0=a:=by grind
theorem EZ(n:Int)(a:M):(-n) • a = -(n • a):=by
 have h:=Dn n (-n) a;rw[Int.add_right_neg,Aw] at h;grind
theorem IH:∀n:Nat,(n:Int) • (0:M)=0
 | 0=>Aw _
 | n+1=>by rw[Int.natCast_add,Dn,IH n,show ((1:Nat):Int)=1 from rfl,KC,ad0]
theorem WL(n:Int):n • (0:M)=0:=by
 rcases Int.eq_nat_or_neg n with ⟨k,rfl | rfl⟩
 ·exact IH k
 ·rw[EZ,IH];grind
theorem EY(a b:M):∀n:Nat,(n:Int) • (a+b)=(n:Int) • a+(n:Int) • b
 | 0=>by
  show (0:Int) • (a+b)=(0:Int) • a+(0:Int) • b;rw[Aw,Aw,Aw,ad0]
 | n+1=>by
  have e:((n+1:Nat):Int)=(n:Int)+1:=rfl;rw[e,Dn,Dn,Dn,EY a b n,KC,KC,KC];generalize (n:Int) • a=x;generalize (n:Int) • b=y;grind
theorem RG(n:Int)(a b:M):n • (a+b)=n • a+n • b:=by
 rcases Int.eq_nat_or_neg n with ⟨k,rfl | rfl⟩
 ·exact EY a b k
 ·rw[EZ,EZ,EZ,EY]
  generalize (k:Int) • a=x;generalize (k:Int) • b=y;grind
theorem Gq(m:Int)(a:M):∀n:Nat,((n:Int)*m) • a=(n:Int) • m • a
 | 0=>by rw[show ((0:Nat):Int)*m=0 from by simp,show ((0:Nat):Int)=0 from rfl,Aw,Aw]
 | n+1=>by
  have e:((n+1:Nat):Int)=(n:Int)+1:=rfl;have e2:((n:Int)+1)*m=(n:Int)*m+m:=by rw[Int.add_mul,Int.one_mul]
  rw[e,e2,Dn,Dn,Gq m a n,KC]
theorem C9t(n m:Int)(a:M):(n*m) • a=n • m • a:=by
 rcases Int.eq_nat_or_neg n with ⟨k,rfl | rfl⟩
 ·exact Gq m a k
 ·rw[Int.neg_mul,EZ,EZ,Gq]
def dot:List Int->List M->M
 | k::ks,p::ps=>k • p+dot ks ps
 | _,_=>0
theorem IW(ps:List M):dot [] ps=0:=by cases ps<;>rfl
theorem D7t(n:Int)(a:M):n • (-a) = -(n • a):=by
 have h:=RG n a (-a);rw[show a + -a=0 from by grind,WL] at h
 generalize n • a=x at h ⊢
 generalize n • (-a)=y at h ⊢
 grind
theorem Xg(k:Int)(p:M):∀(ks:List Int) (ps:List M),ks.length=ps.length->dot (ks++[k]) (ps++[p])=dot ks ps+k • p
 | [],[],_=>by
  show k • p+dot [] []=dot [] []+k • p;rw[IW];generalize k • p=x;grind
 | [],_::_,h=>by cases h
 | _::_,[],h=>by cases h
 | c::ks,q::ps,h=>by
  show c • q+dot (ks++[k]) (ps++[p])=c • q+dot ks ps+k • p;rw[Xg k p ks ps (Nat.succ.inj h)];generalize c • q=x;generalize k • p=y;grind
theorem SL{α:Type}:∀(l:List α) (ps:List M),dot (l.map fun _=>(0:Int)) ps=0
 | [],ps=>IW ps
 | _::_,[]=>rfl
 | _::l,p::ps=>by
  show (0:Int) • p+dot (l.map fun _=>(0:Int)) ps=0
  rw[Aw,SL l ps,ad0]
theorem A3r{α:Type}(c:Int)(f g h:α->Int):∀(l:List α) (ps:List M),(∀x,x∈l->f x=c*g x+h x)->dot (l.map f) ps=c • dot (l.map g) ps+dot (l.map h) ps
 | [],ps,_=>by
  show dot [] ps=c • dot [] ps+dot [] ps;rw[IW,WL,ad0]
 | x::l,[],_=>by
  show (0:M)=c • (0:M)+0;rw[WL,ad0]
 | x::l,p::ps,hx=>by
  have e:=hx x (List.mem_cons_self ..);have ih:=A3r c f g h l ps fun y hy=>hx y (List.mem_cons_of_mem _ hy)
  show f x • p+dot (l.map f) ps=c • (g x • p+dot (l.map g) ps)+(h x • p+dot (l.map h) ps);rw[e,ih,Dn,C9t,RG];generalize c • g x • p=y1;generalize h x • p=y2;generalize c • dot (l.map g) ps=y3;generalize dot (l.map h) ps=y4;grind
end
end
section
def dgW(k:Nat):Nat->List Int×Nat
 | 0=>([],0)
 | i+1=>if k / 32 ^ i % 32+(dgW k i).2 > 16 then ((dgW k i).1++[((k / 32 ^ i % 32+(dgW k i).2:Nat):Int)-32],1) else ((dgW k i).1++[((k / 32 ^ i % 32+(dgW k i).2:Nat):Int)],0)
theorem IT{k i:Nat}(h:k / 32 ^ i % 32+(dgW k i).2 > 16):dgW k (i+1)=((dgW k i).1++[((k / 32 ^ i % 32+(dgW k i).2:Nat):Int)-32],1):=if_pos h
theorem BR{k i:Nat}(h:¬k / 32 ^ i % 32+(dgW k i).2 > 16):dgW k (i+1)=((dgW k i).1++[((k / 32 ^ i % 32+(dgW k i).2:Nat):Int)],0):=if_neg h
def vlW:List Int->Int
 | []=>0
 | d::l=>32*vlW l+d
theorem Ry(d:Int):∀l:List Int,vlW (l++[d])=vlW l+32 ^ l.length*d
 | []=>by simp [vlW]
 | e::l=>by
  show 32*vlW (l++[d])+e=32*vlW l+e+32 ^ (l.length+1)*d;rw[Ry d l,Int.pow_succ,Int.mul_add,Int.mul_right_comm,Int.mul_comm (32 ^ l.length*d) 32];omega
theorem Gx(k:Nat):∀i,(dgW k i).1.length=i
 | 0=>rfl
 | i+1=>by
  by_cases h:k / 32 ^ i % 32+(dgW k i).2 > 16
  ·rw[IT h];simp [Gx k i]
  ·rw[BR h];simp [Gx k i]
theorem KQ(k:Nat):∀i,(dgW k i).2<=1
 | 0=>Nat.zero_le 1
 | i+1=>by
  by_cases h:k / 32 ^ i % 32+(dgW k i).2 > 16
  ·rw[IT h];exact Nat.le_refl 1
  ·rw[BR h];exact Nat.zero_le 1
theorem Gy(k:Nat):∀i d,d∈(dgW k i).1 -> -16<=d∧d<=16
 | 0,d,h=>by cases h
 | i+1,d,h=>by
  have hc:=KQ k i;have hw:k / 32 ^ i % 32<32:=Nat.mod_lt _ A4;by_cases hg:k / 32 ^ i % 32+(dgW k i).2 > 16
  ·rw[IT hg] at h
   rcases List.mem_append.1 h with h | h
   ·exact Gy k i d h
   ·rw[List.mem_singleton] at h;omega
  ·rw[BR hg] at h
   rcases List.mem_append.1 h with h | h
   ·exact Gy k i d h
   ·rw[List.mem_singleton] at h;omega
theorem C5h(k i:Nat):k % 32 ^ (i+1)=k % 32 ^ i+32 ^ i*(k / 32 ^ i % 32):=by
 rw[Nat.pow_succ,Nat.mod_mul]
theorem A3n(k:Nat):∀i,vlW (dgW k i).1+32 ^ i*((dgW k i).2:Int)=((k % 32 ^ i:Nat):Int)
 | 0=>by simp [dgW,vlW,Nat.mod_one]
 | i+1=>by
  have ih:=A3n k i;have hl:=Gx k i;rw[C5h,Int.natCast_add,Int.natCast_mul,<-ih,Int.natCast_pow];by_cases h:k / 32 ^ i % 32+(dgW k i).2 > 16
  ·rw[IT h]
   show vlW ((dgW k i).1++[_])+32 ^ (i+1)*((1:Nat):Int)=_;rw[Ry,hl,Int.pow_succ,Int.natCast_add];generalize (32:Int) ^ i=p;generalize ((k / 32 ^ i % 32:Nat):Int)=w;generalize ((dgW k i).2:Int)=c;generalize vlW (dgW k i).1=v;show v+p*(w+c-32)+p*32*1=v+p*c+p*w;grind
  ·rw[BR h]
   show vlW ((dgW k i).1++[_])+32 ^ (i+1)*((0:Nat):Int)=_;rw[Ry,hl,Int.natCast_add];generalize (32:Int) ^ i=p;generalize ((k / 32 ^ i % 32:Nat):Int)=w;generalize ((dgW k i).2:Int)=c;generalize vlW (dgW k i).1=v;show v+p*(w+c)+32 ^ (i+1)*0=v+p*c+p*w;grind
theorem A3m{k n:Nat}(hn:n=52)(h:k<2 ^ 256):vlW (dgW k n).1=(k:Int)∧(dgW k n).2=0:=by
  obtain ⟨m,rfl⟩:∃m,n=m+1:=⟨51,hn⟩
  have hm:m=51:=by omega
  have hq:k / 32 ^ m<=1:=by
    rw[hm]
    have : k / 32 ^ 51 < 2 := Nat.div_lt_of_lt_mul (by have e : 32 ^ 51 * 2 = 2 ^ 256 := by decide +kernel
                                                       rw[e];exact h)
    omega
  have hc:=KQ k m;have h0:(dgW k (m+1)).2=0:=by
    have hw:k / 32 ^ m % 32<=1:=Nat.le_trans (Nat.mod_le _ _) hq;have hs:¬k / 32 ^ m % 32+(dgW k m).2 > 16:=by
      generalize k / 32 ^ m % 32=w at hw;omega
    rw[BR hs]
  refine ⟨?_,h0⟩
  have hv:=A3n k (m+1);rw[h0] at hv;have hk:k % 32 ^ (m+1)=k:=by
    apply Nat.mod_eq_of_lt
    rw[hm];refine Nat.lt_trans h ?_
    decide +kernel
  rw[hk] at hv;rw[<-hv];simp
theorem C1x(l:List Int)(i:Nat)(h:i<l.length):vlW (l.drop i)=32*vlW (l.drop (i+1))+l.getD i 0:=by
 rw[List.drop_eq_getElem_cons h];show 32*vlW (l.drop (i+1))+l[i]=_;rw[List.getD_eq_getElem?_getD,List.getElem?_eq_getElem h];rfl
end
section
theorem Ym{α β:Type}[DecidableEq α][DecidableEq β](a c:α)(b d:β):decide ((a,b)=(c,d))=(decide (a=c) && decide (b=d)):=by
 by_cases h1:a=c<;>by_cases h2:b=d<;>simp [h1,h2]
section
variable {r:Nat}
abbrev Q2(r:Nat):=Fin r×Fin r
instance addQ2:Add (Q2 r):=⟨fun x y=>(x.1+y.1,x.2+y.2)⟩
instance subQ2:Sub (Q2 r):=⟨fun x y=>(x.1-y.1,x.2-y.2)⟩
instance mulQ2:Mul (Q2 r):=⟨fun x y=>(x.1*y.1-x.2*y.2,x.1*y.2+x.2*y.1)⟩
theorem Q8{x y:Q2 r}(h1:x.1=y.1)(h2:x.2=y.2):x=y:=Prod.ext h1 h2
theorem C2e(x y:Q2 r):(x+y).1=x.1+y.1:=rfl
theorem C2f(x y:Q2 r):(x+y).2=x.2+y.2:=rfl
theorem B6h(x y:Q2 r):(x*y).1=x.1*y.1-x.2*y.2:=rfl
theorem B6i(x y:Q2 r):(x*y).2=x.1*y.2+x.2*y.1:=rfl
end
section
variable {r:Nat} [NeZero r]
instance negQ2:Neg (Q2 r):=⟨fun x=>(0-x.1,0-x.2)⟩
instance ofNatQ2(n:Nat):OfNat (Q2 r) n:=⟨(Fin.ofNat r n,0)⟩
def E0t(x:Q2 r):Nat->Q2 r
 | 0=>1
 | n+1=>E0t x n*x
theorem Yg(n:Nat):Fin.ofNat r (n+1)=Fin.ofNat r n+Fin.ofNat r 1:=by
 apply Fin.ext
 show (n+1) % r=(n % r+1 % r) % r;rw[<-Nat.add_mod]
theorem B6q:∀n:Nat,(nc n:Fin r)=Fin.ofNat r n
 | 0=>rfl
 | n+1=>by
  show nc n+1=Fin.ofNat r (n+1);rw[B6q n,Yg];rfl
theorem A4k(n:Nat):(ic (n:Int):Fin r)=Fin.ofNat r n:=(N1 n).trans (B6q n)
instance ringQ2:MJ (Q2 r) where
 natCast:=⟨fun n=>(Fin.ofNat r n,0)⟩
 ofNat:=ofNatQ2
 nsmul:=⟨fun n x=>(Fin.ofNat r n,0)*x⟩
 npow:=⟨fun x n=>E0t x n⟩
 add_zero x:=Q8 (by show x.1+0=x.1;grind) (by show x.2+0=x.2;grind)
 add_comm x y:=Q8 (by show x.1+y.1=y.1+x.1;grind) (by show x.2+y.2=y.2+x.2;grind)
 add_assoc x y z:=Q8 (by show x.1+y.1+z.1=x.1+(y.1+z.1);grind) (by show x.2+y.2+z.2=x.2+(y.2+z.2);grind)
 mul_assoc x y z:=Q8 (by simp only[B6h,B6i];grind) (by simp only[B6h,B6i];grind)
 mul_one x:=Q8 (by show x.1*1-x.2*0=x.1;grind) (by show x.1*0+x.2*1=x.2;grind)
 one_mul x:=Q8 (by show 1*x.1-0*x.2=x.1;grind) (by show 1*x.2+0*x.1=x.2;grind)
 left_distrib x y z:=Q8 (by simp only[B6h,C2e,C2f];grind) (by simp only[B6i,C2e,C2f];grind)
 right_distrib x y z:=Q8 (by simp only[B6h,C2e,C2f];grind) (by simp only[B6i,C2e,C2f];grind)
 zero_mul x:=Q8 (by show 0*x.1-0*x.2=0;grind) (by show 0*x.2+0*x.1=0;grind)
 mul_zero x:=Q8 (by show x.1*0-x.2*0=0;grind) (by show x.1*0+x.2*0=0;grind)
 pow_zero x:=rfl
 pow_succ x n:=rfl
 ofNat_succ n:=Q8 (Yg n) (by show (0:Fin r)=0+0;grind)
 ofNat_eq_natCast n:=rfl
 nsmul_eq_natCast_mul n x:=rfl
 intCast:=⟨fun i=>(ic i,0)⟩
 zsmul:=⟨fun i x=>(ic i,0)*x⟩
 neg_add_cancel x:=Q8 (by show 0-x.1+x.1=0;grind) (by show 0-x.2+x.2=0;grind)
 sub_eq_add_neg x y:=Q8 (by show x.1-y.1=x.1+(0-y.1);grind) (by show x.2-y.2=x.2+(0-y.2);grind)
 neg_zsmul i x:=by
  have e:(ic (-i):Fin r) = - ic i:=Y9 i;refine Q8 ?_ ?_
  ·show ic (-i)*x.1-0*x.2=0-(ic i*x.1-0*x.2)
   rw[e];grind
  ·show ic (-i)*x.2+0*x.1=0-(ic i*x.2+0*x.1)
   rw[e];grind
 zsmul_natCast_eq_nsmul n x:=by
  show ((ic (n:Int),0):Q2 r)*x=(Fin.ofNat r n,0)*x;rw[A4k]
 intCast_ofNat n:=Q8 (A4k n) rfl
 intCast_neg i:=by
  have e:(ic (-i):Fin r) = - ic i:=Y9 i;refine Q8 ?_ ?_
  ·show ic (-i)=0-ic i
   rw[e];grind
  ·show (0:Fin r)=0-0
   grind
 mul_comm x y:=Q8 (by simp only[B6h];grind) (by simp only[B6i];grind)
def nQ2(x:Q2 r):Fin r:=x.1*x.1+x.2*x.2
def Hz(iv:Fin r->Fin r)(x:Q2 r):Q2 r:=(x.1*iv (nQ2 x),0-x.2*iv (nQ2 x))
theorem B4k(iv:Fin r->Fin r)(hiv:∀x,x≠0->x*iv x=1)(hn:∀x:Q2 r,nQ2 x=0->x=0)(x:Q2 r)(hx:x≠0):x*Hz iv x=1:=by
 have h:=hiv (nQ2 x) fun e=>hx (hn x e)
 unfold Hz;generalize iv (nQ2 x)=i at h;unfold nQ2 at h;refine Q8 ?_ ?_
 ·show x.1*(x.1*i)-x.2*(0-x.2*i)=1
  grind
 ·show x.1*(0-x.2*i)+x.2*(x.1*i)=0
  grind
theorem C1q(t:Fin r):∀n,pw (t*t) n=pw t (n+n)
 | 0=>rfl
 | n+1=>by
  rw[show n+1+(n+1)=n+n+1+1 from by omega]
  show pw (t*t) n*(t*t)=pw t (n+n)*t*t;rw[C1q t n,Dc]
theorem B6n(iv:Fin r->Fin r)(hiv:∀x,x≠0->x*iv x=1)(hs:∀t:Fin r,t*t ≠ -1)(x:Q2 r)(h:nQ2 x=0):x=0:=by
 unfold nQ2 at h;have h2:x.2=0:=by
  by_cases e:x.2=0
  ·exact e
  ·exfalso
   have hi:=hiv x.2 e;apply hs (x.1*iv x.2)
   generalize iv x.2=i at hi;generalize x.1=a at *;generalize x.2=b at *;grind
 have h1:x.1=0:=by
  by_cases e:x.1=0
  ·exact e
  ·exfalso
   have hi:=hiv x.1 e;rw[h2] at h;apply e
   generalize iv x.1=i at hi;generalize x.1=a at *;grind
 exact Q8 h1 h2
end
end
end
end Go.Proofs.YtifiiigbedjceaaGreat
