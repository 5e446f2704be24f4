/- Parts of a proof, one behind the other: FwA, FwB, FwC, FwE, FwD, FwF, Fm, Fq, Al, Pn, Gp, Jb, Q2, Tw, Tf, Ag, Ll, Dw, Li, Lj, Lw, Lx. No conditions. -/
import Derived.WalkKit
import Derived.WalkSpells
import Derived.WalkLawsBesides
import Derived.KernelRfl
open Go.IntKind (wrap)
namespace Go.Proofs.YtefimjofjjdndaaGreat
noncomputable section
section

/-- The order of the groups, and the greater prime. -/
def rN:Nat:=52435875175126190479447740508185965837690552500527637822603658699938581184513
def pN:Nat:=4002409555221667393417789825735904156556882819939007885332058136124031650490837864442687629129015664037894272559787
def B4:Nat:=115792089237316195423570985008687907853269984665640564039457584007913129639936
def B6:Nat:=39402006196394479212279040100143613805079739270465446667948293404245721771497210611414266254884915640806627990306816
instance:NeZero rN:=⟨by decide⟩
instance:NeZero pN:=⟨by decide⟩
instance:NeZero B4:=⟨by decide⟩
instance:NeZero B6:=⟨by decide⟩
abbrev Fr:=Fin rN
abbrev Fp:=Fin pN
abbrev U4:=Fin B4
abbrev U6:=Fin B6

/-- The i-th limb of a number. -/
def A0 (n i:Nat):Int:=((n / 2 ^ (64*i) % 18446744073709551616:Nat):Int)

/-- Data of several cells. -/
inductive Ob where
 | fr (x:U4)
 | s (x:Fr)
 | fp (x:U6)
 | p (x:Fp)

def Ob.k:Ob->Nat
 | .fr _=>4
 | .s _=>4
 | .fp _=>6
 | .p _=>6

def Ob.n:Ob->Nat
 | .fr x=>x.val
 | .s x=>x.val*B4 % rN
 | .fp x=>x.val
 | .p x=>x.val*B6 % pN

def Ob.cells (o:Ob):List Value:=(List.range o.k).map fun i=>.int .u64 (A0 o.n i)

def Ob.eqb:Ob->Ob->Option Bool
 | .fr x,.fr y=>some (decide (x=y))
 | .s x,.s y=>some (decide (x=y))
 | .fp x,.fp y=>some (decide (x=y))
 | .p x,.p y=>some (decide (x=y))
 | _,_=>none

/-- What a slice holds. -/
structure B1h where
 qm:U4
 ql:U4
 qr:U4
 qo:U4
 qc:U4
 a:Int
 b:Int
 c:Int
structure OpD where
 tag:Int
 a:Int
 b:Int
 c:Int
 n:Int
 k:U4
 ks:List U4
 vars:List Int
structure G1D where
 x:U6
 y:U6
 inf:Bool
structure G2D where
 xa:U6
 xb:U6
 ya:U6
 yb:U6
 inf:Bool

inductive Sq where
 | fr (l:List U4)
 | s (l:List Fr)
 | int (l:List Int)
 | u64 (l:List Int)
 | u8 (l:List Int)
 | gate (l:List B1h)
 | op (l:List OpD)
 | g1 (l:List G1D)
 | g2 (l:List G2D)
 | pt (l:List (Fp×Fp×Fp))
 | pt2 (l:List ((Fp×Fp)×(Fp×Fp)×(Fp×Fp)))
 | place (l:List (Int×Int))
 | frs (l:List (List U4))
 | ints (l:List (List Int))
 | u64s (l:List (List Int))
 | ptt (l:List (List (Fp×Fp×Fp)))

/-- One part of a value: one cell, or an object of several. -/
inductive It where
 | int (k:IntKind) (n:Int)
 | bool (b:Bool)
 | lit (b:Bool)
 | ptr (p off:Nat)
 | ep (p es i off:Nat)
 | slc (p off len es:Nat)
 | sv (p lo len es:Nat)
 | rp (q:Sq) (i off:Nat)
 | sl (q:Sq)
 | vsl (v:Value) (q:Sq)
 | ob (o:Ob)
 | val (v:Value)
 | clo (f:FuncId) (caps:List (Nat×Nat))
 | mp (p:Nat)
 | ifc (t:Nat) (os:List Ob)
 | dead
 | old (len:Nat)
 | arr (p off n es:Nat)

/-- The cells of objects, one behind the other. -/
def K8:List Ob->List Value
 | []=>[]
 | o::l=>o.cells++K8 l

def It.size:It->Nat
 | .ob o=>o.k
 | _=>1

def H8:List It->Nat
 | []=>0
 | i::l=>i.size+H8 l

def Sq.n:Sq->Nat
 | .fr l=>l.length
 | .s l=>l.length
 | .int l=>l.length
 | .u64 l=>l.length
 | .u8 l=>l.length
 | .gate l=>l.length
 | .op l=>l.length
 | .g1 l=>l.length
 | .g2 l=>l.length
 | .pt l=>l.length
 | .pt2 l=>l.length
 | .place l=>l.length
 | .frs l=>l.length
 | .ints l=>l.length
 | .u64s l=>l.length
 | .ptt l=>l.length

def Sq.es:Sq->Nat
 | .fr _=>4
 | .s _=>4
 | .int _=>1
 | .u64 _=>1
 | .u8 _=>1
 | .gate _=>23
 | .op _=>11
 | .g1 _=>13
 | .g2 _=>25
 | .pt _=>18
 | .pt2 _=>36
 | .place _=>2
 | .frs _=>1
 | .ints _=>1
 | .u64s _=>1
 | .ptt _=>288

def B1h.its (g:B1h):List It:=[.ob (.fr g.qm),.ob (.fr g.ql),.ob (.fr g.qr),.ob (.fr g.qo),.ob (.fr g.qc),.int .i64 g.a,.int .i64 g.b,.int .i64 g.c]
def OpD.its (o:OpD):List It:=[.int .i64 o.tag,.int .i64 o.a,.int .i64 o.b,.int .i64 o.c,.int .i64 o.n,.ob (.fr o.k),.sl (.fr o.ks),.sl (.int o.vars)]
def G1D.its (g:G1D):List It:=[.ob (.fp g.x),.ob (.fp g.y),.bool g.inf]
def G2D.its (g:G2D):List It:=[.ob (.fp g.xa),.ob (.fp g.xb),.ob (.fp g.ya),.ob (.fp g.yb),.bool g.inf]
def J6 (x:Fp×Fp×Fp):List It:=[.ob (.p x.1),.ob (.p x.2.1),.ob (.p x.2.2)]
def L9 (x:(Fp×Fp)×(Fp×Fp)×(Fp×Fp)):List It:=[.ob (.p x.1.1),.ob (.p x.1.2),.ob (.p x.2.1.1),.ob (.p x.2.1.2),.ob (.p x.2.2.1),.ob (.p x.2.2.2)]
def H3i:B1h:=⟨0,0,0,0,0,0,0,0⟩
def op0:OpD:=⟨0,0,0,0,0,0,[],[]⟩
def g10:G1D:=⟨0,0,false⟩
def g20:G2D:=⟨0,0,0,0,false⟩
def pt0:Fp×Fp×Fp:=(0,0,0)
/-- Sixteen points, one behind the other. -/
def I3 (l:List (Fp×Fp×Fp)):Nat->Nat->List It
 | _,0=>[]
 | i,n+1=>.ob (.p (l.getD i pt0).1) :: .ob (.p (l.getD i pt0).2.1) :: .ob (.p (l.getD i pt0).2.2)::I3 l (i+1) n
def A4p:(Fp×Fp)×(Fp×Fp)×(Fp×Fp):=((0,0),(0,0),(0,0))

/-- The parts of one element. -/
def Sq.get:Sq->Nat->List It
 | .fr l,i=>[.ob (.fr (l.getD i 0))]
 | .s l,i=>[.ob (.s (l.getD i 0))]
 | .int l,i=>[.int .i64 (l.getD i 0)]
 | .u64 l,i=>[.int .u64 (l.getD i 0)]
 | .u8 l,i=>[.int .u8 (l.getD i 0)]
 | .gate l,i=>(l.getD i H3i).its
 | .op l,i=>(l.getD i op0).its
 | .g1 l,i=>(l.getD i g10).its
 | .g2 l,i=>(l.getD i g20).its
 | .pt l,i=>J6 (l.getD i pt0)
 | .pt2 l,i=>L9 (l.getD i A4p)
 | .place l,i=>[.int .i64 (l.getD i (0,0)).1,.int .i64 (l.getD i (0,0)).2]
 | .frs l,i=>[.sl (.fr (l.getD i []))]
 | .ints l,i=>[.sl (.int (l.getD i []))]
 | .u64s l,i=>[.sl (.u64 (l.getD i []))]
 | .ptt l,i=>I3 (l.getD i []) 0 16

def Sq.set (q:Sq) (i:Nat) (its:List It):Option Sq:=
 match q,its with
 | .fr l,[.ob (.fr x)]=>some (.fr (l.set i x))
 | .s l,[.ob (.s x)]=>some (.s (l.set i x))
 | .int l,[.int .i64 x]=>some (.int (l.set i x))
 | .u64 l,[.int .u64 x]=>some (.u64 (l.set i x))
 | .u8 l,[.int .u8 x]=>some (.u8 (l.set i x))
 | .gate l,[.ob (.fr x1),.ob (.fr x2),.ob (.fr x3),.ob (.fr x4),.ob (.fr x5),.int .i64 a,.int .i64 b,.int .i64 c]=>some (.gate (l.set i ⟨x1,x2,x3,x4,x5,a,b,c⟩))
 | .op l,[.int .i64 t,.int .i64 a,.int .i64 b,.int .i64 c,.int .i64 n,.ob (.fr k),.sl (.fr ks),.sl (.int vs)]=>some (.op (l.set i ⟨t,a,b,c,n,k,ks,vs⟩))
 | .g1 l,[.ob (.fp x),.ob (.fp y),.bool b]=>some (.g1 (l.set i ⟨x,y,b⟩))
 | .g1 l,[.ob (.fp x),.ob (.fp y),.lit b]=>some (.g1 (l.set i ⟨x,y,b⟩))
 | .g2 l,[.ob (.fp x),.ob (.fp x'),.ob (.fp y),.ob (.fp y'),.bool b]=>some (.g2 (l.set i ⟨x,x',y,y',b⟩))
 | .g2 l,[.ob (.fp x),.ob (.fp x'),.ob (.fp y),.ob (.fp y'),.lit b]=>some (.g2 (l.set i ⟨x,x',y,y',b⟩))
 | .pt l,[.ob (.p x),.ob (.p y),.ob (.p z)]=>some (.pt (l.set i (x,y,z)))
 | .pt2 l,[.ob (.p a),.ob (.p b),.ob (.p c),.ob (.p d),.ob (.p e),.ob (.p f)]=>some (.pt2 (l.set i ((a,b),(c,d),(e,f))))
 | .place l,[.int .i64 a,.int .i64 b]=>some (.place (l.set i (a,b)))
 | _,_=>none

/-- The parts of sixteen points, read back. -/
def C4o:Nat->List It->Option (List (Fp×Fp×Fp))
 | 0,[]=>some []
 | n+1,.ob (.p a) :: .ob (.p b) :: .ob (.p c)::r=>match C4o n r with
  | some t=>some ((a,b,c)::t)
  | none=>none
 | _,_=>none

/-- One element more. -/
def Sq.push (q:Sq) (its:List It):Option Sq:=
 match q,its with
 | .fr l,[.ob (.fr x)]=>some (.fr (l++[x]))
 | .s l,[.ob (.s x)]=>some (.s (l++[x]))
 | .int l,[.int .i64 x]=>some (.int (l++[x]))
 | .u64 l,[.int .u64 x]=>some (.u64 (l++[x]))
 | .u8 l,[.int .u8 x]=>some (.u8 (l++[x]))
 | .gate l,[.ob (.fr x1),.ob (.fr x2),.ob (.fr x3),.ob (.fr x4),.ob (.fr x5),.int .i64 a,.int .i64 b,.int .i64 c]=>some (.gate (l++[⟨x1,x2,x3,x4,x5,a,b,c⟩]))
 | .op l,[.int .i64 t,.int .i64 a,.int .i64 b,.int .i64 c,.int .i64 n,.ob (.fr k),.sl (.fr ks),.sl (.int vs)]=>some (.op (l++[⟨t,a,b,c,n,k,ks,vs⟩]))
 | .g1 l,[.ob (.fp x),.ob (.fp y),.bool b]=>some (.g1 (l++[⟨x,y,b⟩]))
 | .g1 l,[.ob (.fp x),.ob (.fp y),.lit b]=>some (.g1 (l++[⟨x,y,b⟩]))
 | .g2 l,[.ob (.fp x),.ob (.fp x'),.ob (.fp y),.ob (.fp y'),.bool b]=>some (.g2 (l++[⟨x,x',y,y',b⟩]))
 | .g2 l,[.ob (.fp x),.ob (.fp x'),.ob (.fp y),.ob (.fp y'),.lit b]=>some (.g2 (l++[⟨x,x',y,y',b⟩]))
 | .pt l,[.ob (.p x),.ob (.p y),.ob (.p z)]=>some (.pt (l++[(x,y,z)]))
 | .pt2 l,[.ob (.p a),.ob (.p b),.ob (.p c),.ob (.p d),.ob (.p e),.ob (.p f)]=>some (.pt2 (l++[((a,b),(c,d),(e,f))]))
 | .place l,[.int .i64 a,.int .i64 b]=>some (.place (l++[(a,b)]))
 | .frs l,[.sl (.fr x)]=>some (.frs (l++[x]))
 | .frs l,[.val (.slice none 0 0)]=>some (.frs (l++[[]]))
 | .ints l,[.sl (.int x)]=>some (.ints (l++[x]))
 | .ptt l,its=>match C4o 16 its with
  | some t=>some (.ptt (l++[t]))
  | none=>none
 | _,_=>none

/-- The elements from a place on, so many. -/
def Sq.cut (q:Sq) (lo n:Nat):Sq:=
 match q with
 | .fr l=>.fr ((l.drop lo).take n)
 | .s l=>.s ((l.drop lo).take n)
 | .int l=>.int ((l.drop lo).take n)
 | .u64 l=>.u64 ((l.drop lo).take n)
 | .u8 l=>.u8 ((l.drop lo).take n)
 | .gate l=>.gate ((l.drop lo).take n)
 | .op l=>.op ((l.drop lo).take n)
 | .g1 l=>.g1 ((l.drop lo).take n)
 | .g2 l=>.g2 ((l.drop lo).take n)
 | .pt l=>.pt ((l.drop lo).take n)
 | .pt2 l=>.pt2 ((l.drop lo).take n)
 | .place l=>.place ((l.drop lo).take n)
 | .frs l=>.frs ((l.drop lo).take n)
 | .ints l=>.ints ((l.drop lo).take n)
 | .u64s l=>.u64s ((l.drop lo).take n)
 | .ptt l=>.ptt ((l.drop lo).take n)

/-- Two, one behind the other. -/
def Sq.app (q q' : Sq):Option Sq:=
 match q,q' with
 | .fr l,.fr l' => some (.fr (l++l'))
 | .s l,.s l' => some (.s (l++l'))
 | .int l,.int l' => some (.int (l++l'))
 | .u64 l,.u64 l' => some (.u64 (l++l'))
 | .u8 l,.u8 l' => some (.u8 (l++l'))
 | .gate l,.gate l' => some (.gate (l++l'))
 | .op l,.op l' => some (.op (l++l'))
 | .g1 l,.g1 l' => some (.g1 (l++l'))
 | .g2 l,.g2 l' => some (.g2 (l++l'))
 | .pt l,.pt l' => some (.pt (l++l'))
 | .pt2 l,.pt2 l' => some (.pt2 (l++l'))
 | .place l,.place l' => some (.place (l++l'))
 | .frs l,.frs l' => some (.frs (l++l'))
 | .ints l,.ints l' => some (.ints (l++l'))
 | .u64s l,.u64s l' => some (.u64s (l++l'))
 | .ptt l,.ptt l' => some (.ptt (l++l'))
 | _,_=>none

/-- A value: one cell, or parts; what a slot holds: a value, several (a tuple), or anything. -/
inductive V1 where
 | c (i:It)
 | a (l:List It)
inductive SV where
 | v (x:V1)
 | t (l:List V1)
 | top

/-- What a block of the call's own holds. -/
inductive En where
 | fl (l:List It)
 | sq (q:Sq)

structure St where
 t:Nat->SV
 m:Nat->Option En
 nt:Nat
 nx:Nat
 fr:List ((Nat->SV)×Nat)

end

section

/-- Cells that are read and never written: from a place on. -/
def rd (w:World) (F:Nat->Prop) (b o:Nat) (cs:List Value):Prop:=
 F b∧∀(j:Nat) (v:Value),cs[j]? = some v->w.cell? ⟨b,o+j,none⟩=some v

/-- Parts, one behind the other. -/
def C4 (D:It->List Value->Prop):List It->List Value->Prop
 | [],cs=>cs=[]
 | i::l,cs=>∃c1 c2,cs=c1++c2∧D i c1∧C4 D l c2

/-- What is known of a position: nothing, a block, or an empty slice without one. -/
inductive Kd where
 | no | real | nil
 deriving DecidableEq

structure Ctx where
 w:World
 F:Nat->Prop
 k:Nat->Kd
 β:Nat->Nat

/-- A part stands for these cells. -/
def den (x:Ctx):Nat->It->List Value->Prop
 | _,.int k n,vs=>vs=[.int k n]
 | _,.bool b,vs=>vs=[.bool b]
 | _,.lit b,vs=>vs=[.bool b]
 | _,.ptr p off,vs=>x.k p = .real∧vs=[.pointer (some ⟨x.β p,off,none⟩)]
 | _,.ep p es i off,vs=>x.k p = .real∧vs=[.pointer (some ⟨x.β p,i*es+off,none⟩)]
 | _,.slc p off len es,vs=>
  (x.k p = .nil∧off=0∧len=0∧vs=[.slice none 0 0]) ∨
  (x.k p = .real∧∃cap cs ty,vs=[.slice (some ⟨x.β p,off,none⟩) len cap]∧len<=cap∧cap<=maxLen∧x.w.heap[x.β p]? = some (.cells cs ty (0,0))∧off+cap*es<=cs.size)
 | _,.sv p lo len es,vs=>
  (len=0∧∃a cap,vs=[.slice a 0 cap]) ∨
  (x.k p = .real∧∃cap,vs=[.slice (some ⟨x.β p,lo*es,none⟩) len cap]∧len<=cap∧cap<=maxLen)
 | _,.ob o,vs=>vs=o.cells
 | _,.val v,vs=>vs=[v]∧v.oneCell' = true
 | _,.dead,vs=>∃v:Value,vs=[v]∧v.oneCell' = true
 | _,.old len,vs=>∃a cap,vs=[.slice a len cap]
 | _,.arr p off n _,vs=>x.k p = .real∧vs=[.slice (some ⟨x.β p,off,none⟩) n n]
 | _,.clo f caps,vs=>(∀c∈caps,x.k c.1 = .real)∧vs=[.func (.func f) #[] (caps.map fun c=>Value.pointer (some ⟨x.β c.1,c.2,none⟩)).toArray]
 | _,.mp p,vs=>x.k p = .real∧vs=[.map (some (x.β p))]
 | _,.ifc t os,vs=>vs=[.iface t (.agg (K8 os).toArray)]
 | 0,.sl _,_=>False
 | 0,.vsl _ _,_=>False
 | 0,.rp _ _ _,_=>False
 | d+1,.sl q,vs=>
  (∃a cap,vs=[.slice a 0 cap]∧q.n=0) ∨
  (∃b o cap,vs=[.slice (some ⟨b,o,none⟩) q.n cap]∧q.n<=cap∧q.n<=maxLen∧∀i,i<q.n->∃cs,C4 (den x d) (q.get i) cs∧rd x.w x.F b (o+i*q.es) cs)
 | d+1,.vsl v q,vs=>vs=[v]∧((∃a cap,vs=[.slice a 0 cap]∧q.n=0) ∨
  (∃b o cap,vs=[.slice (some ⟨b,o,none⟩) q.n cap]∧q.n<=cap∧q.n<=maxLen∧∀i,i<q.n->∃cs,C4 (den x d) (q.get i) cs∧rd x.w x.F b (o+i*q.es) cs))
 | d+1,.rp q i off,vs=>∃b o cs,vs=[.pointer (some ⟨b,o+off,none⟩)]∧i<q.n∧C4 (den x d) (q.get i) cs∧rd x.w x.F b o cs

/-- However deep slices lie in slices. -/
def Ctx.D (x:Ctx) (i:It) (vs:List Value):Prop:=∃d,den x d i vs

def A2u (x:Ctx):V1->Value->Prop
 | .c i,v=>i.size=1∧x.D i [v]
 | .a l,v=>∃cs,v = .agg cs.toArray∧C4 x.D l cs

inductive A3j (x:Ctx):List V1->List Value->Prop
 | nil:A3j x [] []
 | cons {a v l vs}:A2u x a v->A3j x l vs->A3j x (a::l) (v::vs)

def B8 (x:Ctx):SV->Value->Prop
 | .v a,v=>A2u x a v
 | .t l,v=>∃vs,v = .tuple vs.toArray∧A3j x l vs
 | .top,_=>True

/-- What an own block holds. -/
def C7 (x:Ctx):En->List Value->Prop
 | .fl l,cs=>C4 x.D l cs
 | .sq q,cs=>q.n*q.es<=cs.length∧∀i,i<q.n->∃c,C4 x.D (q.get i) c∧∀(j:Nat) (v:Value),c[j]? = some v->cs[i*q.es+j]? = some v

/-! Lengths. -/
theorem E1r (o:Ob):o.cells.length=o.k:=by simp [Ob.cells]

theorem B8a {x:Ctx} {d:Nat} {i:It} {vs:List Value} (h:den x d i vs):vs.length=i.size:=by
 cases i<;>cases d<;>simp only[den] at h<;>simp only[It.size]
 all_goals first
  | (subst h;simp [E1r];done)
  | (obtain ⟨h1,rfl⟩:=h;rfl)
  | (obtain ⟨rfl,h1⟩:=h;rfl)
  | (obtain ⟨v,rfl,_⟩:=h;rfl)
  | (rcases h with ⟨_,_,_,rfl⟩ | ⟨_,_,_,_,rfl,_⟩<;>rfl)
  | (rcases h with ⟨_,_,_,rfl⟩ | ⟨_,_,rfl,_⟩<;>rfl)
  | (rcases h with ⟨_,_,rfl,_⟩ | ⟨_,_,_,rfl,_⟩<;>rfl)
  | (obtain ⟨_,_,_,rfl,_⟩:=h;rfl)
  | exact h.elim

theorem N5 {x:Ctx} {d:Nat}:∀{l:List It} {cs:List Value},C4 (den x d) l cs->cs.length=H8 l
 | [],cs,h=>by simp only[C4] at h;subst h;rfl
 | i::l,cs,h=>by
  obtain ⟨c1,c2,rfl,h1,h2⟩:=h;simp [H8,B8a h1,N5 h2]

/-! Deeper. -/
theorem E9 {D D' : It->List Value->Prop} (h:∀i vs,D i vs->D' i vs):∀{l:List It} {cs:List Value},C4 D l cs->C4 D' l cs
 | [],_,hc=>hc
 | _::_,_,⟨c1,c2,e,h1,h2⟩=>⟨c1,c2,e,h _ _ h1,E9 h h2⟩

theorem E0a {x:Ctx}:∀(d:Nat) (i:It) (vs:List Value),den x d i vs->den x (d+1) i vs:=by
  intro d;induction d with
  | zero=>intro i vs h;cases i<;>simp only[den] at h ⊢<;>first | exact h | exact h.elim
  | succ d ih=>
    intro i vs h
    cases i<;>simp only[den] at h ⊢
    all_goals first
      | exact h
      | (rcases h with h | ⟨b,o,cap,e,hc,hm,hr⟩
         · exact .inl h
         · refine .inr ⟨b,o,cap,e,hc,hm,fun i hi=>?_⟩
           obtain ⟨cs,h1,h2⟩:=hr i hi;exact ⟨cs,E9 ih h1,h2⟩)
      | (obtain ⟨b,o,cs,e,hi,h1,h2⟩:=h
         exact ⟨b,o,cs,e,hi,E9 ih h1,h2⟩)
      | (obtain ⟨hv,h⟩:=h
         refine ⟨hv,?_⟩
         rcases h with h | ⟨b,o,cap,e,hc,hm,hr⟩
         · exact .inl h
         · refine .inr ⟨b,o,cap,e,hc,hm,fun i hi=>?_⟩
           obtain ⟨cs,h1,h2⟩:=hr i hi;exact ⟨cs,E9 ih h1,h2⟩)

/-- A known slice, told as data. -/
theorem E3r {x:Ctx} {v:Value} {q:Sq} {vs:List Value} (h:x.D (.vsl v q) vs):vs=[v]∧x.D (.sl q) vs:=by
 obtain ⟨d,h⟩:=h
 cases d with
 | zero=>exact h.elim
 | succ d=>exact ⟨h.1,d+1,h.2⟩
theorem E2z {x:Ctx} {v:Value} {q:Sq} (h:x.D (.sl q) [v]):x.D (.vsl v q) [v]:=by
 obtain ⟨d,h⟩:=h
 cases d with
 | zero=>exact h.elim
 | succ d=>exact ⟨d+1,rfl,h⟩

theorem A0s {x:Ctx} {d d' : Nat} (h:d<=d') {i:It} {vs:List Value} (hd:den x d i vs):den x d' i vs:=by
 induction h with
 | refl=>exact hd
 | step _ ih=>exact E0a _ _ _ ih

theorem N4 {x:Ctx} {d:Nat} {l:List It} {cs:List Value} (h:C4 (den x d) l cs):C4 x.D l cs:=E9 (fun _ _ h=>⟨d,h⟩) h

theorem I9 {x:Ctx}:∀{l:List It} {cs:List Value},C4 x.D l cs->∃d,C4 (den x d) l cs
 | [],_,h=>⟨0,h⟩
 | _::_,_,⟨c1,c2,e,⟨d,h1⟩,h2⟩=>by
  obtain ⟨d',h2⟩:=I9 h2;exact ⟨max d d',c1,c2,e,A0s (Nat.le_max_left _ _) h1,E9 (fun _ _ h=>A0s (Nat.le_max_right _ _) h) h2⟩

theorem A0h {x:Ctx} {i:It} {vs:List Value} (h:x.D i vs):vs.length=i.size:=by obtain ⟨d,h⟩:=h;exact B8a h

/-! The world grows. -/
/-- From one context to another: what is read is as it was; own blocks keep their sizes. -/
structure Ext (x y:Ctx):Prop where
 size:x.w.heap.size<=y.w.heap.size
 ro:∀b,x.F b->y.F b∧y.w.heap[b]? = x.w.heap[b]?
 k:∀p,x.k p ≠ .no->y.k p=x.k p
 β:∀p,x.k p = .real->y.β p=x.β p
 own:∀p,x.k p = .real->∀cs ty,x.w.heap[x.β p]? = some (.cells cs ty (0,0))->∃cs',y.w.heap[x.β p]? = some (.cells cs' ty (0,0))∧cs'.size=cs.size

theorem Ext.refl (x:Ctx):Ext x x:=⟨Nat.le_refl _,fun _ h=>⟨h,rfl⟩,fun _ _=>rfl,fun _ _=>rfl,fun _ _ cs _ h=>⟨cs,h,rfl⟩⟩

theorem Ext.trans {x y z:Ctx} (h:Ext x y) (g:Ext y z):Ext x z where
 size:=Nat.le_trans h.size g.size
 ro b hb:=⟨(g.ro b (h.ro b hb).1).1,(g.ro b (h.ro b hb).1).2.trans (h.ro b hb).2⟩
 k p hp:=(g.k p (by rw[h.k p hp];exact hp)).trans (h.k p hp)
 β p hp:=(g.β p ((h.k p (by simp [hp])).trans hp)).trans (h.β p hp)
 own p hp cs ty hc:=by
  obtain ⟨cs1,h1,s1⟩:=h.own p hp cs ty hc;have hk:=(h.k p (by simp [hp])).trans hp
  have:=g.own p hk cs1 ty (by rw[h.β p hp];exact h1)
  rw[h.β p hp] at this;obtain ⟨cs2,h2,s2⟩:=this;exact ⟨cs2,h2,s2.trans s1⟩

theorem D9u {w w' : World} {b:Nat} (h:w'.heap[b]? = w.heap[b]?) (o:Nat):w'.cell? ⟨b,o,none⟩=w.cell? ⟨b,o,none⟩:=by simp [World.cell?,h]

theorem E2l {x y:Ctx} (h:Ext x y) {b o:Nat} {cs:List Value} (hr:rd x.w x.F b o cs):rd y.w y.F b o cs:=
 ⟨(h.ro b hr.1).1,fun j v hv=>by rw[D9u (h.ro b hr.1).2];exact hr.2 j v hv⟩

theorem G5r {x y:Ctx} (h:Ext x y):∀(d:Nat) (i:It) (vs:List Value),den x d i vs->den y d i vs:=by
  intro d;induction d with
  | zero=>
    intro i vs hi
    cases i<;>simp only[den] at hi ⊢
    all_goals first
      | exact hi
      | (obtain ⟨h1,h2⟩:=hi;exact ⟨(h.k _ (by simp [h1])).trans h1,by rw[h.β _ h1];exact h2⟩)
      | (rcases hi with ⟨h1,h2⟩ | ⟨h1,cap,cs,ty,e,hl,hm,hc,hs⟩
         · exact .inl ⟨(h.k _ (by simp [h1])).trans h1,h2⟩
         · obtain ⟨cs',hc',hs'⟩:=h.own _ h1 cs ty hc
           exact .inr ⟨(h.k _ (by simp [h1])).trans h1,cap,cs',ty,by rw[h.β _ h1];exact e,hl,hm,by rw[h.β _ h1];exact hc',by omega⟩)
      | (rcases hi with hi | ⟨h1,cap,e,hl,hm⟩
         · exact .inl hi
         · exact .inr ⟨(h.k _ (by simp [h1])).trans h1,cap,by rw[h.β _ h1];exact e,hl,hm⟩)
      | (obtain ⟨h1,h2⟩:=hi
         refine ⟨fun c hc=>(h.k _ (by simp [h1 c hc])).trans (h1 c hc),?_⟩
         rw[h2];congr 3
         exact List.map_congr_left fun c hc=>by rw[h.β _ (h1 c hc)])
  | succ d ih=>
    intro i vs hi
    cases i<;>simp only[den] at hi ⊢
    all_goals first
      | exact hi
      | (obtain ⟨h1,h2⟩:=hi;exact ⟨(h.k _ (by simp [h1])).trans h1,by rw[h.β _ h1];exact h2⟩)
      | (rcases hi with ⟨h1,h2⟩ | ⟨h1,cap,cs,ty,e,hl,hm,hc,hs⟩
         · exact .inl ⟨(h.k _ (by simp [h1])).trans h1,h2⟩
         · obtain ⟨cs',hc',hs'⟩:=h.own _ h1 cs ty hc
           exact .inr ⟨(h.k _ (by simp [h1])).trans h1,cap,cs',ty,by rw[h.β _ h1];exact e,hl,hm,by rw[h.β _ h1];exact hc',by omega⟩)
      | (rcases hi with hi | ⟨h1,cap,e,hl,hm⟩
         · exact .inl hi
         · exact .inr ⟨(h.k _ (by simp [h1])).trans h1,cap,by rw[h.β _ h1];exact e,hl,hm⟩)
      | (obtain ⟨h1,h2⟩:=hi
         refine ⟨fun c hc=>(h.k _ (by simp [h1 c hc])).trans (h1 c hc),?_⟩
         rw[h2];congr 3
         exact List.map_congr_left fun c hc=>by rw[h.β _ (h1 c hc)])
      | (rcases hi with hi | ⟨b,o,cap,e,hc,hm,hr⟩
         · exact .inl hi
         · refine .inr ⟨b,o,cap,e,hc,hm,fun i hi=>?_⟩
           obtain ⟨cs,h1,h2⟩:=hr i hi;exact ⟨cs,E9 ih h1,E2l h h2⟩)
      | (obtain ⟨b,o,cs,e,hi,h1,h2⟩:=hi
         exact ⟨b,o,cs,e,hi,E9 ih h1,E2l h h2⟩)
      | (obtain ⟨hv,hi⟩:=hi
         refine ⟨hv,?_⟩
         rcases hi with hi | ⟨b,o,cap,e,hc,hm,hr⟩
         · exact .inl hi
         · refine .inr ⟨b,o,cap,e,hc,hm,fun i hi=>?_⟩
           obtain ⟨cs,h1,h2⟩:=hr i hi;exact ⟨cs,E9 ih h1,E2l h h2⟩)

theorem C5n {x y:Ctx} (h:Ext x y) (i:It) (vs:List Value) (hd:x.D i vs):y.D i vs:=by
 obtain ⟨d,hd⟩:=hd;exact ⟨d,G5r h d i vs hd⟩

theorem D4n {x y:Ctx} (h:Ext x y) {a:V1} {v:Value} (hv:A2u x a v):A2u y a v:=by
 cases a with
 | c i=>exact ⟨hv.1,C5n h _ _ hv.2⟩
 | a l=>obtain ⟨cs,e,hc⟩:=hv;exact ⟨cs,e,E9 (C5n h) hc⟩

theorem E8r {x y:Ctx} (h:Ext x y) {l:List V1} {vs:List Value} (hv:A3j x l vs):A3j y l vs:=by
 induction hv with
 | nil=>exact .nil
 | cons h1 _ ih=>exact .cons (D4n h h1) ih

theorem A1q {x y:Ctx} (h:Ext x y) {s:SV} {v:Value} (hv:B8 x s v):B8 y s v:=by
 cases s with
 | v a=>exact D4n h hv
 | t l=>obtain ⟨vs,e,hc⟩:=hv;exact ⟨vs,e,E8r h hc⟩
 | top=>trivial

theorem K4 {x y:Ctx} (h:Ext x y) {e:En} {cs:List Value} (hv:C7 x e cs):C7 y e cs:=by
 cases e with
 | fl l=>exact E9 (C5n h) hv
 | sq q=>exact ⟨hv.1,fun i hi=>let ⟨c,h1,h2⟩:=hv.2 i hi;⟨c,E9 (C5n h) h1,h2⟩⟩

end

section

/-- What is known of a type. -/
structure TyI where
 cells:Nat
 agg:Bool
 bytes:Nat
 zero:List It
 fields:List (Nat×Nat×Bool)
 arr:Option (Nat×Nat)
 slc:Option Nat
 kind:Option IntKind
 esq:Option Sq
 eqk:List Bool

structure Res where
 obl:List Prop
 val:SV
 ups:List (Nat×En)
 kill:Option Nat

abbrev B2:=List SV->Option (List Prop×SV×List En)
abbrev D9k:=List SV->(Nat->Option En)->Option (List Prop×SV×List (Nat×En))

structure Env where
 ty:Nat->Option TyI
 fn:Nat->Option B2
 mu:Nat->Option D9k
 inl:Nat->Option Func
 ex:Nat->Option Nat
 inv:Nat->Option (List (String×Nat))

def B1:List Prop->Prop
 | []=>True
 | p::l=>p∧B1 l

theorem E0 {l l' : List Prop}:B1 (l++l')↔B1 l∧B1 l' := by
 induction l with
 | nil=>simp [B1]
 | cons p l ih=>simp [B1,ih,and_assoc]

def A2p:Nat->List It->Option (List It)
 | 0,_=>some []
 | _+1,[]=>none
 | n+1,i::l=>if i.size<=n+1 then (A2p (n+1-i.size) l).map (i :: ·) else none

def A1c:Nat->List It->Option (List It)
 | 0,l=>some l
 | _+1,[]=>none
 | n+1,i::l=>if i.size<=n+1 then A1c (n+1-i.size) l else none

def B9v (off n:Nat) (l:List It):Option (List It):=
 match A1c off l with
 | some r=>A2p n r
 | none=>none

/-- The parts ahead, the new ones, the parts behind. -/
def B3f (off:Nat) (new l:List It):Option (List It):=
 match A2p off l,A1c (off+H8 new) l with
 | some a,some b=>some (a++new++b)
 | _,_=>none

def F9u (o:Ob):List It:=(List.range o.k).map fun i=>.int .u64 (A0 o.n i)

def A7i:List It->List It
 | []=>[]
 | .ob o::l=>F9u o++A7i l
 | i::l=>i::A7i l

def A2t (off n:Nat) (l:List It):Option (List It):=
 match B9v off n l with
 | some r=>some r
 | none=>B9v off n (A7i l)

def A3y (off:Nat) (new l:List It):Option (List It):=
 match B3f off new l with
 | some r=>some r
 | none=>B3f off new (A7i l)

def mkV (agg:Bool) (l:List It):Option V1:=
 match agg,l with
 | true,l=>some (.a l)
 | false,[i]=>some (.c i)
 | _,_=>none

def V1.its:V1->List It
 | .c i=>[i]
 | .a l=>l

def I1 (op:BinOp) (k:IntKind) (x y:Int):Int:=
 match op with
 | .and=>k.wrap ((BitVec.ofInt k.bits x &&& BitVec.ofInt k.bits y).toNat:Int)
 | .or=>k.wrap ((BitVec.ofInt k.bits x ||| BitVec.ofInt k.bits y).toNat:Int)
 | .xor=>k.wrap ((BitVec.ofInt k.bits x ^^^ BitVec.ofInt k.bits y).toNat:Int)
 | _=>k.wrap ((BitVec.ofInt k.bits x &&& ~~~ BitVec.ofInt k.bits y).toNat:Int)

def B8x (op:BinOp) (k:IntKind) (a b:Int):Option (List Prop×It):=
 match op with
 | .add=>some ([],.int k (k.wrap (a+b)))
 | .sub=>some ([],.int k (k.wrap (a-b)))
 | .mul=>some ([],.int k (k.wrap (a*b)))
 | .quo=>some ([b≠0],.int k (k.wrap (a.tdiv b)))
 | .rem=>some ([b≠0],.int k (a.tmod b))
 | .and=>some ([],.int k (I1 .and k a b))
 | .or=>some ([],.int k (I1 .or k a b))
 | .xor=>some ([],.int k (I1 .xor k a b))
 | .andNot=>some ([],.int k (I1 .andNot k a b))
 | .shl=>some ([0<=b],.int k (k.wrap (a*2 ^ (min b.toNat k.bits))))
 | .shr=>some ([0<=b],.int k (a.fdiv (2 ^ (min b.toNat k.bits))))
 | .eql=>some ([],.bool (a == b))
 | .neq=>some ([],.bool (a != b))
 | .lss=>some ([],.bool (a<b))
 | .leq=>some ([],.bool (a<=b))
 | .gtr=>some ([],.bool (a > b))
 | .geq=>some ([],.bool (a >= b))

def IntKind.same:IntKind->IntKind->Bool
 | .i8,.i8 | .i16,.i16 | .i32,.i32 | .i64,.i64 | .u8,.u8 | .u16,.u16 | .u32,.u32 | .u64,.u64=>true
 | _,_=>false

def F4j:It->It->Option Bool
 | .int k a,.int k' b=>if IntKind.same k k' then some (a == b) else none
 | .bool a,.bool b=>some (a == b)
 | .lit a,.bool b=>some (a == b)
 | .bool a,.lit b=>some (a == b)
 | .lit a,.lit b=>some (a == b)
 | .ob a,.ob b=>Ob.eqb a b
 | _,_=>none

def B1u:List It->List It->Option Bool
 | [],[]=>some true
 | [a],[b]=>F4j a b
 | a::l,b::l' =>
  match F4j a b,B1u l l' with
  | some x,some y=>some (x && y)
  | _,_=>none
 | _,_=>none

def A5b:List It->Option (List Bool)
 | []=>some []
 | .int _ _::l=>(A5b l).map (true :: ·)
 | .bool _::l=>(A5b l).map (false :: ·)
 | .lit _::l=>(A5b l).map (false :: ·)
 | .ob o::l=>(A5b l).map (List.replicate o.k true ++ ·)
 | _=>none

def C6t:BinOp->Option Bool
 | .eql=>some true
 | .neq=>some false
 | _=>none

def E0s:List It->Bool
 | [.val (.pointer none)]=>true
 | _=>false

/-- What a pointer is told against nil; else: whether both are. -/
def D1p (env:Env) (op:BinOp) (xt:Nat) (b:Bool):Option (List Prop×It):=
 match C6t op,env.ty xt with
 | some e,some i=>if !i.agg && E0s i.zero then some ([],.lit (if e then b else !b)) else none
 | _,_=>none

/-- Two strings joined, a string's end, a string of bytes: by choice, so that nothing unfolds them. -/
def I3w (s t:ByteArray):ByteArray:=Classical.choose (⟨s++t,rfl⟩:∃u,u=s++t)
theorem G5d (s t:ByteArray):I3w s t=s++t:=Classical.choose_spec (⟨s++t,rfl⟩:∃u,u=s++t)
def F4c (s:ByteArray) (n:Nat):ByteArray:=Classical.choose (⟨s.extract n s.size,rfl⟩:∃u,u=s.extract n s.size)
theorem F4d (s:ByteArray) (n:Nat):F4c s n=s.extract n s.size:=Classical.choose_spec (⟨s.extract n s.size,rfl⟩:∃u,u=s.extract n s.size)
def G2r (l:List Int):ByteArray:=Classical.choose (⟨⟨(l.map fun n=>UInt8.ofNat n.toNat).toArray⟩,rfl⟩:∃u:ByteArray,u=⟨(l.map fun n=>UInt8.ofNat n.toNat).toArray⟩)
theorem G2s (l:List Int):G2r l=⟨(l.map fun n=>UInt8.ofNat n.toNat).toArray⟩:=Classical.choose_spec (⟨⟨(l.map fun n=>UInt8.ofNat n.toNat).toArray⟩,rfl⟩:∃u:ByteArray,u=⟨(l.map fun n=>UInt8.ofNat n.toNat).toArray⟩)

/-- Two strings. -/
def E3d (op:BinOp) (s t:ByteArray):Option (List Prop×It):=
 match op with
 | .add=>some ([s.size+t.size<=1152921504606846976],.val (.string (I3w s t)))
 | .eql=>some ([],.bool (s.toList == t.toList))
 | .neq=>some ([],.bool (!(s.toList == t.toList)))
 | _=>none

def H6m:List It->Bool
 | [.val (.string _)]=>true
 | _=>false
def TyI.isStr (i:TyI):Bool:=!i.agg && H6m i.zero

def D9q (env:Env) (op:BinOp) (xt:Nat) (x y:SV):Option (List Prop×It):=
 match x,y with
 | .v (.c (.int k a)),.v (.c (.int k' b))=>
  match op with
  | .shl=>B8x .shl k a b
  | .shr=>B8x .shr k a b
  | op=>if IntKind.same k k' then B8x op k a b else none
 | .v (.c (.ptr _ _)),.v (.c (.val (.pointer none)))=>D1p env op xt false
 | .v (.c (.val (.pointer none))),.v (.c (.val (.pointer none)))=>D1p env op xt true
 | .v (.c (.val (.string s))),.v (.c (.val (.string t)))=>E3d op s t
 | .v (.c a),.v (.c b)=>
  match C6t op,env.ty xt,F4j a b with
  | some e,some i,some r=>if !i.agg && (A5b [a] == some i.eqk) && (A5b [b] == some i.eqk) then some ([],.bool (if e then r else !r)) else none
  | _,_,_=>none
 | .v (.a a),.v (.a b)=>
  match C6t op,env.ty xt,B1u a b with
  | some e,some i,some r=>if i.agg && !i.eqk.isEmpty && (A5b a == some i.eqk) && (A5b b == some i.eqk) then some ([],.bool (if e then r else !r)) else none
  | _,_,_=>none
 | _,_=>none

/-- Whole numbers of 64 bits among parts. -/
def u64s:List It->Option (List Int)
 | []=>some []
 | .int .u64 n::l=>(u64s l).map (n :: ·)
 | _=>none

/-- A variable's block, as a row of one. -/
def F2p:List It->Option Sq
 | [.ob (.fr x)]=>some (.fr [x])
 | [.sl (.fr l)]=>some (.frs [l])
 | [.int .i64 n]=>some (.int [n])
 | _=>none
/-- A part without own blocks: an own slice is read. -/
def F0p (m:Nat->Option En):It->Option (List Prop×It)
 | .int k n=>some ([],.int k n)
 | .bool b=>some ([],.bool b)
 | .lit b=>some ([],.lit b)
 | .ob o=>some ([],.ob o)
 | .val v=>some ([],.val v)
 | .sl q=>some ([],.sl q)
 | .rp q i off=>some ([],.rp q i off)
 | .clo f []=>some ([],.clo f [])
 | .slc p off len es=>
  match m p with
  | some (.sq q)=>some ([off=0,len=q.n,es=q.es],.sl q)
  | some (.fl l)=>
   match es,B9v off len (A7i l) with
   | 1,some r=>match u64s r with
    | some ns=>some ([],.sl (.u64 ns))
    | none=>none
   | _,_=>none
  | none=>none
 | .sv p lo len es=>
  match m p with
  | some (.sq q)=>some ([lo+len<=q.n,es=q.es],.sl (q.cut lo len))
  | _=>none
 | .ptr p off=>
  match m p with
  | some (.fl l)=>match F2p l with
   | some q=>some ([],.rp q 0 off)
   | none=>none
  | _=>none
 | _=>none

def D7y (m:Nat->Option En):List It->Option (List Prop×List It)
 | []=>some ([],[])
 | i::l=>
  match F0p m i,D7y m l with
  | some (o,i),some (o',l)=>some (o++o',i::l)
  | _,_=>none

def I0d (m:Nat->Option En):SV->Option (List Prop×SV)
 | .v (.c i)=>match F0p m i with
  | some (o,i)=>some (o,.v (.c i))
  | none=>none
 | .v (.a l)=>match D7y m l with
  | some (o,l)=>some (o,.v (.a l))
  | none=>none
 | _=>none

def B7f (m:Nat->Option En):List SV->Option (List Prop×List SV)
 | []=>some ([],[])
 | a::l=>
  match I0d m a,B7f m l with
  | some (o,a),some (o',l)=>some (o++o',a::l)
  | _,_=>none

/-- Positions of a contract's own results, from p on. -/
def B0t (p:Nat):It->It
 | .slc q off len es=>.slc (p+q) off len es
 | .sv q lo len es=>.sv (p+q) lo len es
 | .ptr q off=>.ptr (p+q) off
 | .ep q es i off=>.ep (p+q) es i off
 | .mp q=>.mp (p+q)
 | .arr q off n es=>.arr (p+q) off n es
 | .clo f c=>.clo f (c.map fun x=>(p+x.1,x.2))
 | i=>i
def shV (p:Nat):V1->V1
 | .c i=>.c (B0t p i)
 | .a l=>.a (l.map (B0t p))
def I0w (p:Nat):SV->SV
 | .v a=>.v (shV p a)
 | .t l=>.t (l.map (shV p))
 | .top=>.top

def F0z (p:Nat):En->En
 | .fl l=>.fl (l.map (B0t p))
 | .sq q=>.sq q

def F9 (p:Nat):List En->List (Nat×En)
 | []=>[]
 | e::l=>(p,e)::F9 (p+1) l

def C9b:Value->SV
 | .int k n=>.v (.c (.int k n))
 | .bool b=>.v (.c (.lit b))
 | .slice none 0 0=>.v (.c (.val (.slice none 0 0)))
 | .string s=>.v (.c (.val (.string s)))
 | .map none=>.v (.c (.val (.map none)))
 | .pointer none=>.v (.c (.val (.pointer none)))
 | _=>.top

def St.ev (σ:St):Operand->SV
 | .tmp t=>σ.t t
 | .const v=>C9b v
 | .global _=>.top
 | .func f=>.v (.c (.clo f []))

def D5v:SV->Option (IntKind×Int)
 | .v (.c (.int k n))=>some (k,n)
 | _=>none

/-- An address, cells and whether they are of several: what is loaded. -/
def A7s (m:Nat->Option En) (a:SV) (i:TyI):Option (List Prop×V1):=
 match a with
 | .v (.c (.ptr p off))=>
  match m p with
  | some (.fl l)=>
   match i.agg,l with
   | false,[.ob o]=>some ([off<o.k],.c (.int .u64 (A0 o.n off)))
   | agg,l=>match A2t off i.cells l with
    | some r=>(mkV agg r).map fun v=>([],v)
    | none=>none
  | some (.sq q)=>
   if q.es=1 && i.cells=1 then (mkV i.agg (q.get off)).map fun v=>([off<q.n],v)
   else if off=0 && q.es=i.cells then (mkV i.agg (q.get 0)).map fun v=>([0<q.n],v) else none
  | _=>none
 | .v (.c (.ep p es ix off))=>
  match m p with
  | some (.sq q)=>
   if q.es=es then
    match i.agg,q.get ix with
    | false,[.ob o]=>some ([ix<q.n,off<o.k],.c (.int .u64 (A0 o.n off)))
    | agg,l=>match A2t off i.cells l with
     | some r=>(mkV agg r).map fun v=>([ix<q.n],v)
     | none=>none
   else none
  | _=>none
 | .v (.c (.rp q ix off))=>
  match A2t off i.cells (q.get ix) with
  | some r=>(mkV i.agg r).map fun v=>([],v)
  | none=>none
 | _=>none

def A6u (m:Nat->Option En) (a x:SV) (i:TyI):Option (List Prop×List (Nat×En)):=
 match x with
 | .v v=>
  if H8 v.its=i.cells then
   match a with
   | .v (.c (.ptr p off))=>
    match m p with
    | some (.fl l)=>(A3y off v.its l).map fun r=>([],[(p,.fl r)])
    | some (.sq q)=>if q.es=1 && i.cells=1 then (q.set off v.its).map fun r=>([off<q.n],[(p,.sq r)]) else none
    | none=>none
   | .v (.c (.ep p es ix off))=>
    match m p with
    | some (.sq q)=>
     if q.es=es then
      match A3y off v.its (q.get ix) with
      | some r=>(q.set ix r).map fun r=>([ix<q.n],[(p,.sq r)])
      | none=>none
     else none
    | _=>none
   | _=>none
  else none
 | _=>none

/-- A pointer to a field. -/
def C0v (a:SV) (fo:Nat):Option It:=
 match a with
 | .v (.c (.ptr p off))=>some (.ptr p (off+fo))
 | .v (.c (.ep p es ix off))=>some (.ep p es ix (off+fo))
 | .v (.c (.rp q ix off))=>some (.rp q ix (off+fo))
 | _=>none

/-- A pointer to an element: es is the element's size, arr the array's length. -/
def A3p (m:Nat->Option En) (x:SV) (i:Int) (arr:Option Nat) (es:Nat):Option (List Prop×It):=
 match arr,x with
 | none,.v (.c (.slc p off len es'))=>
  if es' = es then
   match m p with
   | some (.sq q)=>if q.es=es then some ([0<=i,i<len,off=0],.ep p es i.toNat 0) else none
   | some (.fl _)=>some ([0<=i,i<len],.ptr p (off+i.toNat*es))
   | none=>none
  else none
 | none,.v (.c (.sl q))=>if q.es=es then some ([0<=i,i<q.n],.rp q i.toNat 0) else none
 | none,.v (.c (.vsl _ q))=>if q.es=es then some ([0<=i,i<q.n],.rp q i.toNat 0) else none
 | some n,.v (.c (.ptr p off))=>
  match m p with
  | some (.sq q)=>if q.es=es then some ([0<=i,i<n,off=0],.ep p es i.toNat 0) else none
  | some (.fl _)=>some ([0<=i,i<n],.ptr p (off+i.toNat*es))
  | none=>none
 | some n,.v (.c (.ep p es' ix off))=>some ([0<=i,i<n],.ep p es' ix (off+i.toNat*es))
 | some n,.v (.c (.rp q ix off))=>some ([0<=i,i<n],.rp q ix (off+i.toNat*es))
 | _,_=>none

def A9z:Option SV->Option (Option Int)
 | none=>some none
 | some x=>(D5v x).map fun y=>some y.2

/-- A piece: of an array behind a pointer (arr: its length), or of a slice. -/
def A4b (m:Nat->Option En) (x:SV) (lo hi:Option Int) (arr:Option Nat) (es:Nat):Option (List Prop×It):=
 match arr,x with
 | some n,.v (.c (.ptr p off))=>
  match (match m p with | some (.fl l)=>if off+n*es<=H8 l then some [] else none | some (.sq q)=>if q.es=es then some [off=0,n<=q.n] else none | none=>(none:Option (List Prop))) with
  | some o=>
   match lo,hi with
   | none,none=>if n<=4096 then some (o,if es=13 then .arr p off n es else .slc p off n es) else none
   | none,some h=>if n<=4096 then some ((0<=h)::(h<=n)::o,.slc p off h.toNat es) else none
   | _,_=>none
  | none=>none
 | none,.v (.c (.slc p off len es'))=>
  match lo,hi with
  | none,none=>some ([],.slc p off len es')
  | none,some h=>some ([off=0,es' = es,0<=h,h<=len],if es=11 then .slc p 0 h.toNat es else .sv p 0 h.toNat es)
  | some l,none=>some ([off=0,es' = es,0<=l,l<=len],.sv p l.toNat (len-l.toNat) es)
  | some l,some h=>some ([off=0,es' = es,0<=l,l<=h,h<=len],.sv p l.toNat (h.toNat-l.toNat) es)
 | none,.v (.c (.sl q))=>
  if q.es=es then
   match lo,hi with
   | none,none=>some ([],.sl q)
   | none,some h=>some ([0<=h,h<=q.n],.sl (q.cut 0 h.toNat))
   | some l,none=>some ([0<=l,l<=q.n],.sl (q.cut l.toNat (q.n-l.toNat)))
   | some l,some h=>some ([0<=l,l<=h,h<=q.n],.sl (q.cut l.toNat (h.toNat-l.toNat)))
  else none
 | _,_=>none

def A8t:Sq->Nat->Option Sq
 | .fr _,n=>some (.fr (List.replicate n 0))
 | .s _,n=>some (.s (List.replicate n 0))
 | .int _,n=>some (.int (List.replicate n 0))
 | .u64 _,n=>some (.u64 (List.replicate n 0))
 | .u8 _,n=>some (.u8 (List.replicate n 0))
 | .gate _,n=>some (.gate (List.replicate n H3i))
 | .g1 _,n=>some (.g1 (List.replicate n g10))
 | .g2 _,n=>some (.g2 (List.replicate n g20))
 | .pt _,n=>some (.pt (List.replicate n pt0))
 | .pt2 _,n=>some (.pt2 (List.replicate n A4p))
 | .place _,n=>some (.place (List.replicate n (0,0)))
 | .frs _,n=>some (.frs (List.replicate n []))
 | .ints _,n=>some (.ints (List.replicate n []))
 | _,_=>none

def A0f (q:Sq):List (List It)->Option Sq
 | []=>some q
 | x::l=>match q.push x with
  | some q=>A0f q l
  | none=>none

/-- Literal places 0, 1, 2 .. of the parts. -/
def A2h:Nat->List (Nat×SV)->Option (List (List It))
 | _,[]=>some []
 | n,(i,.v v)::l=>if i=n then (A2h (n+1) l).map (v.its :: ·) else none
 | _,_=>none

/-- Where a part of a built value lies. -/
def B8j (fields:List (Nat×Nat×Bool)) (arr:Option (Nat×Nat)) (i:Nat):Option (Nat×Nat):=
 match arr with
 | some (_,es)=>some (i*es,es)
 | none=>(fields[i]?).map fun f=>(f.1,f.2.1)

def A0j (fields:List (Nat×Nat×Bool)) (arr:Option (Nat×Nat)) (l:List It):List (Nat×SV)->Option (List It)
 | []=>some l
 | (i,.v v)::r=>
  match B8j fields arr i with
  | some (off,size)=>if H8 v.its=size then
    match A3y off v.its l with
    | some l=>A0j fields arr l r
    | none=>none
   else none
  | none=>none
 | _=>none

def B3c:List It->Option Nat
 | []=>some 0
 | .int .u64 a::l=>(B3c l).map fun n=>a.toNat+18446744073709551616*n
 | _=>none

def B2n:List It->List Prop
 | .int .u64 a::l=>(0<=a)::(a<18446744073709551616)::B2n l
 | _=>[]

/-- A number whose limbs were given one by one is told as a number. -/
def B8y (z l:List It):List Prop×List It:=
 match z,l with
 | [.ob (.fr _)],[.int .u64 a,.int .u64 b,.int .u64 c,.int .u64 d]=>
  match B3c [.int .u64 a,.int .u64 b,.int .u64 c,.int .u64 d] with
  | some n=>(B2n [.int .u64 a,.int .u64 b,.int .u64 c,.int .u64 d],[.ob (.fr (Fin.ofNat B4 n))])
  | none=>([],l)
 | [.ob (.fp _)],[.int .u64 a,.int .u64 b,.int .u64 c,.int .u64 d,.int .u64 e,.int .u64 f]=>
  match B3c [.int .u64 a,.int .u64 b,.int .u64 c,.int .u64 d,.int .u64 e,.int .u64 f] with
  | some n=>(B2n [.int .u64 a,.int .u64 b,.int .u64 c,.int .u64 d,.int .u64 e,.int .u64 f],[.ob (.fp (Fin.ofNat B6 n))])
  | none=>([],l)
 | _,l=>([],l)

def B9k:List SV->Option (List (Nat×Nat))
 | []=>some []
 | .v (.c (.ptr p off))::l=>(B9k l).map ((p,off) :: ·)
 | _=>none

def F8p:List SV->Option It
 | [.v (.c (.int k a)),.v (.c (.int _ b))]=>some (.int k (if b<a then b else a))
 | [.v (.c (.int k a)),.v (.c (.int _ b)),.v (.c (.int _ c))]=>some (.int k (if c<(if b<a then b else a) then c else (if b<a then b else a)))
 | _=>none
def F8b:List SV->Option It
 | [.v (.c (.int k a)),.v (.c (.int _ b))]=>some (.int k (if b > a then b else a))
 | _=>none

def F7l:List SV->Option It
 | [.v (.c (.slc _ _ len _))]=>some (.int .i64 len)
 | [.v (.c (.sl q))]=>some (.int .i64 q.n)
 | [.v (.c (.vsl _ q))]=>some (.int .i64 q.n)
 | [.v (.c (.val (.slice none 0 0)))]=>some (.int .i64 0)
 | [.v (.c (.old len))]=>some (.int .i64 len)
 | _=>none

def E1h:List SV->Option Nat
 | [.v (.c (.val (.string s)))]=>some s.size
 | _=>none

/-- So many elements of this size. -/
def D4f (es:Nat):Nat->List It->Option (List (List It))
 | 0,_=>some []
 | n+1,l=>match A2p es l,A1c es l with
  | some a,some b=>(D4f es n b).map (a :: ·)
  | _,_=>none

/-- An array of elements within a block, as a row. -/
def E3y (m:Nat->Option En) (e:Sq) (p off n es:Nat):Option Sq:=
 match m p with
 | some (.fl l)=>match A1c off l with
  | some r=>match D4f es n r with
   | some cs=>if e.es=es then A0f e cs else none
   | none=>none
  | none=>none
 | _=>none

/-- What is appended. -/
def B8w (m:Nat->Option En) (e:Sq):SV->Option (List Prop×Sq)
 | .v (.c (.sl q))=>some ([],q)
 | .v (.c (.val (.slice none 0 0)))=>some ([],e)
 | .v (.c (.slc p off len _))=>match m p with
  | some (.sq q)=>if off=0 then some ([len=q.n],q) else none
  | _=>none
 | .v (.c (.arr p off n es))=>(E3y m e p off n es).map fun q=>([],q)
 | _=>none

def B8v (m:Nat->Option En) (p:Nat) (i:TyI) (e:Sq) (s x:SV):Option Res:=
 match B8w m e x with
 | some (o,q')=>
  match s with
  | .v (.c (.val (.slice none 0 0)))=>
   match e.app q' with
   | some r=>some ⟨(q'.n*i.bytes<=140737488355328)::(q'.n<=maxLen)::o,.v (.c (.slc p 0 q'.n e.es)),[(p,.sq r)],none⟩
   | none=>none
  | .v (.c (.slc p' off len es))=>
   match m p' with
   | some (.sq q)=>
    match q.app q' with
    | some r=>if off=0∧es=q.es∧q.es=e.es then some ⟨((q.n+q'.n)*i.bytes<=140737488355328)::(q.n+q'.n<=maxLen)::(len=q.n)::o,.v (.c (.slc p' 0 (q.n+q'.n) es)),[(p',.sq r)],some p'⟩ else none
    | none=>none
   | _=>none
  | .v (.c (.arr p' off n es))=>
   match E3y m e p' off n es with
   | some q=>
    match q.app q' with
    | some r=>some ⟨((n+q'.n)*i.bytes<=140737488355328)::(n+q'.n<=maxLen)::(0<q'.n)::o,.v (.c (.slc p 0 (n+q'.n) e.es)),[(p,.sq r)],none⟩
    | none=>none
   | none=>none
  | _=>none
 | none=>none

/-- Cells copied from a row to another: elements of one cell each. -/
def B7z (m:Nat->Option En) (e:Sq):List SV->Option (List Prop×Int×List (Nat×En))
 | [.v (.c (.slc p off len es)),x]=>
  match m p with
  | some (.sq q)=>match B8w m e x with
   | some (o,q')=>match q'.app (q.cut q'.n (q.n-q'.n)) with
    | some r=>if off=0∧es=q.es∧q.es=e.es then some ((len=q.n)::(q'.n<=q.n)::o,q'.n,[(p,.sq r)]) else none
    | none=>none
   | none=>none
  | some (.fl l)=>match I0d m x with
   | some (o,.v (.c (.sl (.u64 ns))))=>match A3y off (ns.map fun n=>It.int .u64 n) l with
    | some r=>if es=1∧e.es=1∧ns.length=len then some (o,len,[(p,.fl r)]) else none
    | none=>none
   | _=>none
  | none=>none
 | _=>none

/-- All elements of an own row are made nought. -/
def B1l (m:Nat->Option En) (e:Sq):List SV->Option (List Prop×List (Nat×En))
 | [.v (.c (.slc p off len es))]=>
  match m p with
  | some (.sq q)=>match A8t e q.n with
   | some z=>if off=0∧es=q.es∧q.es=e.es then some ([len=q.n],[(p,.sq z)]) else none
   | none=>none
  | _=>none
 | _=>none

def G6 (m:Nat->Option En):List (Nat×En)->Nat->Option En
 | []=>m
 | (p,e)::l=>G6 (fun q=>if q=p then some e else m q) l

/-- No slice or pointer into memory that is only read. -/
def E1o:Sq->Bool
 | .op _ | .frs _ | .ints _ | .u64s _=>false
 | _=>true
def A2z:It->Bool
 | .sl _ | .vsl _ _ | .rp _ _ _=>false
 | _=>true
def F9n:V1->Bool
 | .c i=>A2z i
 | .a l=>l.all A2z
def E6m:SV->Bool
 | .v a=>F9n a
 | .t l=>l.all F9n
 | .top=>true
def D1q:En->Bool
 | .fl l=>l.all A2z
 | .sq q=>E1o q
def E7:It->Bool
 | .int _ _ | .bool _ | .lit _ | .ob _ | .val _ | .sl _ | .vsl _ _ | .rp _ _ _ | .clo _ [] | .ifc _ _=>true
 | _=>false
def E6w:SV->Bool
 | .v (.c i)=>E7 i
 | .v (.a l)=>l.all E7
 | _=>false

def A1a (env:Env) (m:Nat->Option En) (p:Nat) (f:Nat) (args:List SV):Option Res:=
 match env.fn f with
 | some spec=>
  match B7f m args with
  | some (o,as)=>
   match spec as with
   | some (o',r,es)=>if es.length<=16 && (args.all E6w || (E6m r && es.all D1q)) then some ⟨o++o',I0w p r,F9 p (es.map (F0z p)),none⟩ else none
   | none=>none
  | none=>none
 | none=>
  match env.mu f with
  | some spec=>
   match spec args m with
   | some (o,r,ups)=>some ⟨o,r,ups,none⟩
   | none=>none
  | none=>none

def S9:List It->Option (List Ob)
 | []=>some []
 | .ob o::l=>(S9 l).map (o :: ·)
 | _=>none

def A0m (name:String):List (String×Nat)->Option Nat
 | []=>none
 | (n,g)::l=>if n=name then some g else A0m name l

/-- A method of what stands behind an interface value: a contract's. -/
def D0i (env:Env) (m:Nat->Option En) (p:Nat) (recv:SV) (name:String) (args:List SV):Option Res:=
 match recv with
 | .v (.c (.ifc t os))=>
  match env.inv t with
  | some l=>
   match A0m name l with
   | some g=>
    match env.fn g with
    | some _=>A1a env m p g (.v (.a (os.map .ob))::args)
    | none=>none
   | none=>none
  | none=>none
 | _=>none

/-- A call through a slot: a contract's alone. -/
def B9h (env:Env) (m:Nat->Option En) (p:Nat) (f:Operand) (g:Nat) (args:List SV):Option Res:=
 match f with
 | .func _=>A1a env m p g args
 | _=>match env.fn g with
  | some _=>A1a env m p g args
  | none=>none

/-- Two numbers and a carry: their sum, with what goes beyond; their difference, with what is borrowed. -/
def A6 (k:Nat) (x y c:Int):Int×Int:=
 match k with
 | 0=>((x+y+c) % 18446744073709551616,(x+y+c) / 18446744073709551616)
 | _=>((x-y-c) % 18446744073709551616,if x<y+c then 1 else 0)

/-- A call of a function without a body that is reckoned in place. -/
def C0i (k:Nat) (args:List SV):Option Res:=
 match args with
 | [.v (.c (.int .u64 x)),.v (.c (.int .u64 y)),.v (.c (.int .u64 c))]=>some ⟨[0<=x,0<=y,y<18446744073709551616,0<=c,c<=1],.t [.c (.int .u64 (A6 k x y c).1),.c (.int .u64 (A6 k x y c).2)],[],none⟩
 | _=>none

def pureV (i:It):Option Res:=some ⟨[],.v (.c i),[],none⟩
def B7j (r:Option (List Prop×It)):Option Res:=r.map fun x=>⟨x.1,.v (.c x.2),[],none⟩

/-- One operation: its value, what must hold, and what it makes of the own blocks; new ones stand from p on. -/
def L8 (env:Env) (ρ:Operand->SV) (m:Nat->Option En) (p:Nat) (o:Oper):Option Res:=
  match o.op with
  | .move x=>some ⟨[],ρ x,[],none⟩
  | .assign x=>some ⟨[],ρ x,[],none⟩
  | .pick c a b=>match ρ c with
    | .v (.c (.lit d))=>some ⟨[],if d then ρ a else ρ b,[],none⟩
    | _=>none
  | .alloc t=>match env.ty t with
    | some i=>some ⟨[],.v (.c (.ptr p 0)),[(p,.fl i.zero)],none⟩
    | none=>none
  | .box _ x=>match ρ x with
    | .v v=>some ⟨[],.v (.c (.ptr p 0)),[(p,.fl v.its)],none⟩
    | _=>none
  | .build t parts=>match env.ty t with
    | some i=>
      match (match i.arr with | some (n,e)=>(env.ty e).map fun (ie:TyI)=>some (n,ie.cells) | none=>some none) with
      | some arr=>
        match A0j i.fields arr i.zero (parts.toList.map fun (x:Nat×Operand)=>(x.1,ρ x.2)) with
        | some l=>if i.agg then (match B8y i.zero l with | (ob,l)=>some ⟨ob,.v (.a l),[],none⟩) else none
        | none=>none
      | none=>none
    | none=>none
  | .buildSlice t len parts=>match env.ty t with
    | some i=>match i.slc with
      | some e=>match env.ty e with
        | some ie=>match ie.esq,A2h 0 (parts.toList.map fun (x:Nat×Operand)=>(x.1,ρ x.2)) with
          | some q,some l=>if l.length=len∧len*ie.cells<=16777216∧len<=16777216 then
              match A0f q l with
              | some q=>some ⟨[],.v (.c (.slc p 0 len ie.cells)),[(p,.sq q)],none⟩
              | none=>none
            else none
          | _,_=>none
        | none=>none
      | none=>none
    | none=>none
  | .load t a=>match env.ty t with
    | some i=>match A7s m (ρ a) i with
      | some (o,v)=>some ⟨o,.v v,[],none⟩
      | none=>none
    | none=>none
  | .store t a x=>match env.ty t with
    | some i=>match A6u m (ρ a) (ρ x) i with
      | some (o,ups)=>some ⟨o,.top,ups,none⟩
      | none=>none
    | none=>none
  | .nilCheck x=>match ρ x with
    | .v (.c (.ptr q off))=>pureV (.ptr q off)
    | .v (.c (.ep q es i off))=>pureV (.ep q es i off)
    | .v (.c (.rp q i off))=>pureV (.rp q i off)
    | _=>none
  | .binOp op xt x y _=>B7j (D9q env op xt (ρ x) (ρ y))
  | .unOp op _ x=>match op,ρ x with
    | .not,.v (.c (.lit b))=>pureV (.lit !b)
    | .not,.v (.c (.bool b))=>pureV (.bool !b)
    | .neg,.v (.c (.int k n))=>pureV (.int k (k.wrap (0-n)))
    | _,_=>none
  | .convert src dst x=>match env.ty src,env.ty dst with
    | some j,some i=>match j.slc with
      | none=>match ρ x with
        | .v (.c (.int _ n))=>match i.kind with
          | some k=>pureV (.int k (k.wrap n))
          | none=>none
        | _=>none
      | some e=>match env.ty e with
        | some ie=>match ie.kind with
          | some .u8=>if i.isStr then match B8w m (.u8 []) (ρ x) with
              | some (o,.u8 l)=>some ⟨o,.v (.c (.val (.string (G2r l)))),[],none⟩
              | _=>none
            else none
          | _=>none
        | none=>none
    | _,_=>none
  | .makeInterface t x=>match ρ x with
    | .v (.a l)=>match env.inv t,S9 l with
      | some _,some os=>pureV (.ifc t os)
      | _,_=>none
    | _=>none
  | .makeFunc fn first caps=>match fn,first.size,B9k (caps.toList.map ρ) with
    | .func f,0,some cs=>pureV (.clo f cs)
    | _,_,_=>none
  | .makeSlice t l c=>match env.ty t,ρ l,ρ c with
    | some i,.v (.c (.int _ n)),.v (.c (.int _ n'))=>match i.slc with
      | some e=>match env.ty e with
        | some ie=>match ie.esq with
          | some q=>match A8t q n.toNat with
            | some z=>some ⟨[0<=n,n=n',ie.bytes*n<=281474976710656,n<=9223372036854775807],.v (.c (.slc p 0 n.toNat ie.cells)),[(p,.sq z)],none⟩
            | none=>none
          | none=>none
        | none=>none
      | none=>none
    | _,_,_=>none
  | .slice t x lo hi mx=>match env.ty t,A9z (lo.map ρ),A9z (hi.map ρ),A9z (mx.map ρ) with
    | some i,some none,some (some h),some (some m)=>match i.arr,i.slc,ρ x with
      | none,some e,.v (.c (.sl q))=>match env.ty e with
        | some ie=>if q.es=ie.cells then some ⟨[0<=h,h<=m,m<=q.n],.v (.c (.sl (q.cut 0 h.toNat))),[],none⟩ else none
        | none=>none
      | _,_,_=>none
    | some i,some lo,some hi,some none=>match i.arr,i.slc with
      | some (n,e),none=>match env.ty e with
        | some ie=>B7j (A4b m (ρ x) lo hi (some n) ie.cells)
        | none=>none
      | none,some e=>match env.ty e with
        | some ie=>B7j (A4b m (ρ x) lo hi none ie.cells)
        | none=>none
      | none,none=>match ρ x,lo,hi with
        | .v (.c (.val (.string s))),some l,none=>if i.isStr then some ⟨[0<=l,l<=s.size],.v (.c (.val (.string (F4c s l.toNat)))),[],none⟩ else none
        | _,_,_=>none
      | _,_=>none
    | _,_,_,_=>none
  | .fieldAddr s x f=>match env.ty s with
    | some i=>match i.fields[f]? with
      | some (fo,fs,_)=>if fs=0 then none else match C0v (ρ x) fo with
        | some r=>pureV r
        | none=>none
      | none=>none
    | none=>none
  | .field s x f=>match env.ty s,ρ x with
    | some i,.v (.a l)=>match i.fields[f]? with
      | some (fo,fs,ag)=>if H8 l=i.cells∧fs≠0 then
          match A2t fo fs l with
          | some r=>match mkV ag r with
            | some v=>some ⟨[],.v v,[],none⟩
            | none=>none
          | none=>none
        else none
      | none=>none
    | _,_=>none
  | .indexAddr t x ix=>match env.ty t,D5v (ρ ix) with
    | some i,some (_,n)=>match i.arr,i.slc with
      | some (len,e),none=>match env.ty e with
        | some ie=>B7j (A3p m (ρ x) n (some len) ie.cells)
        | none=>none
      | none,some e=>match env.ty e with
        | some ie=>B7j (A3p m (ρ x) n none ie.cells)
        | none=>none
      | _,_=>none
    | _,_=>none
  | .index t x ix=>match env.ty t,ρ x,D5v (ρ ix) with
    | some i,.v (.a l),some (_,n)=>match i.arr with
      | some (len,e)=>match env.ty e with
        | some ie=>
          match ie.agg,ie.cells,l with
          | false,1,[.ob o]=>if o.k=len then some ⟨[0<=n,n<len],.v (.c (.int .u64 (A0 o.n n.toNat))),[],none⟩ else none
          | ag,es,l=>if H8 l=i.cells∧es≠0 then
              match A2t (n.toNat*es) es l with
              | some r=>match mkV ag r with
                | some v=>some ⟨[0<=n,n<len],.v v,[],none⟩
                | none=>none
              | none=>none
            else none
        | none=>none
      | none=>none
    | some i,.v (.c (.val (.string s))),some (_,n)=>if i.isStr then some ⟨[0<=n,n<s.size],.v (.c (.int .u8 ((s.data.toList.getD n.toNat 0).toNat:Int))),[],none⟩ else none
    | _,_,_=>none
  | .extract x i=>match ρ x with
    | .t l=>match l[i]? with
      | some v=>some ⟨[],.v v,[],none⟩
      | none=>none
    | _=>none
  | .call c=>match c.callee with
    | .invoke recv name=>D0i env m p (ρ recv) name (c.args.toList.map ρ)
    | .value f=>match ρ f with
      | .v (.c (.clo g []))=>match env.ex g with
        | some k=>C0i k (c.args.toList.map ρ)
        | none=>B9h env m p f g (c.args.toList.map ρ)
      | .v (.c (.clo g caps))=>B9h env m p f g (c.args.toList.map ρ++caps.map fun x=>.v (.c (.ptr x.1 x.2)))
      | _=>none
    | .builtin b=>
      match b with
      | .len=>match c.argTypes.toList with
        | [t]=>match env.ty t with
          | some i=>match i.slc,F7l (c.args.toList.map ρ) with
            | some _,some i=>pureV i
            | some _,none=>none
            | none,_=>match E1h (c.args.toList.map ρ) with
              | some n=>if i.isStr then pureV (.int .i64 n) else none
              | none=>none
          | none=>none
        | _=>none
      | .min=>match F8p (c.args.toList.map ρ) with
        | some i=>pureV i
        | none=>none
      | .max=>match F8b (c.args.toList.map ρ) with
        | some i=>pureV i
        | none=>none
      | .append=>match c.argTypes.toList,c.args.toList with
        | [t,t'],[s,x]=>if t=t' then
            match env.ty t with
            | some i=>match i.slc with
              | some e=>match env.ty e with
                | some ie=>match ie.esq with
                  | some q=>B8v m p ie q (ρ s) (ρ x)
                  | none=>none
                | none=>none
              | none=>none
            | none=>none
          else none
        | _,_=>none
      | .copy=>match c.argTypes.toList with
        | [t,_]=>match env.ty t with
          | some i=>match i.slc with
            | some e=>match env.ty e with
              | some ie=>match ie.esq with
                | some q=>match B7z m q (c.args.toList.map ρ) with
                  | some (o,n,ups)=>some ⟨o,.v (.c (.int .i64 n)),ups,none⟩
                  | none=>none
                | none=>none
              | none=>none
            | none=>none
          | none=>none
        | _=>none
      | .clear => match c.argTypes.toList with
        | [t]=>match env.ty t with
          | some i=>match i.slc with
            | some e=>match env.ty e with
              | some ie=>match ie.esq with
                | some q=>match B1l m q (c.args.toList.map ρ) with
                  | some (o,ups)=>some ⟨o,.top,ups,none⟩
                  | none=>none
                | none=>none
              | none=>none
            | none=>none
          | none=>none
        | _=>none
      | _=>none
  | _=>none

end

section

def G2 (p:Nat):It->It
 | .slc q off len es=>if q=p then .old len else .slc q off len es
 | .sv _ _ _ _=>.dead
 | .ptr q off=>if q=p then .dead else .ptr q off
 | .ep q es i off=>if q=p then .dead else .ep q es i off
 | .mp q=>if q=p then .dead else .mp q
 | .arr q off n es=>if q=p then .dead else .arr q off n es
 | .clo f c=>if c.any (fun a=>a.1 == p) then .dead else .clo f c
 | i=>i
def E2t (p:Nat):V1->V1
 | .c i=>.c (G2 p i)
 | .a l=>.a (l.map (G2 p))
def D2x (p:Nat):SV->SV
 | .v v=>.v (E2t p v)
 | .t l=>.t (l.map (E2t p))
 | .top=>.top
def A2o (p:Nat):En->En
 | .fl l=>.fl (l.map (G2 p))
 | .sq q=>.sq q

def A8k (t:Nat->SV):Option Nat->Nat->SV
 | none=>t
 | some p=>fun x=>D2x p (t x)
def S8 (m:Nat->Option En):Option Nat->Nat->Option En
 | none=>m
 | some p=>fun x=>(m x).map (A2o p)

def B2l (fr:List ((Nat->SV)×Nat)):Option Nat->List ((Nat->SV)×Nat)
 | none=>fr
 | some p=>fr.map fun q=>(A8k q.1 (some p),q.2)

def Q8 (t:Nat->SV) (d:Nat) (v:SV):Nat->SV:=fun x=>if x=d then v else t x

/-- Every block that is written is there; every other one is new and stands in its room. -/
def Y4 (al:Nat->Bool) (m:Nat->Option En) (p:Nat):List (Nat×En)->Bool
 | []=>true
 | (q,_)::l=>(match m q with | some _=>al q | none=>Nat.ble p q && Nat.blt q (p+16)) && Y4 al m p l

/-- The slots that tell whether later operations are wanted. -/
def B1n (ops:List Oper):List Oper->List Nat
 | []=>[]
 | o::l=>match o.guard with
  | some (j,_)=>match (ops[j]?).bind (·.dst) with
   | some d=>let r:=B1n ops l;if r.contains d then r else d::r
   | none=>B1n ops l
  | none=>B1n ops l

def C5r:List Nat->List Bool->Option (List (Nat×Bool)×List Bool)
 | [],p=>some ([],p)
 | _::_,[]=>none
 | d::l,b::p=>match C5r l p with
  | some (r,p)=>some ((d,b)::r,p)
  | none=>none

def E6e (d:Nat):List (Nat×Bool)->Option Bool
 | []=>none
 | (e,b)::l=>if e=d then some b else E6e d l

/-- A slot's value, decided where it is to be. -/
def A1b (dec:List (Nat×Bool)) (d:Nat) (v:SV):List Prop×SV:=
 match v with
 | .v (.c (.bool b))=>match E6e d dec with
  | some x=>([b=x],.v (.c (.lit x)))
  | none=>([],.v (.c (.bool b)))
 | v=>([],v)

/-- Position 0 is never given up: it may be a caller's. -/
def A9l:Option Nat->Bool
 | some 0=>false
 | _=>true

/-- One operation on the state. -/
def F0b (env:Env) (al:Nat->Bool) (dec:List (Nat×Bool)) (p:Nat) (o:Oper) (σ:St):Option (List Prop×St):=
 match L8 env σ.ev (fun q=>if al q then σ.m q else none) p o with
 | none=>none
 | some r=>
  if A9l r.kill && Y4 al σ.m p r.ups then
   match o.dst with
   | none=>some (r.obl,{ σ with t:=A8k σ.t r.kill,m:=G6 (S8 σ.m r.kill) r.ups,fr:=B2l σ.fr r.kill })
   | some d=>if d<σ.nt then
     match A1b dec d r.val with
     | (o',v)=>some (o' ++ r.obl,{ σ with t:=Q8 (A8k σ.t r.kill) d v,m:=G6 (S8 σ.m r.kill) r.ups,fr:=B2l σ.fr r.kill })
    else none
  else none

/-- Is an operation wanted? A slot that was left out holds no bool: what asks it is not wanted. -/
def D0d (ops:List Oper) (o:Oper) (t:Nat->SV):Option Bool:=
 match o.guard with
 | none=>some true
 | some (j,want)=>match (ops[j]?).bind (·.dst) with
  | none=>none
  | some d=>match t d with
   | .v (.c (.lit b))=>some (b == want)
   | .t []=>some false
   | _=>none

/-- One operation of a region, if it is wanted. -/
def A4n (env:Env) (al:Nat->Bool) (dec:List (Nat×Bool)) (ops:List Oper) (p:Nat) (o:Oper) (σ:St):Option (List Prop×St):=
 match D0d ops o σ.t with
 | some true=>F0b env al dec p o σ
 | some false=>(match o.dst with
  | some e=>if e<σ.nt then some ([],{ σ with t:=Q8 σ.t e (.t []) }) else none
  | none=>some ([],σ))
 | none=>none

/-! Regions whose order is open. -/
def A7a (acc:List Nat):List Edge->Nat
 | []=>0
 | e::l=>if Region.binds .any e then 2 ^ e.on ||| acc.getD e.on 0 ||| A7a acc l else A7a acc l

def A5f (acc:List Nat) (o:Oper):Nat:=A7a acc o.after.toList

def C8m:List Oper->List Nat->List Nat
 | [],acc=>acc
 | o::l,acc=>C8m l (acc++[A5f acc o])

/-- 0: no memory · 1: reads · 2: makes · 3: writes · 4: anything · 5: reads and makes · 6: makes one row longer. -/
def F7 (env:Env) (o:Oper):Nat:=
 match o.op with
 | .move _ | .assign _ | .pick _ _ _ | .build _ _ | .fieldAddr _ _ _ | .field _ _ _ | .extract _ _ | .unOp _ _ _ | .binOp _ _ _ _ _ | .index _ _ _ | .nilCheck _ | .makeFunc _ _ _ | .makeInterface _ _=>0
 | .convert src _ _=>match env.ty src with
  | some j=>match j.slc with
   | some _=>1
   | none=>0
  | none=>0
 | .load _ _ | .indexAddr _ _ _ | .slice _ _ _ _ _=>1
 | .alloc _ | .box _ _ | .buildSlice _ _ _ | .makeSlice _ _ _=>2
 | .store _ _ _=>3
 | .call c=>match c.callee with
  | .builtin .len | .builtin .min | .builtin .max=>0
  | .builtin .append=>6
  | .value (.func f)=>match env.ex f with
   | some _=>0
   | none=>match env.fn f with
    | some _=>5
    | none=>4
  | .value _=>5
  | .invoke _ _=>5
  | _=>4
 | _=>4

def F3i (a b:Nat):Bool:=
 match a,b with
 | 4,_=>true
 | _,4=>true
 | 3,1=>true
 | 1,3=>true
 | 3,3=>true
 | 3,5=>true
 | 5,3=>true
 | _,_=>false

/-- What an operation looks into at most: own blocks that are listed, or any. -/
def B2r (p:Nat):List Nat->Bool
 | []=>false
 | q::l=>if q=p then true else B2r p l
def A5u:Option (List Nat)->Nat->Bool
 | none,_=>true
 | some l,q=>B2r q l
def C8n:Option (List Nat)->Option (List Nat)->Bool
 | some a,some b=>a.all fun p=>!(B2r p b)
 | _,_=>false
def F5f:It->Option (List Nat)
 | .ptr p _=>some [p]
 | .ep p _ _ _=>some [p]
 | .slc p _ _ _=>some [p]
 | .sv p _ _ _=>some [p]
 | .arr p _ _ _=>some [p]
 | .sl _ | .vsl _ _ | .rp _ _ _ | .int _ _ | .bool _ | .lit _ | .ob _ | .ifc _ _ | .val _=>some []
 | .clo _ caps=>some (caps.map (·.1))
 | _=>none
def F5g:Option (List Nat)->Option (List Nat)->Option (List Nat)
 | some a,some b=>some (a++b)
 | _,_=>none
def E5j:List It->Option (List Nat)
 | []=>some []
 | i::l=>F5g (F5f i) (E5j l)
def A9d:SV->Option (List Nat)
 | .v (.c i)=>F5f i
 | .v (.a l)=>E5j l
 | _=>none
def B8c:List SV->Option (List Nat)
 | []=>some []
 | a::l=>F5g (A9d a) (B8c l)
def H5p (ρ:Operand->SV) (o:Oper):Option (List Nat):=
 match o.op with
 | .load _ a=>A9d (ρ a)
 | .store _ a _=>A9d (ρ a)
 | .indexAddr _ x _=>A9d (ρ x)
 | .slice _ x _ _ _=>A9d (ρ x)
 | .convert _ _ x=>A9d (ρ x)
 | .call c=>match c.callee with
  | .value f=>F5g (A9d (ρ f)) (B8c (c.args.toList.map ρ))
  | .builtin .append=>B8c (c.args.toList.map ρ)
  | .invoke r _=>B8c (ρ r::c.args.toList.map ρ)
  | _=>none
 | _=>none

/-- A row that is made longer, and another operation. -/
def C8z (_:Nat) (_ _:Option (List Nat)):Bool:=true
def B9q (a b:Nat) (fx fo:Option (List Nat)):Bool:=
 Nat.beq a 4 || Nat.beq b 4 || (if Nat.beq a 6 then C8z b fx fo else if Nat.beq b 6 then C8z a fx fo else F3i a b && !(C8n fx fo))

def S3 (env:Env) (ops:Array Oper) (fx fo:Option (List Nat)) (x y:Oper):Bool:=!(x.apart ops y) || B9q (F7 env x) (F7 env y) fx fo

def B5i (env:Env) (ops:Array Oper) (ft:List (Option (List Nat))) (fo:Option (List Nat)) (o:Oper) (anc:Nat):List Oper->Nat->Bool
 | [],_=>true
 | x::l,k=>(anc.testBit k || !(S3 env ops (ft.getD k none) fo x o)) && B5i env ops ft fo o anc l (k+1)

def W5 (i:Nat) (o:Oper):Bool:=o.after.toList.all fun e=>!(Region.binds .any e) || Nat.blt e.on i

def A9b (env:Env) (ops:Array Oper) (anc:List Nat) (ft:List (Option (List Nat))):List Oper->Nat->Bool
 | [],_=>true
 | o::l,i=>W5 i o && Nat.beq (anc.getD i 0) (A5f anc o) && B5i env ops ft (ft.getD i none) o (anc.getD i 0) (ops.toList.take i) 0 && A9b env ops anc ft l (i+1)

/-- What an operation of such a region may look at: what was there, and what its own forerunners made. -/
def E7s (lo anc p:Nat) (q:Nat):Bool:=Nat.blt q p && (Nat.blt q lo || anc.testBit ((q-lo) / 16))

def alF (lo anc p:Nat) (f:Option (List Nat)) (q:Nat):Bool:=E7s lo anc p q && A5u f q

/-- What the operations look into, run one by one. -/
def E5g (env:Env) (dec:List (Nat×Bool)) (ops:List Oper) (anc:List Nat) (lo:Nat):List (Nat×Oper)->St->List (Option (List Nat))
 | [],_=>[]
 | (i,o)::l,σ=>H5p σ.ev o::(match A4n env (E7s lo (anc.getD i 0) (lo+16*i)) dec ops (lo+16*i) o σ with
  | some (_,σ)=>E5g env dec ops anc lo l σ
  | none=>[])

/-- Whole, and of none of these blocks. -/
def H8g (ks:List Nat):It->Bool
 | .slc p _ _ _=>!(B2r p ks)
 | .ptr p _=>!(B2r p ks)
 | .ep p _ _ _=>!(B2r p ks)
 | .mp p=>!(B2r p ks)
 | .arr p _ _ _=>!(B2r p ks)
 | .clo _ c=>c.all fun a=>!(B2r a.1 ks)
 | .sv _ _ _ _ | .dead | .old _=>false
 | _=>true
def okV (ks:List Nat):V1->Bool
 | .c i=>H8g ks i
 | .a l=>l.all (H8g ks)
def I6j (ks:List Nat):SV->Bool
 | .v v=>okV ks v
 | .t l=>l.all (okV ks)
 | .top=>true
def I6i (ks:List Nat):En->Bool
 | .fl l=>l.all (H8g ks)
 | .sq _=>true
def E7m (al:Nat->Bool) (m:Nat->Option En):Nat->Option En:=fun q=>if al q then m q else none
/-- What goes over from slot to slot, or tells a length alone. -/
def H3p (o:Oper):Bool:=
 match o.op with
 | .move _ | .assign _=>true
 | .call c=>match c.callee with
  | .builtin .len=>true
  | _=>false
 | _=>false
/-- What an operation looks at and makes hangs on none of these blocks. -/
def B9s (env:Env) (ks:List Nat) (al:Nat->Bool) (ft:Option (List Nat)) (p:Nat) (o:Oper) (σ:St):Bool:=
 H3p o || (o.op.operands.toList.all (fun x=>I6j ks (σ.ev x)) &&
  (match F7 env o,ft with
   | 1,some l=>l.all fun q=>!(al q) || (match σ.m q with | some e=>I6i ks e | none=>true)
   | 1,none=>false
   | _,_=>true) &&
  (match L8 env σ.ev (E7m al σ.m) p o with
   | some r=>I6j ks r.val && r.ups.all fun x=>I6i ks x.2
   | none=>true))
def I5h (i q:Nat):List (Nat×Nat)->Bool
 | []=>false
 | (j,r)::l=>if j=i∧r=q then true else I5h i q l
/-- The rows that may be made longer by operations that are not ordered with this one. -/
def G8c (anc:List Nat) (i:Nat):List (Nat×Nat)->List Nat
 | []=>[]
 | (j,q)::l=>if (if j<i then (anc.getD i 0).testBit j else (anc.getD j 0).testBit i) then G8c anc i l else q::G8c anc i l
def B0y (env:Env) (anc:List Nat) (kl:List (Nat×Nat)) (i:Nat) (al:Nat->Bool) (ft:Option (List Nat)) (p:Nat) (o:Oper) (σ:St):Bool:=
 if Nat.beq (F7 env o) 6 then
  match L8 env σ.ev (E7m al σ.m) p o with
  | some r=>match r.kill with
   | some q=>I5h i q kl
   | none=>true
  | none=>true
 else (G8c anc i kl).isEmpty || Nat.ble 3 (F7 env o) || B9s env (G8c anc i kl) al ft p o σ

def T9 (env:Env) (dec:List (Nat×Bool)) (ops:List Oper) (anc:List Nat) (ft:List (Option (List Nat))) (kl:List (Nat×Nat)) (lo:Nat):List (Nat×Oper)->St->Option (List Prop×St)
 | [],σ=>some ([],σ)
 | (i,o)::l,σ =>
  if B0y env anc kl i (alF lo (anc.getD i 0) (lo+16*i) (ft.getD i none)) (ft.getD i none) (lo+16*i) o σ then
   match A4n env (alF lo (anc.getD i 0) (lo+16*i) (ft.getD i none)) dec ops (lo+16*i) o σ with
   | some (ob,σ)=>match T9 env dec ops anc ft kl lo l σ with
    | some (ob',σ)=>some (ob++ob',σ)
    | none=>none
   | none=>none
  else none

/-- The rows that are made longer, with the operations that do so. -/
def A5y (env:Env) (dec:List (Nat×Bool)) (ops:List Oper) (anc:List Nat) (lo:Nat):List (Nat×Oper)->St->List (Nat×Nat)
 | [],_=>[]
 | (i,o)::l,σ =>
  match A4n env (E7s lo (anc.getD i 0) (lo+16*i)) dec ops (lo+16*i) o σ with
  | some (_,σ')=>
   if Nat.beq (F7 env o) 6 then
    match L8 env σ.ev (E7m (E7s lo (anc.getD i 0) (lo+16*i)) σ.m) (lo+16*i) o with
    | some r=>match r.kill with
     | some q=>(i,q)::A5y env dec ops anc lo l σ'
     | none=>A5y env dec ops anc lo l σ'
    | none=>A5y env dec ops anc lo l σ'
   else A5y env dec ops anc lo l σ'
  | none=>[]
def I3s (env:Env) (ops:List Oper):Bool:=ops.any fun o=>Nat.beq (F7 env o) 6

def U8:Nat->List Oper->List (Nat×Oper)
 | _,[]=>[]
 | i,o::l=>(i,o)::U8 (i+1) l

def G6n (env:Env) (dec:List (Nat×Bool)) (ops:Array Oper) (anc:List Nat) (σ:St):List (Option (List Nat)):=
 if !(I3s env ops.toList) && A9b env ops anc [] ops.toList 0 then [] else E5g env dec ops.toList anc σ.nx (U8 0 ops.toList) σ
def D6c (env:Env) (dec:List (Nat×Bool)) (ops:Array Oper) (anc:List Nat) (σ:St):List (Nat×Nat):=
 if I3s env ops.toList then A5y env dec ops.toList anc σ.nx (U8 0 ops.toList) σ else []

/-! Code. -/
def B3z:List SV->Nat->SV
 | [],_=>.top
 | a::_,0=>a
 | _::l,n+1=>B3z l n

/-- The state in which a function begins. -/
def D7 (nt:Nat) (args:List SV):St:=⟨B3z args,fun _=>none,nt,16,[]⟩

/-- What a function tells at its end. -/
def A8p (env:Env) (σ:St):List ResultVar->Option (List Prop×List V1)
 | []=>some ([],[])
 | .tmp t::l=>match σ.t t,A8p env σ l with
  | .v v,some (o,r)=>some (o,v::r)
  | _,_=>none
 | .cell a t::l=>match env.ty t with
  | some i=>match A7s σ.m (σ.t a) i,A8p env σ l with
   | some (o,v),some (o',r)=>some (o++o',v::r)
   | _,_=>none
  | none=>none

def C8c:List V1->SV
 | [v]=>.v v
 | l=>.t l

/-- A call that is stepped into. -/
def D5t (env:Env) (σ:St) (o:Oper):Option (Func×Code×List SV):=
 match o.op with
 | .call c=>match c.callee with
  | .value f=>match σ.ev f with
   | .v (.c (.clo g caps))=>match env.fn g,env.mu g,env.inl g with
    | none,none,some fn=>match fn.body with
     | some b=>some (fn,b,c.args.toList.map σ.ev++caps.map fun x=>.v (.c (.ptr x.1 x.2)))
     | none=>none
    | _,_,_=>none
   | _=>none
  | _=>none
 | _=>none

def D5w:Option Bool->Bool
 | some b=>b
 | none=>false

/-- Back from a call that was stepped into. -/
def C9v (env:Env) (σ:St) (fn:Func) (dst:Option Nat) (dec:List (Nat×Bool)):Option (List Prop×St):=
 match A8p env σ fn.results.toList,σ.fr with
 | some (ob,r),(tS,ntS)::fr=>
  match dst with
  | none=>some (ob,{ t:=tS,m:=σ.m,nt:=ntS,nx:=σ.nx,fr:=fr })
  | some d=>if d<ntS then
    match A1b dec d (C8c r) with
    | (o',v)=>some (o' ++ ob,{ t:=Q8 tS d v,m:=σ.m,nt:=ntS,nx:=σ.nx,fr:=fr })
   else none
 | _,_=>none

inductive KI where
 | code (c:Code)
 | blk (id:Nat)
 | lp (c:Code)
 | ops (l:Array Oper) (i:Nat) (dec:List (Nat×Bool))
 | any (l:Array Oper) (c:Nat) (rem:List (Nat×Oper))
 | fr (fn:Func) (dst:Option Nat) (dec:List (Nat×Bool))

structure Cfg where
 k:List KI
 x:Exit
 σ:St

structure Out where
 obl:List Prop
 path:List Bool
 cfg:Cfg

/-- A call that is stepped into, by its name. -/
def H3k (env:Env) (o:Oper):Bool:=
 match o.op with
 | .call c=>match c.callee with
  | .value (.func g)=>match env.fn g,env.mu g,env.inl g,env.ex g with
   | none,none,some _,none=>true
   | _,_,_,_=>false
  | _=>false
 | _=>false
def F2r (env:Env):List Oper->Nat->Option Nat
 | [],_=>none
 | o::l,i=>if H3k env o then some i else F2r env l (i+1)
/-- A call of what a slot holds that is not looked into: a yield. -/
def H7p (σ:St) (t:Nat) (p:Oper):Bool:=
 match p.dst,p.op with
 | some d,.move (.tmp s)=>if Nat.beq d t then match σ.t s with
  | .v (.c (.val _))=>true
  | _=>false else false
 | _,_=>false
def E7n (σ:St) (ops:List Oper):List Oper->Nat->Option Nat
 | [],_=>none
 | o::l,i=>match o.op with
  | .call c=>match c.callee with
   | .value (.tmp t)=>if ops.any (H7p σ t) then some i else E7n σ ops l (i+1)
   | _=>E7n σ ops l (i+1)
  | _=>E7n σ ops l (i+1)
def I1a (env:Env) (σ:St) (ops:List Oper):Option Nat:=
 match F2r env ops 0 with
 | some c=>some c
 | none=>E7n σ ops ops 0
/-- From a place on all stands in order, behind all that is ahead. -/
def D3f (anc:List Nat) (n c:Nat):Bool:=Nat.ble c n && (List.range n).all fun i=>Nat.blt i c || (List.range i).all fun j=>(anc.getD i 0).testBit j

def D8k (env:Env) (unroll:Bool) (k:List KI) (σ:St) (path:List Bool) (c:Code):Option Out:=
 match c with
 | .skip=>some ⟨[],path,⟨k,.normal,σ⟩⟩
 | .seq a b=>some ⟨[],path,⟨.code a :: .code b::k,.normal,σ⟩⟩
 | .block id c=>some ⟨[],path,⟨.code c :: .blk id::k,.normal,σ⟩⟩
 | .loop c=>if unroll then some ⟨[],path,⟨.code c :: .lp c::k,.normal,σ⟩⟩ else none
 | .exit id=>some ⟨[],path,⟨k,.exit id,σ⟩⟩
 | .ret=>some ⟨[],path,⟨k,.ret,σ⟩⟩
 | .cond o a b=>match σ.ev o with
  | .v (.c (.lit d))=>some ⟨[],path,⟨.code (if d then a else b)::k,.normal,σ⟩⟩
  | .v (.c (.bool b'))=>match path with
   | d::path=>some ⟨[b' = d],path,⟨.code (if d then a else b)::k,.normal,σ⟩⟩
   | []=>none
  | _=>none
 | .region _ ops draw=>
  match C5r (B1n ops.toList ops.toList) path with
  | none=>none
  | some (dec,path)=>
   if draw then
    let anc:=C8m ops.toList []
    let ft:=G6n env dec ops anc σ
    if A9b env ops anc ft ops.toList 0 then
     match I1a env σ ops.toList with
     | none=>match T9 env dec ops.toList anc ft (D6c env dec ops anc σ) σ.nx (U8 0 ops.toList) σ with
      | some (ob,σ')=>some ⟨ob,path,⟨k,.normal,{ σ' with nx:=σ.nx+16*ops.size }⟩⟩
      | none=>none
     | some c=>if D3f anc ops.size c then
       match T9 env dec ops.toList anc ft (D6c env dec ops anc σ) σ.nx (U8 0 (ops.toList.take c)) σ with
       | some (ob,σ')=>some ⟨ob,path,⟨.ops ops c dec::k,.normal,{ σ' with nx:=σ.nx+16*ops.size }⟩⟩
       | none=>none
      else none
    else none
   else some ⟨[],path,⟨.ops ops 0 dec::k,.normal,σ⟩⟩
 | _=>none

/-- No two of these that are not ordered get into each other's way; one place is left out. -/
def B3d (env:Env) (ops:Array Oper) (ex:Nat) (o:Oper) (anc:Nat):List Oper->Nat->Bool
 | [],_=>true
 | x::l,k=>(Nat.beq k ex || anc.testBit k || !(S3 env ops none none x o)) && B3d env ops ex o anc l (k+1)
def B1s (env:Env) (ops:Array Oper) (anc:List Nat) (ex:Nat):List Oper->Nat->Bool
 | [],_=>true
 | o::l,i=>W5 i o && Nat.beq (anc.getD i 0) (A5f anc o) && (Nat.beq i ex || B3d env ops ex o (anc.getD i 0) (ops.toList.take i) 0) && B1s env ops anc ex l (i+1)
def A6o (n:Nat):List (Nat×Oper)->Nat
 | []=>n
 | q::_=>q.1
/-- Those ahead of the next call that is stepped into, and those behind it. -/
def B4h (env:Env):List (Nat×Oper)->List (Nat×Oper)×List (Nat×Oper)
 | []=>([],[])
 | q::l=>if H3k env q.2 then ([],q::l) else match B4h env l with
  | (a,b)=>(q::a,b)

def step (env:Env) (unroll:Bool) (c:Cfg) (path:List Bool):Option Out:=
 match c.x,c.k with
 | .normal,.code c' :: k=>D8k env unroll k c.σ path c'
 | .normal,.blk _::k=>some ⟨[],path,⟨k,.normal,c.σ⟩⟩
 | .normal,.lp c' :: k=>if unroll then some ⟨[],path,⟨.code c' :: .lp c' :: k,.normal,c.σ⟩⟩ else none
 | .normal,.ops ops i dec::k=>
  match ops[i]? with
  | some o=>
   match D5t env c.σ o,D5w (D0d ops.toList o c.σ.t) with
   | some (fn,b,args),true=>
    if Nat.ble args.length fn.ntmps then
     some ⟨[],path,⟨.code b :: .fr fn o.dst dec :: .ops ops (i+1) dec::k,.normal,{ t:=B3z args,m:=c.σ.m,nt:=fn.ntmps,nx:=c.σ.nx,fr:=(c.σ.t,c.σ.nt)::c.σ.fr }⟩⟩
    else none
   | _,_=>
    match A4n env (fun q=>Nat.blt q c.σ.nx) dec ops.toList c.σ.nx o c.σ with
    | some (ob,σ)=>some ⟨ob,path,⟨.ops ops (i+1) dec::k,.normal,{ σ with nx:=c.σ.nx+16 }⟩⟩
    | none=>none
  | none=>some ⟨[],path,⟨k,.normal,c.σ⟩⟩
 | .normal,.any ops ex rem::k=>
  let anc:=C8m ops.toList []
  match B4h env rem with
  | (pre,post)=>
   if B1s env ops anc ex ops.toList 0 && (D3f anc ops.size (A6o ops.size post) && (Nat.blt ex (A6o ops.size post) && (pre.all fun q=>Nat.blt q.1 (A6o ops.size post) && !(Nat.beq q.1 ex)) && Nat.beq post.length (ops.size-A6o ops.size post))) then
    match T9 env [] ops.toList anc [] [] c.σ.nx pre c.σ with
    | some (ob,σ')=>some ⟨ob,path,⟨.ops ops (A6o ops.size post) []::k,.normal,{ σ' with nx:=c.σ.nx+16*ops.size }⟩⟩
    | none=>none
   else none
 | .normal,.fr fn dst dec::k=>match C9v env c.σ fn dst dec with
  | some (ob,σ)=>some ⟨ob,path,⟨k,.normal,σ⟩⟩
  | none=>none
 | .ret,.fr fn dst dec::k=>match C9v env c.σ fn dst dec with
  | some (ob,σ)=>some ⟨ob,path,⟨k,.normal,σ⟩⟩
  | none=>none
 | .exit id,.blk id' :: k=>if id' = id then some ⟨[],path,⟨k,.normal,c.σ⟩⟩ else some ⟨[],path,⟨k,.exit id,c.σ⟩⟩
 | .exit id,.code _::k=>some ⟨[],path,⟨k,.exit id,c.σ⟩⟩
 | .exit id,.lp _::k=>some ⟨[],path,⟨k,.exit id,c.σ⟩⟩
 | .ret,.code _::k=>some ⟨[],path,⟨k,.ret,c.σ⟩⟩
 | .ret,.blk _::k=>some ⟨[],path,⟨k,.ret,c.σ⟩⟩
 | .ret,.lp _::k=>some ⟨[],path,⟨k,.ret,c.σ⟩⟩
 | _,_=>none

/-- So many steps at most; it stops where no step is known. -/
def run (env:Env) (unroll:Bool):Nat->Cfg->List Bool->Out
 | 0,c,path=>⟨[],path,c⟩
 | n+1,c,path=>match step env unroll c path with
  | none=>⟨[],path,c⟩
  | some r=>match run env unroll n r.cfg r.path with
   | ⟨ob,path,c⟩=>⟨r.obl++ob,path,c⟩

/-- A function without loops, on its arguments. -/
def I4j (env:Env) (fn:Func) (n:Nat) (args:List SV) (path:List Bool):Option (List Prop×List Bool×SV×St):=
 match fn.body with
 | some c=>match run env true n ⟨[.code c],.normal,D7 fn.ntmps args⟩ path with
  | ⟨ob,path,⟨[],.ret,σ⟩⟩=>match A8p env σ fn.results.toList with
   | some (o,r)=>some (ob++o,path,C8c r,σ)
   | none=>none
  | _=>none
 | none=>none

end

section

theorem A0k {D:It->List Value->Prop}:∀{l l' : List It} {cs cs' : List Value},C4 D l cs->C4 D l' cs' -> C4 D (l++l') (cs++cs')
 | [],_,cs,cs',h,h' => by simp only[C4] at h;subst h;simpa using h'
 | i::l,_,_,cs',⟨c1,c2,e,h1,h2⟩,h' => ⟨c1,c2++cs',by rw[e,List.append_assoc],h1,A0k h2 h'⟩

section
variable {x:Ctx} {d:Nat}

theorem A2q:∀{n:Nat} {l r:List It} {cs:List Value},A2p n l=some r->C4 (den x d) l cs->C4 (den x d) r (cs.take n)∧H8 r=n
 | 0,l,r,cs,h,_=>by simp [A2p] at h;subst h;exact ⟨by simp [C4],rfl⟩
 | n+1,[],r,cs,h,_=>by simp [A2p] at h
 | n+1,i::l,r,cs,h,hc=>by
  obtain ⟨c1,c2,rfl,h1,h2⟩:=hc;simp only[A2p] at h;split at h
  ·rename_i hle
   simp only[Option.map_eq_some_iff] at h;obtain ⟨r',hr,rfl⟩:=h;have:=A2q hr h2
   have hl:=B8a h1;refine ⟨⟨c1,c2.take (n+1-i.size),?_,h1,this.1⟩,?_⟩
   ·rw[List.take_append,hl,List.take_of_length_le (by omega)]
   ·simp only[H8,this.2];omega
  ·cases h
termination_by _ l=>l.length

theorem V4:∀{n:Nat} {l r:List It} {cs:List Value},A1c n l=some r->C4 (den x d) l cs->C4 (den x d) r (cs.drop n)∧n<=cs.length
 | 0,l,r,cs,h,hc=>by simp [A1c] at h;subst h;exact ⟨by simpa using hc,Nat.zero_le _⟩
 | n+1,[],r,cs,h,_=>by simp [A1c] at h
 | n+1,i::l,r,cs,h,hc=>by
  obtain ⟨c1,c2,rfl,h1,h2⟩:=hc;simp only[A1c] at h;split at h
  ·rename_i hle
   have hl:=B8a h1;have:=V4 h h2
   refine ⟨?_,?_⟩
   ·rw[List.drop_append,hl,List.drop_of_length_le (by omega)]
    simpa using this.1
   ·simp only[List.length_append,hl];omega
  ·cases h
termination_by _ l=>l.length

theorem A8y {off n:Nat} {l r:List It} {cs:List Value} (h:B9v off n l=some r) (hc:C4 (den x d) l cs) :
  C4 (den x d) r ((cs.drop off).take n)∧H8 r=n:=by
 unfold B9v at h;split at h
 ·rename_i r' hr;exact A2q h (V4 hr hc).1
 ·cases h

theorem C5x (f:Nat->Int) (k:IntKind):∀(l:List Nat),C4 (den x d) (l.map fun i=>It.int k (f i)) (l.map fun i=>Value.int k (f i))
 | []=>by simp [C4]
 | a::l=>⟨[.int k (f a)],l.map fun i=>Value.int k (f i),rfl,by cases d<;>simp [den],C5x f k l⟩

theorem E1q (o:Ob):C4 (den x d) (F9u o) o.cells:=C5x (A0 o.n) .u64 _

theorem A2f:∀{l:List It} {cs:List Value},C4 (den x d) l cs->C4 (den x d) (A7i l) cs
 | [],_,h=>h
 | i::l,cs,⟨c1,c2,e,h1,h2⟩=>by
  have h2' := A2f h2
  cases i
  case ob o=>
   have hc:c1=o.cells:=by cases d<;>simpa [den] using h1
   subst hc;rw[e];exact A0k (E1q o) h2'
  all_goals exact ⟨c1,c2,e,h1,h2'⟩

theorem Y6 {off n:Nat} {l r:List It} {cs:List Value} (h:A2t off n l=some r) (hc:C4 (den x d) l cs) :
  C4 (den x d) r ((cs.drop off).take n)∧H8 r=n:=by
 unfold A2t at h;split at h
 ·rename_i r' hr;cases h;exact A8y hr hc
 ·exact A8y h (A2f hc)

theorem B3g {off:Nat} {new l r:List It} {cs cn:List Value} (h:B3f off new l=some r) (hn:C4 (den x d) new cn) (hc:C4 (den x d) l cs) :
  C4 (den x d) r (cs.take off++cn++cs.drop (off+cn.length))∧off+cn.length<=cs.length:=by
 unfold B3f at h;split at h
 ·rename_i a b ha hb
  cases h
  have hl:=N5 hn;rw[<-hl] at hb;exact ⟨A0k (A0k (A2q ha hc).1 hn) (V4 hb hc).1,(V4 hb hc).2⟩
 ·cases h

theorem A1j {off:Nat} {new l r:List It} {cs cn:List Value} (h:A3y off new l=some r) (hn:C4 (den x d) new cn) (hc:C4 (den x d) l cs) :
  C4 (den x d) r (cs.take off++cn++cs.drop (off+cn.length))∧off+cn.length<=cs.length:=by
 unfold A3y at h;split at h
 ·rename_i r' hr;cases h;exact B3g hr hn hc
 ·exact B3g h hn (A2f hc)

theorem E4k:∀{d:Nat} {i:It} {vs:List Value},den x d i vs->∀v∈vs,v.oneCell' = true:=by
 intro d i vs h v hv
 cases i<;>cases d<;>simp only[den] at h
 case vsl.succ=>
  obtain ⟨_,⟨_,_,rfl,_⟩ | ⟨_,_,_,rfl,_⟩⟩:=h<;>(simp only[List.mem_singleton] at hv;subst hv;rfl)
 all_goals first
  | (subst h;simp only[List.mem_singleton] at hv;subst hv;rfl)
  | (subst h;simp only[Ob.cells,List.mem_map] at hv;obtain ⟨_,_,rfl⟩:=hv;rfl)
  | (obtain ⟨h1,rfl⟩:=h;simp only[List.mem_singleton] at hv;subst hv;rfl)
  | (obtain ⟨rfl,h1⟩:=h;simp only[List.mem_singleton] at hv;subst hv;exact h1)
  | (obtain ⟨u,rfl,h1⟩:=h;simp only[List.mem_singleton] at hv;subst hv;exact h1)
  | (rcases h with ⟨_,_,_,rfl⟩ | ⟨_,_,_,_,rfl,_⟩<;>(simp only[List.mem_singleton] at hv;subst hv;rfl))
  | (rcases h with ⟨_,_,_,rfl⟩ | ⟨_,_,rfl,_⟩<;>(simp only[List.mem_singleton] at hv;subst hv;rfl))
  | (rcases h with ⟨_,_,rfl,_⟩ | ⟨_,_,_,rfl,_⟩<;>(simp only[List.mem_singleton] at hv;subst hv;rfl))
  | (obtain ⟨_,_,_,rfl,_⟩:=h;simp only[List.mem_singleton] at hv;subst hv;rfl)
  | exact h.elim

theorem A5k:∀{l:List It} {cs:List Value},C4 (den x d) l cs->∀v∈cs,v.oneCell' = true
 | [],_,h,v,hv=>by simp only[C4] at h;subst h;cases hv
 | _::_,_,⟨_,_,e,h1,h2⟩,v,hv=>by
  subst e;rcases List.mem_append.1 hv with h | h
  ·exact E4k h1 v h
  ·exact A5k h2 v h
end

/-- A value out of its cells. -/
def K9 (agg:Bool) (cs:List Value):Value:=if agg then .agg cs.toArray else cs.headD undef

theorem D1e {x:Ctx} {agg:Bool} {r:List It} {v:V1} {cs:List Value} (h:mkV agg r=some v) (hc:C4 x.D r cs) (h1:agg=false->H8 r=1):A2u x v (K9 agg cs)∧v.its=r:=by
 unfold mkV at h;split at h
 ·cases h;exact ⟨⟨cs,by simp [K9],hc⟩,rfl⟩
 ·rename_i i
  cases h
  obtain ⟨c1,c2,rfl,h2,h3⟩:=hc;simp only[C4] at h3;subst h3;have hs:i.size=1:=by simpa [H8] using h1 rfl
  have hl:=A0h h2;rw[hs] at hl;match c1,hl with
  | [u],_=>exact ⟨⟨hs,by simpa [K9] using h2⟩,rfl⟩
 ·cases h

theorem A4h {x:Ctx} {v:V1} {u:Value} (h:A2u x v u):∃cs,u.cells=cs.toArray∧C4 x.D v.its cs:=by
 cases v with
 | c i=>
  refine ⟨[u],?_,[u],[],rfl,h.2,rfl⟩
  obtain ⟨_,d,h2⟩:=h;have:=E4k h2 u (by simp)
  cases u<;>first | rfl | simp [Value.oneCell'] at this
 | a l=>obtain ⟨cs,rfl,hc⟩:=h;exact ⟨cs,rfl,hc⟩

/-! Types. -/
def H2c (s:ByteArray):Bool:=s.data.toList.isEmpty
theorem E7i {s:ByteArray} (h:H2c s=true):s=ByteArray.empty:=by
 obtain ⟨d⟩:=s;have:d = #[]:=by simpa [H2c] using h
 subst this;rfl
def H5:List It->List Value->Bool
 | [],[]=>true
 | .int k n::l,.int k' n' :: r=>IntKind.same k k' && n == n' && H5 l r
 | .lit b::l,.bool b' :: r=>b == b' && H5 l r
 | .bool b::l,.bool b' :: r=>b == b' && H5 l r
 | .sl q::l,.slice none 0 0::r=>q.n == 0 && H5 l r
 | .val (.slice none 0 0)::l,.slice none 0 0::r=>H5 l r
 | .val (.map none)::l,.map none::r=>H5 l r
 | .val (.string s)::l,.string t::r=>H2c s && H2c t && H5 l r
 | .val (.pointer none)::l,.pointer none::r=>H5 l r
 | .ob (.fr x)::l,.int .u64 a :: .int .u64 b :: .int .u64 c :: .int .u64 e::r=>x.val == 0 && a == 0 && b == 0 && c == 0 && e == 0 && H5 l r
 | .ob (.s x)::l,.int .u64 a :: .int .u64 b :: .int .u64 c :: .int .u64 e::r=>x.val == 0 && a == 0 && b == 0 && c == 0 && e == 0 && H5 l r
 | .ob (.fp x)::l,.int .u64 a :: .int .u64 b :: .int .u64 c :: .int .u64 e :: .int .u64 f :: .int .u64 g::r=>x.val == 0 && a == 0 && b == 0 && c == 0 && e == 0 && f == 0 && g == 0 && H5 l r
 | .ob (.p x)::l,.int .u64 a :: .int .u64 b :: .int .u64 c :: .int .u64 e :: .int .u64 f :: .int .u64 g::r=>x.val == 0 && a == 0 && b == 0 && c == 0 && e == 0 && f == 0 && g == 0 && H5 l r
 | _,_=>false

theorem C6z (i:Nat):A0 0 i=0:=by simp [A0]

theorem B8n:∀{k k' : IntKind},IntKind.same k k' = true->k=k' := by
 intro k k' h;cases k<;>cases k'<;>first | rfl | simp [IntKind.same] at h

theorem A0g {x:Ctx} {d:Nat}:∀{l:List It} {cs:List Value},H5 l cs=true->C4 (den x (d+1)) l cs:=by
  intro l cs h
  fun_induction H5 l cs
  all_goals first
    | rfl
    | (simp only[Bool.and_eq_true,beq_iff_eq] at h
       rename_i ih
       try simp only[and_assoc] at h
       first
         | (obtain ⟨h1,h2,h3⟩:=h;cases B8n h1;subst h2;exact ⟨[_],_,rfl,by simp [den],ih h3⟩)
         | (obtain ⟨h2,h2',h3⟩:=h;cases E7i h2;cases E7i h2';exact ⟨[_],_,rfl,by simp [den,Value.oneCell'],ih h3⟩)
         | (obtain ⟨h2,h3⟩:=h;subst h2;exact ⟨[_],_,rfl,by simp [den],ih h3⟩)
         | (obtain ⟨h2,h3⟩:=h;exact ⟨[_],_,rfl,by simp [den,h2],ih h3⟩)
         | (obtain ⟨h0,h1,h2,h3,h4,h5⟩:=h;subst h1 h2 h3 h4
            exact ⟨[_,_,_,_],_,rfl,by simp [den,Ob.cells,Ob.k,Ob.n,h0,C6z,List.range_succ],ih h5⟩)
         | (obtain ⟨h0,h1,h2,h3,h4,h5,h6,h7⟩:=h;subst h1 h2 h3 h4 h5 h6
            exact ⟨[_,_,_,_,_,_],_,rfl,by simp [den,Ob.cells,Ob.k,Ob.n,h0,C6z,List.range_succ],ih h7⟩))
    | (rename_i ih;exact ⟨[_],_,rfl,by simp [den,Value.oneCell'],ih h⟩)
    | (simp at h;done)

def S0:TypeDesc->Bool
 | .struct _ | .array _ _=>true
 | _=>false

def Q3 (P:Program):List Field->List (Nat×Nat×Bool)->Bool
 | [],[]=>true
 | f::l,(o,s,g)::r=>
  f.offset == o && (match P.info? f.type,P.underlying f.type with | some i,some d=>i.size == s && S0 d == g && (g || s == 1) | _,_=>false) && Q3 P l r
 | _,_=>false

/-- The cells of a type that can be compared: true: a whole number, false: a truth. -/
def A6t (sh:Nat->Option (List Bool)) (P:Program):Nat->List Field->Option (List Bool)
  | _,[]=>some []
  | off,f::l=>
    match sh f.type,P.info? f.type with
    | some s, some i => if f.offset = off ∧ i.size = s.length ∧ f.name ≠ "_" then (A6t sh P (off + s.length) l).map (s ++ ·) else none
    | _,_=>none

def D8j (P:Program):Nat->Nat->Option (List Bool)
 | 0,_=>none
 | n+1,t=>match P.underlying t with
  | some .bool=>some [false]
  | some (.int _)=>some [true]
  | some (.array m e)=>match D8j P n e,P.info? e with
   | some s,some i=>if i.size=s.length then some (List.replicate m s).flatten else none
   | _,_=>none
  | some (.struct fs)=>if P.stoodInHeld t=false then A6t (D8j P n) P 0 fs.toList else none
  | _=>none

def A4u (P:Program) (t:Nat) (i:TyI):Bool:=
  match P.info? t,P.underlying t with
  | some inf,some d=>
    inf.size == i.cells && inf.bytes == i.bytes && S0 d == i.agg && (i.agg || i.cells == 1) &&
    (match inf.zero with
     | some z=>H5 i.zero z.cells.toList && z.cells.size == i.cells && (match i.esq with
       | some q=>(match A8t q 1 with | some z1=>H5 (z1.get 0) z.cells.toList | none=>true)
       | none=>true)
     | none=>false) &&
    (match d with
     | .struct fs=>Q3 P fs.toList i.fields && i.arr.isNone && i.slc.isNone && i.kind.isNone
     | .array n e=>i.fields.isEmpty && (match i.arr with | some (n',e')=>n == n' && e == e' | none=>false) && i.slc.isNone && i.kind.isNone
     | .slice e=>i.fields.isEmpty && i.arr.isNone && (match i.slc with | some e' => e == e' | none=>false) && i.kind.isNone
     | .int k=>i.fields.isEmpty && i.arr.isNone && i.slc.isNone && (match i.kind with | some k' => IntKind.same k k' | none=>false)
     | _=>i.fields.isEmpty && i.arr.isNone && i.slc.isNone && i.kind.isNone) &&
    (i.eqk.isEmpty || (D8j P 8 t == some i.eqk && !(P.eqGuardType P.depth t))) &&
    (match i.esq with | some q=>q.es == i.cells && q.n == 0 | none=>true) &&
    ((i.agg || !(E0s i.zero) || (match d with | .pointer _=>true | _=>false)) && (!i.isStr || (match d with | .string=>true | _=>false)))
  | _,_=>false

structure G9 (P:Program) (t:Nat) (i:TyI):Prop where
 chk:A4u P t i=true

section
variable {P:Program} {t:Nat} {i:TyI}

theorem G9.parts (h:G9 P t i):∃inf d,P.info? t=some inf∧P.underlying t=some d∧inf.size=i.cells∧inf.bytes=i.bytes∧S0 d=i.agg∧(i.agg=false->i.cells=1) ∧
  (∃z,inf.zero=some z∧H5 i.zero z.cells.toList=true∧z.cells.size=i.cells∧∀q z1,i.esq=some q->A8t q 1=some z1->H5 (z1.get 0) z.cells.toList=true) ∧
  (∀fs,d = .struct fs->Q3 P fs.toList i.fields=true∧i.arr=none∧i.slc=none) ∧
  (∀n e,i.arr=some (n,e)->d = .array n e∧i.slc=none∧i.fields=[]) ∧
  (∀e,i.slc=some e->d = .slice e∧i.arr=none) ∧
  (∀k,i.kind=some k->d = .int k) ∧
  (i.eqk≠[]->D8j P 8 t=some i.eqk∧P.eqGuardType P.depth t=false) ∧
  (∀q,i.esq=some q->q.es=i.cells∧q.n=0) ∧
  (i.fields≠[]->∃fs,d = .struct fs):=by
 have hc:=h.chk;unfold A4u at hc;split at hc
 ·rename_i inf d hi hd
  simp only[Bool.and_eq_true,beq_iff_eq,Bool.or_eq_true,and_assoc] at hc;obtain ⟨h1,h2,h3,h4,h5,h6,h7,h8,-⟩:=hc;refine ⟨inf,d,hi,hd,h1,h2,h3,fun ha=>by simpa [ha] using h4,?_,?_,?_,?_,?_,?_,?_,?_⟩
  ·split at h5
   ·rename_i z hz
    simp only[Bool.and_eq_true,beq_iff_eq] at h5;exact ⟨z,hz,h5.1.1,h5.1.2,fun q z1 hq hz1=>by simpa [hq,hz1] using h5.2⟩
   ·cases h5
  ·rintro fs rfl
   simp only[Bool.and_eq_true,and_assoc,Option.isNone_iff_eq_none] at h6;exact ⟨h6.1,h6.2.1,h6.2.2.1⟩
  ·intro n e ha
   cases d<;>simp only[ha,Bool.and_eq_true,Option.isNone_iff_eq_none,beq_iff_eq,List.isEmpty_iff,and_assoc] at h6<;>first | (simp at h6;done) | skip
   obtain ⟨h61,rfl,rfl,h62,_⟩:=h6;exact ⟨rfl,h62,h61⟩
  ·intro e ha
   cases d<;>simp only[ha,Bool.and_eq_true,Option.isNone_iff_eq_none,beq_iff_eq,List.isEmpty_iff,and_assoc] at h6<;>first | (simp at h6;done) | skip
   obtain ⟨h61,h62,rfl,_⟩:=h6;exact ⟨rfl,h62⟩
  ·intro k ha
   cases d<;>simp only[ha,Bool.and_eq_true,Option.isNone_iff_eq_none,List.isEmpty_iff,and_assoc] at h6<;>first | (simp at h6;done) | skip
   rw[B8n h6.2.2.2]
  ·intro he
   simpa [he] using h7
  ·intro q hq
   rw[hq] at h8;simpa using h8
  ·intro hf
   cases d<;>simp only[Bool.and_eq_true,List.isEmpty_iff,and_assoc] at h6
   case struct fs=>exact ⟨fs,rfl⟩
   all_goals exact absurd h6.1 hf
 ·cases hc

theorem G9.nilp (h:G9 P t i) (ha:i.agg=false) (hz:E0s i.zero=true):∃e,P.underlying t=some (.pointer e):=by
 have hc:=h.chk;unfold A4u at hc;split at hc
 ·rename_i inf d hi hd
  rw[Bool.and_eq_true,ha,hz] at hc;have h2:=(Bool.and_eq_true _ _ ▸ hc.2:_∧_).1
  cases d with
  | pointer e=>exact ⟨e,hd⟩
  | _=>cases h2
 ·cases hc

theorem G9.str (h:G9 P t i) (hs:i.isStr=true):P.underlying t=some .string:=by
 have hc:=h.chk;unfold A4u at hc;split at hc
 ·rename_i inf d hi hd
  rw[Bool.and_eq_true,hs] at hc;have h2:=(Bool.and_eq_true _ _ ▸ hc.2:_∧_).2
  cases d with
  | string=>exact hd
  | _=>cases h2
 ·cases hc

theorem A4i:∀{l:List Field} {r:List (Nat×Nat×Bool)},Q3 P l r=true->∀(n o s:Nat) (g:Bool),r[n]? = some (o,s,g) ->
  ∃f:Field,l[n]? = some f∧f.offset=o∧(∃inf d,P.info? f.type=some inf∧P.underlying f.type=some d∧inf.size=s∧S0 d=g∧(g=false->s=1))
 | [],[],_,n,o,s,g,h=>by simp at h
 | [],_::_,hf,_,_,_,_,_=>by simp [Q3] at hf
 | _::_,[],hf,_,_,_,_,_=>by simp [Q3] at hf
 | f::l,(o',s',g')::r,hf,n,o,s,g,h=>by
  simp only[Q3,Bool.and_eq_true,beq_iff_eq] at hf;obtain ⟨⟨h1,h2⟩,h3⟩:=hf
  cases n with
  | zero=>
   simp only[List.getElem?_cons_zero,Option.some.injEq,Prod.mk.injEq] at h;obtain ⟨rfl,rfl,rfl⟩:=h;refine ⟨f,by simp,h1,?_⟩
   split at h2
   ·rename_i inf d hi hd
    simp only[Bool.and_eq_true,beq_iff_eq,Bool.or_eq_true] at h2;exact ⟨inf,d,hi,hd,h2.1.1,h2.1.2,fun hg=>by simpa [hg] using h2.2⟩
   ·cases h2
  | succ n=>
   simp only[List.getElem?_cons_succ] at h ⊢
   exact A4i h3 n o s g h

theorem G9.sizeOf (h:G9 P t i) (w:World):(Go.sizeOf t).run P w = .ok i.cells w:=by
 obtain ⟨inf,d,hi,_,hs,_⟩:=h.parts;simp [Go.sizeOf,typeInfo,hi,hs]

theorem C7y {d:TypeDesc} (hd:P.underlying t=some d) (w:World):(Go.isAgg t).run P w = .ok (S0 d) w:=by
 unfold Go.isAgg;rw[Sem.run_bind,run_underlying hd w]
 cases d<;>rfl

theorem D2r {inf:TypeInfo} {d:TypeDesc} (hi:P.info? t=some inf) (hd:P.underlying t=some d) {w:World} {b o:Nat} {cs:List Value} (hl:cs.length=inf.size)
  (h1:S0 d=false->inf.size=1) (hc:∀(j:Nat) (v:Value),cs[j]? = some v->w.cell? ⟨b,o+j,none⟩=some v) :
  (Go.loadVar t ⟨b,o,none⟩).run P w = .ok (K9 (S0 d) cs) w:=by
 simp only[Go.loadVar,Sem.run_bind,C7y hd,Result.andThen_ok]
 cases ha:S0 d with
 | true=>
  have hld:(loadCells ⟨b,o,none⟩ cs.length).run P w = .ok cs.toArray w:=
   run_loadCells_list (P:=P) w ⟨b,o,none⟩ cs (fun j v hv=>by rw[Addr.add_lit];exact hc j v hv)
  simp [Go.sizeOf,typeInfo,hi,<-hl,hld,K9]
 | false=>
  have h1' := h1 ha;rw[h1'] at hl;match cs,hl with
  | [v],_=>
   have:=hc 0 v rfl
   simp only[Nat.add_zero] at this;simp [K9,this]

theorem D8f (h:G9 P t i) {w:World} {b o:Nat} {cs:List Value} (hl:cs.length=i.cells)
  (hc:∀(j:Nat) (v:Value),cs[j]? = some v->w.cell? ⟨b,o+j,none⟩=some v) :
  (Go.loadVar t ⟨b,o,none⟩).run P w = .ok (K9 i.agg cs) w:=by
 obtain ⟨inf,d,hi,hd,hs,_,ha,h1,_⟩:=h.parts;rw[<-ha];exact D2r hi hd (hl.trans hs.symm) (fun e=>by rw[hs];exact h1 (ha ▸ e)) hc

theorem D2s (h:G9 P t i) {w:World} {b o:Nat} {u:Value} {cs:List Value} (hu:u.cells=cs.toArray) (hl:cs.length=i.cells) (h1:∀v∈cs,v.oneCell' = true)
    {cur:Array Value} {ty:TypeId} (hb:w.heap[b]? = some (.cells cur ty (0,0))) (hfit:o+cs.length<=cur.size) :
    (Go.storeVar t ⟨b,o,none⟩ u).run P w = .ok () (w.setRow b (cur.toList.take o++cs++cur.toList.drop (o+cs.length)).toArray):=by
  have hst:=run_storeCells_at P b o ty cs 0 cur w hb (by simpa using hfit) h1
  simp only[Nat.add_zero] at hst;simp [Go.storeVar,hu,h.sizeOf,hl,hst]
end

end

section

structure Mem (x:Ctx) (m:Nat->Option En):Prop where
 dom:∀p,m p=none↔x.k p = .no
 fl:∀p l,m p=some (.fl l)->x.k p = .real
 nil:∀p q,m p=some (.sq q)->x.k p = .nil->q.n=0
 ent:∀p e,m p=some e->x.k p = .real->∃cs ty,x.w.heap[x.β p]? = some (.cells cs ty (0,0))∧C7 x e cs.toList
 inj:∀p q,x.k p = .real->x.k q = .real->x.β p=x.β q->p=q
 own:∀p,x.k p = .real->¬x.F (x.β p)
 fw:∀b,x.F b->b<x.w.heap.size

/-- A position is forgotten. -/
def kx (x:Ctx):Option Nat->Ctx
 | none=>x
 | some p=>{ x with k:=fun q=>if q=p then .no else x.k q }

structure Tr (x:Ctx) (kill:Option Nat) (y:Ctx) (m' : Nat->Option En):Prop where
 ext:Ext (kx x kill) y
 mem:Mem y m'
 os:y.w.os=x.w.os
 tape:y.w.tape=x.w.tape
 output:y.w.output=x.w.output
 blk:∀b,b<x.w.heap.size->(∀p,x.k p = .real->x.β p≠b)->y.w.heap[b]? = x.w.heap[b]?
 fresh:∀p,y.k p = .real->(x.k p = .real∧y.β p=x.β p)∨x.w.heap.size<=y.β p
 fnew:∀b,y.F b->x.F b∨x.w.heap.size<=b

theorem Mem.lt {x:Ctx} {m:Nat->Option En} (h:Mem x m) {p:Nat} (hp:x.k p = .real):x.β p<x.w.heap.size:=by
 cases hm:m p with
 | none=>rw[(h.dom p).1 hm] at hp;cases hp
 | some e=>obtain ⟨cs,ty,hc,_⟩:=h.ent p e hm hp;exact (Array.getElem?_eq_some_iff.1 hc).1

theorem Tr.refl {x:Ctx} {m:Nat->Option En} (h:Mem x m):Tr x none x m:=
 ⟨Ext.refl x,h,rfl,rfl,rfl,fun _ _ _=>rfl,fun _ hp=>.inl ⟨hp,rfl⟩,fun _ hb=>.inl hb⟩

theorem A4a (m:Nat->Option En) (p:Nat) (e:En):G6 m [(p,e)]=fun q=>if q=p then some e else m q:=rfl

/-- A world that only grew. -/
theorem S7 (w:World) (o:Obj) {b:Nat} (h:b<w.heap.size):(w.alloc o).heap[b]? = w.heap[b]? := by
 show (w.heap.push o)[b]? = _;rw[Array.getElem?_push,if_neg (by omega)]

def D8 (x:Ctx) (p:Nat) (o:Obj):Ctx:=
  { w:=x.w.alloc o,F:=x.F,k:=fun q=>if q=p then .real else x.k q,β:=fun q=>if q=p then x.w.heap.size else x.β q }

theorem E8w {x:Ctx} {m:Nat->Option En} (h:Mem x m) {p:Nat} (hp:m p=none) (o:Obj):Ext x (D8 x p o) where
 size:=by simp [D8]
 ro b hb:=⟨hb,S7 _ _ (h.fw b hb)⟩
 k q hq:=by
  have:q≠p:=fun e=>hq (e ▸ (h.dom p).1 hp)
  simp [D8,this]
 β q hq:=by
  have:q≠p:=fun e=>by rw[e,(h.dom p).1 hp] at hq;cases hq
  simp [D8,this]
 own q hq cs ty hc:=⟨cs,(S7 _ _ (h.lt hq)).trans hc,rfl⟩

theorem B3v {x:Ctx} {m:Nat->Option En} (h:Mem x m) {p:Nat} (hp:m p=none) (cells:Array Value) (ty:TypeId) (e:En) (hd:C7 x e cells.toList) :
  Tr x none (D8 x p (.cells cells ty)) (G6 m [(p,e)]):=by
 have hk:=(h.dom p).1 hp;have hx:=E8w h hp (.cells cells ty);refine ⟨hx,?_,rfl,rfl,rfl,fun b hb _=>S7 _ _ hb,fun q hq=>?_,fun b hb=>.inl hb⟩
 ·rw[A4a]
  refine ⟨fun q=>?_,fun q l hq=>?_,fun q s hq hn=>?_,fun q e' hq hr=>?_,fun q q' hq hq' he=>?_,fun q hq=>?_,fun b hb=>?_⟩
  ·by_cases hqp:q=p
   ·simp [hqp,D8]
   ·simp only[D8,hqp,if_false];exact h.dom q
  ·by_cases hqp:q=p
   ·simp [hqp,D8]
   ·simp only[D8,hqp,if_false] at hq ⊢;exact h.fl q l hq
  ·by_cases hqp:q=p
   ·simp [hqp,D8] at hn
   ·simp only[D8,hqp,if_false] at hq hn;exact h.nil q s hq hn
  ·by_cases hqp:q=p
   ·simp only[hqp,if_true,Option.some.injEq] at hq
    subst hq;refine ⟨cells,ty,?_,K4 hx hd⟩
    simp only[D8,hqp,if_true];exact heap_alloc_new x.w _
   ·simp only[hqp,if_false] at hq
    simp only[D8,hqp,if_false] at hr;obtain ⟨cs,ty',hc,hd'⟩:=h.ent q e' hq hr;refine ⟨cs,ty',?_,K4 hx hd'⟩
    simp only[D8,hqp,if_false];exact (S7 _ _ (h.lt hr)).trans hc
  ·by_cases hqp:q=p<;>by_cases hqp' : q' = p
   ·rw[hqp,hqp']
   ·simp only[D8,hqp,hqp',if_true,if_false] at he hq'
    have:=h.lt hq';omega
   ·simp only[D8,hqp,hqp',if_true,if_false] at he hq
    have:=h.lt hq;omega
   ·simp only[D8,hqp,hqp',if_false] at he hq hq'
    exact h.inj q q' hq hq' he
  ·by_cases hqp:q=p
   ·simp only[D8,hqp,if_true]
    intro hF;have:=h.fw _ hF;omega
   ·simp only[D8,hqp,if_false] at hq ⊢;exact h.own q hq
  ·have:=h.fw b hb
   simp [D8];omega
 ·by_cases hqp:q=p
  ·right;simp [D8,hqp]
  ·left;simp only[D8,hqp,if_false] at hq ⊢;exact ⟨hq,trivial⟩

def X6 (x:Ctx) (p:Nat) (cs:Array Value):Ctx:={ x with w:=x.w.setRow (x.β p) cs }

theorem G6i {x:Ctx} {m:Nat->Option En} (h:Mem x m) {p:Nat} (hp:x.k p = .real) {cur cs:Array Value} {ty:TypeId} (hc:x.w.heap[x.β p]? = some (.cells cur ty (0,0)))
  (hs:cs.size=cur.size):Ext x (X6 x p cs) where
 size:=by simp [X6]
 ro b hb:=⟨hb,setRow_other _ _ _ _ (fun e=>h.own p hp (e ▸ hb))⟩
 k q _:=rfl
 β q _:=rfl
 own q hq cs' ty' hc' := by
  by_cases hqp:q=p
  ·subst hqp
   rw[hc] at hc';cases hc'
   exact ⟨cs,setRow_heap _ _ _ _ _ _ hc,hs⟩
  ·have:x.β q≠x.β p:=fun e=>hqp (h.inj q p hq hp e)
   exact ⟨cs',(setRow_other _ _ _ _ this).trans hc',rfl⟩

theorem C4f {x:Ctx} {m:Nat->Option En} (h:Mem x m) {p:Nat} (hp:x.k p = .real) {cur cs:Array Value} {ty:TypeId} (hc:x.w.heap[x.β p]? = some (.cells cur ty (0,0)))
  (hs:cs.size=cur.size) (e:En) (hd:C7 x e cs.toList):Tr x none (X6 x p cs) (G6 m [(p,e)]):=by
 have hx:=G6i h hp hc hs;have hmp:m p≠none:=fun e=>by rw[(h.dom p).1 e] at hp;cases hp
 refine ⟨hx,?_,rfl,rfl,rfl,fun b _ hq=>setRow_other _ _ _ _ (fun e=>hq p hp e.symm),fun q hq=>.inl ⟨hq,rfl⟩,fun b hb=>.inl hb⟩
 rw[A4a];refine ⟨fun q=>?_,fun q l hq=>?_,fun q s hq hn=>?_,fun q e' hq hr=>?_,fun q q' hq hq' he=>h.inj q q' hq hq' he,fun q hq=>h.own q hq,fun b hb=>?_⟩
 ·by_cases hqp:q=p
  ·subst hqp;simp [X6,hp]
  ·simp only[hqp,if_false];exact h.dom q
 ·by_cases hqp:q=p
  ·subst hqp;exact hp
  ·simp only[hqp,if_false] at hq;exact h.fl q l hq
 ·by_cases hqp:q=p
  ·subst hqp;rw[show (X6 x q cs).k q=x.k q from rfl,hp] at hn;cases hn
  ·simp only[hqp,if_false] at hq;exact h.nil q s hq hn
 ·by_cases hqp:q=p
  ·subst hqp
   simp only[if_true,Option.some.injEq] at hq;subst hq;exact ⟨cs,ty,setRow_heap _ _ _ _ _ _ hc,K4 hx hd⟩
  ·simp only[hqp,if_false] at hq
   obtain ⟨cs',ty',hc',hd'⟩:=h.ent q e' hq hr;have:x.β q≠x.β p:=fun e=>hqp (h.inj q p hr hp e)
   exact ⟨cs',ty',(setRow_other _ _ _ _ this).trans hc',K4 hx hd'⟩
 ·have:=h.fw b hb
  simp [X6];exact this

/-! Forgetting a position. -/
theorem C8a {x:Ctx} (p:Nat):∀(d:Nat) (i:It) (vs:List Value),den x d i vs->den (kx x (some p)) d (G2 p i) vs:=by
  have hext:∀d i vs,(∀q off,i ≠ .ptr q off)->(∀q es j off,i ≠ .ep q es j off)->(∀q off len es,i ≠ .slc q off len es)->(∀f c,i ≠ .clo f c)->(∀q,i ≠ .mp q)->(∀q a b c,i ≠ .sv q a b c)->(∀q a b c,i ≠ .arr q a b c)->den x d i vs->den (kx x (some p)) d i vs:=by
    intro d;induction d with
    | zero=>intro i vs h1 h2 h3 h4 h5 h6 h7 h;cases i<;>simp only[den] at h ⊢<;>first | exact h | exact absurd rfl (h1 _ _) | exact absurd rfl (h2 _ _ _ _) | exact absurd rfl (h3 _ _ _ _) | exact absurd rfl (h4 _ _) | exact absurd rfl (h5 _) | exact absurd rfl (h6 _ _ _ _) | exact absurd rfl (h7 _ _ _ _)
    | succ d ih=>
      intro i vs h1 h2 h3 h4 h5 h6 h7 h;have hget:∀(q:Sq) (j:Nat) (cs:List Value),C4 (den x d) (q.get j) cs->C4 (den (kx x (some p)) d) (q.get j) cs:=by
        intro q j cs hc;have:∀(l:List It) (cs:List Value),(∀i∈l,(∀q off,i ≠ .ptr q off)∧(∀q es j off,i ≠ .ep q es j off)∧(∀q off len es,i ≠ .slc q off len es)∧(∀f c,i ≠ .clo f c)∧(∀q,i ≠ .mp q)∧(∀q a b c,i ≠ .sv q a b c)∧(∀q a b c,i ≠ .arr q a b c))->C4 (den x d) l cs->C4 (den (kx x (some p)) d) l cs:=by
          intro l;induction l with
          | nil=>intro cs _ h;exact h
          | cons a l ihl=>
            intro cs hl ⟨c1,c2,e,g1,g2⟩
            obtain ⟨k1,k2,k3,k4,k5,k6,k7⟩:=hl a (by simp)
            exact ⟨c1,c2,e,ih a c1 k1 k2 k3 k4 k5 k6 k7 g1,ihl c2 (fun i hi=>hl i (by simp [hi])) g2⟩
        refine this _ _ ?_ hc
        intro i hi;have flat:∀(l:List (Fp×Fp×Fp)) (n k:Nat),i∈I3 l k n->∃o,i = .ob o:=by
          intro l n;induction n with
          | zero=>intro k hk;simp [I3] at hk
          | succ n ihn=>
            intro k hk;simp only[I3,List.mem_cons] at hk;rcases hk with rfl | rfl | rfl | hk
            · exact ⟨_,rfl⟩
            · exact ⟨_,rfl⟩
            · exact ⟨_,rfl⟩
            · exact ihn _ hk
        cases q<;>simp only[Sq.get,B1h.its,OpD.its,G1D.its,G2D.its,J6,L9,List.mem_cons,List.not_mem_nil,or_false] at hi
        case ptt l=>obtain ⟨o,rfl⟩:=flat _ _ _ hi;simp
        all_goals first
          | (subst hi;simp;done)
          | (rcases hi with rfl | rfl<;>(simp;done))
          | (rcases hi with rfl | rfl | rfl<;>(simp;done))
          | (rcases hi with rfl | rfl | rfl | rfl | rfl<;>(simp;done))
          | (rcases hi with rfl | rfl | rfl | rfl | rfl | rfl<;>(simp;done))
          | (rcases hi with rfl | rfl | rfl | rfl | rfl | rfl | rfl | rfl<;>(simp;done))
      cases i<;>simp only[den] at h ⊢
      all_goals first
        | exact h
        | exact absurd rfl (h1 _ _)
        | exact absurd rfl (h2 _ _ _ _)
        | exact absurd rfl (h3 _ _ _ _)
        | exact absurd rfl (h4 _ _)
        | exact absurd rfl (h5 _)
        | exact absurd rfl (h6 _ _ _ _) | exact absurd rfl (h7 _ _ _ _)
        | (obtain ⟨hv,h⟩:=h
           refine ⟨hv,?_⟩
           rcases h with h | ⟨b,o,cap,e,hc,hm,hr⟩
           · exact .inl h
           · refine .inr ⟨b,o,cap,e,hc,hm,fun j hj=>?_⟩
             obtain ⟨cs,g1,g2⟩:=hr j hj;exact ⟨cs,hget _ _ _ g1,g2⟩)
        | (rcases h with h | ⟨b,o,cap,e,hc,hm,hr⟩
           · exact .inl h
           · refine .inr ⟨b,o,cap,e,hc,hm,fun j hj=>?_⟩
             obtain ⟨cs,g1,g2⟩:=hr j hj;exact ⟨cs,hget _ _ _ g1,g2⟩)
        | (obtain ⟨b,o,cs,e,hi,g1,g2⟩:=h
           exact ⟨b,o,cs,e,hi,hget _ _ _ g1,g2⟩)
  intro d i vs h;have dead:∀(v:Value),vs=[v]->v.oneCell' = true->den (kx x (some p)) d .dead vs:=by
    intro v e h1;cases d<;>exact ⟨v,e,h1⟩
  cases i
  case sv q a b c=>
    simp only[G2]
    cases d<;>simp only[den] at h <;>
    · rcases h with ⟨_,_,_,e⟩ | ⟨_,_,e,_⟩<;>exact dead _ e rfl
  case slc q off len es=>
    by_cases hq:q=p
    · subst hq
      simp only[G2,if_true]
      cases d<;>simp only[den] at h ⊢ <;>
      · rcases h with ⟨_,_,rfl,e⟩ | ⟨_,_,_,_,e,_⟩<;>exact ⟨_,_,e⟩
    · simp only[G2,hq,if_false]
      cases d<;>simp only[den,kx,hq,if_false] at h ⊢<;>exact h
  case ptr q off=>
    by_cases hq:q=p
    · subst hq;simp only[G2,if_true]
      cases d<;>simp only[den] at h<;>exact dead _ h.2 rfl
    · simp only[G2,hq,if_false]
      cases d<;>simp only[den,kx,hq,if_false] at h ⊢<;>exact h
  case ep q es j off=>
    by_cases hq:q=p
    · subst hq;simp only[G2,if_true]
      cases d<;>simp only[den] at h<;>exact dead _ h.2 rfl
    · simp only[G2,hq,if_false]
      cases d<;>simp only[den,kx,hq,if_false] at h ⊢<;>exact h
  case mp q=>
    by_cases hq:q=p
    · subst hq;simp only[G2,if_true]
      cases d<;>simp only[den] at h<;>exact dead _ h.2 rfl
    · simp only[G2,hq,if_false]
      cases d<;>simp only[den,kx,hq,if_false] at h ⊢<;>exact h
  case arr q off n es=>
    by_cases hq:q=p
    · subst hq;simp only[G2,if_true]
      cases d<;>simp only[den] at h<;>exact dead _ h.2 rfl
    · simp only[G2,hq,if_false]
      cases d<;>simp only[den,kx,hq,if_false] at h ⊢<;>exact h
  case clo f c=>
    by_cases hq:c.any (fun a=>a.1 == p)=true
    · simp only[G2,hq,if_true]
      cases d<;>simp only[den] at h<;>exact dead _ h.2 rfl
    · simp only[G2,hq]
      have hne:∀a∈c,a.1≠p:=by
        intro a ha e;exact hq (List.any_eq_true.2 ⟨a,ha,by simp [e]⟩)
      cases d<;>simp only[den,kx] at h ⊢<;>exact ⟨fun a ha=>by simp only[hne a ha,if_false];exact h.1 a ha,h.2⟩
  all_goals exact hext d _ vs (by simp [G2]) (by simp [G2]) (by simp [G2]) (by simp [G2]) (by simp [G2]) (by simp [G2]) (by simp [G2]) h

theorem A7z {x:Ctx} (p d:Nat):∀{l:List It} {cs:List Value},C4 (den x d) l cs->C4 (den (kx x (some p)) d) (l.map (G2 p)) cs
 | [],_,h=>h
 | _::_,_,⟨c1,c2,e,h1,h2⟩=>⟨c1,c2,e,C8a p d _ _ h1,A7z p d h2⟩

theorem E2u (p:Nat) (i:It) (h:i.size=1):(G2 p i).size=1:=by
 cases i<;>simp only[G2]<;>first | exact h | (split<;>rfl)

theorem E7g {x:Ctx} (p:Nat) {a:V1} {v:Value} (h:A2u x a v):A2u (kx x (some p)) (E2t p a) v:=by
 cases a with
 | c i=>obtain ⟨h1,d,h2⟩:=h;exact ⟨E2u p i h1,d,C8a p _ _ _ h2⟩
 | a l=>obtain ⟨cs,e,hc⟩:=h;obtain ⟨d,hc⟩:=I9 hc;exact ⟨cs,e,N4 (A7z p d hc)⟩

theorem D2y {x:Ctx} (p:Nat) {s:SV} {v:Value} (h:B8 x s v):B8 (kx x (some p)) (D2x p s) v:=by
 cases s with
 | v a=>exact E7g p h
 | t l=>
  obtain ⟨vs,e,hc⟩:=h;refine ⟨vs,e,?_⟩
  clear e;induction hc with
  | nil=>exact .nil
  | cons h1 _ ih=>exact .cons (E7g p h1) ih
 | top=>trivial

/-! The state of a call. -/
/-- Which old blocks stay as they are; what position 0 is, if it is not the call's own. -/
structure Kp where
 at_:Nat->Prop
 pin:Option (Kd×Nat×Nat×Nat)
 ds:List Deferred:=[]
def V9:Kp:=⟨fun _=>True,none,[]⟩
structure A8u (w0:World) (F0:Nat->Prop) (K:Kp) (x:Ctx):Prop where
 f0:∀b,F0 b->x.F b
 fn:∀b,x.F b->F0 b∨w0.heap.size<=b
 size:w0.heap.size<=x.w.heap.size
 keep:∀b,b<w0.heap.size->K.at_ b->x.w.heap[b]? = w0.heap[b]?
 ownK:∀p,x.k p = .real->x.β p<w0.heap.size->¬K.at_ (x.β p)
 os:x.w.os=w0.os
 tape:x.w.tape=w0.tape
 output:x.w.output=w0.output
 pin:∀q,K.pin=some q->q.1 ≠ .no∧x.k 0=q.1∧(q.1 = .real->x.β 0=q.2.1∧∃cs,x.w.heap[x.β 0]? = some (.cells cs q.2.2.1 (0,0))∧cs.size=q.2.2.2)

/-- Callers that wait: what their slots hold. -/
def E0d (ds:List Deferred):List ((Nat->SV)×Nat)->List Deferred
 | []=>ds
 | _::_=>[]
theorem B1t (l:List ((Nat->SV)×Nat)):E0d [] l=[]:=by cases l<;>rfl
inductive Frs (x:Ctx) (ds:List Deferred):List ((Nat->SV)×Nat)->List Act->Prop
 | nil:Frs x ds [] []
 | cons {tS:Nat->SV} {nt:Nat} {l:List ((Nat->SV)×Nat)} {a:Act} {as:List Act}:a.defers=E0d ds l->a.tmps.size=nt->(∀t,B8 x (tS t) (a.tmps.getD t undef))->Frs x ds l as->Frs x ds ((tS,nt)::l) (a::as)

theorem Frs.ext {x y:Ctx} {ds:List Deferred} (h:Ext x y) {l:List ((Nat->SV)×Nat)} {as:List Act} (hf:Frs x ds l as):Frs y ds l as:=by
 induction hf with
 | nil=>exact .nil
 | cons h1 h2 h3 _ ih=>exact .cons h1 h2 (fun t=>A1q h (h3 t)) ih

theorem B4k (ds:List Deferred) (l:List ((Nat->SV)×Nat)) (p:Option Nat):E0d ds (B2l l p)=E0d ds l:=by
 cases p with
 | none=>rfl
 | some p=>cases l<;>rfl

theorem Frs.kill {x:Ctx} {ds:List Deferred} (p:Option Nat) {l:List ((Nat->SV)×Nat)} {as:List Act} (hf:Frs x ds l as):Frs (kx x p) ds (B2l l p) as:=by
 cases p with
 | none=>exact hf
 | some p=>
  induction hf with
  | nil=>exact .nil
  | cons h1 h2 h3 _ ih=>exact .cons (h1.trans (B4k ds _ (some p)).symm) h2 (fun t=>D2y p (h3 t)) ih

structure Sim (w0:World) (F0:Nat->Prop) (K:Kp) (as:List Act) (σ:St) (x:Ctx) (a:Act):Prop where
 defers:a.defers=E0d K.ds σ.fr
 nt:a.tmps.size=σ.nt
 t:∀t,B8 x (σ.t t) (a.tmps.getD t undef)
 mem:Mem x σ.m
 base:A8u w0 F0 K x
 frs:Frs x K.ds σ.fr as

theorem A8u.tr {w0:World} {F0:Nat->Prop} {K:Kp} {x y:Ctx} {kill:Option Nat} {m' : Nat->Option En} (h:A8u w0 F0 K x) (ht:Tr x kill y m') (hkill:A9l kill=true):A8u w0 F0 K y where
 f0 b hb:=by
  have:=(ht.ext.ro b (by cases kill<;>exact h.f0 b hb)).1
  exact this
 fn b hb:=by
  rcases ht.fnew b hb with h1 | h1
  ·exact h.fn b h1
  ·right;exact Nat.le_trans h.size h1
 size:=Nat.le_trans h.size (by have:=ht.ext.size;cases kill<;>exact this)
 keep b hb hk:=by
  rw[<-h.keep b hb hk];exact ht.blk b (Nat.lt_of_lt_of_le hb h.size) (fun p hp e=>h.ownK p hp (e ▸ hb) (e ▸ hk))
 ownK p hp hb:=by
  rcases ht.fresh p hp with ⟨h1,h2⟩ | h1
  ·rw[h2] at hb ⊢;exact h.ownK p h1 hb
  ·have:=h.size;omega
 os:=ht.os.trans h.os
 tape:=ht.tape.trans h.tape
 output:=ht.output.trans h.output
 pin q hq:=by
  obtain ⟨h1,h2,h3⟩:=h.pin q hq;have e:(kx x kill).k 0=x.k 0∧(kx x kill).β 0=x.β 0:=by
   cases kill with
   | none=>exact ⟨rfl,rfl⟩
   | some p=>
    cases p with
    | zero=>cases hkill
    | succ p=>exact ⟨by simp [kx],rfl⟩
  refine ⟨h1,?_,fun hr=>?_⟩
  ·rw[ht.ext.k 0 (by rw[e.1,h2];exact h1),e.1,h2]
  ·obtain ⟨g1,cs,g2,g3⟩:=h3 hr
   have hb:y.β 0=x.β 0:=by rw[ht.ext.β 0 (by rw[e.1,h2];exact hr),e.2]
   have hw:(kx x kill).w=x.w:=by cases kill<;>rfl
   obtain ⟨cs',g4,g5⟩:=ht.ext.own 0 (by rw[e.1,h2];exact hr) cs q.2.2.1 (by rw[e.2,hw];exact g2)
   rw[e.2] at g4;exact ⟨hb.trans g1,cs',by rw[hb];exact g4,g5.trans g3⟩

theorem C1f (t:Array Value) (d:Nat) (v:Value) (e:Nat) (hd:d<t.size):(t.setIfInBounds d v).getD e undef=if e=d then v else t.getD e undef:=by
 by_cases h:e=d
 ·subst h;simp [hd]
 ·simp [h,Array.getElem?_setIfInBounds_ne (Ne.symm h)]

/-- After an operation. -/
theorem Sim.step {w0:World} {F0:Nat->Prop} {K:Kp} {as:List Act} {σ:St} {x y:Ctx} {a:Act} {kill:Option Nat} {m' : Nat->Option En} (h:Sim w0 F0 K as σ x a) (ht:Tr x kill y m') (hkill:A9l kill=true) {dst:Option Nat} {sv:SV} {v:Value} {nx:Nat}
  (hd:∀d,dst=some d->d<σ.nt∧B8 y sv v) :
  Sim w0 F0 K as { σ with t:=match dst with | some d=>Q8 (A8k σ.t kill) d sv | none=>A8k σ.t kill,m:=m',nx:=nx,fr:=B2l σ.fr kill } y (a.put dst v):=by
 have hk:∀t,B8 y (A8k σ.t kill t) (a.tmps.getD t undef):=by
  intro t;refine A1q ht.ext ?_
  cases kill with
  | none=>exact h.t t
  | some p=>exact D2y p (h.t t)
 cases dst with
 | none=>exact ⟨h.defers.trans (B4k _ _ kill).symm,h.nt,hk,ht.mem,h.base.tr ht hkill,(h.frs.kill kill).ext ht.ext⟩
 | some d=>
  obtain ⟨hd1,hd2⟩:=hd d rfl;refine ⟨h.defers.trans (B4k _ _ kill).symm,by simp [Act.put,h.nt],fun t=>?_,ht.mem,h.base.tr ht hkill,(h.frs.kill kill).ext ht.ext⟩
  simp only[Act.put];rw[C1f _ _ _ _ (by rw[h.nt];exact hd1)]
  by_cases he:t=d
  ·subst he;simp only[Q8,if_true];exact hd2
  ·simp only[Q8,he,if_false];exact hk t

end

section

/-- An injection of so many places into themselves reaches every one. -/
theorem A6e:∀(n:Nat) (f:Nat->Nat),(∀i,i<n->f i<n)->(∀i j,i<n->j<n->f i=f j->i=j)->∀y,y<n->∃i,i<n∧f i=y
 | 0,_,_,_,y,hy=>absurd hy (Nat.not_lt_zero y)
 | n+1,f,hb,hi,y,hy=>by
  have hv:=hb n (Nat.lt_succ_self n);have hne:∀i,i<n->f i≠f n:=fun i h e=>by have:=hi i n (by omega) (by omega) e;omega
  have ih:=A6e n (fun i=>if f i=n then f n else f i)
   (fun i h=>by
    have h1:=hb i (by omega)
    have h2:=hne i h;split<;>omega)
   (fun i j h1 h2 e=>by
    have g1:=hne i h1;have g2:=hne j h2;have g3:=hi i j (by omega) (by omega)
    split at e<;>split at e<;>first | (apply g3;omega) | omega)
  by_cases e1:y=f n
  ·exact ⟨n,by omega,e1.symm⟩
  by_cases e2:y=n
  ·obtain ⟨i,h1,h2⟩:=ih (f n) (by omega)
   have g:=hne i h1;split at h2
   ·exact ⟨i,by omega,by omega⟩
   ·exact absurd h2 g
  ·obtain ⟨i,h1,h2⟩:=ih y (by omega)
   split at h2
   ·omega
   ·exact ⟨i,by omega,h2⟩

section
variable {r:Nat} [NeZero r]

def pw (x:Fin r):Nat->Fin r
 | 0=>1
 | n+1=>pw x n*x

theorem A7t (x:Fin r):x*1=x:=by grind
theorem A7w (x:Fin r):1*x=x:=by grind
theorem A2k (x y z:Fin r):x*y*z=x*(y*z):=by grind
theorem A9t (x y:Fin r):x*y=y*x:=by grind

theorem M5 (x:Fin r) (m:Nat):∀n,pw x (m+n)=pw x m*pw x n
 | 0=>(A7t _).symm
 | n+1=>by
  show pw x (m+n)*x=pw x m*(pw x n*x);rw[M5 x m n,A2k]

theorem B3j:∀n,pw (1:Fin r) n=1
 | 0=>rfl
 | n+1=>by
  show pw 1 n*1=1;rw[B3j n,A7t]

theorem A6j (x:Fin r) (m:Nat):∀n,pw x (m*n)=pw (pw x m) n
 | 0=>rfl
 | n+1=>by
  rw[Nat.mul_succ,M5,A6j x m n];rfl

/-- What two numbers' powers are 1 has the power of their greatest divisor 1. -/
theorem E2e {g:Fin r}:∀(d n:Nat),pw g d=1->pw g n=1->pw g (Nat.gcd d n)=1
 | 0,n,_,h=>by rw[Nat.gcd_zero_left];exact h
 | d+1,n,h1,h2=>by
  rw[Nat.gcd_succ];refine E2e (n % (d+1)) (d+1) ?_ h1
  have e:n=(d+1)*(n / (d+1))+n % (d+1):=(Nat.div_add_mod n (d+1)).symm;have h3:pw g ((d+1)*(n / (d+1))+n % (d+1))=1:=by rw[<-e];exact h2
  rw[M5,A6j,h1,B3j,A7w] at h3;exact h3
 termination_by d=>d
 decreasing_by exact Nat.mod_lt _ (Nat.succ_pos d)

/-- A number that only 1 and it divide. -/
def Ir (q:Nat):Prop:=∀d,d ∣ q->d=1∨d=q

theorem B3i {m:Nat}:∀(l:List (Nat×Nat)),(∀p,p∈l->Nat.gcd m p.1=1)->Nat.Coprime m (l.foldr (fun p a=>p.1 ^ p.2*a) 1)
 | [],_=>Nat.coprime_one_right m
 | p::l,h=>Nat.Coprime.mul_right (Nat.Coprime.pow_right _ (h p (List.mem_cons_self ..))) (B3i l fun q hq=>h q (List.mem_cons_of_mem _ hq))

/-- An element whose power of n is 1, and of no n / q, has no lesser power 1. -/
theorem D1r {g:Fin r} {n:Nat} (l:List (Nat×Nat)) (hn:n=l.foldr (fun p a=>p.1 ^ p.2*a) 1) (hir:∀p,p∈l->Ir p.1) (h0:0<n) (h1:pw g n=1) (hq:∀p,p∈l->pw g (n / p.1)≠1) {d:Nat} (hd0:0<d) (hd:d<n):pw g d≠1:=fun hp=>by
 have he:=E2e d n hp h1;obtain ⟨m,hm⟩:=Nat.gcd_dvd_right d n;have hel:Nat.gcd d n<=d:=Nat.gcd_le_left n hd0;have hep:0<Nat.gcd d n:=Nat.gcd_pos_of_pos_left n hd0;generalize Nat.gcd d n=e at *;have hm1:m≠1:=fun h=>by rw[h] at hm;omega
 have hex:∃p,p∈l∧Nat.gcd m p.1≠1:=Classical.byContradiction fun hno=>by
  have hc:Nat.Coprime m n:=by
   rw[hn];exact B3i l fun p hp=>Classical.byContradiction fun h=>hno ⟨p,hp,h⟩
  have:Nat.gcd m n=m:=Nat.gcd_eq_left ⟨e,by rw[hm,Nat.mul_comm]⟩
  rw[hc] at this;exact hm1 this.symm
 obtain ⟨p,hpl,hg⟩:=hex;have hpd:p.1 ∣ m:=by
  rcases hir p hpl _ (Nat.gcd_dvd_right m p.1) with h | h
  ·exact absurd h hg
  ·rw[<-h];exact Nat.gcd_dvd_left m p.1
 obtain ⟨k,hk⟩:=hpd;have hp0:0<p.1:=Nat.pos_of_ne_zero fun h=>by
  rw[h,Nat.zero_mul] at hk;rw[hk,Nat.mul_zero] at hm;omega
 refine hq p hpl ?_
 have:n / p.1=e*k:=by
  rw[hm,hk,Nat.mul_left_comm,Nat.mul_div_cancel_left _ hp0]
 rw[this,A6j,he,B3j]

theorem A8b {x:Fin r} (h:x≠0):0<x.val:=Nat.pos_of_ne_zero fun e=>h (Fin.ext (e.trans (by simp)))

/-- If an element's powers below n are unlike 1, every element but 0 has the power of n 1. -/
theorem B8s {n:Nat} (hr:r=n+1) (hn:0<n) {g:Fin r} (h1:pw g n=1) (hl:∀d,0<d->d<n->pw g d≠1) (x:Fin r) (hx:x≠0):pw x n=1:=by
 have h10:(1:Fin r)≠0:=fun h=>by
  have h1:1 % r=0 % r:=congrArg Fin.val h;rw[Nat.mod_eq_of_lt (by omega),Nat.zero_mod] at h1
  omega
 have hinv:∀i,i<=n->pw g i*pw g (n-i)=1:=fun i hi=>by
  rw[<-M5,show i+(n-i)=n from by omega,h1]
 have hne:∀i,i<=n->pw g i≠0:=fun i hi h=>by
  have:=hinv i hi
  rw[h,Fin.zero_mul] at this;exact h10 this.symm
 have hinj:∀i k,i<=n->0<k->i+k<n->pw g i≠pw g (i+k):=fun i k hi hk hik e=>by
  refine hl k hk (by omega) ?_
  have h2:=hinv i hi;have h3:pw g (n-i)*pw g (i+k)=1:=by rw[<-e,A9t];exact h2
  rw[M5,<-A2k,A9t (pw g (n-i)),h2,A7w] at h3;exact h3
 obtain ⟨i,hi,he⟩:=A6e n (fun i=>(pw g i).val-1)
  (fun i hi=>by
   have h1:=A8b (hne i (by omega))
   have h2:=(pw g i).isLt;omega)
  (fun i j hi hj e=>by
   have g1:=A8b (hne i (by omega))
   have g2:=A8b (hne j (by omega))
   have e2:pw g i=pw g j:=Fin.ext (by omega)
   rcases Nat.lt_trichotomy i j with h | h | h
   ·have:=hinj i (j-i) (by omega) (by omega) (by omega)
    rw[show i+(j-i)=j from by omega] at this
    exact absurd e2 this
   ·exact h
   ·have:=hinj j (i-j) (by omega) (by omega) (by omega)
    rw[show j+(i-j)=i from by omega] at this
    exact absurd e2.symm this)
  (x.val-1) (by have:=x.isLt;have:=A8b hx;omega)
 have e:pw g i=x:=Fin.ext (by
  have g1:=A8b (hne i (by omega))
  have g2:=A8b hx;omega)
 rw[<-e,<-A6j,Nat.mul_comm,A6j,h1,B3j]

end

/-- A power, by halving. -/
def A3w (r b:Nat):Nat->Nat->Nat
 | 0,_=>1 % r
 | f+1,e=>if e=0 then 1 % r else if e % 2=1 then A3w r b f (e / 2)*A3w r b f (e / 2) % r*b % r else A3w r b f (e / 2)*A3w r b f (e / 2) % r

theorem B2w (r b:Nat):∀f e,e<2 ^ f->A3w r b f e=b ^ e % r
 | 0,e,h=>by
  have:e=0:=by omega
  subst this;rfl
 | f+1,e,h=>by
  unfold A3w;have h2:e / 2<2 ^ f:=by rw[Nat.pow_succ] at h;omega
  rw[B2w r b f (e / 2) h2];by_cases h0:e=0
  ·rw[if_pos h0,h0];rfl
  rw[if_neg h0];by_cases h1:e % 2=1
  ·rw[if_pos h1]
   have:b ^ e=b ^ (e / 2)*b ^ (e / 2)*b:=by
    rw[<-Nat.pow_add,<-Nat.pow_succ];congr 1
    omega
   rw[this,<-Nat.mul_mod,Nat.mod_mul_mod]
  ·rw[if_neg h1]
   have:b ^ e=b ^ (e / 2)*b ^ (e / 2):=by
    rw[<-Nat.pow_add];congr 1
    omega
   rw[this,<-Nat.mul_mod]

theorem D2g {r:Nat} [NeZero r] (x:Fin r):∀n,(pw x n).val=x.val ^ n % r
 | 0=>rfl
 | n+1=>by
  show ((pw x n).val*x.val) % r=_;rw[D2g x n,Nat.pow_succ,Nat.mod_mul_mod]

theorem W9 {r:Nat} [NeZero r] (x:Fin r) (f e:Nat) (h:e<2 ^ f):(pw x e).val=A3w r x.val f e:=by
 rw[D2g,B2w r x.val f e h]

/-- No divisor from k on, so many tried. -/
def D6z (q:Nat):Nat->Nat->Bool
 | 0,_=>true
 | f+1,k=>q % k != 0 && D6z q f (k+1)

theorem C2l {q:Nat}:∀{f k:Nat},D6z q f k=true->∀d,k<=d->d<k+f->q % d≠0
 | 0,k,_,d,h1,h2=>by omega
 | f+1,k,h,d,h1,h2=>by
  unfold D6z at h;rw[Bool.and_eq_true] at h;by_cases e:d=k
  ·rw[e];simpa using h.1
  ·exact C2l h.2 d (by omega) (by omega)

theorem I5f {q s:Nat} (h0:1<q) (hs:q<s*s) (h:D6z q s 2=true):Ir q:=fun d hd=>by
 have hd0:0<d:=Nat.pos_of_dvd_of_pos hd (by omega)
 have hle:d<=q:=Nat.le_of_dvd (by omega) hd
 by_cases h1:d=1
 ·exact .inl h1
 by_cases h2:d=q
 ·exact .inr h2
 exfalso
 obtain ⟨m,hm⟩:=hd;by_cases h3:d<2+s
 ·exact C2l h d (by omega) h3 (by rw[hm,Nat.mul_mod_right])
 ·have hms:m<s:=Classical.byContradiction fun hc=>by
   have:s*s<=d*m:=Nat.mul_le_mul (by omega) (by omega)
   omega
  have hm2:2<=m:=Classical.byContradiction fun hc=>by
   have:m=0∨m=1:=by omega
   rcases this with rfl | rfl<;>omega
  exact C2l h m hm2 (by omega) (by rw[hm,Nat.mul_mod_left])

def F4r:List (Nat×Nat):=[(2,32),(3,1),(11,1),(19,1),(10177,1),(125527,1),(859267,1),(906349,2),(2508409,1),(2529403,1),(52437899,1),(254760293,2)]
theorem H5o:rN-1=F4r.foldr (fun p a=>p.1 ^ p.2*a) 1:=by decide +kernel
def H3j (q s:Nat):Bool:=decide (1<q) && (decide (q<s*s) && D6z q s 2)
theorem F3 {q s:Nat} (h:H3j q s=true):Ir q:=by
 unfold H3j at h;simp only[Bool.and_eq_true,decide_eq_true_eq] at h;exact I5f h.1 h.2.1 h.2.2
theorem ir2:Ir 2:=fun d hd=>by
 have:=Nat.le_of_dvd (by decide) hd
 have:=Nat.pos_of_dvd_of_pos hd (by decide)
 omega
theorem ir3:Ir 3:=fun d hd=>by
 have:=Nat.le_of_dvd (by decide) hd
 have:=Nat.pos_of_dvd_of_pos hd (by decide)
 have:d≠2:=fun h=>by subst h;revert hd;decide
 omega
theorem G6j:∀p,p∈F4r->Ir p.1:=fun p hp=>by
 simp only[F4r,List.mem_cons,List.not_mem_nil,or_false] at hp;rcases hp with rfl | rfl | rfl | rfl | rfl | rfl | rfl | rfl | rfl | rfl | rfl | rfl
 ·exact ir2
 ·exact ir3
 ·exact F3 (s:=4) (by decide +kernel)
 ·exact F3 (s:=5) (by decide +kernel)
 ·exact F3 (s:=102) (by decide +kernel)
 ·exact F3 (s:=356) (by decide +kernel)
 ·exact F3 (s:=930) (by decide +kernel)
 ·exact F3 (s:=955) (by decide +kernel)
 ·exact F3 (s:=1600) (by decide +kernel)
 ·exact F3 (s:=1600) (by decide +kernel)
 ·exact F3 (s:=7300) (by decide +kernel)
 ·exact F3 (s:=15970) (by decide +kernel)

def g7:Fin rN:=Fin.ofNat rN 7
def H8w (r g n:Nat) (l:List (Nat×Nat)):Bool:=l.all fun p=>decide (n / p.1<2 ^ 256) && A3w r g 256 (n / p.1) != 1
theorem G1g:H8w rN 7 (rN-1) F4r=true:=by decide +kernel
theorem I6l:A3w rN 7 256 (rN-1)=1:=by decide +kernel
end

section

def A8d (q g f:Nat) (l:List (Nat×Nat)):Bool:=decide (2<q) && (decide (g<q) && (decide (q-1<2 ^ f) && (decide (q-1=l.foldr (fun p a=>p.1 ^ p.2*a) 1) && (A3w q g f (q-1) == 1 && l.all fun p=>A3w q g f ((q-1) / p.1) != 1))))

theorem A5q {q g f:Nat} {l:List (Nat×Nat)} [NeZero q] (h:A8d q g f l=true) (hir:∀p,p∈l->Ir p.1) (x:Fin q) (hx:x≠0):pw x (q-1)=1:=by
 unfold A8d at h;simp only[Bool.and_eq_true,decide_eq_true_eq,beq_iff_eq,List.all_eq_true,bne_iff_ne] at h;obtain ⟨h2,hg,hf,hl,h1,hq⟩:=h;have hgv:(Fin.ofNat q g).val=g:=Nat.mod_eq_of_lt hg;have e1:((1:Fin q):Nat)=1:=Nat.mod_eq_of_lt (show 1<q by omega)
 have hone:pw (Fin.ofNat q g) (q-1)=1:=by
  apply Fin.ext
  rw[W9 _ f (q-1) hf,hgv,h1,e1]
 refine B8s (n:=q-1) (by omega) (by omega) hone (fun d h3 h4=>D1r l hl hir (by omega) hone (fun p hp=>?_) h3 h4) x hx
 intro he;have:=congrArg Fin.val he
 rw[W9 _ f _ (Nat.lt_of_le_of_lt (Nat.div_le_self _ _) hf),hgv,e1] at this;exact hq p hp this

theorem K6 {q g f:Nat} {l:List (Nat×Nat)} (h:A8d q g f l=true) (hir:∀p,p∈l->Ir p.1):Ir q:=fun d hd=>by
 have h2:2<q:=by
  unfold A8d at h;simp only[Bool.and_eq_true,decide_eq_true_eq] at h;exact h.1
 haveI:NeZero q:=⟨by omega⟩
 have hd0:0<d:=Nat.pos_of_dvd_of_pos hd (by omega)
 have hle:d<=q:=Nat.le_of_dvd (by omega) hd
 by_cases hdq:d=q
 ·exact .inr hdq
 refine .inl ?_
 have hv:(Fin.ofNat q d).val=d:=Nat.mod_eq_of_lt (by omega)
 have hne:Fin.ofNat q d≠0:=fun e=>by
  have:=congrArg Fin.val e
  rw[hv] at this;have h0:((0:Fin q):Nat)=0:=rfl;omega
 have hp:=congrArg Fin.val (A5q h hir _ hne);rw[D2g,hv] at hp;have e1:((1:Fin q):Nat)=1:=Nat.mod_eq_of_lt (show 1<q by omega)
 rw[e1] at hp;have hd2:d ∣ d ^ (q-1) % q:=(Nat.dvd_mod_iff hd).2 (by have:=Nat.pow_dvd_pow d (show 1<=q-1 by omega);rwa [Nat.pow_one] at this)
 rw[hp] at hd2;exact Nat.dvd_one.1 hd2

def C0j:List (Nat×Nat):=[(2,2),(3,1),(5,2),(7,1),(7577,1),(582767,1)]
theorem E8b:A8d 9272813673901 2 44 C0j=true:=by decide +kernel
theorem F8d:∀p,p∈C0j->Ir p.1:=fun p hp=>by
 simp only[C0j,List.mem_cons,List.not_mem_nil,or_false] at hp;rcases hp with rfl | rfl | rfl | rfl | rfl | rfl
 ·exact ir2
 ·exact ir3
 ·exact F3 (s:=3) (by decide +kernel)
 ·exact F3 (s:=4) (by decide +kernel)
 ·exact F3 (s:=89) (by decide +kernel)
 ·exact F3 (s:=765) (by decide +kernel)
theorem I8u:Ir 9272813673901:=K6 E8b F8d
def C0k:List (Nat×Nat):=[(2,4),(13,1),(9272813673901,1)]
theorem E8c:A8d 1928745244171409 3 51 C0k=true:=by decide +kernel
theorem F8e:∀p,p∈C0k->Ir p.1:=fun p hp=>by
 simp only[C0k,List.mem_cons,List.not_mem_nil,or_false] at hp;rcases hp with rfl | rfl | rfl
 ·exact ir2
 ·exact F3 (s:=5) (by decide +kernel)
 ·exact I8u
theorem I8v:Ir 1928745244171409:=K6 E8c F8e
def C0l:List (Nat×Nat):=[(2,2),(941,1),(1928745244171409,1)]
theorem E8d:A8d 7259797099061183477 2 63 C0l=true:=by decide +kernel
theorem F8f:∀p,p∈C0l->Ir p.1:=fun p hp=>by
 simp only[C0l,List.mem_cons,List.not_mem_nil,or_false] at hp;rcases hp with rfl | rfl | rfl
 ·exact ir2
 ·exact F3 (s:=32) (by decide +kernel)
 ·exact I8v
theorem I8w:Ir 7259797099061183477:=K6 E8d F8f
def C0m:List (Nat×Nat):=[(2,2),(89,1),(7259797099061183477,1)]
theorem E8e:A8d 2584487767265781317813 2 72 C0m=true:=by decide +kernel
theorem F8g:∀p,p∈C0m->Ir p.1:=fun p hp=>by
 simp only[C0m,List.mem_cons,List.not_mem_nil,or_false] at hp;rcases hp with rfl | rfl | rfl
 ·exact ir2
 ·exact F3 (s:=11) (by decide +kernel)
 ·exact I8w
theorem I8x:Ir 2584487767265781317813:=K6 E8e F8g
def C0n:List (Nat×Nat):=[(2,5),(3,7),(927093389,1)]
theorem E8f:A8d 64881703735777 5 46 C0n=true:=by decide +kernel
theorem F8h:∀p,p∈C0n->Ir p.1:=fun p hp=>by
 simp only[C0n,List.mem_cons,List.not_mem_nil,or_false] at hp;rcases hp with rfl | rfl | rfl
 ·exact ir2
 ·exact ir3
 ·exact F3 (s:=30450) (by decide +kernel)
theorem I8y:Ir 64881703735777:=K6 E8f F8h
def C0o:List (Nat×Nat):=[(2,1),(3,1),(31,1),(467,1),(16447,1),(64881703735777,1)]
theorem E8g:A8d 92691255082156974996979 3 77 C0o=true:=by decide +kernel
theorem F8i:∀p,p∈C0o->Ir p.1:=fun p hp=>by
 simp only[C0o,List.mem_cons,List.not_mem_nil,or_false] at hp;rcases hp with rfl | rfl | rfl | rfl | rfl | rfl
 ·exact ir2
 ·exact ir3
 ·exact F3 (s:=7) (by decide +kernel)
 ·exact F3 (s:=23) (by decide +kernel)
 ·exact F3 (s:=130) (by decide +kernel)
 ·exact I8y
theorem I8z:Ir 92691255082156974996979:=K6 E8g F8i
def C0p:List (Nat×Nat):=[(2,1),(5,2),(17,1),(51376543,1)]
theorem E8h:A8d 43670061551 7 36 C0p=true:=by decide +kernel
theorem F8j:∀p,p∈C0p->Ir p.1:=fun p hp=>by
 simp only[C0p,List.mem_cons,List.not_mem_nil,or_false] at hp;rcases hp with rfl | rfl | rfl | rfl
 ·exact ir2
 ·exact F3 (s:=3) (by decide +kernel)
 ·exact F3 (s:=6) (by decide +kernel)
 ·exact F3 (s:=7169) (by decide +kernel)
theorem I9a:Ir 43670061551:=K6 E8h F8j
def C0q:List (Nat×Nat):=[(2,2),(3,1),(5,1),(11,1),(47,1),(421987,1)]
theorem E8i:A8d 13090036741 10 34 C0q=true:=by decide +kernel
theorem F8k:∀p,p∈C0q->Ir p.1:=fun p hp=>by
 simp only[C0q,List.mem_cons,List.not_mem_nil,or_false] at hp;rcases hp with rfl | rfl | rfl | rfl | rfl | rfl
 ·exact ir2
 ·exact ir3
 ·exact F3 (s:=3) (by decide +kernel)
 ·exact F3 (s:=5) (by decide +kernel)
 ·exact F3 (s:=8) (by decide +kernel)
 ·exact F3 (s:=651) (by decide +kernel)
theorem I9b:Ir 13090036741:=K6 E8i F8k
def C0r:List (Nat×Nat):=[(2,2),(3,2),(5,1),(19,1),(113,1),(755057,1),(13090036741,1)]
theorem E8j:A8d 3819663927398918131021 6 72 C0r=true:=by decide +kernel
theorem F8l:∀p,p∈C0r->Ir p.1:=fun p hp=>by
 simp only[C0r,List.mem_cons,List.not_mem_nil,or_false] at hp;rcases hp with rfl | rfl | rfl | rfl | rfl | rfl | rfl
 ·exact ir2
 ·exact ir3
 ·exact F3 (s:=3) (by decide +kernel)
 ·exact F3 (s:=6) (by decide +kernel)
 ·exact F3 (s:=12) (by decide +kernel)
 ·exact F3 (s:=870) (by decide +kernel)
 ·exact I9b
theorem I9c:Ir 3819663927398918131021:=K6 E8j F8l
def C0s:List (Nat×Nat):=[(2,1),(3373,1),(43670061551,1),(3819663927398918131021,1)]
theorem E8k:A8d 1125266252156850182658904441386709967 5 120 C0s=true:=by decide +kernel
theorem F8m:∀p,p∈C0s->Ir p.1:=fun p hp=>by
 simp only[C0s,List.mem_cons,List.not_mem_nil,or_false] at hp;rcases hp with rfl | rfl | rfl | rfl
 ·exact ir2
 ·exact F3 (s:=60) (by decide +kernel)
 ·exact I9a
 ·exact I9c
theorem I9d:Ir 1125266252156850182658904441386709967:=K6 E8k F8m
def B4n:List (Nat×Nat):=[(2,1),(3,1),(53,1),(475709467,1),(92691255082156974996979,1),(1125266252156850182658904441386709967,1)]
theorem D9v:A8d 15778400344354997994418419698270088123916926905054652752758194827714659 2 234 B4n=true:=by decide +kernel
theorem E9r:∀p,p∈B4n->Ir p.1:=fun p hp=>by
 simp only[B4n,List.mem_cons,List.not_mem_nil,or_false] at hp;rcases hp with rfl | rfl | rfl | rfl | rfl | rfl
 ·exact ir2
 ·exact ir3
 ·exact F3 (s:=9) (by decide +kernel)
 ·exact F3 (s:=21812) (by decide +kernel)
 ·exact I8z
 ·exact I9d
theorem I5g:Ir 15778400344354997994418419698270088123916926905054652752758194827714659:=K6 D9v E9r
def C9p:List (Nat×Nat):=[(2,1),(3,2),(11,1),(23,1),(47,1),(10177,1),(859267,1),(52437899,1),(2584487767265781317813,1),(15778400344354997994418419698270088123916926905054652752758194827714659,1)]
theorem F2v:A8d pN 2 381 C9p=true:=by decide +kernel
theorem G8r:∀p,p∈C9p->Ir p.1:=fun p hp=>by
 simp only[C9p,List.mem_cons,List.not_mem_nil,or_false] at hp;rcases hp with rfl | rfl | rfl | rfl | rfl | rfl | rfl | rfl | rfl | rfl
 ·exact ir2
 ·exact ir3
 ·exact F3 (s:=5) (by decide +kernel)
 ·exact F3 (s:=6) (by decide +kernel)
 ·exact F3 (s:=8) (by decide +kernel)
 ·exact F3 (s:=102) (by decide +kernel)
 ·exact F3 (s:=928) (by decide +kernel)
 ·exact F3 (s:=7243) (by decide +kernel)
 ·exact I8x
 ·exact I5g
theorem A5r (x:Fin pN) (hx:x≠0):pw x (pN-1)=1:=A5q F2v G8r x hx
end

section

abbrev H6b {f:Type->Type} {a:Type} (_:f a):Type->Type:=f
abbrev I4b {A B:Type} (_:A->B):Type:=A
/-- A commutative ring; a module over the whole numbers. -/
abbrev J7:Type->Type:=H6b Dyadic.instCommRing
abbrev C8k (M:Type):Type:=I4b (@Vector.instIntModule M 0)

section
variable {F:Type} [J7 F]
def nc:Nat->F
 | 0=>0
 | n+1=>nc n+1
/-- A whole number, in the ring. -/
def ic:Int->F
 | .ofNat n=>nc n
 | .negSucc n=>- nc (n+1)
theorem A9w (a:Nat):∀b:Nat,(nc (a+b):F)=nc a+nc b
 | 0=>by show nc a=nc a+0;grind
 | b+1=>by show nc (a+b)+1=nc a+(nc b+1);rw[A9w a b];grind
theorem A9x (a:Nat):∀b:Nat,(nc (a*b):F)=nc a*nc b
 | 0=>by show (0:F)=nc a*0;grind
 | b+1=>by
  rw[Nat.mul_succ,A9w,A9x a b];show nc a*nc b+nc a=nc a*(nc b+1);grind
theorem I4 (n:Nat):(ic (n:Int):F)=nc n:=rfl
theorem O2:∀a:Int,(ic (-a):F) = - ic a
 | .ofNat 0=>by show (nc 0:F) = - nc 0;show (0:F) = - 0;grind
 | .ofNat (n+1)=>rfl
 | .negSucc n=>by show (nc (n+1):F) = - - nc (n+1);grind
theorem C6s (m n:Nat):(ic ((m:Int)-(n:Int)):F)=nc m-nc n:=by
 by_cases h:n<=m
 ·obtain ⟨k,rfl⟩:=Nat.exists_eq_add_of_le h
  have e:((n+k:Nat):Int)-(n:Int)=(k:Int):=by omega
  rw[e,I4,A9w];grind
 ·obtain ⟨k,rfl⟩:=Nat.exists_eq_add_of_le (Nat.le_of_lt (Nat.lt_of_not_le h))
  have e:(m:Int)-((m+k:Nat):Int) = -(k:Int):=by omega
  rw[e,O2,I4,A9w];grind
theorem H6c (a b:Int):(ic (a+b):F)=ic a+ic b:=by
 rcases Int.eq_nat_or_neg a with ⟨m,rfl | rfl⟩<;>rcases Int.eq_nat_or_neg b with ⟨n,rfl | rfl⟩
 ·rw[<-Int.natCast_add,I4,I4,I4,A9w]
 ·rw[<-Int.sub_eq_add_neg,C6s,O2,I4,I4];grind
 ·rw[Int.add_comm,<-Int.sub_eq_add_neg,C6s,O2,I4,I4];grind
 ·rw[<-Int.neg_add,<-Int.natCast_add,O2,O2,O2,I4,I4,I4,A9w];grind
theorem H6d (a b:Int):(ic (a*b):F)=ic a*ic b:=by
 rcases Int.eq_nat_or_neg a with ⟨m,rfl | rfl⟩<;>rcases Int.eq_nat_or_neg b with ⟨n,rfl | rfl⟩
 ·rw[<-Int.natCast_mul,I4,I4,I4,A9x]
 ·rw[Int.mul_neg,<-Int.natCast_mul,O2,O2,I4,I4,I4,A9x];grind
 ·rw[Int.neg_mul,<-Int.natCast_mul,O2,O2,I4,I4,I4,A9x];grind
 ·rw[Int.neg_mul_neg,<-Int.natCast_mul,O2,O2,I4,I4,I4,A9x];grind
theorem G7j:(ic 0:F)=0:=rfl
theorem F6d:(ic 1:F)=1:=by show (0:F)+1=1;grind
end
end

section

/-- Expressions. -/
inductive Ex where
 | v (i:Nat)
 | one
 | add (a b:Ex)
 | sub (a b:Ex)
 | mul (a b:Ex)
instance:Add Ex:=⟨.add⟩
instance:Sub Ex:=⟨.sub⟩
instance:Mul Ex:=⟨.mul⟩

/-- Sums of monomials: exponents, six bits each, and a number. -/
abbrev Pl:=List (Nat×Int)

def mrg:Nat->Pl->Pl->Pl
 | 0,a,b=>a++b
 | _+1,[],b=>b
 | _+1,t::a,[]=>t::a
 | n+1,t::a,s::b=>
  match Nat.blt t.1 s.1 with
  | true=>t::mrg n a (s::b)
  | false=>
   match Nat.beq t.1 s.1 with
   | true=>
    match t.2+s.2 with
    | .ofNat 0=>mrg n a b
    | c=>(t.1,c)::mrg n a b
   | false=>s::mrg n (t::a) b

def D9l (a b:Pl):Pl:=mrg (a.length+b.length) a b
def F9i (a:Pl):Pl:=a.map fun t=>(t.1,-t.2)
def shift (m:Nat) (c:Int) (q:Pl):Pl:=q.map fun t=>(m+t.1,c*t.2)
def B7c:List Pl->List Pl
 | a::b::l=>D9l a b::B7c l
 | l=>l
def G4p:Nat->List Pl->Pl
 | 0,l=>l.flatten
 | n+1,l=>
  match l with
  | []=>[]
  | [a]=>a
  | l=>G4p n (B7c l)
def I5x (p q:Pl):Pl:=G4p 30 (p.map fun t=>shift t.1 t.2 q)

/-- Seven exponents that are small. -/
def okM:Nat->Nat->Bool
 | 0,m=>m == 0
 | n+1,m=>Nat.blt (m % 64) 32 && okM n (m / 64)
def okP (p:Pl):Bool:=p.all fun t=>okM 7 t.1

def Y1:Nat:=16777216
def Y2:Nat:=1073741824
def Y3:Nat:=68719476736
/-- A square of y is a cube of x and b. -/
def two (y:Nat) (t:Nat×Int):Bool:=Nat.ble 2 (t.1 / y % 64) && (Nat.ble (2*y) t.1 && okM 7 (t.1-2*y))
def put (y z:Nat) (p:Pl):Pl:=p.map fun t=>(t.1-2*y+z,t.2)
def G2e (y x3:Nat) (p:Pl):Pl:=
 let hi:=p.filter fun t=>two y t
 match hi with
 | []=>p
 | _=>D9l (p.filter fun t=>!two y t) (D9l (put y x3 hi) (put y 262144 hi))

def I0g (p:Pl):Pl:=G2e Y3 12288 (G2e Y2 192 (G2e Y1 3 p))

def Ex.norm:Ex->Option Pl
 | .v i=>if i<7 then some [(64 ^ i,1)] else none
 | .one=>some [(0,1)]
 | .add a b=>
  match a.norm,b.norm with
  | some p,some q=>some (D9l p q)
  | _,_=>none
 | .sub a b=>
  match a.norm,b.norm with
  | some p,some q=>some (D9l p (F9i q))
  | _,_=>none
 | .mul a b=>
  match a.norm,b.norm with
  | some p,some q=>if okP p && okP q then some (I0g (I5x p q)) else none
  | _,_=>none

section
variable {F:Type} [J7 F]

theorem F0j (x:F) (n m:Nat):x ^ (n+m)=x ^ n*x ^ m:=by grind
theorem C3h (x:F):x ^ 0=1:=by grind
def Ex.ev (ρ:Nat->F):Ex->F
 | .v i=>ρ i
 | .one=>1
 | .add a b=>a.ev ρ+b.ev ρ
 | .sub a b=>a.ev ρ - b.ev ρ
 | .mul a b=>a.ev ρ*b.ev ρ

/-- A monomial's value. -/
def J9 (ρ:Nat->F):Nat->Nat->Nat->F
 | 0,_,_=>1
 | n+1,i,m=>ρ i ^ (m % 64)*J9 ρ n (i+1) (m / 64)

theorem B2v (ρ:Nat->F):∀(n i m k:Nat),okM n m=true->okM n k=true->J9 ρ n i (m+k)=J9 ρ n i m*J9 ρ n i k
 | 0,i,m,k,_,_=>by show (1:F)=1*1;grind
 | n+1,i,m,k,hm,hk=>by
  unfold okM at hm hk;simp only[Bool.and_eq_true,Nat.blt_eq] at hm hk;have e1:(m+k) % 64=m % 64+k % 64:=by omega
  have e2:(m+k) / 64=m / 64+k / 64:=by omega
  show ρ i ^ ((m+k) % 64)*J9 ρ n (i+1) ((m+k) / 64)=(ρ i ^ (m % 64)*J9 ρ n (i+1) (m / 64))*(ρ i ^ (k % 64)*J9 ρ n (i+1) (k / 64));rw[e1,e2,B2v ρ n (i+1) _ _ hm.2 hk.2,F0j];grind

def evP (ρ:Nat->F):Pl->F
 | []=>0
 | t::p=>ic t.2*J9 ρ 7 0 t.1+evP ρ p

theorem C9o (ρ:Nat->F) (b:Pl):∀a,evP ρ (a++b)=evP ρ a+evP ρ b
 | []=>by show evP ρ b=0+evP ρ b;grind
 | t::a=>by
  show ic t.2*J9 ρ 7 0 t.1+evP ρ (a++b)=ic t.2*J9 ρ 7 0 t.1+evP ρ a+evP ρ b;rw[C9o ρ b a];grind

theorem B1w (ρ:Nat->F):∀(n:Nat) (a b:Pl),evP ρ (mrg n a b)=evP ρ a+evP ρ b
 | 0,a,b=>C9o ρ b a
 | n+1,[],b=>by show evP ρ b=0+evP ρ b;grind
 | n+1,t::a,[]=>by show evP ρ (t::a)=evP ρ (t::a)+0;grind
 | n+1,t::a,s::b=>by
  unfold mrg;split
  ·show ic t.2*J9 ρ 7 0 t.1+evP ρ (mrg n a (s::b))=ic t.2*J9 ρ 7 0 t.1+evP ρ a+evP ρ (s::b)
   rw[B1w ρ n a (s::b)];grind
  ·split
   ·rename_i he
    have he:t.1=s.1:=Nat.eq_of_beq_eq_true he;have hc:(ic (t.2+s.2):F)=ic t.2+ic s.2:=H6c t.2 s.2;show _=ic t.2*J9 ρ 7 0 t.1+evP ρ a+(ic s.2*J9 ρ 7 0 s.1+evP ρ b);split
    ·rename_i h0
     rw[B1w ρ n a b,he];rw[h0] at hc;have hz:(ic (Int.ofNat 0):F)=0:=G7j;rw[hz] at hc;grind
    ·rename_i c hne
     show ic (t.2+s.2)*J9 ρ 7 0 t.1+evP ρ (mrg n a b)=_;rw[B1w ρ n a b,hc,he];grind
   ·show ic s.2*J9 ρ 7 0 s.1+evP ρ (mrg n (t::a) b)=evP ρ (t::a)+(ic s.2*J9 ρ 7 0 s.1+evP ρ b)
    rw[B1w ρ n (t::a) b];grind

theorem B1v (ρ:Nat->F) (a b:Pl):evP ρ (D9l a b)=evP ρ a+evP ρ b:=B1w ρ _ a b

theorem E5d (ρ:Nat->F):∀a,evP ρ (F9i a) = - evP ρ a
 | []=>by show (0:F) = - 0;grind
 | t::a=>by
  show ic (-t.2)*J9 ρ 7 0 t.1+evP ρ (F9i a) = - (ic t.2*J9 ρ 7 0 t.1+evP ρ a);rw[E5d ρ a,O2];grind

theorem C6l (ρ:Nat->F) (m:Nat) (c:Int) (hm:okM 7 m=true):∀q:Pl,okP q=true->evP ρ (shift m c q)=ic c*J9 ρ 7 0 m*evP ρ q
 | [],_=>by show (0:F)=_*0;grind
 | t::q,h=>by
  unfold okP at h;rw[List.all_cons,Bool.and_eq_true] at h;show ic (c*t.2)*J9 ρ 7 0 (m+t.1)+evP ρ (shift m c q)=ic c*J9 ρ 7 0 m*(ic t.2*J9 ρ 7 0 t.1+evP ρ q);rw[C6l ρ m c hm q h.2,B2v ρ 7 0 m t.1 hm h.1,H6d];grind

def evL (ρ:Nat->F):List Pl->F
 | []=>0
 | p::l=>evP ρ p+evL ρ l

theorem C6k (ρ:Nat->F):∀l:List Pl,evL ρ (B7c l)=evL ρ l
 | []=>rfl
 | [a]=>rfl
 | a::b::l=>by
  show evP ρ (D9l a b)+evL ρ (B7c l)=evP ρ a+(evP ρ b+evL ρ l);rw[B1v,C6k ρ l];grind

theorem D4u (ρ:Nat->F):∀l:List Pl,evP ρ l.flatten=evL ρ l
 | []=>rfl
 | p::l=>by
  rw[List.flatten_cons,C9o,D4u ρ l];rfl

theorem E5b (ρ:Nat->F):∀(n:Nat) (l:List Pl),evP ρ (G4p n l)=evL ρ l
 | 0,l=>D4u ρ l
 | n+1,[]=>rfl
 | n+1,[a]=>by show evP ρ a=evP ρ a+0;grind
 | n+1,a::b::l=>by
  show evP ρ (G4p n (B7c (a::b::l)))=_;rw[E5b ρ n,C6k]

theorem E5c (ρ:Nat->F) (q:Pl) (hq:okP q=true):∀p:Pl,okP p=true->evL ρ (p.map fun t=>shift t.1 t.2 q)=evP ρ p*evP ρ q
 | [],_=>by show (0:F)=0*_;grind
 | t::p,h=>by
  unfold okP at h;rw[List.all_cons,Bool.and_eq_true] at h;show evP ρ (shift t.1 t.2 q)+evL ρ (p.map fun t=>shift t.1 t.2 q)=(ic t.2*J9 ρ 7 0 t.1+evP ρ p)*evP ρ q
  rw[C6l ρ t.1 t.2 h.1 q hq,E5c ρ q hq p h.2];grind

theorem C0g (ρ:Nat->F) (f:Nat×Int->Bool):∀p:Pl,evP ρ (p.filter f)+evP ρ (p.filter fun t=>!f t)=evP ρ p
 | []=>by show (0:F)+0=0;grind
 | t::p=>by
  have ih:=C0g ρ f p;show _=ic t.2*J9 ρ 7 0 t.1+evP ρ p;rw[<-ih]
  cases h:f t with
  | true=>
   rw[List.filter_cons_of_pos h,List.filter_cons_of_neg (by rw[h];decide)]
   show ic t.2*J9 ρ 7 0 t.1+evP ρ (p.filter f)+_=_;grind
  | false=>
   rw[List.filter_cons_of_neg (by rw[h];decide),List.filter_cons_of_pos (by show (!f t)=true;rw[h];rfl)]
   show _+(ic t.2*J9 ρ 7 0 t.1+evP ρ (p.filter fun t=>!f t))=_
   grind

theorem E5e (ρ:Nat->F) (y z:Nat) (hz:okM 7 z=true) (hy:okM 7 (2*y)=true) (hb:okM 7 262144=true)
  (e:J9 ρ 7 0 (2*y)=J9 ρ 7 0 z+J9 ρ 7 0 262144) :
  ∀p:Pl,evP ρ (put y z (p.filter fun t=>two y t))+evP ρ (put y 262144 (p.filter fun t=>two y t))=evP ρ (p.filter fun t=>two y t)
 | []=>by show (0:F)+0=0;grind
 | t::p=>by
  have ih:=E5e ρ y z hz hy hb e p
  cases h:two y t with
  | false=>
   rw[List.filter_cons_of_neg (by rw[h];decide)]
   exact ih
  | true=>
   rw[List.filter_cons_of_pos h];show ic t.2*J9 ρ 7 0 (t.1-2*y+z)+evP ρ (put y z (p.filter fun t=>two y t))+(ic t.2*J9 ρ 7 0 (t.1-2*y+262144)+evP ρ (put y 262144 (p.filter fun t=>two y t)))=ic t.2*J9 ρ 7 0 t.1+evP ρ (p.filter fun t=>two y t)
   unfold two at h;simp only[Bool.and_eq_true] at h;have hle:2*y<=t.1:=Nat.le_of_ble_eq_true h.2.1;have em:t.1=(t.1-2*y)+2*y:=(Nat.sub_add_cancel hle).symm;have e0:J9 ρ 7 0 t.1=J9 ρ 7 0 (t.1-2*y)*J9 ρ 7 0 (2*y):=by
    rw[<-B2v ρ 7 0 _ _ h.2.2 hy,<-em]
   rw[B2v ρ 7 0 _ _ h.2.2 hz,B2v ρ 7 0 _ _ h.2.2 hb,e0,e,<-ih];grind

theorem C0h (ρ:Nat->F) (y z:Nat) (hz:okM 7 z=true) (hy:okM 7 (2*y)=true) (hb:okM 7 262144=true)
  (e:J9 ρ 7 0 (2*y)=J9 ρ 7 0 z+J9 ρ 7 0 262144) (p:Pl):evP ρ (G2e y z p)=evP ρ p:=by
 unfold G2e;dsimp only;split
 ·rfl
 ·rw[B1v,B1v,E5e ρ y z hz hy hb e p,<-C0g ρ (fun t=>two y t) p]
  grind

/-- Three points' equations. -/
def On3 (ρ:Nat->F):Prop:=ρ 4*ρ 4=ρ 0*ρ 0*ρ 0+ρ 3∧ρ 5*ρ 5=ρ 1*ρ 1*ρ 1+ρ 3∧ρ 6*ρ 6=ρ 2*ρ 2*ρ 2+ρ 3

theorem F8v (ρ:Nat->F) (n i m d q:Nat) (h1:m % 64=d) (h2:m / 64=q):J9 ρ (n+1) i m=ρ i ^ d*J9 ρ n (i+1) q:=by
 subst h1;subst h2;rfl
theorem F8w (ρ:Nat->F):∀(n i:Nat),J9 ρ n i 0=1
 | 0,_=>rfl
 | n+1,i=>by
  rw[F8v ρ n i 0 0 0 rfl rfl,F8w ρ n (i+1),C3h];grind
theorem I5 (ρ:Nat->F) (n i m q:Nat) (h1:m % 64=0) (h2:m / 64=q):J9 ρ (n+1) i m=J9 ρ n (i+1) q:=by
 rw[F8v ρ n i m 0 q h1 h2,C3h];grind
theorem A3v (ρ:Nat->F) (n i m d:Nat) (h1:m % 64=d) (h2:m / 64=0):J9 ρ (n+1) i m=ρ i ^ d:=by
 rw[F8v ρ n i m d 0 h1 h2,F8w];grind

theorem E6i (ρ:Nat->F):J9 ρ 7 0 262144=ρ 3:=by
 rw[I5 ρ 6 0 262144 4096 rfl rfl,I5 ρ 5 1 4096 64 rfl rfl,I5 ρ 4 2 64 1 rfl rfl,A3v ρ 3 3 1 1 rfl rfl];grind

theorem G6f (ρ:Nat->F) (h:On3 ρ) (p:Pl):evP ρ (I0g p)=evP ρ p:=by
 unfold I0g;rw[C0h ρ Y3 12288 rfl rfl rfl ?_,C0h ρ Y2 192 rfl rfl rfl ?_,C0h ρ Y1 3 rfl rfl rfl ?_]
 ·rw[E6i,show 2*Y1=33554432 from rfl,I5 ρ 6 0 33554432 524288 rfl rfl,I5 ρ 5 1 524288 8192 rfl rfl,I5 ρ 4 2 8192 128 rfl rfl,I5 ρ 3 3 128 2 rfl rfl,A3v ρ 2 4 2 2 rfl rfl,A3v ρ 6 0 3 3 rfl rfl]
  have:=h.1
  grind
 ·rw[E6i,show 2*Y2=2147483648 from rfl,I5 ρ 6 0 2147483648 33554432 rfl rfl,I5 ρ 5 1 33554432 524288 rfl rfl,I5 ρ 4 2 524288 8192 rfl rfl,I5 ρ 3 3 8192 128 rfl rfl,I5 ρ 2 4 128 2 rfl rfl,A3v ρ 1 5 2 2 rfl rfl,I5 ρ 6 0 192 3 rfl rfl,A3v ρ 5 1 3 3 rfl rfl]
  have:=h.2.1
  grind
 ·rw[E6i,show 2*Y3=137438953472 from rfl,I5 ρ 6 0 137438953472 2147483648 rfl rfl,I5 ρ 5 1 2147483648 33554432 rfl rfl,I5 ρ 4 2 33554432 524288 rfl rfl,I5 ρ 3 3 524288 8192 rfl rfl,I5 ρ 2 4 8192 128 rfl rfl,I5 ρ 1 5 128 2 rfl rfl,A3v ρ 0 6 2 2 rfl rfl,I5 ρ 6 0 12288 192 rfl rfl,I5 ρ 5 1 192 3 rfl rfl,A3v ρ 4 2 3 3 rfl rfl]
  have:=h.2.2
  grind

theorem I5t (ρ:Nat->F):∀i,i<7->J9 ρ 7 0 (64 ^ i)=ρ i
 | 0,_=>by rw[A3v ρ 6 0 (64 ^ 0) 1 rfl rfl];grind
 | 1,_=>by rw[I5 ρ 6 0 (64 ^ 1) 1 rfl rfl,A3v ρ 5 1 1 1 rfl rfl];grind
 | 2,_=>by rw[I5 ρ 6 0 (64 ^ 2) 64 rfl rfl,I5 ρ 5 1 64 1 rfl rfl,A3v ρ 4 2 1 1 rfl rfl];grind
 | 3,_=>E6i ρ
 | 4,_=>by rw[I5 ρ 6 0 (64 ^ 4) 262144 rfl rfl,I5 ρ 5 1 262144 4096 rfl rfl,I5 ρ 4 2 4096 64 rfl rfl,I5 ρ 3 3 64 1 rfl rfl,A3v ρ 2 4 1 1 rfl rfl];grind
 | 5,_=>by rw[I5 ρ 6 0 (64 ^ 5) 16777216 rfl rfl,I5 ρ 5 1 16777216 262144 rfl rfl,I5 ρ 4 2 262144 4096 rfl rfl,I5 ρ 3 3 4096 64 rfl rfl,I5 ρ 2 4 64 1 rfl rfl,A3v ρ 1 5 1 1 rfl rfl];grind
 | 6,_=>by rw[I5 ρ 6 0 (64 ^ 6) 1073741824 rfl rfl,I5 ρ 5 1 1073741824 16777216 rfl rfl,I5 ρ 4 2 16777216 262144 rfl rfl,I5 ρ 3 3 262144 4096 rfl rfl,I5 ρ 2 4 4096 64 rfl rfl,I5 ρ 1 5 64 1 rfl rfl,A3v ρ 0 6 1 1 rfl rfl];grind
 | n+7,h=>absurd h (by omega)

/-- THE LAW: what an expression comes to is its value. -/
theorem A4m (ρ:Nat->F) (h:On3 ρ):∀(e:Ex) (p:Pl),e.norm=some p->e.ev ρ=evP ρ p
 | .v i,p,hp=>by
  unfold Ex.norm at hp;split at hp
  ·rename_i hi
   cases hp
   show ρ i=ic 1*J9 ρ 7 0 (64 ^ i)+0;rw[I5t ρ i hi,F6d];grind
  ·exact absurd hp (by intro h;cases h)
 | .one,p,hp=>by
  cases hp
  show (1:F)=ic 1*J9 ρ 7 0 0+0;rw[F8w,F6d];grind
 | .add a b,p,hp=>by
  unfold Ex.norm at hp;split at hp
  ·rename_i q s hq hs
   cases hp
   show a.ev ρ+b.ev ρ=_;rw[B1v,A4m ρ h a q hq,A4m ρ h b s hs]
  ·exact absurd hp (by intro h;cases h)
 | .sub a b,p,hp=>by
  unfold Ex.norm at hp;split at hp
  ·rename_i q s hq hs
   cases hp
   show a.ev ρ - b.ev ρ=_;rw[B1v,E5d,A4m ρ h a q hq,A4m ρ h b s hs];grind
  ·exact absurd hp (by intro h;cases h)
 | .mul a b,p,hp=>by
  unfold Ex.norm at hp;split at hp
  ·rename_i q s hq hs
   split at hp
   ·rename_i hok
    rw[Bool.and_eq_true] at hok
    cases hp
    show a.ev ρ*b.ev ρ=_;rw[G6f ρ h,A4m ρ h a q hq,A4m ρ h b s hs];unfold I5x;rw[E5b,E5c ρ s hok.2 q hok.1]
   ·exact absurd hp (by intro h;cases h)
  ·exact absurd hp (by intro h;cases h)

theorem G9p (ρ:Nat->F) (h:On3 ρ) (a b:Ex) (hn:(Ex.sub a b).norm=some []):a.ev ρ=b.ev ρ:=by
 have e:=A4m ρ h (Ex.sub a b) [] hn;have e:a.ev ρ - b.ev ρ=0:=e;grind
end
end

section

/-- A field. -/
class Fld (F:Type) extends J7 F where
 inv:F->F
 mul_inv:∀a:F,a≠0->a*inv a=1
 one_ne:(1:F)≠0

/-- Three coordinates. -/
structure H3 (α:Type) where
 X:α
 Y:α
 Z:α

section
variable {α:Type} [Add α] [Sub α] [Mul α]
def F4 (a:α):α:=a+a+a
/-- The sum, by formulas without exceptions. -/
def C3 (b:α) (p q:H3 α):H3 α :=
  { X:=(p.X*q.Y+q.X*p.Y)*(p.Y*q.Y-F4 (b*(p.Z*q.Z)))-F4 (b*((p.Y*q.Z+q.Y*p.Z)*(p.X*q.Z+q.X*p.Z)))
    Y:=(p.Y*q.Y+F4 (b*(p.Z*q.Z)))*(p.Y*q.Y-F4 (b*(p.Z*q.Z)))+F4 (F4 (b*((p.X*q.X)*(p.X*q.Z+q.X*p.Z))))
    Z:=(p.Y*q.Z+q.Y*p.Z)*(p.Y*q.Y+F4 (b*(p.Z*q.Z)))+F4 ((p.X*q.X)*(p.X*q.Y+q.X*p.Y)) }
/-- The numerators of the third point of a line, mirrored. -/
def nX (e d x1 x2:α):α:=e*e-(x1+x2)*(d*d)
def nY (e d x1 x2 y1:α):α:=e*(x1*(d*d)-nX e d x1 x2)-y1*(d*d*d)
end

section
variable {F:Type} [J7 F]
def rho (x1 x2 x3 b y1 y2 y3:F):Nat->F
 | 0=>x1
 | 1=>x2
 | 2=>x3
 | 3=>b
 | 4=>y1
 | 5=>y2
 | _=>y3
end

def eP:H3 Ex:=⟨.v 0,.v 4,.one⟩
def eQ:H3 Ex:=⟨.v 1,.v 5,.one⟩
def eR:H3 Ex:=⟨.v 2,.v 6,.one⟩
def eN:H3 Ex:=⟨.v 0,.sub (.sub .one .one) (.v 4),.one⟩
def eA:H3 Ex:=C3 (.v 3) (C3 (.v 3) eP eQ) eR
def eB:H3 Ex:=C3 (.v 3) eP (C3 (.v 3) eQ eR)
def eE:Ex:=.v 5 - .v 4
def eD:Ex:=.v 1 - .v 0
def eE2:Ex:=F4 (.v 0 * .v 0)
def eD2:Ex:=.v 4 + .v 4
def same (a b:Ex):Bool:=
 match (Ex.sub a b).norm with
 | some []=>true
 | _=>false
theorem O5 {F:Type} [J7 F] (ρ:Nat->F) (h:On3 ρ) (a b:Ex) (hn:same a b=true):a.ev ρ=b.ev ρ:=by
 apply G9p ρ h
 unfold same at hn;split at hn
 ·assumption
 ·exact absurd hn (by decide)

theorem F2f:same (eA.X*eB.Z) (eB.X*eA.Z)=true:=by decide +kernel
theorem F2g:same (eA.Y*eB.Z) (eB.Y*eA.Z)=true:=by decide +kernel
theorem F3a:same ((C3 (.v 3) eP eQ).X*(eD*eD)) (nX eE eD (.v 0) (.v 1)*(C3 (.v 3) eP eQ).Z)=true:=by decide +kernel
theorem F3b:same ((C3 (.v 3) eP eQ).Y*(eD*eD*eD)) (nY eE eD (.v 0) (.v 1) (.v 4)*(C3 (.v 3) eP eQ).Z)=true:=by decide +kernel
theorem F3c:same (C3 (.v 3) eP eQ).Z (nY ((.one - .one) - .v 5 - .v 4) eD (.v 0) (.v 1) (.v 4))=true:=by decide +kernel
theorem D4e:same (nY eE eD (.v 0) (.v 1) (.v 4)*nY eE eD (.v 0) (.v 1) (.v 4)) (nX eE eD (.v 0) (.v 1)*nX eE eD (.v 0) (.v 1)*nX eE eD (.v 0) (.v 1) + .v 3*(eD*eD*eD*(eD*eD*eD)))=true:=by decide +kernel
theorem G3o:same ((C3 (.v 3) eP eP).X*(eD2*eD2)) (nX eE2 eD2 (.v 0) (.v 0)*(C3 (.v 3) eP eP).Z)=true:=by decide +kernel
theorem G3p:same ((C3 (.v 3) eP eP).Y*(eD2*eD2*eD2)) (nY eE2 eD2 (.v 0) (.v 0) (.v 4)*(C3 (.v 3) eP eP).Z)=true:=by decide +kernel
theorem G3q:same (C3 (.v 3) eP eP).Z (eD2*eD2*eD2)=true:=by decide +kernel
theorem D8q:same (nY eE2 eD2 (.v 0) (.v 0) (.v 4)*nY eE2 eD2 (.v 0) (.v 0) (.v 4)) (nX eE2 eD2 (.v 0) (.v 0)*nX eE2 eD2 (.v 0) (.v 0)*nX eE2 eD2 (.v 0) (.v 0) + .v 3*(eD2*eD2*eD2*(eD2*eD2*eD2)))=true:=by decide +kernel
theorem G8h:same (C3 (.v 3) eP eN).X (.one - .one)=true:=by decide +kernel
theorem G8j:same (C3 (.v 3) eP eN).Z (.one - .one)=true:=by decide +kernel
theorem G8i:same (C3 (.v 3) eP eN).Y (nY eE2 eD2 (.v 0) (.v 0) (.v 4))=true:=by decide +kernel

section
variable {F:Type} [Fld F]

theorem C2 {a b:F} (ha:a≠0) (hb:b≠0):a*b≠0:=by
 intro h;apply hb
 have e:=Fld.mul_inv a ha;have:b=a*b*Fld.inv a:=by grind
 rw[this,h];grind

theorem C0t {a b c:F} (hc:c≠0) (h:a*c=b*c):a=b:=by
 have e:=Fld.mul_inv c hc;have h1:a=a*c*Fld.inv c:=by grind
 have h2:b=b*c*Fld.inv c:=by grind
 rw[h1,h2,h]

/-- A point of the curve; none: at infinity. -/
abbrev Pt (F:Type):=Option (F×F)
def OnC (b:F):Pt F->Prop
 | none=>True
 | some p=>p.2*p.2=p.1*p.1*p.1+b

/-- The third point of a line that goes up by e at d, mirrored. -/
def thr (e d x1 x2 y1:F):F×F:=
 (e*Fld.inv d*(e*Fld.inv d)-x1-x2,e*Fld.inv d*(x1-(e*Fld.inv d*(e*Fld.inv d)-x1-x2))-y1)

theorem G3f (e d x1 x2 y1:F) (hd:d≠0):(thr e d x1 x2 y1).1*(d*d)=nX e d x1 x2:=by
 have h:=Fld.mul_inv d hd;unfold thr nX;dsimp only;grind
theorem G3g (e d x1 x2 y1:F) (hd:d≠0):(thr e d x1 x2 y1).2*(d*d*d)=nY e d x1 x2 y1:=by
 have h:=Fld.mul_inv d hd;unfold thr nY nX;dsimp only;grind

def P5:Pt F->Pt F
 | none=>none
 | some p=>some (p.1,0-p.2)

/-- Three coordinates that stand for a point. -/
def Rp:Pt F->H3 F->Prop
 | none,t=>t.X=0∧t.Z=0∧t.Y≠0
 | some p,t=>t.Z≠0∧t.X=p.1*t.Z∧t.Y=p.2*t.Z
def nrm:Pt F->H3 F
 | none=>⟨0,1,0⟩
 | some p=>⟨p.1,p.2,1⟩
def sc (c:F) (t:H3 F):H3 F:=⟨c*t.X,c*t.Y,c*t.Z⟩

theorem D2p:∀P:Pt F,Rp P (nrm P)
 | none=>⟨rfl,rfl,Fld.one_ne⟩
 | some p=>⟨Fld.one_ne,by show p.1=p.1*1;grind,by show p.2=p.2*1;grind⟩

theorem G2i (c:F) (hc:c≠0):∀(P:Pt F) (t:H3 F),Rp P t->Rp P (sc c t)
 | none,t,⟨h1,h2,h3⟩=>⟨by show c*t.X=0;rw[h1];grind,by show c*t.Z=0;rw[h2];grind,C2 hc h3⟩
 | some p,t,⟨h1,h2,h3⟩=>⟨C2 hc h1,by show c*t.X=p.1*(c*t.Z);rw[h2];grind,by show c*t.Y=p.2*(c*t.Z);rw[h3];grind⟩

theorem H3u:∀(P:Pt F) (t:H3 F),Rp P t->∃c,c≠0∧t=sc c (nrm P)
 | none,⟨X,Y,Z⟩,⟨h1,h2,h3⟩=>⟨Y,h3,by
   have h1:X=0:=h1;have h2:Z=0:=h2;subst h1;subst h2
   show (⟨0,Y,0⟩:H3 F)=⟨Y*0,Y*1,Y*0⟩;have e0:Y*0=0:=by grind
   have e1:Y*1=Y:=by grind
   rw[e0,e1]⟩
 | some p,⟨X,Y,Z⟩,⟨h1,h2,h3⟩=>⟨Z,h1,by
   have h2:X=p.1*Z:=h2;have h3:Y=p.2*Z:=h3;rw[h2,h3];show (⟨p.1*Z,p.2*Z,Z⟩:H3 F)=⟨Z*p.1,Z*p.2,Z*1⟩;have e0:Z*p.1=p.1*Z:=by grind
   have e1:Z*p.2=p.2*Z:=by grind
   have e2:Z*1=Z:=by grind
   rw[e0,e1,e2]⟩

theorem D8e:∀(P Q:Pt F) (t s:H3 F),Rp P t->Rp Q s->t.X*s.Z=s.X*t.Z->t.Y*s.Z=s.Y*t.Z->P=Q
 | none,none,_,_,_,_,_,_=>rfl
 | none,some q,t,s,⟨_,h2,h3⟩,⟨k1,_,_⟩,_,eY=>by
  rw[h2] at eY;exact absurd (by rw[eY];grind) (C2 h3 k1)
 | some p,none,t,s,⟨h1,_,_⟩,⟨_,k2,k3⟩,_,eY=>by
  rw[k2] at eY;exact absurd (by rw[<-eY];grind) (C2 k3 h1)
 | some p,some q,t,s,⟨h1,h2,h3⟩,⟨k1,k2,k3⟩,eX,eY=>by
  have hz:=C2 h1 k1;rw[h2,k2] at eX;rw[h3,k3] at eY;have e1:p.1=q.1:=C0t hz (by grind)
  have e2:p.2=q.2:=C0t hz (by grind)
  rw[show p=(p.1,p.2) from rfl,e1,e2]

theorem I3j (b l m:F) (p q:H3 F):C3 b (sc l p) (sc m q)=sc (l*l*(m*m)) (C3 b p q):=by
 unfold C3 sc F4;dsimp only;congr 1
 ·grind
 ·grind
 ·grind

/-- What a curve must bear. -/
structure Cv (b:F):Prop where
 two:(1:F)+1≠0
 no2:∀x:F,x*x*x+b≠0

variable {b:F}
theorem B3w (hc:Cv b) {x y:F} (h:y*y=x*x*x+b):y≠0:=by
 intro hy;apply hc.no2 x
 rw[<-h,hy];grind

theorem F9t (hc:Cv b) {n m d:F} (hd:d≠0) (h:m*m=n*n*n+b*(d*d*d*(d*d*d))):m≠0:=by
 have e:=Fld.mul_inv d hd;intro hm;apply hc.no2 (n*(Fld.inv d*Fld.inv d))
 subst hm;grind

theorem D3l (hc:Cv b) {x y:F} (h:y*y=x*x*x+b) (P:F×F) (hP:P=thr (F4 (x*x)) (y+y) x x y):y+y≠0∧P.1*((y+y)*(y+y))=nX (F4 (x*x)) (y+y) x x∧P.2*((y+y)*(y+y)*(y+y))=nY (F4 (x*x)) (y+y) x x y:=by
 have hy:=B3w hc h;have hd:y+y≠0:=by
  have:=C2 hc.two hy
  intro e;apply this
  grind
 subst hP;exact ⟨hd,G3f _ _ _ _ _ hd,G3g _ _ _ _ _ hd⟩

theorem G0b {n m d:F} (hd:d≠0) (P:F×F) (h1:P.1*(d*d)=n) (h2:P.2*(d*d*d)=m) (h:m*m=n*n*n+b*(d*d*d*(d*d*d))):OnC b (some P):=by
 show P.2*P.2=P.1*P.1*P.1+b;subst h1;subst h2
 have hz:=C2 (C2 (C2 hd hd) hd) (C2 (C2 hd hd) hd);exact C0t hz (by grind)

theorem U1:∀(P:Pt F),OnC b P->OnC b (P5 P)
 | none,_=>True.intro
 | some (x,y),h=>by
  have h:y*y=x*x*x+b:=h;show (0-y)*(0-y)=x*x*x+b;grind

section
variable [DecidableEq F]
def C5:Pt F->Pt F->Pt F
 | none,q=>q
 | some p,none=>some p
 | some p,some q=>
  if p.1=q.1 then
   if p.2=q.2∧p.2≠0 then some (thr (F4 (p.1*p.1)) (p.2+p.2) p.1 p.1 p.2) else none
  else some (thr (q.2-p.2) (q.1-p.1) p.1 q.1 p.2)

theorem J8 (hc:Cv b):∀(P Q:Pt F),OnC b P->OnC b Q->OnC b (C5 P Q)
 | none,Q,_,hq=>hq
 | some p,none,hp,_=>hp
 | some (x1,y1),some (x2,y2),hp,hq=>by
  have hp:y1*y1=x1*x1*x1+b:=hp;have hq:y2*y2=x2*x2*x2+b:=hq;unfold C5;dsimp only;by_cases hx:x1=x2
  ·rw[if_pos hx]
   by_cases hy:y1=y2∧y1≠0
   ·rw[if_pos hy]
    obtain ⟨hd,h1,h2⟩:=D3l hc hp _ rfl;exact G0b hd _ h1 h2 (O5 (rho x1 x1 x1 b y1 y1 y1) ⟨hp,hp,hp⟩ _ _ D8q)
   ·rw[if_neg hy]
    exact True.intro
  ·rw[if_neg hx]
   have hd:x2-x1≠0:=fun e=>hx (by grind)
   exact G0b hd _ (G3f _ _ _ _ _ hd) (G3g _ _ _ _ _ hd) (O5 (rho x1 x2 x1 b y1 y2 y1) ⟨hp,hq,hp⟩ _ _ D4e)

theorem A5t (hc:Cv b):∀(P Q:Pt F),OnC b P->OnC b Q->Rp (C5 P Q) (C3 b (nrm P) (nrm Q))
 | none,none,_,_=>by
  refine ⟨?_,?_,?_⟩
  ·show (0*1+0*1)*(1*1-F4 (b*(0*0)))-F4 (b*((1*0+1*0)*(0*0+0*0)))=(0:F)
   unfold F4;grind
  ·show (1*0+1*0)*(1*1+F4 (b*(0*0)))+F4 ((0*0)*(0*1+0*1))=(0:F)
   unfold F4;grind
  ·have:(C3 b (nrm (none:Pt F)) (nrm none)).Y=1:=by
    show (1*1+F4 (b*(0*0)))*(1*1-F4 (b*(0*0)))+F4 (F4 (b*((0*0)*(0*0+0*0))))=(1:F);unfold F4;grind
   rw[this];exact Fld.one_ne
 | none,some (x,y),_,hq=>by
  have hq:y*y=x*x*x+b:=hq;have hy:=B3w hc hq;have e:C3 b (nrm (none:Pt F)) (nrm (some (x,y)))=sc y (nrm (some (x,y))):=by
   unfold C3 nrm sc F4;dsimp only;congr 1
   ·grind
   ·grind
   ·grind
  rw[e];exact G2i y hy _ _ (D2p _)
 | some (x,y),none,hq,_=>by
  have hq:y*y=x*x*x+b:=hq;have hy:=B3w hc hq;have e:C3 b (nrm (some (x,y))) (nrm (none:Pt F))=sc y (nrm (some (x,y))):=by
   unfold C3 nrm sc F4;dsimp only;congr 1
   ·grind
   ·grind
   ·grind
  rw[e];exact G2i y hy _ _ (D2p _)
 | some (x1,y1),some (x2,y2),hp,hq=>by
  have hp:y1*y1=x1*x1*x1+b:=hp;have hq:y2*y2=x2*x2*x2+b:=hq;unfold C5;dsimp only;by_cases hx:x1=x2
  ·rw[if_pos hx]
   subst hx;by_cases hy:y1=y2∧y1≠0
   ·rw[if_pos hy]
    obtain ⟨hy,_⟩:=hy;subst hy;obtain ⟨hd,h1,h2⟩:=D3l hc hp _ rfl;have o:On3 (rho x1 x1 x1 b y1 y1 y1):=⟨hp,hp,hp⟩;have eX:=O5 _ o _ _ G3o;have eY:=O5 _ o _ _ G3p;have eZ:=O5 _ o _ _ G3q;have eX:(C3 b (nrm (some (x1,y1))) (nrm (some (x1,y1)))).X*((y1+y1)*(y1+y1))=nX (F4 (x1*x1)) (y1+y1) x1 x1*(C3 b (nrm (some (x1,y1))) (nrm (some (x1,y1)))).Z:=eX;have eY:(C3 b (nrm (some (x1,y1))) (nrm (some (x1,y1)))).Y*((y1+y1)*(y1+y1)*(y1+y1))=nY (F4 (x1*x1)) (y1+y1) x1 x1 y1*(C3 b (nrm (some (x1,y1))) (nrm (some (x1,y1)))).Z:=eY;have eZ:(C3 b (nrm (some (x1,y1))) (nrm (some (x1,y1)))).Z=(y1+y1)*(y1+y1)*(y1+y1):=eZ;generalize C3 b (nrm (some (x1,y1))) (nrm (some (x1,y1)))=t at eX eY eZ ⊢
    generalize thr (F4 (x1*x1)) (y1+y1) x1 x1 y1=P at h1 h2 ⊢
    rw[<-h1] at eX;rw[<-h2] at eY;generalize y1+y1=d at hd eX eY eZ;refine ⟨?_,C0t (C2 hd hd) (by grind),C0t (C2 (C2 hd hd) hd) (by grind)⟩
    rw[eZ];exact C2 (C2 hd hd) hd
   ·rw[if_neg hy]
    have h0:(y1-y2)*(y1+y2)=0:=by grind
    have hn:y2=0-y1:=by
     by_cases e:y1=y2
     ·exact absurd ⟨e,B3w hc hp⟩ hy
     ·have hd:y1-y2≠0:=fun h=>e (by grind)
      have:y1+y2=0:=by
       apply C0t hd
       grind
      grind
    subst hn;have o:On3 (rho x1 x1 x1 b y1 y1 y1):=⟨hp,hp,hp⟩;have eX:=O5 _ o _ _ G8h;have eY:=O5 _ o _ _ G8i;have eZ:=O5 _ o _ _ G8j;obtain ⟨hd,-,-⟩:=D3l hc hp _ rfl;have hm:=F9t hc hd (O5 _ o _ _ D8q);have e0:(1:F)-1=0:=by grind
    have eX:(C3 b (nrm (some (x1,y1))) ⟨x1,(1-1)-y1,1⟩).X=1-1:=eX;have eY:(C3 b (nrm (some (x1,y1))) ⟨x1,(1-1)-y1,1⟩).Y=nY (F4 (x1*x1)) (y1+y1) x1 x1 y1:=eY;have eZ:(C3 b (nrm (some (x1,y1))) ⟨x1,(1-1)-y1,1⟩).Z=1-1:=eZ;rw[e0] at eX eY eZ;exact ⟨eX,eZ,by show (C3 b (nrm (some (x1,y1))) ⟨x1,0-y1,1⟩).Y≠0;rw[eY];exact hm⟩
  ·rw[if_neg hx]
   have hd:x2-x1≠0:=fun e=>hx (by grind)
   have o:On3 (rho x1 x2 x1 b y1 y2 y1):=⟨hp,hq,hp⟩;have eX:=O5 _ o _ _ F3a;have eY:=O5 _ o _ _ F3b;have eZ:=O5 _ o _ _ F3c;have h1:=G3f (y2-y1) (x2-x1) x1 x2 y1 hd;have h2:=G3g (y2-y1) (x2-x1) x1 x2 y1 hd;have hz:(C3 b (nrm (some (x1,y1))) (nrm (some (x2,y2)))).Z≠0:=by
    have eZ:(C3 b (nrm (some (x1,y1))) (nrm (some (x2,y2)))).Z=nY ((1-1)-y2-y1) (x2-x1) x1 x2 y1:=eZ;rw[eZ];have o' : On3 (rho x1 x2 x1 b y1 (1-1-y2) y1):=⟨hp,by show (1-1-y2)*(1-1-y2)=x2*x2*x2+b;grind,hp⟩
    exact F9t hc hd (O5 _ o' _ _ D4e)
   have eX:(C3 b (nrm (some (x1,y1))) (nrm (some (x2,y2)))).X*((x2-x1)*(x2-x1))=nX (y2-y1) (x2-x1) x1 x2*(C3 b (nrm (some (x1,y1))) (nrm (some (x2,y2)))).Z:=eX;have eY:(C3 b (nrm (some (x1,y1))) (nrm (some (x2,y2)))).Y*((x2-x1)*(x2-x1)*(x2-x1))=nY (y2-y1) (x2-x1) x1 x2 y1*(C3 b (nrm (some (x1,y1))) (nrm (some (x2,y2)))).Z:=eY;generalize C3 b (nrm (some (x1,y1))) (nrm (some (x2,y2)))=t at eX eY hz ⊢
   generalize thr (y2-y1) (x2-x1) x1 x2 y1=P at h1 h2 ⊢
   rw[<-h1] at eX;rw[<-h2] at eY;generalize x2-x1=d at hd eX eY;exact ⟨hz,C0t (C2 hd hd) (by grind),C0t (C2 (C2 hd hd) hd) (by grind)⟩

theorem E5n (hc:Cv b) (P Q:Pt F) (hP:OnC b P) (hQ:OnC b Q) (p q:H3 F) (hp:Rp P p) (hq:Rp Q q):Rp (C5 P Q) (C3 b p q):=by
 obtain ⟨l,hl,e⟩:=H3u P p hp;obtain ⟨m,hm,e'⟩:=H3u Q q hq;rw[e,e',I3j];exact G2i _ (C2 (C2 hl hl) (C2 hm hm)) _ _ (A5t hc P Q hP hQ)

theorem O9 (P:Pt F):C5 P none=P:=by cases P<;>rfl

theorem V5 (hc:Cv b) (P Q:Pt F) (hP:OnC b P) (hQ:OnC b Q):C5 P Q=C5 Q P:=by
 have h1:=A5t hc P Q hP hQ;have h2:=A5t hc Q P hQ hP;have e:C3 b (nrm P) (nrm Q)=C3 b (nrm Q) (nrm P):=by
  generalize nrm P=p;generalize nrm Q=q;unfold C3 F4;congr 1
  ·grind
  ·grind
  ·grind
 rw[<-e] at h2;exact D8e _ _ _ _ h1 h2 rfl rfl

theorem O1 (hc:Cv b):∀(P Q R:Pt F),OnC b P->OnC b Q->OnC b R->C5 (C5 P Q) R=C5 P (C5 Q R)
 | none,_,_,_,_,_=>rfl
 | some p,none,R,_,_,_=>by rw[O9];rfl
 | some p,some q,none,_,_,_=>by rw[O9,O9]
 | some (x1,y1),some (x2,y2),some (x3,y3),hp,hq,hr=>by
  have o:On3 (rho x1 x2 x3 b y1 y2 y3):=⟨hp,hq,hr⟩;have eX:=O5 _ o _ _ F2f;have eY:=O5 _ o _ _ F2g;have hA:=E5n hc _ _ (J8 hc _ _ hp hq) hr _ _ (A5t hc _ _ hp hq) (D2p _);have hB:=E5n hc _ _ hp (J8 hc _ _ hq hr) _ _ (D2p _) (A5t hc _ _ hq hr);exact D8e _ _ _ _ hA hB eX eY

theorem R1 (hc:Cv b):∀(P:Pt F),OnC b P->C5 P (P5 P)=none
 | none,_=>rfl
 | some (x,y),h=>by
  have h:y*y=x*x*x+b:=h;have hy:=B3w hc h;show (if x=x then if y=0-y∧y≠0 then _ else none else _)=_
  rw[if_pos rfl,if_neg];intro ⟨e,_⟩
  have:=C2 hc.two hy
  apply this
  grind
end
end
end

section

section
variable {F:Type} [Add F] [Sub F] [Mul F] [OfNat F 0]
def jng (a:F×F×F):F×F×F:=(a.1,0-a.2.1,a.2.2)
variable [DecidableEq F]
/-- Twice a point. -/
def jtw (a:F×F×F):F×F×F:=
 if a.2.2=0 then a else
 let xx:=a.1*a.1
 let yy:=a.2.1*a.2.1
 let four:=yy*yy
 let d:=(a.1+yy)*(a.1+yy)-xx-four
 let d:=d+d
 let e:=xx+xx+xx
 let x:=e*e-d-d
 let eight:=four+four
 let eight:=eight+eight
 let eight:=eight+eight
 let z:=a.2.1*a.2.2
 (x,e*(d-x)-eight,z+z)

/-- The sum of two points. -/
def jpl (a b:F×F×F):F×F×F:=
 if a.2.2=0 then b else if b.2.2=0 then a else
 let za:=a.2.2*a.2.2
 let zb:=b.2.2*b.2.2
 let u:=a.1*zb
 let v:=b.1*za
 let s:=a.2.1*zb*b.2.2
 let t:=b.2.1*za*a.2.2
 let h:=v-u
 let r:=t-s
 if h=0 then (if r=0 then jtw a else (a.1,a.2.1,0)) else
 let hh:=h*h
 let hhh:=hh*h
 let uhh:=u*hh
 let x:=r*r-hhh-uhh-uhh
 (x,r*(uhh-x)-s*hhh,h*a.2.2*b.2.2)

end


section
variable {F:Type} [Fld F]

/-- A point, as three coordinates. -/
def Jc:Pt F->F×F×F->Prop
 | none,t=>t.2.2=0
 | some p,t=>t.2.2≠0∧t.1=p.1*(t.2.2*t.2.2)∧t.2.1=p.2*(t.2.2*t.2.2*t.2.2)


theorem E0w:∀(P:Pt F) (t:F×F×F),Jc P t->Jc (P5 P) (jng t)
 | none,t,h=>h
 | some p,t,⟨hz,hx,hy⟩=>⟨hz,hx,by
  show 0-t.2.1=(0-p.2)*(t.2.2*t.2.2*t.2.2);rw[hy];grind⟩

variable [DecidableEq F]

theorem A5w (two:(1:F)+1≠0):∀(P:Pt F) (t:F×F×F),Jc P t->Jc (C5 P P) (jtw t)
 | none,t,h=>by
  have h:t.2.2=0:=h;unfold jtw;rw[if_pos h];exact h
 | some (x,y),(X,Y,Z),h=>by
  have hz:Z≠0:=h.1;have hx:X=x*(Z*Z):=h.2.1;have hy:Y=y*(Z*Z*Z):=h.2.2;clear h;unfold jtw;dsimp only;rw[if_neg hz];show Jc (if x=x then if y=y∧y≠0 then some (thr (F4 (x*x)) (y+y) x x y) else none else _) _
  rw[if_pos rfl];by_cases h0:y=0
  ·rw[if_neg (fun h=>h.2 h0)]
   show Y*Z+Y*Z=0;rw[hy,h0];grind
  ·rw[if_pos ⟨rfl,h0⟩]
   have hd:y+y≠0:=by
    have:=C2 two h0
    intro e;apply this
    grind
   have h1:=G3f (F4 (x*x)) (y+y) x x y hd;have h2:=G3g (F4 (x*x)) (y+y) x x y hd;generalize thr (F4 (x*x)) (y+y) x x y=P at h1 h2 ⊢
   unfold nX F4 at h1;unfold nY nX F4 at h2;subst hx hy;refine ⟨?_,?_,?_⟩
   ·show y*(Z*Z*Z)*Z+y*(Z*Z*Z)*Z≠0
    have:=C2 hd (C2 (C2 (C2 hz hz) hz) hz)
    intro e;apply this
    grind
   ·dsimp only
    grind
   ·dsimp only
    grind

theorem A2y (two:(1:F)+1≠0):∀(P Q:Pt F) (s t:F×F×F),Jc P s->Jc Q t->Jc (C5 P Q) (jpl s t)
 | none,Q,s,t,h,k=>by
  have h:s.2.2=0:=h;unfold jpl;rw[if_pos h];exact k
 | some p,none,s,t,h,k=>by
  have k:t.2.2=0:=k;unfold jpl;rw[if_neg h.1,if_pos k];exact h
 | some (x1,y1),some (x2,y2),(X1,Y1,Z1),(X2,Y2,Z2),h,k=>by
  have hd:=A5w two (some (x1,y1)) (X1,Y1,Z1) h;have hz:Z1≠0:=h.1;have hx:X1=x1*(Z1*Z1):=h.2.1;have hy:Y1=y1*(Z1*Z1*Z1):=h.2.2;have kz:Z2≠0:=k.1;have kx:X2=x2*(Z2*Z2):=k.2.1;have ky:Y2=y2*(Z2*Z2*Z2):=k.2.2;clear h k;have hw:=C2 hz kz;unfold jpl;dsimp only;rw[if_neg hz,if_neg kz];have eh:X2*(Z1*Z1)-X1*(Z2*Z2)=(x2-x1)*(Z1*Z2*(Z1*Z2)):=by rw[hx,kx];grind
  have er:Y2*(Z1*Z1)*Z1-Y1*(Z2*Z2)*Z2=(y2-y1)*(Z1*Z2*(Z1*Z2)*(Z1*Z2)):=by rw[hy,ky];grind
  rw[eh,er];by_cases e1:x1=x2
  ·have:(x2-x1)*(Z1*Z2*(Z1*Z2))=0:=by rw[e1];grind
   rw[if_pos this];by_cases e2:y1=y2
   ·have:(y2-y1)*(Z1*Z2*(Z1*Z2)*(Z1*Z2))=0:=by rw[e2];grind
    rw[if_pos this];subst e1 e2;exact hd
   ·have:¬(y2-y1)*(Z1*Z2*(Z1*Z2)*(Z1*Z2))=0:=C2 (fun e=>e2 (by grind)) (C2 (C2 hw hw) hw)
    rw[if_neg this];have hn:C5 (some (x1,y1)) (some (x2,y2))=none:=by
     show (if x1=x2 then if y1=y2∧y1≠0 then _ else none else _)=_
     rw[if_pos e1,if_neg (fun h=>e2 h.1)]
    rw[hn];rfl
  ·have hdn:x2-x1≠0:=fun e=>e1 (by grind)
   have:¬(x2-x1)*(Z1*Z2*(Z1*Z2))=0:=C2 hdn (C2 hw hw)
   rw[if_neg this];have hn:C5 (some (x1,y1)) (some (x2,y2))=some (thr (y2-y1) (x2-x1) x1 x2 y1):=by
    show (if x1=x2 then if y1=y2∧y1≠0 then _ else none else _)=_
    rw[if_neg e1]
   rw[hn];have h1:=G3f (y2-y1) (x2-x1) x1 x2 y1 hdn;have h2:=G3g (y2-y1) (x2-x1) x1 x2 y1 hdn;generalize thr (y2-y1) (x2-x1) x1 x2 y1=P at h1 h2 ⊢
   unfold nX at h1;unfold nY nX at h2;have ez:(x2-x1)*(Z1*Z2*(Z1*Z2))*Z1*Z2=(x2-x1)*(Z1*Z2*(Z1*Z2)*(Z1*Z2)):=by grind
   have eu:X1*(Z2*Z2)=x1*(Z1*Z2*(Z1*Z2)):=by rw[hx];grind
   have es:Y1*(Z2*Z2)*Z2=y1*(Z1*Z2*(Z1*Z2)*(Z1*Z2)):=by rw[hy];grind
   rw[ez,eu,es];clear hd hx hy kx ky eh er ez eu es this hn hz kz;generalize Z1*Z2=W at hw ⊢
   generalize hdd:x2-x1=d at h1 h2 hdn ⊢
   generalize y2-y1=e at h1 h2 ⊢
   have hx2:x2=d+x1:=by grind
   subst hx2;refine ⟨C2 hdn (C2 (C2 hw hw) hw),?_,?_⟩
   ·dsimp only
    grind
   ·dsimp only
    grind

/-- The point that coordinates stand for. -/
def jpt (t:F×F×F):Pt F:=if t.2.2=0 then none else some (t.1*(Fld.inv t.2.2*Fld.inv t.2.2),t.2.1*(Fld.inv t.2.2*Fld.inv t.2.2)*Fld.inv t.2.2)

theorem D0m:∀(P:Pt F) (t:F×F×F),Jc P t->jpt t=P
 | none,t,h=>by
  have h:t.2.2=0:=h;unfold jpt;rw[if_pos h]
 | some (x,y),(X,Y,Z),h=>by
  have hz:Z≠0:=h.1;have hx:X=x*(Z*Z):=h.2.1;have hy:Y=y*(Z*Z*Z):=h.2.2;clear h;unfold jpt;dsimp only;rw[if_neg hz];have e:=Fld.mul_inv Z hz;have e1:X*(Fld.inv Z*Fld.inv Z)=x:=by rw[hx];grind
  have e2:Y*(Fld.inv Z*Fld.inv Z)*Fld.inv Z=y:=by rw[hy];grind
  rw[e1,e2]

end
end

section

theorem D7l {α β:Type} [DecidableEq α] [DecidableEq β] (a c:α) (b d:β):decide ((a,b)=(c,d))=(decide (a=c) && decide (b=d)):=by
 by_cases h1:a=c<;>by_cases h2:b=d<;>simp [h1,h2]

section
variable {r:Nat}

/-- A, and B times u, where u times u is -1. -/
abbrev Q2 (r:Nat):=Fin r×Fin r
instance addQ2:Add (Q2 r):=⟨fun x y=>(x.1+y.1,x.2+y.2)⟩
instance subQ2:Sub (Q2 r):=⟨fun x y=>(x.1-y.1,x.2-y.2)⟩
instance mulQ2:Mul (Q2 r):=⟨fun x y=>(x.1*y.1-x.2*y.2,x.1*y.2+x.2*y.1)⟩
theorem G1 {x y:Q2 r} (h1:x.1=y.1) (h2:x.2=y.2):x=y:=Prod.ext h1 h2
theorem G4k (x y:Q2 r):(x+y).1=x.1+y.1:=rfl
theorem G4l (x y:Q2 r):(x+y).2=x.2+y.2:=rfl
theorem C5i (x y:Q2 r):(x*y).1=x.1*y.1-x.2*y.2:=rfl
theorem C5j (x y:Q2 r):(x*y).2=x.1*y.2+x.2*y.1:=rfl
end

section
variable {r:Nat} [NeZero r]
instance negQ2:Neg (Q2 r):=⟨fun x=>(0-x.1,0-x.2)⟩
instance ofNatQ2 (n:Nat):OfNat (Q2 r) n:=⟨(Fin.ofNat r n,0)⟩
def I6s (x:Q2 r):Nat->Q2 r
 | 0=>1
 | n+1=>I6s x n*x

theorem I9s:Fin.ofNat r 1=1:=rfl
theorem C2q (n:Nat):Fin.ofNat r (n+1)=Fin.ofNat r n+Fin.ofNat r 1:=by
 apply Fin.ext
 show (n+1) % r=(n % r+1 % r) % r;rw[<-Nat.add_mod]
theorem F9e:∀n:Nat,(nc n:Fin r)=Fin.ofNat r n
 | 0=>rfl
 | n+1=>by
  show nc n+1=Fin.ofNat r (n+1);rw[F9e n,C2q];rfl
theorem E5v (n:Nat):(ic (n:Int):Fin r)=Fin.ofNat r n:=(I4 n).trans (F9e n)

instance ringQ2:J7 (Q2 r) where
 natCast:=⟨fun n=>(Fin.ofNat r n,0)⟩
 ofNat:=ofNatQ2
 nsmul:=⟨fun n x=>(Fin.ofNat r n,0)*x⟩
 npow:=⟨fun x n=>I6s x n⟩
 add_zero x:=G1 (by show x.1+0=x.1;grind) (by show x.2+0=x.2;grind)
 add_comm x y:=G1 (by show x.1+y.1=y.1+x.1;grind) (by show x.2+y.2=y.2+x.2;grind)
 add_assoc x y z:=G1 (by show x.1+y.1+z.1=x.1+(y.1+z.1);grind) (by show x.2+y.2+z.2=x.2+(y.2+z.2);grind)
 mul_assoc x y z:=G1 (by simp only[C5i,C5j];grind) (by simp only[C5i,C5j];grind)
 mul_one x:=G1 (by show x.1*1-x.2*0=x.1;grind) (by show x.1*0+x.2*1=x.2;grind)
 one_mul x:=G1 (by show 1*x.1-0*x.2=x.1;grind) (by show 1*x.2+0*x.1=x.2;grind)
 left_distrib x y z:=G1 (by simp only[C5i,G4k,G4l];grind) (by simp only[C5j,G4k,G4l];grind)
 right_distrib x y z:=G1 (by simp only[C5i,G4k,G4l];grind) (by simp only[C5j,G4k,G4l];grind)
 zero_mul x:=G1 (by show 0*x.1-0*x.2=0;grind) (by show 0*x.2+0*x.1=0;grind)
 mul_zero x:=G1 (by show x.1*0-x.2*0=0;grind) (by show x.1*0+x.2*0=0;grind)
 pow_zero x:=rfl
 pow_succ x n:=rfl
 ofNat_succ n:=G1 (C2q n) (by show (0:Fin r)=0+0;grind)
 ofNat_eq_natCast n:=rfl
 nsmul_eq_natCast_mul n x:=rfl
 intCast:=⟨fun i=>(ic i,0)⟩
 zsmul:=⟨fun i x=>(ic i,0)*x⟩
 neg_add_cancel x:=G1 (by show 0-x.1+x.1=0;grind) (by show 0-x.2+x.2=0;grind)
 sub_eq_add_neg x y:=G1 (by show x.1-y.1=x.1+(0-y.1);grind) (by show x.2-y.2=x.2+(0-y.2);grind)
 neg_zsmul i x:=by
  have e:(ic (-i):Fin r) = - ic i:=O2 i;refine G1 ?_ ?_
  ·show ic (-i)*x.1-0*x.2=0-(ic i*x.1-0*x.2)
   rw[e];grind
  ·show ic (-i)*x.2+0*x.1=0-(ic i*x.2+0*x.1)
   rw[e];grind
 zsmul_natCast_eq_nsmul n x:=by
  show ((ic (n:Int),0):Q2 r)*x=(Fin.ofNat r n,0)*x;rw[E5v]
 intCast_ofNat n:=G1 (E5v n) rfl
 intCast_neg i:=by
  have e:(ic (-i):Fin r) = - ic i:=O2 i;refine G1 ?_ ?_
  ·show ic (-i)=0-ic i
   rw[e];grind
  ·show (0:Fin r)=0-0
   grind
 mul_comm x y:=G1 (by simp only[C5i];grind) (by simp only[C5j];grind)

/-- An element times its conjugate. -/
def nQ2 (x:Q2 r):Fin r:=x.1*x.1+x.2*x.2
theorem B2z (x y:Q2 r):nQ2 (x*y)=nQ2 x*nQ2 y:=by
 unfold nQ2;simp only[C5i,C5j];grind
/-- 1 divided by it, of an inverse for the lesser field. -/
def A9j (iv:Fin r->Fin r) (x:Q2 r):Q2 r:=(x.1*iv (nQ2 x),0-x.2*iv (nQ2 x))
theorem F6r (iv:Fin r->Fin r) (hiv:∀x,x≠0->x*iv x=1) (hn:∀x:Q2 r,nQ2 x=0->x=0) (x:Q2 r) (hx:x≠0):x*A9j iv x=1:=by
 have h:=hiv (nQ2 x) fun e=>hx (hn x e)
 unfold A9j;generalize iv (nQ2 x)=i at h;unfold nQ2 at h;refine G1 ?_ ?_
 ·show x.1*(x.1*i)-x.2*(0-x.2*i)=1
  grind
 ·show x.1*(0-x.2*i)+x.2*(x.1*i)=0
  grind

theorem E3k (t:Fin r):∀n,pw (t*t) n=pw t (n+n)
 | 0=>rfl
 | n+1=>by
  rw[show n+1+(n+1)=n+n+1+1 from by omega]
  show pw (t*t) n*(t*t)=pw t (n+n)*t*t;rw[E3k t n,A2k]
/-- Where -1 has no root, only 0 has the norm 0. -/
theorem F9d (iv:Fin r->Fin r) (hiv:∀x,x≠0->x*iv x=1) (hs:∀t:Fin r,t*t ≠ -1) (x:Q2 r) (h:nQ2 x=0):x=0:=by
 unfold nQ2 at h;have h2:x.2=0:=by
  by_cases e:x.2=0
  ·exact e
  ·exfalso
   have hi:=hiv x.2 e;apply hs (x.1*iv x.2)
   generalize iv x.2=i at hi;generalize x.1=a at *;generalize x.2=b at *;grind
 have h1:x.1=0:=by
  by_cases e:x.1=0
  ·exact e
  ·exfalso
   have hi:=hiv x.1 e;rw[h2] at h;apply e
   generalize iv x.1=i at hi;generalize x.1=a at *;grind
 exact G1 h1 h2
end
end

set_option linter.unusedSectionVars false
section

/-- The element whose root is joined. -/
class Nrs (R:Type) where
 xi:R
/-- A and B times the square root. -/
structure E2 (R:Type) where
 a:R
 b:R
/-- A, B times the cube root and C times its square. -/
structure E3 (R:Type) where
 a:R
 b:R
 c:R
theorem E2.ext' {R:Type} {x y:E2 R} (h1:x.a=y.a) (h2:x.b=y.b):x=y:=by cases x;cases y;cases h1;cases h2;rfl
theorem E3.ext' {R:Type} {x y:E3 R} (h1:x.a=y.a) (h2:x.b=y.b) (h3:x.c=y.c):x=y:=by cases x;cases y;cases h1;cases h2;cases h3;rfl
instance {R:Type} [DecidableEq R]:DecidableEq (E2 R):=fun x y=>if h:x.a=y.a∧x.b=y.b then isTrue (E2.ext' h.1 h.2) else isFalse fun e=>h (by rw[e];exact ⟨rfl,rfl⟩)
instance {R:Type} [DecidableEq R]:DecidableEq (E3 R):=fun x y=>if h:x.a=y.a∧x.b=y.b∧x.c=y.c then isTrue (E3.ext' h.1 h.2.1 h.2.2) else isFalse fun e=>h (by rw[e];exact ⟨rfl,rfl,rfl⟩)

theorem A6b {R:Type} [inst:J7 R]:∀n:Nat,(nc n:R)=OfNat.ofNat n
 | 0=>rfl
 | n+1=>by
  show nc n+1=(OfNat.ofNat (n+1):R);rw[A6b n];exact (inst.ofNat_succ n).symm

section
variable {R:Type} [inst:J7 R] [Nrs R]
instance addE2:Add (E2 R):=⟨fun x y=>⟨x.a+y.a,x.b+y.b⟩⟩
instance subE2:Sub (E2 R):=⟨fun x y=>⟨x.a-y.a,x.b-y.b⟩⟩
instance negE2:Neg (E2 R):=⟨fun x=>⟨-x.a,-x.b⟩⟩
instance mulE2:Mul (E2 R):=⟨fun x y=>⟨x.a*y.a+Nrs.xi*(x.b*y.b),x.a*y.b+x.b*y.a⟩⟩
instance ofNatE2 (n:Nat):OfNat (E2 R) n:=⟨⟨OfNat.ofNat n,0⟩⟩
def I6q (x:E2 R):Nat->E2 R
 | 0=>1
 | n+1=>I6q x n*x
theorem E2.add_a (x y:E2 R):(x+y).a=x.a+y.a:=rfl
theorem E2.add_b (x y:E2 R):(x+y).b=x.b+y.b:=rfl
theorem E2.mul_a (x y:E2 R):(x*y).a=x.a*y.a+Nrs.xi*(x.b*y.b):=rfl
theorem E2.mul_b (x y:E2 R):(x*y).b=x.a*y.b+x.b*y.a:=rfl
theorem E2.sub_a (x y:E2 R):(x-y).a=x.a-y.a:=rfl
theorem E2.sub_b (x y:E2 R):(x-y).b=x.b-y.b:=rfl
theorem E2.neg_a (x:E2 R):(-x).a = -x.a:=rfl
theorem E2.neg_b (x:E2 R):(-x).b = -x.b:=rfl
theorem E2.one_a:(1:E2 R).a=1:=rfl
theorem E2.one_b:(1:E2 R).b=0:=rfl
theorem E2.zero_a:(0:E2 R).a=0:=rfl
theorem E2.zero_b:(0:E2 R).b=0:=rfl
instance ringE2:J7 (E2 R) where
 natCast:=⟨fun n=>⟨OfNat.ofNat n,0⟩⟩
 ofNat:=ofNatE2
 nsmul:=⟨fun n x=>(⟨OfNat.ofNat n,0⟩:E2 R)*x⟩
 npow:=⟨fun x n=>I6q x n⟩
 add_zero x:=E2.ext' (by show x.a+0=x.a;grind) (by show x.b+0=x.b;grind)
 add_comm x y:=E2.ext' (by simp only[E2.add_a];grind) (by simp only[E2.add_b];grind)
 add_assoc x y z:=E2.ext' (by simp only[E2.add_a];grind) (by simp only[E2.add_b];grind)
 mul_assoc x y z:=E2.ext' (by simp only[E2.mul_a,E2.mul_b];grind) (by simp only[E2.mul_a,E2.mul_b];grind)
 mul_one x:=E2.ext' (by simp only[E2.mul_a,E2.one_a,E2.one_b];grind) (by simp only[E2.mul_b,E2.one_a,E2.one_b];grind)
 one_mul x:=E2.ext' (by simp only[E2.mul_a,E2.one_a,E2.one_b];grind) (by simp only[E2.mul_b,E2.one_a,E2.one_b];grind)
 left_distrib x y z:=E2.ext' (by simp only[E2.mul_a,E2.add_a,E2.add_b];grind) (by simp only[E2.mul_b,E2.add_a,E2.add_b];grind)
 right_distrib x y z:=E2.ext' (by simp only[E2.mul_a,E2.add_a,E2.add_b];grind) (by simp only[E2.mul_b,E2.add_a,E2.add_b];grind)
 zero_mul x:=E2.ext' (by simp only[E2.mul_a,E2.zero_a,E2.zero_b];grind) (by simp only[E2.mul_b,E2.zero_a,E2.zero_b];grind)
 mul_zero x:=E2.ext' (by simp only[E2.mul_a,E2.zero_a,E2.zero_b];grind) (by simp only[E2.mul_b,E2.zero_a,E2.zero_b];grind)
 pow_zero x:=rfl
 pow_succ x n:=rfl
 ofNat_succ n:=E2.ext' (inst.ofNat_succ n) (by show (0:R)=0+0;grind)
 ofNat_eq_natCast n:=rfl
 nsmul_eq_natCast_mul n x:=rfl
 intCast:=⟨fun i=>⟨ic i,0⟩⟩
 zsmul:=⟨fun i x=>(⟨ic i,0⟩:E2 R)*x⟩
 neg_add_cancel x:=E2.ext' (by show -x.a+x.a=0;grind) (by show -x.b+x.b=0;grind)
 sub_eq_add_neg x y:=E2.ext' (by show x.a-y.a=x.a + -y.a;grind) (by show x.b-y.b=x.b + -y.b;grind)
 neg_zsmul i x:=by
  have e:(ic (-i):R) = - ic i:=O2 i;refine E2.ext' ?_ ?_
  ·show ic (-i)*x.a+Nrs.xi*(0*x.b) = -(ic i*x.a+Nrs.xi*(0*x.b))
   rw[e];grind
  ·show ic (-i)*x.b+0*x.a = -(ic i*x.b+0*x.a)
   rw[e];grind
 zsmul_natCast_eq_nsmul n x:=by
  show (⟨ic (n:Int),0⟩:E2 R)*x=⟨OfNat.ofNat n,0⟩*x;rw[I4,A6b]
 intCast_ofNat n:=E2.ext' (by show (ic (n:Int):R)=OfNat.ofNat n;rw[I4,A6b]) rfl
 intCast_neg i:=by
  have e:(ic (-i):R) = - ic i:=O2 i;refine E2.ext' ?_ ?_
  ·show ic (-i) = - ic i
   rw[e]
  ·show (0:R) = -0
   grind
 mul_comm x y:=E2.ext' (by simp only[E2.mul_a];grind) (by simp only[E2.mul_b];grind)
instance addE3:Add (E3 R):=⟨fun x y=>⟨x.a+y.a,x.b+y.b,x.c+y.c⟩⟩
instance subE3:Sub (E3 R):=⟨fun x y=>⟨x.a-y.a,x.b-y.b,x.c-y.c⟩⟩
instance negE3:Neg (E3 R):=⟨fun x=>⟨-x.a,-x.b,-x.c⟩⟩
instance mulE3:Mul (E3 R):=⟨fun x y=>⟨x.a*y.a+Nrs.xi*(x.b*y.c+x.c*y.b),x.a*y.b+x.b*y.a+Nrs.xi*(x.c*y.c),x.a*y.c+x.b*y.b+x.c*y.a⟩⟩
instance ofNatE3 (n:Nat):OfNat (E3 R) n:=⟨⟨OfNat.ofNat n,0,0⟩⟩
def I6r (x:E3 R):Nat->E3 R
 | 0=>1
 | n+1=>I6r x n*x
theorem E3.add_a (x y:E3 R):(x+y).a=x.a+y.a:=rfl
theorem E3.add_b (x y:E3 R):(x+y).b=x.b+y.b:=rfl
theorem E3.add_c (x y:E3 R):(x+y).c=x.c+y.c:=rfl
theorem E3.sub_a (x y:E3 R):(x-y).a=x.a-y.a:=rfl
theorem E3.sub_b (x y:E3 R):(x-y).b=x.b-y.b:=rfl
theorem E3.neg_a (x:E3 R):(-x).a = -x.a:=rfl
theorem E3.neg_b (x:E3 R):(-x).b = -x.b:=rfl
theorem E3.neg_c (x:E3 R):(-x).c = -x.c:=rfl
theorem E3.mul_a (x y:E3 R):(x*y).a=x.a*y.a+Nrs.xi*(x.b*y.c+x.c*y.b):=rfl
theorem E3.mul_b (x y:E3 R):(x*y).b=x.a*y.b+x.b*y.a+Nrs.xi*(x.c*y.c):=rfl
theorem E3.mul_c (x y:E3 R):(x*y).c=x.a*y.c+x.b*y.b+x.c*y.a:=rfl
theorem E3.one_a:(1:E3 R).a=1:=rfl
theorem E3.one_b:(1:E3 R).b=0:=rfl
theorem E3.one_c:(1:E3 R).c=0:=rfl
theorem E3.zero_a:(0:E3 R).a=0:=rfl
theorem E3.zero_b:(0:E3 R).b=0:=rfl
theorem E3.zero_c:(0:E3 R).c=0:=rfl
instance ringE3:J7 (E3 R) where
 natCast:=⟨fun n=>⟨OfNat.ofNat n,0,0⟩⟩
 ofNat:=ofNatE3
 nsmul:=⟨fun n x=>(⟨OfNat.ofNat n,0,0⟩:E3 R)*x⟩
 npow:=⟨fun x n=>I6r x n⟩
 add_zero x:=E3.ext' (by show x.a+0=x.a;grind) (by show x.b+0=x.b;grind) (by show x.c+0=x.c;grind)
 add_comm x y:=E3.ext' (by simp only[E3.add_a];grind) (by simp only[E3.add_b];grind) (by simp only[E3.add_c];grind)
 add_assoc x y z:=E3.ext' (by simp only[E3.add_a];grind) (by simp only[E3.add_b];grind) (by simp only[E3.add_c];grind)
 mul_assoc x y z:=E3.ext' (by simp only[E3.mul_a,E3.mul_b,E3.mul_c];grind) (by simp only[E3.mul_a,E3.mul_b,E3.mul_c];grind) (by simp only[E3.mul_a,E3.mul_b,E3.mul_c];grind)
 mul_one x:=E3.ext' (by simp only[E3.mul_a,E3.one_a,E3.one_b,E3.one_c];grind) (by simp only[E3.mul_b,E3.one_a,E3.one_b,E3.one_c];grind) (by simp only[E3.mul_c,E3.one_a,E3.one_b,E3.one_c];grind)
 one_mul x:=E3.ext' (by simp only[E3.mul_a,E3.one_a,E3.one_b,E3.one_c];grind) (by simp only[E3.mul_b,E3.one_a,E3.one_b,E3.one_c];grind) (by simp only[E3.mul_c,E3.one_a,E3.one_b,E3.one_c];grind)
 left_distrib x y z:=E3.ext' (by simp only[E3.mul_a,E3.add_a,E3.add_b,E3.add_c];grind) (by simp only[E3.mul_b,E3.add_a,E3.add_b,E3.add_c];grind) (by simp only[E3.mul_c,E3.add_a,E3.add_b,E3.add_c];grind)
 right_distrib x y z:=E3.ext' (by simp only[E3.mul_a,E3.add_a,E3.add_b,E3.add_c];grind) (by simp only[E3.mul_b,E3.add_a,E3.add_b,E3.add_c];grind) (by simp only[E3.mul_c,E3.add_a,E3.add_b,E3.add_c];grind)
 zero_mul x:=E3.ext' (by simp only[E3.mul_a,E3.zero_a,E3.zero_b,E3.zero_c];grind) (by simp only[E3.mul_b,E3.zero_a,E3.zero_b,E3.zero_c];grind) (by simp only[E3.mul_c,E3.zero_a,E3.zero_b,E3.zero_c];grind)
 mul_zero x:=E3.ext' (by simp only[E3.mul_a,E3.zero_a,E3.zero_b,E3.zero_c];grind) (by simp only[E3.mul_b,E3.zero_a,E3.zero_b,E3.zero_c];grind) (by simp only[E3.mul_c,E3.zero_a,E3.zero_b,E3.zero_c];grind)
 pow_zero x:=rfl
 pow_succ x n:=rfl
 ofNat_succ n:=E3.ext' (inst.ofNat_succ n) (by show (0:R)=0+0;grind) (by show (0:R)=0+0;grind)
 ofNat_eq_natCast n:=rfl
 nsmul_eq_natCast_mul n x:=rfl
 intCast:=⟨fun i=>⟨ic i,0,0⟩⟩
 zsmul:=⟨fun i x=>(⟨ic i,0,0⟩:E3 R)*x⟩
 neg_add_cancel x:=E3.ext' (by show -x.a+x.a=0;grind) (by show -x.b+x.b=0;grind) (by show -x.c+x.c=0;grind)
 sub_eq_add_neg x y:=E3.ext' (by show x.a-y.a=x.a + -y.a;grind) (by show x.b-y.b=x.b + -y.b;grind) (by show x.c-y.c=x.c + -y.c;grind)
 neg_zsmul i x:=by
  have e:(ic (-i):R) = - ic i:=O2 i;refine E3.ext' ?_ ?_ ?_
  ·show ic (-i)*x.a+Nrs.xi*(0*x.c+0*x.b) = -(ic i*x.a+Nrs.xi*(0*x.c+0*x.b))
   rw[e];grind
  ·show ic (-i)*x.b+0*x.a+Nrs.xi*(0*x.c) = -(ic i*x.b+0*x.a+Nrs.xi*(0*x.c))
   rw[e];grind
  ·show ic (-i)*x.c+0*x.b+0*x.a = -(ic i*x.c+0*x.b+0*x.a)
   rw[e];grind
 zsmul_natCast_eq_nsmul n x:=by
  show (⟨ic (n:Int),0,0⟩:E3 R)*x=⟨OfNat.ofNat n,0,0⟩*x;rw[I4,A6b]
 intCast_ofNat n:=E3.ext' (by show (ic (n:Int):R)=OfNat.ofNat n;rw[I4,A6b]) rfl rfl
 intCast_neg i:=by
  have e:(ic (-i):R) = - ic i:=O2 i;refine E3.ext' ?_ ?_ ?_
  ·show ic (-i) = - ic i
   rw[e]
  ·show (0:R) = -0
   grind
  ·show (0:R) = -0
   grind
 mul_comm x y:=E3.ext' (by simp only[E3.mul_a];grind) (by simp only[E3.mul_b];grind) (by simp only[E3.mul_c];grind)
end
end

set_option linter.unusedSectionVars false
section

section
variable {R:Type} [Fld R] [Nrs R] [DecidableEq R]

theorem C0z {a:R} (h:a*a=0):a=0:=by
 by_cases e:a=0
 ·exact e
 ·exact absurd h (C2 e e)
def C2n (x:E2 R):R:=x.a*x.a-Nrs.xi*(x.b*x.b)
def A3q (x:E2 R):E2 R:=⟨x.a*Fld.inv (C2n x),-(x.b*Fld.inv (C2n x))⟩
theorem F9o (h:∀t:R,t*t≠Nrs.xi) {x:E2 R} (hx:x≠0):C2n x≠0:=by
 intro e;unfold C2n at e;by_cases hb:x.b=0
 ·apply hx
  have ha:x.a=0:=C0z (by rw[hb] at e;grind)
  exact E2.ext' ha hb
 ·have hi:=Fld.mul_inv x.b hb
  apply h (x.a*Fld.inv x.b)
  generalize Fld.inv x.b=i at hi;grind
theorem A7o (h:∀t:R,t*t≠Nrs.xi) (x:E2 R) (hx:x≠0):x*A3q x=1:=by
 have hi:=Fld.mul_inv _ (F9o h hx);unfold A3q;generalize Fld.inv (C2n x)=i at hi ⊢
 unfold C2n at hi;refine E2.ext' ?_ ?_
 ·rw[E2.mul_a,E2.one_a]
  show x.a*(x.a*i)+Nrs.xi*(x.b * -(x.b*i))=1;grind
 ·rw[E2.mul_b,E2.one_b]
  show x.a * -(x.b*i)+x.b*(x.a*i)=0;grind
@[reducible] def I4l (h:∀t:R,t*t≠Nrs.xi):Fld (E2 R):=
  { ringE2 with inv:=A3q,mul_inv:=A7o h,one_ne:=fun e=>Fld.one_ne (congrArg E2.a e) }

def A0i (x:E3 R):E3 R:=⟨x.a*x.a-Nrs.xi*(x.b*x.c),Nrs.xi*(x.c*x.c)-x.a*x.b,x.b*x.b-x.a*x.c⟩
def A0y (x:E3 R):R:=x.a*(A0i x).a+Nrs.xi*(x.c*(A0i x).b+x.b*(A0i x).c)
def B2j (x:E3 R):E3 R:=⟨(A0i x).a*Fld.inv (A0y x),(A0i x).b*Fld.inv (A0y x),(A0i x).c*Fld.inv (A0y x)⟩
theorem D3v (h:∀t:R,t*t*t≠Nrs.xi) {x:E3 R} (e:A0i x=0):x=0:=by
 have e1:x.a*x.a-Nrs.xi*(x.b*x.c)=0:=congrArg E3.a e;have e2:Nrs.xi*(x.c*x.c)-x.a*x.b=0:=congrArg E3.b e;have e3:x.b*x.b-x.a*x.c=0:=congrArg E3.c e;by_cases hc:x.c=0
 ·have hb:x.b=0:=C0z (by rw[hc] at e3;grind)
  have ha:x.a=0:=C0z (by rw[hc] at e1;grind)
  exact E3.ext' ha hb hc
 ·exfalso
  have hi:=Fld.mul_inv x.c hc;apply h (x.b*Fld.inv x.c)
  generalize Fld.inv x.c=i at hi;generalize x.a=a at *;generalize x.b=b at *;generalize x.c=c at *;have f1:a=b*b*i:=by grind
  subst f1;grind
theorem G4o (x:E3 R):(A0i (A0i x)).a=A0y x*x.a∧(A0i (A0i x)).b=A0y x*x.b∧(A0i (A0i x)).c=A0y x*x.c:=by
 unfold A0y A0i;simp only
 generalize x.a=a;generalize x.b=b;generalize x.c=c;refine ⟨?_,?_,?_⟩<;>grind
theorem F9p (h:∀t:R,t*t*t≠Nrs.xi) {x:E3 R} (hx:x≠0):A0y x≠0:=by
 intro e;obtain ⟨a1,a2,a3⟩:=G4o x;rw[e] at a1 a2 a3;apply hx
 refine D3v h (D3v h (E3.ext' ?_ ?_ ?_))
 ·rw[a1,E3.zero_a];grind
 ·rw[a2,E3.zero_b];grind
 ·rw[a3,E3.zero_c];grind
theorem E9i (h:∀t:R,t*t*t≠Nrs.xi) (x:E3 R) (hx:x≠0):x*B2j x=1:=by
 have hi:=Fld.mul_inv _ (F9p h hx);unfold B2j;generalize Fld.inv (A0y x)=i at hi ⊢
 unfold A0y A0i at hi;unfold A0i;simp only at hi ⊢
 refine E3.ext' ?_ ?_ ?_
 ·rw[E3.mul_a,E3.one_a]
  simp only
  generalize x.a=a at *;generalize x.b=b at *;generalize x.c=c at *;grind
 ·rw[E3.mul_b,E3.one_b]
  simp only
  grind
 ·rw[E3.mul_c,E3.one_c]
  simp only
  grind
@[reducible] def I4m (h:∀t:R,t*t*t≠Nrs.xi):Fld (E3 R):=
  { ringE3 with inv:=B2j,mul_inv:=E9i h,one_ne:=fun e=>Fld.one_ne (congrArg E3.a e) }
end
end

section

/-- An abelian group. -/
class AG (M:Type) where
 ad:M->M->M
 ng:M->M
 ze:M
 ad_ze:∀a,ad a ze=a
 ad_cm:∀a b,ad a b=ad b a
 ad_as:∀a b c,ad (ad a b) c=ad a (ad b c)
 ng_ad:∀a,ad (ng a) a=ze

namespace AG
variable {M:Type} [AG M]
theorem G4h (a:M):ad ze a=a:=by rw[ad_cm,ad_ze]
theorem E3v (a:M):ad a (ng a)=ze:=by rw[ad_cm,ng_ad]
theorem D1o {a b:M} (h:ad a b=ze):b=ng a:=by
 rw[<-G4h b,<-ng_ad a,ad_as,h,ad_ze]
theorem I6a (a:M):ng (ng a)=a:=(D1o (ng_ad a)).symm
theorem I6b:ng (ze:M)=ze:=(D1o (ad_ze ze)).symm
theorem G4j (a b c d:M):ad (ad a b) (ad c d)=ad (ad a c) (ad b d):=by
 rw[ad_as,<-ad_as b,ad_cm b c,ad_as c,<-ad_as]
theorem ng_add (a b:M):ng (ad a b)=ad (ng a) (ng b):=by
 symm
 apply D1o
 rw[G4j,E3v,E3v,ad_ze]
def ns:Nat->M->M
 | 0,_=>ze
 | n+1,a=>ad (ns n a) a
def zs:Int->M->M
 | .ofNat n,a=>ns n a
 | .negSucc n,a=>ng (ns (n+1) a)
theorem C2o (m:Nat) (a:M):∀n,ns (m+n) a=ad (ns m a) (ns n a)
 | 0=>(ad_ze _).symm
 | n+1=>by
  show ad (ns (m+n) a) a=ad (ns m a) (ad (ns n a) a);rw[C2o m a n,ad_as]
theorem A0w (n:Nat) (a:M):zs (n:Int) a=ns n a:=rfl
theorem B6n (a:M):∀n:Int,zs (-n) a=ng (zs n a)
 | .ofNat 0=>by show (ze:M)=ng ze;rw[I6b]
 | .ofNat (n+1)=>rfl
 | .negSucc n=>by show ns (n+1) a=ng (ng (ns (n+1) a));rw[I6a]
theorem C8j (a:M) (m n:Nat):zs ((m:Int)-(n:Int)) a=ad (ns m a) (ng (ns n a)):=by
 by_cases h:n<=m
 ·obtain ⟨k,rfl⟩:=Nat.exists_eq_add_of_le h
  have e:((n+k:Nat):Int)-(n:Int)=(k:Int):=by omega
  rw[e,A0w,C2o,ad_cm (ns n a),ad_as,E3v,ad_ze]
 ·obtain ⟨k,rfl⟩:=Nat.exists_eq_add_of_le (Nat.le_of_lt (Nat.lt_of_not_le h))
  have e:(m:Int)-((m+k:Nat):Int) = -(k:Int):=by omega
  rw[e,B6n,A0w,C2o,ng_add,<-ad_as,E3v,G4h]
theorem I3h (x y:Int) (a:M):zs (x+y) a=ad (zs x a) (zs y a):=by
 rcases Int.eq_nat_or_neg x with ⟨m,rfl | rfl⟩<;>rcases Int.eq_nat_or_neg y with ⟨n,rfl | rfl⟩
 ·rw[<-Int.natCast_add,A0w,A0w,A0w,C2o]
 ·rw[<-Int.sub_eq_add_neg,C8j,B6n,A0w,A0w]
 ·rw[Int.add_comm,<-Int.sub_eq_add_neg,C8j,B6n,A0w,A0w,ad_cm]
 ·rw[<-Int.neg_add,<-Int.natCast_add,B6n,B6n,B6n,A0w,A0w,A0w,C2o,ng_add]

instance:C8k M where
 zero:=ze
 add:=ad
 neg:=ng
 sub a b:=ad a (ng b)
 add_zero:=ad_ze
 add_comm:=ad_cm
 add_assoc:=ad_as
 neg_add_cancel:=ng_ad
 sub_eq_add_neg _ _:=rfl
 nsmul:=⟨ns⟩
 zsmul:=⟨zs⟩
 zero_zsmul _:=rfl
 one_zsmul a:=G4h a
 add_zsmul:=I3h
 zsmul_natCast_eq_nsmul _ _:=rfl
end AG

section
variable {M:Type} [inst:C8k M]
theorem A2r (n m:Int) (a:M):(n+m) • a=n • a+m • a:=inst.add_zsmul n m a
theorem X8 (a:M):(0:Int) • a=0:=inst.zero_zsmul a
theorem B3y (a:M):(1:Int) • a=a:=inst.one_zsmul a
theorem ad0 (a:M):a+0=a:=by grind
theorem A4y (n:Int) (a:M):(-n) • a = -(n • a):=by
 have h:=A2r n (-n) a;rw[Int.add_right_neg,X8] at h;grind
theorem B1g:∀n:Nat,(n:Int) • (0:M)=0
 | 0=>X8 _
 | n+1=>by rw[Int.natCast_add,A2r,B1g n,show ((1:Nat):Int)=1 from rfl,B3y,ad0]
theorem D3p (n:Int):n • (0:M)=0:=by
 rcases Int.eq_nat_or_neg n with ⟨k,rfl | rfl⟩
 ·exact B1g k
 ·rw[A4y,B1g];grind
theorem A4x (a b:M):∀n:Nat,(n:Int) • (a+b)=(n:Int) • a+(n:Int) • b
 | 0=>by
  show (0:Int) • (a+b)=(0:Int) • a+(0:Int) • b;rw[X8,X8,X8,ad0]
 | n+1=>by
  have e:((n+1:Nat):Int)=(n:Int)+1:=rfl;rw[e,A2r,A2r,A2r,A4x a b n,B3y,B3y,B3y];generalize (n:Int) • a=x;generalize (n:Int) • b=y;grind
theorem C5a (n:Int) (a b:M):n • (a+b)=n • a+n • b:=by
 rcases Int.eq_nat_or_neg n with ⟨k,rfl | rfl⟩
 ·exact A4x a b k
 ·rw[A4y,A4y,A4y,A4x]
  generalize (k:Int) • a=x;generalize (k:Int) • b=y;grind
theorem A6z (m:Int) (a:M):∀n:Nat,((n:Int)*m) • a=(n:Int) • m • a
 | 0=>by rw[show ((0:Nat):Int)*m=0 from by simp,show ((0:Nat):Int)=0 from rfl,X8,X8]
 | n+1=>by
  have e:((n+1:Nat):Int)=(n:Int)+1:=rfl;have e2:((n:Int)+1)*m=(n:Int)*m+m:=by rw[Int.add_mul,Int.one_mul]
  rw[e,e2,A2r,A2r,A6z m a n,B3y]
theorem H2v (n m:Int) (a:M):(n*m) • a=n • m • a:=by
 rcases Int.eq_nat_or_neg n with ⟨k,rfl | rfl⟩
 ·exact A6z m a k
 ·rw[Int.neg_mul,A4y,A4y,A6z]

/-- Numbers times elements, added up. -/
def dot:List Int->List M->M
 | k::ks,p::ps=>k • p+dot ks ps
 | _,_=>0
theorem B1r (ps:List M):dot [] ps=0:=by cases ps<;>rfl
theorem I3i (n:Int) (a:M):n • (-a) = -(n • a):=by
 have h:=C5a n a (-a);rw[show a + -a=0 from by grind,D3p] at h
 generalize n • a=x at h ⊢
 generalize n • (-a)=y at h ⊢
 grind
theorem D4p (k:Int) (p:M):∀(ks:List Int) (ps:List M),ks.length=ps.length->dot (ks++[k]) (ps++[p])=dot ks ps+k • p
 | [],[],_=>by
  show k • p+dot [] []=dot [] []+k • p;rw[B1r];generalize k • p=x;grind
 | [],_::_,h=>by cases h
 | _::_,[],h=>by cases h
 | c::ks,q::ps,h=>by
  show c • q+dot (ks++[k]) (ps++[p])=c • q+dot ks ps+k • p;rw[D4p k p ks ps (Nat.succ.inj h)];generalize c • q=x;generalize k • p=y;grind
theorem C6g {α:Type}:∀(l:List α) (ps:List M),dot (l.map fun _=>(0:Int)) ps=0
 | [],ps=>B1r ps
 | _::_,[]=>rfl
 | _::l,p::ps=>by
  show (0:Int) • p+dot (l.map fun _=>(0:Int)) ps=0
  rw[X8,C6g l ps,ad0]
/-- Scalars that are linear in one another. -/
theorem E4u {α:Type} (c:Int) (f g h:α->Int):∀(l:List α) (ps:List M),(∀x,x∈l->f x=c*g x+h x)->dot (l.map f) ps=c • dot (l.map g) ps+dot (l.map h) ps
 | [],ps,_=>by
  show dot [] ps=c • dot [] ps+dot [] ps;rw[B1r,D3p,ad0]
 | x::l,[],_=>by
  show (0:M)=c • (0:M)+0;rw[D3p,ad0]
 | x::l,p::ps,hx=>by
  have e:=hx x (List.mem_cons_self ..);have ih:=E4u c f g h l ps fun y hy=>hx y (List.mem_cons_of_mem _ hy)
  show f x • p+dot (l.map f) ps=c • (g x • p+dot (l.map g) ps)+(h x • p+dot (l.map h) ps);rw[e,ih,A2r,H2v,C5a];generalize c • g x • p=y1;generalize h x • p=y2;generalize c • dot (l.map g) ps=y3;generalize dot (l.map h) ps=y4;grind
end
end

section

section
variable {M G:Type} [C8k M] [J7 G]
/-- A factor for each sum of two, that hangs on no order and on no grouping. -/
structure Coc (S:M->Prop) (D:M->M->G):Prop where
 z:S 0
 a:∀{x y},S x->S y->S (x+y)
 l:∀{x},S x->D 0 x=1
 c:∀{x y},S x->S y->D x y=D y x
 g:∀{x y z},S x->S y->S z->D x y*D (x+y) z=D y z*D x (y+z)
def mlt (x:M):Nat->M
 | 0=>0
 | n+1=>mlt x n+x
/-- What is gathered. -/
def gth (D:M->M->G) (x:M):Nat->G
 | 0=>1
 | n+1=>gth D x n*D (mlt x n) x
def A7 (g:G):Nat->G
 | 0=>1
 | n+1=>A7 g n*g
theorem A1i (x:M) (m:Nat):∀n,mlt x (m+n)=mlt x m+mlt x n
 | 0=>by show mlt x m=mlt x m+0;grind
 | n+1=>by
  show mlt x (m+n)+x=mlt x m+(mlt x n+x);rw[A1i x m n];grind
theorem B8g (x y:M):∀n,mlt (x+y) n=mlt x n+mlt y n
 | 0=>by show (0:M)=0+0;grind
 | n+1=>by
  show mlt (x+y) n+(x+y)=(mlt x n+x)+(mlt y n+y);rw[B8g x y n];grind
theorem O7:∀n,mlt (0:M) n=0
 | 0=>rfl
 | n+1=>by show mlt (0:M) n+0=0;rw[O7 n];grind
theorem B2s (x:M) (m:Nat):∀n,mlt x (m*n)=mlt (mlt x m) n
 | 0=>rfl
 | n+1=>by
  rw[Nat.mul_succ,A1i,B2s x m n];rfl
variable {S:M->Prop} {D:M->M->G}
theorem Coc.m (h:Coc S D) {x:M} (hx:S x):∀n,S (mlt x n)
 | 0=>h.z
 | n+1=>h.a (h.m hx n) hx
theorem Coc.r (h:Coc S D) {x:M} (hx:S x):D x 0=1:=by rw[h.c hx h.z,h.l hx]
theorem E5r (h:Coc S D) {x:M} (hx:S x) (m:Nat):∀n,gth D x (m+n)=gth D x m*gth D x n*D (mlt x m) (mlt x n)
 | 0=>by
  show gth D x m=gth D x m*1*D (mlt x m) 0;rw[h.r (h.m hx m)];grind
 | n+1=>by
  show gth D x (m+n)*D (mlt x (m+n)) x=gth D x m*(gth D x n*D (mlt x n) x)*D (mlt x m) (mlt x n+x);rw[E5r h hx m n,A1i];have k:=h.g (h.m hx m) (h.m hx n) hx;generalize D (mlt x m) (mlt x n)=u at *;generalize D (mlt x m+mlt x n) x=v at *;generalize D (mlt x n) x=w at *;generalize D (mlt x m) (mlt x n+x)=t at *;generalize gth D x m=p;generalize gth D x n=q;grind
theorem F3k (h:Coc S D) {a b p q:M} (ha:S a) (hb:S b) (hp:S p) (hq:S q):D a b*D (a+b) (p+q)*D p q=D a p*D b q*D (a+p) (b+q):=by
 have k1:=h.g ha hb (h.a hp hq);have k2:=h.g hb hp hq;have k3:=h.g ha hp (h.a hb hq);have k4:=h.g hp hb hq;have e1:b+(p+q)=p+(b+q):=by clear k1 k2 k3 k4;grind
 have e2:p+b=b+p:=by clear k1 k2 k3 k4;grind
 rw[h.c hp hb,e2] at k4;rw[e1] at k1;generalize D a b=x1 at *;generalize D (a+b) (p+q)=x2 at *;generalize D b (p+q)=x3 at *;generalize D a (p+(b+q))=x4 at *;generalize D b p=x5 at *;generalize D (b+p) q=x6 at *;generalize D p q=x7 at *;generalize D a p=x8 at *;generalize D (a+p) (b+q)=x9 at *;generalize D p (b+q)=x10 at *;generalize D b q=x11 at *;have r1:x1*x2*x7=x5*x6*x4:=by rw[k1,k2];clear k1 k2 k3 k4;grind
 have r2:x8*x11*x9=x5*x6*x4:=by
  have:x8*x11*x9=x8*x9*x11:=by clear k1 k2 k3 k4 r1;grind
  rw[this,k3,k4];clear k1 k2 k3 k4 r1 this;grind
 rw[r1,r2]
theorem E5s (h:Coc S D) {x y:M} (hx:S x) (hy:S y):∀n,gth D (x+y) n*A7 (D x y) n=gth D x n*gth D y n*D (mlt x n) (mlt y n)
 | 0=>by
  show (1:G)*1=1*1*D 0 0;rw[h.l h.z];grind
 | n+1=>by
  show gth D (x+y) n*D (mlt (x+y) n) (x+y)*(A7 (D x y) n*D x y)=gth D x n*D (mlt x n) x*(gth D y n*D (mlt y n) y)*D (mlt x n+x) (mlt y n+y);have k:=E5s h hx hy n;have j:=F3k h (h.m hx n) (h.m hy n) hx hy;rw[B8g];generalize D (mlt x n) (mlt y n)=x1 at *;generalize D (mlt x n+mlt y n) (x+y)=x2 at *;generalize D x y=x3 at *;generalize D (mlt x n) x=x4 at *;generalize D (mlt y n) y=x5 at *;generalize D (mlt x n+x) (mlt y n+y)=x6 at *;generalize gth D x n=p at *;generalize gth D y n=q at *;generalize gth D (x+y) n=u at *;generalize A7 x3 n=v at *;have e1:u*x2*(v*x3)=(u*v)*(x2*x3):=by clear k j;grind
  have e2:p*x4*(q*x5)*x6=p*q*(x4*x5*x6):=by clear k j e1;grind
  rw[e1,e2,k,<-j];clear k j e1 e2;grind
/-- Factors of one place and those of another one, behind each other. -/
theorem E5t {D1 D2 D3:M->M->G} {E:M->G} {x:M} (h0:E 0=1) (h:∀n,D1 (mlt x n) x*D2 (mlt x n) x*E (mlt x n+x)=D3 (mlt x n) x*(E (mlt x n)*E x)):∀n,gth D1 x n*gth D2 x n*E (mlt x n)=gth D3 x n*A7 (E x) n
 | 0=>by show (1:G)*1*E 0=1*1;rw[h0];grind
 | n+1=>by
  show gth D1 x n*D1 (mlt x n) x*(gth D2 x n*D2 (mlt x n) x)*E (mlt x n+x)=gth D3 x n*D3 (mlt x n) x*(A7 (E x) n*E x);have k:=E5t h0 h n;have j:=h n;generalize D1 (mlt x n) x=x1 at *;generalize D2 (mlt x n) x=x2 at *;generalize D3 (mlt x n) x=x3 at *;generalize E (mlt x n+x)=x4 at *;generalize E (mlt x n)=x5 at *;generalize E x=x6 at *;generalize gth D1 x n=p at *;generalize gth D2 x n=q at *;generalize gth D3 x n=u at *;generalize A7 x6 n=v at *;have e1:p*x1*(q*x2)*x4=p*q*(x1*x2*x4):=by clear k j;grind
  have e2:p*q*(x3*(x5*x6))=p*q*x5*(x3*x6):=by clear k j e1;grind
  rw[e1,j,e2,k];clear k j e1 e2;grind
end
end

section

/-- So many digits, and what is carried on. -/
def dgW (k:Nat):Nat->List Int×Nat
 | 0=>([],0)
 | i+1=>if k / 32 ^ i % 32+(dgW k i).2 > 16 then ((dgW k i).1++[((k / 32 ^ i % 32+(dgW k i).2:Nat):Int)-32],1) else ((dgW k i).1++[((k / 32 ^ i % 32+(dgW k i).2:Nat):Int)],0)
theorem B1p {k i:Nat} (h:k / 32 ^ i % 32+(dgW k i).2 > 16):dgW k (i+1)=((dgW k i).1++[((k / 32 ^ i % 32+(dgW k i).2:Nat):Int)-32],1):=if_pos h
theorem A1m {k i:Nat} (h:¬k / 32 ^ i % 32+(dgW k i).2 > 16):dgW k (i+1)=((dgW k i).1++[((k / 32 ^ i % 32+(dgW k i).2:Nat):Int)],0):=if_neg h
/-- What digits stand for. -/
def vlW:List Int->Int
 | []=>0
 | d::l=>32*vlW l+d
theorem C4q (d:Int):∀l:List Int,vlW (l++[d])=vlW l+32 ^ l.length*d
 | []=>by simp [vlW]
 | e::l=>by
  show 32*vlW (l++[d])+e=32*vlW l+e+32 ^ (l.length+1)*d;rw[C4q d l,Int.pow_succ,Int.mul_add,Int.mul_right_comm,Int.mul_comm (32 ^ l.length*d) 32];omega
theorem A7f (k:Nat):∀i,(dgW k i).1.length=i
 | 0=>rfl
 | i+1=>by
  by_cases h:k / 32 ^ i % 32+(dgW k i).2 > 16
  ·rw[B1p h];simp [A7f k i]
  ·rw[A1m h];simp [A7f k i]
theorem B4j (k:Nat):∀i,(dgW k i).2<=1
 | 0=>Nat.zero_le 1
 | i+1=>by
  by_cases h:k / 32 ^ i % 32+(dgW k i).2 > 16
  ·rw[B1p h];exact Nat.le_refl 1
  ·rw[A1m h];exact Nat.zero_le 1
theorem A7g (k:Nat):∀i d,d∈(dgW k i).1 -> -16<=d∧d<=16
 | 0,d,h=>by cases h
 | i+1,d,h=>by
  have hc:=B4j k i;have hw:k / 32 ^ i % 32<32:=Nat.mod_lt _ (by decide)
  by_cases hg:k / 32 ^ i % 32+(dgW k i).2 > 16
  ·rw[B1p hg] at h
   rcases List.mem_append.1 h with h | h
   ·exact A7g k i d h
   ·rw[List.mem_singleton] at h;omega
  ·rw[A1m hg] at h
   rcases List.mem_append.1 h with h | h
   ·exact A7g k i d h
   ·rw[List.mem_singleton] at h;omega
theorem G9c (k i:Nat):k % 32 ^ (i+1)=k % 32 ^ i+32 ^ i*(k / 32 ^ i % 32):=by
 rw[Nat.pow_succ,Nat.mod_mul]
theorem E4r (k:Nat):∀i,vlW (dgW k i).1+32 ^ i*((dgW k i).2:Int)=((k % 32 ^ i:Nat):Int)
 | 0=>by simp [dgW,vlW,Nat.mod_one]
 | i+1=>by
  have ih:=E4r k i;have hl:=A7f k i;rw[G9c,Int.natCast_add,Int.natCast_mul,<-ih,Int.natCast_pow];by_cases h:k / 32 ^ i % 32+(dgW k i).2 > 16
  ·rw[B1p h]
   show vlW ((dgW k i).1++[_])+32 ^ (i+1)*((1:Nat):Int)=_;rw[C4q,hl,Int.pow_succ,Int.natCast_add];generalize (32:Int) ^ i=p;generalize ((k / 32 ^ i % 32:Nat):Int)=w;generalize ((dgW k i).2:Int)=c;generalize vlW (dgW k i).1=v;show v+p*(w+c-32)+p*32*1=v+p*c+p*w;grind
  ·rw[A1m h]
   show vlW ((dgW k i).1++[_])+32 ^ (i+1)*((0:Nat):Int)=_;rw[C4q,hl,Int.natCast_add];generalize (32:Int) ^ i=p;generalize ((k / 32 ^ i % 32:Nat):Int)=w;generalize ((dgW k i).2:Int)=c;generalize vlW (dgW k i).1=v;show v+p*(w+c)+32 ^ (i+1)*0=v+p*c+p*w;grind

/-- All digits of a number below 2 to the power of 256. -/
theorem E4q {k n:Nat} (hn:n=52) (h:k<2 ^ 256):vlW (dgW k n).1=(k:Int)∧(dgW k n).2=0:=by
  obtain ⟨m,rfl⟩:∃m,n=m+1:=⟨51,hn⟩
  have hm:m=51:=by omega
  have hq:k / 32 ^ m<=1:=by
    rw[hm]
    have : k / 32 ^ 51 < 2 := Nat.div_lt_of_lt_mul (by have e : 32 ^ 51 * 2 = 2 ^ 256 := by decide +kernel
                                                       rw[e];exact h)
    omega
  have hc:=B4j k m;have h0:(dgW k (m+1)).2=0:=by
    have hw:k / 32 ^ m % 32<=1:=Nat.le_trans (Nat.mod_le _ _) hq;have hs:¬k / 32 ^ m % 32+(dgW k m).2 > 16:=by
      generalize k / 32 ^ m % 32=w at hw;omega
    rw[A1m hs]
  refine ⟨?_,h0⟩
  have hv:=E4r k (m+1);rw[h0] at hv;have hk:k % 32 ^ (m+1)=k:=by
    apply Nat.mod_eq_of_lt
    rw[hm];refine Nat.lt_trans h ?_
    decide +kernel
  rw[hk] at hv;rw[<-hv];simp

theorem G4b (l:List Int) (i:Nat) (h:i<l.length):vlW (l.drop i)=32*vlW (l.drop (i+1))+l.getD i 0:=by
 rw[List.drop_eq_getElem_cons h];show 32*vlW (l.drop (i+1))+l[i]=_;rw[List.getD_eq_getElem?_getD,List.getElem?_eq_getElem h];rfl
end

set_option linter.unusedVariables false
set_option linter.unusedSectionVars false
section

section
variable {F:Type} [Fld F]
/-- What is known of a line y = l x + m through three points with the sum 0: x1, x2, x3 the first coordinates. -/
structure Lnf (b l m x1 x2 x3:F):Prop where
 e1:x1+x2+x3=l*l
 e2:x1*x2+x1*x3+x2*x3=0-(l*m+l*m)
 e3:x1*x2*x3=m*m-b
theorem E8m {b x1 y1 x2 y2 i l:F} (h1:y1*y1=x1*x1*x1+b) (h2:y2*y2=x2*x2*x2+b) (hi:(x2-x1)*i=1) (hl:l=(y2-y1)*i):Lnf b l (y1-l*x1) x1 x2 (l*l-x1-x2):=by
 have k:l*(x2-x1)=y2-y1:=by subst hl;grind
 have q:l*(y1+y2)=x1*x1+x1*x2+x2*x2:=by
  have:(x2-x1)*(l*(y1+y2))=(x2-x1)*(x1*x1+x1*x2+x2*x2):=by grind
  have e:i*((x2-x1)*(l*(y1+y2)))=i*((x2-x1)*(x1*x1+x1*x2+x2*x2)):=by rw[this]
  grind
 refine ⟨by grind,?_,?_⟩<;>grind
theorem G3b {b x1 y1 i l:F} (h1:y1*y1=x1*x1*x1+b) (hi:(y1+y1)*i=1) (hl:l=F4 (x1*x1)*i):Lnf b l (y1-l*x1) x1 x1 (l*l-x1-x1):=by
 have k:l*(y1+y1)=x1*x1+x1*x1+x1*x1:=by subst hl;unfold F4;grind
 refine ⟨by grind,?_,?_⟩<;>grind
end

section
variable {F:Type} [Fld F] [DecidableEq F] {b:F}
/-- How a line goes up. -/
def slp (p q:F×F):F:=if p.1=q.1 then F4 (p.1*p.1)*Fld.inv (p.2+p.2) else (q.2-p.2)*Fld.inv (q.1-p.1)
def icp (p q:F×F):F:=p.2-slp p q*p.1
theorem F7m (hc:Cv b) {p q s:F×F} (hp:OnC b (some p)) (hq:OnC b (some q)) (h:C5 (some p) (some q)=some s) :
  Lnf b (slp p q) (icp p q) p.1 q.1 s.1∧p.2=slp p q*p.1+icp p q∧q.2=slp p q*q.1+icp p q∧0-s.2=slp p q*s.1+icp p q:=by
 obtain ⟨x1,y1⟩:=p;obtain ⟨x2,y2⟩:=q;have hp:y1*y1=x1*x1*x1+b:=hp;have hq:y2*y2=x2*x2*x2+b:=hq;unfold icp slp;unfold C5 at h;dsimp only at h ⊢
 split at h
 ·rename_i e
  rw[if_pos e];subst e;split at h
  ·rename_i e2
   obtain ⟨e2,e3⟩:=e2;subst e2;have hd:y1+y1≠0:=fun e=>by
    have:((1:F)+1)*y1=0:=by grind
    exact C2 hc.two e3 this
   have hi:=Fld.mul_inv _ hd;have hs:=Option.some.inj h;unfold thr at hs;have s1:=congrArg Prod.fst hs;have s2:=congrArg Prod.snd hs;dsimp only at s1 s2;generalize Fld.inv (y1+y1)=i at *;have L:=G3b hp hi rfl;refine ⟨by rw[<-s1];exact L,by grind,by grind,?_⟩
   rw[<-s1,<-s2];grind
  ·cases h
 ·rename_i e
  rw[if_neg e];have hd:x2-x1≠0:=fun h=>e (by grind)
  have hi:=Fld.mul_inv _ hd;have hs:=Option.some.inj h;unfold thr at hs;have s1:=congrArg Prod.fst hs;have s2:=congrArg Prod.snd hs;dsimp only at s1 s2;generalize Fld.inv (x2-x1)=i at *;have L:=E8m hp hq hi rfl;refine ⟨by rw[<-s1];exact L,by grind,by grind,?_⟩
  rw[<-s1,<-s2];grind
end

section
variable {F:Type} [Fld F]
theorem mof {a c m:F} (h:a=c+m):m=a-c:=by grind
theorem sof {a c t s:F} (h:a+c+t=s):a+c=s-t:=by grind
theorem J1a {a c t s:F} (h:t+a+c=s):a+c=s-t:=by grind
theorem pof {a c t s u:F} (h:a*c+a*t+c*t=s) (k:a+c=u):a*c=s-u*t:=by grind
theorem J0b {a c t s u:F} (h:t*a+t*c+a*c=s) (k:a+c=u):a*c=s-u*t:=by grind
/-- Two lines with a point in common, mirrored: what their product is, but for that point. -/
theorem C8e {b l1 m1 l2 m2 xa xb xs ys xc xd:F} (h1:Lnf b l1 m1 xa xb xs) (h2:Lnf b l2 m2 xs xc xd) (k1:0-ys=l1*xs+m1) (k2:ys=l2*xs+m2) (hs:ys*ys=xs*xs*xs+b) :
  (xs+l1*l2)+(xs+l1*l2)-(l1+l2)*(l1+l2)=0-(xa+xb+xc+xd) ∧
  (xs+l1*l2)*(xs+l1*l2)+((xs*xs+ys*(l1-l2)-l1*l2*xs)+(xs*xs+ys*(l1-l2)-l1*l2*xs))=xa*xb+xa*xc+xa*xd+xb*xc+xb*xd+xc*xd ∧
  (xs+l1*l2)*(xs*xs+ys*(l1-l2)-l1*l2*xs)+(xs+l1*l2)*(xs*xs+ys*(l1-l2)-l1*l2*xs)=0-(xa*xb*xc+xa*xb*xd+xa*xc*xd+xb*xc*xd) ∧
  (xs*xs+ys*(l1-l2)-l1*l2*xs)*(xs*xs+ys*(l1-l2)-l1*l2*xs)-b*((l1+l2)*(l1+l2))=xa*xb*xc*xd:=by
 obtain ⟨a1,a2,a3⟩:=h1;obtain ⟨c1,c2,c3⟩:=h2;have em1:=mof k1;have em2:=mof k2;have sab:=sof a1;have scd:=J1a c1;have pab:=pof a2 sab;have pcd:=J0b c2 scd;have eb:b=ys*ys-xs*xs*xs:=by rw[hs];grind
 clear hs a1 c1 a2 c2 a3 c3 k1 k2;subst em1 em2 eb;refine ⟨by clear pab pcd;grind,?_,?_,?_⟩
 ·have:xa*xb+xa*xc+xa*xd+xb*xc+xb*xd+xc*xd=xa*xb+xc*xd+(xa+xb)*(xc+xd):=by clear sab scd pab pcd;grind
  rw[this,pab,pcd,sab,scd];clear this sab scd pab pcd;grind
 ·have:xa*xb*xc+xa*xb*xd+xa*xc*xd+xb*xc*xd=xa*xb*(xc+xd)+xc*xd*(xa+xb):=by clear sab scd pab pcd;grind
  rw[this,pab,pcd,sab,scd];clear this sab scd pab pcd;grind
 ·have:xa*xb*xc*xd=(xa*xb)*(xc*xd):=by clear sab scd pab pcd;grind
  rw[this,pab,pcd];clear this sab scd pab pcd;grind
theorem I5a {a q q' : F} (h:(1:F)+1≠0) (k:a+(q+q)=a+(q' + q')):q=q' := by
 have h2i:=Fld.mul_inv _ h;generalize Fld.inv ((1:F)+1)=j at h2i;have:((1:F)+1)*(q-q')=0:=by grind
 have:j*(((1:F)+1)*(q-q'))=j*0:=by rw[this]
 clear k;grind
theorem I8e {d i a c:F} (h:d*i=1) (k:d*a=d*c):a=c:=by
 have:i*(d*a)=i*(d*c):=by rw[k]
 grind
/-- Such a square root is one alone. -/
theorem F1l [DecidableEq F] {b:F} (hc:Cv b) {p q r p' q' r' : F} (h1:p+p-r*r=p' + p' - r' * r') (h2:p*p+(q+q)=p' * p' + (q' + q')) (h3:p*q+p*q=p' * q' + p' * q') (h4:q*q-b*(r*r)=q' * q' - b*(r' * r')):p=p' ∧ q=q' := by
 have hp:p=p' := by
  by_cases e:p=p'
  ·exact e
  exfalso
  have hd:p-p' ≠ 0:=fun h=>e (by grind)
  have hi:=Fld.mul_inv _ hd;have h2i:=Fld.mul_inv _ hc.two;generalize Fld.inv (p-p')=i at hi;generalize Fld.inv ((1:F)+1)=j at h2i;have f1:q-q' = 0-(p-p')*(p+p')*j:=by
   have:((1:F)+1)*(q-q')=0-(p-p')*(p+p'):=by grind
   have:j*(((1:F)+1)*(q-q'))=j*(0-(p-p')*(p+p')):=by rw[this]
   grind
  have f2:q+q' = (p+p')*(p+p')*j:=by
   have k1:(p-p')*(q+q')+(p+p')*(q-q')=0:=by grind
   have k2:(p-p')*(q+q')=(p-p')*((p+p')*(p+p')*j):=by rw[f1] at k1;grind
   have:i*((p-p')*(q+q'))=i*((p-p')*((p+p')*(p+p')*j)):=by rw[k2]
   grind
  have f3:r*r-r' * r' = (p-p')+(p-p'):=by grind
  have f4:(q-q')*(q+q')=b*((p-p')+(p-p')):=by rw[<-f3];grind
  rw[f1,f2] at f4;apply hc.no2 ((p+p')*j)
  have f5:(p-p')*(0-(p+p')*j*((p+p')*(p+p')*j))=(p-p')*(b+b):=by grind
  have f6:0-(p+p')*j*((p+p')*(p+p')*j)=b+b:=by
   have:i*((p-p')*(0-(p+p')*j*((p+p')*(p+p')*j)))=i*((p-p')*(b+b)):=by rw[f5]
   grind
  have:((1:F)+1)*((p+p')*j*((p+p')*j)*((p+p')*j)+b)=0:=by grind
  have:j*(((1:F)+1)*((p+p')*j*((p+p')*j)*((p+p')*j)+b))=j*0:=by rw[this]
  grind
 refine ⟨hp,?_⟩
 subst hp;exact I5a hc.two h2
/-- At a point of the first line. -/
theorem A5i {b l1 m1 l2 m2 xs ys x y:F} (k1:0-ys=l1*xs+m1) (k2:ys=l2*xs+m2) (hs:ys*ys=xs*xs*xs+b) (h:y*y=x*x*x+b) (hy:y=l1*x+m1) (hx:x≠xs) :
  x*x+(xs+l1*l2)*x+(xs*xs+ys*(l1-l2)-l1*l2*xs)=y*(l1+l2):=by
 have hd:x-xs≠0:=fun e=>hx (by grind)
 have hi:=Fld.mul_inv _ hd;generalize Fld.inv (x-xs)=i at hi;have em1:=mof k1;have e1:y=l1*(x-xs)-ys:=by rw[hy,em1];clear k1 k2 hs h hy hi em1;grind
 have e2:(x-xs)*(x*x+(xs+l1*l2)*x+(xs*xs+ys*(l1-l2)-l1*l2*xs))=x*x*x+b-ys*ys+(ys*(l1-l2)+l1*l2*(x-xs))*(x-xs):=by rw[hs];clear k1 k2 hs h hy hi em1 e1;grind
 refine I8e hi ?_
 rw[e2,<-h];clear k1 k2 hs h hy hi em1 e2 hd hx;subst e1;grind
theorem I9k {a t:F} (h:a=t):0-(0-a)=t:=by grind
theorem I9l {a t:F} (h:0-a=t):0-a=t:=h
theorem I9m {a t:F} (h:a*a=t):(0-a)*(0-a)=t:=by grind
theorem C5s {b l1 m1 l2 m2 xs ys x y:F} (k1:0-ys=l1*xs+m1) (k2:ys=l2*xs+m2) (hs:ys*ys=xs*xs*xs+b) (h:y*y=x*x*x+b) (hy:y=l2*x+m2) (hx:x≠xs) :
  x*x+(xs+l1*l2)*x+(xs*xs+ys*(l1-l2)-l1*l2*xs)=y*(l1+l2):=by
 have:=A5i (b:=b) (l1:=l2) (m1:=m2) (l2:=l1) (m2:=m1) (xs:=xs) (ys:=0-ys) (x:=x) (y:=y) (I9k k2) (I9l k1) (I9m hs) h hy hx
 clear k1 k2 hs h hy hx;grind
end
end

set_option linter.unusedVariables false
set_option linter.unusedSectionVars false
section

section
variable {F:Type} [Fld F]
def ngp (p:F×F):F×F:=(p.1,0-p.2)
/-- Three points on the line y = l x + m, and no others. -/
structure Tri (b l m:F) (p q r:F×F):Prop where
 ln:Lnf b l m p.1 q.1 r.1
 y1:p.2=l*p.1+m
 y2:q.2=l*q.1+m
 y3:r.2=l*r.1+m
theorem Tri.swap {b l m:F} {p q r:F×F} (h:Tri b l m p q r):Tri b l m q p r:=by
 obtain ⟨⟨a1,a2,a3⟩,h1,h2,h3⟩:=h;refine ⟨⟨?_,?_,?_⟩,h2,h1,h3⟩
 ·rw[<-a1];clear a1 a2 a3 h1 h2 h3;grind
 ·rw[<-a2];clear a1 a2 a3 h1 h2 h3;grind
 ·rw[<-a3];clear a1 a2 a3 h1 h2 h3;grind
theorem Tri.rot {b l m:F} {p q r:F×F} (h:Tri b l m p q r):Tri b l m q r p:=by
 obtain ⟨⟨a1,a2,a3⟩,h1,h2,h3⟩:=h;refine ⟨⟨?_,?_,?_⟩,h2,h3,h1⟩
 ·rw[<-a1];clear a1 a2 a3 h1 h2 h3;grind
 ·rw[<-a2];clear a1 a2 a3 h1 h2 h3;grind
 ·rw[<-a3];clear a1 a2 a3 h1 h2 h3;grind
theorem H7l {l m x y:F} (h:y=l*x+m):0-y=(0-l)*x+(0-m):=by grind
theorem Tri.mir {b l m:F} {p q r:F×F} (h:Tri b l m p q r):Tri b (0-l) (0-m) (ngp p) (ngp q) (ngp r):=by
 obtain ⟨⟨a1,a2,a3⟩,h1,h2,h3⟩:=h;refine ⟨⟨?_,?_,?_⟩,H7l h1,H7l h2,H7l h3⟩
 ·show p.1+q.1+r.1=_
  rw[a1];clear a1 a2 a3 h1 h2 h3;grind
 ·show p.1*q.1+p.1*r.1+q.1*r.1=_
  rw[a2];clear a1 a2 a3 h1 h2 h3;grind
 ·show p.1*q.1*r.1=_
  rw[a3];clear a1 a2 a3 h1 h2 h3;grind
theorem I1m {x1 x2 y1 y2 l m i:F} (h1:y1=l*x1+m) (h2:y2=l*x2+m) (hi:(x2-x1)*i=1):(y2-y1)*i=l:=by
 subst h1 h2;have:(l*x2+m-(l*x1+m))*i=l*((x2-x1)*i):=by clear hi;grind
 rw[this,hi];clear this hi;grind
theorem I1n {x1 y1 x3 l m i:F} (h1:y1=l*x1+m) (a1:x1+x1+x3=l*l) (a2:x1*x1+x1*x3+x1*x3=0-(l*m+l*m)) (hi:(y1+y1)*i=1):F4 (x1*x1)*i=l:=by
 have k:F4 (x1*x1)=l*(y1+y1):=by
  unfold F4;have hx:x3=l*l-(x1+x1):=by clear a2 hi h1;grind
  subst hx;have hm:m=y1-l*x1:=by clear a1 a2 hi;grind
  subst hm;clear a1 hi h1;grind
 rw[k];have:l*(y1+y1)*i=l*((y1+y1)*i):=by clear a1 a2 hi h1 k;grind
 rw[this,hi];clear this hi k a1 a2 h1;grind
end

section
variable {F:Type} [Fld F] [DecidableEq F] {b:F}
theorem H2m (hc:Cv b) {l m:F} {p q r:F×F} (h:Tri b l m p q r) (hp:OnC b (some p)) (hd:p.1=q.1->p.2=q.2):slp p q=l∧icp p q=m:=by
 obtain ⟨⟨a1,a2,a3⟩,h1,h2,h3⟩:=h;have hs:slp p q=l:=by
  unfold slp;by_cases e:p.1=q.1
  ·rw[if_pos e]
   have hy:p.2+p.2≠0:=fun e=>by
    have hn:=B3w hc (x:=p.1) (y:=p.2) hp;have:((1:F)+1)*p.2=0:=by rw[<-e];clear e hn a1 a2 a3 h1 h2 h3;grind
    exact C2 hc.two hn this
   rw[<-e] at a1 a2;exact I1n h1 a1 a2 (Fld.mul_inv _ hy)
  ·rw[if_neg e]
   have hd:q.1-p.1≠0:=fun h=>e (by clear a1 a2 a3 h1 h2 h3 hd;grind)
   exact I1m h1 h2 (Fld.mul_inv _ hd)
 refine ⟨hs,?_⟩
 unfold icp;rw[hs,h1];clear a1 a2 a3 h1 h2 h3 hs;grind
theorem G7c {p q s:F×F} (h:C5 (some p) (some q)=some s) (e:p.1=q.1):p.2=q.2:=by
 unfold C5 at h;dsimp only at h;rw[if_pos e] at h;split at h
 ·rename_i e2;exact e2.1
 ·cases h
theorem O6 (hc:Cv b) {p q s:F×F} (hp:OnC b (some p)) (hq:OnC b (some q)) (h:C5 (some p) (some q)=some s):Tri b (slp p q) (icp p q) p q (ngp s):=by
 obtain ⟨a,h1,h2,h3⟩:=F7m hc hp hq h;exact ⟨a,h1,h2,h3⟩
/-- Which line it is. -/
theorem B6f (hc:Cv b) {l m:F} {p q r s:F×F} (h:Tri b l m p q r) (hp:OnC b (some p)) (hs:C5 (some p) (some q)=some s):slp p q=l∧icp p q=m:=H2m hc h hp (G7c hs)
end
end

section

def bin:Nat->Nat->Nat
 | _,0=>1
 | 0,_+1=>0
 | n+1,k+1=>bin n k+bin n (k+1)
theorem A7b:∀n k,n<k->bin n k=0
 | _,0,h=>absurd h (Nat.not_lt_zero _)
 | 0,k+1,_=>rfl
 | n+1,k+1,h=>by
  show bin n k+bin n (k+1)=0;rw[A7b n k (by omega),A7b n (k+1) (by omega)]
theorem D3y:∀n,bin n n=1
 | 0=>rfl
 | n+1=>by
  show bin n n+bin n (n+1)=1;rw[D3y n,A7b n (n+1) (by omega)]
theorem B7x:∀n k,(k+1)*bin (n+1) (k+1)=(n+1)*bin n k
 | 0,0=>rfl
 | 0,k+1=>by
  show (k+1+1)*(bin 0 (k+1)+bin 0 (k+1+1))=1*bin 0 (k+1);rw[A7b 0 (k+1) (by omega),A7b 0 (k+1+1) (by omega)]
  simp
 | n+1,0=>by
  have h:1*bin (n+1) 1=(n+1)*bin n 0:=B7x n 0;have e0:∀m,bin m 0=1:=fun m=>by cases m<;>rfl
  show 1*(bin (n+1) 0+bin (n+1) 1)=(n+1+1)*bin (n+1) 0;rw[e0] at *;omega
 | n+1,k+1=>by
  have h1:=B7x n k;have h2:=B7x n (k+1);show (k+1+1)*(bin (n+1) (k+1)+bin (n+1) (k+1+1))=(n+1+1)*bin (n+1) (k+1);have e:bin (n+1) (k+1)=bin n k+bin n (k+1):=rfl;rw[Nat.mul_add,h2];have e2:(k+1+1)*bin (n+1) (k+1)=(k+1)*bin (n+1) (k+1)+bin (n+1) (k+1):=by rw[Nat.add_mul (k+1) 1,Nat.one_mul]
  rw[e2,h1,Nat.add_mul (n+1) 1,Nat.one_mul];have e3:(n+1)*bin (n+1) (k+1)=(n+1)*bin n k+(n+1)*bin n (k+1):=by rw[e,Nat.mul_add]
  omega

section
variable {G:Type} [J7 G]
def fsm (f:Nat->G):Nat->G
 | 0=>f 0
 | n+1=>fsm f n+f (n+1)
theorem A7l (f:Nat->G):∀n,fsm f (n+1)=f 0+fsm (fun k=>f (k+1)) n
 | 0=>rfl
 | n+1=>by
  show fsm f (n+1)+f (n+2)=f 0+(fsm (fun k=>f (k+1)) n+f (n+2))
  rw[A7l f n];grind
theorem E5m (f g:Nat->G):∀n,fsm (fun k=>f k+g k) n=fsm f n+fsm g n
 | 0=>rfl
 | n+1=>by
  show fsm (fun k=>f k+g k) n+(f (n+1)+g (n+1))=fsm f n+f (n+1)+(fsm g n+g (n+1))
  rw[E5m f g n];grind
theorem C9y (f:Nat->G) (c:G):∀n,fsm (fun k=>f k*c) n=fsm f n*c
 | 0=>rfl
 | n+1=>by
  show fsm (fun k=>f k*c) n+f (n+1)*c=(fsm f n+f (n+1))*c
  rw[C9y f c n];grind
theorem C0y {f g:Nat->G}:∀n,(∀k,k<=n->f k=g k)->fsm f n=fsm g n
 | 0,h=>h 0 (Nat.le_refl 0)
 | n+1,h=>by
  show fsm f n+f (n+1)=fsm g n+g (n+1);rw[C0y n fun k hk=>h k (by omega),h (n+1) (Nat.le_refl _)]
theorem D5j:∀n,fsm (fun _=>(0:G)) n=0
 | 0=>rfl
 | n+1=>by show fsm (fun _=>(0:G)) n+0=0;rw[D5j n];grind
def S1 (x y:G) (n k:Nat):G:=nc (bin n k)*(A7 x k*A7 y (n-k))
theorem H2y (x y:G):∀n,A7 (x+y) n=fsm (S1 x y n) n
 | 0=>by
  show (1:G)=nc 1*(1*1);show (1:G)=(0+1)*(1*1);grind
 | n+1=>by
  have ih:=H2y x y n;show A7 (x+y) n*(x+y)=_;rw[A7l,ih];have h0:∀m,bin m 0=1:=fun m=>by cases m<;>rfl
  have e1:fsm (fun k=>S1 x y (n+1) (k+1)) n=fsm (fun k=>S1 x y n k*x) n+fsm (fun k=>nc (bin n (k+1))*(A7 x (k+1)*A7 y (n-k))) n:=by
   rw[<-E5m];refine C0y n fun k hk=>?_
   show nc (bin n k+bin n (k+1))*(A7 x k*x*A7 y (n+1-(k+1)))=nc (bin n k)*(A7 x k*A7 y (n-k))*x+nc (bin n (k+1))*(A7 x k*x*A7 y (n-k));rw[A9w,show n+1-(k+1)=n-k from by omega]
   generalize (nc (bin n k):G)=u;generalize (nc (bin n (k+1)):G)=v;generalize A7 x k=w;generalize A7 y (n-k)=z;grind
  have e2:fsm (S1 x y n) n*y=S1 x y (n+1) 0+fsm (fun k=>nc (bin n (k+1))*(A7 x (k+1)*A7 y (n-k))) n:=by
   have k1:fsm (fun k=>nc (bin n k)*(A7 x k*A7 y (n+1-k))) (n+1)=fsm (S1 x y n) n*y:=by
    show fsm (fun k=>nc (bin n k)*(A7 x k*A7 y (n+1-k))) n+nc (bin n (n+1))*_=_
    rw[A7b n (n+1) (by omega),<-C9y]
    have:fsm (fun k=>nc (bin n k)*(A7 x k*A7 y (n+1-k))) n=fsm (fun k=>S1 x y n k*y) n:=by
     refine C0y n fun k hk=>?_
     show _=nc (bin n k)*(A7 x k*A7 y (n-k))*y;rw[show n+1-k=n-k+1 from by omega]
     show nc (bin n k)*(A7 x k*(A7 y (n-k)*y))=_;generalize (nc (bin n k):G)=u;generalize A7 x k=w;generalize A7 y (n-k)=z;grind
    rw[this];show _+(0:G)*_=_;grind
   rw[<-k1,A7l];have k2:nc (bin n 0)*(A7 x 0*A7 y (n+1-0))=S1 x y (n+1) 0:=by
    unfold S1;rw[h0,h0]
   rw[k2];have k3:fsm (fun k=>nc (bin n (k+1))*(A7 x (k+1)*A7 y (n+1-(k+1)))) n=fsm (fun k=>nc (bin n (k+1))*(A7 x (k+1)*A7 y (n-k))) n:=by
    refine C0y n fun k hk=>?_
    show nc (bin n (k+1))*(A7 x (k+1)*A7 y (n+1-(k+1)))=_;rw[show n+1-(k+1)=n-k from by omega]
   rw[k3]
  have e3:fsm (fun k=>S1 x y n k*x) n=fsm (S1 x y n) n*x:=C9y _ x n
  rw[e1,e3];generalize fsm (S1 x y n) n=A at *;generalize fsm (fun k=>nc (bin n (k+1))*(A7 x (k+1)*A7 y (n-k))) n=B at *
  generalize S1 x y (n+1) 0=C at *
  clear ih e1 e3
  grind
end

section
variable {G:Type} [Fld G]
/-- A sum to the power of p. -/
theorem I4d {p:Nat} (hp:1<=p) (h0:(nc p:G)=0) (h1:∀k,0<k->k<p->(nc k:G)≠0) (x y:G):A7 (x+y) p=A7 x p+A7 y p:=by
 obtain ⟨n,rfl⟩:∃n,p=n+1:=⟨p-1,by omega⟩
 rw[H2y];have hz:∀k,k<n->(nc (bin (n+1) (k+1)):G)=0:=by
  intro k hk;have e:(nc ((k+1)*bin (n+1) (k+1)):G)=nc ((n+1)*bin n k):=congrArg (fun m:Nat=>(nc m:G)) (B7x n k)
  rw[A9x,A9x,h0] at e;have hk1:=h1 (k+1) (by omega) (by omega)
  by_cases hb:(nc (bin (n+1) (k+1)):G)=0
  ·exact hb
  ·exact absurd (e.trans (by generalize (nc (bin n k):G)=u;clear e hb hk1 h1 h0;grind)) (C2 hk1 hb)
 show fsm (S1 x y (n+1)) n+S1 x y (n+1) (n+1)=_;have h00:∀m,bin m 0=1:=fun m=>by cases m<;>rfl
 have e1:S1 x y (n+1) (n+1)=A7 x (n+1):=by
  unfold S1;rw[D3y,Nat.sub_self];show (0+1:G)*(A7 x (n+1)*1)=A7 x (n+1);generalize A7 x (n+1)=u;clear hz h1 h0;grind
 have e2:fsm (S1 x y (n+1)) n=A7 y (n+1):=by
  have b0:S1 x y (n+1) 0=A7 y (n+1):=by
   unfold S1;rw[h00,Nat.sub_zero];show (0+1:G)*(1*A7 y (n+1))=A7 y (n+1);generalize A7 y (n+1)=u;clear hz h1 h0;grind
  cases n with
  | zero=>exact b0
  | succ m=>
   rw[A7l,b0];have:fsm (fun k=>S1 x y (m+1+1) (k+1)) m=fsm (fun _=>(0:G)) m:=by
    refine C0y m fun k hk=>?_
    show nc (bin (m+1+1) (k+1))*_=(0:G);rw[hz k (by omega)]
    generalize A7 x (k+1)*A7 y (m+1+1-(k+1))=u;clear hz h1 h0;grind
   rw[this,D5j];generalize A7 y (m+1+1)=u;clear hz h1 h0;grind
 rw[e1,e2];generalize A7 x (n+1)=u;generalize A7 y (n+1)=v;clear hz h1 h0 e1 e2;grind
end
end

section

section
variable {G:Type} [J7 G]
theorem Z9 (g:G) (m:Nat):∀n,A7 g (m+n)=A7 g m*A7 g n
 | 0=>by show A7 g m=A7 g m*1;grind
 | n+1=>by
  show A7 g (m+n)*g=A7 g m*(A7 g n*g);rw[Z9 g m n];grind
theorem E5o (x y:G):∀n,A7 (x*y) n=A7 x n*A7 y n
 | 0=>by show (1:G)=1*1;grind
 | n+1=>by
  show A7 (x*y) n*(x*y)=A7 x n*x*(A7 y n*y);rw[E5o x y n];grind
theorem W7 (x:G) (m:Nat):∀n,A7 x (m*n)=A7 (A7 x m) n
 | 0=>rfl
 | n+1=>by
  rw[Nat.mul_succ,Z9,W7 x m n];rfl
theorem B2e:∀n,A7 (1:G) n=1
 | 0=>rfl
 | n+1=>by show A7 (1:G) n*1=1;rw[B2e n];grind
variable {I:G->G} (hI:∀x y,I (x*y)=I x*I y) (hII:∀x,I (I x)=x) (h1:I 1=1)
include hI h1 in
theorem C4p {e:G} (he:e*I e=1):∀n,A7 e n*I (A7 e n)=1
 | 0=>by show (1:G)*I 1=1;rw[h1];grind
 | n+1=>by
  have k:=C4p he n;show A7 e n*e*I (A7 e n*e)=1;rw[hI];have:A7 e n*e*(I (A7 e n)*I e)=A7 e n*I (A7 e n)*(e*I e):=by clear k he hI h1;grind
  rw[this,k,he];clear this k he hI h1;grind
include hI hII h1 in
theorem G6v {e:G} (he:e*I e=1) {p L c:Nat} (h6:A7 e (p ^ 6+1)=1)
  (num:(p ^ 2+1)*(L+p)*c*(p*(L*L)+p*(p*p)+L)+(p ^ 2+1)*(L+p)=(p ^ 2+1)*(L+p)*c*(p+L*(L*L)+L*(p*p))+(p ^ 6+1)*c) {a g k:G}
  (ha:a=A7 e ((p ^ 2+1)*(L+p))) (hg:g=A7 a c) (hk:k=I (A7 g L)*A7 g p):A7 (A7 k L) L*A7 (A7 k p) p*I k*a=1:=by
 generalize hN:(p ^ 2+1)*(L+p)=N at *;have eg:∀n,A7 g n=A7 e (N*c*n):=by intro n;rw[hg,ha,W7 e (N*c) n,W7 e N c]
 have ug:∀n,A7 g n*I (A7 g n)=1:=by intro n;rw[eg];exact C4p hI h1 he _
 have kL:k*A7 g L=A7 g p:=by
  rw[hk];have u:=ug L;have:I (A7 g L)*A7 g p*A7 g L=A7 g L*I (A7 g L)*A7 g p:=by clear u ug eg hk hg ha num h6 he hI hII h1;grind
  rw[this,u];clear this u ug eg hk hg ha num h6 he hI hII h1;grind
 have kk:k*I k=1:=by
  rw[hk,hI,hII];have u:=ug L;have v:=ug p;have:I (A7 g L)*A7 g p*(A7 g L*I (A7 g p))=A7 g L*I (A7 g L)*(A7 g p*I (A7 g p)):=by clear u v kL ug eg hk hg ha num h6 he hI hII h1;grind
  rw[this,u,v];clear this u v kL ug eg hk hg ha num h6 he hI hII h1;grind
 have kn:∀n,A7 k n*A7 g (L*n)=A7 g (p*n):=by intro n;rw[W7 g L n,W7 g p n,<-E5o,kL]
 have k1:=kn (L*L);have k2:=kn (p*p);have key:A7 (A7 k L) L*A7 (A7 k p) p*I k*a*A7 g (p+L*(L*L)+L*(p*p))=A7 g (p*(L*L)+p*(p*p)+L)*a:=by
  rw[<-W7,<-W7,Z9,Z9,Z9,Z9,<-k1,<-k2,<-kL];generalize A7 k (L*L)=A at *;generalize A7 k (p*p)=B at *;generalize A7 g (L*(L*L))=C at *;generalize A7 g (L*(p*p))=D at *;generalize A7 g L=E at *;clear k1 k2 kn kL ug eg hk hg ha num h6 he hI hII h1;have:A*B*I k*a*(k*E*C*D)=A*B*(k*I k)*a*E*C*D:=by clear kk;grind
  rw[this,kk];clear this kk;grind
 rw[eg,eg,ha,<-Z9,num,Z9,W7 e (p ^ 6+1) c,h6,B2e] at key;have u:=C4p hI h1 he (N*c*(p+L*(L*L)+L*(p*p)));rw[<-ha] at key;generalize A7 e (N*c*(p+L*(L*L)+L*(p*p)))=X at *;generalize A7 (A7 k L) L*A7 (A7 k p) p*I k*a=Y at *;have:Y*(X*I X)=X*I X:=by
  have:Y*(X*I X)=Y*X*I X:=by clear key u;grind
  rw[this,key];clear this key u;grind
 rw[u] at this;clear key u;grind
end
end

end
end Go.Proofs.YtefimjofjjdndaaGreat
