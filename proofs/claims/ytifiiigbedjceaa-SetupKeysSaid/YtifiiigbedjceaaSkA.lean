/- Parts of a proof, one behind the other: FwA, FwB, FwC, FwE, FwD, FwF, Fm, Fq, Al, Pn, Gp, Jb, Dw, Ag. No conditions. -/
import Derived.WalkKit
import Derived.WalkSpells
import Derived.WalkLawsBesides
import Derived.KernelRfl
open Go.IntKind (wrap)
namespace Go.Proofs.Ytifiiigbedjceaa
noncomputable section
section

/-- The order of the groups, and the greater prime. -/
def rN:Nat:=52435875175126190479447740508185965837690552500527637822603658699938581184513
def pN:Nat:=4002409555221667393417789825735904156556882819939007885332058136124031650490837864442687629129015664037894272559787
def B4:Nat:=115792089237316195423570985008687907853269984665640564039457584007913129639936
def B6:Nat:=39402006196394479212279040100143613805079739270465446667948293404245721771497210611414266254884915640806627990306816
instance:NeZero rN:=⟨by decide⟩
instance:NeZero pN:=⟨by decide⟩
instance:NeZero B4:=⟨by decide⟩
instance:NeZero B6:=⟨by decide⟩
abbrev Fr:=Fin rN
abbrev Fp:=Fin pN
abbrev U4:=Fin B4
abbrev U6:=Fin B6

/-- The i-th limb of a number. -/
def A0 (n i:Nat):Int:=((n / 2 ^ (64*i) % 18446744073709551616:Nat):Int)

/-- Data of several cells. -/
inductive Ob where
 | fr (x:U4)
 | s (x:Fr)
 | fp (x:U6)
 | p (x:Fp)

def Ob.k:Ob->Nat
 | .fr _=>4
 | .s _=>4
 | .fp _=>6
 | .p _=>6

def Ob.n:Ob->Nat
 | .fr x=>x.val
 | .s x=>x.val*B4 % rN
 | .fp x=>x.val
 | .p x=>x.val*B6 % pN

def Ob.cells (o:Ob):List Value:=(List.range o.k).map fun i=>.int .u64 (A0 o.n i)

def Ob.eqb:Ob->Ob->Option Bool
 | .fr x,.fr y=>some (decide (x=y))
 | .s x,.s y=>some (decide (x=y))
 | .fp x,.fp y=>some (decide (x=y))
 | .p x,.p y=>some (decide (x=y))
 | _,_=>none

/-- What a slice holds. -/
structure A1 where
 qm:U4
 ql:U4
 qr:U4
 qo:U4
 qc:U4
 a:Int
 b:Int
 c:Int
structure OpD where
 tag:Int
 a:Int
 b:Int
 c:Int
 n:Int
 k:U4
 ks:List U4
 vars:List Int
structure G1D where
 x:U6
 y:U6
 inf:Bool
structure G2D where
 xa:U6
 xb:U6
 ya:U6
 yb:U6
 inf:Bool

inductive Sq where
 | fr (l:List U4)
 | s (l:List Fr)
 | int (l:List Int)
 | u64 (l:List Int)
 | u8 (l:List Int)
 | gate (l:List A1)
 | op (l:List OpD)
 | g1 (l:List G1D)
 | g2 (l:List G2D)
 | pt (l:List (Fp×Fp×Fp))
 | pt2 (l:List ((Fp×Fp)×(Fp×Fp)×(Fp×Fp)))
 | place (l:List (Int×Int))
 | frs (l:List (List U4))
 | ints (l:List (List Int))
 | u64s (l:List (List Int))
 | ptt (l:List (List (Fp×Fp×Fp)))

/-- One part of a value: one cell, or an object of several. -/
inductive It where
 | int (k:IntKind) (n:Int)
 | bool (b:Bool)
 | lit (b:Bool)
 | ptr (p off:Nat)
 | ep (p es i off:Nat)
 | slc (p off len es:Nat)
 | sv (p lo len es:Nat)
 | rp (q:Sq) (i off:Nat)
 | sl (q:Sq)
 | vsl (v:Value) (q:Sq)
 | ob (o:Ob)
 | val (v:Value)
 | clo (f:FuncId) (caps:List (Nat×Nat))
 | mp (p:Nat)
 | ifc (t:Nat) (os:List Ob)
 | dead
 | old (len:Nat)
 | arr (p off n es:Nat)

/-- The cells of objects, one behind the other. -/
def K9:List Ob->List Value
 | []=>[]
 | o::l=>o.cells++K9 l

def It.size:It->Nat
 | .ob o=>o.k
 | _=>1

def H7:List It->Nat
 | []=>0
 | i::l=>i.size+H7 l

def Sq.n:Sq->Nat
 | .fr l=>l.length
 | .s l=>l.length
 | .int l=>l.length
 | .u64 l=>l.length
 | .u8 l=>l.length
 | .gate l=>l.length
 | .op l=>l.length
 | .g1 l=>l.length
 | .g2 l=>l.length
 | .pt l=>l.length
 | .pt2 l=>l.length
 | .place l=>l.length
 | .frs l=>l.length
 | .ints l=>l.length
 | .u64s l=>l.length
 | .ptt l=>l.length

def Sq.es:Sq->Nat
 | .fr _=>4
 | .s _=>4
 | .int _=>1
 | .u64 _=>1
 | .u8 _=>1
 | .gate _=>23
 | .op _=>11
 | .g1 _=>13
 | .g2 _=>25
 | .pt _=>18
 | .pt2 _=>36
 | .place _=>2
 | .frs _=>1
 | .ints _=>1
 | .u64s _=>1
 | .ptt _=>288

def A1.its (g:A1):List It:=[.ob (.fr g.qm),.ob (.fr g.ql),.ob (.fr g.qr),.ob (.fr g.qo),.ob (.fr g.qc),.int .i64 g.a,.int .i64 g.b,.int .i64 g.c]
def OpD.its (o:OpD):List It:=[.int .i64 o.tag,.int .i64 o.a,.int .i64 o.b,.int .i64 o.c,.int .i64 o.n,.ob (.fr o.k),.sl (.fr o.ks),.sl (.int o.vars)]
def G1D.its (g:G1D):List It:=[.ob (.fp g.x),.ob (.fp g.y),.bool g.inf]
def G2D.its (g:G2D):List It:=[.ob (.fp g.xa),.ob (.fp g.xb),.ob (.fp g.ya),.ob (.fp g.yb),.bool g.inf]
def S7 (x:Fp×Fp×Fp):List It:=[.ob (.p x.1),.ob (.p x.2.1),.ob (.p x.2.2)]
def B3t (x:(Fp×Fp)×(Fp×Fp)×(Fp×Fp)):List It:=[.ob (.p x.1.1),.ob (.p x.1.2),.ob (.p x.2.1.1),.ob (.p x.2.1.2),.ob (.p x.2.2.1),.ob (.p x.2.2.2)]
def F6:A1:=⟨0,0,0,0,0,0,0,0⟩
def op0:OpD:=⟨0,0,0,0,0,0,[],[]⟩
def g10:G1D:=⟨0,0,false⟩
def g20:G2D:=⟨0,0,0,0,false⟩
def pt0:Fp×Fp×Fp:=(0,0,0)
/-- Sixteen points, one behind the other. -/
def J4 (l:List (Fp×Fp×Fp)):Nat->Nat->List It
 | _,0=>[]
 | i,n+1=>.ob (.p (l.getD i pt0).1) :: .ob (.p (l.getD i pt0).2.1) :: .ob (.p (l.getD i pt0).2.2)::J4 l (i+1) n
def G6u:(Fp×Fp)×(Fp×Fp)×(Fp×Fp):=((0,0),(0,0),(0,0))

/-- The parts of one element. -/
def Sq.get:Sq->Nat->List It
 | .fr l,i=>[.ob (.fr (l.getD i 0))]
 | .s l,i=>[.ob (.s (l.getD i 0))]
 | .int l,i=>[.int .i64 (l.getD i 0)]
 | .u64 l,i=>[.int .u64 (l.getD i 0)]
 | .u8 l,i=>[.int .u8 (l.getD i 0)]
 | .gate l,i=>(l.getD i F6).its
 | .op l,i=>(l.getD i op0).its
 | .g1 l,i=>(l.getD i g10).its
 | .g2 l,i=>(l.getD i g20).its
 | .pt l,i=>S7 (l.getD i pt0)
 | .pt2 l,i=>B3t (l.getD i G6u)
 | .place l,i=>[.int .i64 (l.getD i (0,0)).1,.int .i64 (l.getD i (0,0)).2]
 | .frs l,i=>[.sl (.fr (l.getD i []))]
 | .ints l,i=>[.sl (.int (l.getD i []))]
 | .u64s l,i=>[.sl (.u64 (l.getD i []))]
 | .ptt l,i=>J4 (l.getD i []) 0 16

def Sq.set (q:Sq) (i:Nat) (its:List It):Option Sq:=
 match q,its with
 | .fr l,[.ob (.fr x)]=>some (.fr (l.set i x))
 | .s l,[.ob (.s x)]=>some (.s (l.set i x))
 | .int l,[.int .i64 x]=>some (.int (l.set i x))
 | .u64 l,[.int .u64 x]=>some (.u64 (l.set i x))
 | .u8 l,[.int .u8 x]=>some (.u8 (l.set i x))
 | .gate l,[.ob (.fr x1),.ob (.fr x2),.ob (.fr x3),.ob (.fr x4),.ob (.fr x5),.int .i64 a,.int .i64 b,.int .i64 c]=>some (.gate (l.set i ⟨x1,x2,x3,x4,x5,a,b,c⟩))
 | .op l,[.int .i64 t,.int .i64 a,.int .i64 b,.int .i64 c,.int .i64 n,.ob (.fr k),.sl (.fr ks),.sl (.int vs)]=>some (.op (l.set i ⟨t,a,b,c,n,k,ks,vs⟩))
 | .g1 l,[.ob (.fp x),.ob (.fp y),.bool b]=>some (.g1 (l.set i ⟨x,y,b⟩))
 | .g1 l,[.ob (.fp x),.ob (.fp y),.lit b]=>some (.g1 (l.set i ⟨x,y,b⟩))
 | .g2 l,[.ob (.fp x),.ob (.fp x'),.ob (.fp y),.ob (.fp y'),.bool b]=>some (.g2 (l.set i ⟨x,x',y,y',b⟩))
 | .g2 l,[.ob (.fp x),.ob (.fp x'),.ob (.fp y),.ob (.fp y'),.lit b]=>some (.g2 (l.set i ⟨x,x',y,y',b⟩))
 | .pt l,[.ob (.p x),.ob (.p y),.ob (.p z)]=>some (.pt (l.set i (x,y,z)))
 | .pt2 l,[.ob (.p a),.ob (.p b),.ob (.p c),.ob (.p d),.ob (.p e),.ob (.p f)]=>some (.pt2 (l.set i ((a,b),(c,d),(e,f))))
 | .place l,[.int .i64 a,.int .i64 b]=>some (.place (l.set i (a,b)))
 | _,_=>none

/-- The parts of sixteen points, read back. -/
def C0z:Nat->List It->Option (List (Fp×Fp×Fp))
 | 0,[]=>some []
 | n+1,.ob (.p a) :: .ob (.p b) :: .ob (.p c)::r=>match C0z n r with
  | some t=>some ((a,b,c)::t)
  | none=>none
 | _,_=>none

/-- One element more. -/
def Sq.push (q:Sq) (its:List It):Option Sq:=
 match q,its with
 | .fr l,[.ob (.fr x)]=>some (.fr (l++[x]))
 | .s l,[.ob (.s x)]=>some (.s (l++[x]))
 | .int l,[.int .i64 x]=>some (.int (l++[x]))
 | .u64 l,[.int .u64 x]=>some (.u64 (l++[x]))
 | .u8 l,[.int .u8 x]=>some (.u8 (l++[x]))
 | .gate l,[.ob (.fr x1),.ob (.fr x2),.ob (.fr x3),.ob (.fr x4),.ob (.fr x5),.int .i64 a,.int .i64 b,.int .i64 c]=>some (.gate (l++[⟨x1,x2,x3,x4,x5,a,b,c⟩]))
 | .op l,[.int .i64 t,.int .i64 a,.int .i64 b,.int .i64 c,.int .i64 n,.ob (.fr k),.sl (.fr ks),.sl (.int vs)]=>some (.op (l++[⟨t,a,b,c,n,k,ks,vs⟩]))
 | .g1 l,[.ob (.fp x),.ob (.fp y),.bool b]=>some (.g1 (l++[⟨x,y,b⟩]))
 | .g1 l,[.ob (.fp x),.ob (.fp y),.lit b]=>some (.g1 (l++[⟨x,y,b⟩]))
 | .g2 l,[.ob (.fp x),.ob (.fp x'),.ob (.fp y),.ob (.fp y'),.bool b]=>some (.g2 (l++[⟨x,x',y,y',b⟩]))
 | .g2 l,[.ob (.fp x),.ob (.fp x'),.ob (.fp y),.ob (.fp y'),.lit b]=>some (.g2 (l++[⟨x,x',y,y',b⟩]))
 | .pt l,[.ob (.p x),.ob (.p y),.ob (.p z)]=>some (.pt (l++[(x,y,z)]))
 | .pt2 l,[.ob (.p a),.ob (.p b),.ob (.p c),.ob (.p d),.ob (.p e),.ob (.p f)]=>some (.pt2 (l++[((a,b),(c,d),(e,f))]))
 | .place l,[.int .i64 a,.int .i64 b]=>some (.place (l++[(a,b)]))
 | .frs l,[.sl (.fr x)]=>some (.frs (l++[x]))
 | .frs l,[.val (.slice none 0 0)]=>some (.frs (l++[[]]))
 | .ints l,[.sl (.int x)]=>some (.ints (l++[x]))
 | .ptt l,its=>match C0z 16 its with
  | some t=>some (.ptt (l++[t]))
  | none=>none
 | _,_=>none

/-- The elements from a place on, so many. -/
def Sq.cut (q:Sq) (lo n:Nat):Sq:=
 match q with
 | .fr l=>.fr ((l.drop lo).take n)
 | .s l=>.s ((l.drop lo).take n)
 | .int l=>.int ((l.drop lo).take n)
 | .u64 l=>.u64 ((l.drop lo).take n)
 | .u8 l=>.u8 ((l.drop lo).take n)
 | .gate l=>.gate ((l.drop lo).take n)
 | .op l=>.op ((l.drop lo).take n)
 | .g1 l=>.g1 ((l.drop lo).take n)
 | .g2 l=>.g2 ((l.drop lo).take n)
 | .pt l=>.pt ((l.drop lo).take n)
 | .pt2 l=>.pt2 ((l.drop lo).take n)
 | .place l=>.place ((l.drop lo).take n)
 | .frs l=>.frs ((l.drop lo).take n)
 | .ints l=>.ints ((l.drop lo).take n)
 | .u64s l=>.u64s ((l.drop lo).take n)
 | .ptt l=>.ptt ((l.drop lo).take n)

/-- Two, one behind the other. -/
def Sq.app (q q' : Sq):Option Sq:=
 match q,q' with
 | .fr l,.fr l' => some (.fr (l++l'))
 | .s l,.s l' => some (.s (l++l'))
 | .int l,.int l' => some (.int (l++l'))
 | .u64 l,.u64 l' => some (.u64 (l++l'))
 | .u8 l,.u8 l' => some (.u8 (l++l'))
 | .gate l,.gate l' => some (.gate (l++l'))
 | .op l,.op l' => some (.op (l++l'))
 | .g1 l,.g1 l' => some (.g1 (l++l'))
 | .g2 l,.g2 l' => some (.g2 (l++l'))
 | .pt l,.pt l' => some (.pt (l++l'))
 | .pt2 l,.pt2 l' => some (.pt2 (l++l'))
 | .place l,.place l' => some (.place (l++l'))
 | .frs l,.frs l' => some (.frs (l++l'))
 | .ints l,.ints l' => some (.ints (l++l'))
 | .u64s l,.u64s l' => some (.u64s (l++l'))
 | .ptt l,.ptt l' => some (.ptt (l++l'))
 | _,_=>none

/-- A value: one cell, or parts; what a slot holds: a value, several (a tuple), or anything. -/
inductive V1 where
 | c (i:It)
 | a (l:List It)
inductive SV where
 | v (x:V1)
 | t (l:List V1)
 | top

/-- What a block of the call's own holds. -/
inductive En where
 | fl (l:List It)
 | sq (q:Sq)

structure St where
 t:Nat->SV
 m:Nat->Option En
 nt:Nat
 nx:Nat
 fr:List ((Nat->SV)×Nat)

end

section

/-- Cells that are read and never written: from a place on. -/
def rd (w:World) (F:Nat->Prop) (b o:Nat) (cs:List Value):Prop:=
 F b∧∀(j:Nat) (v:Value),cs[j]? = some v->w.cell? ⟨b,o+j,none⟩=some v

/-- Parts, one behind the other. -/
def B8 (D:It->List Value->Prop):List It->List Value->Prop
 | [],cs=>cs=[]
 | i::l,cs=>∃c1 c2,cs=c1++c2∧D i c1∧B8 D l c2

/-- What is known of a position: nothing, a block, or an empty slice without one. -/
inductive Kd where
 | no | real | nil
 deriving DecidableEq

structure Ctx where
 w:World
 F:Nat->Prop
 k:Nat->Kd
 β:Nat->Nat

/-- A part stands for these cells. -/
def den (x:Ctx):Nat->It->List Value->Prop
 | _,.int k n,vs=>vs=[.int k n]
 | _,.bool b,vs=>vs=[.bool b]
 | _,.lit b,vs=>vs=[.bool b]
 | _,.ptr p off,vs=>x.k p = .real∧vs=[.pointer (some ⟨x.β p,off,none⟩)]
 | _,.ep p es i off,vs=>x.k p = .real∧vs=[.pointer (some ⟨x.β p,i*es+off,none⟩)]
 | _,.slc p off len es,vs=>
  (x.k p = .nil∧off=0∧len=0∧vs=[.slice none 0 0]) ∨
  (x.k p = .real∧∃cap cs ty,vs=[.slice (some ⟨x.β p,off,none⟩) len cap]∧len<=cap∧cap<=maxLen∧x.w.heap[x.β p]? = some (.cells cs ty (0,0))∧off+cap*es<=cs.size)
 | _,.sv p lo len es,vs=>
  (len=0∧∃a cap,vs=[.slice a 0 cap]) ∨
  (x.k p = .real∧∃cap,vs=[.slice (some ⟨x.β p,lo*es,none⟩) len cap]∧len<=cap∧cap<=maxLen)
 | _,.ob o,vs=>vs=o.cells
 | _,.val v,vs=>vs=[v]∧v.oneCell' = true
 | _,.dead,vs=>∃v:Value,vs=[v]∧v.oneCell' = true
 | _,.old len,vs=>∃a cap,vs=[.slice a len cap]
 | _,.arr p off n _,vs=>x.k p = .real∧vs=[.slice (some ⟨x.β p,off,none⟩) n n]
 | _,.clo f caps,vs=>(∀c∈caps,x.k c.1 = .real)∧vs=[.func (.func f) #[] (caps.map fun c=>Value.pointer (some ⟨x.β c.1,c.2,none⟩)).toArray]
 | _,.mp p,vs=>x.k p = .real∧vs=[.map (some (x.β p))]
 | _,.ifc t os,vs=>vs=[.iface t (.agg (K9 os).toArray)]
 | 0,.sl _,_=>False
 | 0,.vsl _ _,_=>False
 | 0,.rp _ _ _,_=>False
 | d+1,.sl q,vs=>
  (∃a cap,vs=[.slice a 0 cap]∧q.n=0) ∨
  (∃b o cap,vs=[.slice (some ⟨b,o,none⟩) q.n cap]∧q.n<=cap∧q.n<=maxLen∧∀i,i<q.n->∃cs,B8 (den x d) (q.get i) cs∧rd x.w x.F b (o+i*q.es) cs)
 | d+1,.vsl v q,vs=>vs=[v]∧((∃a cap,vs=[.slice a 0 cap]∧q.n=0) ∨
  (∃b o cap,vs=[.slice (some ⟨b,o,none⟩) q.n cap]∧q.n<=cap∧q.n<=maxLen∧∀i,i<q.n->∃cs,B8 (den x d) (q.get i) cs∧rd x.w x.F b (o+i*q.es) cs))
 | d+1,.rp q i off,vs=>∃b o cs,vs=[.pointer (some ⟨b,o+off,none⟩)]∧i<q.n∧B8 (den x d) (q.get i) cs∧rd x.w x.F b o cs

/-- However deep slices lie in slices. -/
def Ctx.D (x:Ctx) (i:It) (vs:List Value):Prop:=∃d,den x d i vs

def A2s (x:Ctx):V1->Value->Prop
 | .c i,v=>i.size=1∧x.D i [v]
 | .a l,v=>∃cs,v = .agg cs.toArray∧B8 x.D l cs

inductive A3g (x:Ctx):List V1->List Value->Prop
 | nil:A3g x [] []
 | cons {a v l vs}:A2s x a v->A3g x l vs->A3g x (a::l) (v::vs)

def B1 (x:Ctx):SV->Value->Prop
 | .v a,v=>A2s x a v
 | .t l,v=>∃vs,v = .tuple vs.toArray∧A3g x l vs
 | .top,_=>True

/-- What an own block holds. -/
def D9 (x:Ctx):En->List Value->Prop
 | .fl l,cs=>B8 x.D l cs
 | .sq q,cs=>q.n*q.es<=cs.length∧∀i,i<q.n->∃c,B8 x.D (q.get i) c∧∀(j:Nat) (v:Value),c[j]? = some v->cs[i*q.es+j]? = some v

/-! Lengths. -/
theorem D4k (o:Ob):o.cells.length=o.k:=by simp [Ob.cells]

theorem B5o {x:Ctx} {d:Nat} {i:It} {vs:List Value} (h:den x d i vs):vs.length=i.size:=by
 cases i<;>cases d<;>simp only[den] at h<;>simp only[It.size]
 all_goals first
  | (subst h;simp [D4k];done)
  | (obtain ⟨h1,rfl⟩:=h;rfl)
  | (obtain ⟨rfl,h1⟩:=h;rfl)
  | (obtain ⟨v,rfl,_⟩:=h;rfl)
  | (rcases h with ⟨_,_,_,rfl⟩ | ⟨_,_,_,_,rfl,_⟩<;>rfl)
  | (rcases h with ⟨_,_,_,rfl⟩ | ⟨_,_,rfl,_⟩<;>rfl)
  | (rcases h with ⟨_,_,rfl,_⟩ | ⟨_,_,_,rfl,_⟩<;>rfl)
  | (obtain ⟨_,_,_,rfl,_⟩:=h;rfl)
  | exact h.elim

theorem N4 {x:Ctx} {d:Nat}:∀{l:List It} {cs:List Value},B8 (den x d) l cs->cs.length=H7 l
 | [],cs,h=>by simp only[B8] at h;subst h;rfl
 | i::l,cs,h=>by
  obtain ⟨c1,c2,rfl,h1,h2⟩:=h;simp [H7,B5o h1,N4 h2]

/-! Deeper. -/
theorem E6 {D D' : It->List Value->Prop} (h:∀i vs,D i vs->D' i vs):∀{l:List It} {cs:List Value},B8 D l cs->B8 D' l cs
 | [],_,hc=>hc
 | _::_,_,⟨c1,c2,e,h1,h2⟩=>⟨c1,c2,e,h _ _ h1,E6 h h2⟩

theorem D3e {x:Ctx}:∀(d:Nat) (i:It) (vs:List Value),den x d i vs->den x (d+1) i vs:=by
  intro d;induction d with
  | zero=>intro i vs h;cases i<;>simp only[den] at h ⊢<;>first | exact h | exact h.elim
  | succ d ih=>
    intro i vs h
    cases i<;>simp only[den] at h ⊢
    all_goals first
      | exact h
      | (rcases h with h | ⟨b,o,cap,e,hc,hm,hr⟩
         · exact .inl h
         · refine .inr ⟨b,o,cap,e,hc,hm,fun i hi=>?_⟩
           obtain ⟨cs,h1,h2⟩:=hr i hi;exact ⟨cs,E6 ih h1,h2⟩)
      | (obtain ⟨b,o,cs,e,hi,h1,h2⟩:=h
         exact ⟨b,o,cs,e,hi,E6 ih h1,h2⟩)
      | (obtain ⟨hv,h⟩:=h
         refine ⟨hv,?_⟩
         rcases h with h | ⟨b,o,cap,e,hc,hm,hr⟩
         · exact .inl h
         · refine .inr ⟨b,o,cap,e,hc,hm,fun i hi=>?_⟩
           obtain ⟨cs,h1,h2⟩:=hr i hi;exact ⟨cs,E6 ih h1,h2⟩)

/-- A known slice, told as data. -/
theorem D6b {x:Ctx} {v:Value} {q:Sq} {vs:List Value} (h:x.D (.vsl v q) vs):vs=[v]∧x.D (.sl q) vs:=by
 obtain ⟨d,h⟩:=h
 cases d with
 | zero=>exact h.elim
 | succ d=>exact ⟨h.1,d+1,h.2⟩
theorem F0r {x:Ctx} {v:Value} {q:Sq} (h:x.D (.sl q) [v]):x.D (.vsl v q) [v]:=by
 obtain ⟨d,h⟩:=h
 cases d with
 | zero=>exact h.elim
 | succ d=>exact ⟨d+1,rfl,h⟩

theorem A1d {x:Ctx} {d d' : Nat} (h:d<=d') {i:It} {vs:List Value} (hd:den x d i vs):den x d' i vs:=by
 induction h with
 | refl=>exact hd
 | step _ ih=>exact D3e _ _ _ ih

theorem N3 {x:Ctx} {d:Nat} {l:List It} {cs:List Value} (h:B8 (den x d) l cs):B8 x.D l cs:=E6 (fun _ _ h=>⟨d,h⟩) h

theorem J3 {x:Ctx}:∀{l:List It} {cs:List Value},B8 x.D l cs->∃d,B8 (den x d) l cs
 | [],_,h=>⟨0,h⟩
 | _::_,_,⟨c1,c2,e,⟨d,h1⟩,h2⟩=>by
  obtain ⟨d',h2⟩:=J3 h2;exact ⟨max d d',c1,c2,e,A1d (Nat.le_max_left _ _) h1,E6 (fun _ _ h=>A1d (Nat.le_max_right _ _) h) h2⟩

theorem B4l {x:Ctx} {i:It} {vs:List Value} (h:x.D i vs):vs.length=i.size:=by obtain ⟨d,h⟩:=h;exact B5o h

/-! The world grows. -/
/-- From one context to another: what is read is as it was; own blocks keep their sizes. -/
structure Ext (x y:Ctx):Prop where
 size:x.w.heap.size<=y.w.heap.size
 ro:∀b,x.F b->y.F b∧y.w.heap[b]? = x.w.heap[b]?
 k:∀p,x.k p ≠ .no->y.k p=x.k p
 β:∀p,x.k p = .real->y.β p=x.β p
 own:∀p,x.k p = .real->∀cs ty,x.w.heap[x.β p]? = some (.cells cs ty (0,0))->∃cs',y.w.heap[x.β p]? = some (.cells cs' ty (0,0))∧cs'.size=cs.size

theorem Ext.refl (x:Ctx):Ext x x:=⟨Nat.le_refl _,fun _ h=>⟨h,rfl⟩,fun _ _=>rfl,fun _ _=>rfl,fun _ _ cs _ h=>⟨cs,h,rfl⟩⟩

theorem Ext.trans {x y z:Ctx} (h:Ext x y) (g:Ext y z):Ext x z where
 size:=Nat.le_trans h.size g.size
 ro b hb:=⟨(g.ro b (h.ro b hb).1).1,(g.ro b (h.ro b hb).1).2.trans (h.ro b hb).2⟩
 k p hp:=(g.k p (by rw[h.k p hp];exact hp)).trans (h.k p hp)
 β p hp:=(g.β p ((h.k p (by simp [hp])).trans hp)).trans (h.β p hp)
 own p hp cs ty hc:=by
  obtain ⟨cs1,h1,s1⟩:=h.own p hp cs ty hc;have hk:=(h.k p (by simp [hp])).trans hp
  have:=g.own p hk cs1 ty (by rw[h.β p hp];exact h1)
  rw[h.β p hp] at this;obtain ⟨cs2,h2,s2⟩:=this;exact ⟨cs2,h2,s2.trans s1⟩

theorem D2q {w w' : World} {b:Nat} (h:w'.heap[b]? = w.heap[b]?) (o:Nat):w'.cell? ⟨b,o,none⟩=w.cell? ⟨b,o,none⟩:=by simp [World.cell?,h]

theorem D5b {x y:Ctx} (h:Ext x y) {b o:Nat} {cs:List Value} (hr:rd x.w x.F b o cs):rd y.w y.F b o cs:=
 ⟨(h.ro b hr.1).1,fun j v hv=>by rw[D2q (h.ro b hr.1).2];exact hr.2 j v hv⟩

theorem F2o {x y:Ctx} (h:Ext x y):∀(d:Nat) (i:It) (vs:List Value),den x d i vs->den y d i vs:=by
  intro d;induction d with
  | zero=>
    intro i vs hi
    cases i<;>simp only[den] at hi ⊢
    all_goals first
      | exact hi
      | (obtain ⟨h1,h2⟩:=hi;exact ⟨(h.k _ (by simp [h1])).trans h1,by rw[h.β _ h1];exact h2⟩)
      | (rcases hi with ⟨h1,h2⟩ | ⟨h1,cap,cs,ty,e,hl,hm,hc,hs⟩
         · exact .inl ⟨(h.k _ (by simp [h1])).trans h1,h2⟩
         · obtain ⟨cs',hc',hs'⟩:=h.own _ h1 cs ty hc
           exact .inr ⟨(h.k _ (by simp [h1])).trans h1,cap,cs',ty,by rw[h.β _ h1];exact e,hl,hm,by rw[h.β _ h1];exact hc',by omega⟩)
      | (rcases hi with hi | ⟨h1,cap,e,hl,hm⟩
         · exact .inl hi
         · exact .inr ⟨(h.k _ (by simp [h1])).trans h1,cap,by rw[h.β _ h1];exact e,hl,hm⟩)
      | (obtain ⟨h1,h2⟩:=hi
         refine ⟨fun c hc=>(h.k _ (by simp [h1 c hc])).trans (h1 c hc),?_⟩
         rw[h2];congr 3
         exact List.map_congr_left fun c hc=>by rw[h.β _ (h1 c hc)])
  | succ d ih=>
    intro i vs hi
    cases i<;>simp only[den] at hi ⊢
    all_goals first
      | exact hi
      | (obtain ⟨h1,h2⟩:=hi;exact ⟨(h.k _ (by simp [h1])).trans h1,by rw[h.β _ h1];exact h2⟩)
      | (rcases hi with ⟨h1,h2⟩ | ⟨h1,cap,cs,ty,e,hl,hm,hc,hs⟩
         · exact .inl ⟨(h.k _ (by simp [h1])).trans h1,h2⟩
         · obtain ⟨cs',hc',hs'⟩:=h.own _ h1 cs ty hc
           exact .inr ⟨(h.k _ (by simp [h1])).trans h1,cap,cs',ty,by rw[h.β _ h1];exact e,hl,hm,by rw[h.β _ h1];exact hc',by omega⟩)
      | (rcases hi with hi | ⟨h1,cap,e,hl,hm⟩
         · exact .inl hi
         · exact .inr ⟨(h.k _ (by simp [h1])).trans h1,cap,by rw[h.β _ h1];exact e,hl,hm⟩)
      | (obtain ⟨h1,h2⟩:=hi
         refine ⟨fun c hc=>(h.k _ (by simp [h1 c hc])).trans (h1 c hc),?_⟩
         rw[h2];congr 3
         exact List.map_congr_left fun c hc=>by rw[h.β _ (h1 c hc)])
      | (rcases hi with hi | ⟨b,o,cap,e,hc,hm,hr⟩
         · exact .inl hi
         · refine .inr ⟨b,o,cap,e,hc,hm,fun i hi=>?_⟩
           obtain ⟨cs,h1,h2⟩:=hr i hi;exact ⟨cs,E6 ih h1,D5b h h2⟩)
      | (obtain ⟨b,o,cs,e,hi,h1,h2⟩:=hi
         exact ⟨b,o,cs,e,hi,E6 ih h1,D5b h h2⟩)
      | (obtain ⟨hv,hi⟩:=hi
         refine ⟨hv,?_⟩
         rcases hi with hi | ⟨b,o,cap,e,hc,hm,hr⟩
         · exact .inl hi
         · refine .inr ⟨b,o,cap,e,hc,hm,fun i hi=>?_⟩
           obtain ⟨cs,h1,h2⟩:=hr i hi;exact ⟨cs,E6 ih h1,D5b h h2⟩)

theorem C7w {x y:Ctx} (h:Ext x y) (i:It) (vs:List Value) (hd:x.D i vs):y.D i vs:=by
 obtain ⟨d,hd⟩:=hd;exact ⟨d,F2o h d i vs hd⟩

theorem C8p {x y:Ctx} (h:Ext x y) {a:V1} {v:Value} (hv:A2s x a v):A2s y a v:=by
 cases a with
 | c i=>exact ⟨hv.1,C7w h _ _ hv.2⟩
 | a l=>obtain ⟨cs,e,hc⟩:=hv;exact ⟨cs,e,E6 (C7w h) hc⟩

theorem D9q {x y:Ctx} (h:Ext x y) {l:List V1} {vs:List Value} (hv:A3g x l vs):A3g y l vs:=by
 induction hv with
 | nil=>exact .nil
 | cons h1 _ ih=>exact .cons (C8p h h1) ih

theorem A1b {x y:Ctx} (h:Ext x y) {s:SV} {v:Value} (hv:B1 x s v):B1 y s v:=by
 cases s with
 | v a=>exact C8p h hv
 | t l=>obtain ⟨vs,e,hc⟩:=hv;exact ⟨vs,e,D9q h hc⟩
 | top=>trivial

theorem J9 {x y:Ctx} (h:Ext x y) {e:En} {cs:List Value} (hv:D9 x e cs):D9 y e cs:=by
 cases e with
 | fl l=>exact E6 (C7w h) hv
 | sq q=>exact ⟨hv.1,fun i hi=>let ⟨c,h1,h2⟩:=hv.2 i hi;⟨c,E6 (C7w h) h1,h2⟩⟩

end

section

/-- What is known of a type. -/
structure TyI where
 cells:Nat
 agg:Bool
 bytes:Nat
 zero:List It
 fields:List (Nat×Nat×Bool)
 arr:Option (Nat×Nat)
 slc:Option Nat
 kind:Option IntKind
 esq:Option Sq
 eqk:List Bool

structure Res where
 obl:List Prop
 val:SV
 ups:List (Nat×En)
 kill:Option Nat

abbrev B7:=List SV->Option (List Prop×SV×List En)
abbrev D2k:=List SV->(Nat->Option En)->Option (List Prop×SV×List (Nat×En))

structure Env where
 ty:Nat->Option TyI
 fn:Nat->Option B7
 mu:Nat->Option D2k
 inl:Nat->Option Func
 ex:Nat->Option Nat
 inv:Nat->Option (List (String×Nat))

def A3:List Prop->Prop
 | []=>True
 | p::l=>p∧A3 l

theorem D3 {l l' : List Prop}:A3 (l++l')↔A3 l∧A3 l' := by
 induction l with
 | nil=>simp [A3]
 | cons p l ih=>simp [A3,ih,and_assoc]

def A2n:Nat->List It->Option (List It)
 | 0,_=>some []
 | _+1,[]=>none
 | n+1,i::l=>if i.size<=n+1 then (A2n (n+1-i.size) l).map (i :: ·) else none

def A0n:Nat->List It->Option (List It)
 | 0,l=>some l
 | _+1,[]=>none
 | n+1,i::l=>if i.size<=n+1 then A0n (n+1-i.size) l else none

def B7e (off n:Nat) (l:List It):Option (List It):=
 match A0n off l with
 | some r=>A2n n r
 | none=>none

/-- The parts ahead, the new ones, the parts behind. -/
def B1c (off:Nat) (new l:List It):Option (List It):=
 match A2n off l,A0n (off+H7 new) l with
 | some a,some b=>some (a++new++b)
 | _,_=>none

def E8r (o:Ob):List It:=(List.range o.k).map fun i=>.int .u64 (A0 o.n i)

def A6r:List It->List It
 | []=>[]
 | .ob o::l=>E8r o++A6r l
 | i::l=>i::A6r l

def A2r (off n:Nat) (l:List It):Option (List It):=
 match B7e off n l with
 | some r=>some r
 | none=>B7e off n (A6r l)

def A3r (off:Nat) (new l:List It):Option (List It):=
 match B1c off new l with
 | some r=>some r
 | none=>B1c off new (A6r l)

def mkV (agg:Bool) (l:List It):Option V1:=
 match agg,l with
 | true,l=>some (.a l)
 | false,[i]=>some (.c i)
 | _,_=>none

def V1.its:V1->List It
 | .c i=>[i]
 | .a l=>l

def E7 (op:BinOp) (k:IntKind) (x y:Int):Int:=
 match op with
 | .and=>k.wrap ((BitVec.ofInt k.bits x &&& BitVec.ofInt k.bits y).toNat:Int)
 | .or=>k.wrap ((BitVec.ofInt k.bits x ||| BitVec.ofInt k.bits y).toNat:Int)
 | .xor=>k.wrap ((BitVec.ofInt k.bits x ^^^ BitVec.ofInt k.bits y).toNat:Int)
 | _=>k.wrap ((BitVec.ofInt k.bits x &&& ~~~ BitVec.ofInt k.bits y).toNat:Int)

def B6k (op:BinOp) (k:IntKind) (a b:Int):Option (List Prop×It):=
 match op with
 | .add=>some ([],.int k (k.wrap (a+b)))
 | .sub=>some ([],.int k (k.wrap (a-b)))
 | .mul=>some ([],.int k (k.wrap (a*b)))
 | .quo=>some ([b≠0],.int k (k.wrap (a.tdiv b)))
 | .rem=>some ([b≠0],.int k (a.tmod b))
 | .and=>some ([],.int k (E7 .and k a b))
 | .or=>some ([],.int k (E7 .or k a b))
 | .xor=>some ([],.int k (E7 .xor k a b))
 | .andNot=>some ([],.int k (E7 .andNot k a b))
 | .shl=>some ([0<=b],.int k (k.wrap (a*2 ^ (min b.toNat k.bits))))
 | .shr=>some ([0<=b],.int k (a.fdiv (2 ^ (min b.toNat k.bits))))
 | .eql=>some ([],.bool (a == b))
 | .neq=>some ([],.bool (a != b))
 | .lss=>some ([],.bool (a<b))
 | .leq=>some ([],.bool (a<=b))
 | .gtr=>some ([],.bool (a > b))
 | .geq=>some ([],.bool (a >= b))

def IntKind.same:IntKind->IntKind->Bool
 | .i8,.i8 | .i16,.i16 | .i32,.i32 | .i64,.i64 | .u8,.u8 | .u16,.u16 | .u32,.u32 | .u64,.u64=>true
 | _,_=>false

def E4l:It->It->Option Bool
 | .int k a,.int k' b=>if IntKind.same k k' then some (a == b) else none
 | .bool a,.bool b=>some (a == b)
 | .lit a,.bool b=>some (a == b)
 | .bool a,.lit b=>some (a == b)
 | .lit a,.lit b=>some (a == b)
 | .ob a,.ob b=>Ob.eqb a b
 | _,_=>none

def B0f:List It->List It->Option Bool
 | [],[]=>some true
 | [a],[b]=>E4l a b
 | a::l,b::l' =>
  match E4l a b,B0f l l' with
  | some x,some y=>some (x && y)
  | _,_=>none
 | _,_=>none

def A4v:List It->Option (List Bool)
 | []=>some []
 | .int _ _::l=>(A4v l).map (true :: ·)
 | .bool _::l=>(A4v l).map (false :: ·)
 | .lit _::l=>(A4v l).map (false :: ·)
 | .ob o::l=>(A4v l).map (List.replicate o.k true ++ ·)
 | _=>none

def C2l:BinOp->Option Bool
 | .eql=>some true
 | .neq=>some false
 | _=>none

def D3s:List It->Bool
 | [.val (.pointer none)]=>true
 | _=>false

/-- What a pointer is told against nil; else: whether both are. -/
def C5x (env:Env) (op:BinOp) (xt:Nat) (b:Bool):Option (List Prop×It):=
 match C2l op,env.ty xt with
 | some e,some i=>if !i.agg && D3s i.zero then some ([],.lit (if e then b else !b)) else none
 | _,_=>none

/-- Two strings joined, a string's end, a string of bytes: by choice, so that nothing unfolds them. -/
def G4m (s t:ByteArray):ByteArray:=Classical.choose (⟨s++t,rfl⟩:∃u,u=s++t)
theorem F2g (s t:ByteArray):G4m s t=s++t:=Classical.choose_spec (⟨s++t,rfl⟩:∃u,u=s++t)
def E4c (s:ByteArray) (n:Nat):ByteArray:=Classical.choose (⟨s.extract n s.size,rfl⟩:∃u,u=s.extract n s.size)
theorem E4d (s:ByteArray) (n:Nat):E4c s n=s.extract n s.size:=Classical.choose_spec (⟨s.extract n s.size,rfl⟩:∃u,u=s.extract n s.size)
def F0w (l:List Int):ByteArray:=Classical.choose (⟨⟨(l.map fun n=>UInt8.ofNat n.toNat).toArray⟩,rfl⟩:∃u:ByteArray,u=⟨(l.map fun n=>UInt8.ofNat n.toNat).toArray⟩)
theorem F0x (l:List Int):F0w l=⟨(l.map fun n=>UInt8.ofNat n.toNat).toArray⟩:=Classical.choose_spec (⟨⟨(l.map fun n=>UInt8.ofNat n.toNat).toArray⟩,rfl⟩:∃u:ByteArray,u=⟨(l.map fun n=>UInt8.ofNat n.toNat).toArray⟩)

/-- Two strings. -/
def D5r (op:BinOp) (s t:ByteArray):Option (List Prop×It):=
 match op with
 | .add=>some ([s.size+t.size<=1152921504606846976],.val (.string (G4m s t)))
 | .eql=>some ([],.bool (s.toList == t.toList))
 | .neq=>some ([],.bool (!(s.toList == t.toList)))
 | _=>none

def F9s:List It->Bool
 | [.val (.string _)]=>true
 | _=>false
def TyI.isStr (i:TyI):Bool:=!i.agg && F9s i.zero

def D2n (env:Env) (op:BinOp) (xt:Nat) (x y:SV):Option (List Prop×It):=
 match x,y with
 | .v (.c (.int k a)),.v (.c (.int k' b))=>
  match op with
  | .shl=>B6k .shl k a b
  | .shr=>B6k .shr k a b
  | op=>if IntKind.same k k' then B6k op k a b else none
 | .v (.c (.ptr _ _)),.v (.c (.val (.pointer none)))=>C5x env op xt false
 | .v (.c (.val (.pointer none))),.v (.c (.val (.pointer none)))=>C5x env op xt true
 | .v (.c (.val (.string s))),.v (.c (.val (.string t)))=>D5r op s t
 | .v (.c a),.v (.c b)=>
  match C2l op,env.ty xt,E4l a b with
  | some e,some i,some r=>if !i.agg && (A4v [a] == some i.eqk) && (A4v [b] == some i.eqk) then some ([],.bool (if e then r else !r)) else none
  | _,_,_=>none
 | .v (.a a),.v (.a b)=>
  match C2l op,env.ty xt,B0f a b with
  | some e,some i,some r=>if i.agg && !i.eqk.isEmpty && (A4v a == some i.eqk) && (A4v b == some i.eqk) then some ([],.bool (if e then r else !r)) else none
  | _,_,_=>none
 | _,_=>none

/-- Whole numbers of 64 bits among parts. -/
def u64s:List It->Option (List Int)
 | []=>some []
 | .int .u64 n::l=>(u64s l).map (n :: ·)
 | _=>none

/-- A variable's block, as a row of one. -/
def E3h:List It->Option Sq
 | [.ob (.fr x)]=>some (.fr [x])
 | [.sl (.fr l)]=>some (.frs [l])
 | [.int .i64 n]=>some (.int [n])
 | _=>none
/-- A part without own blocks: an own slice is read. -/
def E1p (m:Nat->Option En):It->Option (List Prop×It)
 | .int k n=>some ([],.int k n)
 | .bool b=>some ([],.bool b)
 | .lit b=>some ([],.lit b)
 | .ob o=>some ([],.ob o)
 | .val v=>some ([],.val v)
 | .sl q=>some ([],.sl q)
 | .rp q i off=>some ([],.rp q i off)
 | .clo f []=>some ([],.clo f [])
 | .slc p off len es=>
  match m p with
  | some (.sq q)=>some ([off=0,len=q.n,es=q.es],.sl q)
  | some (.fl l)=>
   match es,B7e off len (A6r l) with
   | 1,some r=>match u64s r with
    | some ns=>some ([],.sl (.u64 ns))
    | none=>none
   | _,_=>none
  | none=>none
 | .sv p lo len es=>
  match m p with
  | some (.sq q)=>some ([lo+len<=q.n,es=q.es],.sl (q.cut lo len))
  | _=>none
 | .ptr p off=>
  match m p with
  | some (.fl l)=>match E3h l with
   | some q=>some ([],.rp q 0 off)
   | none=>none
  | _=>none
 | _=>none

def D1a (m:Nat->Option En):List It->Option (List Prop×List It)
 | []=>some ([],[])
 | i::l=>
  match E1p m i,D1a m l with
  | some (o,i),some (o',l)=>some (o++o',i::l)
  | _,_=>none

def G2v (m:Nat->Option En):SV->Option (List Prop×SV)
 | .v (.c i)=>match E1p m i with
  | some (o,i)=>some (o,.v (.c i))
  | none=>none
 | .v (.a l)=>match D1a m l with
  | some (o,l)=>some (o,.v (.a l))
  | none=>none
 | _=>none

def B4v (m:Nat->Option En):List SV->Option (List Prop×List SV)
 | []=>some ([],[])
 | a::l=>
  match G2v m a,B4v m l with
  | some (o,a),some (o',l)=>some (o++o',a::l)
  | _,_=>none

/-- Positions of a contract's own results, from p on. -/
def A9i (p:Nat):It->It
 | .slc q off len es=>.slc (p+q) off len es
 | .sv q lo len es=>.sv (p+q) lo len es
 | .ptr q off=>.ptr (p+q) off
 | .ep q es i off=>.ep (p+q) es i off
 | .mp q=>.mp (p+q)
 | .arr q off n es=>.arr (p+q) off n es
 | .clo f c=>.clo f (c.map fun x=>(p+x.1,x.2))
 | i=>i
def shV (p:Nat):V1->V1
 | .c i=>.c (A9i p i)
 | .a l=>.a (l.map (A9i p))
def G3l (p:Nat):SV->SV
 | .v a=>.v (shV p a)
 | .t l=>.t (l.map (shV p))
 | .top=>.top

def E1z (p:Nat):En->En
 | .fl l=>.fl (l.map (A9i p))
 | .sq q=>.sq q

def G0 (p:Nat):List En->List (Nat×En)
 | []=>[]
 | e::l=>(p,e)::G0 (p+1) l

def A6m:Value->SV
 | .int k n=>.v (.c (.int k n))
 | .bool b=>.v (.c (.lit b))
 | .slice none 0 0=>.v (.c (.val (.slice none 0 0)))
 | .string s=>.v (.c (.val (.string s)))
 | .map none=>.v (.c (.val (.map none)))
 | .pointer none=>.v (.c (.val (.pointer none)))
 | _=>.top

def St.ev (σ:St):Operand->SV
 | .tmp t=>σ.t t
 | .const v=>A6m v
 | .global _=>.top
 | .func f=>.v (.c (.clo f []))

def C9n:SV->Option (IntKind×Int)
 | .v (.c (.int k n))=>some (k,n)
 | _=>none

/-- An address, cells and whether they are of several: what is loaded. -/
def A6x (m:Nat->Option En) (a:SV) (i:TyI):Option (List Prop×V1):=
 match a with
 | .v (.c (.ptr p off))=>
  match m p with
  | some (.fl l)=>
   match i.agg,l with
   | false,[.ob o]=>some ([off<o.k],.c (.int .u64 (A0 o.n off)))
   | agg,l=>match A2r off i.cells l with
    | some r=>(mkV agg r).map fun v=>([],v)
    | none=>none
  | some (.sq q)=>
   if q.es=1 && i.cells=1 then (mkV i.agg (q.get off)).map fun v=>([off<q.n],v)
   else if off=0 && q.es=i.cells then (mkV i.agg (q.get 0)).map fun v=>([0<q.n],v) else none
  | _=>none
 | .v (.c (.ep p es ix off))=>
  match m p with
  | some (.sq q)=>
   if q.es=es then
    match i.agg,q.get ix with
    | false,[.ob o]=>some ([ix<q.n,off<o.k],.c (.int .u64 (A0 o.n off)))
    | agg,l=>match A2r off i.cells l with
     | some r=>(mkV agg r).map fun v=>([ix<q.n],v)
     | none=>none
   else none
  | _=>none
 | .v (.c (.rp q ix off))=>
  match A2r off i.cells (q.get ix) with
  | some r=>(mkV i.agg r).map fun v=>([],v)
  | none=>none
 | _=>none

def A6e (m:Nat->Option En) (a x:SV) (i:TyI):Option (List Prop×List (Nat×En)):=
 match x with
 | .v v=>
  if H7 v.its=i.cells then
   match a with
   | .v (.c (.ptr p off))=>
    match m p with
    | some (.fl l)=>(A3r off v.its l).map fun r=>([],[(p,.fl r)])
    | some (.sq q)=>if q.es=1 && i.cells=1 then (q.set off v.its).map fun r=>([off<q.n],[(p,.sq r)]) else none
    | none=>none
   | .v (.c (.ep p es ix off))=>
    match m p with
    | some (.sq q)=>
     if q.es=es then
      match A3r off v.its (q.get ix) with
      | some r=>(q.set ix r).map fun r=>([ix<q.n],[(p,.sq r)])
      | none=>none
     else none
    | _=>none
   | _=>none
  else none
 | _=>none

/-- A pointer to a field. -/
def B8a (a:SV) (fo:Nat):Option It:=
 match a with
 | .v (.c (.ptr p off))=>some (.ptr p (off+fo))
 | .v (.c (.ep p es ix off))=>some (.ep p es ix (off+fo))
 | .v (.c (.rp q ix off))=>some (.rp q ix (off+fo))
 | _=>none

/-- A pointer to an element: es is the element's size, arr the array's length. -/
def A3n (m:Nat->Option En) (x:SV) (i:Int) (arr:Option Nat) (es:Nat):Option (List Prop×It):=
 match arr,x with
 | none,.v (.c (.slc p off len es'))=>
  if es' = es then
   match m p with
   | some (.sq q)=>if q.es=es then some ([0<=i,i<len,off=0],.ep p es i.toNat 0) else none
   | some (.fl _)=>some ([0<=i,i<len],.ptr p (off+i.toNat*es))
   | none=>none
  else none
 | none,.v (.c (.sl q))=>if q.es=es then some ([0<=i,i<q.n],.rp q i.toNat 0) else none
 | none,.v (.c (.vsl _ q))=>if q.es=es then some ([0<=i,i<q.n],.rp q i.toNat 0) else none
 | some n,.v (.c (.ptr p off))=>
  match m p with
  | some (.sq q)=>if q.es=es then some ([0<=i,i<n,off=0],.ep p es i.toNat 0) else none
  | some (.fl _)=>some ([0<=i,i<n],.ptr p (off+i.toNat*es))
  | none=>none
 | some n,.v (.c (.ep p es' ix off))=>some ([0<=i,i<n],.ep p es' ix (off+i.toNat*es))
 | some n,.v (.c (.rp q ix off))=>some ([0<=i,i<n],.rp q ix (off+i.toNat*es))
 | _,_=>none

def A8t:Option SV->Option (Option Int)
 | none=>some none
 | some x=>(C9n x).map fun y=>some y.2

/-- A piece: of an array behind a pointer (arr: its length), or of a slice. -/
def A3v (m:Nat->Option En) (x:SV) (lo hi:Option Int) (arr:Option Nat) (es:Nat):Option (List Prop×It):=
 match arr,x with
 | some n,.v (.c (.ptr p off))=>
  match (match m p with | some (.fl l)=>if off+n*es<=H7 l then some [] else none | some (.sq q)=>if q.es=es then some [off=0,n<=q.n] else none | none=>(none:Option (List Prop))) with
  | some o=>
   match lo,hi with
   | none,none=>if n<=4096 then some (o,if es=13 then .arr p off n es else .slc p off n es) else none
   | none,some h=>if n<=4096 then some ((0<=h)::(h<=n)::o,.slc p off h.toNat es) else none
   | _,_=>none
  | none=>none
 | none,.v (.c (.slc p off len es'))=>
  match lo,hi with
  | none,none=>some ([],.slc p off len es')
  | none,some h=>some ([off=0,es' = es,0<=h,h<=len],if es=11 then .slc p 0 h.toNat es else .sv p 0 h.toNat es)
  | some l,none=>some ([off=0,es' = es,0<=l,l<=len],.sv p l.toNat (len-l.toNat) es)
  | some l,some h=>some ([off=0,es' = es,0<=l,l<=h,h<=len],.sv p l.toNat (h.toNat-l.toNat) es)
 | none,.v (.c (.sl q))=>
  if q.es=es then
   match lo,hi with
   | none,none=>some ([],.sl q)
   | none,some h=>some ([0<=h,h<=q.n],.sl (q.cut 0 h.toNat))
   | some l,none=>some ([0<=l,l<=q.n],.sl (q.cut l.toNat (q.n-l.toNat)))
   | some l,some h=>some ([0<=l,l<=h,h<=q.n],.sl (q.cut l.toNat (h.toNat-l.toNat)))
  else none
 | _,_=>none

def A7u:Sq->Nat->Option Sq
 | .fr _,n=>some (.fr (List.replicate n 0))
 | .s _,n=>some (.s (List.replicate n 0))
 | .int _,n=>some (.int (List.replicate n 0))
 | .u64 _,n=>some (.u64 (List.replicate n 0))
 | .u8 _,n=>some (.u8 (List.replicate n 0))
 | .gate _,n=>some (.gate (List.replicate n F6))
 | .g1 _,n=>some (.g1 (List.replicate n g10))
 | .g2 _,n=>some (.g2 (List.replicate n g20))
 | .pt _,n=>some (.pt (List.replicate n pt0))
 | .pt2 _,n=>some (.pt2 (List.replicate n G6u))
 | .place _,n=>some (.place (List.replicate n (0,0)))
 | .frs _,n=>some (.frs (List.replicate n []))
 | .ints _,n=>some (.ints (List.replicate n []))
 | _,_=>none

def Y7 (q:Sq):List (List It)->Option Sq
 | []=>some q
 | x::l=>match q.push x with
  | some q=>Y7 q l
  | none=>none

/-- Literal places 0, 1, 2 .. of the parts. -/
def A2h:Nat->List (Nat×SV)->Option (List (List It))
 | _,[]=>some []
 | n,(i,.v v)::l=>if i=n then (A2h (n+1) l).map (v.its :: ·) else none
 | _,_=>none

/-- Where a part of a built value lies. -/
def B5t (fields:List (Nat×Nat×Bool)) (arr:Option (Nat×Nat)) (i:Nat):Option (Nat×Nat):=
 match arr with
 | some (_,es)=>some (i*es,es)
 | none=>(fields[i]?).map fun f=>(f.1,f.2.1)

def Z0 (fields:List (Nat×Nat×Bool)) (arr:Option (Nat×Nat)) (l:List It):List (Nat×SV)->Option (List It)
 | []=>some l
 | (i,.v v)::r=>
  match B5t fields arr i with
  | some (off,size)=>if H7 v.its=size then
    match A3r off v.its l with
    | some l=>Z0 fields arr l r
    | none=>none
   else none
  | none=>none
 | _=>none

def B0x:List It->Option Nat
 | []=>some 0
 | .int .u64 a::l=>(B0x l).map fun n=>a.toNat+18446744073709551616*n
 | _=>none

def B0o:List It->List Prop
 | .int .u64 a::l=>(0<=a)::(a<18446744073709551616)::B0o l
 | _=>[]

/-- A number whose limbs were given one by one is told as a number. -/
def B6l (z l:List It):List Prop×List It:=
 match z,l with
 | [.ob (.fr _)],[.int .u64 a,.int .u64 b,.int .u64 c,.int .u64 d]=>
  match B0x [.int .u64 a,.int .u64 b,.int .u64 c,.int .u64 d] with
  | some n=>(B0o [.int .u64 a,.int .u64 b,.int .u64 c,.int .u64 d],[.ob (.fr (Fin.ofNat B4 n))])
  | none=>([],l)
 | [.ob (.fp _)],[.int .u64 a,.int .u64 b,.int .u64 c,.int .u64 d,.int .u64 e,.int .u64 f]=>
  match B0x [.int .u64 a,.int .u64 b,.int .u64 c,.int .u64 d,.int .u64 e,.int .u64 f] with
  | some n=>(B0o [.int .u64 a,.int .u64 b,.int .u64 c,.int .u64 d,.int .u64 e,.int .u64 f],[.ob (.fp (Fin.ofNat B6 n))])
  | none=>([],l)
 | _,l=>([],l)

def B6w:List SV->Option (List (Nat×Nat))
 | []=>some []
 | .v (.c (.ptr p off))::l=>(B6w l).map ((p,off) :: ·)
 | _=>none

def E7r:List SV->Option It
 | [.v (.c (.int k a)),.v (.c (.int _ b))]=>some (.int k (if b<a then b else a))
 | [.v (.c (.int k a)),.v (.c (.int _ b)),.v (.c (.int _ c))]=>some (.int k (if c<(if b<a then b else a) then c else (if b<a then b else a)))
 | _=>none
def E7f:List SV->Option It
 | [.v (.c (.int k a)),.v (.c (.int _ b))]=>some (.int k (if b > a then b else a))
 | _=>none

def A1f:List SV->Option It
 | [.v (.c (.slc _ _ len _))]=>some (.int .i64 len)
 | [.v (.c (.sl q))]=>some (.int .i64 q.n)
 | [.v (.c (.vsl _ q))]=>some (.int .i64 q.n)
 | [.v (.c (.val (.slice none 0 0)))]=>some (.int .i64 0)
 | [.v (.c (.old len))]=>some (.int .i64 len)
 | _=>none

def A2u:List SV->Option Nat
 | [.v (.c (.val (.string s)))]=>some s.size
 | _=>none

/-- So many elements of this size. -/
def C8f (es:Nat):Nat->List It->Option (List (List It))
 | 0,_=>some []
 | n+1,l=>match A2n es l,A0n es l with
  | some a,some b=>(C8f es n b).map (a :: ·)
  | _,_=>none

/-- An array of elements within a block, as a row. -/
def D6g (m:Nat->Option En) (e:Sq) (p off n es:Nat):Option Sq:=
 match m p with
 | some (.fl l)=>match A0n off l with
  | some r=>match C8f es n r with
   | some cs=>if e.es=es then Y7 e cs else none
   | none=>none
  | none=>none
 | _=>none

/-- What is appended. -/
def B6j (m:Nat->Option En) (e:Sq):SV->Option (List Prop×Sq)
 | .v (.c (.sl q))=>some ([],q)
 | .v (.c (.val (.slice none 0 0)))=>some ([],e)
 | .v (.c (.slc p off len _))=>match m p with
  | some (.sq q)=>if off=0 then some ([len=q.n],q) else none
  | _=>none
 | .v (.c (.arr p off n es))=>(D6g m e p off n es).map fun q=>([],q)
 | _=>none

def B6i (m:Nat->Option En) (p:Nat) (i:TyI) (e:Sq) (s x:SV):Option Res:=
 match B6j m e x with
 | some (o,q')=>
  match s with
  | .v (.c (.val (.slice none 0 0)))=>
   match e.app q' with
   | some r=>some ⟨(q'.n*i.bytes<=140737488355328)::(q'.n<=maxLen)::o,.v (.c (.slc p 0 q'.n e.es)),[(p,.sq r)],none⟩
   | none=>none
  | .v (.c (.slc p' off len es))=>
   match m p' with
   | some (.sq q)=>
    match q.app q' with
    | some r=>if off=0∧es=q.es∧q.es=e.es then some ⟨((q.n+q'.n)*i.bytes<=140737488355328)::(q.n+q'.n<=maxLen)::(len=q.n)::o,.v (.c (.slc p' 0 (q.n+q'.n) es)),[(p',.sq r)],some p'⟩ else none
    | none=>none
   | _=>none
  | .v (.c (.arr p' off n es))=>
   match D6g m e p' off n es with
   | some q=>
    match q.app q' with
    | some r=>some ⟨((n+q'.n)*i.bytes<=140737488355328)::(n+q'.n<=maxLen)::(0<q'.n)::o,.v (.c (.slc p 0 (n+q'.n) e.es)),[(p,.sq r)],none⟩
    | none=>none
   | none=>none
  | _=>none
 | none=>none

/-- Cells copied from a row to another: elements of one cell each. -/
def B5n (m:Nat->Option En) (e:Sq):List SV->Option (List Prop×Int×List (Nat×En))
 | [.v (.c (.slc p off len es)),x]=>
  match m p with
  | some (.sq q)=>match B6j m e x with
   | some (o,q')=>match q'.app (q.cut q'.n (q.n-q'.n)) with
    | some r=>if off=0∧es=q.es∧q.es=e.es then some ((len=q.n)::(q'.n<=q.n)::o,q'.n,[(p,.sq r)]) else none
    | none=>none
   | none=>none
  | some (.fl l)=>match G2v m x with
   | some (o,.v (.c (.sl (.u64 ns))))=>match A3r off (ns.map fun n=>It.int .u64 n) l with
    | some r=>if es=1∧e.es=1∧ns.length=len then some (o,len,[(p,.fl r)]) else none
    | none=>none
   | _=>none
  | none=>none
 | _=>none

/-- All elements of an own row are made nought. -/
def A9v (m:Nat->Option En) (e:Sq):List SV->Option (List Prop×List (Nat×En))
 | [.v (.c (.slc p off len es))]=>
  match m p with
  | some (.sq q)=>match A7u e q.n with
   | some z=>if off=0∧es=q.es∧q.es=e.es then some ([len=q.n],[(p,.sq z)]) else none
   | none=>none
  | _=>none
 | _=>none

def F8 (m:Nat->Option En):List (Nat×En)->Nat->Option En
 | []=>m
 | (p,e)::l=>F8 (fun q=>if q=p then some e else m q) l

/-- No slice or pointer into memory that is only read. -/
def D4h:Sq->Bool
 | .op _ | .frs _ | .ints _ | .u64s _=>false
 | _=>true
def A2w:It->Bool
 | .sl _ | .vsl _ _ | .rp _ _ _=>false
 | _=>true
def E8f:V1->Bool
 | .c i=>A2w i
 | .a l=>l.all A2w
def D7o:SV->Bool
 | .v a=>E8f a
 | .t l=>l.all E8f
 | .top=>true
def C5z:En->Bool
 | .fl l=>l.all A2w
 | .sq q=>D4h q
def E3:It->Bool
 | .int _ _ | .bool _ | .lit _ | .ob _ | .val _ | .sl _ | .vsl _ _ | .rp _ _ _ | .clo _ [] | .ifc _ _=>true
 | _=>false
def D7u:SV->Bool
 | .v (.c i)=>E3 i
 | .v (.a l)=>l.all E3
 | _=>false

def A0m (env:Env) (m:Nat->Option En) (p:Nat) (f:Nat) (args:List SV):Option Res:=
 match env.fn f with
 | some spec=>
  match B4v m args with
  | some (o,as)=>
   match spec as with
   | some (o',r,es)=>if es.length<=16 && (args.all D7u || (D7o r && es.all C5z)) then some ⟨o++o',G3l p r,G0 p (es.map (E1z p)),none⟩ else none
   | none=>none
  | none=>none
 | none=>
  match env.mu f with
  | some spec=>
   match spec args m with
   | some (o,r,ups)=>some ⟨o,r,ups,none⟩
   | none=>none
  | none=>none

def S5:List It->Option (List Ob)
 | []=>some []
 | .ob o::l=>(S5 l).map (o :: ·)
 | _=>none

def A7l (name:String):List (String×Nat)->Option Nat
 | []=>none
 | (n,g)::l=>if n=name then some g else A7l name l

/-- A method of what stands behind an interface value: a contract's. -/
def C5g (env:Env) (m:Nat->Option En) (p:Nat) (recv:SV) (name:String) (args:List SV):Option Res:=
 match recv with
 | .v (.c (.ifc t os))=>
  match env.inv t with
  | some l=>
   match A7l name l with
   | some g=>
    match env.fn g with
    | some _=>A0m env m p g (.v (.a (os.map .ob))::args)
    | none=>none
   | none=>none
  | none=>none
 | _=>none

/-- A call through a slot: a contract's alone. -/
def B6t (env:Env) (m:Nat->Option En) (p:Nat) (f:Operand) (g:Nat) (args:List SV):Option Res:=
 match f with
 | .func _=>A0m env m p g args
 | _=>match env.fn g with
  | some _=>A0m env m p g args
  | none=>none

/-- Two numbers and a carry: their sum, with what goes beyond; their difference, with what is borrowed. -/
def A2 (k:Nat) (x y c:Int):Int×Int:=
 match k with
 | 0=>((x+y+c) % 18446744073709551616,(x+y+c) / 18446744073709551616)
 | _=>((x-y-c) % 18446744073709551616,if x<y+c then 1 else 0)

/-- A call of a function without a body that is reckoned in place. -/
def B7p (k:Nat) (args:List SV):Option Res:=
 match args with
 | [.v (.c (.int .u64 x)),.v (.c (.int .u64 y)),.v (.c (.int .u64 c))]=>some ⟨[0<=x,0<=y,y<18446744073709551616,0<=c,c<=1],.t [.c (.int .u64 (A2 k x y c).1),.c (.int .u64 (A2 k x y c).2)],[],none⟩
 | _=>none

def pureV (i:It):Option Res:=some ⟨[],.v (.c i),[],none⟩
def B5d (r:Option (List Prop×It)):Option Res:=r.map fun x=>⟨x.1,.v (.c x.2),[],none⟩

/-- One operation: its value, what must hold, and what it makes of the own blocks; new ones stand from p on. -/
def H2 (env:Env) (ρ:Operand->SV) (m:Nat->Option En) (p:Nat) (o:Oper):Option Res:=
  match o.op with
  | .move x=>some ⟨[],ρ x,[],none⟩
  | .assign x=>some ⟨[],ρ x,[],none⟩
  | .pick c a b=>match ρ c with
    | .v (.c (.lit d))=>some ⟨[],if d then ρ a else ρ b,[],none⟩
    | _=>none
  | .alloc t=>match env.ty t with
    | some i=>some ⟨[],.v (.c (.ptr p 0)),[(p,.fl i.zero)],none⟩
    | none=>none
  | .box _ x=>match ρ x with
    | .v v=>some ⟨[],.v (.c (.ptr p 0)),[(p,.fl v.its)],none⟩
    | _=>none
  | .build t parts=>match env.ty t with
    | some i=>
      match (match i.arr with | some (n,e)=>(env.ty e).map fun (ie:TyI)=>some (n,ie.cells) | none=>some none) with
      | some arr=>
        match Z0 i.fields arr i.zero (parts.toList.map fun (x:Nat×Operand)=>(x.1,ρ x.2)) with
        | some l=>if i.agg then (match B6l i.zero l with | (ob,l)=>some ⟨ob,.v (.a l),[],none⟩) else none
        | none=>none
      | none=>none
    | none=>none
  | .buildSlice t len parts=>match env.ty t with
    | some i=>match i.slc with
      | some e=>match env.ty e with
        | some ie=>match ie.esq,A2h 0 (parts.toList.map fun (x:Nat×Operand)=>(x.1,ρ x.2)) with
          | some q,some l=>if l.length=len∧len*ie.cells<=16777216∧len<=16777216 then
              match Y7 q l with
              | some q=>some ⟨[],.v (.c (.slc p 0 len ie.cells)),[(p,.sq q)],none⟩
              | none=>none
            else none
          | _,_=>none
        | none=>none
      | none=>none
    | none=>none
  | .load t a=>match env.ty t with
    | some i=>match A6x m (ρ a) i with
      | some (o,v)=>some ⟨o,.v v,[],none⟩
      | none=>none
    | none=>none
  | .store t a x=>match env.ty t with
    | some i=>match A6e m (ρ a) (ρ x) i with
      | some (o,ups)=>some ⟨o,.top,ups,none⟩
      | none=>none
    | none=>none
  | .nilCheck x=>match ρ x with
    | .v (.c (.ptr q off))=>pureV (.ptr q off)
    | .v (.c (.ep q es i off))=>pureV (.ep q es i off)
    | .v (.c (.rp q i off))=>pureV (.rp q i off)
    | _=>none
  | .binOp op xt x y _=>B5d (D2n env op xt (ρ x) (ρ y))
  | .unOp op _ x=>match op,ρ x with
    | .not,.v (.c (.lit b))=>pureV (.lit !b)
    | .not,.v (.c (.bool b))=>pureV (.bool !b)
    | .neg,.v (.c (.int k n))=>pureV (.int k (k.wrap (0-n)))
    | _,_=>none
  | .convert src dst x=>match env.ty src,env.ty dst with
    | some j,some i=>match j.slc with
      | none=>match ρ x with
        | .v (.c (.int _ n))=>match i.kind with
          | some k=>pureV (.int k (k.wrap n))
          | none=>none
        | _=>none
      | some e=>match env.ty e with
        | some ie=>match ie.kind with
          | some .u8=>if i.isStr then match B6j m (.u8 []) (ρ x) with
              | some (o,.u8 l)=>some ⟨o,.v (.c (.val (.string (F0w l)))),[],none⟩
              | _=>none
            else none
          | _=>none
        | none=>none
    | _,_=>none
  | .makeInterface t x=>match ρ x with
    | .v (.a l)=>match env.inv t,S5 l with
      | some _,some os=>pureV (.ifc t os)
      | _,_=>none
    | _=>none
  | .makeFunc fn first caps=>match fn,first.size,B6w (caps.toList.map ρ) with
    | .func f,0,some cs=>pureV (.clo f cs)
    | _,_,_=>none
  | .makeSlice t l c=>match env.ty t,ρ l,ρ c with
    | some i,.v (.c (.int _ n)),.v (.c (.int _ n'))=>match i.slc with
      | some e=>match env.ty e with
        | some ie=>match ie.esq with
          | some q=>match A7u q n.toNat with
            | some z=>some ⟨[0<=n,n=n',ie.bytes*n<=281474976710656,n<=9223372036854775807],.v (.c (.slc p 0 n.toNat ie.cells)),[(p,.sq z)],none⟩
            | none=>none
          | none=>none
        | none=>none
      | none=>none
    | _,_,_=>none
  | .slice t x lo hi mx=>match env.ty t,A8t (lo.map ρ),A8t (hi.map ρ),A8t (mx.map ρ) with
    | some i,some none,some (some h),some (some m)=>match i.arr,i.slc,ρ x with
      | none,some e,.v (.c (.sl q))=>match env.ty e with
        | some ie=>if q.es=ie.cells then some ⟨[0<=h,h<=m,m<=q.n],.v (.c (.sl (q.cut 0 h.toNat))),[],none⟩ else none
        | none=>none
      | _,_,_=>none
    | some i,some lo,some hi,some none=>match i.arr,i.slc with
      | some (n,e),none=>match env.ty e with
        | some ie=>B5d (A3v m (ρ x) lo hi (some n) ie.cells)
        | none=>none
      | none,some e=>match env.ty e with
        | some ie=>B5d (A3v m (ρ x) lo hi none ie.cells)
        | none=>none
      | none,none=>match ρ x,lo,hi with
        | .v (.c (.val (.string s))),some l,none=>if i.isStr then some ⟨[0<=l,l<=s.size],.v (.c (.val (.string (E4c s l.toNat)))),[],none⟩ else none
        | _,_,_=>none
      | _,_=>none
    | _,_,_,_=>none
  | .fieldAddr s x f=>match env.ty s with
    | some i=>match i.fields[f]? with
      | some (fo,fs,_)=>if fs=0 then none else match B8a (ρ x) fo with
        | some r=>pureV r
        | none=>none
      | none=>none
    | none=>none
  | .field s x f=>match env.ty s,ρ x with
    | some i,.v (.a l)=>match i.fields[f]? with
      | some (fo,fs,ag)=>if H7 l=i.cells∧fs≠0 then
          match A2r fo fs l with
          | some r=>match mkV ag r with
            | some v=>some ⟨[],.v v,[],none⟩
            | none=>none
          | none=>none
        else none
      | none=>none
    | _,_=>none
  | .indexAddr t x ix=>match env.ty t,C9n (ρ ix) with
    | some i,some (_,n)=>match i.arr,i.slc with
      | some (len,e),none=>match env.ty e with
        | some ie=>B5d (A3n m (ρ x) n (some len) ie.cells)
        | none=>none
      | none,some e=>match env.ty e with
        | some ie=>B5d (A3n m (ρ x) n none ie.cells)
        | none=>none
      | _,_=>none
    | _,_=>none
  | .index t x ix=>match env.ty t,ρ x,C9n (ρ ix) with
    | some i,.v (.a l),some (_,n)=>match i.arr with
      | some (len,e)=>match env.ty e with
        | some ie=>
          match ie.agg,ie.cells,l with
          | false,1,[.ob o]=>if o.k=len then some ⟨[0<=n,n<len],.v (.c (.int .u64 (A0 o.n n.toNat))),[],none⟩ else none
          | ag,es,l=>if H7 l=i.cells∧es≠0 then
              match A2r (n.toNat*es) es l with
              | some r=>match mkV ag r with
                | some v=>some ⟨[0<=n,n<len],.v v,[],none⟩
                | none=>none
              | none=>none
            else none
        | none=>none
      | none=>none
    | some i,.v (.c (.val (.string s))),some (_,n)=>if i.isStr then some ⟨[0<=n,n<s.size],.v (.c (.int .u8 ((s.data.toList.getD n.toNat 0).toNat:Int))),[],none⟩ else none
    | _,_,_=>none
  | .extract x i=>match ρ x with
    | .t l=>match l[i]? with
      | some v=>some ⟨[],.v v,[],none⟩
      | none=>none
    | _=>none
  | .call c=>match c.callee with
    | .invoke recv name=>C5g env m p (ρ recv) name (c.args.toList.map ρ)
    | .value f=>match ρ f with
      | .v (.c (.clo g []))=>match env.ex g with
        | some k=>B7p k (c.args.toList.map ρ)
        | none=>B6t env m p f g (c.args.toList.map ρ)
      | .v (.c (.clo g caps))=>B6t env m p f g (c.args.toList.map ρ++caps.map fun x=>.v (.c (.ptr x.1 x.2)))
      | _=>none
    | .builtin b=>
      match b with
      | .len=>match c.argTypes.toList with
        | [t]=>match env.ty t with
          | some i=>match i.slc,A1f (c.args.toList.map ρ) with
            | some _,some i=>pureV i
            | some _,none=>none
            | none,_=>match A2u (c.args.toList.map ρ) with
              | some n=>if i.isStr then pureV (.int .i64 n) else none
              | none=>none
          | none=>none
        | _=>none
      | .min=>match E7r (c.args.toList.map ρ) with
        | some i=>pureV i
        | none=>none
      | .max=>match E7f (c.args.toList.map ρ) with
        | some i=>pureV i
        | none=>none
      | .append=>match c.argTypes.toList,c.args.toList with
        | [t,t'],[s,x]=>if t=t' then
            match env.ty t with
            | some i=>match i.slc with
              | some e=>match env.ty e with
                | some ie=>match ie.esq with
                  | some q=>B6i m p ie q (ρ s) (ρ x)
                  | none=>none
                | none=>none
              | none=>none
            | none=>none
          else none
        | _,_=>none
      | .copy=>match c.argTypes.toList with
        | [t,_]=>match env.ty t with
          | some i=>match i.slc with
            | some e=>match env.ty e with
              | some ie=>match ie.esq with
                | some q=>match B5n m q (c.args.toList.map ρ) with
                  | some (o,n,ups)=>some ⟨o,.v (.c (.int .i64 n)),ups,none⟩
                  | none=>none
                | none=>none
              | none=>none
            | none=>none
          | none=>none
        | _=>none
      | .clear => match c.argTypes.toList with
        | [t]=>match env.ty t with
          | some i=>match i.slc with
            | some e=>match env.ty e with
              | some ie=>match ie.esq with
                | some q=>match A9v m q (c.args.toList.map ρ) with
                  | some (o,ups)=>some ⟨o,.top,ups,none⟩
                  | none=>none
                | none=>none
              | none=>none
            | none=>none
          | none=>none
        | _=>none
      | _=>none
  | _=>none

end

section

def E2 (p:Nat):It->It
 | .slc q off len es=>if q=p then .old len else .slc q off len es
 | .sv _ _ _ _=>.dead
 | .ptr q off=>if q=p then .dead else .ptr q off
 | .ep q es i off=>if q=p then .dead else .ep q es i off
 | .mp q=>if q=p then .dead else .mp q
 | .arr q off n es=>if q=p then .dead else .arr q off n es
 | .clo f c=>if c.any (fun a=>a.1 == p) then .dead else .clo f c
 | i=>i
def A0c (p:Nat):V1->V1
 | .c i=>.c (E2 p i)
 | .a l=>.a (l.map (E2 p))
def K2 (p:Nat):SV->SV
 | .v v=>.v (A0c p v)
 | .t l=>.t (l.map (A0c p))
 | .top=>.top
def Q5 (p:Nat):En->En
 | .fl l=>.fl (l.map (E2 p))
 | .sq q=>.sq q

def A0g (t:Nat->SV):Option Nat->Nat->SV
 | none=>t
 | some p=>fun x=>K2 p (t x)
def M5 (m:Nat->Option En):Option Nat->Nat->Option En
 | none=>m
 | some p=>fun x=>(m x).map (Q5 p)

def A2i (fr:List ((Nat->SV)×Nat)):Option Nat->List ((Nat->SV)×Nat)
 | none=>fr
 | some p=>fr.map fun q=>(A0g q.1 (some p),q.2)

def J7 (t:Nat->SV) (d:Nat) (v:SV):Nat->SV:=fun x=>if x=d then v else t x

/-- Every block that is written is there; every other one is new and stands in its room. -/
def Q6 (al:Nat->Bool) (m:Nat->Option En) (p:Nat):List (Nat×En)->Bool
 | []=>true
 | (q,_)::l=>(match m q with | some _=>al q | none=>Nat.ble p q && Nat.blt q (p+16)) && Q6 al m p l

/-- The slots that tell whether later operations are wanted. -/
def A9y (ops:List Oper):List Oper->List Nat
 | []=>[]
 | o::l=>match o.guard with
  | some (j,_)=>match (ops[j]?).bind (·.dst) with
   | some d=>let r:=A9y ops l;if r.contains d then r else d::r
   | none=>A9y ops l
  | none=>A9y ops l

def C1t:List Nat->List Bool->Option (List (Nat×Bool)×List Bool)
 | [],p=>some ([],p)
 | _::_,[]=>none
 | d::l,b::p=>match C1t l p with
  | some (r,p)=>some ((d,b)::r,p)
  | none=>none

def C5o (d:Nat):List (Nat×Bool)->Option Bool
 | []=>none
 | (e,b)::l=>if e=d then some b else C5o d l

/-- A slot's value, decided where it is to be. -/
def M1 (dec:List (Nat×Bool)) (d:Nat) (v:SV):List Prop×SV:=
 match v with
 | .v (.c (.bool b))=>match C5o d dec with
  | some x=>([b=x],.v (.c (.lit x)))
  | none=>([],.v (.c (.bool b)))
 | v=>([],v)

/-- Position 0 is never given up: it may be a caller's. -/
def A8d:Option Nat->Bool
 | some 0=>false
 | _=>true

/-- One operation on the state. -/
def C6h (env:Env) (al:Nat->Bool) (dec:List (Nat×Bool)) (p:Nat) (o:Oper) (σ:St):Option (List Prop×St):=
 match H2 env σ.ev (fun q=>if al q then σ.m q else none) p o with
 | none=>none
 | some r=>
  if A8d r.kill && Q6 al σ.m p r.ups then
   match o.dst with
   | none=>some (r.obl,{ σ with t:=A0g σ.t r.kill,m:=F8 (M5 σ.m r.kill) r.ups,fr:=A2i σ.fr r.kill })
   | some d=>if d<σ.nt then
     match M1 dec d r.val with
     | (o',v)=>some (o' ++ r.obl,{ σ with t:=J7 (A0g σ.t r.kill) d v,m:=F8 (M5 σ.m r.kill) r.ups,fr:=A2i σ.fr r.kill })
    else none
  else none

/-- Is an operation wanted? A slot that was left out holds no bool: what asks it is not wanted. -/
def C5c (ops:List Oper) (o:Oper) (t:Nat->SV):Option Bool:=
 match o.guard with
 | none=>some true
 | some (j,want)=>match (ops[j]?).bind (·.dst) with
  | none=>none
  | some d=>match t d with
   | .v (.c (.lit b))=>some (b == want)
   | .t []=>some false
   | _=>none

/-- One operation of a region, if it is wanted. -/
def A0a (env:Env) (al:Nat->Bool) (dec:List (Nat×Bool)) (ops:List Oper) (p:Nat) (o:Oper) (σ:St):Option (List Prop×St):=
 match C5c ops o σ.t with
 | some true=>C6h env al dec p o σ
 | some false=>(match o.dst with
  | some e=>if e<σ.nt then some ([],{ σ with t:=J7 σ.t e (.t []) }) else none
  | none=>some ([],σ))
 | none=>none

/-! Regions whose order is open. -/
def A6l (acc:List Nat):List Edge->Nat
 | []=>0
 | e::l=>if Region.binds .any e then 2 ^ e.on ||| acc.getD e.on 0 ||| A6l acc l else A6l acc l

def A3e (acc:List Nat) (o:Oper):Nat:=A6l acc o.after.toList

def X1:List Oper->List Nat->List Nat
 | [],acc=>acc
 | o::l,acc=>X1 l (acc++[A3e acc o])

/-- 0: no memory · 1: reads · 2: makes · 3: writes · 4: anything · 5: reads and makes · 6: makes one row longer. -/
def C4 (env:Env) (o:Oper):Nat:=
 match o.op with
 | .move _ | .assign _ | .pick _ _ _ | .build _ _ | .fieldAddr _ _ _ | .field _ _ _ | .extract _ _ | .unOp _ _ _ | .binOp _ _ _ _ _ | .index _ _ _ | .nilCheck _ | .makeFunc _ _ _ | .makeInterface _ _=>0
 | .convert src _ _=>match env.ty src with
  | some j=>match j.slc with
   | some _=>1
   | none=>0
  | none=>0
 | .load _ _ | .indexAddr _ _ _ | .slice _ _ _ _ _=>1
 | .alloc _ | .box _ _ | .buildSlice _ _ _ | .makeSlice _ _ _=>2
 | .store _ _ _=>3
 | .call c=>match c.callee with
  | .builtin .len | .builtin .min | .builtin .max=>0
  | .builtin .append=>6
  | .value (.func f)=>match env.ex f with
   | some _=>0
   | none=>match env.fn f with
    | some _=>5
    | none=>4
  | .value _=>5
  | .invoke _ _=>5
  | _=>4
 | _=>4

def E3u (a b:Nat):Bool:=
 match a,b with
 | 4,_=>true
 | _,4=>true
 | 3,1=>true
 | 1,3=>true
 | 3,3=>true
 | 3,5=>true
 | 5,3=>true
 | _,_=>false

/-- What an operation looks into at most: own blocks that are listed, or any. -/
def P7 (p:Nat):List Nat->Bool
 | []=>false
 | q::l=>if q=p then true else P7 p l
def U1:Option (List Nat)->Nat->Bool
 | none,_=>true
 | some l,q=>P7 q l
def B2a:Option (List Nat)->Option (List Nat)->Bool
 | some a,some b=>a.all fun p=>!(P7 p b)
 | _,_=>false
def E4s:It->Option (List Nat)
 | .ptr p _=>some [p]
 | .ep p _ _ _=>some [p]
 | .slc p _ _ _=>some [p]
 | .sv p _ _ _=>some [p]
 | .arr p _ _ _=>some [p]
 | .sl _ | .vsl _ _ | .rp _ _ _ | .int _ _ | .bool _ | .lit _ | .ob _ | .ifc _ _ | .val _=>some []
 | .clo _ caps=>some (caps.map (·.1))
 | _=>none
def E4t:Option (List Nat)->Option (List Nat)->Option (List Nat)
 | some a,some b=>some (a++b)
 | _,_=>none
def D7b:List It->Option (List Nat)
 | []=>some []
 | i::l=>E4t (E4s i) (D7b l)
def A8c:SV->Option (List Nat)
 | .v (.c i)=>E4s i
 | .v (.a l)=>D7b l
 | _=>none
def B5q:List SV->Option (List Nat)
 | []=>some []
 | a::l=>E4t (A8c a) (B5q l)
def F9m (ρ:Operand->SV) (o:Oper):Option (List Nat):=
 match o.op with
 | .load _ a=>A8c (ρ a)
 | .store _ a _=>A8c (ρ a)
 | .indexAddr _ x _=>A8c (ρ x)
 | .slice _ x _ _ _=>A8c (ρ x)
 | .convert _ _ x=>A8c (ρ x)
 | .call c=>match c.callee with
  | .value f=>E4t (A8c (ρ f)) (B5q (c.args.toList.map ρ))
  | .builtin .append=>B5q (c.args.toList.map ρ)
  | .invoke r _=>B5q (ρ r::c.args.toList.map ρ)
  | _=>none
 | _=>none

/-- A row that is made longer, and another operation. -/
def A5d (b:Nat) (fx fo:Option (List Nat)):Bool:=
 match b with
 | 0=>false
 | 2=>false
 | 1=>!(B2a fx fo)
 | _=>true
def B6z (a b:Nat) (fx fo:Option (List Nat)):Bool:=
 Nat.beq a 4 || Nat.beq b 4 || (if Nat.beq a 6 then A5d b fx fo else if Nat.beq b 6 then A5d a fx fo else E3u a b && !(B2a fx fo))

def P4 (env:Env) (ops:Array Oper) (fx fo:Option (List Nat)) (x y:Oper):Bool:=!(x.apart ops y) || B6z (C4 env x) (C4 env y) fx fo

def B3g (env:Env) (ops:Array Oper) (ft:List (Option (List Nat))) (fo:Option (List Nat)) (o:Oper) (anc:Nat):List Oper->Nat->Bool
 | [],_=>true
 | x::l,k=>(anc.testBit k || !(P4 env ops (ft.getD k none) fo x o)) && B3g env ops ft fo o anc l (k+1)

def P2 (i:Nat) (o:Oper):Bool:=o.after.toList.all fun e=>!(Region.binds .any e) || Nat.blt e.on i

def A8a (env:Env) (ops:Array Oper) (anc:List Nat) (ft:List (Option (List Nat))):List Oper->Nat->Bool
 | [],_=>true
 | o::l,i=>P2 i o && Nat.beq (anc.getD i 0) (A3e anc o) && B3g env ops ft (ft.getD i none) o (anc.getD i 0) (ops.toList.take i) 0 && A8a env ops anc ft l (i+1)

/-- What an operation of such a region may look at: what was there, and what its own forerunners made. -/
def D8n (lo anc p:Nat) (q:Nat):Bool:=Nat.blt q p && (Nat.blt q lo || anc.testBit ((q-lo) / 16))

def alF (lo anc p:Nat) (f:Option (List Nat)) (q:Nat):Bool:=D8n lo anc p q && U1 f q

/-- What the operations look into, run one by one. -/
def D6x (env:Env) (dec:List (Nat×Bool)) (ops:List Oper) (anc:List Nat) (lo:Nat):List (Nat×Oper)->St->List (Option (List Nat))
 | [],_=>[]
 | (i,o)::l,σ=>F9m σ.ev o::(match A0a env (D8n lo (anc.getD i 0) (lo+16*i)) dec ops (lo+16*i) o σ with
  | some (_,σ)=>D6x env dec ops anc lo l σ
  | none=>[])

/-- Whole, and of none of these blocks. -/
def D0n (ks:List Nat):It->Bool
 | .slc p _ _ _=>!(P7 p ks)
 | .ptr p _=>!(P7 p ks)
 | .ep p _ _ _=>!(P7 p ks)
 | .mp p=>!(P7 p ks)
 | .arr p _ _ _=>!(P7 p ks)
 | .clo _ c=>c.all fun a=>!(P7 a.1 ks)
 | .sv _ _ _ _ | .dead | .old _=>false
 | _=>true
def okV (ks:List Nat):V1->Bool
 | .c i=>D0n ks i
 | .a l=>l.all (D0n ks)
def E1f (ks:List Nat):SV->Bool
 | .v v=>okV ks v
 | .t l=>l.all (okV ks)
 | .top=>true
def E1d (ks:List Nat):En->Bool
 | .fl l=>l.all (D0n ks)
 | .sq _=>true
def D8i (al:Nat->Bool) (m:Nat->Option En):Nat->Option En:=fun q=>if al q then m q else none
/-- What goes over from slot to slot, or tells a length alone. -/
def B9e (o:Oper):Bool:=
 match o.op with
 | .move _ | .assign _=>true
 | .call c=>match c.callee with
  | .builtin .len=>true
  | _=>false
 | _=>false
/-- What an operation looks at and makes hangs on none of these blocks. -/
def I5 (env:Env) (ks:List Nat) (al:Nat->Bool) (ft:Option (List Nat)) (p:Nat) (o:Oper) (σ:St):Bool:=
 B9e o || (o.op.operands.toList.all (fun x=>E1f ks (σ.ev x)) &&
  (match C4 env o,ft with
   | 1,some l=>l.all fun q=>!(al q) || (match σ.m q with | some e=>E1d ks e | none=>true)
   | 1,none=>false
   | _,_=>true) &&
  (match H2 env σ.ev (D8i al σ.m) p o with
   | some r=>E1f ks r.val && r.ups.all fun x=>E1d ks x.2
   | none=>true))
def E5f (i q:Nat):List (Nat×Nat)->Bool
 | []=>false
 | (j,r)::l=>if j=i∧r=q then true else E5f i q l
/-- The rows that may be made longer by operations that are not ordered with this one. -/
def A5n (anc:List Nat) (i:Nat):List (Nat×Nat)->List Nat
 | []=>[]
 | (j,q)::l=>if (if j<i then (anc.getD i 0).testBit j else (anc.getD j 0).testBit i) then A5n anc i l else q::A5n anc i l
def Q9 (env:Env) (anc:List Nat) (kl:List (Nat×Nat)) (i:Nat) (al:Nat->Bool) (ft:Option (List Nat)) (p:Nat) (o:Oper) (σ:St):Bool:=
 if Nat.beq (C4 env o) 6 then
  match H2 env σ.ev (D8i al σ.m) p o with
  | some r=>match r.kill with
   | some q=>E5f i q kl
   | none=>true
  | none=>true
 else (A5n anc i kl).isEmpty || Nat.ble 3 (C4 env o) || I5 env (A5n anc i kl) al ft p o σ

def G9 (env:Env) (dec:List (Nat×Bool)) (ops:List Oper) (anc:List Nat) (ft:List (Option (List Nat))) (kl:List (Nat×Nat)) (lo:Nat):List (Nat×Oper)->St->Option (List Prop×St)
 | [],σ=>some ([],σ)
 | (i,o)::l,σ =>
  if Q9 env anc kl i (alF lo (anc.getD i 0) (lo+16*i) (ft.getD i none)) (ft.getD i none) (lo+16*i) o σ then
   match A0a env (alF lo (anc.getD i 0) (lo+16*i) (ft.getD i none)) dec ops (lo+16*i) o σ with
   | some (ob,σ)=>match G9 env dec ops anc ft kl lo l σ with
    | some (ob',σ)=>some (ob++ob',σ)
    | none=>none
   | none=>none
  else none

/-- The rows that are made longer, with the operations that do so. -/
def A5m (env:Env) (dec:List (Nat×Bool)) (ops:List Oper) (anc:List Nat) (lo:Nat):List (Nat×Oper)->St->List (Nat×Nat)
 | [],_=>[]
 | (i,o)::l,σ =>
  match A0a env (D8n lo (anc.getD i 0) (lo+16*i)) dec ops (lo+16*i) o σ with
  | some (_,σ')=>
   if Nat.beq (C4 env o) 6 then
    match H2 env σ.ev (D8i (D8n lo (anc.getD i 0) (lo+16*i)) σ.m) (lo+16*i) o with
    | some r=>match r.kill with
     | some q=>(i,q)::A5m env dec ops anc lo l σ'
     | none=>A5m env dec ops anc lo l σ'
    | none=>A5m env dec ops anc lo l σ'
   else A5m env dec ops anc lo l σ'
  | none=>[]
def G4k (env:Env) (ops:List Oper):Bool:=ops.any fun o=>Nat.beq (C4 env o) 6

def R7:Nat->List Oper->List (Nat×Oper)
 | _,[]=>[]
 | i,o::l=>(i,o)::R7 (i+1) l

def F2z (env:Env) (dec:List (Nat×Bool)) (ops:Array Oper) (anc:List Nat) (σ:St):List (Option (List Nat)):=
 if !(G4k env ops.toList) && A8a env ops anc [] ops.toList 0 then [] else D6x env dec ops.toList anc σ.nx (R7 0 ops.toList) σ
def C9r (env:Env) (dec:List (Nat×Bool)) (ops:Array Oper) (anc:List Nat) (σ:St):List (Nat×Nat):=
 if G4k env ops.toList then A5m env dec ops.toList anc σ.nx (R7 0 ops.toList) σ else []

/-! Code. -/
def B2b:List SV->Nat->SV
 | [],_=>.top
 | a::_,0=>a
 | _::l,n+1=>B2b l n

/-- The state in which a function begins. -/
def D6 (nt:Nat) (args:List SV):St:=⟨B2b args,fun _=>none,nt,16,[]⟩

/-- What a function tells at its end. -/
def A7o (env:Env) (σ:St):List ResultVar->Option (List Prop×List V1)
 | []=>some ([],[])
 | .tmp t::l=>match σ.t t,A7o env σ l with
  | .v v,some (o,r)=>some (o,v::r)
  | _,_=>none
 | .cell a t::l=>match env.ty t with
  | some i=>match A6x σ.m (σ.t a) i,A7o env σ l with
   | some (o,v),some (o',r)=>some (o++o',v::r)
   | _,_=>none
  | none=>none

def C3z:List V1->SV
 | [v]=>.v v
 | l=>.t l

/-- A call that is stepped into. -/
def C9l (env:Env) (σ:St) (o:Oper):Option (Func×Code×List SV):=
 match o.op with
 | .call c=>match c.callee with
  | .value f=>match σ.ev f with
   | .v (.c (.clo g caps))=>match env.fn g,env.mu g,env.inl g with
    | none,none,some fn=>match fn.body with
     | some b=>some (fn,b,c.args.toList.map σ.ev++caps.map fun x=>.v (.c (.ptr x.1 x.2)))
     | none=>none
    | _,_,_=>none
   | _=>none
  | _=>none
 | _=>none

def C9o:Option Bool->Bool
 | some b=>b
 | none=>false

/-- Back from a call that was stepped into. -/
def C5a (env:Env) (σ:St) (fn:Func) (dst:Option Nat) (dec:List (Nat×Bool)):Option (List Prop×St):=
 match A7o env σ fn.results.toList,σ.fr with
 | some (ob,r),(tS,ntS)::fr=>
  match dst with
  | none=>some (ob,{ t:=tS,m:=σ.m,nt:=ntS,nx:=σ.nx,fr:=fr })
  | some d=>if d<ntS then
    match M1 dec d (C3z r) with
    | (o',v)=>some (o' ++ ob,{ t:=J7 tS d v,m:=σ.m,nt:=ntS,nx:=σ.nx,fr:=fr })
   else none
 | _,_=>none

inductive KI where
 | code (c:Code)
 | blk (id:Nat)
 | lp (c:Code)
 | ops (l:Array Oper) (i:Nat) (dec:List (Nat×Bool))
 | any (l:Array Oper) (c:Nat) (rem:List (Nat×Oper))
 | fr (fn:Func) (dst:Option Nat) (dec:List (Nat×Bool))

structure Cfg where
 k:List KI
 x:Exit
 σ:St

structure Out where
 obl:List Prop
 path:List Bool
 cfg:Cfg

/-- A call that is stepped into, by its name. -/
def F8l (env:Env) (o:Oper):Bool:=
 match o.op with
 | .call c=>match c.callee with
  | .value (.func g)=>match env.fn g,env.mu g,env.inl g,env.ex g with
   | none,none,some _,none=>true
   | _,_,_,_=>false
  | _=>false
 | _=>false
def E3l (env:Env):List Oper->Nat->Option Nat
 | [],_=>none
 | o::l,i=>if F8l env o then some i else E3l env l (i+1)
/-- A call of what a slot holds that is not looked into: a yield. -/
def G0x (σ:St) (t:Nat) (p:Oper):Bool:=
 match p.dst,p.op with
 | some d,.move (.tmp s)=>if Nat.beq d t then match σ.t s with
  | .v (.c (.val _))=>true
  | _=>false else false
 | _,_=>false
def D8j (σ:St) (ops:List Oper):List Oper->Nat->Option Nat
 | [],_=>none
 | o::l,i=>match o.op with
  | .call c=>match c.callee with
   | .value (.tmp t)=>if ops.any (G0x σ t) then some i else D8j σ ops l (i+1)
   | _=>D8j σ ops l (i+1)
  | _=>D8j σ ops l (i+1)
def G3r (env:Env) (σ:St) (ops:List Oper):Option Nat:=
 match E3l env ops 0 with
 | some c=>some c
 | none=>D8j σ ops ops 0
/-- From a place on all stands in order, behind all that is ahead. -/
def C7p (anc:List Nat) (n c:Nat):Bool:=Nat.ble c n && (List.range n).all fun i=>Nat.blt i c || (List.range i).all fun j=>(anc.getD i 0).testBit j

def D1o (env:Env) (unroll:Bool) (k:List KI) (σ:St) (path:List Bool) (c:Code):Option Out:=
 match c with
 | .skip=>some ⟨[],path,⟨k,.normal,σ⟩⟩
 | .seq a b=>some ⟨[],path,⟨.code a :: .code b::k,.normal,σ⟩⟩
 | .block id c=>some ⟨[],path,⟨.code c :: .blk id::k,.normal,σ⟩⟩
 | .loop c=>if unroll then some ⟨[],path,⟨.code c :: .lp c::k,.normal,σ⟩⟩ else none
 | .exit id=>some ⟨[],path,⟨k,.exit id,σ⟩⟩
 | .ret=>some ⟨[],path,⟨k,.ret,σ⟩⟩
 | .cond o a b=>match σ.ev o with
  | .v (.c (.lit d))=>some ⟨[],path,⟨.code (if d then a else b)::k,.normal,σ⟩⟩
  | .v (.c (.bool b'))=>match path with
   | d::path=>some ⟨[b' = d],path,⟨.code (if d then a else b)::k,.normal,σ⟩⟩
   | []=>none
  | _=>none
 | .region _ ops draw=>
  match C1t (A9y ops.toList ops.toList) path with
  | none=>none
  | some (dec,path)=>
   if draw then
    let anc:=X1 ops.toList []
    let ft:=F2z env dec ops anc σ
    if A8a env ops anc ft ops.toList 0 then
     match G3r env σ ops.toList with
     | none=>match G9 env dec ops.toList anc ft (C9r env dec ops anc σ) σ.nx (R7 0 ops.toList) σ with
      | some (ob,σ')=>some ⟨ob,path,⟨k,.normal,{ σ' with nx:=σ.nx+16*ops.size }⟩⟩
      | none=>none
     | some c=>if C7p anc ops.size c then
       match G9 env dec ops.toList anc ft (C9r env dec ops anc σ) σ.nx (R7 0 (ops.toList.take c)) σ with
       | some (ob,σ')=>some ⟨ob,path,⟨.ops ops c dec::k,.normal,{ σ' with nx:=σ.nx+16*ops.size }⟩⟩
       | none=>none
      else none
    else none
   else some ⟨[],path,⟨.ops ops 0 dec::k,.normal,σ⟩⟩
 | _=>none

/-- No two of these that are not ordered get into each other's way; one place is left out. -/
def B0y (env:Env) (ops:Array Oper) (ex:Nat) (o:Oper) (anc:Nat):List Oper->Nat->Bool
 | [],_=>true
 | x::l,k=>(Nat.beq k ex || anc.testBit k || !(P4 env ops none none x o)) && B0y env ops ex o anc l (k+1)
def A2f (env:Env) (ops:Array Oper) (anc:List Nat) (ex:Nat):List Oper->Nat->Bool
 | [],_=>true
 | o::l,i=>P2 i o && Nat.beq (anc.getD i 0) (A3e anc o) && (Nat.beq i ex || B0y env ops ex o (anc.getD i 0) (ops.toList.take i) 0) && A2f env ops anc ex l (i+1)
def A5z (n:Nat):List (Nat×Oper)->Nat
 | []=>n
 | q::_=>q.1
/-- Those ahead of the next call that is stepped into, and those behind it. -/
def B2i (env:Env):List (Nat×Oper)->List (Nat×Oper)×List (Nat×Oper)
 | []=>([],[])
 | q::l=>if F8l env q.2 then ([],q::l) else match B2i env l with
  | (a,b)=>(q::a,b)

def step (env:Env) (unroll:Bool) (c:Cfg) (path:List Bool):Option Out:=
 match c.x,c.k with
 | .normal,.code c' :: k=>D1o env unroll k c.σ path c'
 | .normal,.blk _::k=>some ⟨[],path,⟨k,.normal,c.σ⟩⟩
 | .normal,.lp c' :: k=>if unroll then some ⟨[],path,⟨.code c' :: .lp c' :: k,.normal,c.σ⟩⟩ else none
 | .normal,.ops ops i dec::k=>
  match ops[i]? with
  | some o=>
   match C9l env c.σ o,C9o (C5c ops.toList o c.σ.t) with
   | some (fn,b,args),true=>
    if Nat.ble args.length fn.ntmps then
     some ⟨[],path,⟨.code b :: .fr fn o.dst dec :: .ops ops (i+1) dec::k,.normal,{ t:=B2b args,m:=c.σ.m,nt:=fn.ntmps,nx:=c.σ.nx,fr:=(c.σ.t,c.σ.nt)::c.σ.fr }⟩⟩
    else none
   | _,_=>
    match A0a env (fun q=>Nat.blt q c.σ.nx) dec ops.toList c.σ.nx o c.σ with
    | some (ob,σ)=>some ⟨ob,path,⟨.ops ops (i+1) dec::k,.normal,{ σ with nx:=c.σ.nx+16 }⟩⟩
    | none=>none
  | none=>some ⟨[],path,⟨k,.normal,c.σ⟩⟩
 | .normal,.any ops ex rem::k=>
  let anc:=X1 ops.toList []
  match B2i env rem with
  | (pre,post)=>
   if A2f env ops anc ex ops.toList 0 && (C7p anc ops.size (A5z ops.size post) && (Nat.blt ex (A5z ops.size post) && (pre.all fun q=>Nat.blt q.1 (A5z ops.size post) && !(Nat.beq q.1 ex)) && Nat.beq post.length (ops.size-A5z ops.size post))) then
    match G9 env [] ops.toList anc [] [] c.σ.nx pre c.σ with
    | some (ob,σ')=>some ⟨ob,path,⟨.ops ops (A5z ops.size post) []::k,.normal,{ σ' with nx:=c.σ.nx+16*ops.size }⟩⟩
    | none=>none
   else none
 | .normal,.fr fn dst dec::k=>match C5a env c.σ fn dst dec with
  | some (ob,σ)=>some ⟨ob,path,⟨k,.normal,σ⟩⟩
  | none=>none
 | .ret,.fr fn dst dec::k=>match C5a env c.σ fn dst dec with
  | some (ob,σ)=>some ⟨ob,path,⟨k,.normal,σ⟩⟩
  | none=>none
 | .exit id,.blk id' :: k=>if id' = id then some ⟨[],path,⟨k,.normal,c.σ⟩⟩ else some ⟨[],path,⟨k,.exit id,c.σ⟩⟩
 | .exit id,.code _::k=>some ⟨[],path,⟨k,.exit id,c.σ⟩⟩
 | .exit id,.lp _::k=>some ⟨[],path,⟨k,.exit id,c.σ⟩⟩
 | .ret,.code _::k=>some ⟨[],path,⟨k,.ret,c.σ⟩⟩
 | .ret,.blk _::k=>some ⟨[],path,⟨k,.ret,c.σ⟩⟩
 | .ret,.lp _::k=>some ⟨[],path,⟨k,.ret,c.σ⟩⟩
 | _,_=>none

/-- So many steps at most; it stops where no step is known. -/
def run (env:Env) (unroll:Bool):Nat->Cfg->List Bool->Out
 | 0,c,path=>⟨[],path,c⟩
 | n+1,c,path=>match step env unroll c path with
  | none=>⟨[],path,c⟩
  | some r=>match run env unroll n r.cfg r.path with
   | ⟨ob,path,c⟩=>⟨r.obl++ob,path,c⟩

/-- A function without loops, on its arguments. -/
def G4r (env:Env) (fn:Func) (n:Nat) (args:List SV) (path:List Bool):Option (List Prop×List Bool×SV×St):=
 match fn.body with
 | some c=>match run env true n ⟨[.code c],.normal,D6 fn.ntmps args⟩ path with
  | ⟨ob,path,⟨[],.ret,σ⟩⟩=>match A7o env σ fn.results.toList with
   | some (o,r)=>some (ob++o,path,C3z r,σ)
   | none=>none
  | _=>none
 | none=>none

end

section

theorem V0 {D:It->List Value->Prop}:∀{l l' : List It} {cs cs' : List Value},B8 D l cs->B8 D l' cs' -> B8 D (l++l') (cs++cs')
 | [],_,cs,cs',h,h' => by simp only[B8] at h;subst h;simpa using h'
 | i::l,_,_,cs',⟨c1,c2,e,h1,h2⟩,h' => ⟨c1,c2++cs',by rw[e,List.append_assoc],h1,V0 h2 h'⟩

section
variable {x:Ctx} {d:Nat}

theorem A2o:∀{n:Nat} {l r:List It} {cs:List Value},A2n n l=some r->B8 (den x d) l cs->B8 (den x d) r (cs.take n)∧H7 r=n
 | 0,l,r,cs,h,_=>by simp [A2n] at h;subst h;exact ⟨by simp [B8],rfl⟩
 | n+1,[],r,cs,h,_=>by simp [A2n] at h
 | n+1,i::l,r,cs,h,hc=>by
  obtain ⟨c1,c2,rfl,h1,h2⟩:=hc;simp only[A2n] at h;split at h
  ·rename_i hle
   simp only[Option.map_eq_some_iff] at h;obtain ⟨r',hr,rfl⟩:=h;have:=A2o hr h2
   have hl:=B5o h1;refine ⟨⟨c1,c2.take (n+1-i.size),?_,h1,this.1⟩,?_⟩
   ·rw[List.take_append,hl,List.take_of_length_le (by omega)]
   ·simp only[H7,this.2];omega
  ·cases h
termination_by _ l=>l.length

theorem V3:∀{n:Nat} {l r:List It} {cs:List Value},A0n n l=some r->B8 (den x d) l cs->B8 (den x d) r (cs.drop n)∧n<=cs.length
 | 0,l,r,cs,h,hc=>by simp [A0n] at h;subst h;exact ⟨by simpa using hc,Nat.zero_le _⟩
 | n+1,[],r,cs,h,_=>by simp [A0n] at h
 | n+1,i::l,r,cs,h,hc=>by
  obtain ⟨c1,c2,rfl,h1,h2⟩:=hc;simp only[A0n] at h;split at h
  ·rename_i hle
   have hl:=B5o h1;have:=V3 h h2
   refine ⟨?_,?_⟩
   ·rw[List.drop_append,hl,List.drop_of_length_le (by omega)]
    simpa using this.1
   ·simp only[List.length_append,hl];omega
  ·cases h
termination_by _ l=>l.length

theorem A7w {off n:Nat} {l r:List It} {cs:List Value} (h:B7e off n l=some r) (hc:B8 (den x d) l cs) :
  B8 (den x d) r ((cs.drop off).take n)∧H7 r=n:=by
 unfold B7e at h;split at h
 ·rename_i r' hr;exact A2o h (V3 hr hc).1
 ·cases h

theorem C1z (f:Nat->Int) (k:IntKind):∀(l:List Nat),B8 (den x d) (l.map fun i=>It.int k (f i)) (l.map fun i=>Value.int k (f i))
 | []=>by simp [B8]
 | a::l=>⟨[.int k (f a)],l.map fun i=>Value.int k (f i),rfl,by cases d<;>simp [den],C1z f k l⟩

theorem D4j (o:Ob):B8 (den x d) (E8r o) o.cells:=C1z (A0 o.n) .u64 _

theorem A2g:∀{l:List It} {cs:List Value},B8 (den x d) l cs->B8 (den x d) (A6r l) cs
 | [],_,h=>h
 | i::l,cs,⟨c1,c2,e,h1,h2⟩=>by
  have h2' := A2g h2
  cases i
  case ob o=>
   have hc:c1=o.cells:=by cases d<;>simpa [den] using h1
   subst hc;rw[e];exact V0 (D4j o) h2'
  all_goals exact ⟨c1,c2,e,h1,h2'⟩

theorem X2 {off n:Nat} {l r:List It} {cs:List Value} (h:A2r off n l=some r) (hc:B8 (den x d) l cs) :
  B8 (den x d) r ((cs.drop off).take n)∧H7 r=n:=by
 unfold A2r at h;split at h
 ·rename_i r' hr;cases h;exact A7w hr hc
 ·exact A7w h (A2g hc)

theorem B1d {off:Nat} {new l r:List It} {cs cn:List Value} (h:B1c off new l=some r) (hn:B8 (den x d) new cn) (hc:B8 (den x d) l cs) :
  B8 (den x d) r (cs.take off++cn++cs.drop (off+cn.length))∧off+cn.length<=cs.length:=by
 unfold B1c at h;split at h
 ·rename_i a b ha hb
  cases h
  have hl:=N4 hn;rw[<-hl] at hb;exact ⟨V0 (V0 (A2o ha hc).1 hn) (V3 hb hc).1,(V3 hb hc).2⟩
 ·cases h

theorem A0r {off:Nat} {new l r:List It} {cs cn:List Value} (h:A3r off new l=some r) (hn:B8 (den x d) new cn) (hc:B8 (den x d) l cs) :
  B8 (den x d) r (cs.take off++cn++cs.drop (off+cn.length))∧off+cn.length<=cs.length:=by
 unfold A3r at h;split at h
 ·rename_i r' hr;cases h;exact B1d hr hn hc
 ·exact B1d h hn (A2g hc)

theorem D6q:∀{d:Nat} {i:It} {vs:List Value},den x d i vs->∀v∈vs,v.oneCell' = true:=by
 intro d i vs h v hv
 cases i<;>cases d<;>simp only[den] at h
 case vsl.succ=>
  obtain ⟨_,⟨_,_,rfl,_⟩ | ⟨_,_,_,rfl,_⟩⟩:=h<;>(simp only[List.mem_singleton] at hv;subst hv;rfl)
 all_goals first
  | (subst h;simp only[List.mem_singleton] at hv;subst hv;rfl)
  | (subst h;simp only[Ob.cells,List.mem_map] at hv;obtain ⟨_,_,rfl⟩:=hv;rfl)
  | (obtain ⟨h1,rfl⟩:=h;simp only[List.mem_singleton] at hv;subst hv;rfl)
  | (obtain ⟨rfl,h1⟩:=h;simp only[List.mem_singleton] at hv;subst hv;exact h1)
  | (obtain ⟨u,rfl,h1⟩:=h;simp only[List.mem_singleton] at hv;subst hv;exact h1)
  | (rcases h with ⟨_,_,_,rfl⟩ | ⟨_,_,_,_,rfl,_⟩<;>(simp only[List.mem_singleton] at hv;subst hv;rfl))
  | (rcases h with ⟨_,_,_,rfl⟩ | ⟨_,_,rfl,_⟩<;>(simp only[List.mem_singleton] at hv;subst hv;rfl))
  | (rcases h with ⟨_,_,rfl,_⟩ | ⟨_,_,_,rfl,_⟩<;>(simp only[List.mem_singleton] at hv;subst hv;rfl))
  | (obtain ⟨_,_,_,rfl,_⟩:=h;simp only[List.mem_singleton] at hv;subst hv;rfl)
  | exact h.elim

theorem A5c:∀{l:List It} {cs:List Value},B8 (den x d) l cs->∀v∈cs,v.oneCell' = true
 | [],_,h,v,hv=>by simp only[B8] at h;subst h;cases hv
 | _::_,_,⟨_,_,e,h1,h2⟩,v,hv=>by
  subst e;rcases List.mem_append.1 hv with h | h
  ·exact D6q h1 v h
  ·exact A5c h2 v h
end

/-- A value out of its cells. -/
def L9 (agg:Bool) (cs:List Value):Value:=if agg then .agg cs.toArray else cs.headD undef

theorem C5t {x:Ctx} {agg:Bool} {r:List It} {v:V1} {cs:List Value} (h:mkV agg r=some v) (hc:B8 x.D r cs) (h1:agg=false->H7 r=1):A2s x v (L9 agg cs)∧v.its=r:=by
 unfold mkV at h;split at h
 ·cases h;exact ⟨⟨cs,by simp [L9],hc⟩,rfl⟩
 ·rename_i i
  cases h
  obtain ⟨c1,c2,rfl,h2,h3⟩:=hc;simp only[B8] at h3;subst h3;have hs:i.size=1:=by simpa [H7] using h1 rfl
  have hl:=B4l h2;rw[hs] at hl;match c1,hl with
  | [u],_=>exact ⟨⟨hs,by simpa [L9] using h2⟩,rfl⟩
 ·cases h

theorem A4d {x:Ctx} {v:V1} {u:Value} (h:A2s x v u):∃cs,u.cells=cs.toArray∧B8 x.D v.its cs:=by
 cases v with
 | c i=>
  refine ⟨[u],?_,[u],[],rfl,h.2,rfl⟩
  obtain ⟨_,d,h2⟩:=h;have:=D6q h2 u (by simp)
  cases u<;>first | rfl | simp [Value.oneCell'] at this
 | a l=>obtain ⟨cs,rfl,hc⟩:=h;exact ⟨cs,rfl,hc⟩

/-! Types. -/
def F7g (s:ByteArray):Bool:=s.data.toList.isEmpty
theorem D8h {s:ByteArray} (h:F7g s=true):s=ByteArray.empty:=by
 obtain ⟨d⟩:=s;have:d = #[]:=by simpa [F7g] using h
 subst this;rfl
def H4:List It->List Value->Bool
 | [],[]=>true
 | .int k n::l,.int k' n' :: r=>IntKind.same k k' && n == n' && H4 l r
 | .lit b::l,.bool b' :: r=>b == b' && H4 l r
 | .bool b::l,.bool b' :: r=>b == b' && H4 l r
 | .sl q::l,.slice none 0 0::r=>q.n == 0 && H4 l r
 | .val (.slice none 0 0)::l,.slice none 0 0::r=>H4 l r
 | .val (.map none)::l,.map none::r=>H4 l r
 | .val (.string s)::l,.string t::r=>F7g s && F7g t && H4 l r
 | .val (.pointer none)::l,.pointer none::r=>H4 l r
 | .ob (.fr x)::l,.int .u64 a :: .int .u64 b :: .int .u64 c :: .int .u64 e::r=>x.val == 0 && a == 0 && b == 0 && c == 0 && e == 0 && H4 l r
 | .ob (.s x)::l,.int .u64 a :: .int .u64 b :: .int .u64 c :: .int .u64 e::r=>x.val == 0 && a == 0 && b == 0 && c == 0 && e == 0 && H4 l r
 | .ob (.fp x)::l,.int .u64 a :: .int .u64 b :: .int .u64 c :: .int .u64 e :: .int .u64 f :: .int .u64 g::r=>x.val == 0 && a == 0 && b == 0 && c == 0 && e == 0 && f == 0 && g == 0 && H4 l r
 | .ob (.p x)::l,.int .u64 a :: .int .u64 b :: .int .u64 c :: .int .u64 e :: .int .u64 f :: .int .u64 g::r=>x.val == 0 && a == 0 && b == 0 && c == 0 && e == 0 && f == 0 && g == 0 && H4 l r
 | _,_=>false

theorem C2q (i:Nat):A0 0 i=0:=by simp [A0]

theorem B5x:∀{k k' : IntKind},IntKind.same k k' = true->k=k' := by
 intro k k' h;cases k<;>cases k'<;>first | rfl | simp [IntKind.same] at h

theorem Y9 {x:Ctx} {d:Nat}:∀{l:List It} {cs:List Value},H4 l cs=true->B8 (den x (d+1)) l cs:=by
  intro l cs h
  fun_induction H4 l cs
  all_goals first
    | rfl
    | (simp only[Bool.and_eq_true,beq_iff_eq] at h
       rename_i ih
       try simp only[and_assoc] at h
       first
         | (obtain ⟨h1,h2,h3⟩:=h;cases B5x h1;subst h2;exact ⟨[_],_,rfl,by simp [den],ih h3⟩)
         | (obtain ⟨h2,h2',h3⟩:=h;cases D8h h2;cases D8h h2';exact ⟨[_],_,rfl,by simp [den,Value.oneCell'],ih h3⟩)
         | (obtain ⟨h2,h3⟩:=h;subst h2;exact ⟨[_],_,rfl,by simp [den],ih h3⟩)
         | (obtain ⟨h2,h3⟩:=h;exact ⟨[_],_,rfl,by simp [den,h2],ih h3⟩)
         | (obtain ⟨h0,h1,h2,h3,h4,h5⟩:=h;subst h1 h2 h3 h4
            exact ⟨[_,_,_,_],_,rfl,by simp [den,Ob.cells,Ob.k,Ob.n,h0,C2q,List.range_succ],ih h5⟩)
         | (obtain ⟨h0,h1,h2,h3,h4,h5,h6,h7⟩:=h;subst h1 h2 h3 h4 h5 h6
            exact ⟨[_,_,_,_,_,_],_,rfl,by simp [den,Ob.cells,Ob.k,Ob.n,h0,C2q,List.range_succ],ih h7⟩))
    | (rename_i ih;exact ⟨[_],_,rfl,by simp [den,Value.oneCell'],ih h⟩)
    | (simp at h;done)

def R9:TypeDesc->Bool
 | .struct _ | .array _ _=>true
 | _=>false

def P5 (P:Program):List Field->List (Nat×Nat×Bool)->Bool
 | [],[]=>true
 | f::l,(o,s,g)::r=>
  f.offset == o && (match P.info? f.type,P.underlying f.type with | some i,some d=>i.size == s && R9 d == g && (g || s == 1) | _,_=>false) && P5 P l r
 | _,_=>false

/-- The cells of a type that can be compared: true: a whole number, false: a truth. -/
def A6d (sh:Nat->Option (List Bool)) (P:Program):Nat->List Field->Option (List Bool)
  | _,[]=>some []
  | off,f::l=>
    match sh f.type,P.info? f.type with
    | some s, some i => if f.offset = off ∧ i.size = s.length ∧ f.name ≠ "_" then (A6d sh P (off + s.length) l).map (s ++ ·) else none
    | _,_=>none

def D1m (P:Program):Nat->Nat->Option (List Bool)
 | 0,_=>none
 | n+1,t=>match P.underlying t with
  | some .bool=>some [false]
  | some (.int _)=>some [true]
  | some (.array m e)=>match D1m P n e,P.info? e with
   | some s,some i=>if i.size=s.length then some (List.replicate m s).flatten else none
   | _,_=>none
  | some (.struct fs)=>if P.stoodInHeld t=false then A6d (D1m P n) P 0 fs.toList else none
  | _=>none

def A4p (P:Program) (t:Nat) (i:TyI):Bool:=
  match P.info? t,P.underlying t with
  | some inf,some d=>
    inf.size == i.cells && inf.bytes == i.bytes && R9 d == i.agg && (i.agg || i.cells == 1) &&
    (match inf.zero with
     | some z=>H4 i.zero z.cells.toList && z.cells.size == i.cells && (match i.esq with
       | some q=>(match A7u q 1 with | some z1=>H4 (z1.get 0) z.cells.toList | none=>true)
       | none=>true)
     | none=>false) &&
    (match d with
     | .struct fs=>P5 P fs.toList i.fields && i.arr.isNone && i.slc.isNone && i.kind.isNone
     | .array n e=>i.fields.isEmpty && (match i.arr with | some (n',e')=>n == n' && e == e' | none=>false) && i.slc.isNone && i.kind.isNone
     | .slice e=>i.fields.isEmpty && i.arr.isNone && (match i.slc with | some e' => e == e' | none=>false) && i.kind.isNone
     | .int k=>i.fields.isEmpty && i.arr.isNone && i.slc.isNone && (match i.kind with | some k' => IntKind.same k k' | none=>false)
     | _=>i.fields.isEmpty && i.arr.isNone && i.slc.isNone && i.kind.isNone) &&
    (i.eqk.isEmpty || (D1m P 8 t == some i.eqk && !(P.eqGuardType P.depth t))) &&
    (match i.esq with | some q=>q.es == i.cells && q.n == 0 | none=>true) &&
    ((i.agg || !(D3s i.zero) || (match d with | .pointer _=>true | _=>false)) && (!i.isStr || (match d with | .string=>true | _=>false)))
  | _,_=>false

structure G5 (P:Program) (t:Nat) (i:TyI):Prop where
 chk:A4p P t i=true

section
variable {P:Program} {t:Nat} {i:TyI}

theorem G5.parts (h:G5 P t i):∃inf d,P.info? t=some inf∧P.underlying t=some d∧inf.size=i.cells∧inf.bytes=i.bytes∧R9 d=i.agg∧(i.agg=false->i.cells=1) ∧
  (∃z,inf.zero=some z∧H4 i.zero z.cells.toList=true∧z.cells.size=i.cells∧∀q z1,i.esq=some q->A7u q 1=some z1->H4 (z1.get 0) z.cells.toList=true) ∧
  (∀fs,d = .struct fs->P5 P fs.toList i.fields=true∧i.arr=none∧i.slc=none) ∧
  (∀n e,i.arr=some (n,e)->d = .array n e∧i.slc=none∧i.fields=[]) ∧
  (∀e,i.slc=some e->d = .slice e∧i.arr=none) ∧
  (∀k,i.kind=some k->d = .int k) ∧
  (i.eqk≠[]->D1m P 8 t=some i.eqk∧P.eqGuardType P.depth t=false) ∧
  (∀q,i.esq=some q->q.es=i.cells∧q.n=0) ∧
  (i.fields≠[]->∃fs,d = .struct fs):=by
 have hc:=h.chk;unfold A4p at hc;split at hc
 ·rename_i inf d hi hd
  simp only[Bool.and_eq_true,beq_iff_eq,Bool.or_eq_true,and_assoc] at hc;obtain ⟨h1,h2,h3,h4,h5,h6,h7,h8,-⟩:=hc;refine ⟨inf,d,hi,hd,h1,h2,h3,fun ha=>by simpa [ha] using h4,?_,?_,?_,?_,?_,?_,?_,?_⟩
  ·split at h5
   ·rename_i z hz
    simp only[Bool.and_eq_true,beq_iff_eq] at h5;exact ⟨z,hz,h5.1.1,h5.1.2,fun q z1 hq hz1=>by simpa [hq,hz1] using h5.2⟩
   ·cases h5
  ·rintro fs rfl
   simp only[Bool.and_eq_true,and_assoc,Option.isNone_iff_eq_none] at h6;exact ⟨h6.1,h6.2.1,h6.2.2.1⟩
  ·intro n e ha
   cases d<;>simp only[ha,Bool.and_eq_true,Option.isNone_iff_eq_none,beq_iff_eq,List.isEmpty_iff,and_assoc] at h6<;>first | (simp at h6;done) | skip
   obtain ⟨h61,rfl,rfl,h62,_⟩:=h6;exact ⟨rfl,h62,h61⟩
  ·intro e ha
   cases d<;>simp only[ha,Bool.and_eq_true,Option.isNone_iff_eq_none,beq_iff_eq,List.isEmpty_iff,and_assoc] at h6<;>first | (simp at h6;done) | skip
   obtain ⟨h61,h62,rfl,_⟩:=h6;exact ⟨rfl,h62⟩
  ·intro k ha
   cases d<;>simp only[ha,Bool.and_eq_true,Option.isNone_iff_eq_none,List.isEmpty_iff,and_assoc] at h6<;>first | (simp at h6;done) | skip
   rw[B5x h6.2.2.2]
  ·intro he
   simpa [he] using h7
  ·intro q hq
   rw[hq] at h8;simpa using h8
  ·intro hf
   cases d<;>simp only[Bool.and_eq_true,List.isEmpty_iff,and_assoc] at h6
   case struct fs=>exact ⟨fs,rfl⟩
   all_goals exact absurd h6.1 hf
 ·cases hc

theorem G5.nilp (h:G5 P t i) (ha:i.agg=false) (hz:D3s i.zero=true):∃e,P.underlying t=some (.pointer e):=by
 have hc:=h.chk;unfold A4p at hc;split at hc
 ·rename_i inf d hi hd
  rw[Bool.and_eq_true,ha,hz] at hc;have h2:=(Bool.and_eq_true _ _ ▸ hc.2:_∧_).1
  cases d with
  | pointer e=>exact ⟨e,hd⟩
  | _=>cases h2
 ·cases hc

theorem G5.str (h:G5 P t i) (hs:i.isStr=true):P.underlying t=some .string:=by
 have hc:=h.chk;unfold A4p at hc;split at hc
 ·rename_i inf d hi hd
  rw[Bool.and_eq_true,hs] at hc;have h2:=(Bool.and_eq_true _ _ ▸ hc.2:_∧_).2
  cases d with
  | string=>exact hd
  | _=>cases h2
 ·cases hc

theorem A4e:∀{l:List Field} {r:List (Nat×Nat×Bool)},P5 P l r=true->∀(n o s:Nat) (g:Bool),r[n]? = some (o,s,g) ->
  ∃f:Field,l[n]? = some f∧f.offset=o∧(∃inf d,P.info? f.type=some inf∧P.underlying f.type=some d∧inf.size=s∧R9 d=g∧(g=false->s=1))
 | [],[],_,n,o,s,g,h=>by simp at h
 | [],_::_,hf,_,_,_,_,_=>by simp [P5] at hf
 | _::_,[],hf,_,_,_,_,_=>by simp [P5] at hf
 | f::l,(o',s',g')::r,hf,n,o,s,g,h=>by
  simp only[P5,Bool.and_eq_true,beq_iff_eq] at hf;obtain ⟨⟨h1,h2⟩,h3⟩:=hf
  cases n with
  | zero=>
   simp only[List.getElem?_cons_zero,Option.some.injEq,Prod.mk.injEq] at h;obtain ⟨rfl,rfl,rfl⟩:=h;refine ⟨f,by simp,h1,?_⟩
   split at h2
   ·rename_i inf d hi hd
    simp only[Bool.and_eq_true,beq_iff_eq,Bool.or_eq_true] at h2;exact ⟨inf,d,hi,hd,h2.1.1,h2.1.2,fun hg=>by simpa [hg] using h2.2⟩
   ·cases h2
  | succ n=>
   simp only[List.getElem?_cons_succ] at h ⊢
   exact A4e h3 n o s g h

theorem G5.sizeOf (h:G5 P t i) (w:World):(Go.sizeOf t).run P w = .ok i.cells w:=by
 obtain ⟨inf,d,hi,_,hs,_⟩:=h.parts;simp [Go.sizeOf,typeInfo,hi,hs]

theorem C3q {d:TypeDesc} (hd:P.underlying t=some d) (w:World):(Go.isAgg t).run P w = .ok (R9 d) w:=by
 unfold Go.isAgg;rw[Sem.run_bind,run_underlying hd w]
 cases d<;>rfl

theorem C7b {inf:TypeInfo} {d:TypeDesc} (hi:P.info? t=some inf) (hd:P.underlying t=some d) {w:World} {b o:Nat} {cs:List Value} (hl:cs.length=inf.size)
  (h1:R9 d=false->inf.size=1) (hc:∀(j:Nat) (v:Value),cs[j]? = some v->w.cell? ⟨b,o+j,none⟩=some v) :
  (Go.loadVar t ⟨b,o,none⟩).run P w = .ok (L9 (R9 d) cs) w:=by
 simp only[Go.loadVar,Sem.run_bind,C3q hd,Result.andThen_ok]
 cases ha:R9 d with
 | true=>
  have hld:(loadCells ⟨b,o,none⟩ cs.length).run P w = .ok cs.toArray w:=
   run_loadCells_list (P:=P) w ⟨b,o,none⟩ cs (fun j v hv=>by rw[Addr.add_lit];exact hc j v hv)
  simp [Go.sizeOf,typeInfo,hi,<-hl,hld,L9]
 | false=>
  have h1' := h1 ha;rw[h1'] at hl;match cs,hl with
  | [v],_=>
   have:=hc 0 v rfl
   simp only[Nat.add_zero] at this;simp [L9,this]

theorem D1g (h:G5 P t i) {w:World} {b o:Nat} {cs:List Value} (hl:cs.length=i.cells)
  (hc:∀(j:Nat) (v:Value),cs[j]? = some v->w.cell? ⟨b,o+j,none⟩=some v) :
  (Go.loadVar t ⟨b,o,none⟩).run P w = .ok (L9 i.agg cs) w:=by
 obtain ⟨inf,d,hi,hd,hs,_,ha,h1,_⟩:=h.parts;rw[<-ha];exact C7b hi hd (hl.trans hs.symm) (fun e=>by rw[hs];exact h1 (ha ▸ e)) hc

theorem C7c (h:G5 P t i) {w:World} {b o:Nat} {u:Value} {cs:List Value} (hu:u.cells=cs.toArray) (hl:cs.length=i.cells) (h1:∀v∈cs,v.oneCell' = true)
    {cur:Array Value} {ty:TypeId} (hb:w.heap[b]? = some (.cells cur ty (0,0))) (hfit:o+cs.length<=cur.size) :
    (Go.storeVar t ⟨b,o,none⟩ u).run P w = .ok () (w.setRow b (cur.toList.take o++cs++cur.toList.drop (o+cs.length)).toArray):=by
  have hst:=run_storeCells_at P b o ty cs 0 cur w hb (by simpa using hfit) h1
  simp only[Nat.add_zero] at hst;simp [Go.storeVar,hu,h.sizeOf,hl,hst]
end

end

section

structure Mem (x:Ctx) (m:Nat->Option En):Prop where
 dom:∀p,m p=none↔x.k p = .no
 fl:∀p l,m p=some (.fl l)->x.k p = .real
 nil:∀p q,m p=some (.sq q)->x.k p = .nil->q.n=0
 ent:∀p e,m p=some e->x.k p = .real->∃cs ty,x.w.heap[x.β p]? = some (.cells cs ty (0,0))∧D9 x e cs.toList
 inj:∀p q,x.k p = .real->x.k q = .real->x.β p=x.β q->p=q
 own:∀p,x.k p = .real->¬x.F (x.β p)
 fw:∀b,x.F b->b<x.w.heap.size

/-- A position is forgotten. -/
def kx (x:Ctx):Option Nat->Ctx
 | none=>x
 | some p=>{ x with k:=fun q=>if q=p then .no else x.k q }

structure Tr (x:Ctx) (kill:Option Nat) (y:Ctx) (m' : Nat->Option En):Prop where
 ext:Ext (kx x kill) y
 mem:Mem y m'
 os:y.w.os=x.w.os
 tape:y.w.tape=x.w.tape
 output:y.w.output=x.w.output
 blk:∀b,b<x.w.heap.size->(∀p,x.k p = .real->x.β p≠b)->y.w.heap[b]? = x.w.heap[b]?
 fresh:∀p,y.k p = .real->(x.k p = .real∧y.β p=x.β p)∨x.w.heap.size<=y.β p
 fnew:∀b,y.F b->x.F b∨x.w.heap.size<=b

theorem Mem.lt {x:Ctx} {m:Nat->Option En} (h:Mem x m) {p:Nat} (hp:x.k p = .real):x.β p<x.w.heap.size:=by
 cases hm:m p with
 | none=>rw[(h.dom p).1 hm] at hp;cases hp
 | some e=>obtain ⟨cs,ty,hc,_⟩:=h.ent p e hm hp;exact (Array.getElem?_eq_some_iff.1 hc).1

theorem Tr.refl {x:Ctx} {m:Nat->Option En} (h:Mem x m):Tr x none x m:=
 ⟨Ext.refl x,h,rfl,rfl,rfl,fun _ _ _=>rfl,fun _ hp=>.inl ⟨hp,rfl⟩,fun _ hb=>.inl hb⟩

theorem A3u (m:Nat->Option En) (p:Nat) (e:En):F8 m [(p,e)]=fun q=>if q=p then some e else m q:=rfl

/-- A world that only grew. -/
theorem S3 (w:World) (o:Obj) {b:Nat} (h:b<w.heap.size):(w.alloc o).heap[b]? = w.heap[b]? := by
 show (w.heap.push o)[b]? = _;rw[Array.getElem?_push,if_neg (by omega)]

def D4 (x:Ctx) (p:Nat) (o:Obj):Ctx:=
  { w:=x.w.alloc o,F:=x.F,k:=fun q=>if q=p then .real else x.k q,β:=fun q=>if q=p then x.w.heap.size else x.β q }

theorem D9t {x:Ctx} {m:Nat->Option En} (h:Mem x m) {p:Nat} (hp:m p=none) (o:Obj):Ext x (D4 x p o) where
 size:=by simp [D4]
 ro b hb:=⟨hb,S3 _ _ (h.fw b hb)⟩
 k q hq:=by
  have:q≠p:=fun e=>hq (e ▸ (h.dom p).1 hp)
  simp [D4,this]
 β q hq:=by
  have:q≠p:=fun e=>by rw[e,(h.dom p).1 hp] at hq;cases hq
  simp [D4,this]
 own q hq cs ty hc:=⟨cs,(S3 _ _ (h.lt hq)).trans hc,rfl⟩

theorem B1s {x:Ctx} {m:Nat->Option En} (h:Mem x m) {p:Nat} (hp:m p=none) (cells:Array Value) (ty:TypeId) (e:En) (hd:D9 x e cells.toList) :
  Tr x none (D4 x p (.cells cells ty)) (F8 m [(p,e)]):=by
 have hk:=(h.dom p).1 hp;have hx:=D9t h hp (.cells cells ty);refine ⟨hx,?_,rfl,rfl,rfl,fun b hb _=>S3 _ _ hb,fun q hq=>?_,fun b hb=>.inl hb⟩
 ·rw[A3u]
  refine ⟨fun q=>?_,fun q l hq=>?_,fun q s hq hn=>?_,fun q e' hq hr=>?_,fun q q' hq hq' he=>?_,fun q hq=>?_,fun b hb=>?_⟩
  ·by_cases hqp:q=p
   ·simp [hqp,D4]
   ·simp only[D4,hqp,if_false];exact h.dom q
  ·by_cases hqp:q=p
   ·simp [hqp,D4]
   ·simp only[D4,hqp,if_false] at hq ⊢;exact h.fl q l hq
  ·by_cases hqp:q=p
   ·simp [hqp,D4] at hn
   ·simp only[D4,hqp,if_false] at hq hn;exact h.nil q s hq hn
  ·by_cases hqp:q=p
   ·simp only[hqp,if_true,Option.some.injEq] at hq
    subst hq;refine ⟨cells,ty,?_,J9 hx hd⟩
    simp only[D4,hqp,if_true];exact heap_alloc_new x.w _
   ·simp only[hqp,if_false] at hq
    simp only[D4,hqp,if_false] at hr;obtain ⟨cs,ty',hc,hd'⟩:=h.ent q e' hq hr;refine ⟨cs,ty',?_,J9 hx hd'⟩
    simp only[D4,hqp,if_false];exact (S3 _ _ (h.lt hr)).trans hc
  ·by_cases hqp:q=p<;>by_cases hqp' : q' = p
   ·rw[hqp,hqp']
   ·simp only[D4,hqp,hqp',if_true,if_false] at he hq'
    have:=h.lt hq';omega
   ·simp only[D4,hqp,hqp',if_true,if_false] at he hq
    have:=h.lt hq;omega
   ·simp only[D4,hqp,hqp',if_false] at he hq hq'
    exact h.inj q q' hq hq' he
  ·by_cases hqp:q=p
   ·simp only[D4,hqp,if_true]
    intro hF;have:=h.fw _ hF;omega
   ·simp only[D4,hqp,if_false] at hq ⊢;exact h.own q hq
  ·have:=h.fw b hb
   simp [D4];omega
 ·by_cases hqp:q=p
  ·right;simp [D4,hqp]
  ·left;simp only[D4,hqp,if_false] at hq ⊢;exact ⟨hq,trivial⟩

def W7 (x:Ctx) (p:Nat) (cs:Array Value):Ctx:={ x with w:=x.w.setRow (x.β p) cs }

theorem F2x {x:Ctx} {m:Nat->Option En} (h:Mem x m) {p:Nat} (hp:x.k p = .real) {cur cs:Array Value} {ty:TypeId} (hc:x.w.heap[x.β p]? = some (.cells cur ty (0,0)))
  (hs:cs.size=cur.size):Ext x (W7 x p cs) where
 size:=by simp [W7]
 ro b hb:=⟨hb,setRow_other _ _ _ _ (fun e=>h.own p hp (e ▸ hb))⟩
 k q _:=rfl
 β q _:=rfl
 own q hq cs' ty' hc' := by
  by_cases hqp:q=p
  ·subst hqp
   rw[hc] at hc';cases hc'
   exact ⟨cs,setRow_heap _ _ _ _ _ _ hc,hs⟩
  ·have:x.β q≠x.β p:=fun e=>hqp (h.inj q p hq hp e)
   exact ⟨cs',(setRow_other _ _ _ _ this).trans hc',rfl⟩

theorem C0v {x:Ctx} {m:Nat->Option En} (h:Mem x m) {p:Nat} (hp:x.k p = .real) {cur cs:Array Value} {ty:TypeId} (hc:x.w.heap[x.β p]? = some (.cells cur ty (0,0)))
  (hs:cs.size=cur.size) (e:En) (hd:D9 x e cs.toList):Tr x none (W7 x p cs) (F8 m [(p,e)]):=by
 have hx:=F2x h hp hc hs;have hmp:m p≠none:=fun e=>by rw[(h.dom p).1 e] at hp;cases hp
 refine ⟨hx,?_,rfl,rfl,rfl,fun b _ hq=>setRow_other _ _ _ _ (fun e=>hq p hp e.symm),fun q hq=>.inl ⟨hq,rfl⟩,fun b hb=>.inl hb⟩
 rw[A3u];refine ⟨fun q=>?_,fun q l hq=>?_,fun q s hq hn=>?_,fun q e' hq hr=>?_,fun q q' hq hq' he=>h.inj q q' hq hq' he,fun q hq=>h.own q hq,fun b hb=>?_⟩
 ·by_cases hqp:q=p
  ·subst hqp;simp [W7,hp]
  ·simp only[hqp,if_false];exact h.dom q
 ·by_cases hqp:q=p
  ·subst hqp;exact hp
  ·simp only[hqp,if_false] at hq;exact h.fl q l hq
 ·by_cases hqp:q=p
  ·subst hqp;rw[show (W7 x q cs).k q=x.k q from rfl,hp] at hn;cases hn
  ·simp only[hqp,if_false] at hq;exact h.nil q s hq hn
 ·by_cases hqp:q=p
  ·subst hqp
   simp only[if_true,Option.some.injEq] at hq;subst hq;exact ⟨cs,ty,setRow_heap _ _ _ _ _ _ hc,J9 hx hd⟩
  ·simp only[hqp,if_false] at hq
   obtain ⟨cs',ty',hc',hd'⟩:=h.ent q e' hq hr;have:x.β q≠x.β p:=fun e=>hqp (h.inj q p hr hp e)
   exact ⟨cs',ty',(setRow_other _ _ _ _ this).trans hc',J9 hx hd'⟩
 ·have:=h.fw b hb
  simp [W7];exact this

/-! Forgetting a position. -/
theorem C3t {x:Ctx} (p:Nat):∀(d:Nat) (i:It) (vs:List Value),den x d i vs->den (kx x (some p)) d (E2 p i) vs:=by
  have hext:∀d i vs,(∀q off,i ≠ .ptr q off)->(∀q es j off,i ≠ .ep q es j off)->(∀q off len es,i ≠ .slc q off len es)->(∀f c,i ≠ .clo f c)->(∀q,i ≠ .mp q)->(∀q a b c,i ≠ .sv q a b c)->(∀q a b c,i ≠ .arr q a b c)->den x d i vs->den (kx x (some p)) d i vs:=by
    intro d;induction d with
    | zero=>intro i vs h1 h2 h3 h4 h5 h6 h7 h;cases i<;>simp only[den] at h ⊢<;>first | exact h | exact absurd rfl (h1 _ _) | exact absurd rfl (h2 _ _ _ _) | exact absurd rfl (h3 _ _ _ _) | exact absurd rfl (h4 _ _) | exact absurd rfl (h5 _) | exact absurd rfl (h6 _ _ _ _) | exact absurd rfl (h7 _ _ _ _)
    | succ d ih=>
      intro i vs h1 h2 h3 h4 h5 h6 h7 h;have hget:∀(q:Sq) (j:Nat) (cs:List Value),B8 (den x d) (q.get j) cs->B8 (den (kx x (some p)) d) (q.get j) cs:=by
        intro q j cs hc;have:∀(l:List It) (cs:List Value),(∀i∈l,(∀q off,i ≠ .ptr q off)∧(∀q es j off,i ≠ .ep q es j off)∧(∀q off len es,i ≠ .slc q off len es)∧(∀f c,i ≠ .clo f c)∧(∀q,i ≠ .mp q)∧(∀q a b c,i ≠ .sv q a b c)∧(∀q a b c,i ≠ .arr q a b c))->B8 (den x d) l cs->B8 (den (kx x (some p)) d) l cs:=by
          intro l;induction l with
          | nil=>intro cs _ h;exact h
          | cons a l ihl=>
            intro cs hl ⟨c1,c2,e,g1,g2⟩
            obtain ⟨k1,k2,k3,k4,k5,k6,k7⟩:=hl a (by simp)
            exact ⟨c1,c2,e,ih a c1 k1 k2 k3 k4 k5 k6 k7 g1,ihl c2 (fun i hi=>hl i (by simp [hi])) g2⟩
        refine this _ _ ?_ hc
        intro i hi;have flat:∀(l:List (Fp×Fp×Fp)) (n k:Nat),i∈J4 l k n->∃o,i = .ob o:=by
          intro l n;induction n with
          | zero=>intro k hk;simp [J4] at hk
          | succ n ihn=>
            intro k hk;simp only[J4,List.mem_cons] at hk;rcases hk with rfl | rfl | rfl | hk
            · exact ⟨_,rfl⟩
            · exact ⟨_,rfl⟩
            · exact ⟨_,rfl⟩
            · exact ihn _ hk
        cases q<;>simp only[Sq.get,A1.its,OpD.its,G1D.its,G2D.its,S7,B3t,List.mem_cons,List.not_mem_nil,or_false] at hi
        case ptt l=>obtain ⟨o,rfl⟩:=flat _ _ _ hi;simp
        all_goals first
          | (subst hi;simp;done)
          | (rcases hi with rfl | rfl<;>(simp;done))
          | (rcases hi with rfl | rfl | rfl<;>(simp;done))
          | (rcases hi with rfl | rfl | rfl | rfl | rfl<;>(simp;done))
          | (rcases hi with rfl | rfl | rfl | rfl | rfl | rfl<;>(simp;done))
          | (rcases hi with rfl | rfl | rfl | rfl | rfl | rfl | rfl | rfl<;>(simp;done))
      cases i<;>simp only[den] at h ⊢
      all_goals first
        | exact h
        | exact absurd rfl (h1 _ _)
        | exact absurd rfl (h2 _ _ _ _)
        | exact absurd rfl (h3 _ _ _ _)
        | exact absurd rfl (h4 _ _)
        | exact absurd rfl (h5 _)
        | exact absurd rfl (h6 _ _ _ _) | exact absurd rfl (h7 _ _ _ _)
        | (obtain ⟨hv,h⟩:=h
           refine ⟨hv,?_⟩
           rcases h with h | ⟨b,o,cap,e,hc,hm,hr⟩
           · exact .inl h
           · refine .inr ⟨b,o,cap,e,hc,hm,fun j hj=>?_⟩
             obtain ⟨cs,g1,g2⟩:=hr j hj;exact ⟨cs,hget _ _ _ g1,g2⟩)
        | (rcases h with h | ⟨b,o,cap,e,hc,hm,hr⟩
           · exact .inl h
           · refine .inr ⟨b,o,cap,e,hc,hm,fun j hj=>?_⟩
             obtain ⟨cs,g1,g2⟩:=hr j hj;exact ⟨cs,hget _ _ _ g1,g2⟩)
        | (obtain ⟨b,o,cs,e,hi,g1,g2⟩:=h
           exact ⟨b,o,cs,e,hi,hget _ _ _ g1,g2⟩)
  intro d i vs h;have dead:∀(v:Value),vs=[v]->v.oneCell' = true->den (kx x (some p)) d .dead vs:=by
    intro v e h1;cases d<;>exact ⟨v,e,h1⟩
  cases i
  case sv q a b c=>
    simp only[E2]
    cases d<;>simp only[den] at h <;>
    · rcases h with ⟨_,_,_,e⟩ | ⟨_,_,e,_⟩<;>exact dead _ e rfl
  case slc q off len es=>
    by_cases hq:q=p
    · subst hq
      simp only[E2,if_true]
      cases d<;>simp only[den] at h ⊢ <;>
      · rcases h with ⟨_,_,rfl,e⟩ | ⟨_,_,_,_,e,_⟩<;>exact ⟨_,_,e⟩
    · simp only[E2,hq,if_false]
      cases d<;>simp only[den,kx,hq,if_false] at h ⊢<;>exact h
  case ptr q off=>
    by_cases hq:q=p
    · subst hq;simp only[E2,if_true]
      cases d<;>simp only[den] at h<;>exact dead _ h.2 rfl
    · simp only[E2,hq,if_false]
      cases d<;>simp only[den,kx,hq,if_false] at h ⊢<;>exact h
  case ep q es j off=>
    by_cases hq:q=p
    · subst hq;simp only[E2,if_true]
      cases d<;>simp only[den] at h<;>exact dead _ h.2 rfl
    · simp only[E2,hq,if_false]
      cases d<;>simp only[den,kx,hq,if_false] at h ⊢<;>exact h
  case mp q=>
    by_cases hq:q=p
    · subst hq;simp only[E2,if_true]
      cases d<;>simp only[den] at h<;>exact dead _ h.2 rfl
    · simp only[E2,hq,if_false]
      cases d<;>simp only[den,kx,hq,if_false] at h ⊢<;>exact h
  case arr q off n es=>
    by_cases hq:q=p
    · subst hq;simp only[E2,if_true]
      cases d<;>simp only[den] at h<;>exact dead _ h.2 rfl
    · simp only[E2,hq,if_false]
      cases d<;>simp only[den,kx,hq,if_false] at h ⊢<;>exact h
  case clo f c=>
    by_cases hq:c.any (fun a=>a.1 == p)=true
    · simp only[E2,hq,if_true]
      cases d<;>simp only[den] at h<;>exact dead _ h.2 rfl
    · simp only[E2,hq]
      have hne:∀a∈c,a.1≠p:=by
        intro a ha e;exact hq (List.any_eq_true.2 ⟨a,ha,by simp [e]⟩)
      cases d<;>simp only[den,kx] at h ⊢<;>exact ⟨fun a ha=>by simp only[hne a ha,if_false];exact h.1 a ha,h.2⟩
  all_goals exact hext d _ vs (by simp [E2]) (by simp [E2]) (by simp [E2]) (by simp [E2]) (by simp [E2]) (by simp [E2]) (by simp [E2]) h

theorem A6z {x:Ctx} (p d:Nat):∀{l:List It} {cs:List Value},B8 (den x d) l cs->B8 (den (kx x (some p)) d) (l.map (E2 p)) cs
 | [],_,h=>h
 | _::_,_,⟨c1,c2,e,h1,h2⟩=>⟨c1,c2,e,C3t p d _ _ h1,A6z p d h2⟩

theorem D5k (p:Nat) (i:It) (h:i.size=1):(E2 p i).size=1:=by
 cases i<;>simp only[E2]<;>first | exact h | (split<;>rfl)

theorem D8e {x:Ctx} (p:Nat) {a:V1} {v:Value} (h:A2s x a v):A2s (kx x (some p)) (A0c p a) v:=by
 cases a with
 | c i=>obtain ⟨h1,d,h2⟩:=h;exact ⟨D5k p i h1,d,C3t p _ _ _ h2⟩
 | a l=>obtain ⟨cs,e,hc⟩:=h;obtain ⟨d,hc⟩:=J3 hc;exact ⟨cs,e,N3 (A6z p d hc)⟩

theorem C7e {x:Ctx} (p:Nat) {s:SV} {v:Value} (h:B1 x s v):B1 (kx x (some p)) (K2 p s) v:=by
 cases s with
 | v a=>exact D8e p h
 | t l=>
  obtain ⟨vs,e,hc⟩:=h;refine ⟨vs,e,?_⟩
  clear e;induction hc with
  | nil=>exact .nil
  | cons h1 _ ih=>exact .cons (D8e p h1) ih
 | top=>trivial

/-! The state of a call. -/
/-- Which old blocks stay as they are; what position 0 is, if it is not the call's own. -/
structure Kp where
 at_:Nat->Prop
 pin:Option (Kd×Nat×Nat×Nat)
 ds:List Deferred:=[]
def Z8:Kp:=⟨fun _=>True,none,[]⟩
structure B1z (w0:World) (F0:Nat->Prop) (K:Kp) (x:Ctx):Prop where
 f0:∀b,F0 b->x.F b
 fn:∀b,x.F b->F0 b∨w0.heap.size<=b
 size:w0.heap.size<=x.w.heap.size
 keep:∀b,b<w0.heap.size->K.at_ b->x.w.heap[b]? = w0.heap[b]?
 ownK:∀p,x.k p = .real->x.β p<w0.heap.size->¬K.at_ (x.β p)
 os:x.w.os=w0.os
 tape:x.w.tape=w0.tape
 output:x.w.output=w0.output
 pin:∀q,K.pin=some q->q.1 ≠ .no∧x.k 0=q.1∧(q.1 = .real->x.β 0=q.2.1∧∃cs,x.w.heap[x.β 0]? = some (.cells cs q.2.2.1 (0,0))∧cs.size=q.2.2.2)

/-- Callers that wait: what their slots hold. -/
def D3h (ds:List Deferred):List ((Nat->SV)×Nat)->List Deferred
 | []=>ds
 | _::_=>[]
theorem B0e (l:List ((Nat->SV)×Nat)):D3h [] l=[]:=by cases l<;>rfl
inductive Frs (x:Ctx) (ds:List Deferred):List ((Nat->SV)×Nat)->List Act->Prop
 | nil:Frs x ds [] []
 | cons {tS:Nat->SV} {nt:Nat} {l:List ((Nat->SV)×Nat)} {a:Act} {as:List Act}:a.defers=D3h ds l->a.tmps.size=nt->(∀t,B1 x (tS t) (a.tmps.getD t undef))->Frs x ds l as->Frs x ds ((tS,nt)::l) (a::as)

theorem Frs.ext {x y:Ctx} {ds:List Deferred} (h:Ext x y) {l:List ((Nat->SV)×Nat)} {as:List Act} (hf:Frs x ds l as):Frs y ds l as:=by
 induction hf with
 | nil=>exact .nil
 | cons h1 h2 h3 _ ih=>exact .cons h1 h2 (fun t=>A1b h (h3 t)) ih

theorem B2l (ds:List Deferred) (l:List ((Nat->SV)×Nat)) (p:Option Nat):D3h ds (A2i l p)=D3h ds l:=by
 cases p with
 | none=>rfl
 | some p=>cases l<;>rfl

theorem Frs.kill {x:Ctx} {ds:List Deferred} (p:Option Nat) {l:List ((Nat->SV)×Nat)} {as:List Act} (hf:Frs x ds l as):Frs (kx x p) ds (A2i l p) as:=by
 cases p with
 | none=>exact hf
 | some p=>
  induction hf with
  | nil=>exact .nil
  | cons h1 h2 h3 _ ih=>exact .cons (h1.trans (B2l ds _ (some p)).symm) h2 (fun t=>C7e p (h3 t)) ih

structure Sim (w0:World) (F0:Nat->Prop) (K:Kp) (as:List Act) (σ:St) (x:Ctx) (a:Act):Prop where
 defers:a.defers=D3h K.ds σ.fr
 nt:a.tmps.size=σ.nt
 t:∀t,B1 x (σ.t t) (a.tmps.getD t undef)
 mem:Mem x σ.m
 base:B1z w0 F0 K x
 frs:Frs x K.ds σ.fr as

theorem B1z.tr {w0:World} {F0:Nat->Prop} {K:Kp} {x y:Ctx} {kill:Option Nat} {m' : Nat->Option En} (h:B1z w0 F0 K x) (ht:Tr x kill y m') (hkill:A8d kill=true):B1z w0 F0 K y where
 f0 b hb:=by
  have:=(ht.ext.ro b (by cases kill<;>exact h.f0 b hb)).1
  exact this
 fn b hb:=by
  rcases ht.fnew b hb with h1 | h1
  ·exact h.fn b h1
  ·right;exact Nat.le_trans h.size h1
 size:=Nat.le_trans h.size (by have:=ht.ext.size;cases kill<;>exact this)
 keep b hb hk:=by
  rw[<-h.keep b hb hk];exact ht.blk b (Nat.lt_of_lt_of_le hb h.size) (fun p hp e=>h.ownK p hp (e ▸ hb) (e ▸ hk))
 ownK p hp hb:=by
  rcases ht.fresh p hp with ⟨h1,h2⟩ | h1
  ·rw[h2] at hb ⊢;exact h.ownK p h1 hb
  ·have:=h.size;omega
 os:=ht.os.trans h.os
 tape:=ht.tape.trans h.tape
 output:=ht.output.trans h.output
 pin q hq:=by
  obtain ⟨h1,h2,h3⟩:=h.pin q hq;have e:(kx x kill).k 0=x.k 0∧(kx x kill).β 0=x.β 0:=by
   cases kill with
   | none=>exact ⟨rfl,rfl⟩
   | some p=>
    cases p with
    | zero=>cases hkill
    | succ p=>exact ⟨by simp [kx],rfl⟩
  refine ⟨h1,?_,fun hr=>?_⟩
  ·rw[ht.ext.k 0 (by rw[e.1,h2];exact h1),e.1,h2]
  ·obtain ⟨g1,cs,g2,g3⟩:=h3 hr
   have hb:y.β 0=x.β 0:=by rw[ht.ext.β 0 (by rw[e.1,h2];exact hr),e.2]
   have hw:(kx x kill).w=x.w:=by cases kill<;>rfl
   obtain ⟨cs',g4,g5⟩:=ht.ext.own 0 (by rw[e.1,h2];exact hr) cs q.2.2.1 (by rw[e.2,hw];exact g2)
   rw[e.2] at g4;exact ⟨hb.trans g1,cs',by rw[hb];exact g4,g5.trans g3⟩

theorem B8d (t:Array Value) (d:Nat) (v:Value) (e:Nat) (hd:d<t.size):(t.setIfInBounds d v).getD e undef=if e=d then v else t.getD e undef:=by
 by_cases h:e=d
 ·subst h;simp [hd]
 ·simp [h,Array.getElem?_setIfInBounds_ne (Ne.symm h)]

/-- After an operation. -/
theorem Sim.step {w0:World} {F0:Nat->Prop} {K:Kp} {as:List Act} {σ:St} {x y:Ctx} {a:Act} {kill:Option Nat} {m' : Nat->Option En} (h:Sim w0 F0 K as σ x a) (ht:Tr x kill y m') (hkill:A8d kill=true) {dst:Option Nat} {sv:SV} {v:Value} {nx:Nat}
  (hd:∀d,dst=some d->d<σ.nt∧B1 y sv v) :
  Sim w0 F0 K as { σ with t:=match dst with | some d=>J7 (A0g σ.t kill) d sv | none=>A0g σ.t kill,m:=m',nx:=nx,fr:=A2i σ.fr kill } y (a.put dst v):=by
 have hk:∀t,B1 y (A0g σ.t kill t) (a.tmps.getD t undef):=by
  intro t;refine A1b ht.ext ?_
  cases kill with
  | none=>exact h.t t
  | some p=>exact C7e p (h.t t)
 cases dst with
 | none=>exact ⟨h.defers.trans (B2l _ _ kill).symm,h.nt,hk,ht.mem,h.base.tr ht hkill,(h.frs.kill kill).ext ht.ext⟩
 | some d=>
  obtain ⟨hd1,hd2⟩:=hd d rfl;refine ⟨h.defers.trans (B2l _ _ kill).symm,by simp [Act.put,h.nt],fun t=>?_,ht.mem,h.base.tr ht hkill,(h.frs.kill kill).ext ht.ext⟩
  simp only[Act.put];rw[B8d _ _ _ _ (by rw[h.nt];exact hd1)]
  by_cases he:t=d
  ·subst he;simp only[J7,if_true];exact hd2
  ·simp only[J7,he,if_false];exact hk t

end

section

/-- An injection of so many places into themselves reaches every one. -/
theorem B4s:∀(n:Nat) (f:Nat->Nat),(∀i,i<n->f i<n)->(∀i j,i<n->j<n->f i=f j->i=j)->∀y,y<n->∃i,i<n∧f i=y
 | 0,_,_,_,y,hy=>absurd hy (Nat.not_lt_zero y)
 | n+1,f,hb,hi,y,hy=>by
  have hv:=hb n (Nat.lt_succ_self n);have hne:∀i,i<n->f i≠f n:=fun i h e=>by have:=hi i n (by omega) (by omega) e;omega
  have ih:=B4s n (fun i=>if f i=n then f n else f i)
   (fun i h=>by
    have h1:=hb i (by omega)
    have h2:=hne i h;split<;>omega)
   (fun i j h1 h2 e=>by
    have g1:=hne i h1;have g2:=hne j h2;have g3:=hi i j (by omega) (by omega)
    split at e<;>split at e<;>first | (apply g3;omega) | omega)
  by_cases e1:y=f n
  ·exact ⟨n,by omega,e1.symm⟩
  by_cases e2:y=n
  ·obtain ⟨i,h1,h2⟩:=ih (f n) (by omega)
   have g:=hne i h1;split at h2
   ·exact ⟨i,by omega,by omega⟩
   ·exact absurd h2 g
  ·obtain ⟨i,h1,h2⟩:=ih y (by omega)
   split at h2
   ·omega
   ·exact ⟨i,by omega,h2⟩

section
variable {r:Nat} [NeZero r]

def pw (x:Fin r):Nat->Fin r
 | 0=>1
 | n+1=>pw x n*x

theorem C2x (x:Fin r):x*1=x:=by grind
theorem B3h (x:Fin r):1*x=x:=by grind
theorem A5q (x y z:Fin r):x*y*z=x*(y*z):=by grind
theorem A1i (x y:Fin r):x*y=y*x:=by grind

theorem S8 (x:Fin r) (m:Nat):∀n,pw x (m+n)=pw x m*pw x n
 | 0=>(C2x _).symm
 | n+1=>by
  show pw x (m+n)*x=pw x m*(pw x n*x);rw[S8 x m n,A5q]

theorem A5v:∀n,pw (1:Fin r) n=1
 | 0=>rfl
 | n+1=>by
  show pw 1 n*1=1;rw[A5v n,C2x]

theorem A5u (x:Fin r) (m:Nat):∀n,pw x (m*n)=pw (pw x m) n
 | 0=>rfl
 | n+1=>by
  rw[Nat.mul_succ,S8,A5u x m n];rfl

/-- What two numbers' powers are 1 has the power of their greatest divisor 1. -/
theorem E9u {g:Fin r}:∀(d n:Nat),pw g d=1->pw g n=1->pw g (Nat.gcd d n)=1
 | 0,n,_,h=>by rw[Nat.gcd_zero_left];exact h
 | d+1,n,h1,h2=>by
  rw[Nat.gcd_succ];refine E9u (n % (d+1)) (d+1) ?_ h1
  have e:n=(d+1)*(n / (d+1))+n % (d+1):=(Nat.div_add_mod n (d+1)).symm;have h3:pw g ((d+1)*(n / (d+1))+n % (d+1))=1:=by rw[<-e];exact h2
  rw[S8,A5u,h1,A5v,B3h] at h3;exact h3
 termination_by d=>d
 decreasing_by exact Nat.mod_lt _ (Nat.succ_pos d)

/-- A number that only 1 and it divide. -/
def Ir (q:Nat):Prop:=∀d,d ∣ q->d=1∨d=q

theorem B1g {m:Nat}:∀(l:List (Nat×Nat)),(∀p,p∈l->Nat.gcd m p.1=1)->Nat.Coprime m (l.foldr (fun p a=>p.1 ^ p.2*a) 1)
 | [],_=>Nat.coprime_one_right m
 | p::l,h=>Nat.Coprime.mul_right (Nat.Coprime.pow_right _ (h p (List.mem_cons_self ..))) (B1g l fun q hq=>h q (List.mem_cons_of_mem _ hq))

/-- An element whose power of n is 1, and of no n / q, has no lesser power 1. -/
theorem D7p {g:Fin r} {n:Nat} (l:List (Nat×Nat)) (hn:n=l.foldr (fun p a=>p.1 ^ p.2*a) 1) (hir:∀p,p∈l->Ir p.1) (h0:0<n) (h1:pw g n=1) (hq:∀p,p∈l->pw g (n / p.1)≠1) {d:Nat} (hd0:0<d) (hd:d<n):pw g d≠1:=fun hp=>by
 have he:=E9u d n hp h1;obtain ⟨m,hm⟩:=Nat.gcd_dvd_right d n;have hel:Nat.gcd d n<=d:=Nat.gcd_le_left n hd0;have hep:0<Nat.gcd d n:=Nat.gcd_pos_of_pos_left n hd0;generalize Nat.gcd d n=e at *;have hm1:m≠1:=fun h=>by rw[h] at hm;omega
 have hex:∃p,p∈l∧Nat.gcd m p.1≠1:=Classical.byContradiction fun hno=>by
  have hc:Nat.Coprime m n:=by
   rw[hn];exact B1g l fun p hp=>Classical.byContradiction fun h=>hno ⟨p,hp,h⟩
  have:Nat.gcd m n=m:=Nat.gcd_eq_left ⟨e,by rw[hm,Nat.mul_comm]⟩
  rw[hc] at this;exact hm1 this.symm
 obtain ⟨p,hpl,hg⟩:=hex;have hpd:p.1 ∣ m:=by
  rcases hir p hpl _ (Nat.gcd_dvd_right m p.1) with h | h
  ·exact absurd h hg
  ·rw[<-h];exact Nat.gcd_dvd_left m p.1
 obtain ⟨k,hk⟩:=hpd;have hp0:0<p.1:=Nat.pos_of_ne_zero fun h=>by
  rw[h,Nat.zero_mul] at hk;rw[hk,Nat.mul_zero] at hm;omega
 refine hq p hpl ?_
 have:n / p.1=e*k:=by
  rw[hm,hk,Nat.mul_left_comm,Nat.mul_div_cancel_left _ hp0]
 rw[this,A5u,he,A5v]

theorem A7b {x:Fin r} (h:x≠0):0<x.val:=Nat.pos_of_ne_zero fun e=>h (Fin.ext (e.trans (by simp)))

/-- If an element's powers below n are unlike 1, every element but 0 has the power of n 1. -/
theorem B6f {n:Nat} (hr:r=n+1) (hn:0<n) {g:Fin r} (h1:pw g n=1) (hl:∀d,0<d->d<n->pw g d≠1) (x:Fin r) (hx:x≠0):pw x n=1:=by
 have h10:(1:Fin r)≠0:=fun h=>by
  have h1:1 % r=0 % r:=congrArg Fin.val h;rw[Nat.mod_eq_of_lt (by omega),Nat.zero_mod] at h1
  omega
 have hinv:∀i,i<=n->pw g i*pw g (n-i)=1:=fun i hi=>by
  rw[<-S8,show i+(n-i)=n from by omega,h1]
 have hne:∀i,i<=n->pw g i≠0:=fun i hi h=>by
  have:=hinv i hi
  rw[h,Fin.zero_mul] at this;exact h10 this.symm
 have hinj:∀i k,i<=n->0<k->i+k<n->pw g i≠pw g (i+k):=fun i k hi hk hik e=>by
  refine hl k hk (by omega) ?_
  have h2:=hinv i hi;have h3:pw g (n-i)*pw g (i+k)=1:=by rw[<-e,A1i];exact h2
  rw[S8,<-A5q,A1i (pw g (n-i)),h2,B3h] at h3;exact h3
 obtain ⟨i,hi,he⟩:=B4s n (fun i=>(pw g i).val-1)
  (fun i hi=>by
   have h1:=A7b (hne i (by omega))
   have h2:=(pw g i).isLt;omega)
  (fun i j hi hj e=>by
   have g1:=A7b (hne i (by omega))
   have g2:=A7b (hne j (by omega))
   have e2:pw g i=pw g j:=Fin.ext (by omega)
   rcases Nat.lt_trichotomy i j with h | h | h
   ·have:=hinj i (j-i) (by omega) (by omega) (by omega)
    rw[show i+(j-i)=j from by omega] at this
    exact absurd e2 this
   ·exact h
   ·have:=hinj j (i-j) (by omega) (by omega) (by omega)
    rw[show j+(i-j)=i from by omega] at this
    exact absurd e2.symm this)
  (x.val-1) (by have:=x.isLt;have:=A7b hx;omega)
 have e:pw g i=x:=Fin.ext (by
  have g1:=A7b (hne i (by omega))
  have g2:=A7b hx;omega)
 rw[<-e,<-A5u,Nat.mul_comm,A5u,h1,A5v]

end

/-- A power, by halving. -/
def B9d (r b:Nat):Nat->Nat->Nat
 | 0,_=>1 % r
 | f+1,e=>if e=0 then 1 % r else if e % 2=1 then B9d r b f (e / 2)*B9d r b f (e / 2) % r*b % r else B9d r b f (e / 2)*B9d r b f (e / 2) % r

theorem D0a (r b:Nat):∀f e,e<2 ^ f->B9d r b f e=b ^ e % r
 | 0,e,h=>by
  have:e=0:=by omega
  subst this;rfl
 | f+1,e,h=>by
  unfold B9d;have h2:e / 2<2 ^ f:=by rw[Nat.pow_succ] at h;omega
  rw[D0a r b f (e / 2) h2];by_cases h0:e=0
  ·rw[if_pos h0,h0];rfl
  rw[if_neg h0];by_cases h1:e % 2=1
  ·rw[if_pos h1]
   have:b ^ e=b ^ (e / 2)*b ^ (e / 2)*b:=by
    rw[<-Nat.pow_add,<-Nat.pow_succ];congr 1
    omega
   rw[this,<-Nat.mul_mod,Nat.mod_mul_mod]
  ·rw[if_neg h1]
   have:b ^ e=b ^ (e / 2)*b ^ (e / 2):=by
    rw[<-Nat.pow_add];congr 1
    omega
   rw[this,<-Nat.mul_mod]

theorem D4y {r:Nat} [NeZero r] (x:Fin r):∀n,(pw x n).val=x.val ^ n % r
 | 0=>rfl
 | n+1=>by
  show ((pw x n).val*x.val) % r=_;rw[D4y x n,Nat.pow_succ,Nat.mod_mul_mod]

theorem B5v {r:Nat} [NeZero r] (x:Fin r) (f e:Nat) (h:e<2 ^ f):(pw x e).val=B9d r x.val f e:=by
 rw[D4y,D0a r x.val f e h]

/-- No divisor from k on, so many tried. -/
def D0e (q:Nat):Nat->Nat->Bool
 | 0,_=>true
 | f+1,k=>q % k != 0 && D0e q f (k+1)

theorem B9h {q:Nat}:∀{f k:Nat},D0e q f k=true->∀d,k<=d->d<k+f->q % d≠0
 | 0,k,_,d,h1,h2=>by omega
 | f+1,k,h,d,h1,h2=>by
  unfold D0e at h;rw[Bool.and_eq_true] at h;by_cases e:d=k
  ·rw[e];simpa using h.1
  ·exact B9h h.2 d (by omega) (by omega)

theorem G5f {q s:Nat} (h0:1<q) (hs:q<s*s) (h:D0e q s 2=true):Ir q:=fun d hd=>by
 have hd0:0<d:=Nat.pos_of_dvd_of_pos hd (by omega)
 have hle:d<=q:=Nat.le_of_dvd (by omega) hd
 by_cases h1:d=1
 ·exact .inl h1
 by_cases h2:d=q
 ·exact .inr h2
 exfalso
 obtain ⟨m,hm⟩:=hd;by_cases h3:d<2+s
 ·exact B9h h d (by omega) h3 (by rw[hm,Nat.mul_mod_right])
 ·have hms:m<s:=Classical.byContradiction fun hc=>by
   have:s*s<=d*m:=Nat.mul_le_mul (by omega) (by omega)
   omega
  have hm2:2<=m:=Classical.byContradiction fun hc=>by
   have:m=0∨m=1:=by omega
   rcases this with rfl | rfl<;>omega
  exact B9h h m hm2 (by omega) (by rw[hm,Nat.mul_mod_left])

def E4o:List (Nat×Nat):=[(2,32),(3,1),(11,1),(19,1),(10177,1),(125527,1),(859267,1),(906349,2),(2508409,1),(2529403,1),(52437899,1),(254760293,2)]
theorem F9l:rN-1=E4o.foldr (fun p a=>p.1 ^ p.2*a) 1:=by decide +kernel
def F8k (q s:Nat):Bool:=decide (1<q) && (decide (q<s*s) && D0e q s 2)
theorem F3 {q s:Nat} (h:F8k q s=true):Ir q:=by
 unfold F8k at h;simp only[Bool.and_eq_true,decide_eq_true_eq] at h;exact G5f h.1 h.2.1 h.2.2
theorem ir2:Ir 2:=fun d hd=>by
 have:=Nat.le_of_dvd (by decide) hd
 have:=Nat.pos_of_dvd_of_pos hd (by decide)
 omega
theorem ir3:Ir 3:=fun d hd=>by
 have:=Nat.le_of_dvd (by decide) hd
 have:=Nat.pos_of_dvd_of_pos hd (by decide)
 have:d≠2:=fun h=>by subst h;revert hd;decide
 omega
theorem F2y:∀p,p∈E4o->Ir p.1:=fun p hp=>by
 simp only[E4o,List.mem_cons,List.not_mem_nil,or_false] at hp;rcases hp with rfl | rfl | rfl | rfl | rfl | rfl | rfl | rfl | rfl | rfl | rfl | rfl
 ·exact ir2
 ·exact ir3
 ·exact F3 (s:=4) (by decide +kernel)
 ·exact F3 (s:=5) (by decide +kernel)
 ·exact F3 (s:=102) (by decide +kernel)
 ·exact F3 (s:=356) (by decide +kernel)
 ·exact F3 (s:=930) (by decide +kernel)
 ·exact F3 (s:=955) (by decide +kernel)
 ·exact F3 (s:=1600) (by decide +kernel)
 ·exact F3 (s:=1600) (by decide +kernel)
 ·exact F3 (s:=7300) (by decide +kernel)
 ·exact F3 (s:=15970) (by decide +kernel)

def g7:Fin rN:=Fin.ofNat rN 7
def G1y (r g n:Nat) (l:List (Nat×Nat)):Bool:=l.all fun p=>decide (n / p.1<2 ^ 256) && B9d r g 256 (n / p.1) != 1
theorem E9q:G1y rN 7 (rN-1) E4o=true:=by decide +kernel
theorem G6q:B9d rN 7 256 (rN-1)=1:=by decide +kernel
theorem E4q (x:Fin rN) (hx:x≠0):pw x (rN-1)=1:=by
 have h7:g7.val=7:=by decide +kernel
 have h1:pw g7 (rN-1)=1:=by
  apply Fin.ext
  rw[B5v g7 256 (rN-1) (by decide +kernel),h7,G6q]
  decide +kernel
 refine B6f (by decide +kernel) (by decide +kernel) h1 (fun d h2 h3=>D7p E4o F9l F2y (by decide +kernel) h1 (fun p hp=>?_) h2 h3) x hx
 intro he;have hp:=List.all_eq_true.mp E9q p hp;rw[Bool.and_eq_true,decide_eq_true_eq] at hp;have:=congrArg Fin.val he
 rw[B5v g7 256 _ hp.1,h7] at this;have e1:((1:Fin rN):Nat)=1:=by decide +kernel
 rw[e1] at this;rw[this] at hp;exact absurd hp.2 (by decide)
end

section

def A7c (q g f:Nat) (l:List (Nat×Nat)):Bool:=decide (2<q) && (decide (g<q) && (decide (q-1<2 ^ f) && (decide (q-1=l.foldr (fun p a=>p.1 ^ p.2*a) 1) && (B9d q g f (q-1) == 1 && l.all fun p=>B9d q g f ((q-1) / p.1) != 1))))

theorem A5g {q g f:Nat} {l:List (Nat×Nat)} [NeZero q] (h:A7c q g f l=true) (hir:∀p,p∈l->Ir p.1) (x:Fin q) (hx:x≠0):pw x (q-1)=1:=by
 unfold A7c at h;simp only[Bool.and_eq_true,decide_eq_true_eq,beq_iff_eq,List.all_eq_true,bne_iff_ne] at h;obtain ⟨h2,hg,hf,hl,h1,hq⟩:=h;have hgv:(Fin.ofNat q g).val=g:=Nat.mod_eq_of_lt hg;have e1:((1:Fin q):Nat)=1:=Nat.mod_eq_of_lt (show 1<q by omega)
 have hone:pw (Fin.ofNat q g) (q-1)=1:=by
  apply Fin.ext
  rw[B5v _ f (q-1) hf,hgv,h1,e1]
 refine B6f (n:=q-1) (by omega) (by omega) hone (fun d h3 h4=>D7p l hl hir (by omega) hone (fun p hp=>?_) h3 h4) x hx
 intro he;have:=congrArg Fin.val he
 rw[B5v _ f _ (Nat.lt_of_le_of_lt (Nat.div_le_self _ _) hf),hgv,e1] at this;exact hq p hp this

theorem K8 {q g f:Nat} {l:List (Nat×Nat)} (h:A7c q g f l=true) (hir:∀p,p∈l->Ir p.1):Ir q:=fun d hd=>by
 have h2:2<q:=by
  unfold A7c at h;simp only[Bool.and_eq_true,decide_eq_true_eq] at h;exact h.1
 haveI:NeZero q:=⟨by omega⟩
 have hd0:0<d:=Nat.pos_of_dvd_of_pos hd (by omega)
 have hle:d<=q:=Nat.le_of_dvd (by omega) hd
 by_cases hdq:d=q
 ·exact .inr hdq
 refine .inl ?_
 have hv:(Fin.ofNat q d).val=d:=Nat.mod_eq_of_lt (by omega)
 have hne:Fin.ofNat q d≠0:=fun e=>by
  have:=congrArg Fin.val e
  rw[hv] at this;have h0:((0:Fin q):Nat)=0:=rfl;omega
 have hp:=congrArg Fin.val (A5g h hir _ hne);rw[D4y,hv] at hp;have e1:((1:Fin q):Nat)=1:=Nat.mod_eq_of_lt (show 1<q by omega)
 rw[e1] at hp;have hd2:d ∣ d ^ (q-1) % q:=(Nat.dvd_mod_iff hd).2 (by have:=Nat.pow_dvd_pow d (show 1<=q-1 by omega);rwa [Nat.pow_one] at this)
 rw[hp] at hd2;exact Nat.dvd_one.1 hd2

def B7q:List (Nat×Nat):=[(2,2),(3,1),(5,2),(7,1),(7577,1),(582767,1)]
theorem D8x:A7c 9272813673901 2 44 B7q=true:=by decide +kernel
theorem E7h:∀p,p∈B7q->Ir p.1:=fun p hp=>by
 simp only[B7q,List.mem_cons,List.not_mem_nil,or_false] at hp;rcases hp with rfl | rfl | rfl | rfl | rfl | rfl
 ·exact ir2
 ·exact ir3
 ·exact F3 (s:=3) (by decide +kernel)
 ·exact F3 (s:=4) (by decide +kernel)
 ·exact F3 (s:=89) (by decide +kernel)
 ·exact F3 (s:=765) (by decide +kernel)
theorem G8e:Ir 9272813673901:=K8 D8x E7h
def B7r:List (Nat×Nat):=[(2,4),(13,1),(9272813673901,1)]
theorem D8y:A7c 1928745244171409 3 51 B7r=true:=by decide +kernel
theorem E7i:∀p,p∈B7r->Ir p.1:=fun p hp=>by
 simp only[B7r,List.mem_cons,List.not_mem_nil,or_false] at hp;rcases hp with rfl | rfl | rfl
 ·exact ir2
 ·exact F3 (s:=5) (by decide +kernel)
 ·exact G8e
theorem G8f:Ir 1928745244171409:=K8 D8y E7i
def B7s:List (Nat×Nat):=[(2,2),(941,1),(1928745244171409,1)]
theorem D8z:A7c 7259797099061183477 2 63 B7s=true:=by decide +kernel
theorem E7j:∀p,p∈B7s->Ir p.1:=fun p hp=>by
 simp only[B7s,List.mem_cons,List.not_mem_nil,or_false] at hp;rcases hp with rfl | rfl | rfl
 ·exact ir2
 ·exact F3 (s:=32) (by decide +kernel)
 ·exact G8f
theorem G8g:Ir 7259797099061183477:=K8 D8z E7j
def B7t:List (Nat×Nat):=[(2,2),(89,1),(7259797099061183477,1)]
theorem D9a:A7c 2584487767265781317813 2 72 B7t=true:=by decide +kernel
theorem E7k:∀p,p∈B7t->Ir p.1:=fun p hp=>by
 simp only[B7t,List.mem_cons,List.not_mem_nil,or_false] at hp;rcases hp with rfl | rfl | rfl
 ·exact ir2
 ·exact F3 (s:=11) (by decide +kernel)
 ·exact G8g
theorem G8h:Ir 2584487767265781317813:=K8 D9a E7k
def B7u:List (Nat×Nat):=[(2,5),(3,7),(927093389,1)]
theorem D9b:A7c 64881703735777 5 46 B7u=true:=by decide +kernel
theorem E7l:∀p,p∈B7u->Ir p.1:=fun p hp=>by
 simp only[B7u,List.mem_cons,List.not_mem_nil,or_false] at hp;rcases hp with rfl | rfl | rfl
 ·exact ir2
 ·exact ir3
 ·exact F3 (s:=30450) (by decide +kernel)
theorem G8i:Ir 64881703735777:=K8 D9b E7l
def B7v:List (Nat×Nat):=[(2,1),(3,1),(31,1),(467,1),(16447,1),(64881703735777,1)]
theorem D9c:A7c 92691255082156974996979 3 77 B7v=true:=by decide +kernel
theorem E7m:∀p,p∈B7v->Ir p.1:=fun p hp=>by
 simp only[B7v,List.mem_cons,List.not_mem_nil,or_false] at hp;rcases hp with rfl | rfl | rfl | rfl | rfl | rfl
 ·exact ir2
 ·exact ir3
 ·exact F3 (s:=7) (by decide +kernel)
 ·exact F3 (s:=23) (by decide +kernel)
 ·exact F3 (s:=130) (by decide +kernel)
 ·exact G8i
theorem G8j:Ir 92691255082156974996979:=K8 D9c E7m
def B7w:List (Nat×Nat):=[(2,1),(5,2),(17,1),(51376543,1)]
theorem D9d:A7c 43670061551 7 36 B7w=true:=by decide +kernel
theorem E7n:∀p,p∈B7w->Ir p.1:=fun p hp=>by
 simp only[B7w,List.mem_cons,List.not_mem_nil,or_false] at hp;rcases hp with rfl | rfl | rfl | rfl
 ·exact ir2
 ·exact F3 (s:=3) (by decide +kernel)
 ·exact F3 (s:=6) (by decide +kernel)
 ·exact F3 (s:=7169) (by decide +kernel)
theorem G8k:Ir 43670061551:=K8 D9d E7n
def B7x:List (Nat×Nat):=[(2,2),(3,1),(5,1),(11,1),(47,1),(421987,1)]
theorem D9e:A7c 13090036741 10 34 B7x=true:=by decide +kernel
theorem E7o:∀p,p∈B7x->Ir p.1:=fun p hp=>by
 simp only[B7x,List.mem_cons,List.not_mem_nil,or_false] at hp;rcases hp with rfl | rfl | rfl | rfl | rfl | rfl
 ·exact ir2
 ·exact ir3
 ·exact F3 (s:=3) (by decide +kernel)
 ·exact F3 (s:=5) (by decide +kernel)
 ·exact F3 (s:=8) (by decide +kernel)
 ·exact F3 (s:=651) (by decide +kernel)
theorem G8l:Ir 13090036741:=K8 D9e E7o
def B7y:List (Nat×Nat):=[(2,2),(3,2),(5,1),(19,1),(113,1),(755057,1),(13090036741,1)]
theorem D9f:A7c 3819663927398918131021 6 72 B7y=true:=by decide +kernel
theorem E7p:∀p,p∈B7y->Ir p.1:=fun p hp=>by
 simp only[B7y,List.mem_cons,List.not_mem_nil,or_false] at hp;rcases hp with rfl | rfl | rfl | rfl | rfl | rfl | rfl
 ·exact ir2
 ·exact ir3
 ·exact F3 (s:=3) (by decide +kernel)
 ·exact F3 (s:=6) (by decide +kernel)
 ·exact F3 (s:=12) (by decide +kernel)
 ·exact F3 (s:=870) (by decide +kernel)
 ·exact G8l
theorem G8m:Ir 3819663927398918131021:=K8 D9f E7p
def B7z:List (Nat×Nat):=[(2,1),(3373,1),(43670061551,1),(3819663927398918131021,1)]
theorem D9g:A7c 1125266252156850182658904441386709967 5 120 B7z=true:=by decide +kernel
theorem E7q:∀p,p∈B7z->Ir p.1:=fun p hp=>by
 simp only[B7z,List.mem_cons,List.not_mem_nil,or_false] at hp;rcases hp with rfl | rfl | rfl | rfl
 ·exact ir2
 ·exact F3 (s:=60) (by decide +kernel)
 ·exact G8k
 ·exact G8m
theorem G8n:Ir 1125266252156850182658904441386709967:=K8 D9g E7q
def B2n:List (Nat×Nat):=[(2,1),(3,1),(53,1),(475709467,1),(92691255082156974996979,1),(1125266252156850182658904441386709967,1)]
theorem D2r:A7c 15778400344354997994418419698270088123916926905054652752758194827714659 2 234 B2n=true:=by decide +kernel
theorem E0u:∀p,p∈B2n->Ir p.1:=fun p hp=>by
 simp only[B2n,List.mem_cons,List.not_mem_nil,or_false] at hp;rcases hp with rfl | rfl | rfl | rfl | rfl | rfl
 ·exact ir2
 ·exact ir3
 ·exact F3 (s:=9) (by decide +kernel)
 ·exact F3 (s:=21812) (by decide +kernel)
 ·exact G8j
 ·exact G8n
theorem G5g:Ir 15778400344354997994418419698270088123916926905054652752758194827714659:=K8 D2r E0u
def C4y:List (Nat×Nat):=[(2,1),(3,2),(11,1),(23,1),(47,1),(10177,1),(859267,1),(52437899,1),(2584487767265781317813,1),(15778400344354997994418419698270088123916926905054652752758194827714659,1)]
theorem E3p:A7c pN 2 381 C4y=true:=by decide +kernel
theorem F4f:∀p,p∈C4y->Ir p.1:=fun p hp=>by
 simp only[C4y,List.mem_cons,List.not_mem_nil,or_false] at hp;rcases hp with rfl | rfl | rfl | rfl | rfl | rfl | rfl | rfl | rfl | rfl
 ·exact ir2
 ·exact ir3
 ·exact F3 (s:=5) (by decide +kernel)
 ·exact F3 (s:=6) (by decide +kernel)
 ·exact F3 (s:=8) (by decide +kernel)
 ·exact F3 (s:=102) (by decide +kernel)
 ·exact F3 (s:=928) (by decide +kernel)
 ·exact F3 (s:=7243) (by decide +kernel)
 ·exact G8h
 ·exact G5g
theorem E4p (x:Fin pN) (hx:x≠0):pw x (pN-1)=1:=A5g E3p F4f x hx
end

section

abbrev F9n {f:Type->Type} {a:Type} (_:f a):Type->Type:=f
abbrev G4q {A B:Type} (_:A->B):Type:=A
/-- A commutative ring; a module over the whole numbers. -/
abbrev C7v:Type->Type:=F9n Dyadic.instCommRing
abbrev F8x (M:Type):Type:=G4q (@Vector.instIntModule M 0)

section
variable {F:Type} [C7v F]
end
end

section

/-- Expressions. -/
inductive Ex where
 | v (i:Nat)
 | one
 | add (a b:Ex)
 | sub (a b:Ex)
 | mul (a b:Ex)
instance:Add Ex:=⟨.add⟩
instance:Sub Ex:=⟨.sub⟩
instance:Mul Ex:=⟨.mul⟩

/-- Sums of monomials: exponents, six bits each, and a number. -/
abbrev Pl:=List (Nat×Int)

def mrg:Nat->Pl->Pl->Pl
 | 0,a,b=>a++b
 | _+1,[],b=>b
 | _+1,t::a,[]=>t::a
 | n+1,t::a,s::b=>
  match Nat.blt t.1 s.1 with
  | true=>t::mrg n a (s::b)
  | false=>
   match Nat.beq t.1 s.1 with
   | true=>
    match t.2+s.2 with
    | .ofNat 0=>mrg n a b
    | c=>(t.1,c)::mrg n a b
   | false=>s::mrg n (t::a) b

def E2x (a b:Pl):Pl:=mrg (a.length+b.length) a b
def G5n (a:Pl):Pl:=a.map fun t=>(t.1,-t.2)
def shift (m:Nat) (c:Int) (q:Pl):Pl:=q.map fun t=>(m+t.1,c*t.2)
def C3b:List Pl->List Pl
 | a::b::l=>E2x a b::C3b l
 | l=>l
def G4j:Nat->List Pl->Pl
 | 0,l=>l.flatten
 | n+1,l=>
  match l with
  | []=>[]
  | [a]=>a
  | l=>G4j n (C3b l)
def G9l (p q:Pl):Pl:=G4j 30 (p.map fun t=>shift t.1 t.2 q)

/-- Seven exponents that are small. -/
def okM:Nat->Nat->Bool
 | 0,m=>m == 0
 | n+1,m=>Nat.blt (m % 64) 32 && okM n (m / 64)
def okP (p:Pl):Bool:=p.all fun t=>okM 7 t.1

def Y1:Nat:=16777216
def Y2:Nat:=1073741824
def Y3:Nat:=68719476736
/-- A square of y is a cube of x and b. -/
def two (y:Nat) (t:Nat×Int):Bool:=Nat.ble 2 (t.1 / y % 64) && (Nat.ble (2*y) t.1 && okM 7 (t.1-2*y))
def put (y z:Nat) (p:Pl):Pl:=p.map fun t=>(t.1-2*y+z,t.2)
def G2y (y x3:Nat) (p:Pl):Pl:=
 let hi:=p.filter fun t=>two y t
 match hi with
 | []=>p
 | _=>E2x (p.filter fun t=>!two y t) (E2x (put y x3 hi) (put y 262144 hi))

def H1p (p:Pl):Pl:=G2y Y3 12288 (G2y Y2 192 (G2y Y1 3 p))

def Ex.norm:Ex->Option Pl
 | .v i=>if i<7 then some [(64 ^ i,1)] else none
 | .one=>some [(0,1)]
 | .add a b=>
  match a.norm,b.norm with
  | some p,some q=>some (E2x p q)
  | _,_=>none
 | .sub a b=>
  match a.norm,b.norm with
  | some p,some q=>some (E2x p (G5n q))
  | _,_=>none
 | .mul a b=>
  match a.norm,b.norm with
  | some p,some q=>if okP p && okP q then some (H1p (G9l p q)) else none
  | _,_=>none

section
variable {F:Type} [C7v F]

def Ex.ev (ρ:Nat->F):Ex->F
 | .v i=>ρ i
 | .one=>1
 | .add a b=>a.ev ρ+b.ev ρ
 | .sub a b=>a.ev ρ - b.ev ρ
 | .mul a b=>a.ev ρ*b.ev ρ

end
end

section

/-- A field. -/
class Fld (F:Type) extends C7v F where
 inv:F->F
 mul_inv:∀a:F,a≠0->a*inv a=1
 one_ne:(1:F)≠0

/-- Three coordinates. -/
structure H3 (α:Type) where
 X:α
 Y:α
 Z:α

section
variable {α:Type} [Add α] [Sub α] [Mul α]
def A6h (a:α):α:=a+a+a
/-- The sum, by formulas without exceptions. -/
def C3 (b:α) (p q:H3 α):H3 α :=
  { X:=(p.X*q.Y+q.X*p.Y)*(p.Y*q.Y-A6h (b*(p.Z*q.Z)))-A6h (b*((p.Y*q.Z+q.Y*p.Z)*(p.X*q.Z+q.X*p.Z)))
    Y:=(p.Y*q.Y+A6h (b*(p.Z*q.Z)))*(p.Y*q.Y-A6h (b*(p.Z*q.Z)))+A6h (A6h (b*((p.X*q.X)*(p.X*q.Z+q.X*p.Z))))
    Z:=(p.Y*q.Z+q.Y*p.Z)*(p.Y*q.Y+A6h (b*(p.Z*q.Z)))+A6h ((p.X*q.X)*(p.X*q.Y+q.X*p.Y)) }
end

section
variable {F:Type} [C7v F]
end

def eP:H3 Ex:=⟨.v 0,.v 4,.one⟩
def eQ:H3 Ex:=⟨.v 1,.v 5,.one⟩
def eR:H3 Ex:=⟨.v 2,.v 6,.one⟩
def eN:H3 Ex:=⟨.v 0,.sub (.sub .one .one) (.v 4),.one⟩
def eA:H3 Ex:=C3 (.v 3) (C3 (.v 3) eP eQ) eR
def eB:H3 Ex:=C3 (.v 3) eP (C3 (.v 3) eQ eR)
def eE:Ex:=.v 5 - .v 4
def eD:Ex:=.v 1 - .v 0
def same (a b:Ex):Bool:=
 match (Ex.sub a b).norm with
 | some []=>true
 | _=>false
section
variable {F:Type} [Fld F]

/-- A point of the curve; none: at infinity. -/
abbrev Pt (F:Type):=Option (F×F)
variable {b:F}
section
variable [DecidableEq F]
end
end
end

section

section
variable {F:Type} [Add F] [Sub F] [Mul F] [OfNat F 0]
def jng (a:F×F×F):F×F×F:=(a.1,0-a.2.1,a.2.2)
variable [DecidableEq F]
/-- Twice a point. -/
def jtw (a:F×F×F):F×F×F:=
 if a.2.2=0 then a else
 let xx:=a.1*a.1
 let yy:=a.2.1*a.2.1
 let four:=yy*yy
 let d:=(a.1+yy)*(a.1+yy)-xx-four
 let d:=d+d
 let e:=xx+xx+xx
 let x:=e*e-d-d
 let eight:=four+four
 let eight:=eight+eight
 let eight:=eight+eight
 let z:=a.2.1*a.2.2
 (x,e*(d-x)-eight,z+z)

/-- The sum of two points. -/
def jpl (a b:F×F×F):F×F×F:=
 if a.2.2=0 then b else if b.2.2=0 then a else
 let za:=a.2.2*a.2.2
 let zb:=b.2.2*b.2.2
 let u:=a.1*zb
 let v:=b.1*za
 let s:=a.2.1*zb*b.2.2
 let t:=b.2.1*za*a.2.2
 let h:=v-u
 let r:=t-s
 if h=0 then (if r=0 then jtw a else (a.1,a.2.1,0)) else
 let hh:=h*h
 let hhh:=hh*h
 let uhh:=u*hh
 let x:=r*r-hhh-uhh-uhh
 (x,r*(uhh-x)-s*hhh,h*a.2.2*b.2.2)

end


section
variable {F:Type} [Fld F]

variable [DecidableEq F]

end
end

section

/-- So many digits, and what is carried on. -/
def dgW (k:Nat):Nat->List Int×Nat
 | 0=>([],0)
 | i+1=>if k / 32 ^ i % 32+(dgW k i).2 > 16 then ((dgW k i).1++[((k / 32 ^ i % 32+(dgW k i).2:Nat):Int)-32],1) else ((dgW k i).1++[((k / 32 ^ i % 32+(dgW k i).2:Nat):Int)],0)
theorem A9z {k i:Nat} (h:k / 32 ^ i % 32+(dgW k i).2 > 16):dgW k (i+1)=((dgW k i).1++[((k / 32 ^ i % 32+(dgW k i).2:Nat):Int)-32],1):=if_pos h
theorem A0v {k i:Nat} (h:¬k / 32 ^ i % 32+(dgW k i).2 > 16):dgW k (i+1)=((dgW k i).1++[((k / 32 ^ i % 32+(dgW k i).2:Nat):Int)],0):=if_neg h
/-- What digits stand for. -/
def vlW:List Int->Int
 | []=>0
 | d::l=>32*vlW l+d
theorem C1b (d:Int):∀l:List Int,vlW (l++[d])=vlW l+32 ^ l.length*d
 | []=>by simp [vlW]
 | e::l=>by
  show 32*vlW (l++[d])+e=32*vlW l+e+32 ^ (l.length+1)*d;rw[C1b d l,Int.pow_succ,Int.mul_add,Int.mul_right_comm,Int.mul_comm (32 ^ l.length*d) 32];omega
theorem B0a (k:Nat):∀i,(dgW k i).1.length=i
 | 0=>rfl
 | i+1=>by
  by_cases h:k / 32 ^ i % 32+(dgW k i).2 > 16
  ·rw[A9z h];simp [B0a k i]
  ·rw[A0v h];simp [B0a k i]
theorem B2j (k:Nat):∀i,(dgW k i).2<=1
 | 0=>Nat.zero_le 1
 | i+1=>by
  by_cases h:k / 32 ^ i % 32+(dgW k i).2 > 16
  ·rw[A9z h];exact Nat.le_refl 1
  ·rw[A0v h];exact Nat.zero_le 1
theorem B2k (k:Nat):∀i d,d∈(dgW k i).1 -> -16<=d∧d<=16
 | 0,d,h=>by cases h
 | i+1,d,h=>by
  have hc:=B2j k i;have hw:k / 32 ^ i % 32<32:=Nat.mod_lt _ (by decide)
  by_cases hg:k / 32 ^ i % 32+(dgW k i).2 > 16
  ·rw[A9z hg] at h
   rcases List.mem_append.1 h with h | h
   ·exact B2k k i d h
   ·rw[List.mem_singleton] at h;omega
  ·rw[A0v hg] at h
   rcases List.mem_append.1 h with h | h
   ·exact B2k k i d h
   ·rw[List.mem_singleton] at h;omega
theorem F4o (k i:Nat):k % 32 ^ (i+1)=k % 32 ^ i+32 ^ i*(k / 32 ^ i % 32):=by
 rw[Nat.pow_succ,Nat.mod_mul]
theorem D6s (k:Nat):∀i,vlW (dgW k i).1+32 ^ i*((dgW k i).2:Int)=((k % 32 ^ i:Nat):Int)
 | 0=>by simp [dgW,vlW,Nat.mod_one]
 | i+1=>by
  have ih:=D6s k i;have hl:=B0a k i;rw[F4o,Int.natCast_add,Int.natCast_mul,<-ih,Int.natCast_pow];by_cases h:k / 32 ^ i % 32+(dgW k i).2 > 16
  ·rw[A9z h]
   show vlW ((dgW k i).1++[_])+32 ^ (i+1)*((1:Nat):Int)=_;rw[C1b,hl,Int.pow_succ,Int.natCast_add];generalize (32:Int) ^ i=p;generalize ((k / 32 ^ i % 32:Nat):Int)=w;generalize ((dgW k i).2:Int)=c;generalize vlW (dgW k i).1=v;show v+p*(w+c-32)+p*32*1=v+p*c+p*w;grind
  ·rw[A0v h]
   show vlW ((dgW k i).1++[_])+32 ^ (i+1)*((0:Nat):Int)=_;rw[C1b,hl,Int.natCast_add];generalize (32:Int) ^ i=p;generalize ((k / 32 ^ i % 32:Nat):Int)=w;generalize ((dgW k i).2:Int)=c;generalize vlW (dgW k i).1=v;show v+p*(w+c)+32 ^ (i+1)*0=v+p*c+p*w;grind

/-- All digits of a number below 2 to the power of 256. -/
theorem F2r {k n:Nat} (hn:n=52) (h:k<2 ^ 256):vlW (dgW k n).1=(k:Int)∧(dgW k n).2=0:=by
  obtain ⟨m,rfl⟩:∃m,n=m+1:=⟨51,hn⟩
  have hm:m=51:=by omega
  have hq:k / 32 ^ m<=1:=by
    rw[hm]
    have : k / 32 ^ 51 < 2 := Nat.div_lt_of_lt_mul (by have e : 32 ^ 51 * 2 = 2 ^ 256 := by decide +kernel
                                                       rw[e];exact h)
    omega
  have hc:=B2j k m;have h0:(dgW k (m+1)).2=0:=by
    have hw:k / 32 ^ m % 32<=1:=Nat.le_trans (Nat.mod_le _ _) hq;have hs:¬k / 32 ^ m % 32+(dgW k m).2 > 16:=by
      generalize k / 32 ^ m % 32=w at hw;omega
    rw[A0v hs]
  refine ⟨?_,h0⟩
  have hv:=D6s k (m+1);rw[h0] at hv;have hk:k % 32 ^ (m+1)=k:=by
    apply Nat.mod_eq_of_lt
    rw[hm];refine Nat.lt_trans h ?_
    decide +kernel
  rw[hk] at hv;rw[<-hv];simp

end

section

/-- An abelian group. -/
class AG (M:Type) where
 ad:M->M->M
 ng:M->M
 ze:M
 ad_ze:∀a,ad a ze=a
 ad_cm:∀a b,ad a b=ad b a
 ad_as:∀a b c,ad (ad a b) c=ad a (ad b c)
 ng_ad:∀a,ad (ng a) a=ze

namespace AG
variable {M:Type} [AG M]
theorem F1t (a:M):ad ze a=a:=by rw[ad_cm,ad_ze]
theorem D6d (a:M):ad a (ng a)=ze:=by rw[ad_cm,ng_ad]
theorem C5w {a b:M} (h:ad a b=ze):b=ng a:=by
 rw[<-F1t b,<-ng_ad a,ad_as,h,ad_ze]
theorem G5p (a:M):ng (ng a)=a:=(C5w (ng_ad a)).symm
theorem G5q:ng (ze:M)=ze:=(C5w (ad_ze ze)).symm
theorem F1u (a b c d:M):ad (ad a b) (ad c d)=ad (ad a c) (ad b d):=by
 rw[ad_as,<-ad_as b,ad_cm b c,ad_as c,<-ad_as]
theorem E8b (a b:M):ng (ad a b)=ad (ng a) (ng b):=by
 symm
 apply C5w
 rw[F1u,D6d,D6d,ad_ze]
def ns:Nat->M->M
 | 0,_=>ze
 | n+1,a=>ad (ns n a) a
def zs:Int->M->M
 | .ofNat n,a=>ns n a
 | .negSucc n,a=>ng (ns (n+1) a)
theorem B9j (m:Nat) (a:M):∀n,ns (m+n) a=ad (ns m a) (ns n a)
 | 0=>(ad_ze _).symm
 | n+1=>by
  show ad (ns (m+n) a) a=ad (ns m a) (ad (ns n a) a);rw[B9j m a n,ad_as]
theorem A0d (n:Nat) (a:M):zs (n:Int) a=ns n a:=rfl
theorem B4k (a:M):∀n:Int,zs (-n) a=ng (zs n a)
 | .ofNat 0=>by show (ze:M)=ng ze;rw[G5q]
 | .ofNat (n+1)=>rfl
 | .negSucc n=>by show ns (n+1) a=ng (ng (ns (n+1) a));rw[G5p]
theorem C4d (a:M) (m n:Nat):zs ((m:Int)-(n:Int)) a=ad (ns m a) (ng (ns n a)):=by
 by_cases h:n<=m
 ·obtain ⟨k,rfl⟩:=Nat.exists_eq_add_of_le h
  have e:((n+k:Nat):Int)-(n:Int)=(k:Int):=by omega
  rw[e,A0d,B9j,ad_cm (ns n a),ad_as,D6d,ad_ze]
 ·obtain ⟨k,rfl⟩:=Nat.exists_eq_add_of_le (Nat.le_of_lt (Nat.lt_of_not_le h))
  have e:(m:Int)-((m+k:Nat):Int) = -(k:Int):=by omega
  rw[e,B4k,A0d,B9j,E8b,<-ad_as,D6d,F1t]
theorem G4f (x y:Int) (a:M):zs (x+y) a=ad (zs x a) (zs y a):=by
 rcases Int.eq_nat_or_neg x with ⟨m,rfl | rfl⟩<;>rcases Int.eq_nat_or_neg y with ⟨n,rfl | rfl⟩
 ·rw[<-Int.natCast_add,A0d,A0d,A0d,B9j]
 ·rw[<-Int.sub_eq_add_neg,C4d,B4k,A0d,A0d]
 ·rw[Int.add_comm,<-Int.sub_eq_add_neg,C4d,B4k,A0d,A0d,ad_cm]
 ·rw[<-Int.neg_add,<-Int.natCast_add,B4k,B4k,B4k,A0d,A0d,A0d,B9j,E8b]

instance:F8x M where
 zero:=ze
 add:=ad
 neg:=ng
 sub a b:=ad a (ng b)
 add_zero:=ad_ze
 add_comm:=ad_cm
 add_assoc:=ad_as
 neg_add_cancel:=ng_ad
 sub_eq_add_neg _ _:=rfl
 nsmul:=⟨ns⟩
 zsmul:=⟨zs⟩
 zero_zsmul _:=rfl
 one_zsmul a:=F1t a
 add_zsmul:=G4f
 zsmul_natCast_eq_nsmul _ _:=rfl
end AG

section
variable {M:Type} [inst:F8x M]
end
end

end
end Go.Proofs.Ytifiiigbedjceaa
