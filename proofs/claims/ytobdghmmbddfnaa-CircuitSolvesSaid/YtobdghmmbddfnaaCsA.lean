/- Parts of a proof, one behind the other: FwA, FwB, FwC, FwE, FwD, FwF, Fm. No conditions. -/
import Derived.WalkKit
import Derived.WalkSpells
import Derived.WalkLawsBesides
import Derived.KernelRfl
open Go.IntKind (wrap)
namespace Go.Proofs.Ytobdghmmbddfnaa
noncomputable section
section

/-- The order of the groups, and the greater prime. -/
def rN:Nat:=52435875175126190479447740508185965837690552500527637822603658699938581184513
def pN:Nat:=4002409555221667393417789825735904156556882819939007885332058136124031650490837864442687629129015664037894272559787
def B4:Nat:=115792089237316195423570985008687907853269984665640564039457584007913129639936
def B6:Nat:=39402006196394479212279040100143613805079739270465446667948293404245721771497210611414266254884915640806627990306816
instance:NeZero rN:=⟨by decide⟩
instance:NeZero pN:=⟨by decide⟩
instance:NeZero B4:=⟨by decide⟩
instance:NeZero B6:=⟨by decide⟩
abbrev Fr:=Fin rN
abbrev Fp:=Fin pN
abbrev U4:=Fin B4
abbrev U6:=Fin B6

/-- The i-th limb of a number. -/
def limb (n i:Nat):Int:=((n / 2 ^ (64*i) % 18446744073709551616:Nat):Int)

/-- Data of several cells. -/
inductive Ob where
 | fr (x:U4)
 | s (x:Fr)
 | fp (x:U6)
 | p (x:Fp)

def Ob.k:Ob→Nat
 | .fr _=>4
 | .s _=>4
 | .fp _=>6
 | .p _=>6

def Ob.n:Ob→Nat
 | .fr x=>x.val
 | .s x=>x.val*B4 % rN
 | .fp x=>x.val
 | .p x=>x.val*B6 % pN

def Ob.cells (o:Ob):List Value:=(List.range o.k).map fun i=>.int .u64 (limb o.n i)

def Ob.eqb:Ob→Ob→Option Bool
 | .fr x,.fr y=>some (decide (x=y))
 | .s x,.s y=>some (decide (x=y))
 | .fp x,.fp y=>some (decide (x=y))
 | .p x,.p y=>some (decide (x=y))
 | _,_=>none

/-- What a slice holds. -/
structure GateD where
 qm:U4
 ql:U4
 qr:U4
 qo:U4
 qc:U4
 a:Int
 b:Int
 c:Int
structure OpD where
 tag:Int
 a:Int
 b:Int
 c:Int
 n:Int
 k:U4
 ks:List U4
 vars:List Int
structure G1D where
 x:U6
 y:U6
 inf:Bool
structure G2D where
 xa:U6
 xb:U6
 ya:U6
 yb:U6
 inf:Bool

inductive Sq where
 | fr (l:List U4)
 | s (l:List Fr)
 | int (l:List Int)
 | u64 (l:List Int)
 | u8 (l:List Int)
 | gate (l:List GateD)
 | op (l:List OpD)
 | g1 (l:List G1D)
 | g2 (l:List G2D)
 | pt (l:List (Fp×Fp×Fp))
 | pt2 (l:List ((Fp×Fp)×(Fp×Fp)×(Fp×Fp)))
 | place (l:List (Int×Int))
 | frs (l:List (List U4))
 | ints (l:List (List Int))
 | u64s (l:List (List Int))
 | ptt (l:List (List (Fp×Fp×Fp)))

/-- One part of a value: one cell, or an object of several. -/
inductive It where
 | int (k:IntKind) (n:Int)
 | bool (b:Bool)
 | lit (b:Bool)
 | ptr (p off:Nat)
 | ep (p es i off:Nat)
 | slc (p off len es:Nat)
 | sv (p lo len es:Nat)
 | rp (q:Sq) (i off:Nat)
 | sl (q:Sq)
 | ob (o:Ob)
 | val (v:Value)
 | clo (f:FuncId) (caps:List (Nat×Nat))
 | mp (p:Nat)
 | ifc (t:Nat) (os:List Ob)
 | dead
 | old (len:Nat)
 | arr (p off n es:Nat)

/-- The cells of objects, one behind the other. -/
def obsCells:List Ob→List Value
 | []=>[]
 | o::l=>o.cells++obsCells l

def It.size:It→Nat
 | .ob o=>o.k
 | _=>1

def itsSize:List It→Nat
 | []=>0
 | i::l=>i.size+itsSize l

def Sq.n:Sq→Nat
 | .fr l=>l.length
 | .s l=>l.length
 | .int l=>l.length
 | .u64 l=>l.length
 | .u8 l=>l.length
 | .gate l=>l.length
 | .op l=>l.length
 | .g1 l=>l.length
 | .g2 l=>l.length
 | .pt l=>l.length
 | .pt2 l=>l.length
 | .place l=>l.length
 | .frs l=>l.length
 | .ints l=>l.length
 | .u64s l=>l.length
 | .ptt l=>l.length

def Sq.es:Sq→Nat
 | .fr _=>4
 | .s _=>4
 | .int _=>1
 | .u64 _=>1
 | .u8 _=>1
 | .gate _=>23
 | .op _=>11
 | .g1 _=>13
 | .g2 _=>25
 | .pt _=>18
 | .pt2 _=>36
 | .place _=>2
 | .frs _=>1
 | .ints _=>1
 | .u64s _=>1
 | .ptt _=>288

def GateD.its (g:GateD):List It:=[.ob (.fr g.qm),.ob (.fr g.ql),.ob (.fr g.qr),.ob (.fr g.qo),.ob (.fr g.qc),.int .i64 g.a,.int .i64 g.b,.int .i64 g.c]
def OpD.its (o:OpD):List It:=[.int .i64 o.tag,.int .i64 o.a,.int .i64 o.b,.int .i64 o.c,.int .i64 o.n,.ob (.fr o.k),.sl (.fr o.ks),.sl (.int o.vars)]
def G1D.its (g:G1D):List It:=[.ob (.fp g.x),.ob (.fp g.y),.bool g.inf]
def G2D.its (g:G2D):List It:=[.ob (.fp g.xa),.ob (.fp g.xb),.ob (.fp g.ya),.ob (.fp g.yb),.bool g.inf]
def ptIts (x:Fp×Fp×Fp):List It:=[.ob (.p x.1),.ob (.p x.2.1),.ob (.p x.2.2)]
def pt2Its (x:(Fp×Fp)×(Fp×Fp)×(Fp×Fp)):List It:=[.ob (.p x.1.1),.ob (.p x.1.2),.ob (.p x.2.1.1),.ob (.p x.2.1.2),.ob (.p x.2.2.1),.ob (.p x.2.2.2)]
def gate0:GateD:=⟨0,0,0,0,0,0,0,0⟩
def op0:OpD:=⟨0,0,0,0,0,0,[],[]⟩
def g10:G1D:=⟨0,0,false⟩
def g20:G2D:=⟨0,0,0,0,false⟩
def pt0:Fp×Fp×Fp:=(0,0,0)
/-- Sixteen points, one behind the other. -/
def flatPt (l:List (Fp×Fp×Fp)):Nat→Nat→List It
 | _,0=>[]
 | i,n+1=>.ob (.p (l.getD i pt0).1) :: .ob (.p (l.getD i pt0).2.1) :: .ob (.p (l.getD i pt0).2.2)::flatPt l (i+1) n
def pt20:(Fp×Fp)×(Fp×Fp)×(Fp×Fp):=((0,0),(0,0),(0,0))

/-- The parts of one element. -/
def Sq.get:Sq→Nat→List It
 | .fr l,i=>[.ob (.fr (l.getD i 0))]
 | .s l,i=>[.ob (.s (l.getD i 0))]
 | .int l,i=>[.int .i64 (l.getD i 0)]
 | .u64 l,i=>[.int .u64 (l.getD i 0)]
 | .u8 l,i=>[.int .u8 (l.getD i 0)]
 | .gate l,i=>(l.getD i gate0).its
 | .op l,i=>(l.getD i op0).its
 | .g1 l,i=>(l.getD i g10).its
 | .g2 l,i=>(l.getD i g20).its
 | .pt l,i=>ptIts (l.getD i pt0)
 | .pt2 l,i=>pt2Its (l.getD i pt20)
 | .place l,i=>[.int .i64 (l.getD i (0,0)).1,.int .i64 (l.getD i (0,0)).2]
 | .frs l,i=>[.sl (.fr (l.getD i []))]
 | .ints l,i=>[.sl (.int (l.getD i []))]
 | .u64s l,i=>[.sl (.u64 (l.getD i []))]
 | .ptt l,i=>flatPt (l.getD i []) 0 16

def Sq.set (q:Sq) (i:Nat) (its:List It):Option Sq:=
 match q,its with
 | .fr l,[.ob (.fr x)]=>some (.fr (l.set i x))
 | .s l,[.ob (.s x)]=>some (.s (l.set i x))
 | .int l,[.int .i64 x]=>some (.int (l.set i x))
 | .u64 l,[.int .u64 x]=>some (.u64 (l.set i x))
 | .u8 l,[.int .u8 x]=>some (.u8 (l.set i x))
 | .gate l,[.ob (.fr x1),.ob (.fr x2),.ob (.fr x3),.ob (.fr x4),.ob (.fr x5),.int .i64 a,.int .i64 b,.int .i64 c]=>some (.gate (l.set i ⟨x1,x2,x3,x4,x5,a,b,c⟩))
 | .op l,[.int .i64 t,.int .i64 a,.int .i64 b,.int .i64 c,.int .i64 n,.ob (.fr k),.sl (.fr ks),.sl (.int vs)]=>some (.op (l.set i ⟨t,a,b,c,n,k,ks,vs⟩))
 | .g1 l,[.ob (.fp x),.ob (.fp y),.bool b]=>some (.g1 (l.set i ⟨x,y,b⟩))
 | .g1 l,[.ob (.fp x),.ob (.fp y),.lit b]=>some (.g1 (l.set i ⟨x,y,b⟩))
 | .g2 l,[.ob (.fp x),.ob (.fp x'),.ob (.fp y),.ob (.fp y'),.bool b]=>some (.g2 (l.set i ⟨x,x',y,y',b⟩))
 | .g2 l,[.ob (.fp x),.ob (.fp x'),.ob (.fp y),.ob (.fp y'),.lit b]=>some (.g2 (l.set i ⟨x,x',y,y',b⟩))
 | .pt l,[.ob (.p x),.ob (.p y),.ob (.p z)]=>some (.pt (l.set i (x,y,z)))
 | .pt2 l,[.ob (.p a),.ob (.p b),.ob (.p c),.ob (.p d),.ob (.p e),.ob (.p f)]=>some (.pt2 (l.set i ((a,b),(c,d),(e,f))))
 | .place l,[.int .i64 a,.int .i64 b]=>some (.place (l.set i (a,b)))
 | _,_=>none

/-- The parts of sixteen points, read back. -/
def unflat:Nat→List It→Option (List (Fp×Fp×Fp))
 | 0,[]=>some []
 | n+1,.ob (.p a) :: .ob (.p b) :: .ob (.p c)::r=>match unflat n r with
  | some t=>some ((a,b,c)::t)
  | none=>none
 | _,_=>none

/-- One element more. -/
def Sq.push (q:Sq) (its:List It):Option Sq:=
 match q,its with
 | .fr l,[.ob (.fr x)]=>some (.fr (l++[x]))
 | .s l,[.ob (.s x)]=>some (.s (l++[x]))
 | .int l,[.int .i64 x]=>some (.int (l++[x]))
 | .u64 l,[.int .u64 x]=>some (.u64 (l++[x]))
 | .u8 l,[.int .u8 x]=>some (.u8 (l++[x]))
 | .gate l,[.ob (.fr x1),.ob (.fr x2),.ob (.fr x3),.ob (.fr x4),.ob (.fr x5),.int .i64 a,.int .i64 b,.int .i64 c]=>some (.gate (l++[⟨x1,x2,x3,x4,x5,a,b,c⟩]))
 | .op l,[.int .i64 t,.int .i64 a,.int .i64 b,.int .i64 c,.int .i64 n,.ob (.fr k),.sl (.fr ks),.sl (.int vs)]=>some (.op (l++[⟨t,a,b,c,n,k,ks,vs⟩]))
 | .g1 l,[.ob (.fp x),.ob (.fp y),.bool b]=>some (.g1 (l++[⟨x,y,b⟩]))
 | .g1 l,[.ob (.fp x),.ob (.fp y),.lit b]=>some (.g1 (l++[⟨x,y,b⟩]))
 | .g2 l,[.ob (.fp x),.ob (.fp x'),.ob (.fp y),.ob (.fp y'),.bool b]=>some (.g2 (l++[⟨x,x',y,y',b⟩]))
 | .g2 l,[.ob (.fp x),.ob (.fp x'),.ob (.fp y),.ob (.fp y'),.lit b]=>some (.g2 (l++[⟨x,x',y,y',b⟩]))
 | .pt l,[.ob (.p x),.ob (.p y),.ob (.p z)]=>some (.pt (l++[(x,y,z)]))
 | .pt2 l,[.ob (.p a),.ob (.p b),.ob (.p c),.ob (.p d),.ob (.p e),.ob (.p f)]=>some (.pt2 (l++[((a,b),(c,d),(e,f))]))
 | .place l,[.int .i64 a,.int .i64 b]=>some (.place (l++[(a,b)]))
 | .frs l,[.sl (.fr x)]=>some (.frs (l++[x]))
 | .frs l,[.val (.slice none 0 0)]=>some (.frs (l++[[]]))
 | .ints l,[.sl (.int x)]=>some (.ints (l++[x]))
 | .ptt l,its=>match unflat 16 its with
  | some t=>some (.ptt (l++[t]))
  | none=>none
 | _,_=>none

/-- The elements from a place on, so many. -/
def Sq.cut (q:Sq) (lo n:Nat):Sq:=
 match q with
 | .fr l=>.fr ((l.drop lo).take n)
 | .s l=>.s ((l.drop lo).take n)
 | .int l=>.int ((l.drop lo).take n)
 | .u64 l=>.u64 ((l.drop lo).take n)
 | .u8 l=>.u8 ((l.drop lo).take n)
 | .gate l=>.gate ((l.drop lo).take n)
 | .op l=>.op ((l.drop lo).take n)
 | .g1 l=>.g1 ((l.drop lo).take n)
 | .g2 l=>.g2 ((l.drop lo).take n)
 | .pt l=>.pt ((l.drop lo).take n)
 | .pt2 l=>.pt2 ((l.drop lo).take n)
 | .place l=>.place ((l.drop lo).take n)
 | .frs l=>.frs ((l.drop lo).take n)
 | .ints l=>.ints ((l.drop lo).take n)
 | .u64s l=>.u64s ((l.drop lo).take n)
 | .ptt l=>.ptt ((l.drop lo).take n)

/-- Two, one behind the other. -/
def Sq.app (q q' : Sq):Option Sq:=
 match q,q' with
 | .fr l,.fr l' => some (.fr (l++l'))
 | .s l,.s l' => some (.s (l++l'))
 | .int l,.int l' => some (.int (l++l'))
 | .u64 l,.u64 l' => some (.u64 (l++l'))
 | .u8 l,.u8 l' => some (.u8 (l++l'))
 | .gate l,.gate l' => some (.gate (l++l'))
 | .op l,.op l' => some (.op (l++l'))
 | .g1 l,.g1 l' => some (.g1 (l++l'))
 | .g2 l,.g2 l' => some (.g2 (l++l'))
 | .pt l,.pt l' => some (.pt (l++l'))
 | .pt2 l,.pt2 l' => some (.pt2 (l++l'))
 | .place l,.place l' => some (.place (l++l'))
 | .frs l,.frs l' => some (.frs (l++l'))
 | .ints l,.ints l' => some (.ints (l++l'))
 | .u64s l,.u64s l' => some (.u64s (l++l'))
 | .ptt l,.ptt l' => some (.ptt (l++l'))
 | _,_=>none

/-- A value: one cell, or parts; what a slot holds: a value, several (a tuple), or anything. -/
inductive V1 where
 | c (i:It)
 | a (l:List It)
inductive SV where
 | v (x:V1)
 | t (l:List V1)
 | top

/-- What a block of the call's own holds. -/
inductive En where
 | fl (l:List It)
 | sq (q:Sq)

structure St where
 t:Nat→SV
 m:Nat→Option En
 nt:Nat
 nx:Nat
 fr:List ((Nat→SV)×Nat)

end

section

/-- Cells that are read and never written: from a place on. -/
def rd (w:World) (F:Nat→Prop) (b o:Nat) (cs:List Value):Prop:=
 F b∧∀(j:Nat) (v:Value),cs[j]? = some v→w.cell? ⟨b,o+j,none⟩=some v

/-- Parts, one behind the other. -/
def catL (D:It→List Value→Prop):List It→List Value→Prop
 | [],cs=>cs=[]
 | i::l,cs=>∃c1 c2,cs=c1++c2∧D i c1∧catL D l c2

/-- What is known of a position: nothing, a block, or an empty slice without one. -/
inductive Kd where
 | no | real | nil
 deriving DecidableEq

structure Ctx where
 w:World
 F:Nat→Prop
 k:Nat→Kd
 β:Nat→Nat

/-- A part stands for these cells. -/
def den (x:Ctx):Nat→It→List Value→Prop
 | _,.int k n,vs=>vs=[.int k n]
 | _,.bool b,vs=>vs=[.bool b]
 | _,.lit b,vs=>vs=[.bool b]
 | _,.ptr p off,vs=>x.k p = .real∧vs=[.pointer (some ⟨x.β p,off,none⟩)]
 | _,.ep p es i off,vs=>x.k p = .real∧vs=[.pointer (some ⟨x.β p,i*es+off,none⟩)]
 | _,.slc p off len es,vs=>
  (x.k p = .nil∧off=0∧len=0∧vs=[.slice none 0 0]) ∨
  (x.k p = .real∧∃cap cs ty,vs=[.slice (some ⟨x.β p,off,none⟩) len cap]∧len≤cap∧cap≤maxLen∧x.w.heap[x.β p]? = some (.cells cs ty (0,0))∧off+cap*es≤cs.size)
 | _,.sv p lo len es,vs=>
  (len=0∧∃a cap,vs=[.slice a 0 cap]) ∨
  (x.k p = .real∧∃cap,vs=[.slice (some ⟨x.β p,lo*es,none⟩) len cap]∧len≤cap∧cap≤maxLen)
 | _,.ob o,vs=>vs=o.cells
 | _,.val v,vs=>vs=[v]∧v.oneCell' = true
 | _,.dead,vs=>∃v:Value,vs=[v]∧v.oneCell' = true
 | _,.old len,vs=>∃a cap,vs=[.slice a len cap]
 | _,.arr p off n _,vs=>x.k p = .real∧vs=[.slice (some ⟨x.β p,off,none⟩) n n]
 | _,.clo f caps,vs=>(∀c∈caps,x.k c.1 = .real)∧vs=[.func (.func f) #[] (caps.map fun c=>Value.pointer (some ⟨x.β c.1,c.2,none⟩)).toArray]
 | _,.mp p,vs=>x.k p = .real∧vs=[.map (some (x.β p))]
 | _,.ifc t os,vs=>vs=[.iface t (.agg (obsCells os).toArray)]
 | 0,.sl _,_=>False
 | 0,.rp _ _ _,_=>False
 | d+1,.sl q,vs=>
  (∃a cap,vs=[.slice a 0 cap]∧q.n=0) ∨
  (∃b o cap,vs=[.slice (some ⟨b,o,none⟩) q.n cap]∧q.n≤cap∧q.n≤maxLen∧∀i,i<q.n→∃cs,catL (den x d) (q.get i) cs∧rd x.w x.F b (o+i*q.es) cs)
 | d+1,.rp q i off,vs=>∃b o cs,vs=[.pointer (some ⟨b,o+off,none⟩)]∧i<q.n∧catL (den x d) (q.get i) cs∧rd x.w x.F b o cs

/-- However deep slices lie in slices. -/
def Ctx.D (x:Ctx) (i:It) (vs:List Value):Prop:=∃d,den x d i vs

def denV (x:Ctx):V1→Value→Prop
 | .c i,v=>i.size=1∧x.D i [v]
 | .a l,v=>∃cs,v = .agg cs.toArray∧catL x.D l cs

inductive denVs (x:Ctx):List V1→List Value→Prop
 | nil:denVs x [] []
 | cons {a v l vs}:denV x a v→denVs x l vs→denVs x (a::l) (v::vs)

def denS (x:Ctx):SV→Value→Prop
 | .v a,v=>denV x a v
 | .t l,v=>∃vs,v = .tuple vs.toArray∧denVs x l vs
 | .top,_=>True

/-- What an own block holds. -/
def denEn (x:Ctx):En→List Value→Prop
 | .fl l,cs=>catL x.D l cs
 | .sq q,cs=>q.n*q.es≤cs.length∧∀i,i<q.n→∃c,catL x.D (q.get i) c∧∀(j:Nat) (v:Value),c[j]? = some v→cs[i*q.es+j]? = some v

/-! Lengths. -/
theorem ob_len (o:Ob):o.cells.length=o.k:=by simp [Ob.cells]

theorem den_len {x:Ctx} {d:Nat} {i:It} {vs:List Value} (h:den x d i vs):vs.length=i.size:=by
 cases i<;>cases d<;>simp only[den] at h<;>simp only[It.size]
 all_goals first
  | (subst h;simp [ob_len];done)
  | (obtain ⟨h1,rfl⟩:=h;rfl)
  | (obtain ⟨rfl,h1⟩:=h;rfl)
  | (obtain ⟨v,rfl,_⟩:=h;rfl)
  | (rcases h with ⟨_,_,_,rfl⟩ | ⟨_,_,_,_,rfl,_⟩<;>rfl)
  | (rcases h with ⟨_,_,_,rfl⟩ | ⟨_,_,rfl,_⟩<;>rfl)
  | (rcases h with ⟨_,_,rfl,_⟩ | ⟨_,_,_,rfl,_⟩<;>rfl)
  | (obtain ⟨_,_,_,rfl,_⟩:=h;rfl)
  | exact h.elim

theorem catL_len {x:Ctx} {d:Nat}:∀{l:List It} {cs:List Value},catL (den x d) l cs→cs.length=itsSize l
 | [],cs,h=>by simp only[catL] at h;subst h;rfl
 | i::l,cs,h=>by
  obtain ⟨c1,c2,rfl,h1,h2⟩:=h
  simp [itsSize,den_len h1,catL_len h2]

/-! Deeper. -/
theorem catL_mono {D D' : It→List Value→Prop} (h:∀i vs,D i vs→D' i vs):∀{l:List It} {cs:List Value},catL D l cs→catL D' l cs
 | [],_,hc=>hc
 | _::_,_,⟨c1,c2,e,h1,h2⟩=>⟨c1,c2,e,h _ _ h1,catL_mono h h2⟩

theorem den_up {x:Ctx}:∀(d:Nat) (i:It) (vs:List Value),den x d i vs→den x (d+1) i vs:=by
  intro d
  induction d with
  | zero=>intro i vs h;cases i<;>simp only[den] at h ⊢<;>first | exact h | exact h.elim
  | succ d ih=>
    intro i vs h
    cases i<;>simp only[den] at h ⊢
    all_goals first
      | exact h
      | (rcases h with h | ⟨b,o,cap,e,hc,hm,hr⟩
         · exact .inl h
         · refine .inr ⟨b,o,cap,e,hc,hm,fun i hi=>?_⟩
           obtain ⟨cs,h1,h2⟩:=hr i hi
           exact ⟨cs,catL_mono ih h1,h2⟩)
      | (obtain ⟨b,o,cs,e,hi,h1,h2⟩:=h
         exact ⟨b,o,cs,e,hi,catL_mono ih h1,h2⟩)

theorem den_le {x:Ctx} {d d' : Nat} (h:d≤d') {i:It} {vs:List Value} (hd:den x d i vs):den x d' i vs:=by
 induction h with
 | refl=>exact hd
 | step _ ih=>exact den_up _ _ _ ih

theorem catL_D {x:Ctx} {d:Nat} {l:List It} {cs:List Value} (h:catL (den x d) l cs):catL x.D l cs:=catL_mono (fun _ _ h=>⟨d,h⟩) h

theorem catL_ex {x:Ctx}:∀{l:List It} {cs:List Value},catL x.D l cs→∃d,catL (den x d) l cs
 | [],_,h=>⟨0,h⟩
 | _::_,_,⟨c1,c2,e,⟨d,h1⟩,h2⟩=>by
  obtain ⟨d',h2⟩:=catL_ex h2
  exact ⟨max d d',c1,c2,e,den_le (Nat.le_max_left _ _) h1,catL_mono (fun _ _ h=>den_le (Nat.le_max_right _ _) h) h2⟩

theorem D_len {x:Ctx} {i:It} {vs:List Value} (h:x.D i vs):vs.length=i.size:=by obtain ⟨d,h⟩:=h;exact den_len h

/-! The world grows. -/
/-- From one context to another: what is read is as it was; own blocks keep their sizes. -/
structure Ext (x y:Ctx):Prop where
 size:x.w.heap.size≤y.w.heap.size
 ro:∀b,x.F b→y.F b∧y.w.heap[b]? = x.w.heap[b]?
 k:∀p,x.k p ≠ .no→y.k p=x.k p
 β:∀p,x.k p = .real→y.β p=x.β p
 own:∀p,x.k p = .real→∀cs ty,x.w.heap[x.β p]? = some (.cells cs ty (0,0))→∃cs',y.w.heap[x.β p]? = some (.cells cs' ty (0,0))∧cs'.size=cs.size

theorem Ext.refl (x:Ctx):Ext x x:=⟨Nat.le_refl _,fun _ h=>⟨h,rfl⟩,fun _ _=>rfl,fun _ _=>rfl,fun _ _ cs _ h=>⟨cs,h,rfl⟩⟩

theorem Ext.trans {x y z:Ctx} (h:Ext x y) (g:Ext y z):Ext x z where
 size:=Nat.le_trans h.size g.size
 ro b hb:=⟨(g.ro b (h.ro b hb).1).1,(g.ro b (h.ro b hb).1).2.trans (h.ro b hb).2⟩
 k p hp:=(g.k p (by rw[h.k p hp];exact hp)).trans (h.k p hp)
 β p hp:=(g.β p ((h.k p (by simp [hp])).trans hp)).trans (h.β p hp)
 own p hp cs ty hc:=by
  obtain ⟨cs1,h1,s1⟩:=h.own p hp cs ty hc
  have hk:=(h.k p (by simp [hp])).trans hp
  have:=g.own p hk cs1 ty (by rw[h.β p hp];exact h1)
  rw[h.β p hp] at this
  obtain ⟨cs2,h2,s2⟩:=this
  exact ⟨cs2,h2,s2.trans s1⟩

theorem cell_block {w w' : World} {b:Nat} (h:w'.heap[b]? = w.heap[b]?) (o:Nat):w'.cell? ⟨b,o,none⟩=w.cell? ⟨b,o,none⟩:=by simp [World.cell?,h]

theorem rd_ext {x y:Ctx} (h:Ext x y) {b o:Nat} {cs:List Value} (hr:rd x.w x.F b o cs):rd y.w y.F b o cs:=
 ⟨(h.ro b hr.1).1,fun j v hv=>by rw[cell_block (h.ro b hr.1).2];exact hr.2 j v hv⟩

theorem den_ext {x y:Ctx} (h:Ext x y):∀(d:Nat) (i:It) (vs:List Value),den x d i vs→den y d i vs:=by
  intro d
  induction d with
  | zero=>
    intro i vs hi
    cases i<;>simp only[den] at hi ⊢
    all_goals first
      | exact hi
      | (obtain ⟨h1,h2⟩:=hi;exact ⟨(h.k _ (by simp [h1])).trans h1,by rw[h.β _ h1];exact h2⟩)
      | (rcases hi with ⟨h1,h2⟩ | ⟨h1,cap,cs,ty,e,hl,hm,hc,hs⟩
         · exact .inl ⟨(h.k _ (by simp [h1])).trans h1,h2⟩
         · obtain ⟨cs',hc',hs'⟩:=h.own _ h1 cs ty hc
           exact .inr ⟨(h.k _ (by simp [h1])).trans h1,cap,cs',ty,by rw[h.β _ h1];exact e,hl,hm,by rw[h.β _ h1];exact hc',by omega⟩)
      | (rcases hi with hi | ⟨h1,cap,e,hl,hm⟩
         · exact .inl hi
         · exact .inr ⟨(h.k _ (by simp [h1])).trans h1,cap,by rw[h.β _ h1];exact e,hl,hm⟩)
      | (obtain ⟨h1,h2⟩:=hi
         refine ⟨fun c hc=>(h.k _ (by simp [h1 c hc])).trans (h1 c hc),?_⟩
         rw[h2]
         congr 3
         exact List.map_congr_left fun c hc=>by rw[h.β _ (h1 c hc)])
  | succ d ih=>
    intro i vs hi
    cases i<;>simp only[den] at hi ⊢
    all_goals first
      | exact hi
      | (obtain ⟨h1,h2⟩:=hi;exact ⟨(h.k _ (by simp [h1])).trans h1,by rw[h.β _ h1];exact h2⟩)
      | (rcases hi with ⟨h1,h2⟩ | ⟨h1,cap,cs,ty,e,hl,hm,hc,hs⟩
         · exact .inl ⟨(h.k _ (by simp [h1])).trans h1,h2⟩
         · obtain ⟨cs',hc',hs'⟩:=h.own _ h1 cs ty hc
           exact .inr ⟨(h.k _ (by simp [h1])).trans h1,cap,cs',ty,by rw[h.β _ h1];exact e,hl,hm,by rw[h.β _ h1];exact hc',by omega⟩)
      | (rcases hi with hi | ⟨h1,cap,e,hl,hm⟩
         · exact .inl hi
         · exact .inr ⟨(h.k _ (by simp [h1])).trans h1,cap,by rw[h.β _ h1];exact e,hl,hm⟩)
      | (obtain ⟨h1,h2⟩:=hi
         refine ⟨fun c hc=>(h.k _ (by simp [h1 c hc])).trans (h1 c hc),?_⟩
         rw[h2]
         congr 3
         exact List.map_congr_left fun c hc=>by rw[h.β _ (h1 c hc)])
      | (rcases hi with hi | ⟨b,o,cap,e,hc,hm,hr⟩
         · exact .inl hi
         · refine .inr ⟨b,o,cap,e,hc,hm,fun i hi=>?_⟩
           obtain ⟨cs,h1,h2⟩:=hr i hi
           exact ⟨cs,catL_mono ih h1,rd_ext h h2⟩)
      | (obtain ⟨b,o,cs,e,hi,h1,h2⟩:=hi
         exact ⟨b,o,cs,e,hi,catL_mono ih h1,rd_ext h h2⟩)

theorem D_ext {x y:Ctx} (h:Ext x y) (i:It) (vs:List Value) (hd:x.D i vs):y.D i vs:=by
 obtain ⟨d,hd⟩:=hd;exact ⟨d,den_ext h d i vs hd⟩

theorem denV_ext {x y:Ctx} (h:Ext x y) {a:V1} {v:Value} (hv:denV x a v):denV y a v:=by
 cases a with
 | c i=>exact ⟨hv.1,D_ext h _ _ hv.2⟩
 | a l=>obtain ⟨cs,e,hc⟩:=hv;exact ⟨cs,e,catL_mono (D_ext h) hc⟩

theorem denVs_ext {x y:Ctx} (h:Ext x y) {l:List V1} {vs:List Value} (hv:denVs x l vs):denVs y l vs:=by
 induction hv with
 | nil=>exact .nil
 | cons h1 _ ih=>exact .cons (denV_ext h h1) ih

theorem denS_ext {x y:Ctx} (h:Ext x y) {s:SV} {v:Value} (hv:denS x s v):denS y s v:=by
 cases s with
 | v a=>exact denV_ext h hv
 | t l=>obtain ⟨vs,e,hc⟩:=hv;exact ⟨vs,e,denVs_ext h hc⟩
 | top=>trivial

theorem denEn_ext {x y:Ctx} (h:Ext x y) {e:En} {cs:List Value} (hv:denEn x e cs):denEn y e cs:=by
 cases e with
 | fl l=>exact catL_mono (D_ext h) hv
 | sq q=>exact ⟨hv.1,fun i hi=>let ⟨c,h1,h2⟩:=hv.2 i hi;⟨c,catL_mono (D_ext h) h1,h2⟩⟩

end

section

/-- What is known of a type. -/
structure TyI where
 cells:Nat
 agg:Bool
 bytes:Nat
 zero:List It
 fields:List (Nat×Nat×Bool)
 arr:Option (Nat×Nat)
 slc:Option Nat
 kind:Option IntKind
 esq:Option Sq
 eqk:List Bool

structure Res where
 obl:List Prop
 val:SV
 ups:List (Nat×En)
 kill:Option Nat

abbrev FnSpec:=List SV→Option (List Prop×SV×List En)
abbrev MuSpec:=List SV→(Nat→Option En)→Option (List Prop×SV×List (Nat×En))

structure Env where
 ty:Nat→Option TyI
 fn:Nat→Option FnSpec
 mu:Nat→Option MuSpec
 inl:Nat→Option Func
 ex:Nat→Option Nat
 inv:Nat→Option (List (String×Nat))

def AllP:List Prop→Prop
 | []=>True
 | p::l=>p∧AllP l

theorem AllP_append {l l' : List Prop}:AllP (l++l')↔AllP l∧AllP l' := by
 induction l with
 | nil=>simp [AllP]
 | cons p l ih=>simp [AllP,ih,and_assoc]

def takeIts:Nat→List It→Option (List It)
 | 0,_=>some []
 | _+1,[]=>none
 | n+1,i::l=>if i.size≤n+1 then (takeIts (n+1-i.size) l).map (i :: ·) else none

def dropIts:Nat→List It→Option (List It)
 | 0,l=>some l
 | _+1,[]=>none
 | n+1,i::l=>if i.size≤n+1 then dropIts (n+1-i.size) l else none

def cutIts (off n:Nat) (l:List It):Option (List It):=
 match dropIts off l with
 | some r=>takeIts n r
 | none=>none

/-- The parts ahead, the new ones, the parts behind. -/
def pasteIts (off:Nat) (new l:List It):Option (List It):=
 match takeIts off l,dropIts (off+itsSize new) l with
 | some a,some b=>some (a++new++b)
 | _,_=>none

def obInts (o:Ob):List It:=(List.range o.k).map fun i=>.int .u64 (limb o.n i)

def explode:List It→List It
 | []=>[]
 | .ob o::l=>obInts o++explode l
 | i::l=>i::explode l

def cutAny (off n:Nat) (l:List It):Option (List It):=
 match cutIts off n l with
 | some r=>some r
 | none=>cutIts off n (explode l)

def pasteAny (off:Nat) (new l:List It):Option (List It):=
 match pasteIts off new l with
 | some r=>some r
 | none=>pasteIts off new (explode l)

def mkV (agg:Bool) (l:List It):Option V1:=
 match agg,l with
 | true,l=>some (.a l)
 | false,[i]=>some (.c i)
 | _,_=>none

def V1.its:V1→List It
 | .c i=>[i]
 | .a l=>l

def bitsOp (op:BinOp) (k:IntKind) (x y:Int):Int:=
 match op with
 | .and=>k.wrap ((BitVec.ofInt k.bits x &&& BitVec.ofInt k.bits y).toNat:Int)
 | .or=>k.wrap ((BitVec.ofInt k.bits x ||| BitVec.ofInt k.bits y).toNat:Int)
 | .xor=>k.wrap ((BitVec.ofInt k.bits x ^^^ BitVec.ofInt k.bits y).toNat:Int)
 | _=>k.wrap ((BitVec.ofInt k.bits x &&& ~~~ BitVec.ofInt k.bits y).toNat:Int)

def arith (op:BinOp) (k:IntKind) (a b:Int):Option (List Prop×It):=
 match op with
 | .add=>some ([],.int k (k.wrap (a+b)))
 | .sub=>some ([],.int k (k.wrap (a-b)))
 | .mul=>some ([],.int k (k.wrap (a*b)))
 | .quo=>some ([b≠0],.int k (k.wrap (a.tdiv b)))
 | .rem=>some ([b≠0],.int k (a.tmod b))
 | .and=>some ([],.int k (bitsOp .and k a b))
 | .or=>some ([],.int k (bitsOp .or k a b))
 | .xor=>some ([],.int k (bitsOp .xor k a b))
 | .andNot=>some ([],.int k (bitsOp .andNot k a b))
 | .shl=>some ([0≤b],.int k (k.wrap (a*2 ^ (min b.toNat k.bits))))
 | .shr=>some ([0≤b],.int k (a.fdiv (2 ^ (min b.toNat k.bits))))
 | .eql=>some ([],.bool (a == b))
 | .neq=>some ([],.bool (a != b))
 | .lss=>some ([],.bool (a<b))
 | .leq=>some ([],.bool (a≤b))
 | .gtr=>some ([],.bool (a > b))
 | .geq=>some ([],.bool (a ≥ b))

def IntKind.same:IntKind→IntKind→Bool
 | .i8,.i8 | .i16,.i16 | .i32,.i32 | .i64,.i64 | .u8,.u8 | .u16,.u16 | .u32,.u32 | .u64,.u64=>true
 | _,_=>false

def eqIt:It→It→Option Bool
 | .int k a,.int k' b=>if IntKind.same k k' then some (a == b) else none
 | .bool a,.bool b=>some (a == b)
 | .lit a,.bool b=>some (a == b)
 | .bool a,.lit b=>some (a == b)
 | .lit a,.lit b=>some (a == b)
 | .ob a,.ob b=>Ob.eqb a b
 | _,_=>none

def eqIts:List It→List It→Option Bool
 | [],[]=>some true
 | [a],[b]=>eqIt a b
 | a::l,b::l' =>
  match eqIt a b,eqIts l l' with
  | some x,some y=>some (x && y)
  | _,_=>none
 | _,_=>none

def itSh:List It→Option (List Bool)
 | []=>some []
 | .int _ _::l=>(itSh l).map (true :: ·)
 | .bool _::l=>(itSh l).map (false :: ·)
 | .lit _::l=>(itSh l).map (false :: ·)
 | .ob o::l=>(itSh l).map (List.replicate o.k true ++ ·)
 | _=>none

def isEql:BinOp→Option Bool
 | .eql=>some true
 | .neq=>some false
 | _=>none

def isNilP:List It→Bool
 | [.val (.pointer none)]=>true
 | _=>false

/-- What a pointer is told against nil; else: whether both are. -/
def nilRes (env:Env) (op:BinOp) (xt:Nat) (b:Bool):Option (List Prop×It):=
 match isEql op,env.ty xt with
 | some e,some i=>if !i.agg && isNilP i.zero then some ([],.lit (if e then b else !b)) else none
 | _,_=>none

/-- Two strings joined, a string's end, a string of bytes: by choice, so that nothing unfolds them. -/
def catS (s t:ByteArray):ByteArray:=Classical.choose (⟨s++t,rfl⟩:∃u,u=s++t)
theorem catS_is (s t:ByteArray):catS s t=s++t:=Classical.choose_spec (⟨s++t,rfl⟩:∃u,u=s++t)
def dropS (s:ByteArray) (n:Nat):ByteArray:=Classical.choose (⟨s.extract n s.size,rfl⟩:∃u,u=s.extract n s.size)
theorem dropS_is (s:ByteArray) (n:Nat):dropS s n=s.extract n s.size:=Classical.choose_spec (⟨s.extract n s.size,rfl⟩:∃u,u=s.extract n s.size)
def strOf (l:List Int):ByteArray:=Classical.choose (⟨⟨(l.map fun n=>UInt8.ofNat n.toNat).toArray⟩,rfl⟩:∃u:ByteArray,u=⟨(l.map fun n=>UInt8.ofNat n.toNat).toArray⟩)
theorem strOf_is (l:List Int):strOf l=⟨(l.map fun n=>UInt8.ofNat n.toNat).toArray⟩:=Classical.choose_spec (⟨⟨(l.map fun n=>UInt8.ofNat n.toNat).toArray⟩,rfl⟩:∃u:ByteArray,u=⟨(l.map fun n=>UInt8.ofNat n.toNat).toArray⟩)

/-- Two strings. -/
def strRes (op:BinOp) (s t:ByteArray):Option (List Prop×It):=
 match op with
 | .add=>some ([s.size+t.size≤1152921504606846976],.val (.string (catS s t)))
 | .eql=>some ([],.bool (s.toList == t.toList))
 | .neq=>some ([],.bool (!(s.toList == t.toList)))
 | _=>none

def isStrZ:List It→Bool
 | [.val (.string _)]=>true
 | _=>false
def TyI.isStr (i:TyI):Bool:=!i.agg && isStrZ i.zero

def binRes (env:Env) (op:BinOp) (xt:Nat) (x y:SV):Option (List Prop×It):=
 match x,y with
 | .v (.c (.int k a)),.v (.c (.int k' b))=>
  match op with
  | .shl=>arith .shl k a b
  | .shr=>arith .shr k a b
  | op=>if IntKind.same k k' then arith op k a b else none
 | .v (.c (.ptr _ _)),.v (.c (.val (.pointer none)))=>nilRes env op xt false
 | .v (.c (.val (.pointer none))),.v (.c (.val (.pointer none)))=>nilRes env op xt true
 | .v (.c (.val (.string s))),.v (.c (.val (.string t)))=>strRes op s t
 | .v (.c a),.v (.c b)=>
  match isEql op,env.ty xt,eqIt a b with
  | some e,some i,some r=>if !i.agg && (itSh [a] == some i.eqk) && (itSh [b] == some i.eqk) then some ([],.bool (if e then r else !r)) else none
  | _,_,_=>none
 | .v (.a a),.v (.a b)=>
  match isEql op,env.ty xt,eqIts a b with
  | some e,some i,some r=>if i.agg && !i.eqk.isEmpty && (itSh a == some i.eqk) && (itSh b == some i.eqk) then some ([],.bool (if e then r else !r)) else none
  | _,_,_=>none
 | _,_=>none

/-- Whole numbers of 64 bits among parts. -/
def u64s:List It→Option (List Int)
 | []=>some []
 | .int .u64 n::l=>(u64s l).map (n :: ·)
 | _=>none

/-- A variable's block, as a row of one. -/
def boxSq:List It→Option Sq
 | [.ob (.fr x)]=>some (.fr [x])
 | [.sl (.fr l)]=>some (.frs [l])
 | [.int .i64 n]=>some (.int [n])
 | _=>none
/-- A part without own blocks: an own slice is read. -/
def rdIt (m:Nat→Option En):It→Option (List Prop×It)
 | .int k n=>some ([],.int k n)
 | .bool b=>some ([],.bool b)
 | .lit b=>some ([],.lit b)
 | .ob o=>some ([],.ob o)
 | .val v=>some ([],.val v)
 | .sl q=>some ([],.sl q)
 | .rp q i off=>some ([],.rp q i off)
 | .clo f []=>some ([],.clo f [])
 | .slc p off len es=>
  match m p with
  | some (.sq q)=>some ([off=0,len=q.n,es=q.es],.sl q)
  | some (.fl l)=>
   match es,cutIts off len (explode l) with
   | 1,some r=>match u64s r with
    | some ns=>some ([],.sl (.u64 ns))
    | none=>none
   | _,_=>none
  | none=>none
 | .sv p lo len es=>
  match m p with
  | some (.sq q)=>some ([lo+len≤q.n,es=q.es],.sl (q.cut lo len))
  | _=>none
 | .ptr p off=>
  match m p with
  | some (.fl l)=>match boxSq l with
   | some q=>some ([],.rp q 0 off)
   | none=>none
  | _=>none
 | _=>none

def rdIts (m:Nat→Option En):List It→Option (List Prop×List It)
 | []=>some ([],[])
 | i::l=>
  match rdIt m i,rdIts m l with
  | some (o,i),some (o',l)=>some (o++o',i::l)
  | _,_=>none

def rdSV (m:Nat→Option En):SV→Option (List Prop×SV)
 | .v (.c i)=>match rdIt m i with
  | some (o,i)=>some (o,.v (.c i))
  | none=>none
 | .v (.a l)=>match rdIts m l with
  | some (o,l)=>some (o,.v (.a l))
  | none=>none
 | _=>none

def rdSVs (m:Nat→Option En):List SV→Option (List Prop×List SV)
 | []=>some ([],[])
 | a::l=>
  match rdSV m a,rdSVs m l with
  | some (o,a),some (o',l)=>some (o++o',a::l)
  | _,_=>none

/-- Positions of a contract's own results, from p on. -/
def shIt (p:Nat):It→It
 | .slc q off len es=>.slc (p+q) off len es
 | .sv q lo len es=>.sv (p+q) lo len es
 | .ptr q off=>.ptr (p+q) off
 | .ep q es i off=>.ep (p+q) es i off
 | .mp q=>.mp (p+q)
 | .arr q off n es=>.arr (p+q) off n es
 | .clo f c=>.clo f (c.map fun x=>(p+x.1,x.2))
 | i=>i
def shV (p:Nat):V1→V1
 | .c i=>.c (shIt p i)
 | .a l=>.a (l.map (shIt p))
def shSV (p:Nat):SV→SV
 | .v a=>.v (shV p a)
 | .t l=>.t (l.map (shV p))
 | .top=>.top

def shEn (p:Nat):En→En
 | .fl l=>.fl (l.map (shIt p))
 | .sq q=>.sq q

def number (p:Nat):List En→List (Nat×En)
 | []=>[]
 | e::l=>(p,e)::number (p+1) l

def constSV:Value→SV
 | .int k n=>.v (.c (.int k n))
 | .bool b=>.v (.c (.lit b))
 | .slice none 0 0=>.v (.c (.val (.slice none 0 0)))
 | .string s=>.v (.c (.val (.string s)))
 | .map none=>.v (.c (.val (.map none)))
 | .pointer none=>.v (.c (.val (.pointer none)))
 | _=>.top

def St.ev (σ:St):Operand→SV
 | .tmp t=>σ.t t
 | .const v=>constSV v
 | .global _=>.top
 | .func f=>.v (.c (.clo f []))

def intIt:SV→Option (IntKind×Int)
 | .v (.c (.int k n))=>some (k,n)
 | _=>none

/-- An address, cells and whether they are of several: what is loaded. -/
def loadRes (m:Nat→Option En) (a:SV) (i:TyI):Option (List Prop×V1):=
 match a with
 | .v (.c (.ptr p off))=>
  match m p with
  | some (.fl l)=>
   match i.agg,l with
   | false,[.ob o]=>some ([off<o.k],.c (.int .u64 (limb o.n off)))
   | agg,l=>match cutAny off i.cells l with
    | some r=>(mkV agg r).map fun v=>([],v)
    | none=>none
  | some (.sq q)=>
   if q.es=1 && i.cells=1 then (mkV i.agg (q.get off)).map fun v=>([off<q.n],v)
   else if off=0 && q.es=i.cells then (mkV i.agg (q.get 0)).map fun v=>([0<q.n],v) else none
  | _=>none
 | .v (.c (.ep p es ix off))=>
  match m p with
  | some (.sq q)=>
   if q.es=es then
    match i.agg,q.get ix with
    | false,[.ob o]=>some ([ix<q.n,off<o.k],.c (.int .u64 (limb o.n off)))
    | agg,l=>match cutAny off i.cells l with
     | some r=>(mkV agg r).map fun v=>([ix<q.n],v)
     | none=>none
   else none
  | _=>none
 | .v (.c (.rp q ix off))=>
  match cutAny off i.cells (q.get ix) with
  | some r=>(mkV i.agg r).map fun v=>([],v)
  | none=>none
 | _=>none

def storeRes (m:Nat→Option En) (a x:SV) (i:TyI):Option (List Prop×List (Nat×En)):=
 match x with
 | .v v=>
  if itsSize v.its=i.cells then
   match a with
   | .v (.c (.ptr p off))=>
    match m p with
    | some (.fl l)=>(pasteAny off v.its l).map fun r=>([],[(p,.fl r)])
    | some (.sq q)=>if q.es=1 && i.cells=1 then (q.set off v.its).map fun r=>([off<q.n],[(p,.sq r)]) else none
    | none=>none
   | .v (.c (.ep p es ix off))=>
    match m p with
    | some (.sq q)=>
     if q.es=es then
      match pasteAny off v.its (q.get ix) with
      | some r=>(q.set ix r).map fun r=>([ix<q.n],[(p,.sq r)])
      | none=>none
     else none
    | _=>none
   | _=>none
  else none
 | _=>none

/-- A pointer to a field. -/
def fieldRes (a:SV) (fo:Nat):Option It:=
 match a with
 | .v (.c (.ptr p off))=>some (.ptr p (off+fo))
 | .v (.c (.ep p es ix off))=>some (.ep p es ix (off+fo))
 | .v (.c (.rp q ix off))=>some (.rp q ix (off+fo))
 | _=>none

/-- A pointer to an element: es is the element's size, arr the array's length. -/
def indexRes (m:Nat→Option En) (x:SV) (i:Int) (arr:Option Nat) (es:Nat):Option (List Prop×It):=
 match arr,x with
 | none,.v (.c (.slc p off len es'))=>
  if es' = es then
   match m p with
   | some (.sq q)=>if q.es=es then some ([0≤i,i<len,off=0],.ep p es i.toNat 0) else none
   | some (.fl _)=>some ([0≤i,i<len],.ptr p (off+i.toNat*es))
   | none=>none
  else none
 | none,.v (.c (.sl q))=>if q.es=es then some ([0≤i,i<q.n],.rp q i.toNat 0) else none
 | some n,.v (.c (.ptr p off))=>
  match m p with
  | some (.sq q)=>if q.es=es then some ([0≤i,i<n,off=0],.ep p es i.toNat 0) else none
  | some (.fl _)=>some ([0≤i,i<n],.ptr p (off+i.toNat*es))
  | none=>none
 | some n,.v (.c (.ep p es' ix off))=>some ([0≤i,i<n],.ep p es' ix (off+i.toNat*es))
 | some n,.v (.c (.rp q ix off))=>some ([0≤i,i<n],.rp q ix (off+i.toNat*es))
 | _,_=>none

def optInt:Option SV→Option (Option Int)
 | none=>some none
 | some x=>(intIt x).map fun y=>some y.2

/-- A piece: of an array behind a pointer (arr: its length), or of a slice. -/
def sliceRes (m:Nat→Option En) (x:SV) (lo hi:Option Int) (arr:Option Nat) (es:Nat):Option (List Prop×It):=
 match arr,x with
 | some n,.v (.c (.ptr p off))=>
  match (match m p with | some (.fl l)=>if off+n*es≤itsSize l then some [] else none | some (.sq q)=>if q.es=es then some [off=0,n≤q.n] else none | none=>(none:Option (List Prop))) with
  | some o=>
   match lo,hi with
   | none,none=>if n≤4096 then some (o,if es=13 then .arr p off n es else .slc p off n es) else none
   | none,some h=>if n≤4096 then some ((0≤h)::(h≤n)::o,.slc p off h.toNat es) else none
   | _,_=>none
  | none=>none
 | none,.v (.c (.slc p off len es'))=>
  match lo,hi with
  | none,none=>some ([],.slc p off len es')
  | none,some h=>some ([off=0,es' = es,0≤h,h≤len],if es=11 then .slc p 0 h.toNat es else .sv p 0 h.toNat es)
  | some l,none=>some ([off=0,es' = es,0≤l,l≤len],.sv p l.toNat (len-l.toNat) es)
  | some l,some h=>some ([off=0,es' = es,0≤l,l≤h,h≤len],.sv p l.toNat (h.toNat-l.toNat) es)
 | none,.v (.c (.sl q))=>
  if q.es=es then
   match lo,hi with
   | none,none=>some ([],.sl q)
   | none,some h=>some ([0≤h,h≤q.n],.sl (q.cut 0 h.toNat))
   | some l,none=>some ([0≤l,l≤q.n],.sl (q.cut l.toNat (q.n-l.toNat)))
   | some l,some h=>some ([0≤l,l≤h,h≤q.n],.sl (q.cut l.toNat (h.toNat-l.toNat)))
  else none
 | _,_=>none

def zeros:Sq→Nat→Option Sq
 | .fr _,n=>some (.fr (List.replicate n 0))
 | .s _,n=>some (.s (List.replicate n 0))
 | .int _,n=>some (.int (List.replicate n 0))
 | .u64 _,n=>some (.u64 (List.replicate n 0))
 | .u8 _,n=>some (.u8 (List.replicate n 0))
 | .gate _,n=>some (.gate (List.replicate n gate0))
 | .g1 _,n=>some (.g1 (List.replicate n g10))
 | .g2 _,n=>some (.g2 (List.replicate n g20))
 | .pt _,n=>some (.pt (List.replicate n pt0))
 | .pt2 _,n=>some (.pt2 (List.replicate n pt20))
 | .place _,n=>some (.place (List.replicate n (0,0)))
 | .frs _,n=>some (.frs (List.replicate n []))
 | .ints _,n=>some (.ints (List.replicate n []))
 | _,_=>none

def pushAll (q:Sq):List (List It)→Option Sq
 | []=>some q
 | x::l=>match q.push x with
  | some q=>pushAll q l
  | none=>none

/-- Literal places 0, 1, 2 .. of the parts. -/
def inOrder:Nat→List (Nat×SV)→Option (List (List It))
 | _,[]=>some []
 | n,(i,.v v)::l=>if i=n then (inOrder (n+1) l).map (v.its :: ·) else none
 | _,_=>none

/-- Where a part of a built value lies. -/
def placeOf (fields:List (Nat×Nat×Bool)) (arr:Option (Nat×Nat)) (i:Nat):Option (Nat×Nat):=
 match arr with
 | some (_,es)=>some (i*es,es)
 | none=>(fields[i]?).map fun f=>(f.1,f.2.1)

def buildAll (fields:List (Nat×Nat×Bool)) (arr:Option (Nat×Nat)) (l:List It):List (Nat×SV)→Option (List It)
 | []=>some l
 | (i,.v v)::r=>
  match placeOf fields arr i with
  | some (off,size)=>if itsSize v.its=size then
    match pasteAny off v.its l with
    | some l=>buildAll fields arr l r
    | none=>none
   else none
  | none=>none
 | _=>none

def ofLimbs:List It→Option Nat
 | []=>some 0
 | .int .u64 a::l=>(ofLimbs l).map fun n=>a.toNat+18446744073709551616*n
 | _=>none

def limbsOk:List It→List Prop
 | .int .u64 a::l=>(0≤a)::(a<18446744073709551616)::limbsOk l
 | _=>[]

/-- A number whose limbs were given one by one is told as a number. -/
def asNumber (z l:List It):List Prop×List It:=
 match z,l with
 | [.ob (.fr _)],[.int .u64 a,.int .u64 b,.int .u64 c,.int .u64 d]=>
  match ofLimbs [.int .u64 a,.int .u64 b,.int .u64 c,.int .u64 d] with
  | some n=>(limbsOk [.int .u64 a,.int .u64 b,.int .u64 c,.int .u64 d],[.ob (.fr (Fin.ofNat B4 n))])
  | none=>([],l)
 | [.ob (.fp _)],[.int .u64 a,.int .u64 b,.int .u64 c,.int .u64 d,.int .u64 e,.int .u64 f]=>
  match ofLimbs [.int .u64 a,.int .u64 b,.int .u64 c,.int .u64 d,.int .u64 e,.int .u64 f] with
  | some n=>(limbsOk [.int .u64 a,.int .u64 b,.int .u64 c,.int .u64 d,.int .u64 e,.int .u64 f],[.ob (.fp (Fin.ofNat B6 n))])
  | none=>([],l)
 | _,l=>([],l)

def capsOf:List SV→Option (List (Nat×Nat))
 | []=>some []
 | .v (.c (.ptr p off))::l=>(capsOf l).map ((p,off) :: ·)
 | _=>none

def minRes:List SV→Option It
 | [.v (.c (.int k a)),.v (.c (.int _ b))]=>some (.int k (if b<a then b else a))
 | [.v (.c (.int k a)),.v (.c (.int _ b)),.v (.c (.int _ c))]=>some (.int k (if c<(if b<a then b else a) then c else (if b<a then b else a)))
 | _=>none
def maxRes:List SV→Option It
 | [.v (.c (.int k a)),.v (.c (.int _ b))]=>some (.int k (if b > a then b else a))
 | _=>none

def lenRes:List SV→Option It
 | [.v (.c (.slc _ _ len _))]=>some (.int .i64 len)
 | [.v (.c (.sl q))]=>some (.int .i64 q.n)
 | [.v (.c (.val (.slice none 0 0)))]=>some (.int .i64 0)
 | [.v (.c (.old len))]=>some (.int .i64 len)
 | _=>none

def lenStr:List SV→Option Nat
 | [.v (.c (.val (.string s)))]=>some s.size
 | _=>none

/-- So many elements of this size. -/
def chunk (es:Nat):Nat→List It→Option (List (List It))
 | 0,_=>some []
 | n+1,l=>match takeIts es l,dropIts es l with
  | some a,some b=>(chunk es n b).map (a :: ·)
  | _,_=>none

/-- An array of elements within a block, as a row. -/
def arrSq (m:Nat→Option En) (e:Sq) (p off n es:Nat):Option Sq:=
 match m p with
 | some (.fl l)=>match dropIts off l with
  | some r=>match chunk es n r with
   | some cs=>if e.es=es then pushAll e cs else none
   | none=>none
  | none=>none
 | _=>none

/-- What is appended. -/
def appSrc (m:Nat→Option En) (e:Sq):SV→Option (List Prop×Sq)
 | .v (.c (.sl q))=>some ([],q)
 | .v (.c (.val (.slice none 0 0)))=>some ([],e)
 | .v (.c (.slc p off len _))=>match m p with
  | some (.sq q)=>if off=0 then some ([len=q.n],q) else none
  | _=>none
 | .v (.c (.arr p off n es))=>(arrSq m e p off n es).map fun q=>([],q)
 | _=>none

def appRes (m:Nat→Option En) (p:Nat) (i:TyI) (e:Sq) (s x:SV):Option Res:=
 match appSrc m e x with
 | some (o,q')=>
  match s with
  | .v (.c (.val (.slice none 0 0)))=>
   match e.app q' with
   | some r=>some ⟨(q'.n*i.bytes≤140737488355328)::(q'.n≤maxLen)::o,.v (.c (.slc p 0 q'.n e.es)),[(p,.sq r)],none⟩
   | none=>none
  | .v (.c (.slc p' off len es))=>
   match m p' with
   | some (.sq q)=>
    match q.app q' with
    | some r=>if off=0∧es=q.es∧q.es=e.es then some ⟨((q.n+q'.n)*i.bytes≤140737488355328)::(q.n+q'.n≤maxLen)::(len=q.n)::o,.v (.c (.slc p' 0 (q.n+q'.n) es)),[(p',.sq r)],some p'⟩ else none
    | none=>none
   | _=>none
  | .v (.c (.arr p' off n es))=>
   match arrSq m e p' off n es with
   | some q=>
    match q.app q' with
    | some r=>some ⟨((n+q'.n)*i.bytes≤140737488355328)::(n+q'.n≤maxLen)::(0<q'.n)::o,.v (.c (.slc p 0 (n+q'.n) e.es)),[(p,.sq r)],none⟩
    | none=>none
   | none=>none
  | _=>none
 | none=>none

/-- Cells copied from a row to another: elements of one cell each. -/
def copyRes (m:Nat→Option En) (e:Sq):List SV→Option (List Prop×Int×List (Nat×En))
 | [.v (.c (.slc p off len es)),x]=>
  match m p with
  | some (.sq q)=>match appSrc m e x with
   | some (o,q')=>match q'.app (q.cut q'.n (q.n-q'.n)) with
    | some r=>if off=0∧es=q.es∧q.es=e.es then some ((len=q.n)::(q'.n≤q.n)::o,q'.n,[(p,.sq r)]) else none
    | none=>none
   | none=>none
  | some (.fl l)=>match rdSV m x with
   | some (o,.v (.c (.sl (.u64 ns))))=>match pasteAny off (ns.map fun n=>It.int .u64 n) l with
    | some r=>if es=1∧e.es=1∧ns.length=len then some (o,len,[(p,.fl r)]) else none
    | none=>none
   | _=>none
  | none=>none
 | _=>none

/-- All elements of an own row are made nought. -/
def clearRes (m:Nat→Option En) (e:Sq):List SV→Option (List Prop×List (Nat×En))
 | [.v (.c (.slc p off len es))]=>
  match m p with
  | some (.sq q)=>match zeros e q.n with
   | some z=>if off=0∧es=q.es∧q.es=e.es then some ([len=q.n],[(p,.sq z)]) else none
   | none=>none
  | _=>none
 | _=>none

def setsM (m:Nat→Option En):List (Nat×En)→Nat→Option En
 | []=>m
 | (p,e)::l=>setsM (fun q=>if q=p then some e else m q) l

/-- No slice or pointer into memory that is only read. -/
def noRoSq:Sq→Bool
 | .op _ | .frs _ | .ints _ | .u64s _=>false
 | _=>true
def noRoIt:It→Bool
 | .sl _ | .rp _ _ _=>false
 | _=>true
def noRoV:V1→Bool
 | .c i=>noRoIt i
 | .a l=>l.all noRoIt
def noRoS:SV→Bool
 | .v a=>noRoV a
 | .t l=>l.all noRoV
 | .top=>true
def noRoEn:En→Bool
 | .fl l=>l.all noRoIt
 | .sq q=>noRoSq q
def ownFreeIt:It→Bool
 | .int _ _ | .bool _ | .lit _ | .ob _ | .val _ | .sl _ | .rp _ _ _ | .clo _ [] | .ifc _ _=>true
 | _=>false
def ownFree:SV→Bool
 | .v (.c i)=>ownFreeIt i
 | .v (.a l)=>l.all ownFreeIt
 | _=>false

def callRes (env:Env) (m:Nat→Option En) (p:Nat) (f:Nat) (args:List SV):Option Res:=
 match env.fn f with
 | some spec=>
  match rdSVs m args with
  | some (o,as)=>
   match spec as with
   | some (o',r,es)=>if es.length≤16 && (args.all ownFree || (noRoS r && es.all noRoEn)) then some ⟨o++o',shSV p r,number p (es.map (shEn p)),none⟩ else none
   | none=>none
  | none=>none
 | none=>
  match env.mu f with
  | some spec=>
   match spec args m with
   | some (o,r,ups)=>some ⟨o,r,ups,none⟩
   | none=>none
  | none=>none

def obsOf:List It→Option (List Ob)
 | []=>some []
 | .ob o::l=>(obsOf l).map (o :: ·)
 | _=>none

def lookM (name:String):List (String×Nat)→Option Nat
 | []=>none
 | (n,g)::l=>if n=name then some g else lookM name l

/-- A method of what stands behind an interface value: a contract's. -/
def invRes (env:Env) (m:Nat→Option En) (p:Nat) (recv:SV) (name:String) (args:List SV):Option Res:=
 match recv with
 | .v (.c (.ifc t os))=>
  match env.inv t with
  | some l=>
   match lookM name l with
   | some g=>
    match env.fn g with
    | some _=>callRes env m p g (.v (.a (os.map .ob))::args)
    | none=>none
   | none=>none
  | none=>none
 | _=>none

/-- A call through a slot: a contract's alone. -/
def callT (env:Env) (m:Nat→Option En) (p:Nat) (f:Operand) (g:Nat) (args:List SV):Option Res:=
 match f with
 | .func _=>callRes env m p g args
 | _=>match env.fn g with
  | some _=>callRes env m p g args
  | none=>none

/-- Two numbers and a carry: their sum, with what goes beyond; their difference, with what is borrowed. -/
def exOut (k:Nat) (x y c:Int):Int×Int:=
 match k with
 | 0=>((x+y+c) % 18446744073709551616,(x+y+c) / 18446744073709551616)
 | _=>((x-y-c) % 18446744073709551616,if x<y+c then 1 else 0)

/-- A call of a function without a body that is reckoned in place. -/
def exRes (k:Nat) (args:List SV):Option Res:=
 match args with
 | [.v (.c (.int .u64 x)),.v (.c (.int .u64 y)),.v (.c (.int .u64 c))]=>some ⟨[0≤x,0≤y,y<18446744073709551616,0≤c,c≤1],.t [.c (.int .u64 (exOut k x y c).1),.c (.int .u64 (exOut k x y c).2)],[],none⟩
 | _=>none

def pureV (i:It):Option Res:=some ⟨[],.v (.c i),[],none⟩
def withO (r:Option (List Prop×It)):Option Res:=r.map fun x=>⟨x.1,.v (.c x.2),[],none⟩

/-- One operation: its value, what must hold, and what it makes of the own blocks; new ones stand from p on. -/
def opRes (env:Env) (ρ:Operand→SV) (m:Nat→Option En) (p:Nat) (o:Oper):Option Res:=
  match o.op with
  | .move x=>some ⟨[],ρ x,[],none⟩
  | .assign x=>some ⟨[],ρ x,[],none⟩
  | .pick c a b=>match ρ c with
    | .v (.c (.lit d))=>some ⟨[],if d then ρ a else ρ b,[],none⟩
    | _=>none
  | .alloc t=>match env.ty t with
    | some i=>some ⟨[],.v (.c (.ptr p 0)),[(p,.fl i.zero)],none⟩
    | none=>none
  | .box _ x=>match ρ x with
    | .v v=>some ⟨[],.v (.c (.ptr p 0)),[(p,.fl v.its)],none⟩
    | _=>none
  | .build t parts=>match env.ty t with
    | some i=>
      match (match i.arr with | some (n,e)=>(env.ty e).map fun (ie:TyI)=>some (n,ie.cells) | none=>some none) with
      | some arr=>
        match buildAll i.fields arr i.zero (parts.toList.map fun (x:Nat×Operand)=>(x.1,ρ x.2)) with
        | some l=>if i.agg then (match asNumber i.zero l with | (ob,l)=>some ⟨ob,.v (.a l),[],none⟩) else none
        | none=>none
      | none=>none
    | none=>none
  | .buildSlice t len parts=>match env.ty t with
    | some i=>match i.slc with
      | some e=>match env.ty e with
        | some ie=>match ie.esq,inOrder 0 (parts.toList.map fun (x:Nat×Operand)=>(x.1,ρ x.2)) with
          | some q,some l=>if l.length=len∧len*ie.cells≤16777216∧len≤16777216 then
              match pushAll q l with
              | some q=>some ⟨[],.v (.c (.slc p 0 len ie.cells)),[(p,.sq q)],none⟩
              | none=>none
            else none
          | _,_=>none
        | none=>none
      | none=>none
    | none=>none
  | .load t a=>match env.ty t with
    | some i=>match loadRes m (ρ a) i with
      | some (o,v)=>some ⟨o,.v v,[],none⟩
      | none=>none
    | none=>none
  | .store t a x=>match env.ty t with
    | some i=>match storeRes m (ρ a) (ρ x) i with
      | some (o,ups)=>some ⟨o,.top,ups,none⟩
      | none=>none
    | none=>none
  | .nilCheck x=>match ρ x with
    | .v (.c (.ptr q off))=>pureV (.ptr q off)
    | .v (.c (.ep q es i off))=>pureV (.ep q es i off)
    | .v (.c (.rp q i off))=>pureV (.rp q i off)
    | _=>none
  | .binOp op xt x y _=>withO (binRes env op xt (ρ x) (ρ y))
  | .unOp op _ x=>match op,ρ x with
    | .not,.v (.c (.lit b))=>pureV (.lit !b)
    | .not,.v (.c (.bool b))=>pureV (.bool !b)
    | .neg,.v (.c (.int k n))=>pureV (.int k (k.wrap (0-n)))
    | _,_=>none
  | .convert src dst x=>match env.ty src,env.ty dst with
    | some j,some i=>match j.slc with
      | none=>match ρ x with
        | .v (.c (.int _ n))=>match i.kind with
          | some k=>pureV (.int k (k.wrap n))
          | none=>none
        | _=>none
      | some e=>match env.ty e with
        | some ie=>match ie.kind with
          | some .u8=>if i.isStr then match appSrc m (.u8 []) (ρ x) with
              | some (o,.u8 l)=>some ⟨o,.v (.c (.val (.string (strOf l)))),[],none⟩
              | _=>none
            else none
          | _=>none
        | none=>none
    | _,_=>none
  | .makeInterface t x=>match ρ x with
    | .v (.a l)=>match env.inv t,obsOf l with
      | some _,some os=>pureV (.ifc t os)
      | _,_=>none
    | _=>none
  | .makeFunc fn first caps=>match fn,first.size,capsOf (caps.toList.map ρ) with
    | .func f,0,some cs=>pureV (.clo f cs)
    | _,_,_=>none
  | .makeSlice t l c=>match env.ty t,ρ l,ρ c with
    | some i,.v (.c (.int _ n)),.v (.c (.int _ n'))=>match i.slc with
      | some e=>match env.ty e with
        | some ie=>match ie.esq with
          | some q=>match zeros q n.toNat with
            | some z=>some ⟨[0≤n,n=n',ie.bytes*n≤281474976710656,n≤9223372036854775807],.v (.c (.slc p 0 n.toNat ie.cells)),[(p,.sq z)],none⟩
            | none=>none
          | none=>none
        | none=>none
      | none=>none
    | _,_,_=>none
  | .slice t x lo hi mx=>match env.ty t,optInt (lo.map ρ),optInt (hi.map ρ),optInt (mx.map ρ) with
    | some i,some none,some (some h),some (some m)=>match i.arr,i.slc,ρ x with
      | none,some e,.v (.c (.sl q))=>match env.ty e with
        | some ie=>if q.es=ie.cells then some ⟨[0≤h,h≤m,m≤q.n],.v (.c (.sl (q.cut 0 h.toNat))),[],none⟩ else none
        | none=>none
      | _,_,_=>none
    | some i,some lo,some hi,some none=>match i.arr,i.slc with
      | some (n,e),none=>match env.ty e with
        | some ie=>withO (sliceRes m (ρ x) lo hi (some n) ie.cells)
        | none=>none
      | none,some e=>match env.ty e with
        | some ie=>withO (sliceRes m (ρ x) lo hi none ie.cells)
        | none=>none
      | none,none=>match ρ x,lo,hi with
        | .v (.c (.val (.string s))),some l,none=>if i.isStr then some ⟨[0≤l,l≤s.size],.v (.c (.val (.string (dropS s l.toNat)))),[],none⟩ else none
        | _,_,_=>none
      | _,_=>none
    | _,_,_,_=>none
  | .fieldAddr s x f=>match env.ty s with
    | some i=>match i.fields[f]? with
      | some (fo,fs,_)=>if fs=0 then none else match fieldRes (ρ x) fo with
        | some r=>pureV r
        | none=>none
      | none=>none
    | none=>none
  | .field s x f=>match env.ty s,ρ x with
    | some i,.v (.a l)=>match i.fields[f]? with
      | some (fo,fs,ag)=>if itsSize l=i.cells∧fs≠0 then
          match cutAny fo fs l with
          | some r=>match mkV ag r with
            | some v=>some ⟨[],.v v,[],none⟩
            | none=>none
          | none=>none
        else none
      | none=>none
    | _,_=>none
  | .indexAddr t x ix=>match env.ty t,intIt (ρ ix) with
    | some i,some (_,n)=>match i.arr,i.slc with
      | some (len,e),none=>match env.ty e with
        | some ie=>withO (indexRes m (ρ x) n (some len) ie.cells)
        | none=>none
      | none,some e=>match env.ty e with
        | some ie=>withO (indexRes m (ρ x) n none ie.cells)
        | none=>none
      | _,_=>none
    | _,_=>none
  | .index t x ix=>match env.ty t,ρ x,intIt (ρ ix) with
    | some i,.v (.a l),some (_,n)=>match i.arr with
      | some (len,e)=>match env.ty e with
        | some ie=>
          match ie.agg,ie.cells,l with
          | false,1,[.ob o]=>if o.k=len then some ⟨[0≤n,n<len],.v (.c (.int .u64 (limb o.n n.toNat))),[],none⟩ else none
          | ag,es,l=>if itsSize l=i.cells∧es≠0 then
              match cutAny (n.toNat*es) es l with
              | some r=>match mkV ag r with
                | some v=>some ⟨[0≤n,n<len],.v v,[],none⟩
                | none=>none
              | none=>none
            else none
        | none=>none
      | none=>none
    | some i,.v (.c (.val (.string s))),some (_,n)=>if i.isStr then some ⟨[0≤n,n<s.size],.v (.c (.int .u8 ((s.data.toList.getD n.toNat 0).toNat:Int))),[],none⟩ else none
    | _,_,_=>none
  | .extract x i=>match ρ x with
    | .t l=>match l[i]? with
      | some v=>some ⟨[],.v v,[],none⟩
      | none=>none
    | _=>none
  | .call c=>match c.callee with
    | .invoke recv name=>invRes env m p (ρ recv) name (c.args.toList.map ρ)
    | .value f=>match ρ f with
      | .v (.c (.clo g []))=>match env.ex g with
        | some k=>exRes k (c.args.toList.map ρ)
        | none=>callT env m p f g (c.args.toList.map ρ)
      | .v (.c (.clo g caps))=>callT env m p f g (c.args.toList.map ρ++caps.map fun x=>.v (.c (.ptr x.1 x.2)))
      | _=>none
    | .builtin b=>
      match b with
      | .len=>match c.argTypes.toList with
        | [t]=>match env.ty t with
          | some i=>match i.slc,lenRes (c.args.toList.map ρ) with
            | some _,some i=>pureV i
            | some _,none=>none
            | none,_=>match lenStr (c.args.toList.map ρ) with
              | some n=>if i.isStr then pureV (.int .i64 n) else none
              | none=>none
          | none=>none
        | _=>none
      | .min=>match minRes (c.args.toList.map ρ) with
        | some i=>pureV i
        | none=>none
      | .max=>match maxRes (c.args.toList.map ρ) with
        | some i=>pureV i
        | none=>none
      | .append=>match c.argTypes.toList,c.args.toList with
        | [t,t'],[s,x]=>if t=t' then
            match env.ty t with
            | some i=>match i.slc with
              | some e=>match env.ty e with
                | some ie=>match ie.esq with
                  | some q=>appRes m p ie q (ρ s) (ρ x)
                  | none=>none
                | none=>none
              | none=>none
            | none=>none
          else none
        | _,_=>none
      | .copy=>match c.argTypes.toList with
        | [t,_]=>match env.ty t with
          | some i=>match i.slc with
            | some e=>match env.ty e with
              | some ie=>match ie.esq with
                | some q=>match copyRes m q (c.args.toList.map ρ) with
                  | some (o,n,ups)=>some ⟨o,.v (.c (.int .i64 n)),ups,none⟩
                  | none=>none
                | none=>none
              | none=>none
            | none=>none
          | none=>none
        | _=>none
      | .clear => match c.argTypes.toList with
        | [t]=>match env.ty t with
          | some i=>match i.slc with
            | some e=>match env.ty e with
              | some ie=>match ie.esq with
                | some q=>match clearRes m q (c.args.toList.map ρ) with
                  | some (o,ups)=>some ⟨o,.top,ups,none⟩
                  | none=>none
                | none=>none
              | none=>none
            | none=>none
          | none=>none
        | _=>none
      | _=>none
  | _=>none

end

section

def scrubIt (p:Nat):It→It
 | .slc q off len es=>if q=p then .old len else .slc q off len es
 | .sv _ _ _ _=>.dead
 | .ptr q off=>if q=p then .dead else .ptr q off
 | .ep q es i off=>if q=p then .dead else .ep q es i off
 | .mp q=>if q=p then .dead else .mp q
 | .arr q off n es=>if q=p then .dead else .arr q off n es
 | .clo f c=>if c.any (fun a=>a.1 == p) then .dead else .clo f c
 | i=>i
def scrubV (p:Nat):V1→V1
 | .c i=>.c (scrubIt p i)
 | .a l=>.a (l.map (scrubIt p))
def scrubS (p:Nat):SV→SV
 | .v v=>.v (scrubV p v)
 | .t l=>.t (l.map (scrubV p))
 | .top=>.top
def scrubEn (p:Nat):En→En
 | .fl l=>.fl (l.map (scrubIt p))
 | .sq q=>.sq q

def killT (t:Nat→SV):Option Nat→Nat→SV
 | none=>t
 | some p=>fun x=>scrubS p (t x)
def killM (m:Nat→Option En):Option Nat→Nat→Option En
 | none=>m
 | some p=>fun x=>(m x).map (scrubEn p)

def killF (fr:List ((Nat→SV)×Nat)):Option Nat→List ((Nat→SV)×Nat)
 | none=>fr
 | some p=>fr.map fun q=>(killT q.1 (some p),q.2)

def setT (t:Nat→SV) (d:Nat) (v:SV):Nat→SV:=fun x=>if x=d then v else t x

/-- Every block that is written is there; every other one is new and stands in its room. -/
def upsOk (al:Nat→Bool) (m:Nat→Option En) (p:Nat):List (Nat×En)→Bool
 | []=>true
 | (q,_)::l=>(match m q with | some _=>al q | none=>Nat.ble p q && Nat.blt q (p+16)) && upsOk al m p l

/-- The slots that tell whether later operations are wanted. -/
def deciders (ops:List Oper):List Oper→List Nat
 | []=>[]
 | o::l=>match o.guard with
  | some (j,_)=>match (ops[j]?).bind (·.dst) with
   | some d=>let r:=deciders ops l;if r.contains d then r else d::r
   | none=>deciders ops l
  | none=>deciders ops l

def assignDec:List Nat→List Bool→Option (List (Nat×Bool)×List Bool)
 | [],p=>some ([],p)
 | _::_,[]=>none
 | d::l,b::p=>match assignDec l p with
  | some (r,p)=>some ((d,b)::r,p)
  | none=>none

def lookDec (d:Nat):List (Nat×Bool)→Option Bool
 | []=>none
 | (e,b)::l=>if e=d then some b else lookDec d l

/-- A slot's value, decided where it is to be. -/
def decideV (dec:List (Nat×Bool)) (d:Nat) (v:SV):List Prop×SV:=
 match v with
 | .v (.c (.bool b))=>match lookDec d dec with
  | some x=>([b=x],.v (.c (.lit x)))
  | none=>([],.v (.c (.bool b)))
 | v=>([],v)

/-- Position 0 is never given up: it may be a caller's. -/
def killOk:Option Nat→Bool
 | some 0=>false
 | _=>true

/-- One operation on the state. -/
def opDo (env:Env) (al:Nat→Bool) (dec:List (Nat×Bool)) (p:Nat) (o:Oper) (σ:St):Option (List Prop×St):=
 match opRes env σ.ev (fun q=>if al q then σ.m q else none) p o with
 | none=>none
 | some r=>
  if killOk r.kill && upsOk al σ.m p r.ups then
   match o.dst with
   | none=>some (r.obl,{ σ with t:=killT σ.t r.kill,m:=setsM (killM σ.m r.kill) r.ups,fr:=killF σ.fr r.kill })
   | some d=>if d<σ.nt then
     match decideV dec d r.val with
     | (o',v)=>some (o' ++ r.obl,{ σ with t:=setT (killT σ.t r.kill) d v,m:=setsM (killM σ.m r.kill) r.ups,fr:=killF σ.fr r.kill })
    else none
  else none

/-- Is an operation wanted? A slot that was left out holds no bool: what asks it is not wanted. -/
def guardOf (ops:List Oper) (o:Oper) (t:Nat→SV):Option Bool:=
 match o.guard with
 | none=>some true
 | some (j,want)=>match (ops[j]?).bind (·.dst) with
  | none=>none
  | some d=>match t d with
   | .v (.c (.lit b))=>some (b == want)
   | .t []=>some false
   | _=>none

/-- One operation of a region, if it is wanted. -/
def opStep (env:Env) (al:Nat→Bool) (dec:List (Nat×Bool)) (ops:List Oper) (p:Nat) (o:Oper) (σ:St):Option (List Prop×St):=
 match guardOf ops o σ.t with
 | some true=>opDo env al dec p o σ
 | some false=>(match o.dst with
  | some e=>if e<σ.nt then some ([],{ σ with t:=setT σ.t e (.t []) }) else none
  | none=>some ([],σ))
 | none=>none

/-! Regions whose order is open. -/
def ancFold (acc:List Nat):List Edge→Nat
 | []=>0
 | e::l=>if Region.binds .any e then 2 ^ e.on ||| acc.getD e.on 0 ||| ancFold acc l else ancFold acc l

def ancOf (acc:List Nat) (o:Oper):Nat:=ancFold acc o.after.toList

def ancs:List Oper→List Nat→List Nat
 | [],acc=>acc
 | o::l,acc=>ancs l (acc++[ancOf acc o])

/-- 0: no memory · 1: reads · 2: makes · 3: writes · 4: anything · 5: reads and makes · 6: makes one row longer. -/
def mcls (env:Env) (o:Oper):Nat:=
 match o.op with
 | .move _ | .assign _ | .pick _ _ _ | .build _ _ | .fieldAddr _ _ _ | .field _ _ _ | .extract _ _ | .unOp _ _ _ | .binOp _ _ _ _ _ | .index _ _ _ | .nilCheck _ | .makeFunc _ _ _ | .makeInterface _ _=>0
 | .convert src _ _=>match env.ty src with
  | some j=>match j.slc with
   | some _=>1
   | none=>0
  | none=>0
 | .load _ _ | .indexAddr _ _ _ | .slice _ _ _ _ _=>1
 | .alloc _ | .box _ _ | .buildSlice _ _ _ | .makeSlice _ _ _=>2
 | .store _ _ _=>3
 | .call c=>match c.callee with
  | .builtin .len | .builtin .min | .builtin .max=>0
  | .builtin .append=>6
  | .value (.func f)=>match env.ex f with
   | some _=>0
   | none=>match env.fn f with
    | some _=>5
    | none=>4
  | .value _=>5
  | .invoke _ _=>5
  | _=>4
 | _=>4

def clash (a b:Nat):Bool:=
 match a,b with
 | 4,_=>true
 | _,4=>true
 | 3,1=>true
 | 1,3=>true
 | 3,3=>true
 | 3,5=>true
 | 5,3=>true
 | _,_=>false

/-- What an operation looks into at most: own blocks that are listed, or any. -/
def memN (p:Nat):List Nat→Bool
 | []=>false
 | q::l=>if q=p then true else memN p l
def inFoot:Option (List Nat)→Nat→Bool
 | none,_=>true
 | some l,q=>memN q l
def apartF:Option (List Nat)→Option (List Nat)→Bool
 | some a,some b=>a.all fun p=>!(memN p b)
 | _,_=>false
def footIt:It→Option (List Nat)
 | .ptr p _=>some [p]
 | .ep p _ _ _=>some [p]
 | .slc p _ _ _=>some [p]
 | .sv p _ _ _=>some [p]
 | .arr p _ _ _=>some [p]
 | .sl _ | .rp _ _ _ | .int _ _ | .bool _ | .lit _ | .ob _ | .ifc _ _ | .val _=>some []
 | .clo _ caps=>some (caps.map (·.1))
 | _=>none
def footJ:Option (List Nat)→Option (List Nat)→Option (List Nat)
 | some a,some b=>some (a++b)
 | _,_=>none
def footIts:List It→Option (List Nat)
 | []=>some []
 | i::l=>footJ (footIt i) (footIts l)
def footSV:SV→Option (List Nat)
 | .v (.c i)=>footIt i
 | .v (.a l)=>footIts l
 | _=>none
def footSVs:List SV→Option (List Nat)
 | []=>some []
 | a::l=>footJ (footSV a) (footSVs l)
def footOp (ρ:Operand→SV) (o:Oper):Option (List Nat):=
 match o.op with
 | .load _ a=>footSV (ρ a)
 | .store _ a _=>footSV (ρ a)
 | .indexAddr _ x _=>footSV (ρ x)
 | .slice _ x _ _ _=>footSV (ρ x)
 | .convert _ _ x=>footSV (ρ x)
 | .call c=>match c.callee with
  | .value f=>footJ (footSV (ρ f)) (footSVs (c.args.toList.map ρ))
  | .builtin .append=>footSVs (c.args.toList.map ρ)
  | .invoke r _=>footSVs (ρ r::c.args.toList.map ρ)
  | _=>none
 | _=>none

/-- A row that is made longer, and another operation. -/
def clash6 (b:Nat) (fx fo:Option (List Nat)):Bool:=
 match b with
 | 0=>false
 | 2=>false
 | 1=>!(apartF fx fo)
 | _=>true
def clashF (a b:Nat) (fx fo:Option (List Nat)):Bool:=
 Nat.beq a 4 || Nat.beq b 4 || (if Nat.beq a 6 then clash6 b fx fo else if Nat.beq b 6 then clash6 a fx fo else clash a b && !(apartF fx fo))

def conflict (env:Env) (ops:Array Oper) (fx fo:Option (List Nat)) (x y:Oper):Bool:=!(x.apart ops y) || clashF (mcls env x) (mcls env y) fx fo

def okWith (env:Env) (ops:Array Oper) (ft:List (Option (List Nat))) (fo:Option (List Nat)) (o:Oper) (anc:Nat):List Oper→Nat→Bool
 | [],_=>true
 | x::l,k=>(anc.testBit k || !(conflict env ops (ft.getD k none) fo x o)) && okWith env ops ft fo o anc l (k+1)

def edgesOk (i:Nat) (o:Oper):Bool:=o.after.toList.all fun e=>!(Region.binds .any e) || Nat.blt e.on i

def drawOk (env:Env) (ops:Array Oper) (anc:List Nat) (ft:List (Option (List Nat))):List Oper→Nat→Bool
 | [],_=>true
 | o::l,i=>edgesOk i o && Nat.beq (anc.getD i 0) (ancOf anc o) && okWith env ops ft (ft.getD i none) o (anc.getD i 0) (ops.toList.take i) 0 && drawOk env ops anc ft l (i+1)

/-- What an operation of such a region may look at: what was there, and what its own forerunners made. -/
def alOf (lo anc p:Nat) (q:Nat):Bool:=Nat.blt q p && (Nat.blt q lo || anc.testBit ((q-lo) / 16))

def alF (lo anc p:Nat) (f:Option (List Nat)) (q:Nat):Bool:=alOf lo anc p q && inFoot f q

/-- What the operations look into, run one by one. -/
def feetRun (env:Env) (dec:List (Nat×Bool)) (ops:List Oper) (anc:List Nat) (lo:Nat):List (Nat×Oper)→St→List (Option (List Nat))
 | [],_=>[]
 | (i,o)::l,σ=>footOp σ.ev o::(match opStep env (alOf lo (anc.getD i 0) (lo+16*i)) dec ops (lo+16*i) o σ with
  | some (_,σ)=>feetRun env dec ops anc lo l σ
  | none=>[])

/-- Whole, and of none of these blocks. -/
def okIt (ks:List Nat):It→Bool
 | .slc p _ _ _=>!(memN p ks)
 | .ptr p _=>!(memN p ks)
 | .ep p _ _ _=>!(memN p ks)
 | .mp p=>!(memN p ks)
 | .arr p _ _ _=>!(memN p ks)
 | .clo _ c=>c.all fun a=>!(memN a.1 ks)
 | .sv _ _ _ _ | .dead | .old _=>false
 | _=>true
def okV (ks:List Nat):V1→Bool
 | .c i=>okIt ks i
 | .a l=>l.all (okIt ks)
def okSV (ks:List Nat):SV→Bool
 | .v v=>okV ks v
 | .t l=>l.all (okV ks)
 | .top=>true
def okEn (ks:List Nat):En→Bool
 | .fl l=>l.all (okIt ks)
 | .sq _=>true
def viewE (al:Nat→Bool) (m:Nat→Option En):Nat→Option En:=fun q=>if al q then m q else none
/-- What goes over from slot to slot, or tells a length alone. -/
def natOp (o:Oper):Bool:=
 match o.op with
 | .move _ | .assign _=>true
 | .call c=>match c.callee with
  | .builtin .len=>true
  | _=>false
 | _=>false
/-- What an operation looks at and makes hangs on none of these blocks. -/
def cleanB (env:Env) (ks:List Nat) (al:Nat→Bool) (ft:Option (List Nat)) (p:Nat) (o:Oper) (σ:St):Bool:=
 natOp o || (o.op.operands.toList.all (fun x=>okSV ks (σ.ev x)) &&
  (match mcls env o,ft with
   | 1,some l=>l.all fun q=>!(al q) || (match σ.m q with | some e=>okEn ks e | none=>true)
   | 1,none=>false
   | _,_=>true) &&
  (match opRes env σ.ev (viewE al σ.m) p o with
   | some r=>okSV ks r.val && r.ups.all fun x=>okEn ks x.2
   | none=>true))
def isIn (i q:Nat):List (Nat×Nat)→Bool
 | []=>false
 | (j,r)::l=>if j=i∧r=q then true else isIn i q l
/-- The rows that may be made longer by operations that are not ordered with this one. -/
def ksOf (anc:List Nat) (i:Nat):List (Nat×Nat)→List Nat
 | []=>[]
 | (j,q)::l=>if (if j<i then (anc.getD i 0).testBit j else (anc.getD j 0).testBit i) then ksOf anc i l else q::ksOf anc i l
def stepOk (env:Env) (anc:List Nat) (kl:List (Nat×Nat)) (i:Nat) (al:Nat→Bool) (ft:Option (List Nat)) (p:Nat) (o:Oper) (σ:St):Bool:=
 if Nat.beq (mcls env o) 6 then
  match opRes env σ.ev (viewE al σ.m) p o with
  | some r=>match r.kill with
   | some q=>isIn i q kl
   | none=>true
  | none=>true
 else (ksOf anc i kl).isEmpty || Nat.ble 3 (mcls env o) || cleanB env (ksOf anc i kl) al ft p o σ

def drawRun (env:Env) (dec:List (Nat×Bool)) (ops:List Oper) (anc:List Nat) (ft:List (Option (List Nat))) (kl:List (Nat×Nat)) (lo:Nat):List (Nat×Oper)→St→Option (List Prop×St)
 | [],σ=>some ([],σ)
 | (i,o)::l,σ =>
  if stepOk env anc kl i (alF lo (anc.getD i 0) (lo+16*i) (ft.getD i none)) (ft.getD i none) (lo+16*i) o σ then
   match opStep env (alF lo (anc.getD i 0) (lo+16*i) (ft.getD i none)) dec ops (lo+16*i) o σ with
   | some (ob,σ)=>match drawRun env dec ops anc ft kl lo l σ with
    | some (ob',σ)=>some (ob++ob',σ)
    | none=>none
   | none=>none
  else none

/-- The rows that are made longer, with the operations that do so. -/
def killsRun (env:Env) (dec:List (Nat×Bool)) (ops:List Oper) (anc:List Nat) (lo:Nat):List (Nat×Oper)→St→List (Nat×Nat)
 | [],_=>[]
 | (i,o)::l,σ =>
  match opStep env (alOf lo (anc.getD i 0) (lo+16*i)) dec ops (lo+16*i) o σ with
  | some (_,σ')=>
   if Nat.beq (mcls env o) 6 then
    match opRes env σ.ev (viewE (alOf lo (anc.getD i 0) (lo+16*i)) σ.m) (lo+16*i) o with
    | some r=>match r.kill with
     | some q=>(i,q)::killsRun env dec ops anc lo l σ'
     | none=>killsRun env dec ops anc lo l σ'
    | none=>killsRun env dec ops anc lo l σ'
   else killsRun env dec ops anc lo l σ'
  | none=>[]
def any6 (env:Env) (ops:List Oper):Bool:=ops.any fun o=>Nat.beq (mcls env o) 6

def withIx:Nat→List Oper→List (Nat×Oper)
 | _,[]=>[]
 | i,o::l=>(i,o)::withIx (i+1) l

def feetFor (env:Env) (dec:List (Nat×Bool)) (ops:Array Oper) (anc:List Nat) (σ:St):List (Option (List Nat)):=
 if !(any6 env ops.toList) && drawOk env ops anc [] ops.toList 0 then [] else feetRun env dec ops.toList anc σ.nx (withIx 0 ops.toList) σ
def killsFor (env:Env) (dec:List (Nat×Bool)) (ops:Array Oper) (anc:List Nat) (σ:St):List (Nat×Nat):=
 if any6 env ops.toList then killsRun env dec ops.toList anc σ.nx (withIx 0 ops.toList) σ else []

/-! Code. -/
def argT:List SV→Nat→SV
 | [],_=>.top
 | a::_,0=>a
 | _::l,n+1=>argT l n

/-- The state in which a function begins. -/
def initSt (nt:Nat) (args:List SV):St:=⟨argT args,fun _=>none,nt,16,[]⟩

/-- What a function tells at its end. -/
def resSV (env:Env) (σ:St):List ResultVar→Option (List Prop×List V1)
 | []=>some ([],[])
 | .tmp t::l=>match σ.t t,resSV env σ l with
  | .v v,some (o,r)=>some (o,v::r)
  | _,_=>none
 | .cell a t::l=>match env.ty t with
  | some i=>match loadRes σ.m (σ.t a) i,resSV env σ l with
   | some (o,v),some (o',r)=>some (o++o',v::r)
   | _,_=>none
  | none=>none

def tupSV:List V1→SV
 | [v]=>.v v
 | l=>.t l

/-- A call that is stepped into. -/
def inlOf (env:Env) (σ:St) (o:Oper):Option (Func×Code×List SV):=
 match o.op with
 | .call c=>match c.callee with
  | .value f=>match σ.ev f with
   | .v (.c (.clo g caps))=>match env.fn g,env.mu g,env.inl g with
    | none,none,some fn=>match fn.body with
     | some b=>some (fn,b,c.args.toList.map σ.ev++caps.map fun x=>.v (.c (.ptr x.1 x.2)))
     | none=>none
    | _,_,_=>none
   | _=>none
  | _=>none
 | _=>none

def isWanted:Option Bool→Bool
 | some b=>b
 | none=>false

/-- Back from a call that was stepped into. -/
def frBack (env:Env) (σ:St) (fn:Func) (dst:Option Nat) (dec:List (Nat×Bool)):Option (List Prop×St):=
 match resSV env σ fn.results.toList,σ.fr with
 | some (ob,r),(tS,ntS)::fr=>
  match dst with
  | none=>some (ob,{ t:=tS,m:=σ.m,nt:=ntS,nx:=σ.nx,fr:=fr })
  | some d=>if d<ntS then
    match decideV dec d (tupSV r) with
    | (o',v)=>some (o' ++ ob,{ t:=setT tS d v,m:=σ.m,nt:=ntS,nx:=σ.nx,fr:=fr })
   else none
 | _,_=>none

inductive KI where
 | code (c:Code)
 | blk (id:Nat)
 | lp (c:Code)
 | ops (l:Array Oper) (i:Nat) (dec:List (Nat×Bool))
 | any (l:Array Oper) (c:Nat) (rem:List (Nat×Oper))
 | fr (fn:Func) (dst:Option Nat) (dec:List (Nat×Bool))

structure Cfg where
 k:List KI
 x:Exit
 σ:St

structure Out where
 obl:List Prop
 path:List Bool
 cfg:Cfg

/-- A call that is stepped into, by its name. -/
def isInl (env:Env) (o:Oper):Bool:=
 match o.op with
 | .call c=>match c.callee with
  | .value (.func g)=>match env.fn g,env.mu g,env.inl g,env.ex g with
   | none,none,some _,none=>true
   | _,_,_,_=>false
  | _=>false
 | _=>false
def callAt (env:Env):List Oper→Nat→Option Nat
 | [],_=>none
 | o::l,i=>if isInl env o then some i else callAt env l (i+1)
/-- From a place on all stands in order, behind all that is ahead. -/
def tailOk (anc:List Nat) (n c:Nat):Bool:=Nat.ble c n && (List.range n).all fun i=>Nat.blt i c || (List.range i).all fun j=>(anc.getD i 0).testBit j

def stepN (env:Env) (unroll:Bool) (k:List KI) (σ:St) (path:List Bool) (c:Code):Option Out:=
 match c with
 | .skip=>some ⟨[],path,⟨k,.normal,σ⟩⟩
 | .seq a b=>some ⟨[],path,⟨.code a :: .code b::k,.normal,σ⟩⟩
 | .block id c=>some ⟨[],path,⟨.code c :: .blk id::k,.normal,σ⟩⟩
 | .loop c=>if unroll then some ⟨[],path,⟨.code c :: .lp c::k,.normal,σ⟩⟩ else none
 | .exit id=>some ⟨[],path,⟨k,.exit id,σ⟩⟩
 | .ret=>some ⟨[],path,⟨k,.ret,σ⟩⟩
 | .cond o a b=>match σ.ev o with
  | .v (.c (.lit d))=>some ⟨[],path,⟨.code (if d then a else b)::k,.normal,σ⟩⟩
  | .v (.c (.bool b'))=>match path with
   | d::path=>some ⟨[b' = d],path,⟨.code (if d then a else b)::k,.normal,σ⟩⟩
   | []=>none
  | _=>none
 | .region _ ops draw=>
  match assignDec (deciders ops.toList ops.toList) path with
  | none=>none
  | some (dec,path)=>
   if draw then
    let anc:=ancs ops.toList []
    let ft:=feetFor env dec ops anc σ
    if drawOk env ops anc ft ops.toList 0 then
     match callAt env ops.toList 0 with
     | none=>match drawRun env dec ops.toList anc ft (killsFor env dec ops anc σ) σ.nx (withIx 0 ops.toList) σ with
      | some (ob,σ')=>some ⟨ob,path,⟨k,.normal,{ σ' with nx:=σ.nx+16*ops.size }⟩⟩
      | none=>none
     | some c=>if tailOk anc ops.size c then
       match drawRun env dec ops.toList anc ft (killsFor env dec ops anc σ) σ.nx (withIx 0 (ops.toList.take c)) σ with
       | some (ob,σ')=>some ⟨ob,path,⟨.ops ops c dec::k,.normal,{ σ' with nx:=σ.nx+16*ops.size }⟩⟩
       | none=>none
      else none
    else none
   else some ⟨[],path,⟨.ops ops 0 dec::k,.normal,σ⟩⟩
 | _=>none

/-- No two of these that are not ordered get into each other's way; one place is left out. -/
def okWithX (env:Env) (ops:Array Oper) (ex:Nat) (o:Oper) (anc:Nat):List Oper→Nat→Bool
 | [],_=>true
 | x::l,k=>(Nat.beq k ex || anc.testBit k || !(conflict env ops none none x o)) && okWithX env ops ex o anc l (k+1)
def drawOkX (env:Env) (ops:Array Oper) (anc:List Nat) (ex:Nat):List Oper→Nat→Bool
 | [],_=>true
 | o::l,i=>edgesOk i o && Nat.beq (anc.getD i 0) (ancOf anc o) && (Nat.beq i ex || okWithX env ops ex o (anc.getD i 0) (ops.toList.take i) 0) && drawOkX env ops anc ex l (i+1)
def remEnd (n:Nat):List (Nat×Oper)→Nat
 | []=>n
 | q::_=>q.1
/-- Those ahead of the next call that is stepped into, and those behind it. -/
def cutRem (env:Env):List (Nat×Oper)→List (Nat×Oper)×List (Nat×Oper)
 | []=>([],[])
 | q::l=>if isInl env q.2 then ([],q::l) else match cutRem env l with
  | (a,b)=>(q::a,b)

def step (env:Env) (unroll:Bool) (c:Cfg) (path:List Bool):Option Out:=
 match c.x,c.k with
 | .normal,.code c' :: k=>stepN env unroll k c.σ path c'
 | .normal,.blk _::k=>some ⟨[],path,⟨k,.normal,c.σ⟩⟩
 | .normal,.lp c' :: k=>if unroll then some ⟨[],path,⟨.code c' :: .lp c' :: k,.normal,c.σ⟩⟩ else none
 | .normal,.ops ops i dec::k=>
  match ops[i]? with
  | some o=>
   match inlOf env c.σ o,isWanted (guardOf ops.toList o c.σ.t) with
   | some (fn,b,args),true=>
    if Nat.ble args.length fn.ntmps then
     some ⟨[],path,⟨.code b :: .fr fn o.dst dec :: .ops ops (i+1) dec::k,.normal,{ t:=argT args,m:=c.σ.m,nt:=fn.ntmps,nx:=c.σ.nx,fr:=(c.σ.t,c.σ.nt)::c.σ.fr }⟩⟩
    else none
   | _,_=>
    match opStep env (fun q=>Nat.blt q c.σ.nx) dec ops.toList c.σ.nx o c.σ with
    | some (ob,σ)=>some ⟨ob,path,⟨.ops ops (i+1) dec::k,.normal,{ σ with nx:=c.σ.nx+16 }⟩⟩
    | none=>none
  | none=>some ⟨[],path,⟨k,.normal,c.σ⟩⟩
 | .normal,.any ops ex rem::k=>
  let anc:=ancs ops.toList []
  match cutRem env rem with
  | (pre,post)=>
   if drawOkX env ops anc ex ops.toList 0 && (tailOk anc ops.size (remEnd ops.size post) && (Nat.blt ex (remEnd ops.size post) && (pre.all fun q=>Nat.blt q.1 (remEnd ops.size post) && !(Nat.beq q.1 ex)) && Nat.beq post.length (ops.size-remEnd ops.size post))) then
    match drawRun env [] ops.toList anc [] [] c.σ.nx pre c.σ with
    | some (ob,σ')=>some ⟨ob,path,⟨.ops ops (remEnd ops.size post) []::k,.normal,{ σ' with nx:=c.σ.nx+16*ops.size }⟩⟩
    | none=>none
   else none
 | .normal,.fr fn dst dec::k=>match frBack env c.σ fn dst dec with
  | some (ob,σ)=>some ⟨ob,path,⟨k,.normal,σ⟩⟩
  | none=>none
 | .ret,.fr fn dst dec::k=>match frBack env c.σ fn dst dec with
  | some (ob,σ)=>some ⟨ob,path,⟨k,.normal,σ⟩⟩
  | none=>none
 | .exit id,.blk id' :: k=>if id' = id then some ⟨[],path,⟨k,.normal,c.σ⟩⟩ else some ⟨[],path,⟨k,.exit id,c.σ⟩⟩
 | .exit id,.code _::k=>some ⟨[],path,⟨k,.exit id,c.σ⟩⟩
 | .exit id,.lp _::k=>some ⟨[],path,⟨k,.exit id,c.σ⟩⟩
 | .ret,.code _::k=>some ⟨[],path,⟨k,.ret,c.σ⟩⟩
 | .ret,.blk _::k=>some ⟨[],path,⟨k,.ret,c.σ⟩⟩
 | .ret,.lp _::k=>some ⟨[],path,⟨k,.ret,c.σ⟩⟩
 | _,_=>none

/-- So many steps at most; it stops where no step is known. -/
def run (env:Env) (unroll:Bool):Nat→Cfg→List Bool→Out
 | 0,c,path=>⟨[],path,c⟩
 | n+1,c,path=>match step env unroll c path with
  | none=>⟨[],path,c⟩
  | some r=>match run env unroll n r.cfg r.path with
   | ⟨ob,path,c⟩=>⟨r.obl++ob,path,c⟩

/-- A function without loops, on its arguments. -/
def evFn (env:Env) (fn:Func) (n:Nat) (args:List SV) (path:List Bool):Option (List Prop×List Bool×SV×St):=
 match fn.body with
 | some c=>match run env true n ⟨[.code c],.normal,initSt fn.ntmps args⟩ path with
  | ⟨ob,path,⟨[],.ret,σ⟩⟩=>match resSV env σ fn.results.toList with
   | some (o,r)=>some (ob++o,path,tupSV r,σ)
   | none=>none
  | _=>none
 | none=>none

end

section

theorem catL_append {D:It→List Value→Prop}:∀{l l' : List It} {cs cs' : List Value},catL D l cs→catL D l' cs' → catL D (l++l') (cs++cs')
 | [],_,cs,cs',h,h' => by simp only[catL] at h;subst h;simpa using h'
 | i::l,_,_,cs',⟨c1,c2,e,h1,h2⟩,h' => ⟨c1,c2++cs',by rw[e,List.append_assoc],h1,catL_append h2 h'⟩

section
variable {x:Ctx} {d:Nat}

theorem takeIts_den:∀{n:Nat} {l r:List It} {cs:List Value},takeIts n l=some r→catL (den x d) l cs→catL (den x d) r (cs.take n)∧itsSize r=n
 | 0,l,r,cs,h,_=>by simp [takeIts] at h;subst h;exact ⟨by simp [catL],rfl⟩
 | n+1,[],r,cs,h,_=>by simp [takeIts] at h
 | n+1,i::l,r,cs,h,hc=>by
  obtain ⟨c1,c2,rfl,h1,h2⟩:=hc
  simp only[takeIts] at h
  split at h
  ·rename_i hle
   simp only[Option.map_eq_some_iff] at h
   obtain ⟨r',hr,rfl⟩:=h
   have:=takeIts_den hr h2
   have hl:=den_len h1
   refine ⟨⟨c1,c2.take (n+1-i.size),?_,h1,this.1⟩,?_⟩
   ·rw[List.take_append,hl,List.take_of_length_le (by omega)]
   ·simp only[itsSize,this.2];omega
  ·cases h
termination_by _ l=>l.length

theorem dropIts_den:∀{n:Nat} {l r:List It} {cs:List Value},dropIts n l=some r→catL (den x d) l cs→catL (den x d) r (cs.drop n)∧n≤cs.length
 | 0,l,r,cs,h,hc=>by simp [dropIts] at h;subst h;exact ⟨by simpa using hc,Nat.zero_le _⟩
 | n+1,[],r,cs,h,_=>by simp [dropIts] at h
 | n+1,i::l,r,cs,h,hc=>by
  obtain ⟨c1,c2,rfl,h1,h2⟩:=hc
  simp only[dropIts] at h
  split at h
  ·rename_i hle
   have hl:=den_len h1
   have:=dropIts_den h h2
   refine ⟨?_,?_⟩
   ·rw[List.drop_append,hl,List.drop_of_length_le (by omega)]
    simpa using this.1
   ·simp only[List.length_append,hl];omega
  ·cases h
termination_by _ l=>l.length

theorem cutIts_den {off n:Nat} {l r:List It} {cs:List Value} (h:cutIts off n l=some r) (hc:catL (den x d) l cs) :
  catL (den x d) r ((cs.drop off).take n)∧itsSize r=n:=by
 unfold cutIts at h
 split at h
 ·rename_i r' hr;exact takeIts_den h (dropIts_den hr hc).1
 ·cases h

theorem catL_ints (f:Nat→Int) (k:IntKind):∀(l:List Nat),catL (den x d) (l.map fun i=>It.int k (f i)) (l.map fun i=>Value.int k (f i))
 | []=>by simp [catL]
 | a::l=>⟨[.int k (f a)],l.map fun i=>Value.int k (f i),rfl,by cases d<;>simp [den],catL_ints f k l⟩

theorem obInts_den (o:Ob):catL (den x d) (obInts o) o.cells:=catL_ints (limb o.n) .u64 _

theorem explode_den:∀{l:List It} {cs:List Value},catL (den x d) l cs→catL (den x d) (explode l) cs
 | [],_,h=>h
 | i::l,cs,⟨c1,c2,e,h1,h2⟩=>by
  have h2' := explode_den h2
  cases i
  case ob o=>
   have hc:c1=o.cells:=by cases d<;>simpa [den] using h1
   subst hc
   rw[e]
   exact catL_append (obInts_den o) h2'
  all_goals exact ⟨c1,c2,e,h1,h2'⟩

theorem cutAny_den {off n:Nat} {l r:List It} {cs:List Value} (h:cutAny off n l=some r) (hc:catL (den x d) l cs) :
  catL (den x d) r ((cs.drop off).take n)∧itsSize r=n:=by
 unfold cutAny at h
 split at h
 ·rename_i r' hr;cases h;exact cutIts_den hr hc
 ·exact cutIts_den h (explode_den hc)

theorem pasteIts_den {off:Nat} {new l r:List It} {cs cn:List Value} (h:pasteIts off new l=some r) (hn:catL (den x d) new cn) (hc:catL (den x d) l cs) :
  catL (den x d) r (cs.take off++cn++cs.drop (off+cn.length))∧off+cn.length≤cs.length:=by
 unfold pasteIts at h
 split at h
 ·rename_i a b ha hb
  cases h
  have hl:=catL_len hn
  rw[←hl] at hb
  exact ⟨catL_append (catL_append (takeIts_den ha hc).1 hn) (dropIts_den hb hc).1,(dropIts_den hb hc).2⟩
 ·cases h

theorem pasteAny_den {off:Nat} {new l r:List It} {cs cn:List Value} (h:pasteAny off new l=some r) (hn:catL (den x d) new cn) (hc:catL (den x d) l cs) :
  catL (den x d) r (cs.take off++cn++cs.drop (off+cn.length))∧off+cn.length≤cs.length:=by
 unfold pasteAny at h
 split at h
 ·rename_i r' hr;cases h;exact pasteIts_den hr hn hc
 ·exact pasteIts_den h hn (explode_den hc)

theorem den_one:∀{d:Nat} {i:It} {vs:List Value},den x d i vs→∀v∈vs,v.oneCell' = true:=by
 intro d i vs h v hv
 cases i<;>cases d<;>simp only[den] at h
 all_goals first
  | (subst h;simp only[List.mem_singleton] at hv;subst hv;rfl)
  | (subst h;simp only[Ob.cells,List.mem_map] at hv;obtain ⟨_,_,rfl⟩:=hv;rfl)
  | (obtain ⟨h1,rfl⟩:=h;simp only[List.mem_singleton] at hv;subst hv;rfl)
  | (obtain ⟨rfl,h1⟩:=h;simp only[List.mem_singleton] at hv;subst hv;exact h1)
  | (obtain ⟨u,rfl,h1⟩:=h;simp only[List.mem_singleton] at hv;subst hv;exact h1)
  | (rcases h with ⟨_,_,_,rfl⟩ | ⟨_,_,_,_,rfl,_⟩<;>(simp only[List.mem_singleton] at hv;subst hv;rfl))
  | (rcases h with ⟨_,_,_,rfl⟩ | ⟨_,_,rfl,_⟩<;>(simp only[List.mem_singleton] at hv;subst hv;rfl))
  | (rcases h with ⟨_,_,rfl,_⟩ | ⟨_,_,_,rfl,_⟩<;>(simp only[List.mem_singleton] at hv;subst hv;rfl))
  | (obtain ⟨_,_,_,rfl,_⟩:=h;simp only[List.mem_singleton] at hv;subst hv;rfl)
  | exact h.elim

theorem catL_one:∀{l:List It} {cs:List Value},catL (den x d) l cs→∀v∈cs,v.oneCell' = true
 | [],_,h,v,hv=>by simp only[catL] at h;subst h;cases hv
 | _::_,_,⟨_,_,e,h1,h2⟩,v,hv=>by
  subst e
  rcases List.mem_append.1 hv with h | h
  ·exact den_one h1 v h
  ·exact catL_one h2 v h
end

/-- A value out of its cells. -/
def valOf (agg:Bool) (cs:List Value):Value:=if agg then .agg cs.toArray else cs.headD undef

theorem mkV_den {x:Ctx} {agg:Bool} {r:List It} {v:V1} {cs:List Value} (h:mkV agg r=some v) (hc:catL x.D r cs) (h1:agg=false→itsSize r=1):denV x v (valOf agg cs)∧v.its=r:=by
 unfold mkV at h
 split at h
 ·cases h;exact ⟨⟨cs,by simp [valOf],hc⟩,rfl⟩
 ·rename_i i
  cases h
  obtain ⟨c1,c2,rfl,h2,h3⟩:=hc
  simp only[catL] at h3
  subst h3
  have hs:i.size=1:=by simpa [itsSize] using h1 rfl
  have hl:=D_len h2
  rw[hs] at hl
  match c1,hl with
  | [u],_=>exact ⟨⟨hs,by simpa [valOf] using h2⟩,rfl⟩
 ·cases h

theorem denV_cells {x:Ctx} {v:V1} {u:Value} (h:denV x v u):∃cs,u.cells=cs.toArray∧catL x.D v.its cs:=by
 cases v with
 | c i=>
  refine ⟨[u],?_,[u],[],rfl,h.2,rfl⟩
  obtain ⟨_,d,h2⟩:=h
  have:=den_one h2 u (by simp)
  cases u<;>first | rfl | simp [Value.oneCell'] at this
 | a l=>obtain ⟨cs,rfl,hc⟩:=h;exact ⟨cs,rfl,hc⟩

/-! Types. -/
def strZ (s:ByteArray):Bool:=s.data.toList.isEmpty
theorem strZ_eq {s:ByteArray} (h:strZ s=true):s=ByteArray.empty:=by
 obtain ⟨d⟩:=s
 have:d = #[]:=by simpa [strZ] using h
 subst this;rfl
def zeroMatch:List It→List Value→Bool
 | [],[]=>true
 | .int k n::l,.int k' n' :: r=>IntKind.same k k' && n == n' && zeroMatch l r
 | .lit b::l,.bool b' :: r=>b == b' && zeroMatch l r
 | .bool b::l,.bool b' :: r=>b == b' && zeroMatch l r
 | .sl q::l,.slice none 0 0::r=>q.n == 0 && zeroMatch l r
 | .val (.slice none 0 0)::l,.slice none 0 0::r=>zeroMatch l r
 | .val (.map none)::l,.map none::r=>zeroMatch l r
 | .val (.string s)::l,.string t::r=>strZ s && strZ t && zeroMatch l r
 | .val (.pointer none)::l,.pointer none::r=>zeroMatch l r
 | .ob (.fr x)::l,.int .u64 a :: .int .u64 b :: .int .u64 c :: .int .u64 e::r=>x.val == 0 && a == 0 && b == 0 && c == 0 && e == 0 && zeroMatch l r
 | .ob (.s x)::l,.int .u64 a :: .int .u64 b :: .int .u64 c :: .int .u64 e::r=>x.val == 0 && a == 0 && b == 0 && c == 0 && e == 0 && zeroMatch l r
 | .ob (.fp x)::l,.int .u64 a :: .int .u64 b :: .int .u64 c :: .int .u64 e :: .int .u64 f :: .int .u64 g::r=>x.val == 0 && a == 0 && b == 0 && c == 0 && e == 0 && f == 0 && g == 0 && zeroMatch l r
 | .ob (.p x)::l,.int .u64 a :: .int .u64 b :: .int .u64 c :: .int .u64 e :: .int .u64 f :: .int .u64 g::r=>x.val == 0 && a == 0 && b == 0 && c == 0 && e == 0 && f == 0 && g == 0 && zeroMatch l r
 | _,_=>false

theorem limb_zero (i:Nat):limb 0 i=0:=by simp [limb]

theorem same_eq:∀{k k' : IntKind},IntKind.same k k' = true→k=k' := by
 intro k k' h;cases k<;>cases k'<;>first | rfl | simp [IntKind.same] at h

theorem zeroMatch_den {x:Ctx} {d:Nat}:∀{l:List It} {cs:List Value},zeroMatch l cs=true→catL (den x (d+1)) l cs:=by
  intro l cs h
  fun_induction zeroMatch l cs
  all_goals first
    | rfl
    | (simp only[Bool.and_eq_true,beq_iff_eq] at h
       rename_i ih
       try simp only[and_assoc] at h
       first
         | (obtain ⟨h1,h2,h3⟩:=h;cases same_eq h1;subst h2;exact ⟨[_],_,rfl,by simp [den],ih h3⟩)
         | (obtain ⟨h2,h2',h3⟩:=h;cases strZ_eq h2;cases strZ_eq h2';exact ⟨[_],_,rfl,by simp [den,Value.oneCell'],ih h3⟩)
         | (obtain ⟨h2,h3⟩:=h;subst h2;exact ⟨[_],_,rfl,by simp [den],ih h3⟩)
         | (obtain ⟨h2,h3⟩:=h;exact ⟨[_],_,rfl,by simp [den,h2],ih h3⟩)
         | (obtain ⟨h0,h1,h2,h3,h4,h5⟩:=h;subst h1 h2 h3 h4
            exact ⟨[_,_,_,_],_,rfl,by simp [den,Ob.cells,Ob.k,Ob.n,h0,limb_zero,List.range_succ],ih h5⟩)
         | (obtain ⟨h0,h1,h2,h3,h4,h5,h6,h7⟩:=h;subst h1 h2 h3 h4 h5 h6
            exact ⟨[_,_,_,_,_,_],_,rfl,by simp [den,Ob.cells,Ob.k,Ob.n,h0,limb_zero,List.range_succ],ih h7⟩))
    | (rename_i ih;exact ⟨[_],_,rfl,by simp [den,Value.oneCell'],ih h⟩)
    | (simp at h;done)

def aggOf:TypeDesc→Bool
 | .struct _ | .array _ _=>true
 | _=>false

def fieldsOk (P:Program):List Field→List (Nat×Nat×Bool)→Bool
 | [],[]=>true
 | f::l,(o,s,g)::r=>
  f.offset == o && (match P.info? f.type,P.underlying f.type with | some i,some d=>i.size == s && aggOf d == g && (g || s == 1) | _,_=>false) && fieldsOk P l r
 | _,_=>false

/-- The cells of a type that can be compared: true: a whole number, false: a truth. -/
def shFields (sh:Nat→Option (List Bool)) (P:Program):Nat→List Field→Option (List Bool)
  | _,[]=>some []
  | off,f::l=>
    match sh f.type,P.info? f.type with
    | some s, some i => if f.offset = off ∧ i.size = s.length ∧ f.name ≠ "_" then (shFields sh P (off + s.length) l).map (s ++ ·) else none
    | _,_=>none

def shOf (P:Program):Nat→Nat→Option (List Bool)
 | 0,_=>none
 | n+1,t=>match P.underlying t with
  | some .bool=>some [false]
  | some (.int _)=>some [true]
  | some (.array m e)=>match shOf P n e,P.info? e with
   | some s,some i=>if i.size=s.length then some (List.replicate m s).flatten else none
   | _,_=>none
  | some (.struct fs)=>if P.stoodInHeld t=false then shFields (shOf P n) P 0 fs.toList else none
  | _=>none

def tyCheck (P:Program) (t:Nat) (i:TyI):Bool:=
  match P.info? t,P.underlying t with
  | some inf,some d=>
    inf.size == i.cells && inf.bytes == i.bytes && aggOf d == i.agg && (i.agg || i.cells == 1) &&
    (match inf.zero with
     | some z=>zeroMatch i.zero z.cells.toList && z.cells.size == i.cells && (match i.esq with
       | some q=>(match zeros q 1 with | some z1=>zeroMatch (z1.get 0) z.cells.toList | none=>true)
       | none=>true)
     | none=>false) &&
    (match d with
     | .struct fs=>fieldsOk P fs.toList i.fields && i.arr.isNone && i.slc.isNone && i.kind.isNone
     | .array n e=>i.fields.isEmpty && (match i.arr with | some (n',e')=>n == n' && e == e' | none=>false) && i.slc.isNone && i.kind.isNone
     | .slice e=>i.fields.isEmpty && i.arr.isNone && (match i.slc with | some e' => e == e' | none=>false) && i.kind.isNone
     | .int k=>i.fields.isEmpty && i.arr.isNone && i.slc.isNone && (match i.kind with | some k' => IntKind.same k k' | none=>false)
     | _=>i.fields.isEmpty && i.arr.isNone && i.slc.isNone && i.kind.isNone) &&
    (i.eqk.isEmpty || (shOf P 8 t == some i.eqk && !(P.eqGuardType P.depth t))) &&
    (match i.esq with | some q=>q.es == i.cells && q.n == 0 | none=>true) &&
    ((i.agg || !(isNilP i.zero) || (match d with | .pointer _=>true | _=>false)) && (!i.isStr || (match d with | .string=>true | _=>false)))
  | _,_=>false

structure TyOk (P:Program) (t:Nat) (i:TyI):Prop where
 chk:tyCheck P t i=true

section
variable {P:Program} {t:Nat} {i:TyI}

theorem TyOk.parts (h:TyOk P t i):∃inf d,P.info? t=some inf∧P.underlying t=some d∧inf.size=i.cells∧inf.bytes=i.bytes∧aggOf d=i.agg∧(i.agg=false→i.cells=1) ∧
  (∃z,inf.zero=some z∧zeroMatch i.zero z.cells.toList=true∧z.cells.size=i.cells∧∀q z1,i.esq=some q→zeros q 1=some z1→zeroMatch (z1.get 0) z.cells.toList=true) ∧
  (∀fs,d = .struct fs→fieldsOk P fs.toList i.fields=true∧i.arr=none∧i.slc=none) ∧
  (∀n e,i.arr=some (n,e)→d = .array n e∧i.slc=none∧i.fields=[]) ∧
  (∀e,i.slc=some e→d = .slice e∧i.arr=none) ∧
  (∀k,i.kind=some k→d = .int k) ∧
  (i.eqk≠[]→shOf P 8 t=some i.eqk∧P.eqGuardType P.depth t=false) ∧
  (∀q,i.esq=some q→q.es=i.cells∧q.n=0) ∧
  (i.fields≠[]→∃fs,d = .struct fs):=by
 have hc:=h.chk
 unfold tyCheck at hc
 split at hc
 ·rename_i inf d hi hd
  simp only[Bool.and_eq_true,beq_iff_eq,Bool.or_eq_true,and_assoc] at hc
  obtain ⟨h1,h2,h3,h4,h5,h6,h7,h8,-⟩:=hc
  refine ⟨inf,d,hi,hd,h1,h2,h3,fun ha=>by simpa [ha] using h4,?_,?_,?_,?_,?_,?_,?_,?_⟩
  ·split at h5
   ·rename_i z hz
    simp only[Bool.and_eq_true,beq_iff_eq] at h5
    exact ⟨z,hz,h5.1.1,h5.1.2,fun q z1 hq hz1=>by simpa [hq,hz1] using h5.2⟩
   ·cases h5
  ·rintro fs rfl
   simp only[Bool.and_eq_true,and_assoc,Option.isNone_iff_eq_none] at h6
   exact ⟨h6.1,h6.2.1,h6.2.2.1⟩
  ·intro n e ha
   cases d<;>simp only[ha,Bool.and_eq_true,Option.isNone_iff_eq_none,beq_iff_eq,List.isEmpty_iff,and_assoc] at h6<;>first | (simp at h6;done) | skip
   obtain ⟨h61,rfl,rfl,h62,_⟩:=h6
   exact ⟨rfl,h62,h61⟩
  ·intro e ha
   cases d<;>simp only[ha,Bool.and_eq_true,Option.isNone_iff_eq_none,beq_iff_eq,List.isEmpty_iff,and_assoc] at h6<;>first | (simp at h6;done) | skip
   obtain ⟨h61,h62,rfl,_⟩:=h6
   exact ⟨rfl,h62⟩
  ·intro k ha
   cases d<;>simp only[ha,Bool.and_eq_true,Option.isNone_iff_eq_none,List.isEmpty_iff,and_assoc] at h6<;>first | (simp at h6;done) | skip
   rw[same_eq h6.2.2.2]
  ·intro he
   simpa [he] using h7
  ·intro q hq
   rw[hq] at h8
   simpa using h8
  ·intro hf
   cases d<;>simp only[Bool.and_eq_true,List.isEmpty_iff,and_assoc] at h6
   case struct fs=>exact ⟨fs,rfl⟩
   all_goals exact absurd h6.1 hf
 ·cases hc

theorem TyOk.nilp (h:TyOk P t i) (ha:i.agg=false) (hz:isNilP i.zero=true):∃e,P.underlying t=some (.pointer e):=by
 have hc:=h.chk
 unfold tyCheck at hc
 split at hc
 ·rename_i inf d hi hd
  rw[Bool.and_eq_true,ha,hz] at hc
  have h2:=(Bool.and_eq_true _ _ ▸ hc.2:_∧_).1
  cases d with
  | pointer e=>exact ⟨e,hd⟩
  | _=>cases h2
 ·cases hc

theorem TyOk.str (h:TyOk P t i) (hs:i.isStr=true):P.underlying t=some .string:=by
 have hc:=h.chk
 unfold tyCheck at hc
 split at hc
 ·rename_i inf d hi hd
  rw[Bool.and_eq_true,hs] at hc
  have h2:=(Bool.and_eq_true _ _ ▸ hc.2:_∧_).2
  cases d with
  | string=>exact hd
  | _=>cases h2
 ·cases hc

theorem fieldsOk_get:∀{l:List Field} {r:List (Nat×Nat×Bool)},fieldsOk P l r=true→∀(n o s:Nat) (g:Bool),r[n]? = some (o,s,g) →
  ∃f:Field,l[n]? = some f∧f.offset=o∧(∃inf d,P.info? f.type=some inf∧P.underlying f.type=some d∧inf.size=s∧aggOf d=g∧(g=false→s=1))
 | [],[],_,n,o,s,g,h=>by simp at h
 | [],_::_,hf,_,_,_,_,_=>by simp [fieldsOk] at hf
 | _::_,[],hf,_,_,_,_,_=>by simp [fieldsOk] at hf
 | f::l,(o',s',g')::r,hf,n,o,s,g,h=>by
  simp only[fieldsOk,Bool.and_eq_true,beq_iff_eq] at hf
  obtain ⟨⟨h1,h2⟩,h3⟩:=hf
  cases n with
  | zero=>
   simp only[List.getElem?_cons_zero,Option.some.injEq,Prod.mk.injEq] at h
   obtain ⟨rfl,rfl,rfl⟩:=h
   refine ⟨f,by simp,h1,?_⟩
   split at h2
   ·rename_i inf d hi hd
    simp only[Bool.and_eq_true,beq_iff_eq,Bool.or_eq_true] at h2
    exact ⟨inf,d,hi,hd,h2.1.1,h2.1.2,fun hg=>by simpa [hg] using h2.2⟩
   ·cases h2
  | succ n=>
   simp only[List.getElem?_cons_succ] at h ⊢
   exact fieldsOk_get h3 n o s g h

theorem TyOk.sizeOf (h:TyOk P t i) (w:World):(Go.sizeOf t).run P w = .ok i.cells w:=by
 obtain ⟨inf,d,hi,_,hs,_⟩:=h.parts
 simp [Go.sizeOf,typeInfo,hi,hs]

theorem run_isAgg {d:TypeDesc} (hd:P.underlying t=some d) (w:World):(Go.isAgg t).run P w = .ok (aggOf d) w:=by
 unfold Go.isAgg
 rw[Sem.run_bind,run_underlying hd w]
 cases d<;>rfl

theorem run_loadVar' {inf:TypeInfo} {d:TypeDesc} (hi:P.info? t=some inf) (hd:P.underlying t=some d) {w:World} {b o:Nat} {cs:List Value} (hl:cs.length=inf.size)
  (h1:aggOf d=false→inf.size=1) (hc:∀(j:Nat) (v:Value),cs[j]? = some v→w.cell? ⟨b,o+j,none⟩=some v) :
  (Go.loadVar t ⟨b,o,none⟩).run P w = .ok (valOf (aggOf d) cs) w:=by
 simp only[Go.loadVar,Sem.run_bind,run_isAgg hd,Result.andThen_ok]
 cases ha:aggOf d with
 | true=>
  have hld:(loadCells ⟨b,o,none⟩ cs.length).run P w = .ok cs.toArray w:=
   run_loadCells_list (P:=P) w ⟨b,o,none⟩ cs (fun j v hv=>by rw[Addr.add_lit];exact hc j v hv)
  simp [Go.sizeOf,typeInfo,hi,←hl,hld,valOf]
 | false=>
  have h1' := h1 ha
  rw[h1'] at hl
  match cs,hl with
  | [v],_=>
   have:=hc 0 v rfl
   simp only[Nat.add_zero] at this
   simp [valOf,this]

theorem run_loadVar (h:TyOk P t i) {w:World} {b o:Nat} {cs:List Value} (hl:cs.length=i.cells)
  (hc:∀(j:Nat) (v:Value),cs[j]? = some v→w.cell? ⟨b,o+j,none⟩=some v) :
  (Go.loadVar t ⟨b,o,none⟩).run P w = .ok (valOf i.agg cs) w:=by
 obtain ⟨inf,d,hi,hd,hs,_,ha,h1,_⟩:=h.parts
 rw[←ha]
 exact run_loadVar' hi hd (hl.trans hs.symm) (fun e=>by rw[hs];exact h1 (ha ▸ e)) hc

theorem run_storeVar (h:TyOk P t i) {w:World} {b o:Nat} {u:Value} {cs:List Value} (hu:u.cells=cs.toArray) (hl:cs.length=i.cells) (h1:∀v∈cs,v.oneCell' = true)
    {cur:Array Value} {ty:TypeId} (hb:w.heap[b]? = some (.cells cur ty (0,0))) (hfit:o+cs.length≤cur.size) :
    (Go.storeVar t ⟨b,o,none⟩ u).run P w = .ok () (w.setRow b (cur.toList.take o++cs++cur.toList.drop (o+cs.length)).toArray):=by
  have hst:=run_storeCells_at P b o ty cs 0 cur w hb (by simpa using hfit) h1
  simp only[Nat.add_zero] at hst
  simp [Go.storeVar,hu,h.sizeOf,hl,hst]
end

end

section

structure Mem (x:Ctx) (m:Nat→Option En):Prop where
 dom:∀p,m p=none↔x.k p = .no
 fl:∀p l,m p=some (.fl l)→x.k p = .real
 nil:∀p q,m p=some (.sq q)→x.k p = .nil→q.n=0
 ent:∀p e,m p=some e→x.k p = .real→∃cs ty,x.w.heap[x.β p]? = some (.cells cs ty (0,0))∧denEn x e cs.toList
 inj:∀p q,x.k p = .real→x.k q = .real→x.β p=x.β q→p=q
 own:∀p,x.k p = .real→¬x.F (x.β p)
 fw:∀b,x.F b→b<x.w.heap.size

/-- A position is forgotten. -/
def kx (x:Ctx):Option Nat→Ctx
 | none=>x
 | some p=>{ x with k:=fun q=>if q=p then .no else x.k q }

structure Tr (x:Ctx) (kill:Option Nat) (y:Ctx) (m' : Nat→Option En):Prop where
 ext:Ext (kx x kill) y
 mem:Mem y m'
 os:y.w.os=x.w.os
 tape:y.w.tape=x.w.tape
 output:y.w.output=x.w.output
 blk:∀b,b<x.w.heap.size→(∀p,x.k p = .real→x.β p≠b)→y.w.heap[b]? = x.w.heap[b]?
 fresh:∀p,y.k p = .real→(x.k p = .real∧y.β p=x.β p)∨x.w.heap.size≤y.β p
 fnew:∀b,y.F b→x.F b∨x.w.heap.size≤b

theorem Mem.lt {x:Ctx} {m:Nat→Option En} (h:Mem x m) {p:Nat} (hp:x.k p = .real):x.β p<x.w.heap.size:=by
 cases hm:m p with
 | none=>rw[(h.dom p).1 hm] at hp;cases hp
 | some e=>obtain ⟨cs,ty,hc,_⟩:=h.ent p e hm hp;exact (Array.getElem?_eq_some_iff.1 hc).1

theorem Tr.refl {x:Ctx} {m:Nat→Option En} (h:Mem x m):Tr x none x m:=
 ⟨Ext.refl x,h,rfl,rfl,rfl,fun _ _ _=>rfl,fun _ hp=>.inl ⟨hp,rfl⟩,fun _ hb=>.inl hb⟩

theorem setsM_one (m:Nat→Option En) (p:Nat) (e:En):setsM m [(p,e)]=fun q=>if q=p then some e else m q:=rfl

/-- A world that only grew. -/
theorem heap_alloc_le (w:World) (o:Obj) {b:Nat} (h:b<w.heap.size):(w.alloc o).heap[b]? = w.heap[b]? := by
 show (w.heap.push o)[b]? = _
 rw[Array.getElem?_push,if_neg (by omega)]

def allocCtx (x:Ctx) (p:Nat) (o:Obj):Ctx:=
  { w:=x.w.alloc o,F:=x.F,k:=fun q=>if q=p then .real else x.k q,β:=fun q=>if q=p then x.w.heap.size else x.β q }

theorem ext_alloc {x:Ctx} {m:Nat→Option En} (h:Mem x m) {p:Nat} (hp:m p=none) (o:Obj):Ext x (allocCtx x p o) where
 size:=by simp [allocCtx]
 ro b hb:=⟨hb,heap_alloc_le _ _ (h.fw b hb)⟩
 k q hq:=by
  have:q≠p:=fun e=>hq (e ▸ (h.dom p).1 hp)
  simp [allocCtx,this]
 β q hq:=by
  have:q≠p:=fun e=>by rw[e,(h.dom p).1 hp] at hq;cases hq
  simp [allocCtx,this]
 own q hq cs ty hc:=⟨cs,(heap_alloc_le _ _ (h.lt hq)).trans hc,rfl⟩

theorem tr_alloc {x:Ctx} {m:Nat→Option En} (h:Mem x m) {p:Nat} (hp:m p=none) (cells:Array Value) (ty:TypeId) (e:En) (hd:denEn x e cells.toList) :
  Tr x none (allocCtx x p (.cells cells ty)) (setsM m [(p,e)]):=by
 have hk:=(h.dom p).1 hp
 have hx:=ext_alloc h hp (.cells cells ty)
 refine ⟨hx,?_,rfl,rfl,rfl,fun b hb _=>heap_alloc_le _ _ hb,fun q hq=>?_,fun b hb=>.inl hb⟩
 ·rw[setsM_one]
  refine ⟨fun q=>?_,fun q l hq=>?_,fun q s hq hn=>?_,fun q e' hq hr=>?_,fun q q' hq hq' he=>?_,fun q hq=>?_,fun b hb=>?_⟩
  ·by_cases hqp:q=p
   ·simp [hqp,allocCtx]
   ·simp only[allocCtx,hqp,if_false];exact h.dom q
  ·by_cases hqp:q=p
   ·simp [hqp,allocCtx]
   ·simp only[allocCtx,hqp,if_false] at hq ⊢;exact h.fl q l hq
  ·by_cases hqp:q=p
   ·simp [hqp,allocCtx] at hn
   ·simp only[allocCtx,hqp,if_false] at hq hn;exact h.nil q s hq hn
  ·by_cases hqp:q=p
   ·simp only[hqp,if_true,Option.some.injEq] at hq
    subst hq
    refine ⟨cells,ty,?_,denEn_ext hx hd⟩
    simp only[allocCtx,hqp,if_true]
    exact heap_alloc_new x.w _
   ·simp only[hqp,if_false] at hq
    simp only[allocCtx,hqp,if_false] at hr
    obtain ⟨cs,ty',hc,hd'⟩:=h.ent q e' hq hr
    refine ⟨cs,ty',?_,denEn_ext hx hd'⟩
    simp only[allocCtx,hqp,if_false]
    exact (heap_alloc_le _ _ (h.lt hr)).trans hc
  ·by_cases hqp:q=p<;>by_cases hqp' : q' = p
   ·rw[hqp,hqp']
   ·simp only[allocCtx,hqp,hqp',if_true,if_false] at he hq'
    have:=h.lt hq';omega
   ·simp only[allocCtx,hqp,hqp',if_true,if_false] at he hq
    have:=h.lt hq;omega
   ·simp only[allocCtx,hqp,hqp',if_false] at he hq hq'
    exact h.inj q q' hq hq' he
  ·by_cases hqp:q=p
   ·simp only[allocCtx,hqp,if_true]
    intro hF;have:=h.fw _ hF;omega
   ·simp only[allocCtx,hqp,if_false] at hq ⊢;exact h.own q hq
  ·have:=h.fw b hb
   simp [allocCtx];omega
 ·by_cases hqp:q=p
  ·right;simp [allocCtx,hqp]
  ·left;simp only[allocCtx,hqp,if_false] at hq ⊢;exact ⟨hq,trivial⟩

def rowCtx (x:Ctx) (p:Nat) (cs:Array Value):Ctx:={ x with w:=x.w.setRow (x.β p) cs }

theorem ext_row {x:Ctx} {m:Nat→Option En} (h:Mem x m) {p:Nat} (hp:x.k p = .real) {cur cs:Array Value} {ty:TypeId} (hc:x.w.heap[x.β p]? = some (.cells cur ty (0,0)))
  (hs:cs.size=cur.size):Ext x (rowCtx x p cs) where
 size:=by simp [rowCtx]
 ro b hb:=⟨hb,setRow_other _ _ _ _ (fun e=>h.own p hp (e ▸ hb))⟩
 k q _:=rfl
 β q _:=rfl
 own q hq cs' ty' hc' := by
  by_cases hqp:q=p
  ·subst hqp
   rw[hc] at hc';cases hc'
   exact ⟨cs,setRow_heap _ _ _ _ _ _ hc,hs⟩
  ·have:x.β q≠x.β p:=fun e=>hqp (h.inj q p hq hp e)
   exact ⟨cs',(setRow_other _ _ _ _ this).trans hc',rfl⟩

theorem tr_row {x:Ctx} {m:Nat→Option En} (h:Mem x m) {p:Nat} (hp:x.k p = .real) {cur cs:Array Value} {ty:TypeId} (hc:x.w.heap[x.β p]? = some (.cells cur ty (0,0)))
  (hs:cs.size=cur.size) (e:En) (hd:denEn x e cs.toList):Tr x none (rowCtx x p cs) (setsM m [(p,e)]):=by
 have hx:=ext_row h hp hc hs
 have hmp:m p≠none:=fun e=>by rw[(h.dom p).1 e] at hp;cases hp
 refine ⟨hx,?_,rfl,rfl,rfl,fun b _ hq=>setRow_other _ _ _ _ (fun e=>hq p hp e.symm),fun q hq=>.inl ⟨hq,rfl⟩,fun b hb=>.inl hb⟩
 rw[setsM_one]
 refine ⟨fun q=>?_,fun q l hq=>?_,fun q s hq hn=>?_,fun q e' hq hr=>?_,fun q q' hq hq' he=>h.inj q q' hq hq' he,fun q hq=>h.own q hq,fun b hb=>?_⟩
 ·by_cases hqp:q=p
  ·subst hqp;simp [rowCtx,hp]
  ·simp only[hqp,if_false];exact h.dom q
 ·by_cases hqp:q=p
  ·subst hqp;exact hp
  ·simp only[hqp,if_false] at hq;exact h.fl q l hq
 ·by_cases hqp:q=p
  ·subst hqp;rw[show (rowCtx x q cs).k q=x.k q from rfl,hp] at hn;cases hn
  ·simp only[hqp,if_false] at hq;exact h.nil q s hq hn
 ·by_cases hqp:q=p
  ·subst hqp
   simp only[if_true,Option.some.injEq] at hq
   subst hq
   exact ⟨cs,ty,setRow_heap _ _ _ _ _ _ hc,denEn_ext hx hd⟩
  ·simp only[hqp,if_false] at hq
   obtain ⟨cs',ty',hc',hd'⟩:=h.ent q e' hq hr
   have:x.β q≠x.β p:=fun e=>hqp (h.inj q p hr hp e)
   exact ⟨cs',ty',(setRow_other _ _ _ _ this).trans hc',denEn_ext hx hd'⟩
 ·have:=h.fw b hb
  simp [rowCtx];exact this

/-! Forgetting a position. -/
theorem scrub_den {x:Ctx} (p:Nat):∀(d:Nat) (i:It) (vs:List Value),den x d i vs→den (kx x (some p)) d (scrubIt p i) vs:=by
  have hext:∀d i vs,(∀q off,i ≠ .ptr q off)→(∀q es j off,i ≠ .ep q es j off)→(∀q off len es,i ≠ .slc q off len es)→(∀f c,i ≠ .clo f c)→(∀q,i ≠ .mp q)→(∀q a b c,i ≠ .sv q a b c)→(∀q a b c,i ≠ .arr q a b c)→den x d i vs→den (kx x (some p)) d i vs:=by
    intro d
    induction d with
    | zero=>intro i vs h1 h2 h3 h4 h5 h6 h7 h;cases i<;>simp only[den] at h ⊢<;>first | exact h | exact absurd rfl (h1 _ _) | exact absurd rfl (h2 _ _ _ _) | exact absurd rfl (h3 _ _ _ _) | exact absurd rfl (h4 _ _) | exact absurd rfl (h5 _) | exact absurd rfl (h6 _ _ _ _) | exact absurd rfl (h7 _ _ _ _)
    | succ d ih=>
      intro i vs h1 h2 h3 h4 h5 h6 h7 h
      have hget:∀(q:Sq) (j:Nat) (cs:List Value),catL (den x d) (q.get j) cs→catL (den (kx x (some p)) d) (q.get j) cs:=by
        intro q j cs hc
        have:∀(l:List It) (cs:List Value),(∀i∈l,(∀q off,i ≠ .ptr q off)∧(∀q es j off,i ≠ .ep q es j off)∧(∀q off len es,i ≠ .slc q off len es)∧(∀f c,i ≠ .clo f c)∧(∀q,i ≠ .mp q)∧(∀q a b c,i ≠ .sv q a b c)∧(∀q a b c,i ≠ .arr q a b c))→catL (den x d) l cs→catL (den (kx x (some p)) d) l cs:=by
          intro l
          induction l with
          | nil=>intro cs _ h;exact h
          | cons a l ihl=>
            intro cs hl ⟨c1,c2,e,g1,g2⟩
            obtain ⟨k1,k2,k3,k4,k5,k6,k7⟩:=hl a (by simp)
            exact ⟨c1,c2,e,ih a c1 k1 k2 k3 k4 k5 k6 k7 g1,ihl c2 (fun i hi=>hl i (by simp [hi])) g2⟩
        refine this _ _ ?_ hc
        intro i hi
        have flat:∀(l:List (Fp×Fp×Fp)) (n k:Nat),i∈flatPt l k n→∃o,i = .ob o:=by
          intro l n
          induction n with
          | zero=>intro k hk;simp [flatPt] at hk
          | succ n ihn=>
            intro k hk
            simp only[flatPt,List.mem_cons] at hk
            rcases hk with rfl | rfl | rfl | hk
            · exact ⟨_,rfl⟩
            · exact ⟨_,rfl⟩
            · exact ⟨_,rfl⟩
            · exact ihn _ hk
        cases q<;>simp only[Sq.get,GateD.its,OpD.its,G1D.its,G2D.its,ptIts,pt2Its,List.mem_cons,List.not_mem_nil,or_false] at hi
        case ptt l=>obtain ⟨o,rfl⟩:=flat _ _ _ hi;simp
        all_goals first
          | (subst hi;simp;done)
          | (rcases hi with rfl | rfl<;>(simp;done))
          | (rcases hi with rfl | rfl | rfl<;>(simp;done))
          | (rcases hi with rfl | rfl | rfl | rfl | rfl<;>(simp;done))
          | (rcases hi with rfl | rfl | rfl | rfl | rfl | rfl<;>(simp;done))
          | (rcases hi with rfl | rfl | rfl | rfl | rfl | rfl | rfl | rfl<;>(simp;done))
      cases i<;>simp only[den] at h ⊢
      all_goals first
        | exact h
        | exact absurd rfl (h1 _ _)
        | exact absurd rfl (h2 _ _ _ _)
        | exact absurd rfl (h3 _ _ _ _)
        | exact absurd rfl (h4 _ _)
        | exact absurd rfl (h5 _)
        | exact absurd rfl (h6 _ _ _ _) | exact absurd rfl (h7 _ _ _ _)
        | (rcases h with h | ⟨b,o,cap,e,hc,hm,hr⟩
           · exact .inl h
           · refine .inr ⟨b,o,cap,e,hc,hm,fun j hj=>?_⟩
             obtain ⟨cs,g1,g2⟩:=hr j hj
             exact ⟨cs,hget _ _ _ g1,g2⟩)
        | (obtain ⟨b,o,cs,e,hi,g1,g2⟩:=h
           exact ⟨b,o,cs,e,hi,hget _ _ _ g1,g2⟩)
  intro d i vs h
  have dead:∀(v:Value),vs=[v]→v.oneCell' = true→den (kx x (some p)) d .dead vs:=by
    intro v e h1;cases d<;>exact ⟨v,e,h1⟩
  cases i
  case sv q a b c=>
    simp only[scrubIt]
    cases d<;>simp only[den] at h <;>
    · rcases h with ⟨_,_,_,e⟩ | ⟨_,_,e,_⟩<;>exact dead _ e rfl
  case slc q off len es=>
    by_cases hq:q=p
    · subst hq
      simp only[scrubIt,if_true]
      cases d<;>simp only[den] at h ⊢ <;>
      · rcases h with ⟨_,_,rfl,e⟩ | ⟨_,_,_,_,e,_⟩<;>exact ⟨_,_,e⟩
    · simp only[scrubIt,hq,if_false]
      cases d<;>simp only[den,kx,hq,if_false] at h ⊢<;>exact h
  case ptr q off=>
    by_cases hq:q=p
    · subst hq;simp only[scrubIt,if_true]
      cases d<;>simp only[den] at h<;>exact dead _ h.2 rfl
    · simp only[scrubIt,hq,if_false]
      cases d<;>simp only[den,kx,hq,if_false] at h ⊢<;>exact h
  case ep q es j off=>
    by_cases hq:q=p
    · subst hq;simp only[scrubIt,if_true]
      cases d<;>simp only[den] at h<;>exact dead _ h.2 rfl
    · simp only[scrubIt,hq,if_false]
      cases d<;>simp only[den,kx,hq,if_false] at h ⊢<;>exact h
  case mp q=>
    by_cases hq:q=p
    · subst hq;simp only[scrubIt,if_true]
      cases d<;>simp only[den] at h<;>exact dead _ h.2 rfl
    · simp only[scrubIt,hq,if_false]
      cases d<;>simp only[den,kx,hq,if_false] at h ⊢<;>exact h
  case arr q off n es=>
    by_cases hq:q=p
    · subst hq;simp only[scrubIt,if_true]
      cases d<;>simp only[den] at h<;>exact dead _ h.2 rfl
    · simp only[scrubIt,hq,if_false]
      cases d<;>simp only[den,kx,hq,if_false] at h ⊢<;>exact h
  case clo f c=>
    by_cases hq:c.any (fun a=>a.1 == p)=true
    · simp only[scrubIt,hq,if_true]
      cases d<;>simp only[den] at h<;>exact dead _ h.2 rfl
    · simp only[scrubIt,hq]
      have hne:∀a∈c,a.1≠p:=by
        intro a ha e
        exact hq (List.any_eq_true.2 ⟨a,ha,by simp [e]⟩)
      cases d<;>simp only[den,kx] at h ⊢<;>exact ⟨fun a ha=>by simp only[hne a ha,if_false];exact h.1 a ha,h.2⟩
  all_goals exact hext d _ vs (by simp [scrubIt]) (by simp [scrubIt]) (by simp [scrubIt]) (by simp [scrubIt]) (by simp [scrubIt]) (by simp [scrubIt]) (by simp [scrubIt]) h

theorem scrub_cat {x:Ctx} (p d:Nat):∀{l:List It} {cs:List Value},catL (den x d) l cs→catL (den (kx x (some p)) d) (l.map (scrubIt p)) cs
 | [],_,h=>h
 | _::_,_,⟨c1,c2,e,h1,h2⟩=>⟨c1,c2,e,scrub_den p d _ _ h1,scrub_cat p d h2⟩

theorem scrub_size (p:Nat) (i:It) (h:i.size=1):(scrubIt p i).size=1:=by
 cases i<;>simp only[scrubIt]<;>first | exact h | (split<;>rfl)

theorem scrub_V {x:Ctx} (p:Nat) {a:V1} {v:Value} (h:denV x a v):denV (kx x (some p)) (scrubV p a) v:=by
 cases a with
 | c i=>obtain ⟨h1,d,h2⟩:=h;exact ⟨scrub_size p i h1,d,scrub_den p _ _ _ h2⟩
 | a l=>obtain ⟨cs,e,hc⟩:=h;obtain ⟨d,hc⟩:=catL_ex hc;exact ⟨cs,e,catL_D (scrub_cat p d hc)⟩

theorem scrub_S {x:Ctx} (p:Nat) {s:SV} {v:Value} (h:denS x s v):denS (kx x (some p)) (scrubS p s) v:=by
 cases s with
 | v a=>exact scrub_V p h
 | t l=>
  obtain ⟨vs,e,hc⟩:=h
  refine ⟨vs,e,?_⟩
  clear e
  induction hc with
  | nil=>exact .nil
  | cons h1 _ ih=>exact .cons (scrub_V p h1) ih
 | top=>trivial

/-! The state of a call. -/
/-- Which old blocks stay as they are; what position 0 is, if it is not the call's own. -/
structure Kp where
 at_:Nat→Prop
 pin:Option (Kd×Nat×Nat×Nat)
 ds:List Deferred:=[]
def kAll:Kp:=⟨fun _=>True,none,[]⟩
structure Base (w0:World) (F0:Nat→Prop) (K:Kp) (x:Ctx):Prop where
 f0:∀b,F0 b→x.F b
 fn:∀b,x.F b→F0 b∨w0.heap.size≤b
 size:w0.heap.size≤x.w.heap.size
 keep:∀b,b<w0.heap.size→K.at_ b→x.w.heap[b]? = w0.heap[b]?
 ownK:∀p,x.k p = .real→x.β p<w0.heap.size→¬K.at_ (x.β p)
 os:x.w.os=w0.os
 tape:x.w.tape=w0.tape
 output:x.w.output=w0.output
 pin:∀q,K.pin=some q→q.1 ≠ .no∧x.k 0=q.1∧(q.1 = .real→x.β 0=q.2.1∧∃cs,x.w.heap[x.β 0]? = some (.cells cs q.2.2.1 (0,0))∧cs.size=q.2.2.2)

/-- Callers that wait: what their slots hold. -/
def dsOf (ds:List Deferred):List ((Nat→SV)×Nat)→List Deferred
 | []=>ds
 | _::_=>[]
theorem dsOf_nil (l:List ((Nat→SV)×Nat)):dsOf [] l=[]:=by cases l<;>rfl
inductive Frs (x:Ctx) (ds:List Deferred):List ((Nat→SV)×Nat)→List Act→Prop
 | nil:Frs x ds [] []
 | cons {tS:Nat→SV} {nt:Nat} {l:List ((Nat→SV)×Nat)} {a:Act} {as:List Act}:a.defers=dsOf ds l→a.tmps.size=nt→(∀t,denS x (tS t) (a.tmps.getD t undef))→Frs x ds l as→Frs x ds ((tS,nt)::l) (a::as)

theorem Frs.ext {x y:Ctx} {ds:List Deferred} (h:Ext x y) {l:List ((Nat→SV)×Nat)} {as:List Act} (hf:Frs x ds l as):Frs y ds l as:=by
 induction hf with
 | nil=>exact .nil
 | cons h1 h2 h3 _ ih=>exact .cons h1 h2 (fun t=>denS_ext h (h3 t)) ih

theorem dsOf_kill (ds:List Deferred) (l:List ((Nat→SV)×Nat)) (p:Option Nat):dsOf ds (killF l p)=dsOf ds l:=by
 cases p with
 | none=>rfl
 | some p=>cases l<;>rfl

theorem Frs.kill {x:Ctx} {ds:List Deferred} (p:Option Nat) {l:List ((Nat→SV)×Nat)} {as:List Act} (hf:Frs x ds l as):Frs (kx x p) ds (killF l p) as:=by
 cases p with
 | none=>exact hf
 | some p=>
  induction hf with
  | nil=>exact .nil
  | cons h1 h2 h3 _ ih=>exact .cons (h1.trans (dsOf_kill ds _ (some p)).symm) h2 (fun t=>scrub_S p (h3 t)) ih

structure Sim (w0:World) (F0:Nat→Prop) (K:Kp) (as:List Act) (σ:St) (x:Ctx) (a:Act):Prop where
 defers:a.defers=dsOf K.ds σ.fr
 nt:a.tmps.size=σ.nt
 t:∀t,denS x (σ.t t) (a.tmps.getD t undef)
 mem:Mem x σ.m
 base:Base w0 F0 K x
 frs:Frs x K.ds σ.fr as

theorem Base.tr {w0:World} {F0:Nat→Prop} {K:Kp} {x y:Ctx} {kill:Option Nat} {m' : Nat→Option En} (h:Base w0 F0 K x) (ht:Tr x kill y m') (hkill:killOk kill=true):Base w0 F0 K y where
 f0 b hb:=by
  have:=(ht.ext.ro b (by cases kill<;>exact h.f0 b hb)).1
  exact this
 fn b hb:=by
  rcases ht.fnew b hb with h1 | h1
  ·exact h.fn b h1
  ·right;exact Nat.le_trans h.size h1
 size:=Nat.le_trans h.size (by have:=ht.ext.size;cases kill<;>exact this)
 keep b hb hk:=by
  rw[←h.keep b hb hk]
  exact ht.blk b (Nat.lt_of_lt_of_le hb h.size) (fun p hp e=>h.ownK p hp (e ▸ hb) (e ▸ hk))
 ownK p hp hb:=by
  rcases ht.fresh p hp with ⟨h1,h2⟩ | h1
  ·rw[h2] at hb ⊢;exact h.ownK p h1 hb
  ·have:=h.size;omega
 os:=ht.os.trans h.os
 tape:=ht.tape.trans h.tape
 output:=ht.output.trans h.output
 pin q hq:=by
  obtain ⟨h1,h2,h3⟩:=h.pin q hq
  have e:(kx x kill).k 0=x.k 0∧(kx x kill).β 0=x.β 0:=by
   cases kill with
   | none=>exact ⟨rfl,rfl⟩
   | some p=>
    cases p with
    | zero=>cases hkill
    | succ p=>exact ⟨by simp [kx],rfl⟩
  refine ⟨h1,?_,fun hr=>?_⟩
  ·rw[ht.ext.k 0 (by rw[e.1,h2];exact h1),e.1,h2]
  ·obtain ⟨g1,cs,g2,g3⟩:=h3 hr
   have hb:y.β 0=x.β 0:=by rw[ht.ext.β 0 (by rw[e.1,h2];exact hr),e.2]
   have hw:(kx x kill).w=x.w:=by cases kill<;>rfl
   obtain ⟨cs',g4,g5⟩:=ht.ext.own 0 (by rw[e.1,h2];exact hr) cs q.2.2.1 (by rw[e.2,hw];exact g2)
   rw[e.2] at g4
   exact ⟨hb.trans g1,cs',by rw[hb];exact g4,g5.trans g3⟩

theorem getD_set (t:Array Value) (d:Nat) (v:Value) (e:Nat) (hd:d<t.size):(t.setIfInBounds d v).getD e undef=if e=d then v else t.getD e undef:=by
 by_cases h:e=d
 ·subst h;simp [hd]
 ·simp [h,Array.getElem?_setIfInBounds_ne (Ne.symm h)]

/-- After an operation. -/
theorem Sim.step {w0:World} {F0:Nat→Prop} {K:Kp} {as:List Act} {σ:St} {x y:Ctx} {a:Act} {kill:Option Nat} {m' : Nat→Option En} (h:Sim w0 F0 K as σ x a) (ht:Tr x kill y m') (hkill:killOk kill=true) {dst:Option Nat} {sv:SV} {v:Value} {nx:Nat}
  (hd:∀d,dst=some d→d<σ.nt∧denS y sv v) :
  Sim w0 F0 K as { σ with t:=match dst with | some d=>setT (killT σ.t kill) d sv | none=>killT σ.t kill,m:=m',nx:=nx,fr:=killF σ.fr kill } y (a.put dst v):=by
 have hk:∀t,denS y (killT σ.t kill t) (a.tmps.getD t undef):=by
  intro t
  refine denS_ext ht.ext ?_
  cases kill with
  | none=>exact h.t t
  | some p=>exact scrub_S p (h.t t)
 cases dst with
 | none=>exact ⟨h.defers.trans (dsOf_kill _ _ kill).symm,h.nt,hk,ht.mem,h.base.tr ht hkill,(h.frs.kill kill).ext ht.ext⟩
 | some d=>
  obtain ⟨hd1,hd2⟩:=hd d rfl
  refine ⟨h.defers.trans (dsOf_kill _ _ kill).symm,by simp [Act.put,h.nt],fun t=>?_,ht.mem,h.base.tr ht hkill,(h.frs.kill kill).ext ht.ext⟩
  simp only[Act.put]
  rw[getD_set _ _ _ _ (by rw[h.nt];exact hd1)]
  by_cases he:t=d
  ·subst he;simp only[setT,if_true];exact hd2
  ·simp only[setT,he,if_false];exact hk t

end

section

section
variable {r:Nat} [NeZero r]

def pw (x:Fin r):Nat→Fin r
 | 0=>1
 | n+1=>pw x n*x

theorem one_mul_g (x:Fin r):1*x=x:=by grind
end

def g7:Fin rN:=Fin.ofNat rN 7
end

end
end Go.Proofs.Ytobdghmmbddfnaa
