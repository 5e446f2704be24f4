/- The symbolic values, the state and the operations of a small executor for Go code, as plain Lean definitions. No conditions. -/
import Derived.WalkKit
import Derived.WalkSpells
import Derived.WalkLawsBesides
import Derived.KernelRfl
namespace Go.Proofs.Ytlfllehomhcbfaa

/-- The order of the groups, and the greater prime. -/
def rN : Nat := 52435875175126190479447740508185965837690552500527637822603658699938581184513
def pN : Nat := 4002409555221667393417789825735904156556882819939007885332058136124031650490837864442687629129015664037894272559787
def B4 : Nat := 115792089237316195423570985008687907853269984665640564039457584007913129639936
def B6 : Nat := 39402006196394479212279040100143613805079739270465446667948293404245721771497210611414266254884915640806627990306816
instance : NeZero rN := ⟨by decide⟩
instance : NeZero pN := ⟨by decide⟩
instance : NeZero B4 := ⟨by decide⟩
instance : NeZero B6 := ⟨by decide⟩
abbrev Fr := Fin rN
abbrev Fp := Fin pN
abbrev U4 := Fin B4
abbrev U6 := Fin B6

/-- The i-th limb of a number. -/
def limb (n i : Nat) : Int := ((n / 2 ^ (64 * i) % 18446744073709551616 : Nat) : Int)

/-- Data of several cells. -/
inductive Ob where
  | fr (x : U4)
  | s (x : Fr)
  | fp (x : U6)
  | p (x : Fp)

def Ob.k : Ob → Nat
  | .fr _ => 4
  | .s _ => 4
  | .fp _ => 6
  | .p _ => 6

def Ob.n : Ob → Nat
  | .fr x => x.val
  | .s x => x.val * B4 % rN
  | .fp x => x.val
  | .p x => x.val * B6 % pN

def Ob.cells (o : Ob) : List Value := (List.range o.k).map fun i => .int .u64 (limb o.n i)

def Ob.eqb : Ob → Ob → Option Bool
  | .fr x, .fr y => some (decide (x = y))
  | .s x, .s y => some (decide (x = y))
  | .fp x, .fp y => some (decide (x = y))
  | .p x, .p y => some (decide (x = y))
  | _, _ => none

/-- What a slice holds. -/
structure GateD where
  qm : U4
  ql : U4
  qr : U4
  qo : U4
  qc : U4
  a : Int
  b : Int
  c : Int
structure OpD where
  tag : Int
  a : Int
  b : Int
  c : Int
  n : Int
  k : U4
  ks : List U4
  vars : List Int
structure G1D where
  x : U6
  y : U6
  inf : Bool
structure G2D where
  xa : U6
  xb : U6
  ya : U6
  yb : U6
  inf : Bool

inductive Sq where
  | fr (l : List U4)
  | s (l : List Fr)
  | int (l : List Int)
  | u64 (l : List Int)
  | gate (l : List GateD)
  | op (l : List OpD)
  | g1 (l : List G1D)
  | g2 (l : List G2D)
  | pt (l : List (Fp × Fp × Fp))
  | pt2 (l : List ((Fp × Fp) × (Fp × Fp) × (Fp × Fp)))
  | place (l : List (Int × Int))
  | frs (l : List (List U4))
  | ints (l : List (List Int))
  | ptt (l : List (List (Fp × Fp × Fp)))

/-- One part of a value: one cell, or an object of several. -/
inductive It where
  | int (k : IntKind) (n : Int)
  | bool (b : Bool)
  | lit (b : Bool)
  | ptr (p off : Nat)
  | ep (p es i off : Nat)
  | slc (p off len es : Nat)
  | rp (q : Sq) (i off : Nat)
  | sl (q : Sq)
  | ob (o : Ob)
  | val (v : Value)
  | clo (f : FuncId) (caps : List (Nat × Nat))
  | mp (p : Nat)
  | dead

def It.size : It → Nat
  | .ob o => o.k
  | _ => 1

def itsSize : List It → Nat
  | [] => 0
  | i :: l => i.size + itsSize l

def Sq.n : Sq → Nat
  | .fr l => l.length
  | .s l => l.length
  | .int l => l.length
  | .u64 l => l.length
  | .gate l => l.length
  | .op l => l.length
  | .g1 l => l.length
  | .g2 l => l.length
  | .pt l => l.length
  | .pt2 l => l.length
  | .place l => l.length
  | .frs l => l.length
  | .ints l => l.length
  | .ptt l => l.length

def Sq.es : Sq → Nat
  | .fr _ => 4
  | .s _ => 4
  | .int _ => 1
  | .u64 _ => 1
  | .gate _ => 23
  | .op _ => 11
  | .g1 _ => 13
  | .g2 _ => 25
  | .pt _ => 18
  | .pt2 _ => 36
  | .place _ => 2
  | .frs _ => 1
  | .ints _ => 1
  | .ptt _ => 288

def GateD.its (g : GateD) : List It := [.ob (.fr g.qm), .ob (.fr g.ql), .ob (.fr g.qr), .ob (.fr g.qo), .ob (.fr g.qc), .int .i64 g.a, .int .i64 g.b, .int .i64 g.c]
def OpD.its (o : OpD) : List It := [.int .i64 o.tag, .int .i64 o.a, .int .i64 o.b, .int .i64 o.c, .int .i64 o.n, .ob (.fr o.k), .sl (.fr o.ks), .sl (.int o.vars)]
def G1D.its (g : G1D) : List It := [.ob (.fp g.x), .ob (.fp g.y), .bool g.inf]
def G2D.its (g : G2D) : List It := [.ob (.fp g.xa), .ob (.fp g.xb), .ob (.fp g.ya), .ob (.fp g.yb), .bool g.inf]
def ptIts (x : Fp × Fp × Fp) : List It := [.ob (.p x.1), .ob (.p x.2.1), .ob (.p x.2.2)]
def pt2Its (x : (Fp × Fp) × (Fp × Fp) × (Fp × Fp)) : List It := [.ob (.p x.1.1), .ob (.p x.1.2), .ob (.p x.2.1.1), .ob (.p x.2.1.2), .ob (.p x.2.2.1), .ob (.p x.2.2.2)]
def gate0 : GateD := ⟨0, 0, 0, 0, 0, 0, 0, 0⟩
def op0 : OpD := ⟨0, 0, 0, 0, 0, 0, [], []⟩
def g10 : G1D := ⟨0, 0, false⟩
def g20 : G2D := ⟨0, 0, 0, 0, false⟩
def pt0 : Fp × Fp × Fp := (0, 0, 0)
/-- Sixteen points, one behind the other. -/
def flatPt (l : List (Fp × Fp × Fp)) : Nat → Nat → List It
  | _, 0 => []
  | i, n + 1 => .ob (.p (l.getD i pt0).1) :: .ob (.p (l.getD i pt0).2.1) :: .ob (.p (l.getD i pt0).2.2) :: flatPt l (i + 1) n
def pt20 : (Fp × Fp) × (Fp × Fp) × (Fp × Fp) := ((0, 0), (0, 0), (0, 0))

/-- The parts of one element. -/
def Sq.get : Sq → Nat → List It
  | .fr l, i => [.ob (.fr (l.getD i 0))]
  | .s l, i => [.ob (.s (l.getD i 0))]
  | .int l, i => [.int .i64 (l.getD i 0)]
  | .u64 l, i => [.int .u64 (l.getD i 0)]
  | .gate l, i => (l.getD i gate0).its
  | .op l, i => (l.getD i op0).its
  | .g1 l, i => (l.getD i g10).its
  | .g2 l, i => (l.getD i g20).its
  | .pt l, i => ptIts (l.getD i pt0)
  | .pt2 l, i => pt2Its (l.getD i pt20)
  | .place l, i => [.int .i64 (l.getD i (0, 0)).1, .int .i64 (l.getD i (0, 0)).2]
  | .frs l, i => [.sl (.fr (l.getD i []))]
  | .ints l, i => [.sl (.int (l.getD i []))]
  | .ptt l, i => flatPt (l.getD i []) 0 16

/-- One element as its parts. -/
inductive El where
  | fr (x : U4) | s (x : Fr) | int (x : Int) | u64 (x : Int) | gate (x : GateD) | op (x : OpD) | g1 (x : G1D) | g2 (x : G2D)
  | pt (x : Fp × Fp × Fp) | pt2 (x : (Fp × Fp) × (Fp × Fp) × (Fp × Fp)) | place (x : Int × Int) | frs (x : List U4) | ints (x : List Int) | ptt (x : List (Fp × Fp × Fp))

def Sq.set (q : Sq) (i : Nat) (its : List It) : Option Sq :=
  match q, its with
  | .fr l, [.ob (.fr x)] => some (.fr (l.set i x))
  | .s l, [.ob (.s x)] => some (.s (l.set i x))
  | .int l, [.int .i64 x] => some (.int (l.set i x))
  | .u64 l, [.int .u64 x] => some (.u64 (l.set i x))
  | .gate l, [.ob (.fr x1), .ob (.fr x2), .ob (.fr x3), .ob (.fr x4), .ob (.fr x5), .int .i64 a, .int .i64 b, .int .i64 c] => some (.gate (l.set i ⟨x1, x2, x3, x4, x5, a, b, c⟩))
  | .op l, [.int .i64 t, .int .i64 a, .int .i64 b, .int .i64 c, .int .i64 n, .ob (.fr k), .sl (.fr ks), .sl (.int vs)] => some (.op (l.set i ⟨t, a, b, c, n, k, ks, vs⟩))
  | .g1 l, [.ob (.fp x), .ob (.fp y), .bool b] => some (.g1 (l.set i ⟨x, y, b⟩))
  | .g1 l, [.ob (.fp x), .ob (.fp y), .lit b] => some (.g1 (l.set i ⟨x, y, b⟩))
  | .g2 l, [.ob (.fp x), .ob (.fp x'), .ob (.fp y), .ob (.fp y'), .bool b] => some (.g2 (l.set i ⟨x, x', y, y', b⟩))
  | .g2 l, [.ob (.fp x), .ob (.fp x'), .ob (.fp y), .ob (.fp y'), .lit b] => some (.g2 (l.set i ⟨x, x', y, y', b⟩))
  | .pt l, [.ob (.p x), .ob (.p y), .ob (.p z)] => some (.pt (l.set i (x, y, z)))
  | .pt2 l, [.ob (.p a), .ob (.p b), .ob (.p c), .ob (.p d), .ob (.p e), .ob (.p f)] => some (.pt2 (l.set i ((a, b), (c, d), (e, f))))
  | .place l, [.int .i64 a, .int .i64 b] => some (.place (l.set i (a, b)))
  | _, _ => none

/-- One element more. -/
def Sq.push (q : Sq) (its : List It) : Option Sq :=
  match q, its with
  | .fr l, [.ob (.fr x)] => some (.fr (l ++ [x]))
  | .s l, [.ob (.s x)] => some (.s (l ++ [x]))
  | .int l, [.int .i64 x] => some (.int (l ++ [x]))
  | .u64 l, [.int .u64 x] => some (.u64 (l ++ [x]))
  | .gate l, [.ob (.fr x1), .ob (.fr x2), .ob (.fr x3), .ob (.fr x4), .ob (.fr x5), .int .i64 a, .int .i64 b, .int .i64 c] => some (.gate (l ++ [⟨x1, x2, x3, x4, x5, a, b, c⟩]))
  | .g1 l, [.ob (.fp x), .ob (.fp y), .bool b] => some (.g1 (l ++ [⟨x, y, b⟩]))
  | .g1 l, [.ob (.fp x), .ob (.fp y), .lit b] => some (.g1 (l ++ [⟨x, y, b⟩]))
  | .g2 l, [.ob (.fp x), .ob (.fp x'), .ob (.fp y), .ob (.fp y'), .bool b] => some (.g2 (l ++ [⟨x, x', y, y', b⟩]))
  | .g2 l, [.ob (.fp x), .ob (.fp x'), .ob (.fp y), .ob (.fp y'), .lit b] => some (.g2 (l ++ [⟨x, x', y, y', b⟩]))
  | .pt l, [.ob (.p x), .ob (.p y), .ob (.p z)] => some (.pt (l ++ [(x, y, z)]))
  | .pt2 l, [.ob (.p a), .ob (.p b), .ob (.p c), .ob (.p d), .ob (.p e), .ob (.p f)] => some (.pt2 (l ++ [((a, b), (c, d), (e, f))]))
  | .place l, [.int .i64 a, .int .i64 b] => some (.place (l ++ [(a, b)]))
  | .frs l, [.sl (.fr x)] => some (.frs (l ++ [x]))
  | .ints l, [.sl (.int x)] => some (.ints (l ++ [x]))
  | _, _ => none

/-- The elements from a place on, so many. -/
def Sq.cut (q : Sq) (lo n : Nat) : Sq :=
  match q with
  | .fr l => .fr ((l.drop lo).take n)
  | .s l => .s ((l.drop lo).take n)
  | .int l => .int ((l.drop lo).take n)
  | .u64 l => .u64 ((l.drop lo).take n)
  | .gate l => .gate ((l.drop lo).take n)
  | .op l => .op ((l.drop lo).take n)
  | .g1 l => .g1 ((l.drop lo).take n)
  | .g2 l => .g2 ((l.drop lo).take n)
  | .pt l => .pt ((l.drop lo).take n)
  | .pt2 l => .pt2 ((l.drop lo).take n)
  | .place l => .place ((l.drop lo).take n)
  | .frs l => .frs ((l.drop lo).take n)
  | .ints l => .ints ((l.drop lo).take n)
  | .ptt l => .ptt ((l.drop lo).take n)

/-- Two, one behind the other. -/
def Sq.app (q q' : Sq) : Option Sq :=
  match q, q' with
  | .fr l, .fr l' => some (.fr (l ++ l'))
  | .s l, .s l' => some (.s (l ++ l'))
  | .int l, .int l' => some (.int (l ++ l'))
  | .u64 l, .u64 l' => some (.u64 (l ++ l'))
  | .gate l, .gate l' => some (.gate (l ++ l'))
  | .op l, .op l' => some (.op (l ++ l'))
  | .g1 l, .g1 l' => some (.g1 (l ++ l'))
  | .g2 l, .g2 l' => some (.g2 (l ++ l'))
  | .pt l, .pt l' => some (.pt (l ++ l'))
  | .pt2 l, .pt2 l' => some (.pt2 (l ++ l'))
  | .place l, .place l' => some (.place (l ++ l'))
  | .frs l, .frs l' => some (.frs (l ++ l'))
  | .ints l, .ints l' => some (.ints (l ++ l'))
  | _, _ => none

/-- A value: one cell, or parts; what a slot holds: a value, several (a tuple), or anything. -/
inductive V1 where
  | c (i : It)
  | a (l : List It)
inductive SV where
  | v (x : V1)
  | t (l : List V1)
  | top

/-- What a block of the call's own holds. -/
inductive En where
  | fl (l : List It)
  | sq (q : Sq)

structure St where
  t : Nat → SV
  m : Nat → Option En
  nt : Nat
  nx : Nat
  fr : List ((Nat → SV) × Nat)

end Go.Proofs.Ytlfllehomhcbfaa
