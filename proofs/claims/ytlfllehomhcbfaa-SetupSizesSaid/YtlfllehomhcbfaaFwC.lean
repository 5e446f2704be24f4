/- The executor's operations: what each makes of the slots and of the call's own blocks. Definitions alone; no conditions. -/
import Derived.Test.YtlfllehomhcbfaaFwB
namespace Go.Proofs.Ytlfllehomhcbfaa

/-- What is known of a type. -/
structure TyI where
  cells : Nat
  agg : Bool
  bytes : Nat
  zero : List It
  fields : List (Nat × Nat × Bool)
  arr : Option (Nat × Nat)
  slc : Option Nat
  kind : Option IntKind
  esq : Option Sq
  eqk : List Bool

structure Res where
  obl : List Prop
  val : SV
  ups : List (Nat × En)
  kill : Option Nat

abbrev FnSpec := List SV → Option (List Prop × SV × List En)
abbrev MuSpec := List SV → (Nat → Option En) → Option (List Prop × SV × List (Nat × En))

structure Env where
  ty : Nat → Option TyI
  fn : Nat → Option FnSpec
  mu : Nat → Option MuSpec
  inl : Nat → Option Func

def AllP : List Prop → Prop
  | [] => True
  | p :: l => p ∧ AllP l

theorem AllP_append {l l' : List Prop} : AllP (l ++ l') ↔ AllP l ∧ AllP l' := by
  induction l with
  | nil => simp [AllP]
  | cons p l ih => simp [AllP, ih, and_assoc]

def takeIts : Nat → List It → Option (List It)
  | 0, _ => some []
  | _ + 1, [] => none
  | n + 1, i :: l => if i.size ≤ n + 1 then (takeIts (n + 1 - i.size) l).map (i :: ·) else none

def dropIts : Nat → List It → Option (List It)
  | 0, l => some l
  | _ + 1, [] => none
  | n + 1, i :: l => if i.size ≤ n + 1 then dropIts (n + 1 - i.size) l else none

def cutIts (off n : Nat) (l : List It) : Option (List It) :=
  match dropIts off l with
  | some r => takeIts n r
  | none => none

/-- The parts ahead, the new ones, the parts behind. -/
def pasteIts (off : Nat) (new l : List It) : Option (List It) :=
  match takeIts off l, dropIts (off + itsSize new) l with
  | some a, some b => some (a ++ new ++ b)
  | _, _ => none

def obInts (o : Ob) : List It := (List.range o.k).map fun i => .int .u64 (limb o.n i)

def explode : List It → List It
  | [] => []
  | .ob o :: l => obInts o ++ explode l
  | i :: l => i :: explode l

def cutAny (off n : Nat) (l : List It) : Option (List It) :=
  match cutIts off n l with
  | some r => some r
  | none => cutIts off n (explode l)

def pasteAny (off : Nat) (new l : List It) : Option (List It) :=
  match pasteIts off new l with
  | some r => some r
  | none => pasteIts off new (explode l)

def mkV (agg : Bool) (l : List It) : Option V1 :=
  match agg, l with
  | true, l => some (.a l)
  | false, [i] => some (.c i)
  | _, _ => none

def V1.its : V1 → List It
  | .c i => [i]
  | .a l => l

def bitsOp (op : BinOp) (k : IntKind) (x y : Int) : Int :=
  match op with
  | .and => k.wrap ((BitVec.ofInt k.bits x &&& BitVec.ofInt k.bits y).toNat : Int)
  | .or => k.wrap ((BitVec.ofInt k.bits x ||| BitVec.ofInt k.bits y).toNat : Int)
  | .xor => k.wrap ((BitVec.ofInt k.bits x ^^^ BitVec.ofInt k.bits y).toNat : Int)
  | _ => k.wrap ((BitVec.ofInt k.bits x &&& ~~~ BitVec.ofInt k.bits y).toNat : Int)

def arith (op : BinOp) (k : IntKind) (a b : Int) : Option (List Prop × It) :=
  match op with
  | .add => some ([], .int k (k.wrap (a + b)))
  | .sub => some ([], .int k (k.wrap (a - b)))
  | .mul => some ([], .int k (k.wrap (a * b)))
  | .quo => some ([b ≠ 0], .int k (k.wrap (a.tdiv b)))
  | .rem => some ([b ≠ 0], .int k (a.tmod b))
  | .and => some ([], .int k (bitsOp .and k a b))
  | .or => some ([], .int k (bitsOp .or k a b))
  | .xor => some ([], .int k (bitsOp .xor k a b))
  | .andNot => some ([], .int k (bitsOp .andNot k a b))
  | .shl => some ([0 ≤ b], .int k (k.wrap (a * 2 ^ (min b.toNat k.bits))))
  | .shr => some ([0 ≤ b], .int k (a.fdiv (2 ^ (min b.toNat k.bits))))
  | .eql => some ([], .bool (a == b))
  | .neq => some ([], .bool (a != b))
  | .lss => some ([], .bool (a < b))
  | .leq => some ([], .bool (a ≤ b))
  | .gtr => some ([], .bool (a > b))
  | .geq => some ([], .bool (a ≥ b))

def IntKind.same : IntKind → IntKind → Bool
  | .i8, .i8 | .i16, .i16 | .i32, .i32 | .i64, .i64 | .u8, .u8 | .u16, .u16 | .u32, .u32 | .u64, .u64 => true
  | _, _ => false

def eqIt : It → It → Option Bool
  | .int k a, .int k' b => if IntKind.same k k' then some (a == b) else none
  | .bool a, .bool b => some (a == b)
  | .lit a, .bool b => some (a == b)
  | .bool a, .lit b => some (a == b)
  | .lit a, .lit b => some (a == b)
  | .ob a, .ob b => Ob.eqb a b
  | _, _ => none

def eqIts : List It → List It → Option Bool
  | [], [] => some true
  | [a], [b] => eqIt a b
  | a :: l, b :: l' =>
    match eqIt a b, eqIts l l' with
    | some x, some y => some (x && y)
    | _, _ => none
  | _, _ => none

def itSh : List It → Option (List Bool)
  | [] => some []
  | .int _ _ :: l => (itSh l).map (true :: ·)
  | .bool _ :: l => (itSh l).map (false :: ·)
  | .lit _ :: l => (itSh l).map (false :: ·)
  | .ob o :: l => (itSh l).map (List.replicate o.k true ++ ·)
  | _ => none

def isEql : BinOp → Option Bool
  | .eql => some true
  | .neq => some false
  | _ => none

def binRes (env : Env) (op : BinOp) (xt : Nat) (x y : SV) : Option (List Prop × It) :=
  match x, y with
  | .v (.c (.int k a)), .v (.c (.int k' b)) =>
    match op with
    | .shl => arith .shl k a b
    | .shr => arith .shr k a b
    | op => if IntKind.same k k' then arith op k a b else none
  | .v (.c a), .v (.c b) =>
    match isEql op, env.ty xt, eqIt a b with
    | some e, some i, some r => if !i.agg && (itSh [a] == some i.eqk) && (itSh [b] == some i.eqk) then some ([], .bool (if e then r else !r)) else none
    | _, _, _ => none
  | .v (.a a), .v (.a b) =>
    match isEql op, env.ty xt, eqIts a b with
    | some e, some i, some r => if i.agg && !i.eqk.isEmpty && (itSh a == some i.eqk) && (itSh b == some i.eqk) then some ([], .bool (if e then r else !r)) else none
    | _, _, _ => none
  | _, _ => none

/-- Whole numbers of 64 bits among parts. -/
def u64s : List It → Option (List Int)
  | [] => some []
  | .int .u64 n :: l => (u64s l).map (n :: ·)
  | _ => none

/-- A part without own blocks: an own slice is read. -/
def rdIt (m : Nat → Option En) : It → Option (List Prop × It)
  | .int k n => some ([], .int k n)
  | .bool b => some ([], .bool b)
  | .lit b => some ([], .lit b)
  | .ob o => some ([], .ob o)
  | .val v => some ([], .val v)
  | .sl q => some ([], .sl q)
  | .rp q i off => some ([], .rp q i off)
  | .clo f [] => some ([], .clo f [])
  | .slc p off len es =>
    match m p with
    | some (.sq q) => some ([off = 0, len = q.n, es = q.es], .sl q)
    | some (.fl l) =>
      match es, cutIts off len (explode l) with
      | 1, some r => match u64s r with
        | some ns => some ([], .sl (.u64 ns))
        | none => none
      | _, _ => none
    | none => none
  | _ => none

def rdIts (m : Nat → Option En) : List It → Option (List Prop × List It)
  | [] => some ([], [])
  | i :: l =>
    match rdIt m i, rdIts m l with
    | some (o, i), some (o', l) => some (o ++ o', i :: l)
    | _, _ => none

def rdSV (m : Nat → Option En) : SV → Option (List Prop × SV)
  | .v (.c i) => match rdIt m i with
    | some (o, i) => some (o, .v (.c i))
    | none => none
  | .v (.a l) => match rdIts m l with
    | some (o, l) => some (o, .v (.a l))
    | none => none
  | _ => none

def rdSVs (m : Nat → Option En) : List SV → Option (List Prop × List SV)
  | [] => some ([], [])
  | a :: l =>
    match rdSV m a, rdSVs m l with
    | some (o, a), some (o', l) => some (o ++ o', a :: l)
    | _, _ => none

/-- Positions of a contract's own results, from p on. -/
def shIt (p : Nat) : It → It
  | .slc q off len es => .slc (p + q) off len es
  | .ptr q off => .ptr (p + q) off
  | .ep q es i off => .ep (p + q) es i off
  | .mp q => .mp (p + q)
  | .clo f c => .clo f (c.map fun x => (p + x.1, x.2))
  | i => i
def shV (p : Nat) : V1 → V1
  | .c i => .c (shIt p i)
  | .a l => .a (l.map (shIt p))
def shSV (p : Nat) : SV → SV
  | .v a => .v (shV p a)
  | .t l => .t (l.map (shV p))
  | .top => .top

def shEn (p : Nat) : En → En
  | .fl l => .fl (l.map (shIt p))
  | .sq q => .sq q

def number (p : Nat) : List En → List (Nat × En)
  | [] => []
  | e :: l => (p, e) :: number (p + 1) l

def constSV : Value → SV
  | .int k n => .v (.c (.int k n))
  | .bool b => .v (.c (.lit b))
  | .slice none 0 0 => .v (.c (.val (.slice none 0 0)))
  | .string s => .v (.c (.val (.string s)))
  | .map none => .v (.c (.val (.map none)))
  | _ => .top

def St.ev (σ : St) : Operand → SV
  | .tmp t => σ.t t
  | .const v => constSV v
  | .global _ => .top
  | .func f => .v (.c (.clo f []))

def intIt : SV → Option (IntKind × Int)
  | .v (.c (.int k n)) => some (k, n)
  | _ => none

/-- An address, cells and whether they are of several: what is loaded. -/
def loadRes (m : Nat → Option En) (a : SV) (i : TyI) : Option (List Prop × V1) :=
  match a with
  | .v (.c (.ptr p off)) =>
    match m p with
    | some (.fl l) =>
      match i.agg, l with
      | false, [.ob o] => some ([off < o.k], .c (.int .u64 (limb o.n off)))
      | agg, l => match cutAny off i.cells l with
        | some r => (mkV agg r).map fun v => ([], v)
        | none => none
    | some (.sq q) =>
      if q.es = 1 && i.cells = 1 then (mkV i.agg (q.get off)).map fun v => ([off < q.n], v) else none
    | _ => none
  | .v (.c (.ep p es ix off)) =>
    match m p with
    | some (.sq q) =>
      if q.es = es then
        match cutAny off i.cells (q.get ix) with
        | some r => (mkV i.agg r).map fun v => ([ix < q.n], v)
        | none => none
      else none
    | _ => none
  | .v (.c (.rp q ix off)) =>
    match cutAny off i.cells (q.get ix) with
    | some r => (mkV i.agg r).map fun v => ([], v)
    | none => none
  | _ => none

def storeRes (m : Nat → Option En) (a x : SV) (i : TyI) : Option (List Prop × List (Nat × En)) :=
  match x with
  | .v v =>
    if itsSize v.its = i.cells then
      match a with
      | .v (.c (.ptr p off)) =>
        match m p with
        | some (.fl l) => (pasteAny off v.its l).map fun r => ([], [(p, .fl r)])
        | some (.sq q) => if q.es = 1 && i.cells = 1 then (q.set off v.its).map fun r => ([off < q.n], [(p, .sq r)]) else none
        | none => none
      | .v (.c (.ep p es ix off)) =>
        match m p with
        | some (.sq q) =>
          if q.es = es then
            match pasteAny off v.its (q.get ix) with
            | some r => (q.set ix r).map fun r => ([ix < q.n], [(p, .sq r)])
            | none => none
          else none
        | _ => none
      | _ => none
    else none
  | _ => none

/-- A pointer to a field. -/
def fieldRes (a : SV) (fo : Nat) : Option It :=
  match a with
  | .v (.c (.ptr p off)) => some (.ptr p (off + fo))
  | .v (.c (.ep p es ix off)) => some (.ep p es ix (off + fo))
  | .v (.c (.rp q ix off)) => some (.rp q ix (off + fo))
  | _ => none

/-- A pointer to an element: es is the element's size, arr the array's length. -/
def indexRes (m : Nat → Option En) (x : SV) (i : Int) (arr : Option Nat) (es : Nat) : Option (List Prop × It) :=
  match arr, x with
  | none, .v (.c (.slc p off len es')) =>
    if es' = es then
      match m p with
      | some (.sq q) => if q.es = es then some ([0 ≤ i, i < len, off = 0], .ep p es i.toNat 0) else none
      | some (.fl _) => some ([0 ≤ i, i < len], .ptr p (off + i.toNat * es))
      | none => none
    else none
  | none, .v (.c (.sl q)) => if q.es = es then some ([0 ≤ i, i < q.n], .rp q i.toNat 0) else none
  | some n, .v (.c (.ptr p off)) =>
    match m p with
    | some (.sq q) => if q.es = es then some ([0 ≤ i, i < n, off = 0], .ep p es i.toNat 0) else none
    | some (.fl _) => some ([0 ≤ i, i < n], .ptr p (off + i.toNat * es))
    | none => none
  | some n, .v (.c (.ep p es' ix off)) => some ([0 ≤ i, i < n], .ep p es' ix (off + i.toNat * es))
  | some n, .v (.c (.rp q ix off)) => some ([0 ≤ i, i < n], .rp q ix (off + i.toNat * es))
  | _, _ => none

def optInt : Option SV → Option (Option Int)
  | none => some none
  | some x => (intIt x).map fun y => some y.2

/-- A piece: of an array behind a pointer (arr: its length), or of a slice. -/
def sliceRes (m : Nat → Option En) (x : SV) (lo hi : Option Int) (arr : Option Nat) (es : Nat) : Option (List Prop × It) :=
  match arr, x with
  | some n, .v (.c (.ptr p off)) =>
    match (match m p with | some (.fl l) => if off + n * es ≤ itsSize l then some [] else none | some (.sq q) => if q.es = es then some [off = 0, n ≤ q.n] else none | none => (none : Option (List Prop))) with
    | some o =>
      match lo, hi with
      | none, none => if n ≤ 4096 then some (o, .slc p off n es) else none
      | none, some h => if n ≤ 4096 then some ((0 ≤ h) :: (h ≤ n) :: o, .slc p off h.toNat es) else none
      | _, _ => none
    | none => none
  | none, .v (.c (.slc p off len es')) =>
    match lo, hi with
    | none, none => some ([], .slc p off len es')
    | _, _ => none
  | none, .v (.c (.sl q)) =>
    if q.es = es then
      match lo, hi with
      | none, none => some ([], .sl q)
      | none, some h => some ([0 ≤ h, h ≤ q.n], .sl (q.cut 0 h.toNat))
      | some l, none => some ([0 ≤ l, l ≤ q.n], .sl (q.cut l.toNat (q.n - l.toNat)))
      | some l, some h => some ([0 ≤ l, l ≤ h, h ≤ q.n], .sl (q.cut l.toNat (h.toNat - l.toNat)))
    else none
  | _, _ => none

def zeros : Sq → Nat → Option Sq
  | .fr _, n => some (.fr (List.replicate n 0))
  | .s _, n => some (.s (List.replicate n 0))
  | .int _, n => some (.int (List.replicate n 0))
  | .u64 _, n => some (.u64 (List.replicate n 0))
  | .gate _, n => some (.gate (List.replicate n gate0))
  | .g1 _, n => some (.g1 (List.replicate n g10))
  | .g2 _, n => some (.g2 (List.replicate n g20))
  | .pt _, n => some (.pt (List.replicate n pt0))
  | .pt2 _, n => some (.pt2 (List.replicate n pt20))
  | .place _, n => some (.place (List.replicate n (0, 0)))
  | .frs _, n => some (.frs (List.replicate n []))
  | .ints _, n => some (.ints (List.replicate n []))
  | _, _ => none

def pushAll (q : Sq) : List (List It) → Option Sq
  | [] => some q
  | x :: l => match q.push x with
    | some q => pushAll q l
    | none => none

/-- Literal places 0, 1, 2 .. of the parts. -/
def inOrder : Nat → List (Nat × SV) → Option (List (List It))
  | _, [] => some []
  | n, (i, .v v) :: l => if i = n then (inOrder (n + 1) l).map (v.its :: ·) else none
  | _, _ => none

/-- Where a part of a built value lies. -/
def placeOf (fields : List (Nat × Nat × Bool)) (arr : Option (Nat × Nat)) (i : Nat) : Option (Nat × Nat) :=
  match arr with
  | some (_, es) => some (i * es, es)
  | none => (fields[i]?).map fun f => (f.1, f.2.1)

def buildAll (fields : List (Nat × Nat × Bool)) (arr : Option (Nat × Nat)) (l : List It) : List (Nat × SV) → Option (List It)
  | [] => some l
  | (i, .v v) :: r =>
    match placeOf fields arr i with
    | some (off, size) => if itsSize v.its = size then
        match pasteAny off v.its l with
        | some l => buildAll fields arr l r
        | none => none
      else none
    | none => none
  | _ => none

def ofLimbs : List It → Option Nat
  | [] => some 0
  | .int .u64 a :: l => (ofLimbs l).map fun n => a.toNat + 18446744073709551616 * n
  | _ => none

def limbsOk : List It → List Prop
  | .int .u64 a :: l => (0 ≤ a) :: (a < 18446744073709551616) :: limbsOk l
  | _ => []

/-- A number whose limbs were given one by one is told as a number. -/
def asNumber (z l : List It) : List Prop × List It :=
  match z, l with
  | [.ob (.fr _)], [.int .u64 a, .int .u64 b, .int .u64 c, .int .u64 d] =>
    match ofLimbs [.int .u64 a, .int .u64 b, .int .u64 c, .int .u64 d] with
    | some n => (limbsOk [.int .u64 a, .int .u64 b, .int .u64 c, .int .u64 d], [.ob (.fr (Fin.ofNat B4 n))])
    | none => ([], l)
  | [.ob (.fp _)], [.int .u64 a, .int .u64 b, .int .u64 c, .int .u64 d, .int .u64 e, .int .u64 f] =>
    match ofLimbs [.int .u64 a, .int .u64 b, .int .u64 c, .int .u64 d, .int .u64 e, .int .u64 f] with
    | some n => (limbsOk [.int .u64 a, .int .u64 b, .int .u64 c, .int .u64 d, .int .u64 e, .int .u64 f], [.ob (.fp (Fin.ofNat B6 n))])
    | none => ([], l)
  | _, l => ([], l)

def capsOf : List SV → Option (List (Nat × Nat))
  | [] => some []
  | .v (.c (.ptr p off)) :: l => (capsOf l).map ((p, off) :: ·)
  | _ => none

def minRes : List SV → Option It
  | [.v (.c (.int k a)), .v (.c (.int _ b))] => some (.int k (if b < a then b else a))
  | [.v (.c (.int k a)), .v (.c (.int _ b)), .v (.c (.int _ c))] => some (.int k (if c < (if b < a then b else a) then c else (if b < a then b else a)))
  | _ => none
def maxRes : List SV → Option It
  | [.v (.c (.int k a)), .v (.c (.int _ b))] => some (.int k (if b > a then b else a))
  | _ => none

def lenRes : List SV → Option It
  | [.v (.c (.slc _ _ len _))] => some (.int .i64 len)
  | [.v (.c (.sl q))] => some (.int .i64 q.n)
  | [.v (.c (.val (.slice none 0 0)))] => some (.int .i64 0)
  | _ => none

/-- What is appended. -/
def appSrc (m : Nat → Option En) (e : Sq) : SV → Option (List Prop × Sq)
  | .v (.c (.sl q)) => some ([], q)
  | .v (.c (.val (.slice none 0 0))) => some ([], e)
  | .v (.c (.slc p off len _)) => match m p with
    | some (.sq q) => if off = 0 then some ([len = q.n], q) else none
    | _ => none
  | _ => none

def appRes (m : Nat → Option En) (p : Nat) (i : TyI) (e : Sq) (s x : SV) : Option Res :=
  match appSrc m e x with
  | some (o, q') =>
    match s with
    | .v (.c (.val (.slice none 0 0))) =>
      match e.app q' with
      | some r => some ⟨(q'.n * i.bytes ≤ 140737488355328) :: (q'.n ≤ maxLen) :: o, .v (.c (.slc p 0 q'.n e.es)), [(p, .sq r)], none⟩
      | none => none
    | .v (.c (.slc p' off len es)) =>
      match m p' with
      | some (.sq q) =>
        match q.app q' with
        | some r => if off = 0 ∧ es = q.es ∧ q.es = e.es then some ⟨((q.n + q'.n) * i.bytes ≤ 140737488355328) :: (q.n + q'.n ≤ maxLen) :: (len = q.n) :: o, .v (.c (.slc p' 0 (q.n + q'.n) es)), [(p', .sq r)], some p'⟩ else none
        | none => none
      | _ => none
    | _ => none
  | none => none

/-- Cells copied from a row to another: elements of one cell each. -/
def copyRes (m : Nat → Option En) (e : Sq) : List SV → Option (List Prop × Int × List (Nat × En))
  | [.v (.c (.slc p off len es)), x] =>
    match m p with
    | some (.sq q) => match appSrc m e x with
      | some (o, q') => match q'.app (q.cut q'.n (q.n - q'.n)) with
        | some r => if off = 0 ∧ es = q.es ∧ q.es = e.es then some ((len = q.n) :: (q'.n ≤ q.n) :: o, q'.n, [(p, .sq r)]) else none
        | none => none
      | none => none
    | _ => none
  | _ => none

/-- All elements of an own row are made nought. -/
def clearRes (m : Nat → Option En) (e : Sq) : List SV → Option (List Prop × List (Nat × En))
  | [.v (.c (.slc p off len es))] =>
    match m p with
    | some (.sq q) => match zeros e q.n with
      | some z => if off = 0 ∧ es = q.es ∧ q.es = e.es then some ([len = q.n], [(p, .sq z)]) else none
      | none => none
    | _ => none
  | _ => none

def setsM (m : Nat → Option En) : List (Nat × En) → Nat → Option En
  | [] => m
  | (p, e) :: l => setsM (fun q => if q = p then some e else m q) l

/-- No slice or pointer into memory that is only read. -/
def noRoSq : Sq → Bool
  | .op _ | .frs _ | .ints _ => false
  | _ => true
def noRoIt : It → Bool
  | .sl _ | .rp _ _ _ => false
  | _ => true
def noRoV : V1 → Bool
  | .c i => noRoIt i
  | .a l => l.all noRoIt
def noRoS : SV → Bool
  | .v a => noRoV a
  | .t l => l.all noRoV
  | .top => true
def noRoEn : En → Bool
  | .fl l => l.all noRoIt
  | .sq q => noRoSq q
def ownFreeIt : It → Bool
  | .int _ _ | .bool _ | .lit _ | .ob _ | .val _ | .sl _ | .rp _ _ _ | .clo _ [] => true
  | _ => false
def ownFree : SV → Bool
  | .v (.c i) => ownFreeIt i
  | .v (.a l) => l.all ownFreeIt
  | _ => false

def callRes (env : Env) (m : Nat → Option En) (p : Nat) (f : Nat) (args : List SV) : Option Res :=
  match env.fn f with
  | some spec =>
    match rdSVs m args with
    | some (o, as) =>
      match spec as with
      | some (o', r, es) => if es.length ≤ 16 && (args.all ownFree || (noRoS r && es.all noRoEn)) then some ⟨o ++ o', shSV p r, number p (es.map (shEn p)), none⟩ else none
      | none => none
    | none => none
  | none =>
    match env.mu f with
    | some spec =>
      match spec args m with
      | some (o, r, ups) => some ⟨o, r, ups, none⟩
      | none => none
    | none => none

def pureV (i : It) : Option Res := some ⟨[], .v (.c i), [], none⟩
def withO (r : Option (List Prop × It)) : Option Res := r.map fun x => ⟨x.1, .v (.c x.2), [], none⟩

/-- One operation: its value, what must hold, and what it makes of the own blocks; new ones stand from p on. -/
def opRes (env : Env) (ρ : Operand → SV) (m : Nat → Option En) (p : Nat) (o : Oper) : Option Res :=
  match o.op with
  | .move x => some ⟨[], ρ x, [], none⟩
  | .assign x => some ⟨[], ρ x, [], none⟩
  | .pick c a b => match ρ c with
    | .v (.c (.lit d)) => some ⟨[], if d then ρ a else ρ b, [], none⟩
    | _ => none
  | .alloc t => match env.ty t with
    | some i => some ⟨[], .v (.c (.ptr p 0)), [(p, .fl i.zero)], none⟩
    | none => none
  | .box _ x => match ρ x with
    | .v v => some ⟨[], .v (.c (.ptr p 0)), [(p, .fl v.its)], none⟩
    | _ => none
  | .build t parts => match env.ty t with
    | some i =>
      match (match i.arr with | some (n, e) => (env.ty e).map fun (ie : TyI) => some (n, ie.cells) | none => some none) with
      | some arr =>
        match buildAll i.fields arr i.zero (parts.toList.map fun (x : Nat × Operand) => (x.1, ρ x.2)) with
        | some l => if i.agg then (match asNumber i.zero l with | (ob, l) => some ⟨ob, .v (.a l), [], none⟩) else none
        | none => none
      | none => none
    | none => none
  | .buildSlice t len parts => match env.ty t with
    | some i => match i.slc with
      | some e => match env.ty e with
        | some ie => match ie.esq, inOrder 0 (parts.toList.map fun (x : Nat × Operand) => (x.1, ρ x.2)) with
          | some q, some l => if l.length = len ∧ len * ie.cells ≤ 16777216 ∧ len ≤ 16777216 then
              match pushAll q l with
              | some q => some ⟨[], .v (.c (.slc p 0 len ie.cells)), [(p, .sq q)], none⟩
              | none => none
            else none
          | _, _ => none
        | none => none
      | none => none
    | none => none
  | .load t a => match env.ty t with
    | some i => match loadRes m (ρ a) i with
      | some (o, v) => some ⟨o, .v v, [], none⟩
      | none => none
    | none => none
  | .store t a x => match env.ty t with
    | some i => match storeRes m (ρ a) (ρ x) i with
      | some (o, ups) => some ⟨o, .top, ups, none⟩
      | none => none
    | none => none
  | .nilCheck x => match ρ x with
    | .v (.c (.ptr q off)) => pureV (.ptr q off)
    | .v (.c (.ep q es i off)) => pureV (.ep q es i off)
    | .v (.c (.rp q i off)) => pureV (.rp q i off)
    | _ => none
  | .binOp op xt x y _ => withO (binRes env op xt (ρ x) (ρ y))
  | .unOp op _ x => match op, ρ x with
    | .not, .v (.c (.lit b)) => pureV (.lit !b)
    | .not, .v (.c (.bool b)) => pureV (.bool !b)
    | .neg, .v (.c (.int k n)) => pureV (.int k (k.wrap (0 - n)))
    | _, _ => none
  | .convert src dst x => match ρ x, env.ty src, env.ty dst with
    | .v (.c (.int _ n)), some _, some i => match i.kind with
      | some k => pureV (.int k (k.wrap n))
      | none => none
    | _, _, _ => none
  | .makeFunc fn first caps => match fn, first.size, capsOf (caps.toList.map ρ) with
    | .func f, 0, some cs => pureV (.clo f cs)
    | _, _, _ => none
  | .makeSlice t l c => match env.ty t, ρ l, ρ c with
    | some i, .v (.c (.int _ n)), .v (.c (.int _ n')) => match i.slc with
      | some e => match env.ty e with
        | some ie => match ie.esq with
          | some q => match zeros q n.toNat with
            | some z => some ⟨[0 ≤ n, n = n', ie.bytes * n ≤ 281474976710656, n ≤ 9223372036854775807], .v (.c (.slc p 0 n.toNat ie.cells)), [(p, .sq z)], none⟩
            | none => none
          | none => none
        | none => none
      | none => none
    | _, _, _ => none
  | .slice t x lo hi mx => match env.ty t, optInt (lo.map ρ), optInt (hi.map ρ), optInt (mx.map ρ) with
    | some i, some none, some (some h), some (some m) => match i.arr, i.slc, ρ x with
      | none, some e, .v (.c (.sl q)) => match env.ty e with
        | some ie => if q.es = ie.cells then some ⟨[0 ≤ h, h ≤ m, m ≤ q.n], .v (.c (.sl (q.cut 0 h.toNat))), [], none⟩ else none
        | none => none
      | _, _, _ => none
    | some i, some lo, some hi, some none => match i.arr, i.slc with
      | some (n, e), none => match env.ty e with
        | some ie => withO (sliceRes m (ρ x) lo hi (some n) ie.cells)
        | none => none
      | none, some e => match env.ty e with
        | some ie => withO (sliceRes m (ρ x) lo hi none ie.cells)
        | none => none
      | _, _ => none
    | _, _, _, _ => none
  | .fieldAddr s x f => match env.ty s with
    | some i => match i.fields[f]? with
      | some (fo, fs, _) => if fs = 0 then none else match fieldRes (ρ x) fo with
        | some r => pureV r
        | none => none
      | none => none
    | none => none
  | .field s x f => match env.ty s, ρ x with
    | some i, .v (.a l) => match i.fields[f]? with
      | some (fo, fs, ag) => if itsSize l = i.cells ∧ fs ≠ 0 then
          match cutAny fo fs l with
          | some r => match mkV ag r with
            | some v => some ⟨[], .v v, [], none⟩
            | none => none
          | none => none
        else none
      | none => none
    | _, _ => none
  | .indexAddr t x ix => match env.ty t, intIt (ρ ix) with
    | some i, some (_, n) => match i.arr, i.slc with
      | some (len, e), none => match env.ty e with
        | some ie => withO (indexRes m (ρ x) n (some len) ie.cells)
        | none => none
      | none, some e => match env.ty e with
        | some ie => withO (indexRes m (ρ x) n none ie.cells)
        | none => none
      | _, _ => none
    | _, _ => none
  | .index t x ix => match env.ty t, ρ x, intIt (ρ ix) with
    | some i, .v (.a l), some (_, n) => match i.arr with
      | some (len, e) => match env.ty e with
        | some ie =>
          match ie.agg, ie.cells, l with
          | false, 1, [.ob o] => if o.k = len then some ⟨[0 ≤ n, n < len], .v (.c (.int .u64 (limb o.n n.toNat))), [], none⟩ else none
          | ag, es, l => if itsSize l = i.cells ∧ es ≠ 0 then
              match cutAny (n.toNat * es) es l with
              | some r => match mkV ag r with
                | some v => some ⟨[0 ≤ n, n < len], .v v, [], none⟩
                | none => none
              | none => none
            else none
        | none => none
      | none => none
    | _, _, _ => none
  | .extract x i => match ρ x with
    | .t l => match l[i]? with
      | some v => some ⟨[], .v v, [], none⟩
      | none => none
    | _ => none
  | .call c => match c.callee with
    | .value f => match ρ f with
      | .v (.c (.clo g [])) => callRes env m p g (c.args.toList.map ρ)
      | .v (.c (.clo g caps)) => callRes env m p g (c.args.toList.map ρ ++ caps.map fun x => .v (.c (.ptr x.1 x.2)))
      | _ => none
    | .builtin b =>
      match b with
      | .len => match c.argTypes.toList with
        | [t] => match env.ty t with
          | some i => match i.slc, lenRes (c.args.toList.map ρ) with
            | some _, some i => pureV i
            | _, _ => none
          | none => none
        | _ => none
      | .min => match minRes (c.args.toList.map ρ) with
        | some i => pureV i
        | none => none
      | .max => match maxRes (c.args.toList.map ρ) with
        | some i => pureV i
        | none => none
      | .append => match c.argTypes.toList, c.args.toList with
        | [t, t'], [s, x] => if t = t' then
            match env.ty t with
            | some i => match i.slc with
              | some e => match env.ty e with
                | some ie => match ie.esq with
                  | some q => appRes m p ie q (ρ s) (ρ x)
                  | none => none
                | none => none
              | none => none
            | none => none
          else none
        | _, _ => none
      | .copy => match c.argTypes.toList with
        | [t, _] => match env.ty t with
          | some i => match i.slc with
            | some e => match env.ty e with
              | some ie => match ie.esq with
                | some q => match copyRes m q (c.args.toList.map ρ) with
                  | some (o, n, ups) => some ⟨o, .v (.c (.int .i64 n)), ups, none⟩
                  | none => none
                | none => none
              | none => none
            | none => none
          | none => none
        | _ => none
      | .clear => match c.argTypes.toList with
        | [t] => match env.ty t with
          | some i => match i.slc with
            | some e => match env.ty e with
              | some ie => match ie.esq with
                | some q => match clearRes m q (c.args.toList.map ρ) with
                  | some (o, ups) => some ⟨o, .top, ups, none⟩
                  | none => none
                | none => none
              | none => none
            | none => none
          | none => none
        | _ => none
      | _ => none
    | _ => none
  | _ => none

end Go.Proofs.Ytlfllehomhcbfaa
