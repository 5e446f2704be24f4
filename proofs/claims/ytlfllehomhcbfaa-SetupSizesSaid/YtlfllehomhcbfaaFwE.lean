/- The executor: regions, in whatever order where that is safe, and code, step by step. Definitions alone; no conditions. -/
import Derived.Test.YtlfllehomhcbfaaFwC
namespace Go.Proofs.Ytlfllehomhcbfaa

def scrubIt (p : Nat) : It → It
  | .slc q off len es => if q = p then .dead else .slc q off len es
  | .ptr q off => if q = p then .dead else .ptr q off
  | .ep q es i off => if q = p then .dead else .ep q es i off
  | .mp q => if q = p then .dead else .mp q
  | .clo f c => if c.any (fun a => a.1 == p) then .dead else .clo f c
  | i => i
def scrubV (p : Nat) : V1 → V1
  | .c i => .c (scrubIt p i)
  | .a l => .a (l.map (scrubIt p))
def scrubS (p : Nat) : SV → SV
  | .v v => .v (scrubV p v)
  | .t l => .t (l.map (scrubV p))
  | .top => .top
def scrubEn (p : Nat) : En → En
  | .fl l => .fl (l.map (scrubIt p))
  | .sq q => .sq q

def killT (t : Nat → SV) : Option Nat → Nat → SV
  | none => t
  | some p => fun x => scrubS p (t x)
def killM (m : Nat → Option En) : Option Nat → Nat → Option En
  | none => m
  | some p => fun x => (m x).map (scrubEn p)

def killF (fr : List ((Nat → SV) × Nat)) : Option Nat → List ((Nat → SV) × Nat)
  | none => fr
  | some p => fr.map fun q => (killT q.1 (some p), q.2)

def setT (t : Nat → SV) (d : Nat) (v : SV) : Nat → SV := fun x => if x = d then v else t x

/-- Every block that is written is there; every other one is new and stands in its room. -/
def upsOk (al : Nat → Bool) (m : Nat → Option En) (p : Nat) : List (Nat × En) → Bool
  | [] => true
  | (q, _) :: l => (match m q with | some _ => al q | none => Nat.ble p q && Nat.blt q (p + 16)) && upsOk al m p l

/-- The slots that tell whether later operations are wanted. -/
def deciders (ops : List Oper) : List Oper → List Nat
  | [] => []
  | o :: l => match o.guard with
    | some (j, _) => match (ops[j]?).bind (·.dst) with
      | some d => let r := deciders ops l; if r.contains d then r else d :: r
      | none => deciders ops l
    | none => deciders ops l

def assignDec : List Nat → List Bool → Option (List (Nat × Bool) × List Bool)
  | [], p => some ([], p)
  | _ :: _, [] => none
  | d :: l, b :: p => match assignDec l p with
    | some (r, p) => some ((d, b) :: r, p)
    | none => none

def lookDec (d : Nat) : List (Nat × Bool) → Option Bool
  | [] => none
  | (e, b) :: l => if e = d then some b else lookDec d l

/-- A slot's value, decided where it is to be. -/
def decideV (dec : List (Nat × Bool)) (d : Nat) (v : SV) : List Prop × SV :=
  match v with
  | .v (.c (.bool b)) => match lookDec d dec with
    | some x => ([b = x], .v (.c (.lit x)))
    | none => ([], .v (.c (.bool b)))
  | v => ([], v)

/-- One operation on the state. -/
def opDo (env : Env) (al : Nat → Bool) (dec : List (Nat × Bool)) (p : Nat) (o : Oper) (σ : St) : Option (List Prop × St) :=
  match opRes env σ.ev (fun q => if al q then σ.m q else none) p o with
  | none => none
  | some r =>
    if upsOk al σ.m p r.ups then
      match o.dst with
      | none => some (r.obl, { σ with t := killT σ.t r.kill, m := setsM (killM σ.m r.kill) r.ups, fr := killF σ.fr r.kill })
      | some d => if d < σ.nt then
          match decideV dec d r.val with
          | (o', v) => some (o' ++ r.obl, { σ with t := setT (killT σ.t r.kill) d v, m := setsM (killM σ.m r.kill) r.ups, fr := killF σ.fr r.kill })
        else none
    else none

/-- One operation of a region, if it is wanted. -/
def opStep (env : Env) (al : Nat → Bool) (dec : List (Nat × Bool)) (ops : List Oper) (p : Nat) (o : Oper) (σ : St) : Option (List Prop × St) :=
  match o.guard with
  | none => opDo env al dec p o σ
  | some (j, want) => match (ops[j]?).bind (·.dst) with
    | none => none
    | some d => match σ.t d with
      | .v (.c (.lit b)) => if b == want then opDo env al dec p o σ else
          match o.dst with
          | some e => if e < σ.nt then some ([], { σ with t := setT σ.t e .top }) else none
          | none => some ([], σ)
      | _ => none

/-! Regions whose order is open. -/
def ancFold (acc : List Nat) : List Edge → Nat
  | [] => 0
  | e :: l => if Region.binds .any e then 2 ^ e.on ||| acc.getD e.on 0 ||| ancFold acc l else ancFold acc l

def ancOf (acc : List Nat) (o : Oper) : Nat := ancFold acc o.after.toList

def ancs : List Oper → List Nat → List Nat
  | [], acc => acc
  | o :: l, acc => ancs l (acc ++ [ancOf acc o])

/-- 0: no memory · 1: reads · 2: makes · 3: writes · 4: anything · 5: reads and makes. -/
def mcls (env : Env) (o : Oper) : Nat :=
  match o.op with
  | .move _ | .assign _ | .pick _ _ _ | .build _ _ | .fieldAddr _ _ _ | .field _ _ _ | .extract _ _ | .unOp _ _ _ | .convert _ _ _ | .binOp _ _ _ _ _ | .index _ _ _ | .nilCheck _ | .makeFunc _ _ _ => 0
  | .load _ _ | .indexAddr _ _ _ | .slice _ _ _ _ _ => 1
  | .alloc _ | .box _ _ | .buildSlice _ _ _ | .makeSlice _ _ _ => 2
  | .store _ _ _ => 3
  | .call c => match c.callee with
    | .builtin .len | .builtin .min | .builtin .max => 0
    | .value (.func f) => match env.fn f with
      | some _ => 5
      | none => 4
    | _ => 4
  | _ => 4

def clash (a b : Nat) : Bool :=
  match a, b with
  | 4, _ => true
  | _, 4 => true
  | 3, 1 => true
  | 1, 3 => true
  | 3, 3 => true
  | 3, 5 => true
  | 5, 3 => true
  | _, _ => false

def conflict (env : Env) (ops : Array Oper) (x y : Oper) : Bool := !(x.apart ops y) || clash (mcls env x) (mcls env y)

def okWith (env : Env) (ops : Array Oper) (o : Oper) (anc : Nat) : List Oper → Nat → Bool
  | [], _ => true
  | x :: l, k => (anc.testBit k || !(conflict env ops x o)) && okWith env ops o anc l (k + 1)

def edgesOk (i : Nat) (o : Oper) : Bool := o.after.toList.all fun e => !(Region.binds .any e) || Nat.blt e.on i

def drawOk (env : Env) (ops : Array Oper) (anc : List Nat) : List Oper → Nat → Bool
  | [], _ => true
  | o :: l, i => edgesOk i o && Nat.beq (anc.getD i 0) (ancOf anc o) && okWith env ops o (anc.getD i 0) (ops.toList.take i) 0 && drawOk env ops anc l (i + 1)

/-- What an operation of such a region may look at: what was there, and what its own forerunners made. -/
def alOf (lo anc p : Nat) (q : Nat) : Bool := Nat.blt q p && (Nat.blt q lo || anc.testBit ((q - lo) / 16))

def drawRun (env : Env) (dec : List (Nat × Bool)) (ops : List Oper) (anc : List Nat) (lo : Nat) : List (Nat × Oper) → St → Option (List Prop × St)
  | [], σ => some ([], σ)
  | (i, o) :: l, σ =>
    match opStep env (alOf lo (anc.getD i 0) (lo + 16 * i)) dec ops (lo + 16 * i) o σ with
    | some (ob, σ) => match drawRun env dec ops anc lo l σ with
      | some (ob', σ) => some (ob ++ ob', σ)
      | none => none
    | none => none

def withIx : Nat → List Oper → List (Nat × Oper)
  | _, [] => []
  | i, o :: l => (i, o) :: withIx (i + 1) l

/-! Code. -/
def argT : List SV → Nat → SV
  | [], _ => .top
  | a :: _, 0 => a
  | _ :: l, n + 1 => argT l n

/-- The state in which a function begins. -/
def initSt (nt : Nat) (args : List SV) : St := ⟨argT args, fun _ => none, nt, 0, []⟩

/-- What a function tells at its end. -/
def resSV (env : Env) (σ : St) : List ResultVar → Option (List Prop × List V1)
  | [] => some ([], [])
  | .tmp t :: l => match σ.t t, resSV env σ l with
    | .v v, some (o, r) => some (o, v :: r)
    | _, _ => none
  | .cell a t :: l => match env.ty t with
    | some i => match loadRes σ.m (σ.t a) i, resSV env σ l with
      | some (o, v), some (o', r) => some (o ++ o', v :: r)
      | _, _ => none
    | none => none

def tupSV : List V1 → SV
  | [v] => .v v
  | l => .t l

/-- A call that is stepped into. -/
def inlOf (env : Env) (σ : St) (o : Oper) : Option (Func × Code × List SV) :=
  match o.op with
  | .call c => match c.callee with
    | .value f => match σ.ev f with
      | .v (.c (.clo g caps)) => match env.fn g, env.mu g, env.inl g with
        | none, none, some fn => match fn.body with
          | some b => some (fn, b, c.args.toList.map σ.ev ++ caps.map fun x => .v (.c (.ptr x.1 x.2)))
          | none => none
        | _, _, _ => none
      | _ => none
    | _ => none
  | _ => none

def isWanted : Option Bool → Bool
  | some b => b
  | none => false

def guardOf (ops : List Oper) (o : Oper) (t : Nat → SV) : Option Bool :=
  match o.guard with
  | none => some true
  | some (j, want) => match (ops[j]?).bind (·.dst) with
    | none => none
    | some d => match t d with
      | .v (.c (.lit b)) => some (b == want)
      | _ => none

def dstOk (d : Option Nat) (nt : Nat) : Bool :=
  match d with
  | some d => Nat.blt d nt
  | none => true

/-- Back from a call that was stepped into. -/
def frBack (env : Env) (σ : St) (fn : Func) (dst : Option Nat) (dec : List (Nat × Bool)) : Option (List Prop × St) :=
  match resSV env σ fn.results.toList, σ.fr with
  | some (ob, r), (tS, ntS) :: fr =>
    match dst with
    | none => some (ob, { t := tS, m := σ.m, nt := ntS, nx := σ.nx, fr := fr })
    | some d => if d < ntS then
        match decideV dec d (tupSV r) with
        | (o', v) => some (o' ++ ob, { t := setT tS d v, m := σ.m, nt := ntS, nx := σ.nx, fr := fr })
      else none
  | _, _ => none

inductive KI where
  | code (c : Code)
  | blk (id : Nat)
  | lp (c : Code)
  | ops (l : Array Oper) (i : Nat) (dec : List (Nat × Bool))
  | fr (fn : Func) (dst : Option Nat) (dec : List (Nat × Bool))

structure Cfg where
  k : List KI
  x : Exit
  σ : St

structure Out where
  obl : List Prop
  path : List Bool
  cfg : Cfg

def stepN (env : Env) (unroll : Bool) (k : List KI) (σ : St) (path : List Bool) (c : Code) : Option Out :=
  match c with
  | .skip => some ⟨[], path, ⟨k, .normal, σ⟩⟩
  | .seq a b => some ⟨[], path, ⟨.code a :: .code b :: k, .normal, σ⟩⟩
  | .block id c => some ⟨[], path, ⟨.code c :: .blk id :: k, .normal, σ⟩⟩
  | .loop c => if unroll then some ⟨[], path, ⟨.code c :: .lp c :: k, .normal, σ⟩⟩ else none
  | .exit id => some ⟨[], path, ⟨k, .exit id, σ⟩⟩
  | .ret => some ⟨[], path, ⟨k, .ret, σ⟩⟩
  | .cond o a b => match σ.ev o with
    | .v (.c (.lit d)) => some ⟨[], path, ⟨.code (if d then a else b) :: k, .normal, σ⟩⟩
    | .v (.c (.bool b')) => match path with
      | d :: path => some ⟨[b' = d], path, ⟨.code (if d then a else b) :: k, .normal, σ⟩⟩
      | [] => none
    | _ => none
  | .region _ ops draw =>
    match assignDec (deciders ops.toList ops.toList) path with
    | none => none
    | some (dec, path) =>
      if draw then
        let anc := ancs ops.toList []
        if drawOk env ops anc ops.toList 0 then
          match drawRun env dec ops.toList anc σ.nx (withIx 0 ops.toList) σ with
          | some (ob, σ') => some ⟨ob, path, ⟨k, .normal, { σ' with nx := σ.nx + 16 * ops.size }⟩⟩
          | none => none
        else none
      else some ⟨[], path, ⟨.ops ops 0 dec :: k, .normal, σ⟩⟩
  | _ => none

def step (env : Env) (unroll : Bool) (c : Cfg) (path : List Bool) : Option Out :=
  match c.x, c.k with
  | .normal, .code c' :: k => stepN env unroll k c.σ path c'
  | .normal, .blk _ :: k => some ⟨[], path, ⟨k, .normal, c.σ⟩⟩
  | .normal, .lp c' :: k => if unroll then some ⟨[], path, ⟨.code c' :: .lp c' :: k, .normal, c.σ⟩⟩ else none
  | .normal, .ops ops i dec :: k =>
    match ops[i]? with
    | some o =>
      match inlOf env c.σ o, isWanted (guardOf ops.toList o c.σ.t) with
      | some (fn, b, args), true =>
        if Nat.ble args.length fn.ntmps then
          some ⟨[], path, ⟨.code b :: .fr fn o.dst dec :: .ops ops (i + 1) dec :: k, .normal, { t := argT args, m := c.σ.m, nt := fn.ntmps, nx := c.σ.nx, fr := (c.σ.t, c.σ.nt) :: c.σ.fr }⟩⟩
        else none
      | _, _ =>
        match opStep env (fun q => Nat.blt q c.σ.nx) dec ops.toList c.σ.nx o c.σ with
        | some (ob, σ) => some ⟨ob, path, ⟨.ops ops (i + 1) dec :: k, .normal, { σ with nx := c.σ.nx + 16 }⟩⟩
        | none => none
    | none => some ⟨[], path, ⟨k, .normal, c.σ⟩⟩
  | .normal, .fr fn dst dec :: k => match frBack env c.σ fn dst dec with
    | some (ob, σ) => some ⟨ob, path, ⟨k, .normal, σ⟩⟩
    | none => none
  | .ret, .fr fn dst dec :: k => match frBack env c.σ fn dst dec with
    | some (ob, σ) => some ⟨ob, path, ⟨k, .normal, σ⟩⟩
    | none => none
  | .exit id, .blk id' :: k => if id' = id then some ⟨[], path, ⟨k, .normal, c.σ⟩⟩ else some ⟨[], path, ⟨k, .exit id, c.σ⟩⟩
  | .exit id, .code _ :: k => some ⟨[], path, ⟨k, .exit id, c.σ⟩⟩
  | .exit id, .lp _ :: k => some ⟨[], path, ⟨k, .exit id, c.σ⟩⟩
  | .ret, .code _ :: k => some ⟨[], path, ⟨k, .ret, c.σ⟩⟩
  | .ret, .blk _ :: k => some ⟨[], path, ⟨k, .ret, c.σ⟩⟩
  | .ret, .lp _ :: k => some ⟨[], path, ⟨k, .ret, c.σ⟩⟩
  | _, _ => none

/-- So many steps at most; it stops where no step is known. -/
def run (env : Env) (unroll : Bool) : Nat → Cfg → List Bool → Out
  | 0, c, path => ⟨[], path, c⟩
  | n + 1, c, path => match step env unroll c path with
    | none => ⟨[], path, c⟩
    | some r => match run env unroll n r.cfg r.path with
      | ⟨ob, path, c⟩ => ⟨r.obl ++ ob, path, c⟩

/-- A function without loops, on its arguments. -/
def evFn (env : Env) (fn : Func) (n : Nat) (args : List SV) (path : List Bool) : Option (List Prop × List Bool × SV × St) :=
  match fn.body with
  | some c => match run env true n ⟨[.code c], .normal, initSt fn.ntmps args⟩ path with
    | ⟨ob, path, ⟨[], .ret, σ⟩⟩ => match resSV env σ fn.results.toList with
      | some (o, r) => some (ob ++ o, path, tupSV r, σ)
      | none => none
    | _ => none
  | none => none

end Go.Proofs.Ytlfllehomhcbfaa
