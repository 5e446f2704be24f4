/- Parts of a proof, one behind the other: Ex. No conditions. -/
import Derived.Laws.Externs
import Derived.Test.YtifiiigbedjceaaGreatTuI
open Go.IntKind (wrap)
namespace Go.Proofs.YtifiiigbedjceaaGreat
noncomputable section
section
open Go.Extern.MathBitsCarry
def D7x:Array Value->Sem Value:=fun args=>do
  let (x, y, c) ← three "Add64" args
  pure (pair ((x+y+c) % m64) ((x+y+c) / m64))
def E1b:Array Value->Sem Value:=fun args=>do
  let (x, y, b) ← three "Sub64" args
  pure (pair ((x+m64-y-b) % m64) (if x<y+b then 1 else 0))
theorem B1f(P:Program)(x y c:Nat)(hc:c<=1)(w:World):(D7x #[.int .u64 x,.int .u64 y,.int .u64 c]).run P w = .ok (pair ((x+y+c) % m64) ((x+y+c) / m64)) w:=by
 have:c=0∨c=1:=by omega
 rcases this with rfl | rfl<;>rfl
theorem C0l(P:Program)(x y c:Nat)(hc:c<=1)(w:World):(E1b #[.int .u64 x,.int .u64 y,.int .u64 c]).run P w = .ok (pair ((x+m64-y-c) % m64) (if x<y+c then 1 else 0)) w:=by
 have:c=0∨c=1:=by omega
 rcases this with rfl | rfl<;>rfl
theorem B5d:m64=18446744073709551616:=by decide
theorem D1o {P : Program} {f : Nat} {fn : Func} (hf : P.funcs[f]? = some fn) (hname : (fn.name == "runtime.NumGoroutine") = false) (hb : fn.body.isNone = true) (hn : Extern.findNext fn = none)
    (he:Extern.find fn=some D7x) (x y c:Int) (w:World) (hx:0<=x) (hy:0<=y) (hc:0<=c) (hc1:c<=1) :
    (callFunc f #[.int .u64 x,.int .u64 y,.int .u64 c]).run P w = .ok (.value (.tuple #[.int .u64 (A3 0 x y c).1,.int .u64 (A3 0 x y c).2])) w:=by
  obtain ⟨x,rfl⟩:=Int.eq_ofNat_of_zero_le hx;obtain ⟨y,rfl⟩:=Int.eq_ofNat_of_zero_le hy;obtain ⟨c,rfl⟩:=Int.eq_ofNat_of_zero_le hc;rw[run_callFunc_extern hf hname hb hn he,B1f P x y c (by omega) w,B5d]
  show Result.ok (Next.value (.tuple #[.int .u64 (((x+y+c) % 18446744073709551616:Nat):Int),.int .u64 (((x+y+c) / 18446744073709551616:Nat):Int)])) w=_;simp [A3]
theorem D1p {P : Program} {f : Nat} {fn : Func} (hf : P.funcs[f]? = some fn) (hname : (fn.name == "runtime.NumGoroutine") = false) (hb : fn.body.isNone = true) (hn : Extern.findNext fn = none)
    (he:Extern.find fn=some E1b) (x y c:Int) (w:World) (hx:0<=x) (hy:0<=y) (hy1:y<18446744073709551616) (hc:0<=c) (hc1:c<=1) :
    (callFunc f #[.int .u64 x,.int .u64 y,.int .u64 c]).run P w = .ok (.value (.tuple #[.int .u64 (A3 1 x y c).1,.int .u64 (A3 1 x y c).2])) w:=by
  obtain ⟨x,rfl⟩:=Int.eq_ofNat_of_zero_le hx;obtain ⟨y,rfl⟩:=Int.eq_ofNat_of_zero_le hy;obtain ⟨c,rfl⟩:=Int.eq_ofNat_of_zero_le hc;rw[run_callFunc_extern hf hname hb hn he,C0l P x y c (by omega) w,B5d]
  show Result.ok (Next.value (.tuple #[.int .u64 (((x+18446744073709551616-y-c) % 18446744073709551616:Nat):Int),.int .u64 (((if x<y+c then 1 else 0):Nat):Int)])) w=_
  have e1:(((x+18446744073709551616-y-c) % 18446744073709551616:Nat):Int)=((x:Int)-y-c) % 18446744073709551616:=by omega
  have e2:(((if x<y+c then 1 else 0):Nat):Int)=if (x:Int)<(y:Int)+(c:Int) then 1 else 0:=by
    by_cases h:x<y+c
    · rw[if_pos h,if_pos (by omega)];rfl
    · rw[if_neg h,if_neg (by omega)];rfl
  rw[e1,e2];rfl
end
end
end Go.Proofs.YtifiiigbedjceaaGreat
