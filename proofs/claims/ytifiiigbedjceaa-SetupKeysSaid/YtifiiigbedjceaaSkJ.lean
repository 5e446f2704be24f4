/- Parts of a proof, one behind the other: Ex. No conditions. -/
import Derived.Laws.Externs
import Derived.Test.YtifiiigbedjceaaSkI
open Go.IntKind (wrap)
namespace Go.Proofs.Ytifiiigbedjceaa
noncomputable section
section
open Go.Extern.MathBitsCarry

def G4i:Array Value->Sem Value:=fun args=>do
  let (x, y, c) ← three "Add64" args
  pure (pair ((x+y+c) % m64) ((x+y+c) / m64))
def G7e:Array Value->Sem Value:=fun args=>do
  let (x, y, b) ← three "Sub64" args
  pure (pair ((x+m64-y-b) % m64) (if x<y+b then 1 else 0))

theorem E2w (P:Program) (x y c:Nat) (hc:c<=1) (w:World):(G4i #[.int .u64 x,.int .u64 y,.int .u64 c]).run P w = .ok (pair ((x+y+c) % m64) ((x+y+c) / m64)) w:=by
 have:c=0∨c=1:=by omega
 rcases this with rfl | rfl<;>rfl

theorem F0y (P:Program) (x y c:Nat) (hc:c<=1) (w:World):(G7e #[.int .u64 x,.int .u64 y,.int .u64 c]).run P w = .ok (pair ((x+m64-y-c) % m64) (if x<y+c then 1 else 0)) w:=by
 have:c=0∨c=1:=by omega
 rcases this with rfl | rfl<;>rfl

theorem E6y:m64=18446744073709551616:=by decide

theorem F9j {P : Program} {f : Nat} {fn : Func} (hf : P.funcs[f]? = some fn) (hname : (fn.name == "runtime.NumGoroutine") = false) (hb : fn.body.isNone = true) (hn : Extern.findNext fn = none)
    (he:Extern.find fn=some G4i) (x y c:Int) (w:World) (hx:0<=x) (hy:0<=y) (hc:0<=c) (hc1:c<=1) :
    (callFunc f #[.int .u64 x,.int .u64 y,.int .u64 c]).run P w = .ok (.value (.tuple #[.int .u64 (A2 0 x y c).1,.int .u64 (A2 0 x y c).2])) w:=by
  obtain ⟨x,rfl⟩:=Int.eq_ofNat_of_zero_le hx;obtain ⟨y,rfl⟩:=Int.eq_ofNat_of_zero_le hy;obtain ⟨c,rfl⟩:=Int.eq_ofNat_of_zero_le hc;rw[run_callFunc_extern hf hname hb hn he,E2w P x y c (by omega) w,E6y]
  show Result.ok (Next.value (.tuple #[.int .u64 (((x+y+c) % 18446744073709551616:Nat):Int),.int .u64 (((x+y+c) / 18446744073709551616:Nat):Int)])) w=_;simp [A2]

theorem F9k {P : Program} {f : Nat} {fn : Func} (hf : P.funcs[f]? = some fn) (hname : (fn.name == "runtime.NumGoroutine") = false) (hb : fn.body.isNone = true) (hn : Extern.findNext fn = none)
    (he:Extern.find fn=some G7e) (x y c:Int) (w:World) (hx:0<=x) (hy:0<=y) (hy1:y<18446744073709551616) (hc:0<=c) (hc1:c<=1) :
    (callFunc f #[.int .u64 x,.int .u64 y,.int .u64 c]).run P w = .ok (.value (.tuple #[.int .u64 (A2 1 x y c).1,.int .u64 (A2 1 x y c).2])) w:=by
  obtain ⟨x,rfl⟩:=Int.eq_ofNat_of_zero_le hx;obtain ⟨y,rfl⟩:=Int.eq_ofNat_of_zero_le hy;obtain ⟨c,rfl⟩:=Int.eq_ofNat_of_zero_le hc;rw[run_callFunc_extern hf hname hb hn he,F0y P x y c (by omega) w,E6y]
  show Result.ok (Next.value (.tuple #[.int .u64 (((x+18446744073709551616-y-c) % 18446744073709551616:Nat):Int),.int .u64 (((if x<y+c then 1 else 0):Nat):Int)])) w=_
  have e1:(((x+18446744073709551616-y-c) % 18446744073709551616:Nat):Int)=((x:Int)-y-c) % 18446744073709551616:=by omega
  have e2:(((if x<y+c then 1 else 0):Nat):Int)=if (x:Int)<(y:Int)+(c:Int) then 1 else 0:=by
    by_cases h:x<y+c
    · rw[if_pos h,if_pos (by omega)];rfl
    · rw[if_neg h,if_neg (by omega)];rfl
  rw[e1,e2];rfl

end

end
end Go.Proofs.Ytifiiigbedjceaa
