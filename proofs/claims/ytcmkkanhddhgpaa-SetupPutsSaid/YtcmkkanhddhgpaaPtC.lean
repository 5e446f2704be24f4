/- Parts of a proof, one behind the other: Nb. No conditions. -/
import Derived.Lib.BitFns
import Derived.Test.YtcmkkanhddhgpaaPtB
/- Numbers by limbs and by bits: the plain law. No conditions. -/
namespace Go.Proofs.Ytcmkkanhddhgpaa

def b2n (b:Bool):Nat:=if b then 1 else 0
/-- The number that bits tell. -/
def pv (l:List Bool):Nat:=l.foldl (fun v b=>2*v+b2n b) 0
end Go.Proofs.Ytcmkkanhddhgpaa
