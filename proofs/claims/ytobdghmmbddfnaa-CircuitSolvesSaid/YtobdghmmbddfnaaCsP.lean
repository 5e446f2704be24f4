/- Parts of a proof, one behind the other: Rd. No conditions. -/
import Derived.Test.YtobdghmmbddfnaaCsO
open Go.IntKind (wrap)
namespace Go.Proofs.Ytobdghmmbddfnaa
noncomputable section
section
open Go.ChangeShapes Go.WideShapes Go.ChangeAt Go.RowKit

theorem ownKnob_try:ownKnob Try.prog.godebug=none:=by kernel_rfl
theorem laid_try:laidOutB Try.prog=true:=by kernel_rfl

theorem r_fr (dp:Nat):Reads Try.prog 36 dp fun its=>∃x:U4,its=[.ob (.fr x)]:=reads_fr Try.underlying36 (by kernel_rfl) Try.underlying34 dp
theorem r_i (dp:Nat):Reads Try.prog 3 dp fun its=>∃n,its=[.int .i64 n]∧(Lit.int .i64 n).wf=true:=reads_int Try.underlying3 dp


theorem r_frs (dp:Nat):Reads Try.prog 33 (dp+1) fun its=>∃l,its=[.sl (.fr l)]∧l.length≤maxLen:=
 reads_slice (f:=fun x=>[.ob (.fr x)]) Try.underlying33 (by kernel_rfl) (r_fr dp) .fr (fun _=>rfl) (fun _=>by kernel_rfl) (fun l i a hi=>by simp [Sq.get,List.getD,hi])

set_option maxRecDepth 100000 in
theorem a_frs {W:World} {base:Nat} {v:Value} {H:Type} {enc:TypeId×Value→H} {d:DataW H} {ps:List MemPlace} (hv:Value.okWide Try.prog W .any base 33 v) (h:DataW.Trod enc Try.prog W 0 (fun _=>true) true 33 v d ps):∃l,denS (X0 W) (.v (.c (.sl (.fr l)))) v∧l.length≤maxLen:=
 arg_slice (mk:=Sq.fr) Try.underlying33 (r_frs 0) hv h

end

end
end Go.Proofs.Ytobdghmmbddfnaa
