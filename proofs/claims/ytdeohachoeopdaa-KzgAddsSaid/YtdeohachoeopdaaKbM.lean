/- Parts of a proof, one behind the other: Rd, Rs. No conditions. -/
import Derived.Test.YtdeohachoeopdaaKbL
/- How this seat's arguments are read. No conditions. -/
namespace Go.Proofs.Ytdeohachoeopdaa
open Go.ChangeShapes Go.WideShapes Go.ChangeAt Go.RowKit

theorem ownKnob_try:ownKnob Try.prog.godebug=none:=by kernel_rfl
theorem laid_try:laidOutB Try.prog=true:=by kernel_rfl

theorem r_fr (dp:Nat):Reads Try.prog 24 dp fun its=>∃x:U4,its=[.ob (.fr x)]:=reads_fr Try.underlying24 (by kernel_rfl) Try.underlying22 dp
set_option maxRecDepth 100000 in
theorem a_fr {W:World} {base:Nat} {v:Value} {H:Type} {enc:TypeId×Value→H} {d:DataW H} {ps:List MemPlace} (hv:Value.okWide Try.prog W .any base 24 v) (h:DataW.Trod enc Try.prog W 0 (fun _=>true) true 24 v d ps):∃x,denS (X0 W) (.v (.a [.ob (.fr x)])) v:=by
  obtain ⟨its,h1,x,rfl⟩:=arg_agg (r_fr 0) (.inr ⟨_,_,Try.underlying24⟩) hv h
  exact ⟨x,h1⟩

end Go.Proofs.Ytdeohachoeopdaa

/- How slices among this seat's arguments are read. No conditions. -/
namespace Go.Proofs.Ytdeohachoeopdaa
open Go.ChangeShapes Go.WideShapes Go.ChangeAt Go.RowKit

theorem r_frs (dp:Nat):Reads Try.prog 48 (dp+1) fun its=>∃l,its=[.sl (.fr l)]∧l.length≤maxLen:=
  reads_slice (f:=fun x=>[.ob (.fr x)]) Try.underlying48 (by kernel_rfl) (r_fr dp) .fr (fun _=>rfl) (fun _=>by kernel_rfl) (fun l i a hi=>by simp [Sq.get,List.getD,hi])

set_option maxRecDepth 100000 in
theorem a_frs {W:World} {base:Nat} {v:Value} {H:Type} {enc:TypeId×Value→H} {d:DataW H} {ps:List MemPlace} (hv:Value.okWide Try.prog W .any base 48 v) (h:DataW.Trod enc Try.prog W 0 (fun _=>true) true 48 v d ps):∃l,denS (X0 W) (.v (.c (.sl (.fr l)))) v∧l.length≤maxLen:=
  arg_slice (mk:=Sq.fr) Try.underlying48 (r_frs 0) hv h

end Go.Proofs.Ytdeohachoeopdaa
