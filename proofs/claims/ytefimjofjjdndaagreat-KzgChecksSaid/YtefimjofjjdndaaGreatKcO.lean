/- Parts of a proof, one behind the other: Rd. No conditions. -/
import Derived.Test.YtefimjofjjdndaaGreatKcN
open Go.IntKind (wrap)
namespace Go.Proofs.YtefimjofjjdndaaGreat
noncomputable section
section
open Go.ChangeShapes Go.WideShapes Go.ChangeAt Go.RowKit

theorem D6g:ownKnob Tryz.prog.godebug=none:=by kernel_rfl
theorem F5g:laidOutB Tryz.prog=true:=by kernel_rfl

theorem I5p (dp:Nat):B8a Tryz.prog 32 dp fun its=>∃x:U4,its=[.ob (.fr x)]:=F9q Tryz.underlying32 (by kernel_rfl) Tryz.underlying22 dp
set_option maxRecDepth 100000 in
theorem F0e {W:World} {base:Nat} {v:Value} {H:Type} {enc:TypeId×Value->H} {d:DataW H} {ps:List MemPlace} (hv:Value.okWide Tryz.prog W .any base 32 v) (h:DataW.Trod enc Tryz.prog W 0 (fun _=>true) true 32 v d ps):∃x,B9 (X0 W) (.v (.a [.ob (.fr x)])) v:=by
 obtain ⟨its,h1,x,rfl⟩:=G2g (I5p 0) (.inr ⟨_,_,Tryz.underlying32⟩) hv h;exact ⟨x,h1⟩

end

end
end Go.Proofs.YtefimjofjjdndaaGreat
