/- Parts of a proof, one behind the other: Ro. No conditions. -/
import Derived.Test.YtefimjofjjdndaaGreatKsP
open Go.IntKind (wrap)
namespace Go.Proofs.YtefimjofjjdndaaGreat
noncomputable section
section
open Go.ChangeShapes Go.WideShapes Go.ChangeAt Go.RowKit

theorem H6s (dp:Nat):Y7 Tryz.prog 59 dp fun its=>∃(a b:G1D) (k l:U4),its=A7s a b k l:=by
 intro H enc W fuel cs d ps h;obtain ⟨its,hc,hp⟩:=A0n Tryz.underlying59 (.cons (by kernel_rfl) (H3b dp) (.cons (by kernel_rfl) (H3r dp) (.cons (by kernel_rfl) (H3r dp) (.cons (by kernel_rfl) (H3b dp) (.nil _))))) (by kernel_rfl) enc W fuel cs d ps h
 refine ⟨its,hc,?_⟩
 cases hp with | cons h1 hp=>cases hp with | cons h2 hp=>cases hp with | cons h3 hp=>cases hp with | cons h4 hp=>
 cases hp
 obtain ⟨a,rfl⟩:=h1;obtain ⟨k,rfl⟩:=h2;obtain ⟨l,rfl⟩:=h3;obtain ⟨b,rfl⟩:=h4;exact ⟨a,b,k,l,rfl⟩
set_option maxRecDepth 100000 in
theorem H6y {W:World} {base:Nat} {v:Value} {H:Type} {enc:TypeId×Value->H} {d:DataW H} {ps:List MemPlace} (hv:Value.okWide Tryz.prog W .any base 59 v) (h:DataW.Trod enc Tryz.prog W 0 (fun _=>true) true 59 v d ps):∃(a b:G1D) (k l:U4),B5 (X0 W) (.v (.a (A7s a b k l))) v:=by
 obtain ⟨its,h1,a,b,k,l,rfl⟩:=E2r (H6s 0) (.inl ⟨_,Tryz.underlying59⟩) hv h;exact ⟨a,b,k,l,h1⟩
end

end
end Go.Proofs.YtefimjofjjdndaaGreat
