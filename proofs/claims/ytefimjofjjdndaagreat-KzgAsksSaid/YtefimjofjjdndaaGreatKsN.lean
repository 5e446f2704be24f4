/- Parts of a proof, one behind the other: Rd. No conditions. -/
import Derived.Test.YtefimjofjjdndaaGreatKsM
open Go.IntKind (wrap)
namespace Go.Proofs.YtefimjofjjdndaaGreat
noncomputable section
section
open Go.ChangeShapes Go.WideShapes Go.ChangeAt Go.RowKit

theorem D3c:ownKnob Tryz.prog.godebug=none:=by kernel_rfl
theorem E8o:laidOutB Tryz.prog=true:=by kernel_rfl

theorem H3r (dp:Nat):Y7 Tryz.prog 32 dp fun its=>∃x:U4,its=[.ob (.fr x)]:=F3k Tryz.underlying32 (by kernel_rfl) Tryz.underlying22 dp
theorem G0z (dp:Nat):Y7 Tryz.prog 24 dp fun its=>∃x:U6,its=[.ob (.fp x)]:=F5f Tryz.underlying24 (by kernel_rfl) Tryz.underlying22 dp
theorem r_b (dp:Nat):Y7 Tryz.prog 4 dp fun its=>∃b,its=[.bool b]:=D5v Tryz.underlying4 dp
theorem H3b (dp:Nat):Y7 Tryz.prog 26 dp fun its=>∃g:G1D,its=g.its:=by
 intro H enc W fuel cs d ps h;obtain ⟨its,hc,hp⟩:=A0n Tryz.underlying26 (.cons (by kernel_rfl) (G0z dp) (.cons (by kernel_rfl) (G0z dp) (.cons (by kernel_rfl) (r_b dp) (.nil _)))) (by kernel_rfl) enc W fuel cs d ps h
 refine ⟨its,hc,?_⟩
 cases hp with | cons h1 hp=>cases hp with | cons h2 hp=>cases hp with | cons h3 hp=>
 cases hp
 obtain ⟨x,rfl⟩:=h1;obtain ⟨y,rfl⟩:=h2;obtain ⟨b,rfl⟩:=h3;exact ⟨⟨x,y,b⟩,rfl⟩

theorem G2v (dp:Nat):Y7 Tryz.prog 28 dp fun its=>∃x y:U6,its=[.ob (.fp x),.ob (.fp y)]:=by
 intro H enc W fuel cs d ps h;obtain ⟨its,hc,hp⟩:=A0n Tryz.underlying28 (.cons (by kernel_rfl) (G0z dp) (.cons (by kernel_rfl) (G0z dp) (.nil _))) (by kernel_rfl) enc W fuel cs d ps h
 refine ⟨its,hc,?_⟩
 cases hp with | cons h1 hp=>cases hp with | cons h2 hp=>
 cases hp
 obtain ⟨x,rfl⟩:=h1;obtain ⟨y,rfl⟩:=h2;exact ⟨x,y,rfl⟩

theorem H4i (dp:Nat):Y7 Tryz.prog 30 dp fun its=>∃g:G2D,its=g.its:=by
 intro H enc W fuel cs d ps h;obtain ⟨its,hc,hp⟩:=A0n Tryz.underlying30 (.cons (by kernel_rfl) (G2v dp) (.cons (by kernel_rfl) (G2v dp) (.cons (by kernel_rfl) (r_b dp) (.nil _)))) (by kernel_rfl) enc W fuel cs d ps h
 refine ⟨its,hc,?_⟩
 cases hp with | cons h1 hp=>cases hp with | cons h2 hp=>cases hp with | cons h3 hp=>
 cases hp
 obtain ⟨xa,xb,rfl⟩:=h1;obtain ⟨ya,yb,rfl⟩:=h2;obtain ⟨b,rfl⟩:=h3;exact ⟨⟨xa,xb,ya,yb,b⟩,rfl⟩

set_option maxRecDepth 100000 in
theorem H6o {W:World} {base:Nat} {v:Value} {H:Type} {enc:TypeId×Value->H} {d:DataW H} {ps:List MemPlace} (hv:Value.okWide Tryz.prog W .any base 30 v) (h:DataW.Trod enc Tryz.prog W 0 (fun _=>true) true 30 v d ps):∃g:G2D,B5 (X0 W) (.v (.a g.its)) v:=by
 obtain ⟨its,h1,g,rfl⟩:=E2r (H4i 0) (.inl ⟨_,Tryz.underlying30⟩) hv h;exact ⟨g,h1⟩

end

end
end Go.Proofs.YtefimjofjjdndaaGreat
