/- Parts of a proof, one behind the other: Rd. No conditions. -/
import Derived.Test.YtefimjofjjdndaaGreatPmN
open Go.IntKind (wrap)
namespace Go.Proofs.YtefimjofjjdndaaGreat
noncomputable section
section
open Go.ChangeShapes Go.WideShapes Go.ChangeAt Go.RowKit

theorem ownKnob_try:ownKnob Tryz.prog.godebug=none:=by kernel_rfl
theorem laid_try:laidOutB Tryz.prog=true:=by kernel_rfl

theorem r_fr (dp:Nat):Reads Tryz.prog 32 dp fun its=>∃x:U4,its=[.ob (.fr x)]:=reads_fr Tryz.underlying32 (by kernel_rfl) Tryz.underlying22 dp
theorem r_fp (dp:Nat):Reads Tryz.prog 24 dp fun its=>∃x:U6,its=[.ob (.fp x)]:=reads_fp Tryz.underlying24 (by kernel_rfl) Tryz.underlying22 dp
theorem r_b (dp:Nat):Reads Tryz.prog 4 dp fun its=>∃b,its=[.bool b]:=reads_bool Tryz.underlying4 dp
theorem r_g1 (dp:Nat):Reads Tryz.prog 26 dp fun its=>∃g:G1D,its=g.its:=by
 intro H enc W fuel cs d ps h
 obtain ⟨its,hc,hp⟩:=reads_struct Tryz.underlying26 (.cons (by kernel_rfl) (r_fp dp) (.cons (by kernel_rfl) (r_fp dp) (.cons (by kernel_rfl) (r_b dp) (.nil _)))) (by kernel_rfl) enc W fuel cs d ps h
 refine ⟨its,hc,?_⟩
 cases hp with | cons h1 hp=>cases hp with | cons h2 hp=>cases hp with | cons h3 hp=>
 cases hp
 obtain ⟨x,rfl⟩:=h1
 obtain ⟨y,rfl⟩:=h2
 obtain ⟨b,rfl⟩:=h3
 exact ⟨⟨x,y,b⟩,rfl⟩

theorem r_fp2 (dp:Nat):Reads Tryz.prog 28 dp fun its=>∃x y:U6,its=[.ob (.fp x),.ob (.fp y)]:=by
 intro H enc W fuel cs d ps h
 obtain ⟨its,hc,hp⟩:=reads_struct Tryz.underlying28 (.cons (by kernel_rfl) (r_fp dp) (.cons (by kernel_rfl) (r_fp dp) (.nil _))) (by kernel_rfl) enc W fuel cs d ps h
 refine ⟨its,hc,?_⟩
 cases hp with | cons h1 hp=>cases hp with | cons h2 hp=>
 cases hp
 obtain ⟨x,rfl⟩:=h1
 obtain ⟨y,rfl⟩:=h2
 exact ⟨x,y,rfl⟩

theorem r_g2 (dp:Nat):Reads Tryz.prog 30 dp fun its=>∃g:G2D,its=g.its:=by
 intro H enc W fuel cs d ps h
 obtain ⟨its,hc,hp⟩:=reads_struct Tryz.underlying30 (.cons (by kernel_rfl) (r_fp2 dp) (.cons (by kernel_rfl) (r_fp2 dp) (.cons (by kernel_rfl) (r_b dp) (.nil _)))) (by kernel_rfl) enc W fuel cs d ps h
 refine ⟨its,hc,?_⟩
 cases hp with | cons h1 hp=>cases hp with | cons h2 hp=>cases hp with | cons h3 hp=>
 cases hp
 obtain ⟨xa,xb,rfl⟩:=h1
 obtain ⟨ya,yb,rfl⟩:=h2
 obtain ⟨b,rfl⟩:=h3
 exact ⟨⟨xa,xb,ya,yb,b⟩,rfl⟩

set_option maxRecDepth 100000 in
theorem a_fr {W:World} {base:Nat} {v:Value} {H:Type} {enc:TypeId×Value→H} {d:DataW H} {ps:List MemPlace} (hv:Value.okWide Tryz.prog W .any base 32 v) (h:DataW.Trod enc Tryz.prog W 0 (fun _=>true) true 32 v d ps):∃x,denS (X0 W) (.v (.a [.ob (.fr x)])) v:=by
 obtain ⟨its,h1,x,rfl⟩:=arg_agg (r_fr 0) (.inr ⟨_,_,Tryz.underlying32⟩) hv h
 exact ⟨x,h1⟩

set_option maxRecDepth 100000 in
theorem a_g1 {W:World} {base:Nat} {v:Value} {H:Type} {enc:TypeId×Value→H} {d:DataW H} {ps:List MemPlace} (hv:Value.okWide Tryz.prog W .any base 26 v) (h:DataW.Trod enc Tryz.prog W 0 (fun _=>true) true 26 v d ps):∃g:G1D,denS (X0 W) (.v (.a g.its)) v:=by
 obtain ⟨its,h1,g,rfl⟩:=arg_agg (r_g1 0) (.inl ⟨_,Tryz.underlying26⟩) hv h
 exact ⟨g,h1⟩

set_option maxRecDepth 100000 in
theorem a_g2 {W:World} {base:Nat} {v:Value} {H:Type} {enc:TypeId×Value→H} {d:DataW H} {ps:List MemPlace} (hv:Value.okWide Tryz.prog W .any base 30 v) (h:DataW.Trod enc Tryz.prog W 0 (fun _=>true) true 30 v d ps):∃g:G2D,denS (X0 W) (.v (.a g.its)) v:=by
 obtain ⟨its,h1,g,rfl⟩:=arg_agg (r_g2 0) (.inl ⟨_,Tryz.underlying30⟩) hv h
 exact ⟨g,h1⟩

end

end
end Go.Proofs.YtefimjofjjdndaaGreat
