/- Parts of a proof, one behind the other: Rd, Rs. No conditions. -/
import Derived.Test.YtefimjofjjdndaaGreatPxN
open Go.IntKind (wrap)
namespace Go.Proofs.YtefimjofjjdndaaGreat
noncomputable section
section
open Go.ChangeShapes Go.WideShapes Go.ChangeAt Go.RowKit

theorem D5c:ownKnob Tryz.prog.godebug=none:=by kernel_rfl
theorem F3q:laidOutB Tryz.prog=true:=by kernel_rfl

theorem I2l (dp:Nat):U7 Tryz.prog 32 dp fun its=>∃x:U4,its=[.ob (.fr x)]:=F7v Tryz.underlying32 (by kernel_rfl) Tryz.underlying22 dp
theorem G5v (dp:Nat):U7 Tryz.prog 24 dp fun its=>∃x:U6,its=[.ob (.fp x)]:=F7u Tryz.underlying24 (by kernel_rfl) Tryz.underlying22 dp
theorem r_b (dp:Nat):U7 Tryz.prog 4 dp fun its=>∃b,its=[.bool b]:=D9z Tryz.underlying4 dp
theorem I2m (dp:Nat):U7 Tryz.prog 26 dp fun its=>∃g:G1D,its=g.its:=by
 intro H enc W fuel cs d ps h;obtain ⟨its,hc,hp⟩:=A4y Tryz.underlying26 (.cons (by kernel_rfl) (G5v dp) (.cons (by kernel_rfl) (G5v dp) (.cons (by kernel_rfl) (r_b dp) (.nil _)))) (by kernel_rfl) enc W fuel cs d ps h
 refine ⟨its,hc,?_⟩
 cases hp with | cons h1 hp=>cases hp with | cons h2 hp=>cases hp with | cons h3 hp=>
 cases hp
 obtain ⟨x,rfl⟩:=h1;obtain ⟨y,rfl⟩:=h2;obtain ⟨b,rfl⟩:=h3;exact ⟨⟨x,y,b⟩,rfl⟩

theorem G7v (dp:Nat):U7 Tryz.prog 28 dp fun its=>∃x y:U6,its=[.ob (.fp x),.ob (.fp y)]:=by
 intro H enc W fuel cs d ps h;obtain ⟨its,hc,hp⟩:=A4y Tryz.underlying28 (.cons (by kernel_rfl) (G5v dp) (.cons (by kernel_rfl) (G5v dp) (.nil _))) (by kernel_rfl) enc W fuel cs d ps h
 refine ⟨its,hc,?_⟩
 cases hp with | cons h1 hp=>cases hp with | cons h2 hp=>
 cases hp
 obtain ⟨x,rfl⟩:=h1;obtain ⟨y,rfl⟩:=h2;exact ⟨x,y,rfl⟩

theorem I2n (dp:Nat):U7 Tryz.prog 30 dp fun its=>∃g:G2D,its=g.its:=by
 intro H enc W fuel cs d ps h;obtain ⟨its,hc,hp⟩:=A4y Tryz.underlying30 (.cons (by kernel_rfl) (G7v dp) (.cons (by kernel_rfl) (G7v dp) (.cons (by kernel_rfl) (r_b dp) (.nil _)))) (by kernel_rfl) enc W fuel cs d ps h
 refine ⟨its,hc,?_⟩
 cases hp with | cons h1 hp=>cases hp with | cons h2 hp=>cases hp with | cons h3 hp=>
 cases hp
 obtain ⟨xa,xb,rfl⟩:=h1;obtain ⟨ya,yb,rfl⟩:=h2;obtain ⟨b,rfl⟩:=h3;exact ⟨⟨xa,xb,ya,yb,b⟩,rfl⟩

set_option maxRecDepth 100000 in
theorem H6n {W:World} {base:Nat} {v:Value} (hv:Value.okWide Tryz.prog W .any base 3 v):∃n,B8 (X0 W) (.v (.c (.int .i64 n))) v ∧ -9223372036854775808<=n∧n<9223372036854775808:=by
 obtain ⟨n,rfl,h1,h2⟩:=G0c Tryz.underlying3 hv;have h1:(-9223372036854775808:Int)<=n:=h1;have h2:n<=(9223372036854775807:Int):=h2;exact ⟨n,⟨rfl,0,rfl⟩,h1,by omega⟩

set_option maxRecDepth 100000 in
theorem I0h {W:World} {base:Nat} {v:Value} {H:Type} {enc:TypeId×Value->H} {d:DataW H} {ps:List MemPlace} (hv:Value.okWide Tryz.prog W .any base 26 v) (h:DataW.Trod enc Tryz.prog W 0 (fun _=>true) true 26 v d ps):∃g:G1D,B8 (X0 W) (.v (.a g.its)) v:=by
 obtain ⟨its,h1,g,rfl⟩:=E1g (I2m 0) (.inl ⟨_,Tryz.underlying26⟩) hv h;exact ⟨g,h1⟩

set_option maxRecDepth 100000 in
theorem I0i {W:World} {base:Nat} {v:Value} {H:Type} {enc:TypeId×Value->H} {d:DataW H} {ps:List MemPlace} (hv:Value.okWide Tryz.prog W .any base 30 v) (h:DataW.Trod enc Tryz.prog W 0 (fun _=>true) true 30 v d ps):∃g:G2D,B8 (X0 W) (.v (.a g.its)) v:=by
 obtain ⟨its,h1,g,rfl⟩:=E1g (I2n 0) (.inl ⟨_,Tryz.underlying30⟩) hv h;exact ⟨g,h1⟩

end

section
open Go.ChangeShapes Go.WideShapes Go.ChangeAt Go.RowKit

theorem H9g (dp:Nat):U7 Tryz.prog 49 (dp+1) fun its=>∃l,its=[.sl (.fr l)]∧l.length<=maxLen:=
 D5t (f:=fun x=>[.ob (.fr x)]) Tryz.underlying49 (by kernel_rfl) (I2l dp) .fr (fun _=>rfl) (fun _=>by kernel_rfl) (fun l i a hi=>by simp [Sq.get,List.getD,hi])

set_option maxRecDepth 100000 in
theorem G7a {W:World} {base:Nat} {v:Value} {H:Type} {enc:TypeId×Value->H} {d:DataW H} {ps:List MemPlace} (hv:Value.okWide Tryz.prog W .any base 49 v) (h:DataW.Trod enc Tryz.prog W 0 (fun _=>true) true 49 v d ps):∃l,B8 (X0 W) (.v (.c (.sl (.fr l)))) v∧l.length<=maxLen:=
 E4z (mk:=Sq.fr) Tryz.underlying49 (H9g 0) hv h

theorem D1d {H:Type} {enc:TypeId×Value->H} {P:Program} {w:World} {base:Nat} {spare:Nat->Bool} {held:Bool} {t0 t1 t2 t3 t4:TypeId} {args:Array Value} {ds:List (DataW H)} {ps:List MemPlace} (h:DataW.TrodAll enc P w base spare held [t0,t1,t2,t3,t4] args.toList ds ps) :
  ∃v0 v1 v2 v3 v4 d0 d1 d2 d3 d4 p0 p1 p2 p3 p4,args = #[v0,v1,v2,v3,v4]∧ds=[d0,d1,d2,d3,d4]∧ps=p0++p1++p2++p3++p4∧DataW.Trod enc P w base spare held t0 v0 d0 p0∧DataW.Trod enc P w base spare held t1 v1 d1 p1∧DataW.Trod enc P w base spare held t2 v2 d2 p2∧DataW.Trod enc P w base spare held t3 v3 d3 p3∧DataW.Trod enc P w base spare held t4 v4 d4 p4:=by
 obtain ⟨v0,s0,d0,e0,p0,q0,hargs,rfl,rfl,h0,r0⟩:=trodAll_cons h;obtain ⟨v1,s1,d1,e1,p1,q1,rfl,rfl,rfl,h1,r1⟩:=trodAll_cons r0;obtain ⟨v2,s2,d2,e2,p2,q2,rfl,rfl,rfl,h2,r2⟩:=trodAll_cons r1;obtain ⟨v3,s3,d3,e3,p3,q3,rfl,rfl,rfl,h3,r3⟩:=trodAll_cons r2;obtain ⟨v4,s4,d4,e4,p4,q4,rfl,rfl,rfl,h4,r4⟩:=trodAll_cons r3;obtain ⟨rfl,rfl,rfl⟩:=trodAll_nil r4;exact ⟨v0,v1,v2,v3,v4,d0,d1,d2,d3,d4,p0,p1,p2,p3,p4,by cases args;simp_all,rfl,by simp,h0,h1,h2,h3,h4⟩

end

end
end Go.Proofs.YtefimjofjjdndaaGreat
