/- Parts of a proof, one behind the other: Rd, Rs. No conditions. -/
import Derived.Test.YtefimjofjjdndaaGreatKoN
open Go.IntKind (wrap)
namespace Go.Proofs.YtefimjofjjdndaaGreat
noncomputable section
section
open Go.ChangeShapes Go.WideShapes Go.ChangeAt Go.RowKit

theorem D7j:ownKnob Tryz.prog.godebug=none:=by kernel_rfl
theorem F7h:laidOutB Tryz.prog=true:=by kernel_rfl

theorem I6v (dp:Nat):A5c Tryz.prog 32 dp fun its=>∃x:U4,its=[.ob (.fr x)]:=G1z Tryz.underlying32 (by kernel_rfl) Tryz.underlying22 dp
set_option maxRecDepth 100000 in
theorem I3q {W:World} {base:Nat} {v:Value} (hv:Value.okWide Tryz.prog W .any base 3 v):∃n,B8 (X0 W) (.v (.c (.int .i64 n))) v ∧ -9223372036854775808<=n∧n<9223372036854775808:=by
 obtain ⟨n,rfl,h1,h2⟩:=G4t Tryz.underlying3 hv;have h1:(-9223372036854775808:Int)<=n:=h1;have h2:n<=(9223372036854775807:Int):=h2;exact ⟨n,⟨rfl,0,rfl⟩,h1,by omega⟩

set_option maxRecDepth 100000 in
theorem H4e {W:World} {base:Nat} {v:Value} {H:Type} {enc:TypeId×Value->H} {d:DataW H} {ps:List MemPlace} (hv:Value.okWide Tryz.prog W .any base 32 v) (h:DataW.Trod enc Tryz.prog W 0 (fun _=>true) true 32 v d ps):∃x,B8 (X0 W) (.v (.a [.ob (.fr x)])) v:=by
 obtain ⟨its,h1,x,rfl⟩:=G4s (I6v 0) (.inr ⟨_,_,Tryz.underlying32⟩) hv h;exact ⟨x,h1⟩

end

section
open Go.ChangeShapes Go.WideShapes Go.ChangeAt Go.RowKit

theorem I6w (dp:Nat):A5c Tryz.prog 49 (dp+1) fun its=>∃l,its=[.sl (.fr l)]∧l.length<=maxLen:=
 D8a (f:=fun x=>[.ob (.fr x)]) Tryz.underlying49 (by kernel_rfl) (I6v dp) .fr (fun _=>rfl) (fun _=>by kernel_rfl) (fun l i a hi=>by simp [Sq.get,List.getD,hi])

set_option maxRecDepth 100000 in
theorem I3p {W:World} {base:Nat} {v:Value} {H:Type} {enc:TypeId×Value->H} {d:DataW H} {ps:List MemPlace} (hv:Value.okWide Tryz.prog W .any base 49 v) (h:DataW.Trod enc Tryz.prog W 0 (fun _=>true) true 49 v d ps):∃l,B8 (X0 W) (.v (.c (.sl (.fr l)))) v∧l.length<=maxLen:=
 E7v (mk:=Sq.fr) Tryz.underlying49 (I6w 0) hv h

theorem D3i {H:Type} {enc:TypeId×Value->H} {P:Program} {w:World} {base:Nat} {spare:Nat->Bool} {held:Bool} {t0 t1 t2 t3 t4:TypeId} {args:Array Value} {ds:List (DataW H)} {ps:List MemPlace} (h:DataW.TrodAll enc P w base spare held [t0,t1,t2,t3,t4] args.toList ds ps) :
  ∃v0 v1 v2 v3 v4 d0 d1 d2 d3 d4 p0 p1 p2 p3 p4,args = #[v0,v1,v2,v3,v4]∧ds=[d0,d1,d2,d3,d4]∧ps=p0++p1++p2++p3++p4∧DataW.Trod enc P w base spare held t0 v0 d0 p0∧DataW.Trod enc P w base spare held t1 v1 d1 p1∧DataW.Trod enc P w base spare held t2 v2 d2 p2∧DataW.Trod enc P w base spare held t3 v3 d3 p3∧DataW.Trod enc P w base spare held t4 v4 d4 p4:=by
 obtain ⟨v0,s0,d0,e0,p0,q0,hargs,rfl,rfl,h0,r0⟩:=trodAll_cons h;obtain ⟨v1,s1,d1,e1,p1,q1,rfl,rfl,rfl,h1,r1⟩:=trodAll_cons r0;obtain ⟨v2,s2,d2,e2,p2,q2,rfl,rfl,rfl,h2,r2⟩:=trodAll_cons r1;obtain ⟨v3,s3,d3,e3,p3,q3,rfl,rfl,rfl,h3,r3⟩:=trodAll_cons r2;obtain ⟨v4,s4,d4,e4,p4,q4,rfl,rfl,rfl,h4,r4⟩:=trodAll_cons r3;obtain ⟨rfl,rfl,rfl⟩:=trodAll_nil r4;exact ⟨v0,v1,v2,v3,v4,d0,d1,d2,d3,d4,p0,p1,p2,p3,p4,by cases args;simp_all,rfl,by simp,h0,h1,h2,h3,h4⟩

end

end
end Go.Proofs.YtefimjofjjdndaaGreat
