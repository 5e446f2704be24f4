/- Parts of a proof, one behind the other: Rd. No conditions. -/
import Derived.Test.YtifiiigbedjceaaGreatTuO
open Go.IntKind (wrap)
namespace Go.Proofs.YtifiiigbedjceaaGreat
noncomputable section
section
open Go.ChangeShapes Go.WideShapes Go.ChangeAt Go.RowKit
theorem Yl:ownKnob Tryz.prog.godebug=none:=by kernel_rfl
theorem B5a:laidOutB Tryz.prog=true:=by kernel_rfl
theorem A9t(dp:Nat):BU Tryz.prog 27 dp fun its=>∃x:U4,its=[.ob (.fr x)]:=B9l Tryz.underlying27 (by kernel_rfl) Tryz.underlying25 dp
theorem r_i(dp:Nat):BU Tryz.prog 3 dp fun its=>∃n,its=[.int .i64 n]∧(Lit.int .i64 n).wf=true:=TT Tryz.underlying3 dp
theorem D5m(dp:Nat):BU Tryz.prog 77 dp fun its=>∃g:A0,its=g.its:=by
 intro H enc W fuel cs d ps h;obtain ⟨its,hc,hp⟩:=JV Tryz.underlying77 (.cons rfl (A9t dp) (.cons (by kernel_rfl) (A9t dp) (.cons (by kernel_rfl) (A9t dp) (.cons (by kernel_rfl) (A9t dp) (.cons (by kernel_rfl) (A9t dp)
  (.cons (by kernel_rfl) (Na Tryz.underlying75 (by kernel_rfl) (r_i dp)) (.nil _))))))) (by kernel_rfl) enc W fuel cs d ps h
 refine ⟨its,hc,?_⟩
 cases hp with | cons h1 hp=>cases hp with | cons h2 hp=>cases hp with | cons h3 hp=>cases hp with | cons h4 hp=>cases hp with | cons h5 hp=>cases hp with | cons h6 hp=>
 cases hp
 obtain ⟨x1,rfl⟩:=h1;obtain ⟨x2,rfl⟩:=h2;obtain ⟨x3,rfl⟩:=h3;obtain ⟨x4,rfl⟩:=h4;obtain ⟨x5,rfl⟩:=h5;obtain ⟨L,hl,rfl,_⟩:=HW h6;match L,hl with
 | [a,b,c],_=>exact ⟨⟨x1,x2,x3,x4,x5,a,b,c⟩,rfl⟩
theorem D5l(dp:Nat):BU Tryz.prog 24 (dp+1) fun its=>∃l p v,its=[.sl (.gate l),.int .i64 p,.int .i64 v]:=by
 intro H enc W fuel cs d ps h;have hs:BU Tryz.prog 22 (dp+1) _:=Yy (f:=A0.its) Tryz.underlying22 (by kernel_rfl) (D5m dp) .gate (fun _=>rfl) (fun _=>by kernel_rfl) (fun l i a hi=>by simp [Sq.get,List.getD,hi])
 obtain ⟨its,hc,hp⟩:=JV Tryz.underlying24 (.cons rfl hs (.cons (by kernel_rfl) (r_i (dp+1)) (.cons (by kernel_rfl) (r_i (dp+1)) (.nil _)))) (by kernel_rfl) enc W fuel cs d ps h
 refine ⟨its,hc,?_⟩
 cases hp with | cons h1 hp=>cases hp with | cons h2 hp=>cases hp with | cons h3 hp=>
 cases hp
 obtain ⟨l,rfl,_⟩:=h1;obtain ⟨p,rfl,_⟩:=h2;obtain ⟨v,rfl,_⟩:=h3;exact ⟨l,p,v,rfl⟩
end
end
end Go.Proofs.YtifiiigbedjceaaGreat
