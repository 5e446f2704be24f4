/- Parts of a proof, one behind the other: Rd. No conditions. -/
import Derived.Test.YtifiiigbedjceaaSkO
open Go.IntKind (wrap)
namespace Go.Proofs.Ytifiiigbedjceaa
noncomputable section
section
open Go.ChangeShapes Go.WideShapes Go.ChangeAt Go.RowKit

theorem D0r:ownKnob Try.prog.godebug=none:=by kernel_rfl
theorem E6a:laidOutB Try.prog=true:=by kernel_rfl

theorem E9x (dp:Nat):P0 Try.prog 54 dp fun its=>∃x:U4,its=[.ob (.fr x)]:=E9z Try.underlying54 (by kernel_rfl) Try.underlying26 dp
theorem F6t (dp:Nat):P0 Try.prog 28 dp fun its=>∃x:U6,its=[.ob (.fp x)]:=E9y Try.underlying28 (by kernel_rfl) Try.underlying26 dp
theorem r_i (dp:Nat):P0 Try.prog 3 dp fun its=>∃n,its=[.int .i64 n]∧(Lit.int .i64 n).wf=true:=C3g Try.underlying3 dp


theorem r_b (dp:Nat):P0 Try.prog 4 dp fun its=>∃b,its=[.bool b]:=D5c Try.underlying4 dp

theorem H1l (dp:Nat):P0 Try.prog 40 dp fun its=>∃g:G1D,its=g.its:=by
 intro H enc W fuel cs d ps h;obtain ⟨its,hc,hp⟩:=Q4 Try.underlying40 (.cons (by kernel_rfl) (F6t dp) (.cons (by kernel_rfl) (F6t dp) (.cons (by kernel_rfl) (r_b dp) (.nil _)))) (by kernel_rfl) enc W fuel cs d ps h
 refine ⟨its,hc,?_⟩
 cases hp with | cons h1 hp=>cases hp with | cons h2 hp=>cases hp with | cons h3 hp=>
 cases hp
 obtain ⟨x,rfl⟩:=h1;obtain ⟨y,rfl⟩:=h2;obtain ⟨b,rfl⟩:=h3;exact ⟨⟨x,y,b⟩,rfl⟩

theorem F8r (dp:Nat):P0 Try.prog 30 dp fun its=>∃x y:U6,its=[.ob (.fp x),.ob (.fp y)]:=by
 intro H enc W fuel cs d ps h;obtain ⟨its,hc,hp⟩:=Q4 Try.underlying30 (.cons (by kernel_rfl) (F6t dp) (.cons (by kernel_rfl) (F6t dp) (.nil _))) (by kernel_rfl) enc W fuel cs d ps h
 refine ⟨its,hc,?_⟩
 cases hp with | cons h1 hp=>cases hp with | cons h2 hp=>
 cases hp
 obtain ⟨x,rfl⟩:=h1;obtain ⟨y,rfl⟩:=h2;exact ⟨x,y,rfl⟩

theorem H1m (dp:Nat):P0 Try.prog 32 dp fun its=>∃g:G2D,its=g.its:=by
 intro H enc W fuel cs d ps h;obtain ⟨its,hc,hp⟩:=Q4 Try.underlying32 (.cons (by kernel_rfl) (F8r dp) (.cons (by kernel_rfl) (F8r dp) (.cons (by kernel_rfl) (r_b dp) (.nil _)))) (by kernel_rfl) enc W fuel cs d ps h
 refine ⟨its,hc,?_⟩
 cases hp with | cons h1 hp=>cases hp with | cons h2 hp=>cases hp with | cons h3 hp=>
 cases hp
 obtain ⟨xa,xb,rfl⟩:=h1;obtain ⟨ya,yb,rfl⟩:=h2;obtain ⟨b,rfl⟩:=h3;exact ⟨⟨xa,xb,ya,yb,b⟩,rfl⟩

theorem G2u (dp:Nat):P0 Try.prog 71 dp fun its=>∃g:A1,its=g.its:=by
 intro H enc W fuel cs d ps h;obtain ⟨its,hc,hp⟩:=Q4 Try.underlying71 (.cons rfl (E9x dp) (.cons (by kernel_rfl) (E9x dp) (.cons (by kernel_rfl) (E9x dp) (.cons (by kernel_rfl) (E9x dp) (.cons (by kernel_rfl) (E9x dp)
  (.cons (by kernel_rfl) (B4w Try.underlying69 (by kernel_rfl) (r_i dp)) (.nil _))))))) (by kernel_rfl) enc W fuel cs d ps h
 refine ⟨its,hc,?_⟩
 cases hp with | cons h1 hp=>cases hp with | cons h2 hp=>cases hp with | cons h3 hp=>cases hp with | cons h4 hp=>cases hp with | cons h5 hp=>cases hp with | cons h6 hp=>
 cases hp
 obtain ⟨x1,rfl⟩:=h1;obtain ⟨x2,rfl⟩:=h2;obtain ⟨x3,rfl⟩:=h3;obtain ⟨x4,rfl⟩:=h4;obtain ⟨x5,rfl⟩:=h5;obtain ⟨L,hl,rfl,_⟩:=A8u h6;match L,hl with
 | [a,b,c],_=>exact ⟨⟨x1,x2,x3,x4,x5,a,b,c⟩,rfl⟩

theorem G2t (dp:Nat):P0 Try.prog 24 (dp+1) fun its=>∃l p v,its=[.sl (.gate l),.int .i64 p,.int .i64 v]:=by
 intro H enc W fuel cs d ps h;have hs:P0 Try.prog 22 (dp+1) _:=B4x (f:=A1.its) Try.underlying22 (by kernel_rfl) (G2u dp) .gate (fun _=>rfl) (fun _=>by kernel_rfl) (fun l i a hi=>by simp [Sq.get,List.getD,hi])
 obtain ⟨its,hc,hp⟩:=Q4 Try.underlying24 (.cons rfl hs (.cons (by kernel_rfl) (r_i (dp+1)) (.cons (by kernel_rfl) (r_i (dp+1)) (.nil _)))) (by kernel_rfl) enc W fuel cs d ps h
 refine ⟨its,hc,?_⟩
 cases hp with | cons h1 hp=>cases hp with | cons h2 hp=>cases hp with | cons h3 hp=>
 cases hp
 obtain ⟨l,rfl,_⟩:=h1;obtain ⟨p,rfl,_⟩:=h2;obtain ⟨v,rfl,_⟩:=h3;exact ⟨l,p,v,rfl⟩

theorem G6v (dp:Nat):P0 Try.prog 25 (dp+1) fun its=>∃l,its=[.sl (.g1 l)]∧l.length<=maxLen:=
 B4x (f:=G1D.its) Try.underlying25 (by kernel_rfl) (H1l dp) .g1 (fun _=>rfl) (fun _=>by kernel_rfl) (fun l i a hi=>by simp [Sq.get,List.getD,hi])
theorem G6w (dp:Nat):P0 Try.prog 34 (dp+1) fun its=>∃(l:List G1D) (s:G2D),l.length<=maxLen∧its=[.sl (.g1 l),.ob (.fp s.xa),.ob (.fp s.xb),.ob (.fp s.ya),.ob (.fp s.yb),.bool s.inf]:=by
 intro H enc W fuel cs d ps h;obtain ⟨its,hc,hp⟩:=Q4 Try.underlying34 (.cons rfl (G6v dp) (.cons (by kernel_rfl) (H1m (dp+1)) (.nil _))) (by kernel_rfl) enc W fuel cs d ps h
 refine ⟨its,hc,?_⟩
 cases hp with | cons h1 hp=>cases hp with | cons h2 hp=>
 cases hp
 obtain ⟨l,rfl,hl⟩:=h1;obtain ⟨s,rfl⟩:=h2;exact ⟨l,s,hl,rfl⟩

end

end
end Go.Proofs.Ytifiiigbedjceaa
