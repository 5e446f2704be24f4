/- Parts of a proof, one behind the other: Rd. No conditions. -/
import Derived.Test.YtobdghmmbddfnaaHoJ
/- How this seat's arguments are read. No conditions. -/
namespace Go.Proofs.Ytobdghmmbddfnaa
open Go.ChangeShapes Go.WideShapes Go.ChangeAt Go.RowKit

theorem ownKnob_try:ownKnob Try.prog.godebug=none:=by kernel_rfl
theorem laid_try:laidOutB Try.prog=true:=by kernel_rfl

theorem r_fr (dp:Nat):Reads Try.prog 36 dp fun its=>∃x:U4,its=[.ob (.fr x)]:=reads_fr Try.underlying36 (by kernel_rfl) Try.underlying34 dp
theorem r_i (dp:Nat):Reads Try.prog 3 dp fun its=>∃n,its=[.int .i64 n]∧(Lit.int .i64 n).wf=true:=reads_int Try.underlying3 dp


theorem r_frs (dp:Nat):Reads Try.prog 33 (dp+1) fun its=>∃l,its=[.sl (.fr l)]∧l.length≤maxLen:=
  reads_slice (f:=fun x=>[.ob (.fr x)]) Try.underlying33 (by kernel_rfl) (r_fr dp) .fr (fun _=>rfl) (fun _=>by kernel_rfl) (fun l i a hi=>by simp [Sq.get,List.getD,hi])

set_option maxRecDepth 100000 in
theorem a_frs {W:World} {base:Nat} {v:Value} {H:Type} {enc:TypeId×Value→H} {d:DataW H} {ps:List MemPlace} (hv:Value.okWide Try.prog W .any base 33 v) (h:DataW.Trod enc Try.prog W 0 (fun _=>true) true 33 v d ps):∃l,denS (X0 W) (.v (.c (.sl (.fr l)))) v∧l.length≤maxLen:=
  arg_slice (mk:=Sq.fr) Try.underlying33 (r_frs 0) hv h

theorem r_gate (dp:Nat):Reads Try.prog 39 dp fun its=>∃g:GateD,its=g.its:=by
  intro H enc W fuel cs d ps h
  obtain ⟨its,hc,hp⟩:=reads_struct Try.underlying39 (.cons rfl (r_fr dp) (.cons (by kernel_rfl) (r_fr dp) (.cons (by kernel_rfl) (r_fr dp) (.cons (by kernel_rfl) (r_fr dp) (.cons (by kernel_rfl) (r_fr dp)
    (.cons (by kernel_rfl) (reads_array Try.underlying37 (by kernel_rfl) (r_i dp)) (.nil _))))))) (by kernel_rfl) enc W fuel cs d ps h
  refine ⟨its,hc,?_⟩
  cases hp with | cons h1 hp=>cases hp with | cons h2 hp=>cases hp with | cons h3 hp=>cases hp with | cons h4 hp=>cases hp with | cons h5 hp=>cases hp with | cons h6 hp=>
  cases hp
  obtain ⟨x1,rfl⟩:=h1
  obtain ⟨x2,rfl⟩:=h2
  obtain ⟨x3,rfl⟩:=h3
  obtain ⟨x4,rfl⟩:=h4
  obtain ⟨x5,rfl⟩:=h5
  obtain ⟨L,hl,rfl,_⟩:=parts_ints h6
  match L,hl with
  | [a,b,c],_=>exact ⟨⟨x1,x2,x3,x4,x5,a,b,c⟩,rfl⟩

theorem r_circ (dp:Nat):Reads Try.prog 26 (dp+1) fun its=>∃l p v,its=[.sl (.gate l),.int .i64 p,.int .i64 v]:=by
  intro H enc W fuel cs d ps h
  have hs:Reads Try.prog 24 (dp+1) _:=reads_slice (f:=GateD.its) Try.underlying24 (by kernel_rfl) (r_gate dp) .gate (fun _=>rfl) (fun _=>by kernel_rfl) (fun l i a hi=>by simp [Sq.get,List.getD,hi])
  obtain ⟨its,hc,hp⟩:=reads_struct Try.underlying26 (.cons rfl hs (.cons (by kernel_rfl) (r_i (dp+1)) (.cons (by kernel_rfl) (r_i (dp+1)) (.nil _)))) (by kernel_rfl) enc W fuel cs d ps h
  refine ⟨its,hc,?_⟩
  cases hp with | cons h1 hp=>cases hp with | cons h2 hp=>cases hp with | cons h3 hp=>
  cases hp
  obtain ⟨l,rfl,_⟩:=h1
  obtain ⟨p,rfl,_⟩:=h2
  obtain ⟨v,rfl,_⟩:=h3
  exact ⟨l,p,v,rfl⟩

end Go.Proofs.Ytobdghmmbddfnaa
