/- Parts of a proof, one behind the other: Rq. No conditions. -/
import Derived.Test.YtobdghmmbddfnaaCsQ
open Go.IntKind (wrap)
namespace Go.Proofs.Ytobdghmmbddfnaa
noncomputable section
section
open Go.ChangeShapes Go.WideShapes Go.ChangeAt Go.RowKit

theorem r_ints (dp:Nat):Reads Try.prog 42 (dp+1) fun its=>∃l,its=[.sl (.int l)]∧l.length≤maxLen:=
 reads_slice (f:=fun x:Int=>[.int .i64 x]) Try.underlying42 (by kernel_rfl) (fun enc W fuel cs d ps h=>by
  obtain ⟨its,hc,n,rfl,_⟩:=r_i dp enc W fuel cs d ps h
  exact ⟨_,hc,n,rfl⟩) .int (fun _=>rfl) (fun _=>by kernel_rfl) (fun l i a hi=>by simp [Sq.get,List.getD,hi])

theorem r_op (dp:Nat):Reads Try.prog 44 (dp+1) fun its=>∃o:OpD,its=o.its:=by
 intro H enc W fuel cs d ps h
 obtain ⟨its,hc,hp⟩:=reads_struct Try.underlying44 (.cons rfl (r_i (dp+1)) (.cons (by kernel_rfl) (r_i (dp+1)) (.cons (by kernel_rfl) (r_i (dp+1)) (.cons (by kernel_rfl) (r_i (dp+1)) (.cons (by kernel_rfl) (r_i (dp+1))
  (.cons (by kernel_rfl) (r_fr (dp+1)) (.cons (by kernel_rfl) (r_frs dp) (.cons (by kernel_rfl) (r_ints dp) (.nil _))))))))) (by kernel_rfl) enc W fuel cs d ps h
 refine ⟨its,hc,?_⟩
 cases hp with | cons h1 hp=>cases hp with | cons h2 hp=>cases hp with | cons h3 hp=>cases hp with | cons h4 hp=>cases hp with | cons h5 hp=>cases hp with | cons h6 hp=>cases hp with | cons h7 hp=>cases hp with | cons h8 hp=>
 cases hp
 obtain ⟨n1,rfl,_⟩:=h1
 obtain ⟨n2,rfl,_⟩:=h2
 obtain ⟨n3,rfl,_⟩:=h3
 obtain ⟨n4,rfl,_⟩:=h4
 obtain ⟨n5,rfl,_⟩:=h5
 obtain ⟨x,rfl⟩:=h6
 obtain ⟨ks,rfl,_⟩:=h7
 obtain ⟨vs,rfl,_⟩:=h8
 exact ⟨⟨n1,n2,n3,n4,n5,x,ks,vs⟩,rfl⟩

theorem r_ops (dp:Nat):Reads Try.prog 22 (dp+2) fun its=>∃l,its=[.sl (.op l)]∧l.length≤maxLen:=
 reads_slice (f:=OpD.its) Try.underlying22 (by kernel_rfl) (r_op dp) .op (fun _=>rfl) (fun _=>by kernel_rfl) (fun l i a hi=>by simp [Sq.get,List.getD,hi])

set_option maxRecDepth 100000 in
theorem ops_sized {W:World} {base:Nat} {v:Value} {H:Type} {enc:TypeId×Value→H} {d:DataW H} {ps:List MemPlace} (hv:Value.okWide Try.prog W .any base 22 v) (h:DataW.Trod enc Try.prog W 0 (fun _=>true) true 22 v d ps) (hw:∀m∈d.weights Try.prog 22,m≤reachBytes) :
  ∃l,denS (X0 W) (.v (.c (.sl (.op l)))) v∧l.length*120≤140737488355328:=by
 obtain ⟨l,g0,_⟩:=arg_slice (mk:=Sq.op) Try.underlying22 (r_ops 0) hv h
 have hz:=slice_sized Try.underlying22 g0 h hw
 have hb:Try.prog.bytesOf 44=120:=by kernel_rfl
 rw[hb] at hz
 have hz:l.length*120≤140737488351232:=hz
 exact ⟨l,g0,by omega⟩
end

end
end Go.Proofs.Ytobdghmmbddfnaa
