/- Parts of a proof, one behind the other: Rd, Rs. No conditions. -/
import Derived.Test.YtdaligcdaalnmaaOaK
/- How this seat's arguments are read. No conditions. -/
namespace Go.Proofs.Ytdaligcdaalnmaa
open Go.ChangeShapes Go.WideShapes Go.ChangeAt Go.RowKit

theorem ownKnob_try:ownKnob Try.prog.godebug=none:=by kernel_rfl
theorem laid_try:laidOutB Try.prog=true:=by kernel_rfl

theorem r_fr (dp:Nat):Reads Try.prog 26 dp fun its=>∃x:U4,its=[.ob (.fr x)]:=reads_fr Try.underlying26 (by kernel_rfl) Try.underlying24 dp
theorem r_fp (dp:Nat):Reads Try.prog 28 dp fun its=>∃x:U6,its=[.ob (.fp x)]:=reads_fp Try.underlying28 (by kernel_rfl) Try.underlying24 dp
theorem r_b (dp:Nat):Reads Try.prog 4 dp fun its=>∃b,its=[.bool b]:=reads_bool Try.underlying4 dp
theorem r_g1 (dp:Nat):Reads Try.prog 30 dp fun its=>∃g:G1D,its=g.its:=by
  intro H enc W fuel cs d ps h
  obtain ⟨its,hc,hp⟩:=reads_struct Try.underlying30 (.cons (by kernel_rfl) (r_fp dp) (.cons (by kernel_rfl) (r_fp dp) (.cons (by kernel_rfl) (r_b dp) (.nil _)))) (by kernel_rfl) enc W fuel cs d ps h
  refine ⟨its,hc,?_⟩
  cases hp with | cons h1 hp=>cases hp with | cons h2 hp=>cases hp with | cons h3 hp=>
  cases hp
  obtain ⟨x,rfl⟩:=h1
  obtain ⟨y,rfl⟩:=h2
  obtain ⟨b,rfl⟩:=h3
  exact ⟨⟨x,y,b⟩,rfl⟩

set_option maxRecDepth 100000 in
theorem a_int {W:World} {base:Nat} {v:Value} (hv:Value.okWide Try.prog W .any base 3 v):∃n,denS (X0 W) (.v (.c (.int .i64 n))) v ∧ -9223372036854775808≤n∧n<9223372036854775808:=by
  obtain ⟨n,rfl,h1,h2⟩:=arg_int Try.underlying3 hv
  have h1:(-9223372036854775808:Int)≤n:=h1
  have h2:n≤(9223372036854775807:Int):=h2
  exact ⟨n,⟨rfl,0,rfl⟩,h1,by omega⟩

set_option maxRecDepth 100000 in
theorem a_fr {W:World} {base:Nat} {v:Value} {H:Type} {enc:TypeId×Value→H} {d:DataW H} {ps:List MemPlace} (hv:Value.okWide Try.prog W .any base 26 v) (h:DataW.Trod enc Try.prog W 0 (fun _=>true) true 26 v d ps):∃x,denS (X0 W) (.v (.a [.ob (.fr x)])) v:=by
  obtain ⟨its,h1,x,rfl⟩:=arg_agg (r_fr 0) (.inr ⟨_,_,Try.underlying26⟩) hv h
  exact ⟨x,h1⟩

set_option maxRecDepth 100000 in
theorem a_g1 {W:World} {base:Nat} {v:Value} {H:Type} {enc:TypeId×Value→H} {d:DataW H} {ps:List MemPlace} (hv:Value.okWide Try.prog W .any base 30 v) (h:DataW.Trod enc Try.prog W 0 (fun _=>true) true 30 v d ps):∃g:G1D,denS (X0 W) (.v (.a g.its)) v:=by
  obtain ⟨its,h1,g,rfl⟩:=arg_agg (r_g1 0) (.inl ⟨_,Try.underlying30⟩) hv h
  exact ⟨g,h1⟩

end Go.Proofs.Ytdaligcdaalnmaa

/- How slices among this seat's arguments are read. No conditions. -/
namespace Go.Proofs.Ytdaligcdaalnmaa
open Go.ChangeShapes Go.WideShapes Go.ChangeAt Go.RowKit

theorem r_frs (dp:Nat):Reads Try.prog 23 (dp+1) fun its=>∃l,its=[.sl (.fr l)]∧l.length≤maxLen:=
  reads_slice (f:=fun x=>[.ob (.fr x)]) Try.underlying23 (by kernel_rfl) (r_fr dp) .fr (fun _=>rfl) (fun _=>by kernel_rfl) (fun l i a hi=>by simp [Sq.get,List.getD,hi])
theorem r_g1s (dp:Nat):Reads Try.prog 22 (dp+1) fun its=>∃l,its=[.sl (.g1 l)]∧l.length≤maxLen:=
  reads_slice (f:=G1D.its) Try.underlying22 (by kernel_rfl) (r_g1 dp) .g1 (fun _=>rfl) (fun _=>by kernel_rfl) (fun l i a hi=>by simp [Sq.get,List.getD,hi])

set_option maxRecDepth 100000 in
theorem a_frs {W:World} {base:Nat} {v:Value} {H:Type} {enc:TypeId×Value→H} {d:DataW H} {ps:List MemPlace} (hv:Value.okWide Try.prog W .any base 23 v) (h:DataW.Trod enc Try.prog W 0 (fun _=>true) true 23 v d ps):∃l,denS (X0 W) (.v (.c (.sl (.fr l)))) v∧l.length≤maxLen:=
  arg_slice (mk:=Sq.fr) Try.underlying23 (r_frs 0) hv h
set_option maxRecDepth 100000 in
theorem a_g1s {W:World} {base:Nat} {v:Value} {H:Type} {enc:TypeId×Value→H} {d:DataW H} {ps:List MemPlace} (hv:Value.okWide Try.prog W .any base 22 v) (h:DataW.Trod enc Try.prog W 0 (fun _=>true) true 22 v d ps):∃l,denS (X0 W) (.v (.c (.sl (.g1 l)))) v∧l.length≤maxLen:=
  arg_slice (mk:=Sq.g1) Try.underlying22 (r_g1s 0) hv h

theorem trodAll_five {H:Type} {enc:TypeId×Value→H} {P:Program} {w:World} {base:Nat} {spare:Nat→Bool} {held:Bool} {t0 t1 t2 t3 t4:TypeId} {args:Array Value} {ds:List (DataW H)} {ps:List MemPlace} (h:DataW.TrodAll enc P w base spare held [t0,t1,t2,t3,t4] args.toList ds ps) :
    ∃v0 v1 v2 v3 v4 d0 d1 d2 d3 d4 p0 p1 p2 p3 p4,args = #[v0,v1,v2,v3,v4]∧ds=[d0,d1,d2,d3,d4]∧ps=p0++p1++p2++p3++p4∧DataW.Trod enc P w base spare held t0 v0 d0 p0∧DataW.Trod enc P w base spare held t1 v1 d1 p1∧DataW.Trod enc P w base spare held t2 v2 d2 p2∧DataW.Trod enc P w base spare held t3 v3 d3 p3∧DataW.Trod enc P w base spare held t4 v4 d4 p4:=by
  obtain ⟨v0,s0,d0,e0,p0,q0,hargs,rfl,rfl,h0,r0⟩:=trodAll_cons h
  obtain ⟨v1,s1,d1,e1,p1,q1,rfl,rfl,rfl,h1,r1⟩:=trodAll_cons r0
  obtain ⟨v2,s2,d2,e2,p2,q2,rfl,rfl,rfl,h2,r2⟩:=trodAll_cons r1
  obtain ⟨v3,s3,d3,e3,p3,q3,rfl,rfl,rfl,h3,r3⟩:=trodAll_cons r2
  obtain ⟨v4,s4,d4,e4,p4,q4,rfl,rfl,rfl,h4,r4⟩:=trodAll_cons r3
  obtain ⟨rfl,rfl,rfl⟩:=trodAll_nil r4
  exact ⟨v0,v1,v2,v3,v4,d0,d1,d2,d3,d4,p0,p1,p2,p3,p4,by cases args;simp_all,rfl,by simp,h0,h1,h2,h3,h4⟩

end Go.Proofs.Ytdaligcdaalnmaa
