/- Parts of a proof, one behind the other: Rd. No conditions. -/
import Derived.Test.YtcmkkanhddhgpaaPtM
/- How this seat's arguments are read. No conditions. -/
namespace Go.Proofs.Ytcmkkanhddhgpaa
open Go.ChangeShapes Go.WideShapes Go.ChangeAt Go.RowKit

theorem ownKnob_try:ownKnob Try.prog.godebug=none:=by kernel_rfl
theorem laid_try:laidOutB Try.prog=true:=by kernel_rfl

theorem r_fp (dp:Nat):Reads Try.prog 24 dp fun its=>∃x:U6,its=[.ob (.fp x)]:=reads_fp Try.underlying24 (by kernel_rfl) Try.underlying22 dp
theorem r_i (dp:Nat):Reads Try.prog 3 dp fun its=>∃n,its=[.int .i64 n]∧(Lit.int .i64 n).wf=true:=reads_int Try.underlying3 dp
theorem r_b (dp:Nat):Reads Try.prog 4 dp fun its=>∃b,its=[.bool b]:=reads_bool Try.underlying4 dp

theorem r_g1 (dp:Nat):Reads Try.prog 26 dp fun its=>∃g:G1D,its=g.its:=by
  intro H enc W fuel cs d ps h
  obtain ⟨its,hc,hp⟩:=reads_struct Try.underlying26 (.cons (by kernel_rfl) (r_fp dp) (.cons (by kernel_rfl) (r_fp dp) (.cons (by kernel_rfl) (r_b dp) (.nil _)))) (by kernel_rfl) enc W fuel cs d ps h
  refine ⟨its,hc,?_⟩
  cases hp with | cons h1 hp=>cases hp with | cons h2 hp=>cases hp with | cons h3 hp=>
  cases hp
  obtain ⟨x,rfl⟩:=h1
  obtain ⟨y,rfl⟩:=h2
  obtain ⟨b,rfl⟩:=h3
  exact ⟨⟨x,y,b⟩,rfl⟩

theorem r_fp2 (dp:Nat):Reads Try.prog 30 dp fun its=>∃x y:U6,its=[.ob (.fp x),.ob (.fp y)]:=by
  intro H enc W fuel cs d ps h
  obtain ⟨its,hc,hp⟩:=reads_struct Try.underlying30 (.cons (by kernel_rfl) (r_fp dp) (.cons (by kernel_rfl) (r_fp dp) (.nil _))) (by kernel_rfl) enc W fuel cs d ps h
  refine ⟨its,hc,?_⟩
  cases hp with | cons h1 hp=>cases hp with | cons h2 hp=>
  cases hp
  obtain ⟨x,rfl⟩:=h1
  obtain ⟨y,rfl⟩:=h2
  exact ⟨x,y,rfl⟩

theorem r_g2 (dp:Nat):Reads Try.prog 32 dp fun its=>∃g:G2D,its=g.its:=by
  intro H enc W fuel cs d ps h
  obtain ⟨its,hc,hp⟩:=reads_struct Try.underlying32 (.cons (by kernel_rfl) (r_fp2 dp) (.cons (by kernel_rfl) (r_fp2 dp) (.cons (by kernel_rfl) (r_b dp) (.nil _)))) (by kernel_rfl) enc W fuel cs d ps h
  refine ⟨its,hc,?_⟩
  cases hp with | cons h1 hp=>cases hp with | cons h2 hp=>cases hp with | cons h3 hp=>
  cases hp
  obtain ⟨xa,xb,rfl⟩:=h1
  obtain ⟨ya,yb,rfl⟩:=h2
  obtain ⟨b,rfl⟩:=h3
  exact ⟨⟨xa,xb,ya,yb,b⟩,rfl⟩

theorem parts_g1s:∀{n:Nat} {its:List It},Parts (List.replicate n fun its=>∃g:G1D,its=g.its) its→∃L:List G1D,L.length=n∧its=L.flatMap G1D.its
  | 0,its,h=>by cases h;exact ⟨[],rfl,rfl⟩
  | n+1,its,h=>by
    cases h with
    | cons h1 h2=>
      obtain ⟨g,rfl⟩:=h1
      obtain ⟨L,hl,rfl⟩:=parts_g1s h2
      exact ⟨g::L,by simp [hl],rfl⟩

theorem r_ver (dp:Nat):Reads Try.prog 34 dp fun its=>∃n p q0 q1 q2 q3 q4 s0 s1 s2 h,its=verI n p q0 q1 q2 q3 q4 s0 s1 s2 h:=by
  intro H enc W fuel cs d ps h
  obtain ⟨its,hc,hp⟩:=reads_struct Try.underlying34 (.cons rfl (r_i dp) (.cons (by kernel_rfl) (r_i dp) (.cons (by kernel_rfl) (reads_array Try.underlying27 (by kernel_rfl) (r_g1 dp)) (.cons (by kernel_rfl) (reads_array Try.underlying28 (by kernel_rfl) (r_g1 dp)) (.cons (by kernel_rfl) (r_g2 dp) (.nil _)))))) (by kernel_rfl) enc W fuel cs d ps h
  refine ⟨its,hc,?_⟩
  cases hp with | cons h1 hp=>cases hp with | cons h2 hp=>cases hp with | cons h3 hp=>cases hp with | cons h4 hp=>cases hp with | cons h5 hp=>
  cases hp
  obtain ⟨n,rfl,_⟩:=h1
  obtain ⟨p,rfl,_⟩:=h2
  obtain ⟨L,hl,rfl⟩:=parts_g1s h3
  obtain ⟨M,hm,rfl⟩:=parts_g1s h4
  obtain ⟨h,rfl⟩:=h5
  match L,hl,M,hm with
  | [q0,q1,q2,q3,q4],_,[s0,s1,s2],_=>exact ⟨n,p,q0,q1,q2,q3,q4,s0,s1,s2,h,rfl⟩

end Go.Proofs.Ytcmkkanhddhgpaa
