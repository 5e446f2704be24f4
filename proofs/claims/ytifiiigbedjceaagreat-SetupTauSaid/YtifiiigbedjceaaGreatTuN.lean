/- Parts of a proof, one behind the other: PPlc, WNa. No conditions. -/
import Derived.Test.YtifiiigbedjceaaGreatTuM
open Go.IntKind (wrap)
namespace Go.Proofs.YtifiiigbedjceaaGreat
noncomputable section
section
abbrev Plc:=(Int×Int)×Int
def wOf(g:A0):Nat->Int
 | 0=>g.a
 | 1=>g.b
 | _=>g.c
def plW(G:List A0)(w:Nat):Nat->List Plc
 | 0=>[]
 | i+1=>plW G w i++(if 0<=wOf (G.getD i H7) w then [(((i:Int),(w:Int)),wOf (G.getD i H7) w)] else [])
def plT(G:List A0):Nat->List Plc
 | 0=>[]
 | w+1=>plT G w++plW G w G.length
def plP(G:List A0)(w i:Nat):List Plc:=plT G w++plW G w i
theorem A5m(G:List A0)(w:Nat):∀{n i:Nat},i<=n->∃t,plW G w n=plW G w i++t
 | 0,i,h=>by
  have:i=0:=by omega
  subst this;exact ⟨[],by simp⟩
 | n+1,i,h=>by
  by_cases e:i=n+1
  ·subst e
   exact ⟨[],by simp⟩
  ·obtain ⟨t,ht⟩:=A5m G w (n:=n) (i:=i) (by omega)
   exact ⟨t++(if 0<=wOf (G.getD n H7) w then [(((n:Int),(w:Int)),wOf (G.getD n H7) w)] else []),by show plW G w n++_=_;rw[ht,List.append_assoc]⟩
theorem A5l(G:List A0):∀{n w:Nat},w<=n->∃t,plT G n=plT G w++t
 | 0,w,h=>by
  have:w=0:=by omega
  subst this;exact ⟨[],by simp⟩
 | n+1,w,h=>by
  by_cases e:w=n+1
  ·subst e
   exact ⟨[],by simp⟩
  ·obtain ⟨t,ht⟩:=A5l G (n:=n) (w:=w) (by omega)
   exact ⟨t++plW G n G.length,by show plT G n++_=_;rw[ht,List.append_assoc]⟩
theorem VM(G:List A0){w i:Nat}(hw:w<3)(hi:i<=G.length):∃t,plT G 3=plP G w i++t:=by
 obtain ⟨t,ht⟩:=A5l G (n:=3) (w:=w+1) (by omega)
 obtain ⟨s,hs⟩:=A5m G w hi;refine ⟨s++t,?_⟩
 rw[ht];show (plT G w++plW G w G.length)++t=(plT G w++plW G w i)++(s++t);rw[hs];simp only[List.append_assoc]
theorem QA(G:List A0)(w:Nat):plP G w 0=plT G w:=by unfold plP;exact List.append_nil _
theorem VN{G:List A0}{w i:Nat}(h:0<=wOf (G.getD i H7) w):plP G w (i+1)=plP G w i++[(((i:Int),(w:Int)),wOf (G.getD i H7) w)]:=by
 unfold plP;show _++(plW G w i++_)=_;rw[if_pos h,List.append_assoc]
theorem A0z{G:List A0}{w i:Nat}(h:¬0<=wOf (G.getD i H7) w):plP G w (i+1)=plP G w i:=by
 unfold plP;show _++(plW G w i++_)=_;rw[if_neg h,List.append_nil]
def N7(r w:Int):Value:=.agg #[.int .i64 r,.int .i64 w]
def FU(z:Plc):List Value:=[N7 z.1.1 z.1.2,.int .i64 z.2]
theorem JP{x:C0}{r w:Int}{v:Value}(h:B8 x (.v (.a [.int .i64 r,.int .i64 w])) v):v=N7 r w:=by
 obtain ⟨cs,rfl,c1,c2,rfl,h1,c3,c4,rfl,h2,rfl⟩:=h;have e1:c1=[Value.int .i64 r]:=by obtain ⟨d,h1⟩:=h1;cases d<;>exact h1
 have e2:c3=[Value.int .i64 w]:=by obtain ⟨d,h2⟩:=h2;cases d<;>exact h2
 rw[e1,e2];rfl
theorem Zy{x y:C0}{b:Bool}:∀v,B8 x (.v (.c (.lit b))) v->B8 y (.v (.c (.lit b))) v:=fun v h=>by
 obtain ⟨_,d,h⟩:=h;have e:[v]=[Value.bool b]:=by cases d<;>exact h
 simp only[List.cons.injEq,and_true] at e;rw[e];exact ⟨rfl,0,rfl⟩
def wI:Nat->Int
 | 0=>0
 | 1=>1
 | 2=>2
 | _=>3
section
variable {x:C0} {p l:Nat} {v:Value} {G:List A0} {P V:Int} {M:List Plc->Nat->Option En} {J:List Plc->World->Prop}
def PlI(x:C0)(p:Nat)(M:List Plc->Nat->Option En)(J:List Plc->World->Prop)(S:St)(pre:List Plc)(ac:List Act)(a:Act)(W:World):Prop:=
 ∃y z,z.w=W∧y.k p = .real∧y.β p=x.β p∧P0 y (M pre)∧J pre y.w∧Sim y.w y.F (HA (D5 y p)) ac S z a
theorem D4c{Q:Exit->Act->World->Prop}(hlim:G.length<=4096)(hM:∀s,M s p=some (.fl [.vsl v (.gate G),.int .i64 P,.int .i64 V]))(hgrow:∀s W W',J s W->W.grownBy W' none->J s W')
  (hread:∀s W,J s W->∃y,y.w=W∧P0 y (M s)∧∀c∈[(p,0)],y.k c.1 = .real∧y.β c.1=x.β c.1)
  (hyield:∀pre z W1,J pre W1->(∃t,plT G 3=pre++z::t)->YieldAt Fence.wide 0 Tryz.prog l (FU z).toArray W1 fun e W' => e = .returned (.bool true)∧J (pre++[z]) W')
  (next:∀ac a W,PlI x p M J (plO l v G P V 1) (plT G 1) ac a W->Wq Tryz.prog Q (D4 GW) ac .normal a W) {ac:List Act} {a:Act} {W:World} (h0:PlI x p M J (A0w l v G P V 0) (plT G 0) ac a W):Wq Tryz.prog Q DD ac .normal a W:=by
 have hbox:∀{y:C0} (cs:Array Value) (ty:TypeId),y.w.heap[y.β p]? = some (.cells cs ty (0,0))->C9 y (.fl [.vsl v (.gate G),.int .i64 P,.int .i64 V]) cs.toList->C9 (D5 y p) (.fl [.vsl v (.gate G),.int .i64 P,.int .i64 V]) cs.toList:=fun cs _ _ hc=>NA cs hc
 refine I5 (fun i:{ i:Nat // i<=G.length }=>PlI x p M J (A0w l v G P V i.1) (plP G 0 i.1)) (fun i=>G.length-i.1) (c:=X5 DD) (k:=X8 DD) (by kernel_rfl) (fun i ih ac b w hI=>?_) ⟨0,Nat.zero_le _⟩ (by show PlI x p M J (A0w l v G P V 0) (plP G 0 0) ac a W;rw[QA];exact h0)
 obtain ⟨i,hi⟩:=i;obtain ⟨y,z,rfl,hr,hβ,hm,hJ,hs⟩:=hI;simp only at hm hJ hs ih
 have hmb:P0 (D5 y p) (one (.fl [.vsl v (.gate G),.int .i64 P,.int .i64 V])):=Dt hm (hM _) hr hbox;by_cases h:i<G.length
 ·have hw:wrap IntKind.i64 ((i:Int)+1)=((i+1:Nat):Int):=by rw[A9 (by omega) (by omega)];omega
  by_cases h1:0<=wOf (G.getD i H7) 0
  ·have h1' : (0:Int)<=(G.getD i H7).a:=h1
   refine E5k l v G P V i ⟨decide_eq_true (by omega),by omega,by omega,A4,A4,by rw[Int.toNat_natCast];exact decide_eq_true h1',C4⟩ hs fun ac cZ aZ hs2=>?_
   rw[Int.toNat_natCast] at hs2;obtain ⟨hg,hk2,hβ2⟩:=Jp hmb rfl hs2 rfl;have hJ2:=hgrow _ _ _ hJ hg;obtain ⟨t,ht⟩:=VM G (w:=0) (i:=i+1) A4 (by omega)
   have ev:[aZ.tmps.getD 28 undef,aZ.tmps.getD 29 undef]=FU (((i:Int),(0:Int)),(G.getD i H7).a):=by
    have k1:=JP (hs2.t 28);have k2:=M9 (hs2.t 29);show _=[N7 _ _,_];rw[k1,k2]
   have hz:=VN h1;refine Ey (R:=fun W' => J (plP G 0 (i+1)) W') (dst:=some 30) (f:=.tmp 25) (args:=[.tmp 28,.tmp 29]) (by kernel_rfl) hs2 (l:=l) rfl (vs:=FU (((i:Int),(0:Int)),(G.getD i H7).a)) ev ?_ fun W' hJ3=>?_
   ·have:=hyield (plP G 0 i) (((i:Int),(0:Int)),(G.getD i H7).a) _ hJ2 ⟨t,by
     rw[ht,hz,List.append_assoc];rfl⟩
    rw[hz];exact this
   ·obtain ⟨y3,rfl,hm3,hc3⟩:=hread _ _ hJ3
    obtain ⟨hr3,hβ3⟩:=hc3 (p,0) List.mem_cons_self;have hr3:y3.k p = .real:=hr3;have hβ3:y3.β p=x.β p:=hβ3;have hs3:=PP (nx' := 480) (dst:=30) (b:=true) (svs' := [.v (.c (.val (.func (.yield l) #[] #[]))),.v (.c (.ptr 0 0)),.v (.c (.int .i64 0)),.v (.c (.int .i64 0)),.v (.c (.vsl v (.gate G))),.v (.c (.int .i64 (G.length:Nat))),.v (.c (.int .i64 (i:Int))),.v (.c (.lit true)),.top,.top,.top]) hs2 rfl hm3 (hM _) hr3 hbox ⟨ZA,Zz (by rw[hβ2,hβ];exact hβ3.symm),Bm,Bm,ZB (UA hm3 (hM _) hr3),Bm,Bm,Zy,ED,ED,ED,C4⟩ A4
    change Wq Tryz.prog _ _ _ _ _ (D5 y3 p).w
    refine E5a l v G P V i trivial hs3 fun ac cV aV hs4=>?_
    rw[hw] at hs4;exact ih ⟨i+1,by omega⟩ (by show G.length-(i+1)<G.length-i;omega) ac aV _ ⟨y3,cV,rfl,hr3,hβ3,hm3,hJ3,hs4.nx _⟩
  ·have h1' : ¬(0:Int)<=(G.getD i H7).a:=h1
   have e:=A0z h1;refine E5e l v G P V i ⟨decide_eq_true (by omega),by omega,by omega,A4,A4,by rw[Int.toNat_natCast];exact decide_eq_false h1',C4⟩ hs fun ac cZ aZ hs2=>?_
   rw[hw] at hs2;exact ih ⟨i+1,by omega⟩ (by show G.length-(i+1)<G.length-i;omega) ac aZ _ ⟨y,cZ,rfl,hr,hβ,by rw[e];exact hm,by rw[e];exact hJ,hs2.nx _⟩
 ·have e:i=G.length:=by omega
  subst e;refine E5h l v G P V _ ⟨decide_eq_false (by omega),C4⟩ hs fun ac cZ aZ hs2=>?_
  exact next ac aZ _ ⟨y,cZ,rfl,hr,hβ,hm,hJ,hs2.nx _⟩
theorem D4d{Q:Exit->Act->World->Prop}(hlim:G.length<=4096)(hM:∀s,M s p=some (.fl [.vsl v (.gate G),.int .i64 P,.int .i64 V]))(hgrow:∀s W W',J s W->W.grownBy W' none->J s W')
  (hread:∀s W,J s W->∃y,y.w=W∧P0 y (M s)∧∀c∈[(p,0)],y.k c.1 = .real∧y.β c.1=x.β c.1)
  (hyield:∀pre z W1,J pre W1->(∃t,plT G 3=pre++z::t)->YieldAt Fence.wide 0 Tryz.prog l (FU z).toArray W1 fun e W' => e = .returned (.bool true)∧J (pre++[z]) W')
  (next:∀ac a W,PlI x p M J (plO l v G P V 2) (plT G 2) ac a W->Wq Tryz.prog Q (D4 GW) ac .normal a W) {ac:List Act} {a:Act} {W:World} (h0:PlI x p M J (A0x l v G P V 0) (plT G 1) ac a W):Wq Tryz.prog Q DF ac .normal a W:=by
 have hbox:∀{y:C0} (cs:Array Value) (ty:TypeId),y.w.heap[y.β p]? = some (.cells cs ty (0,0))->C9 y (.fl [.vsl v (.gate G),.int .i64 P,.int .i64 V]) cs.toList->C9 (D5 y p) (.fl [.vsl v (.gate G),.int .i64 P,.int .i64 V]) cs.toList:=fun cs _ _ hc=>NA cs hc
 refine I5 (fun i:{ i:Nat // i<=G.length }=>PlI x p M J (A0x l v G P V i.1) (plP G 1 i.1)) (fun i=>G.length-i.1) (c:=X5 DF) (k:=X8 DF) (by kernel_rfl) (fun i ih ac b w hI=>?_) ⟨0,Nat.zero_le _⟩ (by show PlI x p M J (A0x l v G P V 0) (plP G 1 0) ac a W;rw[QA];exact h0)
 obtain ⟨i,hi⟩:=i;obtain ⟨y,z,rfl,hr,hβ,hm,hJ,hs⟩:=hI;simp only at hm hJ hs ih
 have hmb:P0 (D5 y p) (one (.fl [.vsl v (.gate G),.int .i64 P,.int .i64 V])):=Dt hm (hM _) hr hbox;by_cases h:i<G.length
 ·have hw:wrap IntKind.i64 ((i:Int)+1)=((i+1:Nat):Int):=by rw[A9 (by omega) (by omega)];omega
  by_cases h1:0<=wOf (G.getD i H7) 1
  ·have h1' : (0:Int)<=(G.getD i H7).b:=h1
   refine E5l l v G P V i ⟨decide_eq_true (by omega),by omega,by omega,A4,A4,by rw[Int.toNat_natCast];exact decide_eq_true h1',C4⟩ hs fun ac cZ aZ hs2=>?_
   rw[Int.toNat_natCast] at hs2;obtain ⟨hg,hk2,hβ2⟩:=Jp hmb rfl hs2 rfl;have hJ2:=hgrow _ _ _ hJ hg;obtain ⟨t,ht⟩:=VM G (w:=1) (i:=i+1) A4 (by omega)
   have ev:[aZ.tmps.getD 28 undef,aZ.tmps.getD 29 undef]=FU (((i:Int),(1:Int)),(G.getD i H7).b):=by
    have k1:=JP (hs2.t 28);have k2:=M9 (hs2.t 29);show _=[N7 _ _,_];rw[k1,k2]
   have hz:=VN h1;refine Ey (R:=fun W' => J (plP G 1 (i+1)) W') (dst:=some 30) (f:=.tmp 25) (args:=[.tmp 28,.tmp 29]) (by kernel_rfl) hs2 (l:=l) rfl (vs:=FU (((i:Int),(1:Int)),(G.getD i H7).b)) ev ?_ fun W' hJ3=>?_
   ·have:=hyield (plP G 1 i) (((i:Int),(1:Int)),(G.getD i H7).b) _ hJ2 ⟨t,by
     rw[ht,hz,List.append_assoc];rfl⟩
    rw[hz];exact this
   ·obtain ⟨y3,rfl,hm3,hc3⟩:=hread _ _ hJ3
    obtain ⟨hr3,hβ3⟩:=hc3 (p,0) List.mem_cons_self;have hr3:y3.k p = .real:=hr3;have hβ3:y3.β p=x.β p:=hβ3;have hs3:=PP (nx' := 480) (dst:=30) (b:=true) (svs' := [.v (.c (.val (.func (.yield l) #[] #[]))),.v (.c (.ptr 0 0)),.v (.c (.int .i64 1)),.v (.c (.int .i64 1)),.v (.c (.vsl v (.gate G))),.v (.c (.int .i64 (G.length:Nat))),.v (.c (.int .i64 (i:Int))),.v (.c (.lit true)),.top,.top,.top]) hs2 rfl hm3 (hM _) hr3 hbox ⟨ZA,Zz (by rw[hβ2,hβ];exact hβ3.symm),Bm,Bm,ZB (UA hm3 (hM _) hr3),Bm,Bm,Zy,ED,ED,ED,C4⟩ A4
    change Wq Tryz.prog _ _ _ _ _ (D5 y3 p).w
    refine E5b l v G P V i trivial hs3 fun ac cV aV hs4=>?_
    rw[hw] at hs4;exact ih ⟨i+1,by omega⟩ (by show G.length-(i+1)<G.length-i;omega) ac aV _ ⟨y3,cV,rfl,hr3,hβ3,hm3,hJ3,hs4.nx _⟩
  ·have h1' : ¬(0:Int)<=(G.getD i H7).b:=h1
   have e:=A0z h1;refine E5f l v G P V i ⟨decide_eq_true (by omega),by omega,by omega,A4,A4,by rw[Int.toNat_natCast];exact decide_eq_false h1',C4⟩ hs fun ac cZ aZ hs2=>?_
   rw[hw] at hs2;exact ih ⟨i+1,by omega⟩ (by show G.length-(i+1)<G.length-i;omega) ac aZ _ ⟨y,cZ,rfl,hr,hβ,by rw[e];exact hm,by rw[e];exact hJ,hs2.nx _⟩
 ·have e:i=G.length:=by omega
  subst e;refine E5i l v G P V _ ⟨decide_eq_false (by omega),C4⟩ hs fun ac cZ aZ hs2=>?_
  exact next ac aZ _ ⟨y,cZ,rfl,hr,hβ,hm,hJ,hs2.nx _⟩
theorem D4e{Q:Exit->Act->World->Prop}(hlim:G.length<=4096)(hM:∀s,M s p=some (.fl [.vsl v (.gate G),.int .i64 P,.int .i64 V]))(hgrow:∀s W W',J s W->W.grownBy W' none->J s W')
  (hread:∀s W,J s W->∃y,y.w=W∧P0 y (M s)∧∀c∈[(p,0)],y.k c.1 = .real∧y.β c.1=x.β c.1)
  (hyield:∀pre z W1,J pre W1->(∃t,plT G 3=pre++z::t)->YieldAt Fence.wide 0 Tryz.prog l (FU z).toArray W1 fun e W' => e = .returned (.bool true)∧J (pre++[z]) W')
  (next:∀ac a W,PlI x p M J (plO l v G P V 3) (plT G 3) ac a W->Wq Tryz.prog Q (D4 GW) ac .normal a W) {ac:List Act} {a:Act} {W:World} (h0:PlI x p M J (A0y l v G P V 0) (plT G 2) ac a W):Wq Tryz.prog Q DG ac .normal a W:=by
 have hbox:∀{y:C0} (cs:Array Value) (ty:TypeId),y.w.heap[y.β p]? = some (.cells cs ty (0,0))->C9 y (.fl [.vsl v (.gate G),.int .i64 P,.int .i64 V]) cs.toList->C9 (D5 y p) (.fl [.vsl v (.gate G),.int .i64 P,.int .i64 V]) cs.toList:=fun cs _ _ hc=>NA cs hc
 refine I5 (fun i:{ i:Nat // i<=G.length }=>PlI x p M J (A0y l v G P V i.1) (plP G 2 i.1)) (fun i=>G.length-i.1) (c:=X5 DG) (k:=X8 DG) (by kernel_rfl) (fun i ih ac b w hI=>?_) ⟨0,Nat.zero_le _⟩ (by show PlI x p M J (A0y l v G P V 0) (plP G 2 0) ac a W;rw[QA];exact h0)
 obtain ⟨i,hi⟩:=i;obtain ⟨y,z,rfl,hr,hβ,hm,hJ,hs⟩:=hI;simp only at hm hJ hs ih
 have hmb:P0 (D5 y p) (one (.fl [.vsl v (.gate G),.int .i64 P,.int .i64 V])):=Dt hm (hM _) hr hbox;by_cases h:i<G.length
 ·have hw:wrap IntKind.i64 ((i:Int)+1)=((i+1:Nat):Int):=by rw[A9 (by omega) (by omega)];omega
  by_cases h1:0<=wOf (G.getD i H7) 2
  ·have h1' : (0:Int)<=(G.getD i H7).c:=h1
   refine E5m l v G P V i ⟨decide_eq_true (by omega),by omega,by omega,A4,A4,by rw[Int.toNat_natCast];exact decide_eq_true h1',C4⟩ hs fun ac cZ aZ hs2=>?_
   rw[Int.toNat_natCast] at hs2;obtain ⟨hg,hk2,hβ2⟩:=Jp hmb rfl hs2 rfl;have hJ2:=hgrow _ _ _ hJ hg;obtain ⟨t,ht⟩:=VM G (w:=2) (i:=i+1) A4 (by omega)
   have ev:[aZ.tmps.getD 28 undef,aZ.tmps.getD 29 undef]=FU (((i:Int),(2:Int)),(G.getD i H7).c):=by
    have k1:=JP (hs2.t 28);have k2:=M9 (hs2.t 29);show _=[N7 _ _,_];rw[k1,k2]
   have hz:=VN h1;refine Ey (R:=fun W' => J (plP G 2 (i+1)) W') (dst:=some 30) (f:=.tmp 25) (args:=[.tmp 28,.tmp 29]) (by kernel_rfl) hs2 (l:=l) rfl (vs:=FU (((i:Int),(2:Int)),(G.getD i H7).c)) ev ?_ fun W' hJ3=>?_
   ·have:=hyield (plP G 2 i) (((i:Int),(2:Int)),(G.getD i H7).c) _ hJ2 ⟨t,by
     rw[ht,hz,List.append_assoc];rfl⟩
    rw[hz];exact this
   ·obtain ⟨y3,rfl,hm3,hc3⟩:=hread _ _ hJ3
    obtain ⟨hr3,hβ3⟩:=hc3 (p,0) List.mem_cons_self;have hr3:y3.k p = .real:=hr3;have hβ3:y3.β p=x.β p:=hβ3;have hs3:=PP (nx' := 480) (dst:=30) (b:=true) (svs' := [.v (.c (.val (.func (.yield l) #[] #[]))),.v (.c (.ptr 0 0)),.v (.c (.int .i64 2)),.v (.c (.int .i64 2)),.v (.c (.vsl v (.gate G))),.v (.c (.int .i64 (G.length:Nat))),.v (.c (.int .i64 (i:Int))),.v (.c (.lit true)),.top,.top,.top]) hs2 rfl hm3 (hM _) hr3 hbox ⟨ZA,Zz (by rw[hβ2,hβ];exact hβ3.symm),Bm,Bm,ZB (UA hm3 (hM _) hr3),Bm,Bm,Zy,ED,ED,ED,C4⟩ A4
    change Wq Tryz.prog _ _ _ _ _ (D5 y3 p).w
    refine E5c l v G P V i trivial hs3 fun ac cV aV hs4=>?_
    rw[hw] at hs4;exact ih ⟨i+1,by omega⟩ (by show G.length-(i+1)<G.length-i;omega) ac aV _ ⟨y3,cV,rfl,hr3,hβ3,hm3,hJ3,hs4.nx _⟩
  ·have h1' : ¬(0:Int)<=(G.getD i H7).c:=h1
   have e:=A0z h1;refine E5g l v G P V i ⟨decide_eq_true (by omega),by omega,by omega,A4,A4,by rw[Int.toNat_natCast];exact decide_eq_false h1',C4⟩ hs fun ac cZ aZ hs2=>?_
   rw[hw] at hs2;exact ih ⟨i+1,by omega⟩ (by show G.length-(i+1)<G.length-i;omega) ac aZ _ ⟨y,cZ,rfl,hr,hβ,by rw[e];exact hm,by rw[e];exact hJ,hs2.nx _⟩
 ·have e:i=G.length:=by omega
  subst e;refine E5j l v G P V _ ⟨decide_eq_false (by omega),C4⟩ hs fun ac cZ aZ hs2=>?_
  exact next ac aZ _ ⟨y,cZ,rfl,hr,hβ,hm,hJ,hs2.nx _⟩
end
theorem Yn{x:C0}{p:Nat}{v:Value}{G:List A0}{P V:Int}{M:List Plc->Nat->Option En}(hlim:G.length<=4096)(hM:∀s,M s p=some (.fl [.vsl v (.gate G),.int .i64 P,.int .i64 V])):MK Tryz.prog x 103 [(p,0)] FU (plT G 3) M:=by
 intro l J W hgrow hread hyield hJ;have key:Wq Tryz.prog (bodyPost Tryz.prog Tryz.f103 fun e W' => (∃v,e=Ending.returned v)∧J (plT G 3) W') [.code (B5 Tryz.f103)] [] .normal { tmps:=[Value.func (.yield l) #[] #[],.pointer (some ⟨x.β p,0,none⟩)].toArray++Array.replicate 33 undef,defers:=[] } W:=?_
 ·exact calls_of_wp (c:=B5 Tryz.f103) Tryz.func103 rfl ((wpIn_wide (n:=0)).1 key.wp)
 obtain ⟨y,rfl,hm,hc⟩:=hread [] W hJ;obtain ⟨hr,hβ⟩:=hc (p,0) List.mem_cons_self;have hr:y.k p = .real:=hr;have hβ:y.β p=x.β p:=hβ;have hbox:∀{y:C0} (cs:Array Value) (ty:TypeId),y.w.heap[y.β p]? = some (.cells cs ty (0,0))->C9 y (.fl [.vsl v (.gate G),.int .i64 P,.int .i64 V]) cs.toList->C9 (D5 y p) (.fl [.vsl v (.gate G),.int .i64 P,.int .i64 V]) cs.toList:=fun cs _ _ hc=>NA cs hc
 have hargs:J7 (D5 y p) [.v (.c (.val (.func (.yield l) #[] #[]))),.v (.c (.ptr 0 0))] [.func (.yield l) #[] #[],.pointer (some ⟨x.β p,0,none⟩)]:=
  .cons ⟨rfl,0,rfl,rfl⟩ (.cons ⟨rfl,0,rfl,by show _=[Value.pointer (some ⟨y.β p,0,none⟩)];rw[hβ]⟩ .nil)
 have hs:=KY (nx:=16) (nt:=35) (a:={ tmps:=[Value.func (.yield l) #[] #[],.pointer (some ⟨x.β p,0,none⟩)].toArray++Array.replicate 33 undef,defers:=[] }) hm (hM []) hr hbox rfl (by simp) (AX hargs 33)
 change Wq Tryz.prog _ _ _ _ _ (D5 y p).w
 refine pl l v G P V trivial hs fun ac cY aY hs1=>?_
 have l0:(0:Nat)<=3:=by decide
 have l1:(1:Nat)<=3:=by decide
 have l2:(2:Nat)<=3:=by decide
 have l3:(3:Nat)<=3:=by decide
 refine I5 (fun w:{ w:Nat // w<=3 }=>PlI x p M J (plO l v G P V (wI w.1)) (plT G w.1)) (fun w=>3-w.1) (c:=X5 GW) (k:=X8 GW) (by kernel_rfl) (fun w ih ac b W hI=>?_) ⟨0,l0⟩ (show PlI x p M J (plO l v G P V 0) (plT G 0) ac aY cY.w from ⟨y,cY,rfl,hr,hβ,hm,hJ,hs1.nx _⟩)
 obtain ⟨w,hw⟩:=w;match w,hw with
 | 0,_=>
  obtain ⟨y,z,rfl,hr,hβ,hm,hJ,hs⟩:=hI;refine E4x l v G P V ⟨decide_eq_true A4,C4⟩ hs fun ac cZ aZ hs2=>?_
  exact D4c hlim hM hgrow hread hyield (fun ac a W h=>ih ⟨1,l1⟩ (by show 3-1<3-0;omega) ac a W h) ⟨y,cZ,rfl,hr,hβ,hm,hJ,hs2.nx _⟩
 | 1,_=>
  obtain ⟨y,z,rfl,hr,hβ,hm,hJ,hs⟩:=hI;refine E4y l v G P V ⟨decide_eq_true A4,C4⟩ hs fun ac cZ aZ hs2=>?_
  exact D4d hlim hM hgrow hread hyield (fun ac a W h=>ih ⟨2,l2⟩ (by show 3-2<3-1;omega) ac a W h) ⟨y,cZ,rfl,hr,hβ,hm,hJ,hs2.nx _⟩
 | 2,_=>
  obtain ⟨y,z,rfl,hr,hβ,hm,hJ,hs⟩:=hI;refine E4z l v G P V ⟨decide_eq_true A4,C4⟩ hs fun ac cZ aZ hs2=>?_
  exact D4e hlim hM hgrow hread hyield (fun ac a W h=>ih ⟨3,l3⟩ (by show 3-3<3-2;omega) ac a W h) ⟨y,cZ,rfl,hr,hβ,hm,hJ,hs2.nx _⟩
 | 3,_=>
  obtain ⟨y,z,rfl,hr,hβ,hm,hJ,hs⟩:=hI;have hmb:P0 (D5 y p) (one (.fl [.vsl v (.gate G),.int .i64 P,.int .i64 V])):=Dt hm (hM _) hr hbox;refine E5d l v G P V ⟨decide_eq_false A4,C4⟩ hs fun ac cZ aZ hs2=>?_
  obtain ⟨hg,_,_⟩:=Jp hmb rfl hs2 rfl;exact ⟨Va N4 hs2 rfl rfl rfl (fun v=>⟨⟨v,rfl⟩,hgrow _ _ _ hJ hg⟩) (.inr rfl)⟩
end
section
section
variable {w0:World} {F0:Nat->Prop} {K:Kp} {ac:List Act} {Q:Exit->Act->World->Prop} {cX:C0} {aX:Act}
theorem ckE(l:List A0)(p v log:Int):C2 cvA Tryz.f81 3000 [W4 l p v,.v (.c (.int .i64 log))] [false,false,false,false,false] [] []=(some ([((Bool.not (E9 l p v))=false),((decide (log<(0:Int)))=false),((decide (log > (16:Int)))=false),(0<=log),((decide ((wrap .i64 ((1:Int)*((2:Int) ^ (Min.min (log).toNat 64))))<(l.length:Int)))=false)],((.ii 0),[]))):=by kernel_rfl
theorem Zu(l:List A0)(p v log:Int)(hr:E9 l p v=true)(h0:0<=log)(h1:log<=16)(h2:l.length<=2 ^ log.toNat):K2 Tryz.prog 81 [W4 l p v,.v (.c (.int .i64 log))] (.v (.c (.int .i64 0))) []:=by
 obtain ⟨e1,_⟩:=S4.D6i h0 (by omega)
 have r:=ckE l p v log;rw[e1] at r;exact A6 N4 Tryz.func81 r ⟨by rw[hr];rfl,decide_eq_false (by omega),decide_eq_false (by omega),h0,decide_eq_false (by omega),C4⟩
def Zv:B2
 | [.v (.a [.sl (.gate l),.int .i64 p,.int .i64 v]),.v (.c (.int .i64 log))]=>some ([E9 l p v=true,0<=log,log<=16,l.length<=2 ^ log.toNat],.v (.c (.int .i64 0)),[])
 | _=>none
def nxA:D6:=cvA.set (E0 cvA.fn 81 Zv)
theorem M4:A7 Tryz.prog nxA:=A8 N4 81 Zv (A2 Tryz.func81 rfl rfl) fun args o r es h ho=>by
 unfold Zv at h;split at h
 ·cases h;exact Zu _ _ _ _ ho.1 ho.2.1 ho.2.2.1 ho.2.2.2.1
 ·cases h
def EJ:List KI:=(run nxA false 3000 (⟨[.code (B5 Tryz.f50)],.normal,D2 Tryz.f50.ntmps [W4 dF dF dF,.v (.c (.int .i64 dF))]⟩:G5) [false]).cfg.k
theorem nx(l:List A0)(p v log:Int):let a:=Value.slice Option.none 0 0;let b:=B9 [(.val a),(.val a),(.val a)];A5 [((E9 l p v)=true),(0<=log),(log<=(16:Int)),(l.length<=(2 ^ (log).toNat)),(((0:Int) != (0:Int))=false)]->Sg Tryz.prog (D2 Tryz.f50.ntmps [W4 l p v,.v (.c (.int .i64 log))]) (B0 81 [1,2,4,6,23] [.ii log,.pt 16 0,.pt 32 0,.pt 64 0,.ii 0] [16,32,64] [(B9 [(.sl (.gate l)),(.int .i64 p),(.int .i64 v)]),b,b] 192 [] []) .normal (EJ) ([.code (B5 Tryz.f50)]):=E4 false 3000 [false] M4
def nxO(l:List A0)(p v log w:Int)(m0 m1 m2:Nat)(L0 L1 L2:List (Int×Int)):St:=B0 81 [1,2,4,6,23] [.ii log,.pt 16 0,.pt 32 0,.pt 64 0,.v (.c (.int .i64 w))] [16,32,64,65,66,67] [(B9 [(.sl (.gate l)),(.int .i64 p),(.int .i64 v)]),(B9 [(.val (Value.slice Option.none 0 0)),(.val (Value.slice Option.none 0 0)),(.val (Value.slice Option.none 0 0))]),some (.fl [.slc 65 0 m0 2,.slc 66 0 m1 2,.slc 67 0 m2 2]),some (.sq (.place L0)),some (.sq (.place L1)),some (.sq (.place L2))] 192 [] []
def B7k(l:List A0)(p v log:Int)(m0 m1 m2:Nat)(L0 L1 L2:List (Int×Int))(N i:Int)(h0:Int)(h1:Int):St:=B0 81 [1,2,4,6,8,23,27,28] [.ii log,.pt 16 0,.pt 32 0,.pt 64 0,.ii h0,.ii h1,.v (.c (.int .i64 N)),.v (.c (.int .i64 i))] [16,32,64,65,66,67] [(B9 [(.sl (.gate l)),(.int .i64 p),(.int .i64 v)]),(B9 [(.val (Value.slice Option.none 0 0)),(.val (Value.slice Option.none 0 0)),(.val (Value.slice Option.none 0 0))]),some (.fl [.slc 65 0 m0 2,.slc 66 0 m1 2,.slc 67 0 m2 2]),some (.sq (.place L0)),some (.sq (.place L1)),some (.sq (.place L2))] 288 [] []
def A0o(l:List A0)(p v log:Int)(m0 m1 m2:Nat)(L0 L1 L2:List (Int×Int))(N i:Int):St:=B7k l p v log m0 m1 m2 L0 L1 L2 N i (0:Int) (0:Int)
def HS:List KI:=(run nxA false 3000 (⟨B7 EJ,.normal,nxO dF dF dF dF 0 dF dF dF dF dF dF⟩:G5) [true]).cfg.k
theorem E4c(l:List A0)(p v log:Int)(m0 m1 m2:Nat)(L0 L1 L2:List (Int×Int)):A5 [((decide (0<(3:Int)))=true),(0<=log)]->Sg Tryz.prog (nxO l p v log 0 m0 m1 m2 L0 L1 L2) (A0o l p v log m0 m1 m2 L0 L1 L2 (wrap .i64 ((1:Int)*((2:Int) ^ (Min.min (log).toNat 64)))) (0:Int)) .normal (HS) (B7 EJ):=E4 false 3000 [true] M4
theorem E4f(l:List A0)(p v log:Int)(m0 m1 m2:Nat)(L0 L1 L2:List (Int×Int))(N i:Int):let a:=L0.length+1;A5 [((decide (i<N))=true),(0<=(0:Int)),(0<(3:Int)),((a*16)<=140737488355328),(a<=maxLen),(m0=L0.length),(1=1),(0<=(0:Int)),(0<(3:Int))]->Sg Tryz.prog (A0o l p v log m0 m1 m2 L0 L1 L2 N i) (St.z (A0o l p v log a m1 m2 (L0++[(i,(0:Int))]) L1 L2 N (wrap .i64 (i+1))) 544) .normal (D4 HS) (B7 HS):=E4 false 3000 [true] M4
theorem E4i(l:List A0)(p v log:Int)(m0 m1 m2:Nat)(L0 L1 L2:List (Int×Int))(N i:Int):A5 [((decide (i<N))=false)]->Sg Tryz.prog (A0o l p v log m0 m1 m2 L0 L1 L2 N i) (St.z (nxO l p v log (1:Int) m0 m1 m2 L0 L1 L2) 336) .normal (D4 EJ) (B7 HS):=E4 false 3000 [false] M4
def A0p(l:List A0)(p v log:Int)(m0 m1 m2:Nat)(L0 L1 L2:List (Int×Int))(N i:Int):St:=B7k l p v log m0 m1 m2 L0 L1 L2 N i (1:Int) (1:Int)
def HT:List KI:=(run nxA false 3000 (⟨B7 EJ,.normal,nxO dF dF dF dF 1 dF dF dF dF dF dF⟩:G5) [true]).cfg.k
theorem E4d(l:List A0)(p v log:Int)(m0 m1 m2:Nat)(L0 L1 L2:List (Int×Int)):A5 [((decide ((1:Int)<(3:Int)))=true),(0<=log)]->Sg Tryz.prog (nxO l p v log 1 m0 m1 m2 L0 L1 L2) (A0p l p v log m0 m1 m2 L0 L1 L2 (wrap .i64 ((1:Int)*((2:Int) ^ (Min.min (log).toNat 64)))) (0:Int)) .normal (HT) (B7 EJ):=E4 false 3000 [true] M4
theorem E4g(l:List A0)(p v log:Int)(m0 m1 m2:Nat)(L0 L1 L2:List (Int×Int))(N i:Int):let a:Int:=1;let b:=L1.length+1;A5 [((decide (i<N))=true),(0<=a),(a<(3:Int)),((b*16)<=140737488355328),(b<=maxLen),(m1=L1.length),(1=1),(0<=a),(a<(3:Int))]->Sg Tryz.prog (A0p l p v log m0 m1 m2 L0 L1 L2 N i) (St.z (A0p l p v log m0 b m2 L0 (L1++[(i,a)]) L2 N (wrap .i64 (i+1))) 544) .normal (D4 HT) (B7 HT):=E4 false 3000 [true] M4
theorem E4j(l:List A0)(p v log:Int)(m0 m1 m2:Nat)(L0 L1 L2:List (Int×Int))(N i:Int):A5 [((decide (i<N))=false)]->Sg Tryz.prog (A0p l p v log m0 m1 m2 L0 L1 L2 N i) (St.z (nxO l p v log (2:Int) m0 m1 m2 L0 L1 L2) 336) .normal (D4 EJ) (B7 HT):=E4 false 3000 [false] M4
def A0q(l:List A0)(p v log:Int)(m0 m1 m2:Nat)(L0 L1 L2:List (Int×Int))(N i:Int):St:=B7k l p v log m0 m1 m2 L0 L1 L2 N i (2:Int) (2:Int)
def HU:List KI:=(run nxA false 3000 (⟨B7 EJ,.normal,nxO dF dF dF dF 2 dF dF dF dF dF dF⟩:G5) [true]).cfg.k
theorem E4e(l:List A0)(p v log:Int)(m0 m1 m2:Nat)(L0 L1 L2:List (Int×Int)):A5 [((decide ((2:Int)<(3:Int)))=true),(0<=log)]->Sg Tryz.prog (nxO l p v log 2 m0 m1 m2 L0 L1 L2) (A0q l p v log m0 m1 m2 L0 L1 L2 (wrap .i64 ((1:Int)*((2:Int) ^ (Min.min (log).toNat 64)))) (0:Int)) .normal (HU) (B7 EJ):=E4 false 3000 [true] M4
theorem E4h(l:List A0)(p v log:Int)(m0 m1 m2:Nat)(L0 L1 L2:List (Int×Int))(N i:Int):let a:Int:=2;let b:=L2.length+1;A5 [((decide (i<N))=true),(0<=a),(a<(3:Int)),((b*16)<=140737488355328),(b<=maxLen),(m2=L2.length),(1=1),(0<=a),(a<(3:Int))]->Sg Tryz.prog (A0q l p v log m0 m1 m2 L0 L1 L2 N i) (St.z (A0q l p v log m0 m1 b L0 L1 (L2++[(i,a)]) N (wrap .i64 (i+1))) 544) .normal (D4 HU) (B7 HU):=E4 false 3000 [true] M4
theorem E4k(l:List A0)(p v log:Int)(m0 m1 m2:Nat)(L0 L1 L2:List (Int×Int))(N i:Int):A5 [((decide (i<N))=false)]->Sg Tryz.prog (A0q l p v log m0 m1 m2 L0 L1 L2 N i) (St.z (nxO l p v log (3:Int) m0 m1 m2 L0 L1 L2) 336) .normal (D4 EJ) (B7 HU):=E4 false 3000 [false] M4
def Yf:List KI:=(run nxA false 3000 (⟨B7 EJ,.normal,nxO dF dF dF dF 3 dF dF dF dF dF dF⟩:G5) [false]).cfg.k
theorem nxD(l:List A0)(p v log:Int)(m0 m1 m2:Nat)(L0 L1 L2:List (Int×Int)):let a:=Value.slice Option.none 0 0;A5 [((decide ((3:Int)<(3:Int)))=false)]->Sg Tryz.prog (nxO l p v log 3 m0 m1 m2 L0 L1 L2) (B0 81 [2,4,6] [.pt 16 0,.pt 32 0,.pt 64 0] [16,32,64,65,66,67] [(B9 [(.sl (.gate l)),(.int .i64 p),(.int .i64 v)]),(B9 [(.val a),(.val a),(.val a)]),(B9 [(.slc 65 0 m0 2),(.slc 66 0 m1 2),(.slc 67 0 m2 2)]),(D9 (Sq.place L0)),(D9 (Sq.place L1)),(D9 (Sq.place L2))] 208 [] []) .normal (Yf) (B7 EJ):=E4 false 3000 [false] M4
end
end
end
end Go.Proofs.YtifiiigbedjceaaGreat
