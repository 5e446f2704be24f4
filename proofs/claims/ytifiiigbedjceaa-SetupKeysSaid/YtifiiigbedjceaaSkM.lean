/- Parts of a proof, one behind the other: WVb, PVb, WRight, PRight, WSize, PSize, WPl, PPlc, WNa, WRq, PRq, WTm, PTm, WRc, PRc, WPq, PPq, PPl, WIq, PIq. No conditions. -/
import Derived.Test.YtifiiigbedjceaaSkL
open Go.IntKind (wrap)
namespace Go.Proofs.Ytifiiigbedjceaa
noncomputable section
namespace S4
section
variable {w0:World} {F0:Nat->Prop} {K:Kp} {ac:List Act} {Q:Exit->Act->World->Prop} {cX:Ctx} {aX:Act}

def A4w:List KI:=(run dT false 3000 (⟨[.code (B2 Try.f33)],.normal,D6 Try.f33.ntmps [.v (.c (.int .i64 dF))]⟩:Cfg) [false]).cfg.k
theorem nb (log:Int):let a:=Value.slice Option.none 0 0;let d:=eF_ [(.val a),(.val a),(.val a)];let f:=S4.D2 log;let g:Int:=0;let h:=(S4.K0 log)=true;let b:=ite h log g;let i:=S4.A3h b f;A3 [(((ite h g (40:Int)) != g)=false)]->Sg Try.prog (D6 Try.f33.ntmps [.v (.c (.int .i64 log))]) (A5 53 [2,4,6,7,26] [.pt 16 0,.pt 48 0,(.ii (ite ((S4.E9 b f)=true) g (40:Int))),(.ci (.slc 240 0 i.length 4)),.ii g] [16,48,240] [d,d,(eQ_ (.fr i))] 352 [] []) .normal (A4w) ([.code (B2 Try.f33)]):=sgA false 3000 [false] A3f
def nbO (E:List U4) (e w :Int) (m0 m1 m2:Nat) (L0 L1 L2:List Fr):St:=A5 53 [2,4,6,7,26] [.pt 16 0,.pt 48 0,.v (.c (.int .i64 e)),.v (.c (.slc 240 0 E.length 4)),.v (.c (.int .i64 w))] [16,48,240,241,242,243] [(eF_ [(.val (Value.slice Option.none 0 0)),(.val (Value.slice Option.none 0 0)),(.val (Value.slice Option.none 0 0))]),some (.fl [.slc 241 0 m0 4,.slc 242 0 m1 4,.slc 243 0 m2 4]),some (.sq (.fr E)),some (.sq (.s L0)),some (.sq (.s L1)),some (.sq (.s L2))] 352 [] []
def A8m:List KI:=(run dT false 3000 (⟨B5 A4w,.normal,nbO dF dF 0 dF dF dF dF dF dF⟩:Cfg) [true]).cfg.k
theorem G9m (E:List U4) (e:Int) (m0 m1 m2:Nat) (L0 L1 L2:List Fr):let a:=Value.slice Option.none 0 0;let b:Int:=0;A3 [((decide (0<(3:Int)))=true),(0<=b),(0<(3:Int))]->Sg Try.prog (nbO E e 0 m0 m1 m2 L0 L1 L2) (A5 53 [2,4,6,7,8,9,26,32,33,34] [.pt 16 0,.pt 48 0,.ii e,(.ci (.slc 240 0 E.length 4)),.ii b,.pt 448 0,.ii b,(.ci (.slc 240 0 E.length 4)),(.ii (E.length:Int)),.ii b] [16,48,240,241,242,243,448] [(eF_ [(.val a),(.val a),(.val a)]),(eF_ [(.slc 241 0 m0 4),(.slc 242 0 m1 4),(.slc 243 0 m2 4)]),(eQ_ (.fr E)),(eQ_ (.s L0)),(eQ_ (.s L1)),(eQ_ (.s L2)),(eF_ [(.ob (.s (S4.inF (S4.shF b))))])] 528 [] []) .normal (A8m) (B5 A4w):=sgA false 3000 [true] A3f
def E7v (E:List U4) (e i :Int) (m0 m1 m2:Nat) (L0 L1 L2:List Fr):St:=A5 53 [2,4,6,7,8,9,26,32,33,34] [.pt 16 0,.pt 48 0,.ii e,(.ci (.slc 240 0 E.length 4)),.ii (0:Int),.pt 448 0,.ii (0:Int),(.ci (.slc 240 0 E.length 4)),(.ii (E.length:Int)),.v (.c (.int .i64 i))] [16,48,240,241,242,243,448] [(eF_ [(.val (Value.slice Option.none 0 0)),(.val (Value.slice Option.none 0 0)),(.val (Value.slice Option.none 0 0))]),(eF_ [(.slc 241 0 m0 4),(.slc 242 0 m1 4),(.slc 243 0 m2 4)]),(eQ_ (.fr E)),(eQ_ (.s L0)),(eQ_ (.s L1)),(eQ_ (.s L2)),(eF_ [(.ob (.s (S4.inF (S4.shF (0:Int)))))])] 528 [] []
section
variable (E:List U4) (e i:Int) (m0 m1 m2:Nat) (L0 L1 L2:List Fr)
theorem G9p:let a:=Value.slice Option.none 0 0;let b:Int:=0;let c:Int:=E.length;let d:=L0.length+1;let f:=S4.inF (S4.shF b);A3 [((decide (i<c))=true),(0<=i),(i<c),(0=0),((i).toNat<E.length),(0<=b),(0<(3:Int)),((d*32)<=140737488355328),(d<=maxLen),(m0=L0.length),(1=1),(0<=b),(0<(3:Int))]->Sg Try.prog (E7v E e i m0 m1 m2 L0 L1 L2) (A5 53 [2,4,6,7,8,9,26,32,33,34] [.pt 16 0,.pt 48 0,.ii e,(.ci (.slc 240 0 E.length 4)),.ii b,.pt 448 0,.ii b,(.ci (.slc 240 0 E.length 4)),(.ii c),(.ii (wrap .i64 (i+1)))] [16,48,240,241,242,243,448] [(eF_ [(.val a),(.val a),(.val a)]),(eF_ [(.slc 241 0 d 4),(.slc 242 0 m1 4),(.slc 243 0 m2 4)]),(eQ_ (.fr E)),(eQ_ (.s (L0++[((S4.inF (E.getD i.toNat 0))*f)]))),(eQ_ (.s L1)),(eQ_ (.s L2)),(eF_ [(.ob (.s f))])] 832 [] []) .normal (D5 A8m) (B5 A8m):=sgA false 3000 [true] A3f
theorem G9s:let a:=Value.slice Option.none 0 0;A3 [((decide (i<(E.length:Int)))=false)]->Sg Try.prog (E7v E e i m0 m1 m2 L0 L1 L2) (A5 53 [2,4,6,7,26] [.pt 16 0,.pt 48 0,.ii e,(.ci (.slc 240 0 E.length 4)),.ii (1:Int)] [16,48,240,241,242,243] [(eF_ [(.val a),(.val a),(.val a)]),(eF_ [(.slc 241 0 m0 4),(.slc 242 0 m1 4),(.slc 243 0 m2 4)]),(eQ_ (.fr E)),(eQ_ (.s L0)),(eQ_ (.s L1)),(eQ_ (.s L2))] 576 [] []) .normal (D5 A4w) (B5 A8m):=sgA false 3000 [false] A3f
def A8n:List KI:=(run dT false 3000 (⟨B5 A4w,.normal,nbO dF dF 1 dF dF dF dF dF dF⟩:Cfg) [true]).cfg.k
end
theorem G9n (E:List U4) (e:Int) (m0 m1 m2:Nat) (L0 L1 L2:List Fr):let a:=Value.slice Option.none 0 0;let b:Int:=1;A3 [((decide (b<(3:Int)))=true),(0<=b),(b<(3:Int))]->Sg Try.prog (nbO E e 1 m0 m1 m2 L0 L1 L2) (A5 53 [2,4,6,7,8,9,26,32,33,34] [.pt 16 0,.pt 48 0,.ii e,(.ci (.slc 240 0 E.length 4)),.ii b,.pt 448 0,.ii b,(.ci (.slc 240 0 E.length 4)),(.ii (E.length:Int)),.ii (0:Int)] [16,48,240,241,242,243,448] [(eF_ [(.val a),(.val a),(.val a)]),(eF_ [(.slc 241 0 m0 4),(.slc 242 0 m1 4),(.slc 243 0 m2 4)]),(eQ_ (.fr E)),(eQ_ (.s L0)),(eQ_ (.s L1)),(eQ_ (.s L2)),(eF_ [(.ob (.s (S4.inF (S4.shF b))))])] 528 [] []) .normal (A8n) (B5 A4w):=sgA false 3000 [true] A3f
def E7w (E:List U4) (e i :Int) (m0 m1 m2:Nat) (L0 L1 L2:List Fr):St:=A5 53 [2,4,6,7,8,9,26,32,33,34] [.pt 16 0,.pt 48 0,.ii e,(.ci (.slc 240 0 E.length 4)),.ii (1:Int),.pt 448 0,.ii (1:Int),(.ci (.slc 240 0 E.length 4)),(.ii (E.length:Int)),.v (.c (.int .i64 i))] [16,48,240,241,242,243,448] [(eF_ [(.val (Value.slice Option.none 0 0)),(.val (Value.slice Option.none 0 0)),(.val (Value.slice Option.none 0 0))]),(eF_ [(.slc 241 0 m0 4),(.slc 242 0 m1 4),(.slc 243 0 m2 4)]),(eQ_ (.fr E)),(eQ_ (.s L0)),(eQ_ (.s L1)),(eQ_ (.s L2)),(eF_ [(.ob (.s (S4.inF (S4.shF (1:Int)))))])] 528 [] []
section
variable (E:List U4) (e i:Int) (m0 m1 m2:Nat) (L0 L1 L2:List Fr)
theorem G9q:let a:=Value.slice Option.none 0 0;let b:Int:=1;let c:Int:=E.length;let d:=L1.length+1;let f:=S4.inF (S4.shF b);A3 [((decide (i<c))=true),(0<=i),(i<c),(0=0),((i).toNat<E.length),(0<=b),(b<(3:Int)),((d*32)<=140737488355328),(d<=maxLen),(m1=L1.length),(1=1),(0<=b),(b<(3:Int))]->Sg Try.prog (E7w E e i m0 m1 m2 L0 L1 L2) (A5 53 [2,4,6,7,8,9,26,32,33,34] [.pt 16 0,.pt 48 0,.ii e,(.ci (.slc 240 0 E.length 4)),.ii b,.pt 448 0,.ii b,(.ci (.slc 240 0 E.length 4)),(.ii c),(.ii (wrap .i64 (i+1)))] [16,48,240,241,242,243,448] [(eF_ [(.val a),(.val a),(.val a)]),(eF_ [(.slc 241 0 m0 4),(.slc 242 0 d 4),(.slc 243 0 m2 4)]),(eQ_ (.fr E)),(eQ_ (.s L0)),(eQ_ (.s (L1++[((S4.inF (E.getD i.toNat 0))*f)]))),(eQ_ (.s L2)),(eF_ [(.ob (.s f))])] 832 [] []) .normal (D5 A8n) (B5 A8n):=sgA false 3000 [true] A3f
theorem G9t:let a:=Value.slice Option.none 0 0;A3 [((decide (i<(E.length:Int)))=false)]->Sg Try.prog (E7w E e i m0 m1 m2 L0 L1 L2) (A5 53 [2,4,6,7,26] [.pt 16 0,.pt 48 0,.ii e,(.ci (.slc 240 0 E.length 4)),.ii (2:Int)] [16,48,240,241,242,243] [(eF_ [(.val a),(.val a),(.val a)]),(eF_ [(.slc 241 0 m0 4),(.slc 242 0 m1 4),(.slc 243 0 m2 4)]),(eQ_ (.fr E)),(eQ_ (.s L0)),(eQ_ (.s L1)),(eQ_ (.s L2))] 576 [] []) .normal (D5 A4w) (B5 A8n):=sgA false 3000 [false] A3f
def A8o:List KI:=(run dT false 3000 (⟨B5 A4w,.normal,nbO dF dF 2 dF dF dF dF dF dF⟩:Cfg) [true]).cfg.k
end
theorem G9o (E:List U4) (e:Int) (m0 m1 m2:Nat) (L0 L1 L2:List Fr):let a:=Value.slice Option.none 0 0;let b:Int:=2;A3 [((decide (b<(3:Int)))=true),(0<=b),(b<(3:Int))]->Sg Try.prog (nbO E e 2 m0 m1 m2 L0 L1 L2) (A5 53 [2,4,6,7,8,9,26,32,33,34] [.pt 16 0,.pt 48 0,.ii e,(.ci (.slc 240 0 E.length 4)),.ii b,.pt 448 0,.ii b,(.ci (.slc 240 0 E.length 4)),(.ii (E.length:Int)),.ii (0:Int)] [16,48,240,241,242,243,448] [(eF_ [(.val a),(.val a),(.val a)]),(eF_ [(.slc 241 0 m0 4),(.slc 242 0 m1 4),(.slc 243 0 m2 4)]),(eQ_ (.fr E)),(eQ_ (.s L0)),(eQ_ (.s L1)),(eQ_ (.s L2)),(eF_ [(.ob (.s (S4.inF (S4.shF b))))])] 528 [] []) .normal (A8o) (B5 A4w):=sgA false 3000 [true] A3f
def E7x (E:List U4) (e i :Int) (m0 m1 m2:Nat) (L0 L1 L2:List Fr):St:=A5 53 [2,4,6,7,8,9,26,32,33,34] [.pt 16 0,.pt 48 0,.ii e,(.ci (.slc 240 0 E.length 4)),.ii (2:Int),.pt 448 0,.ii (2:Int),(.ci (.slc 240 0 E.length 4)),(.ii (E.length:Int)),.v (.c (.int .i64 i))] [16,48,240,241,242,243,448] [(eF_ [(.val (Value.slice Option.none 0 0)),(.val (Value.slice Option.none 0 0)),(.val (Value.slice Option.none 0 0))]),(eF_ [(.slc 241 0 m0 4),(.slc 242 0 m1 4),(.slc 243 0 m2 4)]),(eQ_ (.fr E)),(eQ_ (.s L0)),(eQ_ (.s L1)),(eQ_ (.s L2)),(eF_ [(.ob (.s (S4.inF (S4.shF (2:Int)))))])] 528 [] []
section
variable (E:List U4) (e i:Int) (m0 m1 m2:Nat) (L0 L1 L2:List Fr)
theorem G9r:let a:=Value.slice Option.none 0 0;let b:Int:=2;let c:Int:=E.length;let d:=L2.length+1;let f:=S4.inF (S4.shF b);A3 [((decide (i<c))=true),(0<=i),(i<c),(0=0),((i).toNat<E.length),(0<=b),(b<(3:Int)),((d*32)<=140737488355328),(d<=maxLen),(m2=L2.length),(1=1),(0<=b),(b<(3:Int))]->Sg Try.prog (E7x E e i m0 m1 m2 L0 L1 L2) (A5 53 [2,4,6,7,8,9,26,32,33,34] [.pt 16 0,.pt 48 0,.ii e,(.ci (.slc 240 0 E.length 4)),.ii b,.pt 448 0,.ii b,(.ci (.slc 240 0 E.length 4)),(.ii c),(.ii (wrap .i64 (i+1)))] [16,48,240,241,242,243,448] [(eF_ [(.val a),(.val a),(.val a)]),(eF_ [(.slc 241 0 m0 4),(.slc 242 0 m1 4),(.slc 243 0 d 4)]),(eQ_ (.fr E)),(eQ_ (.s L0)),(eQ_ (.s L1)),(eQ_ (.s (L2++[((S4.inF (E.getD i.toNat 0))*f)]))),(eF_ [(.ob (.s f))])] 832 [] []) .normal (D5 A8o) (B5 A8o):=sgA false 3000 [true] A3f
theorem G9u:let a:=Value.slice Option.none 0 0;A3 [((decide (i<(E.length:Int)))=false)]->Sg Try.prog (E7x E e i m0 m1 m2 L0 L1 L2) (A5 53 [2,4,6,7,26] [.pt 16 0,.pt 48 0,.ii e,(.ci (.slc 240 0 E.length 4)),.ii (3:Int)] [16,48,240,241,242,243] [(eF_ [(.val a),(.val a),(.val a)]),(eF_ [(.slc 241 0 m0 4),(.slc 242 0 m1 4),(.slc 243 0 m2 4)]),(eQ_ (.fr E)),(eQ_ (.s L0)),(eQ_ (.s L1)),(eQ_ (.s L2))] 576 [] []) .normal (D5 A4w) (B5 A8o):=sgA false 3000 [false] A3f
end
theorem nbD (E:List U4) (e:Int) (m0 m1 m2:Nat) (L0 L1 L2:List Fr):A3 [((decide ((3:Int)<(3:Int)))=false)]->Sg Try.prog (nbO E e 3 m0 m1 m2 L0 L1 L2) (A5 53 [2,3] [.pt 16 0,.ii e] [16,241,242,243] [(eF_ [(.slc 241 0 m0 4),(.slc 242 0 m1 4),(.slc 243 0 m2 4)]),(eQ_ (.s L0)),(eQ_ (.s L1)),(eQ_ (.s L2))] 432 [] []) .ret ([]) (B5 A4w):=sgA false 3000 [false] A3f
def nbQ (_E:List U4) (e :Int) (m0 m1 m2:Nat) (L0 L1 L2:List Fr):St:=A5 53 [2,3] [.pt 16 0,.ii e] [16,241,242,243] [(eF_ [(.slc 241 0 m0 4),(.slc 242 0 m1 4),(.slc 243 0 m2 4)]),(eQ_ (.s L0)),(eQ_ (.s L1)),(eQ_ (.s L2))] 432 [] []
theorem E7y (E:List U4) (e:Int) (m0 m1 m2:Nat) (L0 L1 L2:List Fr):C2 dT Try.f33 false 3000 (⟨[],.ret,nbQ E e m0 m1 m2 L0 L1 L2⟩) [] [241,242,243] []=(some ([],((.t [(.a [(.slc 0 0 m0 4),(.slc 1 0 m1 4),(.slc 2 0 m2 4)]),(.c (.int .i64 e))]),[(.sq (.s L0)),(.sq (.s L1)),(.sq (.s L2))]))):=by kernel_rfl
end
end S4

namespace S4

/-- The elements' first ones, times a wire's shift. -/
def G2 (E:List U4) (w:Int) (n:Nat):List Fr:=(List.range n).map fun (i:Nat)=>inF (E.getD i 0)*inF (shF w)
theorem N7 (E:List U4) (w:Int) (n:Nat):(G2 E w n).length=n:=by simp [G2]
theorem B3e (E:List U4) (w:Int):G2 E w 0=[]:=rfl
theorem B3d (E:List U4) (w:Int) (n:Nat):G2 E w (n+1)=G2 E w n++[inF (E.getD n 0)*inF (shF w)]:=by
 unfold G2;rw[List.range_succ,List.map_append];rfl
theorem F4r {w0:World} {F0:Nat->Prop} {K:Kp} {Q:Exit->Act->World->Prop} (E:List U4) (e:Int) (m1 m2:Nat) (L1 L2:List Fr) (hN:E.length<=65536) (next:∀ac a y,Sim w0 F0 K ac (nbO E e 1 E.length m1 m2 (G2 E 0 E.length) L1 L2) y a->Wq Try.prog Q (D5 A4w) ac .normal a y.w)
    {ac:List Act} {a:Act} {y:Ctx} (h0:Sim w0 F0 K ac (E7v E e ((0:Nat):Int) 0 m1 m2 (G2 E 0 0) L1 L2) y a):Wq Try.prog Q A8m ac .normal a y.w:=by
  refine I2 (fun i:{ i:Nat // i<=E.length }=>fun ac a W=>∃y,W=y.w∧Sim w0 F0 K ac (E7v E e i.1 i.1 m1 m2 (G2 E 0 i.1) L1 L2) y a) (fun i=>E.length-i.1) (c:=lpC A8m) (k:=lpR A8m) (by kernel_rfl) (fun i ih ac b w hI=>?_) ⟨0,Nat.zero_le _⟩ ⟨y,rfl,h0⟩
  obtain ⟨i,hi⟩:=i;obtain ⟨y,rfl,hs⟩:=hI;simp only at hs ih
  by_cases h:i<E.length
  · refine G9p E e i i m1 m2 (G2 E 0 i) L1 L2 ⟨decide_eq_true (by omega),by omega,by omega,rfl,by omega,by decide,by decide,by rw[N7];omega,by rw[N7];exact Nat.le_trans (by omega:i+1<=65536) (by decide),(N7 E 0 i).symm,rfl,by decide,by decide,trivial⟩ hs fun ac cZ aZ hs2=>?_
    have hw:wrap IntKind.i64 ((i:Int)+1)=((i+1:Nat):Int):=by rw[B0 (by omega) (by omega)];omega
    rw[hw,N7,Int.toNat_natCast] at hs2;refine ih ⟨i+1,by omega⟩ (by show E.length-(i+1)<E.length-i;omega) ac aZ _ ⟨cZ,rfl,?_⟩
    show Sim w0 F0 K ac (E7v E e ((i+1:Nat):Int) (i+1) m1 m2 (G2 E 0 (i+1)) L1 L2) cZ aZ;rw[B3d];exact hs2.nx 528
  · have e' : i=E.length:=by omega
    subst e'
    refine G9s E e E.length E.length m1 m2 (G2 E 0 E.length) L1 L2 ⟨decide_eq_false (by omega),trivial⟩ hs fun ac cZ aZ hs2=>?_
    exact next ac aZ cZ (hs2.nx 352)
theorem F4s {w0:World} {F0:Nat->Prop} {K:Kp} {Q:Exit->Act->World->Prop} (E:List U4) (e:Int) (m0 m2:Nat) (L0 L2:List Fr) (hN:E.length<=65536) (next:∀ac a y,Sim w0 F0 K ac (nbO E e 2 m0 E.length m2 L0 (G2 E 1 E.length) L2) y a->Wq Try.prog Q (D5 A4w) ac .normal a y.w)
    {ac:List Act} {a:Act} {y:Ctx} (h0:Sim w0 F0 K ac (E7w E e ((0:Nat):Int) m0 0 m2 L0 (G2 E 1 0) L2) y a):Wq Try.prog Q A8n ac .normal a y.w:=by
  refine I2 (fun i:{ i:Nat // i<=E.length }=>fun ac a W=>∃y,W=y.w∧Sim w0 F0 K ac (E7w E e i.1 m0 i.1 m2 L0 (G2 E 1 i.1) L2) y a) (fun i=>E.length-i.1) (c:=lpC A8n) (k:=lpR A8n) (by kernel_rfl) (fun i ih ac b w hI=>?_) ⟨0,Nat.zero_le _⟩ ⟨y,rfl,h0⟩
  obtain ⟨i,hi⟩:=i;obtain ⟨y,rfl,hs⟩:=hI;simp only at hs ih
  by_cases h:i<E.length
  · refine G9q E e i m0 i m2 L0 (G2 E 1 i) L2 ⟨decide_eq_true (by omega),by omega,by omega,rfl,by omega,by decide,by decide,by rw[N7];omega,by rw[N7];exact Nat.le_trans (by omega:i+1<=65536) (by decide),(N7 E 1 i).symm,rfl,by decide,by decide,trivial⟩ hs fun ac cZ aZ hs2=>?_
    have hw:wrap IntKind.i64 ((i:Int)+1)=((i+1:Nat):Int):=by rw[B0 (by omega) (by omega)];omega
    rw[hw,N7,Int.toNat_natCast] at hs2;refine ih ⟨i+1,by omega⟩ (by show E.length-(i+1)<E.length-i;omega) ac aZ _ ⟨cZ,rfl,?_⟩
    show Sim w0 F0 K ac (E7w E e ((i+1:Nat):Int) m0 (i+1) m2 L0 (G2 E 1 (i+1)) L2) cZ aZ;rw[B3d];exact hs2.nx 528
  · have e' : i=E.length:=by omega
    subst e'
    refine G9t E e E.length m0 E.length m2 L0 (G2 E 1 E.length) L2 ⟨decide_eq_false (by omega),trivial⟩ hs fun ac cZ aZ hs2=>?_
    exact next ac aZ cZ (hs2.nx 352)
theorem F4t {w0:World} {F0:Nat->Prop} {K:Kp} {Q:Exit->Act->World->Prop} (E:List U4) (e:Int) (m0 m1:Nat) (L0 L1:List Fr) (hN:E.length<=65536) (next:∀ac a y,Sim w0 F0 K ac (nbO E e 3 m0 m1 E.length L0 L1 (G2 E 2 E.length)) y a->Wq Try.prog Q (D5 A4w) ac .normal a y.w)
    {ac:List Act} {a:Act} {y:Ctx} (h0:Sim w0 F0 K ac (E7x E e ((0:Nat):Int) m0 m1 0 L0 L1 (G2 E 2 0)) y a):Wq Try.prog Q A8o ac .normal a y.w:=by
  refine I2 (fun i:{ i:Nat // i<=E.length }=>fun ac a W=>∃y,W=y.w∧Sim w0 F0 K ac (E7x E e i.1 m0 m1 i.1 L0 L1 (G2 E 2 i.1)) y a) (fun i=>E.length-i.1) (c:=lpC A8o) (k:=lpR A8o) (by kernel_rfl) (fun i ih ac b w hI=>?_) ⟨0,Nat.zero_le _⟩ ⟨y,rfl,h0⟩
  obtain ⟨i,hi⟩:=i;obtain ⟨y,rfl,hs⟩:=hI;simp only at hs ih
  by_cases h:i<E.length
  · refine G9r E e i m0 m1 i L0 L1 (G2 E 2 i) ⟨decide_eq_true (by omega),by omega,by omega,rfl,by omega,by decide,by decide,by rw[N7];omega,by rw[N7];exact Nat.le_trans (by omega:i+1<=65536) (by decide),(N7 E 2 i).symm,rfl,by decide,by decide,trivial⟩ hs fun ac cZ aZ hs2=>?_
    have hw:wrap IntKind.i64 ((i:Int)+1)=((i+1:Nat):Int):=by rw[B0 (by omega) (by omega)];omega
    rw[hw,N7,Int.toNat_natCast] at hs2;refine ih ⟨i+1,by omega⟩ (by show E.length-(i+1)<E.length-i;omega) ac aZ _ ⟨cZ,rfl,?_⟩
    show Sim w0 F0 K ac (E7x E e ((i+1:Nat):Int) m0 m1 (i+1) L0 L1 (G2 E 2 (i+1))) cZ aZ;rw[B3d];exact hs2.nx 528
  · have e' : i=E.length:=by omega
    subst e'
    refine G9u E e E.length m0 m1 E.length L0 L1 (G2 E 2 E.length) ⟨decide_eq_false (by omega),trivial⟩ hs fun ac cZ aZ hs2=>?_
    exact next ac aZ cZ (hs2.nx 352)
theorem F4u {w0:World} {F0:Nat->Prop} {K:Kp} {Q:Exit->Act->World->Prop} (E:List U4) (e:Int) (hN:E.length<=65536) (next:∀ac a y,Sim w0 F0 K ac (nbO E e 3 E.length E.length E.length (G2 E 0 E.length) (G2 E 1 E.length) (G2 E 2 E.length)) y a->Wq Try.prog Q (B5 A4w) ac .normal a y.w)
    {ac:List Act} {a:Act} {y:Ctx} (hs:Sim w0 F0 K ac (nbO E e 0 0 0 0 [] [] []) y a):Wq Try.prog Q A4w ac .normal a y.w:=by
  let I:{ w:Nat // w<=3 } -> List Act->Act->World->Prop:=fun w ac a W=>∃y,W=y.w∧Sim w0 F0 K ac (match w.1 with
    | 0=>nbO E e 0 0 0 0 [] [] []
    | 1=>nbO E e 1 E.length 0 0 (G2 E 0 E.length) [] []
    | 2=>nbO E e 2 E.length E.length 0 (G2 E 0 E.length) (G2 E 1 E.length) []
    | _=>nbO E e 3 E.length E.length E.length (G2 E 0 E.length) (G2 E 1 E.length) (G2 E 2 E.length)) y a
  have l0:(0:Nat)<=3:=by decide
  refine I2 I (fun w=>3-w.1) (c:=lpC A4w) (k:=lpR A4w) (by kernel_rfl) (fun w ih ac b W hI=>?_) ⟨0,l0⟩ (show I ⟨0,l0⟩ ac a y.w from ⟨y,rfl,hs⟩)
  obtain ⟨w,hw3⟩:=w;obtain ⟨y,rfl,hs⟩:=hI;match w,hw3 with
  | 0,_=>
    have hs:Sim w0 F0 K ac (nbO E e 0 0 0 0 [] [] []) y b:=hs;refine G9m E e 0 0 0 [] [] [] ⟨decide_eq_true (by decide),by decide,by decide,trivial⟩ hs fun ac cZ aZ hs2=>?_
    have hs2:=hs2.nx 528;refine F4r E e 0 0 [] [] hN (fun ac a y h=>ih ⟨1,by decide⟩ (by show 3-1<3-0;decide) ac a _ ⟨y,rfl,h⟩) ?_
    rw[B3e,show ((0:Nat):Int)=0 from rfl]
    exact hs2
  | 1,_=>
    have hs:Sim w0 F0 K ac (nbO E e 1 E.length 0 0 (G2 E 0 E.length) [] []) y b:=hs;refine G9n E e E.length 0 0 (G2 E 0 E.length) [] [] ⟨decide_eq_true (by decide),by decide,by decide,trivial⟩ hs fun ac cZ aZ hs2=>?_
    have hs2:=hs2.nx 528;refine F4s E e E.length 0 (G2 E 0 E.length) [] hN (fun ac a y h=>ih ⟨2,by decide⟩ (by show 3-2<3-1;decide) ac a _ ⟨y,rfl,h⟩) ?_
    rw[B3e,show ((0:Nat):Int)=0 from rfl]
    exact hs2
  | 2,_=>
    have hs:Sim w0 F0 K ac (nbO E e 2 E.length E.length 0 (G2 E 0 E.length) (G2 E 1 E.length) []) y b:=hs;refine G9o E e E.length E.length 0 (G2 E 0 E.length) (G2 E 1 E.length) [] ⟨decide_eq_true (by decide),by decide,by decide,trivial⟩ hs fun ac cZ aZ hs2=>?_
    have hs2:=hs2.nx 528;refine F4t E e E.length E.length (G2 E 0 E.length) (G2 E 1 E.length) hN (fun ac a y h=>ih ⟨3,by decide⟩ (by show 3-3<3-2;decide) ac a _ ⟨y,rfl,h⟩) ?_
    rw[B3e,show ((0:Nat):Int)=0 from rfl]
    exact hs2
  | 3,_=>exact next ac b y hs
theorem D0k (log:Int) (h:K0 log=true) (E:List U4) (hE:E=A3h log (D2 log)) :
  FnD Try.prog 33 [.v (.c (.int .i64 log))] (.t [.a [.slc 0 0 E.length 4,.slc 1 0 E.length 4,.slc 2 0 E.length 4],.c (.int .i64 0)]) [.sq (.s (G2 E 0 E.length)),.sq (.s (G2 E 1 E.length)),.sq (.s (G2 E 2 E.length))]:=by
 have hd:E9 log (D2 log)=true:=by simp [E9,h]
 have hb:=A0w hd;have hlen:E.length<=65536:=by
  have hp:2 ^ log.toNat<=2 ^ 16:=Nat.pow_le_pow_right (by decide) (by omega)
  rw[hE];unfold A3h;rw[if_pos hd,List.length_map,A5t];exact hp
 refine F5 (fn:=Try.f33) (c:=B2 Try.f33) Try.func33 rfl rfl fun x b hk hF hs=>?_
 refine nb log ⟨by rw[if_pos h];rfl,trivial⟩ hs fun ac cY aY hs1=>?_
 rw[if_pos h,hd,if_pos rfl,<-hE] at hs1;have n1:=hs1.nilBlk (p:=241) (z:=48) (l' := [.slc 241 0 0 4,.val (.slice none 0 0),.val (.slice none 0 0)]) (ml' := [16,48,240,241]) (ens' := [some (.fl [.val (.slice none 0 0),.val (.slice none 0 0),.val (.slice none 0 0)]),some (.fl [.slc 241 0 0 4,.val (.slice none 0 0),.val (.slice none 0 0)]),some (.sq (.fr E)),some (.sq (.s []))]) (q:=.s []) rfl (by decide) rfl rfl
  ⟨.inr (.inl ⟨4,rfl,rfl⟩),.inl rfl,.inl rfl,trivial⟩
  (fun r=>by
   simp only[E1];by_cases h0:r=16
   ·subst h0;rfl
   by_cases h1:r=48
   ·subst h1;rfl
   by_cases h2:r=240
   ·subst h2;rfl
   by_cases h3:r=241
   ·subst h3;rfl
   simp only[h0,h1,h2,h3,if_false])
 have n2:=n1.nilBlk (p:=242) (z:=48) (l' := [.slc 241 0 0 4,.slc 242 0 0 4,.val (.slice none 0 0)]) (ml' := [16,48,240,241,242]) (ens' := [some (.fl [.val (.slice none 0 0),.val (.slice none 0 0),.val (.slice none 0 0)]),some (.fl [.slc 241 0 0 4,.slc 242 0 0 4,.val (.slice none 0 0)]),some (.sq (.fr E)),some (.sq (.s [])),some (.sq (.s []))]) (q:=.s []) rfl (by decide) rfl rfl
  ⟨.inl rfl,.inr (.inl ⟨4,rfl,rfl⟩),.inl rfl,trivial⟩
  (fun r=>by
   simp only[E1];by_cases h0:r=16
   ·subst h0;rfl
   by_cases h1:r=48
   ·subst h1;rfl
   by_cases h2:r=240
   ·subst h2;rfl
   by_cases h3:r=241
   ·subst h3;rfl
   by_cases h4:r=242
   ·subst h4;rfl
   simp only[h0,h1,h2,h3,h4,if_false])
 have n3:=n2.nilBlk (p:=243) (z:=48) (l' := [.slc 241 0 0 4,.slc 242 0 0 4,.slc 243 0 0 4]) (ml' := [16,48,240,241,242,243]) (ens' := [some (.fl [.val (.slice none 0 0),.val (.slice none 0 0),.val (.slice none 0 0)]),some (.fl [.slc 241 0 0 4,.slc 242 0 0 4,.slc 243 0 0 4]),some (.sq (.fr E)),some (.sq (.s [])),some (.sq (.s [])),some (.sq (.s []))]) (q:=.s []) rfl (by decide) rfl rfl
  ⟨.inl rfl,.inl rfl,.inr (.inl ⟨4,rfl,rfl⟩),trivial⟩
  (fun r=>by
   simp only[E1];by_cases h0:r=16
   ·subst h0;rfl
   by_cases h1:r=48
   ·subst h1;rfl
   by_cases h2:r=240
   ·subst h2;rfl
   by_cases h3:r=241
   ·subst h3;rfl
   by_cases h4:r=242
   ·subst h4;rfl
   by_cases h5:r=243
   ·subst h5;rfl
   simp only[h0,h1,h2,h3,h4,h5,if_false])
 change Wq Try.prog _ _ _ _ _ (F9 (F9 (F9 cY 241) 242) 243).w
 refine F4u E 0 hlen (fun ac aZ cZ hs2=>?_) (n3.nx 352)
 refine nbD E 0 E.length E.length E.length (G2 E 0 E.length) (G2 E 1 E.length) (G2 E 2 E.length) ⟨decide_eq_false (by decide),trivial⟩ hs2 fun ac cD aD hs3=>?_
 have hs4:Sim x.w x.F Z8 ac (nbQ E 0 E.length E.length E.length (G2 E 0 E.length) (G2 E 1 E.length) (G2 E 2 E.length)) cD aD:=hs3;exact C7 A3f hk hF (E7y E 0 _ _ _ _ _ _) trivial (fun y v hd=>hd) hs4
end S4

section
section
variable {w0:World} {F0:Nat->Prop} {K:Kp} {ac:List Act} {Q:Exit->Act->World->Prop} {cX:Ctx} {aX:Act}

def J2 (l:List A1) (p v:Int):SV:=.v (.a [.sl (.gate l),.int .i64 p,.int .i64 v])

def rc0 (l:List A1) (p v:Int):Cfg:=⟨[.code (B2 Try.f19)],.normal,D6 Try.f19.ntmps [J2 l p v]⟩

def A4t:List KI:=(run X3 false 3000 (rc0 dF dF dF:Cfg) [false,false,false,false]).cfg.k
theorem rIn (l:List A1) (p v:Int):let a:=(rc0 l p v:Cfg);let b:Int:=l.length;(A3 [((decide (b > (4096:Int)))=false),((decide (p<(0:Int)))=false),((decide (p > b))=false),((decide (v<(0:Int)))=false)])->(Sim w0 F0 K ac (a.σ) cX aX)->(∀ac cY aY,Sim w0 F0 K ac (A5 19 [0,1,7,8] [(.ci (.sl (.gate l))),(.ci (.clo 37 [(16,0)])),(.ii b),.ii (0:Int)] [16] [(eF_ [(.sl (.gate l)),(.int .i64 p),(.int .i64 v)])] 560 [[],[]] [([],9),([],30)]) cY aY->Wq Try.prog Q (A4t) ac Exit.normal aY cY.w)->Wq Try.prog Q (a.k) ac a.x aX cX.w:=fun ho hs hK=>
 U5 (unroll:=false) (n:=3000) (path:=[false,false,false,false]) (o:=⟨_,_,_,_,_,_,_⟩) G4 (by kernel_rfl) (by kernel_rfl) ho hs hK

def rS (l:List A1) (p v :Int) (i:Nat):St:=A5 19 [0,1,7,8] [(.ci (.sl (.gate l))),(.ci (.clo 37 [(16,0)])),(.ii (l.length:Int)),.v (.c (.int .i64 (i:Int)))] [16] [(eF_ [(.sl (.gate l)),(.int .i64 p),(.int .i64 v)])] 560 [[],[]] [([],9),([],30)]
theorem F6p (l:List A1) (p v:Int):C2 X3 Try.f19 false 3000 (rc0 l p v) [true,false,false] [] []=(some ([((decide ((l.length:Int) > (4096:Int)))=true)],((.ci (.lit false)),[]))):=by kernel_rfl
theorem F6q (l:List A1) (p v:Int):C2 X3 Try.f19 false 3000 (rc0 l p v) [false,true,false] [] []=(some ([((decide ((l.length:Int) > (4096:Int)))=false),((decide (p<(0:Int)))=true)],((.ci (.lit false)),[]))):=by kernel_rfl
theorem F6r (l:List A1) (p v:Int):let a:Int:=l.length;C2 X3 Try.f19 false 3000 (rc0 l p v) [false,false,true] [] []=(some ([((decide (a > (4096:Int)))=false),((decide (p<(0:Int)))=false),((decide (p > a))=true)],((.ci (.lit false)),[]))):=by intros;kernel_rfl
theorem F6s (l:List A1) (p v:Int):let a:Int:=l.length;C2 X3 Try.f19 false 3000 (rc0 l p v) [false,false,false,true] [] []=(some ([((decide (a > (4096:Int)))=false),((decide (p<(0:Int)))=false),((decide (p > a))=false),((decide (v<(0:Int)))=true)],((.ci (.lit false)),[]))):=by intros;kernel_rfl
theorem G2s (l:List A1) (p v:Int) (i:Nat):C2 X3 Try.f19 true 3000 (⟨B5 A4t,.normal,rS l p v i⟩) [false] [] []=(some ([((decide ((i:Int)<(l.length:Int)))=false)],((.ci (.bool (Bool.not (decide ((-1) >= (0:Int)))))),[]))):=by kernel_rfl
theorem F6j (l:List A1) (p v:Int) (i:Nat):let b:Int:=i;let c:Int:=0;let d:=b<(l.length:Int);C2 X3 Try.f19 true 3000 (⟨B5 A4t,.normal,rS l p v i⟩) [true,true,true,true] [] []=(some ([((decide d)=true),(0<=b),d,((decide (0<(3:Int)))=true),(0<=c),(0<(3:Int)),((decide ((A1.a (List.getD l (b).toNat F6))<(-1)))=true),((decide (c >= c))=true)],((.ci (.bool (Bool.not (decide (b >= c))))),[]))):=by intros;kernel_rfl
theorem F6m (l:List A1) (p v:Int) (i:Nat):let c:Int:=i;let b:=A1.a (List.getD l (c).toNat F6);let d:Int:=0;let f:=c<(l.length:Int);C2 X3 Try.f19 true 3000 (⟨B5 A4t,.normal,rS l p v i⟩) [true,true,false,true,true] [] []=(some ([((decide f)=true),(0<=c),f,((decide (0<(3:Int)))=true),(0<=d),(0<(3:Int)),((decide (b<(-1)))=false),((decide (b >= v))=true),((decide (d >= d))=true)],((.ci (.bool (Bool.not (decide (c >= d))))),[]))):=by intros;kernel_rfl
theorem F6k (l:List A1) (p v:Int) (i:Nat):let d:Int:=i;let c:=List.getD l (d).toNat F6;let f:Int:=3;let g:Int:=1;let h:=d<(l.length:Int);C2 X3 Try.f19 true 3000 (⟨B5 A4t,.normal,rS l p v i⟩) [true,true,false,false,true,true,true] [] []=(some ([((decide h)=true),(0<=d),h,((decide (0<f))=true),(0<=(0:Int)),(0<f),((decide ((A1.a c)<(-1)))=false),((decide ((A1.a c) >= v))=false),((decide (g<f))=true),(0<=g),(g<f),((decide ((A1.b c)<(-1)))=true),((decide (g >= (0:Int)))=true)],((.ci (.bool (Bool.not (decide (d >= (0:Int)))))),[]))):=by intros;kernel_rfl
theorem F6n (l:List A1) (p v:Int) (i:Nat):let d:Int:=i;let c:=List.getD l (d).toNat F6;let f:Int:=3;let g:Int:=1;let h:=d<(l.length:Int);C2 X3 Try.f19 true 3000 (⟨B5 A4t,.normal,rS l p v i⟩) [true,true,false,false,true,false,true,true] [] []=(some ([((decide h)=true),(0<=d),h,((decide (0<f))=true),(0<=(0:Int)),(0<f),((decide ((A1.a c)<(-1)))=false),((decide ((A1.a c) >= v))=false),((decide (g<f))=true),(0<=g),(g<f),((decide ((A1.b c)<(-1)))=false),((decide ((A1.b c) >= v))=true),((decide (g >= (0:Int)))=true)],((.ci (.bool (Bool.not (decide (d >= (0:Int)))))),[]))):=by intros;kernel_rfl
theorem F6l (l:List A1) (p v:Int) (i:Nat):let f:Int:=3;let g:Int:=i;let d:=List.getD l (g).toNat F6;let h:Int:=2;let j:=g<(l.length:Int);C2 X3 Try.f19 true 3000 (⟨B5 A4t,.normal,rS l p v i⟩) [true,true,false,false,true,false,false,true,true,true] [] []=(some ([((decide j)=true),(0<=g),j,((decide (0<f))=true),(0<=(0:Int)),(0<f),((decide ((A1.a d)<(-1)))=false),((decide ((A1.a d) >= v))=false),((decide ((1:Int)<f))=true),(0<=(1:Int)),((1:Int)<f),((decide ((A1.b d)<(-1)))=false),((decide ((A1.b d) >= v))=false),((decide (h<f))=true),(0<=h),(h<f),((decide ((A1.c d)<(-1)))=true),((decide (h >= (0:Int)))=true)],((.ci (.bool (Bool.not (decide (g >= (0:Int)))))),[]))):=by intros;kernel_rfl
theorem F6o (l:List A1) (p v:Int) (i:Nat):let f:Int:=3;let g:Int:=i;let d:=List.getD l (g).toNat F6;let h:Int:=2;let j:=g<(l.length:Int);C2 X3 Try.f19 true 3000 (⟨B5 A4t,.normal,rS l p v i⟩) [true,true,false,false,true,false,false,true,false,true,true] [] []=(some ([((decide j)=true),(0<=g),j,((decide (0<f))=true),(0<=(0:Int)),(0<f),((decide ((A1.a d)<(-1)))=false),((decide ((A1.a d) >= v))=false),((decide ((1:Int)<f))=true),(0<=(1:Int)),((1:Int)<f),((decide ((A1.b d)<(-1)))=false),((decide ((A1.b d) >= v))=false),((decide (h<f))=true),(0<=h),(h<f),((decide ((A1.c d)<(-1)))=false),((decide ((A1.c d) >= v))=true),((decide (h >= (0:Int)))=true)],((.ci (.bool (Bool.not (decide (g >= (0:Int)))))),[]))):=by intros;kernel_rfl
theorem rNx (l:List A1) (p v:Int) (i:Nat):let f:Int:=3;let g:Int:=l.length;let h:Int:=i;let d:=List.getD l (h).toNat F6;A3 [((decide (h<g))=true),(0<=h),(h<g),((decide (0<f))=true),(0<=(0:Int)),(0<f),((decide ((A1.a d)<(-1)))=false),((decide ((A1.a d) >= v))=false),((decide ((1:Int)<f))=true),(0<=(1:Int)),((1:Int)<f),((decide ((A1.b d)<(-1)))=false),((decide ((A1.b d) >= v))=false),((decide ((2:Int)<f))=true),(0<=(2:Int)),((2:Int)<f),((decide ((A1.c d)<(-1)))=false),((decide ((A1.c d) >= v))=false),((decide (f<f))=false),((decide ((-1) >= (0:Int)))=false)]->Sg Try.prog (rS l p v i) (A5 19 [0,1,7,8] [(.ci (.sl (.gate l))),(.ci (.clo 37 [(16,0)])),(.ii g),(.ii (wrap .i64 (h+1)))] [16] [(eF_ [(.sl (.gate l)),(.int .i64 p),(.int .i64 v)])] 1952 [[],[]] [([],9),([],30)]) .normal (D5 A4t) (B5 A4t):=sgA true 235 [true,true,false,false,true,false,false,true,false,false,false,false] G4
end
end

set_option linter.unusedSimpArgs false
section

def S9 (v x:Int):Bool:=decide (-1<=x) && decide (x<v)
def C9j (v:Int) (g:A1):Bool:=S9 v g.a && S9 v g.b && S9 v g.c
/-- Which circuits may be. -/
def C6 (l:List A1) (p v:Int):Bool:=decide (l.length<=4096) && decide (0<=p) && decide (p<=l.length) && decide (0<=v) && l.all (C9j v)

theorem E1t (l:List A1) (p v:Int):FnD Try.prog 19 [J2 l p v] (.v (.c (.bool (C6 l p v)))) []:=by
 refine F5 (fn:=Try.f19) (c:=B2 Try.f19) Try.func19 rfl rfl fun x a hk hF hs=>?_
 by_cases h1:(l.length:Int) > 4096
 ·exact M3 G4 hk hF (F6p l p v) (by simp [A3];omega) (fun y w hd=>Z2 (by simp [C6];omega) hd) hs
 by_cases h2:p<0
 ·exact M3 G4 hk hF (F6q l p v) (by simp [A3];omega) (fun y w hd=>Z2 (by simp [C6];omega) hd) hs
 by_cases h3:p > (l.length:Int)
 ·exact M3 G4 hk hF (F6r l p v) (by simp [A3];omega) (fun y w hd=>Z2 (by simp [C6];omega) hd) hs
 by_cases h4:v<0
 ·exact M3 G4 hk hF (F6s l p v) (by simp [A3];omega) (fun y w hd=>Z2 (by simp [C6];omega) hd) hs
 refine rIn l p v (by simp [A3];omega) hs fun ac y b hs1=>?_
 have hb:C6 l p v=l.all (C9j v):=by
  simp only[C6,show decide (l.length<=4096)=true from by simp;omega,show decide (0<=p)=true from by simp;omega,show decide (p<=(l.length:Int))=true from by simp;omega,show decide (0<=v)=true from by simp;omega,Bool.true_and]
 refine C0 (ι:={ i:Nat // i<=l.length∧C6 l p v=(l.drop i).all (C9j v) }) (fun i=>rS l p v i.1) (fun i=>l.length-i.1) (c:=lpC A4t) (k:=lpR A4t) (by kernel_rfl) (fun i ih ac y b hs=>?_) ⟨0,Nat.zero_le _,by rw[hb];rfl⟩ hs1
 obtain ⟨i,hi,hall⟩:=i;simp only at ih hs
 by_cases h5:i<l.length
 ·rw[C7y (C9j v) F6 l i h5] at hall
  have hg:∃g,g=l.getD i F6:=⟨_,rfl⟩;obtain ⟨g,hg⟩:=hg;rw[<-hg] at hall;unfold C9j at hall;clear hi;by_cases a1:g.a < -1
  ·have w:S9 v g.a=false:=by simp only[S9,Bool.and_eq_false_iff,decide_eq_false_iff_not];omega
   exact M3 G4 hk hF (F6j l p v i) (by simp only[A3,and_true,decide_eq_true_eq,decide_eq_false_iff_not,Int.toNat_natCast,A9n,A9o,A9p,<-hg];omega) (fun y w' hd=>by
    rw[show C6 l p v = !(decide ((i:Int) >= 0)) from by rw[hall,w];simp];exact hd) hs
  by_cases c1:g.a >= v
  ·have w:S9 v g.a=false:=by simp only[S9,Bool.and_eq_false_iff,decide_eq_false_iff_not];omega
   exact M3 G4 hk hF (F6m l p v i) (by simp only[A3,and_true,decide_eq_true_eq,decide_eq_false_iff_not,Int.toNat_natCast,A9n,A9o,A9p,<-hg];omega) (fun y w' hd=>by
    rw[show C6 l p v = !(decide ((i:Int) >= 0)) from by rw[hall,w];simp];exact hd) hs
  have w1:S9 v g.a=true:=by simp only[S9,Bool.and_eq_true,decide_eq_true_eq];omega
  by_cases a2:g.b < -1
  ·have w:S9 v g.b=false:=by simp only[S9,Bool.and_eq_false_iff,decide_eq_false_iff_not];omega
   exact M3 G4 hk hF (F6k l p v i) (by simp only[A3,and_true,decide_eq_true_eq,decide_eq_false_iff_not,Int.toNat_natCast,A9n,A9o,A9p,<-hg];omega) (fun y w' hd=>by
    rw[show C6 l p v = !(decide ((i:Int) >= 0)) from by rw[hall,w];simp];exact hd) hs
  by_cases c2:g.b >= v
  ·have w:S9 v g.b=false:=by simp only[S9,Bool.and_eq_false_iff,decide_eq_false_iff_not];omega
   exact M3 G4 hk hF (F6n l p v i) (by simp only[A3,and_true,decide_eq_true_eq,decide_eq_false_iff_not,Int.toNat_natCast,A9n,A9o,A9p,<-hg];omega) (fun y w' hd=>by
    rw[show C6 l p v = !(decide ((i:Int) >= 0)) from by rw[hall,w];simp];exact hd) hs
  have w2:S9 v g.b=true:=by simp only[S9,Bool.and_eq_true,decide_eq_true_eq];omega
  by_cases a3:g.c < -1
  ·have w:S9 v g.c=false:=by simp only[S9,Bool.and_eq_false_iff,decide_eq_false_iff_not];omega
   exact M3 G4 hk hF (F6l l p v i) (by simp only[A3,and_true,decide_eq_true_eq,decide_eq_false_iff_not,Int.toNat_natCast,A9n,A9o,A9p,<-hg];omega) (fun y w' hd=>by
    rw[show C6 l p v = !(decide ((i:Int) >= 0)) from by rw[hall,w];simp];exact hd) hs
  by_cases c3:g.c >= v
  ·have w:S9 v g.c=false:=by simp only[S9,Bool.and_eq_false_iff,decide_eq_false_iff_not];omega
   exact M3 G4 hk hF (F6o l p v i) (by simp only[A3,and_true,decide_eq_true_eq,decide_eq_false_iff_not,Int.toNat_natCast,A9n,A9o,A9p,<-hg];omega) (fun y w' hd=>by
    rw[show C6 l p v = !(decide ((i:Int) >= 0)) from by rw[hall,w];simp];exact hd) hs
  have w3:S9 v g.c=true:=by simp only[S9,Bool.and_eq_true,decide_eq_true_eq];omega
  refine rNx l p v i (by simp only[A3,and_true,decide_eq_true_eq,decide_eq_false_iff_not,Int.toNat_natCast,A9n,A9o,A9p,<-hg];omega) hs fun ac y b hs2=>?_
  rw[B0 (by omega) (by omega)] at hs2
  exact ih ⟨i+1,h5,by rw[hall,w1,w2,w3];rfl⟩ (by show l.length-(i+1)<l.length-i;omega) ac y b (hs2.nx _)
 ·exact M3 G4 hk hF (G2s l p v i) (by simp [A3];omega) (fun y w hd=>by
   rw[show C6 l p v = !(decide (-(1:Int) >= 0)) from by rw[hall,List.drop_eq_nil_of_le (by omega)];rfl];exact hd) hs
end

section
section
variable {w0:World} {F0:Nat->Prop} {K:Kp} {ac:List Act} {Q:Exit->Act->World->Prop} {cX:Ctx} {aX:Act}

def A9g:B7
 | [.v (.a [.sl (.gate l),.int .i64 p,.int .i64 v])]=>some ([],.v (.c (.bool (C6 l p v))),[])
 | _=>none

def cvA:Env:=X3.set (E8 X3.fn 19 A9g)

theorem K5:A6 Try.prog cvA:=
 A9 G4 19 A9g (A4 Try.func19 rfl rfl) fun args o r es h _=>by
  unfold A9g at h;split at h
  ·cases h;exact E1t _ _ _
  ·cases h

def G3v (l:List A1) (p v:Int):Cfg:=⟨[.code (B2 Try.f6)],.normal,D6 Try.f6.ntmps [J2 l p v]⟩

theorem F7n (l:List A1) (p v:Int):C2 cvA Try.f6 false 3000 (G3v l p v) [true] [] []=(some ([((Bool.not (C6 l p v))=true)],((.t [(.c (.int .i64 (0:Int))),(.c (.int .i64 (1:Int)))]),[]))):=by kernel_rfl
def B4d:List KI:=(run cvA false 3000 (G3v dF dF dF:Cfg) [false]).cfg.k
theorem H3c (l:List A1) (p v:Int):let a:=(G3v l p v:Cfg);(A3 [((Bool.not (C6 l p v))=false)])->(Sim w0 F0 K ac (a.σ) cX aX)->(∀ac cY aY,Sim w0 F0 K ac (A5 17 [1,4] [.pt 16 0,.ii (1:Int)] [16] [(eF_ [(.sl (.gate l)),(.int .i64 p),(.int .i64 v)])] 128 [] []) cY aY->Wq Try.prog Q (B4d) ac Exit.normal aY cY.w)->Wq Try.prog Q (a.k) ac a.x aX cX.w:=fun ho hs hK=>
 U5 (unroll:=false) (n:=3000) (path:=[false]) (o:=⟨_,_,_,_,_,_,_⟩) K5 (by kernel_rfl) (by kernel_rfl) ho hs hK
def szS (l:List A1) (p v :Int) (i:Nat):St:=A5 17 [1,4] [.pt 16 0,.v (.c (.int .i64 (i:Int)))] [16] [(eF_ [(.sl (.gate l)),(.int .i64 p),(.int .i64 v)])] 128 [] []
theorem F7o (l:List A1) (p v:Int) (i:Nat):C2 cvA Try.f6 false 3000 (⟨B5 B4d,.normal,szS l p v i⟩) [false] [] []=(some ([(0<=(i:Int)),((decide ((wrap .i64 ((1:Int)*((2:Int) ^ (Min.min ((i:Int)).toNat 64))))<(l.length:Int)))=false)],((.t [(.c (.int .i64 (i:Int))),(.c (.int .i64 (0:Int)))]),[]))):=by kernel_rfl
theorem szN (l:List A1) (p v:Int) (i:Nat):A3 [(0<=(i:Int)),((decide ((wrap .i64 ((1:Int)*((2:Int) ^ (Min.min ((i:Int)).toNat 64))))<(l.length:Int)))=true)]->Sg Try.prog (szS l p v i) (A5 17 [1,4] [.pt 16 0,(.ii (wrap .i64 ((i:Int)+1)))] [16] [(eF_ [(.sl (.gate l)),(.int .i64 p),(.int .i64 v)])] 272 [] []) .normal (D5 B4d) (B5 B4d):=sgA false 3000 [true] K5
end
end

set_option linter.unusedSimpArgs false
section

/-- The log of how many rows so many gates take. -/
def A0h (n:Nat):Nat:=if n<=2 then 1 else if n<=4 then 2 else if n<=8 then 3 else if n<=16 then 4 else if n<=32 then 5 else if n<=64 then 6 else if n<=128 then 7 else if n<=256 then 8 else if n<=512 then 9 else if n<=1024 then 10 else if n<=2048 then 11 else 12

theorem G3n {i:Nat} (h:i<=62):wrap IntKind.i64 ((1:Int)*((2:Int) ^ (Min.min ((i:Nat):Int).toNat 64)))=((2 ^ i:Nat):Int):=by
 have h1:Min.min ((i:Nat):Int).toNat 64=i:=by
  rw[Int.toNat_natCast];show min i 64=i;omega
 rw[h1,Int.one_mul];have h2:((2:Int) ^ i)=((2 ^ i:Nat):Int):=by simp
 rw[h2];have h3:2 ^ i<=2 ^ 62:=Nat.pow_le_pow_right (by decide) h
 generalize 2 ^ i=m at h3;exact B0 (by omega) (by omega)

theorem A4g (n:Nat) (hn:n<=4096):1<=A0h n∧A0h n<=12∧n<=2 ^ A0h n∧(A0h n=1∨2 ^ (A0h n-1)<n):=by
 unfold A0h;repeat' split
 all_goals (refine ⟨by decide,by decide,?_,?_⟩<;>simp<;>omega)

theorem D3z {n i:Nat} (hn:n<=4096) (h1:1<=i) (h2:n<=2 ^ i) (h3:i=1∨2 ^ (i-1)<n):A0h n=i:=by
 obtain ⟨a1,_,a2,a3⟩:=A4g n hn;rcases Nat.lt_trichotomy (A0h n) i with h | h | h
 ·have:2 ^ A0h n<=2 ^ (i-1):=Nat.pow_le_pow_right (by decide) (by omega)
  omega
 ·exact h
 ·have:2 ^ i<=2 ^ (A0h n-1):=Nat.pow_le_pow_right (by decide) (by omega)
  omega

def C3u (l:List A1) (p v:Int):SV:=if C6 l p v then .t [.c (.int .i64 (A0h l.length:Int)),.c (.int .i64 0)] else .t [.c (.int .i64 0),.c (.int .i64 1)]

theorem D1n (l:List A1) (p v:Int):FnD Try.prog 6 [J2 l p v] (C3u l p v) []:=by
 refine F5 (fn:=Try.f6) (c:=B2 Try.f6) Try.func6 rfl rfl fun x a hk hF hs=>?_
 by_cases hr:C6 l p v=true
 ·have hlen:l.length<=4096:=by simp [C6] at hr;omega
  have hR:C3u l p v = .t [.c (.int .i64 (A0h l.length:Int)),.c (.int .i64 0)]:=by simp [C3u,hr]
  rw[hR];refine H3c l p v (by simp [A3,hr]) hs fun ac y b hs1=>?_
  refine C0 (ι:={ i:Nat // 1<=i∧i<13∧(i=1∨2 ^ (i-1)<l.length) }) (fun i=>szS l p v i.1) (fun i=>13-i.1) (c:=lpC B4d) (k:=lpR B4d) (by kernel_rfl) (fun i ih ac y b hs=>?_) ⟨1,by decide,by decide,.inl rfl⟩ hs1
  obtain ⟨i,hi1,hi2,hi3⟩:=i;simp only at ih hs
  have hsh:=G3n (i:=i) (by omega)
  by_cases h5:2 ^ i<l.length
  ·have hi4:i<12:=by
    rcases Nat.lt_or_ge i 12 with h | h
    ·exact h
    ·have:2 ^ 12<=2 ^ i:=Nat.pow_le_pow_right (by decide) h
     omega
   refine szN l p v i ⟨by omega,by rw[hsh];simpa using (by exact_mod_cast h5),trivial⟩ hs fun ac y b hs2=>?_
   rw[B0 (by omega) (by omega)] at hs2
   exact ih ⟨i+1,by omega,by omega,.inr (by simpa using h5)⟩ (by show 13-(i+1)<13-i;omega) ac y b (hs2.nx _)
  ·refine M3 K5 hk hF (F7o l p v i) ⟨by omega,by rw[hsh];simp only[decide_eq_false_iff_not];intro h;exact h5 (by exact_mod_cast h),trivial⟩ (fun y w hd=>?_) hs
   rw[D3z hlen hi1 (by omega) hi3]
   exact hd
 ·have hr' : C6 l p v=false:=by simpa using hr
  refine M3 K5 hk hF (F7n l p v) (by simp [A3,hr']) (fun y w hd=>?_) hs
  rw[C3u,hr'];exact hd

end

section
section
variable {w0:World} {F0:Nat->Prop} {K:Kp} {ac:List Act} {Q:Exit->Act->World->Prop} {cX:Ctx} {aX:Act}

def A7f:List KI:=(run cvA false 3000 (⟨[.code (B2 Try.f84)],.normal,⟨B2b [.v (.c (.val (.func (.yield dF) #[] #[]))),.v (.c (.ptr 0 0))],one (.fl [.vsl dF (.gate dF),.int .i64 dF,.int .i64 dF]),Try.f84.ntmps,16,[]⟩⟩:Cfg) []).cfg.k
section
variable (l:Nat) (v:Value) (G:List A1) (P V:Int)
theorem pl:let a:=Array.mk ([]:List Value);A3 []->Sg Try.prog (⟨B2b [.v (.c (.val (.func (.yield l) #[] #[]))),.v (.c (.ptr 0 0))],one (.fl [.vsl v (.gate G),.int .i64 P,.int .i64 V]),Try.f84.ntmps,16,[]⟩) (A5 35 [0,1,7] [(.ci (.val (Value.func (Fn.yield l) a a))),.pt 0 0,.ii (0:Int)] [0] [(eF_ [(It.vsl v (.gate G)),(.int .i64 P),(.int .i64 V)])] 32 [] []) .normal (A7f) ([.code (B2 Try.f84)]):=sgA false 3000 [] K5
def plO (l:Nat) (v:Value) (G:List A1) (P V w :Int):St:=A5 35 [0,1,7] [(.ci (.val (Value.func (Fn.yield l) (Array.mk ([]:List Value)) (Array.mk ([]:List Value))))),.pt 0 0,.v (.c (.int .i64 w))] [0] [(eF_ [(It.vsl v (.gate G)),(.int .i64 P),(.int .i64 V)])] 32 [] []
def A2x:List KI:=(run cvA false 3000 (⟨B5 A7f,.normal,plO dF dF dF dF dF 0⟩:Cfg) [true]).cfg.k
theorem H0s:let a:=Array.mk ([]:List Value);let b:=It.vsl v (.gate G);A3 [((decide (0<(3:Int)))=true)]->Sg Try.prog (plO l v G P V 0) (A5 35 [0,1,3,7,11,12,13] [(.ci (.val (Value.func (Fn.yield l) a a))),.pt 0 0,.ii (0:Int),.ii (0:Int),(.ci b),(.ii (G.length:Int)),.ii (0:Int)] [0] [(eF_ [b,(.int .i64 P),(.int .i64 V)])] 144 [] []) .normal (A2x) (B5 A7f):=sgA false 3000 [true] K5
def D4m (l:Nat) (v:Value) (G:List A1) (P V :Int) (i:Nat):St:=A5 35 [0,1,3,7,11,12,13] [(.ci (.val (Value.func (Fn.yield l) (Array.mk ([]:List Value)) (Array.mk ([]:List Value))))),.pt 0 0,.ii (0:Int),.ii (0:Int),(.ci (It.vsl v (.gate G))),(.ii (G.length:Int)),.v (.c (.int .i64 (i:Int)))] [0] [(eF_ [(It.vsl v (.gate G)),(.int .i64 P),(.int .i64 V)])] 144 [] []
def E9k:List KI:=(run cvA false 3000 (⟨B5 A2x,.normal,D4m dF dF dF dF dF dF⟩:Cfg) [true,true]).cfg.k
end
section
variable (l:Nat) (v:Value) (G:List A1) (P V:Int) (i:Nat)
theorem H1f:let d:Int:=i;let c:=A1.a (List.getD G (d).toNat F6);let f:Int:=G.length;let g:Int:=0;let h:=Array.mk ([]:List Value);let b:=Value.func (Fn.yield l) h h;let j:=It.vsl v (.gate G);A3 [((decide (d<f))=true),(0<=d),(d<f),(0<=g),(0<(3:Int)),((decide (c >= g))=true)]->Sg Try.prog (D4m l v G P V i) (A5 35 [0,1,3,7,11,12,13,24,25,28,29] [(.ci (.val b)),.pt 0 0,.ii g,.ii g,(.ci j),(.ii f),(.ii d),(.ci (.lit true)),(.ci (.val b)),(.v (.a [(.int .i64 d),(.int .i64 g)])),(.ii c)] [0] [(eF_ [j,(.int .i64 P),(.int .i64 V)])] 464 [] []) .normal (E9k) (B5 A2x):=sgA false 3000 [true,true] K5
theorem H0z:let b:Int:=G.length;let c:Int:=i;let d:=Array.mk ([]:List Value);let f:=It.vsl v (.gate G);let g:Int:=0;A3 [((decide (c<b))=true),(0<=c),(c<b),(0<=g),(0<(3:Int)),((decide ((A1.a (List.getD G (c).toNat F6)) >= g))=false)]->Sg Try.prog (D4m l v G P V i) (A5 35 [0,1,3,7,11,12,13] [(.ci (.val (Value.func (Fn.yield l) d d))),.pt 0 0,.ii g,.ii g,(.ci f),(.ii b),(.ii (wrap .i64 (c+1)))] [0] [(eF_ [f,(.int .i64 P),(.int .i64 V)])] 544 [] []) .normal (D5 A2x) (B5 A2x):=sgA false 3000 [true,false] K5
theorem H1c:let a:=Array.mk ([]:List Value);A3 [((decide ((i:Int)<(G.length:Int)))=false)]->Sg Try.prog (D4m l v G P V i) (A5 35 [0,1,7] [(.ci (.val (Value.func (Fn.yield l) a a))),.pt 0 0,.ii (1:Int)] [0] [(eF_ [(It.vsl v (.gate G)),(.int .i64 P),(.int .i64 V)])] 192 [] []) .normal (D5 A7f) (B5 A2x):=sgA false 3000 [false] K5
def A2y:List KI:=(run cvA false 3000 (⟨B5 A7f,.normal,plO dF dF dF dF dF 1⟩:Cfg) [true]).cfg.k
end
theorem H0t (l:Nat) (v:Value) (G:List A1) (P V:Int):let a:=Array.mk ([]:List Value);let b:=It.vsl v (.gate G);A3 [((decide ((1:Int)<(3:Int)))=true)]->Sg Try.prog (plO l v G P V 1) (A5 35 [0,1,3,7,11,12,13] [(.ci (.val (Value.func (Fn.yield l) a a))),.pt 0 0,.ii (1:Int),.ii (1:Int),(.ci b),(.ii (G.length:Int)),.ii (0:Int)] [0] [(eF_ [b,(.int .i64 P),(.int .i64 V)])] 144 [] []) .normal (A2y) (B5 A7f):=sgA false 3000 [true] K5
def D4n (l:Nat) (v:Value) (G:List A1) (P V :Int) (i:Nat):St:=A5 35 [0,1,3,7,11,12,13] [(.ci (.val (Value.func (Fn.yield l) (Array.mk ([]:List Value)) (Array.mk ([]:List Value))))),.pt 0 0,.ii (1:Int),.ii (1:Int),(.ci (It.vsl v (.gate G))),(.ii (G.length:Int)),.v (.c (.int .i64 (i:Int)))] [0] [(eF_ [(It.vsl v (.gate G)),(.int .i64 P),(.int .i64 V)])] 144 [] []
def E9l:List KI:=(run cvA false 3000 (⟨B5 A2y,.normal,D4n dF dF dF dF dF dF⟩:Cfg) [true,true]).cfg.k
section
variable (l:Nat) (v:Value) (G:List A1) (P V:Int) (i:Nat)
theorem H1g:let f:Int:=i;let d:=A1.b (List.getD G (f).toNat F6);let g:Int:=G.length;let h:Int:=1;let j:=Array.mk ([]:List Value);let c:=Value.func (Fn.yield l) j j;let k:=It.vsl v (.gate G);A3 [((decide (f<g))=true),(0<=f),(f<g),(0<=h),(h<(3:Int)),((decide (d >= (0:Int)))=true)]->Sg Try.prog (D4n l v G P V i) (A5 35 [0,1,3,7,11,12,13,24,25,28,29] [(.ci (.val c)),.pt 0 0,.ii h,.ii h,(.ci k),(.ii g),(.ii f),(.ci (.lit true)),(.ci (.val c)),(.v (.a [(.int .i64 f),(.int .i64 h)])),(.ii d)] [0] [(eF_ [k,(.int .i64 P),(.int .i64 V)])] 464 [] []) .normal (E9l) (B5 A2y):=sgA false 3000 [true,true] K5
theorem H1a:let a:Int:=G.length;let c:Int:=i;let d:=Array.mk ([]:List Value);let f:=It.vsl v (.gate G);let g:Int:=1;A3 [((decide (c<a))=true),(0<=c),(c<a),(0<=g),(g<(3:Int)),((decide ((A1.b (List.getD G (c).toNat F6)) >= (0:Int)))=false)]->Sg Try.prog (D4n l v G P V i) (A5 35 [0,1,3,7,11,12,13] [(.ci (.val (Value.func (Fn.yield l) d d))),.pt 0 0,.ii g,.ii g,(.ci f),(.ii a),(.ii (wrap .i64 (c+1)))] [0] [(eF_ [f,(.int .i64 P),(.int .i64 V)])] 544 [] []) .normal (D5 A2y) (B5 A2y):=sgA false 3000 [true,false] K5
theorem H1d:let a:=Array.mk ([]:List Value);A3 [((decide ((i:Int)<(G.length:Int)))=false)]->Sg Try.prog (D4n l v G P V i) (A5 35 [0,1,7] [(.ci (.val (Value.func (Fn.yield l) a a))),.pt 0 0,.ii (2:Int)] [0] [(eF_ [(It.vsl v (.gate G)),(.int .i64 P),(.int .i64 V)])] 192 [] []) .normal (D5 A7f) (B5 A2y):=sgA false 3000 [false] K5
def A2z:List KI:=(run cvA false 3000 (⟨B5 A7f,.normal,plO dF dF dF dF dF 2⟩:Cfg) [true]).cfg.k
end
theorem H0u (l:Nat) (v:Value) (G:List A1) (P V:Int):let a:=Array.mk ([]:List Value);let b:=It.vsl v (.gate G);A3 [((decide ((2:Int)<(3:Int)))=true)]->Sg Try.prog (plO l v G P V 2) (A5 35 [0,1,3,7,11,12,13] [(.ci (.val (Value.func (Fn.yield l) a a))),.pt 0 0,.ii (2:Int),.ii (2:Int),(.ci b),(.ii (G.length:Int)),.ii (0:Int)] [0] [(eF_ [b,(.int .i64 P),(.int .i64 V)])] 144 [] []) .normal (A2z) (B5 A7f):=sgA false 3000 [true] K5
def D4o (l:Nat) (v:Value) (G:List A1) (P V :Int) (i:Nat):St:=A5 35 [0,1,3,7,11,12,13] [(.ci (.val (Value.func (Fn.yield l) (Array.mk ([]:List Value)) (Array.mk ([]:List Value))))),.pt 0 0,.ii (2:Int),.ii (2:Int),(.ci (It.vsl v (.gate G))),(.ii (G.length:Int)),.v (.c (.int .i64 (i:Int)))] [0] [(eF_ [(It.vsl v (.gate G)),(.int .i64 P),(.int .i64 V)])] 144 [] []
def E9m:List KI:=(run cvA false 3000 (⟨B5 A2z,.normal,D4o dF dF dF dF dF dF⟩:Cfg) [true,true]).cfg.k
section
variable (l:Nat) (v:Value) (G:List A1) (P V:Int) (i:Nat)
theorem H1h:let f:Int:=i;let d:=A1.c (List.getD G (f).toNat F6);let g:Int:=G.length;let h:Int:=2;let j:=Array.mk ([]:List Value);let b:=Value.func (Fn.yield l) j j;let k:=It.vsl v (.gate G);A3 [((decide (f<g))=true),(0<=f),(f<g),(0<=h),(h<(3:Int)),((decide (d >= (0:Int)))=true)]->Sg Try.prog (D4o l v G P V i) (A5 35 [0,1,3,7,11,12,13,24,25,28,29] [(.ci (.val b)),.pt 0 0,.ii h,.ii h,(.ci k),(.ii g),(.ii f),(.ci (.lit true)),(.ci (.val b)),(.v (.a [(.int .i64 f),(.int .i64 h)])),(.ii d)] [0] [(eF_ [k,(.int .i64 P),(.int .i64 V)])] 464 [] []) .normal (E9m) (B5 A2z):=sgA false 3000 [true,true] K5
theorem H1b:let a:Int:=G.length;let b:Int:=i;let d:=Array.mk ([]:List Value);let f:=It.vsl v (.gate G);let g:Int:=2;A3 [((decide (b<a))=true),(0<=b),(b<a),(0<=g),(g<(3:Int)),((decide ((A1.c (List.getD G (b).toNat F6)) >= (0:Int)))=false)]->Sg Try.prog (D4o l v G P V i) (A5 35 [0,1,3,7,11,12,13] [(.ci (.val (Value.func (Fn.yield l) d d))),.pt 0 0,.ii g,.ii g,(.ci f),(.ii a),(.ii (wrap .i64 (b+1)))] [0] [(eF_ [f,(.int .i64 P),(.int .i64 V)])] 544 [] []) .normal (D5 A2z) (B5 A2z):=sgA false 3000 [true,false] K5
theorem H1e:let a:=Array.mk ([]:List Value);A3 [((decide ((i:Int)<(G.length:Int)))=false)]->Sg Try.prog (D4o l v G P V i) (A5 35 [0,1,7] [(.ci (.val (Value.func (Fn.yield l) a a))),.pt 0 0,.ii (3:Int)] [0] [(eF_ [(It.vsl v (.gate G)),(.int .i64 P),(.int .i64 V)])] 192 [] []) .normal (D5 A7f) (B5 A2z):=sgA false 3000 [false] K5
theorem H0v:let a:=Array.mk ([]:List Value);let b:=It.vsl v (.gate G);A3 []->Sg Try.prog (⟨J7 (E1 .top [0,1,3,7,11,12,13,24,25,28,29] [.v (.c (.val (.func (.yield l) #[] #[]))),.v (.c (.ptr 0 0)),.v (.c (.int .i64 0)),.v (.c (.int .i64 0)),.v (.c (.vsl v (.gate G))),.v (.c (.int .i64 (G.length:Nat))),.v (.c (.int .i64 (i:Int))),.v (.c (.lit true)),.top,.top,.top]) 30 (.ci (.lit true)),one (.fl [.vsl v (.gate G),.int .i64 P,.int .i64 V]),35,480,[]⟩) (A5 35 [0,1,3,7,11,12,13] [(.ci (.val (Value.func (Fn.yield l) a a))),.pt 0 0,.ii (0:Int),.ii (0:Int),(.ci b),(.ii (G.length:Int)),(.ii (wrap .i64 ((i:Int)+1)))] [0] [(eF_ [b,(.int .i64 P),(.int .i64 V)])] 544 [] []) .normal (D5 A2x) (I3 E9k):=sgA false 3000 [] K5
theorem H0w:let a:=Array.mk ([]:List Value);let b:=It.vsl v (.gate G);A3 []->Sg Try.prog (⟨J7 (E1 .top [0,1,3,7,11,12,13,24,25,28,29] [.v (.c (.val (.func (.yield l) #[] #[]))),.v (.c (.ptr 0 0)),.v (.c (.int .i64 1)),.v (.c (.int .i64 1)),.v (.c (.vsl v (.gate G))),.v (.c (.int .i64 (G.length:Nat))),.v (.c (.int .i64 (i:Int))),.v (.c (.lit true)),.top,.top,.top]) 30 (.ci (.lit true)),one (.fl [.vsl v (.gate G),.int .i64 P,.int .i64 V]),35,480,[]⟩) (A5 35 [0,1,3,7,11,12,13] [(.ci (.val (Value.func (Fn.yield l) a a))),.pt 0 0,.ii (1:Int),.ii (1:Int),(.ci b),(.ii (G.length:Int)),(.ii (wrap .i64 ((i:Int)+1)))] [0] [(eF_ [b,(.int .i64 P),(.int .i64 V)])] 544 [] []) .normal (D5 A2y) (I3 E9l):=sgA false 3000 [] K5
theorem H0x:let a:=Array.mk ([]:List Value);let b:=It.vsl v (.gate G);A3 []->Sg Try.prog (⟨J7 (E1 .top [0,1,3,7,11,12,13,24,25,28,29] [.v (.c (.val (.func (.yield l) #[] #[]))),.v (.c (.ptr 0 0)),.v (.c (.int .i64 2)),.v (.c (.int .i64 2)),.v (.c (.vsl v (.gate G))),.v (.c (.int .i64 (G.length:Nat))),.v (.c (.int .i64 (i:Int))),.v (.c (.lit true)),.top,.top,.top]) 30 (.ci (.lit true)),one (.fl [.vsl v (.gate G),.int .i64 P,.int .i64 V]),35,480,[]⟩) (A5 35 [0,1,3,7,11,12,13] [(.ci (.val (Value.func (Fn.yield l) a a))),.pt 0 0,.ii (2:Int),.ii (2:Int),(.ci b),(.ii (G.length:Int)),(.ii (wrap .i64 ((i:Int)+1)))] [0] [(eF_ [b,(.int .i64 P),(.int .i64 V)])] 544 [] []) .normal (D5 A2z) (I3 E9m):=sgA false 3000 [] K5
end
theorem H0y (l:Nat) (v:Value) (G:List A1) (P V:Int):A3 [((decide ((3:Int)<(3:Int)))=false)]->Sg Try.prog (plO l v G P V 3) (A5 35 [] [] [0] [(eF_ [(It.vsl v (.gate G)),(.int .i64 P),(.int .i64 V)])] 48 [] []) .normal ([]) (B5 A7f):=sgA false 3000 [false] K5
end
end

section

abbrev Plc:=(Int×Int)×Int
def wOf (g:A1):Nat->Int
 | 0=>g.a
 | 1=>g.b
 | _=>g.c
/-- The places of one wire's first rows; of the first wires; all. -/
def plW (G:List A1) (w:Nat):Nat->List Plc
 | 0=>[]
 | i+1=>plW G w i++(if 0<=wOf (G.getD i F6) w then [(((i:Int),(w:Int)),wOf (G.getD i F6) w)] else [])
def plT (G:List A1):Nat->List Plc
 | 0=>[]
 | w+1=>plT G w++plW G w G.length
def plP (G:List A1) (w i:Nat):List Plc:=plT G w++plW G w i
theorem D7w (G:List A1) (w:Nat):∀{n i:Nat},i<=n->∃t,plW G w n=plW G w i++t
 | 0,i,h=>by
  have:i=0:=by omega
  subst this;exact ⟨[],by simp⟩
 | n+1,i,h=>by
  by_cases e:i=n+1
  ·subst e
   exact ⟨[],by simp⟩
  ·obtain ⟨t,ht⟩:=D7w G w (n:=n) (i:=i) (by omega)
   exact ⟨t++(if 0<=wOf (G.getD n F6) w then [(((n:Int),(w:Int)),wOf (G.getD n F6) w)] else []),by show plW G w n++_=_;rw[ht,List.append_assoc]⟩
theorem D7v (G:List A1):∀{n w:Nat},w<=n->∃t,plT G n=plT G w++t
 | 0,w,h=>by
  have:w=0:=by omega
  subst this;exact ⟨[],by simp⟩
 | n+1,w,h=>by
  by_cases e:w=n+1
  ·subst e
   exact ⟨[],by simp⟩
  ·obtain ⟨t,ht⟩:=D7v G (n:=n) (w:=w) (by omega)
   exact ⟨t++plW G n G.length,by show plT G n++_=_;rw[ht,List.append_assoc]⟩
theorem C6m (G:List A1) {w i:Nat} (hw:w<3) (hi:i<=G.length):∃t,plT G 3=plP G w i++t:=by
 obtain ⟨t,ht⟩:=D7v G (n:=3) (w:=w+1) (by omega)
 obtain ⟨s,hs⟩:=D7w G w hi;refine ⟨s++t,?_⟩
 rw[ht];show (plT G w++plW G w G.length)++t=(plT G w++plW G w i)++(s++t);rw[hs];simp only[List.append_assoc]
theorem B9r (G:List A1) (w:Nat):plP G w 0=plT G w:=by unfold plP;exact List.append_nil _
theorem C6n {G:List A1} {w i:Nat} (h:0<=wOf (G.getD i F6) w):plP G w (i+1)=plP G w i++[(((i:Int),(w:Int)),wOf (G.getD i F6) w)]:=by
 unfold plP;show _++(plW G w i++_)=_;rw[if_pos h,List.append_assoc]
theorem D4p {G:List A1} {w i:Nat} (h:¬0<=wOf (G.getD i F6) w):plP G w (i+1)=plP G w i:=by
 unfold plP;show _++(plW G w i++_)=_;rw[if_neg h,List.append_nil]
def K6 (r w:Int):Value:=.agg #[.int .i64 r,.int .i64 w]
def A5s (z:Plc):List Value:=[K6 z.1.1 z.1.2,.int .i64 z.2]
theorem B1e {x:Ctx} {r w:Int} {v:Value} (h:B1 x (.v (.a [.int .i64 r,.int .i64 w])) v):v=K6 r w:=by
 obtain ⟨cs,rfl,c1,c2,rfl,h1,c3,c4,rfl,h2,rfl⟩:=h;have e1:c1=[Value.int .i64 r]:=by obtain ⟨d,h1⟩:=h1;cases d<;>exact h1
 have e2:c3=[Value.int .i64 w]:=by obtain ⟨d,h2⟩:=h2;cases d<;>exact h2
 rw[e1,e2];rfl
theorem D2y {x y:Ctx} {b:Bool}:∀v,B1 x (.v (.c (.lit b))) v->B1 y (.v (.c (.lit b))) v:=fun v h=>by
 obtain ⟨_,d,h⟩:=h;have e:[v]=[Value.bool b]:=by cases d<;>exact h
 simp only[List.cons.injEq,and_true] at e;rw[e];exact ⟨rfl,0,rfl⟩
def wI:Nat->Int
 | 0=>0
 | 1=>1
 | 2=>2
 | _=>3

section
variable {x:Ctx} {p l:Nat} {v:Value} {G:List A1} {P V:Int} {M:List Plc->Nat->Option En} {J:List Plc->World->Prop}
/-- What is known at a loop's head. -/
def PlI (x:Ctx) (p:Nat) (M:List Plc->Nat->Option En) (J:List Plc->World->Prop) (S:St) (pre:List Plc) (ac:List Act) (a:Act) (W:World):Prop:=
 ∃y z,z.w=W∧y.k p = .real∧y.β p=x.β p∧Mem y (M pre)∧J pre y.w∧Sim y.w y.F (B2t (E0 y p)) ac S z a
theorem G1t {Q:Exit->Act->World->Prop} (hlim:G.length<=4096) (hM:∀s,M s p=some (.fl [.vsl v (.gate G),.int .i64 P,.int .i64 V])) (hgrow:∀s W W',J s W->W.grownBy W' none->J s W')
  (hread:∀s W,J s W->∃y,y.w=W∧Mem y (M s)∧∀c∈[(p,0)],y.k c.1 = .real∧y.β c.1=x.β c.1)
  (hyield:∀pre z W1,J pre W1->(∃t,plT G 3=pre++z::t)->YieldAt Fence.wide 0 Try.prog l (A5s z).toArray W1 fun e W' => e = .returned (.bool true)∧J (pre++[z]) W')
  (next:∀ac a W,PlI x p M J (plO l v G P V 1) (plT G 1) ac a W->Wq Try.prog Q (D5 A7f) ac .normal a W) {ac:List Act} {a:Act} {W:World} (h0:PlI x p M J (D4m l v G P V 0) (plT G 0) ac a W):Wq Try.prog Q A2x ac .normal a W:=by
 have hbox:∀{y:Ctx} (cs:Array Value) (ty:TypeId),y.w.heap[y.β p]? = some (.cells cs ty (0,0))->D9 y (.fl [.vsl v (.gate G),.int .i64 P,.int .i64 V]) cs.toList->D9 (E0 y p) (.fl [.vsl v (.gate G),.int .i64 P,.int .i64 V]) cs.toList:=fun cs _ _ hc=>B5k cs hc
 refine I2 (fun i:{ i:Nat // i<=G.length }=>PlI x p M J (D4m l v G P V i.1) (plP G 0 i.1)) (fun i=>G.length-i.1) (c:=lpC A2x) (k:=lpR A2x) (by kernel_rfl) (fun i ih ac b w hI=>?_) ⟨0,Nat.zero_le _⟩ (by show PlI x p M J (D4m l v G P V 0) (plP G 0 0) ac a W;rw[B9r];exact h0)
 obtain ⟨i,hi⟩:=i;obtain ⟨y,z,rfl,hr,hβ,hm,hJ,hs⟩:=hI;simp only at hm hJ hs ih
 have hmb:Mem (E0 y p) (one (.fl [.vsl v (.gate G),.int .i64 P,.int .i64 V])):=A5k hm (hM _) hr hbox;by_cases h:i<G.length
 ·have hw:wrap IntKind.i64 ((i:Int)+1)=((i+1:Nat):Int):=by rw[B0 (by omega) (by omega)];omega
  by_cases h1:0<=wOf (G.getD i F6) 0
  ·have h1' : (0:Int)<=(G.getD i F6).a:=h1
   refine H1f l v G P V i ⟨decide_eq_true (by omega),by omega,by omega,by decide,by decide,by rw[Int.toNat_natCast];exact decide_eq_true h1',trivial⟩ hs fun ac cZ aZ hs2=>?_
   rw[Int.toNat_natCast] at hs2;obtain ⟨hg,hk2,hβ2⟩:=B0n hmb rfl hs2 rfl;have hJ2:=hgrow _ _ _ hJ hg;obtain ⟨t,ht⟩:=C6m G (w:=0) (i:=i+1) (by decide) (by omega)
   have ev:[aZ.tmps.getD 28 undef,aZ.tmps.getD 29 undef]=A5s (((i:Int),(0:Int)),(G.getD i F6).a):=by
    have k1:=B1e (hs2.t 28);have k2:=K3 (hs2.t 29);show _=[K6 _ _,_];rw[k1,k2]
   have hz:=C6n h1;refine A6k (R:=fun W' => J (plP G 0 (i+1)) W') (dst:=some 30) (f:=.tmp 25) (args:=[.tmp 28,.tmp 29]) (by kernel_rfl) hs2 (l:=l) rfl (vs:=A5s (((i:Int),(0:Int)),(G.getD i F6).a)) ev ?_ fun W' hJ3=>?_
   ·have:=hyield (plP G 0 i) (((i:Int),(0:Int)),(G.getD i F6).a) _ hJ2 ⟨t,by
     rw[ht,hz,List.append_assoc];rfl⟩
    rw[hz];exact this
   ·obtain ⟨y3,rfl,hm3,hc3⟩:=hread _ _ hJ3
    obtain ⟨hr3,hβ3⟩:=hc3 (p,0) List.mem_cons_self;have hr3:y3.k p = .real:=hr3;have hβ3:y3.β p=x.β p:=hβ3;have hs3:=B8m (nx' := 480) (dst:=30) (b:=true) (svs' := [.v (.c (.val (.func (.yield l) #[] #[]))),.v (.c (.ptr 0 0)),.v (.c (.int .i64 0)),.v (.c (.int .i64 0)),.v (.c (.vsl v (.gate G))),.v (.c (.int .i64 (G.length:Nat))),.v (.c (.int .i64 (i:Int))),.v (.c (.lit true)),.top,.top,.top]) hs2 rfl hm3 (hM _) hr3 hbox ⟨D3a,D2z (by rw[hβ2,hβ];exact hβ3.symm),Z7,Z7,D3b (C4l hm3 (hM _) hr3),Z7,Z7,D2y,A4b,A4b,A4b,trivial⟩ (by decide)
    change Wq Try.prog _ _ _ _ _ (E0 y3 p).w
    refine H0v l v G P V i trivial hs3 fun ac cV aV hs4=>?_
    rw[hw] at hs4;exact ih ⟨i+1,by omega⟩ (by show G.length-(i+1)<G.length-i;omega) ac aV _ ⟨y3,cV,rfl,hr3,hβ3,hm3,hJ3,hs4.nx _⟩
  ·have h1' : ¬(0:Int)<=(G.getD i F6).a:=h1
   have e:=D4p h1;refine H0z l v G P V i ⟨decide_eq_true (by omega),by omega,by omega,by decide,by decide,by rw[Int.toNat_natCast];exact decide_eq_false h1',trivial⟩ hs fun ac cZ aZ hs2=>?_
   rw[hw] at hs2;exact ih ⟨i+1,by omega⟩ (by show G.length-(i+1)<G.length-i;omega) ac aZ _ ⟨y,cZ,rfl,hr,hβ,by rw[e];exact hm,by rw[e];exact hJ,hs2.nx _⟩
 ·have e:i=G.length:=by omega
  subst e;refine H1c l v G P V _ ⟨decide_eq_false (by omega),trivial⟩ hs fun ac cZ aZ hs2=>?_
  exact next ac aZ _ ⟨y,cZ,rfl,hr,hβ,hm,hJ,hs2.nx _⟩
theorem G1u {Q:Exit->Act->World->Prop} (hlim:G.length<=4096) (hM:∀s,M s p=some (.fl [.vsl v (.gate G),.int .i64 P,.int .i64 V])) (hgrow:∀s W W',J s W->W.grownBy W' none->J s W')
  (hread:∀s W,J s W->∃y,y.w=W∧Mem y (M s)∧∀c∈[(p,0)],y.k c.1 = .real∧y.β c.1=x.β c.1)
  (hyield:∀pre z W1,J pre W1->(∃t,plT G 3=pre++z::t)->YieldAt Fence.wide 0 Try.prog l (A5s z).toArray W1 fun e W' => e = .returned (.bool true)∧J (pre++[z]) W')
  (next:∀ac a W,PlI x p M J (plO l v G P V 2) (plT G 2) ac a W->Wq Try.prog Q (D5 A7f) ac .normal a W) {ac:List Act} {a:Act} {W:World} (h0:PlI x p M J (D4n l v G P V 0) (plT G 1) ac a W):Wq Try.prog Q A2y ac .normal a W:=by
 have hbox:∀{y:Ctx} (cs:Array Value) (ty:TypeId),y.w.heap[y.β p]? = some (.cells cs ty (0,0))->D9 y (.fl [.vsl v (.gate G),.int .i64 P,.int .i64 V]) cs.toList->D9 (E0 y p) (.fl [.vsl v (.gate G),.int .i64 P,.int .i64 V]) cs.toList:=fun cs _ _ hc=>B5k cs hc
 refine I2 (fun i:{ i:Nat // i<=G.length }=>PlI x p M J (D4n l v G P V i.1) (plP G 1 i.1)) (fun i=>G.length-i.1) (c:=lpC A2y) (k:=lpR A2y) (by kernel_rfl) (fun i ih ac b w hI=>?_) ⟨0,Nat.zero_le _⟩ (by show PlI x p M J (D4n l v G P V 0) (plP G 1 0) ac a W;rw[B9r];exact h0)
 obtain ⟨i,hi⟩:=i;obtain ⟨y,z,rfl,hr,hβ,hm,hJ,hs⟩:=hI;simp only at hm hJ hs ih
 have hmb:Mem (E0 y p) (one (.fl [.vsl v (.gate G),.int .i64 P,.int .i64 V])):=A5k hm (hM _) hr hbox;by_cases h:i<G.length
 ·have hw:wrap IntKind.i64 ((i:Int)+1)=((i+1:Nat):Int):=by rw[B0 (by omega) (by omega)];omega
  by_cases h1:0<=wOf (G.getD i F6) 1
  ·have h1' : (0:Int)<=(G.getD i F6).b:=h1
   refine H1g l v G P V i ⟨decide_eq_true (by omega),by omega,by omega,by decide,by decide,by rw[Int.toNat_natCast];exact decide_eq_true h1',trivial⟩ hs fun ac cZ aZ hs2=>?_
   rw[Int.toNat_natCast] at hs2;obtain ⟨hg,hk2,hβ2⟩:=B0n hmb rfl hs2 rfl;have hJ2:=hgrow _ _ _ hJ hg;obtain ⟨t,ht⟩:=C6m G (w:=1) (i:=i+1) (by decide) (by omega)
   have ev:[aZ.tmps.getD 28 undef,aZ.tmps.getD 29 undef]=A5s (((i:Int),(1:Int)),(G.getD i F6).b):=by
    have k1:=B1e (hs2.t 28);have k2:=K3 (hs2.t 29);show _=[K6 _ _,_];rw[k1,k2]
   have hz:=C6n h1;refine A6k (R:=fun W' => J (plP G 1 (i+1)) W') (dst:=some 30) (f:=.tmp 25) (args:=[.tmp 28,.tmp 29]) (by kernel_rfl) hs2 (l:=l) rfl (vs:=A5s (((i:Int),(1:Int)),(G.getD i F6).b)) ev ?_ fun W' hJ3=>?_
   ·have:=hyield (plP G 1 i) (((i:Int),(1:Int)),(G.getD i F6).b) _ hJ2 ⟨t,by
     rw[ht,hz,List.append_assoc];rfl⟩
    rw[hz];exact this
   ·obtain ⟨y3,rfl,hm3,hc3⟩:=hread _ _ hJ3
    obtain ⟨hr3,hβ3⟩:=hc3 (p,0) List.mem_cons_self;have hr3:y3.k p = .real:=hr3;have hβ3:y3.β p=x.β p:=hβ3;have hs3:=B8m (nx' := 480) (dst:=30) (b:=true) (svs' := [.v (.c (.val (.func (.yield l) #[] #[]))),.v (.c (.ptr 0 0)),.v (.c (.int .i64 1)),.v (.c (.int .i64 1)),.v (.c (.vsl v (.gate G))),.v (.c (.int .i64 (G.length:Nat))),.v (.c (.int .i64 (i:Int))),.v (.c (.lit true)),.top,.top,.top]) hs2 rfl hm3 (hM _) hr3 hbox ⟨D3a,D2z (by rw[hβ2,hβ];exact hβ3.symm),Z7,Z7,D3b (C4l hm3 (hM _) hr3),Z7,Z7,D2y,A4b,A4b,A4b,trivial⟩ (by decide)
    change Wq Try.prog _ _ _ _ _ (E0 y3 p).w
    refine H0w l v G P V i trivial hs3 fun ac cV aV hs4=>?_
    rw[hw] at hs4;exact ih ⟨i+1,by omega⟩ (by show G.length-(i+1)<G.length-i;omega) ac aV _ ⟨y3,cV,rfl,hr3,hβ3,hm3,hJ3,hs4.nx _⟩
  ·have h1' : ¬(0:Int)<=(G.getD i F6).b:=h1
   have e:=D4p h1;refine H1a l v G P V i ⟨decide_eq_true (by omega),by omega,by omega,by decide,by decide,by rw[Int.toNat_natCast];exact decide_eq_false h1',trivial⟩ hs fun ac cZ aZ hs2=>?_
   rw[hw] at hs2;exact ih ⟨i+1,by omega⟩ (by show G.length-(i+1)<G.length-i;omega) ac aZ _ ⟨y,cZ,rfl,hr,hβ,by rw[e];exact hm,by rw[e];exact hJ,hs2.nx _⟩
 ·have e:i=G.length:=by omega
  subst e;refine H1d l v G P V _ ⟨decide_eq_false (by omega),trivial⟩ hs fun ac cZ aZ hs2=>?_
  exact next ac aZ _ ⟨y,cZ,rfl,hr,hβ,hm,hJ,hs2.nx _⟩
theorem G1v {Q:Exit->Act->World->Prop} (hlim:G.length<=4096) (hM:∀s,M s p=some (.fl [.vsl v (.gate G),.int .i64 P,.int .i64 V])) (hgrow:∀s W W',J s W->W.grownBy W' none->J s W')
  (hread:∀s W,J s W->∃y,y.w=W∧Mem y (M s)∧∀c∈[(p,0)],y.k c.1 = .real∧y.β c.1=x.β c.1)
  (hyield:∀pre z W1,J pre W1->(∃t,plT G 3=pre++z::t)->YieldAt Fence.wide 0 Try.prog l (A5s z).toArray W1 fun e W' => e = .returned (.bool true)∧J (pre++[z]) W')
  (next:∀ac a W,PlI x p M J (plO l v G P V 3) (plT G 3) ac a W->Wq Try.prog Q (D5 A7f) ac .normal a W) {ac:List Act} {a:Act} {W:World} (h0:PlI x p M J (D4o l v G P V 0) (plT G 2) ac a W):Wq Try.prog Q A2z ac .normal a W:=by
 have hbox:∀{y:Ctx} (cs:Array Value) (ty:TypeId),y.w.heap[y.β p]? = some (.cells cs ty (0,0))->D9 y (.fl [.vsl v (.gate G),.int .i64 P,.int .i64 V]) cs.toList->D9 (E0 y p) (.fl [.vsl v (.gate G),.int .i64 P,.int .i64 V]) cs.toList:=fun cs _ _ hc=>B5k cs hc
 refine I2 (fun i:{ i:Nat // i<=G.length }=>PlI x p M J (D4o l v G P V i.1) (plP G 2 i.1)) (fun i=>G.length-i.1) (c:=lpC A2z) (k:=lpR A2z) (by kernel_rfl) (fun i ih ac b w hI=>?_) ⟨0,Nat.zero_le _⟩ (by show PlI x p M J (D4o l v G P V 0) (plP G 2 0) ac a W;rw[B9r];exact h0)
 obtain ⟨i,hi⟩:=i;obtain ⟨y,z,rfl,hr,hβ,hm,hJ,hs⟩:=hI;simp only at hm hJ hs ih
 have hmb:Mem (E0 y p) (one (.fl [.vsl v (.gate G),.int .i64 P,.int .i64 V])):=A5k hm (hM _) hr hbox;by_cases h:i<G.length
 ·have hw:wrap IntKind.i64 ((i:Int)+1)=((i+1:Nat):Int):=by rw[B0 (by omega) (by omega)];omega
  by_cases h1:0<=wOf (G.getD i F6) 2
  ·have h1' : (0:Int)<=(G.getD i F6).c:=h1
   refine H1h l v G P V i ⟨decide_eq_true (by omega),by omega,by omega,by decide,by decide,by rw[Int.toNat_natCast];exact decide_eq_true h1',trivial⟩ hs fun ac cZ aZ hs2=>?_
   rw[Int.toNat_natCast] at hs2;obtain ⟨hg,hk2,hβ2⟩:=B0n hmb rfl hs2 rfl;have hJ2:=hgrow _ _ _ hJ hg;obtain ⟨t,ht⟩:=C6m G (w:=2) (i:=i+1) (by decide) (by omega)
   have ev:[aZ.tmps.getD 28 undef,aZ.tmps.getD 29 undef]=A5s (((i:Int),(2:Int)),(G.getD i F6).c):=by
    have k1:=B1e (hs2.t 28);have k2:=K3 (hs2.t 29);show _=[K6 _ _,_];rw[k1,k2]
   have hz:=C6n h1;refine A6k (R:=fun W' => J (plP G 2 (i+1)) W') (dst:=some 30) (f:=.tmp 25) (args:=[.tmp 28,.tmp 29]) (by kernel_rfl) hs2 (l:=l) rfl (vs:=A5s (((i:Int),(2:Int)),(G.getD i F6).c)) ev ?_ fun W' hJ3=>?_
   ·have:=hyield (plP G 2 i) (((i:Int),(2:Int)),(G.getD i F6).c) _ hJ2 ⟨t,by
     rw[ht,hz,List.append_assoc];rfl⟩
    rw[hz];exact this
   ·obtain ⟨y3,rfl,hm3,hc3⟩:=hread _ _ hJ3
    obtain ⟨hr3,hβ3⟩:=hc3 (p,0) List.mem_cons_self;have hr3:y3.k p = .real:=hr3;have hβ3:y3.β p=x.β p:=hβ3;have hs3:=B8m (nx' := 480) (dst:=30) (b:=true) (svs' := [.v (.c (.val (.func (.yield l) #[] #[]))),.v (.c (.ptr 0 0)),.v (.c (.int .i64 2)),.v (.c (.int .i64 2)),.v (.c (.vsl v (.gate G))),.v (.c (.int .i64 (G.length:Nat))),.v (.c (.int .i64 (i:Int))),.v (.c (.lit true)),.top,.top,.top]) hs2 rfl hm3 (hM _) hr3 hbox ⟨D3a,D2z (by rw[hβ2,hβ];exact hβ3.symm),Z7,Z7,D3b (C4l hm3 (hM _) hr3),Z7,Z7,D2y,A4b,A4b,A4b,trivial⟩ (by decide)
    change Wq Try.prog _ _ _ _ _ (E0 y3 p).w
    refine H0x l v G P V i trivial hs3 fun ac cV aV hs4=>?_
    rw[hw] at hs4;exact ih ⟨i+1,by omega⟩ (by show G.length-(i+1)<G.length-i;omega) ac aV _ ⟨y3,cV,rfl,hr3,hβ3,hm3,hJ3,hs4.nx _⟩
  ·have h1' : ¬(0:Int)<=(G.getD i F6).c:=h1
   have e:=D4p h1;refine H1b l v G P V i ⟨decide_eq_true (by omega),by omega,by omega,by decide,by decide,by rw[Int.toNat_natCast];exact decide_eq_false h1',trivial⟩ hs fun ac cZ aZ hs2=>?_
   rw[hw] at hs2;exact ih ⟨i+1,by omega⟩ (by show G.length-(i+1)<G.length-i;omega) ac aZ _ ⟨y,cZ,rfl,hr,hβ,by rw[e];exact hm,by rw[e];exact hJ,hs2.nx _⟩
 ·have e:i=G.length:=by omega
  subst e;refine H1e l v G P V _ ⟨decide_eq_false (by omega),trivial⟩ hs fun ac cZ aZ hs2=>?_
  exact next ac aZ _ ⟨y,cZ,rfl,hr,hβ,hm,hJ,hs2.nx _⟩
end
theorem D0s {x:Ctx} {p:Nat} {v:Value} {G:List A1} {P V:Int} {M:List Plc->Nat->Option En} (hlim:G.length<=4096) (hM:∀s,M s p=some (.fl [.vsl v (.gate G),.int .i64 P,.int .i64 V])):B6e Try.prog x 84 [(p,0)] A5s (plT G 3) M:=by
 intro l J W hgrow hread hyield hJ;have key:Wq Try.prog (bodyPost Try.prog Try.f84 fun e W' => (∃v,e=Ending.returned v)∧J (plT G 3) W') [.code (B2 Try.f84)] [] .normal { tmps:=[Value.func (.yield l) #[] #[],.pointer (some ⟨x.β p,0,none⟩)].toArray++Array.replicate 33 undef,defers:=[] } W:=?_
 ·exact calls_of_wp (c:=B2 Try.f84) Try.func84 rfl ((wpIn_wide (n:=0)).1 key.wp)
 obtain ⟨y,rfl,hm,hc⟩:=hread [] W hJ;obtain ⟨hr,hβ⟩:=hc (p,0) List.mem_cons_self;have hr:y.k p = .real:=hr;have hβ:y.β p=x.β p:=hβ;have hbox:∀{y:Ctx} (cs:Array Value) (ty:TypeId),y.w.heap[y.β p]? = some (.cells cs ty (0,0))->D9 y (.fl [.vsl v (.gate G),.int .i64 P,.int .i64 V]) cs.toList->D9 (E0 y p) (.fl [.vsl v (.gate G),.int .i64 P,.int .i64 V]) cs.toList:=fun cs _ _ hc=>B5k cs hc
 have hargs:I0 (E0 y p) [.v (.c (.val (.func (.yield l) #[] #[]))),.v (.c (.ptr 0 0))] [.func (.yield l) #[] #[],.pointer (some ⟨x.β p,0,none⟩)]:=
  .cons ⟨rfl,0,rfl,rfl⟩ (.cons ⟨rfl,0,rfl,by show _=[Value.pointer (some ⟨y.β p,0,none⟩)];rw[hβ]⟩ .nil)
 have hs:=B8n (nx:=16) (nt:=35) (a:={ tmps:=[Value.func (.yield l) #[] #[],.pointer (some ⟨x.β p,0,none⟩)].toArray++Array.replicate 33 undef,defers:=[] }) hm (hM []) hr hbox rfl (by simp) (A0y hargs 33)
 change Wq Try.prog _ _ _ _ _ (E0 y p).w
 refine pl l v G P V trivial hs fun ac cY aY hs1=>?_
 have l0:(0:Nat)<=3:=by decide
 have l1:(1:Nat)<=3:=by decide
 have l2:(2:Nat)<=3:=by decide
 have l3:(3:Nat)<=3:=by decide
 refine I2 (fun w:{ w:Nat // w<=3 }=>PlI x p M J (plO l v G P V (wI w.1)) (plT G w.1)) (fun w=>3-w.1) (c:=lpC A7f) (k:=lpR A7f) (by kernel_rfl) (fun w ih ac b W hI=>?_) ⟨0,l0⟩ (show PlI x p M J (plO l v G P V 0) (plT G 0) ac aY cY.w from ⟨y,cY,rfl,hr,hβ,hm,hJ,hs1.nx _⟩)
 obtain ⟨w,hw⟩:=w;match w,hw with
 | 0,_=>
  obtain ⟨y,z,rfl,hr,hβ,hm,hJ,hs⟩:=hI;refine H0s l v G P V ⟨decide_eq_true (by decide),trivial⟩ hs fun ac cZ aZ hs2=>?_
  exact G1t hlim hM hgrow hread hyield (fun ac a W h=>ih ⟨1,l1⟩ (by show 3-1<3-0;omega) ac a W h) ⟨y,cZ,rfl,hr,hβ,hm,hJ,hs2.nx _⟩
 | 1,_=>
  obtain ⟨y,z,rfl,hr,hβ,hm,hJ,hs⟩:=hI;refine H0t l v G P V ⟨decide_eq_true (by decide),trivial⟩ hs fun ac cZ aZ hs2=>?_
  exact G1u hlim hM hgrow hread hyield (fun ac a W h=>ih ⟨2,l2⟩ (by show 3-2<3-1;omega) ac a W h) ⟨y,cZ,rfl,hr,hβ,hm,hJ,hs2.nx _⟩
 | 2,_=>
  obtain ⟨y,z,rfl,hr,hβ,hm,hJ,hs⟩:=hI;refine H0u l v G P V ⟨decide_eq_true (by decide),trivial⟩ hs fun ac cZ aZ hs2=>?_
  exact G1v hlim hM hgrow hread hyield (fun ac a W h=>ih ⟨3,l3⟩ (by show 3-3<3-2;omega) ac a W h) ⟨y,cZ,rfl,hr,hβ,hm,hJ,hs2.nx _⟩
 | 3,_=>
  obtain ⟨y,z,rfl,hr,hβ,hm,hJ,hs⟩:=hI;have hmb:Mem (E0 y p) (one (.fl [.vsl v (.gate G),.int .i64 P,.int .i64 V])):=A5k hm (hM _) hr hbox;refine H0y l v G P V ⟨decide_eq_false (by decide),trivial⟩ hs fun ac cZ aZ hs2=>?_
  obtain ⟨hg,_,_⟩:=B0n hmb rfl hs2 rfl;exact ⟨D3t K5 hs2 rfl rfl rfl (fun v=>⟨⟨v,rfl⟩,hgrow _ _ _ hJ hg⟩) (.inr rfl)⟩
end

section
section
variable {w0:World} {F0:Nat->Prop} {K:Kp} {ac:List Act} {Q:Exit->Act->World->Prop} {cX:Ctx} {aX:Act}

theorem ckE (l:List A1) (p v log:Int):C9 cvA Try.f60 3000 [J2 l p v,.v (.c (.int .i64 log))] [false,false,false,false,false] [] []=(some ([((Bool.not (C6 l p v))=false),((decide (log<(0:Int)))=false),((decide (log > (16:Int)))=false),(0<=log),((decide ((wrap .i64 ((1:Int)*((2:Int) ^ (Min.min (log).toNat 64))))<(l.length:Int)))=false)],((.ii (0:Int)),[]))):=by kernel_rfl
theorem D2s (l:List A1) (p v log:Int) (hr:C6 l p v=true) (h0:0<=log) (h1:log<=16) (h2:l.length<=2 ^ log.toNat):FnD Try.prog 60 [J2 l p v,.v (.c (.int .i64 log))] (.v (.c (.int .i64 0))) []:=by
 obtain ⟨e1,_⟩:=S4.G3m h0 (by omega)
 have r:=ckE l p v log;rw[e1] at r;exact A7 K5 Try.func60 r ⟨by rw[hr];rfl,decide_eq_false (by omega),decide_eq_false (by omega),h0,decide_eq_false (by omega),trivial⟩
def D2t:B7
 | [.v (.a [.sl (.gate l),.int .i64 p,.int .i64 v]),.v (.c (.int .i64 log))]=>some ([C6 l p v=true,0<=log,log<=16,l.length<=2 ^ log.toNat],.v (.c (.int .i64 0)),[])
 | _=>none
def nxA:Env:=cvA.set (E8 cvA.fn 60 D2t)
theorem J5:A6 Try.prog nxA:=A9 K5 60 D2t (A4 Try.func60 rfl rfl) fun args o r es h ho=>by
 unfold D2t at h;split at h
 ·cases h;exact D2s _ _ _ _ ho.1 ho.2.1 ho.2.2.1 ho.2.2.2.1
 ·cases h
def A4i:List KI:=(run nxA false 3000 (⟨[.code (B2 Try.f32)],.normal,D6 Try.f32.ntmps [J2 dF dF dF,.v (.c (.int .i64 dF))]⟩:Cfg) [false]).cfg.k
theorem nx (l:List A1) (p v log:Int):let a:=Value.slice Option.none 0 0;let b:=eF_ [(.val a),(.val a),(.val a)];A3 [((C6 l p v)=true),(0<=log),(log<=(16:Int)),(l.length<=(2 ^ (log).toNat)),(((0:Int) != (0:Int))=false)]->Sg Try.prog (D6 Try.f32.ntmps [J2 l p v,.v (.c (.int .i64 log))]) (A5 81 [1,2,4,6,23] [.ii log,.pt 16 0,.pt 32 0,.pt 64 0,.ii (0:Int)] [16,32,64] [(eF_ [(.sl (.gate l)),(.int .i64 p),(.int .i64 v)]),b,b] 192 [] []) .normal (A4i) ([.code (B2 Try.f32)]):=sgA false 3000 [false] J5
def nxO (l:List A1) (p v log w:Int) (m0 m1 m2:Nat) (L0 L1 L2:List (Int×Int)):St:=A5 81 [1,2,4,6,23] [.ii log,.pt 16 0,.pt 32 0,.pt 64 0,.v (.c (.int .i64 w))] [16,32,64,65,66,67] [(eF_ [(.sl (.gate l)),(.int .i64 p),(.int .i64 v)]),(eF_ [(.val (Value.slice Option.none 0 0)),(.val (Value.slice Option.none 0 0)),(.val (Value.slice Option.none 0 0))]),some (.fl [.slc 65 0 m0 2,.slc 66 0 m1 2,.slc 67 0 m2 2]),some (.sq (.place L0)),some (.sq (.place L1)),some (.sq (.place L2))] 192 [] []
def A8q:List KI:=(run nxA false 3000 ((fun (l:List A1) (p v log:Int) (m0 m1 m2:Nat) (L0 L1 L2:List (Int×Int))=>(⟨B5 A4i,.normal,nxO l p v log 0 m0 m1 m2 L0 L1 L2⟩:Cfg)) default default default default default default default default default default) [true]).cfg.k
theorem H0d (l:List A1) (p v log:Int) (m0 m1 m2:Nat) (L0 L1 L2:List (Int×Int)):let a:=Value.slice Option.none 0 0;A3 [((decide (0<(3:Int)))=true),(0<=log)]->Sg Try.prog (nxO l p v log 0 m0 m1 m2 L0 L1 L2) (A5 81 [1,2,4,6,8,23,27,28] [.ii log,.pt 16 0,.pt 32 0,.pt 64 0,.ii (0:Int),.ii (0:Int),(.ii (wrap .i64 ((1:Int)*((2:Int) ^ (Min.min (log).toNat 64))))),.ii (0:Int)] [16,32,64,65,66,67] [(eF_ [(.sl (.gate l)),(.int .i64 p),(.int .i64 v)]),(eF_ [(.val a),(.val a),(.val a)]),(eF_ [(.slc 65 0 m0 2),(.slc 66 0 m1 2),(.slc 67 0 m2 2)]),(eQ_ (Sq.place L0)),(eQ_ (Sq.place L1)),(eQ_ (Sq.place L2))] 288 [] []) .normal (A8q) (B5 A4i):=sgA false 3000 [true] J5
def E8i (l:List A1) (p v log:Int) (m0 m1 m2:Nat) (L0 L1 L2:List (Int×Int)) (N i:Int):St:=A5 81 [1,2,4,6,8,23,27,28] [.ii log,.pt 16 0,.pt 32 0,.pt 64 0,.ii (0:Int),.ii (0:Int),.v (.c (.int .i64 N)),.v (.c (.int .i64 i))] [16,32,64,65,66,67] [(eF_ [(.sl (.gate l)),(.int .i64 p),(.int .i64 v)]),(eF_ [(.val (Value.slice Option.none 0 0)),(.val (Value.slice Option.none 0 0)),(.val (Value.slice Option.none 0 0))]),some (.fl [.slc 65 0 m0 2,.slc 66 0 m1 2,.slc 67 0 m2 2]),some (.sq (.place L0)),some (.sq (.place L1)),some (.sq (.place L2))] 288 [] []
theorem H0g (l:List A1) (p v log:Int) (m0 m1 m2:Nat) (L0 L1 L2:List (Int×Int)) (N i:Int):let a:=Value.slice Option.none 0 0;let b:Int:=0;let c:=L0.length+1;A3 [((decide (i<N))=true),(0<=b),(0<(3:Int)),((c*16)<=140737488355328),(c<=maxLen),(m0=L0.length),(1=1),(0<=b),(0<(3:Int))]->Sg Try.prog (E8i l p v log m0 m1 m2 L0 L1 L2 N i) (A5 81 [1,2,4,6,8,23,27,28] [.ii log,.pt 16 0,.pt 32 0,.pt 64 0,.ii b,.ii b,.ii N,(.ii (wrap .i64 (i+1)))] [16,32,64,65,66,67] [(eF_ [(.sl (.gate l)),(.int .i64 p),(.int .i64 v)]),(eF_ [(.val a),(.val a),(.val a)]),(eF_ [(.slc 65 0 c 2),(.slc 66 0 m1 2),(.slc 67 0 m2 2)]),(eQ_ (Sq.place (L0++[(i,b)]))),(eQ_ (Sq.place L1)),(eQ_ (Sq.place L2))] 544 [] []) .normal (D5 A8q) (B5 A8q):=sgA false 3000 [true] J5
theorem H0j (l:List A1) (p v log:Int) (m0 m1 m2:Nat) (L0 L1 L2:List (Int×Int)) (N i:Int):let a:=Value.slice Option.none 0 0;A3 [((decide (i<N))=false)]->Sg Try.prog (E8i l p v log m0 m1 m2 L0 L1 L2 N i) (A5 81 [1,2,4,6,23] [.ii log,.pt 16 0,.pt 32 0,.pt 64 0,.ii (1:Int)] [16,32,64,65,66,67] [(eF_ [(.sl (.gate l)),(.int .i64 p),(.int .i64 v)]),(eF_ [(.val a),(.val a),(.val a)]),(eF_ [(.slc 65 0 m0 2),(.slc 66 0 m1 2),(.slc 67 0 m2 2)]),(eQ_ (Sq.place L0)),(eQ_ (Sq.place L1)),(eQ_ (Sq.place L2))] 336 [] []) .normal (D5 A4i) (B5 A8q):=sgA false 3000 [false] J5
def A8r:List KI:=(run nxA false 3000 ((fun (l:List A1) (p v log:Int) (m0 m1 m2:Nat) (L0 L1 L2:List (Int×Int))=>(⟨B5 A4i,.normal,nxO l p v log 1 m0 m1 m2 L0 L1 L2⟩:Cfg)) default default default default default default default default default default) [true]).cfg.k
theorem H0e (l:List A1) (p v log:Int) (m0 m1 m2:Nat) (L0 L1 L2:List (Int×Int)):let a:=Value.slice Option.none 0 0;let b:Int:=1;A3 [((decide (b<(3:Int)))=true),(0<=log)]->Sg Try.prog (nxO l p v log 1 m0 m1 m2 L0 L1 L2) (A5 81 [1,2,4,6,8,23,27,28] [.ii log,.pt 16 0,.pt 32 0,.pt 64 0,.ii b,.ii b,(.ii (wrap .i64 (b*((2:Int) ^ (Min.min (log).toNat 64))))),.ii (0:Int)] [16,32,64,65,66,67] [(eF_ [(.sl (.gate l)),(.int .i64 p),(.int .i64 v)]),(eF_ [(.val a),(.val a),(.val a)]),(eF_ [(.slc 65 0 m0 2),(.slc 66 0 m1 2),(.slc 67 0 m2 2)]),(eQ_ (Sq.place L0)),(eQ_ (Sq.place L1)),(eQ_ (Sq.place L2))] 288 [] []) .normal (A8r) (B5 A4i):=sgA false 3000 [true] J5
def E8j (l:List A1) (p v log:Int) (m0 m1 m2:Nat) (L0 L1 L2:List (Int×Int)) (N i:Int):St:=A5 81 [1,2,4,6,8,23,27,28] [.ii log,.pt 16 0,.pt 32 0,.pt 64 0,.ii (1:Int),.ii (1:Int),.v (.c (.int .i64 N)),.v (.c (.int .i64 i))] [16,32,64,65,66,67] [(eF_ [(.sl (.gate l)),(.int .i64 p),(.int .i64 v)]),(eF_ [(.val (Value.slice Option.none 0 0)),(.val (Value.slice Option.none 0 0)),(.val (Value.slice Option.none 0 0))]),some (.fl [.slc 65 0 m0 2,.slc 66 0 m1 2,.slc 67 0 m2 2]),some (.sq (.place L0)),some (.sq (.place L1)),some (.sq (.place L2))] 288 [] []
theorem H0h (l:List A1) (p v log:Int) (m0 m1 m2:Nat) (L0 L1 L2:List (Int×Int)) (N i:Int):let a:=Value.slice Option.none 0 0;let b:Int:=1;let c:=L1.length+1;A3 [((decide (i<N))=true),(0<=b),(b<(3:Int)),((c*16)<=140737488355328),(c<=maxLen),(m1=L1.length),(1=1),(0<=b),(b<(3:Int))]->Sg Try.prog (E8j l p v log m0 m1 m2 L0 L1 L2 N i) (A5 81 [1,2,4,6,8,23,27,28] [.ii log,.pt 16 0,.pt 32 0,.pt 64 0,.ii b,.ii b,.ii N,(.ii (wrap .i64 (i+1)))] [16,32,64,65,66,67] [(eF_ [(.sl (.gate l)),(.int .i64 p),(.int .i64 v)]),(eF_ [(.val a),(.val a),(.val a)]),(eF_ [(.slc 65 0 m0 2),(.slc 66 0 c 2),(.slc 67 0 m2 2)]),(eQ_ (Sq.place L0)),(eQ_ (Sq.place (L1++[(i,b)]))),(eQ_ (Sq.place L2))] 544 [] []) .normal (D5 A8r) (B5 A8r):=sgA false 3000 [true] J5
theorem H0k (l:List A1) (p v log:Int) (m0 m1 m2:Nat) (L0 L1 L2:List (Int×Int)) (N i:Int):let a:=Value.slice Option.none 0 0;A3 [((decide (i<N))=false)]->Sg Try.prog (E8j l p v log m0 m1 m2 L0 L1 L2 N i) (A5 81 [1,2,4,6,23] [.ii log,.pt 16 0,.pt 32 0,.pt 64 0,.ii (2:Int)] [16,32,64,65,66,67] [(eF_ [(.sl (.gate l)),(.int .i64 p),(.int .i64 v)]),(eF_ [(.val a),(.val a),(.val a)]),(eF_ [(.slc 65 0 m0 2),(.slc 66 0 m1 2),(.slc 67 0 m2 2)]),(eQ_ (Sq.place L0)),(eQ_ (Sq.place L1)),(eQ_ (Sq.place L2))] 336 [] []) .normal (D5 A4i) (B5 A8r):=sgA false 3000 [false] J5
def A8s:List KI:=(run nxA false 3000 ((fun (l:List A1) (p v log:Int) (m0 m1 m2:Nat) (L0 L1 L2:List (Int×Int))=>(⟨B5 A4i,.normal,nxO l p v log 2 m0 m1 m2 L0 L1 L2⟩:Cfg)) default default default default default default default default default default) [true]).cfg.k
theorem H0f (l:List A1) (p v log:Int) (m0 m1 m2:Nat) (L0 L1 L2:List (Int×Int)):let a:=Value.slice Option.none 0 0;let b:Int:=2;A3 [((decide (b<(3:Int)))=true),(0<=log)]->Sg Try.prog (nxO l p v log 2 m0 m1 m2 L0 L1 L2) (A5 81 [1,2,4,6,8,23,27,28] [.ii log,.pt 16 0,.pt 32 0,.pt 64 0,.ii b,.ii b,(.ii (wrap .i64 ((1:Int)*(b ^ (Min.min (log).toNat 64))))),.ii (0:Int)] [16,32,64,65,66,67] [(eF_ [(.sl (.gate l)),(.int .i64 p),(.int .i64 v)]),(eF_ [(.val a),(.val a),(.val a)]),(eF_ [(.slc 65 0 m0 2),(.slc 66 0 m1 2),(.slc 67 0 m2 2)]),(eQ_ (Sq.place L0)),(eQ_ (Sq.place L1)),(eQ_ (Sq.place L2))] 288 [] []) .normal (A8s) (B5 A4i):=sgA false 3000 [true] J5
def E8k (l:List A1) (p v log:Int) (m0 m1 m2:Nat) (L0 L1 L2:List (Int×Int)) (N i:Int):St:=A5 81 [1,2,4,6,8,23,27,28] [.ii log,.pt 16 0,.pt 32 0,.pt 64 0,.ii (2:Int),.ii (2:Int),.v (.c (.int .i64 N)),.v (.c (.int .i64 i))] [16,32,64,65,66,67] [(eF_ [(.sl (.gate l)),(.int .i64 p),(.int .i64 v)]),(eF_ [(.val (Value.slice Option.none 0 0)),(.val (Value.slice Option.none 0 0)),(.val (Value.slice Option.none 0 0))]),some (.fl [.slc 65 0 m0 2,.slc 66 0 m1 2,.slc 67 0 m2 2]),some (.sq (.place L0)),some (.sq (.place L1)),some (.sq (.place L2))] 288 [] []
theorem H0i (l:List A1) (p v log:Int) (m0 m1 m2:Nat) (L0 L1 L2:List (Int×Int)) (N i:Int):let a:=Value.slice Option.none 0 0;let b:Int:=2;let c:=L2.length+1;A3 [((decide (i<N))=true),(0<=b),(b<(3:Int)),((c*16)<=140737488355328),(c<=maxLen),(m2=L2.length),(1=1),(0<=b),(b<(3:Int))]->Sg Try.prog (E8k l p v log m0 m1 m2 L0 L1 L2 N i) (A5 81 [1,2,4,6,8,23,27,28] [.ii log,.pt 16 0,.pt 32 0,.pt 64 0,.ii b,.ii b,.ii N,(.ii (wrap .i64 (i+1)))] [16,32,64,65,66,67] [(eF_ [(.sl (.gate l)),(.int .i64 p),(.int .i64 v)]),(eF_ [(.val a),(.val a),(.val a)]),(eF_ [(.slc 65 0 m0 2),(.slc 66 0 m1 2),(.slc 67 0 c 2)]),(eQ_ (Sq.place L0)),(eQ_ (Sq.place L1)),(eQ_ (Sq.place (L2++[(i,b)])))] 544 [] []) .normal (D5 A8s) (B5 A8s):=sgA false 3000 [true] J5
theorem H0l (l:List A1) (p v log:Int) (m0 m1 m2:Nat) (L0 L1 L2:List (Int×Int)) (N i:Int):let a:=Value.slice Option.none 0 0;A3 [((decide (i<N))=false)]->Sg Try.prog (E8k l p v log m0 m1 m2 L0 L1 L2 N i) (A5 81 [1,2,4,6,23] [.ii log,.pt 16 0,.pt 32 0,.pt 64 0,.ii (3:Int)] [16,32,64,65,66,67] [(eF_ [(.sl (.gate l)),(.int .i64 p),(.int .i64 v)]),(eF_ [(.val a),(.val a),(.val a)]),(eF_ [(.slc 65 0 m0 2),(.slc 66 0 m1 2),(.slc 67 0 m2 2)]),(eQ_ (Sq.place L0)),(eQ_ (Sq.place L1)),(eQ_ (Sq.place L2))] 336 [] []) .normal (D5 A4i) (B5 A8s):=sgA false 3000 [false] J5
def D0l:List KI:=(run nxA false 3000 ((fun (l:List A1) (p v log:Int) (m0 m1 m2:Nat) (L0 L1 L2:List (Int×Int))=>(⟨B5 A4i,.normal,nxO l p v log 3 m0 m1 m2 L0 L1 L2⟩:Cfg)) default default default default default default default default default default) [false]).cfg.k
theorem nxD (l:List A1) (p v log:Int) (m0 m1 m2:Nat) (L0 L1 L2:List (Int×Int)):let a:=Value.slice Option.none 0 0;A3 [((decide ((3:Int)<(3:Int)))=false)]->Sg Try.prog (nxO l p v log 3 m0 m1 m2 L0 L1 L2) (A5 81 [2,4,6] [.pt 16 0,.pt 32 0,.pt 64 0] [16,32,64,65,66,67] [(eF_ [(.sl (.gate l)),(.int .i64 p),(.int .i64 v)]),(eF_ [(.val a),(.val a),(.val a)]),(eF_ [(.slc 65 0 m0 2),(.slc 66 0 m1 2),(.slc 67 0 m2 2)]),(eQ_ (Sq.place L0)),(eQ_ (Sq.place L1)),(eQ_ (Sq.place L2))] 208 [] []) .normal (D0l) (B5 A4i):=sgA false 3000 [false] J5
end
end

section

def X6:B7
 | [.v (.c (.int .u64 x)),.v (.c (.int .u64 y))]=>some ([0<=x,x<18446744073709551616,0<=y,y<18446744073709551616],.t [.c (.int .u64 (x*y / 18446744073709551616)),.c (.int .u64 (x*y % 18446744073709551616))],[])
 | _=>none

def qeA:Env:=X3.set (E8 X3.fn 40 X6)
theorem E9v:A6 Try.prog qeA:=
 A9 G4 40 X6 (A4 Try.func40 rfl rfl) fun args o r es h ho=>by
  unfold X6 at h;split at h
  ·cases h;exact C2w _ _ ho.1 ho.2.1 ho.2.2.1 ho.2.2.2.1
  ·cases h

theorem G4n  : C9 qeA Try.f90 3000 [] [] [] []=(some ([(0<=(13402431016077863595:Int)),((13402431016077863595:Int)<(18446744073709551616:Int)),(0<=(2210141511517208575:Int)),((2210141511517208575:Int)<(18446744073709551616:Int)),(0<=(7435674573564081700:Int)),((7435674573564081700:Int)<(18446744073709551616:Int)),(0<=(7239337960414712511:Int)),((7239337960414712511:Int)<(18446744073709551616:Int)),(0<=(5412103778470702295:Int)),((5412103778470702295:Int)<(18446744073709551616:Int)),(0<=(1873798617647539866:Int)),((1873798617647539866:Int)<(18446744073709551616:Int))],((.v (.a [(.ob (.fp (Fin.ofNat B6 4002409555221667393417789825735904156556882819939007885332058136124031650490837864442687629129015664037894272559787)))])),[]))):=by kernel_rfl

def pU:U6:=Fin.ofNat B6 pN
def B2h:B7
 | []=>some ([],.v (.a [.ob (.fp pU)]),[])
 | _=>none

theorem D9o:FnD Try.prog 90 [] (.v (.a [.ob (.fp pU)])) []:=
 (A7 E9v Try.func90 G4n (by simp [A3])).conv (fun _ _ h=>h) fun y v hd=>by
  have e:pU=Fin.ofNat B6 4002409555221667393417789825735904156556882819939007885332058136124031650490837864442687629129015664037894272559787:=by kernel_rfl
  rw[e];exact hd

def qeB:Env:=qeA.set (E8 qeA.fn 90 B2h)
theorem D4z:A6 Try.prog qeB:=
 A9 E9v 90 B2h (A4 Try.func90 rfl rfl) fun args o r es h ho=>by
  unfold B2h at h;split at h
  ·cases h;exact D9o
  ·cases h

theorem G2w (a b c d e f:Int):let j:Int:=6;let l:Int:=18446744073709551616;let m:Int:=2210141511517208575;let n:Int:=13402431016077863595;let o:Int:=1;let p:Int:=1873798617647539866;let q:Int:=7435674573564081700;let r:Int:=5412103778470702295;let s:Int:=7239337960414712511;let u:Int:=0;let i:=Prod.snd (A2 1 a n u);let t:=Prod.snd (A2 1 b m i);let g:=A2 1 c q t;let w:Int:=2;let x:Int:=3;let y:Int:=4;let z:Int:=5;let C:=Prod.snd g;let k:=A2 1 d s C;let B:=Prod.snd k;let h:=A2 1 e r B;let A:=Prod.snd h;C9 qeB Try.f95 3000 [.v (.a [.int .u64 a,.int .u64 b,.int .u64 c,.int .u64 d,.int .u64 e,.int .u64 f])] [true,true,true,true,true,true,false,true] [] []=(some ([((decide (0<j))=true),(0<=u),(0<j),(0<=u),(0<j),(0<6),(0<=a),(0<=n),(n<l),(0<=u),(0<=o),(0<=u),(0<j),((decide (o<j))=true),(0<=o),(o<j),(0<=o),(o<j),(1<6),(0<=b),(0<=m),(m<l),(0<=i),(i<=o),(0<=o),(o<j),((decide (w<j))=true),(0<=w),(w<j),(0<=w),(w<j),(2<6),(0<=c),(0<=q),(q<l),(0<=t),(t<=o),(0<=w),(w<j),((decide (x<j))=true),(0<=x),(x<j),(0<=x),(x<j),(3<6),(0<=d),(0<=s),(s<l),(0<=C),(C<=o),(0<=x),(x<j),((decide (y<j))=true),(0<=y),(y<j),(0<=y),(y<j),(4<6),(0<=e),(0<=r),(r<l),(0<=B),(B<=o),(0<=y),(y<j),((decide (z<j))=true),(0<=z),(z<j),(0<=z),(z<j),(5<6),(0<=f),(0<=p),(p<l),(0<=A),(A<=o),(0<=z),(z<j),((decide (j<j))=false),(((Prod.snd (A2 1 f p A)) == u)=true)],((.v (.a [(.int .u64 (Prod.fst (A2 1 a n u))),(.int .u64 (Prod.fst (A2 1 b m i))),(.int .u64 (Prod.fst g)),(.int .u64 (Prod.fst k)),(.int .u64 (Prod.fst h)),(.int .u64 (Prod.fst (A2 1 f p A)))])),[]))):=by intros;kernel_rfl
theorem G2x (a b c d e f:Int):let j:Int:=6;let k:Int:=18446744073709551616;let l:Int:=2210141511517208575;let m:Int:=5412103778470702295;let n:Int:=1;let o:Int:=13402431016077863595;let p:Int:=7435674573564081700;let q:Int:=7239337960414712511;let r:Int:=1873798617647539866;let u:Int:=2;let w:Int:=3;let x:Int:=4;let y:Int:=5;let z:Int:=0;let h:=Prod.snd (A2 1 a o z);let s:=Prod.snd (A2 1 b l h);let g:=Prod.snd (A2 1 c p s);let i:=Prod.snd (A2 1 d q g);let t:=Prod.snd (A2 1 e m i);C9 qeB Try.f95 3000 [.v (.a [.int .u64 a,.int .u64 b,.int .u64 c,.int .u64 d,.int .u64 e,.int .u64 f])] [true,true,true,true,true,true,false,false] [] []=(some ([((decide (0<j))=true),(0<=z),(0<j),(0<=z),(0<j),(0<6),(0<=a),(0<=o),(o<k),(0<=z),(0<=n),(0<=z),(0<j),((decide (n<j))=true),(0<=n),(n<j),(0<=n),(n<j),(1<6),(0<=b),(0<=l),(l<k),(0<=h),(h<=n),(0<=n),(n<j),((decide (u<j))=true),(0<=u),(u<j),(0<=u),(u<j),(2<6),(0<=c),(0<=p),(p<k),(0<=s),(s<=n),(0<=u),(u<j),((decide (w<j))=true),(0<=w),(w<j),(0<=w),(w<j),(3<6),(0<=d),(0<=q),(q<k),(0<=g),(g<=n),(0<=w),(w<j),((decide (x<j))=true),(0<=x),(x<j),(0<=x),(x<j),(4<6),(0<=e),(0<=m),(m<k),(0<=i),(i<=n),(0<=x),(x<j),((decide (y<j))=true),(0<=y),(y<j),(0<=y),(y<j),(5<6),(0<=f),(0<=r),(r<k),(0<=t),(t<=n),(0<=y),(y<j),((decide (j<j))=false),(((Prod.snd (A2 1 f r t)) == z)=false)],((.v (.a [(.int .u64 a),(.int .u64 b),(.int .u64 c),(.int .u64 d),(.int .u64 e),(.int .u64 f)])),[]))):=by intros;kernel_rfl
end

section

def A4n:B7
 | [.v (.a [.int .u64 a,.int .u64 b,.int .u64 c,.int .u64 d,.int .u64 e,.int .u64 f])]=>some ([0<=a,a<18446744073709551616,0<=b,b<18446744073709551616,0<=c,c<18446744073709551616,0<=d,d<18446744073709551616,0<=e,e<18446744073709551616,0<=f,f<18446744073709551616,G3 a b c d e f<2*pN],.v (.a [.ob (.p (B5h (G3 a b c d e f).toNat))]),[])
 | _=>none

theorem G6x {N:Int} (h0:0<=N) (h1:(pN:Int)<=N) (h2:N<2*pN):((Ob.p (B5h N.toNat)).n:Int)=N-pN:=by
 have e:(Ob.p (B5h N.toNat)).n=N.toNat-pN:=by
  rw[F0b];have k1:pN<=N.toNat:=by omega
  have k2:N.toNat<2*pN:=by omega
  rw[Nat.mod_eq_sub_mod k1,Nat.mod_eq_of_lt (by omega)]
 rw[e];omega

theorem G6y {N:Int} (h0:0<=N) (h1:N<(pN:Int)):((Ob.p (B5h N.toNat)).n:Int)=N:=by
 have e:(Ob.p (B5h N.toNat)).n=N.toNat:=by
  rw[F0b];exact Nat.mod_eq_of_lt (by omega)
 rw[e];omega

theorem A1l:(pN:Int)=4002409555221667393417789825735904156556882819939007885332058136124031650490837864442687629129015664037894272559787:=rfl

theorem W5 {a b c d e f:Int} (ha:0<=a) (hb:0<=b) (hc:0<=c) (hd:0<=d) (he:0<=e) (hf:0<=f):0<=G3 a b c d e f:=by unfold G3;omega

/-- The difference, limb by limb. -/
theorem F8f {a b c d e f:Int} {o1 v1 o2 v2 o3 v3 o4 v4 o5 v5 o6 v6:Int} (e1:o1=a-13402431016077863595-0+18446744073709551616*v1) (e2:o2=b-2210141511517208575-v1+18446744073709551616*v2) (e3:o3=c-7435674573564081700-v2+18446744073709551616*v3) (e4:o4=d-7239337960414712511-v3+18446744073709551616*v4) (e5:o5=e-5412103778470702295-v4+18446744073709551616*v5) (e6:o6=f-1873798617647539866-v5+18446744073709551616*v6) :
  G3 o1 o2 o3 o4 o5 o6=G3 a b c d e f-pN+39402006196394479212279040100143613805079739270465446667948293404245721771497210611414266254884915640806627990306816*v6:=by
 rw[A1l];unfold G3;omega

theorem lt6 {a b c d e f:Int} (ha:0<=a) (ha1:a<18446744073709551616) (hb:0<=b) (hb1:b<18446744073709551616) (hc:0<=c) (hc1:c<18446744073709551616) (hd:0<=d) (hd1:d<18446744073709551616) (he:0<=e) (he1:e<18446744073709551616) (hf:0<=f) (hf1:f<18446744073709551616):G3 a b c d e f<39402006196394479212279040100143613805079739270465446667948293404245721771497210611414266254884915640806627990306816:=by
 unfold G3;omega

theorem C6y (a b c d e f:Int) (ha:0<=a) (ha1:a<18446744073709551616) (hb:0<=b) (hb1:b<18446744073709551616) (hc:0<=c) (hc1:c<18446744073709551616) (hd:0<=d) (hd1:d<18446744073709551616) (he:0<=e) (he1:e<18446744073709551616) (hf:0<=f) (hf1:f<18446744073709551616) (hn:G3 a b c d e f<2*pN) :
  FnD Try.prog 95 [.v (.a [.int .u64 a,.int .u64 b,.int .u64 c,.int .u64 d,.int .u64 e,.int .u64 f])] (.v (.a [.ob (.p (B5h (G3 a b c d e f).toNat))])) []:=by
 have r0:=G2w a b c d e f;dsimp only at r0;have r1:=G2x a b c d e f;dsimp only at r1;obtain ⟨e1,o1,o1',c1,c1'⟩:=E5 (y:=13402431016077863595) (c:=0) ha ha1 (by decide) (by decide) (by decide) (by decide)
 obtain ⟨e2,o2,o2',c2,c2'⟩:=E5 (y:=2210141511517208575) hb hb1 (by decide) (by decide) c1 c1'
 obtain ⟨e3,o3,o3',c3,c3'⟩:=E5 (y:=7435674573564081700) hc hc1 (by decide) (by decide) c2 c2'
 obtain ⟨e4,o4,o4',c4,c4'⟩:=E5 (y:=7239337960414712511) hd hd1 (by decide) (by decide) c3 c3'
 obtain ⟨e5,o5,o5',c5,c5'⟩:=E5 (y:=5412103778470702295) he he1 (by decide) (by decide) c4 c4'
 obtain ⟨e6,o6,o6',c6,c6'⟩:=E5 (y:=1873798617647539866) hf hf1 (by decide) (by decide) c5 c5'
 generalize hx1:A2 1 a 13402431016077863595 0=x1 at *;generalize hx2:A2 1 b 2210141511517208575 x1.2=x2 at *;generalize hx3:A2 1 c 7435674573564081700 x2.2=x3 at *;generalize hx4:A2 1 d 7239337960414712511 x3.2=x4 at *;generalize hx5:A2 1 e 5412103778470702295 x4.2=x5 at *;generalize hx6:A2 1 f 1873798617647539866 x5.2=x6 at *;clear hx1 hx2 hx3 hx4 hx5 hx6;have hnn:=W5 ha hb hc hd he hf;have hD:=F8f e1 e2 e3 e4 e5 e6;have hO:=lt6 o1 o1' o2 o2' o3 o3' o4 o4' o5 o5' o6 o6';have hO0:=W5 o1 o2 o3 o4 o5 o6;have hp:=A1l;by_cases hz:x6.2=0
 ·refine (A7 D4z Try.func95 r0 ?_).conv (fun _ _ h=>h) fun y v hv=>A5j rfl ?_ hv
  ·clear hD hO hO0 hn hnn e1 e2 e3 e4 e5 e6
   simp only[A3,and_true,decide_eq_true_eq,decide_eq_false_iff_not,beq_iff_eq];and_intros<;>first | assumption | decide | omega
  ·refine X5 o1 o1' o2 o2' o3 o3' o4 o4' o5 o5' o6 o6' ?_
   rw[hz,Int.mul_zero,Int.add_zero] at hD;rw[hD];exact G6x hnn (by omega) hn
 ·refine (A7 D4z Try.func95 r1 ?_).conv (fun _ _ h=>h) fun y v hv=>A5j rfl ?_ hv
  ·clear hD hO hO0 hn hnn e1 e2 e3 e4 e5 e6
   simp only[A3,and_true,decide_eq_true_eq,decide_eq_false_iff_not,beq_eq_false_iff_ne];and_intros<;>first | assumption | decide | omega
  ·refine X5 ha ha1 hb hb1 hc hc1 hd hd1 he he1 hf hf1 ?_
   have:x6.2=1:=by omega
   rw[this] at hD;exact G6y hnn (by omega)

end

section
section
variable {w0:World} {F0:Nat->Prop} {K:Kp} {ac:List Act} {Q:Exit->Act->World->Prop} {cX:Ctx} {aX:Act}

def qeC:Env:=qeB.set (E8 qeB.fn 95 A4n)
theorem A1m:A6 Try.prog qeC:=
 A9 D4z 95 A4n (A4 Try.func95 rfl rfl) fun args o r es h ho=>by
  unfold A4n at h;split at h
  ·cases h
   obtain ⟨h1,h2,h3,h4,h5,h6,h7,h8,h9,h10,h11,h12,h13,_⟩:=ho;exact C6y _ _ _ _ _ _ h1 h2 h3 h4 h5 h6 h7 h8 h9 h10 h11 h12 h13
  ·cases h

def mc0 (x y:Fp):Cfg:=⟨[.code (B2 Try.f88)],.normal,D6 Try.f88.ntmps [.v (.a [.ob (.p x)]),.v (.a [.ob (.p y)])]⟩

def B0p:List KI:=(run qeC false 3000 (mc0 dF dF:Cfg) []).cfg.k
theorem mIn (x y:Fp):let b:Int:=0;let c:=(mc0 x y:Cfg);(A3 [])->(Sim w0 F0 K ac (c.σ) cX aX)->(∀ac cY aY,Sim w0 F0 K ac (A5 308 [3,4,5,6,7,8,9,10,20,21] [.pt 32 0,.pt 48 0,.iu b,.iu b,.iu b,.iu b,.iu b,.iu b,(.v (.a [.ob (.p x)])),.ii b] [32,48] [(eF_ [.ob (.p y)]),(eF_ [(.ob (.p (0:Fp)))])] 192 [] []) cY aY->Wq Try.prog Q (B0p) ac Exit.normal aY cY.w)->Wq Try.prog Q (c.k) ac c.x aX cX.w:=fun ho hs hK=>
 U5 (unroll:=false) (n:=3000) (path:=[]) (o:=⟨_,_,_,_,_,_,_⟩) A1m (by kernel_rfl) (by kernel_rfl) ho hs hK
def mS (x y:Fp) (i:Nat) (t0 t1 t2 t3 t4 t5 :Int):St:=A5 308 [3,4,5,6,7,8,9,10,20,21] [.pt 32 0,.pt 48 0,.v (.c (.int .u64 t0)),.v (.c (.int .u64 t1)),.v (.c (.int .u64 t2)),.v (.c (.int .u64 t3)),.v (.c (.int .u64 t4)),.v (.c (.int .u64 t5)),(.v (.a [.ob (.p x)])),.v (.c (.int .i64 (i:Int)))] [32,48] [(eF_ [.ob (.p y)]),(eF_ [(.ob (.p (0:Fp)))])] 192 [] []
theorem G0w (x y:Fp) (i:Nat) (t0 t1 t2 t3 t4 t5:Int):let b:Int:=18446744073709551616;let c:=G3 t0 t1 t2 t3 t4 t5;C2 qeC Try.f88 false 3000 (⟨B5 B0p,.normal,mS x y i t0 t1 t2 t3 t4 t5⟩) [false] [] []=(some ([((decide ((i:Int)<(6:Int)))=false),(0<=t0),(t0<b),(0<=t1),(t1<b),(0<=t2),(t2<b),(0<=t3),(t3<b),(0<=t4),(t4<b),(0<=t5),(t5<b),(c<(8004819110443334786835579651471808313113765639878015770664116272248063300981675728885375258258031328075788545119574:Int))],((.v (.a [(.ob (.p (B5h (c).toNat)))])),[]))):=by intros;kernel_rfl
def E6z:List KI:=(run qeC false 77 (⟨B5 B0p,.normal,mS dF dF dF dF dF dF dF dF dF⟩:Cfg) [true]).cfg.k
theorem mA (x y:Fp) (i:Nat) (t0 t1 t2 t3 t4 t5:Int) {w0:World} {F0:Nat->Prop} {K:Kp} {ac:List Act} {Q:Exit->Act->World->Prop} {cX:Ctx} {aX:Act} (ho:A3 [((decide ((i:Int)<(6:Int)))=true),(0<=(i:Int)),((i:Int)<(6:Int)),(0<=(0:Int)),(0<(6:Int)),(0<(Ob.k (.p y))),(0<=(A0 (Ob.n (.p x)) ((i:Int)).toNat)),((A0 (Ob.n (.p x)) ((i:Int)).toNat)<(18446744073709551616:Int)),(0<=(A0 (Ob.n (.p y)) 0)),((A0 (Ob.n (.p y)) 0)<(18446744073709551616:Int)),(0<=(((A0 (Ob.n (.p x)) ((i:Int)).toNat)*(A0 (Ob.n (.p y)) 0)) % (18446744073709551616:Int))),(0<=t0),(t0<(18446744073709551616:Int)),(0<=(0:Int)),(0<=(1:Int)),(0<=(wrap .u64 ((Prod.fst (A2 0 (((A0 (Ob.n (.p x)) ((i:Int)).toNat)*(A0 (Ob.n (.p y)) 0)) % (18446744073709551616:Int)) t0 (0:Int)))*(9940570264628428797:Int)))),((wrap .u64 ((Prod.fst (A2 0 (((A0 (Ob.n (.p x)) ((i:Int)).toNat)*(A0 (Ob.n (.p y)) 0)) % (18446744073709551616:Int)) t0 (0:Int)))*(9940570264628428797:Int)))<(18446744073709551616:Int)),(0<=(13402431016077863595:Int)),((13402431016077863595:Int)<(18446744073709551616:Int)),(0<=(((wrap .u64 ((Prod.fst (A2 0 (((A0 (Ob.n (.p x)) ((i:Int)).toNat)*(A0 (Ob.n (.p y)) 0)) % (18446744073709551616:Int)) t0 (0:Int)))*(9940570264628428797:Int)))*(13402431016077863595:Int)) % (18446744073709551616:Int))),(0<=(Prod.fst (A2 0 (((A0 (Ob.n (.p x)) ((i:Int)).toNat)*(A0 (Ob.n (.p y)) 0)) % (18446744073709551616:Int)) t0 (0:Int)))),((Prod.fst (A2 0 (((A0 (Ob.n (.p x)) ((i:Int)).toNat)*(A0 (Ob.n (.p y)) 0)) % (18446744073709551616:Int)) t0 (0:Int)))<(18446744073709551616:Int)),(0<=(0:Int)),(0<=(1:Int))]) (hs:Sim w0 F0 K ac (mS x y i t0 t1 t2 t3 t4 t5) cX aX) (hK:∀ac cY aY,Sim w0 F0 K ac (A5 308 [3,4,6,7,8,9,10,12,16,17,19,20,21] [.pt 32 0,.pt 48 0,.iu t1,.iu t2,.iu t3,.iu t4,.iu t5,(.iu (A0 (Ob.n (.p x)) ((i:Int)).toNat)),(.iu (wrap .u64 ((((A0 (Ob.n (.p x)) ((i:Int)).toNat)*(A0 (Ob.n (.p y)) 0)) / (18446744073709551616:Int))+(Prod.snd (A2 0 (((A0 (Ob.n (.p x)) ((i:Int)).toNat)*(A0 (Ob.n (.p y)) 0)) % (18446744073709551616:Int)) t0 (0:Int)))))),(.iu (wrap .u64 ((Prod.fst (A2 0 (((A0 (Ob.n (.p x)) ((i:Int)).toNat)*(A0 (Ob.n (.p y)) 0)) % (18446744073709551616:Int)) t0 (0:Int)))*(9940570264628428797:Int)))),(.iu (wrap .u64 ((((wrap .u64 ((Prod.fst (A2 0 (((A0 (Ob.n (.p x)) ((i:Int)).toNat)*(A0 (Ob.n (.p y)) 0)) % (18446744073709551616:Int)) t0 (0:Int)))*(9940570264628428797:Int)))*(13402431016077863595:Int)) / (18446744073709551616:Int))+(Prod.snd (A2 0 (((wrap .u64 ((Prod.fst (A2 0 (((A0 (Ob.n (.p x)) ((i:Int)).toNat)*(A0 (Ob.n (.p y)) 0)) % (18446744073709551616:Int)) t0 (0:Int)))*(9940570264628428797:Int)))*(13402431016077863595:Int)) % (18446744073709551616:Int)) (Prod.fst (A2 0 (((A0 (Ob.n (.p x)) ((i:Int)).toNat)*(A0 (Ob.n (.p y)) 0)) % (18446744073709551616:Int)) t0 (0:Int))) (0:Int)))))),(.v (.a [.ob (.p x)])),(.ii (i:Int))] [32,48] [(eF_ [.ob (.p y)]),(eF_ [(.ob (.p (0:Fp)))])] 912 [] []) cY aY->Wq Try.prog Q (E6z) ac Exit.normal aY cY.w):Wq Try.prog Q (B5 B0p) ac .normal aX cX.w:=
 M8 (unroll:=false) (n:=77) (path:=[true]) (o:=⟨_,_,_,_,_,_,_⟩) A1m (by kernel_rfl) (by kernel_rfl) ho hs hK
def mS1 (x y:Fp) (i:Nat) (t1 t2 t3 t4 t5 xi q up dn :Int):St:=A5 308 [3,4,6,7,8,9,10,12,16,17,19,20,21] [.pt 32 0,.pt 48 0,.iu t1,.iu t2,.iu t3,.iu t4,.iu t5,.v (.c (.int .u64 xi)),.v (.c (.int .u64 up)),.v (.c (.int .u64 q)),.v (.c (.int .u64 dn)),(.v (.a [.ob (.p x)])),(.ii (i:Int))] [32,48] [(eF_ [.ob (.p y)]),(eF_ [(.ob (.p (0:Fp)))])] 912 [] []
def E7a:List KI:=(run qeC false 94 (⟨E6z,.normal,mS1 dF dF dF dF dF dF dF dF dF dF dF dF⟩:Cfg) []).cfg.k
theorem mB (x y:Fp) (i:Nat) (t1 t2 t3 t4 t5 xi q up dn:Int):let c:Int:=18446744073709551616;let f:=A0 (Ob.n (.p y)) 1;let g:Int:=2210141511517208575;let h:Int:=0;let j:=A2 0 ((xi*f) % c) t1 h;let b:=A2 0 (Prod.fst j) up h;let l:=0<=(1:Int);let o:=Prod.fst b;let d:=A2 0 ((q*g) % c) o h;let m:=A2 0 (Prod.fst d) dn h;A3 [l,((1:Int)<(6:Int)),(1<(Ob.k (.p y))),(0<=xi),(xi<c),(0<=f),(f<c),(0<=((xi*f) % c)),(0<=t1),(t1<c),(0<=h),l,(0<=(Prod.fst j)),(0<=up),(up<c),(0<=h),l,(0<=q),(q<c),(0<=g),(g<c),(0<=((q*g) % c)),(0<=o),(o<c),(0<=h),l,(0<=(Prod.fst d)),(0<=dn),(dn<c),(0<=h),l]->Sg Try.prog (mS1 x y i t1 t2 t3 t4 t5 xi q up dn) (A5 308 [3,4,5,7,8,9,10,12,16,17,19,20,21] [.pt 32 0,.pt 48 0,(.iu (Prod.fst m)),.iu t2,.iu t3,.iu t4,.iu t5,.iu xi,(.iu (wrap .u64 ((wrap .u64 (((xi*f) / c)+(Prod.snd j)))+(Prod.snd b)))),.iu q,(.iu (wrap .u64 ((wrap .u64 (((q*g) / c)+(Prod.snd d)))+(Prod.snd m)))),(.v (.a [.ob (.p x)])),(.ii (i:Int))] [32,48] [(eF_ [.ob (.p y)]),(eF_ [(.ob (.p (0:Fp)))])] 1936 [] []) .normal (E7a) (E6z):=sgA false 94 [] A1m
def mS2 (x y:Fp) (i:Nat) (n0 t2 t3 t4 t5 xi q up dn :Int):St:=A5 308 [3,4,5,7,8,9,10,12,16,17,19,20,21] [.pt 32 0,.pt 48 0,.v (.c (.int .u64 n0)),.iu t2,.iu t3,.iu t4,.iu t5,.iu xi,.v (.c (.int .u64 up)),.iu q,.v (.c (.int .u64 dn)),(.v (.a [.ob (.p x)])),(.ii (i:Int))] [32,48] [(eF_ [.ob (.p y)]),(eF_ [(.ob (.p (0:Fp)))])] 1936 [] []
def E7b:List KI:=(run qeC false 94 (⟨E7a,.normal,mS2 dF dF dF dF dF dF dF dF dF dF dF dF⟩:Cfg) []).cfg.k
theorem mC (x y:Fp) (i:Nat) (n0 t2 t3 t4 t5 xi q up dn:Int):let c:Int:=18446744073709551616;let f:=A0 (Ob.n (.p y)) 2;let g:Int:=7435674573564081700;let h:Int:=0;let j:=A2 0 ((xi*f) % c) t2 h;let b:=A2 0 (Prod.fst j) up h;let l:=0<=(1:Int);let o:=Prod.fst b;let d:=A2 0 ((q*g) % c) o h;let m:=A2 0 (Prod.fst d) dn h;A3 [(0<=(2:Int)),((2:Int)<(6:Int)),(2<(Ob.k (.p y))),(0<=xi),(xi<c),(0<=f),(f<c),(0<=((xi*f) % c)),(0<=t2),(t2<c),(0<=h),l,(0<=(Prod.fst j)),(0<=up),(up<c),(0<=h),l,(0<=q),(q<c),(0<=g),(g<c),(0<=((q*g) % c)),(0<=o),(o<c),(0<=h),l,(0<=(Prod.fst d)),(0<=dn),(dn<c),(0<=h),l]->Sg Try.prog (mS2 x y i n0 t2 t3 t4 t5 xi q up dn) (A5 308 [3,4,5,6,8,9,10,12,16,17,19,20,21] [.pt 32 0,.pt 48 0,.iu n0,(.iu (Prod.fst m)),.iu t3,.iu t4,.iu t5,.iu xi,(.iu (wrap .u64 ((wrap .u64 (((xi*f) / c)+(Prod.snd j)))+(Prod.snd b)))),.iu q,(.iu (wrap .u64 ((wrap .u64 (((q*g) / c)+(Prod.snd d)))+(Prod.snd m)))),(.v (.a [.ob (.p x)])),(.ii (i:Int))] [32,48] [(eF_ [.ob (.p y)]),(eF_ [(.ob (.p (0:Fp)))])] 2960 [] []) .normal (E7b) (E7a):=sgA false 94 [] A1m
def mS3 (x y:Fp) (i:Nat) (n0 n1 t3 t4 t5 xi q up dn :Int):St:=A5 308 [3,4,5,6,8,9,10,12,16,17,19,20,21] [.pt 32 0,.pt 48 0,.iu n0,.v (.c (.int .u64 n1)),.iu t3,.iu t4,.iu t5,.iu xi,.v (.c (.int .u64 up)),.iu q,.v (.c (.int .u64 dn)),(.v (.a [.ob (.p x)])),(.ii (i:Int))] [32,48] [(eF_ [.ob (.p y)]),(eF_ [(.ob (.p (0:Fp)))])] 2960 [] []
def E7c:List KI:=(run qeC false 94 (⟨E7b,.normal,mS3 dF dF dF dF dF dF dF dF dF dF dF dF⟩:Cfg) []).cfg.k
theorem mD (x y:Fp) (i:Nat) (n0 n1 t3 t4 t5 xi q up dn:Int):let c:Int:=18446744073709551616;let f:=A0 (Ob.n (.p y)) 3;let g:Int:=7239337960414712511;let h:Int:=0;let j:=A2 0 ((xi*f) % c) t3 h;let b:=A2 0 (Prod.fst j) up h;let l:=0<=(1:Int);let o:=Prod.fst b;let d:=A2 0 ((q*g) % c) o h;let m:=A2 0 (Prod.fst d) dn h;A3 [(0<=(3:Int)),((3:Int)<(6:Int)),(3<(Ob.k (.p y))),(0<=xi),(xi<c),(0<=f),(f<c),(0<=((xi*f) % c)),(0<=t3),(t3<c),(0<=h),l,(0<=(Prod.fst j)),(0<=up),(up<c),(0<=h),l,(0<=q),(q<c),(0<=g),(g<c),(0<=((q*g) % c)),(0<=o),(o<c),(0<=h),l,(0<=(Prod.fst d)),(0<=dn),(dn<c),(0<=h),l]->Sg Try.prog (mS3 x y i n0 n1 t3 t4 t5 xi q up dn) (A5 308 [3,4,5,6,7,9,10,12,16,17,19,20,21] [.pt 32 0,.pt 48 0,.iu n0,.iu n1,(.iu (Prod.fst m)),.iu t4,.iu t5,.iu xi,(.iu (wrap .u64 ((wrap .u64 (((xi*f) / c)+(Prod.snd j)))+(Prod.snd b)))),.iu q,(.iu (wrap .u64 ((wrap .u64 (((q*g) / c)+(Prod.snd d)))+(Prod.snd m)))),(.v (.a [.ob (.p x)])),(.ii (i:Int))] [32,48] [(eF_ [.ob (.p y)]),(eF_ [(.ob (.p (0:Fp)))])] 3984 [] []) .normal (E7c) (E7b):=sgA false 94 [] A1m
def mS4 (x y:Fp) (i:Nat) (n0 n1 n2 t4 t5 xi q up dn :Int):St:=A5 308 [3,4,5,6,7,9,10,12,16,17,19,20,21] [.pt 32 0,.pt 48 0,.iu n0,.iu n1,.v (.c (.int .u64 n2)),.iu t4,.iu t5,.iu xi,.v (.c (.int .u64 up)),.iu q,.v (.c (.int .u64 dn)),(.v (.a [.ob (.p x)])),(.ii (i:Int))] [32,48] [(eF_ [.ob (.p y)]),(eF_ [(.ob (.p (0:Fp)))])] 3984 [] []
def F4e:List KI:=(run qeC false 94 (⟨E7c,.normal,mS4 dF dF dF dF dF dF dF dF dF dF dF dF⟩:Cfg) []).cfg.k
theorem mE (x y:Fp) (i:Nat) (n0 n1 n2 t4 t5 xi q up dn:Int):let c:Int:=18446744073709551616;let f:=A0 (Ob.n (.p y)) 4;let g:Int:=5412103778470702295;let h:Int:=0;let j:=A2 0 ((xi*f) % c) t4 h;let b:=A2 0 (Prod.fst j) up h;let l:=0<=(1:Int);let o:=Prod.fst b;let d:=A2 0 ((q*g) % c) o h;let m:=A2 0 (Prod.fst d) dn h;A3 [(0<=(4:Int)),((4:Int)<(6:Int)),(4<(Ob.k (.p y))),(0<=xi),(xi<c),(0<=f),(f<c),(0<=((xi*f) % c)),(0<=t4),(t4<c),(0<=h),l,(0<=(Prod.fst j)),(0<=up),(up<c),(0<=h),l,(0<=q),(q<c),(0<=g),(g<c),(0<=((q*g) % c)),(0<=o),(o<c),(0<=h),l,(0<=(Prod.fst d)),(0<=dn),(dn<c),(0<=h),l]->Sg Try.prog (mS4 x y i n0 n1 n2 t4 t5 xi q up dn) (A5 308 [3,4,5,6,7,8,10,12,16,17,19,20,21] [.pt 32 0,.pt 48 0,.iu n0,.iu n1,.iu n2,(.iu (Prod.fst m)),.iu t5,.iu xi,(.iu (wrap .u64 ((wrap .u64 (((xi*f) / c)+(Prod.snd j)))+(Prod.snd b)))),.iu q,(.iu (wrap .u64 ((wrap .u64 (((q*g) / c)+(Prod.snd d)))+(Prod.snd m)))),(.v (.a [.ob (.p x)])),(.ii (i:Int))] [32,48] [(eF_ [.ob (.p y)]),(eF_ [(.ob (.p (0:Fp)))])] 5008 [] []) .normal (F4e) (E7c):=sgA false 94 [] A1m
def mS5 (x y:Fp) (i:Nat) (n0 n1 n2 n3 t5 xi q up dn :Int):St:=A5 308 [3,4,5,6,7,8,10,12,16,17,19,20,21] [.pt 32 0,.pt 48 0,.iu n0,.iu n1,.iu n2,.v (.c (.int .u64 n3)),.iu t5,.iu xi,.v (.c (.int .u64 up)),.iu q,.v (.c (.int .u64 dn)),(.v (.a [.ob (.p x)])),(.ii (i:Int))] [32,48] [(eF_ [.ob (.p y)]),(eF_ [(.ob (.p (0:Fp)))])] 5008 [] []
theorem mF (x y:Fp) (i:Nat) (n0 n1 n2 n3 t5 xi q up dn:Int):let c:Int:=18446744073709551616;let f:=A0 (Ob.n (.p y)) 5;let g:Int:=1873798617647539866;let h:Int:=0;let j:=A2 0 ((xi*f) % c) t5 h;let b:=A2 0 (Prod.fst j) up h;let l:=0<=(1:Int);let o:=Prod.fst b;let d:=A2 0 ((q*g) % c) o h;let m:=A2 0 (Prod.fst d) dn h;A3 [(0<=(5:Int)),((5:Int)<(6:Int)),(5<(Ob.k (.p y))),(0<=xi),(xi<c),(0<=f),(f<c),(0<=((xi*f) % c)),(0<=t5),(t5<c),(0<=h),l,(0<=(Prod.fst j)),(0<=up),(up<c),(0<=h),l,(0<=q),(q<c),(0<=g),(g<c),(0<=((q*g) % c)),(0<=o),(o<c),(0<=h),l,(0<=(Prod.fst d)),(0<=dn),(dn<c),(0<=h),l]->Sg Try.prog (mS5 x y i n0 n1 n2 n3 t5 xi q up dn) (A5 308 [3,4,5,6,7,8,9,10,20,21] [.pt 32 0,.pt 48 0,.iu n0,.iu n1,.iu n2,.iu n3,(.iu (Prod.fst m)),(.iu (wrap .u64 ((wrap .u64 ((wrap .u64 (((q*g) / c)+(Prod.snd d)))+(Prod.snd m)))+(wrap .u64 ((wrap .u64 (((xi*f) / c)+(Prod.snd j)))+(Prod.snd b)))))),(.v (.a [.ob (.p x)])),(.ii (wrap .i64 ((i:Int)+1)))] [32,48] [(eF_ [.ob (.p y)]),(eF_ [(.ob (.p (0:Fp)))])] 6128 [] []) .normal (D5 B0p) (F4e):=sgA false 3000 [] A1m
end
end

section

/-- Ahead of the i-th round. -/
structure G7r (x y:Fp) (i:Nat) (t0 t1 t2 t3 t4 t5:Int):Prop where
 i6:i<=6
 h0:A8 t0
 h1:A8 t1
 h2:A8 t2
 h3:A8 t3
 h4:A8 t4
 h5:A8 t5
 lt:G3 t0 t1 t2 t3 t4 t5<2*pN
 eq:∃Q:Nat,G3 t0 t1 t2 t3 t4 t5*((2 ^ (64*i):Nat):Int)=(((Ob.p x).n % 2 ^ (64*i):Nat):Int)*((Ob.p y).n:Int)+(Q:Int)*(pN:Int)

theorem B4i (n:Int):A8 (wrap IntKind.u64 n):=by
 unfold A8;rw[B1w];omega

theorem D1 (n i:Nat):A8 (A0 n i):=by
 refine ⟨Int.natCast_nonneg _,?_⟩
 show ((n / 2 ^ (64*i) % 18446744073709551616:Nat):Int)<18446744073709551616;omega

theorem C9t {T:Int} (hT:0<=T) {b X Y Q r:Nat} (h:T*(b:Int)=(X:Int)*(Y:Int)+(Q:Int)*(r:Int)):T.toNat*b=X*Y+Q*r:=by
 rw[<-Int.toNat_of_nonneg hT] at h
 exact_mod_cast h

/-- A round, all columns together. -/
theorem G3f {t0 t1 t2 t3 t4 t5 xi y0 y1 y2 y3 y4 y5 q lo0 up0 dn0 lo1 up1 dn1 lo2 up2 dn2 lo3 up3 dn3 lo4 up4 dn4 lo5 up5 dn5 n0 n1 n2 n3 n4:Int}
  (eA:xi*y0+t0=lo0+18446744073709551616*up0) (eA' : q*13402431016077863595+lo0=18446744073709551616*dn0)
  (eB:xi*y1+t1+up0=lo1+18446744073709551616*up1) (eB' : q*2210141511517208575+lo1+dn0=n0+18446744073709551616*dn1)
  (eC:xi*y2+t2+up1=lo2+18446744073709551616*up2) (eC' : q*7435674573564081700+lo2+dn1=n1+18446744073709551616*dn2)
  (eD:xi*y3+t3+up2=lo3+18446744073709551616*up3) (eD' : q*7239337960414712511+lo3+dn2=n2+18446744073709551616*dn3)
  (eE:xi*y4+t4+up3=lo4+18446744073709551616*up4) (eE' : q*5412103778470702295+lo4+dn3=n3+18446744073709551616*dn4)
  (eF:xi*y5+t5+up4=lo5+18446744073709551616*up5) (eF' : q*1873798617647539866+lo5+dn4=n4+18446744073709551616*dn5) :
  18446744073709551616*G3 n0 n1 n2 n3 n4 (dn5+up5)=G3 t0 t1 t2 t3 t4 t5+xi*G3 y0 y1 y2 y3 y4 y5+q*(pN:Int):=by
 rw[D0h xi,A1l];have hq:q*4002409555221667393417789825735904156556882819939007885332058136124031650490837864442687629129015664037894272559787=q*13402431016077863595+18446744073709551616*(q*2210141511517208575)+340282366920938463463374607431768211456*(q*7435674573564081700)+6277101735386680763835789423207666416102355444464034512896*(q*7239337960414712511)+115792089237316195423570985008687907853269984665640564039457584007913129639936*(q*5412103778470702295)+2135987035920910082395021706169552114602704522356652769947041607822219725780640550022962086936576*(q*1873798617647539866):=by omega
 rw[hq];unfold G3;generalize xi*y0=z0 at *;generalize xi*y1=z1 at *;generalize xi*y2=z2 at *;generalize xi*y3=z3 at *;generalize xi*y4=z4 at *;generalize xi*y5=z5 at *;generalize q*13402431016077863595=p0 at *;generalize q*2210141511517208575=p1 at *;generalize q*7435674573564081700=p2 at *;generalize q*7239337960414712511=p3 at *;generalize q*5412103778470702295=p4 at *;generalize q*1873798617647539866=p5 at *;omega

/-- What is carried on stays small. -/
theorem F0v {T T' X q Y:Int} (hT:T<2*pN) (hx:X<=18446744073709551615) (hY:Y<pN) (hY0:0<=Y) (hq:q<18446744073709551616) (hall:18446744073709551616*T' = T+X*Y+q*(pN:Int)):T' < 2*pN:=by
 have h1:X*Y<=18446744073709551615*Y:=Int.mul_le_mul_of_nonneg_right hx hY0;have h2:q*(pN:Int)<=18446744073709551615*(pN:Int):=Int.mul_le_mul_of_nonneg_right (by omega) (by omega)
 generalize X*Y=z at *;generalize q*(pN:Int)=z' at *;rw[A1l] at *;omega

theorem H3d {n0 n1 n2 n3 n4 t:Int} (h0:A8 n0) (h1:A8 n1) (h2:A8 n2) (h3:A8 n3) (h4:A8 n4) (h:G3 n0 n1 n2 n3 n4 t<2*pN):t<18446744073709551616:=by
 rw[A1l] at h;obtain ⟨h0,_⟩:=h0;obtain ⟨h1,_⟩:=h1;obtain ⟨h2,_⟩:=h2;obtain ⟨h3,_⟩:=h3;obtain ⟨h4,_⟩:=h4;unfold G3 at h;omega

section
variable {w0:World} {F0:Nat->Prop} {K:Kp} {ac:List Act} {Q:Exit->Act->World->Prop} {cX:Ctx} {aX:Act}

theorem G3h (x y:Fp) (i:Nat) {t0 t1 t2 t3 t4 t5:Int} (hi:i<6) (h0:A8 t0) (hx:A8 (A0 (Ob.p x).n i)) (hy:A8 (A0 (Ob.p y).n 0)) (hs:Sim w0 F0 K ac (mS x y i t0 t1 t2 t3 t4 t5) cX aX)
  (k:∀lo up q dn:Int,A0 (Ob.p x).n i*A0 (Ob.p y).n 0+t0=lo+18446744073709551616*up->q*13402431016077863595+lo=18446744073709551616*dn->A8 lo->A8 up->A8 q->A8 dn ->
   ∀ac cY aY,Sim w0 F0 K ac (mS1 x y i t1 t2 t3 t4 t5 (A0 (Ob.p x).n i) q up dn) cY aY->Wq Try.prog Q E6z ac .normal aY cY.w):Wq Try.prog Q (B5 B0p) ac .normal aX cX.w:=by
 obtain ⟨a0,b0⟩:=h0;obtain ⟨x0,x1⟩:=hx;obtain ⟨y0,y1⟩:=hy;have e1:=E0t x0 x1 y0 y1 a0 b0;have sA:=@mA x y i t0 t1 t2 t3 t4 t5 w0 F0 K ac Q cX aX;rw[Int.toNat_natCast] at sA;generalize A0 (Ob.p x).n i=xi at *;obtain ⟨e1,l1,u1⟩:=e1;have hq:=B4i ((A2 0 ((xi*A0 (Ob.p y).n 0) % 18446744073709551616) t0 0).1*9940570264628428797);have e2:=E0t (b:=13402431016077863595) hq.1 hq.2 (by decide) (by decide) l1.1 l1.2
 have e3:=D0c (l:=(A2 0 ((xi*A0 (Ob.p y).n 0) % 18446744073709551616) t0 0).1) rfl;refine sA ?_ hs fun ac cY aY h=>?_
 ·refine ⟨by simp only[decide_eq_true_eq];omega,by omega,by omega,by decide,by decide,by show (0:Nat)<6;decide,x0,x1,y0,y1,by omega,a0,b0,by decide,by decide,hq.1,hq.2,by decide,by decide,by omega,l1.1,l1.2,by decide,by decide,trivial⟩
 ·refine k _ _ _ _ e1 ?_ l1 u1 hq e2.2.2 ac cY aY h
  have:=e2.1
  have:=e2.2.1
  omega

theorem G3i (x y:Fp) (i:Nat) {t1 t2 t3 t4 t5 xi q up dn:Int} (ht:A8 t1) (hx:A8 xi) (hq:A8 q) (hu:A8 up) (hd:A8 dn) (hy:A8 (A0 (Ob.p y).n 1)) (hs:Sim w0 F0 K ac (mS1 x y i t1 t2 t3 t4 t5 xi q up dn) cX aX)
  (k:∀lo up' n dn' : Int,xi*A0 (Ob.p y).n 1+t1+up=lo+18446744073709551616*up' -> q*2210141511517208575+lo+dn=n+18446744073709551616*dn' -> A8 lo->A8 up' -> A8 n->A8 dn' ->
   ∀ac cY aY,Sim w0 F0 K ac (mS2 x y i n t2 t3 t4 t5 xi q up' dn') cY aY->Wq Try.prog Q (E7a) ac .normal aY cY.w):Wq Try.prog Q (E6z) ac .normal aX cX.w:=by
 obtain ⟨e1,l1,u1,m1⟩:=mac hx.1 hx.2 hy.1 hy.2 ht.1 ht.2 hu.1 hu.2;obtain ⟨e2,l2,u2,m2⟩:=mac (b:=2210141511517208575) hq.1 hq.2 (by decide) (by decide) l1.1 l1.2 hd.1 hd.2
 refine mB x y i t1 t2 t3 t4 t5 xi q up dn ?_ hs fun ac cY aY h=>?_
 ·refine ⟨by decide,by decide,by show 1<6;decide,hx.1,hx.2,hy.1,hy.2,by omega,ht.1,ht.2,by decide,by decide,m1.1,hu.1,hu.2,by decide,by decide,hq.1,hq.2,by decide,by decide,by omega,l1.1,l1.2,by decide,by decide,m2.1,hd.1,hd.2,by decide,by decide,trivial⟩
 ·exact k _ _ _ _ e1 e2 l1 u1 l2 u2 ac cY aY h

theorem G3j (x y:Fp) (i:Nat) {n0 t2 t3 t4 t5 xi q up dn:Int} (ht:A8 t2) (hx:A8 xi) (hq:A8 q) (hu:A8 up) (hd:A8 dn) (hy:A8 (A0 (Ob.p y).n 2)) (hs:Sim w0 F0 K ac (mS2 x y i n0 t2 t3 t4 t5 xi q up dn) cX aX)
  (k:∀lo up' n dn' : Int,xi*A0 (Ob.p y).n 2+t2+up=lo+18446744073709551616*up' -> q*7435674573564081700+lo+dn=n+18446744073709551616*dn' -> A8 lo->A8 up' -> A8 n->A8 dn' ->
   ∀ac cY aY,Sim w0 F0 K ac (mS3 x y i n0 n t3 t4 t5 xi q up' dn') cY aY->Wq Try.prog Q (E7b) ac .normal aY cY.w):Wq Try.prog Q (E7a) ac .normal aX cX.w:=by
 obtain ⟨e1,l1,u1,m1⟩:=mac hx.1 hx.2 hy.1 hy.2 ht.1 ht.2 hu.1 hu.2;obtain ⟨e2,l2,u2,m2⟩:=mac (b:=7435674573564081700) hq.1 hq.2 (by decide) (by decide) l1.1 l1.2 hd.1 hd.2
 refine mC x y i n0 t2 t3 t4 t5 xi q up dn ?_ hs fun ac cY aY h=>?_
 ·refine ⟨by decide,by decide,by show 2<6;decide,hx.1,hx.2,hy.1,hy.2,by omega,ht.1,ht.2,by decide,by decide,m1.1,hu.1,hu.2,by decide,by decide,hq.1,hq.2,by decide,by decide,by omega,l1.1,l1.2,by decide,by decide,m2.1,hd.1,hd.2,by decide,by decide,trivial⟩
 ·exact k _ _ _ _ e1 e2 l1 u1 l2 u2 ac cY aY h

theorem G3k (x y:Fp) (i:Nat) {n0 n1 t3 t4 t5 xi q up dn:Int} (ht:A8 t3) (hx:A8 xi) (hq:A8 q) (hu:A8 up) (hd:A8 dn) (hy:A8 (A0 (Ob.p y).n 3)) (hs:Sim w0 F0 K ac (mS3 x y i n0 n1 t3 t4 t5 xi q up dn) cX aX)
  (k:∀lo up' n dn' : Int,xi*A0 (Ob.p y).n 3+t3+up=lo+18446744073709551616*up' -> q*7239337960414712511+lo+dn=n+18446744073709551616*dn' -> A8 lo->A8 up' -> A8 n->A8 dn' ->
   ∀ac cY aY,Sim w0 F0 K ac (mS4 x y i n0 n1 n t4 t5 xi q up' dn') cY aY->Wq Try.prog Q (E7c) ac .normal aY cY.w):Wq Try.prog Q (E7b) ac .normal aX cX.w:=by
 obtain ⟨e1,l1,u1,m1⟩:=mac hx.1 hx.2 hy.1 hy.2 ht.1 ht.2 hu.1 hu.2;obtain ⟨e2,l2,u2,m2⟩:=mac (b:=7239337960414712511) hq.1 hq.2 (by decide) (by decide) l1.1 l1.2 hd.1 hd.2
 refine mD x y i n0 n1 t3 t4 t5 xi q up dn ?_ hs fun ac cY aY h=>?_
 ·refine ⟨by decide,by decide,by show 3<6;decide,hx.1,hx.2,hy.1,hy.2,by omega,ht.1,ht.2,by decide,by decide,m1.1,hu.1,hu.2,by decide,by decide,hq.1,hq.2,by decide,by decide,by omega,l1.1,l1.2,by decide,by decide,m2.1,hd.1,hd.2,by decide,by decide,trivial⟩
 ·exact k _ _ _ _ e1 e2 l1 u1 l2 u2 ac cY aY h

theorem H2x (x y:Fp) (i:Nat) {n0 n1 n2 t4 t5 xi q up dn:Int} (ht:A8 t4) (hx:A8 xi) (hq:A8 q) (hu:A8 up) (hd:A8 dn) (hy:A8 (A0 (Ob.p y).n 4)) (hs:Sim w0 F0 K ac (mS4 x y i n0 n1 n2 t4 t5 xi q up dn) cX aX)
  (k:∀lo up' n dn' : Int,xi*A0 (Ob.p y).n 4+t4+up=lo+18446744073709551616*up' -> q*5412103778470702295+lo+dn=n+18446744073709551616*dn' -> A8 lo->A8 up' -> A8 n->A8 dn' ->
   ∀ac cY aY,Sim w0 F0 K ac (mS5 x y i n0 n1 n2 n t5 xi q up' dn') cY aY->Wq Try.prog Q (F4e) ac .normal aY cY.w):Wq Try.prog Q (E7c) ac .normal aX cX.w:=by
 obtain ⟨e1,l1,u1,m1⟩:=mac hx.1 hx.2 hy.1 hy.2 ht.1 ht.2 hu.1 hu.2;obtain ⟨e2,l2,u2,m2⟩:=mac (b:=5412103778470702295) hq.1 hq.2 (by decide) (by decide) l1.1 l1.2 hd.1 hd.2
 refine mE x y i n0 n1 n2 t4 t5 xi q up dn ?_ hs fun ac cY aY h=>?_
 ·refine ⟨by decide,by decide,by show 4<6;decide,hx.1,hx.2,hy.1,hy.2,by omega,ht.1,ht.2,by decide,by decide,m1.1,hu.1,hu.2,by decide,by decide,hq.1,hq.2,by decide,by decide,by omega,l1.1,l1.2,by decide,by decide,m2.1,hd.1,hd.2,by decide,by decide,trivial⟩
 ·exact k _ _ _ _ e1 e2 l1 u1 l2 u2 ac cY aY h

theorem H2y (x y:Fp) (i:Nat) (hi:i<6) {n0 n1 n2 n3 t5 xi q up dn:Int} (ht:A8 t5) (hx:A8 xi) (hq:A8 q) (hu:A8 up) (hd:A8 dn) (hy:A8 (A0 (Ob.p y).n 5)) (hs:Sim w0 F0 K ac (mS5 x y i n0 n1 n2 n3 t5 xi q up dn) cX aX)
  (k:∀lo up' n dn' : Int,xi*A0 (Ob.p y).n 5+t5+up=lo+18446744073709551616*up' -> q*1873798617647539866+lo+dn=n+18446744073709551616*dn' -> A8 lo->A8 up' -> A8 n->A8 dn' ->
   ∀ac cY aY,Sim w0 F0 K ac (mS x y (i+1) n0 n1 n2 n3 n (wrap IntKind.u64 (dn' + up'))) cY aY->Wq Try.prog Q (D5 B0p) ac .normal aY cY.w):Wq Try.prog Q (F4e) ac .normal aX cX.w:=by
 obtain ⟨e1,l1,u1,m1⟩:=mac hx.1 hx.2 hy.1 hy.2 ht.1 ht.2 hu.1 hu.2;obtain ⟨e2,l2,u2,m2⟩:=mac (b:=1873798617647539866) hq.1 hq.2 (by decide) (by decide) l1.1 l1.2 hd.1 hd.2
 refine mF x y i n0 n1 n2 n3 t5 xi q up dn ?_ hs fun ac cY aY h=>?_
 ·refine ⟨by decide,by decide,by show 5<6;decide,hx.1,hx.2,hy.1,hy.2,by omega,ht.1,ht.2,by decide,by decide,m1.1,hu.1,hu.2,by decide,by decide,hq.1,hq.2,by decide,by decide,by omega,l1.1,l1.2,by decide,by decide,m2.1,hd.1,hd.2,by decide,by decide,trivial⟩
 ·exact k _ _ _ _ e1 e2 l1 u1 l2 u2 ac cY aY ((by rw[B0 (by omega) (by omega)] at h;exact h.nx _))

end

theorem D5v (x y:Fp):FnD Try.prog 88 [.v (.a [.ob (.p x)]),.v (.a [.ob (.p y)])] (.v (.a [.ob (.p (x*y))])) []:=by
 refine F5 (fn:=Try.f88) (c:=B2 Try.f88) Try.func88 rfl rfl fun cx ca hk hF hs=>?_
 refine mIn x y trivial hs fun ac cY aY hs1=>?_
 refine C0 (ι:={ p:Nat×Int×Int×Int×Int×Int×Int // G7r x y p.1 p.2.1 p.2.2.1 p.2.2.2.1 p.2.2.2.2.1 p.2.2.2.2.2.1 p.2.2.2.2.2.2 }) (fun p=>mS x y p.1.1 p.1.2.1 p.1.2.2.1 p.1.2.2.2.1 p.1.2.2.2.2.1 p.1.2.2.2.2.2.1 p.1.2.2.2.2.2.2) (fun p=>6-p.1.1) (c:=lpC B0p) (k:=lpR B0p) (by kernel_rfl) (fun p ih ac cY aY hs=>?_)
  ⟨(0,0,0,0,0,0,0),⟨by decide,⟨by decide,by decide⟩,⟨by decide,by decide⟩,⟨by decide,by decide⟩,⟨by decide,by decide⟩,⟨by decide,by decide⟩,⟨by decide,by decide⟩,by decide,0,by simp [G3,Nat.mod_one]⟩⟩ hs1
 obtain ⟨⟨i,t0,t1,t2,t3,t4,t5⟩,hI⟩:=p;simp only at ih hs hI
 obtain ⟨hi,hl0,hl1,hl2,hl3,hl4,hl5,hlt,Q,hQ⟩:=hI;have ey:=(A1g (Ob.p y).n (Nat.lt_trans (B3m y) (by decide))).1
 have hyr:((Ob.p y).n:Int)<(pN:Int):=by exact_mod_cast B3m y
 by_cases h5:i<6
 ·have hlx:=D1 (Ob.p x).n i
  have hly0:=D1 (Ob.p y).n 0;have hly1:=D1 (Ob.p y).n 1;have hly2:=D1 (Ob.p y).n 2;have hly3:=D1 (Ob.p y).n 3;have hly4:=D1 (Ob.p y).n 4;have hly5:=D1 (Ob.p y).n 5;have hround:=fun T' q hq=>C3n (A:=(Ob.p x).n) (Y:=(Ob.p y).n) (r:=pN) (i:=i) (Q:=Q) (T:=G3 t0 t1 t2 t3 t4 t5) (T' := T') (q:=q) hq hQ
  refine G3h x y i h5 hl0 hlx hly0 hs fun lo0 up0 q dn0 eA eA' hlo0 hup0 hq hdn0 ac cY aY hs=>?_
  refine G3i x y i hl1 hlx hq hup0 hdn0 hly1 hs fun lo1 up1 n0 dn1 eB eB' hlo1 hup1 hn0 hdn1 ac cY aY hs=>?_
  refine G3j x y i hl2 hlx hq hup1 hdn1 hly2 hs fun lo2 up2 n1 dn2 eC eC' hlo2 hup2 hn1 hdn2 ac cY aY hs=>?_
  refine G3k x y i hl3 hlx hq hup2 hdn2 hly3 hs fun lo3 up3 n2 dn3 eD eD' hlo3 hup3 hn2 hdn3 ac cY aY hs=>?_
  refine H2x x y i hl4 hlx hq hup3 hdn3 hly4 hs fun lo4 up4 n3 dn4 eE eE' hlo4 hup4 hn3 hdn4 ac cY aY hs=>?_
  refine H2y x y i h5 hl5 hlx hq hup4 hdn4 hly5 hs fun lo5 up5 n4 dn5 eF eF' hlo5 hup5 hn4 hdn5 ac cY aY hs=>?_
  have hall:=G3f eA eA' eB eB' eC eC' eD eD' eE eE' eF eF';rw[<-ey] at hall;have hlt' := F0v hlt (by have:=hlx.2;omega) hyr (by omega) hq.2 hall
  have htp:=H3d hn0 hn1 hn2 hn3 hn4 hlt';have htop:wrap IntKind.u64 (dn5+up5)=dn5+up5:=A1x (by have:=hdn5.1;have:=hup5.1;omega) htp
  rw[htop] at hs;refine ih ⟨(i+1,n0,n1,n2,n3,n4,dn5+up5),⟨h5,hn0,hn1,hn2,hn3,hn4,?_,hlt',hround _ q hq.1 hall⟩⟩ (by show 6-(i+1)<6-i;omega) ac cY aY hs
  rw[<-htop];exact B4i _
 ·have hi6:i=6:=by omega
  subst hi6;have hT:0<=G3 t0 t1 t2 t3 t4 t5:=W5 hl0.1 hl1.1 hl2.1 hl3.1 hl4.1 hl5.1;refine M3 A1m hk hF (G0w x y 6 t0 t1 t2 t3 t4 t5) ?_ (fun z w hd=>?_) hs
  ·refine ⟨by decide,hl0.1,hl0.2,hl1.1,hl1.2,hl2.1,hl2.2,hl3.1,hl3.2,hl4.1,hl4.2,hl5.1,hl5.2,hlt,trivial⟩
  ·have:B5h (G3 t0 t1 t2 t3 t4 t5).toNat=x*y:=by
    refine E0x (Q:=Q) ?_
    have hX:(Ob.p x).n % 2 ^ (64*6)=(Ob.p x).n:=Nat.mod_eq_of_lt (Nat.lt_trans (B3m x) F5v);rw[hX] at hQ;have h6:(2 ^ (64*6):Nat)=B6:=D7x;rw[h6] at hQ;exact C9t hT hQ
   rw[<-this];exact hd

end

section

def u6s (a b c d e f:Int):SV:=.v (.c (.sl (.u64 [a,b,c,d,e,f])))
def fl6 (a b c d e f:Int):En:=.fl [.int .u64 a,.int .u64 b,.int .u64 c,.int .u64 d,.int .u64 e,.int .u64 f]

def qd6 (o0 o1 o2 o3 o4 o5 a b c d e f more m0 m1 m2 m3 m4 m5:Int):Cfg:=⟨[.code (B2 Try.f70)],.normal,C1j Try.f70.ntmps 0 6 1 (fl6 o0 o1 o2 o3 o4 o5) [u6s a b c d e f,.v (.c (.int .u64 more)),u6s m0 m1 m2 m3 m4 m5]⟩

theorem H1n (o0 o1 o2 o3 o4 o5 a b c d e f more m0 m1 m2 m3 m4 m5:Int):let h:Int:=(6:Nat);let k:Int:=18446744073709551616;let m:Int:=1;let o:Int:=8;let p:Int:=2;let q:Int:=3;let r:Int:=4;let s:Int:=5;let u:Int:=0;let w:=A2 1 a m0 u;let i:=Prod.snd w;let x:=A2 1 b m1 i;let l:=Prod.snd x;let v:=A2 1 c m2 l;let g:=Prod.snd v;let y:=A2 1 d m3 g;let n:=Prod.snd y;let j:=A2 1 e m4 n;let t:=Prod.snd j;let z:=A2 1 f m5 t;A7m qeC Try.f70 true 3000 (qd6 o0 o1 o2 o3 o4 o5 a b c d e f more m0 m1 m2 m3 m4 m5) [true,true,true,true,true,true,false,true]=(some ([((decide (0<h))=true),(0<=u),(0<h),(0<=u),(0<h),(0<=a),(0<=m0),(m0<k),(0<=u),(0<=m),(0<=u),(0<o),((decide (m<h))=true),(0<=m),(m<h),(0<=m),(m<h),(0<=b),(0<=m1),(m1<k),(0<=i),(i<=m),(0<=m),(m<o),((decide (p<h))=true),(0<=p),(p<h),(0<=p),(p<h),(0<=c),(0<=m2),(m2<k),(0<=l),(l<=m),(0<=p),(p<o),((decide (q<h))=true),(0<=q),(q<h),(0<=q),(q<h),(0<=d),(0<=m3),(m3<k),(0<=g),(g<=m),(0<=q),(q<o),((decide (r<h))=true),(0<=r),(r<h),(0<=r),(r<h),(0<=e),(0<=m4),(m4<k),(0<=n),(n<=m),(0<=r),(r<o),((decide (s<h))=true),(0<=s),(s<h),(0<=s),(s<h),(0<=f),(0<=m5),(m5<k),(0<=t),(t<=m),(0<=s),(s<o),((decide ((6:Int)<h))=false),((decide (more >= (Prod.snd z)))=true),(0<=h),(h<=o)],(.fl [(.int .u64 (Prod.fst w)),(.int .u64 (Prod.fst x)),(.int .u64 (Prod.fst v)),(.int .u64 (Prod.fst y)),(.int .u64 (Prod.fst j)),(.int .u64 (Prod.fst z))]))):=by intros;kernel_rfl
theorem H1o (o0 o1 o2 o3 o4 o5 a b c d e f more m0 m1 m2 m3 m4 m5:Int):let h:Int:=(6:Nat);let i:Int:=18446744073709551616;let j:=Prod.snd (A2 1 a m0 (0:Int));let l:Int:=1;let m:=Prod.snd (A2 1 b m1 j);let g:=Prod.snd (A2 1 c m2 m);let k:=Prod.snd (A2 1 d m3 g);let n:=Prod.snd (A2 1 e m4 k);let o:Int:=2;let p:Int:=3;let q:Int:=4;let r:Int:=5;let s:=0<=(0:Int);let t:Int:=8;A7m qeC Try.f70 true 3000 (qd6 o0 o1 o2 o3 o4 o5 a b c d e f more m0 m1 m2 m3 m4 m5) [true,true,true,true,true,true,false,false]=(some ([((decide (0<h))=true),s,(0<h),s,(0<h),(0<=a),(0<=m0),(m0<i),s,(0<=l),s,(0<t),((decide (l<h))=true),(0<=l),(l<h),(0<=l),(l<h),(0<=b),(0<=m1),(m1<i),(0<=j),(j<=l),(0<=l),(l<t),((decide (o<h))=true),(0<=o),(o<h),(0<=o),(o<h),(0<=c),(0<=m2),(m2<i),(0<=m),(m<=l),(0<=o),(o<t),((decide (p<h))=true),(0<=p),(p<h),(0<=p),(p<h),(0<=d),(0<=m3),(m3<i),(0<=g),(g<=l),(0<=p),(p<t),((decide (q<h))=true),(0<=q),(q<h),(0<=q),(q<h),(0<=e),(0<=m4),(m4<i),(0<=k),(k<=l),(0<=q),(q<t),((decide (r<h))=true),(0<=r),(r<h),(0<=r),(r<h),(0<=f),(0<=m5),(m5<i),(0<=n),(n<=l),(0<=r),(r<t),((decide ((6:Int)<h))=false),((decide (more >= (Prod.snd (A2 1 f m5 n))))=false)],(.fl [(.int .u64 a),(.int .u64 b),(.int .u64 c),(.int .u64 d),(.int .u64 e),(.int .u64 f)]))):=by intros;kernel_rfl
end

section

theorem G2z {N:Int} (h0:0<=N) (h1:(pN:Int)<=N) (h2:N<2*pN):((A3b N.toNat).val:Int)=N-pN:=by
 have e:(A3b N.toNat).val=N.toNat-pN:=by
  rw[B1j];have k1:pN<=N.toNat:=by omega
  have k2:N.toNat<2*pN:=by omega
  rw[Nat.mod_eq_sub_mod k1,Nat.mod_eq_of_lt (by omega)]
 rw[e];omega

theorem G3a {N:Int} (h0:0<=N) (h1:N<(pN:Int)):((A3b N.toNat).val:Int)=N:=by
 have e:(A3b N.toNat).val=N.toNat:=by
  rw[B1j];exact Nat.mod_eq_of_lt (by omega)
 rw[e];omega

theorem D5f (o0 o1 o2 o3 o4 o5 a b c d e f:Int) (ha:A8 a) (hb:A8 b) (hc:A8 c) (hd:A8 d) (he:A8 e) (hf:A8 f) (hn:G3 a b c d e f<2*pN) :
  MuC Try.prog 70 0 6 1 (fl6 o0 o1 o2 o3 o4 o5) [u6s a b c d e f,.v (.c (.int .u64 0)),u6s 13402431016077863595 2210141511517208575 7435674573564081700 7239337960414712511 5412103778470702295 1873798617647539866] (.fl [.ob (.fp (A3b (G3 a b c d e f).toNat))]):=by
 refine B0u (fn:=Try.f70) (c:=B2 Try.f70) Try.func70 rfl rfl fun x ac hk hm hs=>?_
 obtain ⟨ha,ha1⟩:=ha;obtain ⟨hb,hb1⟩:=hb;obtain ⟨hc,hc1⟩:=hc;obtain ⟨hd,hd1⟩:=hd;obtain ⟨he,he1⟩:=he;obtain ⟨hf,hf1⟩:=hf;have r0:=H1n o0 o1 o2 o3 o4 o5 a b c d e f 0 13402431016077863595 2210141511517208575 7435674573564081700 7239337960414712511 5412103778470702295 1873798617647539866;dsimp only at r0;have r1:=H1o o0 o1 o2 o3 o4 o5 a b c d e f 0 13402431016077863595 2210141511517208575 7435674573564081700 7239337960414712511 5412103778470702295 1873798617647539866;dsimp only at r1;obtain ⟨e1,p1,p1',c1,c1'⟩:=E5 (y:=13402431016077863595) (c:=0) ha ha1 (by decide) (by decide) (by decide) (by decide)
 obtain ⟨e2,p2,p2',c2,c2'⟩:=E5 (y:=2210141511517208575) hb hb1 (by decide) (by decide) c1 c1'
 obtain ⟨e3,p3,p3',c3,c3'⟩:=E5 (y:=7435674573564081700) hc hc1 (by decide) (by decide) c2 c2'
 obtain ⟨e4,p4,p4',c4,c4'⟩:=E5 (y:=7239337960414712511) hd hd1 (by decide) (by decide) c3 c3'
 obtain ⟨e5,p5,p5',c5,c5'⟩:=E5 (y:=5412103778470702295) he he1 (by decide) (by decide) c4 c4'
 obtain ⟨e6,p6,p6',c6,c6'⟩:=E5 (y:=1873798617647539866) hf hf1 (by decide) (by decide) c5 c5'
 generalize hx1:A2 1 a 13402431016077863595 0=x1 at *;generalize hx2:A2 1 b 2210141511517208575 x1.2=x2 at *;generalize hx3:A2 1 c 7435674573564081700 x2.2=x3 at *;generalize hx4:A2 1 d 7239337960414712511 x3.2=x4 at *;generalize hx5:A2 1 e 5412103778470702295 x4.2=x5 at *;generalize hx6:A2 1 f 1873798617647539866 x5.2=x6 at *;clear hx1 hx2 hx3 hx4 hx5 hx6;have hnn:=W5 ha hb hc hd he hf;have hD:=F8f e1 e2 e3 e4 e5 e6;have hO:=lt6 p1 p1' p2 p2' p3 p3' p4 p4' p5 p5' p6 p6';have hO0:=W5 p1 p2 p3 p4 p5 p6;have hp:=A1l;by_cases hz:x6.2=0
 ·refine A8l A1m hk hm r0 rfl ?_ (fun y cs hv=>D6l rfl ?_ hv) (.inl ⟨_,_,rfl,rfl⟩) hs
  ·clear hD hO hO0 hn hnn e1 e2 e3 e4 e5 e6
   simp only[A3,and_true,decide_eq_true_eq,decide_eq_false_iff_not];and_intros<;>first | assumption | decide | omega
  ·refine X5 p1 p1' p2 p2' p3 p3' p4 p4' p5 p5' p6 p6' ?_
   rw[hz,Int.mul_zero,Int.add_zero] at hD;rw[hD];exact G2z hnn (by omega) hn
 ·refine A8l A1m hk hm r1 rfl ?_ (fun y cs hv=>D6l rfl ?_ hv) (.inl ⟨_,_,rfl,rfl⟩) hs
  ·clear hD hO hO0 hn hnn e1 e2 e3 e4 e5 e6
   simp only[A3,and_true,decide_eq_true_eq,decide_eq_false_iff_not];and_intros<;>first | assumption | decide | omega
  ·refine X5 ha ha1 hb hb1 hc hc1 hd hd1 he he1 hf hf1 ?_
   have:x6.2=1:=by omega
   rw[this] at hD;exact G3a hnn (by omega)

end

section
section
variable {w0:World} {F0:Nat->Prop} {K:Kp} {ac:List Act} {Q:Exit->Act->World->Prop} {cX:Ctx} {aX:Act}

def A5x:MuS:=fun off len es e rest=>
 match off,len,es,e,rest with
 | 0,6,1,.fl [.int .u64 _,.int .u64 _,.int .u64 _,.int .u64 _,.int .u64 _,.int .u64 _],[.v (.c (.sl (.u64 [a,b,c,d,e,f]))),.v (.c (.int .u64 more)),.v (.c (.sl (.u64 [m0,m1,m2,m3,m4,m5])))]=>
  some ([A8 a,A8 b,A8 c,A8 d,A8 e,A8 f,G3 a b c d e f<2*pN,more=0,m0=13402431016077863595,m1=2210141511517208575,m2=7435674573564081700,m3=7239337960414712511,m4=5412103778470702295,m5=1873798617647539866],.fl [.ob (.fp (A3b (G3 a b c d e f).toNat))])
 | _,_,_,_,_=>none

def qeD:Env:={ qeC with mu:=fun g=>if g=70 then some (mu1 A5x) else qeC.mu g }
theorem Q8:A6 Try.prog qeD:=
 B7m A1m 70 A5x (A4 Try.func70 rfl rfl) fun off len es e rest o e' h ho _ _=>by
  unfold A5x at h;split at h
  ·cases h
   obtain ⟨h1,h2,h3,h4,h5,h6,h7,h8,k0,k1,k2,k3,k4,k5,_⟩:=ho;subst h8 k0 k1 k2 k3 k4 k5;exact D5f _ _ _ _ _ _ _ _ _ _ _ _ h1 h2 h3 h4 h5 h6 h7
  ·cases h

def mP:SV:=u6s 13402431016077863595 2210141511517208575 7435674573564081700 7239337960414712511 5412103778470702295 1873798617647539866
def pd6 (o0 o1 o2 o3 o4 o5 a b c d e f y0 y1 y2 y3 y4 y5:Int):Cfg:=⟨[.code (B2 Try.f44)],.normal,C1j Try.f44.ntmps 0 6 1 (fl6 o0 o1 o2 o3 o4 o5) [u6s a b c d e f,u6s y0 y1 y2 y3 y4 y5,mP,.v (.c (.int .u64 9940570264628428797))]⟩

def B1y:List KI:=(run qeD false 3000 (pd6 dF dF dF dF dF dF dF dF dF dF dF dF dF dF dF dF dF dF:Cfg) []).cfg.k
theorem zIn (o0 o1 o2 o3 o4 o5 a b c d e f y0 y1 y2 y3 y4 y5:Int) {w0:World} {F0:Nat->Prop} {K:Kp} {ac:List Act} {Q:Exit->Act->World->Prop} {cX:Ctx} {aX:Act} (ho:A3 []) (hs:Sim w0 F0 K ac (((pd6 o0 o1 o2 o3 o4 o5 a b c d e f y0 y1 y2 y3 y4 y5:Cfg)).σ) cX aX) (hK:∀ac cY aY,Sim w0 F0 K ac (A5 176 [0,1,2,3,4,10,11,29,30] [(.ci (.slc 0 0 6 1)),(.ci (.sl (.u64 [a,b,c,d,e,f]))),(.ci (.sl (.u64 [y0,y1,y2,y3,y4,y5]))),(.ci (.sl (.u64 [(13402431016077863595:Int),(2210141511517208575:Int),(7435674573564081700:Int),(7239337960414712511:Int),(5412103778470702295:Int),(1873798617647539866:Int)]))),.iu (9940570264628428797:Int),.ii (6:Int),.pt 64 0,.ii (6:Int),.ii (0:Int)] [0,64] [(eF_ [(.int .u64 o0),(.int .u64 o1),(.int .u64 o2),(.int .u64 o3),(.int .u64 o4),(.int .u64 o5)]),(eF_ [(.int .u64 (0:Int)),(.int .u64 (0:Int)),(.int .u64 (0:Int)),(.int .u64 (0:Int)),(.int .u64 (0:Int)),(.int .u64 (0:Int)),(.int .u64 (0:Int)),(.int .u64 (0:Int)),(.int .u64 (0:Int)),(.int .u64 (0:Int))])] 112 [] []) cY aY->Wq Try.prog Q (B1y) ac Exit.normal aY cY.w):Wq Try.prog Q (((pd6 o0 o1 o2 o3 o4 o5 a b c d e f y0 y1 y2 y3 y4 y5:Cfg)).k) ac ((pd6 o0 o1 o2 o3 o4 o5 a b c d e f y0 y1 y2 y3 y4 y5:Cfg)).x aX cX.w:=
 U5 (unroll:=false) (n:=3000) (path:=[]) (o:=⟨_,_,_,_,_,_,_⟩) Q8 (by kernel_rfl) (by kernel_rfl) ho hs hK
def zS (o0 o1 o2 o3 o4 o5 a b c d e f y0 y1 y2 y3 y4 y5 :Int) (i:Nat) (r0 r1 r2 r3 r4 r5 r6 r7 :Int):St:=A5 176 [0,1,2,3,4,10,11,29,30] [(.ci (.slc 0 0 6 1)),(.ci (.sl (.u64 [a,b,c,d,e,f]))),(.ci (.sl (.u64 [y0,y1,y2,y3,y4,y5]))),(.ci (.sl (.u64 [(13402431016077863595:Int),(2210141511517208575:Int),(7435674573564081700:Int),(7239337960414712511:Int),(5412103778470702295:Int),(1873798617647539866:Int)]))),.iu (9940570264628428797:Int),.ii (6:Int),.pt 64 0,.ii (6:Int),.v (.c (.int .i64 (i:Int)))] [0,64] [(eF_ [(.int .u64 o0),(.int .u64 o1),(.int .u64 o2),(.int .u64 o3),(.int .u64 o4),(.int .u64 o5)]),some (.fl [.int .u64 r0,.int .u64 r1,.int .u64 r2,.int .u64 r3,.int .u64 r4,.int .u64 r5,.int .u64 r6,.int .u64 r7,.int .u64 0,.int .u64 0])] 112 [] []
def D2a:List KI:=(run qeD true 104 (⟨B5 B1y,.normal,zS dF dF dF dF dF dF dF dF dF dF dF dF dF dF dF dF dF dF dF dF dF dF dF dF dF dF dF⟩:Cfg) [true,true]).cfg.k
theorem zA0 (o0 o1 o2 o3 o4 o5 a b c d e f y0 y1 y2 y3 y4 y5:Int) (i:Nat) (r0 r1 r2 r3 r4 r5 r6 r7:Int) {w0:World} {F0:Nat->Prop} {K:Kp} {ac:List Act} {Q:Exit->Act->World->Prop} {cX:Ctx} {aX:Act} (ho:A3 [((decide ((i:Int)<(6:Int)))=true),(0<=(i:Int)),((i:Int)<((6:Nat):Int)),((decide (0<(6:Int)))=true),(0<=(0:Int)),(0<((6:Nat):Int)),(0<=(List.getD [a,b,c,d,e,f] ((i:Int)).toNat 0)),((List.getD [a,b,c,d,e,f] ((i:Int)).toNat 0)<(18446744073709551616:Int)),(0<=y0),(y0<(18446744073709551616:Int)),(0<=(0:Int)),(0<(10:Int)),(0<=(((List.getD [a,b,c,d,e,f] ((i:Int)).toNat 0)*y0) % (18446744073709551616:Int))),(0<=r0),(r0<(18446744073709551616:Int)),(0<=(0:Int)),(0<=(1:Int)),(0<=(Prod.fst (A2 0 (((List.getD [a,b,c,d,e,f] ((i:Int)).toNat 0)*y0) % (18446744073709551616:Int)) r0 (0:Int)))),(0<=(0:Int)),(0<(18446744073709551616:Int)),(0<=(0:Int)),(0<=(1:Int)),(0<=(0:Int)),(0<(10:Int))]) (hs:Sim w0 F0 K ac (zS o0 o1 o2 o3 o4 o5 a b c d e f y0 y1 y2 y3 y4 y5 i r0 r1 r2 r3 r4 r5 r6 r7) cX aX) (hK:∀ac cY aY,Sim w0 F0 K ac (A5 176 [0,1,2,3,4,10,11,13,14,29,30,37,38] [(.ci (.slc 0 0 6 1)),(.ci (.sl (.u64 [a,b,c,d,e,f]))),(.ci (.sl (.u64 [y0,y1,y2,y3,y4,y5]))),(.ci (.sl (.u64 [(13402431016077863595:Int),(2210141511517208575:Int),(7435674573564081700:Int),(7239337960414712511:Int),(5412103778470702295:Int),(1873798617647539866:Int)]))),.iu (9940570264628428797:Int),.ii (6:Int),.pt 64 0,(.iu (List.getD [a,b,c,d,e,f] ((i:Int)).toNat 0)),(.iu (wrap .u64 ((wrap .u64 ((((List.getD [a,b,c,d,e,f] ((i:Int)).toNat 0)*y0) / (18446744073709551616:Int))+(Prod.snd (A2 0 (((List.getD [a,b,c,d,e,f] ((i:Int)).toNat 0)*y0) % (18446744073709551616:Int)) r0 (0:Int)))))+(Prod.snd (A2 0 (Prod.fst (A2 0 (((List.getD [a,b,c,d,e,f] ((i:Int)).toNat 0)*y0) % (18446744073709551616:Int)) r0 (0:Int))) (0:Int) (0:Int)))))),.ii (6:Int),(.ii (i:Int)),.ii (6:Int),.ii (0:Int)] [0,64] [(eF_ [(.int .u64 o0),(.int .u64 o1),(.int .u64 o2),(.int .u64 o3),(.int .u64 o4),(.int .u64 o5)]),(eF_ [(.int .u64 (Prod.fst (A2 0 (Prod.fst (A2 0 (((List.getD [a,b,c,d,e,f] ((i:Int)).toNat 0)*y0) % (18446744073709551616:Int)) r0 (0:Int))) (0:Int) (0:Int)))),(.int .u64 r1),(.int .u64 r2),(.int .u64 r3),(.int .u64 r4),(.int .u64 r5),(.int .u64 r6),(.int .u64 r7),(.int .u64 (0:Int)),(.int .u64 (0:Int))])] 992 [] []) cY aY->Wq Try.prog Q (D2a) ac Exit.normal aY cY.w):Wq Try.prog Q (B5 B1y) ac .normal aX cX.w:=
 M8 (unroll:=true) (n:=104) (path:=[true,true]) (o:=⟨_,_,_,_,_,_,_⟩) Q8 (by kernel_rfl) (by kernel_rfl) ho hs hK
theorem zX (o0 o1 o2 o3 o4 o5 a b c d e f y0 y1 y2 y3 y4 y5:Int) (i:Nat) (r0 r1 r2 r3 r4 r5 r6 r7:Int):let g:Int:=13402431016077863595;let h:Int:=6;let j:Int:=2210141511517208575;let k:Int:=7435674573564081700;let l:Int:=7239337960414712511;let m:Int:=5412103778470702295;let n:Int:=1873798617647539866;let o:=G3 r0 r1 r2 r3 r4 r5;A7m qeD Try.f44 true 3000 ⟨B5 B1y,.normal,zS o0 o1 o2 o3 o4 o5 a b c d e f y0 y1 y2 y3 y4 y5 i r0 r1 r2 r3 r4 r5 r6 r7⟩ [false]=(some ([((decide ((i:Int)<h))=false),(0<=h),(h<=(10:Int)),(0<=h),(h<(10:Int)),(A8 r0),(A8 r1),(A8 r2),(A8 r3),(A8 r4),(A8 r5),(o<(8004819110443334786835579651471808313113765639878015770664116272248063300981675728885375258258031328075788545119574:Int)),(r6=(0:Int)),(g=g),(j=j),(k=k),(l=l),(m=m),(n=n)],(.fl [(.ob (.fp (A3b (o).toNat)))]))):=by intros;kernel_rfl
def zS1 (o0 o1 o2 o3 o4 o5 a b c d e f y0 y1 y2 y3 y4 y5 :Int) (i:Nat) (x cy r0 r1 r2 r3 r4 r5 r6 r7 :Int):St:=A5 176 [0,1,2,3,4,10,11,13,14,29,30,37,38] [(.ci (.slc 0 0 6 1)),(.ci (.sl (.u64 [a,b,c,d,e,f]))),(.ci (.sl (.u64 [y0,y1,y2,y3,y4,y5]))),(.ci (.sl (.u64 [(13402431016077863595:Int),(2210141511517208575:Int),(7435674573564081700:Int),(7239337960414712511:Int),(5412103778470702295:Int),(1873798617647539866:Int)]))),.iu (9940570264628428797:Int),.ii (6:Int),.pt 64 0,.v (.c (.int .u64 x)),.v (.c (.int .u64 cy)),.ii (6:Int),(.ii (i:Int)),.ii (6:Int),.ii (0:Int)] [0,64] [(eF_ [(.int .u64 o0),(.int .u64 o1),(.int .u64 o2),(.int .u64 o3),(.int .u64 o4),(.int .u64 o5)]),some (.fl [.int .u64 r0,.int .u64 r1,.int .u64 r2,.int .u64 r3,.int .u64 r4,.int .u64 r5,.int .u64 r6,.int .u64 r7,.int .u64 0,.int .u64 0])] 992 [] []
def D2b:List KI:=(run qeD true 75 (⟨D2a,.normal,zS1 dF dF dF dF dF dF dF dF dF dF dF dF dF dF dF dF dF dF dF dF dF dF dF dF dF dF dF dF dF⟩:Cfg) [true]).cfg.k
section
variable (o0 o1 o2 o3 o4 o5 a b c d e f y0 y1 y2 y3 y4 y5:Int) (i:Nat) (x cy r0 r1 r2 r3 r4 r5 r6 r7:Int)
theorem zA1:let g:Int:=18446744073709551616;let j:Int:=1;let k:Int:=0;let h:=A2 0 ((x*y1) % g) r1 k;let l:=A2 0 (Prod.fst h) cy k;let m:Int:=6;A3 [((decide (j<m))=true),(0<=j),(j<((6:Nat):Int)),(0<=x),(x<g),(0<=y1),(y1<g),(0<=j),(j<(10:Int)),(0<=((x*y1) % g)),(0<=r1),(r1<g),(0<=k),(0<=j),(0<=(Prod.fst h)),(0<=cy),(cy<g),(0<=k),(0<=j),(0<=j),(j<(10:Int))]->Sg Try.prog (zS1 o0 o1 o2 o3 o4 o5 a b c d e f y0 y1 y2 y3 y4 y5 i x cy r0 r1 r2 r3 r4 r5 r6 r7) (A5 176 [0,1,2,3,4,10,11,13,14,29,30,37,38] [(.ci (.slc 0 0 6 1)),(.ci (.sl (.u64 [a,b,c,d,e,f]))),(.ci (.sl (.u64 [y0,y1,y2,y3,y4,y5]))),(.ci (.sl (.u64 [(13402431016077863595:Int),(2210141511517208575:Int),(7435674573564081700:Int),(7239337960414712511:Int),(5412103778470702295:Int),(1873798617647539866:Int)]))),.iu (9940570264628428797:Int),.ii m,.pt 64 0,.iu x,(.iu (wrap .u64 ((wrap .u64 (((x*y1) / g)+(Prod.snd h)))+(Prod.snd l)))),.ii m,(.ii (i:Int)),.ii m,.ii j] [0,64] [(eF_ [(.int .u64 o0),(.int .u64 o1),(.int .u64 o2),(.int .u64 o3),(.int .u64 o4),(.int .u64 o5)]),(eF_ [(.int .u64 r0),(.int .u64 (Prod.fst l)),(.int .u64 r2),(.int .u64 r3),(.int .u64 r4),(.int .u64 r5),(.int .u64 r6),(.int .u64 r7),(.int .u64 k),(.int .u64 k)])] 1728 [] []) .normal (D2b) (D2a):=sgA true 75 [true] Q8
def zS2 (o0 o1 o2 o3 o4 o5 a b c d e f y0 y1 y2 y3 y4 y5 :Int) (i:Nat) (x cy r0 r1 r2 r3 r4 r5 r6 r7 :Int):St:=A5 176 [0,1,2,3,4,10,11,13,14,29,30,37,38] [(.ci (.slc 0 0 6 1)),(.ci (.sl (.u64 [a,b,c,d,e,f]))),(.ci (.sl (.u64 [y0,y1,y2,y3,y4,y5]))),(.ci (.sl (.u64 [(13402431016077863595:Int),(2210141511517208575:Int),(7435674573564081700:Int),(7239337960414712511:Int),(5412103778470702295:Int),(1873798617647539866:Int)]))),.iu (9940570264628428797:Int),.ii (6:Int),.pt 64 0,.v (.c (.int .u64 x)),.v (.c (.int .u64 cy)),.ii (6:Int),(.ii (i:Int)),.ii (6:Int),.ii (1:Int)] [0,64] [(eF_ [(.int .u64 o0),(.int .u64 o1),(.int .u64 o2),(.int .u64 o3),(.int .u64 o4),(.int .u64 o5)]),some (.fl [.int .u64 r0,.int .u64 r1,.int .u64 r2,.int .u64 r3,.int .u64 r4,.int .u64 r5,.int .u64 r6,.int .u64 r7,.int .u64 0,.int .u64 0])] 1728 [] []
def D2c:List KI:=(run qeD true 75 (⟨D2b,.normal,zS2 dF dF dF dF dF dF dF dF dF dF dF dF dF dF dF dF dF dF dF dF dF dF dF dF dF dF dF dF dF⟩:Cfg) [true]).cfg.k
theorem zA2:let g:Int:=18446744073709551616;let j:Int:=2;let k:Int:=0;let h:=A2 0 ((x*y2) % g) r2 k;let l:=A2 0 (Prod.fst h) cy k;let m:Int:=6;A3 [((decide (j<m))=true),(0<=j),(j<((6:Nat):Int)),(0<=x),(x<g),(0<=y2),(y2<g),(0<=j),(j<(10:Int)),(0<=((x*y2) % g)),(0<=r2),(r2<g),(0<=k),(0<=(1:Int)),(0<=(Prod.fst h)),(0<=cy),(cy<g),(0<=k),(0<=(1:Int)),(0<=j),(j<(10:Int))]->Sg Try.prog (zS2 o0 o1 o2 o3 o4 o5 a b c d e f y0 y1 y2 y3 y4 y5 i x cy r0 r1 r2 r3 r4 r5 r6 r7) (A5 176 [0,1,2,3,4,10,11,13,14,29,30,37,38] [(.ci (.slc 0 0 6 1)),(.ci (.sl (.u64 [a,b,c,d,e,f]))),(.ci (.sl (.u64 [y0,y1,y2,y3,y4,y5]))),(.ci (.sl (.u64 [(13402431016077863595:Int),(2210141511517208575:Int),(7435674573564081700:Int),(7239337960414712511:Int),(5412103778470702295:Int),(1873798617647539866:Int)]))),.iu (9940570264628428797:Int),.ii m,.pt 64 0,.iu x,(.iu (wrap .u64 ((wrap .u64 (((x*y2) / g)+(Prod.snd h)))+(Prod.snd l)))),.ii m,(.ii (i:Int)),.ii m,.ii j] [0,64] [(eF_ [(.int .u64 o0),(.int .u64 o1),(.int .u64 o2),(.int .u64 o3),(.int .u64 o4),(.int .u64 o5)]),(eF_ [(.int .u64 r0),(.int .u64 r1),(.int .u64 (Prod.fst l)),(.int .u64 r3),(.int .u64 r4),(.int .u64 r5),(.int .u64 r6),(.int .u64 r7),(.int .u64 k),(.int .u64 k)])] 2464 [] []) .normal (D2c) (D2b):=sgA true 75 [true] Q8
def zS3 (o0 o1 o2 o3 o4 o5 a b c d e f y0 y1 y2 y3 y4 y5 :Int) (i:Nat) (x cy r0 r1 r2 r3 r4 r5 r6 r7 :Int):St:=A5 176 [0,1,2,3,4,10,11,13,14,29,30,37,38] [(.ci (.slc 0 0 6 1)),(.ci (.sl (.u64 [a,b,c,d,e,f]))),(.ci (.sl (.u64 [y0,y1,y2,y3,y4,y5]))),(.ci (.sl (.u64 [(13402431016077863595:Int),(2210141511517208575:Int),(7435674573564081700:Int),(7239337960414712511:Int),(5412103778470702295:Int),(1873798617647539866:Int)]))),.iu (9940570264628428797:Int),.ii (6:Int),.pt 64 0,.v (.c (.int .u64 x)),.v (.c (.int .u64 cy)),.ii (6:Int),(.ii (i:Int)),.ii (6:Int),.ii (2:Int)] [0,64] [(eF_ [(.int .u64 o0),(.int .u64 o1),(.int .u64 o2),(.int .u64 o3),(.int .u64 o4),(.int .u64 o5)]),some (.fl [.int .u64 r0,.int .u64 r1,.int .u64 r2,.int .u64 r3,.int .u64 r4,.int .u64 r5,.int .u64 r6,.int .u64 r7,.int .u64 0,.int .u64 0])] 2464 [] []
def D2d:List KI:=(run qeD true 75 (⟨D2c,.normal,zS3 dF dF dF dF dF dF dF dF dF dF dF dF dF dF dF dF dF dF dF dF dF dF dF dF dF dF dF dF dF⟩:Cfg) [true]).cfg.k
theorem zA3:let g:Int:=18446744073709551616;let j:Int:=3;let k:Int:=0;let h:=A2 0 ((x*y3) % g) r3 k;let l:=A2 0 (Prod.fst h) cy k;let m:Int:=6;A3 [((decide (j<m))=true),(0<=j),(j<((6:Nat):Int)),(0<=x),(x<g),(0<=y3),(y3<g),(0<=j),(j<(10:Int)),(0<=((x*y3) % g)),(0<=r3),(r3<g),(0<=k),(0<=(1:Int)),(0<=(Prod.fst h)),(0<=cy),(cy<g),(0<=k),(0<=(1:Int)),(0<=j),(j<(10:Int))]->Sg Try.prog (zS3 o0 o1 o2 o3 o4 o5 a b c d e f y0 y1 y2 y3 y4 y5 i x cy r0 r1 r2 r3 r4 r5 r6 r7) (A5 176 [0,1,2,3,4,10,11,13,14,29,30,37,38] [(.ci (.slc 0 0 6 1)),(.ci (.sl (.u64 [a,b,c,d,e,f]))),(.ci (.sl (.u64 [y0,y1,y2,y3,y4,y5]))),(.ci (.sl (.u64 [(13402431016077863595:Int),(2210141511517208575:Int),(7435674573564081700:Int),(7239337960414712511:Int),(5412103778470702295:Int),(1873798617647539866:Int)]))),.iu (9940570264628428797:Int),.ii m,.pt 64 0,.iu x,(.iu (wrap .u64 ((wrap .u64 (((x*y3) / g)+(Prod.snd h)))+(Prod.snd l)))),.ii m,(.ii (i:Int)),.ii m,.ii j] [0,64] [(eF_ [(.int .u64 o0),(.int .u64 o1),(.int .u64 o2),(.int .u64 o3),(.int .u64 o4),(.int .u64 o5)]),(eF_ [(.int .u64 r0),(.int .u64 r1),(.int .u64 r2),(.int .u64 (Prod.fst l)),(.int .u64 r4),(.int .u64 r5),(.int .u64 r6),(.int .u64 r7),(.int .u64 k),(.int .u64 k)])] 3200 [] []) .normal (D2d) (D2c):=sgA true 75 [true] Q8
def zS4 (o0 o1 o2 o3 o4 o5 a b c d e f y0 y1 y2 y3 y4 y5 :Int) (i:Nat) (x cy r0 r1 r2 r3 r4 r5 r6 r7 :Int):St:=A5 176 [0,1,2,3,4,10,11,13,14,29,30,37,38] [(.ci (.slc 0 0 6 1)),(.ci (.sl (.u64 [a,b,c,d,e,f]))),(.ci (.sl (.u64 [y0,y1,y2,y3,y4,y5]))),(.ci (.sl (.u64 [(13402431016077863595:Int),(2210141511517208575:Int),(7435674573564081700:Int),(7239337960414712511:Int),(5412103778470702295:Int),(1873798617647539866:Int)]))),.iu (9940570264628428797:Int),.ii (6:Int),.pt 64 0,.v (.c (.int .u64 x)),.v (.c (.int .u64 cy)),.ii (6:Int),(.ii (i:Int)),.ii (6:Int),.ii (3:Int)] [0,64] [(eF_ [(.int .u64 o0),(.int .u64 o1),(.int .u64 o2),(.int .u64 o3),(.int .u64 o4),(.int .u64 o5)]),some (.fl [.int .u64 r0,.int .u64 r1,.int .u64 r2,.int .u64 r3,.int .u64 r4,.int .u64 r5,.int .u64 r6,.int .u64 r7,.int .u64 0,.int .u64 0])] 3200 [] []
def D2e:List KI:=(run qeD true 75 (⟨D2d,.normal,zS4 dF dF dF dF dF dF dF dF dF dF dF dF dF dF dF dF dF dF dF dF dF dF dF dF dF dF dF dF dF⟩:Cfg) [true]).cfg.k
theorem zA4:let g:Int:=18446744073709551616;let j:Int:=4;let k:Int:=0;let h:=A2 0 ((x*y4) % g) r4 k;let l:=A2 0 (Prod.fst h) cy k;let m:Int:=6;A3 [((decide (j<m))=true),(0<=j),(j<((6:Nat):Int)),(0<=x),(x<g),(0<=y4),(y4<g),(0<=j),(j<(10:Int)),(0<=((x*y4) % g)),(0<=r4),(r4<g),(0<=k),(0<=(1:Int)),(0<=(Prod.fst h)),(0<=cy),(cy<g),(0<=k),(0<=(1:Int)),(0<=j),(j<(10:Int))]->Sg Try.prog (zS4 o0 o1 o2 o3 o4 o5 a b c d e f y0 y1 y2 y3 y4 y5 i x cy r0 r1 r2 r3 r4 r5 r6 r7) (A5 176 [0,1,2,3,4,10,11,13,14,29,30,37,38] [(.ci (.slc 0 0 6 1)),(.ci (.sl (.u64 [a,b,c,d,e,f]))),(.ci (.sl (.u64 [y0,y1,y2,y3,y4,y5]))),(.ci (.sl (.u64 [(13402431016077863595:Int),(2210141511517208575:Int),(7435674573564081700:Int),(7239337960414712511:Int),(5412103778470702295:Int),(1873798617647539866:Int)]))),.iu (9940570264628428797:Int),.ii m,.pt 64 0,.iu x,(.iu (wrap .u64 ((wrap .u64 (((x*y4) / g)+(Prod.snd h)))+(Prod.snd l)))),.ii m,(.ii (i:Int)),.ii m,.ii j] [0,64] [(eF_ [(.int .u64 o0),(.int .u64 o1),(.int .u64 o2),(.int .u64 o3),(.int .u64 o4),(.int .u64 o5)]),(eF_ [(.int .u64 r0),(.int .u64 r1),(.int .u64 r2),(.int .u64 r3),(.int .u64 (Prod.fst l)),(.int .u64 r5),(.int .u64 r6),(.int .u64 r7),(.int .u64 k),(.int .u64 k)])] 3936 [] []) .normal (D2e) (D2d):=sgA true 75 [true] Q8
def zS5 (o0 o1 o2 o3 o4 o5 a b c d e f y0 y1 y2 y3 y4 y5 :Int) (i:Nat) (x cy r0 r1 r2 r3 r4 r5 r6 r7 :Int):St:=A5 176 [0,1,2,3,4,10,11,13,14,29,30,37,38] [(.ci (.slc 0 0 6 1)),(.ci (.sl (.u64 [a,b,c,d,e,f]))),(.ci (.sl (.u64 [y0,y1,y2,y3,y4,y5]))),(.ci (.sl (.u64 [(13402431016077863595:Int),(2210141511517208575:Int),(7435674573564081700:Int),(7239337960414712511:Int),(5412103778470702295:Int),(1873798617647539866:Int)]))),.iu (9940570264628428797:Int),.ii (6:Int),.pt 64 0,.v (.c (.int .u64 x)),.v (.c (.int .u64 cy)),.ii (6:Int),(.ii (i:Int)),.ii (6:Int),.ii (4:Int)] [0,64] [(eF_ [(.int .u64 o0),(.int .u64 o1),(.int .u64 o2),(.int .u64 o3),(.int .u64 o4),(.int .u64 o5)]),some (.fl [.int .u64 r0,.int .u64 r1,.int .u64 r2,.int .u64 r3,.int .u64 r4,.int .u64 r5,.int .u64 r6,.int .u64 r7,.int .u64 0,.int .u64 0])] 3936 [] []
def D2f:List KI:=(run qeD true 75 (⟨D2e,.normal,zS5 dF dF dF dF dF dF dF dF dF dF dF dF dF dF dF dF dF dF dF dF dF dF dF dF dF dF dF dF dF⟩:Cfg) [true]).cfg.k
theorem zA5:let g:Int:=18446744073709551616;let j:Int:=5;let k:Int:=0;let h:=A2 0 ((x*y5) % g) r5 k;let l:=A2 0 (Prod.fst h) cy k;let m:Int:=6;A3 [((decide (j<m))=true),(0<=j),(j<((6:Nat):Int)),(0<=x),(x<g),(0<=y5),(y5<g),(0<=j),(j<(10:Int)),(0<=((x*y5) % g)),(0<=r5),(r5<g),(0<=k),(0<=(1:Int)),(0<=(Prod.fst h)),(0<=cy),(cy<g),(0<=k),(0<=(1:Int)),(0<=j),(j<(10:Int))]->Sg Try.prog (zS5 o0 o1 o2 o3 o4 o5 a b c d e f y0 y1 y2 y3 y4 y5 i x cy r0 r1 r2 r3 r4 r5 r6 r7) (A5 176 [0,1,2,3,4,10,11,13,14,29,30,37,38] [(.ci (.slc 0 0 6 1)),(.ci (.sl (.u64 [a,b,c,d,e,f]))),(.ci (.sl (.u64 [y0,y1,y2,y3,y4,y5]))),(.ci (.sl (.u64 [(13402431016077863595:Int),(2210141511517208575:Int),(7435674573564081700:Int),(7239337960414712511:Int),(5412103778470702295:Int),(1873798617647539866:Int)]))),.iu (9940570264628428797:Int),.ii m,.pt 64 0,.iu x,(.iu (wrap .u64 ((wrap .u64 (((x*y5) / g)+(Prod.snd h)))+(Prod.snd l)))),.ii m,(.ii (i:Int)),.ii m,.ii j] [0,64] [(eF_ [(.int .u64 o0),(.int .u64 o1),(.int .u64 o2),(.int .u64 o3),(.int .u64 o4),(.int .u64 o5)]),(eF_ [(.int .u64 r0),(.int .u64 r1),(.int .u64 r2),(.int .u64 r3),(.int .u64 r4),(.int .u64 (Prod.fst l)),(.int .u64 r6),(.int .u64 r7),(.int .u64 k),(.int .u64 k)])] 4672 [] []) .normal (D2f) (D2e):=sgA true 75 [true] Q8
def zS6 (o0 o1 o2 o3 o4 o5 a b c d e f y0 y1 y2 y3 y4 y5 :Int) (i:Nat) (x cy r0 r1 r2 r3 r4 r5 r6 r7 :Int):St:=A5 176 [0,1,2,3,4,10,11,13,14,29,30,37,38] [(.ci (.slc 0 0 6 1)),(.ci (.sl (.u64 [a,b,c,d,e,f]))),(.ci (.sl (.u64 [y0,y1,y2,y3,y4,y5]))),(.ci (.sl (.u64 [(13402431016077863595:Int),(2210141511517208575:Int),(7435674573564081700:Int),(7239337960414712511:Int),(5412103778470702295:Int),(1873798617647539866:Int)]))),.iu (9940570264628428797:Int),.ii (6:Int),.pt 64 0,.v (.c (.int .u64 x)),.v (.c (.int .u64 cy)),.ii (6:Int),(.ii (i:Int)),.ii (6:Int),.ii (5:Int)] [0,64] [(eF_ [(.int .u64 o0),(.int .u64 o1),(.int .u64 o2),(.int .u64 o3),(.int .u64 o4),(.int .u64 o5)]),some (.fl [.int .u64 r0,.int .u64 r1,.int .u64 r2,.int .u64 r3,.int .u64 r4,.int .u64 r5,.int .u64 r6,.int .u64 r7,.int .u64 0,.int .u64 0])] 4672 [] []
def F1s:List KI:=(run qeD true 88 (⟨D2f,.normal,zS6 dF dF dF dF dF dF dF dF dF dF dF dF dF dF dF dF dF dF dF dF dF dF dF dF dF dF dF dF dF⟩:Cfg) [false]).cfg.k
theorem zE:let h:Int:=18446744073709551616;let j:Int:=13402431016077863595;let k:Int:=0;let l:Int:=6;let m:Int:=10;let n:Int:=9940570264628428797;let g:=wrap .u64 (r0*n);let o:=A2 0 r6 cy k;A3 [((decide (l<l))=false),(0<=l),(l<m),(0<=r6),(0<=cy),(cy<h),(0<=k),(0<=(1:Int)),(0<=l),(l<m),(0<=(7:Int)),((7:Int)<m),(0<=k),(0<m),(0<=k),(0<l),(0<=g),(g<h),(0<=j),(j<h),(0<=k),(0<m),(0<=((g*j) % h)),(0<=r0),(r0<h),(0<=k),(0<=(1:Int))]->Sg Try.prog (zS6 o0 o1 o2 o3 o4 o5 a b c d e f y0 y1 y2 y3 y4 y5 i x cy r0 r1 r2 r3 r4 r5 r6 r7) (A5 176 [0,1,2,3,4,10,11,14,20,23,29,30] [(.ci (.slc 0 0 6 1)),(.ci (.sl (.u64 [a,b,c,d,e,f]))),(.ci (.sl (.u64 [y0,y1,y2,y3,y4,y5]))),(.ci (.sl (.u64 [j,(2210141511517208575:Int),(7435674573564081700:Int),(7239337960414712511:Int),(5412103778470702295:Int),(1873798617647539866:Int)]))),.iu n,.ii l,.pt 64 0,(.iu (wrap .u64 (((g*j) / h)+(Prod.snd (A2 0 ((g*j) % h) r0 k))))),(.iu g),.ii (1:Int),.ii l,(.ii (i:Int))] [0,64] [(eF_ [(.int .u64 o0),(.int .u64 o1),(.int .u64 o2),(.int .u64 o3),(.int .u64 o4),(.int .u64 o5)]),(eF_ [(.int .u64 r0),(.int .u64 r1),(.int .u64 r2),(.int .u64 r3),(.int .u64 r4),(.int .u64 r5),(.int .u64 (Prod.fst o)),(.int .u64 (Prod.snd o)),(.int .u64 k),(.int .u64 k)])] 5456 [] []) .normal (F1s) (D2f):=sgA true 88 [false] Q8
def zT1 (o0 o1 o2 o3 o4 o5 a b c d e f y0 y1 y2 y3 y4 y5 :Int) (i:Nat) (q cy r0 r1 r2 r3 r4 r5 r6 r7 :Int):St:=A5 176 [0,1,2,3,4,10,11,14,20,23,29,30] [(.ci (.slc 0 0 6 1)),(.ci (.sl (.u64 [a,b,c,d,e,f]))),(.ci (.sl (.u64 [y0,y1,y2,y3,y4,y5]))),(.ci (.sl (.u64 [(13402431016077863595:Int),(2210141511517208575:Int),(7435674573564081700:Int),(7239337960414712511:Int),(5412103778470702295:Int),(1873798617647539866:Int)]))),.iu (9940570264628428797:Int),.ii (6:Int),.pt 64 0,.v (.c (.int .u64 cy)),.v (.c (.int .u64 q)),.ii (1:Int),.ii (6:Int),(.ii (i:Int))] [0,64] [(eF_ [(.int .u64 o0),(.int .u64 o1),(.int .u64 o2),(.int .u64 o3),(.int .u64 o4),(.int .u64 o5)]),some (.fl [.int .u64 r0,.int .u64 r1,.int .u64 r2,.int .u64 r3,.int .u64 r4,.int .u64 r5,.int .u64 r6,.int .u64 r7,.int .u64 0,.int .u64 0])] 5456 [] []
def D2g:List KI:=(run qeD true 68 (⟨F1s,.normal,zT1 dF dF dF dF dF dF dF dF dF dF dF dF dF dF dF dF dF dF dF dF dF dF dF dF dF dF dF dF dF⟩:Cfg) [true]).cfg.k
end
section
variable (o0 o1 o2 o3 o4 o5 a b c d e f y0 y1 y2 y3 y4 y5:Int) (i:Nat) (q cy r0 r1 r2 r3 r4 r5 r6 r7:Int)
theorem zB1:let h:Int:=18446744073709551616;let j:Int:=2210141511517208575;let g:=(q*j) % h;let k:Int:=0;let m:Int:=1;let n:Int:=6;let o:=A2 0 g r1 k;let l:=Prod.fst o;let p:=A2 0 l cy k;A3 [((decide (m<n))=true),(0<=m),(m<n),(0<=q),(q<h),(0<=j),(j<h),(0<=m),(m<(10:Int)),(0<=g),(0<=r1),(r1<h),(0<=k),(0<=m),(0<=l),(0<=cy),(cy<h),(0<=k),(0<=m),(0<=k),(0<(10:Int))]->Sg Try.prog (zT1 o0 o1 o2 o3 o4 o5 a b c d e f y0 y1 y2 y3 y4 y5 i q cy r0 r1 r2 r3 r4 r5 r6 r7) (A5 176 [0,1,2,3,4,10,11,14,20,23,29,30] [(.ci (.slc 0 0 6 1)),(.ci (.sl (.u64 [a,b,c,d,e,f]))),(.ci (.sl (.u64 [y0,y1,y2,y3,y4,y5]))),(.ci (.sl (.u64 [(13402431016077863595:Int),j,(7435674573564081700:Int),(7239337960414712511:Int),(5412103778470702295:Int),(1873798617647539866:Int)]))),.iu (9940570264628428797:Int),.ii n,.pt 64 0,(.iu (wrap .u64 ((wrap .u64 (((q*j) / h)+(Prod.snd o)))+(Prod.snd p)))),.iu q,.ii m,.ii n,(.ii (i:Int))] [0,64] [(eF_ [(.int .u64 o0),(.int .u64 o1),(.int .u64 o2),(.int .u64 o3),(.int .u64 o4),(.int .u64 o5)]),(eF_ [(.int .u64 (Prod.fst p)),(.int .u64 r1),(.int .u64 r2),(.int .u64 r3),(.int .u64 r4),(.int .u64 r5),(.int .u64 r6),(.int .u64 r7),(.int .u64 k),(.int .u64 k)])] 6176 [] []) .normal (D2g) (F1s):=sgA true 68 [true] Q8
def zT2 (o0 o1 o2 o3 o4 o5 a b c d e f y0 y1 y2 y3 y4 y5 :Int) (i:Nat) (q cy r0 r1 r2 r3 r4 r5 r6 r7 :Int):St:=A5 176 [0,1,2,3,4,10,11,14,20,23,29,30] [(.ci (.slc 0 0 6 1)),(.ci (.sl (.u64 [a,b,c,d,e,f]))),(.ci (.sl (.u64 [y0,y1,y2,y3,y4,y5]))),(.ci (.sl (.u64 [(13402431016077863595:Int),(2210141511517208575:Int),(7435674573564081700:Int),(7239337960414712511:Int),(5412103778470702295:Int),(1873798617647539866:Int)]))),.iu (9940570264628428797:Int),.ii (6:Int),.pt 64 0,.v (.c (.int .u64 cy)),.v (.c (.int .u64 q)),.ii (1:Int),.ii (6:Int),(.ii (i:Int))] [0,64] [(eF_ [(.int .u64 o0),(.int .u64 o1),(.int .u64 o2),(.int .u64 o3),(.int .u64 o4),(.int .u64 o5)]),some (.fl [.int .u64 r0,.int .u64 r1,.int .u64 r2,.int .u64 r3,.int .u64 r4,.int .u64 r5,.int .u64 r6,.int .u64 r7,.int .u64 0,.int .u64 0])] 6176 [] []
def D2h:List KI:=(run qeD true 74 (⟨D2g,.normal,zT2 dF dF dF dF dF dF dF dF dF dF dF dF dF dF dF dF dF dF dF dF dF dF dF dF dF dF dF dF dF⟩:Cfg) [true]).cfg.k
theorem zB2:let h:Int:=18446744073709551616;let j:Int:=7435674573564081700;let g:=(q*j) % h;let l:Int:=0;let m:Int:=2;let n:=0<=(1:Int);let o:Int:=6;let p:=A2 0 g r2 l;let k:=Prod.fst p;let r:=A2 0 k cy l;A3 [((decide (m<o))=true),(0<=m),(m<o),(0<=q),(q<h),(0<=j),(j<h),(0<=m),(m<(10:Int)),(0<=g),(0<=r2),(r2<h),(0<=l),n,(0<=k),(0<=cy),(cy<h),(0<=l),n,n,((1:Int)<(10:Int))]->Sg Try.prog (zT2 o0 o1 o2 o3 o4 o5 a b c d e f y0 y1 y2 y3 y4 y5 i q cy r0 r1 r2 r3 r4 r5 r6 r7) (A5 176 [0,1,2,3,4,10,11,14,20,23,29,30] [(.ci (.slc 0 0 6 1)),(.ci (.sl (.u64 [a,b,c,d,e,f]))),(.ci (.sl (.u64 [y0,y1,y2,y3,y4,y5]))),(.ci (.sl (.u64 [(13402431016077863595:Int),(2210141511517208575:Int),j,(7239337960414712511:Int),(5412103778470702295:Int),(1873798617647539866:Int)]))),.iu (9940570264628428797:Int),.ii o,.pt 64 0,(.iu (wrap .u64 ((wrap .u64 (((q*j) / h)+(Prod.snd p)))+(Prod.snd r)))),.iu q,.ii m,.ii o,(.ii (i:Int))] [0,64] [(eF_ [(.int .u64 o0),(.int .u64 o1),(.int .u64 o2),(.int .u64 o3),(.int .u64 o4),(.int .u64 o5)]),(eF_ [(.int .u64 r0),(.int .u64 (Prod.fst r)),(.int .u64 r2),(.int .u64 r3),(.int .u64 r4),(.int .u64 r5),(.int .u64 r6),(.int .u64 r7),(.int .u64 l),(.int .u64 l)])] 6944 [] []) .normal (D2h) (D2g):=sgA true 74 [true] Q8
def zT3 (o0 o1 o2 o3 o4 o5 a b c d e f y0 y1 y2 y3 y4 y5 :Int) (i:Nat) (q cy r0 r1 r2 r3 r4 r5 r6 r7 :Int):St:=A5 176 [0,1,2,3,4,10,11,14,20,23,29,30] [(.ci (.slc 0 0 6 1)),(.ci (.sl (.u64 [a,b,c,d,e,f]))),(.ci (.sl (.u64 [y0,y1,y2,y3,y4,y5]))),(.ci (.sl (.u64 [(13402431016077863595:Int),(2210141511517208575:Int),(7435674573564081700:Int),(7239337960414712511:Int),(5412103778470702295:Int),(1873798617647539866:Int)]))),.iu (9940570264628428797:Int),.ii (6:Int),.pt 64 0,.v (.c (.int .u64 cy)),.v (.c (.int .u64 q)),.ii (2:Int),.ii (6:Int),(.ii (i:Int))] [0,64] [(eF_ [(.int .u64 o0),(.int .u64 o1),(.int .u64 o2),(.int .u64 o3),(.int .u64 o4),(.int .u64 o5)]),some (.fl [.int .u64 r0,.int .u64 r1,.int .u64 r2,.int .u64 r3,.int .u64 r4,.int .u64 r5,.int .u64 r6,.int .u64 r7,.int .u64 0,.int .u64 0])] 6944 [] []
def D2i:List KI:=(run qeD true 74 (⟨D2h,.normal,zT3 dF dF dF dF dF dF dF dF dF dF dF dF dF dF dF dF dF dF dF dF dF dF dF dF dF dF dF dF dF⟩:Cfg) [true]).cfg.k
theorem zB3:let h:Int:=18446744073709551616;let j:Int:=7239337960414712511;let g:=(q*j) % h;let l:Int:=0;let m:Int:=3;let n:Int:=6;let o:=A2 0 g r3 l;let k:=Prod.fst o;let p:=A2 0 k cy l;A3 [((decide (m<n))=true),(0<=m),(m<n),(0<=q),(q<h),(0<=j),(j<h),(0<=m),(m<(10:Int)),(0<=g),(0<=r3),(r3<h),(0<=l),(0<=(1:Int)),(0<=k),(0<=cy),(cy<h),(0<=l),(0<=(1:Int)),(0<=(2:Int)),((2:Int)<(10:Int))]->Sg Try.prog (zT3 o0 o1 o2 o3 o4 o5 a b c d e f y0 y1 y2 y3 y4 y5 i q cy r0 r1 r2 r3 r4 r5 r6 r7) (A5 176 [0,1,2,3,4,10,11,14,20,23,29,30] [(.ci (.slc 0 0 6 1)),(.ci (.sl (.u64 [a,b,c,d,e,f]))),(.ci (.sl (.u64 [y0,y1,y2,y3,y4,y5]))),(.ci (.sl (.u64 [(13402431016077863595:Int),(2210141511517208575:Int),(7435674573564081700:Int),j,(5412103778470702295:Int),(1873798617647539866:Int)]))),.iu (9940570264628428797:Int),.ii n,.pt 64 0,(.iu (wrap .u64 ((wrap .u64 (((q*j) / h)+(Prod.snd o)))+(Prod.snd p)))),.iu q,.ii m,.ii n,(.ii (i:Int))] [0,64] [(eF_ [(.int .u64 o0),(.int .u64 o1),(.int .u64 o2),(.int .u64 o3),(.int .u64 o4),(.int .u64 o5)]),(eF_ [(.int .u64 r0),(.int .u64 r1),(.int .u64 (Prod.fst p)),(.int .u64 r3),(.int .u64 r4),(.int .u64 r5),(.int .u64 r6),(.int .u64 r7),(.int .u64 l),(.int .u64 l)])] 7712 [] []) .normal (D2i) (D2h):=sgA true 74 [true] Q8
def zT4 (o0 o1 o2 o3 o4 o5 a b c d e f y0 y1 y2 y3 y4 y5 :Int) (i:Nat) (q cy r0 r1 r2 r3 r4 r5 r6 r7 :Int):St:=A5 176 [0,1,2,3,4,10,11,14,20,23,29,30] [(.ci (.slc 0 0 6 1)),(.ci (.sl (.u64 [a,b,c,d,e,f]))),(.ci (.sl (.u64 [y0,y1,y2,y3,y4,y5]))),(.ci (.sl (.u64 [(13402431016077863595:Int),(2210141511517208575:Int),(7435674573564081700:Int),(7239337960414712511:Int),(5412103778470702295:Int),(1873798617647539866:Int)]))),.iu (9940570264628428797:Int),.ii (6:Int),.pt 64 0,.v (.c (.int .u64 cy)),.v (.c (.int .u64 q)),.ii (3:Int),.ii (6:Int),(.ii (i:Int))] [0,64] [(eF_ [(.int .u64 o0),(.int .u64 o1),(.int .u64 o2),(.int .u64 o3),(.int .u64 o4),(.int .u64 o5)]),some (.fl [.int .u64 r0,.int .u64 r1,.int .u64 r2,.int .u64 r3,.int .u64 r4,.int .u64 r5,.int .u64 r6,.int .u64 r7,.int .u64 0,.int .u64 0])] 7712 [] []
def D2j:List KI:=(run qeD true 74 (⟨D2i,.normal,zT4 dF dF dF dF dF dF dF dF dF dF dF dF dF dF dF dF dF dF dF dF dF dF dF dF dF dF dF dF dF⟩:Cfg) [true]).cfg.k
theorem zB4:let h:Int:=18446744073709551616;let j:Int:=5412103778470702295;let g:=(q*j) % h;let l:Int:=0;let m:Int:=4;let n:Int:=6;let o:=A2 0 g r4 l;let k:=Prod.fst o;let p:=A2 0 k cy l;A3 [((decide (m<n))=true),(0<=m),(m<n),(0<=q),(q<h),(0<=j),(j<h),(0<=m),(m<(10:Int)),(0<=g),(0<=r4),(r4<h),(0<=l),(0<=(1:Int)),(0<=k),(0<=cy),(cy<h),(0<=l),(0<=(1:Int)),(0<=(3:Int)),((3:Int)<(10:Int))]->Sg Try.prog (zT4 o0 o1 o2 o3 o4 o5 a b c d e f y0 y1 y2 y3 y4 y5 i q cy r0 r1 r2 r3 r4 r5 r6 r7) (A5 176 [0,1,2,3,4,10,11,14,20,23,29,30] [(.ci (.slc 0 0 6 1)),(.ci (.sl (.u64 [a,b,c,d,e,f]))),(.ci (.sl (.u64 [y0,y1,y2,y3,y4,y5]))),(.ci (.sl (.u64 [(13402431016077863595:Int),(2210141511517208575:Int),(7435674573564081700:Int),(7239337960414712511:Int),j,(1873798617647539866:Int)]))),.iu (9940570264628428797:Int),.ii n,.pt 64 0,(.iu (wrap .u64 ((wrap .u64 (((q*j) / h)+(Prod.snd o)))+(Prod.snd p)))),.iu q,.ii m,.ii n,(.ii (i:Int))] [0,64] [(eF_ [(.int .u64 o0),(.int .u64 o1),(.int .u64 o2),(.int .u64 o3),(.int .u64 o4),(.int .u64 o5)]),(eF_ [(.int .u64 r0),(.int .u64 r1),(.int .u64 r2),(.int .u64 (Prod.fst p)),(.int .u64 r4),(.int .u64 r5),(.int .u64 r6),(.int .u64 r7),(.int .u64 l),(.int .u64 l)])] 8480 [] []) .normal (D2j) (D2i):=sgA true 74 [true] Q8
def zT5 (o0 o1 o2 o3 o4 o5 a b c d e f y0 y1 y2 y3 y4 y5 :Int) (i:Nat) (q cy r0 r1 r2 r3 r4 r5 r6 r7 :Int):St:=A5 176 [0,1,2,3,4,10,11,14,20,23,29,30] [(.ci (.slc 0 0 6 1)),(.ci (.sl (.u64 [a,b,c,d,e,f]))),(.ci (.sl (.u64 [y0,y1,y2,y3,y4,y5]))),(.ci (.sl (.u64 [(13402431016077863595:Int),(2210141511517208575:Int),(7435674573564081700:Int),(7239337960414712511:Int),(5412103778470702295:Int),(1873798617647539866:Int)]))),.iu (9940570264628428797:Int),.ii (6:Int),.pt 64 0,.v (.c (.int .u64 cy)),.v (.c (.int .u64 q)),.ii (4:Int),.ii (6:Int),(.ii (i:Int))] [0,64] [(eF_ [(.int .u64 o0),(.int .u64 o1),(.int .u64 o2),(.int .u64 o3),(.int .u64 o4),(.int .u64 o5)]),some (.fl [.int .u64 r0,.int .u64 r1,.int .u64 r2,.int .u64 r3,.int .u64 r4,.int .u64 r5,.int .u64 r6,.int .u64 r7,.int .u64 0,.int .u64 0])] 8480 [] []
def D8k:List KI:=(run qeD true 74 (⟨D2j,.normal,zT5 dF dF dF dF dF dF dF dF dF dF dF dF dF dF dF dF dF dF dF dF dF dF dF dF dF dF dF dF dF⟩:Cfg) [true]).cfg.k
theorem zB5:let h:Int:=18446744073709551616;let j:Int:=1873798617647539866;let g:=(q*j) % h;let l:Int:=0;let m:Int:=5;let n:Int:=6;let o:=A2 0 g r5 l;let k:=Prod.fst o;let p:=A2 0 k cy l;A3 [((decide (m<n))=true),(0<=m),(m<n),(0<=q),(q<h),(0<=j),(j<h),(0<=m),(m<(10:Int)),(0<=g),(0<=r5),(r5<h),(0<=l),(0<=(1:Int)),(0<=k),(0<=cy),(cy<h),(0<=l),(0<=(1:Int)),(0<=(4:Int)),((4:Int)<(10:Int))]->Sg Try.prog (zT5 o0 o1 o2 o3 o4 o5 a b c d e f y0 y1 y2 y3 y4 y5 i q cy r0 r1 r2 r3 r4 r5 r6 r7) (A5 176 [0,1,2,3,4,10,11,14,20,23,29,30] [(.ci (.slc 0 0 6 1)),(.ci (.sl (.u64 [a,b,c,d,e,f]))),(.ci (.sl (.u64 [y0,y1,y2,y3,y4,y5]))),(.ci (.sl (.u64 [(13402431016077863595:Int),(2210141511517208575:Int),(7435674573564081700:Int),(7239337960414712511:Int),(5412103778470702295:Int),j]))),.iu (9940570264628428797:Int),.ii n,.pt 64 0,(.iu (wrap .u64 ((wrap .u64 (((q*j) / h)+(Prod.snd o)))+(Prod.snd p)))),.iu q,.ii m,.ii n,(.ii (i:Int))] [0,64] [(eF_ [(.int .u64 o0),(.int .u64 o1),(.int .u64 o2),(.int .u64 o3),(.int .u64 o4),(.int .u64 o5)]),(eF_ [(.int .u64 r0),(.int .u64 r1),(.int .u64 r2),(.int .u64 r3),(.int .u64 (Prod.fst p)),(.int .u64 r5),(.int .u64 r6),(.int .u64 r7),(.int .u64 l),(.int .u64 l)])] 9248 [] []) .normal (D8k) (D2j):=sgA true 74 [true] Q8
def zT6 (o0 o1 o2 o3 o4 o5 a b c d e f y0 y1 y2 y3 y4 y5 :Int) (i:Nat) (q cy r0 r1 r2 r3 r4 r5 r6 r7 :Int):St:=A5 176 [0,1,2,3,4,10,11,14,20,23,29,30] [(.ci (.slc 0 0 6 1)),(.ci (.sl (.u64 [a,b,c,d,e,f]))),(.ci (.sl (.u64 [y0,y1,y2,y3,y4,y5]))),(.ci (.sl (.u64 [(13402431016077863595:Int),(2210141511517208575:Int),(7435674573564081700:Int),(7239337960414712511:Int),(5412103778470702295:Int),(1873798617647539866:Int)]))),.iu (9940570264628428797:Int),.ii (6:Int),.pt 64 0,.v (.c (.int .u64 cy)),.v (.c (.int .u64 q)),.ii (5:Int),.ii (6:Int),(.ii (i:Int))] [0,64] [(eF_ [(.int .u64 o0),(.int .u64 o1),(.int .u64 o2),(.int .u64 o3),(.int .u64 o4),(.int .u64 o5)]),some (.fl [.int .u64 r0,.int .u64 r1,.int .u64 r2,.int .u64 r3,.int .u64 r4,.int .u64 r5,.int .u64 r6,.int .u64 r7,.int .u64 0,.int .u64 0])] 9248 [] []
theorem zI:let g:Int:=6;let h:Int:=0;let j:Int:=10;let k:=A2 0 r6 cy h;A3 [((decide (g<g))=false),(0<=g),(g<j),(0<=r6),(0<=cy),(cy<(18446744073709551616:Int)),(0<=h),(0<=(1:Int)),(0<=(5:Int)),((5:Int)<j),(0<=(7:Int)),((7:Int)<j),(0<=g),(g<j)]->Sg Try.prog (zT6 o0 o1 o2 o3 o4 o5 a b c d e f y0 y1 y2 y3 y4 y5 i q cy r0 r1 r2 r3 r4 r5 r6 r7) (A5 176 [0,1,2,3,4,10,11,29,30] [(.ci (.slc 0 0 6 1)),(.ci (.sl (.u64 [a,b,c,d,e,f]))),(.ci (.sl (.u64 [y0,y1,y2,y3,y4,y5]))),(.ci (.sl (.u64 [(13402431016077863595:Int),(2210141511517208575:Int),(7435674573564081700:Int),(7239337960414712511:Int),(5412103778470702295:Int),(1873798617647539866:Int)]))),.iu (9940570264628428797:Int),.ii g,.pt 64 0,.ii g,(.ii (wrap .i64 ((i:Int)+1)))] [0,64] [(eF_ [(.int .u64 o0),(.int .u64 o1),(.int .u64 o2),(.int .u64 o3),(.int .u64 o4),(.int .u64 o5)]),(eF_ [(.int .u64 r0),(.int .u64 r1),(.int .u64 r2),(.int .u64 r3),(.int .u64 r4),(.int .u64 (Prod.fst k)),(.int .u64 (wrap .u64 (r7+(Prod.snd k)))),(.int .u64 r7),(.int .u64 h),(.int .u64 h)])] 9728 [] []) .normal (D5 B1y) (D8k):=sgA true 50 [false] Q8
end
end
end

section

section
variable {w0:World} {F0:Nat->Prop} {K:Kp} {ac:List Act} {Q:Exit->Act->World->Prop} {cX:Ctx} {aX:Act}

theorem H2m (o0 o1 o2 o3 o4 o5 a b c d e f y0 y1 y2 y3 y4 y5:Int) (i:Nat) {r0 r1 r2 r3 r4 r5 r6 r7 x:Int} (hi:i<6) (he:List.getD [a,b,c,d,e,f] i 0=x) (hx:A8 x) (hy:A8 y0) (hr:A8 r0) (hs:Sim w0 F0 K ac (zS o0 o1 o2 o3 o4 o5 a b c d e f y0 y1 y2 y3 y4 y5 i r0 r1 r2 r3 r4 r5 r6 r7) cX aX)
  (k:∀n cy' : Int,x*y0+r0+0=n+18446744073709551616*cy' -> A8 n->A8 cy' -> ∀ac cY aY,Sim w0 F0 K ac (zS1 o0 o1 o2 o3 o4 o5 a b c d e f y0 y1 y2 y3 y4 y5 i x cy' n r1 r2 r3 r4 r5 r6 r7) cY aY->Wq Try.prog Q D2a ac .normal aY cY.w):Wq Try.prog Q (B5 B1y) ac .normal aX cX.w:=by
 obtain ⟨x0,x1⟩:=hx;obtain ⟨yy0,yy1⟩:=hy;obtain ⟨rr0,rr1⟩:=hr;have ee:=mac x0 x1 yy0 yy1 rr0 rr1 (u:=0) (by decide) (by decide)
 have sA:=@zA0 o0 o1 o2 o3 o4 o5 a b c d e f y0 y1 y2 y3 y4 y5 i r0 r1 r2 r3 r4 r5 r6 r7 w0 F0 K ac Q cX aX;rw[Int.toNat_natCast,he] at sA;obtain ⟨e1,l1,u1,m1⟩:=ee;refine sA ?_ hs fun ac cY aY h=>k _ _ e1 l1 u1 ac cY aY h
 simp only[A3,and_true,decide_eq_true_eq];omega

theorem H2n (o0 o1 o2 o3 o4 o5 a b c d e f y0 y1 y2 y3 y4 y5:Int) (i:Nat) {x cy r0 r1 r2 r3 r4 r5 r6 r7:Int} (hx:A8 x) (hy:A8 y1) (hr:A8 r1) (hc:A8 cy) (hs:Sim w0 F0 K ac (zS1 o0 o1 o2 o3 o4 o5 a b c d e f y0 y1 y2 y3 y4 y5 i x cy r0 r1 r2 r3 r4 r5 r6 r7) cX aX)
  (k:∀n cy' : Int,x*y1+r1+cy=n+18446744073709551616*cy' -> A8 n->A8 cy' -> ∀ac cY aY,Sim w0 F0 K ac (zS2 o0 o1 o2 o3 o4 o5 a b c d e f y0 y1 y2 y3 y4 y5 i x cy' r0 n r2 r3 r4 r5 r6 r7) cY aY->Wq Try.prog Q D2b ac .normal aY cY.w):Wq Try.prog Q (D2a) ac .normal aX cX.w:=by
 obtain ⟨x0,x1⟩:=hx;obtain ⟨yy0,yy1⟩:=hy;obtain ⟨rr0,rr1⟩:=hr;obtain ⟨cc0,cc1⟩:=hc;obtain ⟨e1,l1,u1,m1⟩:=mac x0 x1 yy0 yy1 rr0 rr1 cc0 cc1;refine zA1 o0 o1 o2 o3 o4 o5 a b c d e f y0 y1 y2 y3 y4 y5 i x cy r0 r1 r2 r3 r4 r5 r6 r7 ?_ hs fun ac cY aY h=>k _ _ e1 l1 u1 ac cY aY h
 simp only[A3,and_true,decide_eq_true_eq];omega

theorem H2o (o0 o1 o2 o3 o4 o5 a b c d e f y0 y1 y2 y3 y4 y5:Int) (i:Nat) {x cy r0 r1 r2 r3 r4 r5 r6 r7:Int} (hx:A8 x) (hy:A8 y2) (hr:A8 r2) (hc:A8 cy) (hs:Sim w0 F0 K ac (zS2 o0 o1 o2 o3 o4 o5 a b c d e f y0 y1 y2 y3 y4 y5 i x cy r0 r1 r2 r3 r4 r5 r6 r7) cX aX)
  (k:∀n cy' : Int,x*y2+r2+cy=n+18446744073709551616*cy' -> A8 n->A8 cy' -> ∀ac cY aY,Sim w0 F0 K ac (zS3 o0 o1 o2 o3 o4 o5 a b c d e f y0 y1 y2 y3 y4 y5 i x cy' r0 r1 n r3 r4 r5 r6 r7) cY aY->Wq Try.prog Q D2c ac .normal aY cY.w):Wq Try.prog Q (D2b) ac .normal aX cX.w:=by
 obtain ⟨x0,x1⟩:=hx;obtain ⟨yy0,yy1⟩:=hy;obtain ⟨rr0,rr1⟩:=hr;obtain ⟨cc0,cc1⟩:=hc;obtain ⟨e1,l1,u1,m1⟩:=mac x0 x1 yy0 yy1 rr0 rr1 cc0 cc1;refine zA2 o0 o1 o2 o3 o4 o5 a b c d e f y0 y1 y2 y3 y4 y5 i x cy r0 r1 r2 r3 r4 r5 r6 r7 ?_ hs fun ac cY aY h=>k _ _ e1 l1 u1 ac cY aY h
 simp only[A3,and_true,decide_eq_true_eq];omega

theorem H2p (o0 o1 o2 o3 o4 o5 a b c d e f y0 y1 y2 y3 y4 y5:Int) (i:Nat) {x cy r0 r1 r2 r3 r4 r5 r6 r7:Int} (hx:A8 x) (hy:A8 y3) (hr:A8 r3) (hc:A8 cy) (hs:Sim w0 F0 K ac (zS3 o0 o1 o2 o3 o4 o5 a b c d e f y0 y1 y2 y3 y4 y5 i x cy r0 r1 r2 r3 r4 r5 r6 r7) cX aX)
  (k:∀n cy' : Int,x*y3+r3+cy=n+18446744073709551616*cy' -> A8 n->A8 cy' -> ∀ac cY aY,Sim w0 F0 K ac (zS4 o0 o1 o2 o3 o4 o5 a b c d e f y0 y1 y2 y3 y4 y5 i x cy' r0 r1 r2 n r4 r5 r6 r7) cY aY->Wq Try.prog Q D2d ac .normal aY cY.w):Wq Try.prog Q (D2c) ac .normal aX cX.w:=by
 obtain ⟨x0,x1⟩:=hx;obtain ⟨yy0,yy1⟩:=hy;obtain ⟨rr0,rr1⟩:=hr;obtain ⟨cc0,cc1⟩:=hc;obtain ⟨e1,l1,u1,m1⟩:=mac x0 x1 yy0 yy1 rr0 rr1 cc0 cc1;refine zA3 o0 o1 o2 o3 o4 o5 a b c d e f y0 y1 y2 y3 y4 y5 i x cy r0 r1 r2 r3 r4 r5 r6 r7 ?_ hs fun ac cY aY h=>k _ _ e1 l1 u1 ac cY aY h
 simp only[A3,and_true,decide_eq_true_eq];omega

theorem H2q (o0 o1 o2 o3 o4 o5 a b c d e f y0 y1 y2 y3 y4 y5:Int) (i:Nat) {x cy r0 r1 r2 r3 r4 r5 r6 r7:Int} (hx:A8 x) (hy:A8 y4) (hr:A8 r4) (hc:A8 cy) (hs:Sim w0 F0 K ac (zS4 o0 o1 o2 o3 o4 o5 a b c d e f y0 y1 y2 y3 y4 y5 i x cy r0 r1 r2 r3 r4 r5 r6 r7) cX aX)
  (k:∀n cy' : Int,x*y4+r4+cy=n+18446744073709551616*cy' -> A8 n->A8 cy' -> ∀ac cY aY,Sim w0 F0 K ac (zS5 o0 o1 o2 o3 o4 o5 a b c d e f y0 y1 y2 y3 y4 y5 i x cy' r0 r1 r2 r3 n r5 r6 r7) cY aY->Wq Try.prog Q D2e ac .normal aY cY.w):Wq Try.prog Q (D2d) ac .normal aX cX.w:=by
 obtain ⟨x0,x1⟩:=hx;obtain ⟨yy0,yy1⟩:=hy;obtain ⟨rr0,rr1⟩:=hr;obtain ⟨cc0,cc1⟩:=hc;obtain ⟨e1,l1,u1,m1⟩:=mac x0 x1 yy0 yy1 rr0 rr1 cc0 cc1;refine zA4 o0 o1 o2 o3 o4 o5 a b c d e f y0 y1 y2 y3 y4 y5 i x cy r0 r1 r2 r3 r4 r5 r6 r7 ?_ hs fun ac cY aY h=>k _ _ e1 l1 u1 ac cY aY h
 simp only[A3,and_true,decide_eq_true_eq];omega

theorem H2r (o0 o1 o2 o3 o4 o5 a b c d e f y0 y1 y2 y3 y4 y5:Int) (i:Nat) {x cy r0 r1 r2 r3 r4 r5 r6 r7:Int} (hx:A8 x) (hy:A8 y5) (hr:A8 r5) (hc:A8 cy) (hs:Sim w0 F0 K ac (zS5 o0 o1 o2 o3 o4 o5 a b c d e f y0 y1 y2 y3 y4 y5 i x cy r0 r1 r2 r3 r4 r5 r6 r7) cX aX)
  (k:∀n cy' : Int,x*y5+r5+cy=n+18446744073709551616*cy' -> A8 n->A8 cy' -> ∀ac cY aY,Sim w0 F0 K ac (zS6 o0 o1 o2 o3 o4 o5 a b c d e f y0 y1 y2 y3 y4 y5 i x cy' r0 r1 r2 r3 r4 n r6 r7) cY aY->Wq Try.prog Q D2f ac .normal aY cY.w):Wq Try.prog Q (D2e) ac .normal aX cX.w:=by
 obtain ⟨x0,x1⟩:=hx;obtain ⟨yy0,yy1⟩:=hy;obtain ⟨rr0,rr1⟩:=hr;obtain ⟨cc0,cc1⟩:=hc;obtain ⟨e1,l1,u1,m1⟩:=mac x0 x1 yy0 yy1 rr0 rr1 cc0 cc1;refine zA5 o0 o1 o2 o3 o4 o5 a b c d e f y0 y1 y2 y3 y4 y5 i x cy r0 r1 r2 r3 r4 r5 r6 r7 ?_ hs fun ac cY aY h=>k _ _ e1 l1 u1 ac cY aY h
 simp only[A3,and_true,decide_eq_true_eq];omega

theorem sQE (o0 o1 o2 o3 o4 o5 a b c d e f y0 y1 y2 y3 y4 y5:Int) (i:Nat) {x cy r0 r1 r2 r3 r4 r5 r6 r7:Int} (hr0:A8 r0) (hr6:A8 r6) (hc:A8 cy) (hs:Sim w0 F0 K ac (zS6 o0 o1 o2 o3 o4 o5 a b c d e f y0 y1 y2 y3 y4 y5 i x cy r0 r1 r2 r3 r4 r5 r6 r7) cX aX)
  (k:∀q cy' n6 n7:Int,r6+cy+0=n6+18446744073709551616*n7->q*13402431016077863595+r0=18446744073709551616*cy' -> A8 n6->0<=n7->n7<=1->A8 q->A8 cy' -> ∀ac cY aY,Sim w0 F0 K ac (zT1 o0 o1 o2 o3 o4 o5 a b c d e f y0 y1 y2 y3 y4 y5 i q cy' r0 r1 r2 r3 r4 r5 n6 n7) cY aY->Wq Try.prog Q F1s ac .normal aY cY.w):Wq Try.prog Q D2f ac .normal aX cX.w:=by
 obtain ⟨rr0,rr1⟩:=hr0;obtain ⟨rr6,rr7⟩:=hr6;obtain ⟨cc0,cc1⟩:=hc;obtain ⟨e1,p1,p1',q1,q1'⟩:=F2 (c:=0) rr6 rr7 cc0 cc1 (by decide) (by decide)
 have hq:=B4i (r0*9940570264628428797);have e2:=E0t (b:=13402431016077863595) hq.1 hq.2 (by decide) (by decide) rr0 rr1
 have e3:=D0c (l:=r0) rfl;obtain ⟨hq0,hq1⟩:=hq;obtain ⟨e2,⟨f1,f2⟩,f3⟩:=e2;refine zE o0 o1 o2 o3 o4 o5 a b c d e f y0 y1 y2 y3 y4 y5 i x cy r0 r1 r2 r3 r4 r5 r6 r7 ?_ hs fun ac cY aY h=>k _ _ _ _ e1 ?_ ⟨p1,p1'⟩ q1 q1' ⟨hq0,hq1⟩ f3 ac cY aY h
 ·simp only[A3,and_true,decide_eq_false_iff_not]
  omega
 ·omega

theorem H2s (o0 o1 o2 o3 o4 o5 a b c d e f y0 y1 y2 y3 y4 y5:Int) (i:Nat) {q cy r0 r1 r2 r3 r4 r5 r6 r7:Int} (hq:A8 q) (hr:A8 r1) (hc:A8 cy) (hs:Sim w0 F0 K ac (zT1 o0 o1 o2 o3 o4 o5 a b c d e f y0 y1 y2 y3 y4 y5 i q cy r0 r1 r2 r3 r4 r5 r6 r7) cX aX)
  (k:∀n cy' : Int,q*2210141511517208575+r1+cy=n+18446744073709551616*cy' -> A8 n->A8 cy' -> ∀ac cY aY,Sim w0 F0 K ac (zT2 o0 o1 o2 o3 o4 o5 a b c d e f y0 y1 y2 y3 y4 y5 i q cy' n r1 r2 r3 r4 r5 r6 r7) cY aY->Wq Try.prog Q D2g ac .normal aY cY.w):Wq Try.prog Q F1s ac .normal aX cX.w:=by
 obtain ⟨x0,x1⟩:=hq;obtain ⟨rr0,rr1⟩:=hr;obtain ⟨cc0,cc1⟩:=hc;obtain ⟨e1,l1,u1,m1⟩:=mac (b:=2210141511517208575) x0 x1 (by decide) (by decide) rr0 rr1 cc0 cc1
 refine zB1 o0 o1 o2 o3 o4 o5 a b c d e f y0 y1 y2 y3 y4 y5 i q cy r0 r1 r2 r3 r4 r5 r6 r7 ?_ hs fun ac cY aY h=>k _ _ e1 l1 u1 ac cY aY h
 simp only[A3,and_true,decide_eq_true_eq];omega

theorem H2t (o0 o1 o2 o3 o4 o5 a b c d e f y0 y1 y2 y3 y4 y5:Int) (i:Nat) {q cy r0 r1 r2 r3 r4 r5 r6 r7:Int} (hq:A8 q) (hr:A8 r2) (hc:A8 cy) (hs:Sim w0 F0 K ac (zT2 o0 o1 o2 o3 o4 o5 a b c d e f y0 y1 y2 y3 y4 y5 i q cy r0 r1 r2 r3 r4 r5 r6 r7) cX aX)
  (k:∀n cy' : Int,q*7435674573564081700+r2+cy=n+18446744073709551616*cy' -> A8 n->A8 cy' -> ∀ac cY aY,Sim w0 F0 K ac (zT3 o0 o1 o2 o3 o4 o5 a b c d e f y0 y1 y2 y3 y4 y5 i q cy' r0 n r2 r3 r4 r5 r6 r7) cY aY->Wq Try.prog Q D2h ac .normal aY cY.w):Wq Try.prog Q D2g ac .normal aX cX.w:=by
 obtain ⟨x0,x1⟩:=hq;obtain ⟨rr0,rr1⟩:=hr;obtain ⟨cc0,cc1⟩:=hc;obtain ⟨e1,l1,u1,m1⟩:=mac (b:=7435674573564081700) x0 x1 (by decide) (by decide) rr0 rr1 cc0 cc1
 refine zB2 o0 o1 o2 o3 o4 o5 a b c d e f y0 y1 y2 y3 y4 y5 i q cy r0 r1 r2 r3 r4 r5 r6 r7 ?_ hs fun ac cY aY h=>k _ _ e1 l1 u1 ac cY aY h
 simp only[A3,and_true,decide_eq_true_eq];omega

theorem H2u (o0 o1 o2 o3 o4 o5 a b c d e f y0 y1 y2 y3 y4 y5:Int) (i:Nat) {q cy r0 r1 r2 r3 r4 r5 r6 r7:Int} (hq:A8 q) (hr:A8 r3) (hc:A8 cy) (hs:Sim w0 F0 K ac (zT3 o0 o1 o2 o3 o4 o5 a b c d e f y0 y1 y2 y3 y4 y5 i q cy r0 r1 r2 r3 r4 r5 r6 r7) cX aX)
  (k:∀n cy' : Int,q*7239337960414712511+r3+cy=n+18446744073709551616*cy' -> A8 n->A8 cy' -> ∀ac cY aY,Sim w0 F0 K ac (zT4 o0 o1 o2 o3 o4 o5 a b c d e f y0 y1 y2 y3 y4 y5 i q cy' r0 r1 n r3 r4 r5 r6 r7) cY aY->Wq Try.prog Q D2i ac .normal aY cY.w):Wq Try.prog Q D2h ac .normal aX cX.w:=by
 obtain ⟨x0,x1⟩:=hq;obtain ⟨rr0,rr1⟩:=hr;obtain ⟨cc0,cc1⟩:=hc;obtain ⟨e1,l1,u1,m1⟩:=mac (b:=7239337960414712511) x0 x1 (by decide) (by decide) rr0 rr1 cc0 cc1
 refine zB3 o0 o1 o2 o3 o4 o5 a b c d e f y0 y1 y2 y3 y4 y5 i q cy r0 r1 r2 r3 r4 r5 r6 r7 ?_ hs fun ac cY aY h=>k _ _ e1 l1 u1 ac cY aY h
 simp only[A3,and_true,decide_eq_true_eq];omega

theorem H2v (o0 o1 o2 o3 o4 o5 a b c d e f y0 y1 y2 y3 y4 y5:Int) (i:Nat) {q cy r0 r1 r2 r3 r4 r5 r6 r7:Int} (hq:A8 q) (hr:A8 r4) (hc:A8 cy) (hs:Sim w0 F0 K ac (zT4 o0 o1 o2 o3 o4 o5 a b c d e f y0 y1 y2 y3 y4 y5 i q cy r0 r1 r2 r3 r4 r5 r6 r7) cX aX)
  (k:∀n cy' : Int,q*5412103778470702295+r4+cy=n+18446744073709551616*cy' -> A8 n->A8 cy' -> ∀ac cY aY,Sim w0 F0 K ac (zT5 o0 o1 o2 o3 o4 o5 a b c d e f y0 y1 y2 y3 y4 y5 i q cy' r0 r1 r2 n r4 r5 r6 r7) cY aY->Wq Try.prog Q D2j ac .normal aY cY.w):Wq Try.prog Q D2i ac .normal aX cX.w:=by
 obtain ⟨x0,x1⟩:=hq;obtain ⟨rr0,rr1⟩:=hr;obtain ⟨cc0,cc1⟩:=hc;obtain ⟨e1,l1,u1,m1⟩:=mac (b:=5412103778470702295) x0 x1 (by decide) (by decide) rr0 rr1 cc0 cc1
 refine zB4 o0 o1 o2 o3 o4 o5 a b c d e f y0 y1 y2 y3 y4 y5 i q cy r0 r1 r2 r3 r4 r5 r6 r7 ?_ hs fun ac cY aY h=>k _ _ e1 l1 u1 ac cY aY h
 simp only[A3,and_true,decide_eq_true_eq];omega

theorem H2w (o0 o1 o2 o3 o4 o5 a b c d e f y0 y1 y2 y3 y4 y5:Int) (i:Nat) {q cy r0 r1 r2 r3 r4 r5 r6 r7:Int} (hq:A8 q) (hr:A8 r5) (hc:A8 cy) (hs:Sim w0 F0 K ac (zT5 o0 o1 o2 o3 o4 o5 a b c d e f y0 y1 y2 y3 y4 y5 i q cy r0 r1 r2 r3 r4 r5 r6 r7) cX aX)
  (k:∀n cy' : Int,q*1873798617647539866+r5+cy=n+18446744073709551616*cy' -> A8 n->A8 cy' -> ∀ac cY aY,Sim w0 F0 K ac (zT6 o0 o1 o2 o3 o4 o5 a b c d e f y0 y1 y2 y3 y4 y5 i q cy' r0 r1 r2 r3 n r5 r6 r7) cY aY->Wq Try.prog Q D8k ac .normal aY cY.w):Wq Try.prog Q D2j ac .normal aX cX.w:=by
 obtain ⟨x0,x1⟩:=hq;obtain ⟨rr0,rr1⟩:=hr;obtain ⟨cc0,cc1⟩:=hc;obtain ⟨e1,l1,u1,m1⟩:=mac (b:=1873798617647539866) x0 x1 (by decide) (by decide) rr0 rr1 cc0 cc1
 refine zB5 o0 o1 o2 o3 o4 o5 a b c d e f y0 y1 y2 y3 y4 y5 i q cy r0 r1 r2 r3 r4 r5 r6 r7 ?_ hs fun ac cY aY h=>k _ _ e1 l1 u1 ac cY aY h
 simp only[A3,and_true,decide_eq_true_eq];omega

theorem sQI (o0 o1 o2 o3 o4 o5 a b c d e f y0 y1 y2 y3 y4 y5:Int) (i:Nat) {q cy r0 r1 r2 r3 r4 r5 r6 r7:Int} (hi:i<6) (hr6:A8 r6) (hc:A8 cy) (hs:Sim w0 F0 K ac (zT6 o0 o1 o2 o3 o4 o5 a b c d e f y0 y1 y2 y3 y4 y5 i q cy r0 r1 r2 r3 r4 r5 r6 r7) cX aX)
  (k:∀n5 c6:Int,r6+cy+0=n5+18446744073709551616*c6->A8 n5->0<=c6->c6<=1->∀ac cY aY,Sim w0 F0 K ac (zS o0 o1 o2 o3 o4 o5 a b c d e f y0 y1 y2 y3 y4 y5 (i+1) r0 r1 r2 r3 r4 n5 (wrap IntKind.u64 (r7+c6)) r7) cY aY->Wq Try.prog Q (D5 B1y) ac .normal aY cY.w):Wq Try.prog Q D8k ac .normal aX cX.w:=by
 obtain ⟨rr6,rr7⟩:=hr6;obtain ⟨cc0,cc1⟩:=hc;obtain ⟨e1,p1,p1',q1,q1'⟩:=F2 (c:=0) rr6 rr7 cc0 cc1 (by decide) (by decide)
 refine zI o0 o1 o2 o3 o4 o5 a b c d e f y0 y1 y2 y3 y4 y5 i q cy r0 r1 r2 r3 r4 r5 r6 r7 ?_ hs fun ac cY aY h=>k _ _ e1 ⟨p1,p1'⟩ q1 q1' ac cY aY (by rw[B0 (by omega) (by omega)] at h;exact h.nx _)
 simp only[A3,and_true,decide_eq_false_iff_not];omega

end

end

section

structure G7t (A Y i:Nat) (r0 r1 r2 r3 r4 r5 r6:Int):Prop where
 i6:i<=6
 h0:A8 r0
 h1:A8 r1
 h2:A8 r2
 h3:A8 r3
 h4:A8 r4
 h5:A8 r5
 h6:r6=0
 lt:G3 r0 r1 r2 r3 r4 r5<2*pN
 eq:∃Q:Nat,G3 r0 r1 r2 r3 r4 r5*((2 ^ (64*i):Nat):Int)=((A % 2 ^ (64*i):Nat):Int)*(Y:Int)+(Q:Int)*(pN:Int)

theorem E9a {r B v T X Q:Nat} (e:v*B % r=1 % r) (h:T*B=X+Q*r):T % r=X*v % r:=by
  have h2:∀a:Nat,a*(v*B) % r=a % r:=fun a=>by rw[<-Nat.mul_mod_mod,e,Nat.mul_mod_mod,Nat.mul_one]
  calc T % r=T*(v*B) % r:=(h2 _).symm
    _=(T*B)*v % r:=by congr 1;simp only[Nat.mul_comm,Nat.mul_left_comm]
    _=X*v % r:=by rw[h,Nat.add_mul,Nat.mul_assoc Q,Nat.mul_comm r,<-Nat.mul_assoc,Nat.add_mul_mod_self_right]

/-- A round of the product, all columns together. -/
theorem G3g {r0 r1 r2 r3 r4 r5 xi y0 y1 y2 y3 y4 y5 q a0 c0 d0 b0 a1 c1 d1 b1 a2 c2 d2 b2 a3 c3 d3 b3 a4 c4 d4 b4 a5 c5 d5 b5 n6 n7 c6:Int}
  (eA0:xi*y0+r0+0=a0+18446744073709551616*c0) (eA1:xi*y1+r1+c0=a1+18446744073709551616*c1) (eA2:xi*y2+r2+c1=a2+18446744073709551616*c2) (eA3:xi*y3+r3+c2=a3+18446744073709551616*c3) (eA4:xi*y4+r4+c3=a4+18446744073709551616*c4) (eA5:xi*y5+r5+c4=a5+18446744073709551616*c5)
  (eE:0+c5+0=n6+18446744073709551616*n7) (eQ:q*13402431016077863595+a0=18446744073709551616*d0) (eB1:q*2210141511517208575+a1+d0=b0+18446744073709551616*d1) (eB2:q*7435674573564081700+a2+d1=b1+18446744073709551616*d2) (eB3:q*7239337960414712511+a3+d2=b2+18446744073709551616*d3) (eB4:q*5412103778470702295+a4+d3=b3+18446744073709551616*d4) (eB5:q*1873798617647539866+a5+d4=b4+18446744073709551616*d5)
  (eI:n6+d5+0=b5+18446744073709551616*c6) :
  18446744073709551616*(G3 b0 b1 b2 b3 b4 b5+39402006196394479212279040100143613805079739270465446667948293404245721771497210611414266254884915640806627990306816*(n7+c6))=G3 r0 r1 r2 r3 r4 r5+xi*G3 y0 y1 y2 y3 y4 y5+q*(pN:Int):=by
 rw[D0h xi,A1l];have hq:q*4002409555221667393417789825735904156556882819939007885332058136124031650490837864442687629129015664037894272559787=q*13402431016077863595+18446744073709551616*(q*2210141511517208575)+340282366920938463463374607431768211456*(q*7435674573564081700)+6277101735386680763835789423207666416102355444464034512896*(q*7239337960414712511)+115792089237316195423570985008687907853269984665640564039457584007913129639936*(q*5412103778470702295)+2135987035920910082395021706169552114602704522356652769947041607822219725780640550022962086936576*(q*1873798617647539866):=by omega
 rw[hq];unfold G3;generalize xi*y0=z0 at *;generalize xi*y1=z1 at *;generalize xi*y2=z2 at *;generalize xi*y3=z3 at *;generalize xi*y4=z4 at *;generalize xi*y5=z5 at *;generalize q*13402431016077863595=p0 at *;generalize q*2210141511517208575=p1 at *;generalize q*7435674573564081700=p2 at *;generalize q*7239337960414712511=p3 at *;generalize q*5412103778470702295=p4 at *;generalize q*1873798617647539866=p5 at *;omega

theorem H3e {b0 b1 b2 b3 b4 b5 t:Int} (h0:A8 b0) (h1:A8 b1) (h2:A8 b2) (h3:A8 b3) (h4:A8 b4) (h5:A8 b5) (ht:0<=t) (h:G3 b0 b1 b2 b3 b4 b5+39402006196394479212279040100143613805079739270465446667948293404245721771497210611414266254884915640806627990306816*t<2*pN):t=0:=by
 rw[A1l] at h;obtain ⟨h0,_⟩:=h0;obtain ⟨h1,_⟩:=h1;obtain ⟨h2,_⟩:=h2;obtain ⟨h3,_⟩:=h3;obtain ⟨h4,_⟩:=h4;obtain ⟨h5,_⟩:=h5;unfold G3 at h;omega

theorem D0w (o0 o1 o2 o3 o4 o5:Int) (A Y:Nat) (hA:A<B6) (hY:Y<pN) :
  MuC Try.prog 44 0 6 1 (fl6 o0 o1 o2 o3 o4 o5) [u6s (A0 A 0) (A0 A 1) (A0 A 2) (A0 A 3) (A0 A 4) (A0 A 5),u6s (A0 Y 0) (A0 Y 1) (A0 Y 2) (A0 Y 3) (A0 Y 4) (A0 Y 5),mP,.v (.c (.int .u64 9940570264628428797))] (.fl [.ob (.fp (A3b (A*Y*pnv)))]):=by
 refine B0u (fn:=Try.f44) (c:=B2 Try.f44) Try.func44 rfl rfl fun x0 a0 hk hm hs=>?_
 have ey:=(A1g Y (Nat.lt_trans hY (by decide))).1
 have hyr:(Y:Int)<(pN:Int):=by exact_mod_cast hY
 have hin:=@zIn o0 o1 o2 o3 o4 o5 (A0 A 0) (A0 A 1) (A0 A 2) (A0 A 3) (A0 A 4) (A0 A 5) (A0 Y 0) (A0 Y 1) (A0 Y 2) (A0 Y 3) (A0 Y 4) (A0 Y 5);have hget:∀i,i<6->List.getD [A0 A 0,A0 A 1,A0 A 2,A0 A 3,A0 A 4,A0 A 5] i 0=A0 A i:=by
  intro i hi;have:i=0∨i=1∨i=2∨i=3∨i=4∨i=5:=by omega
  rcases this with rfl | rfl | rfl | rfl | rfl | rfl<;>rfl
 have hly0:=D1 Y 0;have hly1:=D1 Y 1;have hly2:=D1 Y 2;have hly3:=D1 Y 3;have hly4:=D1 Y 4;have hly5:=D1 Y 5;have hlxx:=fun i=>D1 A i
 have hT6:A % 2 ^ (64*6)=A:=Nat.mod_eq_of_lt (by rw[D7x];exact hA)
 generalize A0 A 0=a at *;generalize A0 A 1=b at *;generalize A0 A 2=c at *;generalize A0 A 3=d at *;generalize A0 A 4=e at *;generalize A0 A 5=f at *;generalize A0 Y 0=v0 at *;generalize A0 Y 1=v1 at *;generalize A0 Y 2=v2 at *;generalize A0 Y 3=v3 at *;generalize A0 Y 4=v4 at *;generalize A0 Y 5=v5 at *;refine hin trivial hs fun ac cY aY hs1=>?_
 refine C0 (ι:={ p:Nat×Int×Int×Int×Int×Int×Int×Int×Int // G7t A Y p.1 p.2.1 p.2.2.1 p.2.2.2.1 p.2.2.2.2.1 p.2.2.2.2.2.1 p.2.2.2.2.2.2.1 p.2.2.2.2.2.2.2.1 })
  (fun p=>zS o0 o1 o2 o3 o4 o5 a b c d e f v0 v1 v2 v3 v4 v5 p.1.1 p.1.2.1 p.1.2.2.1 p.1.2.2.2.1 p.1.2.2.2.2.1 p.1.2.2.2.2.2.1 p.1.2.2.2.2.2.2.1 p.1.2.2.2.2.2.2.2.1 p.1.2.2.2.2.2.2.2.2) (fun p=>6-p.1.1) (c:=lpC B1y) (k:=lpR B1y) (by kernel_rfl) (fun p ih ac cY aY hs=>?_)
  ⟨(0,0,0,0,0,0,0,0,0),⟨by decide,⟨by decide,by decide⟩,⟨by decide,by decide⟩,⟨by decide,by decide⟩,⟨by decide,by decide⟩,⟨by decide,by decide⟩,⟨by decide,by decide⟩,rfl,by decide,0,by simp [G3,Nat.mod_one]⟩⟩ hs1
 obtain ⟨⟨i,r0,r1,r2,r3,r4,r5,r6,r7⟩,hI⟩:=p;simp only at ih hs hI
 obtain ⟨hi,h0,h1,h2,h3,h4,h5',h6,hlt,Q,hQ⟩:=hI;subst h6;by_cases h5:i<6
 ·have hround:=fun T' q hq=>C3n (A:=A) (Y:=Y) (r:=pN) (i:=i) (Q:=Q) (T:=G3 r0 r1 r2 r3 r4 r5) (T' := T') (q:=q) hq hQ
  have hlx:=hlxx i;refine H2m o0 o1 o2 o3 o4 o5 a b c d e f v0 v1 v2 v3 v4 v5 i h5 (hget i h5) hlx hly0 h0 hs fun a0 c0 eA0 la0 lc0 ac cY aY hs=>?_
  refine H2n o0 o1 o2 o3 o4 o5 a b c d e f v0 v1 v2 v3 v4 v5 i hlx hly1 h1 lc0 hs fun a1 c1 eA1 la1 lc1 ac cY aY hs=>?_
  refine H2o o0 o1 o2 o3 o4 o5 a b c d e f v0 v1 v2 v3 v4 v5 i hlx hly2 h2 lc1 hs fun a2 c2 eA2 la2 lc2 ac cY aY hs=>?_
  refine H2p o0 o1 o2 o3 o4 o5 a b c d e f v0 v1 v2 v3 v4 v5 i hlx hly3 h3 lc2 hs fun a3 c3 eA3 la3 lc3 ac cY aY hs=>?_
  refine H2q o0 o1 o2 o3 o4 o5 a b c d e f v0 v1 v2 v3 v4 v5 i hlx hly4 h4 lc3 hs fun a4 c4 eA4 la4 lc4 ac cY aY hs=>?_
  refine H2r o0 o1 o2 o3 o4 o5 a b c d e f v0 v1 v2 v3 v4 v5 i hlx hly5 h5' lc4 hs fun a5 c5 eA5 la5 lc5 ac cY aY hs=>?_
  refine sQE o0 o1 o2 o3 o4 o5 a b c d e f v0 v1 v2 v3 v4 v5 i la0 ⟨by decide,by decide⟩ lc5 hs fun q d0 n6 n7 eE eQ ln6 n70 n71 lq ld0 ac cY aY hs=>?_
  refine H2s o0 o1 o2 o3 o4 o5 a b c d e f v0 v1 v2 v3 v4 v5 i lq la1 ld0 hs fun b0 d1 eB1 lb0 ld1 ac cY aY hs=>?_
  refine H2t o0 o1 o2 o3 o4 o5 a b c d e f v0 v1 v2 v3 v4 v5 i lq la2 ld1 hs fun b1 d2 eB2 lb1 ld2 ac cY aY hs=>?_
  refine H2u o0 o1 o2 o3 o4 o5 a b c d e f v0 v1 v2 v3 v4 v5 i lq la3 ld2 hs fun b2 d3 eB3 lb2 ld3 ac cY aY hs=>?_
  refine H2v o0 o1 o2 o3 o4 o5 a b c d e f v0 v1 v2 v3 v4 v5 i lq la4 ld3 hs fun b3 d4 eB4 lb3 ld4 ac cY aY hs=>?_
  refine H2w o0 o1 o2 o3 o4 o5 a b c d e f v0 v1 v2 v3 v4 v5 i lq la5 ld4 hs fun b4 d5 eB5 lb4 ld5 ac cY aY hs=>?_
  refine sQI o0 o1 o2 o3 o4 o5 a b c d e f v0 v1 v2 v3 v4 v5 i h5 ln6 ld5 hs fun b5 c6 eI lb5 c60 c61 ac cY aY hs=>?_
  have hall:=G3g eA0 eA1 eA2 eA3 eA4 eA5 eE eQ eB1 eB2 eB3 eB4 eB5 eI;rw[<-ey] at hall;have hlt' := F0v hlt (by have:=hlx.2;omega) hyr (by omega) lq.2 hall
  have htop:=H3e lb0 lb1 lb2 lb3 lb4 lb5 (by omega) hlt'
  rw[htop,Int.mul_zero,Int.add_zero] at hall hlt'
  rw[htop] at hs;exact ih ⟨(i+1,b0,b1,b2,b3,b4,b5,wrap IntKind.u64 0,n7),⟨h5,lb0,lb1,lb2,lb3,lb4,lb5,rfl,hlt',hround _ q lq.1 hall⟩⟩ (by show 6-(i+1)<6-i;omega) ac cY aY hs
 ·have hi6:i=6:=by omega
  subst hi6;have hT:0<=G3 r0 r1 r2 r3 r4 r5:=W5 h0.1 h1.1 h2.1 h3.1 h4.1 h5'.1;rw[hT6] at hQ;have hb6:(2 ^ (64*6):Nat)=B6:=D7x;rw[hb6] at hQ;have hlast:=C9t hT hQ;have hred:A3b (G3 r0 r1 r2 r3 r4 r5).toNat=A3b (A*Y*pnv):=D5e (E9a B9u hlast);rw[<-hred];refine A8l Q8 hk hm (zX o0 o1 o2 o3 o4 o5 a b c d e f v0 v1 v2 v3 v4 v5 6 r0 r1 r2 r3 r4 r5 0 r7) rfl ?_ (fun y cs h=>h) (.inl ⟨_,_,rfl,rfl⟩) hs
  refine ⟨by decide,by decide,by decide,by decide,by decide,h0,h1,h2,h3,h4,h5',hlt,rfl,rfl,rfl,rfl,rfl,rfl,rfl,trivial⟩

end

section

theorem MuC.pre {P:Program} {f off len es:Nat} {e1 e2 e' : En} {rest:List SV} (h:MuC P f off len es e2 rest e') (hl:∃l l',e1 = .fl l∧e2 = .fl l') (hd:∀x cs,D9 x e1 cs->D9 x e2 cs):MuC P f off len es e1 rest e' := by
 intro x vs hk hm hden;obtain ⟨l,l',rfl,rfl⟩:=hl;refine h x vs hk ⟨fun p=>?_,fun p r hp=>?_,fun p q hp hn=>?_,fun p e hp hr=>?_,hm.inj,hm.own,hm.fw⟩ hden
 ·rw[<-hm.dom p]
  by_cases h0:p=0<;>simp [one,h0]
 ·by_cases h0:p=0
  ·subst h0;exact hm.fl 0 l rfl
  ·simp [one,h0] at hp
 ·by_cases h0:p=0
  ·subst h0;simp [one] at hp
  ·simp [one,h0] at hp
 ·by_cases h0:p=0
  ·subst h0
   simp only[one,if_true,Option.some.injEq] at hp;subst hp;obtain ⟨cs,ty,hc,hdd⟩:=hm.ent 0 _ rfl hr;exact ⟨cs,ty,hc,hd _ _ hdd⟩
  ·simp [one,h0] at hp

def C6q (a b c d e f y0 y1 y2 y3 y4 y5:Int):En:=.fl [.ob (.fp (A3b ((G3 a b c d e f).toNat*(G3 y0 y1 y2 y3 y4 y5).toNat*pnv)))]
def B3q:MuS:=fun off len es e rest=>
 match off,len,es,e,rest with
 | 0,6,1,.fl [.ob (.p _)],[.v (.c (.sl (.u64 [a,b,c,d,e,f]))),.v (.c (.sl (.u64 [y0,y1,y2,y3,y4,y5]))),.v (.c (.sl (.u64 [m0,m1,m2,m3,m4,m5]))),.v (.c (.int .u64 neg))]=>
  some ([A8 a,A8 b,A8 c,A8 d,A8 e,A8 f,A8 y0,A8 y1,A8 y2,A8 y3,A8 y4,A8 y5,G3 y0 y1 y2 y3 y4 y5<pN,neg=9940570264628428797,m0=13402431016077863595,m1=2210141511517208575,m2=7435674573564081700,m3=7239337960414712511,m4=5412103778470702295,m5=1873798617647539866],C6q a b c d e f y0 y1 y2 y3 y4 y5)
 | 0,6,1,.fl [.ob (.fp _)],[.v (.c (.sl (.u64 [a,b,c,d,e,f]))),.v (.c (.sl (.u64 [y0,y1,y2,y3,y4,y5]))),.v (.c (.sl (.u64 [m0,m1,m2,m3,m4,m5]))),.v (.c (.int .u64 neg))]=>
  some ([A8 a,A8 b,A8 c,A8 d,A8 e,A8 f,A8 y0,A8 y1,A8 y2,A8 y3,A8 y4,A8 y5,G3 y0 y1 y2 y3 y4 y5<pN,neg=9940570264628428797,m0=13402431016077863595,m1=2210141511517208575,m2=7435674573564081700,m3=7239337960414712511,m4=5412103778470702295,m5=1873798617647539866],C6q a b c d e f y0 y1 y2 y3 y4 y5)
 | _,_,_,_,_=>none

theorem C3d {o:Ob} (hk:o.k=6) {a b c d e f y0 y1 y2 y3 y4 y5 neg m0 m1 m2 m3 m4 m5:Int}
  (ho:A3 [A8 a,A8 b,A8 c,A8 d,A8 e,A8 f,A8 y0,A8 y1,A8 y2,A8 y3,A8 y4,A8 y5,G3 y0 y1 y2 y3 y4 y5<pN,neg=9940570264628428797,m0=13402431016077863595,m1=2210141511517208575,m2=7435674573564081700,m3=7239337960414712511,m4=5412103778470702295,m5=1873798617647539866]) :
  MuC Try.prog 44 0 6 1 (.fl [.ob o]) [.v (.c (.sl (.u64 [a,b,c,d,e,f]))),.v (.c (.sl (.u64 [y0,y1,y2,y3,y4,y5]))),.v (.c (.sl (.u64 [m0,m1,m2,m3,m4,m5]))),.v (.c (.int .u64 neg))] (C6q a b c d e f y0 y1 y2 y3 y4 y5):=by
 obtain ⟨h1,h2,h3,h4,h5,h6,h7,h8,h9,h10,h11,h12,h13,rfl,rfl,rfl,rfl,rfl,rfl,rfl,_⟩:=ho;obtain ⟨A,hA,eA,rfl,rfl,rfl,rfl,rfl,rfl⟩:=D0i h1 h2 h3 h4 h5 h6;obtain ⟨Y,hY,eY,rfl,rfl,rfl,rfl,rfl,rfl⟩:=D0i h7 h8 h9 h10 h11 h12;refine MuC.pre (e2:=fl6 (A0 o.n 0) (A0 o.n 1) (A0 o.n 2) (A0 o.n 3) (A0 o.n 4) (A0 o.n 5)) ?_ ⟨_,_,rfl,rfl⟩ fun x cs h=>E8s hk h
 unfold C6q;rw[eA,eY,Int.toNat_natCast,Int.toNat_natCast];rw[eY] at h13;exact D0w _ _ _ _ _ _ A Y hA (by exact_mod_cast h13)

def qeE:Env:={ qeD with mu:=fun g=>if g=44 then some (mu1 B3q) else qeD.mu g }
theorem B3w:A6 Try.prog qeE:=
 B7m Q8 44 B3q (A4 Try.func44 rfl rfl) fun off len es e rest o e' h ho _ _=>by
  unfold B3q at h;split at h
  ·cases h;exact C3d rfl ho
  ·cases h;exact C3d rfl ho
  ·cases h

theorem G8b (x:U6):let b:=Ob.n (.fp x);let c:Int:=13402431016077863595;let d:Int:=9940570264628428797;let f:Int:=2210141511517208575;let g:Int:=7435674573564081700;let h:Int:=7239337960414712511;let i:Int:=5412103778470702295;let j:Int:=1873798617647539866;C9 qeE Try.f83 3000 [.v (.a [.ob (.fp x)])] [] [] []=(some ([(A8 (A0 b 0)),(A8 (A0 b 1)),(A8 (A0 b 2)),(A8 (A0 b 3)),(A8 (A0 b 4)),(A8 (A0 b 5)),(A8 (17644856173732828998:Int)),(A8 (754043588434789617:Int)),(A8 (10224657059481499349:Int)),(A8 (7488229067341005760:Int)),(A8 (11130996698012816685:Int)),(A8 (1267921511277847466:Int)),((2708263910654730174793787626328176511836455197166317677006154293982164122222515399004018013397331347120527951271750:Int)<(4002409555221667393417789825735904156556882819939007885332058136124031650490837864442687629129015664037894272559787:Int)),(d=d),(c=c),(f=f),(g=g),(h=h),(i=i),(j=j)],((.v (.a [(.ob (.fp (A3b ((((G3 (A0 b 0) (A0 b 1) (A0 b 2) (A0 b 3) (A0 b 4) (A0 b 5))).toNat*2708263910654730174793787626328176511836455197166317677006154293982164122222515399004018013397331347120527951271750)*pnv))))])),[]))):=by intros;kernel_rfl
theorem G6r (x:Fp):let b:=Ob.n (.p x);let c:=A8 (0:Int);let d:Int:=13402431016077863595;let f:Int:=9940570264628428797;let g:Int:=2210141511517208575;let h:Int:=7435674573564081700;let i:Int:=7239337960414712511;let j:Int:=5412103778470702295;let k:Int:=1873798617647539866;C9 qeE Try.f77 3000 [.v (.a [.ob (.p x)])] [] [] []=(some ([(A8 (A0 b 0)),(A8 (A0 b 1)),(A8 (A0 b 2)),(A8 (A0 b 3)),(A8 (A0 b 4)),(A8 (A0 b 5)),(A8 (1:Int)),c,c,c,c,c,((1:Int)<(4002409555221667393417789825735904156556882819939007885332058136124031650490837864442687629129015664037894272559787:Int)),(f=f),(d=d),(g=g),(h=h),(i=i),(j=j),(k=k)],((.v (.a [(.ob (.fp (A3b ((((G3 (A0 b 0) (A0 b 1) (A0 b 2) (A0 b 3) (A0 b 4) (A0 b 5))).toNat*1)*pnv))))])),[]))):=by intros;kernel_rfl
end

section

/-- A number, taken modulo p; an element as a number. -/
def inP (a:U6):Fp:=Fin.ofNat pN a.val
def A0b (x:Fp):U6:=Fin.ofNat B6 x.val
theorem D0q (x:Fp):(A0b x).val=x.val:=Nat.mod_eq_of_lt (Nat.lt_trans x.isLt (by decide))

theorem C9u {n:Nat} (h:n<B6):(G3 (A0 n 0) (A0 n 1) (A0 n 2) (A0 n 3) (A0 n 4) (A0 n 5)).toNat=n:=by
 have e:=(A1g n h).1;rw[<-e];exact Int.toNat_natCast n

theorem F3d {r B v s a:Nat} (e:v*B % r=1 % r) (hs:s % r=B*B % r):a*s*v % r=(a % r)*B % r:=by
  have h2:∀a:Nat,a*(v*B) % r=a % r:=fun a=>by rw[<-Nat.mul_mod_mod,e,Nat.mul_mod_mod,Nat.mul_one]
  calc a*s*v % r=(a*v)*s % r:=by congr 1;simp only[Nat.mul_comm,Nat.mul_left_comm]
    _=(a*v)*(B*B) % r:=by rw[<-Nat.mul_mod_mod,hs,Nat.mul_mod_mod]
    _=(a*B)*(v*B) % r:=by congr 1;simp only[Nat.mul_comm,Nat.mul_left_comm]
    _=a*B % r:=h2 _
    _=(a % r)*B % r:=by rw[Nat.mod_mul_mod]

theorem G7c:2708263910654730174793787626328176511836455197166317677006154293982164122222515399004018013397331347120527951271750 % pN=B6*B6 % pN:=by kernel_rfl

theorem F3e (a:U6):FnD Try.prog 83 [.v (.a [.ob (.fp a)])] (.v (.a [.ob (.p (inP a))])) []:=by
 have hn:=C9u a.isLt;have hl:=fun i=>D1 a.val i
 refine (A7 B3w Try.func83 (G8b a) ?_).conv (fun _ _ h=>h) fun y v hd=>?_
 ·exact ⟨hl 0,hl 1,hl 2,hl 3,hl 4,hl 5,⟨by decide,by decide⟩,⟨by decide,by decide⟩,⟨by decide,by decide⟩,⟨by decide,by decide⟩,⟨by decide,by decide⟩,⟨by decide,by decide⟩,by decide,rfl,rfl,rfl,rfl,rfl,rfl,rfl,trivial⟩
 ·refine D0m (o:=.fp (A3b _)) (o' := .p (inP a)) rfl ?_ hd
  show (A3b _).val=_;rw[B1j];have hn:(G3 (A0 (Ob.n (Ob.fp a)) 0) (A0 (Ob.n (Ob.fp a)) 1) (A0 (Ob.n (Ob.fp a)) 2) (A0 (Ob.n (Ob.fp a)) 3) (A0 (Ob.n (Ob.fp a)) 4) (A0 (Ob.n (Ob.fp a)) 5)).toNat=a.val:=hn;rw[hn];exact F3d B9u G7c

theorem E8y {r B v x:Nat} (e:v*B % r=1 % r):(x*B % r)*1*v % r=x % r:=by
 rw[Nat.mul_one,Nat.mod_mul_mod,Nat.mul_assoc,Nat.mul_comm B,<-Nat.mul_mod_mod,e,Nat.mul_mod_mod,Nat.mul_one]

theorem E8x (x:Fp):FnD Try.prog 77 [.v (.a [.ob (.p x)])] (.v (.a [.ob (.fp (A0b x))])) []:=by
 have hn:=C9u (n:=(Ob.p x).n) (Nat.lt_trans (B3m x) (by decide))
 have hl:=fun i=>D1 (Ob.p x).n i
 refine (A7 B3w Try.func77 (G6r x) ?_).conv (fun _ _ h=>h) fun y v hd=>?_
 ·exact ⟨hl 0,hl 1,hl 2,hl 3,hl 4,hl 5,⟨by decide,by decide⟩,⟨by decide,by decide⟩,⟨by decide,by decide⟩,⟨by decide,by decide⟩,⟨by decide,by decide⟩,⟨by decide,by decide⟩,by decide,rfl,rfl,rfl,rfl,rfl,rfl,rfl,trivial⟩
 ·refine D0m (o:=.fp (A3b _)) (o' := .fp (A0b x)) (Eq.refl 6) ?_ hd
  show (A3b _).val=(A0b x).val;rw[B1j,hn,D0q];have e:(Ob.p x).n=x.val*B6 % pN:=rfl;rw[e,E8y B9u];exact Nat.mod_eq_of_lt x.isLt

end

end
end Go.Proofs.Ytifiiigbedjceaa
