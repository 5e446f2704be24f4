/- Parts of a proof, one behind the other: WFf, WMa, WFj, PFj, WCc, PCc, WUa, PUa, WUb, PUb, WUc, PUc, WCk, PCk, WUd, PUd, WUe, PUe, WKc, WFh, POb, PEb, Gx, Gy, Gz, Gw, Gv, Gu, Gt, Gs, Gr, Ge, Gq, PFh, PFi, PKc, WPa, Tc, PPa, WPb, PPb, WSpw. No conditions. -/
import Derived.Test.YtefimjofjjdndaaGreatKoP
open Go.IntKind (wrap)
namespace Go.Proofs.YtefimjofjjdndaaGreat
noncomputable section
section

theorem D5d (x0 x1 x2 x3 x4 x5 x6 x7 x8 x9 x10 x11:Fp):FnD Tryz.prog 35 [.v (.a [.ob (.p x0),.ob (.p x1),.ob (.p x2),.ob (.p x3),.ob (.p x4),.ob (.p x5),.ob (.p x6),.ob (.p x7),.ob (.p x8),.ob (.p x9),.ob (.p x10),.ob (.p x11)])] (.v (.a (E5 (N7 (⟨⟨(x0,x1),(x2,x3),(x4,x5)⟩,⟨(x6,x7),(x8,x9),(x10,x11)⟩⟩:F12))))) []:=E0k (⟨⟨(x0,x1),(x2,x3),(x4,x5)⟩,⟨(x6,x7),(x8,x9),(x10,x11)⟩⟩:F12)
def A9c:B2
 | [.v (.a [.ob (.p x0),.ob (.p x1),.ob (.p x2),.ob (.p x3),.ob (.p x4),.ob (.p x5),.ob (.p x6),.ob (.p x7),.ob (.p x8),.ob (.p x9),.ob (.p x10),.ob (.p x11)])]=>some ([],.v (.a (E5 (N7 (⟨⟨(x0,x1),(x2,x3),(x4,x5)⟩,⟨(x6,x7),(x8,x9),(x10,x11)⟩⟩:F12)))),[])
 | _=>none
def uyD:Env:=uyC.set (C6 uyC.fn 35 A9c)
theorem I2u:A9 Tryz.prog uyD:=A8 X7 35 A9c (A4 Tryz.func35 rfl rfl) fun args o r es h _=>by
 unfold A9c at h;split at h
 ·cases h;exact D5d _ _ _ _ _ _ _ _ _ _ _ _
 ·cases h
def A9q:B2
 | [.v (.a [.ob (.fp xa),.ob (.fp ya),.bool _]),.v (.a [.ob (.fp a),.ob (.fp b),.ob (.fp c),.ob (.fp d),.bool j])]=>some ([],.v (.a (E5 (mil (inP xa) (inP ya) (A3o ⟨a,b,c,d,j⟩)))),[])
 | _=>none
def uyE:Env:=uyD.set (C6 uyD.fn 73 A9q)
theorem A4v:A9 Tryz.prog uyE:=A8 I2u 73 A9q (A4 Tryz.func73 rfl rfl) fun args o r es h _=>by
 unfold A9q at h;split at h
 ·cases h;exact E1j _ _ _ _ _ _ _ _
 ·cases h

theorem ckA (xa ya a b c d:U6) (i j:Bool):B5 uyE Tryz.f34 3000 [.v (.a [.ob (.fp xa),.ob (.fp ya),.bool i]),.v (.a [.ob (.fp a),.ob (.fp b),.ob (.fp c),.ob (.fp d),.bool j])] [true] [] []=(some ([((Bool.not (onG (G1D.mk xa ya i)))=true)],((.ii (30:Int)),[]))):=by kernel_rfl
theorem ckB (xa ya a b c d:U6) (i j:Bool):B5 uyE Tryz.f34 3000 [.v (.a [.ob (.fp xa),.ob (.fp ya),.bool i]),.v (.a [.ob (.fp a),.ob (.fp b),.ob (.fp c),.ob (.fp d),.bool j])] [false,true] [] []=(some ([((Bool.not (onG (G1D.mk xa ya i)))=false),((Bool.not (I6 (G2D.mk a b c d j)))=true)],((.ii (30:Int)),[]))):=by kernel_rfl
theorem ckC (xa ya a b c d:U6) (i j:Bool):let f:=G1D.mk xa ya i;B5 uyE Tryz.f34 3000 [.v (.a [.ob (.fp xa),.ob (.fp ya),.bool i]),.v (.a [.ob (.fp a),.ob (.fp b),.ob (.fp c),.ob (.fp d),.bool j])] [false,false,true] [] []=(some ([((Bool.not (onG f))=false),((Bool.not (I6 (G2D.mk a b c d j)))=false),((Bool.not (grp f))=true)],((.ii (31:Int)),[]))):=by intros;kernel_rfl
theorem ckD (xa ya a b c d:U6) (i j:Bool):let f:=G2D.mk a b c d j;let g:=G1D.mk xa ya i;B5 uyE Tryz.f34 3000 [.v (.a [.ob (.fp xa),.ob (.fp ya),.bool i]),.v (.a [.ob (.fp a),.ob (.fp b),.ob (.fp c),.ob (.fp d),.bool j])] [false,false,false,true] [] []=(some ([((Bool.not (onG g))=false),((Bool.not (I6 f))=false),((Bool.not (grp g))=false),((Bool.not (A2c f))=true)],((.ii (31:Int)),[]))):=by intros;kernel_rfl
theorem ckE (xa ya a b c d:U6) (i j:Bool):let f:=G2D.mk a b c d j;let g:=G1D.mk xa ya i;B5 uyE Tryz.f34 3000 [.v (.a [.ob (.fp xa),.ob (.fp ya),.bool i]),.v (.a [.ob (.fp a),.ob (.fp b),.ob (.fp c),.ob (.fp d),.bool j])] [false,false,false,false] [] []=(some ([((Bool.not (onG g))=false),((Bool.not (I6 f))=false),((Bool.not (grp g))=false),((Bool.not (A2c f))=false)],((.ii (0:Int)),[]))):=by intros;kernel_rfl
theorem loA (xa ya a b c d:U6) (i j:Bool):B5 uyE Tryz.f36 3000 [.v (.a [.ob (.fp xa),.ob (.fp ya),.bool i]),.v (.a [.ob (.fp a),.ob (.fp b),.ob (.fp c),.ob (.fp d),.bool j])] [true] [] []=(some ([(i=true)],((.v (.a (E5 (1:F12)))),[]))):=by kernel_rfl
theorem loB (xa ya a b c d:U6) (i j:Bool):B5 uyE Tryz.f36 3000 [.v (.a [.ob (.fp xa),.ob (.fp ya),.bool i]),.v (.a [.ob (.fp a),.ob (.fp b),.ob (.fp c),.ob (.fp d),.bool j])] [false,true] [] []=(some ([(i=false),(j=true)],((.v (.a (E5 (1:F12)))),[]))):=by kernel_rfl
theorem loC (xa ya a b c d:U6) (i j:Bool):B5 uyE Tryz.f36 3000 [.v (.a [.ob (.fp xa),.ob (.fp ya),.bool i]),.v (.a [.ob (.fp a),.ob (.fp b),.ob (.fp c),.ob (.fp d),.bool j])] [false,false] [] []=(some ([(i=false),(j=false)],((.v (.a (E5 (mil (inP xa) (inP ya) (A3o (G2D.mk a b c d j)))))),[]))):=by kernel_rfl
/-- How a pair is refused, if it is; the loop's value. -/
def Y5 (a:G1D) (b:G2D):Int:=if (!onG a || !I6 b)=true then 30 else if (!grp a || !A2c b)=true then 31 else 0
def A4k (a:G1D) (b:G2D):F12:=if (a.inf || b.inf)=true then 1 else mil (inP a.x) (inP a.y) (A3o b)
theorem G5f (xa ya a b c d:U6) (i j:Bool):FnD Tryz.prog 34 [.v (.a [.ob (.fp xa),.ob (.fp ya),.bool i]),.v (.a [.ob (.fp a),.ob (.fp b),.ob (.fp c),.ob (.fp d),.bool j])] (.v (.c (.int .i64 (Y5 ⟨xa,ya,i⟩ ⟨a,b,c,d,j⟩)))) []:=by
 unfold Y5
 cases h1:(!onG ⟨xa,ya,i⟩) with
 | true=>exact A5 A4v Tryz.func34 (ckA xa ya a b c d i j) ⟨h1,trivial⟩
 | false=>
  cases h2:(!I6 ⟨a,b,c,d,j⟩) with
  | true=>exact A5 A4v Tryz.func34 (ckB xa ya a b c d i j) ⟨h1,h2,trivial⟩
  | false=>
   cases h3:(!grp ⟨xa,ya,i⟩) with
   | true=>exact A5 A4v Tryz.func34 (ckC xa ya a b c d i j) ⟨h1,h2,h3,trivial⟩
   | false=>
    cases h4:(!A2c ⟨a,b,c,d,j⟩) with
    | true=>exact A5 A4v Tryz.func34 (ckD xa ya a b c d i j) ⟨h1,h2,h3,h4,trivial⟩
    | false=>exact A5 A4v Tryz.func34 (ckE xa ya a b c d i j) ⟨h1,h2,h3,h4,trivial⟩
theorem G8m (xa ya a b c d:U6) (i j:Bool):FnD Tryz.prog 36 [.v (.a [.ob (.fp xa),.ob (.fp ya),.bool i]),.v (.a [.ob (.fp a),.ob (.fp b),.ob (.fp c),.ob (.fp d),.bool j])] (.v (.a (E5 (A4k ⟨xa,ya,i⟩ ⟨a,b,c,d,j⟩)))) []:=by
 cases i with
 | true=>
  have e:A4k ⟨xa,ya,true⟩ ⟨a,b,c,d,j⟩=1:=if_pos rfl;rw[e];exact A5 A4v Tryz.func36 (loA xa ya a b c d true j) ⟨rfl,trivial⟩
 | false=>
  cases j with
  | true=>
   have e:A4k ⟨xa,ya,false⟩ ⟨a,b,c,d,true⟩=1:=if_pos rfl;rw[e];exact A5 A4v Tryz.func36 (loB xa ya a b c d false true) ⟨rfl,rfl,trivial⟩
  | false=>
   have e:A4k ⟨xa,ya,false⟩ ⟨a,b,c,d,false⟩=mil (inP xa) (inP ya) (A3o ⟨a,b,c,d,false⟩):=if_neg (fun h=>nomatch h)
   rw[e];exact A5 A4v Tryz.func36 (loC xa ya a b c d false false) ⟨rfl,rfl,trivial⟩
def C8x:B2
 | [.v (.a [.ob (.fp xa),.ob (.fp ya),.bool i]),.v (.a [.ob (.fp a),.ob (.fp b),.ob (.fp c),.ob (.fp d),.bool j])]=>some ([],.v (.c (.int .i64 (Y5 ⟨xa,ya,i⟩ ⟨a,b,c,d,j⟩))),[])
 | _=>none
def uyF:Env:=uyE.set (C6 uyE.fn 34 C8x)
theorem I2v:A9 Tryz.prog uyF:=A8 A4v 34 C8x (A4 Tryz.func34 rfl rfl) fun args o r es h _=>by
 unfold C8x at h;split at h
 ·cases h;exact G5f _ _ _ _ _ _ _ _
 ·cases h
def D0v:B2
 | [.v (.a [.ob (.fp xa),.ob (.fp ya),.bool i]),.v (.a [.ob (.fp a),.ob (.fp b),.ob (.fp c),.ob (.fp d),.bool j])]=>some ([],.v (.a (E5 (A4k ⟨xa,ya,i⟩ ⟨a,b,c,d,j⟩))),[])
 | _=>none
def uyG:Env:=uyF.set (C6 uyF.fn 36 D0v)
theorem I2w:A9 Tryz.prog uyG:=A8 I2v 36 D0v (A4 Tryz.func36 rfl rfl) fun args o r es h _=>by
 unfold D0v at h;split at h
 ·cases h;exact G8m _ _ _ _ _ _ _ _
 ·cases h
end

section

theorem muA (a b:U6) (i:Bool) (k:U4):B5 qwC Tryz.f11 3000 [.v (.a [.ob (.fp a),.ob (.fp b),.bool i]),.v (.a [.ob (.fr k)])] [true] [] []=(some ([((Bool.not (onG (G1D.mk a b i)))=true)],((.t [(.a [(.ob (.fp (0:U6))),(.ob (.fp (0:U6))),(.lit false)]),(.c (.int .i64 (30:Int)))]),[]))):=by kernel_rfl
theorem muB (a b:U6) (i:Bool) (k:U4):let f:=G1D.mk a b i;let d:=A4o (jmn (inG f) (dgT (Fin.val k) 64));B5 qwC Tryz.f11 3000 [.v (.a [.ob (.fp a),.ob (.fp b),.bool i]),.v (.a [.ob (.fr k)])] [false] [] []=(some ([((Bool.not (onG f))=false)],((.t [(.a [(.ob (.fp (G1D.x d))),(.ob (.fp (G1D.y d))),(.bool (G1D.inf d))]),(.c (.int .i64 (0:Int)))]),[]))):=by intros;kernel_rfl
theorem F9a (a b:U6) (i:Bool) (k:U4):FnD Tryz.prog 11 [.v (.a [.ob (.fp a),.ob (.fp b),.bool i]),.v (.a [.ob (.fr k)])] (.t [.a (muR ⟨a,b,i⟩ k).1.its,.c (.int .i64 (muR ⟨a,b,i⟩ k).2)]) []:=by
 by_cases h1:onG ⟨a,b,i⟩=true
 ·rw[H7r k h1]
  exact A5 E2h Tryz.func11 (muB a b i k) ⟨by rw[h1];rfl,trivial⟩
 ·have h1:onG ⟨a,b,i⟩=false:=Bool.eq_false_iff.2 h1
  rw[G9e k h1];exact (A5 E2h Tryz.func11 (muA a b i k) ⟨by rw[h1];rfl,trivial⟩).conv (fun _ _ h=>h) fun y v hd=>A2j hd
theorem I9h (a b c d:U6) (i:Bool) (k:U4):let f:U6:=0;B5 ruC Tryz.f12 3000 [.v (.a [.ob (.fp a),.ob (.fp b),.ob (.fp c),.ob (.fp d),.bool i]),.v (.a [.ob (.fr k)])] [true] [] []=(some ([((Bool.not (I6 (G2D.mk a b c d i)))=true)],((.t [(.a [(.ob (.fp f)),(.ob (.fp f)),(.ob (.fp f)),(.ob (.fp f)),(.lit false)]),(.c (.int .i64 (30:Int)))]),[]))):=by intros;kernel_rfl
theorem I9i (a b c d:U6) (i:Bool) (k:U4):let g:=G2D.mk a b c d i;let f:=A8m (jmn (A3o g) (dgT (Fin.val k) 64));B5 ruC Tryz.f12 3000 [.v (.a [.ob (.fp a),.ob (.fp b),.ob (.fp c),.ob (.fp d),.bool i]),.v (.a [.ob (.fr k)])] [false] [] []=(some ([((Bool.not (I6 g))=false)],((.t [(.a [(.ob (.fp (G2D.xa f))),(.ob (.fp (G2D.xb f))),(.ob (.fp (G2D.ya f))),(.ob (.fp (G2D.yb f))),(.bool (G2D.inf f))]),(.c (.int .i64 (0:Int)))]),[]))):=by intros;kernel_rfl
theorem F8z (a b c d:U6) (i:Bool) (k:U4):FnD Tryz.prog 12 [.v (.a [.ob (.fp a),.ob (.fp b),.ob (.fp c),.ob (.fp d),.bool i]),.v (.a [.ob (.fr k)])] (.t [.a (B5d ⟨a,b,c,d,i⟩ k).1.its,.c (.int .i64 (B5d ⟨a,b,c,d,i⟩ k).2)]) []:=by
 by_cases h1:I6 ⟨a,b,c,d,i⟩=true
 ·rw[D1h k h1]
  exact A5 E2r Tryz.func12 (I9i a b c d i k) ⟨by rw[h1];rfl,trivial⟩
 ·have h1:I6 ⟨a,b,c,d,i⟩=false:=Bool.eq_false_iff.2 h1
  rw[F8y k h1];exact (A5 E2r Tryz.func12 (I9h a b c d i k) ⟨by rw[h1];rfl,trivial⟩).conv (fun _ _ h=>h) fun y v hd=>D6h hd
def C2c:B2
 | [.v (.a [.ob (.fp a),.ob (.fp b),.bool i]),.v (.a [.ob (.fr k)])]=>some ([],.t [.a (muR ⟨a,b,i⟩ k).1.its,.c (.int .i64 (muR ⟨a,b,i⟩ k).2)],[])
 | _=>none
def uzA:Env:=uyG.set (C6 uyG.fn 11 C2c)
theorem I2x:A9 Tryz.prog uzA:=A8 I2w 11 C2c (A4 Tryz.func11 rfl rfl) fun args o r es h _=>by
 unfold C2c at h;split at h
 ·cases h;exact F9a _ _ _ _
 ·cases h
def C2d:B2
 | [.v (.a [.ob (.fp a),.ob (.fp b),.ob (.fp c),.ob (.fp d),.bool i]),.v (.a [.ob (.fr k)])]=>some ([],.t [.a (B5d ⟨a,b,c,d,i⟩ k).1.its,.c (.int .i64 (B5d ⟨a,b,c,d,i⟩ k).2)],[])
 | _=>none
def uzB:Env:=uzA.set (C6 uzA.fn 12 C2d)
theorem M3:A9 Tryz.prog uzB:=A8 I2x 12 C2d (A4 Tryz.func12 rfl rfl) fun args o r es h _=>by
 unfold C2d at h;split at h
 ·cases h;exact F8z _ _ _ _ _ _
 ·cases h
end

section
section
variable {w0:World} {F0:Nat->Prop} {K:Kp} {ac:List Act} {Q:Exit->Act->World->Prop} {cX:Ctx} {aX:Act}

def D7m:List KI:=(run uzB false 3000 (⟨[.code (B9 Tryz.f93)],.normal,⟨B3z [.v (.c (.val (.func (.yield dF) #[] #[]))),.v (.c (.ptr 0 0)),.v (.c (.val dF))],one (.fl [.vsl dF (.g1 dF)]),Tryz.f93.ntmps,16,[]⟩⟩:Cfg) []).cfg.k
theorem pj (l:Nat) (va vp:Value) (la:List G1D):let a:=Array.mk ([]:List Value);let b:=It.vsl va (Sq.g1 la);B1 []->Sg Tryz.prog (⟨B3z [.v (.c (.val (.func (.yield l) #[] #[]))),.v (.c (.ptr 0 0)),.v (.c (.val vp))],one (.fl [.vsl va (.g1 la)]),Tryz.f93.ntmps,16,[]⟩) (B0 22 [0,2,6,7,8] [(.ci (.val (Value.func (Fn.yield l) a a))),(.ci (.val vp)),(.ci b),(.ii (la.length:Int)),.ii (0:Int)] [0] [(eF_ [b])] 64 [] []) .normal (D7m) ([.code (B9 Tryz.f93)]):=sgA false 3000 [] M3
def pjS (l:Nat) (va vb:Value) (la:List G1D) (lb:List G2D) (i :Int):St:=B0 22 [0,2,6,7,8] [(.ci (.val (Value.func (Fn.yield l) (Array.mk ([]:List Value)) (Array.mk ([]:List Value))))),.v (.c (.ptr 0 0)),(.ci (It.vsl va (Sq.g1 la))),(.ii (la.length:Int)),.v (.c (.int .i64 i))] [0] [some (.fl [.vsl vb (.g2 lb)])] 64 [] []
def E1x:List KI:=(run uzB false 3000 (⟨E8 D7m,.normal,pjS dF dF dF dF dF (dF:Int)⟩:Cfg) [true]).cfg.k
section
variable (l:Nat) (va vb:Value) (la:List G1D) (lb:List G2D) (i:Nat)
theorem pk:let f:Int:=i;let b:=List.getD lb (f).toNat g20;let d:=List.getD la (f).toNat g10;let g:Int:=la.length;let h:=Array.mk ([]:List Value);let c:=Value.func (Fn.yield l) h h;B1 [((decide (f<g))=true),(0<=f),(f<g),(0<=f),(f<(lb.length:Int))]->Sg Tryz.prog (pjS l va vb la lb f) (B0 22 [0,2,6,7,8,13,14,18] [(.ci (.val c)),.pt 0 0,(.ci (It.vsl va (Sq.g1 la))),(.ii g),(.ii f),(.ci (.val c)),(.v (.a [(.ob (.fp (G1D.x d))),(.ob (.fp (G1D.y d))),(.bool (G1D.inf d))])),(.v (.a [(.ob (.fp (G2D.xa b))),(.ob (.fp (G2D.xb b))),(.ob (.fp (G2D.ya b))),(.ob (.fp (G2D.yb b))),(.bool (G2D.inf b))]))] [0] [(eF_ [(It.vsl vb (Sq.g2 lb))])] 304 [] []) .normal (E1x) (E8 D7m):=sgA false 3000 [true] M3
theorem pX:B1 [((decide ((i:Int)<(la.length:Int)))=false)]->Sg Tryz.prog (pjS l va vb la lb (i:Int)) (B0 22 [] [] [0] [(eF_ [(It.vsl vb (Sq.g2 lb))])] 80 [] []) .normal ([]) (E8 D7m):=sgA false 3000 [false] M3
end
theorem G0k (l:Nat) (va vb:Value) (la:List G1D) (lb:List G2D) (i:Nat):let a:=Array.mk ([]:List Value);A4z uzB false 3000 ((⟨A0e E1x,.normal,⟨Q8 (D9 .top [0,2,6,7,8,13,14,18] [.v (.c (.val (.func (.yield l) #[] #[]))),.v (.c (.ptr 0 0)),.v (.c (.vsl va (.g1 la))),.v (.c (.int .i64 (la.length:Nat))),.v (.c (.int .i64 (i:Int))),.top,.top,.top]) 19 (.ci (.lit true)),one (.fl [.vsl vb (.g2 lb)]),22,400,[]⟩⟩:Cfg)) [] [0,2,6,7,8] [0] []=some ⟨[],Exit.normal,[(SV.v (V1.c (It.val (Value.func (Fn.yield l) a a)))),(SV.v (V1.c (It.ptr 0 0))),(SV.v (V1.c (It.vsl va (Sq.g1 la)))),(SV.v (V1.c (It.int IntKind.i64 (la.length:Int)))),(SV.v (V1.c (It.int IntKind.i64 (wrap IntKind.i64 (((i:Nat):Int)+(1:Int))))))],[(Option.some (En.fl [(It.vsl vb (Sq.g2 lb))]))],22,448,[]⟩:=by intros;kernel_rfl
theorem G0l (l:Nat) (va vb:Value) (la:List G1D) (lb:List G2D) (i:Nat):(run uzB false 3000 ((⟨A0e E1x,.normal,⟨Q8 (D9 .top [0,2,6,7,8,13,14,18] [.v (.c (.val (.func (.yield l) #[] #[]))),.v (.c (.ptr 0 0)),.v (.c (.vsl va (.g1 la))),.v (.c (.int .i64 (la.length:Nat))),.v (.c (.int .i64 (i:Int))),.top,.top,.top]) 19 (.ci (.lit true)),one (.fl [.vsl vb (.g2 lb)]),22,400,[]⟩⟩:Cfg)) []).cfg.k=M7 D7m:=by kernel_rfl
theorem pB (l:Nat) (va vb:Value) (la:List G1D) (lb:List G2D) (i:Nat):let a:=Array.mk ([]:List Value);B1 []->Sg Tryz.prog (⟨Q8 (D9 .top [0,2,6,7,8,13,14,18] [.v (.c (.val (.func (.yield l) #[] #[]))),.v (.c (.ptr 0 0)),.v (.c (.vsl va (.g1 la))),.v (.c (.int .i64 (la.length:Nat))),.v (.c (.int .i64 (i:Int))),.top,.top,.top]) 19 (.ci (.lit true)),one (.fl [.vsl vb (.g2 lb)]),22,400,[]⟩) (B0 22 [0,2,6,7,8] [(.ci (.val (Value.func (Fn.yield l) a a))),.pt 0 0,(.ci (It.vsl va (Sq.g1 la))),(.ii (la.length:Int)),(.ii (wrap .i64 ((i:Int)+1)))] [0] [(eF_ [(It.vsl vb (Sq.g2 lb))])] 448 [] []) .normal (M7 D7m) (A0e E1x):=fun ho=>fun hs hK=>
 A1l M3 (G0k l va vb la lb i) (G0l l va vb la lb i) ho hs hK
theorem G0m  : A4z uzB false 3000 ((⟨A0e E1x,.normal,⟨Q8 (D9 .top [] []) 19 (.ci (.lit false)),D9 none [] [],22,400,[]⟩⟩:Cfg)) [] [] [] []=some ⟨[],Exit.ret,[],[],22,416,[]⟩:=by kernel_rfl
theorem G0n  : (run uzB false 3000 ((⟨A0e E1x,.normal,⟨Q8 (D9 .top [] []) 19 (.ci (.lit false)),D9 none [] [],22,400,[]⟩⟩:Cfg)) []).cfg.k=[]:=by kernel_rfl
theorem pC  (ho:B1 []):Sg Tryz.prog (⟨Q8 (D9 .top [] []) 19 (.ci (.lit false)),D9 none [] [],22,400,[]⟩) (B0 22 [] [] [] [] 416 [] []) .ret ([]) (A0e E1x):=fun hs hK=>
 A1l M3 (G0m ) (G0n ) ho hs hK
end
end

section

def g1V (a:G1D):Value:=.agg ((Ob.fp a.x).cells++((Ob.fp a.y).cells++[Value.bool a.inf])).toArray
def g2V (b:G2D):Value:=.agg ((Ob.fp b.xa).cells++((Ob.fp b.xb).cells++((Ob.fp b.ya).cells++((Ob.fp b.yb).cells++[Value.bool b.inf])))).toArray
theorem E7q {x:Ctx} {o:Ob} {c:List Value} (h:x.D (.ob o) c):c=o.cells:=by
 obtain ⟨d,h⟩:=h
 cases d<;>exact h
theorem I3l {x:Ctx} {b:Bool} {c:List Value} (h:x.D (.bool b) c):c=[Value.bool b]:=by
 obtain ⟨d,h⟩:=h
 cases d<;>exact h
theorem H5u {x:Ctx} {a:G1D} {v:Value} (h:B8 x (.v (.a a.its)) v):v=g1V a:=by
 obtain ⟨cs,rfl,c1,c2,rfl,h1,c3,c4,rfl,h2,c5,c6,rfl,h3,rfl⟩:=h;rw[E7q h1,E7q h2,I3l h3];rfl
theorem H5v {x:Ctx} {b:G2D} {v:Value} (h:B8 x (.v (.a b.its)) v):v=g2V b:=by
 obtain ⟨cs,rfl,c1,c2,rfl,h1,c3,c4,rfl,h2,c5,c6,rfl,h3,c7,c8,rfl,h4,c9,c10,rfl,h5,rfl⟩:=h;rw[E7q h1,E7q h2,E7q h3,E7q h4,I3l h5];rfl
theorem F5k (x:Ctx) (a:G1D):B8 x (.v (.a a.its)) (g1V a):=⟨_,rfl,_,_,rfl,⟨0,rfl⟩,_,_,rfl,⟨0,rfl⟩,_,[],rfl,⟨0,rfl⟩,rfl⟩
theorem F5l (x:Ctx) (b:G2D):B8 x (.v (.a b.its)) (g2V b):=⟨_,rfl,_,_,rfl,⟨0,rfl⟩,_,_,rfl,⟨0,rfl⟩,_,_,rfl,⟨0,rfl⟩,_,_,rfl,⟨0,rfl⟩,_,[],rfl,⟨0,rfl⟩,rfl⟩
def C3j (z:G1D×G2D):List Value:=[g1V z.1,g2V z.2]
def G1h (z:G1D×G2D):List SV:=[.v (.a z.1.its),.v (.a z.2.its)]
theorem D9j {la:List G1D} {lb:List G2D} (hlen:la.length=lb.length) {i:Nat} (hi:i<la.length):(la.zip lb).take (i+1)=(la.zip lb).take i++[(la.getD i g10,lb.getD i g20)]:=by
 have h1:i<lb.length:=by omega
 rw[List.take_add_one];congr 1
 simp [List.getElem?_zip_eq_some,List.getD_eq_getElem?_getD,hi,h1]
theorem C3c {x:Ctx} {p q:Nat} {va vb:Value} {la:List G1D} {lb:List G2D} {M:List (G1D×G2D)->Nat->Option En} {G:Ctx->Prop} {n:Nat} {stop:Option (G1D×G2D)} (hlen:la.length=lb.length) (hlim:la.length<=64) (hn:n<=la.length)
  (hst:(stop=none∧n=la.length)∨(n<la.length∧stop=some (la.getD n g10,lb.getD n g20))) (hMa:∀s,M s p=some (.fl [.vsl va (.g1 la)])) (hMb:∀s,M s q=some (.fl [.vsl vb (.g2 lb)])) (hG:∀y,G y->y.D (.sl (.g1 la)) [va]) :
  E3u Tryz.prog x 93 [(p,0),(q,0)] C3j ((la.zip lb).take n) stop M G:=by
 intro l J J' W hgrow hgrow' hread hyield hstop hnone hJ
 have key:Wq Tryz.prog (bodyPost Tryz.prog Tryz.f93 fun e' W' => (∃v,e' = Ending.returned v)∧J' W') [.code (B9 Tryz.f93)] [] .normal { tmps:=[Value.func (.yield l) #[] #[],.pointer (some ⟨x.β p,0,none⟩),.pointer (some ⟨x.β q,0,none⟩)].toArray++Array.replicate 19 undef,defers:=[] } W:=?_
 ·exact calls_of_wp (c:=B9 Tryz.f93) Tryz.func93 rfl ((wpIn_wide (n:=0)).1 key.wp)
 obtain ⟨y,rfl,hGy,hm,hcp⟩:=hread [] W hJ;obtain ⟨hr,hβ⟩:=hcp (p,0) List.mem_cons_self;have hr:y.k p = .real:=hr;have hβ:y.β p=x.β p:=hβ;have hargs:I7 (E1 y p) [.v (.c (.val (.func (.yield l) #[] #[]))),.v (.c (.ptr 0 0)),.v (.c (.val (.pointer (some ⟨x.β q,0,none⟩))))] [.func (.yield l) #[] #[],.pointer (some ⟨x.β p,0,none⟩),.pointer (some ⟨x.β q,0,none⟩)]:=
  .cons ⟨rfl,0,rfl,rfl⟩ (.cons ⟨rfl,0,rfl,by show _=[Value.pointer (some ⟨y.β p,0,none⟩)];rw[hβ]⟩ (.cons ⟨rfl,0,rfl,rfl⟩ .nil))
 have hbox:∀{y:Ctx} {q:Nat} {v:Value} {s:Sq} (cs:Array Value) (ty:TypeId),y.w.heap[y.β q]? = some (.cells cs ty (0,0))->C7 y (.fl [.vsl v s]) cs.toList->C7 (E1 y q) (.fl [.vsl v s]) cs.toList:=fun cs _ _ hc=>H4i cs hc
 have hs:=B4t (nx:=16) (nt:=22) (a:={ tmps:=[Value.func (.yield l) #[] #[],.pointer (some ⟨x.β p,0,none⟩),.pointer (some ⟨x.β q,0,none⟩)].toArray++Array.replicate 19 undef,defers:=[] }) hm (hMa []) hr hbox rfl (by simp) (A3g hargs 19)
 change Wq Tryz.prog _ _ _ _ _ (E1 y p).w
 refine pj l va _ la trivial hs fun ac cY aY hs1=>?_
 have hmb:Mem (E1 y p) (one (.fl [.vsl va (.g1 la)])):=A9i hm (hMa _) hr hbox;obtain ⟨hg1,_,_⟩:=A1g hmb rfl hs1 rfl;have hJ1:=hgrow _ _ _ hJ hg1;obtain ⟨y1,e1,hG1,hm1,hcp1⟩:=hread _ _ hJ1;obtain ⟨hr1,hβ1⟩:=hcp1 (q,0) (List.mem_cons_of_mem _ List.mem_cons_self);have hr1:y1.k q = .real:=hr1;have hβ1:y1.β q=x.β q:=hβ1;have dat:∀{y:Ctx},G y->(E1 y q).D (.sl (.g1 la)) [va]:=fun {y} h=>A4d (x:=y) (y:=E1 y q) rfl (fun _ h=>h) rfl (hG y h)
 have hs2:=G7u (nx' := 80) (svs' := [.v (.c (.val (.func (.yield l) #[] #[]))),.v (.c (.ptr 0 0)),.v (.c (.vsl va (.g1 la))),.v (.c (.int .i64 (la.length:Nat))),.v (.c (.int .i64 ((0:Nat):Int)))]) hs1 rfl hm1 (hMb []) hr1 hbox ⟨F3q,H4q (z:=x) hβ1.symm,F3r (dat hG1),C9f,C9f,trivial⟩;rw[<-e1];rw[<-e1] at hJ1;let I:{ t:Nat // t<=n } -> List Act->Act->World->Prop:=fun t ac a w=>∃y z,z.w=w∧G y∧y.k q = .real∧y.β q=x.β q∧Mem y (M ((la.zip lb).take t.1))∧J ((la.zip lb).take t.1) y.w∧Sim y.w y.F (B4v (E1 y q)) ac (pjS l va vb la lb (t.1:Int)) z a
 refine A5z I (fun t=>n-t.1) (c:=lpC D7m) (k:=lpR D7m) (by kernel_rfl) (fun t ih ac b w hI=>?_) ⟨0,Nat.zero_le _⟩ ⟨y1,E1 y1 q,rfl,hG1,hr1,hβ1,hm1,hJ1,hs2.nx _⟩
 obtain ⟨t,ht⟩:=t;obtain ⟨y,z,rfl,hG2,hr,hβ,hm,hJ,hs⟩:=hI;simp only at hm hJ hs ih
 have hmb:Mem (E1 y q) (one (.fl [.vsl vb (.g2 lb)])):=A9i hm (hMb _) hr hbox;by_cases h:t<la.length
 ·refine pk l va vb la lb t ⟨by simp;omega,by omega,by omega,by omega,by omega,trivial⟩ hs fun ac cV aV hs4=>?_
  obtain ⟨hg4,_,hβ4⟩:=A1g hmb rfl hs4 rfl;have hJ4:=hgrow _ _ _ hJ hg4;have ev:[aV.tmps.getD 14 undef,aV.tmps.getD 18 undef]=C3j (la.getD t g10,lb.getD t g20):=by
   have k1:=H5u (hs4.t 14);have k2:=H5v (hs4.t 18);show _=[g1V _,g2V _];rw[k1,k2];rfl
  by_cases h2:t<n
  ·have hz:=D9j hlen h
   refine C4x (R:=fun W' => J ((la.zip lb).take (t+1)) W') (dst:=some 19) (f:=.tmp 13) (args:=[.tmp 14,.tmp 18]) (by kernel_rfl) hs4 (l:=l) rfl (vs:=C3j (la.getD t g10,lb.getD t g20)) ev ?_ fun W' hJ3=>?_
   ·have:=hyield ((la.zip lb).take t) (la.getD t g10,lb.getD t g20) _ hJ4 ⟨((la.zip lb).take n).drop (t+1),by
     have e2:((la.zip lb).take n).take (t+1)=(la.zip lb).take (t+1):=by rw[List.take_take];congr 1;omega
     have e3:=List.take_append_drop (t+1) ((la.zip lb).take n);rw[e2,hz,List.append_assoc] at e3;exact e3.symm⟩
    rw[<-hz] at this;exact this
   ·obtain ⟨y3,rfl,hG3,hm3,hc3⟩:=hread _ _ hJ3
    obtain ⟨hr3,hβ3⟩:=hc3 (q,0) (List.mem_cons_of_mem _ List.mem_cons_self);have hr3:y3.k q = .real:=hr3;have hβ3:y3.β q=x.β q:=hβ3;have hs7:=F6q (nx' := 400) (dst:=19) (b:=true) (svs' := [.v (.c (.val (.func (.yield l) #[] #[]))),.v (.c (.ptr 0 0)),.v (.c (.vsl va (.g1 la))),.v (.c (.int .i64 (la.length:Nat))),.v (.c (.int .i64 (t:Int))),.top,.top,.top]) hs4 rfl hm3 (hMb _) hr3 hbox ⟨F3q,H4p (by rw[hβ4,hβ];exact hβ3.symm),F3r (dat hG3),C9f,C9f,D9y,D9y,D9y,trivial⟩ (by decide)
    change Wq Tryz.prog _ _ _ _ _ (E1 y3 q).w
    refine pB l va vb la lb t trivial hs7 fun ac cT aT hs8=>?_
    have e4:wrap IntKind.i64 ((t:Int)+1)=((t+1:Nat):Int):=by rw[C0 (by omega) (by omega)];omega
    rw[e4] at hs8;exact ih ⟨t+1,by omega⟩ (by show n-(t+1)<n-t;omega) ac aT _ ⟨y3,cT,rfl,hG3,hr3,hβ3,hm3,hJ3,hs8.nx _⟩
  ·have ht2:t=n:=by omega
   subst ht2;rcases hst with ⟨_,h3⟩ | ⟨_,h3⟩
   ·omega
   ·refine C8g (ans:=false) (R:=J') (dst:=some 19) (f:=.tmp 13) (args:=[.tmp 14,.tmp 18]) (by kernel_rfl) hs4 (l:=l) rfl (vs:=C3j (la.getD t g10,lb.getD t g20)) ev (hstop _ h3 _ hJ4) fun W' hJ3=>?_
    have hb:=G7t (nt:=22) (nx:=400) (dst:=19) (b:=false) (w:=W') (a:=aV) hs4.nt (by have:=hs4.defers;exact this) (by decide)
    change Wq Tryz.prog _ _ _ _ _ (E4a W').w
    have hfr:Frs cV (B4v (E1 y q)).ds [] ac:=hs4.frs
    cases hfr
    refine pC trivial hb fun ac cT aT hs8=>?_
    exact ⟨D0j M3 hs8 rfl rfl rfl (fun v=>⟨⟨v,rfl⟩,hgrow' _ _ hJ3 ⟨hs8.base.os,hs8.base.tape,hs8.base.output,hs8.base.size,fun b hb _=>hs8.base.keep b hb trivial⟩⟩) (.inl rfl)⟩
 ·have e5:t=n:=by omega
  subst e5;refine pX l va vb la lb t ⟨by simp;omega,trivial⟩ hs fun ac cV aV hs4=>?_
  obtain ⟨hg,_,_⟩:=A1g hmb rfl hs4 rfl;rcases hst with ⟨h3,_⟩ | ⟨h3,_⟩
  ·exact ⟨D0j M3 hs4 rfl rfl rfl (fun v=>⟨⟨v,rfl⟩,hnone h3 _ (hgrow _ _ _ hJ hg)⟩) (.inr rfl)⟩
  ·omega
end

section
section
variable {w0:World} {F0:Nat->Prop} {K:Kp} {ac:List Act} {Q:Exit->Act->World->Prop} {cX:Ctx} {aX:Act}

theorem ccA (va vb:Value) (la:List G1D) (lb:List G2D):B5 uzB Tryz.f18 3000 [.v (.c (.vsl va (.g1 la))),.v (.c (.vsl vb (.g2 lb)))] [true] [] []=(some ([(((la.length:Int) != (lb.length:Int))=true)],((.t [(.c (.lit false)),(.c (.int .i64 (3:Int)))]),[]))):=by kernel_rfl
theorem ccB (va vb:Value) (la:List G1D) (lb:List G2D):let a:Int:=la.length;B5 uzB Tryz.f18 3000 [.v (.c (.vsl va (.g1 la))),.v (.c (.vsl vb (.g2 lb)))] [false,true] [] []=(some ([((a != (lb.length:Int))=false),((decide (a > (64:Int)))=true)],((.t [(.c (.lit false)),(.c (.int .i64 (2:Int)))]),[]))):=by intros;kernel_rfl
def B9l:List KI:=(run uzB false 3000 (⟨[.code (B9 Tryz.f18)],.normal,D7 Tryz.f18.ntmps [.v (.c (.vsl dF (.g1 dF))),.v (.c (.vsl dF (.g2 dF)))]⟩:Cfg) [false,false]).cfg.k
theorem cc (va vb:Value) (la:List G1D) (lb:List G2D):let a:=It.vsl va (Sq.g1 la);let b:=It.vsl vb (Sq.g2 lb);let d:Int:=la.length;B1 [((d != (lb.length:Int))=false),((decide (d > (64:Int)))=false)]->Sg Tryz.prog (D7 Tryz.f18.ntmps [.v (.c (.vsl va (.g1 la))),.v (.c (.vsl vb (.g2 lb)))]) (B0 48 [0,1,4,5,24] [(.ci a),(.ci b),.pt 16 0,.pt 32 0,(.ci (.clo 93 [(240,0),(256,0)]))] [16,32,240,256] [(eF_ [(.lit false)]),(eF_ [(.int .i64 (0:Int))]),(eF_ [a]),(eF_ [b])] 320 [] []) .normal (B9l) ([.code (B9 Tryz.f18)]):=sgA false 3000 [false,false] M3
def ccS (va vb:Value) (la:List G1D) (lb:List G2D) (e :Int):St:=B0 48 [0,1,4,5,24] [(.ci (It.vsl va (Sq.g1 la))),(.ci (It.vsl vb (Sq.g2 lb))),.pt 16 0,.pt 32 0,(.ci (.clo 93 [(240,0),(256,0)]))] [16,32,240,256] [(eF_ [(.lit false)]),some (.fl [.int .i64 e]),(eF_ [(It.vsl va (Sq.g1 la))]),(eF_ [(It.vsl vb (Sq.g2 lb))])] 320 [] []
theorem cA (va vb:Value) (la:List G1D) (lb:List G2D) (xa ya a b c d:U6) (i j:Bool) {ρ:Option Nat}:let f:=It.vsl va (Sq.g1 la);let g:=It.vsl vb (Sq.g2 lb);(B1 [])->(Sim w0 F0 K ac (X5 (ccS va vb la lb 0) [(25,.v (.a [.ob (.fp xa),.ob (.fp ya),.bool i])),(26,.v (.a [.ob (.fp a),.ob (.fp b),.ob (.fp c),.ob (.fp d),.bool j]))]) cX aX)->(∀cY aY,Sim w0 F0 K ac (B0 48 [4,5,6,7] [.pt 16 0,.pt 32 0,.pt 320 0,.pt 352 0] [16,32,240,256,320,352] [(eF_ [(.lit false)]),(eF_ [(.int .i64 (0:Int))]),(eF_ [f]),(eF_ [g]),(eF_ [.ob (.fp xa),.ob (.fp ya),(.bool i)]),(eF_ [.ob (.fp a),.ob (.fp b),.ob (.fp c),.ob (.fp d),(.bool j)])] 384 [[0,1,4,5,24]] [([(.ci f),(.ci g),.pt 16 0,.pt 32 0,(.ci (.clo 93 [(240,0),(256,0)]))],48)]) cY aY->Wq Tryz.prog Q ([]) ac Exit.normal aY cY.w ρ)->Wq Tryz.prog Q ([.code (rfA B9l)]) ac .normal aX cX.w ρ :=fun ho hs hK=>
 G8 (unroll:=false) (n:=3000) (path:=[]) (o:=⟨_,_,_,_,_,_,_⟩) M3 (by kernel_rfl) (by kernel_rfl) ho (by kernel_rfl) (by kernel_rfl) hs hK
def ccM (va vb:Value) (la:List G1D) (lb:List G2D) (xa ya a b c d:U6) (i j:Bool):St:=B0 48 [4,5,6,7] [.pt 16 0,.pt 32 0,.pt 320 0,.pt 352 0] [16,32,240,256,320,352] [(eF_ [(.lit false)]),(eF_ [(.int .i64 (0:Int))]),(eF_ [(It.vsl va (Sq.g1 la))]),(eF_ [(It.vsl vb (Sq.g2 lb))]),(eF_ [.ob (.fp xa),.ob (.fp ya),(.bool i)]),(eF_ [.ob (.fp a),.ob (.fp b),.ob (.fp c),.ob (.fp d),(.bool j)])] 384 [[0,1,4,5,24]] [([(.ci (It.vsl va (Sq.g1 la))),(.ci (It.vsl vb (Sq.g2 lb))),.pt 16 0,.pt 32 0,(.ci (.clo 93 [(240,0),(256,0)]))],48)]
theorem cN (va vb:Value) (la:List G1D) (lb:List G2D) (xa ya a b c d:U6) (i j:Bool) {ρ:Option Nat}:let f:=It.vsl va (Sq.g1 la);let g:=It.vsl vb (Sq.g2 lb);(B1 [(((Y5 (G1D.mk xa ya i) (G2D.mk a b c d j)) != (0:Int))=false)])->(Sim w0 F0 K ac (ccM va vb la lb xa ya a b c d i j) cX aX)->(∀cY aY,Sim w0 F0 K ac (B0 48 [4,5] [.pt 16 0,.pt 32 0] [16,32,240,256] [(eF_ [(.lit false)]),(eF_ [(.int .i64 (0:Int))]),(eF_ [f]),(eF_ [g])] 480 [[0,1,4,5,24]] [([(.ci f),(.ci g),.pt 16 0,.pt 32 0,(.ci (.clo 93 [(240,0),(256,0)]))],48)]) cY aY->Wq Tryz.prog Q ([]) ac Exit.normal aY cY.w ρ)->Wq Tryz.prog Q ([.code (rfB B9l)]) ac .normal aX cX.w ρ :=fun ho hs hK=>
 G8 (unroll:=false) (n:=3000) (path:=[false]) (o:=⟨_,_,_,_,_,_,_⟩) M3 (by kernel_rfl) (by kernel_rfl) ho (by kernel_rfl) (by kernel_rfl) hs hK
theorem cY (va vb:Value) (la:List G1D) (lb:List G2D) (xa ya a b c d:U6) (i j:Bool) {ρ:Option Nat}:let f:=Y5 (G1D.mk xa ya i) (G2D.mk a b c d j);let g:=It.vsl va (Sq.g1 la);let h:=It.vsl vb (Sq.g2 lb);(B1 [((f != (0:Int))=true)])->(Sim w0 F0 K ac (ccM va vb la lb xa ya a b c d i j) cX aX)->(∀cY aY,Sim w0 F0 K ac (B0 48 [4,5] [.pt 16 0,.pt 32 0] [16,32,240,256] [(eF_ [(.lit false)]),(eF_ [(.int .i64 f)]),(eF_ [g]),(eF_ [h])] 528 [[0,1,4,5,24]] [([(.ci g),(.ci h),.pt 16 0,.pt 32 0,(.ci (.clo 93 [(240,0),(256,0)]))],48)]) cY aY->Wq Tryz.prog Q ([]) ac Exit.ret aY cY.w ρ)->Wq Tryz.prog Q ([.code (rfB B9l)]) ac .normal aX cX.w ρ :=fun ho hs hK=>
 G8 (unroll:=false) (n:=3000) (path:=[true]) (o:=⟨_,_,_,_,_,_,_⟩) M3 (by kernel_rfl) (by kernel_rfl) ho (by kernel_rfl) (by kernel_rfl) hs hK
def ccE (va vb:Value) (la:List G1D) (lb:List G2D) (_xa _ya _a _b _c _d:U6) (_i _j:Bool) (e :Int):St:=B0 48 [4,5] [.pt 16 0,.pt 32 0] [16,32,240,256] [(eF_ [(.lit false)]),some (.fl [.int .i64 e]),(eF_ [(It.vsl va (Sq.g1 la))]),(eF_ [(It.vsl vb (Sq.g2 lb))])] 480 [[0,1,4,5,24]] [([(.ci (It.vsl va (Sq.g1 la))),(.ci (It.vsl vb (Sq.g2 lb))),.pt 16 0,.pt 32 0,(.ci (.clo 93 [(240,0),(256,0)]))],48)]
theorem cR (va vb:Value) (la:List G1D) (lb:List G2D) (e:Int):B1 []->Sg Tryz.prog (ccS va vb la lb e) (B0 48 [4,5] [.pt 16 0,.pt 32 0] [16,32] [(eF_ [(.lit false)]),(eF_ [(.int .i64 e)])] 320 [] []) .ret ([]) (.code .ret::rfR B9l):=sgA false 3000 [] M3
def D4a:List KI:=(run uzB false 3000 (⟨rfR B9l,.normal,ccS dF dF dF dF 0⟩:Cfg) []).cfg.k
theorem cW (va vb:Value) (la:List G1D) (lb:List G2D) {ρ:Option Nat}:let a:=It.vsl va (Sq.g1 la);let b:=It.vsl vb (Sq.g2 lb);(B1 [])->(Sim w0 F0 K ac (ccS va vb la lb 0) cX aX)->(∀cY aY,Sim w0 F0 K ac (B0 48 [0,1,4,5,9,36] [(.ci a),(.ci b),.pt 16 0,.pt 32 0,.pt 336 0,(.ci (.clo 93 [(400,0),(416,0)]))] [16,32,336,400,416] [(eF_ [(.lit false)]),(eF_ [(.int .i64 (0:Int))]),(eF_ (E5 (1:F12))),(eF_ [a]),(eF_ [b])] 480 [] []) cY aY->Wq Tryz.prog Q (D4a) ac Exit.normal aY cY.w ρ)->Wq Tryz.prog Q (rfR B9l) ac .normal aX cX.w ρ :=fun ho hs hK=>
 G8 (unroll:=false) (n:=3000) (path:=[]) (o:=⟨_,_,_,_,_,_,_⟩) M3 (by kernel_rfl) (by kernel_rfl) ho (by kernel_rfl) (by kernel_rfl) hs hK
def ceS (va vb:Value) (la:List G1D) (lb:List G2D) (f:F12):St:=B0 48 [0,1,4,5,9,36] [(.ci (It.vsl va (Sq.g1 la))),(.ci (It.vsl vb (Sq.g2 lb))),.pt 16 0,.pt 32 0,.pt 336 0,(.ci (.clo 93 [(400,0),(416,0)]))] [16,32,336,400,416] [(eF_ [(.lit false)]),(eF_ [(.int .i64 (0:Int))]),some (.fl (E5 f)),(eF_ [(It.vsl va (Sq.g1 la))]),(eF_ [(It.vsl vb (Sq.g2 lb))])] 480 [] []
theorem dA (va vb:Value) (la:List G1D) (lb:List G2D) (f:F12) (xa ya a b c d:U6) (i j:Bool) {ρ:Option Nat}:let g:=It.vsl va (Sq.g1 la);let h:=It.vsl vb (Sq.g2 lb);(B1 [])->(Sim w0 F0 K ac (X5 (ceS va vb la lb f) [(37,.v (.a [.ob (.fp xa),.ob (.fp ya),.bool i])),(38,.v (.a [.ob (.fp a),.ob (.fp b),.ob (.fp c),.ob (.fp d),.bool j]))]) cX aX)->(∀cY aY,Sim w0 F0 K ac (B0 48 [4,5,9,10,11] [.pt 16 0,.pt 32 0,.pt 336 0,.pt 480 0,.pt 512 0] [16,32,336,400,416,480,512] [(eF_ [(.lit false)]),(eF_ [(.int .i64 (0:Int))]),(eF_ (E5 f)),(eF_ [g]),(eF_ [h]),(eF_ [.ob (.fp xa),.ob (.fp ya),(.bool i)]),(eF_ [.ob (.fp a),.ob (.fp b),.ob (.fp c),.ob (.fp d),(.bool j)])] 544 [[0,1,4,5,9,36]] [([(.ci g),(.ci h),.pt 16 0,.pt 32 0,.pt 336 0,(.ci (.clo 93 [(400,0),(416,0)]))],48)]) cY aY->Wq Tryz.prog Q ([]) ac Exit.normal aY cY.w ρ)->Wq Tryz.prog Q ([.code (rfA D4a)]) ac .normal aX cX.w ρ :=fun ho hs hK=>
 G8 (unroll:=false) (n:=3000) (path:=[]) (o:=⟨_,_,_,_,_,_,_⟩) M3 (by kernel_rfl) (by kernel_rfl) ho (by kernel_rfl) (by kernel_rfl) hs hK
def ceM (va vb:Value) (la:List G1D) (lb:List G2D) (f:F12) (xa ya a b c d:U6) (i j:Bool):St:=B0 48 [4,5,9,10,11] [.pt 16 0,.pt 32 0,.pt 336 0,.pt 480 0,.pt 512 0] [16,32,336,400,416,480,512] [(eF_ [(.lit false)]),(eF_ [(.int .i64 (0:Int))]),(eF_ (E5 f)),(eF_ [(It.vsl va (Sq.g1 la))]),(eF_ [(It.vsl vb (Sq.g2 lb))]),(eF_ [.ob (.fp xa),.ob (.fp ya),(.bool i)]),(eF_ [.ob (.fp a),.ob (.fp b),.ob (.fp c),.ob (.fp d),(.bool j)])] 544 [[0,1,4,5,9,36]] [([(.ci (It.vsl va (Sq.g1 la))),(.ci (It.vsl vb (Sq.g2 lb))),.pt 16 0,.pt 32 0,.pt 336 0,(.ci (.clo 93 [(400,0),(416,0)]))],48)]
theorem dN (va vb:Value) (la:List G1D) (lb:List G2D) (f:F12) (xa ya a b c d:U6) (i j:Bool) {ρ:Option Nat}:let g:=E2.a f;let h:=E2.b f;let k:=It.vsl va (Sq.g1 la);let l:=It.vsl vb (Sq.g2 lb);(B1 [])->(Sim w0 F0 K ac (ceM va vb la lb f xa ya a b c d i j) cX aX)->(∀cY aY,Sim w0 F0 K ac (B0 48 [4,5] [.pt 16 0,.pt 32 0] [16,32,336,400,416] [(eF_ [(.lit false)]),(eF_ [(.int .i64 (0:Int))]),(eF_ (E5 ((E2.mk (E3.mk ((Prod.fst (E3.a g)),(Prod.snd (E3.a g))) ((Prod.fst (E3.b g)),(Prod.snd (E3.b g))) ((Prod.fst (E3.c g)),(Prod.snd (E3.c g)))) (E3.mk ((Prod.fst (E3.a h)),(Prod.snd (E3.a h))) ((Prod.fst (E3.b h)),(Prod.snd (E3.b h))) ((Prod.fst (E3.c h)),(Prod.snd (E3.c h)))))*(A4k (G1D.mk xa ya i) (G2D.mk a b c d j))))),(eF_ [k]),(eF_ [l])] 640 [[0,1,4,5,9,36]] [([(.ci k),(.ci l),.pt 16 0,.pt 32 0,.pt 336 0,(.ci (.clo 93 [(400,0),(416,0)]))],48)]) cY aY->Wq Tryz.prog Q ([]) ac Exit.normal aY cY.w ρ)->Wq Tryz.prog Q ([.code (rfB D4a)]) ac .normal aX cX.w ρ :=fun ho hs hK=>
 G8 (unroll:=false) (n:=3000) (path:=[]) (o:=⟨_,_,_,_,_,_,_⟩) M3 (by kernel_rfl) (by kernel_rfl) ho (by kernel_rfl) (by kernel_rfl) hs hK
theorem dX (va vb:Value) (la:List G1D) (lb:List G2D) (f:F12):let g:=N7 f;let h:=E2.a (1:F12);let i:=E2.b (1:F12);let j:=E2.a g;let k:=E2.b g;let d:=Bool.and (decide ((Prod.fst (E3.a j))=(Prod.fst (E3.a h)))) (Bool.and (decide ((Prod.snd (E3.a j))=(Prod.snd (E3.a h)))) (Bool.and (decide ((Prod.fst (E3.b j))=(Prod.fst (E3.b h)))) (Bool.and (decide ((Prod.snd (E3.b j))=(Prod.snd (E3.b h)))) (Bool.and (decide ((Prod.fst (E3.c j))=(Prod.fst (E3.c h)))) (Bool.and (decide ((Prod.snd (E3.c j))=(Prod.snd (E3.c h)))) (Bool.and (decide ((Prod.fst (E3.a k))=(Prod.fst (E3.a i)))) (Bool.and (decide ((Prod.snd (E3.a k))=(Prod.snd (E3.a i)))) (Bool.and (decide ((Prod.fst (E3.b k))=(Prod.fst (E3.b i)))) (Bool.and (decide ((Prod.snd (E3.b k))=(Prod.snd (E3.b i)))) (Bool.and (decide ((Prod.fst (E3.c k))=(Prod.fst (E3.c i)))) (decide ((Prod.snd (E3.c k))=(Prod.snd (E3.c i))))))))))))));B1 []->Sg Tryz.prog (ceS va vb la lb f) (B0 48 [4,5] [.pt 16 0,.pt 32 0] [16,32] [(eF_ [(.bool (ite (true=true) d (Bool.not d)))]),(eF_ [(.int .i64 (0:Int))])] 576 [] []) .ret ([]) (rfR D4a):=sgA false 3000 [] M3
def ceE (va vb:Value) (la:List G1D) (lb:List G2D) (f:F12) (_xa _ya _a _b _c _d:U6) (_i _j:Bool):St:=B0 48 [4,5] [.pt 16 0,.pt 32 0] [16,32,336,400,416] [(eF_ [(.lit false)]),(eF_ [(.int .i64 (0:Int))]),some (.fl (E5 f)),(eF_ [(It.vsl va (Sq.g1 la))]),(eF_ [(It.vsl vb (Sq.g2 lb))])] 640 [[0,1,4,5,9,36]] [([(.ci (It.vsl va (Sq.g1 la))),(.ci (It.vsl vb (Sq.g2 lb))),.pt 16 0,.pt 32 0,.pt 336 0,(.ci (.clo 93 [(400,0),(416,0)]))],48)]
def ccZ (e :Int):St:=B0 48 [4,5] [.pt 16 0,.pt 32 0] [16,32] [(eF_ [(.lit false)]),(eF_ [(.int .i64 e)])] 320 [] []
theorem H4l (e:Int):G5 uzB Tryz.f18 false 3000 (⟨[],.ret,ccZ e⟩) [] [] []=(some ([],((.t [(.c (.lit false)),(.c (.int .i64 e))]),[]))):=by kernel_rfl
def dZ (r:Bool):St:=B0 48 [4,5] [.pt 16 0,.pt 32 0] [16,32] [some (.fl [.bool r]),(eF_ [(.int .i64 (0:Int))])] 576 [] []
theorem H4r (r:Bool):G5 uzB Tryz.f18 false 3000 (⟨[],.ret,dZ r⟩) [] [] []=(some ([],((.t [(.c (.bool r)),(.c (.int .i64 (0:Int)))]),[]))):=by kernel_rfl
end
end

section

def B6t (u v:F12):Bool:=decide (u.a.a.1=v.a.a.1) && (decide (u.a.a.2=v.a.a.2) && (decide (u.a.b.1=v.a.b.1) && (decide (u.a.b.2=v.a.b.2) && (decide (u.a.c.1=v.a.c.1) && (decide (u.a.c.2=v.a.c.2) && (decide (u.b.a.1=v.b.a.1) && (decide (u.b.a.2=v.b.a.2) && (decide (u.b.b.1=v.b.b.1) && (decide (u.b.b.2=v.b.b.2) && (decide (u.b.c.1=v.b.c.1) && decide (u.b.c.2=v.b.c.2)))))))))))
theorem E8v (u v:F12):B6t u v=true↔u=v:=by
 obtain ⟨⟨⟨a1,a2⟩,⟨a3,a4⟩,⟨a5,a6⟩⟩,⟨⟨a7,a8⟩,⟨a9,a10⟩,⟨a11,a12⟩⟩⟩:=u;obtain ⟨⟨⟨b1,b2⟩,⟨b3,b4⟩,⟨b5,b6⟩⟩,⟨⟨b7,b8⟩,⟨b9,b10⟩,⟨b11,b12⟩⟩⟩:=v;simp only[B6t,Bool.and_eq_true,decide_eq_true_eq,E2.mk.injEq,E3.mk.injEq,Prod.mk.injEq,and_assoc]
def A8n (l:List (G1D×G2D)):F12:=l.foldl (fun f z=>f*A4k z.1 z.2) 1
theorem E2b (l:List (G1D×G2D)) (z:G1D×G2D):A8n (l++[z])=A8n l*A4k z.1 z.2:=C6o (fun (f:F12) (z:G1D×G2D)=>f*A4k z.1 z.2) 1 l z
/-- The first pair that is refused. -/
def B7k:List (G1D×G2D)->Int
 | []=>0
 | z::l=>if (Y5 z.1 z.2 != 0)=true then Y5 z.1 z.2 else B7k l
def pcD (la:List G1D) (lb:List G2D):Bool×Int:=
 if la.length≠lb.length then (false,3) else if 64<la.length then (false,2) else if (B7k (la.zip lb) != 0)=true then (false,B7k (la.zip lb)) else (B6t (N7 (A8n (la.zip lb))) 1,0)
theorem B9o:∀l:List (G1D×G2D),(B7k l=0∧∀z∈l,(Y5 z.1 z.2 != 0)=false)∨∃n z,(∃t,l=l.take n++z::t)∧n<l.length∧(∀z∈l.take n,(Y5 z.1 z.2 != 0)=false)∧(Y5 z.1 z.2 != 0)=true∧B7k l=Y5 z.1 z.2
 | []=>.inl ⟨rfl,fun _ h=>nomatch h⟩
 | z::l=>by
  cases h:(Y5 z.1 z.2 != 0) with
  | true=>exact .inr ⟨0,z,⟨l,rfl⟩,by simp,by simp,h,by simp only[B7k,h,if_true]⟩
  | false=>
   have e:B7k (z::l)=B7k l:=by simp only[B7k,h];exact if_neg (fun k=>nomatch k)
   rw[e];rcases B9o l with ⟨h1,h2⟩ | ⟨n,y,⟨t,h1⟩,h2,h3,h4,h5⟩
   ·refine .inl ⟨h1,fun y hy=>?_⟩
    rcases List.mem_cons.1 hy with rfl | hy
    ·exact h
    ·exact h2 y hy
   ·refine .inr ⟨n+1,y,⟨t,by rw[List.take_succ_cons,List.cons_append,<-h1]⟩,by simpa using h2,fun y hy=>?_,h4,h5⟩
    rw[List.take_succ_cons] at hy;rcases List.mem_cons.1 hy with rfl | hy
    ·exact h
    ·exact h3 y hy

theorem E7h {x:Ctx} {u v:Value} {q:Sq} (h:B8 x (.v (.c (.vsl u q))) v):x.D (.sl q) [u]:=by
 obtain ⟨h1,h2⟩:=E3r h.2;simp only[List.cons.injEq,and_true] at h1;subst h1;exact h2
theorem A1h {y:Ctx} {v:Value} {b:Bool} {e:Int} (hd:B8 y (.t [.c (.lit b),.c (.int .i64 e)]) v):B8 y (.t [.c (.bool b),.c (.int .i64 e)]) v:=by
 obtain ⟨vs,rfl,h⟩:=hd
 cases h with
 | cons h1 h2=>exact ⟨_,rfl,.cons (Q4 rfl (y:=y) h1) h2⟩
/-- A rejected pair, or none. -/
structure Stp (la:List G1D) (lb:List G2D) (n:Nat) (stop:Option (G1D×G2D)):Prop where
 h1:n<=la.length
 h2:(stop=none∧n=la.length)∨(n<la.length∧stop=some (la.getD n g10,lb.getD n g20))
 h3:∀z∈(la.zip lb).take n,(Y5 z.1 z.2 != 0)=false
 h4:∀z,stop=some z->(Y5 z.1 z.2 != 0)=true∧B7k (la.zip lb)=Y5 z.1 z.2
 h5:stop=none->B7k (la.zip lb)=0
theorem I1b {la:List G1D} {lb:List G2D} (hlen:la.length=lb.length):∃n stop,Stp la lb n stop:=by
 have hz:(la.zip lb).length=la.length:=by simp [hlen]
 rcases B9o (la.zip lb) with ⟨h1,h2⟩ | ⟨n,z,⟨t,h1⟩,h2,h3,h4,h5⟩
 ·exact ⟨la.length,none,⟨Nat.le_refl _,.inl ⟨rfl,rfl⟩,fun z hz=>h2 z (List.mem_of_mem_take hz),fun z h=>(nomatch h),fun _=>h1⟩⟩
 ·rw[hz] at h2
  have e:=D9j hlen h2;have e2:(la.zip lb).take (n+1)=(la.zip lb).take n++[z]:=by
   have h6:((la.zip lb).take n).length=n:=by rw[List.length_take];omega
   conv=>lhs;rw[h1]
   rw[List.take_append,h6,List.take_of_length_le (by omega)]
   simp
  rw[e2] at e;have e3:=List.append_cancel_left e;simp only[List.cons.injEq,and_true] at e3;subst e3;exact ⟨n,some _,⟨by omega,.inr ⟨h2,rfl⟩,h3,fun z hz=>by cases hz;exact ⟨h4,h5⟩,fun h=>nomatch h⟩⟩
theorem H2u {la:List G1D} {lb:List G2D} (hlen:la.length=lb.length):(la.zip lb).take la.length=la.zip lb:=by
 rw[List.take_of_length_le];simp [hlen]

theorem G0v (va vb:Value) (la:List G1D) (lb:List G2D) (hlen:la.length=lb.length) (hlim:la.length<=64) :
  FnD Tryz.prog 18 [.v (.c (.vsl va (.g1 la))),.v (.c (.vsl vb (.g2 lb)))] (.t [.c (.bool (pcD la lb).1),.c (.int .i64 (pcD la lb).2)]) []:=by
 refine U2 (fn:=Tryz.f18) (c:=B9 Tryz.f18) Tryz.func18 rfl rfl fun X B hk hF hs=>?_
 have o1:(((la.length:Nat):Int) != ((lb.length:Nat):Int))=false:=by rw[hlen];simp
 have o2:decide (((la.length:Nat):Int) > (64:Int))=false:=by simp;omega
 refine cc va vb la lb ⟨o1,o2,trivial⟩ hs fun ac cJ aJ hs1=>?_
 obtain ⟨e1,e2⟩:=A2i (k:=B9l) (by kernel_rfl)
 rw[e1];have eP:(rfP B9l).toList=[25,26]:=by kernel_rfl
 have eG:rfG B9l = .tmp 24:=by kernel_rfl
 obtain ⟨n,stop,st⟩:=I1b hlen;have hda:cJ.D (.sl (.g1 la)) [va]:=E7h (hs1.t 0);have hsn:∀pre z,(∃t,(la.zip lb).take n=pre++z::t)->(Y5 z.1 z.2 != 0)=false:=fun pre z ⟨t,ht⟩=>st.h3 z (by rw[ht];simp)
 have hs1:Sim X.w X.F V9 ac { ccS va vb la lb 0 with nx:=320 } cJ aJ:=hs1
 refine A6l (ps:=rfP B9l) e2 hs1.own (gf:=93) (caps:=[(240,0),(256,0)]) (A4 Tryz.func93 rfl rfl) (fun _=>ccS va vb la lb 0) (fun s=>by rw[eG];rfl) ⟨_,rfl⟩ ((la.zip lb).take n) stop G1h C3j
  (fun y z=>.cons (F5k y z.1) (.cons (F5l y z.2) .nil)) (fun z=>by rw[<-Array.length_toList,eP];rfl) (fun pre p hp=>?_)
  (C3c hlen hlim st.h1 st.h2 (fun _=>rfl) (fun _=>rfl) fun y hy=>C5t hs1.mem hy rfl hda)
  (fun pre z=>ccM va vb la lb z.1.x z.1.y z.2.xa z.2.xb z.2.ya z.2.yb z.1.inf z.2.inf) (fun pre z=>ccE va vb la lb z.1.x z.1.y z.2.xa z.2.xb z.2.ya z.2.yb z.1.inf z.2.inf (Y5 z.1 z.2)) (fun pre z hz=>⟨_,by
   have h:=hsn pre z hz;have h0:Y5 z.1 z.2=0:=by simpa using h
   rw[h0];rfl⟩) (fun pre z hz w1 F1 K1 as1 Q1 l Y b hs2 hQ=>?_) (fun pre z hz w1 F1 K1 as1 Q1 l Y b hs2 hQ=>?_) (fun z hz w1 F1 K1 as1 Q1 l Y b hs2 hQ=>?_) (fun hst D Y hs2 hD hFD hd=>?_) (fun z hz D Y hs2 hD hFD hd=>?_)
 ·rw[eP] at hp
  simp only[List.mem_cons,List.not_mem_nil,or_false] at hp;rcases hp with rfl | rfl
  ·show 25<48
   decide
  ·show 26<48
   decide
 ·rw[eP] at hs2
  obtain ⟨⟨xa,ya,i⟩,⟨a,b,c,d,j⟩⟩:=z;exact cA va vb la lb xa ya a b c d i j trivial hs2 fun cZ aZ hs3=>⟨hQ _ _ (hs3.nx _)⟩
 ·have h:=hsn pre z hz
  have h0:Y5 z.1 z.2=0:=by simpa using h
  rw[h0] at hQ;obtain ⟨⟨xa,ya,i⟩,⟨a,b,c,d,j⟩⟩:=z;exact cN va vb la lb xa ya a b c d i j ⟨h,trivial⟩ hs2 fun cZ aZ hs3=>⟨hQ _ _ (hs3.nx _)⟩
 ·have h:=(st.h4 z hz).1
  obtain ⟨⟨xa,ya,i⟩,⟨a,b,c,d,j⟩⟩:=z;exact cY va vb la lb xa ya a b c d i j ⟨h,trivial⟩ hs2 fun cZ aZ hs3=>⟨hQ _ _ (hs3.nx _)⟩
 ·have e5:n=la.length:=by
   rcases st.h2 with ⟨_,h⟩ | ⟨_,h⟩
   ·exact h
   ·rw[hst] at h;cases h
  have eR:pcD la lb=(B6t (N7 (A8n (la.zip lb))) 1,0):=by
   unfold pcD;rw[if_neg (by omega),if_neg (by omega),st.h5 hst]
   exact if_neg (fun k=>nomatch k)
  rw[eR];have hs2:=hs1.outOwn hs2;have hD:=Nat.le_trans hs1.base.size hD;have hs3:=hs2.marked rfl rfl D;refine cW va vb la lb trivial hs3 fun cV aV hs4=>?_
  obtain ⟨k1,k2⟩:=A2i (k:=D4a) (by kernel_rfl)
  rw[k1];have kP:(rfP D4a).toList=[37,38]:=by kernel_rfl
  have kG:rfG D4a = .tmp 36:=by kernel_rfl
  have hdb:cV.D (.sl (.g1 la)) [va]:=E7h (hs4.t 0);have hs4:Sim Y.w Y.F (U3 Y V9 (I0 D)) ac { ceS va vb la lb (A8n []) with nx:=480 } cV aV:=hs4
  have hit:E3u Tryz.prog cV 93 [(400,0),(416,0)] C3j ((la.zip lb).take la.length) none (fun s=>(ceS va vb la lb (A8n s)).m) (A8u cV.w cV.F (U3 cV (U3 Y V9 (I0 D)) (I0 D))):=
   C3c hlen hlim (Nat.le_refl _) (.inl ⟨rfl,rfl⟩) (fun _=>rfl) (fun _=>rfl) fun y hy=>C5t hs4.mem hy rfl hdb
  refine A6l (ps:=rfP D4a) k2 hs4.own (gf:=93) (caps:=[(400,0),(416,0)]) (A4 Tryz.func93 rfl rfl) (fun s=>ceS va vb la lb (A8n s)) (fun s=>by rw[kG];rfl) ⟨_,rfl⟩ ((la.zip lb).take la.length) none G1h C3j
   (fun y z=>.cons (F5k y z.1) (.cons (F5l y z.2) .nil)) (fun z=>by rw[<-Array.length_toList,kP];rfl) (fun pre p hp=>?_) hit
   (fun pre z=>ceM va vb la lb (A8n pre) z.1.x z.1.y z.2.xa z.2.xb z.2.ya z.2.yb z.1.inf z.2.inf) (fun pre z=>ceE va vb la lb (A8n (pre++[z])) z.1.x z.1.y z.2.xa z.2.xb z.2.ya z.2.yb z.1.inf z.2.inf) (fun pre z _=>⟨_,rfl⟩)
   (fun pre z hz w1 F1 K1 as1 Q1 l Y b hs2 hQ=>?_) (fun pre z hz w1 F1 K1 as1 Q1 l Y b hs2 hQ=>?_) (fun z hz=>nomatch hz) (fun _ D' Y' hs5 hD' hFD' hd' => ?_) (fun z hz=>nomatch hz)
  ·rw[kP] at hp
   simp only[List.mem_cons,List.not_mem_nil,or_false] at hp;rcases hp with rfl | rfl
   ·show 37<48
    decide
   ·show 38<48
    decide
  ·rw[kP] at hs2
   obtain ⟨⟨xa,ya,i⟩,⟨a,b,c,d,j⟩⟩:=z;exact dA va vb la lb _ xa ya a b c d i j trivial hs2 fun cZ aZ hs3=>⟨hQ _ _ (hs3.nx _)⟩
  ·rw[E2b] at hQ
   obtain ⟨⟨xa,ya,i⟩,⟨a,b,c,d,j⟩⟩:=z;exact dN va vb la lb _ xa ya a b c d i j trivial hs2 fun cZ aZ hs3=>⟨hQ _ _ (hs3.nx _)⟩
  ·have hs5:=hs4.outOwn hs5
   have hD' := Nat.le_trans hs4.base.size hD';rw[H2u hlen] at hs5;generalize A8n (la.zip lb)=f at hs5 ⊢
   have hs6:=hs5.marked2 rfl D';refine dX va vb la lb f trivial hs6 fun ac3 cU aU hs7=>⟨?_⟩
   have hs8:Sim Y'.w Y'.F (U3 Y' (U3 Y V9 (I0 D)) (I0 D' ++ I0 D)) ac3 (dZ (if true=true then B6t (N7 f) 1 else !B6t (N7 f) 1)) cU aU:=Eq.mpr (by kernel_rfl) hs7
   rw[if_pos rfl] at hs8;generalize B6t (N7 f) 1=r at hs8 ⊢
   exact E0l M3 hk hF (H4r r) trivial (fun y v hd=>hd) hs2 hD hFD hd hs5 hD' hFD' hd' rfl hs8
 ·obtain ⟨h,h5⟩:=st.h4 z hz
  have eR:pcD la lb=(false,Y5 z.1 z.2):=by
   unfold pcD;rw[if_neg (by omega),if_neg (by omega),h5]
   exact if_pos h
  rw[eR];have hs2:=hs1.outOwn hs2;have hD:=Nat.le_trans hs1.base.size hD;generalize Y5 z.1 z.2=e at hs2 ⊢
  have hs2:Sim X.w X.F V9 ac { ccS va vb la lb e with nx:=(B7b (ccE va vb la lb z.1.x z.1.y z.2.xa z.2.xb z.2.ya z.2.yb z.1.inf z.2.inf e)).nx } Y aJ:=hs2
  have hs3:=(hs2.nx 320).marked rfl rfl D;refine cR va vb la lb e trivial hs3 fun ac2 cV aV hs4=>⟨?_⟩
  have hs5:Sim Y.w Y.F (U3 Y V9 (I0 D)) ac2 (ccZ e) cV aV:=hs4;exact Y7 M3 hk hF (H4l e) trivial (fun y v hd=>A1h hd) hs2 hD hFD hd rfl hs5
theorem E1w (la:List G1D) (lb:List G2D):FnD Tryz.prog 18 [.v (.c (.sl (.g1 la))),.v (.c (.sl (.g2 lb)))] (.t [.c (.bool (pcD la lb).1),.c (.int .i64 (pcD la lb).2)]) []:=by
 intro x vs hk hF hd;have key:∀va vb,FnD Tryz.prog 18 [.v (.c (.vsl va (.g1 la))),.v (.c (.vsl vb (.g2 lb)))] (.t [.c (.bool (pcD la lb).1),.c (.int .i64 (pcD la lb).2)]) []:=by
  intro va vb;by_cases h1:la.length=lb.length
  ·by_cases h2:la.length<=64
   ·exact G0v va vb la lb h1 h2
   ·have eR:pcD la lb=(false,2):=by
     unfold pcD;rw[if_neg (by omega),if_pos (by omega)]
    rw[eR];exact (A5 M3 Tryz.func18 (ccB va vb la lb) ⟨by rw[h1];simp,by simp;omega,trivial⟩).conv (fun _ _ h=>h) fun y v hd=>A1h hd
  ·have eR:pcD la lb=(false,3):=by
    unfold pcD;rw[if_pos h1]
   rw[eR];exact (A5 M3 Tryz.func18 (ccA va vb la lb) ⟨by simp;omega,trivial⟩).conv (fun _ _ h=>h) fun y v hd=>A1h hd
 cases hd with
 | cons h1 hd=>
  cases hd with
  | cons h2 hd=>
   cases hd with
   | nil=>exact key _ _ x _ hk hF (.cons ⟨rfl,E2z h1.2⟩ (.cons ⟨rfl,E2z h2.2⟩ .nil))
end

section
section
variable {w0:World} {F0:Nat->Prop} {K:Kp} {ac:List Act} {Q:Exit->Act->World->Prop} {cX:Ctx} {aX:Act}

def D4o:List KI:=(run B4l false 3000 (⟨[.code (B9 Tryz.f129)],.normal,D7 Tryz.f129.ntmps [.v (.a [.ob (.fr dF)])]⟩:Cfg) []).cfg.k
theorem di (k:U4):B1 []->Sg Tryz.prog (D7 Tryz.f129.ntmps [.v (.a [.ob (.fr k)])]) (B0 49 [1,3,4,5] [.pt 16 0,(.ci (.val (Value.slice Option.none 0 0))),.ii (0:Int),.ii (0:Int)] [16] [(eF_ [.ob (.fr k)])] 96 [] []) .normal (D4o) ([.code (B9 Tryz.f129)]):=sgA false 3000 [] P9
def diS (k:U4) (L:List Int) (n:Nat) (c i :Int):St:=B0 49 [1,3,4,5] [.pt 16 0,.v (.c (.slc 17 0 n 1)),.v (.c (.int .i64 c)),.v (.c (.int .i64 i))] [16,17] [(eF_ [.ob (.fr k)]),some (.sq (.int L))] 96 [] []
def B1q:List KI:=(run B4l false 3000 (⟨E8 D4o,.normal,diS dF dF dF dF dF⟩:Cfg) [true]).cfg.k
theorem diA (k:U4) (L:List Int) (n:Nat) (c i:Int):B1 [((decide (i<(256:Int)))=true)]->Sg Tryz.prog (diS k L n c i) (B0 49 [1,3,5,6,18] [.pt 16 0,(.ci (.slc 17 0 n 1)),.ii i,.ii c,.ii (0:Int)] [16,17] [(eF_ [.ob (.fr k)]),(eQ_ (.int L))] 240 [] []) .normal (B1q) (E8 D4o):=sgA false 3000 [true] P9
def diI (k:U4) (L:List Int) (n:Nat) (i d j :Int):St:=B0 49 [1,3,5,6,18] [.pt 16 0,(.ci (.slc 17 0 n 1)),.ii i,.v (.c (.int .i64 d)),.v (.c (.int .i64 j))] [16,17] [(eF_ [.ob (.fr k)]),(eQ_ (.int L))] 240 [] []
section
variable (k:U4) (L:List Int) (n:Nat) (i d j:Int)
theorem diB:let b:=wrap .i64 (i+j);let c:Int:=64;let a:=wrap .i64 (Int.tdiv b c);let f:=Int.tmod b c;B1 [((decide (j<(5:Int)))=true),((decide (b<(256:Int)))=true),(c≠(0:Int)),(0<=a),(a<(4:Int)),((0+((a).toNat*1))<(Ob.k (.fr k))),(c≠(0:Int)),(0<=f),(0<=j)]->Sg Tryz.prog (diI k L n i d j) (B0 49 [1,3,5,6,18] [.pt 16 0,(.ci (.slc 17 0 n 1)),.ii i,(.ii (wrap .i64 (d+(wrap .i64 ((wrap .i64 (I1 BinOp.and IntKind.u64 (Int.fdiv (A0 (Ob.n (.fr k)) (0+((a).toNat*1))) ((2:Int) ^ (Min.min (f).toNat 64))) (1:Int)))*((2:Int) ^ (Min.min (j).toNat 64))))))),(.ii (wrap .i64 (j+1)))] [16,17] [(eF_ [.ob (.fr k)]),(eQ_ (.int L))] 640 [] []) .normal (M7 B1q) (E8 B1q):=sgA false 3000 [true,true] P9
theorem diC:B1 [((decide (j<(5:Int)))=true),((decide ((wrap .i64 (i+j))<(256:Int)))=false)]->Sg Tryz.prog (diI k L n i d j) (B0 49 [1,3,5,6,18] [.pt 16 0,(.ci (.slc 17 0 n 1)),.ii i,.ii d,(.ii (wrap .i64 (j+1)))] [16,17] [(eF_ [.ob (.fr k)]),(eQ_ (.int L))] 416 [] []) .normal (M7 B1q) (E8 B1q):=sgA false 3000 [true,false] P9
theorem diD:let a:=L.length+1;B1 [((decide (j<(5:Int)))=false),((decide (d > (16:Int)))=true),((a*8)<=140737488355328),(a<=maxLen),(n=L.length),(1=1)]->Sg Tryz.prog (diI k L n i d j) (B0 49 [1,3,4,5] [.pt 16 0,(.ci (.slc 17 0 a 1)),.ii (1:Int),(.ii (wrap .i64 (i+(5:Int))))] [16,17] [(eF_ [.ob (.fr k)]),(eQ_ (.int (L++[(wrap .i64 (d-(32:Int)))])))] 496 [] []) .normal (M7 D4o) (E8 B1q):=sgA false 3000 [false,true] P9
theorem diE:let a:=L.length+1;B1 [((decide (j<(5:Int)))=false),((decide (d > (16:Int)))=false),((a*8)<=140737488355328),(a<=maxLen),(n=L.length),(1=1)]->Sg Tryz.prog (diI k L n i d j) (B0 49 [1,3,4,5] [.pt 16 0,(.ci (.slc 17 0 a 1)),.ii (0:Int),(.ii (wrap .i64 (i+(5:Int))))] [16,17] [(eF_ [.ob (.fr k)]),(eQ_ (.int (L++[d])))] 432 [] []) .normal (M7 D4o) (E8 B1q):=sgA false 3000 [false,false] P9
end
theorem G5v (k:U4) (L:List Int) (n:Nat) (c i:Int):G5 B4l Tryz.f129 false 3000 (⟨E8 D4o,.normal,diS k L n c i⟩) [false,false] [] [17]=(some ([((decide (i<(256:Int)))=false),((decide (c > (0:Int)))=false),(n=L.length)],((.ci (.sl (.int L))),[]))):=by kernel_rfl
end
end

section

/-- One bit, as it is reckoned. -/
theorem E7w (k:U4) {m j:Nat} (h:m+j<256) (hj:j<5):wrap IntKind.i64 ((wrap IntKind.i64 (I1 BinOp.and IntKind.u64 (Int.fdiv (A0 (Ob.n (Ob.fr k)) (0+(((wrap IntKind.i64 (Int.tdiv (wrap IntKind.i64 ((m:Int)+(j:Int))) (64:Int)))).toNat*1))) ((2:Int) ^ (Min.min ((Int.tmod (wrap IntKind.i64 ((m:Int)+(j:Int))) (64:Int))).toNat 64))) (1:Int)))*((2:Int) ^ (Min.min ((j:Int)).toNat 64)))=((k.val / 2 ^ (m+j) % 2*2 ^ j:Nat):Int):=by
 rw[C0 (n:=(m:Int)+(j:Int)) (by omega) (by omega),<-Int.natCast_add]
 generalize hi:m+j=i at *;have e1:Int.tdiv (i:Int) (64:Int)=((i / 64:Nat):Int):=Int.tdiv_eq_ediv_of_nonneg (by omega)
 have e2:Int.tmod (i:Int) (64:Int)=((i % 64:Nat):Int):=Int.tmod_eq_emod_of_nonneg (by omega)
 rw[e1,e2,C0 (n:=((i / 64:Nat):Int)) (by omega) (by omega),Int.toNat_natCast,Int.toNat_natCast,Int.toNat_natCast]
 have e3:Min.min (i % 64) 64=i % 64:=by omega
 have e4:0+i / 64*1=i / 64:=by omega
 have e5:Min.min j 64=j:=by omega
 rw[e3,e4,e5];have hl:A0 (Ob.n (Ob.fr k)) (i / 64)=((k.val / 2 ^ (64*(i / 64)) % 18446744073709551616:Nat):Int):=rfl;rw[hl];have hb:k.val / 2 ^ (64*(i / 64)) % 18446744073709551616 / 2 ^ (i % 64) % 2=k.val / 2 ^ i % 2:=by
  have h64:18446744073709551616=2 ^ (i % 64)*(2*2 ^ (63-i % 64)):=by
   rw[<-Nat.pow_succ',<-Nat.pow_add,show i % 64+(63-i % 64+1)=64 from by omega]
  rw[h64,Nat.mod_mul_right_div_self,Nat.mod_mul_right_mod,Nat.div_div_eq_div_mul,<-Nat.pow_add,show 64*(i / 64)+i % 64=i from Nat.div_add_mod i 64]
 rw[<-hb];have hlt:k.val / 2 ^ (64*(i / 64)) % 18446744073709551616<18446744073709551616:=Nat.mod_lt _ (by decide)
 generalize k.val / 2 ^ (64*(i / 64)) % 18446744073709551616=w at *;have hp:((2:Int) ^ (i % 64))=((2 ^ (i % 64):Nat):Int):=by simp
 have hp2:((2:Int) ^ j)=((2 ^ j:Nat):Int):=by simp
 rw[hp,hp2,Int.fdiv_eq_ediv_of_nonneg _ (Int.natCast_nonneg _),<-Int.natCast_ediv];generalize w / 2 ^ (i % 64)=v;have ha:I1 BinOp.and IntKind.u64 (v:Int) (1:Int)=((v % 2:Nat):Int):=by
  show wrap IntKind.u64 ((BitVec.ofInt 64 (v:Int) &&& BitVec.ofInt 64 ((1:Nat):Int)).toNat:Int)=_;rw[BitVec.ofInt_natCast,BitVec.ofInt_natCast,BitVec.toNat_and,BitVec.toNat_ofNat,BitVec.toNat_ofNat];have e:1 % 2 ^ 64=2 ^ 1-1:=by decide
  rw[e,Nat.and_two_pow_sub_one_eq_mod];show (((v % 2 ^ 64 % 2 ^ 1:Nat):Int)) % 18446744073709551616=_;omega
 have h32:2 ^ j<=2 ^ 4:=Nat.pow_le_pow_right (by decide) (by omega)
 have h2:v % 2<2:=Nat.mod_lt _ (by decide)
 have hm:v % 2*2 ^ j<=1*2 ^ 4:=Nat.mul_le_mul (by omega) h32
 rw[ha,C0 (n:=((v % 2:Nat):Int)) (by omega) (by omega),<-Int.natCast_mul,C0 (by omega) (by omega)]

theorem G4d (k m j:Nat):k / 2 ^ m % 2 ^ (j+1)=k / 2 ^ m % 2 ^ j+k / 2 ^ (m+j) % 2*2 ^ j:=by
 rw[Nat.pow_succ,Nat.mod_mul,Nat.div_div_eq_div_mul,<-Nat.pow_add,Nat.mul_comm (2 ^ j)]
theorem I3c (k m:Nat):k / 2 ^ (5*m) % 2 ^ 5=k / 32 ^ m % 32:=by
 rw[Nat.pow_mul]
theorem G3s (k:U4):k.val<2 ^ 256:=by
 have h:B4=2 ^ 256:=by decide +kernel
 rw[<-h];exact k.isLt

theorem E0c (k:U4) {N:Nat} (hN:N=52):FnD Tryz.prog 129 [.v (.a [.ob (.fr k)])] (.v (.c (.sl (.int (dgW k.val N).1)))) []:=by
 refine J3 (fn:=Tryz.f129) (c:=B9 Tryz.f129) Tryz.func129 rfl rfl fun x0 a0 hk hF hs=>?_
 refine di k trivial hs fun ac cY aY hs1=>?_
 have hs2:=hs1.nilRow (p:=17) (q:=.int []) rfl (by decide) rfl (ml' := [16,17]) (ens' := [some (.fl [.ob (.fr k)]),some (.sq (.int []))]) (fun r=>C9t (by decide)) (svs' := [.v (.c (.ptr 16 0)),.v (.c (.slc 17 0 0 1)),.v (.c (.int .i64 0)),.v (.c (.int .i64 0))]) ⟨.inl rfl,.inr ⟨1,rfl,rfl⟩,.inl rfl,.inl rfl,trivial⟩
 change Wq Tryz.prog _ _ _ _ _ (K7 cY 17).w
 refine E6 (ι:={ m:Nat // m<=N }) (fun m=>diS k (dgW k.val m.1).1 m.1 ((dgW k.val m.1).2:Int) ((5*m.1:Nat):Int)) (fun m=>N-m.1) (c:=lpC D4o) (k:=lpR D4o) (by kernel_rfl) (fun m ih ac cY aY hs=>?_) ⟨0,Nat.zero_le _⟩ (hs2.nx _)
 obtain ⟨m,hm⟩:=m;simp only at ih hs
 have hc:=B4j k.val m;have hl:=A7f k.val m;by_cases h:m<N
 ·refine diA k _ m _ _ ⟨decide_eq_true (by omega),trivial⟩ hs fun ac cZ aZ hs3=>?_
  have e0:(((dgW k.val m).2:Nat):Int)=(((dgW k.val m).2+k.val / 2 ^ (5*m) % 2 ^ 0:Nat):Int):=by rw[Nat.pow_zero,Nat.mod_one,Nat.add_zero]
  rw[e0] at hs3;refine E6 (ι:={ j:Nat // j<=5 }) (fun j=>diI k (dgW k.val m).1 m ((5*m:Nat):Int) (((dgW k.val m).2+k.val / 2 ^ (5*m) % 2 ^ j.1:Nat):Int) (j.1:Int)) (fun j=>5-j.1) (c:=lpC B1q) (k:=lpR B1q) (by kernel_rfl) (fun j ih2 ac cY aY hs=>?_) ⟨0,Nat.zero_le _⟩ (hs3.nx _)
  obtain ⟨j,hj⟩:=j;simp only at ih2 hs
  have hpj:k.val / 2 ^ (5*m) % 2 ^ j<2 ^ j:=Nat.mod_lt _ (Nat.two_pow_pos _);have hj5:2 ^ j<=2 ^ 5:=Nat.pow_le_pow_right (by decide) hj
  by_cases hj2:j<5
  ·have ej:wrap IntKind.i64 ((j:Int)+1)=((j+1:Nat):Int):=by rw[C0 (by omega) (by omega)];rfl
   have hsum:=G4d k.val (5*m) j;by_cases hb:5*m+j<256
   ·have eb:=E7w k hb hj2
    have hw:wrap IntKind.i64 (((5*m:Nat):Int)+(j:Int))=((5*m+j:Nat):Int):=by rw[C0 (by omega) (by omega)];rfl
    have ht:Int.tdiv ((5*m+j:Nat):Int) 64=(((5*m+j) / 64:Nat):Int):=Int.tdiv_eq_ediv_of_nonneg (by omega)
    have ht2:Int.tmod ((5*m+j:Nat):Int) 64=(((5*m+j) % 64:Nat):Int):=Int.tmod_eq_emod_of_nonneg (by omega)
    have hw2:wrap IntKind.i64 (((5*m+j) / 64:Nat):Int)=(((5*m+j) / 64:Nat):Int):=C0 (by omega) (by omega)
    refine diB k _ m _ _ _ ⟨decide_eq_true (by omega),by rw[hw];exact decide_eq_true (by omega),by decide,by rw[hw,ht,hw2];omega,by rw[hw,ht,hw2];omega,by rw[hw,ht,hw2,Int.toNat_natCast];show _<4;omega,by decide,by rw[hw,ht2];omega,by omega,trivial⟩ hs fun ac cU aU hs4=>?_
    rw[eb,ej] at hs4;have hbit:k.val / 2 ^ (5*m+j) % 2*2 ^ j<=1*2 ^ 5:=Nat.mul_le_mul (by omega) hj5
    rw[C0 (by omega) (by omega),<-Int.natCast_add,Nat.add_assoc,<-hsum] at hs4
    exact ih2 ⟨j+1,hj2⟩ (by show 5-(j+1)<5-j;omega) ac cU aU (hs4.nx _)
   ·have hw:wrap IntKind.i64 (((5*m:Nat):Int)+(j:Int))=((5*m+j:Nat):Int):=by rw[C0 (by omega) (by omega)];rfl
    refine diC k _ m _ _ _ ⟨decide_eq_true (by omega),by rw[hw];exact decide_eq_false (by omega),trivial⟩ hs fun ac cU aU hs4=>?_
    have h0:k.val / 2 ^ (5*m+j)=0:=Nat.div_eq_of_lt (Nat.lt_of_lt_of_le (G3s k) (Nat.pow_le_pow_right (by decide) (by omega)))
    rw[h0,Nat.zero_mod,Nat.zero_mul,Nat.add_zero (k.val / 2 ^ (5*m) % 2 ^ j)] at hsum;rw[ej,<-hsum] at hs4;exact ih2 ⟨j+1,hj2⟩ (by show 5-(j+1)<5-j;omega) ac cU aU (hs4.nx _)
  ·have:j=5:=by omega
   subst this;rw[I3c,Nat.add_comm] at hs;have hw5:k.val / 32 ^ m % 32<32:=Nat.mod_lt _ (by decide)
   have e5:wrap IntKind.i64 (((5*m:Nat):Int)+5)=((5*(m+1):Nat):Int):=by rw[C0 (by omega) (by omega)];omega
   have hml:(dgW k.val m).1.length<=52:=by omega
   have hmax:(dgW k.val m).1.length+1<=maxLen:=Nat.le_trans (by omega) (show 53<=maxLen by decide)
   by_cases hg:k.val / 32 ^ m % 32+(dgW k.val m).2 > 16
   ·refine diD k _ m _ _ _ ⟨by decide,decide_eq_true (by omega),by omega,hmax,hl.symm,rfl,trivial⟩ hs fun ac cU aU hs4=>?_
    rw[e5,hl,C0 (by omega) (by omega)] at hs4
    refine ih ⟨m+1,h⟩ (by show N-(m+1)<N-m;omega) ac cU aU ?_
    show Sim _ _ _ _ (diS k (dgW k.val (m+1)).1 (m+1) ((dgW k.val (m+1)).2:Int) ((5*(m+1):Nat):Int)) _ _;rw[B1p hg];exact hs4.nx _
   ·refine diE k _ m _ _ _ ⟨by decide,decide_eq_false (by omega),by omega,hmax,hl.symm,rfl,trivial⟩ hs fun ac cU aU hs4=>?_
    rw[e5,hl] at hs4;refine ih ⟨m+1,h⟩ (by show N-(m+1)<N-m;omega) ac cU aU ?_
    show Sim _ _ _ _ (diS k (dgW k.val (m+1)).1 (m+1) ((dgW k.val (m+1)).2:Int) ((5*(m+1):Nat):Int)) _ _;rw[A1m hg];exact hs4.nx _
 ·obtain rfl:m=N:=by omega
  have h0:=(E4q hN (G3s k)).2;exact H2 P9 hk hF (G5v k (dgW k.val m).1 m ((dgW k.val m).2:Int) ((5*m:Nat):Int)) ⟨decide_eq_false (by omega),by rw[h0];decide,hl.symm,trivial⟩ (fun y v hd=>hd) hs

end

section
section
variable {w0:World} {F0:Nat->Prop} {K:Kp} {ac:List Act} {Q:Exit->Act->World->Prop} {cX:Ctx} {aX:Act}

def A9a:B2
 | [.v (.a [.ob (.fr k)])]=>some ([],.v (.c (.sl (.int (dgW k.val 52).1))),[])
 | _=>none
def ucA:Env:=uaB.set (C6 uaB.fn 129 A9a)
theorem B1c:A9 Tryz.prog ucA:=A8 G3t 129 A9a (A4 Tryz.func129 rfl rfl) fun args o r es h _=>by
 unfold A9a at h;split at h
 ·cases h;exact E0c _ (Eq.refl 52)
 ·cases h
def F6m (T:Nat->Option Func) (f:Nat):Option Func:=if f=140 then some Tryz.f140 else T f
def ucB:Env:={ ucA with inl:=F6m ucA.inl }
theorem A6x:A9 Tryz.prog ucB:=by
 refine ⟨B1c.ty,B1c.mixed,B1c.fn,B1c.mu,fun f fn h=>?_,B1c.ex,B1c.inv⟩
 have h:F6m ucA.inl f=some fn:=h;unfold F6m at h;split at h
 ·rename_i hf;cases h;subst hf;exact ⟨Tryz.func140,A4 Tryz.func140 rfl rfl⟩
 exact B1c.inl f fn h
def B7m:List KI:=(run ucB false 3000 ((fun (P:List (Fp×Fp×Fp)) (D:List Int)=>(⟨[.code (B9 Tryz.f130)],.normal,D7 Tryz.f130.ntmps [.v (.c (.sl (.pt P))),.v (.c (.sl (.int D)))]⟩:Cfg)) default default) []).cfg.k
theorem kb (P:List (Fp×Fp×Fp)) (D:List Int):let a:Fp:=0;B1 []->Sg Tryz.prog (D7 Tryz.f130.ntmps [.v (.c (.sl (.pt P))),.v (.c (.sl (.int D)))]) (B0 45 [1,4,5,9,10,11] [(.ci (.sl (.int D))),.pt 16 0,.pt 32 0,(.ci (.sl (Sq.pt P))),(.ii (P.length:Int)),.ii (0:Int)] [16,32] [(eF_ [(.ob (.p a)),(.ob (.p a)),(.ob (.p a))]),(eF_ [(.ob (.p a)),(.ob (.p a)),(.ob (.p a)),(.ob (.p a)),(.ob (.p a)),(.ob (.p a)),(.ob (.p a)),(.ob (.p a)),(.ob (.p a)),(.ob (.p a)),(.ob (.p a)),(.ob (.p a)),(.ob (.p a)),(.ob (.p a)),(.ob (.p a)),(.ob (.p a)),(.ob (.p a)),(.ob (.p a)),(.ob (.p a)),(.ob (.p a)),(.ob (.p a)),(.ob (.p a)),(.ob (.p a)),(.ob (.p a)),(.ob (.p a)),(.ob (.p a)),(.ob (.p a)),(.ob (.p a)),(.ob (.p a)),(.ob (.p a)),(.ob (.p a)),(.ob (.p a)),(.ob (.p a)),(.ob (.p a)),(.ob (.p a)),(.ob (.p a)),(.ob (.p a)),(.ob (.p a)),(.ob (.p a)),(.ob (.p a)),(.ob (.p a)),(.ob (.p a)),(.ob (.p a)),(.ob (.p a)),(.ob (.p a)),(.ob (.p a)),(.ob (.p a)),(.ob (.p a)),(.ob (.p a)),(.ob (.p a)),(.ob (.p a))])] 96 [] []) .normal (B7m) ([.code (B9 Tryz.f130)]):=sgA false 3000 [] A6x
def kbS (P:List (Fp×Fp×Fp)) (D:List Int) (S:List (Fp×Fp×Fp)) (i:Int):St:=B0 45 [1,4,5,9,10,11] [(.ci (.sl (.int D))),.pt 16 0,.pt 32 0,(.ci (.sl (Sq.pt P))),(.ii (P.length:Int)),.v (.c (.int .i64 i))] [16,32] [(eF_ [(.ob (.p (0:Fp))),(.ob (.p (0:Fp))),(.ob (.p (0:Fp)))]),some (.sq (.pt S))] 96 [] []
theorem kbA (P:List (Fp×Fp×Fp)) (D:List Int) (S:List (Fp×Fp×Fp)) (i:Int):let a:=D.getD i.toNat 0;let b:Int:=P.length;let c:=(a).toNat<S.length;B1 [((decide (i<b))=true),(0<=i),(i<b),(0<=i),(i<(D.length:Int)),((decide (a > (0:Int)))=true),(0<=a),(a<(17:Int)),(0=0),c,(0<=a),(a<(17:Int)),(0=0),c]->Sg Tryz.prog (kbS P D S i) (B0 45 [1,4,5,9,10,11] [(.ci (.sl (.int D))),.pt 16 0,.pt 32 0,(.ci (.sl (Sq.pt P))),(.ii b),(.ii (wrap .i64 (i+1)))] [16,32] [(eF_ [(.ob (.p (0:Fp))),(.ob (.p (0:Fp))),(.ob (.p (0:Fp)))]),(eQ_ (Sq.pt (List.set S (a).toNat (jpl (List.getD S (a).toNat pt0) (List.getD P (i).toNat pt0)))))] 496 [] []) .normal (M7 B7m) (E8 B7m):=sgA false 3000 [true,true] A6x
theorem kbB (P:List (Fp×Fp×Fp)) (D:List Int) (S:List (Fp×Fp×Fp)) (i:Int):let b:=D.getD i.toNat 0;let a:=wrap .i64 ((0:Int)-b);let c:Int:=P.length;let d:=(a).toNat<S.length;B1 [((decide (i<c))=true),(0<=i),(i<c),(0<=i),(i<(D.length:Int)),((decide (b > (0:Int)))=false),((decide (b<(0:Int)))=true),(0<=a),(a<(17:Int)),(0=0),d,(0<=a),(a<(17:Int)),(0=0),d]->Sg Tryz.prog (kbS P D S i) (B0 45 [1,4,5,9,10,11] [(.ci (.sl (.int D))),.pt 16 0,.pt 32 0,(.ci (.sl (Sq.pt P))),(.ii c),(.ii (wrap .i64 (i+1)))] [16,32] [(eF_ [(.ob (.p (0:Fp))),(.ob (.p (0:Fp))),(.ob (.p (0:Fp)))]),(eQ_ (Sq.pt (List.set S (a).toNat (jpl (List.getD S (a).toNat pt0) (jng (List.getD P (i).toNat pt0))))))] 592 [] []) .normal (M7 B7m) (E8 B7m):=sgA false 3000 [true,false,true] A6x
theorem kbC (P:List (Fp×Fp×Fp)) (D:List Int) (S:List (Fp×Fp×Fp)) (i:Int):let a:Int:=P.length;let b:=D.getD i.toNat 0;B1 [((decide (i<a))=true),(0<=i),(i<a),(0<=i),(i<(D.length:Int)),((decide (b > (0:Int)))=false),((decide (b<(0:Int)))=false)]->Sg Tryz.prog (kbS P D S i) (B0 45 [1,4,5,9,10,11] [(.ci (.sl (.int D))),.pt 16 0,.pt 32 0,(.ci (.sl (Sq.pt P))),(.ii a),(.ii (wrap .i64 (i+1)))] [16,32] [(eF_ [(.ob (.p (0:Fp))),(.ob (.p (0:Fp))),(.ob (.p (0:Fp)))]),(eQ_ (Sq.pt S))] 416 [] []) .normal (M7 B7m) (E8 B7m):=sgA false 3000 [true,false,false] A6x
def C6x:List KI:=(run ucB false 3000 ((fun (P:List (Fp×Fp×Fp)) (D:List Int) (S:List (Fp×Fp×Fp)) (i:Int)=>(⟨E8 B7m,.normal,kbS P D S i⟩:Cfg)) default default default default) [false]).cfg.k
theorem kbX (P:List (Fp×Fp×Fp)) (D:List Int) (S:List (Fp×Fp×Fp)) (i:Int):let a:=eF_ [(.ob (.p (0:Fp))),(.ob (.p (0:Fp))),(.ob (.p (0:Fp)))];B1 [((decide (i<(P.length:Int)))=false)]->Sg Tryz.prog (kbS P D S i) (B0 21 [0,2,3,4,5] [.pt 32 0,.pt 112 0,.pt 128 0,.pt 144 0,.ii (16:Int)] [16,32,112,128,144] [a,(eQ_ (Sq.pt S)),a,a,a] 176 [[4]] [([.pt 16 0],45)]) .normal (C6x) (E8 B7m):=sgA false 3000 [false] A6x
def kbT (S:List (Fp×Fp×Fp)) (r o:Fp×Fp×Fp) (d:Int):St:=B0 21 [0,2,3,4,5] [.pt 32 0,.pt 112 0,.pt 128 0,.pt 144 0,.v (.c (.int .i64 d))] [16,32,112,128,144] [(eF_ [(.ob (.p (0:Fp))),(.ob (.p (0:Fp))),(.ob (.p (0:Fp)))]),(eQ_ (Sq.pt S)),(eF_ [(.ob (.p (0:Fp))),(.ob (.p (0:Fp))),(.ob (.p (0:Fp)))]),some (.fl [.ob (.p o.1),.ob (.p o.2.1),.ob (.p o.2.2)]),some (.fl [.ob (.p r.1),.ob (.p r.2.1),.ob (.p r.2.2)])] 176 [[4]] [([.pt 16 0],45)]
theorem kbU (S:List (Fp×Fp×Fp)) (r o:Fp×Fp×Fp) (d:Int):let a:=jpl r (List.getD S (d).toNat pt0);let b:=eF_ [(.ob (.p (0:Fp))),(.ob (.p (0:Fp))),(.ob (.p (0:Fp)))];let c:=Prod.snd (jpl o a);B1 [((decide (d > (0:Int)))=true),(0<=d),(d<(17:Int)),(0=0),((d).toNat<S.length)]->Sg Tryz.prog (kbT S r o d) (B0 21 [0,2,3,4,5] [.pt 32 0,.pt 112 0,.pt 128 0,.pt 144 0,(.ii (wrap .i64 (d-1)))] [16,32,112,128,144] [b,(eQ_ (Sq.pt S)),b,(eF_ [(.ob (.p (Prod.fst (jpl o a)))),(.ob (.p (Prod.fst c))),(.ob (.p (Prod.snd c)))]),(eF_ [(.ob (.p (Prod.fst a))),(.ob (.p (Prod.fst (Prod.snd a)))),(.ob (.p (Prod.snd (Prod.snd a))))])] 448 [[4]] [([.pt 16 0],45)]) .normal (M7 C6x) (E8 C6x):=sgA false 3000 [true] A6x
theorem G8a (S:List (Fp×Fp×Fp)) (r o:Fp×Fp×Fp) (d:Int):G5 ucB Tryz.f130 false 3000 (⟨E8 C6x,.normal,kbT S r o d⟩) [false] [] []=(some ([((decide (d > (0:Int)))=false)],((.v (.a [(.ob (.p (Prod.fst o))),(.ob (.p (Prod.fst (Prod.snd o)))),(.ob (.p (Prod.snd (Prod.snd o))))])),[]))):=by kernel_rfl
end
end

section

theorem F1g {x:Ctx} {n:Nat} (L:List (Fp×Fp×Fp)) (h:L.length=n) (cs:List Value) (hc:C7 x (.fl (I3 L 0 n)) cs):C7 x (.sq (.pt L)) cs:=by
 obtain ⟨hl,hj⟩:=A5l L n 0 cs hc;refine ⟨?_,fun i hi=>?_⟩
 ·show L.length*18<=cs.length
  rw[h,hl];exact Nat.le_refl _
 ·have hi:i<L.length:=hi
  rw[h] at hi;obtain ⟨c,h1,h2⟩:=hj i hi;rw[Nat.zero_add] at h1;exact ⟨c,h1,h2⟩

theorem D3z (P:List (Fp×Fp×Fp)) (D:List Int) (hl:D.length=P.length) (hp:P.length<=4611686018427387904) (hd:∀i,-16<=D.getD i 0∧D.getD i 0<=16) :
  FnD Tryz.prog 130 [.v (.c (.sl (.pt P))),.v (.c (.sl (.int D)))] (.v (.a (J6 (bkT pt0 P D)))) []:=by
 refine J3 (fn:=Tryz.f130) (c:=B9 Tryz.f130) Tryz.func130 rfl rfl fun x0 a0 hk hF hs=>?_
 refine kb P D trivial hs fun ac cY aY hs1=>?_
 have hs2:=hs1.blocks (ens' := [some (.fl [.ob (.p 0),.ob (.p 0),.ob (.p 0)]),some (.sq (.pt (List.replicate 17 pt0)))])
  ⟨.inl rfl,.inr ⟨_,_,_,rfl,rfl,rfl,fun cs h=>F1g (n:=17) _ rfl cs h⟩,trivial⟩
 have hlen:∀i,(bkN pt0 (List.replicate 17 pt0) P D i).length=17:=fun i=>(C8r ..).trans List.length_replicate
 refine E6 (ι:={ i:Nat // i<=P.length }) (fun i=>kbS P D (bkN pt0 (List.replicate 17 pt0) P D i.1) (i.1:Int)) (fun i=>P.length-i.1) (c:=lpC B7m) (k:=lpR B7m) (by kernel_rfl) (fun i ih ac cY aY hs=>?_) ⟨0,Nat.zero_le _⟩ (hs2.nx _)
 obtain ⟨i,hi⟩:=i;simp only at ih hs
 have hS:=hlen i;by_cases h:i<P.length
 ·have hnext:bkN pt0 (List.replicate 17 pt0) P D (i+1)=bkS pt0 (bkN pt0 (List.replicate 17 pt0) P D i) (P.getD i pt0) (D.getD i 0):=rfl
  have ei:wrap IntKind.i64 ((i:Int)+1)=((i+1:Nat):Int):=by rw[C0 (by omega) (by omega)];rfl
  have hdi:=hd i;have go:∀(S' : List (Fp×Fp×Fp)) (n:Nat) (ac:List Act) (cU:Ctx) (aU:Act),S' = bkN pt0 (List.replicate 17 pt0) P D (i+1)->Sim x0.w x0.F V9 ac (kbS P D S' ((i+1:Nat):Int)) cU aU->Wq Tryz.prog (D3t Tryz.prog Tryz.f130 x0 (.v (.a (J6 (bkT pt0 P D)))) []) (M7 B7m) ac .normal aU cU.w:=by
   intro S' n ac cU aU e hs
   rw[e] at hs;exact ih ⟨i+1,h⟩ (by show P.length-(i+1)<P.length-i;omega) ac cU aU hs
  generalize bkN pt0 (List.replicate 17 pt0) P D i=S at hs hS hnext;generalize hd0:D.getD i 0=d at hdi hnext;by_cases hpos:d > 0
  ·refine kbA P D S i ⟨decide_eq_true (by omega),by omega,by omega,by omega,by omega,?_,?_,?_,rfl,?_,?_,?_,rfl,?_,trivial⟩ hs fun ac cU aU hs3=>?_
   all_goals try rw[Int.toNat_natCast,hd0]
   ·exact decide_eq_true hpos
   ·omega
   ·omega
   ·omega
   ·omega
   ·omega
   ·omega
   ·rw[Int.toNat_natCast,hd0,ei] at hs3
    refine go _ 0 ac cU aU ?_ (hs3.nx _)
    rw[hnext];exact (if_pos hpos).symm
  ·by_cases hneg:d<0
   ·have ew:wrap IntKind.i64 ((0:Int)-d) = -d:=by rw[C0 (by omega) (by omega)];omega
    refine kbB P D S i ⟨decide_eq_true (by omega),by omega,by omega,by omega,by omega,?_,?_,?_,?_,rfl,?_,?_,?_,rfl,?_,trivial⟩ hs fun ac cU aU hs3=>?_
    all_goals try rw[Int.toNat_natCast,hd0]
    ·exact decide_eq_false hpos
    ·exact decide_eq_true hneg
    all_goals try rw[ew]
    ·omega
    ·omega
    ·omega
    ·omega
    ·omega
    ·omega
    ·rw[Int.toNat_natCast,hd0,ew,ei] at hs3
     refine go _ 0 ac cU aU ?_ (hs3.nx _)
     rw[hnext];unfold bkS;rw[if_neg hpos,if_pos hneg]
   ·refine kbC P D S i ⟨decide_eq_true (by omega),by omega,by omega,by omega,by omega,?_,?_,trivial⟩ hs fun ac cU aU hs3=>?_
    all_goals try rw[Int.toNat_natCast,hd0]
    ·exact decide_eq_false hpos
    ·exact decide_eq_false hneg
    ·rw[ei] at hs3
     refine go _ 0 ac cU aU ?_ (hs3.nx _)
     rw[hnext];unfold bkS;rw[if_neg hpos,if_neg hneg]
 ·obtain rfl:i=P.length:=by omega
  have hT:bkT pt0 P D=toO pt0 (bkN pt0 (List.replicate 17 pt0) P D P.length) 16:=rfl;rw[hT];generalize bkN pt0 (List.replicate 17 pt0) P D P.length=S at hs hS ⊢
  refine kbX P D S _ ⟨decide_eq_false (by omega),trivial⟩ hs fun ac cU aU hs3=>?_
  refine E6 (ι:={ n:Nat // n<=16 }) (fun n=>kbT S (toR pt0 S n.1) (toO pt0 S n.1) ((16-n.1:Nat):Int)) (fun n=>16-n.1) (c:=lpC C6x) (k:=lpR C6x) (by kernel_rfl) (fun n ih2 ac cY aY hs=>?_) ⟨0,Nat.zero_le _⟩ (hs3.nx _)
  obtain ⟨n,hn⟩:=n;simp only at ih2 hs
  by_cases hn16:n<16
  ·refine kbU S _ _ _ ⟨decide_eq_true (by omega),by omega,by omega,rfl,by rw[Int.toNat_natCast,hS];omega,trivial⟩ hs fun ac cV aV hs4=>?_
   have en:wrap IntKind.i64 (((16-n:Nat):Int)-1)=((16-(n+1):Nat):Int):=by rw[C0 (by omega) (by omega)];omega
   have e1:jpl (toR pt0 S n) (S.getD (16-n) pt0)=toR pt0 S (n+1):=rfl;have e2:jpl (toO pt0 S n) (toR pt0 S (n+1))=toO pt0 S (n+1):=rfl;rw[Int.toNat_natCast,en,e1,e2] at hs4;exact ih2 ⟨n+1,hn16⟩ (by show 16-(n+1)<16-n;omega) ac cV aV (hs4.nx _)
  ·obtain rfl:n=16:=by omega
   exact H2 A6x hk hF (G8a S _ _ _) ⟨by decide,trivial⟩ (fun y v hd=>hd) hs

end

section
section
variable {w0:World} {F0:Nat->Prop} {K:Kp} {ac:List Act} {Q:Exit->Act->World->Prop} {cX:Ctx} {aX:Act}

theorem C8t (P:List (Fp×Fp×Fp)) (D:List Int) (h:D.length=P.length∧P.length<=4611686018427387904∧G5y D):FnD Tryz.prog 130 [.v (.c (.sl (.pt P))),.v (.c (.sl (.int D)))] (.v (.a (J6 (bkT pt0 P D)))) []:=D3z P D h.1 h.2.1 h.2.2
def A5j:B2
 | [.v (.c (.sl (.pt P))),.v (.c (.sl (.int D)))]=>some ([D.length=P.length,P.length<=4611686018427387904,G5y D],.v (.a (J6 (bkT pt0 P D))),[])
 | _=>none
def ucC:Env:=ucB.set (C6 ucB.fn 130 A5j)
theorem A3e:A9 Tryz.prog ucC:=A8 A6x 130 A5j (A4 Tryz.func130 rfl rfl) fun args o r es h ho=>by
 unfold A5j at h;split at h
 ·cases h;exact C8t _ _ ⟨ho.1,ho.2.1,ho.2.2.1⟩
 ·cases h
def D9o:List KI:=(run ucC false 3000 ((fun (P:List (Fp×Fp×Fp)) (k:List U4)=>(⟨[.code (B9 Tryz.f101)],.normal,D7 Tryz.f101.ntmps [.v (.c (.sl (.pt P))),.v (.c (.sl (.fr k)))]⟩:Cfg)) default default) []).cfg.k
theorem am (P:List (Fp×Fp×Fp)) (k:List U4):B1 []->Sg Tryz.prog (D7 Tryz.f101.ntmps [.v (.c (.sl (.pt P))),.v (.c (.sl (.fr k)))]) (B0 72 [0,1,4,5,6,15,16,17] [(.ci (.sl (Sq.pt P))),(.ci (.sl (.fr k))),.pt 16 0,(.ci (.val (Value.slice Option.none 0 0))),.ii (0:Int),(.ci (.sl (.fr k))),(.ii (k.length:Int)),.ii (0:Int)] [16] [(eF_ [(.ob (.p (0:Fp))),(.ob (.p (0:Fp))),(.ob (.p (0:Fp)))])] 112 [] []) .normal (D9o) ([.code (B9 Tryz.f101)]):=sgA false 3000 [] A3e
def amS (P:List (Fp×Fp×Fp)) (k:List U4) (R:List (List Int)) (n:Nat) (m i:Int):St:=B0 72 [0,1,4,5,6,15,16,17] [(.ci (.sl (Sq.pt P))),(.ci (.sl (.fr k))),.pt 16 0,.v (.c (.slc 17 0 n 1)),.v (.c (.int .i64 m)),(.ci (.sl (.fr k))),(.ii (k.length:Int)),.v (.c (.int .i64 i))] [16,17] [(eF_ [(.ob (.p (0:Fp))),(.ob (.p (0:Fp))),(.ob (.p (0:Fp)))]),some (.sq (.ints R))] 112 [] []
theorem amA (P:List (Fp×Fp×Fp)) (k:List U4) (R:List (List Int)) (n:Nat) (m i:Int):let a:=Prod.fst (dgW (Fin.val (k.getD i.toNat 0)) 52);let b:Int:=k.length;let c:=R.length+1;let d:Int:=(a.length:Nat);B1 [((decide (i<b))=true),(0<=i),(i<b),((c*24)<=140737488355328),(c<=maxLen),(n=R.length),(1=1)]->Sg Tryz.prog (amS P k R n m i) (B0 72 [0,1,4,5,6,15,16,17] [(.ci (.sl (Sq.pt P))),(.ci (.sl (.fr k))),.pt 16 0,(.ci (.slc 17 0 c 1)),(.ii (ite (d > m) d m)),(.ci (.sl (.fr k))),(.ii b),(.ii (wrap .i64 (i+1)))] [16,17] [(eF_ [(.ob (.p (0:Fp))),(.ob (.p (0:Fp))),(.ob (.p (0:Fp)))]),(eQ_ (.ints (R++[a])))] 432 [] []) .normal (M7 D9o) (E8 D9o):=sgA false 3000 [true] A3e
def B8t:List KI:=(run ucC false 3000 ((fun (P:List (Fp×Fp×Fp)) (k:List U4) (R:List (List Int)) (n:Nat) (m i:Int)=>(⟨E8 D9o,.normal,amS P k R n m i⟩:Cfg)) default default default default default default) [false]).cfg.k
theorem amB (P:List (Fp×Fp×Fp)) (k:List U4) (R:List (List Int)) (n:Nat) (m i:Int):let a:Int:=k.length;let b:=eF_ [(.ob (.p (0:Fp))),(.ob (.p (0:Fp))),(.ob (.p (0:Fp)))];B1 [((decide (i<a))=false),(0<=a),(a=a),(((8:Int)*a)<=(281474976710656:Int)),(a<=(9223372036854775807:Int))]->Sg Tryz.prog (amS P k R n m i) (B0 72 [0,4,5,10,11,12] [(.ci (.sl (Sq.pt P))),.pt 16 0,(.ci (.slc 17 0 n 1)),.pt 128 0,(.ci (.slc 176 0 (a).toNat 1)),(.ii (wrap .i64 (m-1)))] [16,17,128,176] [b,(eQ_ (.ints R)),b,(eQ_ (.int (List.replicate (a).toNat 0)))] 256 [] []) .normal (B8t) (E8 D9o):=sgA false 3000 [false] A3e
def amT (P:List (Fp×Fp×Fp)) (R:List (List Int)) (n q:Nat) (D:List Int) (o:Fp×Fp×Fp) (h:Int):St:=B0 72 [0,4,5,10,11,12] [(.ci (.sl (Sq.pt P))),.pt 16 0,(.ci (.slc 17 0 n 1)),.pt 128 0,.v (.c (.slc 176 0 q 1)),.v (.c (.int .i64 h))] [16,17,128,176] [(eF_ [(.ob (.p (0:Fp))),(.ob (.p (0:Fp))),(.ob (.p (0:Fp)))]),(eQ_ (.ints R)),some (.fl [.ob (.p o.1),.ob (.p o.2.1),.ob (.p o.2.2)]),some (.sq (.int D))] 256 [] []
def B8u:List KI:=(run ucC false 3000 ((fun (P:List (Fp×Fp×Fp)) (R:List (List Int)) (n q:Nat) (D:List Int) (o:Fp×Fp×Fp) (h:Int)=>(⟨E8 B8t,.normal,amT P R n q D o h⟩:Cfg)) default default default default default default default) [true]).cfg.k
theorem amC (P:List (Fp×Fp×Fp)) (R:List (List Int)) (n q:Nat) (D:List Int) (o:Fp×Fp×Fp) (h:Int):B1 [((decide (h >= (0:Int)))=true)]->Sg Tryz.prog (amT P R n q D o h) (B0 72 [0,4,5,10,11,12,41] [(.ci (.sl (Sq.pt P))),.pt 16 0,(.ci (.slc 17 0 n 1)),.pt 128 0,(.ci (.slc 176 0 q 1)),.ii h,.ii (0:Int)] [16,17,128,176] [(eF_ [(.ob (.p (0:Fp))),(.ob (.p (0:Fp))),(.ob (.p (0:Fp)))]),(eQ_ (.ints R)),(eF_ [(.ob (.p (Prod.fst o))),(.ob (.p (Prod.fst (Prod.snd o)))),(.ob (.p (Prod.snd (Prod.snd o))))]),(eQ_ (.int D))] 304 [] []) .normal (B8u) (E8 B8t):=sgA false 3000 [true] A3e
def amU (P:List (Fp×Fp×Fp)) (R:List (List Int)) (n q:Nat) (D:List Int) (o:Fp×Fp×Fp) (h j:Int):St:=B0 72 [0,4,5,10,11,12,41] [(.ci (.sl (Sq.pt P))),.pt 16 0,(.ci (.slc 17 0 n 1)),.pt 128 0,(.ci (.slc 176 0 q 1)),.ii h,.v (.c (.int .i64 j))] [16,17,128,176] [(eF_ [(.ob (.p (0:Fp))),(.ob (.p (0:Fp))),(.ob (.p (0:Fp)))]),(eQ_ (.ints R)),(eF_ [(.ob (.p (Prod.fst o))),(.ob (.p (Prod.fst (Prod.snd o)))),(.ob (.p (Prod.snd (Prod.snd o))))]),(eQ_ (.int D))] 304 [] []
theorem amD (P:List (Fp×Fp×Fp)) (R:List (List Int)) (n q:Nat) (D:List Int) (o:Fp×Fp×Fp) (h j:Int):let a:=Prod.snd (jtw o);B1 [((decide (j<(5:Int)))=true)]->Sg Tryz.prog (amU P R n q D o h j) (B0 72 [0,4,5,10,11,12,41] [(.ci (.sl (Sq.pt P))),.pt 16 0,(.ci (.slc 17 0 n 1)),.pt 128 0,(.ci (.slc 176 0 q 1)),.ii h,(.ii (wrap .i64 (j+1)))] [16,17,128,176] [(eF_ [(.ob (.p (0:Fp))),(.ob (.p (0:Fp))),(.ob (.p (0:Fp)))]),(eQ_ (.ints R)),(eF_ [(.ob (.p (Prod.fst (jtw o)))),(.ob (.p (Prod.fst a))),(.ob (.p (Prod.snd a)))]),(eQ_ (.int D))] 400 [] []) .normal (M7 B8u) (E8 B8u):=sgA false 3000 [true] A3e
def C5q:List KI:=(run ucC false 3000 ((fun (P:List (Fp×Fp×Fp)) (R:List (List Int)) (n q:Nat) (D:List Int) (o:Fp×Fp×Fp) (h j:Int)=>(⟨E8 B8u,.normal,amU P R n q D o h j⟩:Cfg)) default default default default default default default default) [false]).cfg.k
theorem amE (P:List (Fp×Fp×Fp)) (R:List (List Int)) (n q:Nat) (D:List Int) (o:Fp×Fp×Fp) (h j:Int):B1 [((decide (j<(5:Int)))=false),(q=D.length)]->Sg Tryz.prog (amU P R n q D o h j) (B0 72 [0,4,5,10,11,12,47,48,49] [(.ci (.sl (Sq.pt P))),.pt 16 0,(.ci (.slc 17 0 n 1)),.pt 128 0,(.ci (.slc 176 0 q 1)),.ii h,(.ci (.slc 17 0 n 1)),(.ii ((n:Nat):Int)),.ii (0:Int)] [16,17,128,176] [(eF_ [(.ob (.p (0:Fp))),(.ob (.p (0:Fp))),(.ob (.p (0:Fp)))]),(eQ_ (.ints R)),(eF_ [(.ob (.p (Prod.fst o))),(.ob (.p (Prod.fst (Prod.snd o)))),(.ob (.p (Prod.snd (Prod.snd o))))]),(eQ_ (.int (List.replicate D.length (0:Int))))] 400 [] []) .normal (C5q) (E8 B8u):=sgA false 3000 [false] A3e
def amV (P:List (Fp×Fp×Fp)) (R:List (List Int)) (n q:Nat) (D:List Int) (o:Fp×Fp×Fp) (h i:Int):St:=B0 72 [0,4,5,10,11,12,47,48,49] [(.ci (.sl (Sq.pt P))),.pt 16 0,(.ci (.slc 17 0 n 1)),.pt 128 0,(.ci (.slc 176 0 q 1)),.ii h,(.ci (.slc 17 0 n 1)),(.ii ((n:Nat):Int)),.v (.c (.int .i64 i))] [16,17,128,176] [(eF_ [(.ob (.p (0:Fp))),(.ob (.p (0:Fp))),(.ob (.p (0:Fp)))]),(eQ_ (.ints R)),(eF_ [(.ob (.p (Prod.fst o))),(.ob (.p (Prod.fst (Prod.snd o)))),(.ob (.p (Prod.snd (Prod.snd o))))]),some (.sq (.int D))] 400 [] []
theorem amF (P:List (Fp×Fp×Fp)) (R:List (List Int)) (n q:Nat) (D:List Int) (o:Fp×Fp×Fp) (h i:Int):let a:=List.getD R (i).toNat ([]:List Int);let b:Int:=(n:Nat);let c:=h<((a.length:Nat):Int);B1 [((decide (i<b))=true),(0<=i),(i<b),(0=0),((i).toNat<R.length),((decide c)=true),(0<=h),c,(0<=i),(i<((q:Nat):Int)),(0=0),((i).toNat<D.length)]->Sg Tryz.prog (amV P R n q D o h i) (B0 72 [0,4,5,10,11,12,47,48,49] [(.ci (.sl (Sq.pt P))),.pt 16 0,(.ci (.slc 17 0 n 1)),.pt 128 0,(.ci (.slc 176 0 q 1)),.ii h,(.ci (.slc 17 0 n 1)),(.ii b),(.ii (wrap .i64 (i+1)))] [16,17,128,176] [(eF_ [(.ob (.p (0:Fp))),(.ob (.p (0:Fp))),(.ob (.p (0:Fp)))]),(eQ_ (.ints R)),(eF_ [(.ob (.p (Prod.fst o))),(.ob (.p (Prod.fst (Prod.snd o)))),(.ob (.p (Prod.snd (Prod.snd o))))]),(eQ_ (.int (List.set D (i).toNat (List.getD a (h).toNat 0))))] 720 [] []) .normal (M7 C5q) (E8 C5q):=sgA false 3000 [true,true] A3e
theorem amH (P:List (Fp×Fp×Fp)) (R:List (List Int)) (n q:Nat) (D:List Int) (o:Fp×Fp×Fp) (h i:Int):let a:=jpl o (bkT pt0 P D);B1 [((decide (i<((n:Nat):Int)))=false),(0=0),(q=D.length),(1=1),(D.length=P.length),(P.length<=4611686018427387904),(G5y D)]->Sg Tryz.prog (amV P R n q D o h i) (B0 72 [0,4,5,10,11,12] [(.ci (.sl (Sq.pt P))),.pt 16 0,(.ci (.slc 17 0 n 1)),.pt 128 0,(.ci (.slc 176 0 q 1)),(.ii (wrap .i64 (h-1)))] [16,17,128,176] [(eF_ [(.ob (.p (0:Fp))),(.ob (.p (0:Fp))),(.ob (.p (0:Fp)))]),(eQ_ (.ints R)),(eF_ [(.ob (.p (Prod.fst a))),(.ob (.p (Prod.fst (Prod.snd a)))),(.ob (.p (Prod.snd (Prod.snd a))))]),(eQ_ (.int D))] 560 [] []) .normal (M7 B8t) (E8 C5q):=sgA false 3000 [false] A3e
theorem G4r (P:List (Fp×Fp×Fp)) (R:List (List Int)) (n q:Nat) (D:List Int) (o:Fp×Fp×Fp) (h:Int):G5 ucC Tryz.f101 false 3000 (⟨E8 B8t,.normal,amT P R n q D o h⟩) [false] [] []=(some ([((decide (h >= (0:Int)))=false)],((.v (.a [(.ob (.p (Prod.fst o))),(.ob (.p (Prod.fst (Prod.snd o)))),(.ob (.p (Prod.snd (Prod.snd o))))])),[]))):=by kernel_rfl
end
end

section

theorem G4q (P:List (Fp×Fp×Fp)) (k:List U4) (hk0:k.length=P.length) (hp:P.length<=4096) {N:Nat} (hN:N=52) :
  FnD Tryz.prog 101 [.v (.c (.sl (.pt P))),.v (.c (.sl (.fr k)))] (.v (.a (J6 (smJ N pt0 P k)))) []:=by
 refine J3 (fn:=Tryz.f101) (c:=B9 Tryz.f101) Tryz.func101 rfl rfl fun x0 a0 hk hF hs=>?_
 refine am P k trivial hs fun ac cY aY hs1=>?_
 have hs2:=hs1.nilRow (p:=17) (q:=.ints []) rfl (by decide) rfl (ml' := [16,17]) (ens' := [some (.fl [.ob (.p 0),.ob (.p 0),.ob (.p 0)]),some (.sq (.ints []))]) (fun r=>C9t (by decide))
  (svs' := [.v (.c (.sl (.pt P))),.v (.c (.sl (.fr k))),.v (.c (.ptr 16 0)),.v (.c (.slc 17 0 0 1)),.v (.c (.int .i64 0)),.v (.c (.sl (.fr k))),.v (.c (.int .i64 ((k.length:Nat):Int))),.v (.c (.int .i64 0))]) ⟨.inl rfl,.inl rfl,.inl rfl,.inr ⟨1,rfl,rfl⟩,.inl rfl,.inl rfl,.inl rfl,.inl rfl,trivial⟩
 have hL:=E4m N k;have hrow:=@G5t N k;have hget:=C9g N k;have hdig:=G5s N k;have hmax:4097<=maxLen:=by decide
 change Wq Tryz.prog _ _ _ _ _ (K7 cY 17).w
 refine E6 (ι:={ i:Nat // i<=k.length }) (fun i=>amS P k ((dgK N k).take i.1) i.1 (if i.1=0 then 0 else (N:Int)) (i.1:Int)) (fun i=>k.length-i.1) (c:=lpC D9o) (k:=lpR D9o) (by kernel_rfl) (fun i ih ac cY aY hs=>?_) ⟨0,Nat.zero_le _⟩ (hs2.nx _)
 obtain ⟨i,hi⟩:=i;simp only at ih hs
 have htl:((dgK N k).take i).length=i:=by rw[List.length_take,hL];omega
 by_cases h:i<k.length
 ·refine amA P k _ i _ i ⟨decide_eq_true (by omega),by omega,by omega,by rw[htl];omega,by rw[htl];omega,htl.symm,rfl,trivial⟩ hs fun ac cU aU hs3=>?_
  have ei:wrap IntKind.i64 ((i:Int)+1)=((i+1:Nat):Int):=by rw[C0 (by omega) (by omega)];rfl
  have e52:(dgW (k.getD i 0).val 52).1=(dgK N k).getD i []:=by rw[hget i h,hN]
  rw[Int.toNat_natCast,ei,htl,e52,B6c _ _ (by omega),hrow i h] at hs3
  have em:(if ((N:Nat):Int) > (if i=0 then 0 else (N:Int)) then ((N:Nat):Int) else (if i=0 then 0 else (N:Int)))=(if i+1=0 then 0 else (N:Int)):=by
   rw[if_neg (show ¬i+1=0 from by omega)]
   split<;>split<;>omega
  rw[em] at hs3;exact ih ⟨i+1,h⟩ (by show k.length-(i+1)<k.length-i;omega) ac cU aU (hs3.nx _)
 ·obtain rfl:i=k.length:=by omega
  have ht:(dgK N k).take k.length=dgK N k:=by rw[<-hL,List.take_length]
  rw[ht] at hs;have em:(if k.length=0 then 0 else (N:Int))=((D6n N k:Nat):Int):=by
   cases k with
   | nil=>rfl
   | cons x l=>rfl
  rw[em] at hs;have hm52:D6n N k<=52:=by
   cases k with
   | nil=>exact Nat.zero_le _
   | cons x l=>exact Nat.le_of_eq hN
  have hmN:0<k.length->D6n N k=N:=by
   intro h
   cases k with
   | nil=>cases h
   | cons x l=>rfl
  refine amB P k _ k.length _ _ ⟨decide_eq_false (by omega),by omega,rfl,by omega,by omega,trivial⟩ hs fun ac cU aU hs3=>?_
  rw[Int.toNat_natCast] at hs3;have hres:smJ N pt0 P k=alN pt0 P (dgK N k) (D6n N k) (D6n N k):=rfl;rw[hres];generalize dgK N k=L at hs3 hL hrow hdig ⊢
  generalize D6n N k=m at hs3 hm52 hmN ⊢
  have eh:wrap IntKind.i64 ((m:Int)-1)=(m:Int)-1-((0:Nat):Int):=by rw[C0 (by omega) (by omega)];omega
  rw[eh] at hs3;refine E6 (ι:={ p:Nat×List Int // p.1<=m∧p.2.length=k.length }) (fun p=>amT P L k.length k.length p.1.2 (alN pt0 P L m p.1.1) ((m:Int)-1-(p.1.1:Int))) (fun p=>m-p.1.1) (c:=lpC B8t) (k:=lpR B8t) (by kernel_rfl) (fun p ih2 ac cY aY hs=>?_) ⟨(0,List.replicate k.length 0),Nat.zero_le _,List.length_replicate⟩ (hs3.nx _)
  obtain ⟨⟨t,D⟩,ht1,hD⟩:=p;simp only at ih2 hs ht1 hD
  by_cases htm:t<m
  ·have hlt:m-(t+1)<m-t:=by omega
   obtain ⟨a,ha⟩:∃a:Nat,a=m-1-t:=⟨_,rfl⟩
   have ea:(m:Int)-1-(t:Int)=(a:Int):=by omega
   rw[ea] at hs;have hnext:alN pt0 P L m (t+1)=jpl (A3r 5 (alN pt0 P L m t)) (bkT pt0 P (A0z L a)):=by rw[ha];rfl
   generalize alN pt0 P L m t=o at hs hnext;refine amC P L _ _ D o _ ⟨decide_eq_true (by omega),trivial⟩ hs fun ac cZ aZ hs4=>?_
   refine E6 (ι:={ j:Nat // j<=5 }) (fun j=>amU P L k.length k.length D (A3r j.1 o) (a:Int) (j.1:Int)) (fun j=>5-j.1) (c:=lpC B8u) (k:=lpR B8u) (by kernel_rfl) (fun j ih3 ac cY aY hs=>?_) ⟨0,Nat.zero_le _⟩ (hs4.nx _)
   obtain ⟨j,hj⟩:=j;simp only at ih3 hs
   by_cases hj5:j<5
   ·have ej:jtw (A3r j o)=A3r (j+1) o:=(C6w j o).symm
    generalize A3r j o=o1 at hs ej;refine amD P L _ _ D _ _ _ ⟨decide_eq_true (by omega),trivial⟩ hs fun ac cV aV hs5=>?_
    rw[C0 (n:=(j:Int)+1) (by omega) (by omega),ej] at hs5
    exact ih3 ⟨j+1,hj5⟩ (by show 5-(j+1)<5-j;omega) ac cV aV (hs5.nx _)
   ·obtain rfl:j=5:=by omega
    generalize A3r 5 o=o5 at hs hnext;refine amE P L _ _ D _ _ _ ⟨by decide,hD.symm,trivial⟩ hs fun ac cV aV hs5=>?_
    refine E6 (ι:={ p:Nat×List Int // p.1<=k.length∧p.2.length=k.length∧∀j,j<p.1->p.2.getD j 0=(L.getD j []).getD a 0 }) (fun p=>amV P L k.length k.length p.1.2 o5 (a:Int) (p.1.1:Int)) (fun p=>k.length-p.1.1) (c:=lpC C5q) (k:=lpR C5q) (by kernel_rfl) (fun p ih4 ac cY aY hs=>?_)
     ⟨(0,List.replicate D.length 0),Nat.zero_le _,List.length_replicate.trans hD,fun j hj=>absurd hj (Nat.not_lt_zero j)⟩ (hs5.nx _)
    obtain ⟨⟨i,E⟩,hi1,hE,hEg⟩:=p;simp only at ih4 hs hi1 hE hEg
    by_cases hik:i<k.length
    ·have hri:=hrow i hik
     have hmn:=hmN (by omega)
     refine amF P L _ _ E _ _ _ ⟨decide_eq_true (by omega),by omega,by omega,rfl,by rw[Int.toNat_natCast];omega,by rw[Int.toNat_natCast,hri];exact decide_eq_true (by omega),by omega,by rw[Int.toNat_natCast,hri];omega,by omega,by omega,rfl,by rw[Int.toNat_natCast];omega,trivial⟩ hs fun ac cW aW hs6=>?_
     rw[Int.toNat_natCast,Int.toNat_natCast,C0 (n:=(i:Int)+1) (by omega) (by omega)] at hs6
     refine ih4 ⟨(i+1,E.set i ((L.getD i []).getD a 0)),hik,(List.length_set ..).trans hE,fun j hj=>?_⟩ (by show k.length-(i+1)<k.length-i;omega) ac cW aW (hs6.nx _)
     have hj:j<i+1:=hj;show (E.set i _).getD j 0=_;rw[A6r _ _ _ _ _ (by omega)]
     by_cases e:j=i
     ·subst e;rw[if_pos rfl]
     ·rw[if_neg e];exact hEg j (by omega)
    ·obtain rfl:i=k.length:=by omega
     have hrowE:E=A0z L a:=H1n (by omega) fun j hj=>hEg j (by omega)
     subst hrowE;have hds:G5y (A0z L a):=fun j=>by rw[C7x];exact hdig j a
     refine amH P L _ _ _ _ _ _ ⟨decide_eq_false (by omega),rfl,by omega,rfl,by omega,by omega,hds,trivial⟩ hs fun ac cW aW hs6=>?_
     have e7:wrap IntKind.i64 ((a:Int)-1)=(m:Int)-1-((t+1:Nat):Int):=by rw[C0 (by omega) (by omega)];omega
     rw[e7,<-hnext] at hs6;have ih5:=ih2 ⟨(t+1,A0z L a),htm,hE⟩ hlt;dsimp only at ih5;generalize alN pt0 P L m (t+1)=oN at hs6 ih5;exact ih5 ac cW aW (hs6.nx _)
  ·obtain rfl:t=m:=by omega
   exact H2 A3e hk hF (G4r P L _ _ D _ _) ⟨decide_eq_false (by omega),trivial⟩ (fun y v hd=>hd) hs

end

section

theorem tkA (a b:Int) (w:Bool):B5 B4l Tryz.f100 3000 [.v (.c (.int .i64 a)),.v (.c (.int .i64 b)),.v (.c (.bool w))] [true] [] []=(some ([((a != b)=true)],((.ii (3:Int)),[]))):=by kernel_rfl
theorem tkB (a b:Int) (w:Bool):B5 B4l Tryz.f100 3000 [.v (.c (.int .i64 a)),.v (.c (.int .i64 b)),.v (.c (.bool w))] [false,true] [] []=(some ([((a != b)=false),((decide (a > (4096:Int)))=true)],((.ii (2:Int)),[]))):=by kernel_rfl
theorem tkC (a b:Int) (w:Bool):B5 B4l Tryz.f100 3000 [.v (.c (.int .i64 a)),.v (.c (.int .i64 b)),.v (.c (.bool w))] [false,false,true] [] []=(some ([((a != b)=false),((decide (a > (4096:Int)))=false),(w=true)],((.ii (30:Int)),[]))):=by kernel_rfl
theorem tkD (a b:Int) (w:Bool):B5 B4l Tryz.f100 3000 [.v (.c (.int .i64 a)),.v (.c (.int .i64 b)),.v (.c (.bool w))] [false,false,false] [] []=(some ([((a != b)=false),((decide (a > (4096:Int)))=false),(w=false)],((.ii (0:Int)),[]))):=by kernel_rfl
end

section

theorem E8l (a b:Int) (w:Bool):FnD Tryz.prog 100 [.v (.c (.int .i64 a)),.v (.c (.int .i64 b)),.v (.c (.bool w))] (.v (.c (.int .i64 (A3h a b w)))) []:=by
 by_cases h:a=b
 ·by_cases h2:a > 4096
  ·rw[F2x h h2]
   exact A5 P9 Tryz.func100 (tkB a b w) ⟨by simp [h],decide_eq_true h2,trivial⟩
  ·cases w with
   | true=>rw[H3a h h2 rfl];exact A5 P9 Tryz.func100 (tkC a b true) ⟨by simp [h],decide_eq_false h2,rfl,trivial⟩
   | false=>rw[E4d h h2 rfl];exact A5 P9 Tryz.func100 (tkD a b false) ⟨by simp [h],decide_eq_false h2,rfl,trivial⟩
 ·rw[F2y h]
  exact A5 P9 Tryz.func100 (tkA a b w) ⟨by simp [h],trivial⟩

end

section
section
variable {w0:World} {F0:Nat->Prop} {K:Kp} {ac:List Act} {Q:Exit->Act->World->Prop} {cX:Ctx} {aX:Act}

theorem F1y (P:List (Fp×Fp×Fp)) (k:List U4) (h:k.length=P.length∧P.length<=4096):FnD Tryz.prog 101 [.v (.c (.sl (.pt P))),.v (.c (.sl (.fr k)))] (.v (.a (J6 (smJ 52 pt0 P k)))) []:=G4q P k h.1 h.2 (Eq.refl 52)
def C8l:B2
 | [.v (.c (.sl (.pt P))),.v (.c (.sl (.fr k)))]=>some ([k.length=P.length,P.length<=4096],.v (.a (J6 (smJ 52 pt0 P k))),[])
 | _=>none
def udA:Env:=ucC.set (C6 ucC.fn 101 C8l)
theorem C4m:A9 Tryz.prog udA:=A8 A3e 101 C8l (A4 Tryz.func101 rfl rfl) fun args o r es h ho=>by
 unfold C8l at h;split at h
 ·cases h;exact F1y _ _ ⟨ho.1,ho.2.1⟩
 ·cases h
def E8t:List KI:=(run udA false 3000 (⟨[.code (B9 Tryz.f102)],.normal,D7 Tryz.f102.ntmps [.v (.c (.sl (.g1 dF))),.v (.c (.clo 40 []))]⟩:Cfg) []).cfg.k
theorem ea (l:List G1D):let a:Int:=l.length;B1 [(0<=a),(a=a),(((144:Int)*a)<=(281474976710656:Int)),(a<=(9223372036854775807:Int))]->Sg Tryz.prog (D7 Tryz.f102.ntmps [.v (.c (.sl (.g1 l))),.v (.c (.clo 40 []))]) (B0 26 [1,5,11,12,13] [(.ci (.clo 40 ([]:List (Prod Nat Nat)))),(.ci (.slc 64 0 (a).toNat 18)),(.ci (.sl (Sq.g1 l))),(.ii a),.ii (0:Int)] [64] [(eQ_ (Sq.pt (List.replicate (a).toNat pt0)))] 144 [] []) .normal (E8t) ([.code (B9 Tryz.f102)]):=sgA false 3000 [] C4m
def eaS (l:List G1D) (L:List (Fp×Fp×Fp)) (n:Nat) (i:Int):St:=B0 26 [1,5,11,12,13] [(.ci (.clo 40 ([]:List (Prod Nat Nat)))),.v (.c (.slc 64 0 n 18)),(.ci (.sl (Sq.g1 l))),(.ii (l.length:Int)),.v (.c (.int .i64 i))] [64] [some (.sq (.pt L))] 144 [] []
theorem eaA (l:List G1D) (L:List (Fp×Fp×Fp)) (n:Nat) (i:Int):let a:Int:=l.length;B1 [((decide (i<a))=true),(0<=i),(i<a),(0<=i),(i<((n:Nat):Int)),(0=0),((i).toNat<L.length)]->Sg Tryz.prog (eaS l L n i) (B0 26 [1,5,11,12,13] [(.ci (.clo 40 ([]:List (Prod Nat Nat)))),(.ci (.slc 64 0 n 18)),(.ci (.sl (Sq.g1 l))),(.ii a),(.ii (wrap .i64 (i+1)))] [64] [(eQ_ (Sq.pt (List.set L (i).toNat (inG (List.getD l (i).toNat g10)))))] 400 [] []) .normal (M7 E8t) (E8 E8t):=sgA false 3000 [true] C4m
theorem G5z (l:List G1D) (L:List (Fp×Fp×Fp)) (n:Nat) (i:Int):G5 udA Tryz.f102 false 3000 (⟨E8 E8t,.normal,eaS l L n i⟩) [false] [] [64]=(some ([((decide (i<(l.length:Int)))=false),(n=L.length)],((.ci (.sl (Sq.pt L))),[]))):=by kernel_rfl
theorem I9r (a b:U6) (i:Bool):B5 udA Tryz.f99 3000 [.v (.a [.ob (.fp a),.ob (.fp b),.bool i])] [] [] []=(some ([],((.ci (.bool (Bool.not (onG (G1D.mk a b i))))),[]))):=by kernel_rfl
def C2m:B2
 | [.v (.a [.ob (.fp a),.ob (.fp b),.bool i])]=>some ([],.v (.c (.bool (!(onG ⟨a,b,i⟩)))),[])
 | _=>none
def udB:Env:=udA.set (C6 udA.fn 99 C2m)
theorem C4n:A9 Tryz.prog udB:=A8 C4m 99 C2m (A4 Tryz.func99 rfl rfl) fun args o r es h _=>by
 unfold C2m at h;split at h
 ·cases h;exact A5 C4m Tryz.func99 (I9r _ _ _) trivial
 ·cases h
def E0t:List KI:=(run udB false 3000 (⟨[.code (B9 Tryz.f128)],.normal,D7 Tryz.f128.ntmps [.v (.c (.sl (.g1 dF))),.v (.c (.clo 99 []))]⟩:Cfg) []).cfg.k
theorem iw (l:List G1D):B1 []->Sg Tryz.prog (D7 Tryz.f128.ntmps [.v (.c (.sl (.g1 l))),.v (.c (.clo 99 []))]) (B0 19 [0,1,7,8] [(.ci (.sl (Sq.g1 l))),(.ci (.clo 99 ([]:List (Prod Nat Nat)))),(.ii (l.length:Int)),.ii (0:Int)] [] [] 80 [] []) .normal (E0t) ([.code (B9 Tryz.f128)]):=sgA false 3000 [] C4n
def iwS (l:List G1D) (i :Int):St:=B0 19 [0,1,7,8] [(.ci (.sl (Sq.g1 l))),(.ci (.clo 99 ([]:List (Prod Nat Nat)))),(.ii (l.length:Int)),.v (.c (.int .i64 i))] [] [] 80 [] []
theorem iwA (l:List G1D) (i:Int):let a:Int:=l.length;B1 [((decide (i<a))=true),(0<=i),(i<a),((Bool.not (onG (List.getD l (i).toNat g10)))=false)]->Sg Tryz.prog (iwS l i) (B0 19 [0,1,7,8] [(.ci (.sl (Sq.g1 l))),(.ci (.clo 99 ([]:List (Prod Nat Nat)))),(.ii a),(.ii (wrap .i64 (i+1)))] [] [] 256 [] []) .normal (M7 E0t) (E8 E0t):=sgA false 3000 [true,false] C4n
theorem G7w (l:List G1D) (i:Int):let a:=i<(l.length:Int);G5 udB Tryz.f128 false 3000 (⟨E8 E0t,.normal,iwS l i⟩) [true,true] [] []=(some ([((decide a)=true),(0<=i),a,((Bool.not (onG (List.getD l (i).toNat g10)))=true)],((.ii i),[]))):=by intros;kernel_rfl
theorem G7v (l:List G1D) (i:Int):G5 udB Tryz.f128 false 3000 (⟨E8 E0t,.normal,iwS l i⟩) [false] [] []=(some ([((decide (i<(l.length:Int)))=false)],((.ii (-1)),[]))):=by kernel_rfl
end
end

section

theorem F4h (l:List G1D) (hl:l.length<=1048576):FnD Tryz.prog 102 [.v (.c (.sl (.g1 l))),.v (.c (.clo 40 []))] (.v (.c (.sl (.pt (l.map inG))))) []:=by
 refine J3 (fn:=Tryz.f102) (c:=B9 Tryz.f102) Tryz.func102 rfl rfl fun x0 a0 hk hF hs=>?_
 refine ea l ⟨by omega,rfl,by omega,by omega,trivial⟩ hs fun ac cY aY hs1=>?_
 rw[Int.toNat_natCast] at hs1;refine E6 (ι:={ p:Nat×List (Fp×Fp×Fp) // p.1<=l.length∧p.2.length=l.length∧∀j,j<p.1->p.2.getD j pt0=inG (l.getD j g10) }) (fun p=>eaS l p.1.2 l.length (p.1.1:Int)) (fun p=>l.length-p.1.1) (c:=lpC E8t) (k:=lpR E8t) (by kernel_rfl) (fun p ih ac cY aY hs=>?_)
  ⟨(0,List.replicate l.length pt0),Nat.zero_le _,List.length_replicate,fun j hj=>absurd hj (Nat.not_lt_zero j)⟩ (hs1.nx _)
 obtain ⟨⟨i,L⟩,hi,hL,hg⟩:=p;simp only at ih hs hi hL hg
 by_cases h:i<l.length
 ·refine eaA l L l.length i ⟨decide_eq_true (by omega),by omega,by omega,by omega,by omega,rfl,by rw[Int.toNat_natCast];omega,trivial⟩ hs fun ac cU aU hs2=>?_
  rw[Int.toNat_natCast,C0 (n:=(i:Int)+1) (by omega) (by omega)] at hs2
  refine ih ⟨(i+1,L.set i (inG (l.getD i g10))),h,(List.length_set ..).trans hL,fun j hj=>?_⟩ (by show l.length-(i+1)<l.length-i;omega) ac cU aU (hs2.nx _)
  have hj:j<i+1:=hj;show (L.set i _).getD j pt0=_;rw[A6r _ _ _ _ _ (by omega)]
  by_cases e:j=i
  ·subst e;rw[if_pos rfl]
  ·rw[if_neg e];exact hg j (by omega)
 ·obtain rfl:i=l.length:=by omega
  have e:L=l.map inG:=by
   apply List.ext_getElem (by rw[hL,List.length_map])
   intro j h1 h2;have e:=hg j (by omega)
   rw[<-A3u inG l g10 pt0 (by omega),List.getD_eq_getElem?_getD,List.getD_eq_getElem?_getD,List.getElem?_eq_getElem h1,List.getElem?_eq_getElem h2] at e
   exact e
  subst e;exact H2 C4m hk hF (G5z l _ _ _) ⟨decide_eq_false (by omega),hL.symm,trivial⟩ (fun y v hd=>hd) hs

/-- Where the first one lies that is so. -/
def A8j (p:G1D->Bool):List G1D->Nat->Int
 | [],_=>-1
 | a::l,i=>if p a then (i:Int) else A8j p l (i+1)
theorem C6p (p:G1D->Bool):∀(l:List G1D) (i:Nat),decide (A8j p l i >= 0)=l.any p
 | [],_=>rfl
 | a::l,i=>by
  show decide ((if p a then (i:Int) else A8j p l (i+1)) >= 0)=(p a || l.any p)
  cases h:p a with
  | true=>rw[if_pos rfl,Bool.true_or];exact decide_eq_true (Int.natCast_nonneg i)
  | false=>rw[if_neg Bool.false_ne_true,Bool.false_or];exact C6p p l (i+1)
def A0v (a:G1D):Bool:=!(onG a)
theorem E0m (p:G1D->Bool) (l:List G1D) (i:Nat) (h:i<l.length):A8j p (l.drop i) i=if p (l.getD i g10) then (i:Int) else A8j p (l.drop (i+1)) (i+1):=by
 rw[List.drop_eq_getElem_cons h,List.getD_eq_getElem?_getD,List.getElem?_eq_getElem h];rfl
theorem E9g (l:List G1D):FnD Tryz.prog 128 [.v (.c (.sl (.g1 l))),.v (.c (.clo 99 []))] (.v (.c (.int .i64 (A8j A0v l 0)))) []:=by
 refine J3 (fn:=Tryz.f128) (c:=B9 Tryz.f128) Tryz.func128 rfl rfl fun x0 a0 hk hF hs=>?_
 have hlen:l.length<=maxLen:=by
  have h0:=hs.t 0;exact G2o h0
 have hmax:maxLen<=9223372036854775807:=by decide
 refine iw l trivial hs fun ac cY aY hs1=>?_
 refine E6 (ι:={ i:Nat // i<=l.length∧A8j A0v (l.drop i) i=A8j A0v l 0 }) (fun i=>iwS l (i.1:Int)) (fun i=>l.length-i.1) (c:=lpC E0t) (k:=lpR E0t) (by kernel_rfl) (fun i ih ac cY aY hs=>?_) ⟨0,Nat.zero_le _,by rw[List.drop_zero]⟩ (hs1.nx _)
 obtain ⟨i,hi,he⟩:=i;simp only at ih hs
 by_cases h:i<l.length
 ·rw[E0m _ _ _ h] at he
  cases ho:A0v (l.getD i g10) with
  | true=>
   rw[ho,if_pos rfl] at he;rw[<-he];exact H2 C4n hk hF (G7w l i) ⟨decide_eq_true (by omega),by omega,by omega,by rw[Int.toNat_natCast];exact ho,trivial⟩ (fun y v hd=>hd) hs
  | false=>
   rw[ho,if_neg Bool.false_ne_true] at he;refine iwA l i ⟨decide_eq_true (by omega),by omega,by omega,by rw[Int.toNat_natCast];exact ho,trivial⟩ hs fun ac cU aU hs2=>?_
   rw[C0 (n:=(i:Int)+1) (by omega) (by omega)] at hs2
   exact ih ⟨i+1,h,he⟩ (by show l.length-(i+1)<l.length-i;omega) ac cU aU (hs2.nx _)
 ·obtain rfl:i=l.length:=by omega
  rw[List.drop_length] at he;rw[<-he];exact H2 C4n hk hF (G7v l _) ⟨decide_eq_false (by omega),trivial⟩ (fun y v hd=>hd) hs

end

section

def C0c:B2
 | [.v (.c (.sl (.g1 l))),.v (.c (.clo 40 []))]=>some ([l.length<=1048576],.v (.c (.sl (.pt (l.map inG)))),[])
 | _=>none
def ueA:Env:=udB.set (C6 udB.fn 102 C0c)
theorem I2a:A9 Tryz.prog ueA:=A8 C4n 102 C0c (A4 Tryz.func102 rfl rfl) fun args o r es h ho=>by
 unfold C0c at h;split at h
 ·cases h;exact F4h _ ho.1
 ·cases h
def B4r:B2
 | [.v (.c (.sl (.g1 l))),.v (.c (.clo 99 []))]=>some ([],.v (.c (.int .i64 (A8j A0v l 0))),[])
 | _=>none
def ueB:Env:=ueA.set (C6 ueA.fn 128 B4r)
theorem I2b:A9 Tryz.prog ueB:=A8 I2a 128 B4r (A4 Tryz.func128 rfl rfl) fun args o r es h _=>by
 unfold B4r at h;split at h
 ·cases h;exact E9g _
 ·cases h
def B4d:B2
 | [.v (.c (.int .i64 a)),.v (.c (.int .i64 b)),.v (.c (.bool w))]=>some ([],.v (.c (.int .i64 (A3h a b w))),[])
 | _=>none
def ueC:Env:=ueB.set (C6 ueB.fn 100 B4d)
theorem I2c:A9 Tryz.prog ueC:=A8 I2b 100 B4d (A4 Tryz.func100 rfl rfl) fun args o r es h _=>by
 unfold B4d at h;split at h
 ·cases h;exact E8l _ _ _
 ·cases h
def ueD:Env:=ueC
theorem G3u:A9 Tryz.prog ueD:=I2c
theorem cfR (l:List G1D):B5 ueD Tryz.f98 3000 [.v (.c (.sl (.g1 l))),.v (.c (.clo 99 []))] [] [] []=(some ([],((.ci (.bool (decide ((A8j A0v l 0) >= (0:Int))))),[]))):=by kernel_rfl
theorem C9c (l:List G1D):FnD Tryz.prog 98 [.v (.c (.sl (.g1 l))),.v (.c (.clo 99 []))] (.v (.c (.bool (l.any A0v)))) []:=by
 have r:=cfR l;rw[C6p] at r;exact A5 G3u Tryz.func98 r trivial
def A4f:B2
 | [.v (.c (.sl (.g1 l))),.v (.c (.clo 99 []))]=>some ([],.v (.c (.bool (l.any A0v))),[])
 | _=>none
def ueE:Env:=ueD.set (C6 ueD.fn 98 A4f)
theorem E3o:A9 Tryz.prog ueE:=A8 G3u 98 A4f (A4 Tryz.func98 rfl rfl) fun args o r es h _=>by
 unfold A4f at h;split at h
 ·cases h;exact C9c _
 ·cases h
theorem s1A (l:List G1D) (k:List U4):let b:=A3h (l.length:Int) (k.length:Int) (List.any l A0v);B5 ueE Tryz.f54 3000 [.v (.c (.sl (.g1 l))),.v (.c (.sl (.fr k)))] [true] [] []=(some ([((b != (0:Int))=true)],((.t [(.a [(.ob (.fp (0:U6))),(.ob (.fp (0:U6))),(.lit false)]),(.c (.int .i64 b))]),[]))):=by intros;kernel_rfl
theorem s1B (l:List G1D) (k:List U4):let d:=List.map inG l;let b:=A4o (smJ 52 pt0 d k);B5 ueE Tryz.f54 3000 [.v (.c (.sl (.g1 l))),.v (.c (.sl (.fr k)))] [false] [] []=(some ([(((A3h (l.length:Int) (k.length:Int) (List.any l A0v)) != (0:Int))=false),(l.length<=1048576),(k.length=d.length),(d.length<=4096)],((.t [(.a [(.ob (.fp (G1D.x b))),(.ob (.fp (G1D.y b))),(.bool (G1D.inf b))]),(.c (.int .i64 (0:Int)))]),[]))):=by intros;kernel_rfl
end

section

/-- What Sum1 tells. -/
def B3t (l:List G1D) (k:List U4):G1D×Int:=
 if A3h (l.length:Int) (k.length:Int) (l.any A0v)=0 then (A4o (smJ 52 pt0 (l.map inG) k),0) else (g10,A3h (l.length:Int) (k.length:Int) (l.any A0v))
theorem D3e {l:List G1D} {k:List U4} (h:A3h (l.length:Int) (k.length:Int) (l.any A0v)=0):B3t l k=(A4o (smJ 52 pt0 (l.map inG) k),0):=if_pos h
theorem H2f {l:List G1D} {k:List U4} (h:¬A3h (l.length:Int) (k.length:Int) (l.any A0v)=0):B3t l k=(g10,A3h (l.length:Int) (k.length:Int) (l.any A0v)):=if_neg h
theorem G2v (l:List G1D) (k:List U4):FnD Tryz.prog 54 [.v (.c (.sl (.g1 l))),.v (.c (.sl (.fr k)))] (.t [.a (B3t l k).1.its,.c (.int .i64 (B3t l k).2)]) []:=by
 by_cases h:A3h (l.length:Int) (k.length:Int) (l.any A0v)=0
 ·rw[D3e h]
  obtain ⟨h1,h2,h3⟩:=D4d h;exact A5 E3o Tryz.func54 (s1B l k) ⟨by rw[h];rfl,by omega,by rw[List.length_map];omega,by rw[List.length_map];omega,trivial⟩
 ·rw[H2f h]
  exact (A5 E3o Tryz.func54 (s1A l k) ⟨by simpa using h,trivial⟩).conv (fun _ _ h=>h) fun y v hd=>A2j hd

theorem G2p {N:Nat} (hN:N=52) {l:List G1D} {k:List U4} (hl:k.length=l.length) (ho:l.any A0v=false):A4o (smJ N pt0 (l.map inG) k)=gP (A9e (k.map (·.val)) (l.map pG)):=by
 have hon:∀a,a∈l->onG a=true:=fun a ha=>by
  rw[List.any_eq_false] at ho;have:=ho a ha
  unfold A0v at this;simpa using this
 cases k with
 | nil=>
  have e:l=[]:=List.length_eq_zero_iff.1 hl.symm;subst e;exact A7x (P:=none) (rfl:(0:Fp)=0)
 | cons x k=>
  have hm:smJ N pt0 (l.map inG) (x::k)=alN pt0 (l.map inG) (C5c N ((x::k).map (·.val))) N N:=rfl;rw[hm];refine A7x (F7z hN cv1 pt0 rfl (by rw[List.length_map,List.length_map]) (fun P hP=>?_) (fun i hi=>?_) (by rw[List.length_map,List.length_map];exact hl) (fun v hv=>?_))
  ·obtain ⟨a,ha,rfl⟩:=List.mem_map.1 hP
   exact (R7 (hon a ha)).2
  ·rw[List.length_map] at hi
   rw[A3u pG l g10 none hi,A3u inG l g10 pt0 hi];exact A9g _
  ·obtain ⟨u,_,rfl⟩:=List.mem_map.1 hv
   exact G3s u

/-- Sums of multiples, from the left. -/
def gsl (ks:List Nat) (Ps:List (Pt Fp)):Nat->Pt Fp
 | 0=>none
 | i+1=>C5 (gsl ks Ps i) (D6 (Ps.getD i none) (ks.getD i 0))
theorem C6r (k:Nat) (P:Pt Fp) (hP:OnC fp4 P):∀(ks:List Nat) (Ps:List (Pt Fp)),ks.length=Ps.length->(∀Q,Q∈Ps->OnC fp4 Q)->A9e (ks++[k]) (Ps++[P])=C5 (A9e ks Ps) (D6 P k)
 | [],[],_,_=>by
  show C5 (D6 P k) none=C5 none (D6 P k);rw[O9];rfl
 | [],_::_,h,_=>by cases h
 | _::_,[],h,_=>by cases h
 | c::ks,Q::Ps,h,ho=>by
  show C5 (D6 Q c) (A9e (ks++[k]) (Ps++[P]))=C5 (C5 (D6 Q c) (A9e ks Ps)) (D6 P k);rw[C6r k P hP ks Ps (Nat.succ.inj h) fun R hR=>ho R (List.mem_cons_of_mem _ hR),O1 cv1 _ _ _ (J0 cv1 (ho Q (List.mem_cons_self ..)) c) (B8e cv1 ks Ps fun R hR=>ho R (List.mem_cons_of_mem _ hR)) (J0 cv1 hP k)]
theorem F5y (ks:List Nat) (Ps:List (Pt Fp)) (hl:ks.length=Ps.length) (ho:∀Q,Q∈Ps->OnC fp4 Q):∀i,i<=Ps.length->gsl ks Ps i=A9e (ks.take i) (Ps.take i)
 | 0,_=>rfl
 | i+1,h=>by
  have e1:=B6c ks 0 (i:=i) (by omega)
  have e2:=B6c Ps none (i:=i) (by omega)
  have hm:Ps.getD i none∈Ps:=by
   rw[List.getD_eq_getElem?_getD,List.getElem?_eq_getElem (by omega)]
   exact List.getElem_mem _
  show C5 (gsl ks Ps i) (D6 (Ps.getD i none) (ks.getD i 0))=_;rw[F5y ks Ps hl ho i (by omega),<-e1,<-e2,C6r _ _ (ho _ hm) _ _ (by rw[List.length_take,List.length_take,hl]) fun Q hQ=>ho Q (List.mem_of_mem_take hQ)]
end

section

def uzC:Env:=uzB.or ueE
theorem I2y:A9 Tryz.prog uzC:=A5p M3 E3o
def C4b:B2
 | [.v (.c (.sl (.g1 l))),.v (.c (.sl (.fr k)))]=>some ([],.t [.a (B3t l k).1.its,.c (.int .i64 (B3t l k).2)],[])
 | _=>none
def uzD:Env:=uzC.set (C6 uzC.fn 54 C4b)
theorem I2z:A9 Tryz.prog uzD:=A8 I2y 54 C4b (A4 Tryz.func54 rfl rfl) fun args o r es h _=>by
 unfold C4b at h;split at h
 ·cases h;exact G2v _ _
 ·cases h
def B0b:B2
 | [.v (.c (.sl (.g1 la))),.v (.c (.sl (.g2 lb)))]=>some ([],.t [.c (.bool (pcD la lb).1),.c (.int .i64 (pcD la lb).2)],[])
 | _=>none
def uzE:Env:=uzD.set (C6 uzD.fn 18 B0b)
theorem G4a:A9 Tryz.prog uzE:=A8 I2z 18 B0b (A4 Tryz.func18 rfl rfl) fun args o r es h _=>by
 unfold B0b at h;split at h
 ·cases h;exact E1w _ _
 ·cases h
theorem ksm  : B5 uzE Tryz.f103 3000 [.v (.c (.int .u64 1))] [] [] []=(some ([(0<=(1:Int)),((1:Int)<(18446744073709551616:Int)),(0<=(0:Int)),(0<(18446744073709551616:Int)),(0<=(0:Int)),(0<(18446744073709551616:Int)),(0<=(0:Int)),(0<(18446744073709551616:Int))],((.v (.a [(.ob (.s (S4.inF (Fin.ofNat B4 1))))])),[]))):=by kernel_rfl
theorem G8e {n:Int} (h:n=1):FnD Tryz.prog 103 [.v (.c (.int .u64 n))] (.v (.a [.ob (.s 1)])) []:=by
 subst h;have r:=ksm;rw[show S4.inF (Fin.ofNat B4 1)=1 from by decide +kernel] at r
 exact A5 G4a Tryz.func103 r ⟨by decide,by decide,by decide,by decide,by decide,by decide,by decide,by decide,trivial⟩
def D0p:B2
 | [.v (.c (.int .u64 n))]=>some ([n=1],.v (.a [.ob (.s 1)]),[])
 | _=>none
def uzF:Env:=uzE.set (C6 uzE.fn 103 D0p)
theorem E3p:A9 Tryz.prog uzF:=A8 G4a 103 D0p (A4 Tryz.func103 rfl rfl) fun args o r es h ho=>by
 unfold D0p at h;split at h
 ·cases h;exact G8e ho.1
 ·cases h
theorem ksl  : B5 uzF Tryz.f55 3000 [.v (.c (.int .i64 1))] [false] [] []=(some ([((decide ((1:Int)<(0:Int)))=false),((1:Int)=(1:Int))],((.v (.a [(.ob (.fr (S4.D5 (1:Fr))))])),[]))):=by kernel_rfl
theorem G8d {n:Int} (h:n=1):FnD Tryz.prog 55 [.v (.c (.int .i64 n))] (.v (.a [.ob (.fr (S4.D5 1))])) []:=by
 subst h;exact A5 E3p Tryz.func55 ksl ⟨by decide,rfl,trivial⟩
def D0o:B2
 | [.v (.c (.int .i64 n))]=>some ([n=1],.v (.a [.ob (.fr (S4.D5 1))]),[])
 | _=>none
def uzG:Env:=uzF.set (C6 uzF.fn 55 D0o)
theorem I3a:A9 Tryz.prog uzG:=A8 E3p 55 D0o (A4 Tryz.func55 rfl rfl) fun args o r es h ho=>by
 unfold D0o at h;split at h
 ·cases h;exact G8d ho.1
 ·cases h
theorem ngF (k:U4):B5 uzF Tryz.f19 3000 [.v (.a [.ob (.fr k)])] [] [] []=(some ([],((.v (.a [(.ob (.fr (S4.D5 ((0:Fr)-(S4.inF k)))))])),[]))):=by kernel_rfl
theorem G9j (k:U4):FnD Tryz.prog 19 [.v (.a [.ob (.fr k)])] (.v (.a [.ob (.fr (S4.D5 (0-S4.inF k)))])) []:=A5 E3p Tryz.func19 (ngF k) trivial
def D1m:B2
 | [.v (.a [.ob (.fr k)])]=>some ([],.v (.a [.ob (.fr (S4.D5 (0-S4.inF k)))]),[])
 | _=>none
def uzH:Env:=uzG.set (C6 uzG.fn 19 D1m)
theorem A6y:A9 Tryz.prog uzH:=A8 I3a 19 D1m (A4 Tryz.func19 rfl rfl) fun args o r es h _=>by
 unfold D1m at h;split at h
 ·cases h;exact G9j _
 ·cases h
theorem kcA (s:G2D) (a b:G1D) (k l:U4):B5 uzH Tryz.f20 3000 [.v (.a s.its),.v (.a [.ob (.fp a.x),.ob (.fp a.y),.bool a.inf,.ob (.fr k),.ob (.fr l),.ob (.fp b.x),.ob (.fp b.y),.bool b.inf])] [true,true] [] []=(some ([((Bool.not (onG a))=true)],((.t [(.c (.lit false)),(.c (.int .i64 (30:Int)))]),[]))):=by kernel_rfl
theorem kcB (s:G2D) (a b:G1D) (k l:U4):B5 uzH Tryz.f20 3000 [.v (.a s.its),.v (.a [.ob (.fp a.x),.ob (.fp a.y),.bool a.inf,.ob (.fr k),.ob (.fr l),.ob (.fp b.x),.ob (.fp b.y),.bool b.inf])] [false,true] [] []=(some ([((Bool.not (onG a))=false),((Bool.not (onG b))=true)],((.t [(.c (.lit false)),(.c (.int .i64 (30:Int)))]),[]))):=by kernel_rfl
theorem kcC (s:G2D) (a b:G1D) (k l:U4):B5 uzH Tryz.f20 3000 [.v (.a s.its),.v (.a [.ob (.fp a.x),.ob (.fp a.y),.bool a.inf,.ob (.fr k),.ob (.fr l),.ob (.fp b.x),.ob (.fp b.y),.bool b.inf])] [false,false,true] [] []=(some ([((Bool.not (onG a))=false),((Bool.not (onG b))=false),((Bool.not (I6 s))=true)],((.t [(.c (.lit false)),(.c (.int .i64 (30:Int)))]),[]))):=by kernel_rfl
theorem kcD (s:G2D) (a b:G1D) (k l:U4):B5 uzH Tryz.f20 3000 [.v (.a s.its),.v (.a [.ob (.fp a.x),.ob (.fp a.y),.bool a.inf,.ob (.fr k),.ob (.fr l),.ob (.fp b.x),.ob (.fp b.y),.bool b.inf])] [false,false,false,true,true] [] []=(some ([((Bool.not (onG a))=false),((Bool.not (onG b))=false),((Bool.not (I6 s))=false),((Bool.not (grp a))=true)],((.t [(.c (.lit false)),(.c (.int .i64 (31:Int)))]),[]))):=by kernel_rfl
theorem kcE (s:G2D) (a b:G1D) (k l:U4):B5 uzH Tryz.f20 3000 [.v (.a s.its),.v (.a [.ob (.fp a.x),.ob (.fp a.y),.bool a.inf,.ob (.fr k),.ob (.fr l),.ob (.fp b.x),.ob (.fp b.y),.bool b.inf])] [false,false,false,false,true] [] []=(some ([((Bool.not (onG a))=false),((Bool.not (onG b))=false),((Bool.not (I6 s))=false),((Bool.not (grp a))=false),((Bool.not (grp b))=true)],((.t [(.c (.lit false)),(.c (.int .i64 (31:Int)))]),[]))):=by kernel_rfl
theorem kcF (s:G2D) (a b:G1D) (k l:U4):B5 uzH Tryz.f20 3000 [.v (.a s.its),.v (.a [.ob (.fp a.x),.ob (.fp a.y),.bool a.inf,.ob (.fr k),.ob (.fr l),.ob (.fp b.x),.ob (.fp b.y),.bool b.inf])] [false,false,false,false,false,true] [] []=(some ([((Bool.not (onG a))=false),((Bool.not (onG b))=false),((Bool.not (I6 s))=false),((Bool.not (grp a))=false),((Bool.not (grp b))=false),((Bool.not (A2c s))=true)],((.t [(.c (.lit false)),(.c (.int .i64 (31:Int)))]),[]))):=by kernel_rfl
theorem kcI (s:G2D) (a b:G1D) (k l:U4):let d:=([(S4.D5 (1:Fr))]++[(S4.D5 ((0:Fr)-(S4.inF l)))])++[(S4.D5 (S4.inF k))];let g:=([a]++[G7])++[b];let f:=[(Prod.fst (B3t g d))]++[(Prod.fst (neR b))];let h:=[O0]++[s];B5 uzH Tryz.f20 3000 [.v (.a s.its),.v (.a [.ob (.fp a.x),.ob (.fp a.y),.bool a.inf,.ob (.fr k),.ob (.fr l),.ob (.fp b.x),.ob (.fp b.y),.bool b.inf])] [false,false,false,false,false,false,false,false] [] []=(some ([((Bool.not (onG a))=false),((Bool.not (onG b))=false),((Bool.not (I6 s))=false),((Bool.not (grp a))=false),((Bool.not (grp b))=false),((Bool.not (A2c s))=false),((1:Int)=(1:Int)),(0=0),(3=g.length),(13=13),(0=0),(3=d.length),(4=4),(((Prod.snd (B3t g d)) != (0:Int))=false),(((Prod.snd (neR b)) != (0:Int))=false),(0=0),(2=f.length),(13=13),(0=0),(2=h.length),(25=25)],((.t [(.c (.bool (Prod.fst (pcD f h)))),(.c (.int .i64 (Prod.snd (pcD f h))))]),[]))):=by intros;kernel_rfl
end

section

/-- 1 outside. -/
def I6k:V12:=⟨⟨(Fin.ofNat B6 1,0),(0,0),(0,0)⟩,⟨(0,0),(0,0),(0,0)⟩⟩
end

section

theorem F5x {P:Pt Fp} (hP:OnC fp4 P):grp (gP P)=decide (D6 P rN=none):=by
 unfold grp;rw[A9y hP,Bool.true_and];have h:=D5z cv1 hP (C3b P ▸ A9g (gP P)) (dgT 52435875175126190479447740508185965837690552500527637822603658699938581184513 64);rw[E4p] at h;generalize (dgT 52435875175126190479447740508185965837690552500527637822603658699938581184513 64)=t at h ⊢
 exact h

end

section

theorem E5p {P:Pt F2} (hP:OnC fq4 P):A2c (gP2 P)=decide (D6 P rN=none):=by
 unfold A2c;rw[B8h hP,Bool.true_and];have h:=D5z cv2 hP (D1x P ▸ B2h (gP2 P)) (dgT 52435875175126190479447740508185965837690552500527637822603658699938581184513 64);rw[E4p] at h;generalize (dgT 52435875175126190479447740508185965837690552500527637822603658699938581184513 64)=t at h ⊢
 exact h

end

section

theorem E6n:nQ2 ((1,1):F2)=Fin.ofNat pN 2:=by decide +kernel
theorem D3o:(Fin.ofNat pN 2).val=2:=by decide +kernel
theorem G1f:A3w pN 2 384 ((pN-1) / 3)≠1:=by decide +kernel
theorem G1e:A3w pN 2 384 ((pN-1) / 2)≠1:=by decide +kernel
theorem E3s (x:F2):x*x*x≠Nrs.xi:=by
 intro h;have h:x*x*x=(1,1):=h;have h:=congrArg nQ2 h;rw[E6n,B2z,B2z] at h;refine C9d _ (fun e=>?_) (fun e=>?_) (nQ2 x) h
 ·have:=congrArg Fin.val e
  rw[W9 _ 384 _ C4e,D3o,A3x] at this;exact G1f this
 ·have:=congrArg Fin.val e
  rw[D3o] at this;revert this
  decide +kernel
theorem C5m (x:Fp):x*x≠Fin.ofNat pN 2:=by
 intro h;by_cases hx:x=0
 ·rw[hx] at h
  exact absurd (congrArg Fin.val h) (by decide +kernel)
 ·have e:=E3k x ((pN-1) / 2)
  rw[<-D5r,A5r x hx,h] at e;have:=congrArg Fin.val e
  rw[W9 _ 384 _ E5u,D3o,A3x] at this;exact G1e this
section
variable {R:Type} [Fld R] [Nrs R]
theorem E9z (x y:E3 R):A0y (x*y)=A0y x*A0y y:=by
 unfold A0y A0i;simp only[E3.mul_a,E3.mul_b,E3.mul_c];generalize x.a=a;generalize x.b=b;generalize x.c=c;generalize y.a=d;generalize y.b=e;generalize y.c=f;grind
end
theorem H9 (t:F6):t*t≠Nrs.xi:=by
 intro h;have h:=congrArg A0y h;rw[E9z] at h;have e:A0y (Nrs.xi:F6)=(1,1):=by decide +kernel
 rw[e] at h;have h:=congrArg nQ2 h;rw[E6n,B2z] at h;exact C5m _ h
@[reducible] instance fldF6:Fld F6:=I4m E3s
@[reducible] instance fldF12:Fld F12:=I4l H9
end

section

section
variable {G:Type} [J7 G]
theorem A3m (x y:G):∀n,A7 (x*y) n=A7 x n*A7 y n
 | 0=>by show (1:G)=1*1;grind
 | n+1=>by
  show A7 (x*y) n*(x*y)=A7 x n*x*(A7 y n*y);rw[A3m x y n];grind
theorem P0 (x:G) (m:Nat):∀n,A7 x (m*n)=A7 (A7 x m) n
 | 0=>rfl
 | n+1=>by
  rw[Nat.mul_succ,S5,P0 x m n];rfl
def gst (a o:G) (z:Bool):G:=if z=true then o*o*a else o*o
theorem D0c (a:G):∀(l:List Bool) (n:Nat),l.foldl (gst a) (A7 a n)=A7 a (l.foldl nst n)
 | [],_=>rfl
 | z::l,n=>by
  show l.foldl (gst a) (gst a (A7 a n) z)=A7 a (l.foldl nst (nst n z));rw[<-D0c a l (nst n z)];congr 1
  cases z with
  | true=>
   show A7 a n*A7 a n*a=A7 a (n+n)*a;rw[S5]
  | false=>
   show A7 a n*A7 a n=A7 a (n+n);rw[S5]
end

theorem C2h:∀k:Nat,(nc k:F12)=⟨⟨(Fin.ofNat pN k,0),0,0⟩,0⟩
 | 0=>rfl
 | k+1=>by
  show nc k+1=_;rw[C2h k,C2q,I9s];refine E2.ext' (E3.ext' (G1 rfl ?_) ?_ ?_) ?_
  ·show (0:Fp)+0=0;rfl
  ·show (0:F2)+0=0;rfl
  ·show (0:F2)+0=0;rfl
  ·show (0:F6)+0=0;rfl
theorem H8f:Fin.ofNat pN pN=0:=by decide +kernel
theorem F4b (p:Nat) (hp:1<=p) (h0:(nc p:F12)=0) (h1:∀k,0<k->k<p->(nc k:F12)≠0) (x y:F12):A7 (x+y) p=A7 x p+A7 y p:=I4d (G:=F12) hp h0 h1 x y
theorem E4x (x y:F12):A7 (x+y) pN=A7 x pN+A7 y pN:=by
 refine F4b pN (by decide +kernel) ?_ (fun k h1 h2 h=>?_) x y
 ·rw[C2h,H8f];rfl
 ·rw[C2h] at h
  have h:(⟨⟨(Fin.ofNat pN k,0),0,0⟩,0⟩:F12).a.a.1.val=(0:F12).a.a.1.val:=by rw[h]
  have h3:k % pN=0:=h;exact absurd ((Nat.mod_eq_of_lt h2).symm.trans h3) (Nat.ne_of_gt h1)
theorem I3d:A7 ((1,1):F2) ((pN-1) / 6)=tur 1:=by
 have h:=D0c ((1,1):F2) (btL ((pN-1) / 6) 384 384) 0;have e:(btL ((pN-1) / 6) 384 384).foldl nst 0=(pN-1) / 6:=by decide +kernel
 rw[e] at h;rw[<-h];decide +kernel
end

set_option linter.unusedSimpArgs false
set_option linter.unusedSectionVars false
section

def i2 (z:F2):F12:=⟨⟨z,0,0⟩,0⟩
def eV:F12:=⟨⟨0,1,0⟩,0⟩
def eW:F12:=⟨0,1⟩
section
variable {R:Type} [J7 R] [Nrs R]
theorem F4e (x y:R):(⟨x,0,0⟩:E3 R)*⟨y,0,0⟩=⟨x*y,0,0⟩:=by
 refine E3.ext' ?_ ?_ ?_
 all_goals
  simp only[E3.mul_a,E3.mul_b,E3.mul_c]<;>grind
theorem F4f (x y:R):(⟨x,0,0⟩:E3 R)+⟨y,0,0⟩=⟨x+y,0,0⟩:=by
 refine E3.ext' ?_ ?_ ?_
 all_goals
  simp only[E3.add_a,E3.add_b,E3.add_c]<;>grind
theorem C9k (x y:R):(⟨x,0⟩:E2 R)*⟨y,0⟩=⟨x*y,0⟩:=by
 refine E2.ext' ?_ ?_
 all_goals
  simp only[E2.mul_a,E2.mul_b]<;>grind
theorem E0e (x y:R):(⟨x,0⟩:E2 R)+⟨y,0⟩=⟨x+y,0⟩:=by
 refine E2.ext' ?_ ?_
 all_goals
  simp only[E2.add_a,E2.add_b]<;>grind
theorem H4y (x:E2 R):x=(⟨x.a,0⟩:E2 R)+⟨x.b,0⟩*⟨0,1⟩:=by
 refine E2.ext' ?_ ?_
 all_goals
  simp only[E2.add_a,E2.add_b,E2.mul_a,E2.mul_b]<;>grind
theorem H4z (x:E3 R):x=(⟨x.a,0,0⟩:E3 R)+⟨x.b,0,0⟩*⟨0,1,0⟩+⟨x.c,0,0⟩*(⟨0,1,0⟩*⟨0,1,0⟩):=by
 refine E3.ext' ?_ ?_ ?_
 all_goals
  simp only[E3.add_a,E3.add_b,E3.add_c,E3.mul_a,E3.mul_b,E3.mul_c]<;>grind
end
theorem F6c (x y:F2):i2 (x+y)=i2 x+i2 y:=by
 unfold i2;rw[E0e,F4f]
theorem C1l (x y:F2):i2 (x*y)=i2 x*i2 y:=by
 unfold i2;rw[C9k,F4e]
theorem A9f (x:F2):∀n,A7 (i2 x) n=i2 (A7 x n)
 | 0=>rfl
 | n+1=>by
  show A7 (i2 x) n*i2 x=i2 (A7 x n*x);rw[A9f x n,C1l]
theorem up6 (x:F6):(⟨x,0⟩:F12)=i2 x.a+i2 x.b*eV+i2 x.c*(eV*eV):=by
 unfold i2 eV;rw[C9k,C9k,C9k,E0e,E0e,<-H4z]
theorem H3b (x:F12):x=(i2 x.a.a+i2 x.a.b*eV+i2 x.a.c*(eV*eV))+(i2 x.b.a+i2 x.b.b*eV+i2 x.b.c*(eV*eV))*eW:=by
 rw[<-up6,<-up6];exact H4y x
theorem I4n (p:Nat) (dr:∀x y:F12,A7 (x+y) p=A7 x p+A7 y p) (h2:∀z:F2,A7 z p=cj2 z) (hV:A7 eV p=i2 (tur 2)*eV) (hW:A7 eW p=i2 (tur 1)*eW) (t4:tur 2*tur 2=tur 4) (t3:tur 2*tur 1=tur 3) (t5:tur 4*tur 1=tur 5) (x:F12):A7 x p=frb x:=by
 have e:=H3b x;have e2:=H3b (frb x);rw[e2];show A7 x p=(i2 (cj2 x.a.a)+i2 (cj2 x.a.b*tur 2)*eV+i2 (cj2 x.a.c*tur 4)*(eV*eV))+(i2 (cj2 x.b.a*tur 1)+i2 (cj2 x.b.b*tur 3)*eV+i2 (cj2 x.b.c*tur 5)*(eV*eV))*eW;rw[<-t4,<-t3,<-t5,<-t4];have k:A7 x p=A7 ((i2 x.a.a+i2 x.a.b*eV+i2 x.a.c*(eV*eV))+(i2 x.b.a+i2 x.b.b*eV+i2 x.b.c*(eV*eV))*eW) p:=congrArg (fun y=>A7 y p) e
 rw[k];simp only[dr,A3m,A9f,h2,hV,hW,C1l];generalize i2 (cj2 x.a.a)=a1;generalize i2 (cj2 x.a.b)=a2;generalize i2 (cj2 x.a.c)=a3;generalize i2 (cj2 x.b.a)=a4;generalize i2 (cj2 x.b.b)=a5;generalize i2 (cj2 x.b.c)=a6;generalize i2 (tur 1)=s;generalize i2 (tur 2)=t;generalize eV=v;generalize eW=w;clear e e2 k dr h2 hV hW t4 t3 t5;grind
theorem H2q:tur 2*tur 2=tur 4:=by decide +kernel
theorem H2p:tur 2*tur 1=tur 3:=by decide +kernel
theorem H2r:tur 4*tur 1=tur 5:=by decide +kernel
theorem H2o:tur 1*tur 1=tur 2:=by decide +kernel
theorem H3e:eW*eW=eV:=by decide +kernel
theorem I4g:eV*eV*eV=i2 (1,1):=by decide +kernel
section
variable {r:Nat} [NeZero r]
theorem H9e (a:Fin r):∀n,A7 ((a,0):Q2 r) n=(pw a n,0)
 | 0=>rfl
 | n+1=>by
  show A7 ((a,0):Q2 r) n*(a,0)=(pw a n*a,0);rw[H9e a n];exact G1 (by show pw a n*a-0*0=pw a n*a;grind) (by show pw a n*0+0*a=0;grind)
theorem I3z (x:Q2 r):x=(x.1,0)+(x.2,0)*(0,1):=G1 (by show x.1=x.1+(x.2*0-0*1);grind) (by show x.2=0+(x.2*1+0*0);grind)
theorem I8f (x:Q2 r):(x.1,0)+(x.2,0)*(0,0-1)=(x.1,0-x.2):=G1 (by show x.1+(x.2*0-0*(0-1))=x.1;grind) (by show 0+(x.2*(0-1)+0*0)=0-x.2;grind)
end
theorem F0n:∀n,pw (0:Fp) (n+1)=0:=fun n=>by show pw (0:Fp) n*0=0;grind
theorem C0u (a:Fp):pw a pN=a:=by
 have e:pN=pN-1+1:=by decide +kernel
 refine (congrArg (pw a) e).trans ?_
 by_cases h:a=0
 ·rw[h];exact F0n _
 ·show pw a (pN-1)*a=a
  rw[A5r a h];grind
theorem I7p:A7 ((0,1):F2) pN=(0,0-1):=by
 have h:=D0c ((0,1):F2) (btL pN 384 384) 0;have e:(btL pN 384 384).foldl nst 0=pN:=by decide +kernel
 rw[e] at h;refine h.symm.trans ?_
 decide +kernel
theorem G5h (z:F2):A7 z pN=cj2 z:=by
 have h:i2 (A7 z pN)=i2 (cj2 z):=by
  rw[<-A9f];have e:i2 z=i2 (z.1,0)+i2 (z.2,0)*i2 (0,1):=by rw[<-C1l,<-F6c];exact congrArg i2 (I3z z)
  have k:A7 (i2 z) pN=A7 (i2 (z.1,0)+i2 (z.2,0)*i2 (0,1)) pN:=congrArg (fun y=>A7 y pN) e
  refine k.trans ((E4x _ _).trans ?_)
  rw[A3m,A9f,A9f,A9f,H9e,H9e,I7p,C0u,C0u,<-C1l,<-F6c];exact congrArg i2 (I8f z)
 exact congrArg (fun x:F12=>x.a.a) h
theorem I7e:pN=6*((pN-1) / 6)+1:=by decide +kernel
section
variable {G:Type} [J7 G]
theorem F5u (g:G):A7 g 6=g*g*(g*g)*(g*g):=by
 show 1*g*g*g*g*g*g=_;grind
theorem C1h (g:G):A7 g 1=g:=by
 show 1*g=g;grind
end
theorem H5b:A7 eW 6=i2 (1,1):=by rw[F5u,H3e,I4g]
theorem F4g:A7 eW pN=i2 (tur 1)*eW:=by
 refine (congrArg (A7 eW) I7e).trans ?_
 rw[S5,P0,H5b,A9f,I3d,C1h]
theorem H5a:A7 eV pN=i2 (tur 2)*eV:=by
 rw[<-H3e,A3m,F4g,<-H2o,C1l];generalize i2 (tur 1)=t;generalize eW=w;grind
/-- Frob is the power of p. -/
theorem A0u (x:F12):A7 x pN=frb x:=I4n pN E4x G5h H5a F4g H2q H2p H2r x
end

set_option linter.unusedSectionVars false
section

theorem A0r (x:F12):cjp x=cj x:=by
 refine E2.ext' rfl ?_
 show (0:F6)-x.b = -x.b;generalize x.b=b;grind
theorem A4e (x y:F12):cjp (x*y)=cjp x*cjp y:=by rw[A0r,A0r,A0r];exact B9p x y
theorem E4h (x:F12):cjp (cjp x)=x:=by rw[A0r,A0r];exact F3e x
theorem A7d:cjp 1=1:=by rw[A0r];exact F3f
theorem A7k (x y:F12):frb (x*y)=frb x*frb y:=by rw[<-A0u,<-A0u,<-A0u,A3m]
section
variable {r:Nat} [NeZero r]
theorem H4n (z t:Q2 r):((((z.1,0-z.2):Q2 r)*t).1,0-(((z.1,0-z.2):Q2 r)*t).2)*t=z*((t.1,0-t.2)*t):=by
 refine G1 ?_ ?_
 ·simp only[C5i,C5j];grind
 ·simp only[C5i,C5j];grind
theorem F3h (z:Q2 r):((z.1,0-(0-z.2)):Q2 r)=z:=G1 rfl (by show 0-(0-z.2)=z.2;grind)
theorem C2e (z:Q2 r):z*(1,0)=z:=G1 (by show z.1*1-z.2*0=z.1;grind) (by show z.1*0+z.2*1=z.2;grind)
theorem A9u (z:Q2 r):z*(0-1,0)=0-z:=G1 (by show z.1*(0-1)-z.2*0=0-z.1;grind) (by show z.1*0+z.2*(0-1)=0-z.2;grind)
theorem A5h (z a:Q2 r):z*a*a*a=z*(a*a*a):=by grind
end
def frT (t1 t2 t3 t4 t5:F2) (x:F12):F12:=⟨⟨cj2 x.a.a,cj2 x.a.b*t2,cj2 x.a.c*t4⟩,⟨cj2 x.b.a*t1,cj2 x.b.b*t3,cj2 x.b.c*t5⟩⟩
def frS (t1 t2 t3 t4 t5:F2) (x:F12):F12:=⟨⟨x.a.a,x.a.b*t2,x.a.c*t4⟩,⟨x.b.a*t1,x.b.b*t3,x.b.c*t5⟩⟩
theorem D8t (z t:F2):cj2 (cj2 z*t)*t=z*(cj2 t*t):=H4n z t
theorem G6y (t1 t2 t3 t4 t5:F2) (x:F12):frT t1 t2 t3 t4 t5 (frT t1 t2 t3 t4 t5 x)=frS (cj2 t1*t1) (cj2 t2*t2) (cj2 t3*t3) (cj2 t4*t4) (cj2 t5*t5) x:=by
 refine E2.ext' (E3.ext' ?_ ?_ ?_) (E3.ext' ?_ ?_ ?_)
 ·exact F3h x.a.a
 ·exact D8t x.a.b t2
 ·exact D8t x.a.c t4
 ·exact D8t x.b.a t1
 ·exact D8t x.b.b t3
 ·exact D8t x.b.c t5
theorem E9b {t1 t2 t3 t4 t5:F2} (h1:t1*t1*t1=(0-1,0)) (h2:t2*t2*t2=(1,0)) (h3:t3*t3*t3=(0-1,0)) (h4:t4*t4*t4=(1,0)) (h5:t5*t5*t5=(0-1,0)) (x:F12):frS t1 t2 t3 t4 t5 (frS t1 t2 t3 t4 t5 (frS t1 t2 t3 t4 t5 x))=cjp x:=by
 refine E2.ext' (E3.ext' rfl ?_ ?_) (E3.ext' ?_ ?_ ?_)
 ·show x.a.b*t2*t2*t2=x.a.b
  rw[A5h,h2,C2e]
 ·show x.a.c*t4*t4*t4=x.a.c
  rw[A5h,h4,C2e]
 ·show x.b.a*t1*t1*t1=0-x.b.a
  rw[A5h,h1,A9u]
 ·show x.b.b*t3*t3*t3=0-x.b.b
  rw[A5h,h3,A9u]
 ·show x.b.c*t5*t5*t5=0-x.b.c
  rw[A5h,h5,A9u]
def tn (i:Int):F2:=cj2 (tur i)*tur i
theorem C9w (x:F12):frb (frb x)=frS (tn 1) (tn 2) (tn 3) (tn 4) (tn 5) x:=G6y (tur 1) (tur 2) (tur 3) (tur 4) (tur 5) x
theorem tn2:tn 2*tn 2*tn 2=(1,0):=by decide +kernel
theorem tn4:tn 4*tn 4*tn 4=(1,0):=by decide +kernel
theorem tn1:tn 1*tn 1*tn 1=(0-1,0):=by decide +kernel
theorem tn3:tn 3*tn 3*tn 3=(0-1,0):=by decide +kernel
theorem tn5:tn 5*tn 5*tn 5=(0-1,0):=by decide +kernel
section
variable {G:Type} [J7 G]
theorem H0q (e:G) (p:Nat):A7 e (p ^ 6+1)=A7 (A7 (A7 (A7 (A7 (A7 e p) p) p) p) p) p*e:=by
 have h:p ^ 6=p*p*p*p*p*p:=by rw[Nat.pow_succ,Nat.pow_succ,Nat.pow_succ,Nat.pow_succ,Nat.pow_succ,Nat.pow_one]
 rw[h,S5,C1h,P0,P0,P0,P0,P0]
end
theorem G3v {e:F12} (he:e*cjp e=1):A7 e (pN ^ 6+1)=1:=by
 rw[H0q,A0u,A0u,A0u,A0u,A0u,A0u,C9w,C9w,C9w,E9b tn1 tn2 tn3 tn4 tn5];refine Eq.trans ?_ he
 generalize cjp e=c;grind
end

set_option linter.unusedSectionVars false
section

theorem G7s (y:F6):Fld.inv y=B2j y:=rfl
section
variable {R:Type} [J7 R]
theorem H7w (y:R):0-y = -y:=by grind
end
theorem H6n (x:F12):ivp x=A3q x:=by
 unfold A3q C2n;rw[G7s];unfold ivp;generalize B2j (x.a*x.a-Nrs.xi*(x.b*x.b))=n;rw[H7w]
theorem G6d (f:F12):cjp f*ivp f=et f:=by rw[A0r,H6n];rfl
def A2a (e:F12):F12:=D5b (frb (frb e)*e)
theorem A3l (f:F12):N7 f=A2a (et f):=by
 rw[<-G6d];rfl
theorem B2c (x y:F12) (n:Int):gpi (x*y) n=gpi x n*gpi y n:=by rw[A2w,A2w,A2w,A3m]
theorem F5a (x y:F12):A2v (x*y)=A2v x*A2v y:=by unfold A2v;rw[B2c,B2c]
theorem F5c (x y:F12):A2b (x*y)=A2b x*A2b y:=by
 unfold A2b;rw[B2c,A4e,A7k];generalize cjp (gpi x 15132376222941642752)=a;generalize cjp (gpi y 15132376222941642752)=b;generalize frb x=c;generalize frb y=d;grind
theorem F5b (x y:F12):B7l (x*y)=B7l x*B7l y:=by unfold B7l;rw[B2c,B2c]
theorem F4y (x y:F12):D5b (x*y)=D5b x*D5b y:=by
 unfold D5b;rw[F5a,F5c,F5b,A4e,A7k,A7k];generalize B7l (A2b (A2v x))=a1;generalize B7l (A2b (A2v y))=a2;generalize frb (frb (A2b (A2v x)))=b1;generalize frb (frb (A2b (A2v y)))=b2;generalize cjp (A2b (A2v x))=c1;generalize cjp (A2b (A2v y))=c2;grind
theorem C0x (x y:F12):A2a (x*y)=A2a x*A2a y:=by
 unfold A2a;have e:frb (frb (x*y))*(x*y)=frb (frb x)*x*(frb (frb y)*y):=by
  rw[A7k,A7k];generalize frb (frb x)=a;generalize frb (frb y)=b;grind
 rw[e,F4y]
end

section

theorem H3q:(15132376222941642752:Int).toNat=15132376222941642752:=by decide +kernel
theorem I6f:(15132376222941642753:Int).toNat=15132376222941642753:=by decide +kernel
theorem I6g:(5044125407647214251:Int).toNat=5044125407647214251:=by decide +kernel
theorem H8d:(pN ^ 2+1)*(15132376222941642752+pN)*(15132376222941642753*5044125407647214251)*(pN*(15132376222941642752*15132376222941642752)+pN*(pN*pN)+15132376222941642752)+(pN ^ 2+1)*(15132376222941642752+pN)=(pN ^ 2+1)*(15132376222941642752+pN)*(15132376222941642753*5044125407647214251)*(pN+15132376222941642752*(15132376222941642752*15132376222941642752)+15132376222941642752*(pN*pN))+(pN ^ 6+1)*(15132376222941642753*5044125407647214251):=by decide +kernel
section
variable {G:Type} [J7 G]
theorem H1u (e:G) (p L:Nat):A7 (A7 (A7 e L*A7 e p) p) p*(A7 e L*A7 e p)=A7 e ((p ^ 2+1)*(L+p)):=by
 have h:(L+p)*(p*p)+(L+p)=(p ^ 2+1)*(L+p):=by rw[Nat.pow_two,Nat.mul_comm (p*p+1),Nat.mul_add,Nat.mul_one]
 rw[<-S5,<-P0,<-P0,<-S5,h]
end
theorem G6w {e:F12} (he:e*cjp e=1) (p L A B:Nat) (fr:∀x,frb x=A7 x p) (h6:A7 e (p ^ 6+1)=1)
  (num:(p ^ 2+1)*(L+p)*(A*B)*(p*(L*L)+p*(p*p)+L)+(p ^ 2+1)*(L+p)=(p ^ 2+1)*(L+p)*(A*B)*(p+L*(L*L)+L*(p*p))+(p ^ 6+1)*(A*B))
  (hG:∀x,A2v x=A7 (A7 x A) B) (hK:∀g,A2b g=cjp (A7 g L)*frb g) (hH:∀k,B7l k=A7 (A7 k L) L):A2a (A7 e L*frb e)=1:=by
 have ha:=H1u e p L;unfold A2a D5b;rw[fr e,fr (A7 e L*A7 e p),fr (A7 (A7 e L*A7 e p) p),ha,hH,fr (A2b _),fr (A7 (A2b _) p)];exact G6v A4e E4h A7d he h6 num rfl ((hG _).trans (P0 _ A B).symm) ((hK _).trans (by rw[fr]))
theorem F4z {e:F12} (he:e*cjp e=1):A2a (A7 e 15132376222941642752*frb e)=1:=
 G6w he pN 15132376222941642752 15132376222941642753 5044125407647214251 (fun x=>(A0u x).symm) (G3v he) H8d
  (fun x=>by unfold A2v;rw[A2w,A2w,I6f,I6g]) (fun g=>by unfold A2b;rw[A2w,H3q]) (fun k=>by unfold B7l;rw[A2w,A2w,H3q])
end

set_option linter.unusedSectionVars false
section

def gm:F2:=(Fin.ofNat pN 877076961050607968509681729531255177986764537961432449499635504522207616027455086505066378536590128544573588734230,Fin.ofNat pN 877076961050607968509681729531255177986764537961432449499635504522207616027455086505066378536590128544573588734230)
def f0E (x:Fp):F6:=upE ((x,0):F2)
section
variable {r:Nat} [NeZero r]
theorem H7e (x y:Fin r):((x+y,0):Q2 r)=(x,0)+(y,0):=G1 rfl (by show 0=(0:Fin r)+0;grind)
theorem H7h (x y:Fin r):((x-y,0):Q2 r)=(x,0)-(y,0):=G1 rfl (by show 0=(0:Fin r)-0;grind)
theorem H7f (x y:Fin r):((x*y,0):Q2 r)=(x,0)*(y,0):=G1 (by show x*y=x*y-0*0;grind) (by show 0=x*0+0*y;grind)
theorem H7g (z:Q2 r) (n:Fin r):((z.1*n,z.2*n):Q2 r)=z*(n,0):=G1 (by show z.1*n=z.1*n-z.2*0;grind) (by show z.2*n=z.1*0+z.2*n;grind)
def cjQ (x:Q2 r):Q2 r:=(x.1,0-x.2)
theorem G5i (x y:Q2 r):cjQ (x+y)=cjQ x+cjQ y:=G1 rfl (by show 0-(x.2+y.2)=(0-x.2)+(0-y.2);grind)
theorem E4g (x y:Q2 r):cjQ (x-y)=cjQ x-cjQ y:=G1 rfl (by show 0-(x.2-y.2)=(0-x.2)-(0-y.2);grind)
theorem E4f (x y:Q2 r):cjQ (x*y)=cjQ x*cjQ y:=G1 (by simp only[cjQ,C5i,C5j];grind) (by simp only[cjQ,C5i,C5j];grind)
theorem G5j (x:Q2 r):cjQ (-x) = -cjQ x:=by
 have e:-x=0-x:=by grind
 have e2:-cjQ x=0-cjQ x:=by grind
 rw[e,e2,E4g];have:cjQ (0:Q2 r)=0:=G1 rfl (by show (0:Fin r)-0=0;grind)
 rw[this]
theorem H4m (x:Fin r):cjQ ((x,0):Q2 r)=(x,0):=G1 rfl (by show (0:Fin r)-0=0;grind)
theorem F3d (x:Q2 r) (h:cjQ x=0):x=0:=by
 have h1:x.1=0:=congrArg Prod.fst h;have h2:0-x.2=0:=congrArg Prod.snd h;exact G1 h1 (by show x.2=0;clear h h1;grind)
end
section
variable {R:Type} [Fld R] [DecidableEq R] [Nrs R]
theorem G3w (x y:R):upE (x+y)=upE x+upE y:=(F4f x y).symm
theorem G3x (x y:R):upE (x*y)=upE x*upE y:=(F4e x y).symm
theorem G3y (x y:R):upE (x-y)=upE x-upE y:=E3.ext' rfl (by show (0:R)=0-0;grind) (by show (0:R)=0-0;grind)
theorem I7q (x:R):letI:=Y0 (F:=R);upE x*Nrs.xi=(⟨0,x,0⟩:E3 R):=by
 letI:=Y0 (F:=R)
 refine E3.ext' ?_ ?_ ?_
 all_goals
  simp only[upE,Nrs.xi,E3.mul_a,E3.mul_b,E3.mul_c]<;>grind
theorem D4v (x y l m:R):letI:=Y0 (F:=R);evl upE (upE x*Nrs.xi) (upE y*Nrs.xi) (some (l,m))=B7n (-m) (-(l*x)) y:=by
 letI:=Y0 (F:=R)
 refine E2.ext' (E3.ext' ?_ ?_ ?_) (E3.ext' ?_ ?_ ?_)
 all_goals
  simp only[evl,B7n,upE,Nrs.xi,E3.mul_a,E3.mul_b,E3.mul_c,E3.add_a,E3.add_b,E3.add_c,E3.neg_a,E3.neg_b,E3.neg_c]
  grind
def D6g (y a b:R):E2 (E3 R):=⟨⟨y,0,0⟩,⟨a,b,0⟩⟩
theorem D6d (l m x y:R):letI:=Y0 (F:=R);(⟨upE y,-(upE l*upE x+upE m*Nrs.xi)⟩:E2 (E3 R))=D6g y (-(l*x)) (-m):=by
 letI:=Y0 (F:=R)
 refine E2.ext' (E3.ext' ?_ ?_ ?_) (E3.ext' ?_ ?_ ?_)
 all_goals
  simp only[D6g,upE,Nrs.xi,E3.mul_a,E3.mul_b,E3.mul_c,E3.add_a,E3.add_b,E3.add_c,E3.neg_a,E3.neg_b,E3.neg_c]<;>grind
theorem F2d {a b c a' b' c' : R} (h1:a*c' = a' * c) (h2:b*c' = b' * c):letI:=Y0 (F:=R);Ass (B7n a b c) (B7n a' b' c'):=by
 letI:=Y0 (F:=R)
 refine E3.ext' ?_ ?_ ?_
 ·show a*0+Nrs.xi*(b*0+0*c')=a' * 0+Nrs.xi*(b' * 0+0*c);grind
 ·show a*c' + b*0+Nrs.xi*(0*0)=a' * c+b' * 0+Nrs.xi*(0*0);rw[h1];grind
 ·show a*0+b*c' + 0*0=a' * 0+b' * c+0*0;rw[h2];grind
theorem F2e {y a b y' a' b' : R} (h1:y*a' = y' * a) (h2:y*b' = y' * b):letI:=Y0 (F:=R);Ass (D6g y a b) (D6g y' a' b'):=by
 letI:=Y0 (F:=R)
 refine E3.ext' ?_ ?_ ?_
 ·show y*a' + Nrs.xi*(0*0+0*b')=y' * a+Nrs.xi*(0*0+0*b);rw[h1];grind
 ·show y*b' + 0*a' + Nrs.xi*(0*0)=y' * b+0*a+Nrs.xi*(0*0);rw[h2];grind
 ·show y*0+0*b' + 0*a' = y' * 0+0*b+0*a;grind
theorem I1v {m' l' x y t2 t3 g:R} (h2:g*t3=t2) (h3:g*g*g*t3=1):letI:=Y0 (F:=R);Ass (B7n (-(m' * (g*g*g))) (-(l' * g*x)) y) (B7n (-m') (-(l' * x)*t2) (y*t3)):=by
 refine F2d ?_ ?_
 ·have:-(m' * (g*g*g))*(y*t3) = -m' * y*(g*g*g*t3):=by clear h2 h3;grind
  rw[this,h3];clear this h2 h3;grind
 ·rw[<-h2];clear h2 h3;grind
theorem I1w {y' l x' m t1 t3 g:R} (h1:g*t1=1) (h3:g*g*g*t3=1):letI:=Y0 (F:=R);Ass (D6g (y' * (g*g*g)) (-(l*(x' * (g*g)))) (-m)) (D6g y' (-(l*x')*t1) (-m*t3)):=by
 refine F2e ?_ ?_
 ·have:y' * (g*g*g)*(-(l*x')*t1)=y' * -(l*(x' * (g*g)))*(g*t1):=by clear h1 h3;grind
  rw[this,h1];clear this h1 h3;grind
 ·have:y' * (g*g*g)*(-m*t3)=y' * -m*(g*g*g*t3):=by clear h1 h3;grind
  rw[this,h3];clear this h1 h3;grind
end
theorem emb:Emb fp4 fq4 f0E (upE:F2->F6) where
 h0:=⟨fun x y=>(congrArg upE (H7e x y)).trans (G3w _ _),fun x y=>(congrArg upE (H7f x y)).trans (G3x _ _),fun x y=>(congrArg upE (H7h x y)).trans (G3y _ _)⟩
 h:=⟨G3w,G3x,G3y⟩
 n0:=fun y hy h=>by
  have k:=(I7q ((y,0):F2)).symm.trans h;exact hy (congrArg (fun z:F6=>z.b.1) k)
 n:=fun y hy h=>hy (congrArg E3.a h)
 hb:=by decide +kernel
 c0:=cv1
 c:=cv2
 ns:=H9
theorem gm1:gm*tur 1=1:=by decide +kernel
theorem gm2:gm*tur 3=tur 2:=by decide +kernel
theorem gm3:gm*gm*gm*tur 3=1:=by decide +kernel
theorem tuQ:Tu cj2 gm fq4 where
 h:=⟨G5i,E4f,E4g⟩
 i:=F3d
 g0:=by decide +kernel
 b:=by decide +kernel
theorem F3g (x:F12):∀n,A7 (cj x) n=cj (A7 x n)
 | 0=>F3f.symm
 | n+1=>by
  show A7 (cj x) n*cj x=cj (A7 x n*x);rw[F3g x n,B9p]
theorem E5l:frb 1=1:=by decide +kernel
theorem A3i:cj2 0=0:=by decide +kernel
section
variable {R:Type} [J7 R]
theorem F1p (t:R):0*t=0:=by grind
end
theorem F5i (a b c:F2):frb (B7n a b c)=B7n (cj2 a) (cj2 b*tur 2) (cj2 c*tur 3):=by
 refine E2.ext' (E3.ext' rfl rfl ?_) (E3.ext' ?_ rfl ?_)
 ·show cj2 0*tur 4=0;rw[A3i,F1p]
 ·show cj2 0*tur 1=0;rw[A3i,F1p]
 ·show cj2 0*tur 5=0;rw[A3i,F1p]
theorem F5j (y a b:F2):frb (D6g y a b)=D6g (cj2 y) (cj2 a*tur 1) (cj2 b*tur 3):=by
 refine E2.ext' (E3.ext' rfl ?_ ?_) (E3.ext' rfl rfl ?_)
 ·show cj2 0*tur 2=0;rw[A3i,F1p]
 ·show cj2 0*tur 4=0;rw[A3i,F1p]
 ·show cj2 0*tur 5=0;rw[A3i,F1p]
theorem E4e (x y:F2):cj2 (x*y)=cj2 x*cj2 y:=E4f x y
theorem B7y (x:F2):cj2 (-x) = -cj2 x:=G5j x
theorem C8y (x:Fp):cj2 ((x,0):F2)=(x,0):=H4m x
theorem frl:Frl f0E (upE:F2->F6) cj2 gm frb where
 m:=A7k
 o:=E5l
 c:=fun x=>(A0u (cj x)).symm.trans ((F3g x pN).trans (congrArg cj (A0u x)))
 e:=fun x y l m=>by
  have k1:=D4v ((x,0):F2) (y,0) (cj2 l*gm) (cj2 m*(gm*gm*gm));have k2:=D4v ((x,0):F2) (y,0) l m;have k3:=(congrArg frb k2).trans (F5i _ _ _);rw[B7y,B7y,E4e,C8y,C8y] at k3;have k4:=I1v (m' := cj2 m) (l' := cj2 l) (x:=((x,0):F2)) (y:=(y,0)) gm2 gm3;exact (congrArg (fun u=>Ass u _) k1).mpr ((congrArg (fun u=>Ass _ u) k3).mpr k4)
 l:=fun l a=>by
  have k1:=D6d ((l.1,0):F2) (l.2,0) (cj2 a.1*(gm*gm)) (cj2 a.2*(gm*gm*gm));have k2:=D6d ((l.1,0):F2) (l.2,0) a.1 a.2;have k3:=(congrArg frb k2).trans (F5j _ _ _);rw[B7y,B7y,E4e,C8y,C8y] at k3;have k4:=I1w (y' := cj2 a.2) (l:=((l.1,0):F2)) (x' := cj2 a.1) (m:=(l.2,0)) gm1 gm3;exact (congrArg (fun u=>Ass u _) k1).mpr ((congrArg (fun u=>Ass _ u) k3).mpr k4)
end

set_option linter.unusedSectionVars false
section

section
variable {F:Type} [Fld F] [DecidableEq F] {b:F}
def I5j (a s:F×F×F) (z:Bool):F×F×F:=if z=true then jpl (jtw s) a else jtw s
def jbs (a:F×F×F) (l:List Bool):F×F×F:=l.foldl (I5j a) a
theorem F6s (hc:Cv b) {P:Pt F} {a:F×F×F} (hP:OnC b P) (h:Jc P a):∀(l:List Bool) (n:Nat) (s:F×F×F),Jc (D6 P n) s->Jc (D6 P (l.foldl nst n)) (l.foldl (I5j a) s)
 | [],_,_,hs=>hs
 | z::l,n,s,hs=>by
  refine F6s hc hP h l (nst n z) _ ?_
  have J1:Jc (D6 P (n+n)) (jtw s):=by rw[Q5 hc hP];exact A5w hc.two _ _ hs
  cases z with
  | false=>exact J1
  | true=>exact A2y hc.two _ _ _ _ J1 h
theorem D6x (hc:Cv b) {P:Pt F} {a:F×F×F} (hP:OnC b P) (h:Jc P a) (l:List Bool) {n:Nat} (hn:l.foldl nst 1=n):Jc (D6 P n) (jbs a l):=hn ▸ F6s hc hP h l 1 a h
theorem G7x {P:Pt F} {t:F×F×F} (h:Jc P t) (hz:t.2.2=0):P=none:=by
 cases P with
 | none=>rfl
 | some p=>exact absurd hz h.1
theorem G7y {P Q:Pt F} {t:F×F×F} (h:Jc P t) (k:Jc Q t):P=Q:=(D0m P t h).symm.trans (D0m Q t k)
theorem A4l (hc:Cv b) (X:CP b):∀n,(letI:=M8 hc;mlt X n).1=D6 X.1 n
 | 0=>rfl
 | n+1=>by
  show C5 (letI:=M8 hc;mlt X n).1 X.1=C5 (D6 X.1 n) X.1
  rw[A4l hc X n]
end
@[reducible] instance agQ:AG (CP fq4):=M8 cv2
@[reducible] instance agP:AG (CP fp4):=M8 cv1
def hPt:F2×F2:=((Fin.ofNat pN 352701069587466618187139116011060144890029952792775240219908644239793785735715026873347600343865175952761926303160,Fin.ofNat pN 3059144344244213709971259814753781636986470325476647558659373206291635324768958432433509563104347017837885763365758),(Fin.ofNat pN 1985150602287291935568054521177171638300868978215655730859378665066344726373823718423869104263333984641494340347905,Fin.ofNat pN 927553665492332455747201965776037880757740193453592970025027978793976877002675564980949289727957565575433344219582))
def uPt:F2×F2:=((Fin.ofNat pN 1117537858402150239581489583423215310817594763587075173510352554317036724133868662355368490764272633936142202708396,Fin.ofNat pN 598156863305241747249262889660708741642521236408786009817264754940573902844630362426503131117978715071394150269485),(Fin.ofNat pN 1201985429637510306336279274905740415478318848439253116206132776238306151744392340446480012257797801557570457579778,Fin.ofNat pN 2343949297471243289497692297768928841657631340968057880984352745333316400744261991566673533373889824163548528572929))
def gPt:Fp×Fp:=(Fin.ofNat pN 3685416753713387016781088315183077757961620795782546409894578378688607592378376318836054947676345821548104185464507,Fin.ofNat pN 1339506544944476473020471379941921221584933875938349620426543736416511423956333506472724655353366534992391756441569)
theorem I8n:hPt.2*hPt.2=hPt.1*hPt.1*hPt.1+fq4:=by decide +kernel
theorem J1h:uPt.2*uPt.2=uPt.1*uPt.1*uPt.1+fq4:=by decide +kernel
theorem D5l:gPt.2*gPt.2=gPt.1*gPt.1*gPt.1+fp4:=by decide +kernel
def ptH:CP fq4:=⟨some hPt,I8n⟩
def ptU:CP fq4:=⟨some uPt,J1h⟩
def ptG:CP fp4:=⟨some gPt,D5l⟩
section
variable {F:Type} [Fld F]
theorem E0u (p:F×F) (o:F) (ho:o=1):Jc (some p) (p.1,p.2,o):=by
 subst ho;refine ⟨Fld.one_ne,?_,?_⟩
 ·show p.1=p.1*(1*1);generalize p.1=x;grind
 ·show p.2=p.2*(1*1*1);generalize p.2=x;grind
end
theorem F2n:(btL rN 255 255).tail.foldl nst 1=rN:=by decide +kernel
theorem H4g:(btL qU 448 448).tail.foldl nst 1=qU:=by decide +kernel
theorem F2l:(btL Z0 64 64).tail.foldl nst 1=Z0:=by decide +kernel
theorem H6a:(jbs (hPt.1,hPt.2,(1:F2)) (btL rN 255 255).tail).2.2=0:=by decide +kernel
theorem I1y:(jbs (uPt.1,uPt.2,(1:F2)) (btL qU 448 448).tail).2.2=0:=by decide +kernel
theorem H5w:(jbs (gPt.1,gPt.2,(1:Fp)) (btL rN 255 255).tail).2.2=0:=by decide +kernel
theorem I5k {F:Type} [Fld F] {p:F×F} {t:F×F×F} (h:t.2.2≠0∧t.1=p.1*(t.2.2*t.2.2)∧t.2.1=p.2*(t.2.2*t.2.2*t.2.2)):Jc (some p) t:=h
theorem H5z:(jbs (hPt.1,hPt.2,(1:F2)) (btL Z0 64 64).tail).2.2≠0∧(jbs (hPt.1,hPt.2,(1:F2)) (btL Z0 64 64).tail).1=(ngp (tu cj2 gm hPt)).1*((jbs (hPt.1,hPt.2,(1:F2)) (btL Z0 64 64).tail).2.2*(jbs (hPt.1,hPt.2,(1:F2)) (btL Z0 64 64).tail).2.2)∧(jbs (hPt.1,hPt.2,(1:F2)) (btL Z0 64 64).tail).2.1=(ngp (tu cj2 gm hPt)).2*((jbs (hPt.1,hPt.2,(1:F2)) (btL Z0 64 64).tail).2.2*(jbs (hPt.1,hPt.2,(1:F2)) (btL Z0 64 64).tail).2.2*(jbs (hPt.1,hPt.2,(1:F2)) (btL Z0 64 64).tail).2.2):=by decide +kernel
theorem I8m:Jc (some (ngp (tu cj2 gm hPt))) (jbs (hPt.1,hPt.2,(1:F2)) (btL Z0 64 64).tail):=I5k H5z
section
variable {F:Type} [Fld F] [DecidableEq F] {b:F}
theorem C2a (hc:Cv b) (X:CP b) {p:F×F} (hX:X.1=some p) {n:Nat} (l:List Bool) (hn:l.foldl nst 1=n) {o:F} (ho:o=1) (hz:(jbs (p.1,p.2,o) l).2.2=0):letI:=M8 hc;mlt X n=0:=by
 letI:=M8 hc
 have k:=A4l hc X n;rw[hX] at k;exact Subtype.ext (k.trans (G7x (D6x hc (hX ▸ X.2) (E0u p o ho) l hn) hz))
theorem F8u (hc:Cv b) (X:CP b) {p q:F×F} (hX:X.1=some p) {n:Nat} (l:List Bool) (hn:l.foldl nst 1=n) {o:F} (ho:o=1) (hz:Jc (some q) (jbs (p.1,p.2,o) l)):letI:=M8 hc;(mlt X n).1=some q:=by
 letI:=M8 hc
 have k:=A4l hc X n;rw[hX] at k;exact k.trans (G7y (D6x hc (hX ▸ X.2) (E0u p o ho) l hn) hz)
theorem G1m (hc:Cv b) {X:CP b} {p:F×F} (h:X.1=some p):letI:=M8 hc;X≠0:=by
 letI:=M8 hc
 intro e;rw[e] at h;have h:(none:Pt F)=some p:=h
 cases h
end
theorem H_r:mlt ptH rN=0:=C2a cv2 ptH (p:=hPt) rfl (n:=rN) (btL rN 255 255).tail F2n (o:=1) rfl H6a
theorem U_q:mlt ptU qU=0:=C2a cv2 ptU (p:=uPt) rfl (n:=qU) (btL qU 448 448).tail H4g (o:=1) rfl I1y
theorem G_r:mlt ptG rN=0:=C2a cv1 ptG (p:=gPt) rfl (n:=rN) (btL rN 255 255).tail F2n (o:=1) rfl H5w
theorem H_L:(mlt ptH Z0).1=P5 (ptu cj2 gm ptH.1):=F8u cv2 ptH (p:=hPt) (q:=ngp (tu cj2 gm hPt)) rfl (n:=Z0) (btL Z0 64 64).tail F2l (o:=1) rfl I8m
theorem H5c (x:F2):x.1.val*pN+x.2.val<pN*pN:=by
 have h1:=x.1.isLt;have h2:=x.2.isLt;have:=Nat.mul_le_mul_right pN (Nat.le_sub_one_of_lt h1)
 have h3:(pN-1)*pN+pN=pN*pN:=by
  rw[<-Nat.succ_mul];congr 1
 exact Nat.lt_of_lt_of_le (Nat.add_lt_add_of_le_of_lt this h2) (Nat.le_of_eq h3)
theorem G6a (x y:F2) (h:x.1.val*pN+x.2.val=y.1.val*pN+y.2.val):x=y:=by
 have h1:(x.1.val*pN+x.2.val) / pN=(y.1.val*pN+y.2.val) / pN:=by rw[h]
 have h2:(x.1.val*pN+x.2.val) % pN=(y.1.val*pN+y.2.val) % pN:=by rw[h]
 have hp:0<pN:=by decide +kernel
 rw[Nat.mul_comm,Nat.mul_add_mod,Nat.mul_comm y.1.val,Nat.mul_add_mod,Nat.mod_eq_of_lt x.2.isLt,Nat.mod_eq_of_lt y.2.isLt] at h2;rw[Nat.mul_comm,Nat.mul_add_div hp,Nat.mul_comm y.1.val,Nat.mul_add_div hp,Nat.div_eq_of_lt x.2.isLt,Nat.div_eq_of_lt y.2.isLt] at h1;exact Prod.ext (Fin.ext h1) (Fin.ext h2)
theorem I0x:2*(pN*pN)+1<qU*(rN*rN):=by decide +kernel
theorem E7e:0<rN:=by decide +kernel
theorem I6t:0<qU:=by decide +kernel
theorem H5x:Nat.gcd rN qU=1:=by decide +kernel
theorem H7t {A:CP fq4} (hA:mlt A rN=0):D3s ptH A:=
 F1z (G5n (b:=fq4) (fun x:F2=>x.1.val*pN+x.2.val) (pN*pN) H5c G6a) I0x H6l E7e I8t I6t H5x hA H_r U_q (G1m cv2 (X:=ptH) (p:=hPt) rfl) (G1m cv2 (X:=ptU) (p:=uPt) rfl)
theorem G3n {n:Nat} (hn:(mlt ptH n).1=P5 (ptu cj2 gm ptH.1)) (A:CP fq4) (hA:mlt A rN=0):(mlt A n).1=P5 (ptu cj2 gm A.1):=by
 obtain ⟨m,rfl⟩:=H7t hA;clear hA;rw[A0n];induction m with
 | zero=>rfl
 | succ m ih=>
  show C5 (mlt (mlt ptH n) m).1 (mlt ptH n).1=P5 (ptu cj2 gm (C5 (mlt ptH m).1 ptH.1));rw[ih,hn,<-(F7k cv2 tuQ (mlt ptH m).2 ptH.2).2];exact (congrArg Subtype.val (AG.ng_add (M:=CP fq4) (⟨ptu cj2 gm (mlt ptH m).1,B7i tuQ (mlt ptH m).2⟩:CP fq4) ⟨ptu cj2 gm ptH.1,B7i tuQ ptH.2⟩)).symm

def SQ (X:CP fq4):Prop:=mlt X rN=0
theorem G4i:SQ 0:=O7 rN
theorem F1s {x y:CP fq4} (hx:SQ x) (hy:SQ y):SQ (x+y):=by
 show mlt (x+y) rN=0;rw[B8g,show mlt x rN=0 from hx,show mlt y rN=0 from hy]
 grind
section
variable {M:Type} [C8k M]
theorem E9t (x:M):mlt x 3=x+x+x:=by show 0+x+x+x=_;grind
theorem F8s (x:M):mlt x 5=x+x+x+x+x:=by show 0+x+x+x+x+x=_;grind
end
theorem I3o (X:CP fq4) (h:SQ X):(X+X+X=0->X=0)∧(X+X+X+X+X=0->X=0):=
 ⟨fun e=>B2u 3 rN ((E9t X).trans e) h (by decide +kernel),fun e=>B2u 5 rN ((F8s X).trans e) h (by decide +kernel)⟩
abbrev DpE (P:Pt Fp):CP fq4->CP fq4->F12:=fun A B=>Dp f0E (upE:F2->F6) P A.1 B.1
theorem G5l {P:Pt Fp} (hP:OnC fp4 P):Coc SQ (DpE P):=H4s emb hP G4i F1s I3o
theorem F4n {u:F12} (hu:u≠0):et u*cjp (et u)=1:=by
 rw[A0r];have h:cj (et u)=et (cj u):=B6w H9 (C6a H9 hu) (by rw[<-B9p,K0 H9 hu])
 rw[h];have k:=D4t H9 hu;generalize et u=a at *;generalize et (cj u)=c at *;rw[<-k];clear k h;grind
theorem B8i:(1:F12)*cjp 1=1:=by rw[A7d];exact E2.one_mul 1
theorem G5x {P:Pt Fp} (hP:OnC fp4 P) (A B:Pt F2):Dp f0E (upE:F2->F6) P A B*cjp (Dp f0E (upE:F2->F6) P A B)=1:=by
 cases P with
 | none=>exact B8i
 | some p=>exact F4n (A0t emb hP _)
theorem G6c (P Q:Pt Fp) {A:Pt F2} (hA:OnC fq4 A):Ep f0E (upE:F2->F6) P Q A*cjp (Ep f0E (upE:F2->F6) P Q A)=1:=by
 cases A with
 | none=>rw[A8v];exact B8i
 | some a=>
  cases k:lda P Q with
  | none=>rw[P7 k];exact B8i
  | some l=>rw[Z8 k];exact F4n (A4j emb hA l)
theorem D4g (x:F12):∀n,cjp (A7 x n)=A7 (cjp x) n
 | 0=>A7d
 | n+1=>by
  show cjp (A7 x n*x)=A7 (cjp x) n*cjp x;rw[A4e,D4g x n]
theorem G5k (x:F12):cjp (frb x)=frb (cjp x):=by rw[A0r,A0r,frl.c]
theorem E8x {n:Nat} (hn:n=15132376222941642752) {e:F12} (he:e*cjp e=1):A2a (A7 e n*frb e)=1:=by
 subst hn;exact F4z he
theorem kill {n:Nat} (hn:n=15132376222941642752) {e:F12} (he:e*cjp e=1):A2a (cjp (A7 e n*frb e))=1:=by
 rw[A4e,D4g,G5k];refine E8x hn ?_
 rw[E4h,<-he];generalize cjp e=c;clear he;grind
theorem G6p {n:Nat} (hn:n=15132376222941642752):A2a 1=1:=by
 have k:=kill hn B8i;rw[B2e,E5l,E2.one_mul,A7d] at k;exact k
theorem E0i:A2a 1=1:=G6p rfl
section
variable {M G:Type} [C8k M] [J7 G]
theorem D5q {S:M->Prop} {D:M->M->G} (h:Coc S D):∀n,gth D 0 n=1
 | 0=>rfl
 | n+1=>by
  show gth D 0 n*D (mlt 0 n) 0=1;rw[D5q h n,O7,h.l h.z];grind
end
theorem H3l {x y z w:F12} (h:x*w=y*z) (hw:A2a (cjp w)=1):A2a (cjp x)=A2a (cjp y)*A2a (cjp z):=by
 have k:A2a (cjp (x*w))=A2a (cjp (y*z)):=congrArg (fun u=>A2a (cjp u)) h
 rw[A4e,C0x,hw,A4e,C0x,E2.mul_one] at k;exact k
/-- The pairing of two points, by any number of steps. -/
def A2d (n:Nat) (P:Pt Fp) (Q:CP fq4):F12:=A2a (cjp (gth (DpE P) Q n))
section
variable {n:Nat} (hn:n=15132376222941642752) (ht:∀A:CP fq4,SQ A->(mlt A n).1=P5 (ptu cj2 gm A.1))
theorem D5p (A:CP fq4):∀n,gth (DpE none) A n=1
 | 0=>rfl
 | n+1=>by
  show gth (DpE none) A n*1=1;rw[D5p A n,E2.one_mul]
theorem C3m (n:Nat) {P:Pt Fp} (hP:OnC fp4 P):A2d n P 0=1:=by
 unfold A2d;rw[D5q (G5l hP),A7d,E0i]
theorem C3l (n:Nat) (A:CP fq4):A2d n none A=1:=by
 unfold A2d;rw[D5p,A7d,E0i]
include hn ht
theorem F0l {P:Pt Fp} (hP:OnC fp4 P) {A B:CP fq4} (hA:SQ A) (hB:SQ B):A2d n P (A+B)=A2d n P A*A2d n P B:=
 H3l (F6a emb tuQ frl hP (G5l hP) hA hB (ht A hA) (ht B hB)) (kill hn (G5x hP _ _))
theorem C7m {P Q:Pt Fp} (hP:OnC fp4 P) (hQ:OnC fp4 Q) {A:CP fq4} (hA:SQ A):A2d n (C5 P Q) A=A2d n P A*A2d n Q A:=
 H3l (F5z emb tuQ frl hP hQ A (ht A hA)) (kill hn (G6c P Q A.2))
omit hn ht in
theorem F1t {A:CP fq4} (hA:SQ A) (m:Nat):SQ (mlt A m):=by
 show mlt (mlt A m) rN=0;rw[A0n,show mlt A rN=0 from hA,O7]
theorem C7n {P:Pt Fp} (hP:OnC fp4 P) {A:CP fq4} (hA:SQ A):∀m,A2d n P (mlt A m)=A7 (A2d n P A) m
 | 0=>C3m n hP
 | m+1=>by
  show A2d n P (mlt A m+A)=A7 (A2d n P A) m*A2d n P A;rw[F0l hn ht hP (F1t hA m) hA,C7n hP hA m]
theorem C3k {P:Pt Fp} (hP:OnC fp4 P) {A:CP fq4} (hA:SQ A):∀m,A2d n (D6 P m) A=A7 (A2d n P A) m
 | 0=>C3l n A
 | m+1=>by
  show A2d n (C5 (D6 P m) P) A=A7 (A2d n P A) m*A2d n P A;rw[C7m hn ht (J0 cv1 hP m) hP hA,C3k hP hA m]
end
theorem C4l (A:CP fq4) (hA:SQ A):(mlt A Z0).1=P5 (ptu cj2 gm A.1):=G3n H_L A hA
theorem D1d:Z0=15132376222941642752:=rfl
/-- The pairing of two points. -/
def prg (P:Pt Fp) (Q:CP fq4):F12:=A2d Z0 P Q
theorem F0m {P:Pt Fp} (hP:OnC fp4 P):prg P 0=1:=C3m Z0 hP
theorem A7y (A:CP fq4):prg none A=1:=C3l Z0 A
theorem B3h {P Q:Pt Fp} (hP:OnC fp4 P) (hQ:OnC fp4 Q) {A:CP fq4} (hA:SQ A):prg (C5 P Q) A=prg P A*prg Q A:=C7m D1d C4l hP hQ hA
theorem G1i {P:Pt Fp} (hP:OnC fp4 P) {A:CP fq4} (hA:SQ A) (m:Nat):prg P (mlt A m)=A7 (prg P A) m:=C7n D1d C4l hP hA m
theorem B5t {P:Pt Fp} (hP:OnC fp4 P) {A:CP fq4} (hA:SQ A) (m:Nat):prg (D6 P m) A=A7 (prg P A) m:=C3k D1d C4l hP hA m
end

set_option linter.unusedSectionVars false
section

theorem D2w (z:F2) (n:Fp):scl z n=z*(n,0):=H7g z n
theorem I7k (t:F2×F2×F2) (x y:Fp):tch t x y=I1d t (x,0) (y,0):=by
 unfold tch;rw[D2w,D2w];rfl
theorem I7l (t q:F2×F2×F2) (x y:Fp):thg t q x y=I1g t q (x,0) (y,0):=by
 unfold thg;rw[D2w,D2w];rfl
theorem H3y {k:F2} (h:k≠0):(upE k:F6)≠0:=fun e=>h (congrArg E3.a e)
theorem I5u (x y:Fp) (q:F2×F2×F2):mst x y q=B7q (fun t=>tch t x y) (fun t=>thg t q x y) q:=by kernel_rfl
theorem H5f {u:F12} (hu:u≠0):et (cjp u)=cjp (et u):=by
 rw[A0r,A0r];exact (B6w H9 (C6a H9 hu) (by rw[<-B9p,K0 H9 hu])).symm
theorem G0c:(1:F12)≠0:=fun e=>Fld.one_ne (congrArg E2.a e)
section
variable {M G:Type} [C8k M] [J7 G]
theorem I4x {S:M->Prop} {D:M->M->G} (h:Coc S D) {x:M} (hx:S x):gth D x 1=1:=by
 show 1*D 0 x=1;rw[h.l hx];grind
end
theorem F7p {x y:Fp} (hP:OnC fp4 (some (x,y))) {Q:CP fq4} (hQ:SQ Q) {q:F2×F2} (hq:Q.1=some q) {q3:F2×F2×F2} (hj:Jc (some q) q3) {T1 T2:F2×F2×F2->F12}
    (h1:∀(p:F2×F2) (t:F2×F2×F2),OnC fq4 (some p)->Jc (some p) t->∃k,k≠0∧T1 t=(⟨k,0⟩:E2 F6)*evl upE (f0E x*Nrs.xi) (f0E y*Nrs.xi) (lda (some p) (some p)))
    (h2:∀(p:F2×F2) (t:F2×F2×F2),OnC fq4 (some p)->Jc (some p) t->p.1≠q.1->∃k,k≠0∧T2 t=(⟨k,0⟩:E2 F6)*evl upE (f0E x*Nrs.xi) (f0E y*Nrs.xi) (lda (some p) (some q)))
    {n:Nat} (l:List Bool) (hl:l.foldl nst 1=n) (hn:n+1<rN) {s:(F2×F2×F2)×F12} (hs1:s.1=q3) (hs2:s.2=1) :
    (l.foldl (B7q T1 T2 q3) s).2≠0∧et (l.foldl (B7q T1 T2 q3) s).2=gth (DpE (some (x,y))) Q n:=by
  subst hl;have hne:Q≠0:=G1m cv2 hq;have g0:∀m,0<m->m<=l.foldl nst 1+1->mlt Q m≠0:=fun m g1 g2=>F8t H6l hQ hne g1 (by omega)
  have g1:Jc (mlt Q 1).1 s.1:=by rw[show mlt Q 1=Q from D1g Q,hq,hs1];exact hj
  have g2:s.2≠0:=by rw[hs2];exact G0c
  have g3:et s.2=gth (DpE (some (x,y))) Q 1:=by
    rw[hs2,C9n H9];exact (I4x (G5l hP) hQ).symm
  have k:=G8u emb hP (G5l hP) hQ hq hj (T1:=T1) (T2:=T2) (Eq.mpr (by kernel_rfl) h1) (Eq.mpr (by kernel_rfl) h2) l 1 s (Nat.le_refl 1) g0 g1 (Eq.mpr (by kernel_rfl) g2) g3
  obtain ⟨_,k2,k3⟩:=k;exact ⟨Eq.mpr (by kernel_rfl) k2,Eq.mpr (by kernel_rfl) k3⟩
theorem I1f (x y:Fp) {p:F2×F2} (hp:OnC fq4 (some p)) {t:F2×F2×F2} (ht:Jc (some p) t):∃k,k≠0∧tch t x y=(⟨k,0⟩:E2 F6)*evl upE (f0E x*Nrs.xi) (f0E y*Nrs.xi) (lda (some p) (some p)):=by
 obtain ⟨k,k1,k2⟩:=I1e cv2 hp ht ((x,0):F2) (y,0);exact ⟨upE k,Eq.mpr (by kernel_rfl) (H3y k1),(I7k t x y).trans (Eq.mpr (by kernel_rfl) k2)⟩
theorem I1i (x y:Fp) {p q:F2×F2} (hp:OnC fq4 (some p)) (hq:OnC fq4 (some q)) (hne:p.1≠q.1) {t q3:F2×F2×F2} (ht:Jc (some p) t) (hz:q3=(q.1,q.2,1)):∃k,k≠0∧thg t q3 x y=(⟨k,0⟩:E2 F6)*evl upE (f0E x*Nrs.xi) (f0E y*Nrs.xi) (lda (some p) (some q)):=by
 subst hz;obtain ⟨k,k1,k2⟩:=I1h cv2 hp hq hne ht 1 ((x,0):F2) (y,0);exact ⟨upE k,Eq.mpr (by kernel_rfl) (H3y k1),(I7l t (q.1,q.2,1) x y).trans (Eq.mpr (by kernel_rfl) k2)⟩
theorem G8t {x y:Fp} (hP:OnC fp4 (some (x,y))) {Q:CP fq4} (hQ:SQ Q) {q:F2×F2} (hq:Q.1=some q) {q3:F2×F2×F2} (hz:q3=(q.1,q.2,1)) {n:Nat} (l:List Bool) (hl:l.foldl nst 1=n) (hn:n+1<rN) {s:(F2×F2×F2)×F12} (hs1:s.1=q3) (hs2:s.2=1) :
  N7 (cjp (l.foldl (mst x y q3) s).2)=A2d n (some (x,y)) Q:=by
 have hj:Jc (some q) q3:=by rw[hz];exact E0u q 1 rfl
 have oq:OnC fq4 (some q):=hq ▸ Q.2;have k:=F7p hP hQ hq hj (T1:=fun t=>tch t x y) (T2:=fun t=>thg t q3 x y)
  (fun p t hp ht=>I1f x y hp ht) (fun p t hp ht hne=>I1i x y hp oq hne ht hz) l hl hn hs1 hs2
 have e:l.foldl (mst x y q3) s=l.foldl (B7q (fun t=>tch t x y) (fun t=>thg t q3 x y) q3) s:=by rw[I5u]
 rw[e];generalize (l.foldl (B7q (fun t=>tch t x y) (fun t=>thg t q3 x y) q3) s).2=u at *
 rw[A3l,H5f k.1,k.2]
 rfl
theorem I7v:Z0+1<rN:=by decide +kernel
/-- What the program makes of two points that are not at infinity. -/
theorem F8o {x y:Fp} (hP:OnC fp4 (some (x,y))) {Q:CP fq4} (hQ:SQ Q) {q:F2×F2} (hq:Q.1=some q) {q3:F2×F2×F2} (hz:q3=(q.1,q.2,1)):N7 (mil x y q3)=prg (some (x,y)) Q:=
 G8t hP hQ hq hz (btL Z0 64 64).tail F2l I7v rfl rfl
def pwb (x:F12) (l:List Bool):F12:=l.foldl (gst x) 1
theorem H1a (x:F12) (l:List Bool) {n:Nat} (h:l.foldl nst 0=n):A7 x n=pwb x l:=h ▸ (D0c x l 0).symm
theorem B2d (x:F12) (l:List Bool) (n:Int) {m:Nat} (hm:n.toNat=m) (h:l.foldl nst 0=m):gpi x n=pwb x l:=by rw[A2w,hm];exact H1a x l h
end

section

def z_m:F12:=⟨⟨(Fin.ofNat pN 1846979733742619984236856519096961505208445084542243478292833414410313232237533907243873223977707181173091964108599,Fin.ofNat pN 365407202272051176779677544776498623663204201849587783087480754328259921374655803463339256418276596553498722730500),(Fin.ofNat pN 1911190202214193306915191356716142301130331169821418006776127252225453638404959874819864409062577222875009424983847,Fin.ofNat pN 3679292861835765883467971526569659371940848602799042554389237721905911544082360143923892401668358113856105294683991),(Fin.ofNat pN 2048706228926000143585595190501178899722334393191232002313286002301612148408673186740176657565554885032015484799561,Fin.ofNat pN 1941528177453715868023560981532865930033012600192205645353298847431525237698799555598314634997957011571128691368016)⟩,⟨(Fin.ofNat pN 2035712879703771928920753882730810723170553615583772682173309193126073890580984515411763578568445503451914173249443,Fin.ofNat pN 2907834186091693609740023504105558744656979486185667446279010118323342456602745240592912149552678189682088280549676),(Fin.ofNat pN 1421790502914473105444211451683241860962942039793317028247101372029878979007739224851131020099690234801601989789569,Fin.ofNat pN 3909972074827346416347607999507588686753975557379670554626250238677046122221576338852530510105548501062384172334641),(Fin.ofNat pN 3745541392790952208309249491525067142614413111609433735013854515389948791813214821166166779905186876590804694132896,Fin.ofNat pN 391714869254764547459313469459838962546079986178871748952864967824322933306180385378072835416624742514373976356399)⟩⟩
def z_e:F12:=⟨⟨(Fin.ofNat pN 1038073191547956796409026126878527268266470333355040852538473024278270963003608990329503419596226995509466091364281,Fin.ofNat pN 3472128712581537949760206934119993164102934148149591657022520829544656424752225682686329512606112979909590191069875),(Fin.ofNat pN 2534263294660501372298551917375746746088971440679951304452806090500958437583570399100257591792062280364101959774713,Fin.ofNat pN 226120475576023910458186354568120210768387840076254684535861946575969288857542481271780947500752793445098186233864),(Fin.ofNat pN 1161314499601140605061621386185046551864673398870606121070552226873391735549267290642645255723745001747290604370800,Fin.ofNat pN 2301761811495838010211397103530397764661212867299386216842190604737931490024083276544598849191731828693919031501243)⟩,⟨(Fin.ofNat pN 1101359075410896704516684587098874271743859023359536958181364457006937722628980652042521003077979438314663188928108,Fin.ofNat pN 3462181531384267964705894785715758591977722174550004475700089220209547927723681588659246838982473357725170126489634),(Fin.ofNat pN 195935104236643205428256232515341883457695583985633909267294720907483770166720912913565822209799242147021163718598,Fin.ofNat pN 1287996221979984214617076245476348766139561224958234245646224933442842926227832370671385213841157666392705275698306),(Fin.ofNat pN 2956194018199014813064850645607321544119010843269968507649317034045645971925442547220301238637714931742621408888299,Fin.ofNat pN 3257868591292127695426273984752163636650071375206943337305993232301098408247453798670221901046621246590503275656043)⟩⟩
def z_a:F12:=⟨⟨(Fin.ofNat pN 1510107722572828261550456151093864086691603914687768733547089522940763855394581829056943774158245330102175234867365,Fin.ofNat pN 808088717004703826527845002367721048328742280592989028558030142710212828338665719435559947605712112865726189666705),(Fin.ofNat pN 3710514574182005371926233043859060107788439815410187352828615120303774202962806625846108553355796224478762282615718,Fin.ofNat pN 3718410119742133333192092795470106941040113391850829632607903082329109300254219700624284948054717451211425800147146),(Fin.ofNat pN 3258996093706043078483052074983766734841692758717147460252044539419829763475289249153099003976736977297613956120486,Fin.ofNat pN 2368694829310213597069917632356869514055569781787290568526433824371764704323762446873487997487613368223346360443403)⟩,⟨(Fin.ofNat pN 825019717055119404488291944227878455588656804579258664131545285287600947107393882625533957511195351444914053275555,Fin.ofNat pN 1235237080506678848819252090840181863359857720799046539637838566547094823241749997397844433226723860984981410384623),(Fin.ofNat pN 2764381966972188833242976222377757459066036708528928840431954636069928496277414501615608427534705033883967463366461,Fin.ofNat pN 3950261173758068029169962917567733265997797709591473479657980127059112999656277408515066842040039285101520990525635),(Fin.ofNat pN 1261947073570269029040075154556515989509616962110692009464372009392016601853269864118522864681591239693361464667833,Fin.ofNat pN 1217072859421831304326757924601188491648346757263556492236697331750135459118781991687175033633434919933585395413051)⟩⟩
def I3e:F12:=⟨⟨(Fin.ofNat pN 483422842865460960975360683702114890774652236718602907106293727446196211695581273973892359419995701245121992995932,Fin.ofNat pN 2222429867643352770373620402102901987490735137111375888176643315800991900757926591534439227271694953648151793490073),(Fin.ofNat pN 1610231307709252983729874367857479319336262477471876703530520453644123333657891264298201834448006573077855989948663,Fin.ofNat pN 3883156552931842258954066820918373383391036564109442315705756673666363391855252551117194480602926690221678027116094),(Fin.ofNat pN 3487256076643242096739625695434415784841696980413007827992375275914526691252467867196925701436642760753767022994301,Fin.ofNat pN 813845368504596805013206987507671669248149767947113052502533072429870854746035370668129256356175822471743790199901)⟩,⟨(Fin.ofNat pN 1927797602461781900086820045826522454704630925687809151875065518483635704814997569389244451712388306168900150958386,Fin.ofNat pN 847298330573190689045272099117471598078014883259199798869916916031475018353450749804637900679902831207603142280429),(Fin.ofNat pN 3181495748846431153534605515498972098909138481982325133651947125397286559591777687710504290184774857764937542436173,Fin.ofNat pN 3927442649956390445152114195600725081697808356048479001169541793773148602043543165637069657286618335111170148756235),(Fin.ofNat pN 3862461713938468101589408707758930616224752264359556066306406464341799679602123946570919867488829269571132542772045,Fin.ofNat pN 2313241134748716337674948143245730345706151910631567423961649313819758030894466160528567478647995009281984044836526)⟩⟩
def z_g:F12:=⟨⟨(Fin.ofNat pN 3727150175738056038437321238698697731781696080828773757040465011490166181611631337200778236356031642695439974349577,Fin.ofNat pN 1839616876754881781575858437310641937202581969126240033381844989596092734646398823766831267435784899908572145045229),(Fin.ofNat pN 1580184008049100904643447925191051042267566823155155928888485936743655907143247475057389383953654826599755381962794,Fin.ofNat pN 1005949275355438696672991010234449474573361999171252316254608330350763691274836406122448075879672385123810043437110),(Fin.ofNat pN 1585883970529978240440447542531357286798319535283777953821222332988572154537685743080024088316898147945266006734229,Fin.ofNat pN 1199950435371321038801444568252619754865232185458154947547888299091533290374719175887487243483924298314521692640896)⟩,⟨(Fin.ofNat pN 539680322645145116303307080724512506916061293076076986331653724442803312168823473248951745543834568468985016018192,Fin.ofNat pN 330947745919527821020935030651470241082031533021947398364489188527539447216233841244275379210418719581070542826781),(Fin.ofNat pN 2840388762593808083854887012734212079940937394313433939075964079968561662327095766812093669054050452258812556988242,Fin.ofNat pN 1271087477349948860464878134423988809838951568518485035210370323344073046381427019486706281467574774810664877475006),(Fin.ofNat pN 1345172911928469554826095690452192193536251277879245666210791152025976408422338480113649465367816341649210158049872,Fin.ofNat pN 1279259221751448315889073431954539259164919195792295350465434707814361055056283259375646338710602467184442465537696)⟩⟩
def I7s:F12:=⟨⟨(Fin.ofNat pN 98106732922247232046294826107804893606305139741859558001246681532726008229110186069559361626155778899354839290029,Fin.ofNat pN 2411243288242059420409506076039276428512266365926037552111752313440190731179225607997767635017270349439125996541834),(Fin.ofNat pN 2683305819022892796578784263010312016630281780315918502717907372576263986315038237375049427928424388897634981744248,Fin.ofNat pN 1870984871590677877346426025150611738918673294100338707497423226557823273417581946975760616334842831725692553781629),(Fin.ofNat pN 903171389235868883618496292449982554898075432727674087719684362304278145783033445620564310952930377480405516675348,Fin.ofNat pN 1819359316961982648696825768698582274299360242409634863041377482942933471064999032389391165236518591424861661659287)⟩,⟨(Fin.ofNat pN 457111985964339394215082602979823100535751250453477664959867604692228216990684070412327237746464656400878374138801,Fin.ofNat pN 502984723173621339954754264046803050075774572219914713748582398159965021764554578891183923100504711802602552665285),(Fin.ofNat pN 2640050477330814279885157441741131018999714396598562331099342031892294696094537543469746068160999411027057098227449,Fin.ofNat pN 2071409662492255450081680890260136948544391128508396357468185123426989978172823109733930793773695755500081522451880),(Fin.ofNat pN 1960995731015872851914120175578467298837249548514409779124305159220363476158331129914137406356779751074802695718210,Fin.ofNat pN 2246652698136281584724567586591973504853788313445268011455423953644425428075236802067160117569429819651226986381160)⟩⟩
def z_k:F12:=⟨⟨(Fin.ofNat pN 2401374825597450984127428083886778337644341190388984269675656905526889902455464871488112779953122061980914084015627,Fin.ofNat pN 2002573687219449662830204240587858250317599430313095799709320566820374703996084385141861121356633254802253977005442),(Fin.ofNat pN 3028279613350765026686766544182751254971050611826720636750466900672147934953470256070613978883010391439840233039588,Fin.ofNat pN 113563191712000362484023995569751002965941426771432656414436981090548153168153165436169568691878515546864934063345),(Fin.ofNat pN 15926619643239591426244004989463640041964077289053150867841914989714656759647379537174094756804348567524660996161,Fin.ofNat pN 1242039391770747613095191879614623161493229154269781009074784183548557566148691418098416833958574980512020957096597)⟩,⟨(Fin.ofNat pN 1377471301864288773875207376836132346997850425982474070735104180086873075701088402671487761813379626372230361753011,Fin.ofNat pN 3996650402454757027033741545761153002323826409467514634645456909204926049390647711532283840580602421922103095498999),(Fin.ofNat pN 41477575491093855033356358056189574868021126231132968100478746941059237150029438438726833044575311207419300145074,Fin.ofNat pN 1538913964194847306977659048482806629761570585802346203836756708813652839556883533781659395162706067606825141172986),(Fin.ofNat pN 425177787079411383532193901153113668593604979273513396666908022467507682525509644178815151004253210926106638434847,Fin.ofNat pN 3790844062079063273287822571722747293097189621267254163247632636941166343249062812246594379468490316803630358033370)⟩⟩
def I3f:F12:=⟨⟨(Fin.ofNat pN 1667042345708070419051561625519587936806034409531841266916663139149953915205998567404362858522772230372082086094582,Fin.ofNat pN 3437817373131021689205664549780155164026124757413870440185591124697775710462235751290191498842729723379319900740864),(Fin.ofNat pN 659938351063045713926716963141256514447739931325349089274962832456851031048424782085835912511548513071289416037160,Fin.ofNat pN 1341428926685649574799879320318749353156815187271088507422303000753062905433258307523270708501978032101916009285180),(Fin.ofNat pN 3689343633790114316388231993709004216488319168813859576060002225143274376296668090363750101674050814005887551589089,Fin.ofNat pN 2001315625713703806156278750684520731550948356193894726325791348006222001483819132773543298947537351937972353650638)⟩,⟨(Fin.ofNat pN 481216225444322718561558488115314876606906210238678728932867832389518710512213195318367094975813752249100878257220,Fin.ofNat pN 1778834673223820708882458954526353049170808384078535194644831731357808336722832738569241134476033964292728397544953),(Fin.ofNat pN 3601263170187299039142445999154583152635569289440529331090812297804125171480875456318885032207544016349728771679617,Fin.ofNat pN 2430629910346950372191591246609581955075300475900246855024908579766680775506292273679230786327128731190283386148395),(Fin.ofNat pN 1640097916102042003386927967765177937077945952159730592908187555607938043869534479950929296109606219484738568004719,Fin.ofNat pN 728755275437950015357954111362561367923506359825613896330377006130440457008008692837086256192504474521012420072089)⟩⟩
def z_h:F12:=⟨⟨(Fin.ofNat pN 589055896229357724898813026054869815825554603540858908788846270893194342128751991900312984932966447265589736569909,Fin.ofNat pN 320427958109657041869379692559908404793796619625774746885991155990607055058040384097267113815331010298168116306256),(Fin.ofNat pN 2744403133323501671841198434832856269771829887670677899843169656323643382192377007201428600564486593249659009907030,Fin.ofNat pN 2577236299869553128161237059298146471014100777491865977984750362778165253841129007455936177074401637407700772649511),(Fin.ofNat pN 195699993267395131758873990524811073173159498239134340944798222534633870826741189623341201375634256998172026835738,Fin.ofNat pN 3170011443495801230657759963163855202807592978700577774985215654542021048213919951223480085387080773715964850322860)⟩,⟨(Fin.ofNat pN 274718449853617674732953425410784855940963274415847505017988429927800225750647380221213588344488594861147263785006,Fin.ofNat pN 2966405939729013929128381729816003720644517278365089684144754637428775823275783054933441074098778345695441693540028),(Fin.ofNat pN 162226513279583004105742026365510714474328488132412503427154872397901315541737263627976920130103632420214485281059,Fin.ofNat pN 2988801086179843009666969224200243185328171807879070484464131300685519059474955177901881716043929970206521420775480),(Fin.ofNat pN 2561092381359788845876785788483929967465700545835492137588793741038490148101334966006307156781842952010495524875943,Fin.ofNat pN 1499643895222903872588682936648400837777251264527259047453680292093350879251383278928800494600198552998245168396413)⟩⟩
theorem I7t:mil gPt.1 gPt.2 (hPt.1,hPt.2,(1:F2))=z_m:=by decide +kernel
theorem J1k:z_e*z_m=cj z_m:=by decide +kernel
theorem J1j:frb (frb z_e)*z_e=z_a:=by decide +kernel
theorem J1i:pwb z_a (btL 15132376222941642753 64 64)=I3e:=by decide +kernel
theorem J1m:pwb I3e (btL 5044125407647214251 63 63)=z_g:=by decide +kernel
theorem J1n:pwb z_g (btL 15132376222941642752 64 64)=I7s:=by decide +kernel
theorem J1q:cjp I7s*frb z_g=z_k:=by decide +kernel
theorem J1p:pwb z_k (btL 15132376222941642752 64 64)=I3f:=by decide +kernel
theorem J1o:pwb I3f (btL 15132376222941642752 64 64)=z_h:=by decide +kernel
theorem I7u:z_h*frb (frb z_k)*cjp z_k*z_a≠1:=by decide +kernel
end

section

theorem J1r:z_m≠0:=by decide +kernel
theorem J1l:et z_m=z_e:=(B6w H9 J1r J1k).symm
theorem G6r:A2v z_a=z_g:=by
 unfold A2v;rw[B2d z_a (btL 15132376222941642753 64 64) 15132376222941642753 (m:=15132376222941642753) (by decide +kernel) (by decide +kernel),J1i,
  B2d I3e (btL 5044125407647214251 63 63) 5044125407647214251 (m:=5044125407647214251) (by decide +kernel) (by decide +kernel),J1m]
theorem G6t:A2b z_g=z_k:=by
 unfold A2b;rw[B2d z_g (btL 15132376222941642752 64 64) 15132376222941642752 (m:=15132376222941642752) (by decide +kernel) (by decide +kernel),J1n,J1q]
theorem G6s:B7l z_k=z_h:=by
 unfold B7l;rw[B2d z_k (btL 15132376222941642752 64 64) 15132376222941642752 (m:=15132376222941642752) (by decide +kernel) (by decide +kernel),J1p,
  B2d I3f (btL 15132376222941642752 64 64) 15132376222941642752 (m:=15132376222941642752) (by decide +kernel) (by decide +kernel),J1o]
theorem G6q:A2a z_e≠1:=by
 unfold A2a;rw[J1j];unfold D5b;rw[G6r,G6t,G6s];exact I7u
theorem I5s:N7 (mil gPt.1 gPt.2 (hPt.1,hPt.2,1))=prg (some gPt) ptH:=F8o (x:=gPt.1) (y:=gPt.2) D5l H_r (q:=hPt) rfl rfl
theorem I4e:prg (some gPt) ptH≠1:=by
 rw[<-I5s,I7t,A3l,J1l];exact G6q
section
variable {G:Type} [J7 G]
theorem D5n {g:G}:∀(d n:Nat),A7 g d=1->A7 g n=1->A7 g (Nat.gcd d n)=1
 | 0,n,_,h=>by rw[Nat.gcd_zero_left];exact h
 | d+1,n,h1,h2=>by
  rw[Nat.gcd_succ];refine D5n (n % (d+1)) (d+1) ?_ h1
  have e:n=(d+1)*(n / (d+1))+n % (d+1):=(Nat.div_add_mod n (d+1)).symm;have h3:A7 g ((d+1)*(n / (d+1))+n % (d+1))=1:=by rw[<-e];exact h2
  rw[Z9,W7,h1,B2e] at h3;generalize A7 g (n % (d+1))=u at *;clear h1 h2 e;grind
 termination_by d=>d
 decreasing_by exact Nat.mod_lt _ (Nat.succ_pos d)
theorem F5t {g:G} {r n:Nat} (hr:Ir r) (hg:g≠1) (h1:A7 g r=1) (h2:A7 g n=1):r ∣ n:=by
 have k:=D5n n r h2 h1;rcases hr _ (Nat.gcd_dvd_right n r) with h | h
 ·rw[h] at k
  exact absurd ((C1h g).symm.trans k) hg
 ·have:=Nat.gcd_dvd_left n r
  rwa [h] at this
end
theorem I6p {P:Pt Fp} (hP:OnC fp4 P) (hr:D6 P rN=none) {A:CP fq4} (hA:SQ A):A7 (prg P A) rN=1:=by
 rw[<-B5t hP hA rN,hr];exact A7y A
theorem I3n:D6 (some gPt) rN=none:=(A4l cv1 ptG rN).symm.trans (congrArg Subtype.val G_r)
theorem I4f:A7 (prg (some gPt) ptH) rN=1:=I6p (P:=some gPt) D5l I3n H_r
theorem G1j (i j:Nat):prg (D6 (some gPt) i) (mlt ptH j)=A7 (prg (some gPt) ptH) (i*j):=by
 rw[G1i (J0 cv1 (P:=some gPt) D5l i) H_r j,B5t (P:=some gPt) D5l H_r i,<-W7]
/-- When powers of the generators' pairing are 1. -/
theorem H4x (n:Nat):A7 (prg (some gPt) ptH) n=1↔rN ∣ n:=by
 constructor
 ·exact F5t H6l I4e I4f
 ·rintro ⟨k,rfl⟩
  rw[W7,I4f,B2e]
end

section

theorem C1m (x:F12):H6e (C2v x)=x:=E2.ext' (E3.ext' (A0a _) (A0a _) (A0a _)) (E3.ext' (A0a _) (A0a _) (A0a _))
theorem F0c {x y:F12} (h:C2v x=C2v y):x=y:=by rw[<-C1m x,h,C1m]
theorem G9t:C2v 1=I6k:=by decide +kernel
theorem E6v {x:F12}:C2v x=I6k↔x=1:=by rw[<-G9t];exact ⟨F0c,fun h=>by rw[h]⟩
theorem F2z {a:G1D} {b:G2D} (ha:onG a=true) (hb:I6 b=true) (ga:grp a=true) (gb:A2c b=true):Y5 a b=0:=by
 unfold Y5;rw[ha,hb,ga,gb];rfl
theorem I4w {a:G1D} (ha:onG a=true) (ga:grp a=true):D6 (pG a) rN=none:=by
 have k:=F5x (R7 ha).2;rw[(R7 ha).1,ga] at k;exact of_decide_eq_true k.symm
theorem C1j {a:G1D} (ha:onG a=true) (h:D6 (pG a) rN=none):grp a=true:=by
 have k:=F5x (R7 ha).2;rw[(R7 ha).1] at k;rw[k];exact decide_eq_true h
/-- A point of the second curve, as one of the group. -/
def ptQ (b:G2D) (h:I6 b=true):CP fq4:=⟨pG2 b,(A0d h).2⟩
section
variable {F:Type} [Fld F] [DecidableEq F] {b:F}
theorem H7m (hc:Cv b) {X:CP b} {n:Nat} (h:D6 X.1 n=none):letI:=M8 hc;mlt X n=0:=Subtype.ext ((A4l hc X n).trans h)
theorem H8a (hc:Cv b) {X:CP b} {n:Nat} (h:letI:=M8 hc;mlt X n=0):D6 X.1 n=none:=(A4l hc X n).symm.trans (congrArg Subtype.val h)
end
theorem F5w {b:G2D} (hb:I6 b=true) (gb:A2c b=true):SQ (ptQ b hb):=by
 have k:=E5p (A0d hb).2;rw[(A0d hb).1,gb] at k;exact H7m cv2 (X:=ptQ b hb) (of_decide_eq_true k.symm)
theorem B8d {b:G2D} (hb:I6 b=true) (h:SQ (ptQ b hb)):A2c b=true:=by
 have k:=E5p (A0d hb).2;rw[(A0d hb).1] at k;rw[k];exact decide_eq_true (H8a cv2 (X:=ptQ b hb) h)
theorem H5e:et (1:F12)=1:=C9n H9
theorem G6u {x:F12} (h:et x=1):N7 x=1:=by
 rw[A3l,h,E0i]
theorem C6n:N7 1=1:=G6u H5e
theorem H8n {a:G1D} (h:a.inf=true):pG a=none:=if_pos h
theorem H0c {b:G2D} (h:b.inf=true):pG2 b=none:=if_pos h
theorem G0r {a:G1D} (h:a.inf=false):pG a=some (inP a.x,inP a.y):=if_neg (by rw[h];decide)
theorem H0a {b:G2D} (h:b.inf=false):pG2 b=some (G3 b.xa b.xb,G3 b.ya b.yb):=if_neg (by rw[h];decide)
theorem F6f {b:G2D} (h:b.inf=false):A3o b=(G3 b.xa b.xb,G3 b.ya b.yb,1):=(if_neg (by rw[h];decide)).trans (by rw[E5k])
theorem F7q {a:G1D} {b:G2D} (ha:onG a=true) (hb:I6 b=true) (gb:A2c b=true):N7 (A4k a b)=prg (pG a) (ptQ b hb):=by
 cases h1:a.inf with
 | true=>
  have e:A4k a b=1:=if_pos (by rw[h1];rfl)
  rw[e,C6n,H8n h1,A7y]
 | false=>
  cases h2:b.inf with
  | true=>
   have e:A4k a b=1:=if_pos (by rw[h1,h2];rfl)
   have e2:ptQ b hb=0:=Subtype.ext (H0c h2);rw[e,C6n,e2,F0m (R7 ha).2]
  | false=>
   have e:A4k a b=mil (inP a.x) (inP a.y) (A3o b):=if_neg (by rw[h1,h2];decide)
   have o:=(R7 ha).2;rw[G0r h1] at o;rw[e,G0r h1];exact F8o o (F5w hb gb) (q:=(G3 b.xa b.xb,G3 b.ya b.yb)) (H0a h2) (F6f h2)
theorem E1u:pG G7=some gPt:=by decide +kernel
theorem H0b:pG2 O0=some hPt:=by decide +kernel
theorem A6d:onG G7=true:=by decide +kernel
theorem A7v:I6 O0=true:=by decide +kernel
theorem G7i:grp G7=true:=C1j A6d (by rw[E1u];exact I3n)
theorem D2e:ptQ O0 A7v=ptH:=Subtype.ext H0b
theorem D5o:A2c O0=true:=B8d A7v (by rw[D2e];exact H_r)
end

section

section
variable {G:Type} [J7 G]
end
theorem H4d {A:CP fq4} (h:SQ A):SQ (-A):=by
 have e:-A=0-A:=by clear h;grind
 show mlt (-A) rN=0;rw[e,B2t,show mlt A rN=0 from h,O7]
 grind
theorem G1k {P:Pt Fp} (hP:OnC fp4 P) {A:CP fq4} (hA:SQ A):prg (P5 P) A*prg P A=1:=by
 rw[<-B3h (U1 P hP) hP hA,V5 cv1 _ _ (U1 P hP) hP,R1 cv1 P hP,A7y]
section
variable {G:Type} [J7 G]
end
theorem H8b {P:Pt Fp} (hP:OnC fp4 P) (hr:D6 P rN=none):D6 (P5 P) rN=none:=by
 rw[E9y cv1 hP,hr];rfl
theorem F9l {P Q:Pt Fp} (hP:OnC fp4 P) (hQ:OnC fp4 Q) (h1:D6 P rN=none) (h2:D6 Q rN=none):D6 (C5 P Q) rN=none:=by
 rw[B5g cv1 hP hQ,h1,h2];rfl
/-- What is inside: a point of the first group, one of the second. -/
structure In1 (a:G1D):Prop where
 o:onG a=true
 g:grp a=true
structure In2 (b:G2D):Prop where
 o:I6 b=true
 g:A2c b=true
theorem In1.r {a:G1D} (h:In1 a):D6 (pG a) rN=none:=I4w h.o h.g
theorem In1.c {a:G1D} (h:In1 a):OnC fp4 (pG a):=(R7 h.o).2
theorem In2.s {b:G2D} (h:In2 b):SQ (ptQ b h.o):=F5w h.o h.g
theorem In1.neg {a:G1D} (h:In1 a):In1 (B7r a):=⟨G0a h.o,C1j (G0a h.o) (by rw[G0u];exact H8b h.c h.r)⟩
theorem In1.add {a b:G1D} (h:In1 a) (k:In1 b):In1 (G4m a b):=⟨F9z h.o k.o,C1j (F9z h.o k.o) (by rw[H8m];exact F9l h.c k.c h.r k.r)⟩
theorem H8y {b:G2D} (h:I6 b=true) (k:I6 (C7f b)=true):ptQ (C7f b) k = -(ptQ b h):=Subtype.ext (H0e b)
theorem H8x {b c:G2D} (h:I6 b=true) (k:I6 c=true) (l:I6 (C5o b c)=true):ptQ (C5o b c) l=ptQ b h+ptQ c k:=Subtype.ext (G9z b c)
theorem In2.neg {b:G2D} (h:In2 b):In2 (C7f b):=⟨E6u h.o,B8d (E6u h.o) (by rw[H8y h.o];exact H4d h.s)⟩
theorem In2.add {b c:G2D} (h:In2 b) (k:In2 c):In2 (C5o b c):=⟨E6s h.o k.o,B8d (E6s h.o k.o) (by rw[H8x h.o k.o];exact F1s h.s k.s)⟩
end

section

theorem G2w {l:List G1D} {k:List U4} (h:A3h (l.length:Int) (k.length:Int) (l.any A0v)=0):B3t l k=(gP (A9e (k.map (·.val)) (l.map pG)),0):=by
 obtain ⟨h1,_,h3⟩:=D4d h;rw[D3e h,G2p (Eq.refl 52) (by omega) h3]
theorem I6c {P:Pt Fp} (hP:OnC fp4 P) (h:D6 P rN=none) (k:Nat):D6 (D6 P k) rN=none:=by rw[<-Q6 cv1 hP,Nat.mul_comm,Q6 cv1 hP,h,Z4]
theorem G2x:∀(ks:List Nat) (Ps:List (Pt Fp)),(∀P,P∈Ps->OnC fp4 P∧D6 P rN=none)->D6 (A9e ks Ps) rN=none
 | [],_,_=>Z4 rN
 | _::_,[],_=>Z4 rN
 | k::ks,P::Ps,h=>F9l (J0 cv1 (h P (List.mem_cons_self ..)).1 k) (B8e cv1 ks Ps fun Q hQ=>(h Q (List.mem_cons_of_mem _ hQ)).1) (I6c (h P (List.mem_cons_self ..)).1 (h P (List.mem_cons_self ..)).2 k) (G2x ks Ps fun Q hQ=>h Q (List.mem_cons_of_mem _ hQ))
theorem In1.of {P:Pt Fp} (hP:OnC fp4 P) (h:D6 P rN=none):In1 (gP P):=⟨A9y hP,C1j (A9y hP) (by rw[C3b];exact h)⟩
theorem A1f:In1 G7:=⟨A6d,G7i⟩
theorem E5w:In2 O0:=⟨A7v,D5o⟩

/-- How an opening is refused, if it is. -/
def B6i (s:G2D) (a b:G1D):Int:=if (onG a && (onG b && I6 s))=true then if (grp a && (grp b && A2c s))=true then 0 else 31 else 30
def C6y (k l:U4):List U4:=[S4.D5 1,S4.D5 (0-S4.inF l),S4.D5 (S4.inF k)]
def kcL (a b:G1D) (k l:U4):G1D:=(B3t [a,G7,b] (C6y k l)).1
def kcR (s:G2D) (a b:G1D) (k l:U4):Bool×Int:=if B6i s a b=0 then pcD [kcL a b k l,B7r b] [O0,s] else (false,B6i s a b)
theorem I5n {a b:G1D} (ha:onG a=true) (hb:onG b=true):([a,G7,b].any A0v)=false:=by
 simp only[List.any_cons,List.any_nil,A0v,ha,hb,A6d,Bool.not_true,Bool.or_false]
theorem H6u {a b:G1D} {k l:U4} (ha:onG a=true) (hb:onG b=true):A3h (([a,G7,b].length:Nat):Int) (((C6y k l).length:Nat):Int) ([a,G7,b].any A0v)=0:=by
 rw[I5n ha hb];rfl
theorem F6y {a b:G1D} (k l:U4) (ha:onG a=true) (hb:onG b=true):B3t [a,G7,b] (C6y k l)=(gP (A9e ((C6y k l).map (·.val)) ([a,G7,b].map pG)),0):=G2w (H6u ha hb)
theorem F6x {a b:G1D} (k l:U4) (ha:onG a=true) (hb:onG b=true):kcL a b k l=gP (A9e ((C6y k l).map (·.val)) ([a,G7,b].map pG)):=by unfold kcL;rw[F6y k l ha hb]
theorem H6t {a b:G1D} (k l:U4) (ha:In1 a) (hb:In1 b):In1 (kcL a b k l):=by
 rw[F6x k l ha.o hb.o];have h:∀P,P∈[a,G7,b].map pG->OnC fp4 P∧D6 P rN=none:=by
  intro P hP;simp only[List.map_cons,List.map_nil,List.mem_cons,List.not_mem_nil,or_false] at hP;rcases hP with rfl | rfl | rfl
  ·exact ⟨ha.c,ha.r⟩
  ·exact ⟨A1f.c,A1f.r⟩
  ·exact ⟨hb.c,hb.r⟩
 exact In1.of (B8e cv1 _ _ fun P hP=>(h P hP).1) (G2x _ _ h)
theorem G5g {a b:G1D} {s t:G2D} (ha:In1 a) (hb:In1 b) (hs:In2 s) (ht:In2 t):B7k ([a,b].zip [s,t])=0:=by
 have h1:=F2z ha.o hs.o ha.g hs.g;have h2:=F2z hb.o ht.o hb.g ht.g;show (if (Y5 a s != 0)=true then Y5 a s else if (Y5 b t != 0)=true then Y5 b t else 0)=0
 rw[h1,h2];rfl
theorem H0k {a b:G1D} {s t:G2D} (ha:In1 a) (hb:In1 b) (hs:In2 s) (ht:In2 t):pcD [a,b] [s,t]=(B6t (N7 (1*A4k a s*A4k b t)) 1,0):=by
 unfold pcD;rw[if_neg (fun h=>h rfl),if_neg (show ¬64<([a,b]:List G1D).length from by simp),G5g ha hb hs ht]
 exact if_neg (fun k=>nomatch k)
theorem E0x (s:G2D) (a b:G1D) (k l:U4):FnD Tryz.prog 20 [.v (.a s.its),.v (.a [.ob (.fp a.x),.ob (.fp a.y),.bool a.inf,.ob (.fr k),.ob (.fr l),.ob (.fp b.x),.ob (.fp b.y),.bool b.inf])] (.t [.c (.bool (kcR s a b k l).1),.c (.int .i64 (kcR s a b k l).2)]) []:=by
 have no:∀{e:Int},B6i s a b=e->e≠0->kcR s a b k l=(false,e):=fun h h2=>by
  unfold kcR;rw[h,if_neg h2]
 cases h1:onG a with
 | false=>
  rw[no (e:=30) (by unfold B6i;rw[h1];rfl) (by decide)]
  exact (A5 A6y Tryz.func20 (kcA s a b k l) ⟨by rw[h1];rfl,trivial⟩).conv (fun _ _ h=>h) fun y v hd=>A1h hd
 | true=>
 cases h2:onG b with
 | false=>
  rw[no (e:=30) (by unfold B6i;rw[h1,h2];rfl) (by decide)]
  exact (A5 A6y Tryz.func20 (kcB s a b k l) ⟨by rw[h1];rfl,by rw[h2];rfl,trivial⟩).conv (fun _ _ h=>h) fun y v hd=>A1h hd
 | true=>
 cases h3:I6 s with
 | false=>
  rw[no (e:=30) (by unfold B6i;rw[h1,h2,h3];rfl) (by decide)]
  exact (A5 A6y Tryz.func20 (kcC s a b k l) ⟨by rw[h1];rfl,by rw[h2];rfl,by rw[h3];rfl,trivial⟩).conv (fun _ _ h=>h) fun y v hd=>A1h hd
 | true=>
 cases h4:grp a with
 | false=>
  rw[no (e:=31) (by unfold B6i;rw[h1,h2,h3,h4];rfl) (by decide)]
  exact (A5 A6y Tryz.func20 (kcD s a b k l) ⟨by rw[h1];rfl,by rw[h2];rfl,by rw[h3];rfl,by rw[h4];rfl,trivial⟩).conv (fun _ _ h=>h) fun y v hd=>A1h hd
 | true=>
 cases h5:grp b with
 | false=>
  rw[no (e:=31) (by unfold B6i;rw[h1,h2,h3,h4,h5];rfl) (by decide)]
  exact (A5 A6y Tryz.func20 (kcE s a b k l) ⟨by rw[h1];rfl,by rw[h2];rfl,by rw[h3];rfl,by rw[h4];rfl,by rw[h5];rfl,trivial⟩).conv (fun _ _ h=>h) fun y v hd=>A1h hd
 | true=>
 cases h6:A2c s with
 | false=>
  rw[no (e:=31) (by unfold B6i;rw[h1,h2,h3,h4,h5,h6];rfl) (by decide)]
  exact (A5 A6y Tryz.func20 (kcF s a b k l) ⟨by rw[h1];rfl,by rw[h2];rfl,by rw[h3];rfl,by rw[h4];rfl,by rw[h5];rfl,by rw[h6];rfl,trivial⟩).conv (fun _ _ h=>h) fun y v hd=>A1h hd
 | true=>
  have e0:B6i s a b=0:=by unfold B6i;rw[h1,h2,h3,h4,h5,h6];rfl
  have r:=kcI s a b k l;dsimp only at r;have eS:((([a]:List G1D)++[G7])++[b])=[a,G7,b]:=rfl;have eN:((([S4.D5 1]:List U4)++[S4.D5 (0-S4.inF l)])++[S4.D5 (S4.inF k)])=C6y k l:=rfl;rw[eS,eN] at r;have eR:kcR s a b k l=pcD [kcL a b k l,B7r b] [O0,s]:=by unfold kcR;rw[e0,if_pos rfl]
  rw[eR];have eB:=H7v h2;rw[eB] at r;refine A5 A6y Tryz.func20 r ⟨by rw[h1];rfl,by rw[h2];rfl,by rw[h3];rfl,by rw[h4];rfl,by rw[h5];rfl,by rw[h6];rfl,rfl,rfl,rfl,rfl,rfl,rfl,rfl,by rw[F6y k l h1 h2];rfl,rfl,rfl,rfl,rfl,rfl,rfl,rfl,trivial⟩
end

section
section
variable {w0:World} {F0:Nat->Prop} {K:Kp} {ac:List Act} {Q:Exit->Act->World->Prop} {cX:Ctx} {aX:Act}

def E1l:List KI:=(run qtG false 3000 (⟨[.code (B9 Tryz.f110)],.normal,D7 Tryz.f110.ntmps [.v (.a [.ob (.p (dF:Fp×Fp×Fp).1),.ob (.p (dF:Fp×Fp×Fp).2.1),.ob (.p (dF:Fp×Fp×Fp).2.2)])]⟩:Cfg) []).cfg.k
theorem mv (a:Fp×Fp×Fp):B1 []->Sg Tryz.prog (D7 Tryz.f110.ntmps [.v (.a [.ob (.p a.1),.ob (.p a.2.1),.ob (.p a.2.2)])]) (B0 30 [1,3,6] [.pt 16 0,(.ci (.val (Value.slice Option.none 0 0))),.ii (0:Int)] [16] [(eF_ [(.ob (.p (Prod.fst a))),(.ob (.p (Prod.fst (Prod.snd a)))),(.ob (.p (Prod.snd (Prod.snd a))))])] 80 [] []) .normal (E1l) ([.code (B9 Tryz.f110)]):=sgA false 3000 [] X4
def mvS (a:Fp×Fp×Fp) (R:List (List (Fp×Fp×Fp))) (n:Nat) (i:Int):St:=B0 30 [1,3,6] [.pt 16 0,.v (.c (.slc 17 0 n 288)),.v (.c (.int .i64 i))] [16,17] [(eF_ [(.ob (.p (Prod.fst a))),(.ob (.p (Prod.fst (Prod.snd a)))),(.ob (.p (Prod.snd (Prod.snd a))))]),some (.sq (.ptt R))] 80 [] []
def C2g:List KI:=(run qtG false 3000 ((fun (a:Fp×Fp×Fp) (R:List (List (Fp×Fp×Fp))) (n:Nat) (i:Int)=>(⟨E8 E1l,.normal,mvS a R n i⟩:Cfg)) default default default default) [true]).cfg.k
theorem mvA (a:Fp×Fp×Fp) (R:List (List (Fp×Fp×Fp))) (n:Nat) (i:Int):let b:Fp:=0;B1 [((decide (i<(64:Int)))=true)]->Sg Tryz.prog (mvS a R n i) (B0 30 [1,3,4,5,6] [.pt 16 0,(.ci (.slc 17 0 n 288)),.pt 96 0,.ii (1:Int),.ii i] [16,17,96] [(eF_ [(.ob (.p (Prod.fst a))),(.ob (.p (Prod.fst (Prod.snd a)))),(.ob (.p (Prod.snd (Prod.snd a))))]),(eQ_ (Sq.ptt R)),(eF_ [(.ob (.p b)),(.ob (.p b)),(.ob (.p b)),(.ob (.p b)),(.ob (.p b)),(.ob (.p b)),(.ob (.p b)),(.ob (.p b)),(.ob (.p b)),(.ob (.p b)),(.ob (.p b)),(.ob (.p b)),(.ob (.p b)),(.ob (.p b)),(.ob (.p b)),(.ob (.p b)),(.ob (.p b)),(.ob (.p b)),(.ob (.p b)),(.ob (.p b)),(.ob (.p b)),(.ob (.p b)),(.ob (.p b)),(.ob (.p b)),(.ob (.p b)),(.ob (.p b)),(.ob (.p b)),(.ob (.p b)),(.ob (.p b)),(.ob (.p b)),(.ob (.p b)),(.ob (.p b)),(.ob (.p b)),(.ob (.p b)),(.ob (.p b)),(.ob (.p b)),(.ob (.p b)),(.ob (.p b)),(.ob (.p b)),(.ob (.p b)),(.ob (.p b)),(.ob (.p b)),(.ob (.p b)),(.ob (.p b)),(.ob (.p b)),(.ob (.p b)),(.ob (.p b)),(.ob (.p b))])] 128 [] []) .normal (C2g) (E8 E1l):=sgA false 3000 [true] X4
theorem G9f (a:Fp×Fp×Fp) (R:List (List (Fp×Fp×Fp))) (n:Nat) (i:Int):G5 qtG Tryz.f110 false 3000 (⟨E8 E1l,.normal,mvS a R n i⟩) [false] [] [17]=(some ([((decide (i<(64:Int)))=false),(n=R.length)],((.ci (.sl (Sq.ptt R))),[]))):=by kernel_rfl
def mvT (a:Fp×Fp×Fp) (R:List (List (Fp×Fp×Fp))) (n:Nat) (i:Int) (L:List (Fp×Fp×Fp)) (d:Int):St:=B0 30 [1,3,4,5,6] [.pt 16 0,(.ci (.slc 17 0 n 288)),.pt 96 0,.v (.c (.int .i64 d)),.ii i] [16,17,96] [(eF_ [(.ob (.p (Prod.fst a))),(.ob (.p (Prod.fst (Prod.snd a)))),(.ob (.p (Prod.snd (Prod.snd a))))]),(eQ_ (Sq.ptt R)),some (.sq (.pt L))] 128 [] []
theorem mvB (a:Fp×Fp×Fp) (R:List (List (Fp×Fp×Fp))) (n:Nat) (i:Int) (L:List (Fp×Fp×Fp)) (d:Int):let b:=wrap .i64 (d-1);let c:Int:=16;B1 [((decide (d<c))=true),(0<=b),(b<c),(0=0),((b).toNat<L.length),(0<=d),(d<c),(0=0),((d).toNat<L.length)]->Sg Tryz.prog (mvT a R n i L d) (B0 30 [1,3,4,5,6] [.pt 16 0,(.ci (.slc 17 0 n 288)),.pt 96 0,(.ii (wrap .i64 (d+1))),.ii i] [16,17,96] [(eF_ [(.ob (.p (Prod.fst a))),(.ob (.p (Prod.fst (Prod.snd a)))),(.ob (.p (Prod.snd (Prod.snd a))))]),(eQ_ (Sq.ptt R)),(eQ_ (Sq.pt (List.set L (d).toNat (jpl (List.getD L (b).toNat pt0) a))))] 352 [] []) .normal (M7 C2g) (E8 C2g):=sgA false 3000 [true] X4
def mvU (a:Fp×Fp×Fp) (R:List (List (Fp×Fp×Fp))) (n:Nat) (i:Int) (L:List (Fp×Fp×Fp)) (d:Int):St:=B0 30 [1,3,4,5,6] [.pt 16 0,(.ci (.slc 17 0 n 288)),.pt 96 0,.v (.c (.int .i64 d)),.ii i] [16,17,96] [(eF_ [(.ob (.p (Prod.fst a))),(.ob (.p (Prod.fst (Prod.snd a)))),(.ob (.p (Prod.snd (Prod.snd a))))]),(eQ_ (Sq.ptt R)),some (.sq (.ptt [L]))] 128 [] []
def H3o:List KI:=(run qtG false 19 ((fun (a:Fp×Fp×Fp) (R:List (List (Fp×Fp×Fp))) (n:Nat) (i:Int) (L:List (Fp×Fp×Fp)) (d:Int)=>(⟨E8 C2g,.normal,mvU a R n i L d⟩:Cfg)) default default default default default default) [false]).cfg.k
theorem mvC (a:Fp×Fp×Fp) (R:List (List (Fp×Fp×Fp))) (n:Nat) (i:Int) (L:List (Fp×Fp×Fp)) (d:Int):let b:=R.length+1;B1 [((decide (d<(16:Int)))=false),(0<1),((b*2304)<=140737488355328),(b<=maxLen),(n=R.length),(1=1)]->Sg Tryz.prog (mvU a R n i L d) (B0 30 [1,3,4,6] [.pt 16 0,(.ci (.slc 17 0 b 288)),.pt 96 0,.ii i] [16,17,96] [(eF_ [(.ob (.p (Prod.fst a))),(.ob (.p (Prod.fst (Prod.snd a)))),(.ob (.p (Prod.snd (Prod.snd a))))]),(eQ_ (Sq.ptt (R++[[(List.getD L 0 pt0),(List.getD L 1 pt0),(List.getD L 2 pt0),(List.getD L 3 pt0),(List.getD L 4 pt0),(List.getD L 5 pt0),(List.getD L 6 pt0),(List.getD L 7 pt0),(List.getD L 8 pt0),(List.getD L 9 pt0),(List.getD L 10 pt0),(List.getD L 11 pt0),(List.getD L 12 pt0),(List.getD L 13 pt0),(List.getD L 14 pt0),(List.getD L 15 pt0)]]))),(eQ_ (Sq.ptt [L]))] 240 [] []) .normal (H3o) (E8 C2g):=sgA false 19 [false] X4
def mvV (a:Fp×Fp×Fp) (R:List (List (Fp×Fp×Fp))) (n:Nat) (i:Int) (L:List (Fp×Fp×Fp)) (d:Int):St:=B0 30 [1,3,4,6] [.pt 16 0,(.ci (.slc 17 0 (R.length+1) 288)),.pt 96 0,.ii i] [16,17,96] [(eF_ [(.ob (.p (Prod.fst a))),(.ob (.p (Prod.fst (Prod.snd a)))),(.ob (.p (Prod.snd (Prod.snd a))))]),(eQ_ (Sq.ptt (R++[[(List.getD L 0 pt0),(List.getD L 1 pt0),(List.getD L 2 pt0),(List.getD L 3 pt0),(List.getD L 4 pt0),(List.getD L 5 pt0),(List.getD L 6 pt0),(List.getD L 7 pt0),(List.getD L 8 pt0),(List.getD L 9 pt0),(List.getD L 10 pt0),(List.getD L 11 pt0),(List.getD L 12 pt0),(List.getD L 13 pt0),(List.getD L 14 pt0),(List.getD L 15 pt0)]]))),some (.sq (.pt L))] 240 [] []
theorem mvD (a:Fp×Fp×Fp) (R:List (List (Fp×Fp×Fp))) (n:Nat) (i:Int) (L:List (Fp×Fp×Fp)) (d:Int):let b:=List.getD L 15 pt0;let c:=Prod.snd (jpl b a);B1 [(0<=(15:Int)),((15:Int)<(16:Int)),(0=0),(15<L.length)]->Sg Tryz.prog (mvV a R n i L d) (B0 30 [1,3,6] [.pt 16 0,(.ci (.slc 17 0 (R.length+1) 288)),(.ii (wrap .i64 (i+1)))] [16,17] [(eF_ [(.ob (.p (Prod.fst (jpl b a)))),(.ob (.p (Prod.fst c))),(.ob (.p (Prod.snd c)))]),(eQ_ (Sq.ptt (R++[[(List.getD L 0 pt0),(List.getD L 1 pt0),(List.getD L 2 pt0),(List.getD L 3 pt0),(List.getD L 4 pt0),(List.getD L 5 pt0),(List.getD L 6 pt0),(List.getD L 7 pt0),(List.getD L 8 pt0),(List.getD L 9 pt0),(List.getD L 10 pt0),(List.getD L 11 pt0),(List.getD L 12 pt0),(List.getD L 13 pt0),(List.getD L 14 pt0),b]])))] 352 [] []) .normal (M7 E1l) (H3o):=sgA false 3000 [] X4
end
end

section

theorem H3w {x:Ctx} (L:List (Fp×Fp×Fp)) (h:L.length=16) (cs:List Value) (hc:C7 x (.fl (I3 L 0 16)) cs):C7 x (.sq (.pt L)) cs:=by
 obtain ⟨hl,hj⟩:=A5l L 16 0 cs hc;refine ⟨?_,fun i hi=>?_⟩
 ·show L.length*18<=cs.length
  rw[h,hl];exact Nat.le_refl _
 ·have hi:i<L.length:=hi
  rw[h] at hi;obtain ⟨c,h1,h2⟩:=hj i hi;rw[Nat.zero_add] at h1;exact ⟨c,h1,h2⟩
theorem D5f {x:Ctx} (L:List (Fp×Fp×Fp)):∀(n k:Nat) (cs:List Value),(∀j,j<n->∃c,C4 x.D (J6 (L.getD (k+j) pt0)) c∧∀(q:Nat) (v:Value),c[q]? = some v->cs[j*18+q]? = some v) ->
  ∃c,C4 x.D (I3 L k n) c∧∀(q:Nat) (v:Value),c[q]? = some v->cs[q]? = some v
 | 0,k,cs,_=>⟨[],rfl,fun q v h=>by simp at h⟩
 | n+1,k,cs,h=>by
  obtain ⟨c0,h0,g0⟩:=h 0 (Nat.zero_lt_succ _);rw[Nat.add_zero] at h0;obtain ⟨c,hc,g⟩:=D5f L n (k+1) (cs.drop 18) fun j hj=>by
   obtain ⟨c,h1,h2⟩:=h (j+1) (by omega)
   rw[show k+(j+1)=k+1+j from by omega] at h1
   refine ⟨c,h1,fun q v hq=>?_⟩
   rw[List.getElem?_drop,<-h2 q v hq];congr 1
   omega
  obtain ⟨c1,r1,e1,h1,c2,r2,e2,h2,c3,r3,e3,h3,h4⟩:=h0;have h4:r3=[]:=h4;have l1:c1.length=6:=A0h h1;have l2:c2.length=6:=A0h h2;have l3:c3.length=6:=A0h h3;subst e1 e2 e3 h4;refine ⟨c1++(c2++(c3++c)),⟨c1,_,rfl,h1,c2,_,rfl,h2,c3,_,rfl,h3,hc⟩,fun q v hq=>?_⟩
  have e:c1++(c2++(c3++c))=(c1++(c2++(c3++[])))++c:=by simp
  have hl:(c1++(c2++(c3++[]))).length=18:=by simp only[List.length_append,List.length_nil];omega
  rw[e] at hq;by_cases hq18:q<18
  ·rw[List.getElem?_append_left (by omega)] at hq
   have:=g0 q v hq
   rwa [Nat.zero_mul,Nat.zero_add] at this
  ·rw[List.getElem?_append_right (by omega),hl] at hq
   have:=g _ v hq
   rw[List.getElem?_drop] at this;rwa [show 18+(q-18)=q from by omega] at this
theorem H8z {x:Ctx} (L:List (Fp×Fp×Fp)) (h:L.length=16) (cs:List Value) (hc:C7 x (.sq (.pt L)) cs):C7 x (.sq (.ptt [L])) cs:=by
 obtain ⟨hl,hj⟩:=hc;have hl:L.length*18<=cs.length:=hl;rw[h] at hl;obtain ⟨c,h1,h2⟩:=D5f L 16 0 cs fun j hj16=>by
  obtain ⟨c,g1,g2⟩:=hj j (by show j<L.length;omega)
  refine ⟨c,?_,g2⟩
  rw[Nat.zero_add];exact g1
 refine ⟨by show 1*288<=cs.length;omega,fun i hi=>?_⟩
 have hi:i<1:=hi;obtain rfl:i=0:=by omega
 refine ⟨c,h1,fun q v hq=>?_⟩
 rw[Nat.zero_mul,Nat.zero_add];exact h2 q v hq
theorem H9a {x:Ctx} (L:List (Fp×Fp×Fp)) (h:L.length=16) (cs:List Value) (hc:C7 x (.sq (.ptt [L])) cs):C7 x (.sq (.pt L)) cs:=by
 obtain ⟨hl,hj⟩:=hc;have hl:1*288<=cs.length:=hl;obtain ⟨c,h1,h2⟩:=hj 0 (Nat.zero_lt_succ _);obtain ⟨_,g⟩:=A5l L 16 0 c h1;refine ⟨by show L.length*18<=cs.length;omega,fun i hi=>?_⟩
 have hi:i<L.length:=hi;obtain ⟨c',g1,g2⟩:=g i (by omega)
 rw[Nat.zero_add] at g1;refine ⟨c',g1,fun q v hq=>?_⟩
 have:=h2 _ v (g2 q v hq)
 rwa [Nat.zero_mul,Nat.zero_add] at this

/-- Rows in blocks, told otherwise. -/
def F3p (x:Ctx):List (Option En)->List (Option En)->Prop
 | [],[]=>True
 | e::l,e' :: l' => (e=e' ∨ ∃q q',e=some (.sq q)∧e' = some (.sq q')∧(q.n=0->q'.n=0)∧∀cs,C7 x (.sq q) cs->C7 x (.sq q') cs)∧F3p x l l'
 | _,_=>False
theorem B9u {x:Ctx}:∀{ml:List Nat} {ens ens' : List (Option En)},F3p x ens ens' -> ∀p,D9 none ml ens p=D9 none ml ens' p∨∃q q',D9 none ml ens p=some (.sq q)∧D9 none ml ens' p=some (.sq q')∧(q.n=0->q'.n=0)∧∀cs,C7 x (.sq q) cs->C7 x (.sq q') cs
 | [],_,_,_,_=>.inl rfl
 | _::_,[],[],_,_=>.inl rfl
 | _::_,[],_::_,h,_=>h.elim
 | _::_,_::_,[],h,_=>h.elim
 | t::tl,e::l,e' :: l',h,p=>by
  simp only[D9];by_cases hp:p=t
  ·simp only[hp,if_true];exact h.1
  ·simp only[hp,if_false];exact B9u h.2 p
theorem Sim.rows {w0:World} {F0:Nat->Prop} {K:Kp} {ac:List Act} {nt nx:Nat} {tl:List Nat} {svs:List SV} {ml:List Nat} {ens ens' : List (Option En)} {ftl:List (List Nat)} {fsv:List (List SV×Nat)} {x:Ctx} {a:Act}
  (hs:Sim w0 F0 K ac (B0 nt tl svs ml ens nx ftl fsv) x a) (h:F3p x ens ens'):Sim w0 F0 K ac (B0 nt tl svs ml ens' nx ftl fsv) x a:=by
 have hm:=hs.mem;refine ⟨hs.defers,hs.nt,hs.t,?_,hs.base,hs.frs⟩
 have key:=B9u (ml:=ml) h;refine ⟨fun p=>?_,fun p l hp=>?_,fun p q hp hn=>?_,fun p e hp hr=>?_,hm.inj,hm.own,hm.fw⟩
 ·rw[<-hm.dom p]
  show D9 none ml ens' p=none↔D9 none ml ens p=none;rcases key p with e | ⟨q,q',e1,e2,_⟩
  ·rw[e]
  ·rw[e1,e2]
   constructor<;>(intro h;cases h)
 ·have hp:D9 none ml ens' p=some (.fl l):=hp
  rcases key p with e | ⟨q,q',e1,e2,_⟩
  ·rw[<-e] at hp;exact hm.fl p l hp
  ·rw[e2] at hp;cases hp
 ·have hp:D9 none ml ens' p=some (.sq q):=hp
  rcases key p with e | ⟨q1,q',e1,e2,h0,_⟩
  ·rw[<-e] at hp;exact hm.nil p q hp hn
  ·rw[e2] at hp
   cases hp
   exact h0 (hm.nil p q1 e1 hn)
 ·have hp:D9 none ml ens' p=some e:=hp
  rcases key p with e0 | ⟨q,q',e1,e2,_,hc⟩
  ·rw[<-e0] at hp;exact hm.ent p e hp hr
  ·rw[e2] at hp
   cases hp
   obtain ⟨cs,ty,h1,h2⟩:=hm.ent p _ e1 hr;exact ⟨cs,ty,h1,hc _ h2⟩

/-- One row, and all rows. -/
def rwL (a:Fp×Fp×Fp):List (Fp×Fp×Fp):=(List.range 16).map (B6a pt0 a)
def tbL (a:Fp×Fp×Fp) (n:Nat):List (List (Fp×Fp×Fp)):=(List.range n).map fun i=>rwL (baT pt0 a i)
theorem D2u (a:Fp×Fp×Fp):(rwL a).length=16:=rfl
theorem D2t (a:Fp×Fp×Fp) {d:Nat} (h:d<16):(rwL a).getD d pt0=B6a pt0 a d:=by
 unfold rwL;rw[List.getD_eq_getElem?_getD,List.getElem?_map,List.getElem?_range h];rfl
theorem D3g (a:Fp×Fp×Fp) (n:Nat):(tbL a n).length=n:=by
 unfold tbL;rw[List.length_map,List.length_range]
theorem G3e (a:Fp×Fp×Fp) (n:Nat):tbL a (n+1)=tbL a n++[rwL (baT pt0 a n)]:=by
 unfold tbL;rw[List.range_succ,List.map_append];rfl
theorem E7k (a:Fp×Fp×Fp) {n i:Nat} (h:i<n):(tbL a n).getD i []=rwL (baT pt0 a i):=by
 unfold tbL;rw[List.getD_eq_getElem?_getD,List.getElem?_map,List.getElem?_range h];rfl
theorem H1p {L:List (Fp×Fp×Fp)} {a:Fp×Fp×Fp} (hl:L.length=16) (hg:∀j,j<16->L.getD j pt0=B6a pt0 a j):L=rwL a:=by
 apply List.ext_getElem (by rw[hl,D2u])
 intro j h1 h2;have e:=hg j (by omega)
 rw[<-D2t a (by omega),List.getD_eq_getElem?_getD,List.getD_eq_getElem?_getD,List.getElem?_eq_getElem h1,List.getElem?_eq_getElem h2] at e
 exact e
theorem F1x {L:List (Fp×Fp×Fp)} (h:L.length=16):[L.getD 0 pt0,L.getD 1 pt0,L.getD 2 pt0,L.getD 3 pt0,L.getD 4 pt0,L.getD 5 pt0,L.getD 6 pt0,L.getD 7 pt0,L.getD 8 pt0,L.getD 9 pt0,L.getD 10 pt0,L.getD 11 pt0,L.getD 12 pt0,L.getD 13 pt0,L.getD 14 pt0,L.getD 15 pt0]=L:=by
 match L,h with
 | [_,_,_,_,_,_,_,_,_,_,_,_,_,_,_,_],_=>rfl
end

section

theorem F9b (a:Fp×Fp×Fp) {N:Nat} (hN:N=64):FnD Tryz.prog 110 [.v (.a (J6 a))] (.v (.c (.sl (.ptt (tbL a N))))) []:=by
 refine J3 (fn:=Tryz.f110) (c:=B9 Tryz.f110) Tryz.func110 rfl rfl fun x0 a0 hk hF hs=>?_
 refine mv a trivial hs fun ac cY aY hs1=>?_
 have hs2:=hs1.nilRow (p:=17) (q:=.ptt []) rfl (by decide) rfl (ml' := [16,17]) (ens' := [some (.fl (J6 a)),some (.sq (.ptt []))]) (fun r=>C9t (by decide))
  (svs' := [.v (.c (.ptr 16 0)),.v (.c (.slc 17 0 0 288)),.v (.c (.int .i64 0))]) ⟨.inl rfl,.inr ⟨288,rfl,rfl⟩,.inl rfl,trivial⟩
 have hmax:65<=maxLen:=by decide
 change Wq Tryz.prog _ _ _ _ _ (K7 cY 17).w
 refine E6 (ι:={ i:Nat // i<=N }) (fun i=>mvS (baT pt0 a i.1) (tbL a i.1) i.1 (i.1:Int)) (fun i=>N-i.1) (c:=lpC E1l) (k:=lpR E1l) (by kernel_rfl) (fun i ih ac cY aY hs=>?_) ⟨0,Nat.zero_le _⟩ (hs2.nx _)
 obtain ⟨i,hi⟩:=i;simp only at ih hs
 by_cases h:i<N
 ·have hnext:baT pt0 a (i+1)=jpl (B6a pt0 (baT pt0 a i) 15) (baT pt0 a i):=rfl
  have htab:=G3e a i;have hlen:=D3g a i;have ih2:=ih ⟨i+1,h⟩ (by show N-(i+1)<N-i;omega)
  dsimp only at ih2;rw[hnext,htab] at ih2;clear ih hnext htab;generalize baT pt0 a i=o at hs ih2;generalize tbL a i=R at hs ih2 hlen;refine mvA o R i i ⟨decide_eq_true (by omega),trivial⟩ hs fun ac cU aU hs3=>?_
  have hs4:=hs3.blocks (ens' := [some (.fl (J6 o)),some (.sq (.ptt R)),some (.sq (.pt (List.replicate 16 pt0)))])
   ⟨.inl rfl,.inl rfl,.inr ⟨_,_,_,rfl,rfl,rfl,fun cs h=>H3w _ rfl cs h⟩,trivial⟩
  refine E6 (ι:={ p:Nat×List (Fp×Fp×Fp) // 1<=p.1∧p.1<=16∧p.2.length=16∧∀j,j<p.1->p.2.getD j pt0=B6a pt0 o j }) (fun p=>mvT o R i i p.1.2 (p.1.1:Int)) (fun p=>16-p.1.1) (c:=lpC C2g) (k:=lpR C2g) (by kernel_rfl) (fun p ih ac cY aY hs=>?_)
   ⟨(1,List.replicate 16 pt0),Nat.le_refl _,by decide,rfl,fun j hj=>by
    obtain rfl:j=0:=by have hj:j<1:=hj;omega
    rfl⟩ (hs4.nx _)
  obtain ⟨⟨d,L⟩,hd1,hd16,hL,hg⟩:=p;simp only at ih hs hd1 hd16 hL hg
  by_cases hd:d<16
  ·have ed:(wrap IntKind.i64 ((d:Int)-1))=((d-1:Nat):Int):=by rw[C0 (by omega) (by omega)];omega
   have ed2:(wrap IntKind.i64 ((d:Int)+1))=((d+1:Nat):Int):=by rw[C0 (by omega) (by omega)];rfl
   refine mvB o R i i L d ⟨decide_eq_true (by omega),by rw[ed];omega,by rw[ed];omega,rfl,by rw[ed,Int.toNat_natCast];omega,by omega,by omega,rfl,by rw[Int.toNat_natCast];omega,trivial⟩ hs fun ac cV aV hs5=>?_
   rw[ed,ed2,Int.toNat_natCast,Int.toNat_natCast,hg (d-1) (by omega)] at hs5
   have er:jpl (B6a pt0 o (d-1)) o=B6a pt0 o d:=by
    obtain ⟨e,rfl⟩:∃e,d=e+1:=⟨d-1,by omega⟩
    rfl
   rw[er] at hs5;refine ih ⟨(d+1,L.set d (B6a pt0 o d)),by show 1<=d+1;omega,hd,(List.length_set ..).trans hL,fun j hj=>?_⟩ (by show 16-(d+1)<16-d;omega) ac cV aV (hs5.nx _)
   have hj:j<d+1:=hj;show (L.set d _).getD j pt0=_;rw[A6r _ _ _ _ _ (by omega)]
   by_cases e:j=d
   ·subst e;rw[if_pos rfl]
   ·rw[if_neg e];exact hg j (by omega)
  ·obtain rfl:d=16:=by omega
   have eL:L=rwL o:=H1p hL hg;have h15:=D2t o (d:=15) (by decide)
   have h16:=D2u o;rw[<-eL] at ih2 h15 h16;have hs5:=hs.rows (ens' := [some (.fl (J6 o)),some (.sq (.ptt R)),some (.sq (.ptt [L]))])
    ⟨.inl rfl,.inl rfl,.inr ⟨_,_,rfl,rfl,fun h=>by have h:L.length=0:=h;omega,fun cs h=>H8z L h16 cs h⟩,trivial⟩
   refine mvC o R i i L 16 ⟨by decide,by decide,by omega,by omega,by omega,rfl,trivial⟩ (hs5.nx _) fun ac cV aV hs6=>?_
   rw[F1x h16] at hs6;have hs7:=hs6.rows (ens' := [some (.fl (J6 o)),some (.sq (.ptt (R++[L]))),some (.sq (.pt L))])
    ⟨.inl rfl,.inl rfl,.inr ⟨_,_,rfl,rfl,fun h=>Nat.noConfusion (show 1=0 from h),fun cs h=>H9a L h16 cs h⟩,trivial⟩
   have hs8:Sim x0.w x0.F V9 ac (mvV o R i i L 16) cV aV:=by
    unfold mvV;rw[F1x h16];exact hs7
   refine mvD o R i i L 16 ⟨by decide,by decide,rfl,by omega,trivial⟩ hs8 fun ac cW aW hs9=>?_
   rw[F1x h16,h15,C0 (n:=(i:Int)+1) (by omega) (by omega),hlen] at hs9
   exact ih2 ac cW aW (hs9.nx _)
 ·obtain rfl:i=N:=by omega
  exact H2 X4 hk hF (G9f _ _ _ _) ⟨decide_eq_false (by omega),(D3g a i).symm,trivial⟩ (fun y v hd=>hd) hs

end

section
section
variable {w0:World} {F0:Nat->Prop} {K:Kp} {ac:List Act} {Q:Exit->Act->World->Prop} {cX:Ctx} {aX:Act}

def E1v:List KI:=(run qtG false 3000 ((fun (T:List (List (Fp×Fp×Fp))) (k:U4)=>(⟨[.code (B9 Tryz.f111)],.normal,D7 Tryz.f111.ntmps [.v (.c (.sl (.ptt T))),.v (.a [.ob (.fr k)])]⟩:Cfg)) default default) []).cfg.k
theorem pc (T:List (List (Fp×Fp×Fp))) (k:U4):let b:=eF_ [(.ob (.p (0:Fp))),(.ob (.p (0:Fp))),(.ob (.p (0:Fp)))];B1 []->Sg Tryz.prog (D7 Tryz.f111.ntmps [.v (.c (.sl (.ptt T))),.v (.a [.ob (.fr k)])]) (B0 30 [3,4,5,8,9,10] [.pt 16 0,.pt 32 0,.pt 48 0,(.ci (.sl (Sq.ptt T))),(.ii (T.length:Int)),.ii (0:Int)] [16,32,48] [(eF_ [.ob (.fr k)]),b,b] 112 [] []) .normal (E1v) ([.code (B9 Tryz.f111)]):=sgA false 3000 [] X4
def pcS (T:List (List (Fp×Fp×Fp))) (k:U4) (o:Fp×Fp×Fp) (i:Int):St:=B0 30 [3,4,5,8,9,10] [.pt 16 0,.pt 32 0,.pt 48 0,(.ci (.sl (Sq.ptt T))),(.ii (T.length:Int)),.v (.c (.int .i64 i))] [16,32,48] [(eF_ [.ob (.fr k)]),(eF_ [(.ob (.p (0:Fp))),(.ob (.p (0:Fp))),(.ob (.p (0:Fp)))]),some (.fl [.ob (.p o.1),.ob (.p o.2.1),.ob (.p o.2.2)])] 112 [] []
def H3s:List KI:=(run qtG false 18 ((fun (T:List (List (Fp×Fp×Fp))) (k:U4) (o:Fp×Fp×Fp) (i:Int)=>(⟨E8 E1v,.normal,pcS T k o i⟩:Cfg)) default default default default) [true]).cfg.k
theorem pcA (T:List (List (Fp×Fp×Fp))) (k:U4) (o:Fp×Fp×Fp) (i:Int):let a:=List.getD T (i).toNat ([]:List (Prod Fp (Prod Fp Fp)));let b:=List.getD a 10 pt0;let c:=List.getD a 11 pt0;let d:=List.getD a 12 pt0;let f:=List.getD a 13 pt0;let g:=List.getD a 14 pt0;let h:=List.getD a 15 pt0;let j:=List.getD a 0 pt0;let l:=List.getD a 1 pt0;let m:=List.getD a 2 pt0;let n:=List.getD a 3 pt0;let q:=List.getD a 4 pt0;let r:=List.getD a 5 pt0;let s:=List.getD a 6 pt0;let t:=List.getD a 7 pt0;let u:=List.getD a 8 pt0;let v:=List.getD a 9 pt0;let w:Int:=T.length;B1 [((decide (i<w))=true),(0<=i),(i<w)]->Sg Tryz.prog (pcS T k o i) (B0 30 [3,4,5,6,7,8,9,10] [.pt 16 0,.pt 32 0,.pt 48 0,.ii i,.pt 176 0,(.ci (.sl (Sq.ptt T))),(.ii w),.ii i] [16,32,48,176] [(eF_ [.ob (.fr k)]),(eF_ [(.ob (.p (0:Fp))),(.ob (.p (0:Fp))),(.ob (.p (0:Fp)))]),(eF_ [(.ob (.p (Prod.fst o))),(.ob (.p (Prod.fst (Prod.snd o)))),(.ob (.p (Prod.snd (Prod.snd o))))]),(eF_ [(.ob (.p (Prod.fst j))),(.ob (.p (Prod.fst (Prod.snd j)))),(.ob (.p (Prod.snd (Prod.snd j)))),(.ob (.p (Prod.fst l))),(.ob (.p (Prod.fst (Prod.snd l)))),(.ob (.p (Prod.snd (Prod.snd l)))),(.ob (.p (Prod.fst m))),(.ob (.p (Prod.fst (Prod.snd m)))),(.ob (.p (Prod.snd (Prod.snd m)))),(.ob (.p (Prod.fst n))),(.ob (.p (Prod.fst (Prod.snd n)))),(.ob (.p (Prod.snd (Prod.snd n)))),(.ob (.p (Prod.fst q))),(.ob (.p (Prod.fst (Prod.snd q)))),(.ob (.p (Prod.snd (Prod.snd q)))),(.ob (.p (Prod.fst r))),(.ob (.p (Prod.fst (Prod.snd r)))),(.ob (.p (Prod.snd (Prod.snd r)))),(.ob (.p (Prod.fst s))),(.ob (.p (Prod.fst (Prod.snd s)))),(.ob (.p (Prod.snd (Prod.snd s)))),(.ob (.p (Prod.fst t))),(.ob (.p (Prod.fst (Prod.snd t)))),(.ob (.p (Prod.snd (Prod.snd t)))),(.ob (.p (Prod.fst u))),(.ob (.p (Prod.fst (Prod.snd u)))),(.ob (.p (Prod.snd (Prod.snd u)))),(.ob (.p (Prod.fst v))),(.ob (.p (Prod.fst (Prod.snd v)))),(.ob (.p (Prod.snd (Prod.snd v)))),(.ob (.p (Prod.fst b))),(.ob (.p (Prod.fst (Prod.snd b)))),(.ob (.p (Prod.snd (Prod.snd b)))),(.ob (.p (Prod.fst c))),(.ob (.p (Prod.fst (Prod.snd c)))),(.ob (.p (Prod.snd (Prod.snd c)))),(.ob (.p (Prod.fst d))),(.ob (.p (Prod.fst (Prod.snd d)))),(.ob (.p (Prod.snd (Prod.snd d)))),(.ob (.p (Prod.fst f))),(.ob (.p (Prod.fst (Prod.snd f)))),(.ob (.p (Prod.snd (Prod.snd f)))),(.ob (.p (Prod.fst g))),(.ob (.p (Prod.fst (Prod.snd g)))),(.ob (.p (Prod.snd (Prod.snd g)))),(.ob (.p (Prod.fst h))),(.ob (.p (Prod.fst (Prod.snd h)))),(.ob (.p (Prod.snd (Prod.snd h))))])] 224 [] []) .normal (H3s) (E8 E1v):=sgA false 18 [true] X4
theorem H0l (T:List (List (Fp×Fp×Fp))) (k:U4) (o:Fp×Fp×Fp) (i:Int):G5 qtG Tryz.f111 false 3000 (⟨E8 E1v,.normal,pcS T k o i⟩) [false] [] []=(some ([((decide (i<(T.length:Int)))=false)],((.v (.a [(.ob (.p (Prod.fst o))),(.ob (.p (Prod.fst (Prod.snd o)))),(.ob (.p (Prod.snd (Prod.snd o))))])),[]))):=by kernel_rfl
def pcT (T:List (List (Fp×Fp×Fp))) (k:U4) (o:Fp×Fp×Fp) (i:Int) (L:List (Fp×Fp×Fp)):St:=B0 30 [3,4,5,6,7,8,9,10] [.pt 16 0,.pt 32 0,.pt 48 0,.ii i,.pt 176 0,(.ci (.sl (Sq.ptt T))),(.ii (T.length:Int)),.ii i] [16,32,48,176] [(eF_ [.ob (.fr k)]),(eF_ [(.ob (.p (0:Fp))),(.ob (.p (0:Fp))),(.ob (.p (0:Fp)))]),(eF_ [(.ob (.p (Prod.fst o))),(.ob (.p (Prod.fst (Prod.snd o)))),(.ob (.p (Prod.snd (Prod.snd o))))]),some (.sq (.pt L))] 224 [] []
theorem pcB (T:List (List (Fp×Fp×Fp))) (k:U4) (o:Fp×Fp×Fp) (i:Int) (L:List (Fp×Fp×Fp)):let f:Int:=16;let b:=wrap .i64 (Int.tdiv i f);let d:=wrap .i64 ((4:Int)*(Int.tmod i f));let a:=I1 BinOp.and IntKind.u64 (Int.fdiv (A0 (Ob.n (.fr k)) (0+((b).toNat*1))) ((2:Int) ^ (Min.min (d).toNat 64))) (15:Int);let c:=jpl o (List.getD L (a).toNat pt0);B1 [(f≠(0:Int)),(0<=b),(b<(4:Int)),((0+((b).toNat*1))<(Ob.k (.fr k))),(f≠(0:Int)),(0<=d),(0<=a),(a<f),(0=0),((a).toNat<L.length)]->Sg Tryz.prog (pcT T k o i L) (B0 30 [3,4,5,8,9,10] [.pt 16 0,.pt 32 0,.pt 48 0,(.ci (.sl (Sq.ptt T))),(.ii (T.length:Int)),(.ii (wrap .i64 (i+1)))] [16,32,48] [(eF_ [.ob (.fr k)]),(eF_ [(.ob (.p (0:Fp))),(.ob (.p (0:Fp))),(.ob (.p (0:Fp)))]),(eF_ [(.ob (.p (Prod.fst c))),(.ob (.p (Prod.fst (Prod.snd c)))),(.ob (.p (Prod.snd (Prod.snd c))))])] 480 [] []) .normal (M7 E1v) (H3s):=sgA false 3000 [] X4
end
end

section

theorem E8s (k:U4) {i:Nat} (hi:i<64):I1 BinOp.and IntKind.u64 (Int.fdiv (A0 (Ob.n (Ob.fr k)) (0+(((wrap IntKind.i64 (Int.tdiv (i:Int) (16:Int)))).toNat*1))) ((2:Int) ^ (Min.min ((wrap IntKind.i64 ((4:Int)*(Int.tmod (i:Int) (16:Int))))).toNat 64))) (15:Int)=((k.val / 16 ^ i % 16:Nat):Int):=by
 have e1:Int.tdiv (i:Int) (16:Int)=((i / 16:Nat):Int):=Int.tdiv_eq_ediv_of_nonneg (by omega)
 have e2:Int.tmod (i:Int) (16:Int)=((i % 16:Nat):Int):=Int.tmod_eq_emod_of_nonneg (by omega)
 rw[e1,e2,C0 (n:=((i / 16:Nat):Int)) (by omega) (by omega),C0 (n:=(4:Int)*((i % 16:Nat):Int)) (by omega) (by omega),Int.toNat_natCast]
 have e3:Min.min ((4:Int)*((i % 16:Nat):Int)).toNat 64=4*(i % 16):=by omega
 have e4:0+i / 16*1=i / 16:=by omega
 rw[e3,e4];have hl:A0 (Ob.n (Ob.fr k)) (i / 16)=((k.val / 2 ^ (64*(i / 16)) % 18446744073709551616:Nat):Int):=rfl;rw[hl,<-E4t k.val i];generalize k.val / 2 ^ (64*(i / 16)) % 18446744073709551616=m;have hp:((2:Int) ^ (4*(i % 16)))=((2 ^ (4*(i % 16)):Nat):Int):=by simp
 rw[hp,Int.fdiv_eq_ediv_of_nonneg _ (Int.natCast_nonneg _),<-Int.natCast_ediv,H2x]

/-- One of each row of any table, added up. -/
def pkL (T:List (List (Fp×Fp×Fp))) (v:Nat):Nat->Fp×Fp×Fp
 | 0=>pt0
 | i+1=>jpl (pkL T v i) ((T.getD i []).getD (v / 16 ^ i % 16) pt0)
theorem G0y (a:Fp×Fp×Fp) (v n:Nat):∀i,i<=n->pkL (tbL a n) v i=pkT pt0 a v i
 | 0,_=>rfl
 | i+1,h=>by
  show jpl (pkL (tbL a n) v i) (((tbL a n).getD i []).getD (v / 16 ^ i % 16) pt0)=jpl (pkT pt0 a v i) (B6a pt0 (baT pt0 a i) (v / 16 ^ i % 16));rw[G0y a v n i (by omega),E7k a (by omega),D2t _ (Nat.mod_lt _ (by decide))]
theorem G0w (T:List (List (Fp×Fp×Fp))) (k:U4) {N:Nat} (hN:N=64) (hlen:T.length=N) (h16:∀i,i<N->(T.getD i []).length=16):FnD Tryz.prog 111 [.v (.c (.sl (.ptt T))),.v (.a [.ob (.fr k)])] (.v (.a (J6 (pkL T k.val N)))) []:=by
 refine J3 (fn:=Tryz.f111) (c:=B9 Tryz.f111) Tryz.func111 rfl rfl fun x0 a0 hk hF hs=>?_
 refine pc T k trivial hs fun ac cY aY hs1=>?_
 refine E6 (ι:={ i:Nat // i<=N }) (fun i=>pcS T k (pkL T k.val i.1) (i.1:Int)) (fun i=>N-i.1) (c:=lpC E1v) (k:=lpR E1v) (by kernel_rfl) (fun i ih ac cY aY hs=>?_) ⟨0,Nat.zero_le _⟩ (hs1.nx _)
 obtain ⟨i,hi⟩:=i;simp only at ih hs
 by_cases h:i<N
 ·have hnext:pkL T k.val (i+1)=jpl (pkL T k.val i) ((T.getD i []).getD (k.val / 16 ^ i % 16) pt0):=rfl
  have hdl:k.val / 16 ^ i % 16<16:=Nat.mod_lt _ (by decide)
  have h16:=h16 i h;have hdig:=E8s k (i:=i) (by omega)
  have hpl:=C6d (i:=i) (by omega)
  have hsh:=C6e i;have ih2:=ih ⟨i+1,h⟩ (by show N-(i+1)<N-i;omega)
  dsimp only at ih2;rw[hnext] at ih2;clear ih hnext;generalize pkL T k.val i=o at hs ih2;refine pcA T k o i ⟨decide_eq_true (by omega),by omega,by omega,trivial⟩ hs fun ac cU aU hs3=>?_
  rw[Int.toNat_natCast] at hs3;generalize T.getD i []=L at ih2 h16 hs3;have hs4:=hs3.blocks (ens' := [some (.fl [.ob (.fr k)]),some (.fl (J6 pt0)),some (.fl (J6 o)),some (.sq (.pt L))])
   ⟨.inl rfl,.inl rfl,.inl rfl,.inr ⟨_,_,_,rfl,rfl,rfl,fun cs h=>H3w L h16 cs h⟩,trivial⟩
  refine pcB T k o i L ⟨by decide,by rw[hpl];omega,by rw[hpl];omega,by rw[hpl,Int.toNat_natCast];show 0+i / 16*1<4;omega,by decide,hsh,by rw[hdig];omega,by rw[hdig];omega,rfl,by rw[hdig,Int.toNat_natCast];omega,trivial⟩ hs4 fun ac cV aV hs5=>?_
  rw[hdig,Int.toNat_natCast,C0 (n:=(i:Int)+1) (by omega) (by omega)] at hs5
  exact ih2 ac cV aV (hs5.nx _)
 ·obtain rfl:i=N:=by omega
  generalize pkL T k.val i=o at hs ⊢
  exact H2 X4 hk hF (H0l _ _ _ _) ⟨decide_eq_false (by omega),trivial⟩ (fun y v hd=>hd) hs

end

section
section
variable {w0:World} {F0:Nat->Prop} {K:Kp} {ac:List Act} {Q:Exit->Act->World->Prop} {cX:Ctx} {aX:Act}

def pvA:Env:=qeI.or S4.gK
theorem B0i:A9 Tryz.prog pvA:=A5p A6k S4.D5k
theorem D1c (v : Value) (w : World) : (method (Tryz.prog.types.size + Made.depth) 98 v "Times").run Tryz.prog w = .ok (47, v) w := by kernel_rfl
def H6k (T : Nat → Option (List (String × Nat))) (t : Nat) : Option (List (String × Nat)) := if t = 98 then some [("Times", 47)] else T t
def pvB:Env:={ pvA with inv:=H6k pvA.inv }
theorem B0j:A9 Tryz.prog pvB:=by
 refine ⟨B0i.ty,B0i.mixed,B0i.fn,B0i.mu,B0i.inl,B0i.ex,fun t l h=>?_⟩
 have h:H6k pvA.inv t=some l:=h;unfold H6k at h;split at h
 ·rename_i ht
  cases h
  subst ht;refine ⟨by kernel_rfl,fun name g hg v args w=>?_⟩
  unfold A0m at hg;split at hg
  ·rename_i hn
   cases hg
   subst hn;simp only[callMethod,Sem.run_bind,run_program,Result.andThen_ok,D1c]
  cases hg
 ·exact B0i.inv t l h
def D2h:List KI:=(run pvB false 3000 (⟨[.code (B9 Tryz.f168)],.normal,D7 Tryz.f168.ntmps [.v (.a [.ob (.s dF)]),.v (.a [.ob (.s 1)]),.v (.c (.sl (.u64 dF)))]⟩:Cfg) []).cfg.k
theorem pz (a:Fr) (e:List Int):B1 []->Sg Tryz.prog (D7 Tryz.f168.ntmps [.v (.a [.ob (.s a)]),.v (.a [.ob (.s 1)]),.v (.c (.sl (.u64 e)))]) (B0 23 [3,6,7,11] [.pt 16 0,.pt 48 0,.pt 80 0,(.ci (.clo 123 [(128,0)]))] [16,48,80,128] [(eF_ [.ob (.s a)]),(eF_ [(.ob (.s (0:Fr)))]),(eF_ [(.ob (.s (1:Fr)))]),(eF_ [.sl (.u64 e)])] 192 [] []) .normal (D2h) ([.code (B9 Tryz.f168)]):=sgA false 3000 [] B0j
def pzS (a:Fr) (e:List Int) (o:Fr):St:=B0 23 [3,6,7,11] [.pt 16 0,.pt 48 0,.pt 80 0,(.ci (.clo 123 [(128,0)]))] [16,48,80,128] [(eF_ [.ob (.s a)]),(eF_ [(.ob (.s (0:Fr)))]),some (.fl [.ob (.s o)]),(eF_ [.sl (.u64 e)])] 192 [] []
theorem pzA (a:Fr) (e:List Int) (o:Fr) (z:Bool) {ρ:Option Nat} (ho:B1 []) (hs:Sim w0 F0 K ac (X5 (pzS a e o) [(12,.v (.c (.bool z)))]) cX aX) (hK:∀cY aY,Sim w0 F0 K ac (B0 23 [3,6,7,8] [.pt 16 0,.pt 48 0,.pt 80 0,(.ci (.bool z))] [16,48,80,128] [(eF_ [.ob (.s a)]),(eF_ [(.ob (.s (0:Fr)))]),(eF_ [.ob (.s o)]),(eF_ [.sl (.u64 e)])] 208 [[3,6,7,11]] [([.pt 16 0,.pt 48 0,.pt 80 0,(.ci (.clo 123 [(128,0)]))],23)]) cY aY->Wq Tryz.prog Q ([]) ac Exit.normal aY cY.w ρ):Wq Tryz.prog Q ([.code (rfA D2h)]) ac .normal aX cX.w ρ :=
 G8 (unroll:=false) (n:=3000) (path:=[]) (o:=⟨_,_,_,_,_,_,_⟩) B0j (by kernel_rfl) (by kernel_rfl) ho (by kernel_rfl) (by kernel_rfl) hs hK
def pzB (a:Fr) (e:List Int) (o:Fr) (z:Bool):St:=B0 23 [3,6,7,8] [.pt 16 0,.pt 48 0,.pt 80 0,(.ci (.bool z))] [16,48,80,128] [(eF_ [.ob (.s a)]),(eF_ [(.ob (.s (0:Fr)))]),some (.fl [.ob (.s o)]),(eF_ [.sl (.u64 e)])] 208 [[3,6,7,11]] [([.pt 16 0,.pt 48 0,.pt 80 0,(.ci (.clo 123 [(128,0)]))],23)]
theorem pzC (a:Fr) (e:List Int) (o:Fr) (z:Bool) {ρ:Option Nat} (ho:B1 [(z=true)]) (hs:Sim w0 F0 K ac (pzB a e o z) cX aX) (hK:∀cY aY,Sim w0 F0 K ac (B0 23 [6] [.pt 48 0] [16,48,80,128] [(eF_ [.ob (.s a)]),(eF_ [(.ob (.s (0:Fr)))]),(eF_ [(.ob (.s ((o*o)*a)))]),(eF_ [.sl (.u64 e)])] 384 [[3,6,7,11]] [([.pt 16 0,.pt 48 0,.pt 80 0,(.ci (.clo 123 [(128,0)]))],23)]) cY aY->Wq Tryz.prog Q ([]) ac Exit.normal aY cY.w ρ):Wq Tryz.prog Q ([.code (rfB D2h)]) ac .normal aX cX.w ρ :=
 G8 (unroll:=false) (n:=3000) (path:=[true]) (o:=⟨_,_,_,_,_,_,_⟩) B0j (by kernel_rfl) (by kernel_rfl) ho (by kernel_rfl) (by kernel_rfl) hs hK
theorem pzD (a:Fr) (e:List Int) (o:Fr) (z:Bool) {ρ:Option Nat} (ho:B1 [(z=false)]) (hs:Sim w0 F0 K ac (pzB a e o z) cX aX) (hK:∀cY aY,Sim w0 F0 K ac (B0 23 [6] [.pt 48 0] [16,48,80,128] [(eF_ [.ob (.s a)]),(eF_ [(.ob (.s (0:Fr)))]),(eF_ [(.ob (.s (o*o)))]),(eF_ [.sl (.u64 e)])] 304 [[3,6,7,11]] [([.pt 16 0,.pt 48 0,.pt 80 0,(.ci (.clo 123 [(128,0)]))],23)]) cY aY->Wq Tryz.prog Q ([]) ac Exit.normal aY cY.w ρ):Wq Tryz.prog Q ([.code (rfB D2h)]) ac .normal aX cX.w ρ :=
 G8 (unroll:=false) (n:=3000) (path:=[false]) (o:=⟨_,_,_,_,_,_,_⟩) B0j (by kernel_rfl) (by kernel_rfl) ho (by kernel_rfl) (by kernel_rfl) hs hK
theorem pzX (a:Fr) (e:List Int) (o:Fr):B1 []->Sg Tryz.prog (pzS a e o) (B0 23 [6] [.pt 48 0] [48] [(eF_ [.ob (.s o)])] 224 [] []) .ret ([]) (rfR D2h):=sgA false 3000 [] B0j
def pzE (a:Fr) (e:List Int) (o:Fr):St:=B0 23 [6] [.pt 48 0] [16,48,80,128] [(eF_ [.ob (.s a)]),(eF_ [(.ob (.s (0:Fr)))]),some (.fl [.ob (.s o)]),(eF_ [.sl (.u64 e)])] 384 [[3,6,7,11]] [([.pt 16 0,.pt 48 0,.pt 80 0,(.ci (.clo 123 [(128,0)]))],23)]
def pzZ (o:Fr):St:=B0 23 [6] [.pt 48 0] [48] [some (.fl [.ob (.s o)])] 224 [] []
theorem H1b (o:Fr):G5 pvB Tryz.f168 false 3000 (⟨[],.ret,pzZ o⟩) [] [] []=(some ([],((.v (.a [.ob (.s o)])),[]))):=by kernel_rfl
end
end

end
end Go.Proofs.YtefimjofjjdndaaGreat
