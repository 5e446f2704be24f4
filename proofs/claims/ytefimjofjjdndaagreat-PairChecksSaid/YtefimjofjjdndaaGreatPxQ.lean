/- Parts of a proof, one behind the other: WFf, WMa, WFj, PFj, WCc, PCc, PFf, WFg, PFg, WFh, POb, PEb, Gx, Gy, Gz, Gw, Gv, Gu, Gt, Gs, Gr, Ge, Gq, PFh, WFi, WXa, WUa, PUa, WUb, PUb, WUc, PUc, WUd, PFi, PKc, Tc, PPm, PKe, PKf, PCd, PXa. No conditions. -/
import Derived.Test.YtefimjofjjdndaaGreatPxP
open Go.IntKind (wrap)
namespace Go.Proofs.YtefimjofjjdndaaGreat
noncomputable section
section

theorem D2z (x0 x1 x2 x3 x4 x5 x6 x7 x8 x9 x10 x11:Fp):FnD Tryz.prog 35 [.v (.a [.ob (.p x0),.ob (.p x1),.ob (.p x2),.ob (.p x3),.ob (.p x4),.ob (.p x5),.ob (.p x6),.ob (.p x7),.ob (.p x8),.ob (.p x9),.ob (.p x10),.ob (.p x11)])] (.v (.a (D5 (M4 (⟨⟨(x0,x1),(x2,x3),(x4,x5)⟩,⟨(x6,x7),(x8,x9),(x10,x11)⟩⟩:F12))))) []:=D8f (⟨⟨(x0,x1),(x2,x3),(x4,x5)⟩,⟨(x6,x7),(x8,x9),(x10,x11)⟩⟩:F12)
def A8z:B7
 | [.v (.a [.ob (.p x0),.ob (.p x1),.ob (.p x2),.ob (.p x3),.ob (.p x4),.ob (.p x5),.ob (.p x6),.ob (.p x7),.ob (.p x8),.ob (.p x9),.ob (.p x10),.ob (.p x11)])]=>some ([],.v (.a (D5 (M4 (⟨⟨(x0,x1),(x2,x3),(x4,x5)⟩,⟨(x6,x7),(x8,x9),(x10,x11)⟩⟩:F12)))),[])
 | _=>none
def uyD:Env:=uyC.set (E1 uyC.fn 35 A8z)
theorem H5r:A8 Tryz.prog uyD:=B0 X9 35 A8z (A5 Tryz.func35 rfl rfl) fun args o r es h _=>by
 unfold A8z at h;split at h
 ·cases h;exact D2z _ _ _ _ _ _ _ _ _ _ _ _
 ·cases h
def A9k:B7
 | [.v (.a [.ob (.fp xa),.ob (.fp ya),.bool _]),.v (.a [.ob (.fp a),.ob (.fp b),.ob (.fp c),.ob (.fp d),.bool j])]=>some ([],.v (.a (D5 (mil (inP xa) (inP ya) (A3x ⟨a,b,c,d,j⟩)))),[])
 | _=>none
def uyE:Env:=uyD.set (E1 uyD.fn 73 A9k)
theorem A5d:A8 Tryz.prog uyE:=B0 H5r 73 A9k (A5 Tryz.func73 rfl rfl) fun args o r es h _=>by
 unfold A9k at h;split at h
 ·cases h;exact D8x _ _ _ _ _ _ _ _
 ·cases h

theorem ckA (xa ya a b c d:U6) (i j:Bool):B9 uyE Tryz.f34 3000 [.v (.a [.ob (.fp xa),.ob (.fp ya),.bool i]),.v (.a [.ob (.fp a),.ob (.fp b),.ob (.fp c),.ob (.fp d),.bool j])] [true] [] []=(some ([((Bool.not (onG (G1D.mk xa ya i)))=true)],((.ii (30:Int)),[]))):=by kernel_rfl
theorem ckB (xa ya a b c d:U6) (i j:Bool):B9 uyE Tryz.f34 3000 [.v (.a [.ob (.fp xa),.ob (.fp ya),.bool i]),.v (.a [.ob (.fp a),.ob (.fp b),.ob (.fp c),.ob (.fp d),.bool j])] [false,true] [] []=(some ([((Bool.not (onG (G1D.mk xa ya i)))=false),((Bool.not (I6 (G2D.mk a b c d j)))=true)],((.ii (30:Int)),[]))):=by kernel_rfl
theorem ckC (xa ya a b c d:U6) (i j:Bool):let f:=G1D.mk xa ya i;B9 uyE Tryz.f34 3000 [.v (.a [.ob (.fp xa),.ob (.fp ya),.bool i]),.v (.a [.ob (.fp a),.ob (.fp b),.ob (.fp c),.ob (.fp d),.bool j])] [false,false,true] [] []=(some ([((Bool.not (onG f))=false),((Bool.not (I6 (G2D.mk a b c d j)))=false),((Bool.not (grp f))=true)],((.ii (31:Int)),[]))):=by intros;kernel_rfl
theorem ckD (xa ya a b c d:U6) (i j:Bool):let f:=G2D.mk a b c d j;let g:=G1D.mk xa ya i;B9 uyE Tryz.f34 3000 [.v (.a [.ob (.fp xa),.ob (.fp ya),.bool i]),.v (.a [.ob (.fp a),.ob (.fp b),.ob (.fp c),.ob (.fp d),.bool j])] [false,false,false,true] [] []=(some ([((Bool.not (onG g))=false),((Bool.not (I6 f))=false),((Bool.not (grp g))=false),((Bool.not (A2p f))=true)],((.ii (31:Int)),[]))):=by intros;kernel_rfl
theorem ckE (xa ya a b c d:U6) (i j:Bool):let f:=G2D.mk a b c d j;let g:=G1D.mk xa ya i;B9 uyE Tryz.f34 3000 [.v (.a [.ob (.fp xa),.ob (.fp ya),.bool i]),.v (.a [.ob (.fp a),.ob (.fp b),.ob (.fp c),.ob (.fp d),.bool j])] [false,false,false,false] [] []=(some ([((Bool.not (onG g))=false),((Bool.not (I6 f))=false),((Bool.not (grp g))=false),((Bool.not (A2p f))=false)],((.ii (0:Int)),[]))):=by intros;kernel_rfl
theorem loA (xa ya a b c d:U6) (i j:Bool):B9 uyE Tryz.f36 3000 [.v (.a [.ob (.fp xa),.ob (.fp ya),.bool i]),.v (.a [.ob (.fp a),.ob (.fp b),.ob (.fp c),.ob (.fp d),.bool j])] [true] [] []=(some ([(i=true)],((.v (.a (D5 (1:F12)))),[]))):=by kernel_rfl
theorem loB (xa ya a b c d:U6) (i j:Bool):B9 uyE Tryz.f36 3000 [.v (.a [.ob (.fp xa),.ob (.fp ya),.bool i]),.v (.a [.ob (.fp a),.ob (.fp b),.ob (.fp c),.ob (.fp d),.bool j])] [false,true] [] []=(some ([(i=false),(j=true)],((.v (.a (D5 (1:F12)))),[]))):=by kernel_rfl
theorem loC (xa ya a b c d:U6) (i j:Bool):B9 uyE Tryz.f36 3000 [.v (.a [.ob (.fp xa),.ob (.fp ya),.bool i]),.v (.a [.ob (.fp a),.ob (.fp b),.ob (.fp c),.ob (.fp d),.bool j])] [false,false] [] []=(some ([(i=false),(j=false)],((.v (.a (D5 (mil (inP xa) (inP ya) (A3x (G2D.mk a b c d j)))))),[]))):=by kernel_rfl
/-- How a pair is refused, if it is; the loop's value. -/
def I9 (a:G1D) (b:G2D):Int:=if (!onG a || !I6 b)=true then 30 else if (!grp a || !A2p b)=true then 31 else 0
def A4r (a:G1D) (b:G2D):F12:=if (a.inf || b.inf)=true then 1 else mil (inP a.x) (inP a.y) (A3x b)
theorem G0k (xa ya a b c d:U6) (i j:Bool):FnD Tryz.prog 34 [.v (.a [.ob (.fp xa),.ob (.fp ya),.bool i]),.v (.a [.ob (.fp a),.ob (.fp b),.ob (.fp c),.ob (.fp d),.bool j])] (.v (.c (.int .i64 (I9 ⟨xa,ya,i⟩ ⟨a,b,c,d,j⟩)))) []:=by
 unfold I9
 cases h1:(!onG ⟨xa,ya,i⟩) with
 | true=>exact A6 A5d Tryz.func34 (ckA xa ya a b c d i j) ⟨h1,trivial⟩
 | false=>
  cases h2:(!I6 ⟨a,b,c,d,j⟩) with
  | true=>exact A6 A5d Tryz.func34 (ckB xa ya a b c d i j) ⟨h1,h2,trivial⟩
  | false=>
   cases h3:(!grp ⟨xa,ya,i⟩) with
   | true=>exact A6 A5d Tryz.func34 (ckC xa ya a b c d i j) ⟨h1,h2,h3,trivial⟩
   | false=>
    cases h4:(!A2p ⟨a,b,c,d,j⟩) with
    | true=>exact A6 A5d Tryz.func34 (ckD xa ya a b c d i j) ⟨h1,h2,h3,h4,trivial⟩
    | false=>exact A6 A5d Tryz.func34 (ckE xa ya a b c d i j) ⟨h1,h2,h3,h4,trivial⟩
theorem G3d (xa ya a b c d:U6) (i j:Bool):FnD Tryz.prog 36 [.v (.a [.ob (.fp xa),.ob (.fp ya),.bool i]),.v (.a [.ob (.fp a),.ob (.fp b),.ob (.fp c),.ob (.fp d),.bool j])] (.v (.a (D5 (A4r ⟨xa,ya,i⟩ ⟨a,b,c,d,j⟩)))) []:=by
 cases i with
 | true=>
  have e:A4r ⟨xa,ya,true⟩ ⟨a,b,c,d,j⟩=1:=if_pos rfl;rw[e];exact A6 A5d Tryz.func36 (loA xa ya a b c d true j) ⟨rfl,trivial⟩
 | false=>
  cases j with
  | true=>
   have e:A4r ⟨xa,ya,false⟩ ⟨a,b,c,d,true⟩=1:=if_pos rfl;rw[e];exact A6 A5d Tryz.func36 (loB xa ya a b c d false true) ⟨rfl,rfl,trivial⟩
  | false=>
   have e:A4r ⟨xa,ya,false⟩ ⟨a,b,c,d,false⟩=mil (inP xa) (inP ya) (A3x ⟨a,b,c,d,false⟩):=if_neg (fun h=>nomatch h)
   rw[e];exact A6 A5d Tryz.func36 (loC xa ya a b c d false false) ⟨rfl,rfl,trivial⟩
def C7j:B7
 | [.v (.a [.ob (.fp xa),.ob (.fp ya),.bool i]),.v (.a [.ob (.fp a),.ob (.fp b),.ob (.fp c),.ob (.fp d),.bool j])]=>some ([],.v (.c (.int .i64 (I9 ⟨xa,ya,i⟩ ⟨a,b,c,d,j⟩))),[])
 | _=>none
def uyF:Env:=uyE.set (E1 uyE.fn 34 C7j)
theorem H5s:A8 Tryz.prog uyF:=B0 A5d 34 C7j (A5 Tryz.func34 rfl rfl) fun args o r es h _=>by
 unfold C7j at h;split at h
 ·cases h;exact G0k _ _ _ _ _ _ _ _
 ·cases h
def C9a:B7
 | [.v (.a [.ob (.fp xa),.ob (.fp ya),.bool i]),.v (.a [.ob (.fp a),.ob (.fp b),.ob (.fp c),.ob (.fp d),.bool j])]=>some ([],.v (.a (D5 (A4r ⟨xa,ya,i⟩ ⟨a,b,c,d,j⟩))),[])
 | _=>none
def uyG:Env:=uyF.set (E1 uyF.fn 36 C9a)
theorem D1j:A8 Tryz.prog uyG:=B0 H5s 36 C9a (A5 Tryz.func36 rfl rfl) fun args o r es h _=>by
 unfold C9a at h;split at h
 ·cases h;exact G3d _ _ _ _ _ _ _ _
 ·cases h
theorem paA (xa ya a b c d:U6) (i j:Bool):let f:U6:=0;let g:=I9 (G1D.mk xa ya i) (G2D.mk a b c d j);B9 uyG Tryz.f8 3000 [.v (.a [.ob (.fp xa),.ob (.fp ya),.bool i]),.v (.a [.ob (.fp a),.ob (.fp b),.ob (.fp c),.ob (.fp d),.bool j])] [true] [] []=(some ([((g != (0:Int))=true)],((.t [(.a [(.ob (.fp f)),(.ob (.fp f)),(.ob (.fp f)),(.ob (.fp f)),(.ob (.fp f)),(.ob (.fp f)),(.ob (.fp f)),(.ob (.fp f)),(.ob (.fp f)),(.ob (.fp f)),(.ob (.fp f)),(.ob (.fp f))]),(.c (.int .i64 g))]),[]))):=by intros;kernel_rfl
theorem paB (xa ya a b c d:U6) (i j:Bool):let f:=G2D.mk a b c d j;let g:=G1D.mk xa ya i;B9 uyG Tryz.f8 3000 [.v (.a [.ob (.fp xa),.ob (.fp ya),.bool i]),.v (.a [.ob (.fp a),.ob (.fp b),.ob (.fp c),.ob (.fp d),.bool j])] [false] [] []=(some ([(((I9 g f) != (0:Int))=false)],((.t [(.a (A7c (A0s (M4 (A4r g f))))),(.c (.int .i64 (0:Int)))]),[]))):=by intros;kernel_rfl
end

section

theorem muA (a b:U6) (i:Bool) (k:U4):B9 qwC Tryz.f11 3000 [.v (.a [.ob (.fp a),.ob (.fp b),.bool i]),.v (.a [.ob (.fr k)])] [true] [] []=(some ([((Bool.not (onG (G1D.mk a b i)))=true)],((.t [(.a [(.ob (.fp (0:U6))),(.ob (.fp (0:U6))),(.lit false)]),(.c (.int .i64 (30:Int)))]),[]))):=by kernel_rfl
theorem muB (a b:U6) (i:Bool) (k:U4):let f:=G1D.mk a b i;let d:=C1x (jmn (inG f) (dgT (Fin.val k) 64));B9 qwC Tryz.f11 3000 [.v (.a [.ob (.fp a),.ob (.fp b),.bool i]),.v (.a [.ob (.fr k)])] [false] [] []=(some ([((Bool.not (onG f))=false)],((.t [(.a [(.ob (.fp (G1D.x d))),(.ob (.fp (G1D.y d))),(.bool (G1D.inf d))]),(.c (.int .i64 (0:Int)))]),[]))):=by intros;kernel_rfl
theorem F5e (a b:U6) (i:Bool) (k:U4):FnD Tryz.prog 11 [.v (.a [.ob (.fp a),.ob (.fp b),.bool i]),.v (.a [.ob (.fr k)])] (.t [.a (muR ⟨a,b,i⟩ k).1.its,.c (.int .i64 (muR ⟨a,b,i⟩ k).2)]) []:=by
 by_cases h1:onG ⟨a,b,i⟩=true
 ·rw[D8z k h1]
  exact A6 D9w Tryz.func11 (muB a b i k) ⟨by rw[h1];rfl,trivial⟩
 ·have h1:onG ⟨a,b,i⟩=false:=Bool.eq_false_iff.2 h1
  rw[G3t k h1];exact (A6 D9w Tryz.func11 (muA a b i k) ⟨by rw[h1];rfl,trivial⟩).conv (fun _ _ h=>h) fun y v hd=>B6k hd
theorem I1l (a b c d:U6) (i:Bool) (k:U4):let f:U6:=0;B9 ruC Tryz.f12 3000 [.v (.a [.ob (.fp a),.ob (.fp b),.ob (.fp c),.ob (.fp d),.bool i]),.v (.a [.ob (.fr k)])] [true] [] []=(some ([((Bool.not (I6 (G2D.mk a b c d i)))=true)],((.t [(.a [(.ob (.fp f)),(.ob (.fp f)),(.ob (.fp f)),(.ob (.fp f)),(.lit false)]),(.c (.int .i64 (30:Int)))]),[]))):=by intros;kernel_rfl
theorem I1m (a b c d:U6) (i:Bool) (k:U4):let g:=G2D.mk a b c d i;let f:=A8j (jmn (A3x g) (dgT (Fin.val k) 64));B9 ruC Tryz.f12 3000 [.v (.a [.ob (.fp a),.ob (.fp b),.ob (.fp c),.ob (.fp d),.bool i]),.v (.a [.ob (.fr k)])] [false] [] []=(some ([((Bool.not (I6 g))=false)],((.t [(.a [(.ob (.fp (G2D.xa f))),(.ob (.fp (G2D.xb f))),(.ob (.fp (G2D.ya f))),(.ob (.fp (G2D.yb f))),(.bool (G2D.inf f))]),(.c (.int .i64 (0:Int)))]),[]))):=by intros;kernel_rfl
theorem F5d (a b c d:U6) (i:Bool) (k:U4):FnD Tryz.prog 12 [.v (.a [.ob (.fp a),.ob (.fp b),.ob (.fp c),.ob (.fp d),.bool i]),.v (.a [.ob (.fr k)])] (.t [.a (C3x ⟨a,b,c,d,i⟩ k).1.its,.c (.int .i64 (C3x ⟨a,b,c,d,i⟩ k).2)]) []:=by
 by_cases h1:I6 ⟨a,b,c,d,i⟩=true
 ·rw[E3o k h1]
  exact A6 E0f Tryz.func12 (I1m a b c d i k) ⟨by rw[h1];rfl,trivial⟩
 ·have h1:I6 ⟨a,b,c,d,i⟩=false:=Bool.eq_false_iff.2 h1
  rw[F5c k h1];exact (A6 E0f Tryz.func12 (I1l a b c d i k) ⟨by rw[h1];rfl,trivial⟩).conv (fun _ _ h=>h) fun y v hd=>D3y hd
def C1f:B7
 | [.v (.a [.ob (.fp a),.ob (.fp b),.bool i]),.v (.a [.ob (.fr k)])]=>some ([],.t [.a (muR ⟨a,b,i⟩ k).1.its,.c (.int .i64 (muR ⟨a,b,i⟩ k).2)],[])
 | _=>none
def uzA:Env:=uyG.set (E1 uyG.fn 11 C1f)
theorem H6a:A8 Tryz.prog uzA:=B0 D1j 11 C1f (A5 Tryz.func11 rfl rfl) fun args o r es h _=>by
 unfold C1f at h;split at h
 ·cases h;exact F5e _ _ _ _
 ·cases h
def C1g:B7
 | [.v (.a [.ob (.fp a),.ob (.fp b),.ob (.fp c),.ob (.fp d),.bool i]),.v (.a [.ob (.fr k)])]=>some ([],.t [.a (C3x ⟨a,b,c,d,i⟩ k).1.its,.c (.int .i64 (C3x ⟨a,b,c,d,i⟩ k).2)],[])
 | _=>none
def uzB:Env:=uzA.set (E1 uzA.fn 12 C1g)
theorem M6:A8 Tryz.prog uzB:=B0 H6a 12 C1g (A5 Tryz.func12 rfl rfl) fun args o r es h _=>by
 unfold C1g at h;split at h
 ·cases h;exact F5d _ _ _ _ _ _
 ·cases h
end

section
section
variable {w0:World} {F0:Nat->Prop} {K:Kp} {ac:List Act} {Q:Exit->Act->World->Prop} {cX:Ctx} {aX:Act}

def D5h:List KI:=(run uzB false 3000 ((fun (l:Nat) (va vp:Value) (la:List G1D)=>(⟨[.code (C5 Tryz.f93)],.normal,⟨B3q [.v (.c (.val (.func (.yield l) #[] #[]))),.v (.c (.ptr 0 0)),.v (.c (.val vp))],one (.fl [.vsl va (.g1 la)]),Tryz.f93.ntmps,16,[]⟩⟩:Cfg)) default default default default) []).cfg.k
theorem pj (l:Nat) (va vp:Value) (la:List G1D):let a:=Array.mk ([]:List Value);let b:=It.vsl va (Sq.g1 la);A9 []->Sg Tryz.prog (⟨B3q [.v (.c (.val (.func (.yield l) #[] #[]))),.v (.c (.ptr 0 0)),.v (.c (.val vp))],one (.fl [.vsl va (.g1 la)]),Tryz.f93.ntmps,16,[]⟩) (B2 22 [0,2,6,7,8] [(.ci (.val (Value.func (Fn.yield l) a a))),(.ci (.val vp)),(.ci b),(.ii (la.length:Int)),.ii (0:Int)] [0] [(eF_ [b])] 64 [] []) .normal (D5h) ([.code (C5 Tryz.f93)]):=fun ho=>fun hs hK=>
 B1 (unroll:=false) (n:=3000) (path:=[]) (o:=⟨_,_,_,_,_,_,_⟩) M6 (by kernel_rfl) (by kernel_rfl) ho hs hK
def pjS (l:Nat) (va vb:Value) (la:List G1D) (lb:List G2D) (i:Int):St:=B2 22 [0,2,6,7,8] [(.ci (.val (Value.func (Fn.yield l) (Array.mk ([]:List Value)) (Array.mk ([]:List Value))))),.v (.c (.ptr 0 0)),(.ci (It.vsl va (Sq.g1 la))),(.ii (la.length:Int)),.v (.c (.int .i64 i))] [0] [some (.fl [.vsl vb (.g2 lb)])] 64 [] []
def D9k:List KI:=(run uzB false 3000 ((fun (l:Nat) (va vb:Value) (la:List G1D) (lb:List G2D) (i:Nat)=>(⟨G6 D5h,.normal,pjS l va vb la lb (i:Int)⟩:Cfg)) default default default default default default) [true]).cfg.k
section
variable (l:Nat) (va vb:Value) (la:List G1D) (lb:List G2D) (i:Nat)
theorem pk:let f:Int:=i;let b:=List.getD lb (f).toNat g20;let d:=List.getD la (f).toNat g10;let g:Int:=la.length;let h:=Array.mk ([]:List Value);let c:=Value.func (Fn.yield l) h h;A9 [((decide (f<g))=true),(0<=f),(f<g),(0<=f),(f<(lb.length:Int))]->Sg Tryz.prog (pjS l va vb la lb f) (B2 22 [0,2,6,7,8,13,14,18] [(.ci (.val c)),.pt 0 0,(.ci (It.vsl va (Sq.g1 la))),(.ii g),(.ii f),(.ci (.val c)),(.v (.a [(.ob (.fp (G1D.x d))),(.ob (.fp (G1D.y d))),(.bool (G1D.inf d))])),(.v (.a [(.ob (.fp (G2D.xa b))),(.ob (.fp (G2D.xb b))),(.ob (.fp (G2D.ya b))),(.ob (.fp (G2D.yb b))),(.bool (G2D.inf b))]))] [0] [(eF_ [(It.vsl vb (Sq.g2 lb))])] 304 [] []) .normal (D9k) (G6 D5h):=fun ho=>fun hs hK=>
 B1 (unroll:=false) (n:=3000) (path:=[true]) (o:=⟨_,_,_,_,_,_,_⟩) M6 (by kernel_rfl) (by kernel_rfl) ho hs hK
theorem pX (ho:A9 [((decide ((i:Int)<(la.length:Int)))=false)]):Sg Tryz.prog (pjS l va vb la lb (i:Int)) (B2 22 [] [] [0] [(eF_ [(It.vsl vb (Sq.g2 lb))])] 80 [] []) .normal ([]) (G6 D5h):=fun hs hK=>
 B1 (unroll:=false) (n:=3000) (path:=[false]) (o:=⟨_,_,_,_,_,_,_⟩) M6 (by kernel_rfl) (by kernel_rfl) ho hs hK
end
theorem F6m (l:Nat) (va vb:Value) (la:List G1D) (lb:List G2D) (i:Nat):let a:=Array.mk ([]:List Value);A6v uzB false 3000 ((⟨A0i D9k,.normal,⟨M3 (D8 .top [0,2,6,7,8,13,14,18] [.v (.c (.val (.func (.yield l) #[] #[]))),.v (.c (.ptr 0 0)),.v (.c (.vsl va (.g1 la))),.v (.c (.int .i64 (la.length:Nat))),.v (.c (.int .i64 (i:Int))),.top,.top,.top]) 19 (.ci (.lit true)),one (.fl [.vsl vb (.g2 lb)]),22,400,[]⟩⟩:Cfg)) [] [0,2,6,7,8] [0] []=some ⟨[],Exit.normal,[(SV.v (V1.c (It.val (Value.func (Fn.yield l) a a)))),(SV.v (V1.c (It.ptr 0 0))),(SV.v (V1.c (It.vsl va (Sq.g1 la)))),(SV.v (V1.c (It.int IntKind.i64 (la.length:Int)))),(SV.v (V1.c (It.int IntKind.i64 (wrap IntKind.i64 (((i:Nat):Int)+(1:Int))))))],[(Option.some (En.fl [(It.vsl vb (Sq.g2 lb))]))],22,448,[]⟩:=by intros;kernel_rfl
theorem F6n (l:Nat) (va vb:Value) (la:List G1D) (lb:List G2D) (i:Nat):(run uzB false 3000 ((⟨A0i D9k,.normal,⟨M3 (D8 .top [0,2,6,7,8,13,14,18] [.v (.c (.val (.func (.yield l) #[] #[]))),.v (.c (.ptr 0 0)),.v (.c (.vsl va (.g1 la))),.v (.c (.int .i64 (la.length:Nat))),.v (.c (.int .i64 (i:Int))),.top,.top,.top]) 19 (.ci (.lit true)),one (.fl [.vsl vb (.g2 lb)]),22,400,[]⟩⟩:Cfg)) []).cfg.k=S5 D5h:=by kernel_rfl
theorem pB (l:Nat) (va vb:Value) (la:List G1D) (lb:List G2D) (i:Nat):let a:=Array.mk ([]:List Value);A9 []->Sg Tryz.prog (⟨M3 (D8 .top [0,2,6,7,8,13,14,18] [.v (.c (.val (.func (.yield l) #[] #[]))),.v (.c (.ptr 0 0)),.v (.c (.vsl va (.g1 la))),.v (.c (.int .i64 (la.length:Nat))),.v (.c (.int .i64 (i:Int))),.top,.top,.top]) 19 (.ci (.lit true)),one (.fl [.vsl vb (.g2 lb)]),22,400,[]⟩) (B2 22 [0,2,6,7,8] [(.ci (.val (Value.func (Fn.yield l) a a))),.pt 0 0,(.ci (It.vsl va (Sq.g1 la))),(.ii (la.length:Int)),(.ii (wrap .i64 ((i:Int)+1)))] [0] [(eF_ [(It.vsl vb (Sq.g2 lb))])] 448 [] []) .normal (S5 D5h) (A0i D9k):=fun ho=>fun hs hK=>
 B1 M6 (F6m l va vb la lb i) (F6n l va vb la lb i) ho hs hK
theorem F6o  : A6v uzB false 3000 ((⟨A0i D9k,.normal,⟨M3 (D8 .top [] []) 19 (.ci (.lit false)),D8 none [] [],22,400,[]⟩⟩:Cfg)) [] [] [] []=some ⟨[],Exit.ret,[],[],22,416,[]⟩:=by kernel_rfl
theorem F6p  : (run uzB false 3000 ((⟨A0i D9k,.normal,⟨M3 (D8 .top [] []) 19 (.ci (.lit false)),D8 none [] [],22,400,[]⟩⟩:Cfg)) []).cfg.k=[]:=by kernel_rfl
theorem pC  (ho:A9 []):Sg Tryz.prog (⟨M3 (D8 .top [] []) 19 (.ci (.lit false)),D8 none [] [],22,400,[]⟩) (B2 22 [] [] [] [] 416 [] []) .ret ([]) (A0i D9k):=fun hs hK=>
 B1 M6 (F6o ) (F6p ) ho hs hK
end
end

section

def g1V (a:G1D):Value:=.agg ((Ob.fp a.x).cells++((Ob.fp a.y).cells++[Value.bool a.inf])).toArray
def g2V (b:G2D):Value:=.agg ((Ob.fp b.xa).cells++((Ob.fp b.xb).cells++((Ob.fp b.ya).cells++((Ob.fp b.yb).cells++[Value.bool b.inf])))).toArray
theorem E4u {x:Ctx} {o:Ob} {c:List Value} (h:x.D (.ob o) c):c=o.cells:=by
 obtain ⟨d,h⟩:=h
 cases d<;>exact h
theorem H6k {x:Ctx} {b:Bool} {c:List Value} (h:x.D (.bool b) c):c=[Value.bool b]:=by
 obtain ⟨d,h⟩:=h
 cases d<;>exact h
theorem G9s {x:Ctx} {a:G1D} {v:Value} (h:B8 x (.v (.a a.its)) v):v=g1V a:=by
 obtain ⟨cs,rfl,c1,c2,rfl,h1,c3,c4,rfl,h2,c5,c6,rfl,h3,rfl⟩:=h;rw[E4u h1,E4u h2,H6k h3];rfl
theorem G9t {x:Ctx} {b:G2D} {v:Value} (h:B8 x (.v (.a b.its)) v):v=g2V b:=by
 obtain ⟨cs,rfl,c1,c2,rfl,h1,c3,c4,rfl,h2,c5,c6,rfl,h3,c7,c8,rfl,h4,c9,c10,rfl,h5,rfl⟩:=h;rw[E4u h1,E4u h2,E4u h3,E4u h4,H6k h5];rfl
theorem F2a (x:Ctx) (a:G1D):B8 x (.v (.a a.its)) (g1V a):=⟨_,rfl,_,_,rfl,⟨0,rfl⟩,_,_,rfl,⟨0,rfl⟩,_,[],rfl,⟨0,rfl⟩,rfl⟩
theorem F2b (x:Ctx) (b:G2D):B8 x (.v (.a b.its)) (g2V b):=⟨_,rfl,_,_,rfl,⟨0,rfl⟩,_,_,rfl,⟨0,rfl⟩,_,_,rfl,⟨0,rfl⟩,_,_,rfl,⟨0,rfl⟩,_,[],rfl,⟨0,rfl⟩,rfl⟩
def C2j (z:G1D×G2D):List Value:=[g1V z.1,g2V z.2]
def F7k (z:G1D×G2D):List SV:=[.v (.a z.1.its),.v (.a z.2.its)]
theorem D7e {la:List G1D} {lb:List G2D} (hlen:la.length=lb.length) {i:Nat} (hi:i<la.length):(la.zip lb).take (i+1)=(la.zip lb).take i++[(la.getD i g10,lb.getD i g20)]:=by
 have h1:i<lb.length:=by omega
 rw[List.take_add_one];congr 1
 simp [List.getElem?_zip_eq_some,List.getD_eq_getElem?_getD,hi,h1]
theorem C2d {x:Ctx} {p q:Nat} {va vb:Value} {la:List G1D} {lb:List G2D} {M:List (G1D×G2D)->Nat->Option En} {G:Ctx->Prop} {n:Nat} {stop:Option (G1D×G2D)} (hlen:la.length=lb.length) (hlim:la.length<=64) (hn:n<=la.length)
  (hst:(stop=none∧n=la.length)∨(n<la.length∧stop=some (la.getD n g10,lb.getD n g20))) (hMa:∀s,M s p=some (.fl [.vsl va (.g1 la)])) (hMb:∀s,M s q=some (.fl [.vsl vb (.g2 lb)])) (hG:∀y,G y->y.D (.sl (.g1 la)) [va]) :
  E1c Tryz.prog x 93 [(p,0),(q,0)] C2j ((la.zip lb).take n) stop M G:=by
 intro l J J' W hgrow hgrow' hread hyield hstop hnone hJ
 have key:Wq Tryz.prog (bodyPost Tryz.prog Tryz.f93 fun e' W' => (∃v,e' = Ending.returned v)∧J' W') [.code (C5 Tryz.f93)] [] .normal { tmps:=[Value.func (.yield l) #[] #[],.pointer (some ⟨x.β p,0,none⟩),.pointer (some ⟨x.β q,0,none⟩)].toArray++Array.replicate 19 undef,defers:=[] } W:=?_
 ·exact calls_of_wp (c:=C5 Tryz.f93) Tryz.func93 rfl ((wpIn_wide (n:=0)).1 key.wp)
 obtain ⟨y,rfl,hGy,hm,hcp⟩:=hread [] W hJ;obtain ⟨hr,hβ⟩:=hcp (p,0) List.mem_cons_self;have hr:y.k p = .real:=hr;have hβ:y.β p=x.β p:=hβ;have hargs:I4 (E4 y p) [.v (.c (.val (.func (.yield l) #[] #[]))),.v (.c (.ptr 0 0)),.v (.c (.val (.pointer (some ⟨x.β q,0,none⟩))))] [.func (.yield l) #[] #[],.pointer (some ⟨x.β p,0,none⟩),.pointer (some ⟨x.β q,0,none⟩)]:=
  .cons ⟨rfl,0,rfl,rfl⟩ (.cons ⟨rfl,0,rfl,by show _=[Value.pointer (some ⟨y.β p,0,none⟩)];rw[hβ]⟩ (.cons ⟨rfl,0,rfl,rfl⟩ .nil))
 have hbox:∀{y:Ctx} {q:Nat} {v:Value} {s:Sq} (cs:Array Value) (ty:TypeId),y.w.heap[y.β q]? = some (.cells cs ty (0,0))->D4 y (.fl [.vsl v s]) cs.toList->D4 (E4 y q) (.fl [.vsl v s]) cs.toList:=fun cs _ _ hc=>G8k cs hc
 have hs:=B4i (nx:=16) (nt:=22) (a:={ tmps:=[Value.func (.yield l) #[] #[],.pointer (some ⟨x.β p,0,none⟩),.pointer (some ⟨x.β q,0,none⟩)].toArray++Array.replicate 19 undef,defers:=[] }) hm (hMa []) hr hbox rfl (by simp) (A3p hargs 19)
 change Wq Tryz.prog _ _ _ _ _ (E4 y p).w
 refine pj l va _ la trivial hs fun ac cY aY hs1=>?_
 have hmb:Mem (E4 y p) (one (.fl [.vsl va (.g1 la)])):=A9e hm (hMa _) hr hbox;obtain ⟨hg1,_,_⟩:=A1m hmb rfl hs1 rfl;have hJ1:=hgrow _ _ _ hJ hg1;obtain ⟨y1,e1,hG1,hm1,hcp1⟩:=hread _ _ hJ1;obtain ⟨hr1,hβ1⟩:=hcp1 (q,0) (List.mem_cons_of_mem _ List.mem_cons_self);have hr1:y1.k q = .real:=hr1;have hβ1:y1.β q=x.β q:=hβ1;have dat:∀{y:Ctx},G y->(E4 y q).D (.sl (.g1 la)) [va]:=fun {y} h=>A4k (x:=y) (y:=E4 y q) rfl (fun _ h=>h) rfl (hG y h)
 have hs2:=G2t (nx' := 80) (svs' := [.v (.c (.val (.func (.yield l) #[] #[]))),.v (.c (.ptr 0 0)),.v (.c (.vsl va (.g1 la))),.v (.c (.int .i64 (la.length:Nat))),.v (.c (.int .i64 ((0:Nat):Int)))]) hs1 rfl hm1 (hMb []) hr1 hbox ⟨F0n,G8r (z:=x) hβ1.symm,F0o (dat hG1),C7n,C7n,trivial⟩;rw[<-e1];rw[<-e1] at hJ1;let I:{ t:Nat // t<=n } -> List Act->Act->World->Prop:=fun t ac a w=>∃y z,z.w=w∧G y∧y.k q = .real∧y.β q=x.β q∧Mem y (M ((la.zip lb).take t.1))∧J ((la.zip lb).take t.1) y.w∧Sim y.w y.F (B4l (E4 y q)) ac (pjS l va vb la lb (t.1:Int)) z a
 refine A6d I (fun t=>n-t.1) (c:=lpC D5h) (k:=lpR D5h) (by kernel_rfl) (fun t ih ac b w hI=>?_) ⟨0,Nat.zero_le _⟩ ⟨y1,E4 y1 q,rfl,hG1,hr1,hβ1,hm1,hJ1,hs2.nx _⟩
 obtain ⟨t,ht⟩:=t;obtain ⟨y,z,rfl,hG2,hr,hβ,hm,hJ,hs⟩:=hI;simp only at hm hJ hs ih
 have hmb:Mem (E4 y q) (one (.fl [.vsl vb (.g2 lb)])):=A9e hm (hMb _) hr hbox;by_cases h:t<la.length
 ·refine pk l va vb la lb t ⟨by simp;omega,by omega,by omega,by omega,by omega,trivial⟩ hs fun ac cV aV hs4=>?_
  obtain ⟨hg4,_,hβ4⟩:=A1m hmb rfl hs4 rfl;have hJ4:=hgrow _ _ _ hJ hg4;have ev:[aV.tmps.getD 14 undef,aV.tmps.getD 18 undef]=C2j (la.getD t g10,lb.getD t g20):=by
   have k1:=G9s (hs4.t 14);have k2:=G9t (hs4.t 18);show _=[g1V _,g2V _];rw[k1,k2];rfl
  by_cases h2:t<n
  ·have hz:=D7e hlen h
   refine C3p (R:=fun W' => J ((la.zip lb).take (t+1)) W') (dst:=some 19) (f:=.tmp 13) (args:=[.tmp 14,.tmp 18]) (by kernel_rfl) hs4 (l:=l) rfl (vs:=C2j (la.getD t g10,lb.getD t g20)) ev ?_ fun W' hJ3=>?_
   ·have:=hyield ((la.zip lb).take t) (la.getD t g10,lb.getD t g20) _ hJ4 ⟨((la.zip lb).take n).drop (t+1),by
     have e2:((la.zip lb).take n).take (t+1)=(la.zip lb).take (t+1):=by rw[List.take_take];congr 1;omega
     have e3:=List.take_append_drop (t+1) ((la.zip lb).take n);rw[e2,hz,List.append_assoc] at e3;exact e3.symm⟩
    rw[<-hz] at this;exact this
   ·obtain ⟨y3,rfl,hG3,hm3,hc3⟩:=hread _ _ hJ3
    obtain ⟨hr3,hβ3⟩:=hc3 (q,0) (List.mem_cons_of_mem _ List.mem_cons_self);have hr3:y3.k q = .real:=hr3;have hβ3:y3.β q=x.β q:=hβ3;have hs7:=F3h (nx' := 400) (dst:=19) (b:=true) (svs' := [.v (.c (.val (.func (.yield l) #[] #[]))),.v (.c (.ptr 0 0)),.v (.c (.vsl va (.g1 la))),.v (.c (.int .i64 (la.length:Nat))),.v (.c (.int .i64 (t:Int))),.top,.top,.top]) hs4 rfl hm3 (hMb _) hr3 hbox ⟨F0n,G8q (by rw[hβ4,hβ];exact hβ3.symm),F0o (dat hG3),C7n,C7n,D7t,D7t,D7t,trivial⟩ (by decide)
    change Wq Tryz.prog _ _ _ _ _ (E4 y3 q).w
    refine pB l va vb la lb t trivial hs7 fun ac cT aT hs8=>?_
    have e4:wrap IntKind.i64 ((t:Int)+1)=((t+1:Nat):Int):=by rw[C9 (by omega) (by omega)];omega
    rw[e4] at hs8;exact ih ⟨t+1,by omega⟩ (by show n-(t+1)<n-t;omega) ac aT _ ⟨y3,cT,rfl,hG3,hr3,hβ3,hm3,hJ3,hs8.nx _⟩
  ·have ht2:t=n:=by omega
   subst ht2;rcases hst with ⟨_,h3⟩ | ⟨_,h3⟩
   ·omega
   ·refine C6v (ans:=false) (R:=J') (dst:=some 19) (f:=.tmp 13) (args:=[.tmp 14,.tmp 18]) (by kernel_rfl) hs4 (l:=l) rfl (vs:=C2j (la.getD t g10,lb.getD t g20)) ev (hstop _ h3 _ hJ4) fun W' hJ3=>?_
    have hb:=G2s (nt:=22) (nx:=400) (dst:=19) (b:=false) (w:=W') (a:=aV) hs4.nt (by have:=hs4.defers;exact this) (by decide)
    change Wq Tryz.prog _ _ _ _ _ (E1j W').w
    have hfr:Frs cV (B4l (E4 y q)).ds [] ac:=hs4.frs
    cases hfr
    refine pC trivial hb fun ac cT aT hs8=>?_
    exact ⟨C8n M6 hs8 rfl rfl rfl (fun v=>⟨⟨v,rfl⟩,hgrow' _ _ hJ3 ⟨hs8.base.os,hs8.base.tape,hs8.base.output,hs8.base.size,fun b hb _=>hs8.base.keep b hb trivial⟩⟩) (.inl rfl)⟩
 ·have e5:t=n:=by omega
  subst e5;refine pX l va vb la lb t ⟨by simp;omega,trivial⟩ hs fun ac cV aV hs4=>?_
  obtain ⟨hg,_,_⟩:=A1m hmb rfl hs4 rfl;rcases hst with ⟨h3,_⟩ | ⟨h3,_⟩
  ·exact ⟨C8n M6 hs4 rfl rfl rfl (fun v=>⟨⟨v,rfl⟩,hnone h3 _ (hgrow _ _ _ hJ hg)⟩) (.inr rfl)⟩
  ·omega
end

section
section
variable {w0:World} {F0:Nat->Prop} {K:Kp} {ac:List Act} {Q:Exit->Act->World->Prop} {cX:Ctx} {aX:Act}

theorem ccA (va vb:Value) (la:List G1D) (lb:List G2D):B9 uzB Tryz.f18 3000 [.v (.c (.vsl va (.g1 la))),.v (.c (.vsl vb (.g2 lb)))] [true] [] []=(some ([(((la.length:Int) != (lb.length:Int))=true)],((.t [(.c (.lit false)),(.c (.int .i64 (3:Int)))]),[]))):=by kernel_rfl
theorem ccB (va vb:Value) (la:List G1D) (lb:List G2D):let a:Int:=la.length;B9 uzB Tryz.f18 3000 [.v (.c (.vsl va (.g1 la))),.v (.c (.vsl vb (.g2 lb)))] [false,true] [] []=(some ([((a != (lb.length:Int))=false),((decide (a > (64:Int)))=true)],((.t [(.c (.lit false)),(.c (.int .i64 (2:Int)))]),[]))):=by intros;kernel_rfl
def B8r:List KI:=(run uzB false 3000 ((fun (va vb:Value) (la:List G1D) (lb:List G2D)=>(⟨[.code (C5 Tryz.f18)],.normal,F9 Tryz.f18.ntmps [.v (.c (.vsl va (.g1 la))),.v (.c (.vsl vb (.g2 lb)))]⟩:Cfg)) default default default default) [false,false]).cfg.k
theorem cc (va vb:Value) (la:List G1D) (lb:List G2D):let a:=It.vsl va (Sq.g1 la);let b:=It.vsl vb (Sq.g2 lb);let d:Int:=la.length;A9 [((d != (lb.length:Int))=false),((decide (d > (64:Int)))=false)]->Sg Tryz.prog (F9 Tryz.f18.ntmps [.v (.c (.vsl va (.g1 la))),.v (.c (.vsl vb (.g2 lb)))]) (B2 48 [0,1,4,5,24] [(.ci a),(.ci b),.pt 16 0,.pt 32 0,(.ci (.clo 93 [(240,0),(256,0)]))] [16,32,240,256] [(eF_ [(.lit false)]),(eF_ [(.int .i64 (0:Int))]),(eF_ [a]),(eF_ [b])] 320 [] []) .normal (B8r) ([.code (C5 Tryz.f18)]):=fun ho=>fun hs hK=>
 B1 (unroll:=false) (n:=3000) (path:=[false,false]) (o:=⟨_,_,_,_,_,_,_⟩) M6 (by kernel_rfl) (by kernel_rfl) ho hs hK
def ccS (va vb:Value) (la:List G1D) (lb:List G2D) (e:Int):St:=B2 48 [0,1,4,5,24] [(.ci (It.vsl va (Sq.g1 la))),(.ci (It.vsl vb (Sq.g2 lb))),.pt 16 0,.pt 32 0,(.ci (.clo 93 [(240,0),(256,0)]))] [16,32,240,256] [(eF_ [(.lit false)]),some (.fl [.int .i64 e]),(eF_ [(It.vsl va (Sq.g1 la))]),(eF_ [(It.vsl vb (Sq.g2 lb))])] 320 [] []
theorem cA (va vb:Value) (la:List G1D) (lb:List G2D) (xa ya a b c d:U6) (i j:Bool) {ρ:Option Nat}:let f:=It.vsl va (Sq.g1 la);let g:=It.vsl vb (Sq.g2 lb);(A9 [])->(Sim w0 F0 K ac (X6 (ccS va vb la lb 0) [(25,.v (.a [.ob (.fp xa),.ob (.fp ya),.bool i])),(26,.v (.a [.ob (.fp a),.ob (.fp b),.ob (.fp c),.ob (.fp d),.bool j]))]) cX aX)->(∀cY aY,Sim w0 F0 K ac (B2 48 [4,5,6,7] [.pt 16 0,.pt 32 0,.pt 320 0,.pt 352 0] [16,32,240,256,320,352] [(eF_ [(.lit false)]),(eF_ [(.int .i64 (0:Int))]),(eF_ [f]),(eF_ [g]),(eF_ [.ob (.fp xa),.ob (.fp ya),(.bool i)]),(eF_ [.ob (.fp a),.ob (.fp b),.ob (.fp c),.ob (.fp d),(.bool j)])] 384 [[0,1,4,5,24]] [([(.ci f),(.ci g),.pt 16 0,.pt 32 0,(.ci (.clo 93 [(240,0),(256,0)]))],48)]) cY aY->Wq Tryz.prog Q ([]) ac Exit.normal aY cY.w ρ)->Wq Tryz.prog Q ([.code (rfA B8r)]) ac .normal aX cX.w ρ :=fun ho hs hK=>
 G4 (unroll:=false) (n:=3000) (path:=[]) (o:=⟨_,_,_,_,_,_,_⟩) M6 (by kernel_rfl) (by kernel_rfl) ho (by kernel_rfl) (by kernel_rfl) hs hK
def ccM (va vb:Value) (la:List G1D) (lb:List G2D) (xa ya a b c d:U6) (i j:Bool):St:=B2 48 [4,5,6,7] [.pt 16 0,.pt 32 0,.pt 320 0,.pt 352 0] [16,32,240,256,320,352] [(eF_ [(.lit false)]),(eF_ [(.int .i64 (0:Int))]),(eF_ [(It.vsl va (Sq.g1 la))]),(eF_ [(It.vsl vb (Sq.g2 lb))]),(eF_ [.ob (.fp xa),.ob (.fp ya),(.bool i)]),(eF_ [.ob (.fp a),.ob (.fp b),.ob (.fp c),.ob (.fp d),(.bool j)])] 384 [[0,1,4,5,24]] [([(.ci (It.vsl va (Sq.g1 la))),(.ci (It.vsl vb (Sq.g2 lb))),.pt 16 0,.pt 32 0,(.ci (.clo 93 [(240,0),(256,0)]))],48)]
theorem cN (va vb:Value) (la:List G1D) (lb:List G2D) (xa ya a b c d:U6) (i j:Bool) {ρ:Option Nat}:let f:=It.vsl va (Sq.g1 la);let g:=It.vsl vb (Sq.g2 lb);(A9 [(((I9 (G1D.mk xa ya i) (G2D.mk a b c d j)) != (0:Int))=false)])->(Sim w0 F0 K ac (ccM va vb la lb xa ya a b c d i j) cX aX)->(∀cY aY,Sim w0 F0 K ac (B2 48 [4,5] [.pt 16 0,.pt 32 0] [16,32,240,256] [(eF_ [(.lit false)]),(eF_ [(.int .i64 (0:Int))]),(eF_ [f]),(eF_ [g])] 480 [[0,1,4,5,24]] [([(.ci f),(.ci g),.pt 16 0,.pt 32 0,(.ci (.clo 93 [(240,0),(256,0)]))],48)]) cY aY->Wq Tryz.prog Q ([]) ac Exit.normal aY cY.w ρ)->Wq Tryz.prog Q ([.code (rfB B8r)]) ac .normal aX cX.w ρ :=fun ho hs hK=>
 G4 (unroll:=false) (n:=3000) (path:=[false]) (o:=⟨_,_,_,_,_,_,_⟩) M6 (by kernel_rfl) (by kernel_rfl) ho (by kernel_rfl) (by kernel_rfl) hs hK
theorem cY (va vb:Value) (la:List G1D) (lb:List G2D) (xa ya a b c d:U6) (i j:Bool) {ρ:Option Nat}:let f:=I9 (G1D.mk xa ya i) (G2D.mk a b c d j);let g:=It.vsl va (Sq.g1 la);let h:=It.vsl vb (Sq.g2 lb);(A9 [((f != (0:Int))=true)])->(Sim w0 F0 K ac (ccM va vb la lb xa ya a b c d i j) cX aX)->(∀cY aY,Sim w0 F0 K ac (B2 48 [4,5] [.pt 16 0,.pt 32 0] [16,32,240,256] [(eF_ [(.lit false)]),(eF_ [(.int .i64 f)]),(eF_ [g]),(eF_ [h])] 528 [[0,1,4,5,24]] [([(.ci g),(.ci h),.pt 16 0,.pt 32 0,(.ci (.clo 93 [(240,0),(256,0)]))],48)]) cY aY->Wq Tryz.prog Q ([]) ac Exit.ret aY cY.w ρ)->Wq Tryz.prog Q ([.code (rfB B8r)]) ac .normal aX cX.w ρ :=fun ho hs hK=>
 G4 (unroll:=false) (n:=3000) (path:=[true]) (o:=⟨_,_,_,_,_,_,_⟩) M6 (by kernel_rfl) (by kernel_rfl) ho (by kernel_rfl) (by kernel_rfl) hs hK
def ccE (va vb:Value) (la:List G1D) (lb:List G2D) (xa ya a b c d:U6) (i j:Bool) (e:Int):St:=B2 48 [4,5] [.pt 16 0,.pt 32 0] [16,32,240,256] [(eF_ [(.lit false)]),some (.fl [.int .i64 e]),(eF_ [(It.vsl va (Sq.g1 la))]),(eF_ [(It.vsl vb (Sq.g2 lb))])] 480 [[0,1,4,5,24]] [([(.ci (It.vsl va (Sq.g1 la))),(.ci (It.vsl vb (Sq.g2 lb))),.pt 16 0,.pt 32 0,(.ci (.clo 93 [(240,0),(256,0)]))],48)]
theorem cR (va vb:Value) (la:List G1D) (lb:List G2D) (e:Int) (ho:A9 []):Sg Tryz.prog (ccS va vb la lb e) (B2 48 [4,5] [.pt 16 0,.pt 32 0] [16,32] [(eF_ [(.lit false)]),(eF_ [(.int .i64 e)])] 320 [] []) .ret ([]) (.code .ret::rfR B8r):=fun hs hK=>
 B1 (unroll:=false) (n:=3000) (path:=[]) (o:=⟨_,_,_,_,_,_,_⟩) M6 (by kernel_rfl) (by kernel_rfl) ho hs hK
def D1v:List KI:=(run uzB false 3000 ((fun (va vb:Value) (la:List G1D) (lb:List G2D)=>(⟨rfR B8r,.normal,ccS va vb la lb 0⟩:Cfg)) default default default default) []).cfg.k
theorem cW (va vb:Value) (la:List G1D) (lb:List G2D) {ρ:Option Nat}:let a:=It.vsl va (Sq.g1 la);let b:=It.vsl vb (Sq.g2 lb);(A9 [])->(Sim w0 F0 K ac (ccS va vb la lb 0) cX aX)->(∀cY aY,Sim w0 F0 K ac (B2 48 [0,1,4,5,9,36] [(.ci a),(.ci b),.pt 16 0,.pt 32 0,.pt 336 0,(.ci (.clo 93 [(400,0),(416,0)]))] [16,32,336,400,416] [(eF_ [(.lit false)]),(eF_ [(.int .i64 (0:Int))]),(eF_ (D5 (1:F12))),(eF_ [a]),(eF_ [b])] 480 [] []) cY aY->Wq Tryz.prog Q (D1v) ac Exit.normal aY cY.w ρ)->Wq Tryz.prog Q (rfR B8r) ac .normal aX cX.w ρ :=fun ho hs hK=>
 G4 (unroll:=false) (n:=3000) (path:=[]) (o:=⟨_,_,_,_,_,_,_⟩) M6 (by kernel_rfl) (by kernel_rfl) ho (by kernel_rfl) (by kernel_rfl) hs hK
def ceS (va vb:Value) (la:List G1D) (lb:List G2D) (f:F12):St:=B2 48 [0,1,4,5,9,36] [(.ci (It.vsl va (Sq.g1 la))),(.ci (It.vsl vb (Sq.g2 lb))),.pt 16 0,.pt 32 0,.pt 336 0,(.ci (.clo 93 [(400,0),(416,0)]))] [16,32,336,400,416] [(eF_ [(.lit false)]),(eF_ [(.int .i64 (0:Int))]),some (.fl (D5 f)),(eF_ [(It.vsl va (Sq.g1 la))]),(eF_ [(It.vsl vb (Sq.g2 lb))])] 480 [] []
theorem dA (va vb:Value) (la:List G1D) (lb:List G2D) (f:F12) (xa ya a b c d:U6) (i j:Bool) {ρ:Option Nat}:let g:=It.vsl va (Sq.g1 la);let h:=It.vsl vb (Sq.g2 lb);(A9 [])->(Sim w0 F0 K ac (X6 (ceS va vb la lb f) [(37,.v (.a [.ob (.fp xa),.ob (.fp ya),.bool i])),(38,.v (.a [.ob (.fp a),.ob (.fp b),.ob (.fp c),.ob (.fp d),.bool j]))]) cX aX)->(∀cY aY,Sim w0 F0 K ac (B2 48 [4,5,9,10,11] [.pt 16 0,.pt 32 0,.pt 336 0,.pt 480 0,.pt 512 0] [16,32,336,400,416,480,512] [(eF_ [(.lit false)]),(eF_ [(.int .i64 (0:Int))]),(eF_ (D5 f)),(eF_ [g]),(eF_ [h]),(eF_ [.ob (.fp xa),.ob (.fp ya),(.bool i)]),(eF_ [.ob (.fp a),.ob (.fp b),.ob (.fp c),.ob (.fp d),(.bool j)])] 544 [[0,1,4,5,9,36]] [([(.ci g),(.ci h),.pt 16 0,.pt 32 0,.pt 336 0,(.ci (.clo 93 [(400,0),(416,0)]))],48)]) cY aY->Wq Tryz.prog Q ([]) ac Exit.normal aY cY.w ρ)->Wq Tryz.prog Q ([.code (rfA D1v)]) ac .normal aX cX.w ρ :=fun ho hs hK=>
 G4 (unroll:=false) (n:=3000) (path:=[]) (o:=⟨_,_,_,_,_,_,_⟩) M6 (by kernel_rfl) (by kernel_rfl) ho (by kernel_rfl) (by kernel_rfl) hs hK
def ceM (va vb:Value) (la:List G1D) (lb:List G2D) (f:F12) (xa ya a b c d:U6) (i j:Bool):St:=B2 48 [4,5,9,10,11] [.pt 16 0,.pt 32 0,.pt 336 0,.pt 480 0,.pt 512 0] [16,32,336,400,416,480,512] [(eF_ [(.lit false)]),(eF_ [(.int .i64 (0:Int))]),(eF_ (D5 f)),(eF_ [(It.vsl va (Sq.g1 la))]),(eF_ [(It.vsl vb (Sq.g2 lb))]),(eF_ [.ob (.fp xa),.ob (.fp ya),(.bool i)]),(eF_ [.ob (.fp a),.ob (.fp b),.ob (.fp c),.ob (.fp d),(.bool j)])] 544 [[0,1,4,5,9,36]] [([(.ci (It.vsl va (Sq.g1 la))),(.ci (It.vsl vb (Sq.g2 lb))),.pt 16 0,.pt 32 0,.pt 336 0,(.ci (.clo 93 [(400,0),(416,0)]))],48)]
theorem dN (va vb:Value) (la:List G1D) (lb:List G2D) (f:F12) (xa ya a b c d:U6) (i j:Bool) {ρ:Option Nat}:let g:=E2.a f;let h:=E2.b f;let k:=It.vsl va (Sq.g1 la);let l:=It.vsl vb (Sq.g2 lb);(A9 [])->(Sim w0 F0 K ac (ceM va vb la lb f xa ya a b c d i j) cX aX)->(∀cY aY,Sim w0 F0 K ac (B2 48 [4,5] [.pt 16 0,.pt 32 0] [16,32,336,400,416] [(eF_ [(.lit false)]),(eF_ [(.int .i64 (0:Int))]),(eF_ (D5 ((E2.mk (E3.mk ((Prod.fst (E3.a g)),(Prod.snd (E3.a g))) ((Prod.fst (E3.b g)),(Prod.snd (E3.b g))) ((Prod.fst (E3.c g)),(Prod.snd (E3.c g)))) (E3.mk ((Prod.fst (E3.a h)),(Prod.snd (E3.a h))) ((Prod.fst (E3.b h)),(Prod.snd (E3.b h))) ((Prod.fst (E3.c h)),(Prod.snd (E3.c h)))))*(A4r (G1D.mk xa ya i) (G2D.mk a b c d j))))),(eF_ [k]),(eF_ [l])] 640 [[0,1,4,5,9,36]] [([(.ci k),(.ci l),.pt 16 0,.pt 32 0,.pt 336 0,(.ci (.clo 93 [(400,0),(416,0)]))],48)]) cY aY->Wq Tryz.prog Q ([]) ac Exit.normal aY cY.w ρ)->Wq Tryz.prog Q ([.code (rfB D1v)]) ac .normal aX cX.w ρ :=fun ho hs hK=>
 G4 (unroll:=false) (n:=3000) (path:=[]) (o:=⟨_,_,_,_,_,_,_⟩) M6 (by kernel_rfl) (by kernel_rfl) ho (by kernel_rfl) (by kernel_rfl) hs hK
theorem dX (va vb:Value) (la:List G1D) (lb:List G2D) (f:F12):let g:=M4 f;let h:=E2.a (1:F12);let i:=E2.b (1:F12);let j:=E2.a g;let k:=E2.b g;let d:=Bool.and (decide ((Prod.fst (E3.a j))=(Prod.fst (E3.a h)))) (Bool.and (decide ((Prod.snd (E3.a j))=(Prod.snd (E3.a h)))) (Bool.and (decide ((Prod.fst (E3.b j))=(Prod.fst (E3.b h)))) (Bool.and (decide ((Prod.snd (E3.b j))=(Prod.snd (E3.b h)))) (Bool.and (decide ((Prod.fst (E3.c j))=(Prod.fst (E3.c h)))) (Bool.and (decide ((Prod.snd (E3.c j))=(Prod.snd (E3.c h)))) (Bool.and (decide ((Prod.fst (E3.a k))=(Prod.fst (E3.a i)))) (Bool.and (decide ((Prod.snd (E3.a k))=(Prod.snd (E3.a i)))) (Bool.and (decide ((Prod.fst (E3.b k))=(Prod.fst (E3.b i)))) (Bool.and (decide ((Prod.snd (E3.b k))=(Prod.snd (E3.b i)))) (Bool.and (decide ((Prod.fst (E3.c k))=(Prod.fst (E3.c i)))) (decide ((Prod.snd (E3.c k))=(Prod.snd (E3.c i))))))))))))));A9 []->Sg Tryz.prog (ceS va vb la lb f) (B2 48 [4,5] [.pt 16 0,.pt 32 0] [16,32] [(eF_ [(.bool (ite (true=true) d (Bool.not d)))]),(eF_ [(.int .i64 (0:Int))])] 576 [] []) .ret ([]) (rfR D1v):=fun ho=>fun hs hK=>
 B1 (unroll:=false) (n:=3000) (path:=[]) (o:=⟨_,_,_,_,_,_,_⟩) M6 (by kernel_rfl) (by kernel_rfl) ho hs hK
def ceE (va vb:Value) (la:List G1D) (lb:List G2D) (f:F12) (xa ya a b c d:U6) (i j:Bool):St:=B2 48 [4,5] [.pt 16 0,.pt 32 0] [16,32,336,400,416] [(eF_ [(.lit false)]),(eF_ [(.int .i64 (0:Int))]),some (.fl (D5 f)),(eF_ [(It.vsl va (Sq.g1 la))]),(eF_ [(It.vsl vb (Sq.g2 lb))])] 640 [[0,1,4,5,9,36]] [([(.ci (It.vsl va (Sq.g1 la))),(.ci (It.vsl vb (Sq.g2 lb))),.pt 16 0,.pt 32 0,.pt 336 0,(.ci (.clo 93 [(400,0),(416,0)]))],48)]
def ccZ (e:Int):St:=B2 48 [4,5] [.pt 16 0,.pt 32 0] [16,32] [(eF_ [(.lit false)]),(eF_ [(.int .i64 e)])] 320 [] []
theorem G8n (e:Int):J7 uzB Tryz.f18 false 3000 (⟨[],.ret,ccZ e⟩) [] [] []=(some ([],((.t [(.c (.lit false)),(.c (.int .i64 e))]),[]))):=by kernel_rfl
def dZ (r:Bool):St:=B2 48 [4,5] [.pt 16 0,.pt 32 0] [16,32] [some (.fl [.bool r]),(eF_ [(.int .i64 (0:Int))])] 576 [] []
theorem G8s (r:Bool):J7 uzB Tryz.f18 false 3000 (⟨[],.ret,dZ r⟩) [] [] []=(some ([],((.t [(.c (.bool r)),(.c (.int .i64 (0:Int)))]),[]))):=by kernel_rfl
end
end

section

def A5u (u v:F12):Bool:=decide (u.a.a.1=v.a.a.1) && (decide (u.a.a.2=v.a.a.2) && (decide (u.a.b.1=v.a.b.1) && (decide (u.a.b.2=v.a.b.2) && (decide (u.a.c.1=v.a.c.1) && (decide (u.a.c.2=v.a.c.2) && (decide (u.b.a.1=v.b.a.1) && (decide (u.b.a.2=v.b.a.2) && (decide (u.b.b.1=v.b.b.1) && (decide (u.b.b.2=v.b.b.2) && (decide (u.b.c.1=v.b.c.1) && decide (u.b.c.2=v.b.c.2)))))))))))
theorem E5z (u v:F12):A5u u v=true↔u=v:=by
 obtain ⟨⟨⟨a1,a2⟩,⟨a3,a4⟩,⟨a5,a6⟩⟩,⟨⟨a7,a8⟩,⟨a9,a10⟩,⟨a11,a12⟩⟩⟩:=u;obtain ⟨⟨⟨b1,b2⟩,⟨b3,b4⟩,⟨b5,b6⟩⟩,⟨⟨b7,b8⟩,⟨b9,b10⟩,⟨b11,b12⟩⟩⟩:=v;simp only[A5u,Bool.and_eq_true,decide_eq_true_eq,E2.mk.injEq,E3.mk.injEq,Prod.mk.injEq,and_assoc]
def A2g (l:List (G1D×G2D)):F12:=l.foldl (fun f z=>f*A4r z.1 z.2) 1
theorem A9x (l:List (G1D×G2D)) (z:G1D×G2D):A2g (l++[z])=A2g l*A4r z.1 z.2:=C5b (fun (f:F12) (z:G1D×G2D)=>f*A4r z.1 z.2) 1 l z
/-- The first pair that is refused. -/
def A8c:List (G1D×G2D)->Int
 | []=>0
 | z::l=>if (I9 z.1 z.2 != 0)=true then I9 z.1 z.2 else A8c l
def pcD (la:List G1D) (lb:List G2D):Bool×Int:=
 if la.length≠lb.length then (false,3) else if 64<la.length then (false,2) else if (A8c (la.zip lb) != 0)=true then (false,A8c (la.zip lb)) else (A5u (M4 (A2g (la.zip lb))) 1,0)
theorem B8u:∀l:List (G1D×G2D),(A8c l=0∧∀z∈l,(I9 z.1 z.2 != 0)=false)∨∃n z,(∃t,l=l.take n++z::t)∧n<l.length∧(∀z∈l.take n,(I9 z.1 z.2 != 0)=false)∧(I9 z.1 z.2 != 0)=true∧A8c l=I9 z.1 z.2
 | []=>.inl ⟨rfl,fun _ h=>nomatch h⟩
 | z::l=>by
  cases h:(I9 z.1 z.2 != 0) with
  | true=>exact .inr ⟨0,z,⟨l,rfl⟩,by simp,by simp,h,by simp only[A8c,h,if_true]⟩
  | false=>
   have e:A8c (z::l)=A8c l:=by simp only[A8c,h];exact if_neg (fun k=>nomatch k)
   rw[e];rcases B8u l with ⟨h1,h2⟩ | ⟨n,y,⟨t,h1⟩,h2,h3,h4,h5⟩
   ·refine .inl ⟨h1,fun y hy=>?_⟩
    rcases List.mem_cons.1 hy with rfl | hy
    ·exact h
    ·exact h2 y hy
   ·refine .inr ⟨n+1,y,⟨t,by rw[List.take_succ_cons,List.cons_append,<-h1]⟩,by simpa using h2,fun y hy=>?_,h4,h5⟩
    rw[List.take_succ_cons] at hy;rcases List.mem_cons.1 hy with rfl | hy
    ·exact h
    ·exact h3 y hy

theorem E4n {x:Ctx} {u v:Value} {q:Sq} (h:B8 x (.v (.c (.vsl u q))) v):x.D (.sl q) [u]:=by
 obtain ⟨h1,h2⟩:=E0z h.2;simp only[List.cons.injEq,and_true] at h1;subst h1;exact h2
theorem C8w {y:Ctx} {v:Value} {b:Bool} {e:Int} (hd:B8 y (.t [.c (.lit b),.c (.int .i64 e)]) v):B8 y (.t [.c (.bool b),.c (.int .i64 e)]) v:=by
 obtain ⟨vs,rfl,h⟩:=hd
 cases h with
 | cons h1 h2=>exact ⟨_,rfl,.cons (P9 rfl (y:=y) h1) h2⟩
/-- A rejected pair, or none. -/
structure Stp (la:List G1D) (lb:List G2D) (n:Nat) (stop:Option (G1D×G2D)):Prop where
 h1:n<=la.length
 h2:(stop=none∧n=la.length)∨(n<la.length∧stop=some (la.getD n g10,lb.getD n g20))
 h3:∀z∈(la.zip lb).take n,(I9 z.1 z.2 != 0)=false
 h4:∀z,stop=some z->(I9 z.1 z.2 != 0)=true∧A8c (la.zip lb)=I9 z.1 z.2
 h5:stop=none->A8c (la.zip lb)=0
theorem H4a {la:List G1D} {lb:List G2D} (hlen:la.length=lb.length):∃n stop,Stp la lb n stop:=by
 have hz:(la.zip lb).length=la.length:=by simp [hlen]
 rcases B8u (la.zip lb) with ⟨h1,h2⟩ | ⟨n,z,⟨t,h1⟩,h2,h3,h4,h5⟩
 ·exact ⟨la.length,none,⟨Nat.le_refl _,.inl ⟨rfl,rfl⟩,fun z hz=>h2 z (List.mem_of_mem_take hz),fun z h=>(nomatch h),fun _=>h1⟩⟩
 ·rw[hz] at h2
  have e:=D7e hlen h2;have e2:(la.zip lb).take (n+1)=(la.zip lb).take n++[z]:=by
   have h6:((la.zip lb).take n).length=n:=by rw[List.length_take];omega
   conv=>lhs;rw[h1]
   rw[List.take_append,h6,List.take_of_length_le (by omega)]
   simp
  rw[e2] at e;have e3:=List.append_cancel_left e;simp only[List.cons.injEq,and_true] at e3;subst e3;exact ⟨n,some _,⟨by omega,.inr ⟨h2,rfl⟩,h3,fun z hz=>by cases hz;exact ⟨h4,h5⟩,fun h=>nomatch h⟩⟩
theorem G6z {la:List G1D} {lb:List G2D} (hlen:la.length=lb.length):(la.zip lb).take la.length=la.zip lb:=by
 rw[List.take_of_length_le];simp [hlen]

theorem F6z (va vb:Value) (la:List G1D) (lb:List G2D) (hlen:la.length=lb.length) (hlim:la.length<=64) :
  FnD Tryz.prog 18 [.v (.c (.vsl va (.g1 la))),.v (.c (.vsl vb (.g2 lb)))] (.t [.c (.bool (pcD la lb).1),.c (.int .i64 (pcD la lb).2)]) []:=by
 refine T9 (fn:=Tryz.f18) (c:=C5 Tryz.f18) Tryz.func18 rfl rfl fun X B hk hF hs=>?_
 have o1:(((la.length:Nat):Int) != ((lb.length:Nat):Int))=false:=by rw[hlen];simp
 have o2:decide (((la.length:Nat):Int) > (64:Int))=false:=by simp;omega
 refine cc va vb la lb ⟨o1,o2,trivial⟩ hs fun ac cJ aJ hs1=>?_
 obtain ⟨e1,e2⟩:=A2v (k:=B8r) (by kernel_rfl)
 rw[e1];have eP:(rfP B8r).toList=[25,26]:=by kernel_rfl
 have eG:rfG B8r = .tmp 24:=by kernel_rfl
 obtain ⟨n,stop,st⟩:=H4a hlen;have hda:cJ.D (.sl (.g1 la)) [va]:=E4n (hs1.t 0);have hsn:∀pre z,(∃t,(la.zip lb).take n=pre++z::t)->(I9 z.1 z.2 != 0)=false:=fun pre z ⟨t,ht⟩=>st.h3 z (by rw[ht];simp)
 have hs1:Sim X.w X.F Y8 ac { ccS va vb la lb 0 with nx:=320 } cJ aJ:=hs1
 refine A6p (ps:=rfP B8r) e2 hs1.own (gf:=93) (caps:=[(240,0),(256,0)]) (A5 Tryz.func93 rfl rfl) (fun _=>ccS va vb la lb 0) (fun s=>by rw[eG];rfl) ⟨_,rfl⟩ ((la.zip lb).take n) stop F7k C2j
  (fun y z=>.cons (F2a y z.1) (.cons (F2b y z.2) .nil)) (fun z=>by rw[<-Array.length_toList,eP];rfl) (fun pre p hp=>?_)
  (C2d hlen hlim st.h1 st.h2 (fun _=>rfl) (fun _=>rfl) fun y hy=>C4k hs1.mem hy rfl hda)
  (fun pre z=>ccM va vb la lb z.1.x z.1.y z.2.xa z.2.xb z.2.ya z.2.yb z.1.inf z.2.inf) (fun pre z=>ccE va vb la lb z.1.x z.1.y z.2.xa z.2.xb z.2.ya z.2.yb z.1.inf z.2.inf (I9 z.1 z.2)) (fun pre z hz=>⟨_,by
   have h:=hsn pre z hz;have h0:I9 z.1 z.2=0:=by simpa using h
   rw[h0];rfl⟩) (fun pre z hz w1 F1 K1 as1 Q1 l Y b hs2 hQ=>?_) (fun pre z hz w1 F1 K1 as1 Q1 l Y b hs2 hQ=>?_) (fun z hz w1 F1 K1 as1 Q1 l Y b hs2 hQ=>?_) (fun hst D Y hs2 hD hFD hd=>?_) (fun z hz D Y hs2 hD hFD hd=>?_)
 ·rw[eP] at hp
  simp only[List.mem_cons,List.not_mem_nil,or_false] at hp;rcases hp with rfl | rfl
  ·show 25<48
   decide
  ·show 26<48
   decide
 ·rw[eP] at hs2
  obtain ⟨⟨xa,ya,i⟩,⟨a,b,c,d,j⟩⟩:=z;exact cA va vb la lb xa ya a b c d i j trivial hs2 fun cZ aZ hs3=>⟨hQ _ _ (hs3.nx _)⟩
 ·have h:=hsn pre z hz
  have h0:I9 z.1 z.2=0:=by simpa using h
  rw[h0] at hQ;obtain ⟨⟨xa,ya,i⟩,⟨a,b,c,d,j⟩⟩:=z;exact cN va vb la lb xa ya a b c d i j ⟨h,trivial⟩ hs2 fun cZ aZ hs3=>⟨hQ _ _ (hs3.nx _)⟩
 ·have h:=(st.h4 z hz).1
  obtain ⟨⟨xa,ya,i⟩,⟨a,b,c,d,j⟩⟩:=z;exact cY va vb la lb xa ya a b c d i j ⟨h,trivial⟩ hs2 fun cZ aZ hs3=>⟨hQ _ _ (hs3.nx _)⟩
 ·have e5:n=la.length:=by
   rcases st.h2 with ⟨_,h⟩ | ⟨_,h⟩
   ·exact h
   ·rw[hst] at h;cases h
  have eR:pcD la lb=(A5u (M4 (A2g (la.zip lb))) 1,0):=by
   unfold pcD;rw[if_neg (by omega),if_neg (by omega),st.h5 hst]
   exact if_neg (fun k=>nomatch k)
  rw[eR];have hs2:=hs1.outOwn hs2;have hD:=Nat.le_trans hs1.base.size hD;have hs3:=hs2.marked rfl rfl D;refine cW va vb la lb trivial hs3 fun cV aV hs4=>?_
  obtain ⟨k1,k2⟩:=A2v (k:=D1v) (by kernel_rfl)
  rw[k1];have kP:(rfP D1v).toList=[37,38]:=by kernel_rfl
  have kG:rfG D1v = .tmp 36:=by kernel_rfl
  have hdb:cV.D (.sl (.g1 la)) [va]:=E4n (hs4.t 0);have hs4:Sim Y.w Y.F (U1 Y Y8 (H8 D)) ac { ceS va vb la lb (A2g []) with nx:=480 } cV aV:=hs4
  have hit:E1c Tryz.prog cV 93 [(400,0),(416,0)] C2j ((la.zip lb).take la.length) none (fun s=>(ceS va vb la lb (A2g s)).m) (A8r cV.w cV.F (U1 cV (U1 Y Y8 (H8 D)) (H8 D))):=
   C2d hlen hlim (Nat.le_refl _) (.inl ⟨rfl,rfl⟩) (fun _=>rfl) (fun _=>rfl) fun y hy=>C4k hs4.mem hy rfl hdb
  refine A6p (ps:=rfP D1v) k2 hs4.own (gf:=93) (caps:=[(400,0),(416,0)]) (A5 Tryz.func93 rfl rfl) (fun s=>ceS va vb la lb (A2g s)) (fun s=>by rw[kG];rfl) ⟨_,rfl⟩ ((la.zip lb).take la.length) none F7k C2j
   (fun y z=>.cons (F2a y z.1) (.cons (F2b y z.2) .nil)) (fun z=>by rw[<-Array.length_toList,kP];rfl) (fun pre p hp=>?_) hit
   (fun pre z=>ceM va vb la lb (A2g pre) z.1.x z.1.y z.2.xa z.2.xb z.2.ya z.2.yb z.1.inf z.2.inf) (fun pre z=>ceE va vb la lb (A2g (pre++[z])) z.1.x z.1.y z.2.xa z.2.xb z.2.ya z.2.yb z.1.inf z.2.inf) (fun pre z _=>⟨_,rfl⟩)
   (fun pre z hz w1 F1 K1 as1 Q1 l Y b hs2 hQ=>?_) (fun pre z hz w1 F1 K1 as1 Q1 l Y b hs2 hQ=>?_) (fun z hz=>nomatch hz) (fun _ D' Y' hs5 hD' hFD' hd' => ?_) (fun z hz=>nomatch hz)
  ·rw[kP] at hp
   simp only[List.mem_cons,List.not_mem_nil,or_false] at hp;rcases hp with rfl | rfl
   ·show 37<48
    decide
   ·show 38<48
    decide
  ·rw[kP] at hs2
   obtain ⟨⟨xa,ya,i⟩,⟨a,b,c,d,j⟩⟩:=z;exact dA va vb la lb _ xa ya a b c d i j trivial hs2 fun cZ aZ hs3=>⟨hQ _ _ (hs3.nx _)⟩
  ·rw[A9x] at hQ
   obtain ⟨⟨xa,ya,i⟩,⟨a,b,c,d,j⟩⟩:=z;exact dN va vb la lb _ xa ya a b c d i j trivial hs2 fun cZ aZ hs3=>⟨hQ _ _ (hs3.nx _)⟩
  ·have hs5:=hs4.outOwn hs5
   have hD' := Nat.le_trans hs4.base.size hD';rw[G6z hlen] at hs5;generalize A2g (la.zip lb)=f at hs5 ⊢
   have hs6:=hs5.marked2 rfl D';refine dX va vb la lb f trivial hs6 fun ac3 cU aU hs7=>⟨?_⟩
   have hs8:Sim Y'.w Y'.F (U1 Y' (U1 Y Y8 (H8 D)) (H8 D' ++ H8 D)) ac3 (dZ (if true=true then A5u (M4 f) 1 else !A5u (M4 f) 1)) cU aU:=Eq.mpr (by kernel_rfl) hs7
   rw[if_pos rfl] at hs8;generalize A5u (M4 f) 1=r at hs8 ⊢
   exact D8g M6 hk hF (G8s r) trivial (fun y v hd=>hd) hs2 hD hFD hd hs5 hD' hFD' hd' rfl hs8
 ·obtain ⟨h,h5⟩:=st.h4 z hz
  have eR:pcD la lb=(false,I9 z.1 z.2):=by
   unfold pcD;rw[if_neg (by omega),if_neg (by omega),h5]
   exact if_pos h
  rw[eR];have hs2:=hs1.outOwn hs2;have hD:=Nat.le_trans hs1.base.size hD;generalize I9 z.1 z.2=e at hs2 ⊢
  have hs2:Sim X.w X.F Y8 ac { ccS va vb la lb e with nx:=(B6n (ccE va vb la lb z.1.x z.1.y z.2.xa z.2.xb z.2.ya z.2.yb z.1.inf z.2.inf e)).nx } Y aJ:=hs2
  have hs3:=(hs2.nx 320).marked rfl rfl D;refine cR va vb la lb e trivial hs3 fun ac2 cV aV hs4=>⟨?_⟩
  have hs5:Sim Y.w Y.F (U1 Y Y8 (H8 D)) ac2 (ccZ e) cV aV:=hs4;exact Y6 M6 hk hF (G8n e) trivial (fun y v hd=>C8w hd) hs2 hD hFD hd rfl hs5
theorem D9j (la:List G1D) (lb:List G2D):FnD Tryz.prog 18 [.v (.c (.sl (.g1 la))),.v (.c (.sl (.g2 lb)))] (.t [.c (.bool (pcD la lb).1),.c (.int .i64 (pcD la lb).2)]) []:=by
 intro x vs hk hF hd;have key:∀va vb,FnD Tryz.prog 18 [.v (.c (.vsl va (.g1 la))),.v (.c (.vsl vb (.g2 lb)))] (.t [.c (.bool (pcD la lb).1),.c (.int .i64 (pcD la lb).2)]) []:=by
  intro va vb;by_cases h1:la.length=lb.length
  ·by_cases h2:la.length<=64
   ·exact F6z va vb la lb h1 h2
   ·have eR:pcD la lb=(false,2):=by
     unfold pcD;rw[if_neg (by omega),if_pos (by omega)]
    rw[eR];exact (A6 M6 Tryz.func18 (ccB va vb la lb) ⟨by rw[h1];simp,by simp;omega,trivial⟩).conv (fun _ _ h=>h) fun y v hd=>C8w hd
  ·have eR:pcD la lb=(false,3):=by
    unfold pcD;rw[if_pos h1]
   rw[eR];exact (A6 M6 Tryz.func18 (ccA va vb la lb) ⟨by simp;omega,trivial⟩).conv (fun _ _ h=>h) fun y v hd=>C8w hd
 cases hd with
 | cons h1 hd=>
  cases hd with
  | cons h2 hd=>
   cases hd with
   | nil=>exact key _ _ x _ hk hF (.cons ⟨rfl,E0k h1.2⟩ (.cons ⟨rfl,E0k h2.2⟩ .nil))
end

section

def z12:V12:=⟨⟨(0,0),(0,0),(0,0)⟩,⟨(0,0),(0,0),(0,0)⟩⟩
/-- What a pair makes, or how it is refused. -/
def A5g (a:G1D) (b:G2D):V12×Int:=if (I9 a b != 0)=true then (z12,I9 a b) else (A0s (M4 (A4r a b)),0)
theorem F6w (xa ya a b c d:U6) (i j:Bool):FnD Tryz.prog 8 [.v (.a [.ob (.fp xa),.ob (.fp ya),.bool i]),.v (.a [.ob (.fp a),.ob (.fp b),.ob (.fp c),.ob (.fp d),.bool j])] (.t [.a (A7c (A5g ⟨xa,ya,i⟩ ⟨a,b,c,d,j⟩).1),.c (.int .i64 (A5g ⟨xa,ya,i⟩ ⟨a,b,c,d,j⟩).2)]) []:=by
 cases h:(I9 ⟨xa,ya,i⟩ ⟨a,b,c,d,j⟩ != 0) with
 | true=>
  have e:A5g ⟨xa,ya,i⟩ ⟨a,b,c,d,j⟩=(z12,I9 ⟨xa,ya,i⟩ ⟨a,b,c,d,j⟩):=if_pos h;rw[e];exact A6 D1j Tryz.func8 (paA xa ya a b c d i j) ⟨h,trivial⟩
 | false=>
  have e:A5g ⟨xa,ya,i⟩ ⟨a,b,c,d,j⟩=(A0s (M4 (A4r ⟨xa,ya,i⟩ ⟨a,b,c,d,j⟩)),0):=if_neg (fun k=>by rw[h] at k;cases k)
  rw[e];exact A6 D1j Tryz.func8 (paB xa ya a b c d i j) ⟨h,trivial⟩
end

section
section
variable {w0:World} {F0:Nat->Prop} {K:Kp} {ac:List Act} {Q:Exit->Act->World->Prop} {cX:Ctx} {aX:Act}

def C2c:B7
 | [.v (.a [.ob (.fp xa),.ob (.fp ya),.bool i]),.v (.a [.ob (.fp a),.ob (.fp b),.ob (.fp c),.ob (.fp d),.bool j])]=>some ([],.t [.a (A7c (A5g ⟨xa,ya,i⟩ ⟨a,b,c,d,j⟩).1),.c (.int .i64 (A5g ⟨xa,ya,i⟩ ⟨a,b,c,d,j⟩).2)],[])
 | _=>none
def uyH:Env:=uyG.set (E1 uyG.fn 8 C2c)
theorem H5t:A8 Tryz.prog uyH:=B0 D1j 8 C2c (A5 Tryz.func8 rfl rfl) fun args o r es h _=>by
 unfold C2c at h;split at h
 ·cases h;exact F6w _ _ _ _ _ _ _ _
 ·cases h
def uyI:Env:=uyH.or (qvF.or rtM)
theorem Z7:A8 Tryz.prog uyI:=A8y H5t (A8y A2i A2k)
def uyJ:Env:=uyI
theorem H5u:A8 Tryz.prog uyJ:=Z7
def uyK:Env:=uyJ
theorem H5v:A8 Tryz.prog uyK:=H5u
theorem H8w  : B9 uyI Tryz.f38 3000 [] [] [] []=(some ([(0<=(1:Int)),((1:Int)<(18446744073709551616:Int)),(0<=(0:Int)),(0<(18446744073709551616:Int)),(0<=(0:Int)),(0<(18446744073709551616:Int)),(0<=(0:Int)),(0<(18446744073709551616:Int)),(0<=(0:Int)),(0<(18446744073709551616:Int)),(0<=(0:Int)),(0<(18446744073709551616:Int))],((.v (.a [(.ob (.fp (Fin.ofNat B6 1))),(.ob (.fp (0:U6))),(.ob (.fp (0:U6))),(.ob (.fp (0:U6))),(.ob (.fp (0:U6))),(.ob (.fp (0:U6))),(.ob (.fp (0:U6))),(.ob (.fp (0:U6))),(.ob (.fp (0:U6))),(.ob (.fp (0:U6))),(.ob (.fp (0:U6))),(.ob (.fp (0:U6)))])),[]))):=by kernel_rfl
theorem wnA (xa ya a b c d:U6) (i j:Bool):B9 uyI Tryz.f10 3000 [.v (.a [.ob (.fp xa),.ob (.fp ya),.bool i]),.v (.a [.ob (.fp a),.ob (.fp b),.ob (.fp c),.ob (.fp d),.bool j])] [true] [] []=(some ([((Bool.not (onG (G1D.mk xa ya i)))=true)],((.ii (30:Int)),[]))):=by kernel_rfl
theorem wnB (xa ya a b c d:U6) (i j:Bool):B9 uyI Tryz.f10 3000 [.v (.a [.ob (.fp xa),.ob (.fp ya),.bool i]),.v (.a [.ob (.fp a),.ob (.fp b),.ob (.fp c),.ob (.fp d),.bool j])] [false,true] [] []=(some ([((Bool.not (onG (G1D.mk xa ya i)))=false),((Bool.not (I6 (G2D.mk a b c d j)))=true)],((.ii (30:Int)),[]))):=by kernel_rfl
theorem wnC (xa ya a b c d:U6) (i j:Bool):let f:=G1D.mk xa ya i;B9 uyI Tryz.f10 3000 [.v (.a [.ob (.fp xa),.ob (.fp ya),.bool i]),.v (.a [.ob (.fp a),.ob (.fp b),.ob (.fp c),.ob (.fp d),.bool j])] [false,false,true] [] []=(some ([((Bool.not (onG f))=false),((Bool.not (I6 (G2D.mk a b c d j)))=false),((Bool.not (grp f))=true)],((.ii (31:Int)),[]))):=by intros;kernel_rfl
theorem wnD (xa ya a b c d:U6) (i j:Bool):let f:=G2D.mk a b c d j;let g:=G1D.mk xa ya i;B9 uyI Tryz.f10 3000 [.v (.a [.ob (.fp xa),.ob (.fp ya),.bool i]),.v (.a [.ob (.fp a),.ob (.fp b),.ob (.fp c),.ob (.fp d),.bool j])] [false,false,false,true] [] []=(some ([((Bool.not (onG g))=false),((Bool.not (I6 f))=false),((Bool.not (grp g))=false),((Bool.not (A2p f))=true)],((.ii (31:Int)),[]))):=by intros;kernel_rfl
theorem wnE (xa ya a b c d:U6) (i j:Bool):let f:=G2D.mk a b c d j;let g:=G1D.mk xa ya i;B9 uyI Tryz.f10 3000 [.v (.a [.ob (.fp xa),.ob (.fp ya),.bool i]),.v (.a [.ob (.fp a),.ob (.fp b),.ob (.fp c),.ob (.fp d),.bool j])] [false,false,false,false] [] []=(some ([((Bool.not (onG g))=false),((Bool.not (I6 f))=false),((Bool.not (grp g))=false),((Bool.not (A2p f))=false)],((.ii (0:Int)),[]))):=by intros;kernel_rfl
theorem F9l (xa ya a b c d:U6) (i j:Bool):FnD Tryz.prog 10 [.v (.a [.ob (.fp xa),.ob (.fp ya),.bool i]),.v (.a [.ob (.fp a),.ob (.fp b),.ob (.fp c),.ob (.fp d),.bool j])] (.v (.c (.int .i64 (I9 ⟨xa,ya,i⟩ ⟨a,b,c,d,j⟩)))) []:=by
 unfold I9
 cases h1:(!onG ⟨xa,ya,i⟩) with
 | true=>exact A6 Z7 Tryz.func10 (wnA xa ya a b c d i j) ⟨h1,trivial⟩
 | false=>
  cases h2:(!I6 ⟨a,b,c,d,j⟩) with
  | true=>exact A6 Z7 Tryz.func10 (wnB xa ya a b c d i j) ⟨h1,h2,trivial⟩
  | false=>
   cases h3:(!grp ⟨xa,ya,i⟩) with
   | true=>exact A6 Z7 Tryz.func10 (wnC xa ya a b c d i j) ⟨h1,h2,h3,trivial⟩
   | false=>
    cases h4:(!A2p ⟨a,b,c,d,j⟩) with
    | true=>exact A6 Z7 Tryz.func10 (wnD xa ya a b c d i j) ⟨h1,h2,h3,h4,trivial⟩
    | false=>exact A6 Z7 Tryz.func10 (wnE xa ya a b c d i j) ⟨h1,h2,h3,h4,trivial⟩
def C3j:B7
 | [.v (.a [.ob (.fp xa),.ob (.fp ya),.bool i]),.v (.a [.ob (.fp a),.ob (.fp b),.ob (.fp c),.ob (.fp d),.bool j])]=>some ([],.v (.c (.int .i64 (I9 ⟨xa,ya,i⟩ ⟨a,b,c,d,j⟩))),[])
 | _=>none
def uyL:Env:=uyK.set (E1 uyK.fn 10 C3j)
theorem H5w:A8 Tryz.prog uyL:=B0 H5v 10 C3j (A5 Tryz.func10 rfl rfl) fun args o r es h _=>by
 unfold C3j at h;split at h
 ·cases h;exact F9l _ _ _ _ _ _ _ _
 ·cases h
def D0d:List KI:=(run uyI false 3000 ((fun (x0 x1 x2 x3 x4 x5 x6 x7 x8 x9 x10 x11:U6) (e:U6)=>(⟨[.code (C5 Tryz.f45)],.normal,F9 Tryz.f45.ntmps [.v (.a [.ob (.fp x0),.ob (.fp x1),.ob (.fp x2),.ob (.fp x3),.ob (.fp x4),.ob (.fp x5),.ob (.fp x6),.ob (.fp x7),.ob (.fp x8),.ob (.fp x9),.ob (.fp x10),.ob (.fp x11)]),.v (.a [.ob (.fp e)])]⟩:Cfg)) default default default default default default default default default default default default default) []).cfg.k
theorem po (x0 x1 x2 x3 x4 x5 x6 x7 x8 x9 x10 x11:U6) (e:U6):let b:U6:=0;A9 []->Sg Tryz.prog (F9 Tryz.f45.ntmps [.v (.a [.ob (.fp x0),.ob (.fp x1),.ob (.fp x2),.ob (.fp x3),.ob (.fp x4),.ob (.fp x5),.ob (.fp x6),.ob (.fp x7),.ob (.fp x8),.ob (.fp x9),.ob (.fp x10),.ob (.fp x11)]),.v (.a [.ob (.fp e)])]) (B2 23 [4,5,6,12] [.pt 48 0,.pt 112 0,.pt 128 0,(.ci (.clo 123 [(192,0)]))] [32,48,112,128,192] [(eF_ [.ob (.fp e)]),(eF_ [(.ob (.fp b)),(.ob (.fp b)),(.ob (.fp b)),(.ob (.fp b)),(.ob (.fp b)),(.ob (.fp b)),(.ob (.fp b)),(.ob (.fp b)),(.ob (.fp b)),(.ob (.fp b)),(.ob (.fp b)),(.ob (.fp b))]),(eF_ (D5 (D8l (E2.mk (E3.mk (x0,x1) (x2,x3) (x4,x5)) (E3.mk (x6,x7) (x8,x9) (x10,x11)))))),(eF_ (D5 (1:F12))),(eF_ [(.slc 32 0 6 1)])] 256 [] []) .normal (D0d) ([.code (C5 Tryz.f45)]):=fun ho=>fun hs hK=>
 B1 (unroll:=false) (n:=3000) (path:=[]) (o:=⟨_,_,_,_,_,_,_⟩) Z7 (by kernel_rfl) (by kernel_rfl) ho hs hK
def poS (x:F12) (e:U6) (o:F12):St:=B2 23 [4,5,6,12] [.pt 48 0,.pt 112 0,.pt 128 0,(.ci (.clo 123 [(192,0)]))] [32,48,112,128,192] [some (.sq (.u64 (A0y e.val 6))),(eF_ [(.ob (.fp (0:U6))),(.ob (.fp (0:U6))),(.ob (.fp (0:U6))),(.ob (.fp (0:U6))),(.ob (.fp (0:U6))),(.ob (.fp (0:U6))),(.ob (.fp (0:U6))),(.ob (.fp (0:U6))),(.ob (.fp (0:U6))),(.ob (.fp (0:U6))),(.ob (.fp (0:U6))),(.ob (.fp (0:U6)))]),some (.fl (D5 x)),some (.fl (D5 o)),(eF_ [(.slc 32 0 6 1)])] 256 [] []
theorem poA (x:F12) (e:U6) (o:F12) (z:Bool) {ρ:Option Nat}:let a:U6:=0;let b:=Fin.val e;(A9 [])->(Sim w0 F0 K ac (X6 (poS x e o) [(13,.v (.c (.bool z)))]) cX aX)->(∀cY aY,Sim w0 F0 K ac (B2 23 [4,5,6,7] [.pt 48 0,.pt 112 0,.pt 128 0,(.ci (.bool z))] [32,48,112,128,192] [(eQ_ (.u64 [(A0 b 0),(A0 b 1),(A0 b 2),(A0 b 3),(A0 b 4),(A0 b 5)])),(eF_ [(.ob (.fp a)),(.ob (.fp a)),(.ob (.fp a)),(.ob (.fp a)),(.ob (.fp a)),(.ob (.fp a)),(.ob (.fp a)),(.ob (.fp a)),(.ob (.fp a)),(.ob (.fp a)),(.ob (.fp a)),(.ob (.fp a))]),(eF_ (D5 x)),(eF_ (D5 o)),(eF_ [(.slc 32 0 6 1)])] 272 [[4,5,6,12]] [([.pt 48 0,.pt 112 0,.pt 128 0,(.ci (.clo 123 [(192,0)]))],23)]) cY aY->Wq Tryz.prog Q ([]) ac Exit.normal aY cY.w ρ)->Wq Tryz.prog Q ([.code (rfA D0d)]) ac .normal aX cX.w ρ :=fun ho hs hK=>
 G4 (unroll:=false) (n:=3000) (path:=[]) (o:=⟨_,_,_,_,_,_,_⟩) Z7 (by kernel_rfl) (by kernel_rfl) ho (by kernel_rfl) (by kernel_rfl) hs hK
def poB (x:F12) (e:U6) (o:F12) (z:Bool):St:=B2 23 [4,5,6,7] [.pt 48 0,.pt 112 0,.pt 128 0,(.ci (.bool z))] [32,48,112,128,192] [some (.sq (.u64 (A0y e.val 6))),(eF_ [(.ob (.fp (0:U6))),(.ob (.fp (0:U6))),(.ob (.fp (0:U6))),(.ob (.fp (0:U6))),(.ob (.fp (0:U6))),(.ob (.fp (0:U6))),(.ob (.fp (0:U6))),(.ob (.fp (0:U6))),(.ob (.fp (0:U6))),(.ob (.fp (0:U6))),(.ob (.fp (0:U6))),(.ob (.fp (0:U6)))]),some (.fl (D5 x)),some (.fl (D5 o)),(eF_ [(.slc 32 0 6 1)])] 272 [[4,5,6,12]] [([.pt 48 0,.pt 112 0,.pt 128 0,(.ci (.clo 123 [(192,0)]))],23)]
theorem poC (x:F12) (e:U6) (o:F12) (z:Bool) {ρ:Option Nat}:let a:U6:=0;let b:=Fin.val e;(A9 [(z=true)])->(Sim w0 F0 K ac (poB x e o z) cX aX)->(∀cY aY,Sim w0 F0 K ac (B2 23 [4] [.pt 48 0] [32,48,112,128,192] [(eQ_ (.u64 [(A0 b 0),(A0 b 1),(A0 b 2),(A0 b 3),(A0 b 4),(A0 b 5)])),(eF_ [(.ob (.fp a)),(.ob (.fp a)),(.ob (.fp a)),(.ob (.fp a)),(.ob (.fp a)),(.ob (.fp a)),(.ob (.fp a)),(.ob (.fp a)),(.ob (.fp a)),(.ob (.fp a)),(.ob (.fp a)),(.ob (.fp a))]),(eF_ (D5 x)),(eF_ (D5 ((o*o)*x))),(eF_ [(.slc 32 0 6 1)])] 416 [[4,5,6,12]] [([.pt 48 0,.pt 112 0,.pt 128 0,(.ci (.clo 123 [(192,0)]))],23)]) cY aY->Wq Tryz.prog Q ([]) ac Exit.normal aY cY.w ρ)->Wq Tryz.prog Q ([.code (rfB D0d)]) ac .normal aX cX.w ρ :=fun ho hs hK=>
 G4 (unroll:=false) (n:=3000) (path:=[true]) (o:=⟨_,_,_,_,_,_,_⟩) Z7 (by kernel_rfl) (by kernel_rfl) ho (by kernel_rfl) (by kernel_rfl) hs hK
theorem poD (x:F12) (e:U6) (o:F12) (z:Bool) {ρ:Option Nat}:let a:U6:=0;let b:=Fin.val e;(A9 [(z=false)])->(Sim w0 F0 K ac (poB x e o z) cX aX)->(∀cY aY,Sim w0 F0 K ac (B2 23 [4] [.pt 48 0] [32,48,112,128,192] [(eQ_ (.u64 [(A0 b 0),(A0 b 1),(A0 b 2),(A0 b 3),(A0 b 4),(A0 b 5)])),(eF_ [(.ob (.fp a)),(.ob (.fp a)),(.ob (.fp a)),(.ob (.fp a)),(.ob (.fp a)),(.ob (.fp a)),(.ob (.fp a)),(.ob (.fp a)),(.ob (.fp a)),(.ob (.fp a)),(.ob (.fp a)),(.ob (.fp a))]),(eF_ (D5 x)),(eF_ (D5 (o*o))),(eF_ [(.slc 32 0 6 1)])] 352 [[4,5,6,12]] [([.pt 48 0,.pt 112 0,.pt 128 0,(.ci (.clo 123 [(192,0)]))],23)]) cY aY->Wq Tryz.prog Q ([]) ac Exit.normal aY cY.w ρ)->Wq Tryz.prog Q ([.code (rfB D0d)]) ac .normal aX cX.w ρ :=fun ho hs hK=>
 G4 (unroll:=false) (n:=3000) (path:=[false]) (o:=⟨_,_,_,_,_,_,_⟩) Z7 (by kernel_rfl) (by kernel_rfl) ho (by kernel_rfl) (by kernel_rfl) hs hK
theorem poX (x:F12) (e:U6) (o:F12) (ho:A9 []):Sg Tryz.prog (poS x e o) (B2 23 [4] [.pt 48 0] [48] [(eF_ (A7c (A0s o)))] 304 [] []) .ret ([]) (rfR D0d):=fun hs hK=>
 B1 (unroll:=false) (n:=3000) (path:=[]) (o:=⟨_,_,_,_,_,_,_⟩) Z7 (by kernel_rfl) (by kernel_rfl) ho hs hK
def poE (x:F12) (e:U6) (o:F12):St:=B2 23 [4] [.pt 48 0] [32,48,112,128,192] [some (.sq (.u64 (A0y e.val 6))),(eF_ [(.ob (.fp (0:U6))),(.ob (.fp (0:U6))),(.ob (.fp (0:U6))),(.ob (.fp (0:U6))),(.ob (.fp (0:U6))),(.ob (.fp (0:U6))),(.ob (.fp (0:U6))),(.ob (.fp (0:U6))),(.ob (.fp (0:U6))),(.ob (.fp (0:U6))),(.ob (.fp (0:U6))),(.ob (.fp (0:U6)))]),some (.fl (D5 x)),some (.fl (D5 o)),(eF_ [(.slc 32 0 6 1)])] 416 [[4,5,6,12]] [([.pt 48 0,.pt 112 0,.pt 128 0,(.ci (.clo 123 [(192,0)]))],23)]
def poZ (o:V12):St:=B2 23 [4] [.pt 48 0] [48] [some (.fl (A7c o))] 304 [] []
theorem G5c (o:V12):J7 uyI Tryz.f45 false 3000 (⟨[],.ret,poZ o⟩) [] [] []=(some ([],((.v (.a (A7c o))),[]))):=by kernel_rfl
end
end

section

/-- A power outside. -/
def D9m (x:V12) (e:U6):V12:=A0s (gpi (D8l x) (e.val:Int))
theorem E4c (e:U6):O9 (A0y e.val 6)=e.val:=F5t (k:=6) (Nat.lt_of_lt_of_eq e.isLt (by decide +kernel))
theorem F7f (X:V12) (e:U6) (hX:X=⟨⟨(X.a.a.1,X.a.a.2),(X.a.b.1,X.a.b.2),(X.a.c.1,X.a.c.2)⟩,⟨(X.b.a.1,X.b.a.2),(X.b.b.1,X.b.b.2),(X.b.c.1,X.b.c.2)⟩⟩):FnD Tryz.prog 45 [.v (.a (A7c X)),.v (.a [.ob (.fp e)])] (.v (.a (A7c (D9m X e)))) []:=by
 refine T9 (fn:=Tryz.f45) (c:=C5 Tryz.f45) Tryz.func45 rfl rfl fun Y b hk hF hs=>?_
 refine po _ _ _ _ _ _ _ _ _ _ _ _ e trivial hs fun ac cY aY hs1=>?_
 rw[<-hX] at hs1;unfold D9m;generalize D8l X=x at hs1 ⊢
 have hs2:=hs1.blocks (ens' := [some (.sq (.u64 (A0y e.val 6))),some (.fl [.ob (.fp 0),.ob (.fp 0),.ob (.fp 0),.ob (.fp 0),.ob (.fp 0),.ob (.fp 0),.ob (.fp 0),.ob (.fp 0),.ob (.fp 0),.ob (.fp 0),.ob (.fp 0),.ob (.fp 0)]),some (.fl (D5 x)),some (.fl (D5 1)),some (.fl [.slc 32 0 6 1])])
  ⟨.inr ⟨_,_,_,rfl,rfl,rfl,fun cs h=>H1j (.fp e) cs h⟩,.inl rfl,.inl rfl,.inl rfl,.inl rfl,trivial⟩
 obtain ⟨e1,e2⟩:=A2v (k:=D0d) (by kernel_rfl)
 rw[e1];have eP:(rfP D0d).toList=[13]:=by kernel_rfl
 have eG:rfG D0d = .tmp 12:=by kernel_rfl
 have hit:A8e Tryz.prog cY 123 [(192,0)] B6d (btL e.val (K7 (A0y e.val 6) 6) (K7 (A0y e.val 6) 6)) fun pre=>(poS x e (A7 x (pv pre))).m:=by
  have h:=A7f (x:=cY) (p:=192) (e:=A0y e.val 6) (M:=fun _=>fzM 192 (.u64 (A0y e.val 6))) (by rw[A2b];decide) (C5k _ _) (fun s=>rfl)
  rw[E4c,A2b] at h;exact h.freeze (len:=6) (es:=1) (pb:=32) (fun s=>rfl) (fun s=>rfl) (A2b _ _).symm
 refine Z6 (ps:=rfP D0d) e2 hs2 (gf:=123) (caps:=[(192,0)]) (A5 Tryz.func123 rfl rfl) (fun pre=>poS x e (A7 x (pv pre))) (fun s=>by rw[eG];rfl) ⟨_,rfl⟩ (btL e.val (K7 (A0y e.val 6) 6) (K7 (A0y e.val 6) 6)) C7f B6d
  (fun y z=>.cons ⟨rfl,0,rfl⟩ .nil) (fun z=>by rw[<-Array.length_toList,eP];rfl) (fun pre p hp=>?_) hit (fun pre z=>poB x e (A7 x (pv pre)) z)
  (fun pre z=>poE x e (A7 x (pv (pre++[z])))) (fun pre z=>⟨_,rfl⟩) (fun pre z hz w1 F1 K1 as1 Q1 l y b hs2 hQ=>?_) (fun pre z hz w1 F1 K1 as1 Q1 l y b hs2 hQ=>?_) fun D y hs2 hD hFD hd=>?_
 ·rw[eP] at hp
  have h23:(poS x e (A7 x (pv pre))).nt=23:=rfl;rw[h23];simp only[List.mem_cons,List.not_mem_nil,or_false] at hp;subst hp;decide
 ·rw[eP] at hs2
  exact poA x e _ z trivial hs2 fun cZ aZ hs3=>⟨hQ _ _ (hs3.nx _)⟩
 ·rw[D3f] at hQ
  cases z with
  | true=>exact poC x e _ true ⟨rfl,trivial⟩ hs2 fun cZ aZ hs3=>⟨hQ _ _ (hs3.nx _)⟩
  | false=>exact poD x e _ false ⟨rfl,trivial⟩ hs2 fun cZ aZ hs3=>⟨hQ _ _ (hs3.nx _)⟩
 ·have hs3:=hs2.marked rfl rfl D
  have hN:e.val<2 ^ K7 (A0y e.val 6) 6:=by
   have:=C9s (C5k e.val 6) (A0y e.val 6).length (Nat.le_refl _)
   rw[List.take_length,A2b,E4c] at this;exact this
  rw[B7u hN _ (Nat.le_refl _),Nat.sub_self,Nat.pow_zero,Nat.div_one] at hs2 hs3;rw[A1z,Int.toNat_natCast];generalize A7 x e.val=o at hs2 hs3 ⊢
  refine poX x e o trivial hs3 fun ac cV aV hs6=>⟨?_⟩
  have hs7:Sim y.w y.F (U1 y Y8 (H8 D)) ac (poZ (A0s o)) cV aV:=hs6;exact Y6 Z7 hk hF (G5c (A0s o)) trivial (fun y v hd=>hd) hs2 hD hFD hd rfl hs7
end

section

/-- 1 outside. -/
def E7g:V12:=⟨⟨(Fin.ofNat B6 1,0),(0,0),(0,0)⟩,⟨(0,0),(0,0),(0,0)⟩⟩
theorem F6f:FnD Tryz.prog 38 [] (.v (.a (A7c E7g))) []:=A6 Z7 Tryz.func38 H8w (by simp [A9])
def C1v:B7
 | []=>some ([],.v (.a (A7c E7g)),[])
 | _=>none
def uyM:Env:=uyL.set (E1 uyL.fn 38 C1v)
theorem H5x:A8 Tryz.prog uyM:=B0 H5w 38 C1v (A5 Tryz.func38 rfl rfl) fun args o r es h _=>by
 unfold C1v at h;split at h
 ·cases h;exact F6f
 ·cases h
theorem F7g (x0 x1 x2 x3 x4 x5 x6 x7 x8 x9 x10 x11 e:U6):FnD Tryz.prog 45 [.v (.a [.ob (.fp x0),.ob (.fp x1),.ob (.fp x2),.ob (.fp x3),.ob (.fp x4),.ob (.fp x5),.ob (.fp x6),.ob (.fp x7),.ob (.fp x8),.ob (.fp x9),.ob (.fp x10),.ob (.fp x11)]),.v (.a [.ob (.fp e)])] (.v (.a (A7c (D9m (⟨⟨(x0,x1),(x2,x3),(x4,x5)⟩,⟨(x6,x7),(x8,x9),(x10,x11)⟩⟩:V12) e)))) []:=F7f (⟨⟨(x0,x1),(x2,x3),(x4,x5)⟩,⟨(x6,x7),(x8,x9),(x10,x11)⟩⟩:V12) e rfl
def C2h:B7
 | [.v (.a [.ob (.fp x0),.ob (.fp x1),.ob (.fp x2),.ob (.fp x3),.ob (.fp x4),.ob (.fp x5),.ob (.fp x6),.ob (.fp x7),.ob (.fp x8),.ob (.fp x9),.ob (.fp x10),.ob (.fp x11)]),.v (.a [.ob (.fp e)])]=>some ([],.v (.a (A7c (D9m (⟨⟨(x0,x1),(x2,x3),(x4,x5)⟩,⟨(x6,x7),(x8,x9),(x10,x11)⟩⟩:V12) e))),[])
 | _=>none
def uyN:Env:=uyM.set (E1 uyM.fn 45 C2h)
theorem E0y:A8 Tryz.prog uyN:=B0 H5x 45 C2h (A5 Tryz.func45 rfl rfl) fun args o r es h _=>by
 unfold C2h at h;split at h
 ·cases h;exact F7g _ _ _ _ _ _ _ _ _ _ _ _ _
 ·cases h
/-- A number of four limbs, as one of six. -/
def upU (k:U4):U6:=Fin.ofNat B6 ((A0 k.val 0).toNat+18446744073709551616*((A0 k.val 1).toNat+18446744073709551616*((A0 k.val 2).toNat+18446744073709551616*((A0 k.val 3).toNat+0))))
theorem I2k (x0 x1 x2 x3 x4 x5 x6 x7 x8 x9 x10 x11:U6) (k:U4):B9 uyN Tryz.f13 3000 [.v (.a [.ob (.fp x0),.ob (.fp x1),.ob (.fp x2),.ob (.fp x3),.ob (.fp x4),.ob (.fp x5),.ob (.fp x6),.ob (.fp x7),.ob (.fp x8),.ob (.fp x9),.ob (.fp x10),.ob (.fp x11)]),.v (.a [.ob (.fr k)])] [] [] []=some ([(0:Int)<=0,(0:Int)<4,0<Ob.k (.fr k),(0:Int)<=1,(1:Int)<4,1<Ob.k (.fr k),(0:Int)<=2,(2:Int)<4,2<Ob.k (.fr k),(0:Int)<=3,(3:Int)<4,3<Ob.k (.fr k),
  0<=A0 k.val 0,A0 k.val 0<18446744073709551616,0<=A0 k.val 1,A0 k.val 1<18446744073709551616,0<=A0 k.val 2,A0 k.val 2<18446744073709551616,0<=A0 k.val 3,A0 k.val 3<18446744073709551616,(0:Int)<=0,(0:Int)<18446744073709551616,(0:Int)<=0,(0:Int)<18446744073709551616],
  .v (.a (A7c (D9m (⟨⟨(x0,x1),(x2,x3),(x4,x5)⟩,⟨(x6,x7),(x8,x9),(x10,x11)⟩⟩:V12) (upU k)))),[]):=by kernel_rfl
theorem G5h (x0 x1 x2 x3 x4 x5 x6 x7 x8 x9 x10 x11:U6) (k:U4):FnD Tryz.prog 13 [.v (.a [.ob (.fp x0),.ob (.fp x1),.ob (.fp x2),.ob (.fp x3),.ob (.fp x4),.ob (.fp x5),.ob (.fp x6),.ob (.fp x7),.ob (.fp x8),.ob (.fp x9),.ob (.fp x10),.ob (.fp x11)]),.v (.a [.ob (.fr k)])] (.v (.a (A7c (D9m (⟨⟨(x0,x1),(x2,x3),(x4,x5)⟩,⟨(x6,x7),(x8,x9),(x10,x11)⟩⟩:V12) (upU k))))) []:=
 A6 E0y Tryz.func13 (I2k x0 x1 x2 x3 x4 x5 x6 x7 x8 x9 x10 x11 k) ⟨by decide,by decide,by show 0<4;decide,by decide,by decide,by show 1<4;decide,by decide,by decide,by show 2<4;decide,by decide,by decide,by show 3<4;decide,
  (C0 _ _).1,(C0 _ _).2,(C0 _ _).1,(C0 _ _).2,(C0 _ _).1,(C0 _ _).2,(C0 _ _).1,(C0 _ _).2,by decide,by decide,by decide,by decide,trivial⟩
def D0k:B7
 | [.v (.a [.ob (.fp x0),.ob (.fp x1),.ob (.fp x2),.ob (.fp x3),.ob (.fp x4),.ob (.fp x5),.ob (.fp x6),.ob (.fp x7),.ob (.fp x8),.ob (.fp x9),.ob (.fp x10),.ob (.fp x11)]),.v (.a [.ob (.fr k)])]=>some ([],.v (.a (A7c (D9m (⟨⟨(x0,x1),(x2,x3),(x4,x5)⟩,⟨(x6,x7),(x8,x9),(x10,x11)⟩⟩:V12) (upU k)))),[])
 | _=>none
def uyO:Env:=uyN.set (E1 uyN.fn 13 D0k)
theorem H5y:A8 Tryz.prog uyO:=B0 E0y 13 D0k (A5 Tryz.func13 rfl rfl) fun args o r es h _=>by
 unfold D0k at h;split at h
 ·cases h;exact G5h _ _ _ _ _ _ _ _ _ _ _ _ _
 ·cases h
/-- Whether elements are alike, as the program looks. -/
def eqV (x y:V12):Bool:=decide (x.a.a.1=y.a.a.1) && (decide (x.a.a.2=y.a.a.2) && (decide (x.a.b.1=y.a.b.1) && (decide (x.a.b.2=y.a.b.2) && (decide (x.a.c.1=y.a.c.1) && (decide (x.a.c.2=y.a.c.2) && (decide (x.b.a.1=y.b.a.1) && (decide (x.b.a.2=y.b.a.2) && (decide (x.b.b.1=y.b.b.1) && (decide (x.b.b.2=y.b.b.2) && (decide (x.b.c.1=y.b.c.1) && decide (x.b.c.2=y.b.c.2)))))))))))
theorem G9f {x y:V12}:eqV x y=true↔x=y:=by
 constructor
 ·intro h
  simp only[eqV,Bool.and_eq_true,decide_eq_true_eq] at h;obtain ⟨h1,h2,h3,h4,h5,h6,h7,h8,h9,h10,h11,h12⟩:=h;exact E2.ext' (E3.ext' (Prod.ext h1 h2) (Prod.ext h3 h4) (Prod.ext h5 h6)) (E3.ext' (Prod.ext h7 h8) (Prod.ext h9 h10) (Prod.ext h11 h12))
 ·rintro rfl
  simp [eqV]
def neV (x y:V12):Bool:=if false=true then eqV x y else !eqV x y
theorem I0j:B9 uyN Tryz.f9 3000 [] [true,true] [] []=some ([((0:Int) == 0)=true,neV (A5g A1y P4).1 z12=true],.v (.c (.bool (neV (A5g A1y P4).1 E7g))),[]):=by kernel_rfl
end

section

theorem F2q {P:Pt Fp} (hP:OnC fp4 P):grp (gP P)=decide (G7 P rN=none):=by
 unfold grp;rw[B5a hP,Bool.true_and];have h:=D3r cv1 hP (D5e P ▸ C0n (gP P)) (dgT 52435875175126190479447740508185965837690552500527637822603658699938581184513 64);rw[E1y] at h;generalize (dgT 52435875175126190479447740508185965837690552500527637822603658699938581184513 64)=t at h ⊢
 exact h

end

section

theorem E2u {P:Pt F2} (hP:OnC fq4 P):A2p (gP2 P)=decide (G7 P rN=none):=by
 unfold A2p;rw[B7p hP,Bool.true_and];have h:=D3r cv2 hP (D0a P ▸ B1v (gP2 P)) (dgT 52435875175126190479447740508185965837690552500527637822603658699938581184513 64);rw[E1y] at h;generalize (dgT 52435875175126190479447740508185965837690552500527637822603658699938581184513 64)=t at h ⊢
 exact h

end

section

theorem E3u:nQ2 ((1,1):F2)=Fin.ofNat pN 2:=by decide +kernel
theorem D1k:(Fin.ofNat pN 2).val=2:=by decide +kernel
theorem F7i:A4c pN 2 384 ((pN-1) / 3)≠1:=by decide +kernel
theorem F7h:A4c pN 2 384 ((pN-1) / 2)≠1:=by decide +kernel
theorem E1a (x:F2):x*x*x≠Nrs.xi:=by
 intro h;have h:x*x*x=(1,1):=h;have h:=congrArg nQ2 h;rw[E3u,B2p,B2p] at h;refine C7l _ (fun e=>?_) (fun e=>?_) (nQ2 x) h
 ·have:=congrArg Fin.val e
  rw[X5 _ 384 _ C3c,D1k,A4d] at this;exact F7i this
 ·have:=congrArg Fin.val e
  rw[D1k] at this;revert this
  decide +kernel
theorem C4c (x:Fp):x*x≠Fin.ofNat pN 2:=by
 intro h;by_cases hx:x=0
 ·rw[hx] at h
  exact absurd (congrArg Fin.val h) (by decide +kernel)
 ·have e:=E0u x ((pN-1) / 2)
  rw[<-D3j,A5w x hx,h] at e;have:=congrArg Fin.val e
  rw[X5 _ 384 _ E2z,D1k,A4d] at this;exact F7h this
section
variable {R:Type} [Fld R] [Nrs R]
theorem E7c (x y:E3 R):A1h (x*y)=A1h x*A1h y:=by
 unfold A1h A0l;simp only[E3.mul_a,E3.mul_b,E3.mul_c];generalize x.a=a;generalize x.b=b;generalize x.c=c;generalize y.a=d;generalize y.b=e;generalize y.c=f;grind
end
theorem H7 (t:F6):t*t≠Nrs.xi:=by
 intro h;have h:=congrArg A1h h;rw[E7c] at h;have e:A1h (Nrs.xi:F6)=(1,1):=by decide +kernel
 rw[e] at h;have h:=congrArg nQ2 h;rw[E3u,B2p] at h;exact C4c _ h
@[reducible] instance fldF6:Fld F6:=H7j E1a
@[reducible] instance fldF12:Fld F12:=H7i H7
end

section

section
variable {G:Type} [J9 G]
theorem A3v (x y:G):∀n,A7 (x*y) n=A7 x n*A7 y n
 | 0=>by show (1:G)=1*1;grind
 | n+1=>by
  show A7 (x*y) n*(x*y)=A7 x n*x*(A7 y n*y);rw[A3v x y n];grind
theorem O4 (x:G) (m:Nat):∀n,A7 x (m*n)=A7 (A7 x m) n
 | 0=>rfl
 | n+1=>by
  rw[Nat.mul_succ,S1,O4 x m n];rfl
def gst (a o:G) (z:Bool):G:=if z=true then o*o*a else o*o
theorem C8f (a:G):∀(l:List Bool) (n:Nat),l.foldl (gst a) (A7 a n)=A7 a (l.foldl nst n)
 | [],_=>rfl
 | z::l,n=>by
  show l.foldl (gst a) (gst a (A7 a n) z)=A7 a (l.foldl nst (nst n z));rw[<-C8f a l (nst n z)];congr 1
  cases z with
  | true=>
   show A7 a n*A7 a n*a=A7 a (n+n)*a;rw[S1]
  | false=>
   show A7 a n*A7 a n=A7 a (n+n);rw[S1]
end

theorem C1j:∀k:Nat,(nc k:F12)=⟨⟨(Fin.ofNat pN k,0),0,0⟩,0⟩
 | 0=>rfl
 | k+1=>by
  show nc k+1=_;rw[C1j k,C1s,I1v];refine E2.ext' (E3.ext' (G0 rfl ?_) ?_ ?_) ?_
  ·show (0:Fp)+0=0;rfl
  ·show (0:F2)+0=0;rfl
  ·show (0:F2)+0=0;rfl
  ·show (0:F6)+0=0;rfl
theorem H1k:Fin.ofNat pN pN=0:=by decide +kernel
theorem F0v (p:Nat) (hp:1<=p) (h0:(nc p:F12)=0) (h1:∀k,0<k->k<p->(nc k:F12)≠0) (x y:F12):A7 (x+y) p=A7 x p+A7 y p:=H7b (G:=F12) hp h0 h1 x y
theorem E2c (x y:F12):A7 (x+y) pN=A7 x pN+A7 y pN:=by
 refine F0v pN (by decide +kernel) ?_ (fun k h1 h2 h=>?_) x y
 ·rw[C1j,H1k];rfl
 ·rw[C1j] at h
  have h:(⟨⟨(Fin.ofNat pN k,0),0,0⟩,0⟩:F12).a.a.1.val=(0:F12).a.a.1.val:=by rw[h]
  have h3:k % pN=0:=h;exact absurd ((Nat.mod_eq_of_lt h2).symm.trans h3) (Nat.ne_of_gt h1)
theorem H6d:A7 ((1,1):F2) ((pN-1) / 6)=tur 1:=by
 have h:=C8f ((1,1):F2) (btL ((pN-1) / 6) 384 384) 0;have e:(btL ((pN-1) / 6) 384 384).foldl nst 0=(pN-1) / 6:=by decide +kernel
 rw[e] at h;rw[<-h];decide +kernel
end

set_option linter.unusedSimpArgs false
set_option linter.unusedSectionVars false
section

def i2 (z:F2):F12:=⟨⟨z,0,0⟩,0⟩
def eV:F12:=⟨⟨0,1,0⟩,0⟩
def eW:F12:=⟨0,1⟩
section
variable {R:Type} [J9 R] [Nrs R]
theorem F0y (x y:R):(⟨x,0,0⟩:E3 R)*⟨y,0,0⟩=⟨x*y,0,0⟩:=by
 refine E3.ext' ?_ ?_ ?_
 all_goals
  simp only[E3.mul_a,E3.mul_b,E3.mul_c]<;>grind
theorem F0z (x y:R):(⟨x,0,0⟩:E3 R)+⟨y,0,0⟩=⟨x+y,0,0⟩:=by
 refine E3.ext' ?_ ?_ ?_
 all_goals
  simp only[E3.add_a,E3.add_b,E3.add_c]<;>grind
theorem C7r (x y:R):(⟨x,0⟩:E2 R)*⟨y,0⟩=⟨x*y,0⟩:=by
 refine E2.ext' ?_ ?_
 all_goals
  simp only[E2.mul_a,E2.mul_b]<;>grind
theorem D7z (x y:R):(⟨x,0⟩:E2 R)+⟨y,0⟩=⟨x+y,0⟩:=by
 refine E2.ext' ?_ ?_
 all_goals
  simp only[E2.add_a,E2.add_b]<;>grind
theorem G8z (x:E2 R):x=(⟨x.a,0⟩:E2 R)+⟨x.b,0⟩*⟨0,1⟩:=by
 refine E2.ext' ?_ ?_
 all_goals
  simp only[E2.add_a,E2.add_b,E2.mul_a,E2.mul_b]<;>grind
theorem G9a (x:E3 R):x=(⟨x.a,0,0⟩:E3 R)+⟨x.b,0,0⟩*⟨0,1,0⟩+⟨x.c,0,0⟩*(⟨0,1,0⟩*⟨0,1,0⟩):=by
 refine E3.ext' ?_ ?_ ?_
 all_goals
  simp only[E3.add_a,E3.add_b,E3.add_c,E3.mul_a,E3.mul_b,E3.mul_c]<;>grind
end
theorem F2u (x y:F2):i2 (x+y)=i2 x+i2 y:=by
 unfold i2;rw[D7z,F0z]
theorem C0k (x y:F2):i2 (x*y)=i2 x*i2 y:=by
 unfold i2;rw[C7r,F0y]
theorem A9b (x:F2):∀n,A7 (i2 x) n=i2 (A7 x n)
 | 0=>rfl
 | n+1=>by
  show A7 (i2 x) n*i2 x=i2 (A7 x n*x);rw[A9b x n,C0k]
theorem up6 (x:F6):(⟨x,0⟩:F12)=i2 x.a+i2 x.b*eV+i2 x.c*(eV*eV):=by
 unfold i2 eV;rw[C7r,C7r,C7r,D7z,D7z,<-G9a]
theorem G7e (x:F12):x=(i2 x.a.a+i2 x.a.b*eV+i2 x.a.c*(eV*eV))+(i2 x.b.a+i2 x.b.b*eV+i2 x.b.c*(eV*eV))*eW:=by
 rw[<-up6,<-up6];exact G8z x
theorem H7k (p:Nat) (dr:∀x y:F12,A7 (x+y) p=A7 x p+A7 y p) (h2:∀z:F2,A7 z p=cj2 z) (hV:A7 eV p=i2 (tur 2)*eV) (hW:A7 eW p=i2 (tur 1)*eW) (t4:tur 2*tur 2=tur 4) (t3:tur 2*tur 1=tur 3) (t5:tur 4*tur 1=tur 5) (x:F12):A7 x p=frb x:=by
 have e:=G7e x;have e2:=G7e (frb x);rw[e2];show A7 x p=(i2 (cj2 x.a.a)+i2 (cj2 x.a.b*tur 2)*eV+i2 (cj2 x.a.c*tur 4)*(eV*eV))+(i2 (cj2 x.b.a*tur 1)+i2 (cj2 x.b.b*tur 3)*eV+i2 (cj2 x.b.c*tur 5)*(eV*eV))*eW;rw[<-t4,<-t3,<-t5,<-t4];have k:A7 x p=A7 ((i2 x.a.a+i2 x.a.b*eV+i2 x.a.c*(eV*eV))+(i2 x.b.a+i2 x.b.b*eV+i2 x.b.c*(eV*eV))*eW) p:=congrArg (fun y=>A7 y p) e
 rw[k];simp only[dr,A3v,A9b,h2,hV,hW,C0k];generalize i2 (cj2 x.a.a)=a1;generalize i2 (cj2 x.a.b)=a2;generalize i2 (cj2 x.a.c)=a3;generalize i2 (cj2 x.b.a)=a4;generalize i2 (cj2 x.b.b)=a5;generalize i2 (cj2 x.b.c)=a6;generalize i2 (tur 1)=s;generalize i2 (tur 2)=t;generalize eV=v;generalize eW=w;clear e e2 k dr h2 hV hW t4 t3 t5;grind
theorem G6v:tur 2*tur 2=tur 4:=by decide +kernel
theorem G6u:tur 2*tur 1=tur 3:=by decide +kernel
theorem G6w:tur 4*tur 1=tur 5:=by decide +kernel
theorem G6t:tur 1*tur 1=tur 2:=by decide +kernel
theorem G7i:eW*eW=eV:=by decide +kernel
theorem H7d:eV*eV*eV=i2 (1,1):=by decide +kernel
section
variable {r:Nat} [NeZero r]
theorem H2b (a:Fin r):∀n,A7 ((a,0):Q2 r) n=(pw a n,0)
 | 0=>rfl
 | n+1=>by
  show A7 ((a,0):Q2 r) n*(a,0)=(pw a n*a,0);rw[H2b a n];exact G0 (by show pw a n*a-0*0=pw a n*a;grind) (by show pw a n*0+0*a=0;grind)
theorem H6x (x:Q2 r):x=(x.1,0)+(x.2,0)*(0,1):=G0 (by show x.1=x.1+(x.2*0-0*1);grind) (by show x.2=0+(x.2*1+0*0);grind)
theorem I0m (x:Q2 r):(x.1,0)+(x.2,0)*(0,0-1)=(x.1,0-x.2):=G0 (by show x.1+(x.2*0-0*(0-1))=x.1;grind) (by show 0+(x.2*(0-1)+0*0)=0-x.2;grind)
end
theorem E7t:∀n,pw (0:Fp) (n+1)=0:=fun n=>by show pw (0:Fp) n*0=0;grind
theorem B9w (a:Fp):pw a pN=a:=by
 have e:pN=pN-1+1:=by decide +kernel
 refine (congrArg (pw a) e).trans ?_
 by_cases h:a=0
 ·rw[h];exact E7t _
 ·show pw a (pN-1)*a=a
  rw[A5w a h];grind
theorem H9x:A7 ((0,1):F2) pN=(0,0-1):=by
 have h:=C8f ((0,1):F2) (btL pN 384 384) 0;have e:(btL pN 384 384).foldl nst 0=pN:=by decide +kernel
 rw[e] at h;refine h.symm.trans ?_
 decide +kernel
theorem G0l (z:F2):A7 z pN=cj2 z:=by
 have h:i2 (A7 z pN)=i2 (cj2 z):=by
  rw[<-A9b];have e:i2 z=i2 (z.1,0)+i2 (z.2,0)*i2 (0,1):=by rw[<-C0k,<-F2u];exact congrArg i2 (H6x z)
  have k:A7 (i2 z) pN=A7 (i2 (z.1,0)+i2 (z.2,0)*i2 (0,1)) pN:=congrArg (fun y=>A7 y pN) e
  refine k.trans ((E2c _ _).trans ?_)
  rw[A3v,A9b,A9b,A9b,H2b,H2b,H9x,B9w,B9w,<-C0k,<-F2u];exact congrArg i2 (I0m z)
 exact congrArg (fun x:F12=>x.a.a) h
theorem H9o:pN=6*((pN-1) / 6)+1:=by decide +kernel
section
variable {G:Type} [J9 G]
theorem F2n (g:G):A7 g 6=g*g*(g*g)*(g*g):=by
 show 1*g*g*g*g*g*g=_;grind
theorem C0h (g:G):A7 g 1=g:=by
 show 1*g=g;grind
end
theorem G9c:A7 eW 6=i2 (1,1):=by rw[F2n,G7i,H7d]
theorem F1a:A7 eW pN=i2 (tur 1)*eW:=by
 refine (congrArg (A7 eW) H9o).trans ?_
 rw[S1,O4,G9c,A9b,H6d,C0h]
theorem G9b:A7 eV pN=i2 (tur 2)*eV:=by
 rw[<-G7i,A3v,F1a,<-G6t,C0k];generalize i2 (tur 1)=t;generalize eW=w;grind
/-- Frob is the power of p. -/
theorem A0x (x:F12):A7 x pN=frb x:=H7k pN E2c G0l G9b F1a G6v G6u G6w x
end

set_option linter.unusedSectionVars false
section

theorem A0u (x:F12):cjp x=cj x:=by
 refine E2.ext' rfl ?_
 show (0:F6)-x.b = -x.b;generalize x.b=b;grind
theorem A4l (x y:F12):cjp (x*y)=cjp x*cjp y:=by rw[A0u,A0u,A0u];exact B8v x y
theorem E1q (x:F12):cjp (cjp x)=x:=by rw[A0u,A0u];exact F0c x
theorem A7g:cjp 1=1:=by rw[A0u];exact F0d
theorem A7m (x y:F12):frb (x*y)=frb x*frb y:=by rw[<-A0x,<-A0x,<-A0x,A3v]
section
variable {r:Nat} [NeZero r]
theorem G8p (z t:Q2 r):((((z.1,0-z.2):Q2 r)*t).1,0-(((z.1,0-z.2):Q2 r)*t).2)*t=z*((t.1,0-t.2)*t):=by
 refine G0 ?_ ?_
 ·simp only[C3y,C3z];grind
 ·simp only[C3y,C3z];grind
theorem F0f (z:Q2 r):((z.1,0-(0-z.2)):Q2 r)=z:=G0 rfl (by show 0-(0-z.2)=z.2;grind)
theorem C1h (z:Q2 r):z*(1,0)=z:=G0 (by show z.1*1-z.2*0=z.1;grind) (by show z.1*0+z.2*1=z.2;grind)
theorem A9o (z:Q2 r):z*(0-1,0)=0-z:=G0 (by show z.1*(0-1)-z.2*0=0-z.1;grind) (by show z.1*0+z.2*(0-1)=0-z.2;grind)
theorem A5m (z a:Q2 r):z*a*a*a=z*(a*a*a):=by grind
end
def frT (t1 t2 t3 t4 t5:F2) (x:F12):F12:=⟨⟨cj2 x.a.a,cj2 x.a.b*t2,cj2 x.a.c*t4⟩,⟨cj2 x.b.a*t1,cj2 x.b.b*t3,cj2 x.b.c*t5⟩⟩
def frS (t1 t2 t3 t4 t5:F2) (x:F12):F12:=⟨⟨x.a.a,x.a.b*t2,x.a.c*t4⟩,⟨x.b.a*t1,x.b.b*t3,x.b.c*t5⟩⟩
theorem D6n (z t:F2):cj2 (cj2 z*t)*t=z*(cj2 t*t):=G8p z t
theorem G2b (t1 t2 t3 t4 t5:F2) (x:F12):frT t1 t2 t3 t4 t5 (frT t1 t2 t3 t4 t5 x)=frS (cj2 t1*t1) (cj2 t2*t2) (cj2 t3*t3) (cj2 t4*t4) (cj2 t5*t5) x:=by
 refine E2.ext' (E3.ext' ?_ ?_ ?_) (E3.ext' ?_ ?_ ?_)
 ·exact F0f x.a.a
 ·exact D6n x.a.b t2
 ·exact D6n x.a.c t4
 ·exact D6n x.b.a t1
 ·exact D6n x.b.b t3
 ·exact D6n x.b.c t5
theorem E6e {t1 t2 t3 t4 t5:F2} (h1:t1*t1*t1=(0-1,0)) (h2:t2*t2*t2=(1,0)) (h3:t3*t3*t3=(0-1,0)) (h4:t4*t4*t4=(1,0)) (h5:t5*t5*t5=(0-1,0)) (x:F12):frS t1 t2 t3 t4 t5 (frS t1 t2 t3 t4 t5 (frS t1 t2 t3 t4 t5 x))=cjp x:=by
 refine E2.ext' (E3.ext' rfl ?_ ?_) (E3.ext' ?_ ?_ ?_)
 ·show x.a.b*t2*t2*t2=x.a.b
  rw[A5m,h2,C1h]
 ·show x.a.c*t4*t4*t4=x.a.c
  rw[A5m,h4,C1h]
 ·show x.b.a*t1*t1*t1=0-x.b.a
  rw[A5m,h1,A9o]
 ·show x.b.b*t3*t3*t3=0-x.b.b
  rw[A5m,h3,A9o]
 ·show x.b.c*t5*t5*t5=0-x.b.c
  rw[A5m,h5,A9o]
def tn (i:Int):F2:=cj2 (tur i)*tur i
theorem C8c (x:F12):frb (frb x)=frS (tn 1) (tn 2) (tn 3) (tn 4) (tn 5) x:=G2b (tur 1) (tur 2) (tur 3) (tur 4) (tur 5) x
theorem tn2:tn 2*tn 2*tn 2=(1,0):=by decide +kernel
theorem tn4:tn 4*tn 4*tn 4=(1,0):=by decide +kernel
theorem tn1:tn 1*tn 1*tn 1=(0-1,0):=by decide +kernel
theorem tn3:tn 3*tn 3*tn 3=(0-1,0):=by decide +kernel
theorem tn5:tn 5*tn 5*tn 5=(0-1,0):=by decide +kernel
section
variable {G:Type} [J9 G]
theorem G5e (e:G) (p:Nat):A7 e (p ^ 6+1)=A7 (A7 (A7 (A7 (A7 (A7 e p) p) p) p) p) p*e:=by
 have h:p ^ 6=p*p*p*p*p*p:=by rw[Nat.pow_succ,Nat.pow_succ,Nat.pow_succ,Nat.pow_succ,Nat.pow_succ,Nat.pow_one]
 rw[h,S1,C0h,O4,O4,O4,O4,O4]
end
theorem F9g {e:F12} (he:e*cjp e=1):A7 e (pN ^ 6+1)=1:=by
 rw[G5e,A0x,A0x,A0x,A0x,A0x,A0x,C8c,C8c,C8c,E6e tn1 tn2 tn3 tn4 tn5];refine Eq.trans ?_ he
 generalize cjp e=c;grind
end

set_option linter.unusedSectionVars false
section

theorem G2r (y:F6):Fld.inv y=B1x y:=rfl
section
variable {R:Type} [J9 R]
theorem H1a (y:R):0-y = -y:=by grind
end
theorem H0i (x:F12):ivp x=A3z x:=by
 unfold A3z C1p;rw[G2r];unfold ivp;generalize B1x (x.a*x.a-Nrs.xi*(x.b*x.b))=n;rw[H1a]
theorem G1h (f:F12):cjp f*ivp f=et f:=by rw[A0u,H0i];rfl
def A2n (e:F12):F12:=D2v (frb (frb e)*e)
theorem A3u (f:F12):M4 f=A2n (et f):=by
 rw[<-G1h];rfl
theorem B1p (x y:F12) (n:Int):gpi (x*y) n=gpi x n*gpi y n:=by rw[A1z,A1z,A1z,A3v]
theorem F1r (x y:F12):A3h (x*y)=A3h x*A3h y:=by unfold A3h;rw[B1p,B1p]
theorem F1t (x y:F12):A2o (x*y)=A2o x*A2o y:=by
 unfold A2o;rw[B1p,A4l,A7m];generalize cjp (gpi x 15132376222941642752)=a;generalize cjp (gpi y 15132376222941642752)=b;generalize frb x=c;generalize frb y=d;grind
theorem F1s (x y:F12):B6x (x*y)=B6x x*B6x y:=by unfold B6x;rw[B1p,B1p]
theorem F1p (x y:F12):D2v (x*y)=D2v x*D2v y:=by
 unfold D2v;rw[F1r,F1t,F1s,A4l,A7m,A7m];generalize B6x (A2o (A3h x))=a1;generalize B6x (A2o (A3h y))=a2;generalize frb (frb (A2o (A3h x)))=b1;generalize frb (frb (A2o (A3h y)))=b2;generalize cjp (A2o (A3h x))=c1;generalize cjp (A2o (A3h y))=c2;grind
theorem B9z (x y:F12):A2n (x*y)=A2n x*A2n y:=by
 unfold A2n;have e:frb (frb (x*y))*(x*y)=frb (frb x)*x*(frb (frb y)*y):=by
  rw[A7m,A7m];generalize frb (frb x)=a;generalize frb (frb y)=b;grind
 rw[e,F1p]
end

section

theorem G7s:(15132376222941642752:Int).toNat=15132376222941642752:=by decide +kernel
theorem H8u:(15132376222941642753:Int).toNat=15132376222941642753:=by decide +kernel
theorem H8v:(5044125407647214251:Int).toNat=5044125407647214251:=by decide +kernel
theorem H1h:(pN ^ 2+1)*(15132376222941642752+pN)*(15132376222941642753*5044125407647214251)*(pN*(15132376222941642752*15132376222941642752)+pN*(pN*pN)+15132376222941642752)+(pN ^ 2+1)*(15132376222941642752+pN)=(pN ^ 2+1)*(15132376222941642752+pN)*(15132376222941642753*5044125407647214251)*(pN+15132376222941642752*(15132376222941642752*15132376222941642752)+15132376222941642752*(pN*pN))+(pN ^ 6+1)*(15132376222941642753*5044125407647214251):=by decide +kernel
section
variable {G:Type} [J9 G]
theorem G6d (e:G) (p L:Nat):A7 (A7 (A7 e L*A7 e p) p) p*(A7 e L*A7 e p)=A7 e ((p ^ 2+1)*(L+p)):=by
 have h:(L+p)*(p*p)+(L+p)=(p ^ 2+1)*(L+p):=by rw[Nat.pow_two,Nat.mul_comm (p*p+1),Nat.mul_add,Nat.mul_one]
 rw[<-S1,<-O4,<-O4,<-S1,h]
end
theorem G1z {e:F12} (he:e*cjp e=1) (p L A B:Nat) (fr:∀x,frb x=A7 x p) (h6:A7 e (p ^ 6+1)=1)
  (num:(p ^ 2+1)*(L+p)*(A*B)*(p*(L*L)+p*(p*p)+L)+(p ^ 2+1)*(L+p)=(p ^ 2+1)*(L+p)*(A*B)*(p+L*(L*L)+L*(p*p))+(p ^ 6+1)*(A*B))
  (hG:∀x,A3h x=A7 (A7 x A) B) (hK:∀g,A2o g=cjp (A7 g L)*frb g) (hH:∀k,B6x k=A7 (A7 k L) L):A2n (A7 e L*frb e)=1:=by
 have ha:=G6d e p L;unfold A2n D2v;rw[fr e,fr (A7 e L*A7 e p),fr (A7 (A7 e L*A7 e p) p),ha,hH,fr (A2o _),fr (A7 (A2o _) p)];exact G1y A4l E1q A7g he h6 num rfl ((hG _).trans (O4 _ A B).symm) ((hK _).trans (by rw[fr]))
theorem F1q {e:F12} (he:e*cjp e=1):A2n (A7 e 15132376222941642752*frb e)=1:=
 G1z he pN 15132376222941642752 15132376222941642753 5044125407647214251 (fun x=>(A0x x).symm) (F9g he) H1h
  (fun x=>by unfold A3h;rw[A1z,A1z,H8u,H8v]) (fun g=>by unfold A2o;rw[A1z,G7s]) (fun k=>by unfold B6x;rw[A1z,A1z,G7s])
end

set_option linter.unusedSectionVars false
section

def gm:F2:=(Fin.ofNat pN 877076961050607968509681729531255177986764537961432449499635504522207616027455086505066378536590128544573588734230,Fin.ofNat pN 877076961050607968509681729531255177986764537961432449499635504522207616027455086505066378536590128544573588734230)
def f0E (x:Fp):F6:=upE ((x,0):F2)
section
variable {r:Nat} [NeZero r]
theorem H0n (x y:Fin r):((x+y,0):Q2 r)=(x,0)+(y,0):=G0 rfl (by show 0=(0:Fin r)+0;grind)
theorem H0q (x y:Fin r):((x-y,0):Q2 r)=(x,0)-(y,0):=G0 rfl (by show 0=(0:Fin r)-0;grind)
theorem H0o (x y:Fin r):((x*y,0):Q2 r)=(x,0)*(y,0):=G0 (by show x*y=x*y-0*0;grind) (by show 0=x*0+0*y;grind)
theorem H0p (z:Q2 r) (n:Fin r):((z.1*n,z.2*n):Q2 r)=z*(n,0):=G0 (by show z.1*n=z.1*n-z.2*0;grind) (by show z.2*n=z.1*0+z.2*n;grind)
def cjQ (x:Q2 r):Q2 r:=(x.1,0-x.2)
theorem G0m (x y:Q2 r):cjQ (x+y)=cjQ x+cjQ y:=G0 rfl (by show 0-(x.2+y.2)=(0-x.2)+(0-y.2);grind)
theorem E1p (x y:Q2 r):cjQ (x-y)=cjQ x-cjQ y:=G0 rfl (by show 0-(x.2-y.2)=(0-x.2)-(0-y.2);grind)
theorem E1o (x y:Q2 r):cjQ (x*y)=cjQ x*cjQ y:=G0 (by simp only[cjQ,C3y,C3z];grind) (by simp only[cjQ,C3y,C3z];grind)
theorem G0n (x:Q2 r):cjQ (-x) = -cjQ x:=by
 have e:-x=0-x:=by grind
 have e2:-cjQ x=0-cjQ x:=by grind
 rw[e,e2,E1p];have:cjQ (0:Q2 r)=0:=G0 rfl (by show (0:Fin r)-0=0;grind)
 rw[this]
theorem G8o (x:Fin r):cjQ ((x,0):Q2 r)=(x,0):=G0 rfl (by show (0:Fin r)-0=0;grind)
theorem F0b (x:Q2 r) (h:cjQ x=0):x=0:=by
 have h1:x.1=0:=congrArg Prod.fst h;have h2:0-x.2=0:=congrArg Prod.snd h;exact G0 h1 (by show x.2=0;clear h h1;grind)
end
section
variable {R:Type} [Fld R] [DecidableEq R] [Nrs R]
theorem F9h (x y:R):upE (x+y)=upE x+upE y:=(F0z x y).symm
theorem F9i (x y:R):upE (x*y)=upE x*upE y:=(F0y x y).symm
theorem F9j (x y:R):upE (x-y)=upE x-upE y:=E3.ext' rfl (by show (0:R)=0-0;grind) (by show (0:R)=0-0;grind)
theorem H9y (x:R):letI:=Y4 (F:=R);upE x*Nrs.xi=(⟨0,x,0⟩:E3 R):=by
 letI:=Y4 (F:=R)
 refine E3.ext' ?_ ?_ ?_
 all_goals
  simp only[upE,Nrs.xi,E3.mul_a,E3.mul_b,E3.mul_c]<;>grind
theorem D2q (x y l m:R):letI:=Y4 (F:=R);evl upE (upE x*Nrs.xi) (upE y*Nrs.xi) (some (l,m))=B6z (-m) (-(l*x)) y:=by
 letI:=Y4 (F:=R)
 refine E2.ext' (E3.ext' ?_ ?_ ?_) (E3.ext' ?_ ?_ ?_)
 all_goals
  simp only[evl,B6z,upE,Nrs.xi,E3.mul_a,E3.mul_b,E3.mul_c,E3.add_a,E3.add_b,E3.add_c,E3.neg_a,E3.neg_b,E3.neg_c]
  grind
def D3x (y a b:R):E2 (E3 R):=⟨⟨y,0,0⟩,⟨a,b,0⟩⟩
theorem D3u (l m x y:R):letI:=Y4 (F:=R);(⟨upE y,-(upE l*upE x+upE m*Nrs.xi)⟩:E2 (E3 R))=D3x y (-(l*x)) (-m):=by
 letI:=Y4 (F:=R)
 refine E2.ext' (E3.ext' ?_ ?_ ?_) (E3.ext' ?_ ?_ ?_)
 all_goals
  simp only[D3x,upE,Nrs.xi,E3.mul_a,E3.mul_b,E3.mul_c,E3.add_a,E3.add_b,E3.add_c,E3.neg_a,E3.neg_b,E3.neg_c]<;>grind
theorem E9h {a b c a' b' c' : R} (h1:a*c' = a' * c) (h2:b*c' = b' * c):letI:=Y4 (F:=R);Ass (B6z a b c) (B6z a' b' c'):=by
 letI:=Y4 (F:=R)
 refine E3.ext' ?_ ?_ ?_
 ·show a*0+Nrs.xi*(b*0+0*c')=a' * 0+Nrs.xi*(b' * 0+0*c);grind
 ·show a*c' + b*0+Nrs.xi*(0*0)=a' * c+b' * 0+Nrs.xi*(0*0);rw[h1];grind
 ·show a*0+b*c' + 0*0=a' * 0+b' * c+0*0;rw[h2];grind
theorem E9i {y a b y' a' b' : R} (h1:y*a' = y' * a) (h2:y*b' = y' * b):letI:=Y4 (F:=R);Ass (D3x y a b) (D3x y' a' b'):=by
 letI:=Y4 (F:=R)
 refine E3.ext' ?_ ?_ ?_
 ·show y*a' + Nrs.xi*(0*0+0*b')=y' * a+Nrs.xi*(0*0+0*b);rw[h1];grind
 ·show y*b' + 0*a' + Nrs.xi*(0*0)=y' * b+0*a+Nrs.xi*(0*0);rw[h2];grind
 ·show y*0+0*b' + 0*a' = y' * 0+0*b+0*a;grind
theorem H4v {m' l' x y t2 t3 g:R} (h2:g*t3=t2) (h3:g*g*g*t3=1):letI:=Y4 (F:=R);Ass (B6z (-(m' * (g*g*g))) (-(l' * g*x)) y) (B6z (-m') (-(l' * x)*t2) (y*t3)):=by
 refine E9h ?_ ?_
 ·have:-(m' * (g*g*g))*(y*t3) = -m' * y*(g*g*g*t3):=by clear h2 h3;grind
  rw[this,h3];clear this h2 h3;grind
 ·rw[<-h2];clear h2 h3;grind
theorem H4w {y' l x' m t1 t3 g:R} (h1:g*t1=1) (h3:g*g*g*t3=1):letI:=Y4 (F:=R);Ass (D3x (y' * (g*g*g)) (-(l*(x' * (g*g)))) (-m)) (D3x y' (-(l*x')*t1) (-m*t3)):=by
 refine E9i ?_ ?_
 ·have:y' * (g*g*g)*(-(l*x')*t1)=y' * -(l*(x' * (g*g)))*(g*t1):=by clear h1 h3;grind
  rw[this,h1];clear this h1 h3;grind
 ·have:y' * (g*g*g)*(-m*t3)=y' * -m*(g*g*g*t3):=by clear h1 h3;grind
  rw[this,h3];clear this h1 h3;grind
end
theorem emb:Emb fp4 fq4 f0E (upE:F2->F6) where
 h0:=⟨fun x y=>(congrArg upE (H0n x y)).trans (F9h _ _),fun x y=>(congrArg upE (H0o x y)).trans (F9i _ _),fun x y=>(congrArg upE (H0q x y)).trans (F9j _ _)⟩
 h:=⟨F9h,F9i,F9j⟩
 n0:=fun y hy h=>by
  have k:=(H9y ((y,0):F2)).symm.trans h;exact hy (congrArg (fun z:F6=>z.b.1) k)
 n:=fun y hy h=>hy (congrArg E3.a h)
 hb:=by decide +kernel
 c0:=cv1
 c:=cv2
 ns:=H7
theorem gm1:gm*tur 1=1:=by decide +kernel
theorem gm2:gm*tur 3=tur 2:=by decide +kernel
theorem gm3:gm*gm*gm*tur 3=1:=by decide +kernel
theorem tuQ:Tu cj2 gm fq4 where
 h:=⟨G0m,E1o,E1p⟩
 i:=F0b
 g0:=by decide +kernel
 b:=by decide +kernel
theorem F0e (x:F12):∀n,A7 (cj x) n=cj (A7 x n)
 | 0=>F0d.symm
 | n+1=>by
  show A7 (cj x) n*cj x=cj (A7 x n*x);rw[F0e x n,B8v]
theorem E2q:frb 1=1:=by decide +kernel
theorem A3q:cj2 0=0:=by decide +kernel
section
variable {R:Type} [J9 R]
theorem E8v (t:R):0*t=0:=by grind
end
theorem F1y (a b c:F2):frb (B6z a b c)=B6z (cj2 a) (cj2 b*tur 2) (cj2 c*tur 3):=by
 refine E2.ext' (E3.ext' rfl rfl ?_) (E3.ext' ?_ rfl ?_)
 ·show cj2 0*tur 4=0;rw[A3q,E8v]
 ·show cj2 0*tur 1=0;rw[A3q,E8v]
 ·show cj2 0*tur 5=0;rw[A3q,E8v]
theorem F1z (y a b:F2):frb (D3x y a b)=D3x (cj2 y) (cj2 a*tur 1) (cj2 b*tur 3):=by
 refine E2.ext' (E3.ext' rfl ?_ ?_) (E3.ext' rfl rfl ?_)
 ·show cj2 0*tur 2=0;rw[A3q,E8v]
 ·show cj2 0*tur 4=0;rw[A3q,E8v]
 ·show cj2 0*tur 5=0;rw[A3q,E8v]
theorem E1n (x y:F2):cj2 (x*y)=cj2 x*cj2 y:=E1o x y
theorem B7h (x:F2):cj2 (-x) = -cj2 x:=G0n x
theorem C7k (x:Fp):cj2 ((x,0):F2)=(x,0):=G8o x
theorem frl:Frl f0E (upE:F2->F6) cj2 gm frb where
 m:=A7m
 o:=E2q
 c:=fun x=>(A0x (cj x)).symm.trans ((F0e x pN).trans (congrArg cj (A0x x)))
 e:=fun x y l m=>by
  have k1:=D2q ((x,0):F2) (y,0) (cj2 l*gm) (cj2 m*(gm*gm*gm));have k2:=D2q ((x,0):F2) (y,0) l m;have k3:=(congrArg frb k2).trans (F1y _ _ _);rw[B7h,B7h,E1n,C7k,C7k] at k3;have k4:=H4v (m' := cj2 m) (l' := cj2 l) (x:=((x,0):F2)) (y:=(y,0)) gm2 gm3;exact (congrArg (fun u=>Ass u _) k1).mpr ((congrArg (fun u=>Ass _ u) k3).mpr k4)
 l:=fun l a=>by
  have k1:=D3u ((l.1,0):F2) (l.2,0) (cj2 a.1*(gm*gm)) (cj2 a.2*(gm*gm*gm));have k2:=D3u ((l.1,0):F2) (l.2,0) a.1 a.2;have k3:=(congrArg frb k2).trans (F1z _ _ _);rw[B7h,B7h,E1n,C7k,C7k] at k3;have k4:=H4w (y' := cj2 a.2) (l:=((l.1,0):F2)) (x' := cj2 a.1) (m:=(l.2,0)) gm1 gm3;exact (congrArg (fun u=>Ass u _) k1).mpr ((congrArg (fun u=>Ass _ u) k3).mpr k4)
end

set_option linter.unusedSectionVars false
section

section
variable {F:Type} [Fld F] [DecidableEq F] {b:F}
def H8d (a s:F×F×F) (z:Bool):F×F×F:=if z=true then jpl (jtw s) a else jtw s
def jbs (a:F×F×F) (l:List Bool):F×F×F:=l.foldl (H8d a) a
theorem F3j (hc:Cv b) {P:Pt F} {a:F×F×F} (hP:OnC b P) (h:Jc P a):∀(l:List Bool) (n:Nat) (s:F×F×F),Jc (G7 P n) s->Jc (G7 P (l.foldl nst n)) (l.foldl (H8d a) s)
 | [],_,_,hs=>hs
 | z::l,n,s,hs=>by
  refine F3j hc hP h l (nst n z) _ ?_
  have J1:Jc (G7 P (n+n)) (jtw s):=by rw[A0r hc hP];exact A9g hc.two _ _ hs
  cases z with
  | false=>exact J1
  | true=>exact B4k hc.two _ _ _ _ J1 h
theorem D4o (hc:Cv b) {P:Pt F} {a:F×F×F} (hP:OnC b P) (h:Jc P a) (l:List Bool) {n:Nat} (hn:l.foldl nst 1=n):Jc (G7 P n) (jbs a l):=hn ▸ F3j hc hP h l 1 a h
theorem G2u {P:Pt F} {t:F×F×F} (h:Jc P t) (hz:t.2.2=0):P=none:=by
 cases P with
 | none=>rfl
 | some p=>exact absurd hz h.1
theorem G2v {P Q:Pt F} {t:F×F×F} (h:Jc P t) (k:Jc Q t):P=Q:=(C8q P t h).symm.trans (C8q Q t k)
theorem A4s (hc:Cv b) (X:CP b):∀n,(letI:=Q9 hc;mlt X n).1=G7 X.1 n
 | 0=>rfl
 | n+1=>by
  show D9 (letI:=Q9 hc;mlt X n).1 X.1=D9 (G7 X.1 n) X.1
  rw[A4s hc X n]
end
@[reducible] instance agQ:AG (CP fq4):=Q9 cv2
@[reducible] instance agP:AG (CP fp4):=Q9 cv1
def hPt:F2×F2:=((Fin.ofNat pN 352701069587466618187139116011060144890029952792775240219908644239793785735715026873347600343865175952761926303160,Fin.ofNat pN 3059144344244213709971259814753781636986470325476647558659373206291635324768958432433509563104347017837885763365758),(Fin.ofNat pN 1985150602287291935568054521177171638300868978215655730859378665066344726373823718423869104263333984641494340347905,Fin.ofNat pN 927553665492332455747201965776037880757740193453592970025027978793976877002675564980949289727957565575433344219582))
def uPt:F2×F2:=((Fin.ofNat pN 1117537858402150239581489583423215310817594763587075173510352554317036724133868662355368490764272633936142202708396,Fin.ofNat pN 598156863305241747249262889660708741642521236408786009817264754940573902844630362426503131117978715071394150269485),(Fin.ofNat pN 1201985429637510306336279274905740415478318848439253116206132776238306151744392340446480012257797801557570457579778,Fin.ofNat pN 2343949297471243289497692297768928841657631340968057880984352745333316400744261991566673533373889824163548528572929))
def gPt:Fp×Fp:=(Fin.ofNat pN 3685416753713387016781088315183077757961620795782546409894578378688607592378376318836054947676345821548104185464507,Fin.ofNat pN 1339506544944476473020471379941921221584933875938349620426543736416511423956333506472724655353366534992391756441569)
theorem I0t:hPt.2*hPt.2=hPt.1*hPt.1*hPt.1+fq4:=by decide +kernel
theorem I3n:uPt.2*uPt.2=uPt.1*uPt.1*uPt.1+fq4:=by decide +kernel
theorem D8h:gPt.2*gPt.2=gPt.1*gPt.1*gPt.1+fp4:=by decide +kernel
def ptH:CP fq4:=⟨some hPt,I0t⟩
def ptU:CP fq4:=⟨some uPt,I3n⟩
def ptG:CP fp4:=⟨some gPt,D8h⟩
section
variable {F:Type} [Fld F]
theorem D8q (p:F×F) (o:F) (ho:o=1):Jc (some p) (p.1,p.2,o):=by
 subst ho;refine ⟨Fld.one_ne,?_,?_⟩
 ·show p.1=p.1*(1*1);generalize p.1=x;grind
 ·show p.2=p.2*(1*1*1);generalize p.2=x;grind
end
theorem E9p:(btL rN 255 255).tail.foldl nst 1=rN:=by decide +kernel
theorem G8j:(btL qU 448 448).tail.foldl nst 1=qU:=by decide +kernel
theorem E9n:(btL Z3 64 64).tail.foldl nst 1=Z3:=by decide +kernel
theorem G9x:(jbs (hPt.1,hPt.2,(1:F2)) (btL rN 255 255).tail).2.2=0:=by decide +kernel
theorem H4x:(jbs (uPt.1,uPt.2,(1:F2)) (btL qU 448 448).tail).2.2=0:=by decide +kernel
theorem G9u:(jbs (gPt.1,gPt.2,(1:Fp)) (btL rN 255 255).tail).2.2=0:=by decide +kernel
theorem H8e {F:Type} [Fld F] {p:F×F} {t:F×F×F} (h:t.2.2≠0∧t.1=p.1*(t.2.2*t.2.2)∧t.2.1=p.2*(t.2.2*t.2.2*t.2.2)):Jc (some p) t:=h
theorem G9w:(jbs (hPt.1,hPt.2,(1:F2)) (btL Z3 64 64).tail).2.2≠0∧(jbs (hPt.1,hPt.2,(1:F2)) (btL Z3 64 64).tail).1=(ngp (tu cj2 gm hPt)).1*((jbs (hPt.1,hPt.2,(1:F2)) (btL Z3 64 64).tail).2.2*(jbs (hPt.1,hPt.2,(1:F2)) (btL Z3 64 64).tail).2.2)∧(jbs (hPt.1,hPt.2,(1:F2)) (btL Z3 64 64).tail).2.1=(ngp (tu cj2 gm hPt)).2*((jbs (hPt.1,hPt.2,(1:F2)) (btL Z3 64 64).tail).2.2*(jbs (hPt.1,hPt.2,(1:F2)) (btL Z3 64 64).tail).2.2*(jbs (hPt.1,hPt.2,(1:F2)) (btL Z3 64 64).tail).2.2):=by decide +kernel
theorem I0s:Jc (some (ngp (tu cj2 gm hPt))) (jbs (hPt.1,hPt.2,(1:F2)) (btL Z3 64 64).tail):=H8e G9w
section
variable {F:Type} [Fld F] [DecidableEq F] {b:F}
theorem C1d (hc:Cv b) (X:CP b) {p:F×F} (hX:X.1=some p) {n:Nat} (l:List Bool) (hn:l.foldl nst 1=n) {o:F} (ho:o=1) (hz:(jbs (p.1,p.2,o) l).2.2=0):letI:=Q9 hc;mlt X n=0:=by
 letI:=Q9 hc
 have k:=A4s hc X n;rw[hX] at k;exact Subtype.ext (k.trans (G2u (D4o hc (hX ▸ X.2) (D8q p o ho) l hn) hz))
theorem F4y (hc:Cv b) (X:CP b) {p q:F×F} (hX:X.1=some p) {n:Nat} (l:List Bool) (hn:l.foldl nst 1=n) {o:F} (ho:o=1) (hz:Jc (some q) (jbs (p.1,p.2,o) l)):letI:=Q9 hc;(mlt X n).1=some q:=by
 letI:=Q9 hc
 have k:=A4s hc X n;rw[hX] at k;exact k.trans (G2v (D4o hc (hX ▸ X.2) (D8q p o ho) l hn) hz)
theorem F7o (hc:Cv b) {X:CP b} {p:F×F} (h:X.1=some p):letI:=Q9 hc;X≠0:=by
 letI:=Q9 hc
 intro e;rw[e] at h;have h:(none:Pt F)=some p:=h
 cases h
end
theorem H_r:mlt ptH rN=0:=C1d cv2 ptH (p:=hPt) rfl (n:=rN) (btL rN 255 255).tail E9p (o:=1) rfl G9x
theorem U_q:mlt ptU qU=0:=C1d cv2 ptU (p:=uPt) rfl (n:=qU) (btL qU 448 448).tail G8j (o:=1) rfl H4x
theorem G_r:mlt ptG rN=0:=C1d cv1 ptG (p:=gPt) rfl (n:=rN) (btL rN 255 255).tail E9p (o:=1) rfl G9u
theorem H_L:(mlt ptH Z3).1=P5 (ptu cj2 gm ptH.1):=F4y cv2 ptH (p:=hPt) (q:=ngp (tu cj2 gm hPt)) rfl (n:=Z3) (btL Z3 64 64).tail E9n (o:=1) rfl I0s
theorem G9d (x:F2):x.1.val*pN+x.2.val<pN*pN:=by
 have h1:=x.1.isLt;have h2:=x.2.isLt;have:=Nat.mul_le_mul_right pN (Nat.le_sub_one_of_lt h1)
 have h3:(pN-1)*pN+pN=pN*pN:=by
  rw[<-Nat.succ_mul];congr 1
 exact Nat.lt_of_lt_of_le (Nat.add_lt_add_of_le_of_lt this h2) (Nat.le_of_eq h3)
theorem G1e (x y:F2) (h:x.1.val*pN+x.2.val=y.1.val*pN+y.2.val):x=y:=by
 have h1:(x.1.val*pN+x.2.val) / pN=(y.1.val*pN+y.2.val) / pN:=by rw[h]
 have h2:(x.1.val*pN+x.2.val) % pN=(y.1.val*pN+y.2.val) % pN:=by rw[h]
 have hp:0<pN:=by decide +kernel
 rw[Nat.mul_comm,Nat.mul_add_mod,Nat.mul_comm y.1.val,Nat.mul_add_mod,Nat.mod_eq_of_lt x.2.isLt,Nat.mod_eq_of_lt y.2.isLt] at h2;rw[Nat.mul_comm,Nat.mul_add_div hp,Nat.mul_comm y.1.val,Nat.mul_add_div hp,Nat.div_eq_of_lt x.2.isLt,Nat.div_eq_of_lt y.2.isLt] at h1;exact Prod.ext (Fin.ext h1) (Fin.ext h2)
theorem H3w:2*(pN*pN)+1<qU*(rN*rN):=by decide +kernel
theorem G7w:0<rN:=by decide +kernel
theorem H9e:0<qU:=by decide +kernel
theorem G9v:Nat.gcd rN qU=1:=by decide +kernel
theorem H0y {A:CP fq4} (hA:mlt A rN=0):D1p ptH A:=
 E9e (G0r (b:=fq4) (fun x:F2=>x.1.val*pN+x.2.val) (pN*pN) G9d G1e) H3w H0g G7w I0z H9e G9v hA H_r U_q (F7o cv2 (X:=ptH) (p:=hPt) rfl) (F7o cv2 (X:=ptU) (p:=uPt) rfl)
theorem F9a {n:Nat} (hn:(mlt ptH n).1=P5 (ptu cj2 gm ptH.1)) (A:CP fq4) (hA:mlt A rN=0):(mlt A n).1=P5 (ptu cj2 gm A.1):=by
 obtain ⟨m,rfl⟩:=H0y hA;clear hA;rw[A0q];induction m with
 | zero=>rfl
 | succ m ih=>
  show D9 (mlt (mlt ptH n) m).1 (mlt ptH n).1=P5 (ptu cj2 gm (D9 (mlt ptH m).1 ptH.1));rw[ih,hn,<-(F3t cv2 tuQ (mlt ptH m).2 ptH.2).2];exact (congrArg Subtype.val (AG.ng_add (M:=CP fq4) (⟨ptu cj2 gm (mlt ptH m).1,B6u tuQ (mlt ptH m).2⟩:CP fq4) ⟨ptu cj2 gm ptH.1,B6u tuQ ptH.2⟩)).symm

def SQ (X:CP fq4):Prop:=mlt X rN=0
theorem F9s:SQ 0:=O1 rN
theorem E8z {x y:CP fq4} (hx:SQ x) (hy:SQ y):SQ (x+y):=by
 show mlt (x+y) rN=0;rw[B7o,show mlt x rN=0 from hx,show mlt y rN=0 from hy]
 grind
section
variable {M:Type} [C6y M]
theorem E6w (x:M):mlt x 3=x+x+x:=by show 0+x+x+x=_;grind
theorem F4w (x:M):mlt x 5=x+x+x+x+x:=by show 0+x+x+x+x+x=_;grind
end
theorem H6m (X:CP fq4) (h:SQ X):(X+X+X=0->X=0)∧(X+X+X+X+X=0->X=0):=
 ⟨fun e=>B2j 3 rN ((E6w X).trans e) h (by decide +kernel),fun e=>B2j 5 rN ((F4w X).trans e) h (by decide +kernel)⟩
abbrev DpE (P:Pt Fp):CP fq4->CP fq4->F12:=fun A B=>Dp f0E (upE:F2->F6) P A.1 B.1
theorem G0p {P:Pt Fp} (hP:OnC fp4 P):Coc SQ (DpE P):=G8u emb hP F9s E8z H6m
theorem F1f {u:F12} (hu:u≠0):et u*cjp (et u)=1:=by
 rw[A0u];have h:cj (et u)=et (cj u):=B6j H7 (C4r H7 hu) (by rw[<-B8v,K2 H7 hu])
 rw[h];have k:=D2n H7 hu;generalize et u=a at *;generalize et (cj u)=c at *;rw[<-k];clear k h;grind
theorem B7q:(1:F12)*cjp 1=1:=by rw[A7g];exact E2.one_mul 1
theorem G1c {P:Pt Fp} (hP:OnC fp4 P) (A B:Pt F2):Dp f0E (upE:F2->F6) P A B*cjp (Dp f0E (upE:F2->F6) P A B)=1:=by
 cases P with
 | none=>exact B7q
 | some p=>exact F1f (A0w emb hP _)
theorem G1g (P Q:Pt Fp) {A:Pt F2} (hA:OnC fq4 A):Ep f0E (upE:F2->F6) P Q A*cjp (Ep f0E (upE:F2->F6) P Q A)=1:=by
 cases A with
 | none=>rw[A8s];exact B7q
 | some a=>
  cases k:lda P Q with
  | none=>rw[P1 k];exact B7q
  | some l=>rw[Z9 k];exact F1f (A4q emb hA l)
theorem D2b (x:F12):∀n,cjp (A7 x n)=A7 (cjp x) n
 | 0=>A7g
 | n+1=>by
  show cjp (A7 x n*x)=A7 (cjp x) n*cjp x;rw[A4l,D2b x n]
theorem G0o (x:F12):cjp (frb x)=frb (cjp x):=by rw[A0u,A0u,frl.c]
theorem E6b {n:Nat} (hn:n=15132376222941642752) {e:F12} (he:e*cjp e=1):A2n (A7 e n*frb e)=1:=by
 subst hn;exact F1q he
theorem kill {n:Nat} (hn:n=15132376222941642752) {e:F12} (he:e*cjp e=1):A2n (cjp (A7 e n*frb e))=1:=by
 rw[A4l,D2b,G0o];refine E6b hn ?_
 rw[E1q,<-he];generalize cjp e=c;clear he;grind
theorem G1s {n:Nat} (hn:n=15132376222941642752):A2n 1=1:=by
 have k:=kill hn B7q;rw[B1r,E2q,E2.one_mul,A7g] at k;exact k
theorem D8d:A2n 1=1:=G1s rfl
section
variable {M G:Type} [C6y M] [J9 G]
theorem D3i {S:M->Prop} {D:M->M->G} (h:Coc S D):∀n,gth D 0 n=1
 | 0=>rfl
 | n+1=>by
  show gth D 0 n*D (mlt 0 n) 0=1;rw[D3i h n,O1,h.l h.z];grind
end
theorem G7p {x y z w:F12} (h:x*w=y*z) (hw:A2n (cjp w)=1):A2n (cjp x)=A2n (cjp y)*A2n (cjp z):=by
 have k:A2n (cjp (x*w))=A2n (cjp (y*z)):=congrArg (fun u=>A2n (cjp u)) h
 rw[A4l,B9z,hw,A4l,B9z,E2.mul_one] at k;exact k
/-- The pairing of two points, by any number of steps. -/
def A2q (n:Nat) (P:Pt Fp) (Q:CP fq4):F12:=A2n (cjp (gth (DpE P) Q n))
section
variable {n:Nat} (hn:n=15132376222941642752) (ht:∀A:CP fq4,SQ A->(mlt A n).1=P5 (ptu cj2 gm A.1))
theorem D3h (A:CP fq4):∀n,gth (DpE none) A n=1
 | 0=>rfl
 | n+1=>by
  show gth (DpE none) A n*1=1;rw[D3h A n,E2.one_mul]
theorem C2m (n:Nat) {P:Pt Fp} (hP:OnC fp4 P):A2q n P 0=1:=by
 unfold A2q;rw[D3i (G0p hP),A7g,D8d]
theorem C2l (n:Nat) (A:CP fq4):A2q n none A=1:=by
 unfold A2q;rw[D3h,A7g,D8d]
include hn ht
theorem E7r {P:Pt Fp} (hP:OnC fp4 P) {A B:CP fq4} (hA:SQ A) (hB:SQ B):A2q n P (A+B)=A2q n P A*A2q n P B:=
 G7p (F2s emb tuQ frl hP (G0p hP) hA hB (ht A hA) (ht B hB)) (kill hn (G1c hP _ _))
theorem E7q {P Q:Pt Fp} (hP:OnC fp4 P) (hQ:OnC fp4 Q) {A:CP fq4} (hA:SQ A):A2q n (D9 P Q) A=A2q n P A*A2q n Q A:=
 G7p (F2r emb tuQ frl hP hQ A (ht A hA)) (kill hn (G1g P Q A.2))
omit hn ht in
theorem E9a {A:CP fq4} (hA:SQ A) (m:Nat):SQ (mlt A m):=by
 show mlt (mlt A m) rN=0;rw[A0q,show mlt A rN=0 from hA,O1]
theorem C5y {P:Pt Fp} (hP:OnC fp4 P) {A:CP fq4} (hA:SQ A):∀m,A2q n P (mlt A m)=A7 (A2q n P A) m
 | 0=>C2m n hP
 | m+1=>by
  show A2q n P (mlt A m+A)=A7 (A2q n P A) m*A2q n P A;rw[E7r hn ht hP (E9a hA m) hA,C5y hP hA m]
theorem C2k {P:Pt Fp} (hP:OnC fp4 P) {A:CP fq4} (hA:SQ A):∀m,A2q n (G7 P m) A=A7 (A2q n P A) m
 | 0=>C2l n A
 | m+1=>by
  show A2q n (D9 (G7 P m) P) A=A7 (A2q n P A) m*A2q n P A;rw[E7q hn ht (W9 cv1 hP m) hP hA,C2k hP hA m]
end
theorem D6j (A:CP fq4) (hA:SQ A):(mlt A Z3).1=P5 (ptu cj2 gm A.1):=F9a H_L A hA
theorem E3l:Z3=15132376222941642752:=rfl
/-- The pairing of two points. -/
def prg (P:Pt Fp) (Q:CP fq4):F12:=A2q Z3 P Q
theorem E7s {P:Pt Fp} (hP:OnC fp4 P):prg P 0=1:=C2m Z3 hP
theorem C5z (A:CP fq4):prg none A=1:=C2l Z3 A
theorem F7l {P:Pt Fp} (hP:OnC fp4 P) {A:CP fq4} (hA:SQ A) (m:Nat):prg P (mlt A m)=A7 (prg P A) m:=C5y E3l D6j hP hA m
theorem B5k {P:Pt Fp} (hP:OnC fp4 P) {A:CP fq4} (hA:SQ A) (m:Nat):prg (G7 P m) A=A7 (prg P A) m:=C2k E3l D6j hP hA m
end

set_option linter.unusedSectionVars false
section

theorem D0v (z:F2) (n:Fp):scl z n=z*(n,0):=H0p z n
theorem H9u (t:F2×F2×F2) (x y:Fp):tch t x y=H4e t (x,0) (y,0):=by
 unfold tch;rw[D0v,D0v];rfl
theorem H9v (t q:F2×F2×F2) (x y:Fp):thg t q x y=H4h t q (x,0) (y,0):=by
 unfold thg;rw[D0v,D0v];rfl
theorem G8b {k:F2} (h:k≠0):(upE k:F6)≠0:=fun e=>h (congrArg E3.a e)
theorem H8k (x y:Fp) (q:F2×F2×F2):mst x y q=B7c (fun t=>tch t x y) (fun t=>thg t q x y) q:=by kernel_rfl
theorem G9h {u:F12} (hu:u≠0):et (cjp u)=cjp (et u):=by
 rw[A0u,A0u];exact (B6j H7 (C4r H7 hu) (by rw[<-B8v,K2 H7 hu])).symm
theorem D4x:(1:F12)≠0:=fun e=>Fld.one_ne (congrArg E2.a e)
section
variable {M G:Type} [C6y M] [J9 G]
theorem H7u {S:M->Prop} {D:M->M->G} (h:Coc S D) {x:M} (hx:S x):gth D x 1=1:=by
 show 1*D 0 x=1;rw[h.l hx];grind
end
theorem F3w {x y:Fp} (hP:OnC fp4 (some (x,y))) {Q:CP fq4} (hQ:SQ Q) {q:F2×F2} (hq:Q.1=some q) {q3:F2×F2×F2} (hj:Jc (some q) q3) {T1 T2:F2×F2×F2->F12}
    (h1:∀(p:F2×F2) (t:F2×F2×F2),OnC fq4 (some p)->Jc (some p) t->∃k,k≠0∧T1 t=(⟨k,0⟩:E2 F6)*evl upE (f0E x*Nrs.xi) (f0E y*Nrs.xi) (lda (some p) (some p)))
    (h2:∀(p:F2×F2) (t:F2×F2×F2),OnC fq4 (some p)->Jc (some p) t->p.1≠q.1->∃k,k≠0∧T2 t=(⟨k,0⟩:E2 F6)*evl upE (f0E x*Nrs.xi) (f0E y*Nrs.xi) (lda (some p) (some q)))
    {n:Nat} (l:List Bool) (hl:l.foldl nst 1=n) (hn:n+1<rN) {s:(F2×F2×F2)×F12} (hs1:s.1=q3) (hs2:s.2=1) :
    (l.foldl (B7c T1 T2 q3) s).2≠0∧et (l.foldl (B7c T1 T2 q3) s).2=gth (DpE (some (x,y))) Q n:=by
  subst hl;have hne:Q≠0:=F7o cv2 hq;have g0:∀m,0<m->m<=l.foldl nst 1+1->mlt Q m≠0:=fun m g1 g2=>F4x H0g hQ hne g1 (by omega)
  have g1:Jc (mlt Q 1).1 s.1:=by rw[show mlt Q 1=Q from C9i Q,hq,hs1];exact hj
  have g2:s.2≠0:=by rw[hs2];exact D4x
  have g3:et s.2=gth (DpE (some (x,y))) Q 1:=by
    rw[hs2,C7v H7];exact (H7u (G0p hP) hQ).symm
  have k:=G3j emb hP (G0p hP) hQ hq hj (T1:=T1) (T2:=T2) (Eq.mpr (by kernel_rfl) h1) (Eq.mpr (by kernel_rfl) h2) l 1 s (Nat.le_refl 1) g0 g1 (Eq.mpr (by kernel_rfl) g2) g3
  obtain ⟨_,k2,k3⟩:=k;exact ⟨Eq.mpr (by kernel_rfl) k2,Eq.mpr (by kernel_rfl) k3⟩
theorem H4g (x y:Fp) {p:F2×F2} (hp:OnC fq4 (some p)) {t:F2×F2×F2} (ht:Jc (some p) t):∃k,k≠0∧tch t x y=(⟨k,0⟩:E2 F6)*evl upE (f0E x*Nrs.xi) (f0E y*Nrs.xi) (lda (some p) (some p)):=by
 obtain ⟨k,k1,k2⟩:=H4f cv2 hp ht ((x,0):F2) (y,0);exact ⟨upE k,Eq.mpr (by kernel_rfl) (G8b k1),(H9u t x y).trans (Eq.mpr (by kernel_rfl) k2)⟩
theorem H4j (x y:Fp) {p q:F2×F2} (hp:OnC fq4 (some p)) (hq:OnC fq4 (some q)) (hne:p.1≠q.1) {t q3:F2×F2×F2} (ht:Jc (some p) t) (hz:q3=(q.1,q.2,1)):∃k,k≠0∧thg t q3 x y=(⟨k,0⟩:E2 F6)*evl upE (f0E x*Nrs.xi) (f0E y*Nrs.xi) (lda (some p) (some q)):=by
 subst hz;obtain ⟨k,k1,k2⟩:=H4i cv2 hp hq hne ht 1 ((x,0):F2) (y,0);exact ⟨upE k,Eq.mpr (by kernel_rfl) (G8b k1),(H9v t (q.1,q.2,1) x y).trans (Eq.mpr (by kernel_rfl) k2)⟩
theorem G3i {x y:Fp} (hP:OnC fp4 (some (x,y))) {Q:CP fq4} (hQ:SQ Q) {q:F2×F2} (hq:Q.1=some q) {q3:F2×F2×F2} (hz:q3=(q.1,q.2,1)) {n:Nat} (l:List Bool) (hl:l.foldl nst 1=n) (hn:n+1<rN) {s:(F2×F2×F2)×F12} (hs1:s.1=q3) (hs2:s.2=1) :
  M4 (cjp (l.foldl (mst x y q3) s).2)=A2q n (some (x,y)) Q:=by
 have hj:Jc (some q) q3:=by rw[hz];exact D8q q 1 rfl
 have oq:OnC fq4 (some q):=hq ▸ Q.2;have k:=F3w hP hQ hq hj (T1:=fun t=>tch t x y) (T2:=fun t=>thg t q3 x y)
  (fun p t hp ht=>H4g x y hp ht) (fun p t hp ht hne=>H4j x y hp oq hne ht hz) l hl hn hs1 hs2
 have e:l.foldl (mst x y q3) s=l.foldl (B7c (fun t=>tch t x y) (fun t=>thg t q3 x y) q3) s:=by rw[H8k]
 rw[e];generalize (l.foldl (B7c (fun t=>tch t x y) (fun t=>thg t q3 x y) q3) s).2=u at *
 rw[A3u,G9h k.1,k.2]
 rfl
theorem I0c:Z3+1<rN:=by decide +kernel
/-- What the program makes of two points that are not at infinity. -/
theorem F4s {x y:Fp} (hP:OnC fp4 (some (x,y))) {Q:CP fq4} (hQ:SQ Q) {q:F2×F2} (hq:Q.1=some q) {q3:F2×F2×F2} (hz:q3=(q.1,q.2,1)):M4 (mil x y q3)=prg (some (x,y)) Q:=
 G3i hP hQ hq hz (btL Z3 64 64).tail E9n I0c rfl rfl
def pwb (x:F12) (l:List Bool):F12:=l.foldl (gst x) 1
theorem G5g (x:F12) (l:List Bool) {n:Nat} (h:l.foldl nst 0=n):A7 x n=pwb x l:=h ▸ (C8f x l 0).symm
theorem B1q (x:F12) (l:List Bool) (n:Int) {m:Nat} (hm:n.toNat=m) (h:l.foldl nst 0=m):gpi x n=pwb x l:=by rw[A1z,hm];exact G5g x l h
end

section

def z_m:F12:=⟨⟨(Fin.ofNat pN 1846979733742619984236856519096961505208445084542243478292833414410313232237533907243873223977707181173091964108599,Fin.ofNat pN 365407202272051176779677544776498623663204201849587783087480754328259921374655803463339256418276596553498722730500),(Fin.ofNat pN 1911190202214193306915191356716142301130331169821418006776127252225453638404959874819864409062577222875009424983847,Fin.ofNat pN 3679292861835765883467971526569659371940848602799042554389237721905911544082360143923892401668358113856105294683991),(Fin.ofNat pN 2048706228926000143585595190501178899722334393191232002313286002301612148408673186740176657565554885032015484799561,Fin.ofNat pN 1941528177453715868023560981532865930033012600192205645353298847431525237698799555598314634997957011571128691368016)⟩,⟨(Fin.ofNat pN 2035712879703771928920753882730810723170553615583772682173309193126073890580984515411763578568445503451914173249443,Fin.ofNat pN 2907834186091693609740023504105558744656979486185667446279010118323342456602745240592912149552678189682088280549676),(Fin.ofNat pN 1421790502914473105444211451683241860962942039793317028247101372029878979007739224851131020099690234801601989789569,Fin.ofNat pN 3909972074827346416347607999507588686753975557379670554626250238677046122221576338852530510105548501062384172334641),(Fin.ofNat pN 3745541392790952208309249491525067142614413111609433735013854515389948791813214821166166779905186876590804694132896,Fin.ofNat pN 391714869254764547459313469459838962546079986178871748952864967824322933306180385378072835416624742514373976356399)⟩⟩
def z_e:F12:=⟨⟨(Fin.ofNat pN 1038073191547956796409026126878527268266470333355040852538473024278270963003608990329503419596226995509466091364281,Fin.ofNat pN 3472128712581537949760206934119993164102934148149591657022520829544656424752225682686329512606112979909590191069875),(Fin.ofNat pN 2534263294660501372298551917375746746088971440679951304452806090500958437583570399100257591792062280364101959774713,Fin.ofNat pN 226120475576023910458186354568120210768387840076254684535861946575969288857542481271780947500752793445098186233864),(Fin.ofNat pN 1161314499601140605061621386185046551864673398870606121070552226873391735549267290642645255723745001747290604370800,Fin.ofNat pN 2301761811495838010211397103530397764661212867299386216842190604737931490024083276544598849191731828693919031501243)⟩,⟨(Fin.ofNat pN 1101359075410896704516684587098874271743859023359536958181364457006937722628980652042521003077979438314663188928108,Fin.ofNat pN 3462181531384267964705894785715758591977722174550004475700089220209547927723681588659246838982473357725170126489634),(Fin.ofNat pN 195935104236643205428256232515341883457695583985633909267294720907483770166720912913565822209799242147021163718598,Fin.ofNat pN 1287996221979984214617076245476348766139561224958234245646224933442842926227832370671385213841157666392705275698306),(Fin.ofNat pN 2956194018199014813064850645607321544119010843269968507649317034045645971925442547220301238637714931742621408888299,Fin.ofNat pN 3257868591292127695426273984752163636650071375206943337305993232301098408247453798670221901046621246590503275656043)⟩⟩
def z_a:F12:=⟨⟨(Fin.ofNat pN 1510107722572828261550456151093864086691603914687768733547089522940763855394581829056943774158245330102175234867365,Fin.ofNat pN 808088717004703826527845002367721048328742280592989028558030142710212828338665719435559947605712112865726189666705),(Fin.ofNat pN 3710514574182005371926233043859060107788439815410187352828615120303774202962806625846108553355796224478762282615718,Fin.ofNat pN 3718410119742133333192092795470106941040113391850829632607903082329109300254219700624284948054717451211425800147146),(Fin.ofNat pN 3258996093706043078483052074983766734841692758717147460252044539419829763475289249153099003976736977297613956120486,Fin.ofNat pN 2368694829310213597069917632356869514055569781787290568526433824371764704323762446873487997487613368223346360443403)⟩,⟨(Fin.ofNat pN 825019717055119404488291944227878455588656804579258664131545285287600947107393882625533957511195351444914053275555,Fin.ofNat pN 1235237080506678848819252090840181863359857720799046539637838566547094823241749997397844433226723860984981410384623),(Fin.ofNat pN 2764381966972188833242976222377757459066036708528928840431954636069928496277414501615608427534705033883967463366461,Fin.ofNat pN 3950261173758068029169962917567733265997797709591473479657980127059112999656277408515066842040039285101520990525635),(Fin.ofNat pN 1261947073570269029040075154556515989509616962110692009464372009392016601853269864118522864681591239693361464667833,Fin.ofNat pN 1217072859421831304326757924601188491648346757263556492236697331750135459118781991687175033633434919933585395413051)⟩⟩
def H6e:F12:=⟨⟨(Fin.ofNat pN 483422842865460960975360683702114890774652236718602907106293727446196211695581273973892359419995701245121992995932,Fin.ofNat pN 2222429867643352770373620402102901987490735137111375888176643315800991900757926591534439227271694953648151793490073),(Fin.ofNat pN 1610231307709252983729874367857479319336262477471876703530520453644123333657891264298201834448006573077855989948663,Fin.ofNat pN 3883156552931842258954066820918373383391036564109442315705756673666363391855252551117194480602926690221678027116094),(Fin.ofNat pN 3487256076643242096739625695434415784841696980413007827992375275914526691252467867196925701436642760753767022994301,Fin.ofNat pN 813845368504596805013206987507671669248149767947113052502533072429870854746035370668129256356175822471743790199901)⟩,⟨(Fin.ofNat pN 1927797602461781900086820045826522454704630925687809151875065518483635704814997569389244451712388306168900150958386,Fin.ofNat pN 847298330573190689045272099117471598078014883259199798869916916031475018353450749804637900679902831207603142280429),(Fin.ofNat pN 3181495748846431153534605515498972098909138481982325133651947125397286559591777687710504290184774857764937542436173,Fin.ofNat pN 3927442649956390445152114195600725081697808356048479001169541793773148602043543165637069657286618335111170148756235),(Fin.ofNat pN 3862461713938468101589408707758930616224752264359556066306406464341799679602123946570919867488829269571132542772045,Fin.ofNat pN 2313241134748716337674948143245730345706151910631567423961649313819758030894466160528567478647995009281984044836526)⟩⟩
def z_g:F12:=⟨⟨(Fin.ofNat pN 3727150175738056038437321238698697731781696080828773757040465011490166181611631337200778236356031642695439974349577,Fin.ofNat pN 1839616876754881781575858437310641937202581969126240033381844989596092734646398823766831267435784899908572145045229),(Fin.ofNat pN 1580184008049100904643447925191051042267566823155155928888485936743655907143247475057389383953654826599755381962794,Fin.ofNat pN 1005949275355438696672991010234449474573361999171252316254608330350763691274836406122448075879672385123810043437110),(Fin.ofNat pN 1585883970529978240440447542531357286798319535283777953821222332988572154537685743080024088316898147945266006734229,Fin.ofNat pN 1199950435371321038801444568252619754865232185458154947547888299091533290374719175887487243483924298314521692640896)⟩,⟨(Fin.ofNat pN 539680322645145116303307080724512506916061293076076986331653724442803312168823473248951745543834568468985016018192,Fin.ofNat pN 330947745919527821020935030651470241082031533021947398364489188527539447216233841244275379210418719581070542826781),(Fin.ofNat pN 2840388762593808083854887012734212079940937394313433939075964079968561662327095766812093669054050452258812556988242,Fin.ofNat pN 1271087477349948860464878134423988809838951568518485035210370323344073046381427019486706281467574774810664877475006),(Fin.ofNat pN 1345172911928469554826095690452192193536251277879245666210791152025976408422338480113649465367816341649210158049872,Fin.ofNat pN 1279259221751448315889073431954539259164919195792295350465434707814361055056283259375646338710602467184442465537696)⟩⟩
def H9z:F12:=⟨⟨(Fin.ofNat pN 98106732922247232046294826107804893606305139741859558001246681532726008229110186069559361626155778899354839290029,Fin.ofNat pN 2411243288242059420409506076039276428512266365926037552111752313440190731179225607997767635017270349439125996541834),(Fin.ofNat pN 2683305819022892796578784263010312016630281780315918502717907372576263986315038237375049427928424388897634981744248,Fin.ofNat pN 1870984871590677877346426025150611738918673294100338707497423226557823273417581946975760616334842831725692553781629),(Fin.ofNat pN 903171389235868883618496292449982554898075432727674087719684362304278145783033445620564310952930377480405516675348,Fin.ofNat pN 1819359316961982648696825768698582274299360242409634863041377482942933471064999032389391165236518591424861661659287)⟩,⟨(Fin.ofNat pN 457111985964339394215082602979823100535751250453477664959867604692228216990684070412327237746464656400878374138801,Fin.ofNat pN 502984723173621339954754264046803050075774572219914713748582398159965021764554578891183923100504711802602552665285),(Fin.ofNat pN 2640050477330814279885157441741131018999714396598562331099342031892294696094537543469746068160999411027057098227449,Fin.ofNat pN 2071409662492255450081680890260136948544391128508396357468185123426989978172823109733930793773695755500081522451880),(Fin.ofNat pN 1960995731015872851914120175578467298837249548514409779124305159220363476158331129914137406356779751074802695718210,Fin.ofNat pN 2246652698136281584724567586591973504853788313445268011455423953644425428075236802067160117569429819651226986381160)⟩⟩
def z_k:F12:=⟨⟨(Fin.ofNat pN 2401374825597450984127428083886778337644341190388984269675656905526889902455464871488112779953122061980914084015627,Fin.ofNat pN 2002573687219449662830204240587858250317599430313095799709320566820374703996084385141861121356633254802253977005442),(Fin.ofNat pN 3028279613350765026686766544182751254971050611826720636750466900672147934953470256070613978883010391439840233039588,Fin.ofNat pN 113563191712000362484023995569751002965941426771432656414436981090548153168153165436169568691878515546864934063345),(Fin.ofNat pN 15926619643239591426244004989463640041964077289053150867841914989714656759647379537174094756804348567524660996161,Fin.ofNat pN 1242039391770747613095191879614623161493229154269781009074784183548557566148691418098416833958574980512020957096597)⟩,⟨(Fin.ofNat pN 1377471301864288773875207376836132346997850425982474070735104180086873075701088402671487761813379626372230361753011,Fin.ofNat pN 3996650402454757027033741545761153002323826409467514634645456909204926049390647711532283840580602421922103095498999),(Fin.ofNat pN 41477575491093855033356358056189574868021126231132968100478746941059237150029438438726833044575311207419300145074,Fin.ofNat pN 1538913964194847306977659048482806629761570585802346203836756708813652839556883533781659395162706067606825141172986),(Fin.ofNat pN 425177787079411383532193901153113668593604979273513396666908022467507682525509644178815151004253210926106638434847,Fin.ofNat pN 3790844062079063273287822571722747293097189621267254163247632636941166343249062812246594379468490316803630358033370)⟩⟩
def H6f:F12:=⟨⟨(Fin.ofNat pN 1667042345708070419051561625519587936806034409531841266916663139149953915205998567404362858522772230372082086094582,Fin.ofNat pN 3437817373131021689205664549780155164026124757413870440185591124697775710462235751290191498842729723379319900740864),(Fin.ofNat pN 659938351063045713926716963141256514447739931325349089274962832456851031048424782085835912511548513071289416037160,Fin.ofNat pN 1341428926685649574799879320318749353156815187271088507422303000753062905433258307523270708501978032101916009285180),(Fin.ofNat pN 3689343633790114316388231993709004216488319168813859576060002225143274376296668090363750101674050814005887551589089,Fin.ofNat pN 2001315625713703806156278750684520731550948356193894726325791348006222001483819132773543298947537351937972353650638)⟩,⟨(Fin.ofNat pN 481216225444322718561558488115314876606906210238678728932867832389518710512213195318367094975813752249100878257220,Fin.ofNat pN 1778834673223820708882458954526353049170808384078535194644831731357808336722832738569241134476033964292728397544953),(Fin.ofNat pN 3601263170187299039142445999154583152635569289440529331090812297804125171480875456318885032207544016349728771679617,Fin.ofNat pN 2430629910346950372191591246609581955075300475900246855024908579766680775506292273679230786327128731190283386148395),(Fin.ofNat pN 1640097916102042003386927967765177937077945952159730592908187555607938043869534479950929296109606219484738568004719,Fin.ofNat pN 728755275437950015357954111362561367923506359825613896330377006130440457008008692837086256192504474521012420072089)⟩⟩
def z_h:F12:=⟨⟨(Fin.ofNat pN 589055896229357724898813026054869815825554603540858908788846270893194342128751991900312984932966447265589736569909,Fin.ofNat pN 320427958109657041869379692559908404793796619625774746885991155990607055058040384097267113815331010298168116306256),(Fin.ofNat pN 2744403133323501671841198434832856269771829887670677899843169656323643382192377007201428600564486593249659009907030,Fin.ofNat pN 2577236299869553128161237059298146471014100777491865977984750362778165253841129007455936177074401637407700772649511),(Fin.ofNat pN 195699993267395131758873990524811073173159498239134340944798222534633870826741189623341201375634256998172026835738,Fin.ofNat pN 3170011443495801230657759963163855202807592978700577774985215654542021048213919951223480085387080773715964850322860)⟩,⟨(Fin.ofNat pN 274718449853617674732953425410784855940963274415847505017988429927800225750647380221213588344488594861147263785006,Fin.ofNat pN 2966405939729013929128381729816003720644517278365089684144754637428775823275783054933441074098778345695441693540028),(Fin.ofNat pN 162226513279583004105742026365510714474328488132412503427154872397901315541737263627976920130103632420214485281059,Fin.ofNat pN 2988801086179843009666969224200243185328171807879070484464131300685519059474955177901881716043929970206521420775480),(Fin.ofNat pN 2561092381359788845876785788483929967465700545835492137588793741038490148101334966006307156781842952010495524875943,Fin.ofNat pN 1499643895222903872588682936648400837777251264527259047453680292093350879251383278928800494600198552998245168396413)⟩⟩
theorem I0a:mil gPt.1 gPt.2 (hPt.1,hPt.2,(1:F2))=z_m:=by decide +kernel
theorem I3s:z_e*z_m=cj z_m:=by decide +kernel
theorem I3r:frb (frb z_e)*z_e=z_a:=by decide +kernel
theorem I3q:pwb z_a (btL 15132376222941642753 64 64)=H6e:=by decide +kernel
theorem I3u:pwb H6e (btL 5044125407647214251 63 63)=z_g:=by decide +kernel
theorem I3v:pwb z_g (btL 15132376222941642752 64 64)=H9z:=by decide +kernel
theorem I3y:cjp H9z*frb z_g=z_k:=by decide +kernel
theorem I3x:pwb z_k (btL 15132376222941642752 64 64)=H6f:=by decide +kernel
theorem I3w:pwb H6f (btL 15132376222941642752 64 64)=z_h:=by decide +kernel
theorem I0b:z_h*frb (frb z_k)*cjp z_k*z_a≠1:=by decide +kernel
end

section

theorem I3z:z_m≠0:=by decide +kernel
theorem I3t:et z_m=z_e:=(B6j H7 I3z I3s).symm
theorem G1u:A3h z_a=z_g:=by
 unfold A3h;rw[B1q z_a (btL 15132376222941642753 64 64) 15132376222941642753 (m:=15132376222941642753) (by decide +kernel) (by decide +kernel),I3q,
  B1q H6e (btL 5044125407647214251 63 63) 5044125407647214251 (m:=5044125407647214251) (by decide +kernel) (by decide +kernel),I3u]
theorem G1w:A2o z_g=z_k:=by
 unfold A2o;rw[B1q z_g (btL 15132376222941642752 64 64) 15132376222941642752 (m:=15132376222941642752) (by decide +kernel) (by decide +kernel),I3v,I3y]
theorem G1v:B6x z_k=z_h:=by
 unfold B6x;rw[B1q z_k (btL 15132376222941642752 64 64) 15132376222941642752 (m:=15132376222941642752) (by decide +kernel) (by decide +kernel),I3x,
  B1q H6f (btL 15132376222941642752 64 64) 15132376222941642752 (m:=15132376222941642752) (by decide +kernel) (by decide +kernel),I3w]
theorem G1t:A2n z_e≠1:=by
 unfold A2n;rw[I3r];unfold D2v;rw[G1u,G1w,G1v];exact I0b
theorem H8i:M4 (mil gPt.1 gPt.2 (hPt.1,hPt.2,1))=prg (some gPt) ptH:=F4s (x:=gPt.1) (y:=gPt.2) D8h H_r (q:=hPt) rfl rfl
theorem G7h:prg (some gPt) ptH≠1:=by
 rw[<-H8i,I0a,A3u,I3t];exact G1t
section
variable {G:Type} [J9 G]
theorem D3g {g:G}:∀(d n:Nat),A7 g d=1->A7 g n=1->A7 g (Nat.gcd d n)=1
 | 0,n,_,h=>by rw[Nat.gcd_zero_left];exact h
 | d+1,n,h1,h2=>by
  rw[Nat.gcd_succ];refine D3g (n % (d+1)) (d+1) ?_ h1
  have e:n=(d+1)*(n / (d+1))+n % (d+1):=(Nat.div_add_mod n (d+1)).symm;have h3:A7 g ((d+1)*(n / (d+1))+n % (d+1))=1:=by rw[<-e];exact h2
  rw[A0d,W8,h1,B1r] at h3;generalize A7 g (n % (d+1))=u at *;clear h1 h2 e;grind
 termination_by d=>d
 decreasing_by exact Nat.mod_lt _ (Nat.succ_pos d)
theorem F2m {g:G} {r n:Nat} (hr:Ir r) (hg:g≠1) (h1:A7 g r=1) (h2:A7 g n=1):r ∣ n:=by
 have k:=D3g n r h2 h1;rcases hr _ (Nat.gcd_dvd_right n r) with h | h
 ·rw[h] at k
  exact absurd ((C0h g).symm.trans k) hg
 ·have:=Nat.gcd_dvd_left n r
  rwa [h] at this
end
theorem G7t {P:Pt Fp} (hP:OnC fp4 P) (hr:G7 P rN=none) {A:CP fq4} (hA:SQ A):A7 (prg P A) rN=1:=by
 rw[<-B5k hP hA rN,hr];exact C5z A
theorem G8f:G7 (some gPt) rN=none:=(A4s cv1 ptG rN).symm.trans (congrArg Subtype.val G_r)
theorem H7c:A7 (prg (some gPt) ptH) rN=1:=G7t (P:=some gPt) D8h G8f H_r
theorem F7m (i j:Nat):prg (G7 (some gPt) i) (mlt ptH j)=A7 (prg (some gPt) ptH) (i*j):=by
 rw[F7l (W9 cv1 (P:=some gPt) D8h i) H_r j,B5k (P:=some gPt) D8h H_r i,<-W8]
/-- When powers of the generators' pairing are 1. -/
theorem G8y (n:Nat):A7 (prg (some gPt) ptH) n=1↔rN ∣ n:=by
 constructor
 ·exact F2m H0g G7h H7c
 ·rintro ⟨k,rfl⟩
  rw[W8,H7c,B1r]
end

section

theorem A9c (x:F12):D8l (A0s x)=x:=E2.ext' (E3.ext' (A0e _) (A0e _) (A0e _)) (E3.ext' (A0e _) (A0e _) (A0e _))
theorem E7h {x y:F12} (h:A0s x=A0s y):x=y:=by rw[<-A9c x,h,A9c]
theorem G4h:A0s 1=E7g:=by decide +kernel
theorem H0c:D8l z12=0:=by decide +kernel
theorem C9z {x:F12}:A0s x=E7g↔x=1:=by rw[<-G4h];exact ⟨E7h,fun h=>by rw[h]⟩
theorem D7r {a:G1D} {b:G2D} (ha:onG a=true) (hb:I6 b=true) (ga:grp a=true) (gb:A2p b=true):I9 a b=0:=by
 unfold I9;rw[ha,hb,ga,gb];rfl
theorem H7t {a:G1D} (ha:onG a=true) (ga:grp a=true):G7 (pG a) rN=none:=by
 have k:=F2q (A0z ha).2;rw[(A0z ha).1,ga] at k;exact of_decide_eq_true k.symm
theorem C0j {a:G1D} (ha:onG a=true) (h:G7 (pG a) rN=none):grp a=true:=by
 have k:=F2q (A0z ha).2;rw[(A0z ha).1] at k;rw[k];exact decide_eq_true h
/-- A point of the second curve, as one of the group. -/
def ptQ (b:G2D) (h:I6 b=true):CP fq4:=⟨pG2 b,(A0h h).2⟩
section
variable {F:Type} [Fld F] [DecidableEq F] {b:F}
theorem H0t (hc:Cv b) {X:CP b} {n:Nat} (h:G7 X.1 n=none):letI:=Q9 hc;mlt X n=0:=Subtype.ext ((A4s hc X n).trans h)
theorem H1e (hc:Cv b) {X:CP b} {n:Nat} (h:letI:=Q9 hc;mlt X n=0):G7 X.1 n=none:=(A4s hc X n).symm.trans (congrArg Subtype.val h)
end
theorem F2p {b:G2D} (hb:I6 b=true) (gb:A2p b=true):SQ (ptQ b hb):=by
 have k:=E2u (A0h hb).2;rw[(A0h hb).1,gb] at k;exact H0t cv2 (X:=ptQ b hb) (of_decide_eq_true k.symm)
theorem B7m {b:G2D} (hb:I6 b=true) (h:SQ (ptQ b hb)):A2p b=true:=by
 have k:=E2u (A0h hb).2;rw[(A0h hb).1] at k;rw[k];exact decide_eq_true (H1e cv2 (X:=ptQ b hb) h)
theorem G9g:et (1:F12)=1:=C7v H7
theorem G1x {x:F12} (h:et x=1):M4 x=1:=by
 rw[A3u,h,D8d]
theorem B4d:M4 1=1:=G1x G9g
theorem H1r {a:G1D} (h:a.inf=true):pG a=none:=if_pos h
theorem G4q {b:G2D} (h:b.inf=true):pG2 b=none:=if_pos h
theorem F6t {a:G1D} (h:a.inf=false):pG a=some (inP a.x,inP a.y):=if_neg (by rw[h];decide)
theorem G4o {b:G2D} (h:b.inf=false):pG2 b=some (G2 b.xa b.xb,G2 b.ya b.yb):=if_neg (by rw[h];decide)
theorem F2w {b:G2D} (h:b.inf=false):A3x b=(G2 b.xa b.xb,G2 b.ya b.yb,1):=(if_neg (by rw[h];decide)).trans (by rw[E2p])
theorem D8w {a:G1D} {b:G2D} (ha:onG a=true) (hb:I6 b=true) (gb:A2p b=true):M4 (A4r a b)=prg (pG a) (ptQ b hb):=by
 cases h1:a.inf with
 | true=>
  have e:A4r a b=1:=if_pos (by rw[h1];rfl)
  rw[e,B4d,H1r h1,C5z]
 | false=>
  cases h2:b.inf with
  | true=>
   have e:A4r a b=1:=if_pos (by rw[h1,h2];rfl)
   have e2:ptQ b hb=0:=Subtype.ext (G4q h2);rw[e,B4d,e2,E7s (A0z ha).2]
  | false=>
   have e:A4r a b=mil (inP a.x) (inP a.y) (A3x b):=if_neg (by rw[h1,h2];decide)
   have o:=(A0z ha).2;rw[F6t h1] at o;rw[e,F6t h1];exact F4s o (F2p hb gb) (q:=(G2 b.xa b.xb,G2 b.ya b.yb)) (G4o h2) (F2w h2)
theorem G4w {a:G1D} {b:G2D} (ha:onG a=true) (hb:I6 b=true) (ga:grp a=true) (gb:A2p b=true):A5g a b=(A0s (prg (pG a) (ptQ b hb)),0):=by
 rw[<-D8w ha hb gb];exact if_neg (by rw[D7r ha hb ga gb];decide)
theorem D9i:pG A1y=some gPt:=by decide +kernel
theorem G4p:pG2 P4=some hPt:=by decide +kernel
theorem B5b:onG A1y=true:=by decide +kernel
theorem A2y:I6 P4=true:=by decide +kernel
theorem E2v:grp A1y=true:=C0j B5b (by rw[D9i];exact G8f)
theorem B7s:ptQ P4 A2y=ptH:=Subtype.ext G4p
theorem B1s:A2p P4=true:=B7m A2y (by rw[B7s];exact H_r)
theorem D5g:A5g A1y P4=(A0s (prg (some gPt) ptH),0):=by
 rw[G4w B5b A2y E2v B1s,B7s,D9i]
theorem F5i {x y:V12} (h:x≠y):neV x y=true:=by
 have:eqV x y=false:=Bool.eq_false_iff.2 fun e=>h (G9f.1 e)
 show (!eqV x y)=true;rw[this];rfl
theorem D9n {x:F12} (h:x=0):∀n,A7 x (n+1)=0:=by
 intro n;show A7 x n*x=0;rw[h];generalize A7 (0:F12) n=u;grind
theorem H3c:rN=(rN-1)+1:=by decide +kernel
theorem H1x {P:Pt Fp} (hP:OnC fp4 P) (hr:G7 P rN=none) {A:CP fq4} (hA:SQ A):prg P A≠0:=fun e=>by
 have k:=G7t hP hr hA;have z:=D9n e (rN-1);rw[<-H3c] at z;exact D4x (k.symm.trans z)
theorem H1n {x:F12} (h:x≠0):A0s x≠z12:=fun e=>h (by rw[<-A9c x,e,H0c])
theorem F2j:neV (A5g A1y P4).1 z12=true:=by
 rw[D5g];exact F5i (H1n (H1x (P:=some gPt) D8h G8f H_r))
theorem D8i:neV (A5g A1y P4).1 E7g=true:=by
 rw[D5g];exact F5i fun e=>G7h (C9z.1 e)
theorem E9q {x:Ctx} {b:Bool} {v:Value} (h:B8 x (.v (.c (.bool b))) v):B8 x (.v (.c (.lit b))) v:=by
 rw[B3o h];exact ⟨rfl,0,rfl⟩
/-- The laws' generators pair to neither 0 nor 1. -/
theorem E4w:FnD Tryz.prog 9 [] (.v (.c (.lit true))) []:=by
 have r:=I0j;rw[D8i] at r;exact (A6 E0y Tryz.func9 r ⟨rfl,F2j,trivial⟩).conv (fun _ _ h=>h) fun y v hd=>E9q hd
end

section

def C7a:B7
 | []=>some ([],.v (.c (.lit true)),[])
 | _=>none
def uyP:Env:=uyO.set (E1 uyO.fn 9 C7a)
theorem H5z:A8 Tryz.prog uyP:=B0 H5y 9 C7a (A5 Tryz.func9 rfl rfl) fun args o r es h _=>by
 unfold C7a at h;split at h
 ·cases h;exact E4w
 ·cases h
end

section
section
variable {w0:World} {F0:Nat->Prop} {K:Kp} {ac:List Act} {Q:Exit->Act->World->Prop} {cX:Ctx} {aX:Act}

instance:Inhabited G1D:=⟨g10⟩
instance:Inhabited G2D:=⟨g20⟩
def pxA:Env:=(uzB.or S4.gK).or uyP
theorem H2c:A8 Tryz.prog pxA:=A8y (A8y M6 S4.F2e) H5z
def A6j:B7
 | [.v (.c (.sl (.g1 la))),.v (.c (.sl (.g2 lb)))]=>some ([],.t [.c (.bool (pcD la lb).1),.c (.int .i64 (pcD la lb).2)],[])
 | _=>none
def pxB:Env:=pxA.set (E1 pxA.fn 18 A6j)
theorem D9r:A8 Tryz.prog pxB:=B0 H2c 18 A6j (A5 Tryz.func18 rfl rfl) fun args o r es h _=>by
 unfold A6j at h;split at h
 ·cases h;exact D9j _ _
 ·cases h
theorem I3o (a b:U4):B9 pxB Tryz.f17 3000 [.v (.a [.ob (.fr a)]),.v (.a [.ob (.fr b)])] [] [] []=(some ([],((.v (.a [(.ob (.fr (S4.Y0 ((S4.inF a)+(S4.inF b)))))])),[]))):=by kernel_rfl
theorem I3p (k:U4):B9 pxB Tryz.f19 3000 [.v (.a [.ob (.fr k)])] [] [] []=(some ([],((.v (.a [(.ob (.fr (S4.Y0 ((0:Fr)-(S4.inF k)))))])),[]))):=by kernel_rfl
theorem G6x (a b:U4):FnD Tryz.prog 17 [.v (.a [.ob (.fr a)]),.v (.a [.ob (.fr b)])] (.v (.a [.ob (.fr (S4.Y0 (S4.inF a+S4.inF b)))])) []:=A6 D9r Tryz.func17 (I3o a b) trivial
theorem G6y (k:U4):FnD Tryz.prog 19 [.v (.a [.ob (.fr k)])] (.v (.a [.ob (.fr (S4.Y0 (0-S4.inF k)))])) []:=A6 D9r Tryz.func19 (I3p k) trivial
def D1l:B7
 | [.v (.a [.ob (.fr a)]),.v (.a [.ob (.fr b)])]=>some ([],.v (.a [.ob (.fr (S4.Y0 (S4.inF a+S4.inF b)))]),[])
 | _=>none
def pxC:Env:=pxB.set (E1 pxB.fn 17 D1l)
theorem H2d:A8 Tryz.prog pxC:=B0 D9r 17 D1l (A5 Tryz.func17 rfl rfl) fun args o r es h _=>by
 unfold D1l at h;split at h
 ·cases h;exact G6x _ _
 ·cases h
def D1m:B7
 | [.v (.a [.ob (.fr k)])]=>some ([],.v (.a [.ob (.fr (S4.Y0 (0-S4.inF k)))]),[])
 | _=>none
def pxD:Env:=pxC.set (E1 pxC.fn 19 D1m)
theorem B5n:A8 Tryz.prog pxD:=B0 H2d 19 D1m (A5 Tryz.func19 rfl rfl) fun args o r es h _=>by
 unfold D1m at h;split at h
 ·cases h;exact G6y _
 ·cases h
def D9s:List KI:=(run pxD false 3000 ((fun (ks ls:List U4) (bad:Int) (a:G1D) (b:G2D)=>(⟨[.code (C5 Tryz.f4)],.normal,F9 Tryz.f4.ntmps [.v (.c (.sl (.fr ks))),.v (.c (.sl (.fr ls))),.v (.c (.int .i64 bad)),.v (.a a.its),.v (.a b.its)]⟩:Cfg)) default default default default default) []).cfg.k
theorem px (ks ls:List U4) (bad:Int) (a:G1D) (b:G2D):let g:=Value.slice Option.none 0 0;let h:Int:=ls.length;let i:Int:=ks.length;let d:=ite (h<i) h i;let f:=ite ((4:Int)<d) (4:Int) d;A9 []->Sg Tryz.prog (F9 Tryz.f4.ntmps [.v (.c (.sl (.fr ks))),.v (.c (.sl (.fr ls))),.v (.c (.int .i64 bad)),.v (.a a.its),.v (.a b.its)]) (B2 190 [0,1,2,8,9,11,12,13,14,34,35] [(.ci (.sl (.fr ks))),(.ci (.sl (.fr ls))),.ii bad,.pt 16 0,.pt 32 0,(.ii f),(.ci (.val g)),(.ci (.val g)),.pt 208 0,(.ii f),.ii (0:Int)] [16,32,208] [(eF_ [(.ob (.fp (G1D.x a))),(.ob (.fp (G1D.y a))),(.bool (G1D.inf a))]),(eF_ [(.ob (.fp (G2D.xa b))),(.ob (.fp (G2D.xb b))),(.ob (.fp (G2D.ya b))),(.ob (.fp (G2D.yb b))),(.bool (G2D.inf b))]),(eF_ [(.ob (.fr (0:U4)))])] 272 [] []) .normal (D9s) ([.code (C5 Tryz.f4)]):=fun ho=>fun hs hK=>
 B1 (unroll:=false) (n:=3000) (path:=[]) (o:=⟨_,_,_,_,_,_,_⟩) B5n (by kernel_rfl) (by kernel_rfl) ho hs hK
def pxS (ks ls:List U4) (bad:Int) (a:G1D) (b:G2D) (n i:Int) (m:Nat) (la:List G1D) (lb:List G2D) (s:U4):St:=B2 190 [0,1,2,8,9,11,12,13,14,34,35] [(.ci (.sl (.fr ks))),(.ci (.sl (.fr ls))),.ii bad,.pt 16 0,.pt 32 0,.v (.c (.int .i64 n)),.v (.c (.slc 17 0 m 13)),.v (.c (.slc 18 0 m 25)),.pt 208 0,.v (.c (.int .i64 n)),.v (.c (.int .i64 i))] [16,17,18,32,208] [(eF_ [(.ob (.fp (G1D.x a))),(.ob (.fp (G1D.y a))),(.bool (G1D.inf a))]),some (.sq (.g1 la)),some (.sq (.g2 lb)),(eF_ [(.ob (.fp (G2D.xa b))),(.ob (.fp (G2D.xb b))),(.ob (.fp (G2D.ya b))),(.ob (.fp (G2D.yb b))),(.bool (G2D.inf b))]),some (.fl [.ob (.fr s)])] 272 [] []
section
variable (ks ls:List U4) (bad:Int) (a:G1D) (b:G2D) (n i:Int) (m:Nat) (la:List G1D) (lb:List G2D) (s:U4)
theorem pxR:let c:=ks.getD i.toNat 0;let d:=ls.getD i.toNat 0;let f:=la.length+1;let g:=lb.length+1;let h:=i<(ks.length:Int);let j:=i<(ls.length:Int);A9 [((decide (i<n))=true),(0<=i),h,(0<=i),j,(((Prod.snd (muR A1y c)) != (0:Int))=false),(((Prod.snd (C3x P4 d)) != (0:Int))=false),((f*104)<=140737488355328),(f<=maxLen),(m=la.length),(1=1),((g*200)<=140737488355328),(g<=maxLen),(m=lb.length),(1=1),(0<=i),h,(0<=i),j]->Sg Tryz.prog (pxS ks ls bad a b n i m la lb s) (B2 190 [0,1,2,8,9,11,12,13,14,34,35] [(.ci (.sl (.fr ks))),(.ci (.sl (.fr ls))),.ii bad,.pt 16 0,.pt 32 0,.ii n,(.ci (.slc 17 0 f 13)),(.ci (.slc 18 0 g 25)),.pt 208 0,.ii n,(.ii (wrap .i64 (i+1)))] [16,17,18,32,208] [(eF_ [(.ob (.fp (G1D.x a))),(.ob (.fp (G1D.y a))),(.bool (G1D.inf a))]),(eQ_ (Sq.g1 (la++[(Prod.fst (muR A1y c))]))),(eQ_ (Sq.g2 (lb++[(Prod.fst (C3x P4 d))]))),(eF_ [(.ob (.fp (G2D.xa b))),(.ob (.fp (G2D.xb b))),(.ob (.fp (G2D.ya b))),(.ob (.fp (G2D.yb b))),(.bool (G2D.inf b))]),(eF_ [(.ob (.fr (S4.Y0 ((S4.inF s)+(S4.inF (S4.Y0 ((S4.inF c)*(S4.inF d))))))))])] 1184 [] []) .normal (S5 D9s) (G6 D9s):=fun ho=>fun hs hK=>
 B1 (unroll:=false) (n:=3000) (path:=[true,false,false]) (o:=⟨_,_,_,_,_,_,_⟩) B5n (by kernel_rfl) (by kernel_rfl) ho hs hK
def E4h:List KI:=(run pxD false 90 ((fun (ks ls:List U4) (bad:Int) (a:G1D) (b:G2D) (n i:Int) (m:Nat) (la:List G1D) (lb:List G2D) (s:U4)=>(⟨G6 D9s,.normal,pxS ks ls bad a b n i m la lb s⟩:Cfg)) default default default default default default default default default default default) [false,false,false,false,false,false,false]).cfg.k
theorem pxM:let c:=muR A1y (S4.Y0 ((0:Fr)-(S4.inF s)));let f:=lb.length+1;let g:=la++[(Prod.fst c)];let h:=((0+lb.length)*200)<=140737488355328;let j:=m=la.length;let k:=m=lb.length;let l:=la.length+1;let o:=(f*200)<=140737488355328;let p:=(0+lb.length)=lb.length;let q:=lb++[P4];let r:=decide (s=(0:U4));let d:=(Prod.fst (pcD la lb)) == (ite (true=true) r (Bool.not r));let t:=(0+lb.length)<=maxLen;let u:Int:=0;A9 [((decide (i<n))=false),(0=0),j,(13=13),(0=0),k,(25=25),(((0+la.length)*104)<=140737488355328),((0+la.length)<=maxLen),(0=0),j,((l*104)<=140737488355328),(l<=maxLen),((0+la.length)=la.length),(1=1),h,t,(0=0),k,o,(f<=maxLen),p,(1=1),(0=0),(l=g.length),(13=13),(0=0),(f=q.length),(25=25),(((Prod.snd (pcD la lb)) != u)=false),((ite (false=true) d (Bool.not d))=false),(((Prod.snd c) != u)=false),(((Prod.snd (pcD g q)) != u)=false),((Bool.not (Prod.fst (pcD g q)))=false),h,t,(0=0),k,o,(f<=maxLen),p,(1=1),(0=0),j,(13=13),(0=0),(f=(lb++[b]).length),(25=25),(((Prod.snd (pcD la (lb++[b]))) != (3:Int))=false)]->Sg Tryz.prog (pxS ks ls bad a b n i m la lb s) (B2 190 [2,8,9,11,12,13,150] [.ii bad,.pt 16 0,.pt 32 0,.ii n,(.ci (.slc 17 0 m 13)),(.ci (.slc 18 0 m 25)),(.ci (.bool (n == u)))] [16,17,18,32] [(eF_ [(.ob (.fp (G1D.x a))),(.ob (.fp (G1D.y a))),(.bool (G1D.inf a))]),(eQ_ (Sq.g1 la)),(eQ_ (Sq.g2 lb)),(eF_ [(.ob (.fp (G2D.xa b))),(.ob (.fp (G2D.xb b))),(.ob (.fp (G2D.ya b))),(.ob (.fp (G2D.yb b))),(.bool (G2D.inf b))])] 1536 [] []) .normal (E4h) (G6 D9s):=fun ho=>fun hs hK=>
 B1 (unroll:=false) (n:=90) (path:=[false,false,false,false,false,false,false]) (o:=⟨_,_,_,_,_,_,_⟩) B5n (by kernel_rfl) (by kernel_rfl) ho hs hK
def pxT (bad:Int) (a:G1D) (b:G2D) (n:Int) (m:Nat) (la:List G1D) (lb:List G2D):St:=B2 190 [2,8,9,11,12,13,150] [.ii bad,.pt 16 0,.pt 32 0,.ii n,(.ci (.slc 17 0 m 13)),(.ci (.slc 18 0 m 25)),(.ci (.bool (n == (0:Int))))] [16,17,18,32] [(eF_ [(.ob (.fp (G1D.x a))),(.ob (.fp (G1D.y a))),(.bool (G1D.inf a))]),(eQ_ (Sq.g1 la)),(eQ_ (Sq.g2 lb)),(eF_ [(.ob (.fp (G2D.xa b))),(.ob (.fp (G2D.xb b))),(.ob (.fp (G2D.ya b))),(.ob (.fp (G2D.yb b))),(.bool (G2D.inf b))])] 1536 [] []
end
theorem G5k (bad:Int) (a:G1D) (b:G2D) (n:Int) (m:Nat) (la:List G1D) (lb:List G2D):J7 pxD Tryz.f4 false 3000 (⟨E4h,.normal,pxT bad a b n m la lb⟩) [true] [] []=(some ([((n == (0:Int))=true)],((.ci (.lit true)),[]))):=by kernel_rfl
theorem G5i (bad:Int) (a:G1D) (b:G2D) (n:Int) (m:Nat) (la:List G1D) (lb:List G2D):let c:=Int.tmod (wrap .i64 ((Int.tmod bad n)+n)) n;let f:Int:=0;let g:=List.set la (c).toNat a;let h:=List.set lb (c).toNat b;let d:=Prod.snd (pcD g h);let i:=c<((m:Nat):Int);J7 pxD Tryz.f4 false 3000 (⟨E4h,.normal,pxT bad a b n m la lb⟩) [false,true,true] [] []=(some ([((n == f)=false),(n≠f),(n≠f),(0<=c),i,(0=0),((c).toNat<la.length),(n≠f),(n≠f),(0<=c),i,(0=0),((c).toNat<lb.length),(0=0),(m=g.length),(13=13),(0=0),(m=h.length),(25=25),((d == (I9 a b))=true),((d == f)=true)],((.ci (.lit true)),[]))):=by intros;kernel_rfl
theorem G5j (bad:Int) (a:G1D) (b:G2D) (n:Int) (m:Nat) (la:List G1D) (lb:List G2D):let c:=Int.tmod (wrap .i64 ((Int.tmod bad n)+n)) n;let f:Int:=0;let g:=List.set la (c).toNat a;let h:=List.set lb (c).toNat b;let d:=pcD g h;let i:=c<((m:Nat):Int);J7 pxD Tryz.f4 false 3000 (⟨E4h,.normal,pxT bad a b n m la lb⟩) [false,false,true] [] []=(some ([((n == f)=false),(n≠f),(n≠f),(0<=c),i,(0=0),((c).toNat<la.length),(n≠f),(n≠f),(0<=c),i,(0=0),((c).toNat<lb.length),(0=0),(m=g.length),(13=13),(0=0),(m=h.length),(25=25),(((Prod.snd d) == (I9 a b))=true),(((Prod.snd d) == f)=false)],((.ci (.bool (Bool.not (Prod.fst d)))),[]))):=by intros;kernel_rfl
end
end

section
section
variable {w0:World} {F0:Nat->Prop} {K:Kp} {ac:List Act} {Q:Exit->Act->World->Prop} {cX:Ctx} {aX:Act}

def D2j:List KI:=(run C7s false 3000 ((fun (k:U4)=>(⟨[.code (C5 Tryz.f129)],.normal,F9 Tryz.f129.ntmps [.v (.a [.ob (.fr k)])]⟩:Cfg)) default) []).cfg.k
theorem di (k:U4) (ho:A9 []):Sg Tryz.prog (F9 Tryz.f129.ntmps [.v (.a [.ob (.fr k)])]) (B2 49 [1,3,4,5] [.pt 16 0,(.ci (.val (Value.slice Option.none 0 0))),.ii (0:Int),.ii (0:Int)] [16] [(eF_ [.ob (.fr k)])] 96 [] []) .normal (D2j) ([.code (C5 Tryz.f129)]):=fun hs hK=>
 B1 (unroll:=false) (n:=3000) (path:=[]) (o:=⟨_,_,_,_,_,_,_⟩) A0b (by kernel_rfl) (by kernel_rfl) ho hs hK
def diS (k:U4) (L:List Int) (n:Nat) (c i:Int):St:=B2 49 [1,3,4,5] [.pt 16 0,.v (.c (.slc 17 0 n 1)),.v (.c (.int .i64 c)),.v (.c (.int .i64 i))] [16,17] [(eF_ [.ob (.fr k)]),some (.sq (.int L))] 96 [] []
def B1e:List KI:=(run C7s false 3000 ((fun (k:U4) (L:List Int) (n:Nat) (c i:Int)=>(⟨G6 D2j,.normal,diS k L n c i⟩:Cfg)) default default default default default) [true]).cfg.k
theorem diA (k:U4) (L:List Int) (n:Nat) (c i:Int) (ho:A9 [((decide (i<(256:Int)))=true)]):Sg Tryz.prog (diS k L n c i) (B2 49 [1,3,5,6,18] [.pt 16 0,(.ci (.slc 17 0 n 1)),.ii i,.ii c,.ii (0:Int)] [16,17] [(eF_ [.ob (.fr k)]),(eQ_ (.int L))] 240 [] []) .normal (B1e) (G6 D2j):=fun hs hK=>
 B1 (unroll:=false) (n:=3000) (path:=[true]) (o:=⟨_,_,_,_,_,_,_⟩) A0b (by kernel_rfl) (by kernel_rfl) ho hs hK
def diI (k:U4) (L:List Int) (n:Nat) (i d j:Int):St:=B2 49 [1,3,5,6,18] [.pt 16 0,(.ci (.slc 17 0 n 1)),.ii i,.v (.c (.int .i64 d)),.v (.c (.int .i64 j))] [16,17] [(eF_ [.ob (.fr k)]),(eQ_ (.int L))] 240 [] []
section
variable (k:U4) (L:List Int) (n:Nat) (i d j:Int)
theorem diB:let b:=wrap .i64 (i+j);let c:Int:=64;let a:=wrap .i64 (Int.tdiv b c);let f:=Int.tmod b c;A9 [((decide (j<(5:Int)))=true),((decide (b<(256:Int)))=true),(c≠(0:Int)),(0<=a),(a<(4:Int)),((0+((a).toNat*1))<(Ob.k (.fr k))),(c≠(0:Int)),(0<=f),(0<=j)]->Sg Tryz.prog (diI k L n i d j) (B2 49 [1,3,5,6,18] [.pt 16 0,(.ci (.slc 17 0 n 1)),.ii i,(.ii (wrap .i64 (d+(wrap .i64 ((wrap .i64 (I8 BinOp.and IntKind.u64 (Int.fdiv (A0 (Ob.n (.fr k)) (0+((a).toNat*1))) ((2:Int) ^ (Min.min (f).toNat 64))) (1:Int)))*((2:Int) ^ (Min.min (j).toNat 64))))))),(.ii (wrap .i64 (j+1)))] [16,17] [(eF_ [.ob (.fr k)]),(eQ_ (.int L))] 640 [] []) .normal (S5 B1e) (G6 B1e):=fun ho=>fun hs hK=>
 B1 (unroll:=false) (n:=3000) (path:=[true,true]) (o:=⟨_,_,_,_,_,_,_⟩) A0b (by kernel_rfl) (by kernel_rfl) ho hs hK
theorem diC (ho:A9 [((decide (j<(5:Int)))=true),((decide ((wrap .i64 (i+j))<(256:Int)))=false)]):Sg Tryz.prog (diI k L n i d j) (B2 49 [1,3,5,6,18] [.pt 16 0,(.ci (.slc 17 0 n 1)),.ii i,.ii d,(.ii (wrap .i64 (j+1)))] [16,17] [(eF_ [.ob (.fr k)]),(eQ_ (.int L))] 416 [] []) .normal (S5 B1e) (G6 B1e):=fun hs hK=>
 B1 (unroll:=false) (n:=3000) (path:=[true,false]) (o:=⟨_,_,_,_,_,_,_⟩) A0b (by kernel_rfl) (by kernel_rfl) ho hs hK
theorem diD:let a:=L.length+1;A9 [((decide (j<(5:Int)))=false),((decide (d > (16:Int)))=true),((a*8)<=140737488355328),(a<=maxLen),(n=L.length),(1=1)]->Sg Tryz.prog (diI k L n i d j) (B2 49 [1,3,4,5] [.pt 16 0,(.ci (.slc 17 0 a 1)),.ii (1:Int),(.ii (wrap .i64 (i+(5:Int))))] [16,17] [(eF_ [.ob (.fr k)]),(eQ_ (.int (L++[(wrap .i64 (d-(32:Int)))])))] 496 [] []) .normal (S5 D2j) (G6 B1e):=fun ho=>fun hs hK=>
 B1 (unroll:=false) (n:=3000) (path:=[false,true]) (o:=⟨_,_,_,_,_,_,_⟩) A0b (by kernel_rfl) (by kernel_rfl) ho hs hK
theorem diE:let a:=L.length+1;A9 [((decide (j<(5:Int)))=false),((decide (d > (16:Int)))=false),((a*8)<=140737488355328),(a<=maxLen),(n=L.length),(1=1)]->Sg Tryz.prog (diI k L n i d j) (B2 49 [1,3,4,5] [.pt 16 0,(.ci (.slc 17 0 a 1)),.ii (0:Int),(.ii (wrap .i64 (i+(5:Int))))] [16,17] [(eF_ [.ob (.fr k)]),(eQ_ (.int (L++[d])))] 432 [] []) .normal (S5 D2j) (G6 B1e):=fun ho=>fun hs hK=>
 B1 (unroll:=false) (n:=3000) (path:=[false,false]) (o:=⟨_,_,_,_,_,_,_⟩) A0b (by kernel_rfl) (by kernel_rfl) ho hs hK
end
theorem G1a (k:U4) (L:List Int) (n:Nat) (c i:Int):J7 C7s Tryz.f129 false 3000 (⟨G6 D2j,.normal,diS k L n c i⟩) [false,false] [] [17]=(some ([((decide (i<(256:Int)))=false),((decide (c > (0:Int)))=false),(n=L.length)],((.ci (.sl (.int L))),[]))):=by kernel_rfl
end
end

section

/-- One bit, as it is reckoned. -/
theorem E5a (k:U4) {m j:Nat} (h:m+j<256) (hj:j<5):wrap IntKind.i64 ((wrap IntKind.i64 (I8 BinOp.and IntKind.u64 (Int.fdiv (A0 (Ob.n (Ob.fr k)) (0+(((wrap IntKind.i64 (Int.tdiv (wrap IntKind.i64 ((m:Int)+(j:Int))) (64:Int)))).toNat*1))) ((2:Int) ^ (Min.min ((Int.tmod (wrap IntKind.i64 ((m:Int)+(j:Int))) (64:Int))).toNat 64))) (1:Int)))*((2:Int) ^ (Min.min ((j:Int)).toNat 64)))=((k.val / 2 ^ (m+j) % 2*2 ^ j:Nat):Int):=by
 rw[C9 (n:=(m:Int)+(j:Int)) (by omega) (by omega),<-Int.natCast_add]
 generalize hi:m+j=i at *;have e1:Int.tdiv (i:Int) (64:Int)=((i / 64:Nat):Int):=Int.tdiv_eq_ediv_of_nonneg (by omega)
 have e2:Int.tmod (i:Int) (64:Int)=((i % 64:Nat):Int):=Int.tmod_eq_emod_of_nonneg (by omega)
 rw[e1,e2,C9 (n:=((i / 64:Nat):Int)) (by omega) (by omega),Int.toNat_natCast,Int.toNat_natCast,Int.toNat_natCast]
 have e3:Min.min (i % 64) 64=i % 64:=by omega
 have e4:0+i / 64*1=i / 64:=by omega
 have e5:Min.min j 64=j:=by omega
 rw[e3,e4,e5];have hl:A0 (Ob.n (Ob.fr k)) (i / 64)=((k.val / 2 ^ (64*(i / 64)) % 18446744073709551616:Nat):Int):=rfl;rw[hl];have hb:k.val / 2 ^ (64*(i / 64)) % 18446744073709551616 / 2 ^ (i % 64) % 2=k.val / 2 ^ i % 2:=by
  have h64:18446744073709551616=2 ^ (i % 64)*(2*2 ^ (63-i % 64)):=by
   rw[<-Nat.pow_succ',<-Nat.pow_add,show i % 64+(63-i % 64+1)=64 from by omega]
  rw[h64,Nat.mod_mul_right_div_self,Nat.mod_mul_right_mod,Nat.div_div_eq_div_mul,<-Nat.pow_add,show 64*(i / 64)+i % 64=i from Nat.div_add_mod i 64]
 rw[<-hb];have hlt:k.val / 2 ^ (64*(i / 64)) % 18446744073709551616<18446744073709551616:=Nat.mod_lt _ (by decide)
 generalize k.val / 2 ^ (64*(i / 64)) % 18446744073709551616=w at *;have hp:((2:Int) ^ (i % 64))=((2 ^ (i % 64):Nat):Int):=by simp
 have hp2:((2:Int) ^ j)=((2 ^ j:Nat):Int):=by simp
 rw[hp,hp2,Int.fdiv_eq_ediv_of_nonneg _ (Int.natCast_nonneg _),<-Int.natCast_ediv];generalize w / 2 ^ (i % 64)=v;have ha:I8 BinOp.and IntKind.u64 (v:Int) (1:Int)=((v % 2:Nat):Int):=by
  show wrap IntKind.u64 ((BitVec.ofInt 64 (v:Int) &&& BitVec.ofInt 64 ((1:Nat):Int)).toNat:Int)=_;rw[BitVec.ofInt_natCast,BitVec.ofInt_natCast,BitVec.toNat_and,BitVec.toNat_ofNat,BitVec.toNat_ofNat];have e:1 % 2 ^ 64=2 ^ 1-1:=by decide
  rw[e,Nat.and_two_pow_sub_one_eq_mod];show (((v % 2 ^ 64 % 2 ^ 1:Nat):Int)) % 18446744073709551616=_;omega
 have h32:2 ^ j<=2 ^ 4:=Nat.pow_le_pow_right (by decide) (by omega)
 have h2:v % 2<2:=Nat.mod_lt _ (by decide)
 have hm:v % 2*2 ^ j<=1*2 ^ 4:=Nat.mul_le_mul (by omega) h32
 rw[ha,C9 (n:=((v % 2:Nat):Int)) (by omega) (by omega),<-Int.natCast_mul,C9 (by omega) (by omega)]

theorem F9m (k m j:Nat):k / 2 ^ m % 2 ^ (j+1)=k / 2 ^ m % 2 ^ j+k / 2 ^ (m+j) % 2*2 ^ j:=by
 rw[Nat.pow_succ,Nat.mod_mul,Nat.div_div_eq_div_mul,<-Nat.pow_add,Nat.mul_comm (2 ^ j)]
theorem H6c (k m:Nat):k / 2 ^ (5*m) % 2 ^ 5=k / 32 ^ m % 32:=by
 rw[Nat.pow_mul]
theorem G8a (k:U4):k.val<2 ^ 256:=by
 have h:B4=2 ^ 256:=by decide +kernel
 rw[<-h];exact k.isLt

theorem D7x (k:U4) {N:Nat} (hN:N=52):FnD Tryz.prog 129 [.v (.a [.ob (.fr k)])] (.v (.c (.sl (.int (dgW k.val N).1)))) []:=by
 refine A0n (fn:=Tryz.f129) (c:=C5 Tryz.f129) Tryz.func129 rfl rfl fun x0 a0 hk hF hs=>?_
 refine di k trivial hs fun ac cY aY hs1=>?_
 have hs2:=hs1.nilRow (p:=17) (q:=.int []) rfl (by decide) rfl (ml' := [16,17]) (ens' := [some (.fl [.ob (.fr k)]),some (.sq (.int []))]) (fun r=>E2n (by decide)) (svs' := [.v (.c (.ptr 16 0)),.v (.c (.slc 17 0 0 1)),.v (.c (.int .i64 0)),.v (.c (.int .i64 0))]) ⟨.inl rfl,.inr ⟨1,rfl,rfl⟩,.inl rfl,.inl rfl,trivial⟩
 change Wq Tryz.prog _ _ _ _ _ (K9 cY 17).w
 refine I3 (ι:={ m:Nat // m<=N }) (fun m=>diS k (dgW k.val m.1).1 m.1 ((dgW k.val m.1).2:Int) ((5*m.1:Nat):Int)) (fun m=>N-m.1) (c:=lpC D2j) (k:=lpR D2j) (by kernel_rfl) (fun m ih ac cY aY hs=>?_) ⟨0,Nat.zero_le _⟩ (hs2.nx _)
 obtain ⟨m,hm⟩:=m;simp only at ih hs
 have hc:=B3y k.val m;have hl:=B1d k.val m;by_cases h:m<N
 ·refine diA k _ m _ _ ⟨decide_eq_true (by omega),trivial⟩ hs fun ac cZ aZ hs3=>?_
  have e0:(((dgW k.val m).2:Nat):Int)=(((dgW k.val m).2+k.val / 2 ^ (5*m) % 2 ^ 0:Nat):Int):=by rw[Nat.pow_zero,Nat.mod_one,Nat.add_zero]
  rw[e0] at hs3;refine I3 (ι:={ j:Nat // j<=5 }) (fun j=>diI k (dgW k.val m).1 m ((5*m:Nat):Int) (((dgW k.val m).2+k.val / 2 ^ (5*m) % 2 ^ j.1:Nat):Int) (j.1:Int)) (fun j=>5-j.1) (c:=lpC B1e) (k:=lpR B1e) (by kernel_rfl) (fun j ih2 ac cY aY hs=>?_) ⟨0,Nat.zero_le _⟩ (hs3.nx _)
  obtain ⟨j,hj⟩:=j;simp only at ih2 hs
  have hpj:k.val / 2 ^ (5*m) % 2 ^ j<2 ^ j:=Nat.mod_lt _ (Nat.two_pow_pos _);have hj5:2 ^ j<=2 ^ 5:=Nat.pow_le_pow_right (by decide) hj
  by_cases hj2:j<5
  ·have ej:wrap IntKind.i64 ((j:Int)+1)=((j+1:Nat):Int):=by rw[C9 (by omega) (by omega)];rfl
   have hsum:=F9m k.val (5*m) j;by_cases hb:5*m+j<256
   ·have eb:=E5a k hb hj2
    have hw:wrap IntKind.i64 (((5*m:Nat):Int)+(j:Int))=((5*m+j:Nat):Int):=by rw[C9 (by omega) (by omega)];rfl
    have ht:Int.tdiv ((5*m+j:Nat):Int) 64=(((5*m+j) / 64:Nat):Int):=Int.tdiv_eq_ediv_of_nonneg (by omega)
    have ht2:Int.tmod ((5*m+j:Nat):Int) 64=(((5*m+j) % 64:Nat):Int):=Int.tmod_eq_emod_of_nonneg (by omega)
    have hw2:wrap IntKind.i64 (((5*m+j) / 64:Nat):Int)=(((5*m+j) / 64:Nat):Int):=C9 (by omega) (by omega)
    refine diB k _ m _ _ _ ⟨decide_eq_true (by omega),by rw[hw];exact decide_eq_true (by omega),by decide,by rw[hw,ht,hw2];omega,by rw[hw,ht,hw2];omega,by rw[hw,ht,hw2,Int.toNat_natCast];show _<4;omega,by decide,by rw[hw,ht2];omega,by omega,trivial⟩ hs fun ac cU aU hs4=>?_
    rw[eb,ej] at hs4;have hbit:k.val / 2 ^ (5*m+j) % 2*2 ^ j<=1*2 ^ 5:=Nat.mul_le_mul (by omega) hj5
    rw[C9 (by omega) (by omega),<-Int.natCast_add,Nat.add_assoc,<-hsum] at hs4
    exact ih2 ⟨j+1,hj2⟩ (by show 5-(j+1)<5-j;omega) ac cU aU (hs4.nx _)
   ·have hw:wrap IntKind.i64 (((5*m:Nat):Int)+(j:Int))=((5*m+j:Nat):Int):=by rw[C9 (by omega) (by omega)];rfl
    refine diC k _ m _ _ _ ⟨decide_eq_true (by omega),by rw[hw];exact decide_eq_false (by omega),trivial⟩ hs fun ac cU aU hs4=>?_
    have h0:k.val / 2 ^ (5*m+j)=0:=Nat.div_eq_of_lt (Nat.lt_of_lt_of_le (G8a k) (Nat.pow_le_pow_right (by decide) (by omega)))
    rw[h0,Nat.zero_mod,Nat.zero_mul,Nat.add_zero (k.val / 2 ^ (5*m) % 2 ^ j)] at hsum;rw[ej,<-hsum] at hs4;exact ih2 ⟨j+1,hj2⟩ (by show 5-(j+1)<5-j;omega) ac cU aU (hs4.nx _)
  ·have:j=5:=by omega
   subst this;rw[H6c,Nat.add_comm] at hs;have hw5:k.val / 32 ^ m % 32<32:=Nat.mod_lt _ (by decide)
   have e5:wrap IntKind.i64 (((5*m:Nat):Int)+5)=((5*(m+1):Nat):Int):=by rw[C9 (by omega) (by omega)];omega
   have hml:(dgW k.val m).1.length<=52:=by omega
   have hmax:(dgW k.val m).1.length+1<=maxLen:=Nat.le_trans (by omega) (show 53<=maxLen by decide)
   by_cases hg:k.val / 32 ^ m % 32+(dgW k.val m).2 > 16
   ·refine diD k _ m _ _ _ ⟨by decide,decide_eq_true (by omega),by omega,hmax,hl.symm,rfl,trivial⟩ hs fun ac cU aU hs4=>?_
    rw[e5,hl,C9 (by omega) (by omega)] at hs4
    refine ih ⟨m+1,h⟩ (by show N-(m+1)<N-m;omega) ac cU aU ?_
    show Sim _ _ _ _ (diS k (dgW k.val (m+1)).1 (m+1) ((dgW k.val (m+1)).2:Int) ((5*(m+1):Nat):Int)) _ _;rw[B1c hg];exact hs4.nx _
   ·refine diE k _ m _ _ _ ⟨by decide,decide_eq_false (by omega),by omega,hmax,hl.symm,rfl,trivial⟩ hs fun ac cU aU hs4=>?_
    rw[e5,hl] at hs4;refine ih ⟨m+1,h⟩ (by show N-(m+1)<N-m;omega) ac cU aU ?_
    show Sim _ _ _ _ (diS k (dgW k.val (m+1)).1 (m+1) ((dgW k.val (m+1)).2:Int) ((5*(m+1):Nat):Int)) _ _;rw[A1r hg];exact hs4.nx _
 ·obtain rfl:m=N:=by omega
  have h0:=(G0y hN (G8a k)).2;exact Q4 A0b hk hF (G1a k (dgW k.val m).1 m ((dgW k.val m).2:Int) ((5*m:Nat):Int)) ⟨decide_eq_false (by omega),by rw[h0];decide,hl.symm,trivial⟩ (fun y v hd=>hd) hs

end

section
section
variable {w0:World} {F0:Nat->Prop} {K:Kp} {ac:List Act} {Q:Exit->Act->World->Prop} {cX:Ctx} {aX:Act}

def A8w:B7
 | [.v (.a [.ob (.fr k)])]=>some ([],.v (.c (.sl (.int (dgW k.val 52).1))),[])
 | _=>none
def ucA:Env:=uaB.set (E1 uaB.fn 129 A8w)
theorem B0q:A8 Tryz.prog ucA:=B0 F9f 129 A8w (A5 Tryz.func129 rfl rfl) fun args o r es h _=>by
 unfold A8w at h;split at h
 ·cases h;exact D7x _ (Eq.refl 52)
 ·cases h
def F3c (T:Nat->Option Func) (f:Nat):Option Func:=if f=140 then some Tryz.f140 else T f
def ucB:Env:={ ucA with inl:=F3c ucA.inl }
theorem A7b:A8 Tryz.prog ucB:=by
 refine ⟨B0q.ty,B0q.mixed,B0q.fn,B0q.mu,fun f fn h=>?_,B0q.ex,B0q.inv⟩
 have h:F3c ucA.inl f=some fn:=h;unfold F3c at h;split at h
 ·rename_i hf;cases h;subst hf;exact ⟨Tryz.func140,A5 Tryz.func140 rfl rfl⟩
 exact B0q.inl f fn h
def B6y:List KI:=(run ucB false 3000 ((fun (P:List (Fp×Fp×Fp)) (D:List Int)=>(⟨[.code (C5 Tryz.f130)],.normal,F9 Tryz.f130.ntmps [.v (.c (.sl (.pt P))),.v (.c (.sl (.int D)))]⟩:Cfg)) default default) []).cfg.k
theorem kb (P:List (Fp×Fp×Fp)) (D:List Int):let a:Fp:=0;A9 []->Sg Tryz.prog (F9 Tryz.f130.ntmps [.v (.c (.sl (.pt P))),.v (.c (.sl (.int D)))]) (B2 45 [1,4,5,9,10,11] [(.ci (.sl (.int D))),.pt 16 0,.pt 32 0,(.ci (.sl (Sq.pt P))),(.ii (P.length:Int)),.ii (0:Int)] [16,32] [(eF_ [(.ob (.p a)),(.ob (.p a)),(.ob (.p a))]),(eF_ [(.ob (.p a)),(.ob (.p a)),(.ob (.p a)),(.ob (.p a)),(.ob (.p a)),(.ob (.p a)),(.ob (.p a)),(.ob (.p a)),(.ob (.p a)),(.ob (.p a)),(.ob (.p a)),(.ob (.p a)),(.ob (.p a)),(.ob (.p a)),(.ob (.p a)),(.ob (.p a)),(.ob (.p a)),(.ob (.p a)),(.ob (.p a)),(.ob (.p a)),(.ob (.p a)),(.ob (.p a)),(.ob (.p a)),(.ob (.p a)),(.ob (.p a)),(.ob (.p a)),(.ob (.p a)),(.ob (.p a)),(.ob (.p a)),(.ob (.p a)),(.ob (.p a)),(.ob (.p a)),(.ob (.p a)),(.ob (.p a)),(.ob (.p a)),(.ob (.p a)),(.ob (.p a)),(.ob (.p a)),(.ob (.p a)),(.ob (.p a)),(.ob (.p a)),(.ob (.p a)),(.ob (.p a)),(.ob (.p a)),(.ob (.p a)),(.ob (.p a)),(.ob (.p a)),(.ob (.p a)),(.ob (.p a)),(.ob (.p a)),(.ob (.p a))])] 96 [] []) .normal (B6y) ([.code (C5 Tryz.f130)]):=fun ho=>fun hs hK=>
 B1 (unroll:=false) (n:=3000) (path:=[]) (o:=⟨_,_,_,_,_,_,_⟩) A7b (by kernel_rfl) (by kernel_rfl) ho hs hK
def kbS (P:List (Fp×Fp×Fp)) (D:List Int) (S:List (Fp×Fp×Fp)) (i:Int):St:=B2 45 [1,4,5,9,10,11] [(.ci (.sl (.int D))),.pt 16 0,.pt 32 0,(.ci (.sl (Sq.pt P))),(.ii (P.length:Int)),.v (.c (.int .i64 i))] [16,32] [(eF_ [(.ob (.p (0:Fp))),(.ob (.p (0:Fp))),(.ob (.p (0:Fp)))]),some (.sq (.pt S))] 96 [] []
theorem kbA (P:List (Fp×Fp×Fp)) (D:List Int) (S:List (Fp×Fp×Fp)) (i:Int):let a:=D.getD i.toNat 0;let b:Int:=P.length;let c:=(a).toNat<S.length;A9 [((decide (i<b))=true),(0<=i),(i<b),(0<=i),(i<(D.length:Int)),((decide (a > (0:Int)))=true),(0<=a),(a<(17:Int)),(0=0),c,(0<=a),(a<(17:Int)),(0=0),c]->Sg Tryz.prog (kbS P D S i) (B2 45 [1,4,5,9,10,11] [(.ci (.sl (.int D))),.pt 16 0,.pt 32 0,(.ci (.sl (Sq.pt P))),(.ii b),(.ii (wrap .i64 (i+1)))] [16,32] [(eF_ [(.ob (.p (0:Fp))),(.ob (.p (0:Fp))),(.ob (.p (0:Fp)))]),(eQ_ (Sq.pt (List.set S (a).toNat (jpl (List.getD S (a).toNat pt0) (List.getD P (i).toNat pt0)))))] 496 [] []) .normal (S5 B6y) (G6 B6y):=fun ho=>fun hs hK=>
 B1 (unroll:=false) (n:=3000) (path:=[true,true]) (o:=⟨_,_,_,_,_,_,_⟩) A7b (by kernel_rfl) (by kernel_rfl) ho hs hK
theorem kbB (P:List (Fp×Fp×Fp)) (D:List Int) (S:List (Fp×Fp×Fp)) (i:Int):let b:=D.getD i.toNat 0;let a:=wrap .i64 ((0:Int)-b);let c:Int:=P.length;let d:=(a).toNat<S.length;A9 [((decide (i<c))=true),(0<=i),(i<c),(0<=i),(i<(D.length:Int)),((decide (b > (0:Int)))=false),((decide (b<(0:Int)))=true),(0<=a),(a<(17:Int)),(0=0),d,(0<=a),(a<(17:Int)),(0=0),d]->Sg Tryz.prog (kbS P D S i) (B2 45 [1,4,5,9,10,11] [(.ci (.sl (.int D))),.pt 16 0,.pt 32 0,(.ci (.sl (Sq.pt P))),(.ii c),(.ii (wrap .i64 (i+1)))] [16,32] [(eF_ [(.ob (.p (0:Fp))),(.ob (.p (0:Fp))),(.ob (.p (0:Fp)))]),(eQ_ (Sq.pt (List.set S (a).toNat (jpl (List.getD S (a).toNat pt0) (jng (List.getD P (i).toNat pt0))))))] 592 [] []) .normal (S5 B6y) (G6 B6y):=fun ho=>fun hs hK=>
 B1 (unroll:=false) (n:=3000) (path:=[true,false,true]) (o:=⟨_,_,_,_,_,_,_⟩) A7b (by kernel_rfl) (by kernel_rfl) ho hs hK
theorem kbC (P:List (Fp×Fp×Fp)) (D:List Int) (S:List (Fp×Fp×Fp)) (i:Int):let a:Int:=P.length;let b:=D.getD i.toNat 0;A9 [((decide (i<a))=true),(0<=i),(i<a),(0<=i),(i<(D.length:Int)),((decide (b > (0:Int)))=false),((decide (b<(0:Int)))=false)]->Sg Tryz.prog (kbS P D S i) (B2 45 [1,4,5,9,10,11] [(.ci (.sl (.int D))),.pt 16 0,.pt 32 0,(.ci (.sl (Sq.pt P))),(.ii a),(.ii (wrap .i64 (i+1)))] [16,32] [(eF_ [(.ob (.p (0:Fp))),(.ob (.p (0:Fp))),(.ob (.p (0:Fp)))]),(eQ_ (Sq.pt S))] 416 [] []) .normal (S5 B6y) (G6 B6y):=fun ho=>fun hs hK=>
 B1 (unroll:=false) (n:=3000) (path:=[true,false,false]) (o:=⟨_,_,_,_,_,_,_⟩) A7b (by kernel_rfl) (by kernel_rfl) ho hs hK
def C5i:List KI:=(run ucB false 3000 ((fun (P:List (Fp×Fp×Fp)) (D:List Int) (S:List (Fp×Fp×Fp)) (i:Int)=>(⟨G6 B6y,.normal,kbS P D S i⟩:Cfg)) default default default default) [false]).cfg.k
theorem kbX (P:List (Fp×Fp×Fp)) (D:List Int) (S:List (Fp×Fp×Fp)) (i:Int):let a:=eF_ [(.ob (.p (0:Fp))),(.ob (.p (0:Fp))),(.ob (.p (0:Fp)))];A9 [((decide (i<(P.length:Int)))=false)]->Sg Tryz.prog (kbS P D S i) (B2 21 [0,2,3,4,5] [.pt 32 0,.pt 112 0,.pt 128 0,.pt 144 0,.ii (16:Int)] [16,32,112,128,144] [a,(eQ_ (Sq.pt S)),a,a,a] 176 [[4]] [([.pt 16 0],45)]) .normal (C5i) (G6 B6y):=fun ho=>fun hs hK=>
 B1 (unroll:=false) (n:=3000) (path:=[false]) (o:=⟨_,_,_,_,_,_,_⟩) A7b (by kernel_rfl) (by kernel_rfl) ho hs hK
def kbT (S:List (Fp×Fp×Fp)) (r o:Fp×Fp×Fp) (d:Int):St:=B2 21 [0,2,3,4,5] [.pt 32 0,.pt 112 0,.pt 128 0,.pt 144 0,.v (.c (.int .i64 d))] [16,32,112,128,144] [(eF_ [(.ob (.p (0:Fp))),(.ob (.p (0:Fp))),(.ob (.p (0:Fp)))]),(eQ_ (Sq.pt S)),(eF_ [(.ob (.p (0:Fp))),(.ob (.p (0:Fp))),(.ob (.p (0:Fp)))]),some (.fl [.ob (.p o.1),.ob (.p o.2.1),.ob (.p o.2.2)]),some (.fl [.ob (.p r.1),.ob (.p r.2.1),.ob (.p r.2.2)])] 176 [[4]] [([.pt 16 0],45)]
theorem kbU (S:List (Fp×Fp×Fp)) (r o:Fp×Fp×Fp) (d:Int):let a:=jpl r (List.getD S (d).toNat pt0);let b:=eF_ [(.ob (.p (0:Fp))),(.ob (.p (0:Fp))),(.ob (.p (0:Fp)))];let c:=Prod.snd (jpl o a);A9 [((decide (d > (0:Int)))=true),(0<=d),(d<(17:Int)),(0=0),((d).toNat<S.length)]->Sg Tryz.prog (kbT S r o d) (B2 21 [0,2,3,4,5] [.pt 32 0,.pt 112 0,.pt 128 0,.pt 144 0,(.ii (wrap .i64 (d-1)))] [16,32,112,128,144] [b,(eQ_ (Sq.pt S)),b,(eF_ [(.ob (.p (Prod.fst (jpl o a)))),(.ob (.p (Prod.fst c))),(.ob (.p (Prod.snd c)))]),(eF_ [(.ob (.p (Prod.fst a))),(.ob (.p (Prod.fst (Prod.snd a)))),(.ob (.p (Prod.snd (Prod.snd a))))])] 448 [[4]] [([.pt 16 0],45)]) .normal (S5 C5i) (G6 C5i):=fun ho=>fun hs hK=>
 B1 (unroll:=false) (n:=3000) (path:=[true]) (o:=⟨_,_,_,_,_,_,_⟩) A7b (by kernel_rfl) (by kernel_rfl) ho hs hK
theorem G2x (S:List (Fp×Fp×Fp)) (r o:Fp×Fp×Fp) (d:Int):J7 ucB Tryz.f130 false 3000 (⟨G6 C5i,.normal,kbT S r o d⟩) [false] [] []=(some ([((decide (d > (0:Int)))=false)],((.v (.a [(.ob (.p (Prod.fst o))),(.ob (.p (Prod.fst (Prod.snd o)))),(.ob (.p (Prod.snd (Prod.snd o))))])),[]))):=by kernel_rfl
end
end

section

theorem E8l {x:Ctx} {n:Nat} (L:List (Fp×Fp×Fp)) (h:L.length=n) (cs:List Value) (hc:D4 x (.fl (J0 L 0 n)) cs):D4 x (.sq (.pt L)) cs:=by
 obtain ⟨hl,hj⟩:=B8q L n 0 cs hc;refine ⟨?_,fun i hi=>?_⟩
 ·show L.length*18<=cs.length
  rw[h,hl];exact Nat.le_refl _
 ·have hi:i<L.length:=hi
  rw[h] at hi;obtain ⟨c,h1,h2⟩:=hj i hi;rw[Nat.zero_add] at h1;exact ⟨c,h1,h2⟩

theorem D1u (P:List (Fp×Fp×Fp)) (D:List Int) (hl:D.length=P.length) (hp:P.length<=4611686018427387904) (hd:∀i,-16<=D.getD i 0∧D.getD i 0<=16) :
  FnD Tryz.prog 130 [.v (.c (.sl (.pt P))),.v (.c (.sl (.int D)))] (.v (.a (Q3 (bkT pt0 P D)))) []:=by
 refine A0n (fn:=Tryz.f130) (c:=C5 Tryz.f130) Tryz.func130 rfl rfl fun x0 a0 hk hF hs=>?_
 refine kb P D trivial hs fun ac cY aY hs1=>?_
 have hs2:=hs1.blocks (ens' := [some (.fl [.ob (.p 0),.ob (.p 0),.ob (.p 0)]),some (.sq (.pt (List.replicate 17 pt0)))])
  ⟨.inl rfl,.inr ⟨_,_,_,rfl,rfl,rfl,fun cs h=>E8l (n:=17) _ rfl cs h⟩,trivial⟩
 have hlen:∀i,(bkN pt0 (List.replicate 17 pt0) P D i).length=17:=fun i=>(E1k ..).trans List.length_replicate
 refine I3 (ι:={ i:Nat // i<=P.length }) (fun i=>kbS P D (bkN pt0 (List.replicate 17 pt0) P D i.1) (i.1:Int)) (fun i=>P.length-i.1) (c:=lpC B6y) (k:=lpR B6y) (by kernel_rfl) (fun i ih ac cY aY hs=>?_) ⟨0,Nat.zero_le _⟩ (hs2.nx _)
 obtain ⟨i,hi⟩:=i;simp only at ih hs
 have hS:=hlen i;by_cases h:i<P.length
 ·have hnext:bkN pt0 (List.replicate 17 pt0) P D (i+1)=bkS pt0 (bkN pt0 (List.replicate 17 pt0) P D i) (P.getD i pt0) (D.getD i 0):=rfl
  have ei:wrap IntKind.i64 ((i:Int)+1)=((i+1:Nat):Int):=by rw[C9 (by omega) (by omega)];rfl
  have hdi:=hd i;have go:∀(S' : List (Fp×Fp×Fp)) (n:Nat) (ac:List Act) (cU:Ctx) (aU:Act),S' = bkN pt0 (List.replicate 17 pt0) P D (i+1)->Sim x0.w x0.F Y8 ac (kbS P D S' ((i+1:Nat):Int)) cU aU->Wq Tryz.prog (D7g Tryz.prog Tryz.f130 x0 (.v (.a (Q3 (bkT pt0 P D)))) []) (S5 B6y) ac .normal aU cU.w:=by
   intro S' n ac cU aU e hs
   rw[e] at hs;exact ih ⟨i+1,h⟩ (by show P.length-(i+1)<P.length-i;omega) ac cU aU hs
  generalize bkN pt0 (List.replicate 17 pt0) P D i=S at hs hS hnext;generalize hd0:D.getD i 0=d at hdi hnext;by_cases hpos:d > 0
  ·refine kbA P D S i ⟨decide_eq_true (by omega),by omega,by omega,by omega,by omega,?_,?_,?_,rfl,?_,?_,?_,rfl,?_,trivial⟩ hs fun ac cU aU hs3=>?_
   all_goals try rw[Int.toNat_natCast,hd0]
   ·exact decide_eq_true hpos
   ·omega
   ·omega
   ·omega
   ·omega
   ·omega
   ·omega
   ·rw[Int.toNat_natCast,hd0,ei] at hs3
    refine go _ 0 ac cU aU ?_ (hs3.nx _)
    rw[hnext];exact (if_pos hpos).symm
  ·by_cases hneg:d<0
   ·have ew:wrap IntKind.i64 ((0:Int)-d) = -d:=by rw[C9 (by omega) (by omega)];omega
    refine kbB P D S i ⟨decide_eq_true (by omega),by omega,by omega,by omega,by omega,?_,?_,?_,?_,rfl,?_,?_,?_,rfl,?_,trivial⟩ hs fun ac cU aU hs3=>?_
    all_goals try rw[Int.toNat_natCast,hd0]
    ·exact decide_eq_false hpos
    ·exact decide_eq_true hneg
    all_goals try rw[ew]
    ·omega
    ·omega
    ·omega
    ·omega
    ·omega
    ·omega
    ·rw[Int.toNat_natCast,hd0,ew,ei] at hs3
     refine go _ 0 ac cU aU ?_ (hs3.nx _)
     rw[hnext];unfold bkS;rw[if_neg hpos,if_pos hneg]
   ·refine kbC P D S i ⟨decide_eq_true (by omega),by omega,by omega,by omega,by omega,?_,?_,trivial⟩ hs fun ac cU aU hs3=>?_
    all_goals try rw[Int.toNat_natCast,hd0]
    ·exact decide_eq_false hpos
    ·exact decide_eq_false hneg
    ·rw[ei] at hs3
     refine go _ 0 ac cU aU ?_ (hs3.nx _)
     rw[hnext];unfold bkS;rw[if_neg hpos,if_neg hneg]
 ·obtain rfl:i=P.length:=by omega
  have hT:bkT pt0 P D=toO pt0 (bkN pt0 (List.replicate 17 pt0) P D P.length) 16:=rfl;rw[hT];generalize bkN pt0 (List.replicate 17 pt0) P D P.length=S at hs hS ⊢
  refine kbX P D S _ ⟨decide_eq_false (by omega),trivial⟩ hs fun ac cU aU hs3=>?_
  refine I3 (ι:={ n:Nat // n<=16 }) (fun n=>kbT S (toR pt0 S n.1) (toO pt0 S n.1) ((16-n.1:Nat):Int)) (fun n=>16-n.1) (c:=lpC C5i) (k:=lpR C5i) (by kernel_rfl) (fun n ih2 ac cY aY hs=>?_) ⟨0,Nat.zero_le _⟩ (hs3.nx _)
  obtain ⟨n,hn⟩:=n;simp only at ih2 hs
  by_cases hn16:n<16
  ·refine kbU S _ _ _ ⟨decide_eq_true (by omega),by omega,by omega,rfl,by rw[Int.toNat_natCast,hS];omega,trivial⟩ hs fun ac cV aV hs4=>?_
   have en:wrap IntKind.i64 (((16-n:Nat):Int)-1)=((16-(n+1):Nat):Int):=by rw[C9 (by omega) (by omega)];omega
   have e1:jpl (toR pt0 S n) (S.getD (16-n) pt0)=toR pt0 S (n+1):=rfl;have e2:jpl (toO pt0 S n) (toR pt0 S (n+1))=toO pt0 S (n+1):=rfl;rw[Int.toNat_natCast,en,e1,e2] at hs4;exact ih2 ⟨n+1,hn16⟩ (by show 16-(n+1)<16-n;omega) ac cV aV (hs4.nx _)
  ·obtain rfl:n=16:=by omega
   exact Q4 A7b hk hF (G2x S _ _ _) ⟨by decide,trivial⟩ (fun y v hd=>hd) hs

end

section
section
variable {w0:World} {F0:Nat->Prop} {K:Kp} {ac:List Act} {Q:Exit->Act->World->Prop} {cX:Ctx} {aX:Act}

theorem C7g (P:List (Fp×Fp×Fp)) (D:List Int) (h:D.length=P.length∧P.length<=4611686018427387904∧G1d D):FnD Tryz.prog 130 [.v (.c (.sl (.pt P))),.v (.c (.sl (.int D)))] (.v (.a (Q3 (bkT pt0 P D)))) []:=D1u P D h.1 h.2.1 h.2.2
def A5o:B7
 | [.v (.c (.sl (.pt P))),.v (.c (.sl (.int D)))]=>some ([D.length=P.length,P.length<=4611686018427387904,G1d D],.v (.a (Q3 (bkT pt0 P D))),[])
 | _=>none
def ucC:Env:=ucB.set (E1 ucB.fn 130 A5o)
theorem A3n:A8 Tryz.prog ucC:=B0 A7b 130 A5o (A5 Tryz.func130 rfl rfl) fun args o r es h ho=>by
 unfold A5o at h;split at h
 ·cases h;exact C7g _ _ ⟨ho.1,ho.2.1,ho.2.2.1⟩
 ·cases h
def D7k:List KI:=(run ucC false 3000 ((fun (P:List (Fp×Fp×Fp)) (k:List U4)=>(⟨[.code (C5 Tryz.f101)],.normal,F9 Tryz.f101.ntmps [.v (.c (.sl (.pt P))),.v (.c (.sl (.fr k)))]⟩:Cfg)) default default) []).cfg.k
theorem am (P:List (Fp×Fp×Fp)) (k:List U4) (ho:A9 []):Sg Tryz.prog (F9 Tryz.f101.ntmps [.v (.c (.sl (.pt P))),.v (.c (.sl (.fr k)))]) (B2 72 [0,1,4,5,6,15,16,17] [(.ci (.sl (Sq.pt P))),(.ci (.sl (.fr k))),.pt 16 0,(.ci (.val (Value.slice Option.none 0 0))),.ii (0:Int),(.ci (.sl (.fr k))),(.ii (k.length:Int)),.ii (0:Int)] [16] [(eF_ [(.ob (.p (0:Fp))),(.ob (.p (0:Fp))),(.ob (.p (0:Fp)))])] 112 [] []) .normal (D7k) ([.code (C5 Tryz.f101)]):=fun hs hK=>
 B1 (unroll:=false) (n:=3000) (path:=[]) (o:=⟨_,_,_,_,_,_,_⟩) A3n (by kernel_rfl) (by kernel_rfl) ho hs hK
def amS (P:List (Fp×Fp×Fp)) (k:List U4) (R:List (List Int)) (n:Nat) (m i:Int):St:=B2 72 [0,1,4,5,6,15,16,17] [(.ci (.sl (Sq.pt P))),(.ci (.sl (.fr k))),.pt 16 0,.v (.c (.slc 17 0 n 1)),.v (.c (.int .i64 m)),(.ci (.sl (.fr k))),(.ii (k.length:Int)),.v (.c (.int .i64 i))] [16,17] [(eF_ [(.ob (.p (0:Fp))),(.ob (.p (0:Fp))),(.ob (.p (0:Fp)))]),some (.sq (.ints R))] 112 [] []
theorem amA (P:List (Fp×Fp×Fp)) (k:List U4) (R:List (List Int)) (n:Nat) (m i:Int):let a:=Prod.fst (dgW (Fin.val (k.getD i.toNat 0)) 52);let b:Int:=k.length;let c:=R.length+1;let d:Int:=(a.length:Nat);A9 [((decide (i<b))=true),(0<=i),(i<b),((c*24)<=140737488355328),(c<=maxLen),(n=R.length),(1=1)]->Sg Tryz.prog (amS P k R n m i) (B2 72 [0,1,4,5,6,15,16,17] [(.ci (.sl (Sq.pt P))),(.ci (.sl (.fr k))),.pt 16 0,(.ci (.slc 17 0 c 1)),(.ii (ite (d > m) d m)),(.ci (.sl (.fr k))),(.ii b),(.ii (wrap .i64 (i+1)))] [16,17] [(eF_ [(.ob (.p (0:Fp))),(.ob (.p (0:Fp))),(.ob (.p (0:Fp)))]),(eQ_ (.ints (R++[a])))] 432 [] []) .normal (S5 D7k) (G6 D7k):=fun ho=>fun hs hK=>
 B1 (unroll:=false) (n:=3000) (path:=[true]) (o:=⟨_,_,_,_,_,_,_⟩) A3n (by kernel_rfl) (by kernel_rfl) ho hs hK
def B8a:List KI:=(run ucC false 3000 ((fun (P:List (Fp×Fp×Fp)) (k:List U4) (R:List (List Int)) (n:Nat) (m i:Int)=>(⟨G6 D7k,.normal,amS P k R n m i⟩:Cfg)) default default default default default default) [false]).cfg.k
theorem amB (P:List (Fp×Fp×Fp)) (k:List U4) (R:List (List Int)) (n:Nat) (m i:Int):let a:Int:=k.length;let b:=eF_ [(.ob (.p (0:Fp))),(.ob (.p (0:Fp))),(.ob (.p (0:Fp)))];A9 [((decide (i<a))=false),(0<=a),(a=a),(((8:Int)*a)<=(281474976710656:Int)),(a<=(9223372036854775807:Int))]->Sg Tryz.prog (amS P k R n m i) (B2 72 [0,4,5,10,11,12] [(.ci (.sl (Sq.pt P))),.pt 16 0,(.ci (.slc 17 0 n 1)),.pt 128 0,(.ci (.slc 176 0 (a).toNat 1)),(.ii (wrap .i64 (m-1)))] [16,17,128,176] [b,(eQ_ (.ints R)),b,(eQ_ (.int (List.replicate (a).toNat 0)))] 256 [] []) .normal (B8a) (G6 D7k):=fun ho=>fun hs hK=>
 B1 (unroll:=false) (n:=3000) (path:=[false]) (o:=⟨_,_,_,_,_,_,_⟩) A3n (by kernel_rfl) (by kernel_rfl) ho hs hK
def amT (P:List (Fp×Fp×Fp)) (R:List (List Int)) (n q:Nat) (D:List Int) (o:Fp×Fp×Fp) (h:Int):St:=B2 72 [0,4,5,10,11,12] [(.ci (.sl (Sq.pt P))),.pt 16 0,(.ci (.slc 17 0 n 1)),.pt 128 0,.v (.c (.slc 176 0 q 1)),.v (.c (.int .i64 h))] [16,17,128,176] [(eF_ [(.ob (.p (0:Fp))),(.ob (.p (0:Fp))),(.ob (.p (0:Fp)))]),(eQ_ (.ints R)),some (.fl [.ob (.p o.1),.ob (.p o.2.1),.ob (.p o.2.2)]),some (.sq (.int D))] 256 [] []
def B8b:List KI:=(run ucC false 3000 ((fun (P:List (Fp×Fp×Fp)) (R:List (List Int)) (n q:Nat) (D:List Int) (o:Fp×Fp×Fp) (h:Int)=>(⟨G6 B8a,.normal,amT P R n q D o h⟩:Cfg)) default default default default default default default) [true]).cfg.k
theorem amC (P:List (Fp×Fp×Fp)) (R:List (List Int)) (n q:Nat) (D:List Int) (o:Fp×Fp×Fp) (h:Int) (ho:A9 [((decide (h >= (0:Int)))=true)]):Sg Tryz.prog (amT P R n q D o h) (B2 72 [0,4,5,10,11,12,41] [(.ci (.sl (Sq.pt P))),.pt 16 0,(.ci (.slc 17 0 n 1)),.pt 128 0,(.ci (.slc 176 0 q 1)),.ii h,.ii (0:Int)] [16,17,128,176] [(eF_ [(.ob (.p (0:Fp))),(.ob (.p (0:Fp))),(.ob (.p (0:Fp)))]),(eQ_ (.ints R)),(eF_ [(.ob (.p (Prod.fst o))),(.ob (.p (Prod.fst (Prod.snd o)))),(.ob (.p (Prod.snd (Prod.snd o))))]),(eQ_ (.int D))] 304 [] []) .normal (B8b) (G6 B8a):=fun hs hK=>
 B1 (unroll:=false) (n:=3000) (path:=[true]) (o:=⟨_,_,_,_,_,_,_⟩) A3n (by kernel_rfl) (by kernel_rfl) ho hs hK
def amU (P:List (Fp×Fp×Fp)) (R:List (List Int)) (n q:Nat) (D:List Int) (o:Fp×Fp×Fp) (h j:Int):St:=B2 72 [0,4,5,10,11,12,41] [(.ci (.sl (Sq.pt P))),.pt 16 0,(.ci (.slc 17 0 n 1)),.pt 128 0,(.ci (.slc 176 0 q 1)),.ii h,.v (.c (.int .i64 j))] [16,17,128,176] [(eF_ [(.ob (.p (0:Fp))),(.ob (.p (0:Fp))),(.ob (.p (0:Fp)))]),(eQ_ (.ints R)),(eF_ [(.ob (.p (Prod.fst o))),(.ob (.p (Prod.fst (Prod.snd o)))),(.ob (.p (Prod.snd (Prod.snd o))))]),(eQ_ (.int D))] 304 [] []
theorem amD (P:List (Fp×Fp×Fp)) (R:List (List Int)) (n q:Nat) (D:List Int) (o:Fp×Fp×Fp) (h j:Int):let a:=Prod.snd (jtw o);A9 [((decide (j<(5:Int)))=true)]->Sg Tryz.prog (amU P R n q D o h j) (B2 72 [0,4,5,10,11,12,41] [(.ci (.sl (Sq.pt P))),.pt 16 0,(.ci (.slc 17 0 n 1)),.pt 128 0,(.ci (.slc 176 0 q 1)),.ii h,(.ii (wrap .i64 (j+1)))] [16,17,128,176] [(eF_ [(.ob (.p (0:Fp))),(.ob (.p (0:Fp))),(.ob (.p (0:Fp)))]),(eQ_ (.ints R)),(eF_ [(.ob (.p (Prod.fst (jtw o)))),(.ob (.p (Prod.fst a))),(.ob (.p (Prod.snd a)))]),(eQ_ (.int D))] 400 [] []) .normal (S5 B8b) (G6 B8b):=fun ho=>fun hs hK=>
 B1 (unroll:=false) (n:=3000) (path:=[true]) (o:=⟨_,_,_,_,_,_,_⟩) A3n (by kernel_rfl) (by kernel_rfl) ho hs hK
def C4h:List KI:=(run ucC false 3000 ((fun (P:List (Fp×Fp×Fp)) (R:List (List Int)) (n q:Nat) (D:List Int) (o:Fp×Fp×Fp) (h j:Int)=>(⟨G6 B8b,.normal,amU P R n q D o h j⟩:Cfg)) default default default default default default default default) [false]).cfg.k
theorem amE (P:List (Fp×Fp×Fp)) (R:List (List Int)) (n q:Nat) (D:List Int) (o:Fp×Fp×Fp) (h j:Int) (ho:A9 [((decide (j<(5:Int)))=false),(q=D.length)]):Sg Tryz.prog (amU P R n q D o h j) (B2 72 [0,4,5,10,11,12,47,48,49] [(.ci (.sl (Sq.pt P))),.pt 16 0,(.ci (.slc 17 0 n 1)),.pt 128 0,(.ci (.slc 176 0 q 1)),.ii h,(.ci (.slc 17 0 n 1)),(.ii ((n:Nat):Int)),.ii (0:Int)] [16,17,128,176] [(eF_ [(.ob (.p (0:Fp))),(.ob (.p (0:Fp))),(.ob (.p (0:Fp)))]),(eQ_ (.ints R)),(eF_ [(.ob (.p (Prod.fst o))),(.ob (.p (Prod.fst (Prod.snd o)))),(.ob (.p (Prod.snd (Prod.snd o))))]),(eQ_ (.int (List.replicate D.length (0:Int))))] 400 [] []) .normal (C4h) (G6 B8b):=fun hs hK=>
 B1 (unroll:=false) (n:=3000) (path:=[false]) (o:=⟨_,_,_,_,_,_,_⟩) A3n (by kernel_rfl) (by kernel_rfl) ho hs hK
def amV (P:List (Fp×Fp×Fp)) (R:List (List Int)) (n q:Nat) (D:List Int) (o:Fp×Fp×Fp) (h i:Int):St:=B2 72 [0,4,5,10,11,12,47,48,49] [(.ci (.sl (Sq.pt P))),.pt 16 0,(.ci (.slc 17 0 n 1)),.pt 128 0,(.ci (.slc 176 0 q 1)),.ii h,(.ci (.slc 17 0 n 1)),(.ii ((n:Nat):Int)),.v (.c (.int .i64 i))] [16,17,128,176] [(eF_ [(.ob (.p (0:Fp))),(.ob (.p (0:Fp))),(.ob (.p (0:Fp)))]),(eQ_ (.ints R)),(eF_ [(.ob (.p (Prod.fst o))),(.ob (.p (Prod.fst (Prod.snd o)))),(.ob (.p (Prod.snd (Prod.snd o))))]),some (.sq (.int D))] 400 [] []
theorem amF (P:List (Fp×Fp×Fp)) (R:List (List Int)) (n q:Nat) (D:List Int) (o:Fp×Fp×Fp) (h i:Int):let a:=List.getD R (i).toNat ([]:List Int);let b:Int:=(n:Nat);let c:=h<((a.length:Nat):Int);A9 [((decide (i<b))=true),(0<=i),(i<b),(0=0),((i).toNat<R.length),((decide c)=true),(0<=h),c,(0<=i),(i<((q:Nat):Int)),(0=0),((i).toNat<D.length)]->Sg Tryz.prog (amV P R n q D o h i) (B2 72 [0,4,5,10,11,12,47,48,49] [(.ci (.sl (Sq.pt P))),.pt 16 0,(.ci (.slc 17 0 n 1)),.pt 128 0,(.ci (.slc 176 0 q 1)),.ii h,(.ci (.slc 17 0 n 1)),(.ii b),(.ii (wrap .i64 (i+1)))] [16,17,128,176] [(eF_ [(.ob (.p (0:Fp))),(.ob (.p (0:Fp))),(.ob (.p (0:Fp)))]),(eQ_ (.ints R)),(eF_ [(.ob (.p (Prod.fst o))),(.ob (.p (Prod.fst (Prod.snd o)))),(.ob (.p (Prod.snd (Prod.snd o))))]),(eQ_ (.int (List.set D (i).toNat (List.getD a (h).toNat 0))))] 720 [] []) .normal (S5 C4h) (G6 C4h):=fun ho=>fun hs hK=>
 B1 (unroll:=false) (n:=3000) (path:=[true,true]) (o:=⟨_,_,_,_,_,_,_⟩) A3n (by kernel_rfl) (by kernel_rfl) ho hs hK
theorem amH (P:List (Fp×Fp×Fp)) (R:List (List Int)) (n q:Nat) (D:List Int) (o:Fp×Fp×Fp) (h i:Int):let a:=jpl o (bkT pt0 P D);A9 [((decide (i<((n:Nat):Int)))=false),(0=0),(q=D.length),(1=1),(D.length=P.length),(P.length<=4611686018427387904),(G1d D)]->Sg Tryz.prog (amV P R n q D o h i) (B2 72 [0,4,5,10,11,12] [(.ci (.sl (Sq.pt P))),.pt 16 0,(.ci (.slc 17 0 n 1)),.pt 128 0,(.ci (.slc 176 0 q 1)),(.ii (wrap .i64 (h-1)))] [16,17,128,176] [(eF_ [(.ob (.p (0:Fp))),(.ob (.p (0:Fp))),(.ob (.p (0:Fp)))]),(eQ_ (.ints R)),(eF_ [(.ob (.p (Prod.fst a))),(.ob (.p (Prod.fst (Prod.snd a)))),(.ob (.p (Prod.snd (Prod.snd a))))]),(eQ_ (.int D))] 560 [] []) .normal (S5 B8a) (G6 C4h):=fun ho=>fun hs hK=>
 B1 (unroll:=false) (n:=3000) (path:=[false]) (o:=⟨_,_,_,_,_,_,_⟩) A3n (by kernel_rfl) (by kernel_rfl) ho hs hK
theorem G0b (P:List (Fp×Fp×Fp)) (R:List (List Int)) (n q:Nat) (D:List Int) (o:Fp×Fp×Fp) (h:Int):J7 ucC Tryz.f101 false 3000 (⟨G6 B8a,.normal,amT P R n q D o h⟩) [false] [] []=(some ([((decide (h >= (0:Int)))=false)],((.v (.a [(.ob (.p (Prod.fst o))),(.ob (.p (Prod.fst (Prod.snd o)))),(.ob (.p (Prod.snd (Prod.snd o))))])),[]))):=by kernel_rfl
end
end

section

theorem G0a (P:List (Fp×Fp×Fp)) (k:List U4) (hk0:k.length=P.length) (hp:P.length<=4096) {N:Nat} (hN:N=52) :
  FnD Tryz.prog 101 [.v (.c (.sl (.pt P))),.v (.c (.sl (.fr k)))] (.v (.a (Q3 (smJ N pt0 P k)))) []:=by
 refine A0n (fn:=Tryz.f101) (c:=C5 Tryz.f101) Tryz.func101 rfl rfl fun x0 a0 hk hF hs=>?_
 refine am P k trivial hs fun ac cY aY hs1=>?_
 have hs2:=hs1.nilRow (p:=17) (q:=.ints []) rfl (by decide) rfl (ml' := [16,17]) (ens' := [some (.fl [.ob (.p 0),.ob (.p 0),.ob (.p 0)]),some (.sq (.ints []))]) (fun r=>E2n (by decide))
  (svs' := [.v (.c (.sl (.pt P))),.v (.c (.sl (.fr k))),.v (.c (.ptr 16 0)),.v (.c (.slc 17 0 0 1)),.v (.c (.int .i64 0)),.v (.c (.sl (.fr k))),.v (.c (.int .i64 ((k.length:Nat):Int))),.v (.c (.int .i64 0))]) ⟨.inl rfl,.inl rfl,.inl rfl,.inr ⟨1,rfl,rfl⟩,.inl rfl,.inl rfl,.inl rfl,.inl rfl,trivial⟩
 have hL:=E1v N k;have hrow:=@G0x N k;have hget:=C7o N k;have hdig:=G0w N k;have hmax:4097<=maxLen:=by decide
 change Wq Tryz.prog _ _ _ _ _ (K9 cY 17).w
 refine I3 (ι:={ i:Nat // i<=k.length }) (fun i=>amS P k ((dgK N k).take i.1) i.1 (if i.1=0 then 0 else (N:Int)) (i.1:Int)) (fun i=>k.length-i.1) (c:=lpC D7k) (k:=lpR D7k) (by kernel_rfl) (fun i ih ac cY aY hs=>?_) ⟨0,Nat.zero_le _⟩ (hs2.nx _)
 obtain ⟨i,hi⟩:=i;simp only at ih hs
 have htl:((dgK N k).take i).length=i:=by rw[List.length_take,hL];omega
 by_cases h:i<k.length
 ·refine amA P k _ i _ i ⟨decide_eq_true (by omega),by omega,by omega,by rw[htl];omega,by rw[htl];omega,htl.symm,rfl,trivial⟩ hs fun ac cU aU hs3=>?_
  have ei:wrap IntKind.i64 ((i:Int)+1)=((i+1:Nat):Int):=by rw[C9 (by omega) (by omega)];rfl
  have e52:(dgW (k.getD i 0).val 52).1=(dgK N k).getD i []:=by rw[hget i h,hN]
  rw[Int.toNat_natCast,ei,htl,e52,E8m _ _ (by omega),hrow i h] at hs3
  have em:(if ((N:Nat):Int) > (if i=0 then 0 else (N:Int)) then ((N:Nat):Int) else (if i=0 then 0 else (N:Int)))=(if i+1=0 then 0 else (N:Int)):=by
   rw[if_neg (show ¬i+1=0 from by omega)]
   split<;>split<;>omega
  rw[em] at hs3;exact ih ⟨i+1,h⟩ (by show k.length-(i+1)<k.length-i;omega) ac cU aU (hs3.nx _)
 ·obtain rfl:i=k.length:=by omega
  have ht:(dgK N k).take k.length=dgK N k:=by rw[<-hL,List.take_length]
  rw[ht] at hs;have em:(if k.length=0 then 0 else (N:Int))=((D4e N k:Nat):Int):=by
   cases k with
   | nil=>rfl
   | cons x l=>rfl
  rw[em] at hs;have hm52:D4e N k<=52:=by
   cases k with
   | nil=>exact Nat.zero_le _
   | cons x l=>exact Nat.le_of_eq hN
  have hmN:0<k.length->D4e N k=N:=by
   intro h
   cases k with
   | nil=>cases h
   | cons x l=>rfl
  refine amB P k _ k.length _ _ ⟨decide_eq_false (by omega),by omega,rfl,by omega,by omega,trivial⟩ hs fun ac cU aU hs3=>?_
  rw[Int.toNat_natCast] at hs3;have hres:smJ N pt0 P k=alN pt0 P (dgK N k) (D4e N k) (D4e N k):=rfl;rw[hres];generalize dgK N k=L at hs3 hL hrow hdig ⊢
  generalize D4e N k=m at hs3 hm52 hmN ⊢
  have eh:wrap IntKind.i64 ((m:Int)-1)=(m:Int)-1-((0:Nat):Int):=by rw[C9 (by omega) (by omega)];omega
  rw[eh] at hs3;refine I3 (ι:={ p:Nat×List Int // p.1<=m∧p.2.length=k.length }) (fun p=>amT P L k.length k.length p.1.2 (alN pt0 P L m p.1.1) ((m:Int)-1-(p.1.1:Int))) (fun p=>m-p.1.1) (c:=lpC B8a) (k:=lpR B8a) (by kernel_rfl) (fun p ih2 ac cY aY hs=>?_) ⟨(0,List.replicate k.length 0),Nat.zero_le _,List.length_replicate⟩ (hs3.nx _)
  obtain ⟨⟨t,D⟩,ht1,hD⟩:=p;simp only at ih2 hs ht1 hD
  by_cases htm:t<m
  ·have hlt:m-(t+1)<m-t:=by omega
   obtain ⟨a,ha⟩:∃a:Nat,a=m-1-t:=⟨_,rfl⟩
   have ea:(m:Int)-1-(t:Int)=(a:Int):=by omega
   rw[ea] at hs;have hnext:alN pt0 P L m (t+1)=jpl (A4p 5 (alN pt0 P L m t)) (bkT pt0 P (A8m L a)):=by rw[ha];rfl
   generalize alN pt0 P L m t=o at hs hnext;refine amC P L _ _ D o _ ⟨decide_eq_true (by omega),trivial⟩ hs fun ac cZ aZ hs4=>?_
   refine I3 (ι:={ j:Nat // j<=5 }) (fun j=>amU P L k.length k.length D (A4p j.1 o) (a:Int) (j.1:Int)) (fun j=>5-j.1) (c:=lpC B8b) (k:=lpR B8b) (by kernel_rfl) (fun j ih3 ac cY aY hs=>?_) ⟨0,Nat.zero_le _⟩ (hs4.nx _)
   obtain ⟨j,hj⟩:=j;simp only at ih3 hs
   by_cases hj5:j<5
   ·have ej:jtw (A4p j o)=A4p (j+1) o:=(C5h j o).symm
    generalize A4p j o=o1 at hs ej;refine amD P L _ _ D _ _ _ ⟨decide_eq_true (by omega),trivial⟩ hs fun ac cV aV hs5=>?_
    rw[C9 (n:=(j:Int)+1) (by omega) (by omega),ej] at hs5
    exact ih3 ⟨j+1,hj5⟩ (by show 5-(j+1)<5-j;omega) ac cV aV (hs5.nx _)
   ·obtain rfl:j=5:=by omega
    generalize A4p 5 o=o5 at hs hnext;refine amE P L _ _ D _ _ _ ⟨by decide,hD.symm,trivial⟩ hs fun ac cV aV hs5=>?_
    refine I3 (ι:={ p:Nat×List Int // p.1<=k.length∧p.2.length=k.length∧∀j,j<p.1->p.2.getD j 0=(L.getD j []).getD a 0 }) (fun p=>amV P L k.length k.length p.1.2 o5 (a:Int) (p.1.1:Int)) (fun p=>k.length-p.1.1) (c:=lpC C4h) (k:=lpR C4h) (by kernel_rfl) (fun p ih4 ac cY aY hs=>?_)
     ⟨(0,List.replicate D.length 0),Nat.zero_le _,List.length_replicate.trans hD,fun j hj=>absurd hj (Nat.not_lt_zero j)⟩ (hs5.nx _)
    obtain ⟨⟨i,E⟩,hi1,hE,hEg⟩:=p;simp only at ih4 hs hi1 hE hEg
    by_cases hik:i<k.length
    ·have hri:=hrow i hik
     have hmn:=hmN (by omega)
     refine amF P L _ _ E _ _ _ ⟨decide_eq_true (by omega),by omega,by omega,rfl,by rw[Int.toNat_natCast];omega,by rw[Int.toNat_natCast,hri];exact decide_eq_true (by omega),by omega,by rw[Int.toNat_natCast,hri];omega,by omega,by omega,rfl,by rw[Int.toNat_natCast];omega,trivial⟩ hs fun ac cW aW hs6=>?_
     rw[Int.toNat_natCast,Int.toNat_natCast,C9 (n:=(i:Int)+1) (by omega) (by omega)] at hs6
     refine ih4 ⟨(i+1,E.set i ((L.getD i []).getD a 0)),hik,(List.length_set ..).trans hE,fun j hj=>?_⟩ (by show k.length-(i+1)<k.length-i;omega) ac cW aW (hs6.nx _)
     have hj:j<i+1:=hj;show (E.set i _).getD j 0=_;rw[F8k _ _ _ _ _ (by omega)]
     by_cases e:j=i
     ·subst e;rw[if_pos rfl]
     ·rw[if_neg e];exact hEg j (by omega)
    ·obtain rfl:i=k.length:=by omega
     have hrowE:E=A8m L a:=G5x (by omega) fun j hj=>hEg j (by omega)
     subst hrowE;have hds:G1d (A8m L a):=fun j=>by rw[C6k];exact hdig j a
     refine amH P L _ _ _ _ _ _ ⟨decide_eq_false (by omega),rfl,by omega,rfl,by omega,by omega,hds,trivial⟩ hs fun ac cW aW hs6=>?_
     have e7:wrap IntKind.i64 ((a:Int)-1)=(m:Int)-1-((t+1:Nat):Int):=by rw[C9 (by omega) (by omega)];omega
     rw[e7,<-hnext] at hs6;have ih5:=ih2 ⟨(t+1,A8m L a),htm,hE⟩ hlt;dsimp only at ih5;generalize alN pt0 P L m (t+1)=oN at hs6 ih5;exact ih5 ac cW aW (hs6.nx _)
  ·obtain rfl:t=m:=by omega
   exact Q4 A3n hk hF (G0b P L _ _ D _ _) ⟨decide_eq_false (by omega),trivial⟩ (fun y v hd=>hd) hs

end

section
section
variable {w0:World} {F0:Nat->Prop} {K:Kp} {ac:List Act} {Q:Exit->Act->World->Prop} {cX:Ctx} {aX:Act}

theorem E9d (P:List (Fp×Fp×Fp)) (k:List U4) (h:k.length=P.length∧P.length<=4096):FnD Tryz.prog 101 [.v (.c (.sl (.pt P))),.v (.c (.sl (.fr k)))] (.v (.a (Q3 (smJ 52 pt0 P k)))) []:=G0a P k h.1 h.2 (Eq.refl 52)
def C6z:B7
 | [.v (.c (.sl (.pt P))),.v (.c (.sl (.fr k)))]=>some ([k.length=P.length,P.length<=4096],.v (.a (Q3 (smJ 52 pt0 P k))),[])
 | _=>none
def udA:Env:=ucC.set (E1 ucC.fn 101 C6z)
theorem H4z:A8 Tryz.prog udA:=B0 A3n 101 C6z (A5 Tryz.func101 rfl rfl) fun args o r es h ho=>by
 unfold C6z at h;split at h
 ·cases h;exact E9d _ _ ⟨ho.1,ho.2.1⟩
 ·cases h
def I0o:List KI:=(run udA false 3000 ((fun (l:List G1D)=>(⟨[.code (C5 Tryz.f102)],.normal,F9 Tryz.f102.ntmps [.v (.c (.sl (.g1 l))),.v (.c (.clo 40 []))]⟩:Cfg)) default) []).cfg.k
theorem ea (l:List G1D):let a:Int:=l.length;A9 [(0<=a),(a=a),(((144:Int)*a)<=(281474976710656:Int)),(a<=(9223372036854775807:Int))]->Sg Tryz.prog (F9 Tryz.f102.ntmps [.v (.c (.sl (.g1 l))),.v (.c (.clo 40 []))]) (B2 26 [1,5,11,12,13] [(.ci (.clo 40 ([]:List (Prod Nat Nat)))),(.ci (.slc 64 0 (a).toNat 18)),(.ci (.sl (Sq.g1 l))),(.ii a),.ii (0:Int)] [64] [(eQ_ (Sq.pt (List.replicate (a).toNat pt0)))] 144 [] []) .normal (I0o) ([.code (C5 Tryz.f102)]):=fun ho=>fun hs hK=>
 B1 (unroll:=false) (n:=3000) (path:=[]) (o:=⟨_,_,_,_,_,_,_⟩) H4z (by kernel_rfl) (by kernel_rfl) ho hs hK
end
end

section

section
variable {G:Type} [J9 G]
end
theorem G8h {A:CP fq4} (h:SQ A):SQ (-A):=by
 have e:-A=0-A:=by clear h;grind
 show mlt (-A) rN=0;rw[e,B2i,show mlt A rN=0 from h,O1]
 grind
section
variable {G:Type} [J9 G]
end
theorem H1f {P:Pt Fp} (hP:OnC fp4 P) (hr:G7 P rN=none):G7 (P5 P) rN=none:=by
 rw[E7b cv1 hP,hr];rfl
theorem H1d {P Q:Pt Fp} (hP:OnC fp4 P) (hQ:OnC fp4 Q) (h1:G7 P rN=none) (h2:G7 Q rN=none):G7 (D9 P Q) rN=none:=by
 rw[B4w cv1 hP hQ,h1,h2];rfl
/-- What is inside: a point of the first group, one of the second. -/
structure In1 (a:G1D):Prop where
 o:onG a=true
 g:grp a=true
structure In2 (b:G2D):Prop where
 o:I6 b=true
 g:A2p b=true
theorem In1.r {a:G1D} (h:In1 a):G7 (pG a) rN=none:=H7t h.o h.g
theorem In1.c {a:G1D} (h:In1 a):OnC fp4 (pG a):=(A0z h.o).2
theorem In2.s {b:G2D} (h:In2 b):SQ (ptQ b h.o):=F2p h.o h.g
theorem In1.neg {a:G1D} (h:In1 a):In1 (E7a a):=⟨F6d h.o,C0j (F6d h.o) (by rw[H1s];exact H1f h.c h.r)⟩
theorem In1.add {a b:G1D} (h:In1 a) (k:In1 b):In1 (F9w a b):=⟨F6b h.o k.o,C0j (F6b h.o k.o) (by rw[H1q];exact H1d h.c k.c h.r k.r)⟩
theorem H1z {b:G2D} (h:I6 b=true) (k:I6 (C5r b)=true):ptQ (C5r b) k = -(ptQ b h):=Subtype.ext (G4s b)
theorem H1y {b c:G2D} (h:I6 b=true) (k:I6 c=true) (l:I6 (C4f b c)=true):ptQ (C4f b c) l=ptQ b h+ptQ c k:=Subtype.ext (G4n b c)
theorem In2.neg {b:G2D} (h:In2 b):In2 (C5r b):=⟨E4a h.o,B7m (E4a h.o) (by rw[H1z h.o];exact G8h h.s)⟩
theorem In2.add {b c:G2D} (h:In2 b) (k:In2 c):In2 (C4f b c):=⟨E3y h.o k.o,B7m (E3y h.o k.o) (by rw[H1y h.o k.o];exact E8z h.s k.s)⟩
end

section

theorem In1.of {P:Pt Fp} (hP:OnC fp4 P) (h:G7 P rN=none):In1 (gP P):=⟨B5a hP,C0j (B5a hP) (by rw[D5e];exact h)⟩
theorem C8h:In1 A1y:=⟨B5b,E2v⟩
theorem E3b:In2 P4:=⟨A2y,B1s⟩

end

section

/-- Rows in blocks, told otherwise. -/
def F0m (x:Ctx):List (Option En)->List (Option En)->Prop
 | [],[]=>True
 | e::l,e' :: l' => (e=e' ∨ ∃q q',e=some (.sq q)∧e' = some (.sq q')∧(q.n=0->q'.n=0)∧∀cs,D4 x (.sq q) cs->D4 x (.sq q') cs)∧F0m x l l'
 | _,_=>False
theorem B9a {x:Ctx}:∀{ml:List Nat} {ens ens' : List (Option En)},F0m x ens ens' -> ∀p,D8 none ml ens p=D8 none ml ens' p∨∃q q',D8 none ml ens p=some (.sq q)∧D8 none ml ens' p=some (.sq q')∧(q.n=0->q'.n=0)∧∀cs,D4 x (.sq q) cs->D4 x (.sq q') cs
 | [],_,_,_,_=>.inl rfl
 | _::_,[],[],_,_=>.inl rfl
 | _::_,[],_::_,h,_=>h.elim
 | _::_,_::_,[],h,_=>h.elim
 | t::tl,e::l,e' :: l',h,p=>by
  simp only[D8];by_cases hp:p=t
  ·simp only[hp,if_true];exact h.1
  ·simp only[hp,if_false];exact B9a h.2 p
theorem Sim.rows {w0:World} {F0:Nat->Prop} {K:Kp} {ac:List Act} {nt nx:Nat} {tl:List Nat} {svs:List SV} {ml:List Nat} {ens ens' : List (Option En)} {ftl:List (List Nat)} {fsv:List (List SV×Nat)} {x:Ctx} {a:Act}
  (hs:Sim w0 F0 K ac (B2 nt tl svs ml ens nx ftl fsv) x a) (h:F0m x ens ens'):Sim w0 F0 K ac (B2 nt tl svs ml ens' nx ftl fsv) x a:=by
 have hm:=hs.mem;refine ⟨hs.defers,hs.nt,hs.t,?_,hs.base,hs.frs⟩
 have key:=B9a (ml:=ml) h;refine ⟨fun p=>?_,fun p l hp=>?_,fun p q hp hn=>?_,fun p e hp hr=>?_,hm.inj,hm.own,hm.fw⟩
 ·rw[<-hm.dom p]
  show D8 none ml ens' p=none↔D8 none ml ens p=none;rcases key p with e | ⟨q,q',e1,e2,_⟩
  ·rw[e]
  ·rw[e1,e2]
   constructor<;>(intro h;cases h)
 ·have hp:D8 none ml ens' p=some (.fl l):=hp
  rcases key p with e | ⟨q,q',e1,e2,_⟩
  ·rw[<-e] at hp;exact hm.fl p l hp
  ·rw[e2] at hp;cases hp
 ·have hp:D8 none ml ens' p=some (.sq q):=hp
  rcases key p with e | ⟨q1,q',e1,e2,h0,_⟩
  ·rw[<-e] at hp;exact hm.nil p q hp hn
  ·rw[e2] at hp
   cases hp
   exact h0 (hm.nil p q1 e1 hn)
 ·have hp:D8 none ml ens' p=some e:=hp
  rcases key p with e0 | ⟨q,q',e1,e2,_,hc⟩
  ·rw[<-e0] at hp;exact hm.ent p e hp hr
  ·rw[e2] at hp
   cases hp
   obtain ⟨cs,ty,h1,h2⟩:=hm.ent p _ e1 hr;exact ⟨cs,ty,h1,hc _ h2⟩

end

section

theorem G3z {P:Pt Fp} (hP:OnC fp4 P) (m n:Nat):G7 (G7 P m) n=G7 (G7 P n) m:=by rw[<-C1n cv1 hP,<-C1n cv1 hP,Nat.mul_comm]
theorem In1.mul {a:G1D} (h:In1 a) (k:U4):In1 (B2n a k):=⟨F6c h.o k,C0j (F6c h.o k) (by rw[F6v h.o,G3z h.c,h.r,B4x])⟩
section
variable {F:Type} [Fld F] [DecidableEq F] {b:F}
theorem H0u (hc:Cv b) {X Y:CP b} {n:Nat} (h:Y.1=G7 X.1 n):letI:=Q9 hc;Y=mlt X n:=Subtype.ext (h.trans (A4s hc X n).symm)
end
section
variable {G:Type} [J9 G]
end
theorem E4f {b:G2D} (h:I6 b=true):(ptQ b h).1=pG2 b:=rfl
theorem F7n {b:G2D} (h:I6 b=true) (l:U4) (k:I6 (A1f b l)=true):ptQ (A1f b l) k=mlt (ptQ b h) l.val:=by
 have e:(ptQ (A1f b l) k).1=G7 (ptQ b h).1 l.val:=by
  rw[E4f,E4f];exact G4r h l
 generalize l.val=n at e ⊢
 exact H0u cv2 e
theorem In2.mul {b:G2D} (h:In2 b) (l:U4):In2 (A1f b l):=⟨E3z h.o l,B7m (E3z h.o l) (by rw[F7n h.o];exact E9a h.s l.val)⟩
end

section

theorem E2e:et (0:F12)=0:=by
 have e:cj (0:F12)=0:=E2.ext' rfl (by show -(0:F6)=0;grind)
 unfold et;rw[e];generalize A3z (0:F12)=i;grind
theorem G1i (u v:F12):et (u*v)=et u*et v:=by
 by_cases hu:u=0
 ·subst hu
  have e:(0:F12)*v=0:=by grind
  rw[e,E2e];generalize et v=i;grind
 ·by_cases hv:v=0
  ·subst hv
   have e:u*(0:F12)=0:=by grind
   rw[e,E2e];generalize et u=i;grind
  ·exact A1x H7 hu hv
theorem D2w (u v:F12):M4 (u*v)=M4 u*M4 v:=by rw[A3u,A3u,A3u,G1i,B9z]
/-- The generators' pairing. -/
def ge:F12:=prg (some gPt) ptH
theorem G2e (i j:Nat):prg (G7 (some gPt) i) (mlt ptH j)=A7 ge (i*j):=F7m i j
theorem G2d (i:Nat):prg (G7 (some gPt) i) ptH=A7 ge i:=B5k (P:=some gPt) D8h H_r i
theorem F2g (n:Nat):A7 ge n=1↔rN ∣ n:=G8y n
theorem F2f (m n:Nat):A7 ge (m+n)=A7 ge m*A7 ge n:=A0d ge m n
end

section

theorem D3e (k:U4):pG (B2n A1y k)=G7 (some gPt) k.val:=by rw[F6v B5b,D9i]
theorem F2i (k:U4) (h:I6 (A1f P4 k)=true):ptQ (A1f P4 k) h=mlt ptH k.val:=by rw[F7n A2y,B7s]
theorem G2o (x:Fr):S4.inF (S4.Y0 x)=x:=by
 refine Fin.ext ?_
 show (S4.Y0 x).val % rN=x.val;rw[S4.B2v,Nat.mod_eq_of_lt x.isLt]
end

section

/-- The sum of products, as a number; as the program's number. -/
def nN:List (U4×U4)->Nat
 | []=>0
 | z::l=>z.1.val*z.2.val+nN l
def sF (l:List (U4×U4)):U4:=l.foldl (fun s z=>S4.Y0 (S4.inF s+S4.inF (S4.Y0 (S4.inF z.1*S4.inF z.2)))) 0
theorem E4l (l:List (U4×U4)) (z:U4×U4):sF (l++[z])=S4.Y0 (S4.inF (sF l)+S4.inF (S4.Y0 (S4.inF z.1*S4.inF z.2))):=by unfold sF;rw[List.foldl_append];rfl
def gE (z:U4×U4):G1D×G2D:=(B2n A1y z.1,A1f P4 z.2)
theorem gE1 (z:U4×U4):(gE z).1=B2n A1y z.1:=by unfold gE;dsimp only
theorem gE2 (z:U4×U4):(gE z).2=A1f P4 z.2:=by unfold gE;dsimp only
theorem C9k:∀(l:List (U4×U4)) (z:U4×U4),nN (l++[z])=nN l+z.1.val*z.2.val
 | [],z=>by show z.1.val*z.2.val+0=0+z.1.val*z.2.val;omega
 | y::l,z=>by show y.1.val*y.2.val+nN (l++[z])=y.1.val*y.2.val+nN l+z.1.val*z.2.val;rw[C9k l z];omega
theorem E3k {α:Type} {P:List α->Prop} (h0:P []) (h1:∀l z,P l->P (l++[z])) (l:List α):P l:=by
 have h:∀m:List α,P m.reverse:=by
  intro m;induction m with
  | nil=>exact h0
  | cons z m ih=>rw[List.reverse_cons];exact h1 _ _ ih
 have:=h l.reverse
 rwa [List.reverse_reverse] at this
theorem F8i (l:List (U4×U4)):(sF l).val=nN l % rN:=by
 refine E3k (P:=fun l=>(sF l).val=nN l % rN) rfl (fun l z ih=>?_) l
 rw[E4l,C9k,S4.B2v,G2o];show ((sF l).val % rN+(z.1.val % rN*(z.2.val % rN)) % rN) % rN=_;rw[ih,<-Nat.mul_mod,Nat.mod_mod,<-Nat.add_mod]
theorem G3e (k l:U4):M4 (A4r (B2n A1y k) (A1f P4 l))=A7 ge (k.val*l.val):=by
 have h1:=C8h.mul k;have h2:=E3b.mul l;rw[D8w h1.o h2.o h2.g,D3e,F2i,G2e]
theorem D2x (l:List (U4×U4)):M4 (A2g (l.map gE))=A7 ge (nN l):=by
 refine E3k (P:=fun l=>M4 (A2g (l.map gE))=A7 ge (nN l)) B4d (fun l z ih=>?_) l
 rw[List.map_append,List.map_cons,List.map_nil,A9x,D2w,ih,C9k,F2f];have e:M4 (A4r (gE z).1 (gE z).2)=A7 ge (z.1.val*z.2.val):=by rw[gE1,gE2,G3e]
 rw[e]
theorem B3r:∀{l:List (G1D×G2D)},(∀z∈l,I9 z.1 z.2=0)->A8c l=0
 | [],_=>rfl
 | z::l,h=>by
  show (if (I9 z.1 z.2 != 0)=true then I9 z.1 z.2 else A8c l)=0
  rw[h z (List.mem_cons_self ..)];exact B3r fun y hy=>h y (List.mem_cons_of_mem _ hy)
theorem D1y:∀{l:List (G1D×G2D)} (z:G1D×G2D) {j:Nat},(∀z∈l,I9 z.1 z.2=0)->j<l.length->A8c (l.set j z)=I9 z.1 z.2
 | [],_,_,_,h=>nomatch h
 | y::l,z,0,h,_=>by
  show (if (I9 z.1 z.2 != 0)=true then I9 z.1 z.2 else A8c l)=_
  rw[B3r fun y hy=>h y (List.mem_cons_of_mem _ hy)]
  split
  ·rfl
  ·rename_i k
   exact (by simpa using k:I9 z.1 z.2=0).symm
 | y::l,z,j+1,h,hj=>by
  show (if (I9 y.1 y.2 != 0)=true then I9 y.1 y.2 else A8c (l.set j z))=_
  rw[h y (List.mem_cons_self ..)];exact D1y z (fun y hy=>h y (List.mem_cons_of_mem _ hy)) (Nat.lt_of_succ_lt_succ hj)
theorem F2c (l:List (U4×U4)):∀z∈l.map gE,I9 z.1 z.2=0:=by
 intro z hz;obtain ⟨y,_,rfl⟩:=List.mem_map.1 hz;have h1:=C8h.mul y.1;have h2:=E3b.mul y.2;rw[gE1,gE2];exact D7r h1.o h2.o h1.g h2.g
theorem E4s {α β:Type} (l:List (α×β)):(l.map (·.1)).zip (l.map (·.2))=l:=by
 induction l with
 | nil=>rfl
 | cons z l ih=>exact congrArg (z :: ·) ih
theorem F6x {l:List (G1D×G2D)} (hn:l.length<=64) (h:∀z∈l,I9 z.1 z.2=0):pcD (l.map (·.1)) (l.map (·.2))=(A5u (M4 (A2g l)) 1,0):=by
 unfold pcD;rw[List.length_map,List.length_map,E4s,if_neg (fun h=>h rfl),if_neg (by omega),B3r h]
 rfl
theorem F1d {x:F12} {p:Prop} [Decidable p] (h:x=1↔p):A5u x 1=decide p:=by
 rw[Bool.eq_iff_iff,E5z,decide_eq_true_iff];exact h
/-- Whether the product is 1. -/
theorem G4z {l:List (U4×U4)} (hn:l.length<=64):pcD ((l.map gE).map (·.1)) ((l.map gE).map (·.2))=(decide (sF l=0),0):=by
 rw[F6x (by rw[List.length_map];exact hn) (F2c l),D2x]
 refine congrArg (fun q=>(q,(0:Int))) (F1d ?_)
 rw[F2g,Nat.dvd_iff_mod_eq_zero,<-F8i];exact ⟨fun h=>Fin.ext h,fun h=>congrArg Fin.val h⟩
theorem F5o {n:Nat} [NeZero n] (x:Fin n):((0:Fin n)-x).val=(n-x.val) % n:=by
 rw[Fin.sub_def];show (n-x.val+0 % n) % n=_;rw[Nat.zero_mod,Nat.add_zero]
theorem F6y {l:List (G1D×G2D)} (hn:l.length<64) (h:∀z∈l,I9 z.1 z.2=0) (x:G1D) (y:G2D) (hc:I9 x y=0):pcD (l.map (·.1)++[x]) (l.map (·.2)++[y])=(A5u (M4 (A2g l*A4r x y)) 1,0):=by
 have e1:l.map (·.1)++[x]=(l++[(x,y)]).map (·.1):=by rw[List.map_append];rfl
 have e2:l.map (·.2)++[y]=(l++[(x,y)]).map (·.2):=by rw[List.map_append];rfl
 rw[e1,e2,F6x (by rw[List.length_append,List.length_singleton];omega) (fun z hz=>by
  rcases List.mem_append.1 hz with hz | hz
  ·exact h z hz
  ·rw[List.mem_singleton] at hz
   rw[hz];exact hc),A9x]
/-- What is lacking, put at the end. -/
theorem G4x {l:List (U4×U4)} (hn:l.length<64):pcD ((l.map gE).map (·.1)++[B2n A1y (S4.Y0 (0-S4.inF (sF l)))]) ((l.map gE).map (·.2)++[P4])=(true,0):=by
 have h:=C8h.mul (S4.Y0 (0-S4.inF (sF l)));have hc:I9 (B2n A1y (S4.Y0 (0-S4.inF (sF l)))) P4=0:=D7r h.o A2y h.g B1s;rw[F6y (by rw[List.length_map];exact hn) (F2c l) _ _ hc,D2w,D2x,D8w h.o A2y B1s,D3e,B7s,G2d,<-F2f]
 refine congrArg (fun q=>(q,(0:Int))) ((F1d (p:=True) ?_).trans rfl)
 rw[F2g,Nat.dvd_iff_mod_eq_zero,S4.B2v];refine iff_true_intro ?_
 rw[F5o];have e3:(S4.inF (sF l)).val=nN l % rN:=by
  show (sF l).val % rN=_;rw[F8i,Nat.mod_mod]
 rw[e3,Nat.add_mod_mod];have hr:=G7w;generalize nN l=a;generalize rN=r at hr;have h1:=Nat.div_add_mod a r;have h2:=Nat.mod_lt a hr;have e:a+(r-a % r)=r*(a / r+1):=by rw[Nat.mul_add,Nat.mul_one];omega
 rw[e,Nat.mul_mod_right]
theorem C1a {α β:Type} (f:α->β):∀(l:List α) (j:Nat) (z:α),(l.set j z).map f=(l.map f).set j (f z)
 | [],_,_=>rfl
 | _::_,0,_=>rfl
 | y::l,j+1,z=>congrArg (f y :: ·) (C1a f l j z)
theorem G4y {l:List (U4×U4)} (hn:l.length<=64) {j:Nat} (hj:j<l.length) (a:G1D) (b:G2D):(pcD (((l.map gE).map (·.1)).set j a) (((l.map gE).map (·.2)).set j b)).2=I9 a b∧(I9 a b≠0->(pcD (((l.map gE).map (·.1)).set j a) (((l.map gE).map (·.2)).set j b)).1=false):=by
 have e1:((l.map gE).map (·.1)).set j a=((l.map gE).set j (a,b)).map (·.1):=(C1a (·.1) (l.map gE) j (a,b)).symm;have e2:((l.map gE).map (·.2)).set j b=((l.map gE).set j (a,b)).map (·.2):=(C1a (·.2) (l.map gE) j (a,b)).symm;have hc:=D1y (a,b) (F2c l) (j:=j) (by rw[List.length_map];exact hj)
 have e3:pcD (((l.map gE).map (·.1)).set j a) (((l.map gE).map (·.2)).set j b)=if (I9 a b != 0)=true then (false,I9 a b) else (A5u (M4 (A2g ((l.map gE).set j (a,b)))) 1,0):=by
  rw[e1,e2];unfold pcD;rw[List.length_map,List.length_map,E4s,if_neg (fun h=>h rfl),List.length_set,List.length_map,if_neg (by omega),hc]
 rw[e3];by_cases h:I9 a b=0
 ·rw[if_neg (by rw[h];decide)]
  exact ⟨h.symm,fun k=>absurd h k⟩
 ·rw[if_pos (bne_iff_ne.2 h)]
  exact ⟨rfl,fun _=>rfl⟩
theorem G5a {la:List G1D} {lb:List G2D} (h:la.length≠lb.length):pcD la lb=(false,3):=if_pos h
end

section

theorem I1k (a b:Nat):(ite ((4:Int)<(ite ((b:Int)<(a:Int)) (b:Int) (a:Int))) (4:Int) (ite ((b:Int)<(a:Int)) (b:Int) (a:Int)))=((min 4 (min a b):Nat):Int):=by split<;>split<;>omega
/-- The place that is made bad. -/
theorem G8i (n:Int) (m:Nat) (h0:0<m) (hm:m<=4):∃j:Nat,j<m∧Int.tmod (wrap IntKind.i64 ((Int.tmod n (m:Int))+(m:Int))) (m:Int)=(j:Int):=by
 have h1:Int.tmod n (m:Int)<(m:Int):=Int.tmod_lt_of_pos n (by omega)
 have h2:-(m:Int)<Int.tmod n (m:Int):=Int.lt_tmod_of_pos n (by omega)
 generalize Int.tmod n (m:Int)=t at *;rw[C9 (n:=t+(m:Int)) (by omega) (by omega),Int.tmod_eq_emod_of_nonneg (by omega)]
 have h3:=Int.emod_nonneg (t+(m:Int)) (show (m:Int)≠0 by omega)
 have h4:=Int.emod_lt_of_pos (t+(m:Int)) (show (0:Int)<(m:Int) by omega)
 exact ⟨((t+(m:Int)) % (m:Int)).toNat,by omega,by omega⟩
def A6n (l:List (U4×U4)):List G1D:=(l.map gE).map (·.1)
def A6o (l:List (U4×U4)):List G2D:=(l.map gE).map (·.2)
theorem H1o (l:List (U4×U4)):(A6n l).length=l.length:=by unfold A6n;rw[List.length_map,List.length_map]
theorem H1p (l:List (U4×U4)):(A6o l).length=l.length:=by unfold A6o;rw[List.length_map,List.length_map]
theorem G4l (l:List (U4×U4)) (z:U4×U4):A6n l++[B2n A1y z.1]=A6n (l++[z]):=by unfold A6n;rw[List.map_append,List.map_append,List.map_cons,List.map_nil,List.map_cons,List.map_nil,gE1]
theorem G4m (l:List (U4×U4)) (z:U4×U4):A6o l++[A1f P4 z.2]=A6o (l++[z]):=by unfold A6o;rw[List.map_append,List.map_append,List.map_cons,List.map_nil,List.map_cons,List.map_nil,gE2]
theorem F9r {ks ls:List U4} {i:Nat} (h:i<min ks.length ls.length):(ks.zip ls).take (i+1)=(ks.zip ls).take i++[(ks.getD i 0,ls.getD i 0)]:=by
 have hz:i<(ks.zip ls).length:=by rw[List.length_zip];exact h
 rw[List.take_succ_eq_append_getElem hz,List.getElem_zip];have e1:ks.getD i 0=ks[i]'(by omega):=by rw[List.getD_eq_getElem?_getD,List.getElem?_eq_getElem (by omega)];rfl
 have e2:ls.getD i 0=ls[i]'(by omega):=by rw[List.getD_eq_getElem?_getD,List.getElem?_eq_getElem (by omega)];rfl
 rw[e1,e2]
theorem G4d {b c:Bool} (h:b=c):(if false=true then (b == (if true=true then c else !c)) else !(b == (if true=true then c else !c)))=false:=by subst h;cases b<;>rfl
theorem C2b (ks ls:List U4) (bad:Int) (a:G1D) (b:G2D):FnD Tryz.prog 4 [.v (.c (.sl (.fr ks))),.v (.c (.sl (.fr ls))),.v (.c (.int .i64 bad)),.v (.a a.its),.v (.a b.its)] (.v (.c (.bool true))) []:=by
 refine A0n (fn:=Tryz.f4) (c:=C5 Tryz.f4) Tryz.func4 rfl rfl fun x0 a0 hk hF hs=>?_
 refine px ks ls bad a b trivial hs fun ac cY aY hs1=>?_
 rw[I1k] at hs1;have hm4:min 4 (min ks.length ls.length)<=4:=Nat.min_le_left _ _;have hmk:min 4 (min ks.length ls.length)<=min ks.length ls.length:=Nat.min_le_right _ _;generalize min 4 (min ks.length ls.length)=m at hs1 hm4 hmk;have hmax:4097<=maxLen:=by decide
 have hs2:=hs1.nilRow (p:=17) (q:=.g1 []) rfl (by decide) rfl (ml' := [16,17,32,208]) (ens' := [some (.fl [.ob (.fp a.x),.ob (.fp a.y),.bool a.inf]),some (.sq (.g1 [])),some (.fl [.ob (.fp b.xa),.ob (.fp b.xb),.ob (.fp b.ya),.ob (.fp b.yb),.bool b.inf]),some (.fl [.ob (.fr 0)])]) (fun r=>by simp only[D8];(repeat' split)<;>first | rfl | omega)
  (svs' := [.v (.c (.sl (.fr ks))),.v (.c (.sl (.fr ls))),.v (.c (.int .i64 bad)),.v (.c (.ptr 16 0)),.v (.c (.ptr 32 0)),.v (.c (.int .i64 (m:Int))),.v (.c (.slc 17 0 0 13)),.v (.c (.val (.slice none 0 0))),.v (.c (.ptr 208 0)),.v (.c (.int .i64 (m:Int))),.v (.c (.int .i64 0))]) ⟨.inl rfl,.inl rfl,.inl rfl,.inl rfl,.inl rfl,.inl rfl,.inr ⟨13,rfl,rfl⟩,.inl rfl,.inl rfl,.inl rfl,.inl rfl,trivial⟩
 have hs3:=hs2.nilRow (p:=18) (q:=.g2 []) rfl (by decide) rfl (ml' := [16,17,18,32,208]) (ens' := [some (.fl [.ob (.fp a.x),.ob (.fp a.y),.bool a.inf]),some (.sq (.g1 [])),some (.sq (.g2 [])),some (.fl [.ob (.fp b.xa),.ob (.fp b.xb),.ob (.fp b.ya),.ob (.fp b.yb),.bool b.inf]),some (.fl [.ob (.fr 0)])]) (fun r=>by simp only[D8];(repeat' split)<;>first | rfl | omega)
  (svs' := [.v (.c (.sl (.fr ks))),.v (.c (.sl (.fr ls))),.v (.c (.int .i64 bad)),.v (.c (.ptr 16 0)),.v (.c (.ptr 32 0)),.v (.c (.int .i64 (m:Int))),.v (.c (.slc 17 0 0 13)),.v (.c (.slc 18 0 0 25)),.v (.c (.ptr 208 0)),.v (.c (.int .i64 (m:Int))),.v (.c (.int .i64 0))]) ⟨.inl rfl,.inl rfl,.inl rfl,.inl rfl,.inl rfl,.inl rfl,.inl rfl,.inr ⟨25,rfl,rfl⟩,.inl rfl,.inl rfl,.inl rfl,trivial⟩
 change Wq Tryz.prog _ _ _ _ _ (K9 (K9 cY 17) 18).w
 refine I3 (ι:={ i:Nat // i<=m }) (fun i=>pxS ks ls bad a b (m:Int) (i.1:Int) i.1 (A6n ((ks.zip ls).take i.1)) (A6o ((ks.zip ls).take i.1)) (sF ((ks.zip ls).take i.1))) (fun i=>m-i.1) (c:=lpC D9s) (k:=lpR D9s) (by kernel_rfl) (fun i ih ac cY aY hs=>?_) ⟨0,Nat.zero_le _⟩ (hs3.nx _)
 obtain ⟨i,hi⟩:=i;simp only at ih hs
 have hl:((ks.zip ls).take i).length=i:=by rw[List.length_take,List.length_zip];omega
 have hA:=(H1o ((ks.zip ls).take i)).trans hl;have hB:=(H1p ((ks.zip ls).take i)).trans hl;by_cases hin:i<m
 ·have ih2:=ih ⟨i+1,hin⟩ (by show m-(i+1)<m-i;omega)
  dsimp only at ih2;rw[F9r (by omega),E4l,<-G4l,<-G4m] at ih2
  dsimp only at ih2;clear ih;generalize (ks.zip ls).take i=l at hs hl hA hB ih2;have g1:=D8z (a:=A1y) (ks.getD i 0) B5b;have g2:=E3o (a:=P4) (ls.getD i 0) A2y;refine pxR ks ls bad a b (m:Int) (i:Int) i (A6n l) (A6o l) (sF l) ?_ hs fun ac cZ aZ hs4=>?_
  ·rw[Int.toNat_natCast,g1,g2,hA,hB]
   exact ⟨decide_eq_true (by omega),by omega,by omega,by omega,by omega,rfl,rfl,by omega,by omega,rfl,rfl,by omega,by omega,rfl,rfl,by omega,by omega,by omega,by omega,trivial⟩
  ·rw[Int.toNat_natCast,g1,g2,hA,hB,C9 (by omega) (by omega),show (i:Int)+1=((i+1:Nat):Int) from rfl] at hs4
   dsimp only at hs4;exact ih2 _ _ _ (hs4.nx _)
 ·have him:i=m:=by omega
  subst him;clear ih;generalize (ks.zip ls).take i=l at hs hl hA hB;have e1:=G4z (l:=l) (by omega)
  have e2:=G4x (l:=l) (by omega)
  have e3:pcD (A6n l) (A6o l++[b])=(false,3):=G5a (by rw[List.length_append,List.length_singleton];omega)
  change pcD (A6n l) (A6o l)=_ at e1
  change pcD (A6n l++[_]) (A6o l++[_])=_ at e2
  have g1:=D8z (a:=A1y) (S4.Y0 (0-S4.inF (sF l))) B5b;refine pxM ks ls bad a b (i:Int) (i:Int) i (A6n l) (A6o l) (sF l) ?_ hs fun ac cZ aZ hs4=>?_
  ·rw[g1]
   dsimp only;rw[e1,e2,e3,List.length_append,List.length_append,List.length_append,hA,hB];refine ⟨decide_eq_false (by omega),rfl,rfl,rfl,rfl,rfl,rfl,by omega,by omega,rfl,rfl,by omega,by omega,by omega,rfl,by omega,by omega,rfl,rfl,by omega,by omega,by omega,rfl,rfl,rfl,rfl,rfl,rfl,rfl,rfl,G4d rfl,rfl,rfl,rfl,by omega,by omega,rfl,rfl,by omega,by omega,by omega,rfl,rfl,rfl,rfl,rfl,rfl,rfl,rfl,trivial⟩
  ·have hs5:Sim x0.w x0.F Y8 ac (pxT bad a b (i:Int) i (A6n l) (A6o l)) cZ aZ:=hs4
   by_cases h0:i=0
   ·exact Q4 B5n hk hF (G5k bad a b (i:Int) i (A6n l) (A6o l)) ⟨by rw[h0];rfl,trivial⟩ (fun y v hd=>P9 rfl hd) hs5
   ·obtain ⟨j,hj,ej⟩:=G8i bad i (by omega) hm4
    obtain ⟨q1,q2⟩:=G4y (l:=l) (by omega) (j:=j) (by omega) a b
    change (pcD ((A6n l).set j a) ((A6o l).set j b)).2=_ at q1
    change _->(pcD ((A6n l).set j a) ((A6o l).set j b)).1=_ at q2
    by_cases hc:I9 a b=0
    ·have r:=G5i bad a b (i:Int) i (A6n l) (A6o l)
     dsimp only at r;rw[ej,Int.toNat_natCast,q1,List.length_set,List.length_set,hA,hB,hc] at r;refine Q4 B5n hk hF r ⟨?_,?_,?_,?_,?_,rfl,?_,?_,?_,?_,?_,rfl,?_,rfl,rfl,rfl,rfl,rfl,rfl,rfl,rfl,trivial⟩ (fun y v hd=>P9 rfl hd) hs5
     all_goals first | omega | (simp;omega)
    ·have r:=G5j bad a b (i:Int) i (A6n l) (A6o l)
     dsimp only at r;rw[ej,Int.toNat_natCast,q1,q2 hc,List.length_set,List.length_set,hA,hB] at r;refine Q4 B5n hk hF r ⟨?_,?_,?_,?_,?_,rfl,?_,?_,?_,?_,?_,rfl,?_,rfl,rfl,rfl,rfl,rfl,rfl,beq_self_eq_true _,?_,trivial⟩ (fun y v hd=>hd) hs5
     all_goals first | omega | (simp;omega) | simpa using hc
end

end
end Go.Proofs.YtefimjofjjdndaaGreat
