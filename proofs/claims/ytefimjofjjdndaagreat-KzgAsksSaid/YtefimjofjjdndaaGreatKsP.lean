/- Parts of a proof, one behind the other: WFf, WMa, WFj, PFj, WCc, PCc, WUa, PUa, WUb, PUb, WUc, PUc, WCk, PCk, WUd, PUd, WUe, PUe, WKc, WFh, POb, PEb, Gx, Gy, Gz, Gw, Gv, Gu, Gt, Gs, Gq, PFh, PFi, PKc, WPa, Tc, PPa, WPb, PPb, WSpw, PSpw, WPc, PPc, WPd, PPd, WKm, PKm, WKn, WKa, PKa. No conditions. -/
import Derived.Test.YtefimjofjjdndaaGreatKsO
open Go.IntKind (wrap)
namespace Go.Proofs.YtefimjofjjdndaaGreat
noncomputable section
section

theorem D3q (x0 x1 x2 x3 x4 x5 x6 x7 x8 x9 x10 x11:Fp):FnD Tryz.prog 35 [.v (.a [.ob (.p x0),.ob (.p x1),.ob (.p x2),.ob (.p x3),.ob (.p x4),.ob (.p x5),.ob (.p x6),.ob (.p x7),.ob (.p x8),.ob (.p x9),.ob (.p x10),.ob (.p x11)])] (.v (.a (D7 (J0 (⟨⟨(x0,x1),(x2,x3),(x4,x5)⟩,⟨(x6,x7),(x8,x9),(x10,x11)⟩⟩:F12))))) []:=D7c (⟨⟨(x0,x1),(x2,x3),(x4,x5)⟩,⟨(x6,x7),(x8,x9),(x10,x11)⟩⟩:F12)
def A8f:B1
 | [.v (.a [.ob (.p x0),.ob (.p x1),.ob (.p x2),.ob (.p x3),.ob (.p x4),.ob (.p x5),.ob (.p x6),.ob (.p x7),.ob (.p x8),.ob (.p x9),.ob (.p x10),.ob (.p x11)])]=>some ([],.v (.a (D7 (J0 (⟨⟨(x0,x1),(x2,x3),(x4,x5)⟩,⟨(x6,x7),(x8,x9),(x10,x11)⟩⟩:F12)))),[])
 | _=>none
def uyD:Env:=uyC.set (C7 uyC.fn 35 A8f)
theorem G8k:A6 Tryz.prog uyD:=A4 P2 35 A8f (A3 Tryz.func35 rfl rfl) fun args o r es h _=>by
 unfold A8f at h;split at h
 ·cases h;exact D3q _ _ _ _ _ _ _ _ _ _ _ _
 ·cases h
def A9j:B1
 | [.v (.a [.ob (.fp xa),.ob (.fp ya),.bool _]),.v (.a [.ob (.fp a),.ob (.fp b),.ob (.fp c),.ob (.fp d),.bool j])]=>some ([],.v (.a (D7 (mil (inP xa) (inP ya) (P4 ⟨a,b,c,d,j⟩)))),[])
 | _=>none
def uyE:Env:=uyD.set (C7 uyD.fn 73 A9j)
theorem A2c:A6 Tryz.prog uyE:=A4 G8k 73 A9j (A3 Tryz.func73 rfl rfl) fun args o r es h _=>by
 unfold A9j at h;split at h
 ·cases h;exact D7y _ _ _ _ _ _ _ _
 ·cases h
--@env uyE A2c

theorem ckA (xa ya a b c d:U6) (i j:Bool):B2 uyE Tryz.f34 3000 [.v (.a [.ob (.fp xa),.ob (.fp ya),.bool i]),.v (.a [.ob (.fp a),.ob (.fp b),.ob (.fp c),.ob (.fp d),.bool j])] [true] [] []=(some ([((Bool.not (onG (G1D.mk xa ya i)))=true)],((.ii (30:Int)),[]))):=by kernel_rfl
theorem ckB (xa ya a b c d:U6) (i j:Bool):B2 uyE Tryz.f34 3000 [.v (.a [.ob (.fp xa),.ob (.fp ya),.bool i]),.v (.a [.ob (.fp a),.ob (.fp b),.ob (.fp c),.ob (.fp d),.bool j])] [false,true] [] []=(some ([((Bool.not (onG (G1D.mk xa ya i)))=false),((Bool.not (I3 (G2D.mk a b c d j)))=true)],((.ii (30:Int)),[]))):=by kernel_rfl
theorem ckC (xa ya a b c d:U6) (i j:Bool):B2 uyE Tryz.f34 3000 [.v (.a [.ob (.fp xa),.ob (.fp ya),.bool i]),.v (.a [.ob (.fp a),.ob (.fp b),.ob (.fp c),.ob (.fp d),.bool j])] [false,false,true] [] []=(some ([((Bool.not (onG (G1D.mk xa ya i)))=false),((Bool.not (I3 (G2D.mk a b c d j)))=false),((Bool.not (grp (G1D.mk xa ya i)))=true)],((.ii (31:Int)),[]))):=by kernel_rfl
theorem ckD (xa ya a b c d:U6) (i j:Bool):B2 uyE Tryz.f34 3000 [.v (.a [.ob (.fp xa),.ob (.fp ya),.bool i]),.v (.a [.ob (.fp a),.ob (.fp b),.ob (.fp c),.ob (.fp d),.bool j])] [false,false,false,true] [] []=(some ([((Bool.not (onG (G1D.mk xa ya i)))=false),((Bool.not (I3 (G2D.mk a b c d j)))=false),((Bool.not (grp (G1D.mk xa ya i)))=false),((Bool.not (A0i (G2D.mk a b c d j)))=true)],((.ii (31:Int)),[]))):=by kernel_rfl
theorem ckE (xa ya a b c d:U6) (i j:Bool):B2 uyE Tryz.f34 3000 [.v (.a [.ob (.fp xa),.ob (.fp ya),.bool i]),.v (.a [.ob (.fp a),.ob (.fp b),.ob (.fp c),.ob (.fp d),.bool j])] [false,false,false,false] [] []=(some ([((Bool.not (onG (G1D.mk xa ya i)))=false),((Bool.not (I3 (G2D.mk a b c d j)))=false),((Bool.not (grp (G1D.mk xa ya i)))=false),((Bool.not (A0i (G2D.mk a b c d j)))=false)],((.ii (0:Int)),[]))):=by kernel_rfl
theorem loA (xa ya a b c d:U6) (i j:Bool):B2 uyE Tryz.f36 3000 [.v (.a [.ob (.fp xa),.ob (.fp ya),.bool i]),.v (.a [.ob (.fp a),.ob (.fp b),.ob (.fp c),.ob (.fp d),.bool j])] [true] [] []=(some ([(i=true)],((.v (.a (D7 (1:F12)))),[]))):=by kernel_rfl
theorem loB (xa ya a b c d:U6) (i j:Bool):B2 uyE Tryz.f36 3000 [.v (.a [.ob (.fp xa),.ob (.fp ya),.bool i]),.v (.a [.ob (.fp a),.ob (.fp b),.ob (.fp c),.ob (.fp d),.bool j])] [false,true] [] []=(some ([(i=false),(j=true)],((.v (.a (D7 (1:F12)))),[]))):=by kernel_rfl
theorem loC (xa ya a b c d:U6) (i j:Bool):B2 uyE Tryz.f36 3000 [.v (.a [.ob (.fp xa),.ob (.fp ya),.bool i]),.v (.a [.ob (.fp a),.ob (.fp b),.ob (.fp c),.ob (.fp d),.bool j])] [false,false] [] []=(some ([(i=false),(j=false)],((.v (.a (D7 (mil (inP xa) (inP ya) (P4 (G2D.mk a b c d j)))))),[]))):=by kernel_rfl
/-- How a pair is refused, if it is; the loop's value. -/
def V4 (a:G1D) (b:G2D):Int:=if (!onG a || !I3 b)=true then 30 else if (!grp a || !A0i b)=true then 31 else 0
def B9m (a:G1D) (b:G2D):F12:=if (a.inf || b.inf)=true then 1 else mil (inP a.x) (inP a.y) (P4 b)
theorem F9x (xa ya a b c d:U6) (i j:Bool):FnD Tryz.prog 34 [.v (.a [.ob (.fp xa),.ob (.fp ya),.bool i]),.v (.a [.ob (.fp a),.ob (.fp b),.ob (.fp c),.ob (.fp d),.bool j])] (.v (.c (.int .i64 (V4 ⟨xa,ya,i⟩ ⟨a,b,c,d,j⟩)))) []:=by
 unfold V4
 cases h1:(!onG ⟨xa,ya,i⟩) with
 | true=>exact A2 A2c Tryz.func34 (ckA xa ya a b c d i j) ⟨h1,trivial⟩
 | false=>
  cases h2:(!I3 ⟨a,b,c,d,j⟩) with
  | true=>exact A2 A2c Tryz.func34 (ckB xa ya a b c d i j) ⟨h1,h2,trivial⟩
  | false=>
   cases h3:(!grp ⟨xa,ya,i⟩) with
   | true=>exact A2 A2c Tryz.func34 (ckC xa ya a b c d i j) ⟨h1,h2,h3,trivial⟩
   | false=>
    cases h4:(!A0i ⟨a,b,c,d,j⟩) with
    | true=>exact A2 A2c Tryz.func34 (ckD xa ya a b c d i j) ⟨h1,h2,h3,h4,trivial⟩
    | false=>exact A2 A2c Tryz.func34 (ckE xa ya a b c d i j) ⟨h1,h2,h3,h4,trivial⟩
theorem F9a (xa ya a b c d:U6) (i j:Bool):FnD Tryz.prog 36 [.v (.a [.ob (.fp xa),.ob (.fp ya),.bool i]),.v (.a [.ob (.fp a),.ob (.fp b),.ob (.fp c),.ob (.fp d),.bool j])] (.v (.a (D7 (B9m ⟨xa,ya,i⟩ ⟨a,b,c,d,j⟩)))) []:=by
 cases i with
 | true=>
  have e:B9m ⟨xa,ya,true⟩ ⟨a,b,c,d,j⟩=1:=if_pos rfl;rw[e];exact A2 A2c Tryz.func36 (loA xa ya a b c d true j) ⟨rfl,trivial⟩
 | false=>
  cases j with
  | true=>
   have e:B9m ⟨xa,ya,false⟩ ⟨a,b,c,d,true⟩=1:=if_pos rfl;rw[e];exact A2 A2c Tryz.func36 (loB xa ya a b c d false true) ⟨rfl,rfl,trivial⟩
  | false=>
   have e:B9m ⟨xa,ya,false⟩ ⟨a,b,c,d,false⟩=mil (inP xa) (inP ya) (P4 ⟨a,b,c,d,false⟩):=if_neg (fun h=>nomatch h)
   rw[e];exact A2 A2c Tryz.func36 (loC xa ya a b c d false false) ⟨rfl,rfl,trivial⟩
def C8z:B1
 | [.v (.a [.ob (.fp xa),.ob (.fp ya),.bool i]),.v (.a [.ob (.fp a),.ob (.fp b),.ob (.fp c),.ob (.fp d),.bool j])]=>some ([],.v (.c (.int .i64 (V4 ⟨xa,ya,i⟩ ⟨a,b,c,d,j⟩))),[])
 | _=>none
def uyF:Env:=uyE.set (C7 uyE.fn 34 C8z)
theorem G6g:A6 Tryz.prog uyF:=A4 A2c 34 C8z (A3 Tryz.func34 rfl rfl) fun args o r es h _=>by
 unfold C8z at h;split at h
 ·cases h;exact F9x _ _ _ _ _ _ _ _
 ·cases h
def C6f:B1
 | [.v (.a [.ob (.fp xa),.ob (.fp ya),.bool i]),.v (.a [.ob (.fp a),.ob (.fp b),.ob (.fp c),.ob (.fp d),.bool j])]=>some ([],.v (.a (D7 (B9m ⟨xa,ya,i⟩ ⟨a,b,c,d,j⟩))),[])
 | _=>none
def uyG:Env:=uyF.set (C7 uyF.fn 36 C6f)
theorem F4w:A6 Tryz.prog uyG:=A4 G6g 36 C6f (A3 Tryz.func36 rfl rfl) fun args o r es h _=>by
 unfold C6f at h;split at h
 ·cases h;exact F9a _ _ _ _ _ _ _ _
 ·cases h
--@env uyG F4w
end

section

--@env qwC C7c
theorem muA (a b:U6) (i:Bool) (k:U4):B2 qwC Tryz.f11 3000 [.v (.a [.ob (.fp a),.ob (.fp b),.bool i]),.v (.a [.ob (.fr k)])] [true] [] []=(some ([((Bool.not (onG (G1D.mk a b i)))=true)],((.t [(.a [(.ob (.fp (0:U6))),(.ob (.fp (0:U6))),(.lit false)]),(.c (.int .i64 (30:Int)))]),[]))):=by kernel_rfl
theorem muB (a b:U6) (i:Bool) (k:U4):B2 qwC Tryz.f11 3000 [.v (.a [.ob (.fp a),.ob (.fp b),.bool i]),.v (.a [.ob (.fr k)])] [false] [] []=(some ([((Bool.not (onG (G1D.mk a b i)))=false)],((.t [(.a [(.ob (.fp (G1D.x (Z5 (jmn (inG (G1D.mk a b i)) (dgT (Fin.val k) 64)))))),(.ob (.fp (G1D.y (Z5 (jmn (inG (G1D.mk a b i)) (dgT (Fin.val k) 64)))))),(.bool (G1D.inf (Z5 (jmn (inG (G1D.mk a b i)) (dgT (Fin.val k) 64)))))]),(.c (.int .i64 (0:Int)))]),[]))):=by kernel_rfl
theorem F3y (a b:U6) (i:Bool) (k:U4):FnD Tryz.prog 11 [.v (.a [.ob (.fp a),.ob (.fp b),.bool i]),.v (.a [.ob (.fr k)])] (.t [.a (muR ⟨a,b,i⟩ k).1.its,.c (.int .i64 (muR ⟨a,b,i⟩ k).2)]) []:=by
 by_cases h1:onG ⟨a,b,i⟩=true
 ·rw[G3v k h1]
  exact A2 C7c Tryz.func11 (muB a b i k) ⟨by rw[h1];rfl,trivial⟩
 ·have h1:onG ⟨a,b,i⟩=false:=Bool.eq_false_iff.2 h1
  rw[F9w k h1];exact (A2 C7c Tryz.func11 (muA a b i k) ⟨by rw[h1];rfl,trivial⟩).conv (fun _ _ h=>h) fun y v hd=>A5v hd
--@env ruC C5s
theorem H5u (a b c d:U6) (i:Bool) (k:U4):B2 ruC Tryz.f12 3000 [.v (.a [.ob (.fp a),.ob (.fp b),.ob (.fp c),.ob (.fp d),.bool i]),.v (.a [.ob (.fr k)])] [true] [] []=(some ([((Bool.not (I3 (G2D.mk a b c d i)))=true)],((.t [(.a [(.ob (.fp (0:U6))),(.ob (.fp (0:U6))),(.ob (.fp (0:U6))),(.ob (.fp (0:U6))),(.lit false)]),(.c (.int .i64 (30:Int)))]),[]))):=by kernel_rfl
theorem H6n (a b c d:U6) (i:Bool) (k:U4):B2 ruC Tryz.f12 3000 [.v (.a [.ob (.fp a),.ob (.fp b),.ob (.fp c),.ob (.fp d),.bool i]),.v (.a [.ob (.fr k)])] [false] [] []=(some ([((Bool.not (I3 (G2D.mk a b c d i)))=false)],((.t [(.a [(.ob (.fp (G2D.xa (A1y (jmn (P4 (G2D.mk a b c d i)) (dgT (Fin.val k) 64)))))),(.ob (.fp (G2D.xb (A1y (jmn (P4 (G2D.mk a b c d i)) (dgT (Fin.val k) 64)))))),(.ob (.fp (G2D.ya (A1y (jmn (P4 (G2D.mk a b c d i)) (dgT (Fin.val k) 64)))))),(.ob (.fp (G2D.yb (A1y (jmn (P4 (G2D.mk a b c d i)) (dgT (Fin.val k) 64)))))),(.bool (G2D.inf (A1y (jmn (P4 (G2D.mk a b c d i)) (dgT (Fin.val k) 64)))))]),(.c (.int .i64 (0:Int)))]),[]))):=by kernel_rfl
theorem F0c (a b c d:U6) (i:Bool) (k:U4):FnD Tryz.prog 12 [.v (.a [.ob (.fp a),.ob (.fp b),.ob (.fp c),.ob (.fp d),.bool i]),.v (.a [.ob (.fr k)])] (.t [.a (A4a ⟨a,b,c,d,i⟩ k).1.its,.c (.int .i64 (A4a ⟨a,b,c,d,i⟩ k).2)]) []:=by
 by_cases h1:I3 ⟨a,b,c,d,i⟩=true
 ·rw[E0y k h1]
  exact A2 C5s Tryz.func12 (H6n a b c d i k) ⟨by rw[h1];rfl,trivial⟩
 ·have h1:I3 ⟨a,b,c,d,i⟩=false:=Bool.eq_false_iff.2 h1
  rw[F4c k h1];exact (A2 C5s Tryz.func12 (H5u a b c d i k) ⟨by rw[h1];rfl,trivial⟩).conv (fun _ _ h=>h) fun y v hd=>D0r hd
def C0r:B1
 | [.v (.a [.ob (.fp a),.ob (.fp b),.bool i]),.v (.a [.ob (.fr k)])]=>some ([],.t [.a (muR ⟨a,b,i⟩ k).1.its,.c (.int .i64 (muR ⟨a,b,i⟩ k).2)],[])
 | _=>none
def uzA:Env:=uyG.set (C7 uyG.fn 11 C0r)
theorem G8m:A6 Tryz.prog uzA:=A4 F4w 11 C0r (A3 Tryz.func11 rfl rfl) fun args o r es h _=>by
 unfold C0r at h;split at h
 ·cases h;exact F3y _ _ _ _
 ·cases h
def C0h:B1
 | [.v (.a [.ob (.fp a),.ob (.fp b),.ob (.fp c),.ob (.fp d),.bool i]),.v (.a [.ob (.fr k)])]=>some ([],.t [.a (A4a ⟨a,b,c,d,i⟩ k).1.its,.c (.int .i64 (A4a ⟨a,b,c,d,i⟩ k).2)],[])
 | _=>none
def uzB:Env:=uzA.set (C7 uzA.fn 12 C0h)
theorem J3:A6 Tryz.prog uzB:=A4 G8m 12 C0h (A3 Tryz.func12 rfl rfl) fun args o r es h _=>by
 unfold C0h at h;split at h
 ·cases h;exact F0c _ _ _ _ _ _
 ·cases h
end

section
section
variable {w0:World} {F0:Nat->Prop} {K:Kp} {ac:List Act} {Q:Exit->Act->World->Prop} {cX:Ctx} {aX:Act}

--@env uzB J3
def D5m:List KI:=(run uzB false 3000 ((fun (l:Nat) (va vp:Value) (la:List G1D)=>(⟨[.code (B7 Tryz.f93)],.normal,⟨B3a [.v (.c (.val (.func (.yield l) #[] #[]))),.v (.c (.ptr 0 0)),.v (.c (.val vp))],one (.fl [.vsl va (.g1 la)]),Tryz.f93.ntmps,16,[]⟩⟩:Cfg)) default default default default) []).cfg.k
theorem pj (l:Nat) (va vp:Value) (la:List G1D) (ho:A7 []):Sg Tryz.prog (⟨B3a [.v (.c (.val (.func (.yield l) #[] #[]))),.v (.c (.ptr 0 0)),.v (.c (.val vp))],one (.fl [.vsl va (.g1 la)]),Tryz.f93.ntmps,16,[]⟩) (A8 22 [0,2,6,7,8] [(.ci (.val (Value.func (Fn.yield l) (Array.mk ([]:List Value)) (Array.mk ([]:List Value))))),(.ci (.val vp)),(.ci (It.vsl va (Sq.g1 la))),(.ii (la.length:Int)),.ii (0:Int)] [0] [(eF_ [(It.vsl va (Sq.g1 la))])] 64 [] []) .normal (D5m) ([.code (B7 Tryz.f93)]):=fun hs hK=>
 A5 (unroll:=false) (n:=3000) (path:=[]) (o:=⟨_,_,_,_,_,_,_⟩) J3 (by kernel_rfl) (by kernel_rfl) ho hs hK
def pjS (l:Nat) (va vb:Value) (la:List G1D) (lb:List G2D) (i:Int):St:=A8 22 [0,2,6,7,8] [(.ci (.val (Value.func (Fn.yield l) (Array.mk ([]:List Value)) (Array.mk ([]:List Value))))),.v (.c (.ptr 0 0)),(.ci (It.vsl va (Sq.g1 la))),(.ii (la.length:Int)),.v (.c (.int .i64 i))] [0] [some (.fl [.vsl vb (.g2 lb)])] 64 [] []
def D6x:List KI:=(run uzB false 3000 ((fun (l:Nat) (va vb:Value) (la:List G1D) (lb:List G2D) (i:Nat)=>(⟨E7 D5m,.normal,pjS l va vb la lb (i:Int)⟩:Cfg)) default default default default default default) [true]).cfg.k
section
variable (l:Nat) (va vb:Value) (la:List G1D) (lb:List G2D) (i:Nat)
theorem pk (ho:A7 [((decide ((i:Int)<(la.length:Int)))=true),(0<=(i:Int)),((i:Int)<(la.length:Int)),(0<=(i:Int)),((i:Int)<(lb.length:Int))]):Sg Tryz.prog (pjS l va vb la lb (i:Int)) (A8 22 [0,2,6,7,8,13,14,18] [(.ci (.val (Value.func (Fn.yield l) (Array.mk ([]:List Value)) (Array.mk ([]:List Value))))),.pt 0 0,(.ci (It.vsl va (Sq.g1 la))),(.ii (la.length:Int)),(.ii (i:Int)),(.ci (.val (Value.func (Fn.yield l) (Array.mk ([]:List Value)) (Array.mk ([]:List Value))))),(.v (.a [(.ob (.fp (G1D.x (List.getD la ((i:Int)).toNat g10)))),(.ob (.fp (G1D.y (List.getD la ((i:Int)).toNat g10)))),(.bool (G1D.inf (List.getD la ((i:Int)).toNat g10)))])),(.v (.a [(.ob (.fp (G2D.xa (List.getD lb ((i:Int)).toNat g20)))),(.ob (.fp (G2D.xb (List.getD lb ((i:Int)).toNat g20)))),(.ob (.fp (G2D.ya (List.getD lb ((i:Int)).toNat g20)))),(.ob (.fp (G2D.yb (List.getD lb ((i:Int)).toNat g20)))),(.bool (G2D.inf (List.getD lb ((i:Int)).toNat g20)))]))] [0] [(eF_ [(It.vsl vb (Sq.g2 lb))])] 304 [] []) .normal (D6x) (E7 D5m):=fun hs hK=>
 A5 (unroll:=false) (n:=3000) (path:=[true]) (o:=⟨_,_,_,_,_,_,_⟩) J3 (by kernel_rfl) (by kernel_rfl) ho hs hK
theorem pX (ho:A7 [((decide ((i:Int)<(la.length:Int)))=false)]):Sg Tryz.prog (pjS l va vb la lb (i:Int)) (A8 22 [] [] [0] [(eF_ [(It.vsl vb (Sq.g2 lb))])] 80 [] []) .normal ([]) (E7 D5m):=fun hs hK=>
 A5 (unroll:=false) (n:=3000) (path:=[false]) (o:=⟨_,_,_,_,_,_,_⟩) J3 (by kernel_rfl) (by kernel_rfl) ho hs hK
end
theorem E6t (l:Nat) (va vb:Value) (la:List G1D) (lb:List G2D) (i:Nat):A4k uzB false 3000 ((⟨X5 D6x,.normal,⟨K8 (D1 .top [0,2,6,7,8,13,14,18] [.v (.c (.val (.func (.yield l) #[] #[]))),.v (.c (.ptr 0 0)),.v (.c (.vsl va (.g1 la))),.v (.c (.int .i64 (la.length:Nat))),.v (.c (.int .i64 (i:Int))),.top,.top,.top]) 19 (.ci (.lit true)),one (.fl [.vsl vb (.g2 lb)]),22,400,[]⟩⟩:Cfg)) [] [0,2,6,7,8] [0] []=some ⟨[],Exit.normal,[(SV.v (V1.c (It.val (Value.func (Fn.yield l) (Array.mk ([]:List Value)) (Array.mk ([]:List Value)))))),(SV.v (V1.c (It.ptr 0 0))),(SV.v (V1.c (It.vsl va (Sq.g1 la)))),(SV.v (V1.c (It.int IntKind.i64 (la.length:Int)))),(SV.v (V1.c (It.int IntKind.i64 (wrap IntKind.i64 (((i:Nat):Int)+(1:Int))))))],[(Option.some (En.fl [(It.vsl vb (Sq.g2 lb))]))],22,448,[]⟩:=by kernel_rfl
theorem F1g (l:Nat) (va vb:Value) (la:List G1D) (lb:List G2D) (i:Nat):(run uzB false 3000 ((⟨X5 D6x,.normal,⟨K8 (D1 .top [0,2,6,7,8,13,14,18] [.v (.c (.val (.func (.yield l) #[] #[]))),.v (.c (.ptr 0 0)),.v (.c (.vsl va (.g1 la))),.v (.c (.int .i64 (la.length:Nat))),.v (.c (.int .i64 (i:Int))),.top,.top,.top]) 19 (.ci (.lit true)),one (.fl [.vsl vb (.g2 lb)]),22,400,[]⟩⟩:Cfg)) []).cfg.k=N8 D5m:=by kernel_rfl
theorem pB (l:Nat) (va vb:Value) (la:List G1D) (lb:List G2D) (i:Nat) (ho:A7 []):Sg Tryz.prog (⟨K8 (D1 .top [0,2,6,7,8,13,14,18] [.v (.c (.val (.func (.yield l) #[] #[]))),.v (.c (.ptr 0 0)),.v (.c (.vsl va (.g1 la))),.v (.c (.int .i64 (la.length:Nat))),.v (.c (.int .i64 (i:Int))),.top,.top,.top]) 19 (.ci (.lit true)),one (.fl [.vsl vb (.g2 lb)]),22,400,[]⟩) (A8 22 [0,2,6,7,8] [(.ci (.val (Value.func (Fn.yield l) (Array.mk ([]:List Value)) (Array.mk ([]:List Value))))),.pt 0 0,(.ci (It.vsl va (Sq.g1 la))),(.ii (la.length:Int)),(.ii (wrap .i64 ((i:Int)+1)))] [0] [(eF_ [(It.vsl vb (Sq.g2 lb))])] 448 [] []) .normal (N8 D5m) (X5 D6x):=fun hs hK=>
 A5 J3 (E6t l va vb la lb i) (F1g l va vb la lb i) ho hs hK
theorem E7t  : A4k uzB false 3000 ((⟨X5 D6x,.normal,⟨K8 (D1 .top [] []) 19 (.ci (.lit false)),D1 none [] [],22,400,[]⟩⟩:Cfg)) [] [] [] []=some ⟨[],Exit.ret,[],[],22,416,[]⟩:=by kernel_rfl
theorem F4h  : (run uzB false 3000 ((⟨X5 D6x,.normal,⟨K8 (D1 .top [] []) 19 (.ci (.lit false)),D1 none [] [],22,400,[]⟩⟩:Cfg)) []).cfg.k=[]:=by kernel_rfl
theorem pC  (ho:A7 []):Sg Tryz.prog (⟨K8 (D1 .top [] []) 19 (.ci (.lit false)),D1 none [] [],22,400,[]⟩) (A8 22 [] [] [] [] 416 [] []) .ret ([]) (X5 D6x):=fun hs hK=>
 A5 J3 (E7t ) (F4h ) ho hs hK
end
end

section

def g1V (a:G1D):Value:=.agg ((Ob.fp a.x).cells++((Ob.fp a.y).cells++[Value.bool a.inf])).toArray
def g2V (b:G2D):Value:=.agg ((Ob.fp b.xa).cells++((Ob.fp b.xb).cells++((Ob.fp b.ya).cells++((Ob.fp b.yb).cells++[Value.bool b.inf])))).toArray
theorem E2w {x:Ctx} {o:Ob} {c:List Value} (h:x.D (.ob o) c):c=o.cells:=by
 obtain ⟨d,h⟩:=h
 cases d<;>exact h
theorem H1w {x:Ctx} {b:Bool} {c:List Value} (h:x.D (.bool b) c):c=[Value.bool b]:=by
 obtain ⟨d,h⟩:=h
 cases d<;>exact h
theorem H0p {x:Ctx} {a:G1D} {v:Value} (h:B5 x (.v (.a a.its)) v):v=g1V a:=by
 obtain ⟨cs,rfl,c1,c2,rfl,h1,c3,c4,rfl,h2,c5,c6,rfl,h3,rfl⟩:=h;rw[E2w h1,E2w h2,H1w h3];rfl
theorem G8h {x:Ctx} {b:G2D} {v:Value} (h:B5 x (.v (.a b.its)) v):v=g2V b:=by
 obtain ⟨cs,rfl,c1,c2,rfl,h1,c3,c4,rfl,h2,c5,c6,rfl,h3,c7,c8,rfl,h4,c9,c10,rfl,h5,rfl⟩:=h;rw[E2w h1,E2w h2,E2w h3,E2w h4,H1w h5];rfl
theorem E8i (x:Ctx) (a:G1D):B5 x (.v (.a a.its)) (g1V a):=⟨_,rfl,_,_,rfl,⟨0,rfl⟩,_,_,rfl,⟨0,rfl⟩,_,[],rfl,⟨0,rfl⟩,rfl⟩
theorem F0z (x:Ctx) (b:G2D):B5 x (.v (.a b.its)) (g2V b):=⟨_,rfl,_,_,rfl,⟨0,rfl⟩,_,_,rfl,⟨0,rfl⟩,_,_,rfl,⟨0,rfl⟩,_,_,rfl,⟨0,rfl⟩,_,[],rfl,⟨0,rfl⟩,rfl⟩
def B9x (z:G1D×G2D):List Value:=[g1V z.1,g2V z.2]
def E9q (z:G1D×G2D):List SV:=[.v (.a z.1.its),.v (.a z.2.its)]
theorem D4x {la:List G1D} {lb:List G2D} (hlen:la.length=lb.length) {i:Nat} (hi:i<la.length):(la.zip lb).take (i+1)=(la.zip lb).take i++[(la.getD i g10,lb.getD i g20)]:=by
 have h1:i<lb.length:=by omega
 rw[List.take_add_one];congr 1
 simp [List.getElem?_zip_eq_some,List.getD_eq_getElem?_getD,hi,h1]
theorem B8d {x:Ctx} {p q:Nat} {va vb:Value} {la:List G1D} {lb:List G2D} {M:List (G1D×G2D)->Nat->Option En} {G:Ctx->Prop} {n:Nat} {stop:Option (G1D×G2D)} (hlen:la.length=lb.length) (hlim:la.length<=64) (hn:n<=la.length)
  (hst:(stop=none∧n=la.length)∨(n<la.length∧stop=some (la.getD n g10,lb.getD n g20))) (hMa:∀s,M s p=some (.fl [.vsl va (.g1 la)])) (hMb:∀s,M s q=some (.fl [.vsl vb (.g2 lb)])) (hG:∀y,G y->y.D (.sl (.g1 la)) [va]) :
  E0m Tryz.prog x 93 [(p,0),(q,0)] B9x ((la.zip lb).take n) stop M G:=by
 intro l J J' W hgrow hgrow' hread hyield hstop hnone hJ
 have key:Wq Tryz.prog (bodyPost Tryz.prog Tryz.f93 fun e' W' => (∃v,e' = Ending.returned v)∧J' W') [.code (B7 Tryz.f93)] [] .normal { tmps:=[Value.func (.yield l) #[] #[],.pointer (some ⟨x.β p,0,none⟩),.pointer (some ⟨x.β q,0,none⟩)].toArray++Array.replicate 19 undef,defers:=[] } W:=?_
 ·exact calls_of_wp (c:=B7 Tryz.f93) Tryz.func93 rfl ((wpIn_wide (n:=0)).1 key.wp)
 obtain ⟨y,rfl,hGy,hm,hcp⟩:=hread [] W hJ;obtain ⟨hr,hβ⟩:=hcp (p,0) List.mem_cons_self;have hr:y.k p = .real:=hr;have hβ:y.β p=x.β p:=hβ;have hargs:H9 (D4 y p) [.v (.c (.val (.func (.yield l) #[] #[]))),.v (.c (.ptr 0 0)),.v (.c (.val (.pointer (some ⟨x.β q,0,none⟩))))] [.func (.yield l) #[] #[],.pointer (some ⟨x.β p,0,none⟩),.pointer (some ⟨x.β q,0,none⟩)]:=
  .cons ⟨rfl,0,rfl,rfl⟩ (.cons ⟨rfl,0,rfl,by show _=[Value.pointer (some ⟨y.β p,0,none⟩)];rw[hβ]⟩ (.cons ⟨rfl,0,rfl,rfl⟩ .nil))
 have hbox:∀{y:Ctx} {q:Nat} {v:Value} {s:Sq} (cs:Array Value) (ty:TypeId),y.w.heap[y.β q]? = some (.cells cs ty (0,0))->C4 y (.fl [.vsl v s]) cs.toList->C4 (D4 y q) (.fl [.vsl v s]) cs.toList:=fun cs _ _ hc=>G4v cs hc
 have hs:=B2s (nx:=16) (nt:=22) (a:={ tmps:=[Value.func (.yield l) #[] #[],.pointer (some ⟨x.β p,0,none⟩),.pointer (some ⟨x.β q,0,none⟩)].toArray++Array.replicate 19 undef,defers:=[] }) hm (hMa []) hr hbox rfl (by simp) (A2u hargs 19)
 change Wq Tryz.prog _ _ _ _ _ (D4 y p).w
 refine pj l va _ la trivial hs fun ac cY aY hs1=>?_
 have hmb:Mem (D4 y p) (one (.fl [.vsl va (.g1 la)])):=A8g hm (hMa _) hr hbox;obtain ⟨hg1,_,_⟩:=A0m hmb rfl hs1 rfl;have hJ1:=hgrow _ _ _ hJ hg1;obtain ⟨y1,e1,hG1,hm1,hcp1⟩:=hread _ _ hJ1;obtain ⟨hr1,hβ1⟩:=hcp1 (q,0) (List.mem_cons_of_mem _ List.mem_cons_self);have hr1:y1.k q = .real:=hr1;have hβ1:y1.β q=x.β q:=hβ1;have dat:∀{y:Ctx},G y->(D4 y q).D (.sl (.g1 la)) [va]:=fun {y} h=>A3s (x:=y) (y:=D4 y q) rfl (fun _ h=>h) rfl (hG y h)
 have hs2:=G1p (nx' := 80) (svs' := [.v (.c (.val (.func (.yield l) #[] #[]))),.v (.c (.ptr 0 0)),.v (.c (.vsl va (.g1 la))),.v (.c (.int .i64 (la.length:Nat))),.v (.c (.int .i64 ((0:Nat):Int)))]) hs1 rfl hm1 (hMb []) hr1 hbox ⟨F3c,G8n (z:=x) hβ1.symm,F3f (dat hG1),C7t,C7t,trivial⟩;rw[<-e1];rw[<-e1] at hJ1;let I:{ t:Nat // t<=n } -> List Act->Act->World->Prop:=fun t ac a w=>∃y z,z.w=w∧G y∧y.k q = .real∧y.β q=x.β q∧Mem y (M ((la.zip lb).take t.1))∧J ((la.zip lb).take t.1) y.w∧Sim y.w y.F (B2m (D4 y q)) ac (pjS l va vb la lb (t.1:Int)) z a
 refine A4r I (fun t=>n-t.1) (c:=lpC D5m) (k:=lpR D5m) (by kernel_rfl) (fun t ih ac b w hI=>?_) ⟨0,Nat.zero_le _⟩ ⟨y1,D4 y1 q,rfl,hG1,hr1,hβ1,hm1,hJ1,hs2.nx _⟩
 obtain ⟨t,ht⟩:=t;obtain ⟨y,z,rfl,hG2,hr,hβ,hm,hJ,hs⟩:=hI;simp only at hm hJ hs ih
 have hmb:Mem (D4 y q) (one (.fl [.vsl vb (.g2 lb)])):=A8g hm (hMb _) hr hbox;by_cases h:t<la.length
 ·refine pk l va vb la lb t ⟨by simp;omega,by omega,by omega,by omega,by omega,trivial⟩ hs fun ac cV aV hs4=>?_
  obtain ⟨hg4,_,hβ4⟩:=A0m hmb rfl hs4 rfl;have hJ4:=hgrow _ _ _ hJ hg4;have ev:[aV.tmps.getD 14 undef,aV.tmps.getD 18 undef]=B9x (la.getD t g10,lb.getD t g20):=by
   have k1:=H0p (hs4.t 14);have k2:=G8h (hs4.t 18);show _=[g1V _,g2V _];rw[k1,k2];rfl
  by_cases h2:t<n
  ·have hz:=D4x hlen h
   refine C1r (R:=fun W' => J ((la.zip lb).take (t+1)) W') (dst:=some 19) (f:=.tmp 13) (args:=[.tmp 14,.tmp 18]) (by kernel_rfl) hs4 (l:=l) rfl (vs:=B9x (la.getD t g10,lb.getD t g20)) ev ?_ fun W' hJ3=>?_
   ·have:=hyield ((la.zip lb).take t) (la.getD t g10,lb.getD t g20) _ hJ4 ⟨((la.zip lb).take n).drop (t+1),by
     have e2:((la.zip lb).take n).take (t+1)=(la.zip lb).take (t+1):=by rw[List.take_take];congr 1;omega
     have e3:=List.take_append_drop (t+1) ((la.zip lb).take n);rw[e2,hz,List.append_assoc] at e3;exact e3.symm⟩
    rw[<-hz] at this;exact this
   ·obtain ⟨y3,rfl,hG3,hm3,hc3⟩:=hread _ _ hJ3
    obtain ⟨hr3,hβ3⟩:=hc3 (q,0) (List.mem_cons_of_mem _ List.mem_cons_self);have hr3:y3.k q = .real:=hr3;have hβ3:y3.β q=x.β q:=hβ3;have hs7:=F0a (nx' := 400) (dst:=19) (b:=true) (svs' := [.v (.c (.val (.func (.yield l) #[] #[]))),.v (.c (.ptr 0 0)),.v (.c (.vsl va (.g1 la))),.v (.c (.int .i64 (la.length:Nat))),.v (.c (.int .i64 (t:Int))),.top,.top,.top]) hs4 rfl hm3 (hMb _) hr3 hbox ⟨F3c,G6x (by rw[hβ4,hβ];exact hβ3.symm),F3f (dat hG3),C7t,C7t,D8l,D8l,D8l,trivial⟩ (by decide)
    change Wq Tryz.prog _ _ _ _ _ (D4 y3 q).w
    refine pB l va vb la lb t trivial hs7 fun ac cT aT hs8=>?_
    have e4:wrap IntKind.i64 ((t:Int)+1)=((t+1:Nat):Int):=by rw[B9 (by omega) (by omega)];omega
    rw[e4] at hs8;exact ih ⟨t+1,by omega⟩ (by show n-(t+1)<n-t;omega) ac aT _ ⟨y3,cT,rfl,hG3,hr3,hβ3,hm3,hJ3,hs8.nx _⟩
  ·have ht2:t=n:=by omega
   subst ht2;rcases hst with ⟨_,h3⟩ | ⟨_,h3⟩
   ·omega
   ·refine C3e (ans:=false) (R:=J') (dst:=some 19) (f:=.tmp 13) (args:=[.tmp 14,.tmp 18]) (by kernel_rfl) hs4 (l:=l) rfl (vs:=B9x (la.getD t g10,lb.getD t g20)) ev (hstop _ h3 _ hJ4) fun W' hJ3=>?_
    have hb:=G0j (nt:=22) (nx:=400) (dst:=19) (b:=false) (w:=W') (a:=aV) hs4.nt (by have:=hs4.defers;exact this) (by decide)
    change Wq Tryz.prog _ _ _ _ _ (D9r W').w
    have hfr:Frs cV (B2m (D4 y q)).ds [] ac:=hs4.frs
    cases hfr
    refine pC trivial hb fun ac cT aT hs8=>?_
    exact ⟨C7o J3 hs8 rfl rfl rfl (fun v=>⟨⟨v,rfl⟩,hgrow' _ _ hJ3 ⟨hs8.base.os,hs8.base.tape,hs8.base.output,hs8.base.size,fun b hb _=>hs8.base.keep b hb trivial⟩⟩) (.inl rfl)⟩
 ·have e5:t=n:=by omega
  subst e5;refine pX l va vb la lb t ⟨by simp;omega,trivial⟩ hs fun ac cV aV hs4=>?_
  obtain ⟨hg,_,_⟩:=A0m hmb rfl hs4 rfl;rcases hst with ⟨h3,_⟩ | ⟨h3,_⟩
  ·exact ⟨C7o J3 hs4 rfl rfl rfl (fun v=>⟨⟨v,rfl⟩,hnone h3 _ (hgrow _ _ _ hJ hg)⟩) (.inr rfl)⟩
  ·omega
end

section
section
variable {w0:World} {F0:Nat->Prop} {K:Kp} {ac:List Act} {Q:Exit->Act->World->Prop} {cX:Ctx} {aX:Act}

--@env uzB J3
theorem ccA (va vb:Value) (la:List G1D) (lb:List G2D):B2 uzB Tryz.f18 3000 [.v (.c (.vsl va (.g1 la))),.v (.c (.vsl vb (.g2 lb)))] [true] [] []=(some ([(((la.length:Int) != (lb.length:Int))=true)],((.t [(.c (.lit false)),(.c (.int .i64 (3:Int)))]),[]))):=by kernel_rfl
theorem ccB (va vb:Value) (la:List G1D) (lb:List G2D):B2 uzB Tryz.f18 3000 [.v (.c (.vsl va (.g1 la))),.v (.c (.vsl vb (.g2 lb)))] [false,true] [] []=(some ([(((la.length:Int) != (lb.length:Int))=false),((decide ((la.length:Int) > (64:Int)))=true)],((.t [(.c (.lit false)),(.c (.int .i64 (2:Int)))]),[]))):=by kernel_rfl
def C0d:List KI:=(run uzB false 3000 ((fun (va vb:Value) (la:List G1D) (lb:List G2D)=>(⟨[.code (B7 Tryz.f18)],.normal,E4 Tryz.f18.ntmps [.v (.c (.vsl va (.g1 la))),.v (.c (.vsl vb (.g2 lb)))]⟩:Cfg)) default default default default) [false,false]).cfg.k
theorem cc (va vb:Value) (la:List G1D) (lb:List G2D) (ho:A7 [(((la.length:Int) != (lb.length:Int))=false),((decide ((la.length:Int) > (64:Int)))=false)]):Sg Tryz.prog (E4 Tryz.f18.ntmps [.v (.c (.vsl va (.g1 la))),.v (.c (.vsl vb (.g2 lb)))]) (A8 48 [0,1,4,5,24] [(.ci (It.vsl va (Sq.g1 la))),(.ci (It.vsl vb (Sq.g2 lb))),.pt 16 0,.pt 32 0,(.ci (.clo 93 [(240,0),(256,0)]))] [16,32,240,256] [(eF_ [(.lit false)]),(eF_ [(.int .i64 (0:Int))]),(eF_ [(It.vsl va (Sq.g1 la))]),(eF_ [(It.vsl vb (Sq.g2 lb))])] 320 [] []) .normal (C0d) ([.code (B7 Tryz.f18)]):=fun hs hK=>
 A5 (unroll:=false) (n:=3000) (path:=[false,false]) (o:=⟨_,_,_,_,_,_,_⟩) J3 (by kernel_rfl) (by kernel_rfl) ho hs hK
def ccS (va vb:Value) (la:List G1D) (lb:List G2D) (e:Int):St:=A8 48 [0,1,4,5,24] [(.ci (It.vsl va (Sq.g1 la))),(.ci (It.vsl vb (Sq.g2 lb))),.pt 16 0,.pt 32 0,(.ci (.clo 93 [(240,0),(256,0)]))] [16,32,240,256] [(eF_ [(.lit false)]),some (.fl [.int .i64 e]),(eF_ [(It.vsl va (Sq.g1 la))]),(eF_ [(It.vsl vb (Sq.g2 lb))])] 320 [] []
theorem cA (va vb:Value) (la:List G1D) (lb:List G2D) (xa ya a b c d:U6) (i j:Bool) {ρ:Option Nat} (ho:A7 []) (hs:Sim w0 F0 K ac (U3 (ccS va vb la lb 0) [(25,.v (.a [.ob (.fp xa),.ob (.fp ya),.bool i])),(26,.v (.a [.ob (.fp a),.ob (.fp b),.ob (.fp c),.ob (.fp d),.bool j]))]) cX aX) (hK:∀cY aY,Sim w0 F0 K ac (A8 48 [4,5,6,7] [.pt 16 0,.pt 32 0,.pt 320 0,.pt 352 0] [16,32,240,256,320,352] [(eF_ [(.lit false)]),(eF_ [(.int .i64 (0:Int))]),(eF_ [(It.vsl va (Sq.g1 la))]),(eF_ [(It.vsl vb (Sq.g2 lb))]),(eF_ [.ob (.fp xa),.ob (.fp ya),(.bool i)]),(eF_ [.ob (.fp a),.ob (.fp b),.ob (.fp c),.ob (.fp d),(.bool j)])] 384 [[0,1,4,5,24]] [([(.ci (It.vsl va (Sq.g1 la))),(.ci (It.vsl vb (Sq.g2 lb))),.pt 16 0,.pt 32 0,(.ci (.clo 93 [(240,0),(256,0)]))],48)]) cY aY->Wq Tryz.prog Q ([]) ac Exit.normal aY cY.w ρ):Wq Tryz.prog Q ([.code (rfA C0d)]) ac .normal aX cX.w ρ :=
 F8 (unroll:=false) (n:=3000) (path:=[]) (o:=⟨_,_,_,_,_,_,_⟩) J3 (by kernel_rfl) (by kernel_rfl) ho (by kernel_rfl) (by kernel_rfl) hs hK
def ccM (va vb:Value) (la:List G1D) (lb:List G2D) (xa ya a b c d:U6) (i j:Bool):St:=A8 48 [4,5,6,7] [.pt 16 0,.pt 32 0,.pt 320 0,.pt 352 0] [16,32,240,256,320,352] [(eF_ [(.lit false)]),(eF_ [(.int .i64 (0:Int))]),(eF_ [(It.vsl va (Sq.g1 la))]),(eF_ [(It.vsl vb (Sq.g2 lb))]),(eF_ [.ob (.fp xa),.ob (.fp ya),(.bool i)]),(eF_ [.ob (.fp a),.ob (.fp b),.ob (.fp c),.ob (.fp d),(.bool j)])] 384 [[0,1,4,5,24]] [([(.ci (It.vsl va (Sq.g1 la))),(.ci (It.vsl vb (Sq.g2 lb))),.pt 16 0,.pt 32 0,(.ci (.clo 93 [(240,0),(256,0)]))],48)]
theorem cN (va vb:Value) (la:List G1D) (lb:List G2D) (xa ya a b c d:U6) (i j:Bool) {ρ:Option Nat} (ho:A7 [(((V4 (G1D.mk xa ya i) (G2D.mk a b c d j)) != (0:Int))=false)]) (hs:Sim w0 F0 K ac (ccM va vb la lb xa ya a b c d i j) cX aX) (hK:∀cY aY,Sim w0 F0 K ac (A8 48 [4,5] [.pt 16 0,.pt 32 0] [16,32,240,256] [(eF_ [(.lit false)]),(eF_ [(.int .i64 (0:Int))]),(eF_ [(It.vsl va (Sq.g1 la))]),(eF_ [(It.vsl vb (Sq.g2 lb))])] 480 [[0,1,4,5,24]] [([(.ci (It.vsl va (Sq.g1 la))),(.ci (It.vsl vb (Sq.g2 lb))),.pt 16 0,.pt 32 0,(.ci (.clo 93 [(240,0),(256,0)]))],48)]) cY aY->Wq Tryz.prog Q ([]) ac Exit.normal aY cY.w ρ):Wq Tryz.prog Q ([.code (rfB C0d)]) ac .normal aX cX.w ρ :=
 F8 (unroll:=false) (n:=3000) (path:=[false]) (o:=⟨_,_,_,_,_,_,_⟩) J3 (by kernel_rfl) (by kernel_rfl) ho (by kernel_rfl) (by kernel_rfl) hs hK
theorem cY (va vb:Value) (la:List G1D) (lb:List G2D) (xa ya a b c d:U6) (i j:Bool) {ρ:Option Nat} (ho:A7 [(((V4 (G1D.mk xa ya i) (G2D.mk a b c d j)) != (0:Int))=true)]) (hs:Sim w0 F0 K ac (ccM va vb la lb xa ya a b c d i j) cX aX) (hK:∀cY aY,Sim w0 F0 K ac (A8 48 [4,5] [.pt 16 0,.pt 32 0] [16,32,240,256] [(eF_ [(.lit false)]),(eF_ [(.int .i64 (V4 (G1D.mk xa ya i) (G2D.mk a b c d j)))]),(eF_ [(It.vsl va (Sq.g1 la))]),(eF_ [(It.vsl vb (Sq.g2 lb))])] 528 [[0,1,4,5,24]] [([(.ci (It.vsl va (Sq.g1 la))),(.ci (It.vsl vb (Sq.g2 lb))),.pt 16 0,.pt 32 0,(.ci (.clo 93 [(240,0),(256,0)]))],48)]) cY aY->Wq Tryz.prog Q ([]) ac Exit.ret aY cY.w ρ):Wq Tryz.prog Q ([.code (rfB C0d)]) ac .normal aX cX.w ρ :=
 F8 (unroll:=false) (n:=3000) (path:=[true]) (o:=⟨_,_,_,_,_,_,_⟩) J3 (by kernel_rfl) (by kernel_rfl) ho (by kernel_rfl) (by kernel_rfl) hs hK
def ccE (va vb:Value) (la:List G1D) (lb:List G2D) (xa ya a b c d:U6) (i j:Bool) (e:Int):St:=A8 48 [4,5] [.pt 16 0,.pt 32 0] [16,32,240,256] [(eF_ [(.lit false)]),some (.fl [.int .i64 e]),(eF_ [(It.vsl va (Sq.g1 la))]),(eF_ [(It.vsl vb (Sq.g2 lb))])] 480 [[0,1,4,5,24]] [([(.ci (It.vsl va (Sq.g1 la))),(.ci (It.vsl vb (Sq.g2 lb))),.pt 16 0,.pt 32 0,(.ci (.clo 93 [(240,0),(256,0)]))],48)]
theorem cR (va vb:Value) (la:List G1D) (lb:List G2D) (e:Int) (ho:A7 []):Sg Tryz.prog (ccS va vb la lb e) (A8 48 [4,5] [.pt 16 0,.pt 32 0] [16,32] [(eF_ [(.lit false)]),(eF_ [(.int .i64 e)])] 320 [] []) .ret ([]) (.code .ret::rfR C0d):=fun hs hK=>
 A5 (unroll:=false) (n:=3000) (path:=[]) (o:=⟨_,_,_,_,_,_,_⟩) J3 (by kernel_rfl) (by kernel_rfl) ho hs hK
def D2x:List KI:=(run uzB false 3000 ((fun (va vb:Value) (la:List G1D) (lb:List G2D)=>(⟨rfR C0d,.normal,ccS va vb la lb 0⟩:Cfg)) default default default default) []).cfg.k
theorem cW (va vb:Value) (la:List G1D) (lb:List G2D) {ρ:Option Nat} (ho:A7 []) (hs:Sim w0 F0 K ac (ccS va vb la lb 0) cX aX) (hK:∀cY aY,Sim w0 F0 K ac (A8 48 [0,1,4,5,9,36] [(.ci (It.vsl va (Sq.g1 la))),(.ci (It.vsl vb (Sq.g2 lb))),.pt 16 0,.pt 32 0,.pt 336 0,(.ci (.clo 93 [(400,0),(416,0)]))] [16,32,336,400,416] [(eF_ [(.lit false)]),(eF_ [(.int .i64 (0:Int))]),(eF_ (D7 (1:F12))),(eF_ [(It.vsl va (Sq.g1 la))]),(eF_ [(It.vsl vb (Sq.g2 lb))])] 480 [] []) cY aY->Wq Tryz.prog Q (D2x) ac Exit.normal aY cY.w ρ):Wq Tryz.prog Q (rfR C0d) ac .normal aX cX.w ρ :=
 F8 (unroll:=false) (n:=3000) (path:=[]) (o:=⟨_,_,_,_,_,_,_⟩) J3 (by kernel_rfl) (by kernel_rfl) ho (by kernel_rfl) (by kernel_rfl) hs hK
def ceS (va vb:Value) (la:List G1D) (lb:List G2D) (f:F12):St:=A8 48 [0,1,4,5,9,36] [(.ci (It.vsl va (Sq.g1 la))),(.ci (It.vsl vb (Sq.g2 lb))),.pt 16 0,.pt 32 0,.pt 336 0,(.ci (.clo 93 [(400,0),(416,0)]))] [16,32,336,400,416] [(eF_ [(.lit false)]),(eF_ [(.int .i64 (0:Int))]),some (.fl (D7 f)),(eF_ [(It.vsl va (Sq.g1 la))]),(eF_ [(It.vsl vb (Sq.g2 lb))])] 480 [] []
theorem dA (va vb:Value) (la:List G1D) (lb:List G2D) (f:F12) (xa ya a b c d:U6) (i j:Bool) {ρ:Option Nat} (ho:A7 []) (hs:Sim w0 F0 K ac (U3 (ceS va vb la lb f) [(37,.v (.a [.ob (.fp xa),.ob (.fp ya),.bool i])),(38,.v (.a [.ob (.fp a),.ob (.fp b),.ob (.fp c),.ob (.fp d),.bool j]))]) cX aX) (hK:∀cY aY,Sim w0 F0 K ac (A8 48 [4,5,9,10,11] [.pt 16 0,.pt 32 0,.pt 336 0,.pt 480 0,.pt 512 0] [16,32,336,400,416,480,512] [(eF_ [(.lit false)]),(eF_ [(.int .i64 (0:Int))]),(eF_ (D7 f)),(eF_ [(It.vsl va (Sq.g1 la))]),(eF_ [(It.vsl vb (Sq.g2 lb))]),(eF_ [.ob (.fp xa),.ob (.fp ya),(.bool i)]),(eF_ [.ob (.fp a),.ob (.fp b),.ob (.fp c),.ob (.fp d),(.bool j)])] 544 [[0,1,4,5,9,36]] [([(.ci (It.vsl va (Sq.g1 la))),(.ci (It.vsl vb (Sq.g2 lb))),.pt 16 0,.pt 32 0,.pt 336 0,(.ci (.clo 93 [(400,0),(416,0)]))],48)]) cY aY->Wq Tryz.prog Q ([]) ac Exit.normal aY cY.w ρ):Wq Tryz.prog Q ([.code (rfA D2x)]) ac .normal aX cX.w ρ :=
 F8 (unroll:=false) (n:=3000) (path:=[]) (o:=⟨_,_,_,_,_,_,_⟩) J3 (by kernel_rfl) (by kernel_rfl) ho (by kernel_rfl) (by kernel_rfl) hs hK
def ceM (va vb:Value) (la:List G1D) (lb:List G2D) (f:F12) (xa ya a b c d:U6) (i j:Bool):St:=A8 48 [4,5,9,10,11] [.pt 16 0,.pt 32 0,.pt 336 0,.pt 480 0,.pt 512 0] [16,32,336,400,416,480,512] [(eF_ [(.lit false)]),(eF_ [(.int .i64 (0:Int))]),(eF_ (D7 f)),(eF_ [(It.vsl va (Sq.g1 la))]),(eF_ [(It.vsl vb (Sq.g2 lb))]),(eF_ [.ob (.fp xa),.ob (.fp ya),(.bool i)]),(eF_ [.ob (.fp a),.ob (.fp b),.ob (.fp c),.ob (.fp d),(.bool j)])] 544 [[0,1,4,5,9,36]] [([(.ci (It.vsl va (Sq.g1 la))),(.ci (It.vsl vb (Sq.g2 lb))),.pt 16 0,.pt 32 0,.pt 336 0,(.ci (.clo 93 [(400,0),(416,0)]))],48)]
theorem dN (va vb:Value) (la:List G1D) (lb:List G2D) (f:F12) (xa ya a b c d:U6) (i j:Bool) {ρ:Option Nat} (ho:A7 []) (hs:Sim w0 F0 K ac (ceM va vb la lb f xa ya a b c d i j) cX aX) (hK:∀cY aY,Sim w0 F0 K ac (A8 48 [4,5] [.pt 16 0,.pt 32 0] [16,32,336,400,416] [(eF_ [(.lit false)]),(eF_ [(.int .i64 (0:Int))]),(eF_ (D7 ((E2.mk (E3.mk ((Prod.fst (E3.a (E2.a f))),(Prod.snd (E3.a (E2.a f)))) ((Prod.fst (E3.b (E2.a f))),(Prod.snd (E3.b (E2.a f)))) ((Prod.fst (E3.c (E2.a f))),(Prod.snd (E3.c (E2.a f))))) (E3.mk ((Prod.fst (E3.a (E2.b f))),(Prod.snd (E3.a (E2.b f)))) ((Prod.fst (E3.b (E2.b f))),(Prod.snd (E3.b (E2.b f)))) ((Prod.fst (E3.c (E2.b f))),(Prod.snd (E3.c (E2.b f))))))*(B9m (G1D.mk xa ya i) (G2D.mk a b c d j))))),(eF_ [(It.vsl va (Sq.g1 la))]),(eF_ [(It.vsl vb (Sq.g2 lb))])] 640 [[0,1,4,5,9,36]] [([(.ci (It.vsl va (Sq.g1 la))),(.ci (It.vsl vb (Sq.g2 lb))),.pt 16 0,.pt 32 0,.pt 336 0,(.ci (.clo 93 [(400,0),(416,0)]))],48)]) cY aY->Wq Tryz.prog Q ([]) ac Exit.normal aY cY.w ρ):Wq Tryz.prog Q ([.code (rfB D2x)]) ac .normal aX cX.w ρ :=
 F8 (unroll:=false) (n:=3000) (path:=[]) (o:=⟨_,_,_,_,_,_,_⟩) J3 (by kernel_rfl) (by kernel_rfl) ho (by kernel_rfl) (by kernel_rfl) hs hK
theorem dX (va vb:Value) (la:List G1D) (lb:List G2D) (f:F12) (ho:A7 []):Sg Tryz.prog (ceS va vb la lb f) (A8 48 [4,5] [.pt 16 0,.pt 32 0] [16,32] [(eF_ [(.bool (ite (true=true) (Bool.and (decide ((Prod.fst (E3.a (E2.a (J0 f))))=(Prod.fst (E3.a (E2.a (1:F12)))))) (Bool.and (decide ((Prod.snd (E3.a (E2.a (J0 f))))=(Prod.snd (E3.a (E2.a (1:F12)))))) (Bool.and (decide ((Prod.fst (E3.b (E2.a (J0 f))))=(Prod.fst (E3.b (E2.a (1:F12)))))) (Bool.and (decide ((Prod.snd (E3.b (E2.a (J0 f))))=(Prod.snd (E3.b (E2.a (1:F12)))))) (Bool.and (decide ((Prod.fst (E3.c (E2.a (J0 f))))=(Prod.fst (E3.c (E2.a (1:F12)))))) (Bool.and (decide ((Prod.snd (E3.c (E2.a (J0 f))))=(Prod.snd (E3.c (E2.a (1:F12)))))) (Bool.and (decide ((Prod.fst (E3.a (E2.b (J0 f))))=(Prod.fst (E3.a (E2.b (1:F12)))))) (Bool.and (decide ((Prod.snd (E3.a (E2.b (J0 f))))=(Prod.snd (E3.a (E2.b (1:F12)))))) (Bool.and (decide ((Prod.fst (E3.b (E2.b (J0 f))))=(Prod.fst (E3.b (E2.b (1:F12)))))) (Bool.and (decide ((Prod.snd (E3.b (E2.b (J0 f))))=(Prod.snd (E3.b (E2.b (1:F12)))))) (Bool.and (decide ((Prod.fst (E3.c (E2.b (J0 f))))=(Prod.fst (E3.c (E2.b (1:F12)))))) (decide ((Prod.snd (E3.c (E2.b (J0 f))))=(Prod.snd (E3.c (E2.b (1:F12))))))))))))))))) (Bool.not (Bool.and (decide ((Prod.fst (E3.a (E2.a (J0 f))))=(Prod.fst (E3.a (E2.a (1:F12)))))) (Bool.and (decide ((Prod.snd (E3.a (E2.a (J0 f))))=(Prod.snd (E3.a (E2.a (1:F12)))))) (Bool.and (decide ((Prod.fst (E3.b (E2.a (J0 f))))=(Prod.fst (E3.b (E2.a (1:F12)))))) (Bool.and (decide ((Prod.snd (E3.b (E2.a (J0 f))))=(Prod.snd (E3.b (E2.a (1:F12)))))) (Bool.and (decide ((Prod.fst (E3.c (E2.a (J0 f))))=(Prod.fst (E3.c (E2.a (1:F12)))))) (Bool.and (decide ((Prod.snd (E3.c (E2.a (J0 f))))=(Prod.snd (E3.c (E2.a (1:F12)))))) (Bool.and (decide ((Prod.fst (E3.a (E2.b (J0 f))))=(Prod.fst (E3.a (E2.b (1:F12)))))) (Bool.and (decide ((Prod.snd (E3.a (E2.b (J0 f))))=(Prod.snd (E3.a (E2.b (1:F12)))))) (Bool.and (decide ((Prod.fst (E3.b (E2.b (J0 f))))=(Prod.fst (E3.b (E2.b (1:F12)))))) (Bool.and (decide ((Prod.snd (E3.b (E2.b (J0 f))))=(Prod.snd (E3.b (E2.b (1:F12)))))) (Bool.and (decide ((Prod.fst (E3.c (E2.b (J0 f))))=(Prod.fst (E3.c (E2.b (1:F12)))))) (decide ((Prod.snd (E3.c (E2.b (J0 f))))=(Prod.snd (E3.c (E2.b (1:F12))))))))))))))))))))]),(eF_ [(.int .i64 (0:Int))])] 576 [] []) .ret ([]) (rfR D2x):=fun hs hK=>
 A5 (unroll:=false) (n:=3000) (path:=[]) (o:=⟨_,_,_,_,_,_,_⟩) J3 (by kernel_rfl) (by kernel_rfl) ho hs hK
def ceE (va vb:Value) (la:List G1D) (lb:List G2D) (f:F12) (xa ya a b c d:U6) (i j:Bool):St:=A8 48 [4,5] [.pt 16 0,.pt 32 0] [16,32,336,400,416] [(eF_ [(.lit false)]),(eF_ [(.int .i64 (0:Int))]),some (.fl (D7 f)),(eF_ [(It.vsl va (Sq.g1 la))]),(eF_ [(It.vsl vb (Sq.g2 lb))])] 640 [[0,1,4,5,9,36]] [([(.ci (It.vsl va (Sq.g1 la))),(.ci (It.vsl vb (Sq.g2 lb))),.pt 16 0,.pt 32 0,.pt 336 0,(.ci (.clo 93 [(400,0),(416,0)]))],48)]
def ccZ (e:Int):St:=A8 48 [4,5] [.pt 16 0,.pt 32 0] [16,32] [(eF_ [(.lit false)]),(eF_ [(.int .i64 e)])] 320 [] []
theorem G9h (e:Int):I0 uzB Tryz.f18 false 3000 (⟨[],.ret,ccZ e⟩) [] [] []=(some ([],((.t [(.c (.lit false)),(.c (.int .i64 e))]),[]))):=by kernel_rfl
def dZ (r:Bool):St:=A8 48 [4,5] [.pt 16 0,.pt 32 0] [16,32] [some (.fl [.bool r]),(eF_ [(.int .i64 (0:Int))])] 576 [] []
theorem G7l (r:Bool):I0 uzB Tryz.f18 false 3000 (⟨[],.ret,dZ r⟩) [] [] []=(some ([],((.t [(.c (.bool r)),(.c (.int .i64 (0:Int)))]),[]))):=by kernel_rfl
end
end

section

def C3r (u v:F12):Bool:=decide (u.a.a.1=v.a.a.1) && (decide (u.a.a.2=v.a.a.2) && (decide (u.a.b.1=v.a.b.1) && (decide (u.a.b.2=v.a.b.2) && (decide (u.a.c.1=v.a.c.1) && (decide (u.a.c.2=v.a.c.2) && (decide (u.b.a.1=v.b.a.1) && (decide (u.b.a.2=v.b.a.2) && (decide (u.b.b.1=v.b.b.1) && (decide (u.b.b.2=v.b.b.2) && (decide (u.b.c.1=v.b.c.1) && decide (u.b.c.2=v.b.c.2)))))))))))
def A7k (l:List (G1D×G2D)):F12:=l.foldl (fun f z=>f*B9m z.1 z.2) 1
theorem D6q (l:List (G1D×G2D)) (z:G1D×G2D):A7k (l++[z])=A7k l*B9m z.1 z.2:=C3z (fun (f:F12) (z:G1D×G2D)=>f*B9m z.1 z.2) 1 l z
/-- The first pair that is refused. -/
def B5k:List (G1D×G2D)->Int
 | []=>0
 | z::l=>if (V4 z.1 z.2 != 0)=true then V4 z.1 z.2 else B5k l
def pcD (la:List G1D) (lb:List G2D):Bool×Int:=
 if la.length≠lb.length then (false,3) else if 64<la.length then (false,2) else if (B5k (la.zip lb) != 0)=true then (false,B5k (la.zip lb)) else (C3r (J0 (A7k (la.zip lb))) 1,0)
theorem B9j:∀l:List (G1D×G2D),(B5k l=0∧∀z∈l,(V4 z.1 z.2 != 0)=false)∨∃n z,(∃t,l=l.take n++z::t)∧n<l.length∧(∀z∈l.take n,(V4 z.1 z.2 != 0)=false)∧(V4 z.1 z.2 != 0)=true∧B5k l=V4 z.1 z.2
 | []=>.inl ⟨rfl,fun _ h=>nomatch h⟩
 | z::l=>by
  cases h:(V4 z.1 z.2 != 0) with
  | true=>exact .inr ⟨0,z,⟨l,rfl⟩,by simp,by simp,h,by simp only[B5k,h,if_true]⟩
  | false=>
   have e:B5k (z::l)=B5k l:=by simp only[B5k,h];exact if_neg (fun k=>nomatch k)
   rw[e];rcases B9j l with ⟨h1,h2⟩ | ⟨n,y,⟨t,h1⟩,h2,h3,h4,h5⟩
   ·refine .inl ⟨h1,fun y hy=>?_⟩
    rcases List.mem_cons.1 hy with rfl | hy
    ·exact h
    ·exact h2 y hy
   ·refine .inr ⟨n+1,y,⟨t,by rw[List.take_succ_cons,List.cons_append,<-h1]⟩,by simpa using h2,fun y hy=>?_,h4,h5⟩
    rw[List.take_succ_cons] at hy;rcases List.mem_cons.1 hy with rfl | hy
    ·exact h
    ·exact h3 y hy

theorem E2m {x:Ctx} {u v:Value} {q:Sq} (h:B5 x (.v (.c (.vsl u q))) v):x.D (.sl q) [u]:=by
 obtain ⟨h1,h2⟩:=D7i h.2;simp only[List.cons.injEq,and_true] at h1;subst h1;exact h2
theorem A0c {y:Ctx} {v:Value} {b:Bool} {e:Int} (hd:B5 y (.t [.c (.lit b),.c (.int .i64 e)]) v):B5 y (.t [.c (.bool b),.c (.int .i64 e)]) v:=by
 obtain ⟨vs,rfl,h⟩:=hd
 cases h with
 | cons h1 h2=>exact ⟨_,rfl,.cons (P5 rfl (y:=y) h1) h2⟩
/-- A rejected pair, or none. -/
structure Stp (la:List G1D) (lb:List G2D) (n:Nat) (stop:Option (G1D×G2D)):Prop where
 h1:n<=la.length
 h2:(stop=none∧n=la.length)∨(n<la.length∧stop=some (la.getD n g10,lb.getD n g20))
 h3:∀z∈(la.zip lb).take n,(V4 z.1 z.2 != 0)=false
 h4:∀z,stop=some z->(V4 z.1 z.2 != 0)=true∧B5k (la.zip lb)=V4 z.1 z.2
 h5:stop=none->B5k (la.zip lb)=0
theorem G9v {la:List G1D} {lb:List G2D} (hlen:la.length=lb.length):∃n stop,Stp la lb n stop:=by
 have hz:(la.zip lb).length=la.length:=by simp [hlen]
 rcases B9j (la.zip lb) with ⟨h1,h2⟩ | ⟨n,z,⟨t,h1⟩,h2,h3,h4,h5⟩
 ·exact ⟨la.length,none,⟨Nat.le_refl _,.inl ⟨rfl,rfl⟩,fun z hz=>h2 z (List.mem_of_mem_take hz),fun z h=>(nomatch h),fun _=>h1⟩⟩
 ·rw[hz] at h2
  have e:=D4x hlen h2;have e2:(la.zip lb).take (n+1)=(la.zip lb).take n++[z]:=by
   have h6:((la.zip lb).take n).length=n:=by rw[List.length_take];omega
   conv=>lhs;rw[h1]
   rw[List.take_append,h6,List.take_of_length_le (by omega)]
   simp
  rw[e2] at e;have e3:=List.append_cancel_left e;simp only[List.cons.injEq,and_true] at e3;subst e3;exact ⟨n,some _,⟨by omega,.inr ⟨h2,rfl⟩,h3,fun z hz=>by cases hz;exact ⟨h4,h5⟩,fun h=>nomatch h⟩⟩
theorem F8t {la:List G1D} {lb:List G2D} (hlen:la.length=lb.length):(la.zip lb).take la.length=la.zip lb:=by
 rw[List.take_of_length_le];simp [hlen]

theorem E8e (va vb:Value) (la:List G1D) (lb:List G2D) (hlen:la.length=lb.length) (hlim:la.length<=64) :
  FnD Tryz.prog 18 [.v (.c (.vsl va (.g1 la))),.v (.c (.vsl vb (.g2 lb)))] (.t [.c (.bool (pcD la lb).1),.c (.int .i64 (pcD la lb).2)]) []:=by
 refine Q8 (fn:=Tryz.f18) (c:=B7 Tryz.f18) Tryz.func18 rfl rfl fun X B hk hF hs=>?_
 have o1:(((la.length:Nat):Int) != ((lb.length:Nat):Int))=false:=by rw[hlen];simp
 have o2:decide (((la.length:Nat):Int) > (64:Int))=false:=by simp;omega
 refine cc va vb la lb ⟨o1,o2,trivial⟩ hs fun ac cJ aJ hs1=>?_
 obtain ⟨e1,e2⟩:=A1l (k:=C0d) (by kernel_rfl)
 rw[e1];have eP:(rfP C0d).toList=[25,26]:=by kernel_rfl
 have eG:rfG C0d = .tmp 24:=by kernel_rfl
 obtain ⟨n,stop,st⟩:=G9v hlen;have hda:cJ.D (.sl (.g1 la)) [va]:=E2m (hs1.t 0);have hsn:∀pre z,(∃t,(la.zip lb).take n=pre++z::t)->(V4 z.1 z.2 != 0)=false:=fun pre z ⟨t,ht⟩=>st.h3 z (by rw[ht];simp)
 have hs1:Sim X.w X.F W0 ac { ccS va vb la lb 0 with nx:=320 } cJ aJ:=hs1
 refine A5l (ps:=rfP C0d) e2 hs1.own (gf:=93) (caps:=[(240,0),(256,0)]) (A3 Tryz.func93 rfl rfl) (fun _=>ccS va vb la lb 0) (fun s=>by rw[eG];rfl) ⟨_,rfl⟩ ((la.zip lb).take n) stop E9q B9x
  (fun y z=>.cons (E8i y z.1) (.cons (F0z y z.2) .nil)) (fun z=>by rw[<-Array.length_toList,eP];rfl) (fun pre p hp=>?_)
  (B8d hlen hlim st.h1 st.h2 (fun _=>rfl) (fun _=>rfl) fun y hy=>C2z hs1.mem hy rfl hda)
  (fun pre z=>ccM va vb la lb z.1.x z.1.y z.2.xa z.2.xb z.2.ya z.2.yb z.1.inf z.2.inf) (fun pre z=>ccE va vb la lb z.1.x z.1.y z.2.xa z.2.xb z.2.ya z.2.yb z.1.inf z.2.inf (V4 z.1 z.2)) (fun pre z hz=>⟨_,by
   have h:=hsn pre z hz;have h0:V4 z.1 z.2=0:=by simpa using h
   rw[h0];rfl⟩) (fun pre z hz w1 F1 K1 as1 Q1 l Y b hs2 hQ=>?_) (fun pre z hz w1 F1 K1 as1 Q1 l Y b hs2 hQ=>?_) (fun z hz w1 F1 K1 as1 Q1 l Y b hs2 hQ=>?_) (fun hst D Y hs2 hD hFD hd=>?_) (fun z hz D Y hs2 hD hFD hd=>?_)
 ·rw[eP] at hp
  simp only[List.mem_cons,List.not_mem_nil,or_false] at hp;rcases hp with rfl | rfl
  ·show 25<48
   decide
  ·show 26<48
   decide
 ·rw[eP] at hs2
  obtain ⟨⟨xa,ya,i⟩,⟨a,b,c,d,j⟩⟩:=z;exact cA va vb la lb xa ya a b c d i j trivial hs2 fun cZ aZ hs3=>⟨hQ _ _ (hs3.nx _)⟩
 ·have h:=hsn pre z hz
  have h0:V4 z.1 z.2=0:=by simpa using h
  rw[h0] at hQ;obtain ⟨⟨xa,ya,i⟩,⟨a,b,c,d,j⟩⟩:=z;exact cN va vb la lb xa ya a b c d i j ⟨h,trivial⟩ hs2 fun cZ aZ hs3=>⟨hQ _ _ (hs3.nx _)⟩
 ·have h:=(st.h4 z hz).1
  obtain ⟨⟨xa,ya,i⟩,⟨a,b,c,d,j⟩⟩:=z;exact cY va vb la lb xa ya a b c d i j ⟨h,trivial⟩ hs2 fun cZ aZ hs3=>⟨hQ _ _ (hs3.nx _)⟩
 ·have e5:n=la.length:=by
   rcases st.h2 with ⟨_,h⟩ | ⟨_,h⟩
   ·exact h
   ·rw[hst] at h;cases h
  have eR:pcD la lb=(C3r (J0 (A7k (la.zip lb))) 1,0):=by
   unfold pcD;rw[if_neg (by omega),if_neg (by omega),st.h5 hst]
   exact if_neg (fun k=>nomatch k)
  rw[eR];have hs2:=hs1.outOwn hs2;have hD:=Nat.le_trans hs1.base.size hD;have hs3:=hs2.marked rfl rfl D;refine cW va vb la lb trivial hs3 fun cV aV hs4=>?_
  obtain ⟨k1,k2⟩:=A1l (k:=D2x) (by kernel_rfl)
  rw[k1];have kP:(rfP D2x).toList=[37,38]:=by kernel_rfl
  have kG:rfG D2x = .tmp 36:=by kernel_rfl
  have hdb:cV.D (.sl (.g1 la)) [va]:=E2m (hs4.t 0);have hs4:Sim Y.w Y.F (R1 Y W0 (G9 D)) ac { ceS va vb la lb (A7k []) with nx:=480 } cV aV:=hs4
  have hit:E0m Tryz.prog cV 93 [(400,0),(416,0)] B9x ((la.zip lb).take la.length) none (fun s=>(ceS va vb la lb (A7k s)).m) (A9i cV.w cV.F (R1 cV (R1 Y W0 (G9 D)) (G9 D))):=
   B8d hlen hlim (Nat.le_refl _) (.inl ⟨rfl,rfl⟩) (fun _=>rfl) (fun _=>rfl) fun y hy=>C2z hs4.mem hy rfl hdb
  refine A5l (ps:=rfP D2x) k2 hs4.own (gf:=93) (caps:=[(400,0),(416,0)]) (A3 Tryz.func93 rfl rfl) (fun s=>ceS va vb la lb (A7k s)) (fun s=>by rw[kG];rfl) ⟨_,rfl⟩ ((la.zip lb).take la.length) none E9q B9x
   (fun y z=>.cons (E8i y z.1) (.cons (F0z y z.2) .nil)) (fun z=>by rw[<-Array.length_toList,kP];rfl) (fun pre p hp=>?_) hit
   (fun pre z=>ceM va vb la lb (A7k pre) z.1.x z.1.y z.2.xa z.2.xb z.2.ya z.2.yb z.1.inf z.2.inf) (fun pre z=>ceE va vb la lb (A7k (pre++[z])) z.1.x z.1.y z.2.xa z.2.xb z.2.ya z.2.yb z.1.inf z.2.inf) (fun pre z _=>⟨_,rfl⟩)
   (fun pre z hz w1 F1 K1 as1 Q1 l Y b hs2 hQ=>?_) (fun pre z hz w1 F1 K1 as1 Q1 l Y b hs2 hQ=>?_) (fun z hz=>nomatch hz) (fun _ D' Y' hs5 hD' hFD' hd' => ?_) (fun z hz=>nomatch hz)
  ·rw[kP] at hp
   simp only[List.mem_cons,List.not_mem_nil,or_false] at hp;rcases hp with rfl | rfl
   ·show 37<48
    decide
   ·show 38<48
    decide
  ·rw[kP] at hs2
   obtain ⟨⟨xa,ya,i⟩,⟨a,b,c,d,j⟩⟩:=z;exact dA va vb la lb _ xa ya a b c d i j trivial hs2 fun cZ aZ hs3=>⟨hQ _ _ (hs3.nx _)⟩
  ·rw[D6q] at hQ
   obtain ⟨⟨xa,ya,i⟩,⟨a,b,c,d,j⟩⟩:=z;exact dN va vb la lb _ xa ya a b c d i j trivial hs2 fun cZ aZ hs3=>⟨hQ _ _ (hs3.nx _)⟩
  ·have hs5:=hs4.outOwn hs5
   have hD' := Nat.le_trans hs4.base.size hD';rw[F8t hlen] at hs5;generalize A7k (la.zip lb)=f at hs5 ⊢
   have hs6:=hs5.marked2 rfl D';refine dX va vb la lb f trivial hs6 fun ac3 cU aU hs7=>⟨?_⟩
   have hs8:Sim Y'.w Y'.F (R1 Y' (R1 Y W0 (G9 D)) (G9 D' ++ G9 D)) ac3 (dZ (if true=true then C3r (J0 f) 1 else !C3r (J0 f) 1)) cU aU:=Eq.mpr (by kernel_rfl) hs7
   rw[if_pos rfl] at hs8;generalize C3r (J0 f) 1=r at hs8 ⊢
   exact D5u J3 hk hF (G7l r) trivial (fun y v hd=>hd) hs2 hD hFD hd hs5 hD' hFD' hd' rfl hs8
 ·obtain ⟨h,h5⟩:=st.h4 z hz
  have eR:pcD la lb=(false,V4 z.1 z.2):=by
   unfold pcD;rw[if_neg (by omega),if_neg (by omega),h5]
   exact if_pos h
  rw[eR];have hs2:=hs1.outOwn hs2;have hD:=Nat.le_trans hs1.base.size hD;generalize V4 z.1 z.2=e at hs2 ⊢
  have hs2:Sim X.w X.F W0 ac { ccS va vb la lb e with nx:=(B5d (ccE va vb la lb z.1.x z.1.y z.2.xa z.2.xb z.2.ya z.2.yb z.1.inf z.2.inf e)).nx } Y aJ:=hs2
  have hs3:=(hs2.nx 320).marked rfl rfl D;refine cR va vb la lb e trivial hs3 fun ac2 cV aV hs4=>⟨?_⟩
  have hs5:Sim Y.w Y.F (R1 Y W0 (G9 D)) ac2 (ccZ e) cV aV:=hs4;exact W7 J3 hk hF (G9h e) trivial (fun y v hd=>A0c hd) hs2 hD hFD hd rfl hs5
theorem D7r (la:List G1D) (lb:List G2D):FnD Tryz.prog 18 [.v (.c (.sl (.g1 la))),.v (.c (.sl (.g2 lb)))] (.t [.c (.bool (pcD la lb).1),.c (.int .i64 (pcD la lb).2)]) []:=by
 intro x vs hk hF hd;have key:∀va vb,FnD Tryz.prog 18 [.v (.c (.vsl va (.g1 la))),.v (.c (.vsl vb (.g2 lb)))] (.t [.c (.bool (pcD la lb).1),.c (.int .i64 (pcD la lb).2)]) []:=by
  intro va vb;by_cases h1:la.length=lb.length
  ·by_cases h2:la.length<=64
   ·exact E8e va vb la lb h1 h2
   ·have eR:pcD la lb=(false,2):=by
     unfold pcD;rw[if_neg (by omega),if_pos (by omega)]
    rw[eR];exact (A2 J3 Tryz.func18 (ccB va vb la lb) ⟨by rw[h1];simp,by simp;omega,trivial⟩).conv (fun _ _ h=>h) fun y v hd=>A0c hd
  ·have eR:pcD la lb=(false,3):=by
    unfold pcD;rw[if_pos h1]
   rw[eR];exact (A2 J3 Tryz.func18 (ccA va vb la lb) ⟨by simp;omega,trivial⟩).conv (fun _ _ h=>h) fun y v hd=>A0c hd
 cases hd with
 | cons h1 hd=>
  cases hd with
  | cons h2 hd=>
   cases hd with
   | nil=>exact key _ _ x _ hk hF (.cons ⟨rfl,D6d h1.2⟩ (.cons ⟨rfl,D6d h2.2⟩ .nil))
end

section
section
variable {w0:World} {F0:Nat->Prop} {K:Kp} {ac:List Act} {Q:Exit->Act->World->Prop} {cX:Ctx} {aX:Act}

--@env A7b L1
def D5g:List KI:=(run A7b false 3000 ((fun (k:U4)=>(⟨[.code (B7 Tryz.f129)],.normal,E4 Tryz.f129.ntmps [.v (.a [.ob (.fr k)])]⟩:Cfg)) default) []).cfg.k
theorem di (k:U4) (ho:A7 []):Sg Tryz.prog (E4 Tryz.f129.ntmps [.v (.a [.ob (.fr k)])]) (A8 49 [1,3,4,5] [.pt 16 0,(.ci (.val (Value.slice Option.none 0 0))),.ii (0:Int),.ii (0:Int)] [16] [(eF_ [.ob (.fr k)])] 96 [] []) .normal (D5g) ([.code (B7 Tryz.f129)]):=fun hs hK=>
 A5 (unroll:=false) (n:=3000) (path:=[]) (o:=⟨_,_,_,_,_,_,_⟩) L1 (by kernel_rfl) (by kernel_rfl) ho hs hK
def diS (k:U4) (L:List Int) (n:Nat) (c i:Int):St:=A8 49 [1,3,4,5] [.pt 16 0,.v (.c (.slc 17 0 n 1)),.v (.c (.int .i64 c)),.v (.c (.int .i64 i))] [16,17] [(eF_ [.ob (.fr k)]),some (.sq (.int L))] 96 [] []
def B0f:List KI:=(run A7b false 3000 ((fun (k:U4) (L:List Int) (n:Nat) (c i:Int)=>(⟨E7 D5g,.normal,diS k L n c i⟩:Cfg)) default default default default default) [true]).cfg.k
theorem diA (k:U4) (L:List Int) (n:Nat) (c i:Int) (ho:A7 [((decide (i<(256:Int)))=true)]):Sg Tryz.prog (diS k L n c i) (A8 49 [1,3,5,6,18] [.pt 16 0,(.ci (.slc 17 0 n 1)),.ii i,.ii c,.ii (0:Int)] [16,17] [(eF_ [.ob (.fr k)]),(eQ_ (.int L))] 240 [] []) .normal (B0f) (E7 D5g):=fun hs hK=>
 A5 (unroll:=false) (n:=3000) (path:=[true]) (o:=⟨_,_,_,_,_,_,_⟩) L1 (by kernel_rfl) (by kernel_rfl) ho hs hK
def diI (k:U4) (L:List Int) (n:Nat) (i d j:Int):St:=A8 49 [1,3,5,6,18] [.pt 16 0,(.ci (.slc 17 0 n 1)),.ii i,.v (.c (.int .i64 d)),.v (.c (.int .i64 j))] [16,17] [(eF_ [.ob (.fr k)]),(eQ_ (.int L))] 240 [] []
section
variable (k:U4) (L:List Int) (n:Nat) (i d j:Int)
theorem diB (ho:A7 [((decide (j<(5:Int)))=true),((decide ((wrap .i64 (i+j))<(256:Int)))=true),((64:Int)≠(0:Int)),(0<=(wrap .i64 (Int.tdiv (wrap .i64 (i+j)) (64:Int)))),((wrap .i64 (Int.tdiv (wrap .i64 (i+j)) (64:Int)))<(4:Int)),((0+(((wrap .i64 (Int.tdiv (wrap .i64 (i+j)) (64:Int)))).toNat*1))<(Ob.k (.fr k))),((64:Int)≠(0:Int)),(0<=(Int.tmod (wrap .i64 (i+j)) (64:Int))),(0<=j)]):Sg Tryz.prog (diI k L n i d j) (A8 49 [1,3,5,6,18] [.pt 16 0,(.ci (.slc 17 0 n 1)),.ii i,(.ii (wrap .i64 (d+(wrap .i64 ((wrap .i64 (E5 BinOp.and IntKind.u64 (Int.fdiv (A1 (Ob.n (.fr k)) (0+(((wrap .i64 (Int.tdiv (wrap .i64 (i+j)) (64:Int)))).toNat*1))) ((2:Int) ^ (Min.min ((Int.tmod (wrap .i64 (i+j)) (64:Int))).toNat 64))) (1:Int)))*((2:Int) ^ (Min.min (j).toNat 64))))))),(.ii (wrap .i64 (j+1)))] [16,17] [(eF_ [.ob (.fr k)]),(eQ_ (.int L))] 640 [] []) .normal (N8 B0f) (E7 B0f):=fun hs hK=>
 A5 (unroll:=false) (n:=3000) (path:=[true,true]) (o:=⟨_,_,_,_,_,_,_⟩) L1 (by kernel_rfl) (by kernel_rfl) ho hs hK
theorem diC (ho:A7 [((decide (j<(5:Int)))=true),((decide ((wrap .i64 (i+j))<(256:Int)))=false)]):Sg Tryz.prog (diI k L n i d j) (A8 49 [1,3,5,6,18] [.pt 16 0,(.ci (.slc 17 0 n 1)),.ii i,.ii d,(.ii (wrap .i64 (j+1)))] [16,17] [(eF_ [.ob (.fr k)]),(eQ_ (.int L))] 416 [] []) .normal (N8 B0f) (E7 B0f):=fun hs hK=>
 A5 (unroll:=false) (n:=3000) (path:=[true,false]) (o:=⟨_,_,_,_,_,_,_⟩) L1 (by kernel_rfl) (by kernel_rfl) ho hs hK
theorem diD (ho:A7 [((decide (j<(5:Int)))=false),((decide (d > (16:Int)))=true),(((L.length+1)*8)<=140737488355328),((L.length+1)<=maxLen),(n=L.length),(1=1)]):Sg Tryz.prog (diI k L n i d j) (A8 49 [1,3,4,5] [.pt 16 0,(.ci (.slc 17 0 (L.length+1) 1)),.ii (1:Int),(.ii (wrap .i64 (i+(5:Int))))] [16,17] [(eF_ [.ob (.fr k)]),(eQ_ (.int (L++[(wrap .i64 (d-(32:Int)))])))] 496 [] []) .normal (N8 D5g) (E7 B0f):=fun hs hK=>
 A5 (unroll:=false) (n:=3000) (path:=[false,true]) (o:=⟨_,_,_,_,_,_,_⟩) L1 (by kernel_rfl) (by kernel_rfl) ho hs hK
theorem diE (ho:A7 [((decide (j<(5:Int)))=false),((decide (d > (16:Int)))=false),(((L.length+1)*8)<=140737488355328),((L.length+1)<=maxLen),(n=L.length),(1=1)]):Sg Tryz.prog (diI k L n i d j) (A8 49 [1,3,4,5] [.pt 16 0,(.ci (.slc 17 0 (L.length+1) 1)),.ii (0:Int),(.ii (wrap .i64 (i+(5:Int))))] [16,17] [(eF_ [.ob (.fr k)]),(eQ_ (.int (L++[d])))] 432 [] []) .normal (N8 D5g) (E7 B0f):=fun hs hK=>
 A5 (unroll:=false) (n:=3000) (path:=[false,false]) (o:=⟨_,_,_,_,_,_,_⟩) L1 (by kernel_rfl) (by kernel_rfl) ho hs hK
end
theorem F7m (k:U4) (L:List Int) (n:Nat) (c i:Int):I0 A7b Tryz.f129 false 3000 (⟨E7 D5g,.normal,diS k L n c i⟩) [false,false] [] [17]=(some ([((decide (i<(256:Int)))=false),((decide (c > (0:Int)))=false),(n=L.length)],((.ci (.sl (.int L))),[]))):=by kernel_rfl
end
end

section

/-- One bit, as it is reckoned. -/
theorem E4i (k:U4) {m j:Nat} (h:m+j<256) (hj:j<5):wrap IntKind.i64 ((wrap IntKind.i64 (E5 BinOp.and IntKind.u64 (Int.fdiv (A1 (Ob.n (Ob.fr k)) (0+(((wrap IntKind.i64 (Int.tdiv (wrap IntKind.i64 ((m:Int)+(j:Int))) (64:Int)))).toNat*1))) ((2:Int) ^ (Min.min ((Int.tmod (wrap IntKind.i64 ((m:Int)+(j:Int))) (64:Int))).toNat 64))) (1:Int)))*((2:Int) ^ (Min.min ((j:Int)).toNat 64)))=((k.val / 2 ^ (m+j) % 2*2 ^ j:Nat):Int):=by
 rw[B9 (n:=(m:Int)+(j:Int)) (by omega) (by omega),<-Int.natCast_add]
 generalize hi:m+j=i at *;have e1:Int.tdiv (i:Int) (64:Int)=((i / 64:Nat):Int):=Int.tdiv_eq_ediv_of_nonneg (by omega)
 have e2:Int.tmod (i:Int) (64:Int)=((i % 64:Nat):Int):=Int.tmod_eq_emod_of_nonneg (by omega)
 rw[e1,e2,B9 (n:=((i / 64:Nat):Int)) (by omega) (by omega),Int.toNat_natCast,Int.toNat_natCast,Int.toNat_natCast]
 have e3:Min.min (i % 64) 64=i % 64:=by omega
 have e4:0+i / 64*1=i / 64:=by omega
 have e5:Min.min j 64=j:=by omega
 rw[e3,e4,e5];have hl:A1 (Ob.n (Ob.fr k)) (i / 64)=((k.val / 2 ^ (64*(i / 64)) % 18446744073709551616:Nat):Int):=rfl;rw[hl];have hb:k.val / 2 ^ (64*(i / 64)) % 18446744073709551616 / 2 ^ (i % 64) % 2=k.val / 2 ^ i % 2:=by
  have h64:18446744073709551616=2 ^ (i % 64)*(2*2 ^ (63-i % 64)):=by
   rw[<-Nat.pow_succ',<-Nat.pow_add,show i % 64+(63-i % 64+1)=64 from by omega]
  rw[h64,Nat.mod_mul_right_div_self,Nat.mod_mul_right_mod,Nat.div_div_eq_div_mul,<-Nat.pow_add,show 64*(i / 64)+i % 64=i from Nat.div_add_mod i 64]
 rw[<-hb];have hlt:k.val / 2 ^ (64*(i / 64)) % 18446744073709551616<18446744073709551616:=Nat.mod_lt _ (by decide)
 generalize k.val / 2 ^ (64*(i / 64)) % 18446744073709551616=w at *;have hp:((2:Int) ^ (i % 64))=((2 ^ (i % 64):Nat):Int):=by simp
 have hp2:((2:Int) ^ j)=((2 ^ j:Nat):Int):=by simp
 rw[hp,hp2,Int.fdiv_eq_ediv_of_nonneg _ (Int.natCast_nonneg _),<-Int.natCast_ediv];generalize w / 2 ^ (i % 64)=v;have ha:E5 BinOp.and IntKind.u64 (v:Int) (1:Int)=((v % 2:Nat):Int):=by
  show wrap IntKind.u64 ((BitVec.ofInt 64 (v:Int) &&& BitVec.ofInt 64 ((1:Nat):Int)).toNat:Int)=_;rw[BitVec.ofInt_natCast,BitVec.ofInt_natCast,BitVec.toNat_and,BitVec.toNat_ofNat,BitVec.toNat_ofNat];have e:1 % 2 ^ 64=2 ^ 1-1:=by decide
  rw[e,Nat.and_two_pow_sub_one_eq_mod];show (((v % 2 ^ 64 % 2 ^ 1:Nat):Int)) % 18446744073709551616=_;omega
 have h32:2 ^ j<=2 ^ 4:=Nat.pow_le_pow_right (by decide) (by omega)
 have h2:v % 2<2:=Nat.mod_lt _ (by decide)
 have hm:v % 2*2 ^ j<=1*2 ^ 4:=Nat.mul_le_mul (by omega) h32
 rw[ha,B9 (n:=((v % 2:Nat):Int)) (by omega) (by omega),<-Int.natCast_mul,B9 (by omega) (by omega)]

theorem F5c (k m j:Nat):k / 2 ^ m % 2 ^ (j+1)=k / 2 ^ m % 2 ^ j+k / 2 ^ (m+j) % 2*2 ^ j:=by
 rw[Nat.pow_succ,Nat.mod_mul,Nat.div_div_eq_div_mul,<-Nat.pow_add,Nat.mul_comm (2 ^ j)]
theorem G4i (k m:Nat):k / 2 ^ (5*m) % 2 ^ 5=k / 32 ^ m % 32:=by
 rw[Nat.pow_mul]
theorem E8j (k:U4):k.val<2 ^ 256:=by
 have h:B4=2 ^ 256:=by decide +kernel
 rw[<-h];exact k.isLt

theorem D7m (k:U4) {N:Nat} (hN:N=52):FnD Tryz.prog 129 [.v (.a [.ob (.fr k)])] (.v (.c (.sl (.int (dgW k.val N).1)))) []:=by
 refine M9 (fn:=Tryz.f129) (c:=B7 Tryz.f129) Tryz.func129 rfl rfl fun x0 a0 hk hF hs=>?_
 refine di k trivial hs fun ac cY aY hs1=>?_
 have hs2:=hs1.nilRow (p:=17) (q:=.int []) rfl (by decide) rfl (ml' := [16,17]) (ens' := [some (.fl [.ob (.fr k)]),some (.sq (.int []))]) (fun r=>C6a (by decide)) (svs' := [.v (.c (.ptr 16 0)),.v (.c (.slc 17 0 0 1)),.v (.c (.int .i64 0)),.v (.c (.int .i64 0))]) ⟨.inl rfl,.inr ⟨1,rfl,rfl⟩,.inl rfl,.inl rfl,trivial⟩
 change Wq Tryz.prog _ _ _ _ _ (J8 cY 17).w
 refine F4 (ι:={ m:Nat // m<=N }) (fun m=>diS k (dgW k.val m.1).1 m.1 ((dgW k.val m.1).2:Int) ((5*m.1:Nat):Int)) (fun m=>N-m.1) (c:=lpC D5g) (k:=lpR D5g) (by kernel_rfl) (fun m ih ac cY aY hs=>?_) ⟨0,Nat.zero_le _⟩ (hs2.nx _)
 obtain ⟨m,hm⟩:=m;simp only at ih hs
 have hc:=B3i k.val m;have hl:=A6x k.val m;by_cases h:m<N
 ·refine diA k _ m _ _ ⟨decide_eq_true (by omega),trivial⟩ hs fun ac cZ aZ hs3=>?_
  have e0:(((dgW k.val m).2:Nat):Int)=(((dgW k.val m).2+k.val / 2 ^ (5*m) % 2 ^ 0:Nat):Int):=by rw[Nat.pow_zero,Nat.mod_one,Nat.add_zero]
  rw[e0] at hs3;refine F4 (ι:={ j:Nat // j<=5 }) (fun j=>diI k (dgW k.val m).1 m ((5*m:Nat):Int) (((dgW k.val m).2+k.val / 2 ^ (5*m) % 2 ^ j.1:Nat):Int) (j.1:Int)) (fun j=>5-j.1) (c:=lpC B0f) (k:=lpR B0f) (by kernel_rfl) (fun j ih2 ac cY aY hs=>?_) ⟨0,Nat.zero_le _⟩ (hs3.nx _)
  obtain ⟨j,hj⟩:=j;simp only at ih2 hs
  have hpj:k.val / 2 ^ (5*m) % 2 ^ j<2 ^ j:=Nat.mod_lt _ (Nat.two_pow_pos _);have hj5:2 ^ j<=2 ^ 5:=Nat.pow_le_pow_right (by decide) hj
  by_cases hj2:j<5
  ·have ej:wrap IntKind.i64 ((j:Int)+1)=((j+1:Nat):Int):=by rw[B9 (by omega) (by omega)];rfl
   have hsum:=F5c k.val (5*m) j;by_cases hb:5*m+j<256
   ·have eb:=E4i k hb hj2
    have hw:wrap IntKind.i64 (((5*m:Nat):Int)+(j:Int))=((5*m+j:Nat):Int):=by rw[B9 (by omega) (by omega)];rfl
    have ht:Int.tdiv ((5*m+j:Nat):Int) 64=(((5*m+j) / 64:Nat):Int):=Int.tdiv_eq_ediv_of_nonneg (by omega)
    have ht2:Int.tmod ((5*m+j:Nat):Int) 64=(((5*m+j) % 64:Nat):Int):=Int.tmod_eq_emod_of_nonneg (by omega)
    have hw2:wrap IntKind.i64 (((5*m+j) / 64:Nat):Int)=(((5*m+j) / 64:Nat):Int):=B9 (by omega) (by omega)
    refine diB k _ m _ _ _ ⟨decide_eq_true (by omega),by rw[hw];exact decide_eq_true (by omega),by decide,by rw[hw,ht,hw2];omega,by rw[hw,ht,hw2];omega,by rw[hw,ht,hw2,Int.toNat_natCast];show _<4;omega,by decide,by rw[hw,ht2];omega,by omega,trivial⟩ hs fun ac cU aU hs4=>?_
    rw[eb,ej] at hs4;have hbit:k.val / 2 ^ (5*m+j) % 2*2 ^ j<=1*2 ^ 5:=Nat.mul_le_mul (by omega) hj5
    rw[B9 (by omega) (by omega),<-Int.natCast_add,Nat.add_assoc,<-hsum] at hs4
    exact ih2 ⟨j+1,hj2⟩ (by show 5-(j+1)<5-j;omega) ac cU aU (hs4.nx _)
   ·have hw:wrap IntKind.i64 (((5*m:Nat):Int)+(j:Int))=((5*m+j:Nat):Int):=by rw[B9 (by omega) (by omega)];rfl
    refine diC k _ m _ _ _ ⟨decide_eq_true (by omega),by rw[hw];exact decide_eq_false (by omega),trivial⟩ hs fun ac cU aU hs4=>?_
    have h0:k.val / 2 ^ (5*m+j)=0:=Nat.div_eq_of_lt (Nat.lt_of_lt_of_le (E8j k) (Nat.pow_le_pow_right (by decide) (by omega)))
    rw[h0,Nat.zero_mod,Nat.zero_mul,Nat.add_zero (k.val / 2 ^ (5*m) % 2 ^ j)] at hsum;rw[ej,<-hsum] at hs4;exact ih2 ⟨j+1,hj2⟩ (by show 5-(j+1)<5-j;omega) ac cU aU (hs4.nx _)
  ·have:j=5:=by omega
   subst this;rw[G4i,Nat.add_comm] at hs;have hw5:k.val / 32 ^ m % 32<32:=Nat.mod_lt _ (by decide)
   have e5:wrap IntKind.i64 (((5*m:Nat):Int)+5)=((5*(m+1):Nat):Int):=by rw[B9 (by omega) (by omega)];omega
   have hml:(dgW k.val m).1.length<=52:=by omega
   have hmax:(dgW k.val m).1.length+1<=maxLen:=Nat.le_trans (by omega) (show 53<=maxLen by decide)
   by_cases hg:k.val / 32 ^ m % 32+(dgW k.val m).2 > 16
   ·refine diD k _ m _ _ _ ⟨by decide,decide_eq_true (by omega),by omega,hmax,hl.symm,rfl,trivial⟩ hs fun ac cU aU hs4=>?_
    rw[e5,hl,B9 (by omega) (by omega)] at hs4
    refine ih ⟨m+1,h⟩ (by show N-(m+1)<N-m;omega) ac cU aU ?_
    show Sim _ _ _ _ (diS k (dgW k.val (m+1)).1 (m+1) ((dgW k.val (m+1)).2:Int) ((5*(m+1):Nat):Int)) _ _;rw[B1x hg];exact hs4.nx _
   ·refine diE k _ m _ _ _ ⟨by decide,decide_eq_false (by omega),by omega,hmax,hl.symm,rfl,trivial⟩ hs fun ac cU aU hs4=>?_
    rw[e5,hl] at hs4;refine ih ⟨m+1,h⟩ (by show N-(m+1)<N-m;omega) ac cU aU ?_
    show Sim _ _ _ _ (diS k (dgW k.val (m+1)).1 (m+1) ((dgW k.val (m+1)).2:Int) ((5*(m+1):Nat):Int)) _ _;rw[A0p hg];exact hs4.nx _
 ·obtain rfl:m=N:=by omega
  have h0:=(E0l hN (E8j k)).2;exact K9 L1 hk hF (F7m k (dgW k.val m).1 m ((dgW k.val m).2:Int) ((5*m:Nat):Int)) ⟨decide_eq_false (by omega),by rw[h0];decide,hl.symm,trivial⟩ (fun y v hd=>hd) hs

end

section
section
variable {w0:World} {F0:Nat->Prop} {K:Kp} {ac:List Act} {Q:Exit->Act->World->Prop} {cX:Ctx} {aX:Act}

def A7x:B1
 | [.v (.a [.ob (.fr k)])]=>some ([],.v (.c (.sl (.int (dgW k.val 52).1))),[])
 | _=>none
def ucA:Env:=uaB.set (C7 uaB.fn 129 A7x)
theorem A8t:A6 Tryz.prog ucA:=A4 D6y 129 A7x (A3 Tryz.func129 rfl rfl) fun args o r es h _=>by
 unfold A7x at h;split at h
 ·cases h;exact D7m _ (Eq.refl 52)
 ·cases h
def E7a (T:Nat->Option Func) (f:Nat):Option Func:=if f=140 then some Tryz.f140 else T f
def ucB:Env:={ ucA with inl:=E7a ucA.inl }
theorem A3t:A6 Tryz.prog ucB:=by
 refine ⟨A8t.ty,A8t.mixed,A8t.fn,A8t.mu,fun f fn h=>?_,A8t.ex,A8t.inv⟩
 have h:E7a ucA.inl f=some fn:=h;unfold E7a at h;split at h
 ·rename_i hf;cases h;subst hf;exact ⟨Tryz.func140,A3 Tryz.func140 rfl rfl⟩
 exact A8t.inl f fn h
--@env ucB A3t
def B5j:List KI:=(run ucB false 3000 ((fun (P:List (Fp×Fp×Fp)) (D:List Int)=>(⟨[.code (B7 Tryz.f130)],.normal,E4 Tryz.f130.ntmps [.v (.c (.sl (.pt P))),.v (.c (.sl (.int D)))]⟩:Cfg)) default default) []).cfg.k
theorem kb (P:List (Fp×Fp×Fp)) (D:List Int) (ho:A7 []):Sg Tryz.prog (E4 Tryz.f130.ntmps [.v (.c (.sl (.pt P))),.v (.c (.sl (.int D)))]) (A8 45 [1,4,5,9,10,11] [(.ci (.sl (.int D))),.pt 16 0,.pt 32 0,(.ci (.sl (Sq.pt P))),(.ii (P.length:Int)),.ii (0:Int)] [16,32] [(eF_ [(.ob (.p (0:Fp))),(.ob (.p (0:Fp))),(.ob (.p (0:Fp)))]),(eF_ [(.ob (.p (0:Fp))),(.ob (.p (0:Fp))),(.ob (.p (0:Fp))),(.ob (.p (0:Fp))),(.ob (.p (0:Fp))),(.ob (.p (0:Fp))),(.ob (.p (0:Fp))),(.ob (.p (0:Fp))),(.ob (.p (0:Fp))),(.ob (.p (0:Fp))),(.ob (.p (0:Fp))),(.ob (.p (0:Fp))),(.ob (.p (0:Fp))),(.ob (.p (0:Fp))),(.ob (.p (0:Fp))),(.ob (.p (0:Fp))),(.ob (.p (0:Fp))),(.ob (.p (0:Fp))),(.ob (.p (0:Fp))),(.ob (.p (0:Fp))),(.ob (.p (0:Fp))),(.ob (.p (0:Fp))),(.ob (.p (0:Fp))),(.ob (.p (0:Fp))),(.ob (.p (0:Fp))),(.ob (.p (0:Fp))),(.ob (.p (0:Fp))),(.ob (.p (0:Fp))),(.ob (.p (0:Fp))),(.ob (.p (0:Fp))),(.ob (.p (0:Fp))),(.ob (.p (0:Fp))),(.ob (.p (0:Fp))),(.ob (.p (0:Fp))),(.ob (.p (0:Fp))),(.ob (.p (0:Fp))),(.ob (.p (0:Fp))),(.ob (.p (0:Fp))),(.ob (.p (0:Fp))),(.ob (.p (0:Fp))),(.ob (.p (0:Fp))),(.ob (.p (0:Fp))),(.ob (.p (0:Fp))),(.ob (.p (0:Fp))),(.ob (.p (0:Fp))),(.ob (.p (0:Fp))),(.ob (.p (0:Fp))),(.ob (.p (0:Fp))),(.ob (.p (0:Fp))),(.ob (.p (0:Fp))),(.ob (.p (0:Fp)))])] 96 [] []) .normal (B5j) ([.code (B7 Tryz.f130)]):=fun hs hK=>
 A5 (unroll:=false) (n:=3000) (path:=[]) (o:=⟨_,_,_,_,_,_,_⟩) A3t (by kernel_rfl) (by kernel_rfl) ho hs hK
def kbS (P:List (Fp×Fp×Fp)) (D:List Int) (S:List (Fp×Fp×Fp)) (i:Int):St:=A8 45 [1,4,5,9,10,11] [(.ci (.sl (.int D))),.pt 16 0,.pt 32 0,(.ci (.sl (Sq.pt P))),(.ii (P.length:Int)),.v (.c (.int .i64 i))] [16,32] [(eF_ [(.ob (.p (0:Fp))),(.ob (.p (0:Fp))),(.ob (.p (0:Fp)))]),some (.sq (.pt S))] 96 [] []
theorem kbA (P:List (Fp×Fp×Fp)) (D:List Int) (S:List (Fp×Fp×Fp)) (i:Int) (ho:A7 [((decide (i<(P.length:Int)))=true),(0<=i),(i<(P.length:Int)),(0<=i),(i<(D.length:Int)),((decide ((D.getD i.toNat 0) > (0:Int)))=true),(0<=(D.getD i.toNat 0)),((D.getD i.toNat 0)<(17:Int)),(0=0),(((D.getD i.toNat 0)).toNat<S.length),(0<=(D.getD i.toNat 0)),((D.getD i.toNat 0)<(17:Int)),(0=0),(((D.getD i.toNat 0)).toNat<S.length)]):Sg Tryz.prog (kbS P D S i) (A8 45 [1,4,5,9,10,11] [(.ci (.sl (.int D))),.pt 16 0,.pt 32 0,(.ci (.sl (Sq.pt P))),(.ii (P.length:Int)),(.ii (wrap .i64 (i+1)))] [16,32] [(eF_ [(.ob (.p (0:Fp))),(.ob (.p (0:Fp))),(.ob (.p (0:Fp)))]),(eQ_ (Sq.pt (List.set S ((D.getD i.toNat 0)).toNat (jpl (List.getD S ((D.getD i.toNat 0)).toNat pt0) (List.getD P (i).toNat pt0)))))] 496 [] []) .normal (N8 B5j) (E7 B5j):=fun hs hK=>
 A5 (unroll:=false) (n:=3000) (path:=[true,true]) (o:=⟨_,_,_,_,_,_,_⟩) A3t (by kernel_rfl) (by kernel_rfl) ho hs hK
theorem kbB (P:List (Fp×Fp×Fp)) (D:List Int) (S:List (Fp×Fp×Fp)) (i:Int) (ho:A7 [((decide (i<(P.length:Int)))=true),(0<=i),(i<(P.length:Int)),(0<=i),(i<(D.length:Int)),((decide ((D.getD i.toNat 0) > (0:Int)))=false),((decide ((D.getD i.toNat 0)<(0:Int)))=true),(0<=(wrap .i64 ((0:Int)-(D.getD i.toNat 0)))),((wrap .i64 ((0:Int)-(D.getD i.toNat 0)))<(17:Int)),(0=0),(((wrap .i64 ((0:Int)-(D.getD i.toNat 0)))).toNat<S.length),(0<=(wrap .i64 ((0:Int)-(D.getD i.toNat 0)))),((wrap .i64 ((0:Int)-(D.getD i.toNat 0)))<(17:Int)),(0=0),(((wrap .i64 ((0:Int)-(D.getD i.toNat 0)))).toNat<S.length)]):Sg Tryz.prog (kbS P D S i) (A8 45 [1,4,5,9,10,11] [(.ci (.sl (.int D))),.pt 16 0,.pt 32 0,(.ci (.sl (Sq.pt P))),(.ii (P.length:Int)),(.ii (wrap .i64 (i+1)))] [16,32] [(eF_ [(.ob (.p (0:Fp))),(.ob (.p (0:Fp))),(.ob (.p (0:Fp)))]),(eQ_ (Sq.pt (List.set S ((wrap .i64 ((0:Int)-(D.getD i.toNat 0)))).toNat (jpl (List.getD S ((wrap .i64 ((0:Int)-(D.getD i.toNat 0)))).toNat pt0) (jng (List.getD P (i).toNat pt0))))))] 592 [] []) .normal (N8 B5j) (E7 B5j):=fun hs hK=>
 A5 (unroll:=false) (n:=3000) (path:=[true,false,true]) (o:=⟨_,_,_,_,_,_,_⟩) A3t (by kernel_rfl) (by kernel_rfl) ho hs hK
theorem kbC (P:List (Fp×Fp×Fp)) (D:List Int) (S:List (Fp×Fp×Fp)) (i:Int) (ho:A7 [((decide (i<(P.length:Int)))=true),(0<=i),(i<(P.length:Int)),(0<=i),(i<(D.length:Int)),((decide ((D.getD i.toNat 0) > (0:Int)))=false),((decide ((D.getD i.toNat 0)<(0:Int)))=false)]):Sg Tryz.prog (kbS P D S i) (A8 45 [1,4,5,9,10,11] [(.ci (.sl (.int D))),.pt 16 0,.pt 32 0,(.ci (.sl (Sq.pt P))),(.ii (P.length:Int)),(.ii (wrap .i64 (i+1)))] [16,32] [(eF_ [(.ob (.p (0:Fp))),(.ob (.p (0:Fp))),(.ob (.p (0:Fp)))]),(eQ_ (Sq.pt S))] 416 [] []) .normal (N8 B5j) (E7 B5j):=fun hs hK=>
 A5 (unroll:=false) (n:=3000) (path:=[true,false,false]) (o:=⟨_,_,_,_,_,_,_⟩) A3t (by kernel_rfl) (by kernel_rfl) ho hs hK
def C3w:List KI:=(run ucB false 3000 ((fun (P:List (Fp×Fp×Fp)) (D:List Int) (S:List (Fp×Fp×Fp)) (i:Int)=>(⟨E7 B5j,.normal,kbS P D S i⟩:Cfg)) default default default default) [false]).cfg.k
theorem kbX (P:List (Fp×Fp×Fp)) (D:List Int) (S:List (Fp×Fp×Fp)) (i:Int) (ho:A7 [((decide (i<(P.length:Int)))=false)]):Sg Tryz.prog (kbS P D S i) (A8 21 [0,2,3,4,5] [.pt 32 0,.pt 112 0,.pt 128 0,.pt 144 0,.ii (16:Int)] [16,32,112,128,144] [(eF_ [(.ob (.p (0:Fp))),(.ob (.p (0:Fp))),(.ob (.p (0:Fp)))]),(eQ_ (Sq.pt S)),(eF_ [(.ob (.p (0:Fp))),(.ob (.p (0:Fp))),(.ob (.p (0:Fp)))]),(eF_ [(.ob (.p (0:Fp))),(.ob (.p (0:Fp))),(.ob (.p (0:Fp)))]),(eF_ [(.ob (.p (0:Fp))),(.ob (.p (0:Fp))),(.ob (.p (0:Fp)))])] 176 [[4]] [([.pt 16 0],45)]) .normal (C3w) (E7 B5j):=fun hs hK=>
 A5 (unroll:=false) (n:=3000) (path:=[false]) (o:=⟨_,_,_,_,_,_,_⟩) A3t (by kernel_rfl) (by kernel_rfl) ho hs hK
def kbT (S:List (Fp×Fp×Fp)) (r o:Fp×Fp×Fp) (d:Int):St:=A8 21 [0,2,3,4,5] [.pt 32 0,.pt 112 0,.pt 128 0,.pt 144 0,.v (.c (.int .i64 d))] [16,32,112,128,144] [(eF_ [(.ob (.p (0:Fp))),(.ob (.p (0:Fp))),(.ob (.p (0:Fp)))]),(eQ_ (Sq.pt S)),(eF_ [(.ob (.p (0:Fp))),(.ob (.p (0:Fp))),(.ob (.p (0:Fp)))]),some (.fl [.ob (.p o.1),.ob (.p o.2.1),.ob (.p o.2.2)]),some (.fl [.ob (.p r.1),.ob (.p r.2.1),.ob (.p r.2.2)])] 176 [[4]] [([.pt 16 0],45)]
theorem kbU (S:List (Fp×Fp×Fp)) (r o:Fp×Fp×Fp) (d:Int) (ho:A7 [((decide (d > (0:Int)))=true),(0<=d),(d<(17:Int)),(0=0),((d).toNat<S.length)]):Sg Tryz.prog (kbT S r o d) (A8 21 [0,2,3,4,5] [.pt 32 0,.pt 112 0,.pt 128 0,.pt 144 0,(.ii (wrap .i64 (d-1)))] [16,32,112,128,144] [(eF_ [(.ob (.p (0:Fp))),(.ob (.p (0:Fp))),(.ob (.p (0:Fp)))]),(eQ_ (Sq.pt S)),(eF_ [(.ob (.p (0:Fp))),(.ob (.p (0:Fp))),(.ob (.p (0:Fp)))]),(eF_ [(.ob (.p (Prod.fst (jpl o (jpl r (List.getD S (d).toNat pt0)))))),(.ob (.p (Prod.fst (Prod.snd (jpl o (jpl r (List.getD S (d).toNat pt0))))))),(.ob (.p (Prod.snd (Prod.snd (jpl o (jpl r (List.getD S (d).toNat pt0)))))))]),(eF_ [(.ob (.p (Prod.fst (jpl r (List.getD S (d).toNat pt0))))),(.ob (.p (Prod.fst (Prod.snd (jpl r (List.getD S (d).toNat pt0)))))),(.ob (.p (Prod.snd (Prod.snd (jpl r (List.getD S (d).toNat pt0))))))])] 448 [[4]] [([.pt 16 0],45)]) .normal (N8 C3w) (E7 C3w):=fun hs hK=>
 A5 (unroll:=false) (n:=3000) (path:=[true]) (o:=⟨_,_,_,_,_,_,_⟩) A3t (by kernel_rfl) (by kernel_rfl) ho hs hK
theorem F6s (S:List (Fp×Fp×Fp)) (r o:Fp×Fp×Fp) (d:Int):I0 ucB Tryz.f130 false 3000 (⟨E7 C3w,.normal,kbT S r o d⟩) [false] [] []=(some ([((decide (d > (0:Int)))=false)],((.v (.a [(.ob (.p (Prod.fst o))),(.ob (.p (Prod.fst (Prod.snd o)))),(.ob (.p (Prod.snd (Prod.snd o))))])),[]))):=by kernel_rfl
end
end

section

theorem E4z {x:Ctx} {n:Nat} (L:List (Fp×Fp×Fp)) (h:L.length=n) (cs:List Value) (hc:C4 x (.fl (H4 L 0 n)) cs):C4 x (.sq (.pt L)) cs:=by
 obtain ⟨hl,hj⟩:=A4e L n 0 cs hc;refine ⟨?_,fun i hi=>?_⟩
 ·show L.length*18<=cs.length
  rw[h,hl];exact Nat.le_refl _
 ·have hi:i<L.length:=hi
  rw[h] at hi;obtain ⟨c,h1,h2⟩:=hj i hi;rw[Nat.zero_add] at h1;exact ⟨c,h1,h2⟩

theorem D2e (P:List (Fp×Fp×Fp)) (D:List Int) (hl:D.length=P.length) (hp:P.length<=4611686018427387904) (hd:∀i,-16<=D.getD i 0∧D.getD i 0<=16) :
  FnD Tryz.prog 130 [.v (.c (.sl (.pt P))),.v (.c (.sl (.int D)))] (.v (.a (I7 (bkT pt0 P D)))) []:=by
 refine M9 (fn:=Tryz.f130) (c:=B7 Tryz.f130) Tryz.func130 rfl rfl fun x0 a0 hk hF hs=>?_
 refine kb P D trivial hs fun ac cY aY hs1=>?_
 have hs2:=hs1.blocks (ens' := [some (.fl [.ob (.p 0),.ob (.p 0),.ob (.p 0)]),some (.sq (.pt (List.replicate 17 pt0)))])
  ⟨.inl rfl,.inr ⟨_,_,_,rfl,rfl,rfl,fun cs h=>E4z (n:=17) _ rfl cs h⟩,trivial⟩
 have hlen:∀i,(bkN pt0 (List.replicate 17 pt0) P D i).length=17:=fun i=>(C8x ..).trans List.length_replicate
 refine F4 (ι:={ i:Nat // i<=P.length }) (fun i=>kbS P D (bkN pt0 (List.replicate 17 pt0) P D i.1) (i.1:Int)) (fun i=>P.length-i.1) (c:=lpC B5j) (k:=lpR B5j) (by kernel_rfl) (fun i ih ac cY aY hs=>?_) ⟨0,Nat.zero_le _⟩ (hs2.nx _)
 obtain ⟨i,hi⟩:=i;simp only at ih hs
 have hS:=hlen i;by_cases h:i<P.length
 ·have hnext:bkN pt0 (List.replicate 17 pt0) P D (i+1)=bkS pt0 (bkN pt0 (List.replicate 17 pt0) P D i) (P.getD i pt0) (D.getD i 0):=rfl
  have ei:wrap IntKind.i64 ((i:Int)+1)=((i+1:Nat):Int):=by rw[B9 (by omega) (by omega)];rfl
  have hdi:=hd i;have go:∀(S' : List (Fp×Fp×Fp)) (n:Nat) (ac:List Act) (cU:Ctx) (aU:Act),S' = bkN pt0 (List.replicate 17 pt0) P D (i+1)->Sim x0.w x0.F W0 ac (kbS P D S' ((i+1:Nat):Int)) cU aU->Wq Tryz.prog (D7z Tryz.prog Tryz.f130 x0 (.v (.a (I7 (bkT pt0 P D)))) []) (N8 B5j) ac .normal aU cU.w:=by
   intro S' n ac cU aU e hs
   rw[e] at hs;exact ih ⟨i+1,h⟩ (by show P.length-(i+1)<P.length-i;omega) ac cU aU hs
  generalize bkN pt0 (List.replicate 17 pt0) P D i=S at hs hS hnext;generalize hd0:D.getD i 0=d at hdi hnext;by_cases hpos:d > 0
  ·refine kbA P D S i ⟨decide_eq_true (by omega),by omega,by omega,by omega,by omega,?_,?_,?_,rfl,?_,?_,?_,rfl,?_,trivial⟩ hs fun ac cU aU hs3=>?_
   all_goals try rw[Int.toNat_natCast,hd0]
   ·exact decide_eq_true hpos
   ·omega
   ·omega
   ·omega
   ·omega
   ·omega
   ·omega
   ·rw[Int.toNat_natCast,hd0,ei] at hs3
    refine go _ 0 ac cU aU ?_ (hs3.nx _)
    rw[hnext];exact (if_pos hpos).symm
  ·by_cases hneg:d<0
   ·have ew:wrap IntKind.i64 ((0:Int)-d) = -d:=by rw[B9 (by omega) (by omega)];omega
    refine kbB P D S i ⟨decide_eq_true (by omega),by omega,by omega,by omega,by omega,?_,?_,?_,?_,rfl,?_,?_,?_,rfl,?_,trivial⟩ hs fun ac cU aU hs3=>?_
    all_goals try rw[Int.toNat_natCast,hd0]
    ·exact decide_eq_false hpos
    ·exact decide_eq_true hneg
    all_goals try rw[ew]
    ·omega
    ·omega
    ·omega
    ·omega
    ·omega
    ·omega
    ·rw[Int.toNat_natCast,hd0,ew,ei] at hs3
     refine go _ 0 ac cU aU ?_ (hs3.nx _)
     rw[hnext];unfold bkS;rw[if_neg hpos,if_pos hneg]
   ·refine kbC P D S i ⟨decide_eq_true (by omega),by omega,by omega,by omega,by omega,?_,?_,trivial⟩ hs fun ac cU aU hs3=>?_
    all_goals try rw[Int.toNat_natCast,hd0]
    ·exact decide_eq_false hpos
    ·exact decide_eq_false hneg
    ·rw[ei] at hs3
     refine go _ 0 ac cU aU ?_ (hs3.nx _)
     rw[hnext];unfold bkS;rw[if_neg hpos,if_neg hneg]
 ·obtain rfl:i=P.length:=by omega
  have hT:bkT pt0 P D=toO pt0 (bkN pt0 (List.replicate 17 pt0) P D P.length) 16:=rfl;rw[hT];generalize bkN pt0 (List.replicate 17 pt0) P D P.length=S at hs hS ⊢
  refine kbX P D S _ ⟨decide_eq_false (by omega),trivial⟩ hs fun ac cU aU hs3=>?_
  refine F4 (ι:={ n:Nat // n<=16 }) (fun n=>kbT S (toR pt0 S n.1) (toO pt0 S n.1) ((16-n.1:Nat):Int)) (fun n=>16-n.1) (c:=lpC C3w) (k:=lpR C3w) (by kernel_rfl) (fun n ih2 ac cY aY hs=>?_) ⟨0,Nat.zero_le _⟩ (hs3.nx _)
  obtain ⟨n,hn⟩:=n;simp only at ih2 hs
  by_cases hn16:n<16
  ·refine kbU S _ _ _ ⟨decide_eq_true (by omega),by omega,by omega,rfl,by rw[Int.toNat_natCast,hS];omega,trivial⟩ hs fun ac cV aV hs4=>?_
   have en:wrap IntKind.i64 (((16-n:Nat):Int)-1)=((16-(n+1):Nat):Int):=by rw[B9 (by omega) (by omega)];omega
   have e1:jpl (toR pt0 S n) (S.getD (16-n) pt0)=toR pt0 S (n+1):=rfl;have e2:jpl (toO pt0 S n) (toR pt0 S (n+1))=toO pt0 S (n+1):=rfl;rw[Int.toNat_natCast,en,e1,e2] at hs4;exact ih2 ⟨n+1,hn16⟩ (by show 16-(n+1)<16-n;omega) ac cV aV (hs4.nx _)
  ·obtain rfl:n=16:=by omega
   exact K9 A3t hk hF (F6s S _ _ _) ⟨by decide,trivial⟩ (fun y v hd=>hd) hs

end

section
section
variable {w0:World} {F0:Nat->Prop} {K:Kp} {ac:List Act} {Q:Exit->Act->World->Prop} {cX:Ctx} {aX:Act}

theorem C7p (P:List (Fp×Fp×Fp)) (D:List Int) (h:D.length=P.length∧P.length<=4611686018427387904∧F7f D):FnD Tryz.prog 130 [.v (.c (.sl (.pt P))),.v (.c (.sl (.int D)))] (.v (.a (I7 (bkT pt0 P D)))) []:=D2e P D h.1 h.2.1 h.2.2
def A4t:B1
 | [.v (.c (.sl (.pt P))),.v (.c (.sl (.int D)))]=>some ([D.length=P.length,P.length<=4611686018427387904,F7f D],.v (.a (I7 (bkT pt0 P D))),[])
 | _=>none
def ucC:Env:=ucB.set (C7 ucB.fn 130 A4t)
theorem A1f:A6 Tryz.prog ucC:=A4 A3t 130 A4t (A3 Tryz.func130 rfl rfl) fun args o r es h ho=>by
 unfold A4t at h;split at h
 ·cases h;exact C7p _ _ ⟨ho.1,ho.2.1,ho.2.2.1⟩
 ·cases h
--@env ucC A1f
def D8s:List KI:=(run ucC false 3000 ((fun (P:List (Fp×Fp×Fp)) (k:List U4)=>(⟨[.code (B7 Tryz.f101)],.normal,E4 Tryz.f101.ntmps [.v (.c (.sl (.pt P))),.v (.c (.sl (.fr k)))]⟩:Cfg)) default default) []).cfg.k
theorem am (P:List (Fp×Fp×Fp)) (k:List U4) (ho:A7 []):Sg Tryz.prog (E4 Tryz.f101.ntmps [.v (.c (.sl (.pt P))),.v (.c (.sl (.fr k)))]) (A8 72 [0,1,4,5,6,15,16,17] [(.ci (.sl (Sq.pt P))),(.ci (.sl (.fr k))),.pt 16 0,(.ci (.val (Value.slice Option.none 0 0))),.ii (0:Int),(.ci (.sl (.fr k))),(.ii (k.length:Int)),.ii (0:Int)] [16] [(eF_ [(.ob (.p (0:Fp))),(.ob (.p (0:Fp))),(.ob (.p (0:Fp)))])] 112 [] []) .normal (D8s) ([.code (B7 Tryz.f101)]):=fun hs hK=>
 A5 (unroll:=false) (n:=3000) (path:=[]) (o:=⟨_,_,_,_,_,_,_⟩) A1f (by kernel_rfl) (by kernel_rfl) ho hs hK
def amS (P:List (Fp×Fp×Fp)) (k:List U4) (R:List (List Int)) (n:Nat) (m i:Int):St:=A8 72 [0,1,4,5,6,15,16,17] [(.ci (.sl (Sq.pt P))),(.ci (.sl (.fr k))),.pt 16 0,.v (.c (.slc 17 0 n 1)),.v (.c (.int .i64 m)),(.ci (.sl (.fr k))),(.ii (k.length:Int)),.v (.c (.int .i64 i))] [16,17] [(eF_ [(.ob (.p (0:Fp))),(.ob (.p (0:Fp))),(.ob (.p (0:Fp)))]),some (.sq (.ints R))] 112 [] []
theorem amA (P:List (Fp×Fp×Fp)) (k:List U4) (R:List (List Int)) (n:Nat) (m i:Int) (ho:A7 [((decide (i<(k.length:Int)))=true),(0<=i),(i<(k.length:Int)),(((R.length+1)*24)<=140737488355328),((R.length+1)<=maxLen),(n=R.length),(1=1)]):Sg Tryz.prog (amS P k R n m i) (A8 72 [0,1,4,5,6,15,16,17] [(.ci (.sl (Sq.pt P))),(.ci (.sl (.fr k))),.pt 16 0,(.ci (.slc 17 0 (R.length+1) 1)),(.ii (ite ((((Prod.fst (dgW (Fin.val (k.getD i.toNat 0)) 52)).length:Nat):Int) > m) (((Prod.fst (dgW (Fin.val (k.getD i.toNat 0)) 52)).length:Nat):Int) m)),(.ci (.sl (.fr k))),(.ii (k.length:Int)),(.ii (wrap .i64 (i+1)))] [16,17] [(eF_ [(.ob (.p (0:Fp))),(.ob (.p (0:Fp))),(.ob (.p (0:Fp)))]),(eQ_ (.ints (R++[(Prod.fst (dgW (Fin.val (k.getD i.toNat 0)) 52))])))] 432 [] []) .normal (N8 D8s) (E7 D8s):=fun hs hK=>
 A5 (unroll:=false) (n:=3000) (path:=[true]) (o:=⟨_,_,_,_,_,_,_⟩) A1f (by kernel_rfl) (by kernel_rfl) ho hs hK
def B7e:List KI:=(run ucC false 3000 ((fun (P:List (Fp×Fp×Fp)) (k:List U4) (R:List (List Int)) (n:Nat) (m i:Int)=>(⟨E7 D8s,.normal,amS P k R n m i⟩:Cfg)) default default default default default default) [false]).cfg.k
theorem amB (P:List (Fp×Fp×Fp)) (k:List U4) (R:List (List Int)) (n:Nat) (m i:Int) (ho:A7 [((decide (i<(k.length:Int)))=false),(0<=(k.length:Int)),((k.length:Int)=(k.length:Int)),(((8:Int)*(k.length:Int))<=(281474976710656:Int)),((k.length:Int)<=(9223372036854775807:Int))]):Sg Tryz.prog (amS P k R n m i) (A8 72 [0,4,5,10,11,12] [(.ci (.sl (Sq.pt P))),.pt 16 0,(.ci (.slc 17 0 n 1)),.pt 128 0,(.ci (.slc 176 0 ((k.length:Int)).toNat 1)),(.ii (wrap .i64 (m-1)))] [16,17,128,176] [(eF_ [(.ob (.p (0:Fp))),(.ob (.p (0:Fp))),(.ob (.p (0:Fp)))]),(eQ_ (.ints R)),(eF_ [(.ob (.p (0:Fp))),(.ob (.p (0:Fp))),(.ob (.p (0:Fp)))]),(eQ_ (.int (List.replicate ((k.length:Int)).toNat 0)))] 256 [] []) .normal (B7e) (E7 D8s):=fun hs hK=>
 A5 (unroll:=false) (n:=3000) (path:=[false]) (o:=⟨_,_,_,_,_,_,_⟩) A1f (by kernel_rfl) (by kernel_rfl) ho hs hK
def amT (P:List (Fp×Fp×Fp)) (R:List (List Int)) (n q:Nat) (D:List Int) (o:Fp×Fp×Fp) (h:Int):St:=A8 72 [0,4,5,10,11,12] [(.ci (.sl (Sq.pt P))),.pt 16 0,(.ci (.slc 17 0 n 1)),.pt 128 0,.v (.c (.slc 176 0 q 1)),.v (.c (.int .i64 h))] [16,17,128,176] [(eF_ [(.ob (.p (0:Fp))),(.ob (.p (0:Fp))),(.ob (.p (0:Fp)))]),(eQ_ (.ints R)),some (.fl [.ob (.p o.1),.ob (.p o.2.1),.ob (.p o.2.2)]),some (.sq (.int D))] 256 [] []
def B9p:List KI:=(run ucC false 3000 ((fun (P:List (Fp×Fp×Fp)) (R:List (List Int)) (n q:Nat) (D:List Int) (o:Fp×Fp×Fp) (h:Int)=>(⟨E7 B7e,.normal,amT P R n q D o h⟩:Cfg)) default default default default default default default) [true]).cfg.k
theorem amC (P:List (Fp×Fp×Fp)) (R:List (List Int)) (n q:Nat) (D:List Int) (o:Fp×Fp×Fp) (h:Int) (ho:A7 [((decide (h >= (0:Int)))=true)]):Sg Tryz.prog (amT P R n q D o h) (A8 72 [0,4,5,10,11,12,41] [(.ci (.sl (Sq.pt P))),.pt 16 0,(.ci (.slc 17 0 n 1)),.pt 128 0,(.ci (.slc 176 0 q 1)),.ii h,.ii (0:Int)] [16,17,128,176] [(eF_ [(.ob (.p (0:Fp))),(.ob (.p (0:Fp))),(.ob (.p (0:Fp)))]),(eQ_ (.ints R)),(eF_ [(.ob (.p (Prod.fst o))),(.ob (.p (Prod.fst (Prod.snd o)))),(.ob (.p (Prod.snd (Prod.snd o))))]),(eQ_ (.int D))] 304 [] []) .normal (B9p) (E7 B7e):=fun hs hK=>
 A5 (unroll:=false) (n:=3000) (path:=[true]) (o:=⟨_,_,_,_,_,_,_⟩) A1f (by kernel_rfl) (by kernel_rfl) ho hs hK
def amU (P:List (Fp×Fp×Fp)) (R:List (List Int)) (n q:Nat) (D:List Int) (o:Fp×Fp×Fp) (h j:Int):St:=A8 72 [0,4,5,10,11,12,41] [(.ci (.sl (Sq.pt P))),.pt 16 0,(.ci (.slc 17 0 n 1)),.pt 128 0,(.ci (.slc 176 0 q 1)),.ii h,.v (.c (.int .i64 j))] [16,17,128,176] [(eF_ [(.ob (.p (0:Fp))),(.ob (.p (0:Fp))),(.ob (.p (0:Fp)))]),(eQ_ (.ints R)),(eF_ [(.ob (.p (Prod.fst o))),(.ob (.p (Prod.fst (Prod.snd o)))),(.ob (.p (Prod.snd (Prod.snd o))))]),(eQ_ (.int D))] 304 [] []
theorem amD (P:List (Fp×Fp×Fp)) (R:List (List Int)) (n q:Nat) (D:List Int) (o:Fp×Fp×Fp) (h j:Int) (ho:A7 [((decide (j<(5:Int)))=true)]):Sg Tryz.prog (amU P R n q D o h j) (A8 72 [0,4,5,10,11,12,41] [(.ci (.sl (Sq.pt P))),.pt 16 0,(.ci (.slc 17 0 n 1)),.pt 128 0,(.ci (.slc 176 0 q 1)),.ii h,(.ii (wrap .i64 (j+1)))] [16,17,128,176] [(eF_ [(.ob (.p (0:Fp))),(.ob (.p (0:Fp))),(.ob (.p (0:Fp)))]),(eQ_ (.ints R)),(eF_ [(.ob (.p (Prod.fst (jtw o)))),(.ob (.p (Prod.fst (Prod.snd (jtw o))))),(.ob (.p (Prod.snd (Prod.snd (jtw o)))))]),(eQ_ (.int D))] 400 [] []) .normal (N8 B9p) (E7 B9p):=fun hs hK=>
 A5 (unroll:=false) (n:=3000) (path:=[true]) (o:=⟨_,_,_,_,_,_,_⟩) A1f (by kernel_rfl) (by kernel_rfl) ho hs hK
def C3f:List KI:=(run ucC false 3000 ((fun (P:List (Fp×Fp×Fp)) (R:List (List Int)) (n q:Nat) (D:List Int) (o:Fp×Fp×Fp) (h j:Int)=>(⟨E7 B9p,.normal,amU P R n q D o h j⟩:Cfg)) default default default default default default default default) [false]).cfg.k
theorem amE (P:List (Fp×Fp×Fp)) (R:List (List Int)) (n q:Nat) (D:List Int) (o:Fp×Fp×Fp) (h j:Int) (ho:A7 [((decide (j<(5:Int)))=false),(q=D.length)]):Sg Tryz.prog (amU P R n q D o h j) (A8 72 [0,4,5,10,11,12,47,48,49] [(.ci (.sl (Sq.pt P))),.pt 16 0,(.ci (.slc 17 0 n 1)),.pt 128 0,(.ci (.slc 176 0 q 1)),.ii h,(.ci (.slc 17 0 n 1)),(.ii ((n:Nat):Int)),.ii (0:Int)] [16,17,128,176] [(eF_ [(.ob (.p (0:Fp))),(.ob (.p (0:Fp))),(.ob (.p (0:Fp)))]),(eQ_ (.ints R)),(eF_ [(.ob (.p (Prod.fst o))),(.ob (.p (Prod.fst (Prod.snd o)))),(.ob (.p (Prod.snd (Prod.snd o))))]),(eQ_ (.int (List.replicate D.length (0:Int))))] 400 [] []) .normal (C3f) (E7 B9p):=fun hs hK=>
 A5 (unroll:=false) (n:=3000) (path:=[false]) (o:=⟨_,_,_,_,_,_,_⟩) A1f (by kernel_rfl) (by kernel_rfl) ho hs hK
def amV (P:List (Fp×Fp×Fp)) (R:List (List Int)) (n q:Nat) (D:List Int) (o:Fp×Fp×Fp) (h i:Int):St:=A8 72 [0,4,5,10,11,12,47,48,49] [(.ci (.sl (Sq.pt P))),.pt 16 0,(.ci (.slc 17 0 n 1)),.pt 128 0,(.ci (.slc 176 0 q 1)),.ii h,(.ci (.slc 17 0 n 1)),(.ii ((n:Nat):Int)),.v (.c (.int .i64 i))] [16,17,128,176] [(eF_ [(.ob (.p (0:Fp))),(.ob (.p (0:Fp))),(.ob (.p (0:Fp)))]),(eQ_ (.ints R)),(eF_ [(.ob (.p (Prod.fst o))),(.ob (.p (Prod.fst (Prod.snd o)))),(.ob (.p (Prod.snd (Prod.snd o))))]),some (.sq (.int D))] 400 [] []
theorem amF (P:List (Fp×Fp×Fp)) (R:List (List Int)) (n q:Nat) (D:List Int) (o:Fp×Fp×Fp) (h i:Int) (ho:A7 [((decide (i<((n:Nat):Int)))=true),(0<=i),(i<((n:Nat):Int)),(0=0),((i).toNat<R.length),((decide (h<(((List.getD R (i).toNat ([]:List Int)).length:Nat):Int)))=true),(0<=h),(h<(((List.getD R (i).toNat ([]:List Int)).length:Nat):Int)),(0<=i),(i<((q:Nat):Int)),(0=0),((i).toNat<D.length)]):Sg Tryz.prog (amV P R n q D o h i) (A8 72 [0,4,5,10,11,12,47,48,49] [(.ci (.sl (Sq.pt P))),.pt 16 0,(.ci (.slc 17 0 n 1)),.pt 128 0,(.ci (.slc 176 0 q 1)),.ii h,(.ci (.slc 17 0 n 1)),(.ii ((n:Nat):Int)),(.ii (wrap .i64 (i+1)))] [16,17,128,176] [(eF_ [(.ob (.p (0:Fp))),(.ob (.p (0:Fp))),(.ob (.p (0:Fp)))]),(eQ_ (.ints R)),(eF_ [(.ob (.p (Prod.fst o))),(.ob (.p (Prod.fst (Prod.snd o)))),(.ob (.p (Prod.snd (Prod.snd o))))]),(eQ_ (.int (List.set D (i).toNat (List.getD (List.getD R (i).toNat ([]:List Int)) (h).toNat 0))))] 720 [] []) .normal (N8 C3f) (E7 C3f):=fun hs hK=>
 A5 (unroll:=false) (n:=3000) (path:=[true,true]) (o:=⟨_,_,_,_,_,_,_⟩) A1f (by kernel_rfl) (by kernel_rfl) ho hs hK
theorem amH (P:List (Fp×Fp×Fp)) (R:List (List Int)) (n q:Nat) (D:List Int) (o:Fp×Fp×Fp) (h i:Int) (ho:A7 [((decide (i<((n:Nat):Int)))=false),(0=0),(q=D.length),(1=1),(D.length=P.length),(P.length<=4611686018427387904),(F7f D)]):Sg Tryz.prog (amV P R n q D o h i) (A8 72 [0,4,5,10,11,12] [(.ci (.sl (Sq.pt P))),.pt 16 0,(.ci (.slc 17 0 n 1)),.pt 128 0,(.ci (.slc 176 0 q 1)),(.ii (wrap .i64 (h-1)))] [16,17,128,176] [(eF_ [(.ob (.p (0:Fp))),(.ob (.p (0:Fp))),(.ob (.p (0:Fp)))]),(eQ_ (.ints R)),(eF_ [(.ob (.p (Prod.fst (jpl o (bkT pt0 P D))))),(.ob (.p (Prod.fst (Prod.snd (jpl o (bkT pt0 P D)))))),(.ob (.p (Prod.snd (Prod.snd (jpl o (bkT pt0 P D))))))]),(eQ_ (.int D))] 560 [] []) .normal (N8 B7e) (E7 C3f):=fun hs hK=>
 A5 (unroll:=false) (n:=3000) (path:=[false]) (o:=⟨_,_,_,_,_,_,_⟩) A1f (by kernel_rfl) (by kernel_rfl) ho hs hK
theorem G1e (P:List (Fp×Fp×Fp)) (R:List (List Int)) (n q:Nat) (D:List Int) (o:Fp×Fp×Fp) (h:Int):I0 ucC Tryz.f101 false 3000 (⟨E7 B7e,.normal,amT P R n q D o h⟩) [false] [] []=(some ([((decide (h >= (0:Int)))=false)],((.v (.a [(.ob (.p (Prod.fst o))),(.ob (.p (Prod.fst (Prod.snd o)))),(.ob (.p (Prod.snd (Prod.snd o))))])),[]))):=by kernel_rfl
end
end

section

theorem F6q (P:List (Fp×Fp×Fp)) (k:List U4) (hk0:k.length=P.length) (hp:P.length<=4096) {N:Nat} (hN:N=52) :
  FnD Tryz.prog 101 [.v (.c (.sl (.pt P))),.v (.c (.sl (.fr k)))] (.v (.a (I7 (smJ N pt0 P k)))) []:=by
 refine M9 (fn:=Tryz.f101) (c:=B7 Tryz.f101) Tryz.func101 rfl rfl fun x0 a0 hk hF hs=>?_
 refine am P k trivial hs fun ac cY aY hs1=>?_
 have hs2:=hs1.nilRow (p:=17) (q:=.ints []) rfl (by decide) rfl (ml' := [16,17]) (ens' := [some (.fl [.ob (.p 0),.ob (.p 0),.ob (.p 0)]),some (.sq (.ints []))]) (fun r=>C6a (by decide))
  (svs' := [.v (.c (.sl (.pt P))),.v (.c (.sl (.fr k))),.v (.c (.ptr 16 0)),.v (.c (.slc 17 0 0 1)),.v (.c (.int .i64 0)),.v (.c (.sl (.fr k))),.v (.c (.int .i64 ((k.length:Nat):Int))),.v (.c (.int .i64 0))]) ⟨.inl rfl,.inl rfl,.inl rfl,.inr ⟨1,rfl,rfl⟩,.inl rfl,.inl rfl,.inl rfl,.inl rfl,trivial⟩
 have hL:=E2q N k;have hrow:=@G2j N k;have hget:=C6u N k;have hdig:=F8k N k;have hmax:4097<=maxLen:=by decide
 change Wq Tryz.prog _ _ _ _ _ (J8 cY 17).w
 refine F4 (ι:={ i:Nat // i<=k.length }) (fun i=>amS P k ((dgK N k).take i.1) i.1 (if i.1=0 then 0 else (N:Int)) (i.1:Int)) (fun i=>k.length-i.1) (c:=lpC D8s) (k:=lpR D8s) (by kernel_rfl) (fun i ih ac cY aY hs=>?_) ⟨0,Nat.zero_le _⟩ (hs2.nx _)
 obtain ⟨i,hi⟩:=i;simp only at ih hs
 have htl:((dgK N k).take i).length=i:=by rw[List.length_take,hL];omega
 by_cases h:i<k.length
 ·refine amA P k _ i _ i ⟨decide_eq_true (by omega),by omega,by omega,by rw[htl];omega,by rw[htl];omega,htl.symm,rfl,trivial⟩ hs fun ac cU aU hs3=>?_
  have ei:wrap IntKind.i64 ((i:Int)+1)=((i+1:Nat):Int):=by rw[B9 (by omega) (by omega)];rfl
  have e52:(dgW (k.getD i 0).val 52).1=(dgK N k).getD i []:=by rw[hget i h,hN]
  rw[Int.toNat_natCast,ei,htl,e52,E3w _ _ (by omega),hrow i h] at hs3
  have em:(if ((N:Nat):Int) > (if i=0 then 0 else (N:Int)) then ((N:Nat):Int) else (if i=0 then 0 else (N:Int)))=(if i+1=0 then 0 else (N:Int)):=by
   rw[if_neg (show ¬i+1=0 from by omega)]
   split<;>split<;>omega
  rw[em] at hs3;exact ih ⟨i+1,h⟩ (by show k.length-(i+1)<k.length-i;omega) ac cU aU (hs3.nx _)
 ·obtain rfl:i=k.length:=by omega
  have ht:(dgK N k).take k.length=dgK N k:=by rw[<-hL,List.take_length]
  rw[ht] at hs;have em:(if k.length=0 then 0 else (N:Int))=((D3p N k:Nat):Int):=by
   cases k with
   | nil=>rfl
   | cons x l=>rfl
  rw[em] at hs;have hm52:D3p N k<=52:=by
   cases k with
   | nil=>exact Nat.zero_le _
   | cons x l=>exact Nat.le_of_eq hN
  have hmN:0<k.length->D3p N k=N:=by
   intro h
   cases k with
   | nil=>cases h
   | cons x l=>rfl
  refine amB P k _ k.length _ _ ⟨decide_eq_false (by omega),by omega,rfl,by omega,by omega,trivial⟩ hs fun ac cU aU hs3=>?_
  rw[Int.toNat_natCast] at hs3;have hres:smJ N pt0 P k=alN pt0 P (dgK N k) (D3p N k) (D3p N k):=rfl;rw[hres];generalize dgK N k=L at hs3 hL hrow hdig ⊢
  generalize D3p N k=m at hs3 hm52 hmN ⊢
  have eh:wrap IntKind.i64 ((m:Int)-1)=(m:Int)-1-((0:Nat):Int):=by rw[B9 (by omega) (by omega)];omega
  rw[eh] at hs3;refine F4 (ι:={ p:Nat×List Int // p.1<=m∧p.2.length=k.length }) (fun p=>amT P L k.length k.length p.1.2 (alN pt0 P L m p.1.1) ((m:Int)-1-(p.1.1:Int))) (fun p=>m-p.1.1) (c:=lpC B7e) (k:=lpR B7e) (by kernel_rfl) (fun p ih2 ac cY aY hs=>?_) ⟨(0,List.replicate k.length 0),Nat.zero_le _,List.length_replicate⟩ (hs3.nx _)
  obtain ⟨⟨t,D⟩,ht1,hD⟩:=p;simp only at ih2 hs ht1 hD
  by_cases htm:t<m
  ·have hlt:m-(t+1)<m-t:=by omega
   obtain ⟨a,ha⟩:∃a:Nat,a=m-1-t:=⟨_,rfl⟩
   have ea:(m:Int)-1-(t:Int)=(a:Int):=by omega
   rw[ea] at hs;have hnext:alN pt0 P L m (t+1)=jpl (A2x 5 (alN pt0 P L m t)) (bkT pt0 P (A0b L a)):=by rw[ha];rfl
   generalize alN pt0 P L m t=o at hs hnext;refine amC P L _ _ D o _ ⟨decide_eq_true (by omega),trivial⟩ hs fun ac cZ aZ hs4=>?_
   refine F4 (ι:={ j:Nat // j<=5 }) (fun j=>amU P L k.length k.length D (A2x j.1 o) (a:Int) (j.1:Int)) (fun j=>5-j.1) (c:=lpC B9p) (k:=lpR B9p) (by kernel_rfl) (fun j ih3 ac cY aY hs=>?_) ⟨0,Nat.zero_le _⟩ (hs4.nx _)
   obtain ⟨j,hj⟩:=j;simp only at ih3 hs
   by_cases hj5:j<5
   ·have ej:jtw (A2x j o)=A2x (j+1) o:=(C4w j o).symm
    generalize A2x j o=o1 at hs ej;refine amD P L _ _ D _ _ _ ⟨decide_eq_true (by omega),trivial⟩ hs fun ac cV aV hs5=>?_
    rw[B9 (n:=(j:Int)+1) (by omega) (by omega),ej] at hs5
    exact ih3 ⟨j+1,hj5⟩ (by show 5-(j+1)<5-j;omega) ac cV aV (hs5.nx _)
   ·obtain rfl:j=5:=by omega
    generalize A2x 5 o=o5 at hs hnext;refine amE P L _ _ D _ _ _ ⟨by decide,hD.symm,trivial⟩ hs fun ac cV aV hs5=>?_
    refine F4 (ι:={ p:Nat×List Int // p.1<=k.length∧p.2.length=k.length∧∀j,j<p.1->p.2.getD j 0=(L.getD j []).getD a 0 }) (fun p=>amV P L k.length k.length p.1.2 o5 (a:Int) (p.1.1:Int)) (fun p=>k.length-p.1.1) (c:=lpC C3f) (k:=lpR C3f) (by kernel_rfl) (fun p ih4 ac cY aY hs=>?_)
     ⟨(0,List.replicate D.length 0),Nat.zero_le _,List.length_replicate.trans hD,fun j hj=>absurd hj (Nat.not_lt_zero j)⟩ (hs5.nx _)
    obtain ⟨⟨i,E⟩,hi1,hE,hEg⟩:=p;simp only at ih4 hs hi1 hE hEg
    by_cases hik:i<k.length
    ·have hri:=hrow i hik
     have hmn:=hmN (by omega)
     refine amF P L _ _ E _ _ _ ⟨decide_eq_true (by omega),by omega,by omega,rfl,by rw[Int.toNat_natCast];omega,by rw[Int.toNat_natCast,hri];exact decide_eq_true (by omega),by omega,by rw[Int.toNat_natCast,hri];omega,by omega,by omega,rfl,by rw[Int.toNat_natCast];omega,trivial⟩ hs fun ac cW aW hs6=>?_
     rw[Int.toNat_natCast,Int.toNat_natCast,B9 (n:=(i:Int)+1) (by omega) (by omega)] at hs6
     refine ih4 ⟨(i+1,E.set i ((L.getD i []).getD a 0)),hik,(List.length_set ..).trans hE,fun j hj=>?_⟩ (by show k.length-(i+1)<k.length-i;omega) ac cW aW (hs6.nx _)
     have hj:j<i+1:=hj;show (E.set i _).getD j 0=_;rw[A4v _ _ _ _ _ (by omega)]
     by_cases e:j=i
     ·subst e;rw[if_pos rfl]
     ·rw[if_neg e];exact hEg j (by omega)
    ·obtain rfl:i=k.length:=by omega
     have hrowE:E=A0b L a:=F7u (by omega) fun j hj=>hEg j (by omega)
     subst hrowE;have hds:F7f (A0b L a):=fun j=>by rw[C5c];exact hdig j a
     refine amH P L _ _ _ _ _ _ ⟨decide_eq_false (by omega),rfl,by omega,rfl,by omega,by omega,hds,trivial⟩ hs fun ac cW aW hs6=>?_
     have e7:wrap IntKind.i64 ((a:Int)-1)=(m:Int)-1-((t+1:Nat):Int):=by rw[B9 (by omega) (by omega)];omega
     rw[e7,<-hnext] at hs6;have ih5:=ih2 ⟨(t+1,A0b L a),htm,hE⟩ hlt;dsimp only at ih5;generalize alN pt0 P L m (t+1)=oN at hs6 ih5;exact ih5 ac cW aW (hs6.nx _)
  ·obtain rfl:t=m:=by omega
   exact K9 A1f hk hF (G1e P L _ _ D _ _) ⟨decide_eq_false (by omega),trivial⟩ (fun y v hd=>hd) hs

end

section

--@env A7b L1
theorem tkA (a b:Int) (w:Bool):B2 A7b Tryz.f100 3000 [.v (.c (.int .i64 a)),.v (.c (.int .i64 b)),.v (.c (.bool w))] [true] [] []=(some ([((a != b)=true)],((.ii (3:Int)),[]))):=by kernel_rfl
theorem tkB (a b:Int) (w:Bool):B2 A7b Tryz.f100 3000 [.v (.c (.int .i64 a)),.v (.c (.int .i64 b)),.v (.c (.bool w))] [false,true] [] []=(some ([((a != b)=false),((decide (a > (4096:Int)))=true)],((.ii (2:Int)),[]))):=by kernel_rfl
theorem tkC (a b:Int) (w:Bool):B2 A7b Tryz.f100 3000 [.v (.c (.int .i64 a)),.v (.c (.int .i64 b)),.v (.c (.bool w))] [false,false,true] [] []=(some ([((a != b)=false),((decide (a > (4096:Int)))=false),(w=true)],((.ii (30:Int)),[]))):=by kernel_rfl
theorem tkD (a b:Int) (w:Bool):B2 A7b Tryz.f100 3000 [.v (.c (.int .i64 a)),.v (.c (.int .i64 b)),.v (.c (.bool w))] [false,false,false] [] []=(some ([((a != b)=false),((decide (a > (4096:Int)))=false),(w=false)],((.ii (0:Int)),[]))):=by kernel_rfl
end

section

theorem E3f (a b:Int) (w:Bool):FnD Tryz.prog 100 [.v (.c (.int .i64 a)),.v (.c (.int .i64 b)),.v (.c (.bool w))] (.v (.c (.int .i64 (A2e a b w)))) []:=by
 by_cases h:a=b
 ·by_cases h2:a > 4096
  ·rw[F1n h h2]
   exact A2 L1 Tryz.func100 (tkB a b w) ⟨by simp [h],decide_eq_true h2,trivial⟩
  ·cases w with
   | true=>rw[G3o h h2 rfl];exact A2 L1 Tryz.func100 (tkC a b true) ⟨by simp [h],decide_eq_false h2,rfl,trivial⟩
   | false=>rw[G0l h h2 rfl];exact A2 L1 Tryz.func100 (tkD a b false) ⟨by simp [h],decide_eq_false h2,rfl,trivial⟩
 ·rw[F4g h]
  exact A2 L1 Tryz.func100 (tkA a b w) ⟨by simp [h],trivial⟩

end

section
section
variable {w0:World} {F0:Nat->Prop} {K:Kp} {ac:List Act} {Q:Exit->Act->World->Prop} {cX:Ctx} {aX:Act}

theorem F3b (P:List (Fp×Fp×Fp)) (k:List U4) (h:k.length=P.length∧P.length<=4096):FnD Tryz.prog 101 [.v (.c (.sl (.pt P))),.v (.c (.sl (.fr k)))] (.v (.a (I7 (smJ 52 pt0 P k)))) []:=F6q P k h.1 h.2 (Eq.refl 52)
def D0e:B1
 | [.v (.c (.sl (.pt P))),.v (.c (.sl (.fr k)))]=>some ([k.length=P.length,P.length<=4096],.v (.a (I7 (smJ 52 pt0 P k))),[])
 | _=>none
def udA:Env:=ucC.set (C7 ucC.fn 101 D0e)
theorem B3y:A6 Tryz.prog udA:=A4 A1f 101 D0e (A3 Tryz.func101 rfl rfl) fun args o r es h ho=>by
 unfold D0e at h;split at h
 ·cases h;exact F3b _ _ ⟨ho.1,ho.2.1⟩
 ·cases h
--@env udA B3y
def E4b:List KI:=(run udA false 3000 ((fun (l:List G1D)=>(⟨[.code (B7 Tryz.f102)],.normal,E4 Tryz.f102.ntmps [.v (.c (.sl (.g1 l))),.v (.c (.clo 40 []))]⟩:Cfg)) default) []).cfg.k
theorem ea (l:List G1D) (ho:A7 [(0<=(l.length:Int)),((l.length:Int)=(l.length:Int)),(((144:Int)*(l.length:Int))<=(281474976710656:Int)),((l.length:Int)<=(9223372036854775807:Int))]):Sg Tryz.prog (E4 Tryz.f102.ntmps [.v (.c (.sl (.g1 l))),.v (.c (.clo 40 []))]) (A8 26 [1,5,11,12,13] [(.ci (.clo 40 ([]:List (Prod Nat Nat)))),(.ci (.slc 64 0 ((l.length:Int)).toNat 18)),(.ci (.sl (Sq.g1 l))),(.ii (l.length:Int)),.ii (0:Int)] [64] [(eQ_ (Sq.pt (List.replicate ((l.length:Int)).toNat pt0)))] 144 [] []) .normal (E4b) ([.code (B7 Tryz.f102)]):=fun hs hK=>
 A5 (unroll:=false) (n:=3000) (path:=[]) (o:=⟨_,_,_,_,_,_,_⟩) B3y (by kernel_rfl) (by kernel_rfl) ho hs hK
def eaS (l:List G1D) (L:List (Fp×Fp×Fp)) (n:Nat) (i:Int):St:=A8 26 [1,5,11,12,13] [(.ci (.clo 40 ([]:List (Prod Nat Nat)))),.v (.c (.slc 64 0 n 18)),(.ci (.sl (Sq.g1 l))),(.ii (l.length:Int)),.v (.c (.int .i64 i))] [64] [some (.sq (.pt L))] 144 [] []
theorem eaA (l:List G1D) (L:List (Fp×Fp×Fp)) (n:Nat) (i:Int) (ho:A7 [((decide (i<(l.length:Int)))=true),(0<=i),(i<(l.length:Int)),(0<=i),(i<((n:Nat):Int)),(0=0),((i).toNat<L.length)]):Sg Tryz.prog (eaS l L n i) (A8 26 [1,5,11,12,13] [(.ci (.clo 40 ([]:List (Prod Nat Nat)))),(.ci (.slc 64 0 n 18)),(.ci (.sl (Sq.g1 l))),(.ii (l.length:Int)),(.ii (wrap .i64 (i+1)))] [64] [(eQ_ (Sq.pt (List.set L (i).toNat (inG (List.getD l (i).toNat g10)))))] 400 [] []) .normal (N8 E4b) (E7 E4b):=fun hs hK=>
 A5 (unroll:=false) (n:=3000) (path:=[true]) (o:=⟨_,_,_,_,_,_,_⟩) B3y (by kernel_rfl) (by kernel_rfl) ho hs hK
theorem G2b (l:List G1D) (L:List (Fp×Fp×Fp)) (n:Nat) (i:Int):I0 udA Tryz.f102 false 3000 (⟨E7 E4b,.normal,eaS l L n i⟩) [false] [] [64]=(some ([((decide (i<(l.length:Int)))=false),(n=L.length)],((.ci (.sl (Sq.pt L))),[]))):=by kernel_rfl
theorem H7c (a b:U6) (i:Bool):B2 udA Tryz.f99 3000 [.v (.a [.ob (.fp a),.ob (.fp b),.bool i])] [] [] []=(some ([],((.ci (.bool (Bool.not (onG (G1D.mk a b i))))),[]))):=by kernel_rfl
def B8k:B1
 | [.v (.a [.ob (.fp a),.ob (.fp b),.bool i])]=>some ([],.v (.c (.bool (!(onG ⟨a,b,i⟩)))),[])
 | _=>none
def udB:Env:=udA.set (C7 udA.fn 99 B8k)
theorem B2q:A6 Tryz.prog udB:=A4 B3y 99 B8k (A3 Tryz.func99 rfl rfl) fun args o r es h _=>by
 unfold B8k at h;split at h
 ·cases h;exact A2 B3y Tryz.func99 (H7c _ _ _) trivial
 ·cases h
--@env udB B2q
def D6n:List KI:=(run udB false 3000 ((fun (l:List G1D)=>(⟨[.code (B7 Tryz.f128)],.normal,E4 Tryz.f128.ntmps [.v (.c (.sl (.g1 l))),.v (.c (.clo 99 []))]⟩:Cfg)) default) []).cfg.k
theorem iw (l:List G1D) (ho:A7 []):Sg Tryz.prog (E4 Tryz.f128.ntmps [.v (.c (.sl (.g1 l))),.v (.c (.clo 99 []))]) (A8 19 [0,1,7,8] [(.ci (.sl (Sq.g1 l))),(.ci (.clo 99 ([]:List (Prod Nat Nat)))),(.ii (l.length:Int)),.ii (0:Int)] [] [] 80 [] []) .normal (D6n) ([.code (B7 Tryz.f128)]):=fun hs hK=>
 A5 (unroll:=false) (n:=3000) (path:=[]) (o:=⟨_,_,_,_,_,_,_⟩) B2q (by kernel_rfl) (by kernel_rfl) ho hs hK
def iwS (l:List G1D) (i:Int):St:=A8 19 [0,1,7,8] [(.ci (.sl (Sq.g1 l))),(.ci (.clo 99 ([]:List (Prod Nat Nat)))),(.ii (l.length:Int)),.v (.c (.int .i64 i))] [] [] 80 [] []
theorem iwA (l:List G1D) (i:Int) (ho:A7 [((decide (i<(l.length:Int)))=true),(0<=i),(i<(l.length:Int)),((Bool.not (onG (List.getD l (i).toNat g10)))=false)]):Sg Tryz.prog (iwS l i) (A8 19 [0,1,7,8] [(.ci (.sl (Sq.g1 l))),(.ci (.clo 99 ([]:List (Prod Nat Nat)))),(.ii (l.length:Int)),(.ii (wrap .i64 (i+1)))] [] [] 256 [] []) .normal (N8 D6n) (E7 D6n):=fun hs hK=>
 A5 (unroll:=false) (n:=3000) (path:=[true,false]) (o:=⟨_,_,_,_,_,_,_⟩) B2q (by kernel_rfl) (by kernel_rfl) ho hs hK
theorem G1d (l:List G1D) (i:Int):I0 udB Tryz.f128 false 3000 (⟨E7 D6n,.normal,iwS l i⟩) [true,true] [] []=(some ([((decide (i<(l.length:Int)))=true),(0<=i),(i<(l.length:Int)),((Bool.not (onG (List.getD l (i).toNat g10)))=true)],((.ii i),[]))):=by kernel_rfl
theorem G2m (l:List G1D) (i:Int):I0 udB Tryz.f128 false 3000 (⟨E7 D6n,.normal,iwS l i⟩) [false] [] []=(some ([((decide (i<(l.length:Int)))=false)],((.ii (-1)),[]))):=by kernel_rfl
end
end

section

theorem E7j (l:List G1D) (hl:l.length<=1048576):FnD Tryz.prog 102 [.v (.c (.sl (.g1 l))),.v (.c (.clo 40 []))] (.v (.c (.sl (.pt (l.map inG))))) []:=by
 refine M9 (fn:=Tryz.f102) (c:=B7 Tryz.f102) Tryz.func102 rfl rfl fun x0 a0 hk hF hs=>?_
 refine ea l ⟨by omega,rfl,by omega,by omega,trivial⟩ hs fun ac cY aY hs1=>?_
 rw[Int.toNat_natCast] at hs1;refine F4 (ι:={ p:Nat×List (Fp×Fp×Fp) // p.1<=l.length∧p.2.length=l.length∧∀j,j<p.1->p.2.getD j pt0=inG (l.getD j g10) }) (fun p=>eaS l p.1.2 l.length (p.1.1:Int)) (fun p=>l.length-p.1.1) (c:=lpC E4b) (k:=lpR E4b) (by kernel_rfl) (fun p ih ac cY aY hs=>?_)
  ⟨(0,List.replicate l.length pt0),Nat.zero_le _,List.length_replicate,fun j hj=>absurd hj (Nat.not_lt_zero j)⟩ (hs1.nx _)
 obtain ⟨⟨i,L⟩,hi,hL,hg⟩:=p;simp only at ih hs hi hL hg
 by_cases h:i<l.length
 ·refine eaA l L l.length i ⟨decide_eq_true (by omega),by omega,by omega,by omega,by omega,rfl,by rw[Int.toNat_natCast];omega,trivial⟩ hs fun ac cU aU hs2=>?_
  rw[Int.toNat_natCast,B9 (n:=(i:Int)+1) (by omega) (by omega)] at hs2
  refine ih ⟨(i+1,L.set i (inG (l.getD i g10))),h,(List.length_set ..).trans hL,fun j hj=>?_⟩ (by show l.length-(i+1)<l.length-i;omega) ac cU aU (hs2.nx _)
  have hj:j<i+1:=hj;show (L.set i _).getD j pt0=_;rw[A4v _ _ _ _ _ (by omega)]
  by_cases e:j=i
  ·subst e;rw[if_pos rfl]
  ·rw[if_neg e];exact hg j (by omega)
 ·obtain rfl:i=l.length:=by omega
  have e:L=l.map inG:=by
   apply List.ext_getElem (by rw[hL,List.length_map])
   intro j h1 h2;have e:=hg j (by omega)
   rw[<-B6t inG l g10 pt0 (by omega),List.getD_eq_getElem?_getD,List.getD_eq_getElem?_getD,List.getElem?_eq_getElem h1,List.getElem?_eq_getElem h2] at e
   exact e
  subst e;exact K9 B3y hk hF (G2b l _ _ _) ⟨decide_eq_false (by omega),hL.symm,trivial⟩ (fun y v hd=>hd) hs

/-- Where the first one lies that is so. -/
def A7g (p:G1D->Bool):List G1D->Nat->Int
 | [],_=>-1
 | a::l,i=>if p a then (i:Int) else A7g p l (i+1)
theorem C3c (p:G1D->Bool):∀(l:List G1D) (i:Nat),decide (A7g p l i >= 0)=l.any p
 | [],_=>rfl
 | a::l,i=>by
  show decide ((if p a then (i:Int) else A7g p l (i+1)) >= 0)=(p a || l.any p)
  cases h:p a with
  | true=>rw[if_pos rfl,Bool.true_or];exact decide_eq_true (Int.natCast_nonneg i)
  | false=>rw[if_neg Bool.false_ne_true,Bool.false_or];exact C3c p l (i+1)
def A0s (a:G1D):Bool:=!(onG a)
theorem D6s (p:G1D->Bool) (l:List G1D) (i:Nat) (h:i<l.length):A7g p (l.drop i) i=if p (l.getD i g10) then (i:Int) else A7g p (l.drop (i+1)) (i+1):=by
 rw[List.drop_eq_getElem_cons h,List.getD_eq_getElem?_getD,List.getElem?_eq_getElem h];rfl
theorem E4f (l:List G1D):FnD Tryz.prog 128 [.v (.c (.sl (.g1 l))),.v (.c (.clo 99 []))] (.v (.c (.int .i64 (A7g A0s l 0)))) []:=by
 refine M9 (fn:=Tryz.f128) (c:=B7 Tryz.f128) Tryz.func128 rfl rfl fun x0 a0 hk hF hs=>?_
 have hlen:l.length<=maxLen:=by
  have h0:=hs.t 0;exact G4y h0
 have hmax:maxLen<=9223372036854775807:=by decide
 refine iw l trivial hs fun ac cY aY hs1=>?_
 refine F4 (ι:={ i:Nat // i<=l.length∧A7g A0s (l.drop i) i=A7g A0s l 0 }) (fun i=>iwS l (i.1:Int)) (fun i=>l.length-i.1) (c:=lpC D6n) (k:=lpR D6n) (by kernel_rfl) (fun i ih ac cY aY hs=>?_) ⟨0,Nat.zero_le _,by rw[List.drop_zero]⟩ (hs1.nx _)
 obtain ⟨i,hi,he⟩:=i;simp only at ih hs
 by_cases h:i<l.length
 ·rw[D6s _ _ _ h] at he
  cases ho:A0s (l.getD i g10) with
  | true=>
   rw[ho,if_pos rfl] at he;rw[<-he];exact K9 B2q hk hF (G1d l i) ⟨decide_eq_true (by omega),by omega,by omega,by rw[Int.toNat_natCast];exact ho,trivial⟩ (fun y v hd=>hd) hs
  | false=>
   rw[ho,if_neg Bool.false_ne_true] at he;refine iwA l i ⟨decide_eq_true (by omega),by omega,by omega,by rw[Int.toNat_natCast];exact ho,trivial⟩ hs fun ac cU aU hs2=>?_
   rw[B9 (n:=(i:Int)+1) (by omega) (by omega)] at hs2
   exact ih ⟨i+1,h,he⟩ (by show l.length-(i+1)<l.length-i;omega) ac cU aU (hs2.nx _)
 ·obtain rfl:i=l.length:=by omega
  rw[List.drop_length] at he;rw[<-he];exact K9 B2q hk hF (G2m l _) ⟨decide_eq_false (by omega),trivial⟩ (fun y v hd=>hd) hs

end

section

def C0j:B1
 | [.v (.c (.sl (.g1 l))),.v (.c (.clo 40 []))]=>some ([l.length<=1048576],.v (.c (.sl (.pt (l.map inG)))),[])
 | _=>none
def ueA:Env:=udB.set (C7 udB.fn 102 C0j)
theorem G8t:A6 Tryz.prog ueA:=A4 B2q 102 C0j (A3 Tryz.func102 rfl rfl) fun args o r es h ho=>by
 unfold C0j at h;split at h
 ·cases h;exact E7j _ ho.1
 ·cases h
def B2k:B1
 | [.v (.c (.sl (.g1 l))),.v (.c (.clo 99 []))]=>some ([],.v (.c (.int .i64 (A7g A0s l 0))),[])
 | _=>none
def ueB:Env:=ueA.set (C7 ueA.fn 128 B2k)
theorem G7x:A6 Tryz.prog ueB:=A4 G8t 128 B2k (A3 Tryz.func128 rfl rfl) fun args o r es h _=>by
 unfold B2k at h;split at h
 ·cases h;exact E4f _
 ·cases h
def B4c:B1
 | [.v (.c (.int .i64 a)),.v (.c (.int .i64 b)),.v (.c (.bool w))]=>some ([],.v (.c (.int .i64 (A2e a b w))),[])
 | _=>none
def ueC:Env:=ueB.set (C7 ueB.fn 100 B4c)
theorem G6p:A6 Tryz.prog ueC:=A4 G7x 100 B4c (A3 Tryz.func100 rfl rfl) fun args o r es h _=>by
 unfold B4c at h;split at h
 ·cases h;exact E3f _ _ _
 ·cases h
def ueD:Env:=ueC
theorem F4n:A6 Tryz.prog ueD:=G6p
theorem cfR (l:List G1D):B2 ueD Tryz.f98 3000 [.v (.c (.sl (.g1 l))),.v (.c (.clo 99 []))] [] [] []=(some ([],((.ci (.bool (decide ((A7g A0s l 0) >= (0:Int))))),[]))):=by kernel_rfl
theorem C8m (l:List G1D):FnD Tryz.prog 98 [.v (.c (.sl (.g1 l))),.v (.c (.clo 99 []))] (.v (.c (.bool (l.any A0s)))) []:=by
 have r:=cfR l;rw[C3c] at r;exact A2 F4n Tryz.func98 r trivial
def A3i:B1
 | [.v (.c (.sl (.g1 l))),.v (.c (.clo 99 []))]=>some ([],.v (.c (.bool (l.any A0s))),[])
 | _=>none
def ueE:Env:=ueD.set (C7 ueD.fn 98 A3i)
theorem C7a:A6 Tryz.prog ueE:=A4 F4n 98 A3i (A3 Tryz.func98 rfl rfl) fun args o r es h _=>by
 unfold A3i at h;split at h
 ·cases h;exact C8m _
 ·cases h
--@env ueE C7a
theorem s1A (l:List G1D) (k:List U4):B2 ueE Tryz.f54 3000 [.v (.c (.sl (.g1 l))),.v (.c (.sl (.fr k)))] [true] [] []=(some ([(((A2e (l.length:Int) (k.length:Int) (List.any l A0s)) != (0:Int))=true)],((.t [(.a [(.ob (.fp (0:U6))),(.ob (.fp (0:U6))),(.lit false)]),(.c (.int .i64 (A2e (l.length:Int) (k.length:Int) (List.any l A0s))))]),[]))):=by kernel_rfl
theorem s1B (l:List G1D) (k:List U4):B2 ueE Tryz.f54 3000 [.v (.c (.sl (.g1 l))),.v (.c (.sl (.fr k)))] [false] [] []=(some ([(((A2e (l.length:Int) (k.length:Int) (List.any l A0s)) != (0:Int))=false),(l.length<=1048576),(k.length=(List.map inG l).length),((List.map inG l).length<=4096)],((.t [(.a [(.ob (.fp (G1D.x (Z5 (smJ 52 pt0 (List.map inG l) k))))),(.ob (.fp (G1D.y (Z5 (smJ 52 pt0 (List.map inG l) k))))),(.bool (G1D.inf (Z5 (smJ 52 pt0 (List.map inG l) k))))]),(.c (.int .i64 (0:Int)))]),[]))):=by kernel_rfl
end

section

/-- What Sum1 tells. -/
def B4g (l:List G1D) (k:List U4):G1D×Int:=
 if A2e (l.length:Int) (k.length:Int) (l.any A0s)=0 then (Z5 (smJ 52 pt0 (l.map inG) k),0) else (g10,A2e (l.length:Int) (k.length:Int) (l.any A0s))
theorem E1u {l:List G1D} {k:List U4} (h:A2e (l.length:Int) (k.length:Int) (l.any A0s)=0):B4g l k=(Z5 (smJ 52 pt0 (l.map inG) k),0):=if_pos h
theorem F8h {l:List G1D} {k:List U4} (h:¬A2e (l.length:Int) (k.length:Int) (l.any A0s)=0):B4g l k=(g10,A2e (l.length:Int) (k.length:Int) (l.any A0s)):=if_neg h
theorem F2p (l:List G1D) (k:List U4):FnD Tryz.prog 54 [.v (.c (.sl (.g1 l))),.v (.c (.sl (.fr k)))] (.t [.a (B4g l k).1.its,.c (.int .i64 (B4g l k).2)]) []:=by
 by_cases h:A2e (l.length:Int) (k.length:Int) (l.any A0s)=0
 ·rw[E1u h]
  obtain ⟨h1,h2,h3⟩:=D1n h;exact A2 C7a Tryz.func54 (s1B l k) ⟨by rw[h];rfl,by omega,by rw[List.length_map];omega,by rw[List.length_map];omega,trivial⟩
 ·rw[F8h h]
  exact (A2 C7a Tryz.func54 (s1A l k) ⟨by simpa using h,trivial⟩).conv (fun _ _ h=>h) fun y v hd=>A5v hd

theorem G9k {N:Nat} (hN:N=52) {l:List G1D} {k:List U4} (hl:k.length=l.length) (ho:l.any A0s=false):Z5 (smJ N pt0 (l.map inG) k)=gP (C2r (k.map (·.val)) (l.map pG)):=by
 have hon:∀a,a∈l->onG a=true:=fun a ha=>by
  rw[List.any_eq_false] at ho;have:=ho a ha
  unfold A0s at this;simpa using this
 cases k with
 | nil=>
  have e:l=[]:=List.length_eq_zero_iff.1 hl.symm;subst e;exact B1l (P:=none) (rfl:(0:Fp)=0)
 | cons x k=>
  have hm:smJ N pt0 (l.map inG) (x::k)=alN pt0 (l.map inG) (C2e N ((x::k).map (·.val))) N N:=rfl;rw[hm];refine B1l (F2e hN cv1 pt0 rfl (by rw[List.length_map,List.length_map]) (fun P hP=>?_) (fun i hi=>?_) (by rw[List.length_map,List.length_map];exact hl) (fun v hv=>?_))
  ·obtain ⟨a,ha,rfl⟩:=List.mem_map.1 hP
   exact (A0v (hon a ha)).2
  ·rw[List.length_map] at hi
   rw[B6t pG l g10 none hi,B6t inG l g10 pt0 hi];exact B3l _
  ·obtain ⟨u,_,rfl⟩:=List.mem_map.1 hv
   exact E8j u

end

section

def uzC:Env:=uzB.or ueE
theorem G5b:A6 Tryz.prog uzC:=A4j J3 C7a
def B8a:B1
 | [.v (.c (.sl (.g1 l))),.v (.c (.sl (.fr k)))]=>some ([],.t [.a (B4g l k).1.its,.c (.int .i64 (B4g l k).2)],[])
 | _=>none
def uzD:Env:=uzC.set (C7 uzC.fn 54 B8a)
theorem H0c:A6 Tryz.prog uzD:=A4 G5b 54 B8a (A3 Tryz.func54 rfl rfl) fun args o r es h _=>by
 unfold B8a at h;split at h
 ·cases h;exact F2p _ _
 ·cases h
def A7z:B1
 | [.v (.c (.sl (.g1 la))),.v (.c (.sl (.g2 lb)))]=>some ([],.t [.c (.bool (pcD la lb).1),.c (.int .i64 (pcD la lb).2)],[])
 | _=>none
def uzE:Env:=uzD.set (C7 uzD.fn 18 A7z)
theorem D5t:A6 Tryz.prog uzE:=A4 H0c 18 A7z (A3 Tryz.func18 rfl rfl) fun args o r es h _=>by
 unfold A7z at h;split at h
 ·cases h;exact D7r _ _
 ·cases h
--@env uzE D5t
theorem ksm  : B2 uzE Tryz.f103 3000 [.v (.c (.int .u64 1))] [] [] []=(some ([(0<=(1:Int)),((1:Int)<(18446744073709551616:Int)),(0<=(0:Int)),(0<(18446744073709551616:Int)),(0<=(0:Int)),(0<(18446744073709551616:Int)),(0<=(0:Int)),(0<(18446744073709551616:Int))],((.v (.a [(.ob (.s (S4.inF (Fin.ofNat B4 1))))])),[]))):=by kernel_rfl
theorem G2a {n:Int} (h:n=1):FnD Tryz.prog 103 [.v (.c (.int .u64 n))] (.v (.a [.ob (.s 1)])) []:=by
 subst h;have r:=ksm;rw[show S4.inF (Fin.ofNat B4 1)=1 from by decide +kernel] at r
 exact A2 D5t Tryz.func103 r ⟨by decide,by decide,by decide,by decide,by decide,by decide,by decide,by decide,trivial⟩
def C5t:B1
 | [.v (.c (.int .u64 n))]=>some ([n=1],.v (.a [.ob (.s 1)]),[])
 | _=>none
def uzF:Env:=uzE.set (C7 uzE.fn 103 C5t)
theorem C6t:A6 Tryz.prog uzF:=A4 D5t 103 C5t (A3 Tryz.func103 rfl rfl) fun args o r es h ho=>by
 unfold C5t at h;split at h
 ·cases h;exact G2a ho.1
 ·cases h
--@env uzF C6t
theorem ksl  : B2 uzF Tryz.f55 3000 [.v (.c (.int .i64 1))] [false] [] []=(some ([((decide ((1:Int)<(0:Int)))=false),((1:Int)=(1:Int))],((.v (.a [(.ob (.fr (S4.H8 (1:Fr))))])),[]))):=by kernel_rfl
theorem G0k {n:Int} (h:n=1):FnD Tryz.prog 55 [.v (.c (.int .i64 n))] (.v (.a [.ob (.fr (S4.H8 1))])) []:=by
 subst h;exact A2 C6t Tryz.func55 ksl ⟨by decide,rfl,trivial⟩
def C5p:B1
 | [.v (.c (.int .i64 n))]=>some ([n=1],.v (.a [.ob (.fr (S4.H8 1))]),[])
 | _=>none
def uzG:Env:=uzF.set (C7 uzF.fn 55 C5p)
theorem H1b:A6 Tryz.prog uzG:=A4 C6t 55 C5p (A3 Tryz.func55 rfl rfl) fun args o r es h ho=>by
 unfold C5p at h;split at h
 ·cases h;exact G0k ho.1
 ·cases h
theorem ngF (k:U4):B2 uzF Tryz.f19 3000 [.v (.a [.ob (.fr k)])] [] [] []=(some ([],((.v (.a [(.ob (.fr (S4.H8 ((0:Fr)-(S4.inF k)))))])),[]))):=by kernel_rfl
theorem F6v (k:U4):FnD Tryz.prog 19 [.v (.a [.ob (.fr k)])] (.v (.a [.ob (.fr (S4.H8 (0-S4.inF k)))])) []:=A2 C6t Tryz.func19 (ngF k) trivial
def C7i:B1
 | [.v (.a [.ob (.fr k)])]=>some ([],.v (.a [.ob (.fr (S4.H8 (0-S4.inF k)))]),[])
 | _=>none
def uzH:Env:=uzG.set (C7 uzG.fn 19 C7i)
theorem A3h:A6 Tryz.prog uzH:=A4 H1b 19 C7i (A3 Tryz.func19 rfl rfl) fun args o r es h _=>by
 unfold C7i at h;split at h
 ·cases h;exact F6v _
 ·cases h
--@env uzH A3h
theorem kcA (s:G2D) (a b:G1D) (k l:U4):B2 uzH Tryz.f20 3000 [.v (.a s.its),.v (.a [.ob (.fp a.x),.ob (.fp a.y),.bool a.inf,.ob (.fr k),.ob (.fr l),.ob (.fp b.x),.ob (.fp b.y),.bool b.inf])] [true,true] [] []=(some ([((Bool.not (onG a))=true)],((.t [(.c (.lit false)),(.c (.int .i64 (30:Int)))]),[]))):=by kernel_rfl
theorem kcB (s:G2D) (a b:G1D) (k l:U4):B2 uzH Tryz.f20 3000 [.v (.a s.its),.v (.a [.ob (.fp a.x),.ob (.fp a.y),.bool a.inf,.ob (.fr k),.ob (.fr l),.ob (.fp b.x),.ob (.fp b.y),.bool b.inf])] [false,true] [] []=(some ([((Bool.not (onG a))=false),((Bool.not (onG b))=true)],((.t [(.c (.lit false)),(.c (.int .i64 (30:Int)))]),[]))):=by kernel_rfl
theorem kcC (s:G2D) (a b:G1D) (k l:U4):B2 uzH Tryz.f20 3000 [.v (.a s.its),.v (.a [.ob (.fp a.x),.ob (.fp a.y),.bool a.inf,.ob (.fr k),.ob (.fr l),.ob (.fp b.x),.ob (.fp b.y),.bool b.inf])] [false,false,true] [] []=(some ([((Bool.not (onG a))=false),((Bool.not (onG b))=false),((Bool.not (I3 s))=true)],((.t [(.c (.lit false)),(.c (.int .i64 (30:Int)))]),[]))):=by kernel_rfl
theorem kcD (s:G2D) (a b:G1D) (k l:U4):B2 uzH Tryz.f20 3000 [.v (.a s.its),.v (.a [.ob (.fp a.x),.ob (.fp a.y),.bool a.inf,.ob (.fr k),.ob (.fr l),.ob (.fp b.x),.ob (.fp b.y),.bool b.inf])] [false,false,false,true,true] [] []=(some ([((Bool.not (onG a))=false),((Bool.not (onG b))=false),((Bool.not (I3 s))=false),((Bool.not (grp a))=true)],((.t [(.c (.lit false)),(.c (.int .i64 (31:Int)))]),[]))):=by kernel_rfl
theorem kcE (s:G2D) (a b:G1D) (k l:U4):B2 uzH Tryz.f20 3000 [.v (.a s.its),.v (.a [.ob (.fp a.x),.ob (.fp a.y),.bool a.inf,.ob (.fr k),.ob (.fr l),.ob (.fp b.x),.ob (.fp b.y),.bool b.inf])] [false,false,false,false,true] [] []=(some ([((Bool.not (onG a))=false),((Bool.not (onG b))=false),((Bool.not (I3 s))=false),((Bool.not (grp a))=false),((Bool.not (grp b))=true)],((.t [(.c (.lit false)),(.c (.int .i64 (31:Int)))]),[]))):=by kernel_rfl
theorem kcF (s:G2D) (a b:G1D) (k l:U4):B2 uzH Tryz.f20 3000 [.v (.a s.its),.v (.a [.ob (.fp a.x),.ob (.fp a.y),.bool a.inf,.ob (.fr k),.ob (.fr l),.ob (.fp b.x),.ob (.fp b.y),.bool b.inf])] [false,false,false,false,false,true] [] []=(some ([((Bool.not (onG a))=false),((Bool.not (onG b))=false),((Bool.not (I3 s))=false),((Bool.not (grp a))=false),((Bool.not (grp b))=false),((Bool.not (A0i s))=true)],((.t [(.c (.lit false)),(.c (.int .i64 (31:Int)))]),[]))):=by kernel_rfl
theorem kcI (s:G2D) (a b:G1D) (k l:U4):B2 uzH Tryz.f20 3000 [.v (.a s.its),.v (.a [.ob (.fp a.x),.ob (.fp a.y),.bool a.inf,.ob (.fr k),.ob (.fr l),.ob (.fp b.x),.ob (.fp b.y),.bool b.inf])] [false,false,false,false,false,false,false,false] [] []=(some ([((Bool.not (onG a))=false),((Bool.not (onG b))=false),((Bool.not (I3 s))=false),((Bool.not (grp a))=false),((Bool.not (grp b))=false),((Bool.not (A0i s))=false),((1:Int)=(1:Int)),(0=0),(3=(([a]++[M4])++[b]).length),(13=13),(0=0),(3=(([(S4.H8 (1:Fr))]++[(S4.H8 ((0:Fr)-(S4.inF l)))])++[(S4.H8 (S4.inF k))]).length),(4=4),(((Prod.snd (B4g (([a]++[M4])++[b]) (([(S4.H8 (1:Fr))]++[(S4.H8 ((0:Fr)-(S4.inF l)))])++[(S4.H8 (S4.inF k))]))) != (0:Int))=false),(((Prod.snd (neR b)) != (0:Int))=false),(0=0),(2=([(Prod.fst (B4g (([a]++[M4])++[b]) (([(S4.H8 (1:Fr))]++[(S4.H8 ((0:Fr)-(S4.inF l)))])++[(S4.H8 (S4.inF k))])))]++[(Prod.fst (neR b))]).length),(13=13),(0=0),(2=([O5]++[s]).length),(25=25)],((.t [(.c (.bool (Prod.fst (pcD ([(Prod.fst (B4g (([a]++[M4])++[b]) (([(S4.H8 (1:Fr))]++[(S4.H8 ((0:Fr)-(S4.inF l)))])++[(S4.H8 (S4.inF k))])))]++[(Prod.fst (neR b))]) ([O5]++[s]))))),(.c (.int .i64 (Prod.snd (pcD ([(Prod.fst (B4g (([a]++[M4])++[b]) (([(S4.H8 (1:Fr))]++[(S4.H8 ((0:Fr)-(S4.inF l)))])++[(S4.H8 (S4.inF k))])))]++[(Prod.fst (neR b))]) ([O5]++[s])))))]),[]))):=by kernel_rfl
end

section

/-- 1 outside. -/
def H3s:V12:=⟨⟨(Fin.ofNat B6 1,0),(0,0),(0,0)⟩,⟨(0,0),(0,0),(0,0)⟩⟩
end

section

theorem F1o {P:Pt Fp} (hP:OnC fp4 P):grp (gP P)=decide (G4 P rN=none):=by
 unfold grp;rw[B8z hP,Bool.true_and];have h:=D4r cv1 hP (D9u P ▸ B3l (gP P)) (dgT 52435875175126190479447740508185965837690552500527637822603658699938581184513 64);rw[E1h] at h;generalize (dgT 52435875175126190479447740508185965837690552500527637822603658699938581184513 64)=t at h ⊢
 exact h

end

section

theorem E0w {P:Pt F2} (hP:OnC fq4 P):A0i (gP2 P)=decide (G4 P rN=none):=by
 unfold A0i;rw[D0a hP,Bool.true_and];have h:=D4r cv2 hP (D6b P ▸ B6j (gP2 P)) (dgT 52435875175126190479447740508185965837690552500527637822603658699938581184513 64);rw[E1h] at h;generalize (dgT 52435875175126190479447740508185965837690552500527637822603658699938581184513 64)=t at h ⊢
 exact h

end

section

theorem E1q:nQ2 ((1,1):F2)=Fin.ofNat pN 2:=by decide +kernel
theorem C8h:(Fin.ofNat pN 2).val=2:=by decide +kernel
theorem F2o:B1j pN 2 384 ((pN-1) / 3)≠1:=by decide +kernel
theorem E6v:B1j pN 2 384 ((pN-1) / 2)≠1:=by decide +kernel
theorem D8o (x:F2):x*x*x≠Nrs.xi:=by
 intro h;have h:x*x*x=(1,1):=h;have h:=congrArg nQ2 h;rw[E1q,B0e,B0e] at h;refine C5w _ (fun e=>?_) (fun e=>?_) (nQ2 x) h
 ·have:=congrArg Fin.val e
  rw[A3n _ 384 _ B9e,C8h,A3f] at this;exact F2o this
 ·have:=congrArg Fin.val e
  rw[C8h] at this;revert this
  decide +kernel
theorem C2k (x:Fp):x*x≠Fin.ofNat pN 2:=by
 intro h;by_cases hx:x=0
 ·rw[hx] at h
  exact absurd (congrArg Fin.val h) (by decide +kernel)
 ·have e:=D8d x ((pN-1) / 2)
  rw[<-D3g,A5k x hx,h] at e;have:=congrArg Fin.val e
  rw[A3n _ 384 _ E1s,C8h,A3f] at this;exact E6v this
section
variable {R:Type} [Fld R] [Nrs R]
theorem E2z (x y:E3 R):Z9 (x*y)=Z9 x*Z9 y:=by
 unfold Z9 Y8;simp only[E3.mul_a,E3.mul_b,E3.mul_c];generalize x.a=a;generalize x.b=b;generalize x.c=c;generalize y.a=d;generalize y.b=e;generalize y.c=f;grind
end
theorem D3w (t:F6):t*t≠Nrs.xi:=by
 intro h;have h:=congrArg Z9 h;rw[E2z] at h;have e:Z9 (Nrs.xi:F6)=(1,1):=by decide +kernel
 rw[e] at h;have h:=congrArg nQ2 h;rw[E1q,B0e] at h;exact C2k _ h
@[reducible] instance fldF6:Fld F6:=H1g D8o
@[reducible] instance fldF12:Fld F12:=H1v D3w
end

section

section
variable {G:Type} [J9 G]
theorem A4o (x y:G):∀n,A9 (x*y) n=A9 x n*A9 y n
 | 0=>by show (1:G)=1*1;grind
 | n+1=>by
  show A9 (x*y) n*(x*y)=A9 x n*x*(A9 y n*y);rw[A4o x y n];grind
theorem N3 (x:G) (m:Nat):∀n,A9 x (m*n)=A9 (A9 x m) n
 | 0=>rfl
 | n+1=>by
  rw[Nat.mul_succ,P7,N3 x m n];rfl
def gst (a o:G) (z:Bool):G:=if z=true then o*o*a else o*o
theorem D7n (a:G):∀(l:List Bool) (n:Nat),l.foldl (gst a) (A9 a n)=A9 a (l.foldl nst n)
 | [],_=>rfl
 | z::l,n=>by
  show l.foldl (gst a) (gst a (A9 a n) z)=A9 a (l.foldl nst (nst n z));rw[<-D7n a l (nst n z)];congr 1
  cases z with
  | true=>
   show A9 a n*A9 a n*a=A9 a (n+n)*a;rw[P7]
  | false=>
   show A9 a n*A9 a n=A9 a (n+n);rw[P7]
end

theorem B7q:∀k:Nat,(nc k:F12)=⟨⟨(Fin.ofNat pN k,0),0,0⟩,0⟩
 | 0=>rfl
 | k+1=>by
  show nc k+1=_;rw[B7q k,B6v,H4q];refine E2.ext' (E3.ext' (G6 rfl ?_) ?_ ?_) ?_
  ·show (0:Fp)+0=0;rfl
  ·show (0:F2)+0=0;rfl
  ·show (0:F2)+0=0;rfl
  ·show (0:F6)+0=0;rfl
theorem H0o:Fin.ofNat pN pN=0:=by decide +kernel
theorem F0r (p:Nat) (hp:1<=p) (h0:(nc p:F12)=0) (h1:∀k,0<k->k<p->(nc k:F12)≠0) (x y:F12):A9 (x+y) p=A9 x p+A9 y p:=H2k (G:=F12) hp h0 h1 x y
theorem E0i (x y:F12):A9 (x+y) pN=A9 x pN+A9 y pN:=by
 refine F0r pN (by decide +kernel) ?_ (fun k h1 h2 h=>?_) x y
 ·rw[B7q,H0o];rfl
 ·rw[B7q] at h
  have h:(⟨⟨(Fin.ofNat pN k,0),0,0⟩,0⟩:F12).a.a.1.val=(0:F12).a.a.1.val:=by rw[h]
  have h3:k % pN=0:=h;exact absurd ((Nat.mod_eq_of_lt h2).symm.trans h3) (Nat.ne_of_gt h1)
theorem G5l:A9 ((1,1):F2) ((pN-1) / 6)=tur 1:=by
 have h:=D7n ((1,1):F2) (btL ((pN-1) / 6) 384 384) 0;have e:(btL ((pN-1) / 6) 384 384).foldl nst 0=(pN-1) / 6:=by decide +kernel
 rw[e] at h;rw[<-h];decide +kernel
end

set_option linter.unusedSimpArgs false
set_option linter.unusedSectionVars false
section

def i2 (z:F2):F12:=⟨⟨z,0,0⟩,0⟩
def eV:F12:=⟨⟨0,1,0⟩,0⟩
def eW:F12:=⟨0,1⟩
section
variable {R:Type} [J9 R] [Nrs R]
theorem G4n (x y:R):(⟨x,0,0⟩:E3 R)*⟨y,0,0⟩=⟨x*y,0,0⟩:=by
 refine E3.ext' ?_ ?_ ?_
 all_goals
  simp only[E3.mul_a,E3.mul_b,E3.mul_c]<;>grind
theorem G9g (x y:R):(⟨x,0,0⟩:E3 R)+⟨y,0,0⟩=⟨x+y,0,0⟩:=by
 refine E3.ext' ?_ ?_ ?_
 all_goals
  simp only[E3.add_a,E3.add_b,E3.add_c]<;>grind
theorem C5o (x y:R):(⟨x,0⟩:E2 R)*⟨y,0⟩=⟨x*y,0⟩:=by
 refine E2.ext' ?_ ?_
 all_goals
  simp only[E2.mul_a,E2.mul_b]<;>grind
theorem D8t (x y:R):(⟨x,0⟩:E2 R)+⟨y,0⟩=⟨x+y,0⟩:=by
 refine E2.ext' ?_ ?_
 all_goals
  simp only[E2.add_a,E2.add_b]<;>grind
theorem G4g (x:E2 R):x=(⟨x.a,0⟩:E2 R)+⟨x.b,0⟩*⟨0,1⟩:=by
 refine E2.ext' ?_ ?_
 all_goals
  simp only[E2.add_a,E2.add_b,E2.mul_a,E2.mul_b]<;>grind
theorem G6q (x:E3 R):x=(⟨x.a,0,0⟩:E3 R)+⟨x.b,0,0⟩*⟨0,1,0⟩+⟨x.c,0,0⟩*(⟨0,1,0⟩*⟨0,1,0⟩):=by
 refine E3.ext' ?_ ?_ ?_
 all_goals
  simp only[E3.add_a,E3.add_b,E3.add_c,E3.mul_a,E3.mul_b,E3.mul_c]<;>grind
end
theorem F4a (x y:F2):i2 (x+y)=i2 x+i2 y:=by
 unfold i2;rw[D8t,G9g]
theorem C0z (x y:F2):i2 (x*y)=i2 x*i2 y:=by
 unfold i2;rw[C5o,G4n]
theorem A9n (x:F2):∀n,A9 (i2 x) n=i2 (A9 x n)
 | 0=>rfl
 | n+1=>by
  show A9 (i2 x) n*i2 x=i2 (A9 x n*x);rw[A9n x n,C0z]
theorem up6 (x:F6):(⟨x,0⟩:F12)=i2 x.a+i2 x.b*eV+i2 x.c*(eV*eV):=by
 unfold i2 eV;rw[C5o,C5o,C5o,D8t,D8t,<-G6q]
theorem G3d (x:F12):x=(i2 x.a.a+i2 x.a.b*eV+i2 x.a.c*(eV*eV))+(i2 x.b.a+i2 x.b.b*eV+i2 x.b.c*(eV*eV))*eW:=by
 rw[<-up6,<-up6];exact G4g x
theorem H3n (p:Nat) (dr:∀x y:F12,A9 (x+y) p=A9 x p+A9 y p) (h2:∀z:F2,A9 z p=cj2 z) (hV:A9 eV p=i2 (tur 2)*eV) (hW:A9 eW p=i2 (tur 1)*eW) (t4:tur 2*tur 2=tur 4) (t3:tur 2*tur 1=tur 3) (t5:tur 4*tur 1=tur 5) (x:F12):A9 x p=frb x:=by
 have e:=G3d x;have e2:=G3d (frb x);rw[e2];show A9 x p=(i2 (cj2 x.a.a)+i2 (cj2 x.a.b*tur 2)*eV+i2 (cj2 x.a.c*tur 4)*(eV*eV))+(i2 (cj2 x.b.a*tur 1)+i2 (cj2 x.b.b*tur 3)*eV+i2 (cj2 x.b.c*tur 5)*(eV*eV))*eW;rw[<-t4,<-t3,<-t5,<-t4];have k:A9 x p=A9 ((i2 x.a.a+i2 x.a.b*eV+i2 x.a.c*(eV*eV))+(i2 x.b.a+i2 x.b.b*eV+i2 x.b.c*(eV*eV))*eW) p:=congrArg (fun y=>A9 y p) e
 rw[k];simp only[dr,A4o,A9n,h2,hV,hW,C0z];generalize i2 (cj2 x.a.a)=a1;generalize i2 (cj2 x.a.b)=a2;generalize i2 (cj2 x.a.c)=a3;generalize i2 (cj2 x.b.a)=a4;generalize i2 (cj2 x.b.b)=a5;generalize i2 (cj2 x.b.c)=a6;generalize i2 (tur 1)=s;generalize i2 (tur 2)=t;generalize eV=v;generalize eW=w;clear e e2 k dr h2 hV hW t4 t3 t5;grind
theorem G0s:tur 2*tur 2=tur 4:=by decide +kernel
theorem F8p:tur 2*tur 1=tur 3:=by decide +kernel
theorem F6x:tur 4*tur 1=tur 5:=by decide +kernel
theorem F9n:tur 1*tur 1=tur 2:=by decide +kernel
theorem G3b:eW*eW=eV:=by decide +kernel
theorem H3i:eV*eV*eV=i2 (1,1):=by decide +kernel
section
variable {r:Nat} [NeZero r]
theorem G6h (a:Fin r):∀n,A9 ((a,0):Q2 r) n=(pw a n,0)
 | 0=>rfl
 | n+1=>by
  show A9 ((a,0):Q2 r) n*(a,0)=(pw a n*a,0);rw[G6h a n];exact G6 (by show pw a n*a-0*0=pw a n*a;grind) (by show pw a n*0+0*a=0;grind)
theorem H2w (x:Q2 r):x=(x.1,0)+(x.2,0)*(0,1):=G6 (by show x.1=x.1+(x.2*0-0*1);grind) (by show x.2=0+(x.2*1+0*0);grind)
theorem H6h (x:Q2 r):(x.1,0)+(x.2,0)*(0,0-1)=(x.1,0-x.2):=G6 (by show x.1+(x.2*0-0*(0-1))=x.1;grind) (by show 0+(x.2*(0-1)+0*0)=0-x.2;grind)
end
theorem E4x:∀n,pw (0:Fp) (n+1)=0:=fun n=>by show pw (0:Fp) n*0=0;grind
theorem B6o (a:Fp):pw a pN=a:=by
 have e:pN=pN-1+1:=by decide +kernel
 refine (congrArg (pw a) e).trans ?_
 by_cases h:a=0
 ·rw[h];exact E4x _
 ·show pw a (pN-1)*a=a
  rw[A5k a h];grind
theorem H1i:A9 ((0,1):F2) pN=(0,0-1):=by
 have h:=D7n ((0,1):F2) (btL pN 384 384) 0;have e:(btL pN 384 384).foldl nst 0=pN:=by decide +kernel
 rw[e] at h;refine h.symm.trans ?_
 decide +kernel
theorem F6o (z:F2):A9 z pN=cj2 z:=by
 have h:i2 (A9 z pN)=i2 (cj2 z):=by
  rw[<-A9n];have e:i2 z=i2 (z.1,0)+i2 (z.2,0)*i2 (0,1):=by rw[<-C0z,<-F4a];exact congrArg i2 (H2w z)
  have k:A9 (i2 z) pN=A9 (i2 (z.1,0)+i2 (z.2,0)*i2 (0,1)) pN:=congrArg (fun y=>A9 y pN) e
  refine k.trans ((E0i _ _).trans ?_)
  rw[A4o,A9n,A9n,A9n,G6h,G6h,H1i,B6o,B6o,<-C0z,<-F4a];exact congrArg i2 (H6h z)
 exact congrArg (fun x:F12=>x.a.a) h
theorem H2l:pN=6*((pN-1) / 6)+1:=by decide +kernel
section
variable {G:Type} [J9 G]
theorem F0t (g:G):A9 g 6=g*g*(g*g)*(g*g):=by
 show 1*g*g*g*g*g*g=_;grind
theorem D1a (g:G):A9 g 1=g:=by
 show 1*g=g;grind
end
theorem G4l:A9 eW 6=i2 (1,1):=by rw[F0t,G3b,H3i]
theorem E7w:A9 eW pN=i2 (tur 1)*eW:=by
 refine (congrArg (A9 eW) H2l).trans ?_
 rw[P7,N3,G4l,A9n,G5l,D1a]
theorem G4t:A9 eV pN=i2 (tur 2)*eV:=by
 rw[<-G3b,A4o,E7w,<-F9n,C0z];generalize i2 (tur 1)=t;generalize eW=w;grind
/-- Frob is the power of p. -/
theorem Z7 (x:F12):A9 x pN=frb x:=H3n pN E0i F6o G4t E7w G0s F8p F6x x
end

set_option linter.unusedSectionVars false
section

theorem A4y (x:F12):cjp x=cj x:=by
 refine E2.ext' rfl ?_
 show (0:F6)-x.b = -x.b;generalize x.b=b;grind
theorem C8q (x y:F12):cjp (x*y)=cjp x*cjp y:=by rw[A4y,A4y,A4y];exact F0u x y
theorem E1r (x:F12):cjp (cjp x)=x:=by rw[A4y,A4y];exact H1z x
theorem E0v:cjp 1=1:=by rw[A4y];exact E7g
theorem F7x (x y:F12):frb (x*y)=frb x*frb y:=by rw[<-Z7,<-Z7,<-Z7,A4o]
section
variable {r:Nat} [NeZero r]
theorem G5k (z t:Q2 r):((((z.1,0-z.2):Q2 r)*t).1,0-(((z.1,0-z.2):Q2 r)*t).2)*t=z*((t.1,0-t.2)*t):=by
 refine G6 ?_ ?_
 ·simp only[C2o,C2h];grind
 ·simp only[C2o,C2h];grind
theorem E8y (z:Q2 r):((z.1,0-(0-z.2)):Q2 r)=z:=G6 rfl (by show 0-(0-z.2)=z.2;grind)
theorem B7d (z:Q2 r):z*(1,0)=z:=G6 (by show z.1*1-z.2*0=z.1;grind) (by show z.1*0+z.2*1=z.2;grind)
theorem A8d (z:Q2 r):z*(0-1,0)=0-z:=G6 (by show z.1*(0-1)-z.2*0=0-z.1;grind) (by show z.1*0+z.2*(0-1)=0-z.2;grind)
theorem A4w (z a:Q2 r):z*a*a*a=z*(a*a*a):=by grind
end
def frT (t1 t2 t3 t4 t5:F2) (x:F12):F12:=⟨⟨cj2 x.a.a,cj2 x.a.b*t2,cj2 x.a.c*t4⟩,⟨cj2 x.b.a*t1,cj2 x.b.b*t3,cj2 x.b.c*t5⟩⟩
def frS (t1 t2 t3 t4 t5:F2) (x:F12):F12:=⟨⟨x.a.a,x.a.b*t2,x.a.c*t4⟩,⟨x.b.a*t1,x.b.b*t3,x.b.c*t5⟩⟩
theorem D5h (z t:F2):cj2 (cj2 z*t)*t=z*(cj2 t*t):=G5k z t
theorem G0c (t1 t2 t3 t4 t5:F2) (x:F12):frT t1 t2 t3 t4 t5 (frT t1 t2 t3 t4 t5 x)=frS (cj2 t1*t1) (cj2 t2*t2) (cj2 t3*t3) (cj2 t4*t4) (cj2 t5*t5) x:=by
 refine E2.ext' (E3.ext' ?_ ?_ ?_) (E3.ext' ?_ ?_ ?_)
 ·exact E8y x.a.a
 ·exact D5h x.a.b t2
 ·exact D5h x.a.c t4
 ·exact D5h x.b.a t1
 ·exact D5h x.b.b t3
 ·exact D5h x.b.c t5
theorem E5v {t1 t2 t3 t4 t5:F2} (h1:t1*t1*t1=(0-1,0)) (h2:t2*t2*t2=(1,0)) (h3:t3*t3*t3=(0-1,0)) (h4:t4*t4*t4=(1,0)) (h5:t5*t5*t5=(0-1,0)) (x:F12):frS t1 t2 t3 t4 t5 (frS t1 t2 t3 t4 t5 (frS t1 t2 t3 t4 t5 x))=cjp x:=by
 refine E2.ext' (E3.ext' rfl ?_ ?_) (E3.ext' ?_ ?_ ?_)
 ·show x.a.b*t2*t2*t2=x.a.b
  rw[A4w,h2,B7d]
 ·show x.a.c*t4*t4*t4=x.a.c
  rw[A4w,h4,B7d]
 ·show x.b.a*t1*t1*t1=0-x.b.a
  rw[A4w,h1,A8d]
 ·show x.b.b*t3*t3*t3=0-x.b.b
  rw[A4w,h3,A8d]
 ·show x.b.c*t5*t5*t5=0-x.b.c
  rw[A4w,h5,A8d]
def tn (i:Int):F2:=cj2 (tur i)*tur i
theorem C9j (x:F12):frb (frb x)=frS (tn 1) (tn 2) (tn 3) (tn 4) (tn 5) x:=G0c (tur 1) (tur 2) (tur 3) (tur 4) (tur 5) x
theorem tn2:tn 2*tn 2*tn 2=(1,0):=by decide +kernel
theorem tn4:tn 4*tn 4*tn 4=(1,0):=by decide +kernel
theorem tn1:tn 1*tn 1*tn 1=(0-1,0):=by decide +kernel
theorem tn3:tn 3*tn 3*tn 3=(0-1,0):=by decide +kernel
theorem tn5:tn 5*tn 5*tn 5=(0-1,0):=by decide +kernel
section
variable {G:Type} [J9 G]
theorem F7d (e:G) (p:Nat):A9 e (p ^ 6+1)=A9 (A9 (A9 (A9 (A9 (A9 e p) p) p) p) p) p*e:=by
 have h:p ^ 6=p*p*p*p*p*p:=by rw[Nat.pow_succ,Nat.pow_succ,Nat.pow_succ,Nat.pow_succ,Nat.pow_succ,Nat.pow_one]
 rw[h,P7,D1a,N3,N3,N3,N3,N3]
end
theorem E9b {e:F12} (he:e*cjp e=1):A9 e (pN ^ 6+1)=1:=by
 rw[F7d,Z7,Z7,Z7,Z7,Z7,Z7,C9j,C9j,C9j,E5v tn1 tn2 tn3 tn4 tn5];refine Eq.trans ?_ he
 generalize cjp e=c;grind
end

set_option linter.unusedSectionVars false
section

section
variable {R:Type} [J9 R]
end
def F5w (e:F12):F12:=G8b (frb (frb e)*e)
end

section

theorem G2y:(15132376222941642752:Int).toNat=15132376222941642752:=by decide +kernel
theorem H2o:(15132376222941642753:Int).toNat=15132376222941642753:=by decide +kernel
theorem H2q:(5044125407647214251:Int).toNat=5044125407647214251:=by decide +kernel
theorem H0w:(pN ^ 2+1)*(15132376222941642752+pN)*(15132376222941642753*5044125407647214251)*(pN*(15132376222941642752*15132376222941642752)+pN*(pN*pN)+15132376222941642752)+(pN ^ 2+1)*(15132376222941642752+pN)=(pN ^ 2+1)*(15132376222941642752+pN)*(15132376222941642753*5044125407647214251)*(pN+15132376222941642752*(15132376222941642752*15132376222941642752)+15132376222941642752*(pN*pN))+(pN ^ 6+1)*(15132376222941642753*5044125407647214251):=by decide +kernel
section
variable {G:Type} [J9 G]
theorem F9k (e:G) (p L:Nat):A9 (A9 (A9 e L*A9 e p) p) p*(A9 e L*A9 e p)=A9 e ((p ^ 2+1)*(L+p)):=by
 have h:(L+p)*(p*p)+(L+p)=(p ^ 2+1)*(L+p):=by rw[Nat.pow_two,Nat.mul_comm (p*p+1),Nat.mul_add,Nat.mul_one]
 rw[<-P7,<-N3,<-N3,<-P7,h]
end
theorem F7l {e:F12} (he:e*cjp e=1) (p L A B:Nat) (fr:∀x,frb x=A9 x p) (h6:A9 e (p ^ 6+1)=1)
  (num:(p ^ 2+1)*(L+p)*(A*B)*(p*(L*L)+p*(p*p)+L)+(p ^ 2+1)*(L+p)=(p ^ 2+1)*(L+p)*(A*B)*(p+L*(L*L)+L*(p*p))+(p ^ 6+1)*(A*B))
  (hG:∀x,C8e x=A9 (A9 x A) B) (hK:∀g,C2g g=cjp (A9 g L)*frb g) (hH:∀k,F6l k=A9 (A9 k L) L):F5w (A9 e L*frb e)=1:=by
 have ha:=F9k e p L;unfold F5w G8b;rw[fr e,fr (A9 e L*A9 e p),fr (A9 (A9 e L*A9 e p) p),ha,hH,fr (C2g _),fr (A9 (C2g _) p)];exact G2c C8q E1r E0v he h6 num rfl ((hG _).trans (N3 _ A B).symm) ((hK _).trans (by rw[fr]))
theorem F1u {e:F12} (he:e*cjp e=1):F5w (A9 e 15132376222941642752*frb e)=1:=
 F7l he pN 15132376222941642752 15132376222941642753 5044125407647214251 (fun x=>(Z7 x).symm) (E9b he) H0w
  (fun x=>by unfold C8e;rw[B2p,B2p,H2o,H2q]) (fun g=>by unfold C2g;rw[B2p,G2y]) (fun k=>by unfold F6l;rw[B2p,B2p,G2y])
end

set_option linter.unusedSectionVars false
section

def gm:F2:=(Fin.ofNat pN 877076961050607968509681729531255177986764537961432449499635504522207616027455086505066378536590128544573588734230,Fin.ofNat pN 877076961050607968509681729531255177986764537961432449499635504522207616027455086505066378536590128544573588734230)
def f0E (x:Fp):F6:=upE ((x,0):F2)
section
variable {r:Nat} [NeZero r]
def cjQ (x:Q2 r):Q2 r:=(x.1,0-x.2)
theorem F9q (x y:Q2 r):cjQ (x-y)=cjQ x-cjQ y:=G6 rfl (by show 0-(x.2-y.2)=(0-x.2)-(0-y.2);grind)
theorem G1n (x y:Q2 r):cjQ (x*y)=cjQ x*cjQ y:=G6 (by simp only[cjQ,C2o,C2h];grind) (by simp only[cjQ,C2o,C2h];grind)
theorem F6p (x:Q2 r):cjQ (-x) = -cjQ x:=by
 have e:-x=0-x:=by grind
 have e2:-cjQ x=0-cjQ x:=by grind
 rw[e,e2,F9q];have:cjQ (0:Q2 r)=0:=G6 rfl (by show (0:Fin r)-0=0;grind)
 rw[this]
theorem G6n (x:Fin r):cjQ ((x,0):Q2 r)=(x,0):=G6 rfl (by show (0:Fin r)-0=0;grind)
end
section
variable {R:Type} [Fld R] [DecidableEq R] [Nrs R]
theorem D5n (x y l m:R):letI:=A7h (F:=R);evl upE (upE x*Nrs.xi) (upE y*Nrs.xi) (some (l,m))=D2m (-m) (-(l*x)) y:=by
 letI:=A7h (F:=R)
 refine E2.ext' (E3.ext' ?_ ?_ ?_) (E3.ext' ?_ ?_ ?_)
 all_goals
  simp only[evl,D2m,upE,Nrs.xi,E3.mul_a,E3.mul_b,E3.mul_c,E3.add_a,E3.add_b,E3.add_c,E3.neg_a,E3.neg_b,E3.neg_c]
  grind
def D5c (y a b:R):E2 (E3 R):=⟨⟨y,0,0⟩,⟨a,b,0⟩⟩
theorem D5b (l m x y:R):letI:=A7h (F:=R);(⟨upE y,-(upE l*upE x+upE m*Nrs.xi)⟩:E2 (E3 R))=D5c y (-(l*x)) (-m):=by
 letI:=A7h (F:=R)
 refine E2.ext' (E3.ext' ?_ ?_ ?_) (E3.ext' ?_ ?_ ?_)
 all_goals
  simp only[D5c,upE,Nrs.xi,E3.mul_a,E3.mul_b,E3.mul_c,E3.add_a,E3.add_b,E3.add_c,E3.neg_a,E3.neg_b,E3.neg_c]<;>grind
theorem F2v {a b c a' b' c' : R} (h1:a*c' = a' * c) (h2:b*c' = b' * c):letI:=A7h (F:=R);Ass (D2m a b c) (D2m a' b' c'):=by
 letI:=A7h (F:=R)
 refine E3.ext' ?_ ?_ ?_
 ·show a*0+Nrs.xi*(b*0+0*c')=a' * 0+Nrs.xi*(b' * 0+0*c);grind
 ·show a*c' + b*0+Nrs.xi*(0*0)=a' * c+b' * 0+Nrs.xi*(0*0);rw[h1];grind
 ·show a*0+b*c' + 0*0=a' * 0+b' * c+0*0;rw[h2];grind
theorem E7d {y a b y' a' b' : R} (h1:y*a' = y' * a) (h2:y*b' = y' * b):letI:=A7h (F:=R);Ass (D5c y a b) (D5c y' a' b'):=by
 letI:=A7h (F:=R)
 refine E3.ext' ?_ ?_ ?_
 ·show y*a' + Nrs.xi*(0*0+0*b')=y' * a+Nrs.xi*(0*0+0*b);rw[h1];grind
 ·show y*b' + 0*a' + Nrs.xi*(0*0)=y' * b+0*a+Nrs.xi*(0*0);rw[h2];grind
 ·show y*0+0*b' + 0*a' = y' * 0+0*b+0*a;grind
theorem G3z {m' l' x y t2 t3 g:R} (h2:g*t3=t2) (h3:g*g*g*t3=1):letI:=A7h (F:=R);Ass (D2m (-(m' * (g*g*g))) (-(l' * g*x)) y) (D2m (-m') (-(l' * x)*t2) (y*t3)):=by
 refine F2v ?_ ?_
 ·have:-(m' * (g*g*g))*(y*t3) = -m' * y*(g*g*g*t3):=by clear h2 h3;grind
  rw[this,h3];clear this h2 h3;grind
 ·rw[<-h2];clear h2 h3;grind
theorem G5a {y' l x' m t1 t3 g:R} (h1:g*t1=1) (h3:g*g*g*t3=1):letI:=A7h (F:=R);Ass (D5c (y' * (g*g*g)) (-(l*(x' * (g*g)))) (-m)) (D5c y' (-(l*x')*t1) (-m*t3)):=by
 refine E7d ?_ ?_
 ·have:y' * (g*g*g)*(-(l*x')*t1)=y' * -(l*(x' * (g*g)))*(g*t1):=by clear h1 h3;grind
  rw[this,h1];clear this h1 h3;grind
 ·have:y' * (g*g*g)*(-m*t3)=y' * -m*(g*g*g*t3):=by clear h1 h3;grind
  rw[this,h3];clear this h1 h3;grind
end
theorem gm1:gm*tur 1=1:=by decide +kernel
theorem gm2:gm*tur 3=tur 2:=by decide +kernel
theorem gm3:gm*gm*gm*tur 3=1:=by decide +kernel
theorem F2b (x:F12):∀n,A9 (cj x) n=cj (A9 x n)
 | 0=>E7g.symm
 | n+1=>by
  show A9 (cj x) n*cj x=cj (A9 x n*x);rw[F2b x n,F0u]
theorem G0v:frb 1=1:=by decide +kernel
theorem A2p:cj2 0=0:=by decide +kernel
section
variable {R:Type} [J9 R]
theorem E5q (t:R):0*t=0:=by grind
end
theorem F4i (a b c:F2):frb (D2m a b c)=D2m (cj2 a) (cj2 b*tur 2) (cj2 c*tur 3):=by
 refine E2.ext' (E3.ext' rfl rfl ?_) (E3.ext' ?_ rfl ?_)
 ·show cj2 0*tur 4=0;rw[A2p,E5q]
 ·show cj2 0*tur 1=0;rw[A2p,E5q]
 ·show cj2 0*tur 5=0;rw[A2p,E5q]
theorem E9n (y a b:F2):frb (D5c y a b)=D5c (cj2 y) (cj2 a*tur 1) (cj2 b*tur 3):=by
 refine E2.ext' (E3.ext' rfl ?_ ?_) (E3.ext' rfl rfl ?_)
 ·show cj2 0*tur 2=0;rw[A2p,E5q]
 ·show cj2 0*tur 4=0;rw[A2p,E5q]
 ·show cj2 0*tur 5=0;rw[A2p,E5q]
theorem E1i (x y:F2):cj2 (x*y)=cj2 x*cj2 y:=G1n x y
theorem B6b (x:F2):cj2 (-x) = -cj2 x:=F6p x
theorem C7m (x:Fp):cj2 ((x,0):F2)=(x,0):=G6n x
theorem frl:Frl f0E (upE:F2->F6) cj2 gm frb where
 m:=F7x
 o:=G0v
 c:=fun x=>(Z7 (cj x)).symm.trans ((F2b x pN).trans (congrArg cj (Z7 x)))
 e:=fun x y l m=>by
  have k1:=D5n ((x,0):F2) (y,0) (cj2 l*gm) (cj2 m*(gm*gm*gm));have k2:=D5n ((x,0):F2) (y,0) l m;have k3:=(congrArg frb k2).trans (F4i _ _ _);rw[B6b,B6b,E1i,C7m,C7m] at k3;have k4:=G3z (m' := cj2 m) (l' := cj2 l) (x:=((x,0):F2)) (y:=(y,0)) gm2 gm3;exact (congrArg (fun u=>Ass u _) k1).mpr ((congrArg (fun u=>Ass _ u) k3).mpr k4)
 l:=fun l a=>by
  have k1:=D5b ((l.1,0):F2) (l.2,0) (cj2 a.1*(gm*gm)) (cj2 a.2*(gm*gm*gm));have k2:=D5b ((l.1,0):F2) (l.2,0) a.1 a.2;have k3:=(congrArg frb k2).trans (E9n _ _ _);rw[B6b,B6b,E1i,C7m,C7m] at k3;have k4:=G5a (y' := cj2 a.2) (l:=((l.1,0):F2)) (x' := cj2 a.1) (m:=(l.2,0)) gm1 gm3;exact (congrArg (fun u=>Ass u _) k1).mpr ((congrArg (fun u=>Ass _ u) k3).mpr k4)
end

set_option linter.unusedSectionVars false
section

section
variable {F:Type} [Fld F] [DecidableEq F] {b:F}
def H1n (a s:F×F×F) (z:Bool):F×F×F:=if z=true then jpl (jtw s) a else jtw s
def jbs (a:F×F×F) (l:List Bool):F×F×F:=l.foldl (H1n a) a
theorem E8c (hc:Cv b) {P:Pt F} {a:F×F×F} (hP:OnC b P) (h:Jc P a):∀(l:List Bool) (n:Nat) (s:F×F×F),Jc (G4 P n) s->Jc (G4 P (l.foldl nst n)) (l.foldl (H1n a) s)
 | [],_,_,hs=>hs
 | z::l,n,s,hs=>by
  refine E8c hc hP h l (nst n z) _ ?_
  have J1:Jc (G4 P (n+n)) (jtw s):=by rw[U8 hc hP];exact A9o hc.two _ _ hs
  cases z with
  | false=>exact J1
  | true=>exact A3p hc.two _ _ _ _ J1 h
theorem E8w (hc:Cv b) {P:Pt F} {a:F×F×F} (hP:OnC b P) (h:Jc P a) (l:List Bool) {n:Nat} (hn:l.foldl nst 1=n):Jc (G4 P n) (jbs a l):=hn ▸ E8c hc hP h l 1 a h
theorem F9l {P:Pt F} {t:F×F×F} (h:Jc P t) (hz:t.2.2=0):P=none:=by
 cases P with
 | none=>rfl
 | some p=>exact absurd hz h.1
theorem B1u (hc:Cv b) (X:CP b):∀n,(letI:=A5r hc;mlt X n).1=G4 X.1 n
 | 0=>rfl
 | n+1=>by
  show I5 (letI:=A5r hc;mlt X n).1 X.1=I5 (G4 X.1 n) X.1
  rw[B1u hc X n]
end
@[reducible] instance agQ:AG (CP fq4):=A5r cv2
@[reducible] instance agP:AG (CP fp4):=A5r cv1
def hPt:F2×F2:=((Fin.ofNat pN 352701069587466618187139116011060144890029952792775240219908644239793785735715026873347600343865175952761926303160,Fin.ofNat pN 3059144344244213709971259814753781636986470325476647558659373206291635324768958432433509563104347017837885763365758),(Fin.ofNat pN 1985150602287291935568054521177171638300868978215655730859378665066344726373823718423869104263333984641494340347905,Fin.ofNat pN 927553665492332455747201965776037880757740193453592970025027978793976877002675564980949289727957565575433344219582))
def gPt:Fp×Fp:=(Fin.ofNat pN 3685416753713387016781088315183077757961620795782546409894578378688607592378376318836054947676345821548104185464507,Fin.ofNat pN 1339506544944476473020471379941921221584933875938349620426543736416511423956333506472724655353366534992391756441569)
theorem H4l:hPt.2*hPt.2=hPt.1*hPt.1*hPt.1+fq4:=by decide +kernel
theorem H6x:gPt.2*gPt.2=gPt.1*gPt.1*gPt.1+fp4:=by decide +kernel
def ptH:CP fq4:=⟨some hPt,H4l⟩
def ptG:CP fp4:=⟨some gPt,H6x⟩
section
variable {F:Type} [Fld F]
theorem H0y (p:F×F) (o:F) (ho:o=1):Jc (some p) (p.1,p.2,o):=by
 subst ho;refine ⟨Fld.one_ne,?_,?_⟩
 ·show p.1=p.1*(1*1);generalize p.1=x;grind
 ·show p.2=p.2*(1*1*1);generalize p.2=x;grind
end
theorem F4d:(btL rN 255 255).tail.foldl nst 1=rN:=by decide +kernel
theorem H0v:(jbs (hPt.1,hPt.2,(1:F2)) (btL rN 255 255).tail).2.2=0:=by decide +kernel
theorem G7e:(jbs (gPt.1,gPt.2,(1:Fp)) (btL rN 255 255).tail).2.2=0:=by decide +kernel
section
variable {F:Type} [Fld F] [DecidableEq F] {b:F}
theorem D3k (hc:Cv b) (X:CP b) {p:F×F} (hX:X.1=some p) {n:Nat} (l:List Bool) (hn:l.foldl nst 1=n) {o:F} (ho:o=1) (hz:(jbs (p.1,p.2,o) l).2.2=0):letI:=A5r hc;mlt X n=0:=by
 letI:=A5r hc
 have k:=B1u hc X n;rw[hX] at k;exact Subtype.ext (k.trans (F9l (E8w hc (hX ▸ X.2) (H0y p o ho) l hn) hz))
end
theorem H_r:mlt ptH rN=0:=D3k cv2 ptH (p:=hPt) rfl (n:=rN) (btL rN 255 255).tail F4d (o:=1) rfl H0v
theorem G_r:mlt ptG rN=0:=D3k cv1 ptG (p:=gPt) rfl (n:=rN) (btL rN 255 255).tail F4d (o:=1) rfl G7e
def SQ (X:CP fq4):Prop:=mlt X rN=0
theorem G8p {x y:CP fq4} (hx:SQ x) (hy:SQ y):SQ (x+y):=by
 show mlt (x+y) rN=0;rw[E0f,show mlt x rN=0 from hx,show mlt y rN=0 from hy]
 grind
section
variable {M:Type} [D4e M]
end
theorem D0t (x:F12):∀n,cjp (A9 x n)=A9 (cjp x) n
 | 0=>E0v
 | n+1=>by
  show cjp (A9 x n*x)=A9 (cjp x) n*cjp x;rw[C8q,D0t x n]
theorem G2l (x:F12):cjp (frb x)=frb (cjp x):=by rw[A4y,A4y,frl.c]
theorem E2x {n:Nat} (hn:n=15132376222941642752) {e:F12} (he:e*cjp e=1):F5w (A9 e n*frb e)=1:=by
 subst hn;exact F1u he
theorem kill {n:Nat} (hn:n=15132376222941642752) {e:F12} (he:e*cjp e=1):F5w (cjp (A9 e n*frb e))=1:=by
 rw[C8q,D0t,G2l];refine E2x hn ?_
 rw[E1r,<-he];generalize cjp e=c;clear he;grind
section
variable {M G:Type} [D4e M] [J9 G]
end
section
variable {n:Nat} (hn:n=15132376222941642752) (ht:∀A:CP fq4,SQ A->(mlt A n).1=A7d (ptu cj2 gm A.1))
end
end

section

section
variable {G:Type} [J9 G]
end
theorem H6c:G4 (some gPt) rN=none:=(B1u cv1 ptG rN).symm.trans (congrArg Subtype.val G_r)
end

section

theorem C0w (x:F12):G5z (C0x x)=x:=E2.ext' (E3.ext' (W8 _) (W8 _) (W8 _)) (E3.ext' (W8 _) (W8 _) (W8 _))
theorem E5h {x y:F12} (h:C0x x=C0x y):x=y:=by rw[<-C0w x,h,C0w]
theorem F7r:C0x 1=H3s:=by decide +kernel
theorem E1b {x:F12}:C0x x=H3s↔x=1:=by rw[<-F7r];exact ⟨E5h,fun h=>by rw[h]⟩
theorem E8h {a:G1D} {b:G2D} (ha:onG a=true) (hb:I3 b=true) (ga:grp a=true) (gb:A0i b=true):V4 a b=0:=by
 unfold V4;rw[ha,hb,ga,gb];rfl
theorem H2e {a:G1D} (ha:onG a=true) (ga:grp a=true):G4 (pG a) rN=none:=by
 have k:=F1o (A0v ha).2;rw[(A0v ha).1,ga] at k;exact of_decide_eq_true k.symm
theorem C6g {a:G1D} (ha:onG a=true) (h:G4 (pG a) rN=none):grp a=true:=by
 have k:=F1o (A0v ha).2;rw[(A0v ha).1] at k;rw[k];exact decide_eq_true h
/-- A point of the second curve, as one of the group. -/
def ptQ (b:G2D) (h:I3 b=true):CP fq4:=⟨pG2 b,(A1u h).2⟩
section
variable {F:Type} [Fld F] [DecidableEq F] {b:F}
theorem G7d (hc:Cv b) {X:CP b} {n:Nat} (h:G4 X.1 n=none):letI:=A5r hc;mlt X n=0:=Subtype.ext ((B1u hc X n).trans h)
theorem G9r (hc:Cv b) {X:CP b} {n:Nat} (h:letI:=A5r hc;mlt X n=0):G4 X.1 n=none:=(B1u hc X n).symm.trans (congrArg Subtype.val h)
end
theorem G7c {b:G2D} (hb:I3 b=true) (gb:A0i b=true):SQ (ptQ b hb):=by
 have k:=E0w (A1u hb).2;rw[(A1u hb).1,gb] at k;exact G7d cv2 (X:=ptQ b hb) (of_decide_eq_true k.symm)
theorem C9b {b:G2D} (hb:I3 b=true) (h:SQ (ptQ b hb)):A0i b=true:=by
 have k:=E0w (A1u hb).2;rw[(A1u hb).1] at k;rw[k];exact decide_eq_true (G9r cv2 (X:=ptQ b hb) h)
theorem G6r:pG M4=some gPt:=by decide +kernel
theorem F9p:pG2 O5=some hPt:=by decide +kernel
theorem D9h:onG M4=true:=by decide +kernel
theorem C7z:I3 O5=true:=by decide +kernel
theorem F8i:grp M4=true:=C6g D9h (by rw[G6r];exact H6c)
theorem F9b:ptQ O5 C7z=ptH:=Subtype.ext F9p
theorem F0i:A0i O5=true:=C9b C7z (by rw[F9b];exact H_r)
end

section

section
variable {G:Type} [J9 G]
end
theorem H0u {A:CP fq4} (h:SQ A):SQ (-A):=by
 have e:-A=0-A:=by clear h;grind
 show mlt (-A) rN=0;rw[e,E0q,show mlt A rN=0 from h,D2i]
 grind
section
variable {G:Type} [J9 G]
end
theorem G7o {P:Pt Fp} (hP:OnC fp4 P) (hr:G4 P rN=none):G4 (A7d P) rN=none:=by
 rw[E4q cv1 hP,hr];rfl
theorem F0s {P Q:Pt Fp} (hP:OnC fp4 P) (hQ:OnC fp4 Q) (h1:G4 P rN=none) (h2:G4 Q rN=none):G4 (I5 P Q) rN=none:=by
 rw[B3d cv1 hP hQ,h1,h2];rfl
/-- What is inside: a point of the first group, one of the second. -/
structure In1 (a:G1D):Prop where
 o:onG a=true
 g:grp a=true
structure In2 (b:G2D):Prop where
 o:I3 b=true
 g:A0i b=true
theorem In1.r {a:G1D} (h:In1 a):G4 (pG a) rN=none:=H2e h.o h.g
theorem In1.c {a:G1D} (h:In1 a):OnC fp4 (pG a):=(A0v h.o).2
theorem In2.s {b:G2D} (h:In2 b):SQ (ptQ b h.o):=G7c h.o h.g
theorem In1.neg {a:G1D} (h:In1 a):In1 (C5n a):=⟨F1j h.o,C6g (F1j h.o) (by rw[G9x];exact G7o h.c h.r)⟩
theorem In1.add {a b:G1D} (h:In1 a) (k:In1 b):In1 (F6z a b):=⟨F4y h.o k.o,C6g (F4y h.o k.o) (by rw[G8c];exact F0s h.c k.c h.r k.r)⟩
theorem G4a {b:G2D} (h:I3 b=true) (k:I3 (C5d b)=true):ptQ (C5d b) k = -(ptQ b h):=Subtype.ext (F7z b)
theorem G4q {b c:G2D} (h:I3 b=true) (k:I3 c=true) (l:I3 (C3l b c)=true):ptQ (C3l b c) l=ptQ b h+ptQ c k:=Subtype.ext (G1z b c)
theorem In2.neg {b:G2D} (h:In2 b):In2 (C5d b):=⟨E1d h.o,C9b (E1d h.o) (by rw[G4a h.o];exact H0u h.s)⟩
theorem In2.add {b c:G2D} (h:In2 b) (k:In2 c):In2 (C3l b c):=⟨E0o h.o k.o,C9b (E0o h.o k.o) (by rw[G4q h.o k.o];exact G8p h.s k.s)⟩
end

section

theorem F3x {l:List G1D} {k:List U4} (h:A2e (l.length:Int) (k.length:Int) (l.any A0s)=0):B4g l k=(gP (C2r (k.map (·.val)) (l.map pG)),0):=by
 obtain ⟨h1,_,h3⟩:=D1n h;rw[E1u h,G9k (Eq.refl 52) (by omega) h3]
theorem H1k {P:Pt Fp} (hP:OnC fp4 P) (h:G4 P rN=none) (k:Nat):G4 (G4 P k) rN=none:=by rw[<-A4n cv1 hP,Nat.mul_comm,A4n cv1 hP,h,A2o]
theorem F4o:∀(ks:List Nat) (Ps:List (Pt Fp)),(∀P,P∈Ps->OnC fp4 P∧G4 P rN=none)->G4 (C2r ks Ps) rN=none
 | [],_,_=>A2o rN
 | _::_,[],_=>A2o rN
 | k::ks,P::Ps,h=>F0s (A0d cv1 (h P (List.mem_cons_self ..)).1 k) (C7h cv1 ks Ps fun Q hQ=>(h Q (List.mem_cons_of_mem _ hQ)).1) (H1k (h P (List.mem_cons_self ..)).1 (h P (List.mem_cons_self ..)).2 k) (F4o ks Ps fun Q hQ=>h Q (List.mem_cons_of_mem _ hQ))
theorem In1.of {P:Pt Fp} (hP:OnC fp4 P) (h:G4 P rN=none):In1 (gP P):=⟨B8z hP,C6g (B8z hP) (by rw[D9u];exact h)⟩
theorem E0h:In1 M4:=⟨D9h,F8i⟩
theorem F8v:In2 O5:=⟨C7z,F0i⟩

/-- How an opening is refused, if it is. -/
def A1h (s:G2D) (a b:G1D):Int:=if (onG a && (onG b && I3 s))=true then if (grp a && (grp b && A0i s))=true then 0 else 31 else 30
def C3y (k l:U4):List U4:=[S4.H8 1,S4.H8 (0-S4.inF l),S4.H8 (S4.inF k)]
def kcL (a b:G1D) (k l:U4):G1D:=(B4g [a,M4,b] (C3y k l)).1
def kcR (s:G2D) (a b:G1D) (k l:U4):Bool×Int:=if A1h s a b=0 then pcD [kcL a b k l,C5n b] [O5,s] else (false,A1h s a b)
theorem G1y {s:G2D} {a b:G1D} (h:A1h s a b=0):In1 a∧In1 b∧In2 s:=by
 unfold A1h at h;split at h
 ·split at h
  ·rename_i h1 h2
   simp only[Bool.and_eq_true] at h1 h2;exact ⟨⟨h1.1,h2.1⟩,⟨h1.2.1,h2.2.1⟩,⟨h1.2.2,h2.2.2⟩⟩
  ·cases h
 ·cases h
theorem H2p {a b:G1D} (ha:onG a=true) (hb:onG b=true):([a,M4,b].any A0s)=false:=by
 simp only[List.any_cons,List.any_nil,A0s,ha,hb,D9h,Bool.not_true,Bool.or_false]
theorem G4c {a b:G1D} {k l:U4} (ha:onG a=true) (hb:onG b=true):A2e (([a,M4,b].length:Nat):Int) (((C3y k l).length:Nat):Int) ([a,M4,b].any A0s)=0:=by
 rw[H2p ha hb];rfl
theorem E7f {a b:G1D} (k l:U4) (ha:onG a=true) (hb:onG b=true):B4g [a,M4,b] (C3y k l)=(gP (C2r ((C3y k l).map (·.val)) ([a,M4,b].map pG)),0):=F3x (G4c ha hb)
theorem G5n {a b:G1D} (k l:U4) (ha:onG a=true) (hb:onG b=true):kcL a b k l=gP (C2r ((C3y k l).map (·.val)) ([a,M4,b].map pG)):=by unfold kcL;rw[E7f k l ha hb]
theorem G6w {a b:G1D} (k l:U4) (ha:In1 a) (hb:In1 b):In1 (kcL a b k l):=by
 rw[G5n k l ha.o hb.o];have h:∀P,P∈[a,M4,b].map pG->OnC fp4 P∧G4 P rN=none:=by
  intro P hP;simp only[List.map_cons,List.map_nil,List.mem_cons,List.not_mem_nil,or_false] at hP;rcases hP with rfl | rfl | rfl
  ·exact ⟨ha.c,ha.r⟩
  ·exact ⟨E0h.c,E0h.r⟩
  ·exact ⟨hb.c,hb.r⟩
 exact In1.of (C7h cv1 _ _ fun P hP=>(h P hP).1) (F4o _ _ h)
theorem F8j {a b:G1D} {s t:G2D} (ha:In1 a) (hb:In1 b) (hs:In2 s) (ht:In2 t):B5k ([a,b].zip [s,t])=0:=by
 have h1:=E8h ha.o hs.o ha.g hs.g;have h2:=E8h hb.o ht.o hb.g ht.g;show (if (V4 a s != 0)=true then V4 a s else if (V4 b t != 0)=true then V4 b t else 0)=0
 rw[h1,h2];rfl
theorem G0w {a b:G1D} {s t:G2D} (ha:In1 a) (hb:In1 b) (hs:In2 s) (ht:In2 t):pcD [a,b] [s,t]=(C3r (J0 (1*B9m a s*B9m b t)) 1,0):=by
 unfold pcD;rw[if_neg (fun h=>h rfl),if_neg (show ¬64<([a,b]:List G1D).length from by simp),F8j ha hb hs ht]
 exact if_neg (fun k=>nomatch k)
theorem D6i (s:G2D) (a b:G1D) (k l:U4):FnD Tryz.prog 20 [.v (.a s.its),.v (.a [.ob (.fp a.x),.ob (.fp a.y),.bool a.inf,.ob (.fr k),.ob (.fr l),.ob (.fp b.x),.ob (.fp b.y),.bool b.inf])] (.t [.c (.bool (kcR s a b k l).1),.c (.int .i64 (kcR s a b k l).2)]) []:=by
 have no:∀{e:Int},A1h s a b=e->e≠0->kcR s a b k l=(false,e):=fun h h2=>by
  unfold kcR;rw[h,if_neg h2]
 cases h1:onG a with
 | false=>
  rw[no (e:=30) (by unfold A1h;rw[h1];rfl) (by decide)]
  exact (A2 A3h Tryz.func20 (kcA s a b k l) ⟨by rw[h1];rfl,trivial⟩).conv (fun _ _ h=>h) fun y v hd=>A0c hd
 | true=>
 cases h2:onG b with
 | false=>
  rw[no (e:=30) (by unfold A1h;rw[h1,h2];rfl) (by decide)]
  exact (A2 A3h Tryz.func20 (kcB s a b k l) ⟨by rw[h1];rfl,by rw[h2];rfl,trivial⟩).conv (fun _ _ h=>h) fun y v hd=>A0c hd
 | true=>
 cases h3:I3 s with
 | false=>
  rw[no (e:=30) (by unfold A1h;rw[h1,h2,h3];rfl) (by decide)]
  exact (A2 A3h Tryz.func20 (kcC s a b k l) ⟨by rw[h1];rfl,by rw[h2];rfl,by rw[h3];rfl,trivial⟩).conv (fun _ _ h=>h) fun y v hd=>A0c hd
 | true=>
 cases h4:grp a with
 | false=>
  rw[no (e:=31) (by unfold A1h;rw[h1,h2,h3,h4];rfl) (by decide)]
  exact (A2 A3h Tryz.func20 (kcD s a b k l) ⟨by rw[h1];rfl,by rw[h2];rfl,by rw[h3];rfl,by rw[h4];rfl,trivial⟩).conv (fun _ _ h=>h) fun y v hd=>A0c hd
 | true=>
 cases h5:grp b with
 | false=>
  rw[no (e:=31) (by unfold A1h;rw[h1,h2,h3,h4,h5];rfl) (by decide)]
  exact (A2 A3h Tryz.func20 (kcE s a b k l) ⟨by rw[h1];rfl,by rw[h2];rfl,by rw[h3];rfl,by rw[h4];rfl,by rw[h5];rfl,trivial⟩).conv (fun _ _ h=>h) fun y v hd=>A0c hd
 | true=>
 cases h6:A0i s with
 | false=>
  rw[no (e:=31) (by unfold A1h;rw[h1,h2,h3,h4,h5,h6];rfl) (by decide)]
  exact (A2 A3h Tryz.func20 (kcF s a b k l) ⟨by rw[h1];rfl,by rw[h2];rfl,by rw[h3];rfl,by rw[h4];rfl,by rw[h5];rfl,by rw[h6];rfl,trivial⟩).conv (fun _ _ h=>h) fun y v hd=>A0c hd
 | true=>
  have e0:A1h s a b=0:=by unfold A1h;rw[h1,h2,h3,h4,h5,h6];rfl
  have r:=kcI s a b k l;have eS:((([a]:List G1D)++[M4])++[b])=[a,M4,b]:=rfl;have eN:((([S4.H8 1]:List U4)++[S4.H8 (0-S4.inF l)])++[S4.H8 (S4.inF k)])=C3y k l:=rfl;rw[eS,eN] at r;have eR:kcR s a b k l=pcD [kcL a b k l,C5n b] [O5,s]:=by unfold kcR;rw[e0,if_pos rfl]
  rw[eR];have eB:=G9p h2;rw[eB] at r;refine A2 A3h Tryz.func20 r ⟨by rw[h1];rfl,by rw[h2];rfl,by rw[h3];rfl,by rw[h4];rfl,by rw[h5];rfl,by rw[h6];rfl,rfl,rfl,rfl,rfl,rfl,rfl,rfl,by rw[E7f k l h1 h2];rfl,rfl,rfl,rfl,rfl,rfl,rfl,rfl,trivial⟩
end

section
section
variable {w0:World} {F0:Nat->Prop} {K:Kp} {ac:List Act} {Q:Exit->Act->World->Prop} {cX:Ctx} {aX:Act}

--@env qtG P3
def D6j:List KI:=(run qtG false 3000 ((fun (a:Fp×Fp×Fp)=>(⟨[.code (B7 Tryz.f110)],.normal,E4 Tryz.f110.ntmps [.v (.a [.ob (.p a.1),.ob (.p a.2.1),.ob (.p a.2.2)])]⟩:Cfg)) default) []).cfg.k
theorem mv (a:Fp×Fp×Fp) (ho:A7 []):Sg Tryz.prog (E4 Tryz.f110.ntmps [.v (.a [.ob (.p a.1),.ob (.p a.2.1),.ob (.p a.2.2)])]) (A8 30 [1,3,6] [.pt 16 0,(.ci (.val (Value.slice Option.none 0 0))),.ii (0:Int)] [16] [(eF_ [(.ob (.p (Prod.fst a))),(.ob (.p (Prod.fst (Prod.snd a)))),(.ob (.p (Prod.snd (Prod.snd a))))])] 80 [] []) .normal (D6j) ([.code (B7 Tryz.f110)]):=fun hs hK=>
 A5 (unroll:=false) (n:=3000) (path:=[]) (o:=⟨_,_,_,_,_,_,_⟩) P3 (by kernel_rfl) (by kernel_rfl) ho hs hK
def mvS (a:Fp×Fp×Fp) (R:List (List (Fp×Fp×Fp))) (n:Nat) (i:Int):St:=A8 30 [1,3,6] [.pt 16 0,.v (.c (.slc 17 0 n 288)),.v (.c (.int .i64 i))] [16,17] [(eF_ [(.ob (.p (Prod.fst a))),(.ob (.p (Prod.fst (Prod.snd a)))),(.ob (.p (Prod.snd (Prod.snd a))))]),some (.sq (.ptt R))] 80 [] []
def B6l:List KI:=(run qtG false 3000 ((fun (a:Fp×Fp×Fp) (R:List (List (Fp×Fp×Fp))) (n:Nat) (i:Int)=>(⟨E7 D6j,.normal,mvS a R n i⟩:Cfg)) default default default default) [true]).cfg.k
theorem mvA (a:Fp×Fp×Fp) (R:List (List (Fp×Fp×Fp))) (n:Nat) (i:Int) (ho:A7 [((decide (i<(64:Int)))=true)]):Sg Tryz.prog (mvS a R n i) (A8 30 [1,3,4,5,6] [.pt 16 0,(.ci (.slc 17 0 n 288)),.pt 96 0,.ii (1:Int),.ii i] [16,17,96] [(eF_ [(.ob (.p (Prod.fst a))),(.ob (.p (Prod.fst (Prod.snd a)))),(.ob (.p (Prod.snd (Prod.snd a))))]),(eQ_ (Sq.ptt R)),(eF_ [(.ob (.p (0:Fp))),(.ob (.p (0:Fp))),(.ob (.p (0:Fp))),(.ob (.p (0:Fp))),(.ob (.p (0:Fp))),(.ob (.p (0:Fp))),(.ob (.p (0:Fp))),(.ob (.p (0:Fp))),(.ob (.p (0:Fp))),(.ob (.p (0:Fp))),(.ob (.p (0:Fp))),(.ob (.p (0:Fp))),(.ob (.p (0:Fp))),(.ob (.p (0:Fp))),(.ob (.p (0:Fp))),(.ob (.p (0:Fp))),(.ob (.p (0:Fp))),(.ob (.p (0:Fp))),(.ob (.p (0:Fp))),(.ob (.p (0:Fp))),(.ob (.p (0:Fp))),(.ob (.p (0:Fp))),(.ob (.p (0:Fp))),(.ob (.p (0:Fp))),(.ob (.p (0:Fp))),(.ob (.p (0:Fp))),(.ob (.p (0:Fp))),(.ob (.p (0:Fp))),(.ob (.p (0:Fp))),(.ob (.p (0:Fp))),(.ob (.p (0:Fp))),(.ob (.p (0:Fp))),(.ob (.p (0:Fp))),(.ob (.p (0:Fp))),(.ob (.p (0:Fp))),(.ob (.p (0:Fp))),(.ob (.p (0:Fp))),(.ob (.p (0:Fp))),(.ob (.p (0:Fp))),(.ob (.p (0:Fp))),(.ob (.p (0:Fp))),(.ob (.p (0:Fp))),(.ob (.p (0:Fp))),(.ob (.p (0:Fp))),(.ob (.p (0:Fp))),(.ob (.p (0:Fp))),(.ob (.p (0:Fp))),(.ob (.p (0:Fp)))])] 128 [] []) .normal (B6l) (E7 D6j):=fun hs hK=>
 A5 (unroll:=false) (n:=3000) (path:=[true]) (o:=⟨_,_,_,_,_,_,_⟩) P3 (by kernel_rfl) (by kernel_rfl) ho hs hK
theorem G2o (a:Fp×Fp×Fp) (R:List (List (Fp×Fp×Fp))) (n:Nat) (i:Int):I0 qtG Tryz.f110 false 3000 (⟨E7 D6j,.normal,mvS a R n i⟩) [false] [] [17]=(some ([((decide (i<(64:Int)))=false),(n=R.length)],((.ci (.sl (Sq.ptt R))),[]))):=by kernel_rfl
def mvT (a:Fp×Fp×Fp) (R:List (List (Fp×Fp×Fp))) (n:Nat) (i:Int) (L:List (Fp×Fp×Fp)) (d:Int):St:=A8 30 [1,3,4,5,6] [.pt 16 0,(.ci (.slc 17 0 n 288)),.pt 96 0,.v (.c (.int .i64 d)),.ii i] [16,17,96] [(eF_ [(.ob (.p (Prod.fst a))),(.ob (.p (Prod.fst (Prod.snd a)))),(.ob (.p (Prod.snd (Prod.snd a))))]),(eQ_ (Sq.ptt R)),some (.sq (.pt L))] 128 [] []
theorem mvB (a:Fp×Fp×Fp) (R:List (List (Fp×Fp×Fp))) (n:Nat) (i:Int) (L:List (Fp×Fp×Fp)) (d:Int) (ho:A7 [((decide (d<(16:Int)))=true),(0<=(wrap .i64 (d-1))),((wrap .i64 (d-1))<(16:Int)),(0=0),(((wrap .i64 (d-1))).toNat<L.length),(0<=d),(d<(16:Int)),(0=0),((d).toNat<L.length)]):Sg Tryz.prog (mvT a R n i L d) (A8 30 [1,3,4,5,6] [.pt 16 0,(.ci (.slc 17 0 n 288)),.pt 96 0,(.ii (wrap .i64 (d+1))),.ii i] [16,17,96] [(eF_ [(.ob (.p (Prod.fst a))),(.ob (.p (Prod.fst (Prod.snd a)))),(.ob (.p (Prod.snd (Prod.snd a))))]),(eQ_ (Sq.ptt R)),(eQ_ (Sq.pt (List.set L (d).toNat (jpl (List.getD L ((wrap .i64 (d-1))).toNat pt0) a))))] 352 [] []) .normal (N8 B6l) (E7 B6l):=fun hs hK=>
 A5 (unroll:=false) (n:=3000) (path:=[true]) (o:=⟨_,_,_,_,_,_,_⟩) P3 (by kernel_rfl) (by kernel_rfl) ho hs hK
def mvU (a:Fp×Fp×Fp) (R:List (List (Fp×Fp×Fp))) (n:Nat) (i:Int) (L:List (Fp×Fp×Fp)) (d:Int):St:=A8 30 [1,3,4,5,6] [.pt 16 0,(.ci (.slc 17 0 n 288)),.pt 96 0,.v (.c (.int .i64 d)),.ii i] [16,17,96] [(eF_ [(.ob (.p (Prod.fst a))),(.ob (.p (Prod.fst (Prod.snd a)))),(.ob (.p (Prod.snd (Prod.snd a))))]),(eQ_ (Sq.ptt R)),some (.sq (.ptt [L]))] 128 [] []
def G3a:List KI:=(run qtG false 19 ((fun (a:Fp×Fp×Fp) (R:List (List (Fp×Fp×Fp))) (n:Nat) (i:Int) (L:List (Fp×Fp×Fp)) (d:Int)=>(⟨E7 B6l,.normal,mvU a R n i L d⟩:Cfg)) default default default default default default) [false]).cfg.k
theorem mvC (a:Fp×Fp×Fp) (R:List (List (Fp×Fp×Fp))) (n:Nat) (i:Int) (L:List (Fp×Fp×Fp)) (d:Int) (ho:A7 [((decide (d<(16:Int)))=false),(0<1),(((R.length+1)*2304)<=140737488355328),((R.length+1)<=maxLen),(n=R.length),(1=1)]):Sg Tryz.prog (mvU a R n i L d) (A8 30 [1,3,4,6] [.pt 16 0,(.ci (.slc 17 0 (R.length+1) 288)),.pt 96 0,.ii i] [16,17,96] [(eF_ [(.ob (.p (Prod.fst a))),(.ob (.p (Prod.fst (Prod.snd a)))),(.ob (.p (Prod.snd (Prod.snd a))))]),(eQ_ (Sq.ptt (R++[[(List.getD L 0 pt0),(List.getD L 1 pt0),(List.getD L 2 pt0),(List.getD L 3 pt0),(List.getD L 4 pt0),(List.getD L 5 pt0),(List.getD L 6 pt0),(List.getD L 7 pt0),(List.getD L 8 pt0),(List.getD L 9 pt0),(List.getD L 10 pt0),(List.getD L 11 pt0),(List.getD L 12 pt0),(List.getD L 13 pt0),(List.getD L 14 pt0),(List.getD L 15 pt0)]]))),(eQ_ (Sq.ptt [L]))] 240 [] []) .normal (G3a) (E7 B6l):=fun hs hK=>
 A5 (unroll:=false) (n:=19) (path:=[false]) (o:=⟨_,_,_,_,_,_,_⟩) P3 (by kernel_rfl) (by kernel_rfl) ho hs hK
def mvV (a:Fp×Fp×Fp) (R:List (List (Fp×Fp×Fp))) (n:Nat) (i:Int) (L:List (Fp×Fp×Fp)) (d:Int):St:=A8 30 [1,3,4,6] [.pt 16 0,(.ci (.slc 17 0 (R.length+1) 288)),.pt 96 0,.ii i] [16,17,96] [(eF_ [(.ob (.p (Prod.fst a))),(.ob (.p (Prod.fst (Prod.snd a)))),(.ob (.p (Prod.snd (Prod.snd a))))]),(eQ_ (Sq.ptt (R++[[(List.getD L 0 pt0),(List.getD L 1 pt0),(List.getD L 2 pt0),(List.getD L 3 pt0),(List.getD L 4 pt0),(List.getD L 5 pt0),(List.getD L 6 pt0),(List.getD L 7 pt0),(List.getD L 8 pt0),(List.getD L 9 pt0),(List.getD L 10 pt0),(List.getD L 11 pt0),(List.getD L 12 pt0),(List.getD L 13 pt0),(List.getD L 14 pt0),(List.getD L 15 pt0)]]))),some (.sq (.pt L))] 240 [] []
theorem mvD (a:Fp×Fp×Fp) (R:List (List (Fp×Fp×Fp))) (n:Nat) (i:Int) (L:List (Fp×Fp×Fp)) (d:Int) (ho:A7 [(0<=(15:Int)),((15:Int)<(16:Int)),(0=0),(15<L.length)]):Sg Tryz.prog (mvV a R n i L d) (A8 30 [1,3,6] [.pt 16 0,(.ci (.slc 17 0 (R.length+1) 288)),(.ii (wrap .i64 (i+1)))] [16,17] [(eF_ [(.ob (.p (Prod.fst (jpl (List.getD L 15 pt0) a)))),(.ob (.p (Prod.fst (Prod.snd (jpl (List.getD L 15 pt0) a))))),(.ob (.p (Prod.snd (Prod.snd (jpl (List.getD L 15 pt0) a)))))]),(eQ_ (Sq.ptt (R++[[(List.getD L 0 pt0),(List.getD L 1 pt0),(List.getD L 2 pt0),(List.getD L 3 pt0),(List.getD L 4 pt0),(List.getD L 5 pt0),(List.getD L 6 pt0),(List.getD L 7 pt0),(List.getD L 8 pt0),(List.getD L 9 pt0),(List.getD L 10 pt0),(List.getD L 11 pt0),(List.getD L 12 pt0),(List.getD L 13 pt0),(List.getD L 14 pt0),(List.getD L 15 pt0)]])))] 352 [] []) .normal (N8 D6j) (G3a):=fun hs hK=>
 A5 (unroll:=false) (n:=3000) (path:=[]) (o:=⟨_,_,_,_,_,_,_⟩) P3 (by kernel_rfl) (by kernel_rfl) ho hs hK
end
end

section

theorem G3q {x:Ctx} (L:List (Fp×Fp×Fp)) (h:L.length=16) (cs:List Value) (hc:C4 x (.fl (H4 L 0 16)) cs):C4 x (.sq (.pt L)) cs:=by
 obtain ⟨hl,hj⟩:=A4e L 16 0 cs hc;refine ⟨?_,fun i hi=>?_⟩
 ·show L.length*18<=cs.length
  rw[h,hl];exact Nat.le_refl _
 ·have hi:i<L.length:=hi
  rw[h] at hi;obtain ⟨c,h1,h2⟩:=hj i hi;rw[Nat.zero_add] at h1;exact ⟨c,h1,h2⟩
theorem D2n {x:Ctx} (L:List (Fp×Fp×Fp)):∀(n k:Nat) (cs:List Value),(∀j,j<n->∃c,C0 x.D (I7 (L.getD (k+j) pt0)) c∧∀(q:Nat) (v:Value),c[q]? = some v->cs[j*18+q]? = some v) ->
  ∃c,C0 x.D (H4 L k n) c∧∀(q:Nat) (v:Value),c[q]? = some v->cs[q]? = some v
 | 0,k,cs,_=>⟨[],rfl,fun q v h=>by simp at h⟩
 | n+1,k,cs,h=>by
  obtain ⟨c0,h0,g0⟩:=h 0 (Nat.zero_lt_succ _);rw[Nat.add_zero] at h0;obtain ⟨c,hc,g⟩:=D2n L n (k+1) (cs.drop 18) fun j hj=>by
   obtain ⟨c,h1,h2⟩:=h (j+1) (by omega)
   rw[show k+(j+1)=k+1+j from by omega] at h1
   refine ⟨c,h1,fun q v hq=>?_⟩
   rw[List.getElem?_drop,<-h2 q v hq];congr 1
   omega
  obtain ⟨c1,r1,e1,h1,c2,r2,e2,h2,c3,r3,e3,h3,h4⟩:=h0;have h4:r3=[]:=h4;have l1:c1.length=6:=Y5 h1;have l2:c2.length=6:=Y5 h2;have l3:c3.length=6:=Y5 h3;subst e1 e2 e3 h4;refine ⟨c1++(c2++(c3++c)),⟨c1,_,rfl,h1,c2,_,rfl,h2,c3,_,rfl,h3,hc⟩,fun q v hq=>?_⟩
  have e:c1++(c2++(c3++c))=(c1++(c2++(c3++[])))++c:=by simp
  have hl:(c1++(c2++(c3++[]))).length=18:=by simp only[List.length_append,List.length_nil];omega
  rw[e] at hq;by_cases hq18:q<18
  ·rw[List.getElem?_append_left (by omega)] at hq
   have:=g0 q v hq
   rwa [Nat.zero_mul,Nat.zero_add] at this
  ·rw[List.getElem?_append_right (by omega),hl] at hq
   have:=g _ v hq
   rw[List.getElem?_drop] at this;rwa [show 18+(q-18)=q from by omega] at this
theorem G5r {x:Ctx} (L:List (Fp×Fp×Fp)) (h:L.length=16) (cs:List Value) (hc:C4 x (.sq (.pt L)) cs):C4 x (.sq (.ptt [L])) cs:=by
 obtain ⟨hl,hj⟩:=hc;have hl:L.length*18<=cs.length:=hl;rw[h] at hl;obtain ⟨c,h1,h2⟩:=D2n L 16 0 cs fun j hj16=>by
  obtain ⟨c,g1,g2⟩:=hj j (by show j<L.length;omega)
  refine ⟨c,?_,g2⟩
  rw[Nat.zero_add];exact g1
 refine ⟨by show 1*288<=cs.length;omega,fun i hi=>?_⟩
 have hi:i<1:=hi;obtain rfl:i=0:=by omega
 refine ⟨c,h1,fun q v hq=>?_⟩
 rw[Nat.zero_mul,Nat.zero_add];exact h2 q v hq
theorem G9e {x:Ctx} (L:List (Fp×Fp×Fp)) (h:L.length=16) (cs:List Value) (hc:C4 x (.sq (.ptt [L])) cs):C4 x (.sq (.pt L)) cs:=by
 obtain ⟨hl,hj⟩:=hc;have hl:1*288<=cs.length:=hl;obtain ⟨c,h1,h2⟩:=hj 0 (Nat.zero_lt_succ _);obtain ⟨_,g⟩:=A4e L 16 0 c h1;refine ⟨by show L.length*18<=cs.length;omega,fun i hi=>?_⟩
 have hi:i<L.length:=hi;obtain ⟨c',g1,g2⟩:=g i (by omega)
 rw[Nat.zero_add] at g1;refine ⟨c',g1,fun q v hq=>?_⟩
 have:=h2 _ v (g2 q v hq)
 rwa [Nat.zero_mul,Nat.zero_add] at this

/-- Rows in blocks, told otherwise. -/
def F6g (x:Ctx):List (Option En)->List (Option En)->Prop
 | [],[]=>True
 | e::l,e' :: l' => (e=e' ∨ ∃q q',e=some (.sq q)∧e' = some (.sq q')∧(q.n=0->q'.n=0)∧∀cs,C4 x (.sq q) cs->C4 x (.sq q') cs)∧F6g x l l'
 | _,_=>False
theorem C1e {x:Ctx}:∀{ml:List Nat} {ens ens' : List (Option En)},F6g x ens ens' -> ∀p,D1 none ml ens p=D1 none ml ens' p∨∃q q',D1 none ml ens p=some (.sq q)∧D1 none ml ens' p=some (.sq q')∧(q.n=0->q'.n=0)∧∀cs,C4 x (.sq q) cs->C4 x (.sq q') cs
 | [],_,_,_,_=>.inl rfl
 | _::_,[],[],_,_=>.inl rfl
 | _::_,[],_::_,h,_=>h.elim
 | _::_,_::_,[],h,_=>h.elim
 | t::tl,e::l,e' :: l',h,p=>by
  simp only[D1];by_cases hp:p=t
  ·simp only[hp,if_true];exact h.1
  ·simp only[hp,if_false];exact C1e h.2 p
theorem Sim.rows {w0:World} {F0:Nat->Prop} {K:Kp} {ac:List Act} {nt nx:Nat} {tl:List Nat} {svs:List SV} {ml:List Nat} {ens ens' : List (Option En)} {ftl:List (List Nat)} {fsv:List (List SV×Nat)} {x:Ctx} {a:Act}
  (hs:Sim w0 F0 K ac (A8 nt tl svs ml ens nx ftl fsv) x a) (h:F6g x ens ens'):Sim w0 F0 K ac (A8 nt tl svs ml ens' nx ftl fsv) x a:=by
 have hm:=hs.mem;refine ⟨hs.defers,hs.nt,hs.t,?_,hs.base,hs.frs⟩
 have key:=C1e (ml:=ml) h;refine ⟨fun p=>?_,fun p l hp=>?_,fun p q hp hn=>?_,fun p e hp hr=>?_,hm.inj,hm.own,hm.fw⟩
 ·rw[<-hm.dom p]
  show D1 none ml ens' p=none↔D1 none ml ens p=none;rcases key p with e | ⟨q,q',e1,e2,_⟩
  ·rw[e]
  ·rw[e1,e2]
   constructor<;>(intro h;cases h)
 ·have hp:D1 none ml ens' p=some (.fl l):=hp
  rcases key p with e | ⟨q,q',e1,e2,_⟩
  ·rw[<-e] at hp;exact hm.fl p l hp
  ·rw[e2] at hp;cases hp
 ·have hp:D1 none ml ens' p=some (.sq q):=hp
  rcases key p with e | ⟨q1,q',e1,e2,h0,_⟩
  ·rw[<-e] at hp;exact hm.nil p q hp hn
  ·rw[e2] at hp
   cases hp
   exact h0 (hm.nil p q1 e1 hn)
 ·have hp:D1 none ml ens' p=some e:=hp
  rcases key p with e0 | ⟨q,q',e1,e2,_,hc⟩
  ·rw[<-e0] at hp;exact hm.ent p e hp hr
  ·rw[e2] at hp
   cases hp
   obtain ⟨cs,ty,h1,h2⟩:=hm.ent p _ e1 hr;exact ⟨cs,ty,h1,hc _ h2⟩

/-- One row, and all rows. -/
def rwL (a:Fp×Fp×Fp):List (Fp×Fp×Fp):=(List.range 16).map (B4n pt0 a)
def tbL (a:Fp×Fp×Fp) (n:Nat):List (List (Fp×Fp×Fp)):=(List.range n).map fun i=>rwL (baT pt0 a i)
theorem C8l (a:Fp×Fp×Fp):(rwL a).length=16:=rfl
theorem C7b (a:Fp×Fp×Fp) {d:Nat} (h:d<16):(rwL a).getD d pt0=B4n pt0 a d:=by
 unfold rwL;rw[List.getD_eq_getElem?_getD,List.getElem?_map,List.getElem?_range h];rfl
theorem C8n (a:Fp×Fp×Fp) (n:Nat):(tbL a n).length=n:=by
 unfold tbL;rw[List.length_map,List.length_range]
theorem F3v (a:Fp×Fp×Fp) (n:Nat):tbL a (n+1)=tbL a n++[rwL (baT pt0 a n)]:=by
 unfold tbL;rw[List.range_succ,List.map_append];rfl
theorem E2d (a:Fp×Fp×Fp) {n i:Nat} (h:i<n):(tbL a n).getD i []=rwL (baT pt0 a i):=by
 unfold tbL;rw[List.getD_eq_getElem?_getD,List.getElem?_map,List.getElem?_range h];rfl
theorem G0x {L:List (Fp×Fp×Fp)} {a:Fp×Fp×Fp} (hl:L.length=16) (hg:∀j,j<16->L.getD j pt0=B4n pt0 a j):L=rwL a:=by
 apply List.ext_getElem (by rw[hl,C8l])
 intro j h1 h2;have e:=hg j (by omega)
 rw[<-C7b a (by omega),List.getD_eq_getElem?_getD,List.getD_eq_getElem?_getD,List.getElem?_eq_getElem h1,List.getElem?_eq_getElem h2] at e
 exact e
theorem F4v {L:List (Fp×Fp×Fp)} (h:L.length=16):[L.getD 0 pt0,L.getD 1 pt0,L.getD 2 pt0,L.getD 3 pt0,L.getD 4 pt0,L.getD 5 pt0,L.getD 6 pt0,L.getD 7 pt0,L.getD 8 pt0,L.getD 9 pt0,L.getD 10 pt0,L.getD 11 pt0,L.getD 12 pt0,L.getD 13 pt0,L.getD 14 pt0,L.getD 15 pt0]=L:=by
 match L,h with
 | [_,_,_,_,_,_,_,_,_,_,_,_,_,_,_,_],_=>rfl
end

section

theorem F4k (a:Fp×Fp×Fp) {N:Nat} (hN:N=64):FnD Tryz.prog 110 [.v (.a (I7 a))] (.v (.c (.sl (.ptt (tbL a N))))) []:=by
 refine M9 (fn:=Tryz.f110) (c:=B7 Tryz.f110) Tryz.func110 rfl rfl fun x0 a0 hk hF hs=>?_
 refine mv a trivial hs fun ac cY aY hs1=>?_
 have hs2:=hs1.nilRow (p:=17) (q:=.ptt []) rfl (by decide) rfl (ml' := [16,17]) (ens' := [some (.fl (I7 a)),some (.sq (.ptt []))]) (fun r=>C6a (by decide))
  (svs' := [.v (.c (.ptr 16 0)),.v (.c (.slc 17 0 0 288)),.v (.c (.int .i64 0))]) ⟨.inl rfl,.inr ⟨288,rfl,rfl⟩,.inl rfl,trivial⟩
 have hmax:65<=maxLen:=by decide
 change Wq Tryz.prog _ _ _ _ _ (J8 cY 17).w
 refine F4 (ι:={ i:Nat // i<=N }) (fun i=>mvS (baT pt0 a i.1) (tbL a i.1) i.1 (i.1:Int)) (fun i=>N-i.1) (c:=lpC D6j) (k:=lpR D6j) (by kernel_rfl) (fun i ih ac cY aY hs=>?_) ⟨0,Nat.zero_le _⟩ (hs2.nx _)
 obtain ⟨i,hi⟩:=i;simp only at ih hs
 by_cases h:i<N
 ·have hnext:baT pt0 a (i+1)=jpl (B4n pt0 (baT pt0 a i) 15) (baT pt0 a i):=rfl
  have htab:=F3v a i;have hlen:=C8n a i;have ih2:=ih ⟨i+1,h⟩ (by show N-(i+1)<N-i;omega)
  dsimp only at ih2;rw[hnext,htab] at ih2;clear ih hnext htab;generalize baT pt0 a i=o at hs ih2;generalize tbL a i=R at hs ih2 hlen;refine mvA o R i i ⟨decide_eq_true (by omega),trivial⟩ hs fun ac cU aU hs3=>?_
  have hs4:=hs3.blocks (ens' := [some (.fl (I7 o)),some (.sq (.ptt R)),some (.sq (.pt (List.replicate 16 pt0)))])
   ⟨.inl rfl,.inl rfl,.inr ⟨_,_,_,rfl,rfl,rfl,fun cs h=>G3q _ rfl cs h⟩,trivial⟩
  refine F4 (ι:={ p:Nat×List (Fp×Fp×Fp) // 1<=p.1∧p.1<=16∧p.2.length=16∧∀j,j<p.1->p.2.getD j pt0=B4n pt0 o j }) (fun p=>mvT o R i i p.1.2 (p.1.1:Int)) (fun p=>16-p.1.1) (c:=lpC B6l) (k:=lpR B6l) (by kernel_rfl) (fun p ih ac cY aY hs=>?_)
   ⟨(1,List.replicate 16 pt0),Nat.le_refl _,by decide,rfl,fun j hj=>by
    obtain rfl:j=0:=by have hj:j<1:=hj;omega
    rfl⟩ (hs4.nx _)
  obtain ⟨⟨d,L⟩,hd1,hd16,hL,hg⟩:=p;simp only at ih hs hd1 hd16 hL hg
  by_cases hd:d<16
  ·have ed:(wrap IntKind.i64 ((d:Int)-1))=((d-1:Nat):Int):=by rw[B9 (by omega) (by omega)];omega
   have ed2:(wrap IntKind.i64 ((d:Int)+1))=((d+1:Nat):Int):=by rw[B9 (by omega) (by omega)];rfl
   refine mvB o R i i L d ⟨decide_eq_true (by omega),by rw[ed];omega,by rw[ed];omega,rfl,by rw[ed,Int.toNat_natCast];omega,by omega,by omega,rfl,by rw[Int.toNat_natCast];omega,trivial⟩ hs fun ac cV aV hs5=>?_
   rw[ed,ed2,Int.toNat_natCast,Int.toNat_natCast,hg (d-1) (by omega)] at hs5
   have er:jpl (B4n pt0 o (d-1)) o=B4n pt0 o d:=by
    obtain ⟨e,rfl⟩:∃e,d=e+1:=⟨d-1,by omega⟩
    rfl
   rw[er] at hs5;refine ih ⟨(d+1,L.set d (B4n pt0 o d)),by show 1<=d+1;omega,hd,(List.length_set ..).trans hL,fun j hj=>?_⟩ (by show 16-(d+1)<16-d;omega) ac cV aV (hs5.nx _)
   have hj:j<d+1:=hj;show (L.set d _).getD j pt0=_;rw[A4v _ _ _ _ _ (by omega)]
   by_cases e:j=d
   ·subst e;rw[if_pos rfl]
   ·rw[if_neg e];exact hg j (by omega)
  ·obtain rfl:d=16:=by omega
   have eL:L=rwL o:=G0x hL hg;have h15:=C7b o (d:=15) (by decide)
   have h16:=C8l o;rw[<-eL] at ih2 h15 h16;have hs5:=hs.rows (ens' := [some (.fl (I7 o)),some (.sq (.ptt R)),some (.sq (.ptt [L]))])
    ⟨.inl rfl,.inl rfl,.inr ⟨_,_,rfl,rfl,fun h=>by have h:L.length=0:=h;omega,fun cs h=>G5r L h16 cs h⟩,trivial⟩
   refine mvC o R i i L 16 ⟨by decide,by decide,by omega,by omega,by omega,rfl,trivial⟩ (hs5.nx _) fun ac cV aV hs6=>?_
   rw[F4v h16] at hs6;have hs7:=hs6.rows (ens' := [some (.fl (I7 o)),some (.sq (.ptt (R++[L]))),some (.sq (.pt L))])
    ⟨.inl rfl,.inl rfl,.inr ⟨_,_,rfl,rfl,fun h=>Nat.noConfusion (show 1=0 from h),fun cs h=>G9e L h16 cs h⟩,trivial⟩
   have hs8:Sim x0.w x0.F W0 ac (mvV o R i i L 16) cV aV:=by
    unfold mvV;rw[F4v h16];exact hs7
   refine mvD o R i i L 16 ⟨by decide,by decide,rfl,by omega,trivial⟩ hs8 fun ac cW aW hs9=>?_
   rw[F4v h16,h15,B9 (n:=(i:Int)+1) (by omega) (by omega),hlen] at hs9
   exact ih2 ac cW aW (hs9.nx _)
 ·obtain rfl:i=N:=by omega
  exact K9 P3 hk hF (G2o _ _ _ _) ⟨decide_eq_false (by omega),(C8n a i).symm,trivial⟩ (fun y v hd=>hd) hs

end

section
section
variable {w0:World} {F0:Nat->Prop} {K:Kp} {ac:List Act} {Q:Exit->Act->World->Prop} {cX:Ctx} {aX:Act}

--@env qtG P3
def D9b:List KI:=(run qtG false 3000 ((fun (T:List (List (Fp×Fp×Fp))) (k:U4)=>(⟨[.code (B7 Tryz.f111)],.normal,E4 Tryz.f111.ntmps [.v (.c (.sl (.ptt T))),.v (.a [.ob (.fr k)])]⟩:Cfg)) default default) []).cfg.k
theorem pc (T:List (List (Fp×Fp×Fp))) (k:U4) (ho:A7 []):Sg Tryz.prog (E4 Tryz.f111.ntmps [.v (.c (.sl (.ptt T))),.v (.a [.ob (.fr k)])]) (A8 30 [3,4,5,8,9,10] [.pt 16 0,.pt 32 0,.pt 48 0,(.ci (.sl (Sq.ptt T))),(.ii (T.length:Int)),.ii (0:Int)] [16,32,48] [(eF_ [.ob (.fr k)]),(eF_ [(.ob (.p (0:Fp))),(.ob (.p (0:Fp))),(.ob (.p (0:Fp)))]),(eF_ [(.ob (.p (0:Fp))),(.ob (.p (0:Fp))),(.ob (.p (0:Fp)))])] 112 [] []) .normal (D9b) ([.code (B7 Tryz.f111)]):=fun hs hK=>
 A5 (unroll:=false) (n:=3000) (path:=[]) (o:=⟨_,_,_,_,_,_,_⟩) P3 (by kernel_rfl) (by kernel_rfl) ho hs hK
def pcS (T:List (List (Fp×Fp×Fp))) (k:U4) (o:Fp×Fp×Fp) (i:Int):St:=A8 30 [3,4,5,8,9,10] [.pt 16 0,.pt 32 0,.pt 48 0,(.ci (.sl (Sq.ptt T))),(.ii (T.length:Int)),.v (.c (.int .i64 i))] [16,32,48] [(eF_ [.ob (.fr k)]),(eF_ [(.ob (.p (0:Fp))),(.ob (.p (0:Fp))),(.ob (.p (0:Fp)))]),some (.fl [.ob (.p o.1),.ob (.p o.2.1),.ob (.p o.2.2)])] 112 [] []
def G2u:List KI:=(run qtG false 18 ((fun (T:List (List (Fp×Fp×Fp))) (k:U4) (o:Fp×Fp×Fp) (i:Int)=>(⟨E7 D9b,.normal,pcS T k o i⟩:Cfg)) default default default default) [true]).cfg.k
theorem pcA (T:List (List (Fp×Fp×Fp))) (k:U4) (o:Fp×Fp×Fp) (i:Int) (ho:A7 [((decide (i<(T.length:Int)))=true),(0<=i),(i<(T.length:Int))]):Sg Tryz.prog (pcS T k o i) (A8 30 [3,4,5,6,7,8,9,10] [.pt 16 0,.pt 32 0,.pt 48 0,.ii i,.pt 176 0,(.ci (.sl (Sq.ptt T))),(.ii (T.length:Int)),.ii i] [16,32,48,176] [(eF_ [.ob (.fr k)]),(eF_ [(.ob (.p (0:Fp))),(.ob (.p (0:Fp))),(.ob (.p (0:Fp)))]),(eF_ [(.ob (.p (Prod.fst o))),(.ob (.p (Prod.fst (Prod.snd o)))),(.ob (.p (Prod.snd (Prod.snd o))))]),(eF_ [(.ob (.p (Prod.fst (List.getD (List.getD T (i).toNat ([]:List (Prod Fp (Prod Fp Fp)))) 0 pt0)))),(.ob (.p (Prod.fst (Prod.snd (List.getD (List.getD T (i).toNat ([]:List (Prod Fp (Prod Fp Fp)))) 0 pt0))))),(.ob (.p (Prod.snd (Prod.snd (List.getD (List.getD T (i).toNat ([]:List (Prod Fp (Prod Fp Fp)))) 0 pt0))))),(.ob (.p (Prod.fst (List.getD (List.getD T (i).toNat ([]:List (Prod Fp (Prod Fp Fp)))) 1 pt0)))),(.ob (.p (Prod.fst (Prod.snd (List.getD (List.getD T (i).toNat ([]:List (Prod Fp (Prod Fp Fp)))) 1 pt0))))),(.ob (.p (Prod.snd (Prod.snd (List.getD (List.getD T (i).toNat ([]:List (Prod Fp (Prod Fp Fp)))) 1 pt0))))),(.ob (.p (Prod.fst (List.getD (List.getD T (i).toNat ([]:List (Prod Fp (Prod Fp Fp)))) 2 pt0)))),(.ob (.p (Prod.fst (Prod.snd (List.getD (List.getD T (i).toNat ([]:List (Prod Fp (Prod Fp Fp)))) 2 pt0))))),(.ob (.p (Prod.snd (Prod.snd (List.getD (List.getD T (i).toNat ([]:List (Prod Fp (Prod Fp Fp)))) 2 pt0))))),(.ob (.p (Prod.fst (List.getD (List.getD T (i).toNat ([]:List (Prod Fp (Prod Fp Fp)))) 3 pt0)))),(.ob (.p (Prod.fst (Prod.snd (List.getD (List.getD T (i).toNat ([]:List (Prod Fp (Prod Fp Fp)))) 3 pt0))))),(.ob (.p (Prod.snd (Prod.snd (List.getD (List.getD T (i).toNat ([]:List (Prod Fp (Prod Fp Fp)))) 3 pt0))))),(.ob (.p (Prod.fst (List.getD (List.getD T (i).toNat ([]:List (Prod Fp (Prod Fp Fp)))) 4 pt0)))),(.ob (.p (Prod.fst (Prod.snd (List.getD (List.getD T (i).toNat ([]:List (Prod Fp (Prod Fp Fp)))) 4 pt0))))),(.ob (.p (Prod.snd (Prod.snd (List.getD (List.getD T (i).toNat ([]:List (Prod Fp (Prod Fp Fp)))) 4 pt0))))),(.ob (.p (Prod.fst (List.getD (List.getD T (i).toNat ([]:List (Prod Fp (Prod Fp Fp)))) 5 pt0)))),(.ob (.p (Prod.fst (Prod.snd (List.getD (List.getD T (i).toNat ([]:List (Prod Fp (Prod Fp Fp)))) 5 pt0))))),(.ob (.p (Prod.snd (Prod.snd (List.getD (List.getD T (i).toNat ([]:List (Prod Fp (Prod Fp Fp)))) 5 pt0))))),(.ob (.p (Prod.fst (List.getD (List.getD T (i).toNat ([]:List (Prod Fp (Prod Fp Fp)))) 6 pt0)))),(.ob (.p (Prod.fst (Prod.snd (List.getD (List.getD T (i).toNat ([]:List (Prod Fp (Prod Fp Fp)))) 6 pt0))))),(.ob (.p (Prod.snd (Prod.snd (List.getD (List.getD T (i).toNat ([]:List (Prod Fp (Prod Fp Fp)))) 6 pt0))))),(.ob (.p (Prod.fst (List.getD (List.getD T (i).toNat ([]:List (Prod Fp (Prod Fp Fp)))) 7 pt0)))),(.ob (.p (Prod.fst (Prod.snd (List.getD (List.getD T (i).toNat ([]:List (Prod Fp (Prod Fp Fp)))) 7 pt0))))),(.ob (.p (Prod.snd (Prod.snd (List.getD (List.getD T (i).toNat ([]:List (Prod Fp (Prod Fp Fp)))) 7 pt0))))),(.ob (.p (Prod.fst (List.getD (List.getD T (i).toNat ([]:List (Prod Fp (Prod Fp Fp)))) 8 pt0)))),(.ob (.p (Prod.fst (Prod.snd (List.getD (List.getD T (i).toNat ([]:List (Prod Fp (Prod Fp Fp)))) 8 pt0))))),(.ob (.p (Prod.snd (Prod.snd (List.getD (List.getD T (i).toNat ([]:List (Prod Fp (Prod Fp Fp)))) 8 pt0))))),(.ob (.p (Prod.fst (List.getD (List.getD T (i).toNat ([]:List (Prod Fp (Prod Fp Fp)))) 9 pt0)))),(.ob (.p (Prod.fst (Prod.snd (List.getD (List.getD T (i).toNat ([]:List (Prod Fp (Prod Fp Fp)))) 9 pt0))))),(.ob (.p (Prod.snd (Prod.snd (List.getD (List.getD T (i).toNat ([]:List (Prod Fp (Prod Fp Fp)))) 9 pt0))))),(.ob (.p (Prod.fst (List.getD (List.getD T (i).toNat ([]:List (Prod Fp (Prod Fp Fp)))) 10 pt0)))),(.ob (.p (Prod.fst (Prod.snd (List.getD (List.getD T (i).toNat ([]:List (Prod Fp (Prod Fp Fp)))) 10 pt0))))),(.ob (.p (Prod.snd (Prod.snd (List.getD (List.getD T (i).toNat ([]:List (Prod Fp (Prod Fp Fp)))) 10 pt0))))),(.ob (.p (Prod.fst (List.getD (List.getD T (i).toNat ([]:List (Prod Fp (Prod Fp Fp)))) 11 pt0)))),(.ob (.p (Prod.fst (Prod.snd (List.getD (List.getD T (i).toNat ([]:List (Prod Fp (Prod Fp Fp)))) 11 pt0))))),(.ob (.p (Prod.snd (Prod.snd (List.getD (List.getD T (i).toNat ([]:List (Prod Fp (Prod Fp Fp)))) 11 pt0))))),(.ob (.p (Prod.fst (List.getD (List.getD T (i).toNat ([]:List (Prod Fp (Prod Fp Fp)))) 12 pt0)))),(.ob (.p (Prod.fst (Prod.snd (List.getD (List.getD T (i).toNat ([]:List (Prod Fp (Prod Fp Fp)))) 12 pt0))))),(.ob (.p (Prod.snd (Prod.snd (List.getD (List.getD T (i).toNat ([]:List (Prod Fp (Prod Fp Fp)))) 12 pt0))))),(.ob (.p (Prod.fst (List.getD (List.getD T (i).toNat ([]:List (Prod Fp (Prod Fp Fp)))) 13 pt0)))),(.ob (.p (Prod.fst (Prod.snd (List.getD (List.getD T (i).toNat ([]:List (Prod Fp (Prod Fp Fp)))) 13 pt0))))),(.ob (.p (Prod.snd (Prod.snd (List.getD (List.getD T (i).toNat ([]:List (Prod Fp (Prod Fp Fp)))) 13 pt0))))),(.ob (.p (Prod.fst (List.getD (List.getD T (i).toNat ([]:List (Prod Fp (Prod Fp Fp)))) 14 pt0)))),(.ob (.p (Prod.fst (Prod.snd (List.getD (List.getD T (i).toNat ([]:List (Prod Fp (Prod Fp Fp)))) 14 pt0))))),(.ob (.p (Prod.snd (Prod.snd (List.getD (List.getD T (i).toNat ([]:List (Prod Fp (Prod Fp Fp)))) 14 pt0))))),(.ob (.p (Prod.fst (List.getD (List.getD T (i).toNat ([]:List (Prod Fp (Prod Fp Fp)))) 15 pt0)))),(.ob (.p (Prod.fst (Prod.snd (List.getD (List.getD T (i).toNat ([]:List (Prod Fp (Prod Fp Fp)))) 15 pt0))))),(.ob (.p (Prod.snd (Prod.snd (List.getD (List.getD T (i).toNat ([]:List (Prod Fp (Prod Fp Fp)))) 15 pt0)))))])] 224 [] []) .normal (G2u) (E7 D9b):=fun hs hK=>
 A5 (unroll:=false) (n:=18) (path:=[true]) (o:=⟨_,_,_,_,_,_,_⟩) P3 (by kernel_rfl) (by kernel_rfl) ho hs hK
theorem F8d (T:List (List (Fp×Fp×Fp))) (k:U4) (o:Fp×Fp×Fp) (i:Int):I0 qtG Tryz.f111 false 3000 (⟨E7 D9b,.normal,pcS T k o i⟩) [false] [] []=(some ([((decide (i<(T.length:Int)))=false)],((.v (.a [(.ob (.p (Prod.fst o))),(.ob (.p (Prod.fst (Prod.snd o)))),(.ob (.p (Prod.snd (Prod.snd o))))])),[]))):=by kernel_rfl
def pcT (T:List (List (Fp×Fp×Fp))) (k:U4) (o:Fp×Fp×Fp) (i:Int) (L:List (Fp×Fp×Fp)):St:=A8 30 [3,4,5,6,7,8,9,10] [.pt 16 0,.pt 32 0,.pt 48 0,.ii i,.pt 176 0,(.ci (.sl (Sq.ptt T))),(.ii (T.length:Int)),.ii i] [16,32,48,176] [(eF_ [.ob (.fr k)]),(eF_ [(.ob (.p (0:Fp))),(.ob (.p (0:Fp))),(.ob (.p (0:Fp)))]),(eF_ [(.ob (.p (Prod.fst o))),(.ob (.p (Prod.fst (Prod.snd o)))),(.ob (.p (Prod.snd (Prod.snd o))))]),some (.sq (.pt L))] 224 [] []
theorem pcB (T:List (List (Fp×Fp×Fp))) (k:U4) (o:Fp×Fp×Fp) (i:Int) (L:List (Fp×Fp×Fp)) (ho:A7 [((16:Int)≠(0:Int)),(0<=(wrap .i64 (Int.tdiv i (16:Int)))),((wrap .i64 (Int.tdiv i (16:Int)))<(4:Int)),((0+(((wrap .i64 (Int.tdiv i (16:Int)))).toNat*1))<(Ob.k (.fr k))),((16:Int)≠(0:Int)),(0<=(wrap .i64 ((4:Int)*(Int.tmod i (16:Int))))),(0<=(E5 BinOp.and IntKind.u64 (Int.fdiv (A1 (Ob.n (.fr k)) (0+(((wrap .i64 (Int.tdiv i (16:Int)))).toNat*1))) ((2:Int) ^ (Min.min ((wrap .i64 ((4:Int)*(Int.tmod i (16:Int))))).toNat 64))) (15:Int))),((E5 BinOp.and IntKind.u64 (Int.fdiv (A1 (Ob.n (.fr k)) (0+(((wrap .i64 (Int.tdiv i (16:Int)))).toNat*1))) ((2:Int) ^ (Min.min ((wrap .i64 ((4:Int)*(Int.tmod i (16:Int))))).toNat 64))) (15:Int))<(16:Int)),(0=0),(((E5 BinOp.and IntKind.u64 (Int.fdiv (A1 (Ob.n (.fr k)) (0+(((wrap .i64 (Int.tdiv i (16:Int)))).toNat*1))) ((2:Int) ^ (Min.min ((wrap .i64 ((4:Int)*(Int.tmod i (16:Int))))).toNat 64))) (15:Int))).toNat<L.length)]):Sg Tryz.prog (pcT T k o i L) (A8 30 [3,4,5,8,9,10] [.pt 16 0,.pt 32 0,.pt 48 0,(.ci (.sl (Sq.ptt T))),(.ii (T.length:Int)),(.ii (wrap .i64 (i+1)))] [16,32,48] [(eF_ [.ob (.fr k)]),(eF_ [(.ob (.p (0:Fp))),(.ob (.p (0:Fp))),(.ob (.p (0:Fp)))]),(eF_ [(.ob (.p (Prod.fst (jpl o (List.getD L ((E5 BinOp.and IntKind.u64 (Int.fdiv (A1 (Ob.n (.fr k)) (0+(((wrap .i64 (Int.tdiv i (16:Int)))).toNat*1))) ((2:Int) ^ (Min.min ((wrap .i64 ((4:Int)*(Int.tmod i (16:Int))))).toNat 64))) (15:Int))).toNat pt0))))),(.ob (.p (Prod.fst (Prod.snd (jpl o (List.getD L ((E5 BinOp.and IntKind.u64 (Int.fdiv (A1 (Ob.n (.fr k)) (0+(((wrap .i64 (Int.tdiv i (16:Int)))).toNat*1))) ((2:Int) ^ (Min.min ((wrap .i64 ((4:Int)*(Int.tmod i (16:Int))))).toNat 64))) (15:Int))).toNat pt0)))))),(.ob (.p (Prod.snd (Prod.snd (jpl o (List.getD L ((E5 BinOp.and IntKind.u64 (Int.fdiv (A1 (Ob.n (.fr k)) (0+(((wrap .i64 (Int.tdiv i (16:Int)))).toNat*1))) ((2:Int) ^ (Min.min ((wrap .i64 ((4:Int)*(Int.tmod i (16:Int))))).toNat 64))) (15:Int))).toNat pt0))))))])] 480 [] []) .normal (N8 D9b) (G2u):=fun hs hK=>
 A5 (unroll:=false) (n:=3000) (path:=[]) (o:=⟨_,_,_,_,_,_,_⟩) P3 (by kernel_rfl) (by kernel_rfl) ho hs hK
end
end

section

theorem E3k (k:U4) {i:Nat} (hi:i<64):E5 BinOp.and IntKind.u64 (Int.fdiv (A1 (Ob.n (Ob.fr k)) (0+(((wrap IntKind.i64 (Int.tdiv (i:Int) (16:Int)))).toNat*1))) ((2:Int) ^ (Min.min ((wrap IntKind.i64 ((4:Int)*(Int.tmod (i:Int) (16:Int))))).toNat 64))) (15:Int)=((k.val / 16 ^ i % 16:Nat):Int):=by
 have e1:Int.tdiv (i:Int) (16:Int)=((i / 16:Nat):Int):=Int.tdiv_eq_ediv_of_nonneg (by omega)
 have e2:Int.tmod (i:Int) (16:Int)=((i % 16:Nat):Int):=Int.tmod_eq_emod_of_nonneg (by omega)
 rw[e1,e2,B9 (n:=((i / 16:Nat):Int)) (by omega) (by omega),B9 (n:=(4:Int)*((i % 16:Nat):Int)) (by omega) (by omega),Int.toNat_natCast]
 have e3:Min.min ((4:Int)*((i % 16:Nat):Int)).toNat 64=4*(i % 16):=by omega
 have e4:0+i / 16*1=i / 16:=by omega
 rw[e3,e4];have hl:A1 (Ob.n (Ob.fr k)) (i / 16)=((k.val / 2 ^ (64*(i / 16)) % 18446744073709551616:Nat):Int):=rfl;rw[hl,<-D9y k.val i];generalize k.val / 2 ^ (64*(i / 16)) % 18446744073709551616=m;have hp:((2:Int) ^ (4*(i % 16)))=((2 ^ (4*(i % 16)):Nat):Int):=by simp
 rw[hp,Int.fdiv_eq_ediv_of_nonneg _ (Int.natCast_nonneg _),<-Int.natCast_ediv,G2w]

/-- One of each row of any table, added up. -/
def pkL (T:List (List (Fp×Fp×Fp))) (v:Nat):Nat->Fp×Fp×Fp
 | 0=>pt0
 | i+1=>jpl (pkL T v i) ((T.getD i []).getD (v / 16 ^ i % 16) pt0)
theorem F3w (a:Fp×Fp×Fp) (v n:Nat):∀i,i<=n->pkL (tbL a n) v i=pkT pt0 a v i
 | 0,_=>rfl
 | i+1,h=>by
  show jpl (pkL (tbL a n) v i) (((tbL a n).getD i []).getD (v / 16 ^ i % 16) pt0)=jpl (pkT pt0 a v i) (B4n pt0 (baT pt0 a i) (v / 16 ^ i % 16));rw[F3w a v n i (by omega),E2d a (by omega),C7b _ (Nat.mod_lt _ (by decide))]
theorem F6c (T:List (List (Fp×Fp×Fp))) (k:U4) {N:Nat} (hN:N=64) (hlen:T.length=N) (h16:∀i,i<N->(T.getD i []).length=16):FnD Tryz.prog 111 [.v (.c (.sl (.ptt T))),.v (.a [.ob (.fr k)])] (.v (.a (I7 (pkL T k.val N)))) []:=by
 refine M9 (fn:=Tryz.f111) (c:=B7 Tryz.f111) Tryz.func111 rfl rfl fun x0 a0 hk hF hs=>?_
 refine pc T k trivial hs fun ac cY aY hs1=>?_
 refine F4 (ι:={ i:Nat // i<=N }) (fun i=>pcS T k (pkL T k.val i.1) (i.1:Int)) (fun i=>N-i.1) (c:=lpC D9b) (k:=lpR D9b) (by kernel_rfl) (fun i ih ac cY aY hs=>?_) ⟨0,Nat.zero_le _⟩ (hs1.nx _)
 obtain ⟨i,hi⟩:=i;simp only at ih hs
 by_cases h:i<N
 ·have hnext:pkL T k.val (i+1)=jpl (pkL T k.val i) ((T.getD i []).getD (k.val / 16 ^ i % 16) pt0):=rfl
  have hdl:k.val / 16 ^ i % 16<16:=Nat.mod_lt _ (by decide)
  have h16:=h16 i h;have hdig:=E3k k (i:=i) (by omega)
  have hpl:=C4l (i:=i) (by omega)
  have hsh:=C3s i;have ih2:=ih ⟨i+1,h⟩ (by show N-(i+1)<N-i;omega)
  dsimp only at ih2;rw[hnext] at ih2;clear ih hnext;generalize pkL T k.val i=o at hs ih2;refine pcA T k o i ⟨decide_eq_true (by omega),by omega,by omega,trivial⟩ hs fun ac cU aU hs3=>?_
  rw[Int.toNat_natCast] at hs3;generalize T.getD i []=L at ih2 h16 hs3;have hs4:=hs3.blocks (ens' := [some (.fl [.ob (.fr k)]),some (.fl (I7 pt0)),some (.fl (I7 o)),some (.sq (.pt L))])
   ⟨.inl rfl,.inl rfl,.inl rfl,.inr ⟨_,_,_,rfl,rfl,rfl,fun cs h=>G3q L h16 cs h⟩,trivial⟩
  refine pcB T k o i L ⟨by decide,by rw[hpl];omega,by rw[hpl];omega,by rw[hpl,Int.toNat_natCast];show 0+i / 16*1<4;omega,by decide,hsh,by rw[hdig];omega,by rw[hdig];omega,rfl,by rw[hdig,Int.toNat_natCast];omega,trivial⟩ hs4 fun ac cV aV hs5=>?_
  rw[hdig,Int.toNat_natCast,B9 (n:=(i:Int)+1) (by omega) (by omega)] at hs5
  exact ih2 ac cV aV (hs5.nx _)
 ·obtain rfl:i=N:=by omega
  generalize pkL T k.val i=o at hs ⊢
  exact K9 P3 hk hF (F8d _ _ _ _) ⟨decide_eq_false (by omega),trivial⟩ (fun y v hd=>hd) hs

end

section
section
variable {w0:World} {F0:Nat->Prop} {K:Kp} {ac:List Act} {Q:Exit->Act->World->Prop} {cX:Ctx} {aX:Act}

def pvA:Env:=qeI.or S4.gK
theorem A8n:A6 Tryz.prog pvA:=A4j A3l S4.E8m
theorem C8b (v : Value) (w : World) : (method (Tryz.prog.types.size + Made.depth) 98 v "Times").run Tryz.prog w = .ok (47, v) w := by kernel_rfl
def G8o (T : Nat → Option (List (String × Nat))) (t : Nat) : Option (List (String × Nat)) := if t = 98 then some [("Times", 47)] else T t
def pvB:Env:={ pvA with inv:=G8o pvA.inv }
theorem A4m:A6 Tryz.prog pvB:=by
 refine ⟨A8n.ty,A8n.mixed,A8n.fn,A8n.mu,A8n.inl,A8n.ex,fun t l h=>?_⟩
 have h:G8o pvA.inv t=some l:=h;unfold G8o at h;split at h
 ·rename_i ht
  cases h
  subst ht;refine ⟨by kernel_rfl,fun name g hg v args w=>?_⟩
  unfold X9 at hg;split at hg
  ·rename_i hn
   cases hg
   subst hn;simp only[callMethod,Sem.run_bind,run_program,Result.andThen_ok,C8b]
  cases hg
 ·exact A8n.inv t l h
--@env pvB A4m
def C5x:List KI:=(run pvB false 3000 ((fun (a:Fr) (e:List Int)=>(⟨[.code (B7 Tryz.f168)],.normal,E4 Tryz.f168.ntmps [.v (.a [.ob (.s a)]),.v (.a [.ob (.s 1)]),.v (.c (.sl (.u64 e)))]⟩:Cfg)) default default) []).cfg.k
theorem pz (a:Fr) (e:List Int) (ho:A7 []):Sg Tryz.prog (E4 Tryz.f168.ntmps [.v (.a [.ob (.s a)]),.v (.a [.ob (.s 1)]),.v (.c (.sl (.u64 e)))]) (A8 23 [3,6,7,11] [.pt 16 0,.pt 48 0,.pt 80 0,(.ci (.clo 123 [(128,0)]))] [16,48,80,128] [(eF_ [.ob (.s a)]),(eF_ [(.ob (.s (0:Fr)))]),(eF_ [(.ob (.s (1:Fr)))]),(eF_ [.sl (.u64 e)])] 192 [] []) .normal (C5x) ([.code (B7 Tryz.f168)]):=fun hs hK=>
 A5 (unroll:=false) (n:=3000) (path:=[]) (o:=⟨_,_,_,_,_,_,_⟩) A4m (by kernel_rfl) (by kernel_rfl) ho hs hK
def pzS (a:Fr) (e:List Int) (o:Fr):St:=A8 23 [3,6,7,11] [.pt 16 0,.pt 48 0,.pt 80 0,(.ci (.clo 123 [(128,0)]))] [16,48,80,128] [(eF_ [.ob (.s a)]),(eF_ [(.ob (.s (0:Fr)))]),some (.fl [.ob (.s o)]),(eF_ [.sl (.u64 e)])] 192 [] []
theorem pzA (a:Fr) (e:List Int) (o:Fr) (z:Bool) {ρ:Option Nat} (ho:A7 []) (hs:Sim w0 F0 K ac (U3 (pzS a e o) [(12,.v (.c (.bool z)))]) cX aX) (hK:∀cY aY,Sim w0 F0 K ac (A8 23 [3,6,7,8] [.pt 16 0,.pt 48 0,.pt 80 0,(.ci (.bool z))] [16,48,80,128] [(eF_ [.ob (.s a)]),(eF_ [(.ob (.s (0:Fr)))]),(eF_ [.ob (.s o)]),(eF_ [.sl (.u64 e)])] 208 [[3,6,7,11]] [([.pt 16 0,.pt 48 0,.pt 80 0,(.ci (.clo 123 [(128,0)]))],23)]) cY aY->Wq Tryz.prog Q ([]) ac Exit.normal aY cY.w ρ):Wq Tryz.prog Q ([.code (rfA C5x)]) ac .normal aX cX.w ρ :=
 F8 (unroll:=false) (n:=3000) (path:=[]) (o:=⟨_,_,_,_,_,_,_⟩) A4m (by kernel_rfl) (by kernel_rfl) ho (by kernel_rfl) (by kernel_rfl) hs hK
def pzB (a:Fr) (e:List Int) (o:Fr) (z:Bool):St:=A8 23 [3,6,7,8] [.pt 16 0,.pt 48 0,.pt 80 0,(.ci (.bool z))] [16,48,80,128] [(eF_ [.ob (.s a)]),(eF_ [(.ob (.s (0:Fr)))]),some (.fl [.ob (.s o)]),(eF_ [.sl (.u64 e)])] 208 [[3,6,7,11]] [([.pt 16 0,.pt 48 0,.pt 80 0,(.ci (.clo 123 [(128,0)]))],23)]
theorem pzC (a:Fr) (e:List Int) (o:Fr) (z:Bool) {ρ:Option Nat} (ho:A7 [(z=true)]) (hs:Sim w0 F0 K ac (pzB a e o z) cX aX) (hK:∀cY aY,Sim w0 F0 K ac (A8 23 [6] [.pt 48 0] [16,48,80,128] [(eF_ [.ob (.s a)]),(eF_ [(.ob (.s (0:Fr)))]),(eF_ [(.ob (.s ((o*o)*a)))]),(eF_ [.sl (.u64 e)])] 384 [[3,6,7,11]] [([.pt 16 0,.pt 48 0,.pt 80 0,(.ci (.clo 123 [(128,0)]))],23)]) cY aY->Wq Tryz.prog Q ([]) ac Exit.normal aY cY.w ρ):Wq Tryz.prog Q ([.code (rfB C5x)]) ac .normal aX cX.w ρ :=
 F8 (unroll:=false) (n:=3000) (path:=[true]) (o:=⟨_,_,_,_,_,_,_⟩) A4m (by kernel_rfl) (by kernel_rfl) ho (by kernel_rfl) (by kernel_rfl) hs hK
theorem pzD (a:Fr) (e:List Int) (o:Fr) (z:Bool) {ρ:Option Nat} (ho:A7 [(z=false)]) (hs:Sim w0 F0 K ac (pzB a e o z) cX aX) (hK:∀cY aY,Sim w0 F0 K ac (A8 23 [6] [.pt 48 0] [16,48,80,128] [(eF_ [.ob (.s a)]),(eF_ [(.ob (.s (0:Fr)))]),(eF_ [(.ob (.s (o*o)))]),(eF_ [.sl (.u64 e)])] 304 [[3,6,7,11]] [([.pt 16 0,.pt 48 0,.pt 80 0,(.ci (.clo 123 [(128,0)]))],23)]) cY aY->Wq Tryz.prog Q ([]) ac Exit.normal aY cY.w ρ):Wq Tryz.prog Q ([.code (rfB C5x)]) ac .normal aX cX.w ρ :=
 F8 (unroll:=false) (n:=3000) (path:=[false]) (o:=⟨_,_,_,_,_,_,_⟩) A4m (by kernel_rfl) (by kernel_rfl) ho (by kernel_rfl) (by kernel_rfl) hs hK
theorem pzX (a:Fr) (e:List Int) (o:Fr) (ho:A7 []):Sg Tryz.prog (pzS a e o) (A8 23 [6] [.pt 48 0] [48] [(eF_ [.ob (.s o)])] 224 [] []) .ret ([]) (rfR C5x):=fun hs hK=>
 A5 (unroll:=false) (n:=3000) (path:=[]) (o:=⟨_,_,_,_,_,_,_⟩) A4m (by kernel_rfl) (by kernel_rfl) ho hs hK
def pzE (a:Fr) (e:List Int) (o:Fr):St:=A8 23 [6] [.pt 48 0] [16,48,80,128] [(eF_ [.ob (.s a)]),(eF_ [(.ob (.s (0:Fr)))]),some (.fl [.ob (.s o)]),(eF_ [.sl (.u64 e)])] 384 [[3,6,7,11]] [([.pt 16 0,.pt 48 0,.pt 80 0,(.ci (.clo 123 [(128,0)]))],23)]
def pzZ (o:Fr):St:=A8 23 [6] [.pt 48 0] [48] [some (.fl [.ob (.s o)])] 224 [] []
theorem F8q (o:Fr):I0 pvB Tryz.f168 false 3000 (⟨[],.ret,pzZ o⟩) [] [] []=(some ([],((.v (.a [.ob (.s o)])),[]))):=by kernel_rfl
end
end

section

theorem F9h (a:Fr) (l:List Bool) (z:Bool):pw a (pv (l++[z]))=if z=true then pw a (pv l)*pw a (pv l)*a else pw a (pv l)*pw a (pv l):=by
 rw[B6i,Nat.two_mul]
 cases z with
 | true=>
  rw[if_pos rfl,<-O4];rfl
 | false=>
  rw[if_neg (by decide),<-O4]
  rfl

theorem D8c (a:Fr) (e:List Int) (hl:e.length<=16) (hlim:A3a e) :
  FnD Tryz.prog 168 [.v (.a [.ob (.s a)]),.v (.a [.ob (.s 1)]),.v (.c (.sl (.u64 e)))] (.v (.a [.ob (.s (pw a (M6 e)))])) []:=by
 refine Q8 (fn:=Tryz.f168) (c:=B7 Tryz.f168) Tryz.func168 rfl rfl fun x b hk hF hs=>?_
 refine pz a e trivial hs fun ac cY aY hs1=>?_
 obtain ⟨e1,e2⟩:=A1l (k:=C5x) (by kernel_rfl)
 rw[e1];have eP:(rfP C5x).toList=[12]:=by kernel_rfl
 have eG:rfG C5x = .tmp 11:=by kernel_rfl
 refine W5 (ps:=rfP C5x) e2 hs1 (gf:=123) (caps:=[(128,0)]) (A3 Tryz.func123 rfl rfl) (fun pre=>pzS a e (pw a (pv pre))) (fun s=>by rw[eG];rfl) ⟨_,rfl⟩ (btL (M6 e) (L0 e e.length) (L0 e e.length)) C9l C0u
  (fun y z=>.cons ⟨rfl,0,rfl⟩ .nil) (fun z=>by rw[<-Array.length_toList,eP];rfl) (fun pre p hp=>?_) (A6k hl hlim fun s=>rfl) (fun pre z=>pzB a e (pw a (pv pre)) z)
  (fun pre z=>pzE a e (pw a (pv (pre++[z])))) (fun pre z=>⟨_,rfl⟩) (fun pre z hz w1 F1 K1 as1 Q1 l y b hs2 hQ=>?_) (fun pre z hz w1 F1 K1 as1 Q1 l y b hs2 hQ=>?_) fun D y hs2 hD hFD hd=>?_
 ·rw[eP] at hp
  have h23:(pzS a e (pw a (pv pre))).nt=23:=rfl;rw[h23];simp only[List.mem_cons,List.not_mem_nil,or_false] at hp;subst hp;decide
 ·rw[eP] at hs2
  exact pzA a e _ z trivial hs2 fun cZ aZ hs3=>⟨hQ _ _ (hs3.nx _)⟩
 ·rw[F9h] at hQ
  cases z with
  | true=>exact pzC a e _ true ⟨rfl,trivial⟩ hs2 fun cZ aZ hs3=>⟨hQ _ _ (hs3.nx _)⟩
  | false=>exact pzD a e _ false ⟨rfl,trivial⟩ hs2 fun cZ aZ hs3=>⟨hQ _ _ (hs3.nx _)⟩
 ·have hs3:=hs2.marked rfl rfl D
  have hN:M6 e<2 ^ L0 e e.length:=by
   have:=C6k hlim e.length (Nat.le_refl _)
   rwa [List.take_length] at this
  rw[B5u hN _ (Nat.le_refl _),Nat.sub_self,Nat.pow_zero,Nat.div_one] at hs2 hs3;generalize pw a (M6 e)=o at hs2 hs3 ⊢
  refine pzX a e o trivial hs3 fun ac cV aV hs6=>⟨?_⟩
  have hs7:Sim y.w y.F (R1 y W0 (G9 D)) ac (pzZ o) cV aV:=hs6;exact W7 A4m hk hF (F8q o) trivial (fun y v hd=>hd) hs2 hD hFD hd rfl hs7

end

section

theorem D5p (a u:Fr) (e:List Int) (hu:u=1) (hl:e.length<=16) (hlim:A3a e) :
  FnD Tryz.prog 168 [.v (.a [.ob (.s a)]),.v (.a [.ob (.s u)]),.v (.c (.sl (.u64 e)))] (.v (.a [.ob (.s (pw a (M6 e)))])) []:=by
 subst hu;exact D8c a e hl hlim
def A9q:B1
 | [.v (.a [.ob (.s a)]),.v (.a [.ob (.s u)]),.v (.c (.sl (.u64 e)))]=>some ([u=1,e.length<=16,A3a e],.v (.a [.ob (.s (pw a (M6 e)))]),[])
 | _=>none
def pvC:Env:=pvB.set (C7 pvB.fn 168 A9q)
theorem D6h:A6 Tryz.prog pvC:=A4 A4m 168 A9q (A3 Tryz.func168 rfl rfl) fun args o r es h ho=>by
 unfold A9q at h;split at h
 ·cases h;exact D5p _ _ _ ho.1 ho.2.1 ho.2.2.1
 ·cases h
--@env pvC D6h
theorem sm1  : B2 pvC Tryz.f103 3000 [.v (.c (.int .u64 1))] [] [] []=(some ([(0<=(1:Int)),((1:Int)<(18446744073709551616:Int)),(0<=(0:Int)),(0<(18446744073709551616:Int)),(0<=(0:Int)),(0<(18446744073709551616:Int)),(0<=(0:Int)),(0<(18446744073709551616:Int))],((.v (.a [(.ob (.s (S4.inF (Fin.ofNat B4 1))))])),[]))):=by kernel_rfl
theorem D9a {n:Int} (h:n=1):FnD Tryz.prog 103 [.v (.c (.int .u64 n))] (.v (.a [.ob (.s 1)])) []:=by
 subst h;have r:=sm1;rw[show S4.inF (Fin.ofNat B4 1)=1 from by decide +kernel] at r
 exact A2 D6h Tryz.func103 r ⟨by decide,by decide,by decide,by decide,by decide,by decide,by decide,by decide,trivial⟩
def A8z:B1
 | [.v (.c (.int .u64 n))]=>some ([n=1],.v (.a [.ob (.s 1)]),[])
 | _=>none
def pvD:Env:=pvC.set (C7 pvC.fn 103 A8z)
theorem D8a:A6 Tryz.prog pvD:=A4 D6h 103 A8z (A3 Tryz.func103 rfl rfl) fun args o r es h ho=>by
 unfold A8z at h;split at h
 ·cases h;exact D9a ho.1
 ·cases h
--@env pvD D8a
theorem sml  : B2 pvD Tryz.f55 3000 [.v (.c (.int .i64 1))] [false] [] []=(some ([((decide ((1:Int)<(0:Int)))=false),((1:Int)=(1:Int))],((.v (.a [(.ob (.fr (S4.H8 (1:Fr))))])),[]))):=by kernel_rfl
end

section

theorem F8r {n:Int} (h:n=1):FnD Tryz.prog 55 [.v (.c (.int .i64 n))] (.v (.a [.ob (.fr (S4.H8 1))])) []:=by
 subst h;exact A2 D8a Tryz.func55 sml ⟨rfl,rfl,trivial⟩

end

section
section
variable {w0:World} {F0:Nat->Prop} {K:Kp} {ac:List Act} {Q:Exit->Act->World->Prop} {cX:Ctx} {aX:Act}

def peA:Env:=pvD.or qtG
theorem G6b:A6 Tryz.prog peA:=A4j D8a P3
/-- The whole table. -/
theorem E1k (a:Fp×Fp×Fp):∃T,T=tbL a 64:=⟨_,rfl⟩
def A7c (a:Fp×Fp×Fp):List (List (Fp×Fp×Fp)):=Classical.choose (E1k a)
theorem B6d (a:Fp×Fp×Fp):A7c a=tbL a 64:=Classical.choose_spec (E1k a)
theorem E4w (a:Fp×Fp×Fp):FnD Tryz.prog 110 [.v (.a (I7 a))] (.v (.c (.sl (.ptt (A7c a))))) []:=by
 rw[B6d];exact F4k a (Eq.refl 64)
def B8p:B1
 | [.v (.a [.ob (.p a),.ob (.p b),.ob (.p c)])]=>some ([],.v (.c (.sl (.ptt (A7c (a,b,c))))),[])
 | _=>none
def peB:Env:=peA.set (C7 peA.fn 110 B8p)
theorem G7z:A6 Tryz.prog peB:=A4 G6b 110 B8p (A3 Tryz.func110 rfl rfl) fun args o r es h _=>by
 unfold B8p at h;split at h
 ·cases h;exact E4w (_,_,_)
 ·cases h
/-- Each row has sixteen. -/
def C9i (T:List (List (Fp×Fp×Fp))):Prop:=∀i,i<64->(T.getD i []).length=16
theorem E6m (T:List (List (Fp×Fp×Fp))) (k:U4) (h:T.length=64∧C9i T):FnD Tryz.prog 111 [.v (.c (.sl (.ptt T))),.v (.a [.ob (.fr k)])] (.v (.a (I7 (pkL T k.val 64)))) []:=F6c T k (Eq.refl 64) h.1 h.2
def C1a:B1
 | [.v (.c (.sl (.ptt T))),.v (.a [.ob (.fr k)])]=>some ([T.length=64,C9i T],.v (.a (I7 (pkL T k.val 64))),[])
 | _=>none
def peC:Env:=peB.set (C7 peB.fn 111 C1a)
theorem G3w:A6 Tryz.prog peC:=A4 G7z 111 C1a (A3 Tryz.func111 rfl rfl) fun args o r es h ho=>by
 unfold C1a at h;split at h
 ·cases h;exact E6m _ _ ⟨ho.1,ho.2.1⟩
 ·cases h
def C6j:B1
 | [.v (.c (.int .i64 n))]=>some ([n=1],.v (.a [.ob (.fr (S4.H8 1))]),[])
 | _=>none
def peD:Env:=peC.set (C7 peC.fn 55 C6j)
theorem G4f:A6 Tryz.prog peD:=A4 G3w 55 C6j (A3 Tryz.func55 rfl rfl) fun args o r es h ho=>by
 unfold C6j at h;split at h
 ·cases h;exact F8r ho.1
 ·cases h
def peE:Env:=peD
theorem A7w:A6 Tryz.prog peE:=G4f
theorem zqA (a:G1D) (k:U4) (n:Int):B2 peE Tryz.f63 3000 [.v (.a a.its),.v (.a [.ob (.fr k)]),.v (.c (.int .i64 n))] [true,true] [] []=(some ([((decide (n<(0:Int)))=true)],((.t [(.c (.val (Value.slice Option.none 0 0))),(.c (.int .i64 (1:Int)))]),[]))):=by kernel_rfl
theorem zqB (a:G1D) (k:U4) (n:Int):B2 peE Tryz.f63 3000 [.v (.a a.its),.v (.a [.ob (.fr k)]),.v (.c (.int .i64 n))] [false,true] [] []=(some ([((decide (n<(0:Int)))=false),((decide (n > (4096:Int)))=true)],((.t [(.c (.val (Value.slice Option.none 0 0))),(.c (.int .i64 (1:Int)))]),[]))):=by kernel_rfl
theorem zqC (a:G1D) (k:U4) (n:Int):B2 peE Tryz.f63 3000 [.v (.a a.its),.v (.a [.ob (.fr k)]),.v (.c (.int .i64 n))] [false,false,true] [] []=(some ([((decide (n<(0:Int)))=false),((decide (n > (4096:Int)))=false),((Bool.not (onG a))=true)],((.t [(.c (.val (Value.slice Option.none 0 0))),(.c (.int .i64 (30:Int)))]),[]))):=by kernel_rfl
def C4q:List KI:=(run peE false 3000 ((fun (x y:U6) (j:Bool) (k:U4) (n:Int)=>(⟨[.code (B7 Tryz.f63)],.normal,E4 Tryz.f63.ntmps [.v (.a [.ob (.fp x),.ob (.fp y),.bool j]),.v (.a [.ob (.fr k)]),.v (.c (.int .i64 n))]⟩:Cfg)) default default default default default) [false,false,false]).cfg.k
theorem zqD (x y:U6) (j:Bool) (k:U4) (n:Int) (ho:A7 [((decide (n<(0:Int)))=false),((decide (n > (4096:Int)))=false),((Bool.not (onG (G1D.mk x y j)))=false),((1:Int)=(1:Int))]):Sg Tryz.prog (E4 Tryz.f63.ntmps [.v (.a [.ob (.fp x),.ob (.fp y),.bool j]),.v (.a [.ob (.fr k)]),.v (.c (.int .i64 n))]) (A8 42 [2,4,8,9,10] [.ii n,.pt 32 0,(.ci (.sl (Sq.ptt (A7c (inG (G1D.mk x y j)))))),(.ci (.val (Value.slice Option.none 0 0))),.pt 352 0] [32,352] [(eF_ [.ob (.fr k)]),(eF_ [(.ob (.fr (S4.H8 (1:Fr))))])] 384 [] []) .normal (C4q) ([.code (B7 Tryz.f63)]):=fun hs hK=>
 A5 (unroll:=false) (n:=3000) (path:=[false,false,false]) (o:=⟨_,_,_,_,_,_,_⟩) A7w (by kernel_rfl) (by kernel_rfl) ho hs hK
def zqS (k:U4) (n:Int) (T:List (List (Fp×Fp×Fp))) (L:List G1D) (m:Nat) (q:U4):St:=A8 42 [2,4,8,9,10] [.ii n,.pt 32 0,.v (.c (.sl (.ptt T))),.v (.c (.slc 17 0 m 13)),.pt 352 0] [17,32,352] [some (.sq (.g1 L)),(eF_ [.ob (.fr k)]),some (.fl [.ob (.fr q)])] 384 [] []
theorem zqE (k:U4) (n:Int) (T:List (List (Fp×Fp×Fp))) (L:List G1D) (m:Nat) (q:U4) (ho:A7 [((decide (((m:Nat):Int)<n))=true),(T.length=64),(C9i T),(((L.length+1)*104)<=140737488355328),((L.length+1)<=maxLen),(m=L.length),(1=1)]):Sg Tryz.prog (zqS k n T L m q) (A8 42 [2,4,8,9,10] [.ii n,.pt 32 0,(.ci (.sl (Sq.ptt T))),(.ci (.slc 17 0 (L.length+1) 13)),.pt 592 0] [17,32,592] [(eQ_ (Sq.g1 (L++[(Z5 (pkL T (Fin.val q) 64))]))),(eF_ [.ob (.fr k)]),(eF_ [(.ob (.fr (S4.H8 ((S4.inF q)*(S4.inF k)))))])] 688 [] []) .normal (N8 C4q) (E7 C4q):=fun hs hK=>
 A5 (unroll:=false) (n:=3000) (path:=[true]) (o:=⟨_,_,_,_,_,_,_⟩) A7w (by kernel_rfl) (by kernel_rfl) ho hs hK
theorem G1g (k:U4) (n:Int) (T:List (List (Fp×Fp×Fp))) (L:List G1D) (m:Nat) (q:U4):I0 peE Tryz.f63 false 3000 (⟨E7 C4q,.normal,zqS k n T L m q⟩) [false] [] [17]=(some ([((decide (((m:Nat):Int)<n))=false),(m=L.length)],((.t [(.c (.sl (Sq.g1 L))),(.c (.int .i64 (0:Int)))]),[]))):=by kernel_rfl
end
end

section

/-- The powers of a number, one after the other; what is told of each. -/
def pwK (k:U4):Nat->U4
 | 0=>S4.H8 1
 | i+1=>S4.H8 (S4.inF (pwK k i)*S4.inF k)
def pwE (T:List (List (Fp×Fp×Fp))) (q:U4):G1D:=Z5 (pkL T q.val 64)
def pwL (T:List (List (Fp×Fp×Fp))) (k:U4) (n:Nat):List G1D:=(List.range n).map fun i=>pwE T (pwK k i)
theorem D9x (T:List (List (Fp×Fp×Fp))) (k:U4) (n:Nat):(pwL T k n).length=n:=by
 unfold pwL;rw[List.length_map,List.length_range]
theorem F4p (T:List (List (Fp×Fp×Fp))) (k:U4) (n:Nat):pwL T k (n+1)=pwL T k n++[pwE T (pwK k n)]:=by
 unfold pwL;rw[List.range_succ,List.map_append];rfl
theorem G1s (T:List (List (Fp×Fp×Fp))) (k:U4) {n i:Nat} (h:i<n):(pwL T k n).getD i g10=pwE T (pwK k i):=by
 unfold pwL;rw[List.getD_eq_getElem?_getD,List.getElem?_map,List.getElem?_range h,Option.map_some,Option.getD_some]
theorem E6x (a:Fp×Fp×Fp):(A7c a).length=64:=by rw[B6d,C8n]
theorem F1v (a:Fp×Fp×Fp):C9i (A7c a):=fun i hi=>by rw[B6d,E2d a hi,C8l]

/-- What Powers tells. -/
def pwR (a:G1D) (k:U4) (n:Int):List G1D×Int:=if n<0∨n > 4096 then ([],1) else if onG a then (pwL (A7c (inG a)) k n.toNat,0) else ([],30)
theorem G0t {a:G1D} {k:U4} {n:Int} (h:n<0∨n > 4096):pwR a k n=([],1):=if_pos h
theorem F7g {a:G1D} {k:U4} {n:Int} (h:¬(n<0∨n > 4096)) (ha:onG a=false):pwR a k n=([],30):=by unfold pwR;rw[if_neg h,ha];rfl
theorem D8p {a:G1D} {k:U4} {n:Int} (h:¬(n<0∨n > 4096)) (ha:onG a=true):pwR a k n=(pwL (A7c (inG a)) k n.toNat,0):=by unfold pwR;rw[if_neg h,ha];rfl
theorem F2g {x:Ctx} {j:V1} {v:Value} (h:B5 x (.t [.c (.val (.slice none 0 0)),j]) v):B5 x (.t [.c (.sl (.g1 [])),j]) v:=by
 obtain ⟨vs,e,hc⟩:=h
 cases hc with
 | cons h1 h2=>exact ⟨_,e,.cons (G5c (q:=.g1 []) rfl h1) h2⟩

theorem E3t (x y:U6) (j:Bool) (k:U4) (n:Nat) (h:n<=4096) (ha:onG ⟨x,y,j⟩=true):FnD Tryz.prog 63 [.v (.a [.ob (.fp x),.ob (.fp y),.bool j]),.v (.a [.ob (.fr k)]),.v (.c (.int .i64 (n:Int)))] (.t [.c (.sl (.g1 (pwL (A7c (inG ⟨x,y,j⟩)) k n))),.c (.int .i64 0)]) []:=by
 refine M9 (fn:=Tryz.f63) (c:=B7 Tryz.f63) Tryz.func63 rfl rfl fun x0 a0 hk hF hs=>?_
 refine zqD x y j k n ⟨decide_eq_false (by omega),decide_eq_false (by omega),by rw[ha];rfl,rfl,trivial⟩ hs fun ac cY aY hs1=>?_
 have h64:=E6x (inG ⟨x,y,j⟩);have h16:=F1v (inG ⟨x,y,j⟩);have hmax:4097<=maxLen:=by decide
 generalize A7c (inG ⟨x,y,j⟩)=T at hs1 h64 h16 ⊢
 have hs2:=hs1.nilRow (p:=17) (q:=.g1 []) rfl (by decide) rfl (ml' := [17,32,352]) (ens' := [some (.sq (.g1 [])),some (.fl [.ob (.fr k)]),some (.fl [.ob (.fr (S4.H8 1))])]) (fun r=>rfl)
  (svs' := [.v (.c (.int .i64 (n:Int))),.v (.c (.ptr 32 0)),.v (.c (.sl (.ptt T))),.v (.c (.slc 17 0 0 13)),.v (.c (.ptr 352 0))]) ⟨.inl rfl,.inl rfl,.inl rfl,.inr ⟨13,rfl,rfl⟩,.inl rfl,trivial⟩
 change Wq Tryz.prog _ _ _ _ _ (J8 cY 17).w
 refine F4 (ι:={ i:Nat // i<=n }) (fun i=>zqS k n T (pwL T k i.1) i.1 (pwK k i.1)) (fun i=>n-i.1) (c:=lpC C4q) (k:=lpR C4q) (by kernel_rfl) (fun i ih ac cY aY hs=>?_) ⟨0,Nat.zero_le _⟩ (hs2.nx _)
 obtain ⟨i,hi⟩:=i;simp only at ih hs
 have hlen:=D9x T k i;by_cases hin:i<n
 ·have hnext:pwK k (i+1)=S4.H8 (S4.inF (pwK k i)*S4.inF k):=rfl
  have hL:=F4p T k i;have ih2:=ih ⟨i+1,hin⟩ (by show n-(i+1)<n-i;omega)
  dsimp only at ih2;rw[hnext,hL] at ih2;clear ih hnext hL;generalize pwK k i=q at hs ih2;generalize pwL T k i=L at hs ih2 hlen;refine zqE k n T L i q ⟨decide_eq_true (by omega),h64,h16,by omega,by omega,hlen.symm,rfl,trivial⟩ hs fun ac cU aU hs3=>?_
  rw[hlen] at hs3;have ep:Z5 (pkL T q.val 64)=pwE T q:=rfl;rw[ep] at hs3;generalize pwE T q=e at hs3 ih2;generalize S4.H8 (S4.inF q*S4.inF k)=q2 at hs3 ih2;have hs4:=hs3.move [17,32] 592 352 rfl ⟨_,rfl⟩ rfl rfl rfl rfl rfl (svs' := [.v (.c (.int .i64 (n:Int))),.v (.c (.ptr 32 0)),.v (.c (.sl (.ptt T))),.v (.c (.slc 17 0 (i+1) 13)),.v (.c (.ptr 352 0))])
   ⟨.inl ⟨rfl,rfl⟩,.inl ⟨rfl,rfl⟩,.inl ⟨rfl,rfl⟩,.inl ⟨rfl,rfl⟩,.inr ⟨0,rfl,rfl⟩,trivial⟩ (ml' := [17,32,352]) (ens' := [some (.sq (.g1 (L++[e]))),some (.fl [.ob (.fr k)]),some (.fl [.ob (.fr q2)])]) (fun q=>by
    simp only[D1];by_cases h1:q=352<;>by_cases h2:q=592<;>by_cases h3:q=17<;>by_cases h4:q=32<;>simp_all)
  change Wq Tryz.prog _ _ _ _ _ (Y9 cU [17,32] 592 352).w
  exact ih2 ac _ aU (hs4.nx _)
 ·obtain rfl:i=n:=by omega
  generalize pwL T k i=L at hs hlen ⊢
  exact K9 A7w hk hF (G1g k i T L i _) ⟨decide_eq_false (by omega),hlen.symm,trivial⟩ (fun y v hd=>hd) hs

theorem B6w (a:G1D) (k:U4) (n:Int):FnD Tryz.prog 63 [.v (.a a.its),.v (.a [.ob (.fr k)]),.v (.c (.int .i64 n))] (.t [.c (.sl (.g1 (pwR a k n).1)),.c (.int .i64 (pwR a k n).2)]) []:=by
 by_cases h:n<0∨n > 4096
 ·rw[G0t h]
  by_cases h1:n<0
  ·exact (A2 A7w Tryz.func63 (zqA a k n) ⟨decide_eq_true h1,trivial⟩).conv (fun _ _ h=>h) fun y v hd=>F2g hd
  ·exact (A2 A7w Tryz.func63 (zqB a k n) ⟨decide_eq_false h1,decide_eq_true (by omega),trivial⟩).conv (fun _ _ h=>h) fun y v hd=>F2g hd
 ·cases ha:onG a with
  | false=>
   rw[F7g h ha];exact (A2 A7w Tryz.func63 (zqC a k n) ⟨decide_eq_false (by omega),decide_eq_false (by omega),by rw[ha];rfl,trivial⟩).conv (fun _ _ h=>h) fun y v hd=>F2g hd
  | true=>
   rw[D8p h ha];obtain ⟨m,rfl⟩:∃m:Nat,n=(m:Int):=⟨n.toNat,by omega⟩
   rw[Int.toNat_natCast];exact E3t a.x a.y a.inf k m (by omega) ha

end

section

def kmA:Env:=peE.or uzB
theorem E9t:A6 Tryz.prog kmA:=A4j A7w J3
def A8q:B1
 | [.v (.a [.ob (.fp x),.ob (.fp y),.bool j]),.v (.a [.ob (.fr k)]),.v (.c (.int .i64 n))]=>some ([],.t [.c (.sl (.g1 (pwR ⟨x,y,j⟩ k n).1)),.c (.int .i64 (pwR ⟨x,y,j⟩ k n).2)],[])
 | _=>none
def kmB:Env:=kmA.set (C7 kmA.fn 63 A8q)
theorem C9d:A6 Tryz.prog kmB:=A4 E9t 63 A8q (A3 Tryz.func63 rfl rfl) fun args o r es h _=>by
 unfold A8q at h;split at h
 ·cases h;exact B6w ⟨_,_,_⟩ _ _
 ·cases h
--@env kmB C9d
theorem mkA (k:U4) (n:Int):B2 kmB Tryz.f29 3000 [.v (.a [.ob (.fr k)]),.v (.c (.int .i64 n))] [true] [] []=(some ([((decide (n<(1:Int)))=true)],((.t [(.a [(.sl (Sq.g1 ([]:List G1D))),(.ob (.fp (0:U6))),(.ob (.fp (0:U6))),(.ob (.fp (0:U6))),(.ob (.fp (0:U6))),(.lit false)]),(.c (.int .i64 (1:Int)))]),[]))):=by kernel_rfl
theorem mkB (k:U4) (n:Int):B2 kmB Tryz.f29 3000 [.v (.a [.ob (.fr k)]),.v (.c (.int .i64 n))] [false,true] [] []=(some ([((decide (n<(1:Int)))=false),((decide (n > (4096:Int)))=true)],((.t [(.a [(.sl (Sq.g1 ([]:List G1D))),(.ob (.fp (0:U6))),(.ob (.fp (0:U6))),(.ob (.fp (0:U6))),(.ob (.fp (0:U6))),(.lit false)]),(.c (.int .i64 (1:Int)))]),[]))):=by kernel_rfl
theorem mkC (k:U4) (n:Int):B2 kmB Tryz.f29 3000 [.v (.a [.ob (.fr k)]),.v (.c (.int .i64 n))] [false,false,false,false] [] []=(some ([((decide (n<(1:Int)))=false),((decide (n > (4096:Int)))=false),(((Prod.snd (pwR M4 k n)) != (0:Int))=false),(((Prod.snd (A4a O5 (S4.H8 (S4.inF k)))) != (0:Int))=false)],((.t [(.a [(.sl (Sq.g1 (Prod.fst (pwR M4 k n)))),(.ob (.fp (G2D.xa (Prod.fst (A4a O5 (S4.H8 (S4.inF k))))))),(.ob (.fp (G2D.xb (Prod.fst (A4a O5 (S4.H8 (S4.inF k))))))),(.ob (.fp (G2D.ya (Prod.fst (A4a O5 (S4.H8 (S4.inF k))))))),(.ob (.fp (G2D.yb (Prod.fst (A4a O5 (S4.H8 (S4.inF k))))))),(.bool (G2D.inf (Prod.fst (A4a O5 (S4.H8 (S4.inF k))))))]),(.c (.int .i64 (0:Int)))]),[]))):=by kernel_rfl
end

section

theorem E0k:onG M4=true:=by decide +kernel
theorem G4k:I3 O5=true:=by decide +kernel
/-- The parts of a key. -/
def F3o (l:List G1D) (s:G2D):List It:=[.sl (.g1 l),.ob (.fp s.xa),.ob (.fp s.xb),.ob (.fp s.ya),.ob (.fp s.yb),.bool s.inf]
theorem E1n {x:Ctx} {i1 i2 i3 i4 i5 k:It} {b:Bool} {v:Value} (h:B5 x (.t [.a [i1,i2,i3,i4,i5,.lit b],.c k]) v):B5 x (.t [.a [i1,i2,i3,i4,i5,.bool b],.c k]) v:=by
 obtain ⟨vs,e,hc⟩:=h
 cases hc with
 | cons h1 h2=>
  refine ⟨_,e,.cons ?_ h2⟩
  obtain ⟨cs,e0,c1,r1,e1,h1,c2,r2,e2,h2,c3,r3,e3,h3,c4,r4,e4,h4,c5,r5,e5,h5,c6,r6,e6,⟨d,h6⟩,h7⟩:=h1;exact ⟨cs,e0,c1,r1,e1,h1,c2,r2,e2,h2,c3,r3,e3,h3,c4,r4,e4,h4,c5,r5,e5,h5,c6,r6,e6,⟨d,by cases d<;>exact h6⟩,h7⟩

/-- What Make tells. -/
theorem F1q (k:U4) (n:Int):∃L,L=if n<1∨n > 4096 then [] else (pwR M4 k n).1:=⟨_,rfl⟩
def kzL (k:U4) (n:Int):List G1D:=Classical.choose (F1q k n)
theorem D7g (k:U4) (n:Int):kzL k n=if n<1∨n > 4096 then [] else (pwR M4 k n).1:=Classical.choose_spec (F1q k n)
theorem F0g (k:U4) (n:Int):∃s,s=if n<1∨n > 4096 then g20 else (A4a O5 (S4.H8 (S4.inF k))).1:=⟨_,rfl⟩
def kzS (k:U4) (n:Int):G2D:=Classical.choose (F0g k n)
theorem E8l (k:U4) (n:Int):kzS k n=if n<1∨n > 4096 then g20 else (A4a O5 (S4.H8 (S4.inF k))).1:=Classical.choose_spec (F0g k n)
/-- What Powers tells, by name alone. -/
theorem E7h (a:G1D) (k:U4) (n:Int):∃r,r=pwR a k n:=⟨_,rfl⟩
def pwZ (a:G1D) (k:U4) (n:Int):List G1D×Int:=Classical.choose (E7h a k n)
theorem G6m (a:G1D) (k:U4) (n:Int):pwZ a k n=pwR a k n:=Classical.choose_spec (E7h a k n)
theorem D4h (a:G1D) (k:U4) (n:Int):FnD Tryz.prog 63 [.v (.a a.its),.v (.a [.ob (.fr k)]),.v (.c (.int .i64 n))] (.t [.c (.sl (.g1 (pwZ a k n).1)),.c (.int .i64 (pwZ a k n).2)]) []:=by
 rw[G6m];exact B6w a k n
def kzE (n:Int):Int:=if n<1∨n > 4096 then 1 else 0
theorem E6p (k:U4) (n:Int):FnD Tryz.prog 29 [.v (.a [.ob (.fr k)]),.v (.c (.int .i64 n))] (.t [.a (F3o (kzL k n) (kzS k n)),.c (.int .i64 (kzE n))]) []:=by
 by_cases h:n<1∨n > 4096
 ·have e1:kzL k n=[]:=(D7g k n).trans (if_pos h)
  have e2:kzS k n=g20:=(E8l k n).trans (if_pos h);have e3:kzE n=1:=if_pos h;rw[e1,e2,e3];by_cases h1:n<1
  ·exact (A2 C9d Tryz.func29 (mkA k n) ⟨decide_eq_true h1,trivial⟩).conv (fun _ _ h=>h) fun y v hd=>E1n hd
  ·exact (A2 C9d Tryz.func29 (mkB k n) ⟨decide_eq_false h1,decide_eq_true (by omega),trivial⟩).conv (fun _ _ h=>h) fun y v hd=>E1n hd
 ·have e1:kzL k n=(pwR M4 k n).1:=(D7g k n).trans (if_neg h)
  have e2:kzS k n=(A4a O5 (S4.H8 (S4.inF k))).1:=(E8l k n).trans (if_neg h);have e3:kzE n=0:=if_neg h;have f1:(pwR M4 k n).2=0:=by rw[D8p (by omega) E0k]
  have f2:(A4a O5 (S4.H8 (S4.inF k))).2=0:=by rw[E0y _ G4k]
  rw[e1,e2,e3];exact A2 C9d Tryz.func29 (mkC k n) ⟨decide_eq_false (by omega),decide_eq_false (by omega),by rw[f1];rfl,by rw[f2];rfl,trivial⟩

end

section

def A5i:B1
 | [.v (.a [.ob (.fp x),.ob (.fp y),.bool j]),.v (.a [.ob (.fr k)]),.v (.c (.int .i64 n))]=>some ([],.t [.c (.sl (.g1 (pwZ ⟨x,y,j⟩ k n).1)),.c (.int .i64 (pwZ ⟨x,y,j⟩ k n).2)],[])
 | _=>none
def knA:Env:=kmA.set (C7 kmA.fn 63 A5i)
theorem H0k:A6 Tryz.prog knA:=A4 E9t 63 A5i (A3 Tryz.func63 rfl rfl) fun args o r es h _=>by
 unfold A5i at h;split at h
 ·cases h;exact D4h ⟨_,_,_⟩ _ _
 ·cases h
def C1o:B1
 | [.v (.a [.ob (.fr k)]),.v (.c (.int .i64 n))]=>some ([],.t [.a (F3o (kzL k n) (kzS k n)),.c (.int .i64 (kzE n))],[])
 | _=>none
def knB:Env:=knA.set (C7 knA.fn 29 C1o)
theorem D7x:A6 Tryz.prog knB:=A4 H0k 29 C1o (A3 Tryz.func29 rfl rfl) fun args o r es h _=>by
 unfold C1o at h;split at h
 ·cases h;exact E6p _ _
 ·cases h
--@env knB D7x
theorem H5f  : B2 knB Tryz.f25 3000 [] [true,true] [] []=(some ([(0<=(5:Int)),((5:Int)<(18446744073709551616:Int)),(0<=(0:Int)),(0<(18446744073709551616:Int)),(0<=(0:Int)),(0<(18446744073709551616:Int)),(0<=(0:Int)),(0<(18446744073709551616:Int)),(((0:Int)==0)=true),(((((kzL (Fin.ofNat B4 5) (1:Int)).length:Nat):Int) == (1:Int))=true),(0<=(0:Int)),(0<(((kzL (Fin.ofNat B4 5) (1:Int)).length:Nat):Int))],((.ci (.bool (ite (true=true) (Bool.and (decide ((G1D.x (List.getD (kzL (Fin.ofNat B4 5) (1:Int)) 0 g10))=(G1D.x M4))) (Bool.and (decide ((G1D.y (List.getD (kzL (Fin.ofNat B4 5) (1:Int)) 0 g10))=(G1D.y M4))) ((G1D.inf (List.getD (kzL (Fin.ofNat B4 5) (1:Int)) 0 g10)) == (G1D.inf M4)))) (Bool.not (Bool.and (decide ((G1D.x (List.getD (kzL (Fin.ofNat B4 5) (1:Int)) 0 g10))=(G1D.x M4))) (Bool.and (decide ((G1D.y (List.getD (kzL (Fin.ofNat B4 5) (1:Int)) 0 g10))=(G1D.y M4))) ((G1D.inf (List.getD (kzL (Fin.ofNat B4 5) (1:Int)) 0 g10)) == (G1D.inf M4)))))))),[]))):=by kernel_rfl
theorem G5i (k:U4):k.val<2 ^ 256:=by
 have h:B4=2 ^ 256:=by decide +kernel
 rw[<-h];exact k.isLt
theorem G9l (a:Fp×Fp×Fp) (q:U4) {n:Nat} (hn:n=64):pwE (A7c a) q=Z5 (pkT pt0 a q.val n):=by
 unfold pwE;rw[B6d,F3w a q.val 64 64 (Nat.le_refl _),hn]
theorem G8j {a:G1D} (ha:onG a=true) (q:U4):pwE (A7c (inG a)) q=gP (G4 (pG a) q.val):=by
 obtain ⟨n,hn⟩:∃n:Nat,n=64:=⟨_,rfl⟩
 rw[G9l (inG a) q hn];exact B1l (F7y cv1 (z:=pt0) rfl (A0v ha).2 (B3l a) hn (G5i q))
theorem H0h (k:U4) {n:Int} (h:¬(n<1∨n > 4096)):kzL k n=pwL (A7c (inG M4)) k n.toNat:=by
 rw[D7g,if_neg h,D8p (by omega) E0k]
theorem G1h:(S4.H8 (1:Fr)).val=1:=by rw[S4.D3m];decide
theorem E5n (k:U4) {n:Nat} (h:0<n):(pwL (A7c (inG M4)) k n).getD 0 g10=M4:=by
 rw[G1s _ _ h];show pwE (A7c (inG M4)) (S4.H8 1)=M4;rw[G8j E0k,G1h,D5o];exact (A0v E0k).1
theorem E8g {a b:G1D} (h:a=b):(decide (a.x=b.x) && (decide (a.y=b.y) && (a.inf == b.inf)))=true:=by
 subst h;simp
theorem D2o:FnD Tryz.prog 25 [] (.v (.c (.bool true))) []:=by
 have hL:=H0h (Fin.ofNat B4 5) (n:=1) (by decide)
 have hlen:=D9x (A7c (inG M4)) (Fin.ofNat B4 5) (1:Int).toNat;have h0:=E5n (Fin.ofNat B4 5) (n:=(1:Int).toNat) (by decide)
 rw[<-hL] at hlen h0;have r:=H5f;generalize kzL (Fin.ofNat B4 5) 1=L at hlen h0 r;rw[if_pos rfl,E8g h0] at r;have hlen:L.length=1:=hlen;exact A2 D7x Tryz.func25 r ⟨by decide,by decide,by decide,by decide,by decide,by decide,by decide,by decide,rfl,by rw[hlen];rfl,by decide,by rw[hlen];decide,trivial⟩
def A6a:B1
 | []=>some ([],.v (.c (.bool true)),[])
 | _=>none
def knC:Env:=knB.set (C7 knB.fn 25 A6a)
theorem G4u:A6 Tryz.prog knC:=A4 D7x 25 A6a (A3 Tryz.func25 rfl rfl) fun args o r es h _=>by
 unfold A6a at h;split at h
 ·cases h;exact D2o
 ·cases h
end

section

def kaA:Env:=uzH.or knC
theorem G4w:A6 Tryz.prog kaA:=A4j A3h G4u
def A7s (a b:G1D) (k l:U4):List It:=[.ob (.fp a.x),.ob (.fp a.y),.bool a.inf,.ob (.fr k),.ob (.fr l),.ob (.fp b.x),.ob (.fp b.y),.bool b.inf]
theorem D1j (a b c d:U6) (i:Bool) (k l:U4) (xa ya:U6) (j:Bool) (xb yb:U6) (h:Bool):FnD Tryz.prog 20 [.v (.a [.ob (.fp a),.ob (.fp b),.ob (.fp c),.ob (.fp d),.bool i]),.v (.a [.ob (.fp xa),.ob (.fp ya),.bool j,.ob (.fr k),.ob (.fr l),.ob (.fp xb),.ob (.fp yb),.bool h])] (.t [.c (.bool (kcR ⟨a,b,c,d,i⟩ ⟨xa,ya,j⟩ ⟨xb,yb,h⟩ k l).1),.c (.int .i64 (kcR ⟨a,b,c,d,i⟩ ⟨xa,ya,j⟩ ⟨xb,yb,h⟩ k l).2)]) []:=D6i ⟨a,b,c,d,i⟩ ⟨xa,ya,j⟩ ⟨xb,yb,h⟩ k l
def A9e:B1
 | [.v (.a [.ob (.fp a),.ob (.fp b),.ob (.fp c),.ob (.fp d),.bool i]),.v (.a [.ob (.fp xa),.ob (.fp ya),.bool j,.ob (.fr k),.ob (.fr l),.ob (.fp xb),.ob (.fp yb),.bool h])]=>some ([],.t [.c (.bool (kcR ⟨a,b,c,d,i⟩ ⟨xa,ya,j⟩ ⟨xb,yb,h⟩ k l).1),.c (.int .i64 (kcR ⟨a,b,c,d,i⟩ ⟨xa,ya,j⟩ ⟨xb,yb,h⟩ k l).2)],[])
 | _=>none
def kaB:Env:=kaA.set (C7 kaA.fn 20 A9e)
theorem A4x:A6 Tryz.prog kaB:=A4 G4w 20 A9e (A3 Tryz.func20 rfl rfl) fun args o r es h _=>by
 unfold A9e at h;split at h
 ·cases h;exact D1j _ _ _ _ _ _ _ _ _ _ _ _ _
 ·cases h
--@env kaB A4x
theorem kaP (s:G2D) (a b:G1D) (k l:U4):B2 kaB Tryz.f5 3000 [.v (.a s.its),.v (.a (A7s a b k l))] [true,true,true,false,true] [] []=(some ([((Bool.not (onG a))=true),(true=true),(((Prod.snd (kcR s a b k l)) == (30:Int))=true),(((Prod.snd (kcR s a b k l)) == (0:Int))=false)],((.ci (.bool (Bool.not (Prod.fst (kcR s a b k l))))),[]))):=by kernel_rfl
theorem kaQ (s:G2D) (a b:G1D) (k l:U4):B2 kaB Tryz.f5 3000 [.v (.a s.its),.v (.a (A7s a b k l))] [false,true,true,false,true] [] []=(some ([((Bool.not (onG a))=false),((Bool.not (onG b))=true),(true=true),(((Prod.snd (kcR s a b k l)) == (30:Int))=true),(((Prod.snd (kcR s a b k l)) == (0:Int))=false)],((.ci (.bool (Bool.not (Prod.fst (kcR s a b k l))))),[]))):=by kernel_rfl
theorem kaR (s:G2D) (a b:G1D) (k l:U4):B2 kaB Tryz.f5 3000 [.v (.a s.its),.v (.a (A7s a b k l))] [false,false,true,true,false,true] [] []=(some ([((Bool.not (onG a))=false),((Bool.not (onG b))=false),((Bool.not (I3 s))=true),(true=true),(((Prod.snd (kcR s a b k l)) == (30:Int))=true),(((Prod.snd (kcR s a b k l)) == (0:Int))=false)],((.ci (.bool (Bool.not (Prod.fst (kcR s a b k l))))),[]))):=by kernel_rfl
theorem kaS (s:G2D) (a b:G1D) (k l:U4):B2 kaB Tryz.f5 3000 [.v (.a s.its),.v (.a (A7s a b k l))] [false,false,false,true,true,true,false,true] [] []=(some ([((Bool.not (onG a))=false),((Bool.not (onG b))=false),((Bool.not (I3 s))=false),((Bool.not (grp a))=true),(true=true),(((Prod.snd (kcR s a b k l)) == (31:Int))=true),(((Prod.snd (kcR s a b k l)) == (0:Int))=false)],((.ci (.bool (Bool.not (Prod.fst (kcR s a b k l))))),[]))):=by kernel_rfl
theorem kaT (s:G2D) (a b:G1D) (k l:U4):B2 kaB Tryz.f5 3000 [.v (.a s.its),.v (.a (A7s a b k l))] [false,false,false,false,true,true,false,true] [] []=(some ([((Bool.not (onG a))=false),((Bool.not (onG b))=false),((Bool.not (I3 s))=false),((Bool.not (grp a))=false),((Bool.not (grp b))=true),(true=true),(((Prod.snd (kcR s a b k l)) == (31:Int))=true),(((Prod.snd (kcR s a b k l)) == (0:Int))=false)],((.ci (.bool (Bool.not (Prod.fst (kcR s a b k l))))),[]))):=by kernel_rfl
theorem kaU (s:G2D) (a b:G1D) (k l:U4):B2 kaB Tryz.f5 3000 [.v (.a s.its),.v (.a (A7s a b k l))] [false,false,false,false,false,true,true,false,true] [] []=(some ([((Bool.not (onG a))=false),((Bool.not (onG b))=false),((Bool.not (I3 s))=false),((Bool.not (grp a))=false),((Bool.not (grp b))=false),((Bool.not (A0i s))=true),(true=true),(((Prod.snd (kcR s a b k l)) == (31:Int))=true),(((Prod.snd (kcR s a b k l)) == (0:Int))=false)],((.ci (.bool (Bool.not (Prod.fst (kcR s a b k l))))),[]))):=by kernel_rfl
theorem kaV (s:G2D) (a b:G1D) (k l:U4):B2 kaB Tryz.f5 3000 [.v (.a s.its),.v (.a (A7s a b k l))] [false,false,false,false,false,false,true,true,true] [] []=(some ([((Bool.not (onG a))=false),((Bool.not (onG b))=false),((Bool.not (I3 s))=false),((Bool.not (grp a))=false),((Bool.not (grp b))=false),((Bool.not (A0i s))=false),(true=true),(((Prod.snd (kcR s a b k l)) == (0:Int))=true),(((Prod.snd (kcR s a b k l)) == (0:Int))=true)],((.ci (.lit true)),[]))):=by kernel_rfl
end

section

theorem B2u {s:G2D} {a b:G1D} {k l:U4} {e:Int} (h:A1h s a b=e) (h2:e≠0):kcR s a b k l=(false,e):=by
 unfold kcR;rw[h,if_neg h2]
theorem G9b {s:G2D} {a b:G1D} {k l:U4} (h:A1h s a b=0):(kcR s a b k l).2=0:=by
 obtain ⟨ha,hb,hs⟩:=G1y h;unfold kcR;rw[if_pos h,G0w (G6w k l ha hb) hb.neg F8v hs]
theorem D3l (s:G2D) (a b:G1D) (k l:U4):FnD Tryz.prog 5 [.v (.a s.its),.v (.a (A7s a b k l))] (.v (.c (.bool true))) []:=by
 have done:∀{x:Ctx} {v:Value},B5 x (.v (.c (.lit true))) v->B5 x (.v (.c (.bool true))) v:=fun h=>P5 rfl h
 cases h1:onG a with
 | false=>
  have r:=kaP s a b k l;rw[B2u (e:=30) (by unfold A1h;rw[h1];rfl) (by decide)] at r
  exact A2 A4x Tryz.func5 r ⟨by rw[h1];rfl,rfl,rfl,rfl,trivial⟩
 | true=>
 cases h2:onG b with
 | false=>
  have r:=kaQ s a b k l;rw[B2u (e:=30) (by unfold A1h;rw[h1,h2];rfl) (by decide)] at r
  exact A2 A4x Tryz.func5 r ⟨by rw[h1];rfl,by rw[h2];rfl,rfl,rfl,rfl,trivial⟩
 | true=>
 cases h3:I3 s with
 | false=>
  have r:=kaR s a b k l;rw[B2u (e:=30) (by unfold A1h;rw[h1,h2,h3];rfl) (by decide)] at r
  exact A2 A4x Tryz.func5 r ⟨by rw[h1];rfl,by rw[h2];rfl,by rw[h3];rfl,rfl,rfl,rfl,trivial⟩
 | true=>
 cases h4:grp a with
 | false=>
  have r:=kaS s a b k l;rw[B2u (e:=31) (by unfold A1h;rw[h1,h2,h3,h4];rfl) (by decide)] at r
  exact A2 A4x Tryz.func5 r ⟨by rw[h1];rfl,by rw[h2];rfl,by rw[h3];rfl,by rw[h4];rfl,rfl,rfl,rfl,trivial⟩
 | true=>
 cases h5:grp b with
 | false=>
  have r:=kaT s a b k l;rw[B2u (e:=31) (by unfold A1h;rw[h1,h2,h3,h4,h5];rfl) (by decide)] at r
  exact A2 A4x Tryz.func5 r ⟨by rw[h1];rfl,by rw[h2];rfl,by rw[h3];rfl,by rw[h4];rfl,by rw[h5];rfl,rfl,rfl,rfl,trivial⟩
 | true=>
 cases h6:A0i s with
 | false=>
  have r:=kaU s a b k l;rw[B2u (e:=31) (by unfold A1h;rw[h1,h2,h3,h4,h5,h6];rfl) (by decide)] at r
  exact A2 A4x Tryz.func5 r ⟨by rw[h1];rfl,by rw[h2];rfl,by rw[h3];rfl,by rw[h4];rfl,by rw[h5];rfl,by rw[h6];rfl,rfl,rfl,rfl,trivial⟩
 | true=>
  have e0:A1h s a b=0:=by unfold A1h;rw[h1,h2,h3,h4,h5,h6];rfl
  have r:=kaV s a b k l;have e:=G9b (k:=k) (l:=l) e0;generalize kcR s a b k l=q at e r;obtain ⟨q1,q2⟩:=q;dsimp only at e;subst e;exact (A2 A4x Tryz.func5 r ⟨by rw[h1];rfl,by rw[h2];rfl,by rw[h3];rfl,by rw[h4];rfl,by rw[h5];rfl,by rw[h6];rfl,rfl,rfl,rfl,trivial⟩).conv (fun _ _ h=>h) fun y v hd=>done hd
end

end
end Go.Proofs.YtefimjofjjdndaaGreat
