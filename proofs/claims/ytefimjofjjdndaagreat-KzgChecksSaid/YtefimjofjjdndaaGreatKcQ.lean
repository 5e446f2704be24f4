/- Parts of a proof, one behind the other: PFe, WFf, WMa, WFj, PFj, WCc, PCc, WUa, PUa, WUb, PUb, WUc, PUc, WCk, PCk, WUd, PUd, WUe, PUe, WKc, WFh, POb, PEb, Gx, Gy, Gz, Gw, Gv, Gu, Gt, Gs, Gr, Ge, Gq, PFh, PFi, PKc, WPa, Tc, PPa, WPb. No conditions. -/
import Derived.Test.YtefimjofjjdndaaGreatKcP
open Go.IntKind (wrap)
namespace Go.Proofs.YtefimjofjjdndaaGreat
noncomputable section
section

/-- One turn of the loop, behind the first. -/
def mst (x y:Fp) (q:F2×F2×F2) (s:(F2×F2×F2)×F12) (z:Bool):(F2×F2×F2)×F12:=
 if z=true then (jpl (jtw s.1) q,s.2*s.2*tch s.1 x y*thg (jtw s.1) q x y) else (jtw s.1,s.2*s.2*tch s.1 x y)
def mls (x y:Fp) (q:F2×F2×F2) (l:List Bool):(F2×F2×F2)×F12:=l.tail.foldl (mst x y q) (q,1)
def Y8:Nat:=15132376222941642752
/-- The loop's value. -/
def mil (x y:Fp) (q:F2×F2×F2):F12:=cjp (mls x y q (btL Y8 64 64)).2
theorem G6f (x y:Fp) (q:F2×F2×F2) (z:Bool):mls x y q ([]++[z])=(q,1):=rfl
theorem C5p {α β:Type} (f:β->α->β) (s:β) (l:List α) (z:α):(l++[z]).foldl f s=f (l.foldl f s) z:=by
 rw[List.foldl_append];rfl
theorem F6o (x y:Fp) (q:F2×F2×F2) (u:Bool) (l:List Bool) (z:Bool):mls x y q (u::l++[z])=mst x y q (mls x y q (u::l)) z:=C5p (mst x y q) (q,1) l z
theorem I1n (x y:Fp) (q:F2×F2×F2) (s:(F2×F2×F2)×F12):mst x y q s true=(jpl (jtw s.1) q,s.2*s.2*tch s.1 x y*thg (jtw s.1) q x y):=rfl
theorem I1m (x y:Fp) (q:F2×F2×F2) (s:(F2×F2×F2)×F12):mst x y q s false=(jtw s.1,s.2*s.2*tch s.1 x y):=rfl
theorem F6k:M3 [15132376222941642752] 1=64:=by decide +kernel
theorem G5z:O1 [15132376222941642752]=Y8:=by decide +kernel

theorem E0b (xa ya a b c d:U6) (i j:Bool) :
  FnD Tryz.prog 73 [.v (.a [.ob (.fp xa),.ob (.fp ya),.bool i]),.v (.a [.ob (.fp a),.ob (.fp b),.ob (.fp c),.ob (.fp d),.bool j])] (.v (.a (E4 (mil (inP xa) (inP ya) (A3n ⟨a,b,c,d,j⟩))))) []:=by
 refine T0 (fn:=Tryz.f73) (c:=C0 Tryz.f73) Tryz.func73 rfl rfl fun X B hk hF hs=>?_
 refine mi xa ya a b c d i j trivial hs fun ac cY aY hs1=>?_
 generalize A3n ⟨a,b,c,d,j⟩=q at hs1 ⊢
 generalize inP xa=x at hs1 ⊢
 generalize inP ya=y at hs1 ⊢
 obtain ⟨e1,e2⟩:=A2i (k:=C4i) (by kernel_rfl)
 rw[e1];have eP:(rfP C4i).toList=[24]:=by kernel_rfl
 have eG:rfG C4i = .tmp 23:=by kernel_rfl
 have hit:B0z Tryz.prog cY 123 [(432,0)] B8m (btL Y8 64 64) fun pre=>(miS x y q (mls x y q pre).1 (mls x y q pre).2 pre.isEmpty).m:=by
  have h:=A6x (x:=cY) (p:=432) (e:=[15132376222941642752]) (M:=fun _=>fzM 432 (.u64 [15132376222941642752])) (by decide) (fun v hv=>by simp only[List.mem_cons,List.not_mem_nil,or_false] at hv;subst hv;decide) (fun s=>rfl)
  rw[G5z] at h;rw[show M3 [15132376222941642752] ([15132376222941642752]:List Int).length=64 from F6k] at h
  exact h.freeze (len:=1) (es:=1) (pb:=416) (fun s=>rfl) (fun s=>rfl) rfl
 refine Z3 (ps:=rfP C4i) e2 hs1 (gf:=123) (caps:=[(432,0)]) (A4 Tryz.func123 rfl rfl) (fun pre=>miS x y q (mls x y q pre).1 (mls x y q pre).2 pre.isEmpty) (fun s=>by rw[eG];rfl) ⟨_,rfl⟩ (btL Y8 64 64) C7t B8m
  (fun y z=>.cons ⟨rfl,0,rfl⟩ .nil) (fun z=>by rw[<-Array.length_toList,eP];rfl) (fun pre p hp=>?_) hit (fun pre z=>miB x y q (mls x y q pre).1 (mls x y q pre).2 pre.isEmpty z)
  (fun pre z=>miE x y q (mls x y q (pre++[z])).1 (mls x y q (pre++[z])).2 false z) (fun pre z=>⟨_,by
   have:(pre++[z]).isEmpty=false:=by cases pre<;>rfl
   rw[this];rfl⟩) (fun pre z hz w1 F1 K1 as1 Q1 l Y b hs2 hQ=>?_) (fun pre z hz w1 F1 K1 as1 Q1 l Y b hs2 hQ=>?_) fun D Y hs2 hD hFD hd=>?_
 ·rw[eP] at hp
  simp only[List.mem_cons,List.not_mem_nil,or_false] at hp;subst hp;show 24<49;decide
 ·rw[eP] at hs2
  exact miA x y q _ _ _ z trivial hs2 fun cZ aZ hs3=>⟨hQ _ _ (hs3.nx _)⟩
 ·cases pre with
  | nil=>
   rw[G6f] at hQ;exact miF x y q _ _ z trivial hs2 fun cZ aZ hs3=>⟨hQ _ _ (hs3.nx _)⟩
  | cons u l=>
   rw[F6o] at hQ
   cases z with
   | true=>
    rw[I1n] at hQ;exact miT x y q _ _ true ⟨rfl,trivial⟩ hs2 fun cZ aZ hs3=>⟨hQ _ _ (hs3.nx _)⟩
   | false=>
    rw[I1m] at hQ;exact miN x y q _ _ false ⟨rfl,trivial⟩ hs2 fun cZ aZ hs3=>⟨hQ _ _ (hs3.nx _)⟩
 ·have hs3:=hs2.marked rfl rfl D
  unfold mil;generalize (mls x y q (btL Y8 64 64)).1=t at hs2 hs3;generalize (mls x y q (btL Y8 64 64)).2=o at hs2 hs3 ⊢
  refine miX x y q t o _ trivial hs3 fun ac cV aV hs6=>⟨?_⟩
  have hs7:Sim Y.w Y.F (T8 Y Y5 (H9 D)) ac (miZ (cjp o)) cV aV:=hs6;exact Y4 Q8 hk hF (G5w (cjp o)) trivial (fun y v hd=>hd) hs2 hD hFD hd rfl hs7
end

section

theorem D4a (x0 x1 x2 x3 x4 x5 x6 x7 x8 x9 x10 x11:Fp):FnD Tryz.prog 35 [.v (.a [.ob (.p x0),.ob (.p x1),.ob (.p x2),.ob (.p x3),.ob (.p x4),.ob (.p x5),.ob (.p x6),.ob (.p x7),.ob (.p x8),.ob (.p x9),.ob (.p x10),.ob (.p x11)])] (.v (.a (E4 (N6 (⟨⟨(x0,x1),(x2,x3),(x4,x5)⟩,⟨(x6,x7),(x8,x9),(x10,x11)⟩⟩:F12))))) []:=D9g (⟨⟨(x0,x1),(x2,x3),(x4,x5)⟩,⟨(x6,x7),(x8,x9),(x10,x11)⟩⟩:F12)
def A8w:B5
 | [.v (.a [.ob (.p x0),.ob (.p x1),.ob (.p x2),.ob (.p x3),.ob (.p x4),.ob (.p x5),.ob (.p x6),.ob (.p x7),.ob (.p x8),.ob (.p x9),.ob (.p x10),.ob (.p x11)])]=>some ([],.v (.a (E4 (N6 (⟨⟨(x0,x1),(x2,x3),(x4,x5)⟩,⟨(x6,x7),(x8,x9),(x10,x11)⟩⟩:F12)))),[])
 | _=>none
def uyD:Env:=uyC.set (D5 uyC.fn 35 A8w)
theorem H8r:A9 Tryz.prog uyD:=A8 Q8 35 A8w (A4 Tryz.func35 rfl rfl) fun args o r es h _=>by
 unfold A8w at h;split at h
 ·cases h;exact D4a _ _ _ _ _ _ _ _ _ _ _ _
 ·cases h
def A9h:B5
 | [.v (.a [.ob (.fp xa),.ob (.fp ya),.bool _]),.v (.a [.ob (.fp a),.ob (.fp b),.ob (.fp c),.ob (.fp d),.bool j])]=>some ([],.v (.a (E4 (mil (inP xa) (inP ya) (A3n ⟨a,b,c,d,j⟩)))),[])
 | _=>none
def uyE:Env:=uyD.set (D5 uyD.fn 73 A9h)
theorem A3e:A9 Tryz.prog uyE:=A8 H8r 73 A9h (A4 Tryz.func73 rfl rfl) fun args o r es h _=>by
 unfold A9h at h;split at h
 ·cases h;exact E0b _ _ _ _ _ _ _ _
 ·cases h
--@env uyE A3e

theorem ckA (xa ya a b c d:U6) (i j:Bool):B8 uyE Tryz.f34 3000 [.v (.a [.ob (.fp xa),.ob (.fp ya),.bool i]),.v (.a [.ob (.fp a),.ob (.fp b),.ob (.fp c),.ob (.fp d),.bool j])] [true] [] []=(some ([((Bool.not (onG (G1D.mk xa ya i)))=true)],((.ii (30:Int)),[]))):=by kernel_rfl
theorem ckB (xa ya a b c d:U6) (i j:Bool):B8 uyE Tryz.f34 3000 [.v (.a [.ob (.fp xa),.ob (.fp ya),.bool i]),.v (.a [.ob (.fp a),.ob (.fp b),.ob (.fp c),.ob (.fp d),.bool j])] [false,true] [] []=(some ([((Bool.not (onG (G1D.mk xa ya i)))=false),((Bool.not (I5 (G2D.mk a b c d j)))=true)],((.ii (30:Int)),[]))):=by kernel_rfl
theorem ckC (xa ya a b c d:U6) (i j:Bool):let f:=G1D.mk xa ya i;B8 uyE Tryz.f34 3000 [.v (.a [.ob (.fp xa),.ob (.fp ya),.bool i]),.v (.a [.ob (.fp a),.ob (.fp b),.ob (.fp c),.ob (.fp d),.bool j])] [false,false,true] [] []=(some ([((Bool.not (onG f))=false),((Bool.not (I5 (G2D.mk a b c d j)))=false),((Bool.not (grp f))=true)],((.ii (31:Int)),[]))):=by intros;kernel_rfl
theorem ckD (xa ya a b c d:U6) (i j:Bool):let f:=G2D.mk a b c d j;let g:=G1D.mk xa ya i;B8 uyE Tryz.f34 3000 [.v (.a [.ob (.fp xa),.ob (.fp ya),.bool i]),.v (.a [.ob (.fp a),.ob (.fp b),.ob (.fp c),.ob (.fp d),.bool j])] [false,false,false,true] [] []=(some ([((Bool.not (onG g))=false),((Bool.not (I5 f))=false),((Bool.not (grp g))=false),((Bool.not (A2b f))=true)],((.ii (31:Int)),[]))):=by intros;kernel_rfl
theorem ckE (xa ya a b c d:U6) (i j:Bool):let f:=G2D.mk a b c d j;let g:=G1D.mk xa ya i;B8 uyE Tryz.f34 3000 [.v (.a [.ob (.fp xa),.ob (.fp ya),.bool i]),.v (.a [.ob (.fp a),.ob (.fp b),.ob (.fp c),.ob (.fp d),.bool j])] [false,false,false,false] [] []=(some ([((Bool.not (onG g))=false),((Bool.not (I5 f))=false),((Bool.not (grp g))=false),((Bool.not (A2b f))=false)],((.ii (0:Int)),[]))):=by intros;kernel_rfl
theorem loA (xa ya a b c d:U6) (i j:Bool):B8 uyE Tryz.f36 3000 [.v (.a [.ob (.fp xa),.ob (.fp ya),.bool i]),.v (.a [.ob (.fp a),.ob (.fp b),.ob (.fp c),.ob (.fp d),.bool j])] [true] [] []=(some ([(i=true)],((.v (.a (E4 (1:F12)))),[]))):=by kernel_rfl
theorem loB (xa ya a b c d:U6) (i j:Bool):B8 uyE Tryz.f36 3000 [.v (.a [.ob (.fp xa),.ob (.fp ya),.bool i]),.v (.a [.ob (.fp a),.ob (.fp b),.ob (.fp c),.ob (.fp d),.bool j])] [false,true] [] []=(some ([(i=false),(j=true)],((.v (.a (E4 (1:F12)))),[]))):=by kernel_rfl
theorem loC (xa ya a b c d:U6) (i j:Bool):B8 uyE Tryz.f36 3000 [.v (.a [.ob (.fp xa),.ob (.fp ya),.bool i]),.v (.a [.ob (.fp a),.ob (.fp b),.ob (.fp c),.ob (.fp d),.bool j])] [false,false] [] []=(some ([(i=false),(j=false)],((.v (.a (E4 (mil (inP xa) (inP ya) (A3n (G2D.mk a b c d j)))))),[]))):=by kernel_rfl
/-- How a pair is refused, if it is; the loop's value. -/
def X9 (a:G1D) (b:G2D):Int:=if (!onG a || !I5 b)=true then 30 else if (!grp a || !A2b b)=true then 31 else 0
def A4g (a:G1D) (b:G2D):F12:=if (a.inf || b.inf)=true then 1 else mil (inP a.x) (inP a.y) (A3n b)
theorem G2o (xa ya a b c d:U6) (i j:Bool):FnD Tryz.prog 34 [.v (.a [.ob (.fp xa),.ob (.fp ya),.bool i]),.v (.a [.ob (.fp a),.ob (.fp b),.ob (.fp c),.ob (.fp d),.bool j])] (.v (.c (.int .i64 (X9 ⟨xa,ya,i⟩ ⟨a,b,c,d,j⟩)))) []:=by
 unfold X9
 cases h1:(!onG ⟨xa,ya,i⟩) with
 | true=>exact A5 A3e Tryz.func34 (ckA xa ya a b c d i j) ⟨h1,trivial⟩
 | false=>
  cases h2:(!I5 ⟨a,b,c,d,j⟩) with
  | true=>exact A5 A3e Tryz.func34 (ckB xa ya a b c d i j) ⟨h1,h2,trivial⟩
  | false=>
   cases h3:(!grp ⟨xa,ya,i⟩) with
   | true=>exact A5 A3e Tryz.func34 (ckC xa ya a b c d i j) ⟨h1,h2,h3,trivial⟩
   | false=>
    cases h4:(!A2b ⟨a,b,c,d,j⟩) with
    | true=>exact A5 A3e Tryz.func34 (ckD xa ya a b c d i j) ⟨h1,h2,h3,h4,trivial⟩
    | false=>exact A5 A3e Tryz.func34 (ckE xa ya a b c d i j) ⟨h1,h2,h3,h4,trivial⟩
theorem G5s (xa ya a b c d:U6) (i j:Bool):FnD Tryz.prog 36 [.v (.a [.ob (.fp xa),.ob (.fp ya),.bool i]),.v (.a [.ob (.fp a),.ob (.fp b),.ob (.fp c),.ob (.fp d),.bool j])] (.v (.a (E4 (A4g ⟨xa,ya,i⟩ ⟨a,b,c,d,j⟩)))) []:=by
 cases i with
 | true=>
  have e:A4g ⟨xa,ya,true⟩ ⟨a,b,c,d,j⟩=1:=if_pos rfl;rw[e];exact A5 A3e Tryz.func36 (loA xa ya a b c d true j) ⟨rfl,trivial⟩
 | false=>
  cases j with
  | true=>
   have e:A4g ⟨xa,ya,false⟩ ⟨a,b,c,d,true⟩=1:=if_pos rfl;rw[e];exact A5 A3e Tryz.func36 (loB xa ya a b c d false true) ⟨rfl,rfl,trivial⟩
  | false=>
   have e:A4g ⟨xa,ya,false⟩ ⟨a,b,c,d,false⟩=mil (inP xa) (inP ya) (A3n ⟨a,b,c,d,false⟩):=if_neg (fun h=>nomatch h)
   rw[e];exact A5 A3e Tryz.func36 (loC xa ya a b c d false false) ⟨rfl,rfl,trivial⟩
def C7x:B5
 | [.v (.a [.ob (.fp xa),.ob (.fp ya),.bool i]),.v (.a [.ob (.fp a),.ob (.fp b),.ob (.fp c),.ob (.fp d),.bool j])]=>some ([],.v (.c (.int .i64 (X9 ⟨xa,ya,i⟩ ⟨a,b,c,d,j⟩))),[])
 | _=>none
def uyF:Env:=uyE.set (D5 uyE.fn 34 C7x)
theorem H8s:A9 Tryz.prog uyF:=A8 A3e 34 C7x (A4 Tryz.func34 rfl rfl) fun args o r es h _=>by
 unfold C7x at h;split at h
 ·cases h;exact G2o _ _ _ _ _ _ _ _
 ·cases h
def C9u:B5
 | [.v (.a [.ob (.fp xa),.ob (.fp ya),.bool i]),.v (.a [.ob (.fp a),.ob (.fp b),.ob (.fp c),.ob (.fp d),.bool j])]=>some ([],.v (.a (E4 (A4g ⟨xa,ya,i⟩ ⟨a,b,c,d,j⟩))),[])
 | _=>none
def uyG:Env:=uyF.set (D5 uyF.fn 36 C9u)
theorem G1p:A9 Tryz.prog uyG:=A8 H8s 36 C9u (A4 Tryz.func36 rfl rfl) fun args o r es h _=>by
 unfold C9u at h;split at h
 ·cases h;exact G5s _ _ _ _ _ _ _ _
 ·cases h
--@env uyG G1p
end

section

--@env qwC D1j
theorem muA (a b:U6) (i:Bool) (k:U4):B8 qwC Tryz.f11 3000 [.v (.a [.ob (.fp a),.ob (.fp b),.bool i]),.v (.a [.ob (.fr k)])] [true] [] []=(some ([((Bool.not (onG (G1D.mk a b i)))=true)],((.t [(.a [(.ob (.fp (0:U6))),(.ob (.fp (0:U6))),(.lit false)]),(.c (.int .i64 (30:Int)))]),[]))):=by kernel_rfl
theorem muB (a b:U6) (i:Bool) (k:U4):let f:=G1D.mk a b i;let d:=A4l (jmn (inG f) (dgT (Fin.val k) 64));B8 qwC Tryz.f11 3000 [.v (.a [.ob (.fp a),.ob (.fp b),.bool i]),.v (.a [.ob (.fr k)])] [false] [] []=(some ([((Bool.not (onG f))=false)],((.t [(.a [(.ob (.fp (G1D.x d))),(.ob (.fp (G1D.y d))),(.bool (G1D.inf d))]),(.c (.int .i64 (0:Int)))]),[]))):=by intros;kernel_rfl
theorem F6x (a b:U6) (i:Bool) (k:U4):FnD Tryz.prog 11 [.v (.a [.ob (.fp a),.ob (.fp b),.bool i]),.v (.a [.ob (.fr k)])] (.t [.a (muR ⟨a,b,i⟩ k).1.its,.c (.int .i64 (muR ⟨a,b,i⟩ k).2)]) []:=by
 by_cases h1:onG ⟨a,b,i⟩=true
 ·rw[C1f k h1]
  exact A5 D1j Tryz.func11 (muB a b i k) ⟨by rw[h1];rfl,trivial⟩
 ·have h1:onG ⟨a,b,i⟩=false:=Bool.eq_false_iff.2 h1
  rw[G6i k h1];exact (A5 D1j Tryz.func11 (muA a b i k) ⟨by rw[h1];rfl,trivial⟩).conv (fun _ _ h=>h) fun y v hd=>A5t hd
--@env ruC D1q
theorem I4q (a b c d:U6) (i:Bool) (k:U4):let f:U6:=0;B8 ruC Tryz.f12 3000 [.v (.a [.ob (.fp a),.ob (.fp b),.ob (.fp c),.ob (.fp d),.bool i]),.v (.a [.ob (.fr k)])] [true] [] []=(some ([((Bool.not (I5 (G2D.mk a b c d i)))=true)],((.t [(.a [(.ob (.fp f)),(.ob (.fp f)),(.ob (.fp f)),(.ob (.fp f)),(.lit false)]),(.c (.int .i64 (30:Int)))]),[]))):=by intros;kernel_rfl
theorem I4r (a b c d:U6) (i:Bool) (k:U4):let g:=G2D.mk a b c d i;let f:=A8h (jmn (A3n g) (dgT (Fin.val k) 64));B8 ruC Tryz.f12 3000 [.v (.a [.ob (.fp a),.ob (.fp b),.ob (.fp c),.ob (.fp d),.bool i]),.v (.a [.ob (.fr k)])] [false] [] []=(some ([((Bool.not (I5 g))=false)],((.t [(.a [(.ob (.fp (G2D.xa f))),(.ob (.fp (G2D.xb f))),(.ob (.fp (G2D.ya f))),(.ob (.fp (G2D.yb f))),(.bool (G2D.inf f))]),(.c (.int .i64 (0:Int)))]),[]))):=by intros;kernel_rfl
theorem F6w (a b c d:U6) (i:Bool) (k:U4):FnD Tryz.prog 12 [.v (.a [.ob (.fp a),.ob (.fp b),.ob (.fp c),.ob (.fp d),.bool i]),.v (.a [.ob (.fr k)])] (.t [.a (A9k ⟨a,b,c,d,i⟩ k).1.its,.c (.int .i64 (A9k ⟨a,b,c,d,i⟩ k).2)]) []:=by
 by_cases h1:I5 ⟨a,b,c,d,i⟩=true
 ·rw[B7o k h1]
  exact A5 D1q Tryz.func12 (I4r a b c d i k) ⟨by rw[h1];rfl,trivial⟩
 ·have h1:I5 ⟨a,b,c,d,i⟩=false:=Bool.eq_false_iff.2 h1
  rw[F6v k h1];exact (A5 D1q Tryz.func12 (I4q a b c d i k) ⟨by rw[h1];rfl,trivial⟩).conv (fun _ _ h=>h) fun y v hd=>D5c hd
def C1g:B5
 | [.v (.a [.ob (.fp a),.ob (.fp b),.bool i]),.v (.a [.ob (.fr k)])]=>some ([],.t [.a (muR ⟨a,b,i⟩ k).1.its,.c (.int .i64 (muR ⟨a,b,i⟩ k).2)],[])
 | _=>none
def uzA:Env:=uyG.set (D5 uyG.fn 11 C1g)
theorem H8t:A9 Tryz.prog uzA:=A8 G1p 11 C1g (A4 Tryz.func11 rfl rfl) fun args o r es h _=>by
 unfold C1g at h;split at h
 ·cases h;exact F6x _ _ _ _
 ·cases h
def C1h:B5
 | [.v (.a [.ob (.fp a),.ob (.fp b),.ob (.fp c),.ob (.fp d),.bool i]),.v (.a [.ob (.fr k)])]=>some ([],.t [.a (A9k ⟨a,b,c,d,i⟩ k).1.its,.c (.int .i64 (A9k ⟨a,b,c,d,i⟩ k).2)],[])
 | _=>none
def uzB:Env:=uzA.set (D5 uzA.fn 12 C1h)
theorem J9:A9 Tryz.prog uzB:=A8 H8t 12 C1h (A4 Tryz.func12 rfl rfl) fun args o r es h _=>by
 unfold C1h at h;split at h
 ·cases h;exact F6w _ _ _ _ _ _
 ·cases h
end

section
section
variable {w0:World} {F0:Nat->Prop} {K:Kp} {ac:List Act} {Q:Exit->Act->World->Prop} {cX:Ctx} {aX:Act}

--@env uzB J9
def D6j:List KI:=(run uzB false 3000 ((fun (l:Nat) (va vp:Value) (la:List G1D)=>(⟨[.code (C0 Tryz.f93)],.normal,⟨B3n [.v (.c (.val (.func (.yield l) #[] #[]))),.v (.c (.ptr 0 0)),.v (.c (.val vp))],one (.fl [.vsl va (.g1 la)]),Tryz.f93.ntmps,16,[]⟩⟩:Cfg)) default default default default) []).cfg.k
theorem pj (l:Nat) (va vp:Value) (la:List G1D):let a:=Array.mk ([]:List Value);let b:=It.vsl va (Sq.g1 la);B1 []->Sg Tryz.prog (⟨B3n [.v (.c (.val (.func (.yield l) #[] #[]))),.v (.c (.ptr 0 0)),.v (.c (.val vp))],one (.fl [.vsl va (.g1 la)]),Tryz.f93.ntmps,16,[]⟩) (B2 22 [0,2,6,7,8] [(.ci (.val (Value.func (Fn.yield l) a a))),(.ci (.val vp)),(.ci b),(.ii (la.length:Int)),.ii (0:Int)] [0] [(eF_ [b])] 64 [] []) .normal (D6j) ([.code (C0 Tryz.f93)]):=fun ho=>fun hs hK=>
 B0 (unroll:=false) (n:=3000) (path:=[]) (o:=⟨_,_,_,_,_,_,_⟩) J9 (by kernel_rfl) (by kernel_rfl) ho hs hK
def pjS (l:Nat) (va vb:Value) (la:List G1D) (lb:List G2D) (i:Int):St:=B2 22 [0,2,6,7,8] [(.ci (.val (Value.func (Fn.yield l) (Array.mk ([]:List Value)) (Array.mk ([]:List Value))))),.v (.c (.ptr 0 0)),(.ci (It.vsl va (Sq.g1 la))),(.ii (la.length:Int)),.v (.c (.int .i64 i))] [0] [some (.fl [.vsl vb (.g2 lb)])] 64 [] []
def E0p:List KI:=(run uzB false 3000 ((fun (l:Nat) (va vb:Value) (la:List G1D) (lb:List G2D) (i:Nat)=>(⟨F9 D6j,.normal,pjS l va vb la lb (i:Int)⟩:Cfg)) default default default default default default) [true]).cfg.k
section
variable (l:Nat) (va vb:Value) (la:List G1D) (lb:List G2D) (i:Nat)
theorem pk:let f:Int:=i;let b:=List.getD lb (f).toNat g20;let d:=List.getD la (f).toNat g10;let g:Int:=la.length;let h:=Array.mk ([]:List Value);let c:=Value.func (Fn.yield l) h h;B1 [((decide (f<g))=true),(0<=f),(f<g),(0<=f),(f<(lb.length:Int))]->Sg Tryz.prog (pjS l va vb la lb f) (B2 22 [0,2,6,7,8,13,14,18] [(.ci (.val c)),.pt 0 0,(.ci (It.vsl va (Sq.g1 la))),(.ii g),(.ii f),(.ci (.val c)),(.v (.a [(.ob (.fp (G1D.x d))),(.ob (.fp (G1D.y d))),(.bool (G1D.inf d))])),(.v (.a [(.ob (.fp (G2D.xa b))),(.ob (.fp (G2D.xb b))),(.ob (.fp (G2D.ya b))),(.ob (.fp (G2D.yb b))),(.bool (G2D.inf b))]))] [0] [(eF_ [(It.vsl vb (Sq.g2 lb))])] 304 [] []) .normal (E0p) (F9 D6j):=fun ho=>fun hs hK=>
 B0 (unroll:=false) (n:=3000) (path:=[true]) (o:=⟨_,_,_,_,_,_,_⟩) J9 (by kernel_rfl) (by kernel_rfl) ho hs hK
theorem pX (ho:B1 [((decide ((i:Int)<(la.length:Int)))=false)]):Sg Tryz.prog (pjS l va vb la lb (i:Int)) (B2 22 [] [] [0] [(eF_ [(It.vsl vb (Sq.g2 lb))])] 80 [] []) .normal ([]) (F9 D6j):=fun hs hK=>
 B0 (unroll:=false) (n:=3000) (path:=[false]) (o:=⟨_,_,_,_,_,_,_⟩) J9 (by kernel_rfl) (by kernel_rfl) ho hs hK
end
theorem F8f (l:Nat) (va vb:Value) (la:List G1D) (lb:List G2D) (i:Nat):let a:=Array.mk ([]:List Value);A6l uzB false 3000 ((⟨A0b E0p,.normal,⟨Q0 (D7 .top [0,2,6,7,8,13,14,18] [.v (.c (.val (.func (.yield l) #[] #[]))),.v (.c (.ptr 0 0)),.v (.c (.vsl va (.g1 la))),.v (.c (.int .i64 (la.length:Nat))),.v (.c (.int .i64 (i:Int))),.top,.top,.top]) 19 (.ci (.lit true)),one (.fl [.vsl vb (.g2 lb)]),22,400,[]⟩⟩:Cfg)) [] [0,2,6,7,8] [0] []=some ⟨[],Exit.normal,[(SV.v (V1.c (It.val (Value.func (Fn.yield l) a a)))),(SV.v (V1.c (It.ptr 0 0))),(SV.v (V1.c (It.vsl va (Sq.g1 la)))),(SV.v (V1.c (It.int IntKind.i64 (la.length:Int)))),(SV.v (V1.c (It.int IntKind.i64 (wrap IntKind.i64 (((i:Nat):Int)+(1:Int))))))],[(Option.some (En.fl [(It.vsl vb (Sq.g2 lb))]))],22,448,[]⟩:=by intros;kernel_rfl
theorem F8g (l:Nat) (va vb:Value) (la:List G1D) (lb:List G2D) (i:Nat):(run uzB false 3000 ((⟨A0b E0p,.normal,⟨Q0 (D7 .top [0,2,6,7,8,13,14,18] [.v (.c (.val (.func (.yield l) #[] #[]))),.v (.c (.ptr 0 0)),.v (.c (.vsl va (.g1 la))),.v (.c (.int .i64 (la.length:Nat))),.v (.c (.int .i64 (i:Int))),.top,.top,.top]) 19 (.ci (.lit true)),one (.fl [.vsl vb (.g2 lb)]),22,400,[]⟩⟩:Cfg)) []).cfg.k=P2 D6j:=by kernel_rfl
theorem pB (l:Nat) (va vb:Value) (la:List G1D) (lb:List G2D) (i:Nat):let a:=Array.mk ([]:List Value);B1 []->Sg Tryz.prog (⟨Q0 (D7 .top [0,2,6,7,8,13,14,18] [.v (.c (.val (.func (.yield l) #[] #[]))),.v (.c (.ptr 0 0)),.v (.c (.vsl va (.g1 la))),.v (.c (.int .i64 (la.length:Nat))),.v (.c (.int .i64 (i:Int))),.top,.top,.top]) 19 (.ci (.lit true)),one (.fl [.vsl vb (.g2 lb)]),22,400,[]⟩) (B2 22 [0,2,6,7,8] [(.ci (.val (Value.func (Fn.yield l) a a))),.pt 0 0,(.ci (It.vsl va (Sq.g1 la))),(.ii (la.length:Int)),(.ii (wrap .i64 ((i:Int)+1)))] [0] [(eF_ [(It.vsl vb (Sq.g2 lb))])] 448 [] []) .normal (P2 D6j) (A0b E0p):=fun ho=>fun hs hK=>
 B0 J9 (F8f l va vb la lb i) (F8g l va vb la lb i) ho hs hK
theorem F8h  : A6l uzB false 3000 ((⟨A0b E0p,.normal,⟨Q0 (D7 .top [] []) 19 (.ci (.lit false)),D7 none [] [],22,400,[]⟩⟩:Cfg)) [] [] [] []=some ⟨[],Exit.ret,[],[],22,416,[]⟩:=by kernel_rfl
theorem F8i  : (run uzB false 3000 ((⟨A0b E0p,.normal,⟨Q0 (D7 .top [] []) 19 (.ci (.lit false)),D7 none [] [],22,400,[]⟩⟩:Cfg)) []).cfg.k=[]:=by kernel_rfl
theorem pC  (ho:B1 []):Sg Tryz.prog (⟨Q0 (D7 .top [] []) 19 (.ci (.lit false)),D7 none [] [],22,400,[]⟩) (B2 22 [] [] [] [] 416 [] []) .ret ([]) (A0b E0p):=fun hs hK=>
 B0 J9 (F8h ) (F8i ) ho hs hK
end
end

section

def g1V (a:G1D):Value:=.agg ((Ob.fp a.x).cells++((Ob.fp a.y).cells++[Value.bool a.inf])).toArray
def g2V (b:G2D):Value:=.agg ((Ob.fp b.xa).cells++((Ob.fp b.xb).cells++((Ob.fp b.ya).cells++((Ob.fp b.yb).cells++[Value.bool b.inf])))).toArray
theorem E6a {x:Ctx} {o:Ob} {c:List Value} (h:x.D (.ob o) c):c=o.cells:=by
 obtain ⟨d,h⟩:=h
 cases d<;>exact h
theorem H9h {x:Ctx} {b:Bool} {c:List Value} (h:x.D (.bool b) c):c=[Value.bool b]:=by
 obtain ⟨d,h⟩:=h
 cases d<;>exact h
theorem H2f {x:Ctx} {a:G1D} {v:Value} (h:B9 x (.v (.a a.its)) v):v=g1V a:=by
 obtain ⟨cs,rfl,c1,c2,rfl,h1,c3,c4,rfl,h2,c5,c6,rfl,h3,rfl⟩:=h;rw[E6a h1,E6a h2,H9h h3];rfl
theorem H2g {x:Ctx} {b:G2D} {v:Value} (h:B9 x (.v (.a b.its)) v):v=g2V b:=by
 obtain ⟨cs,rfl,c1,c2,rfl,h1,c3,c4,rfl,h2,c5,c6,rfl,h3,c7,c8,rfl,h4,c9,c10,rfl,h5,rfl⟩:=h;rw[E6a h1,E6a h2,E6a h3,E6a h4,H9h h5];rfl
theorem F3n (x:Ctx) (a:G1D):B9 x (.v (.a a.its)) (g1V a):=⟨_,rfl,_,_,rfl,⟨0,rfl⟩,_,_,rfl,⟨0,rfl⟩,_,[],rfl,⟨0,rfl⟩,rfl⟩
theorem F3o (x:Ctx) (b:G2D):B9 x (.v (.a b.its)) (g2V b):=⟨_,rfl,_,_,rfl,⟨0,rfl⟩,_,_,rfl,⟨0,rfl⟩,_,_,rfl,⟨0,rfl⟩,_,_,rfl,⟨0,rfl⟩,_,[],rfl,⟨0,rfl⟩,rfl⟩
def C2k (z:G1D×G2D):List Value:=[g1V z.1,g2V z.2]
def F9c (z:G1D×G2D):List SV:=[.v (.a z.1.its),.v (.a z.2.its)]
theorem D8g {la:List G1D} {lb:List G2D} (hlen:la.length=lb.length) {i:Nat} (hi:i<la.length):(la.zip lb).take (i+1)=(la.zip lb).take i++[(la.getD i g10,lb.getD i g20)]:=by
 have h1:i<lb.length:=by omega
 rw[List.take_add_one];congr 1
 simp [List.getElem?_zip_eq_some,List.getD_eq_getElem?_getD,hi,h1]
theorem C2d {x:Ctx} {p q:Nat} {va vb:Value} {la:List G1D} {lb:List G2D} {M:List (G1D×G2D)->Nat->Option En} {G:Ctx->Prop} {n:Nat} {stop:Option (G1D×G2D)} (hlen:la.length=lb.length) (hlim:la.length<=64) (hn:n<=la.length)
  (hst:(stop=none∧n=la.length)∨(n<la.length∧stop=some (la.getD n g10,lb.getD n g20))) (hMa:∀s,M s p=some (.fl [.vsl va (.g1 la)])) (hMb:∀s,M s q=some (.fl [.vsl vb (.g2 lb)])) (hG:∀y,G y->y.D (.sl (.g1 la)) [va]) :
  E2h Tryz.prog x 93 [(p,0),(q,0)] C2k ((la.zip lb).take n) stop M G:=by
 intro l J J' W hgrow hgrow' hread hyield hstop hnone hJ
 have key:Wq Tryz.prog (bodyPost Tryz.prog Tryz.f93 fun e' W' => (∃v,e' = Ending.returned v)∧J' W') [.code (C0 Tryz.f93)] [] .normal { tmps:=[Value.func (.yield l) #[] #[],.pointer (some ⟨x.β p,0,none⟩),.pointer (some ⟨x.β q,0,none⟩)].toArray++Array.replicate 19 undef,defers:=[] } W:=?_
 ·exact calls_of_wp (c:=C0 Tryz.f93) Tryz.func93 rfl ((wpIn_wide (n:=0)).1 key.wp)
 obtain ⟨y,rfl,hGy,hm,hcp⟩:=hread [] W hJ;obtain ⟨hr,hβ⟩:=hcp (p,0) List.mem_cons_self;have hr:y.k p = .real:=hr;have hβ:y.β p=x.β p:=hβ;have hargs:I6 (E0 y p) [.v (.c (.val (.func (.yield l) #[] #[]))),.v (.c (.ptr 0 0)),.v (.c (.val (.pointer (some ⟨x.β q,0,none⟩))))] [.func (.yield l) #[] #[],.pointer (some ⟨x.β p,0,none⟩),.pointer (some ⟨x.β q,0,none⟩)]:=
  .cons ⟨rfl,0,rfl,rfl⟩ (.cons ⟨rfl,0,rfl,by show _=[Value.pointer (some ⟨y.β p,0,none⟩)];rw[hβ]⟩ (.cons ⟨rfl,0,rfl,rfl⟩ .nil))
 have hbox:∀{y:Ctx} {q:Nat} {v:Value} {s:Sq} (cs:Array Value) (ty:TypeId),y.w.heap[y.β q]? = some (.cells cs ty (0,0))->C6 y (.fl [.vsl v s]) cs.toList->C6 (E0 y q) (.fl [.vsl v s]) cs.toList:=fun cs _ _ hc=>H0x cs hc
 have hs:=B4e (nx:=16) (nt:=22) (a:={ tmps:=[Value.func (.yield l) #[] #[],.pointer (some ⟨x.β p,0,none⟩),.pointer (some ⟨x.β q,0,none⟩)].toArray++Array.replicate 19 undef,defers:=[] }) hm (hMa []) hr hbox rfl (by simp) (A3f hargs 19)
 change Wq Tryz.prog _ _ _ _ _ (E0 y p).w
 refine pj l va _ la trivial hs fun ac cY aY hs1=>?_
 have hmb:Mem (E0 y p) (one (.fl [.vsl va (.g1 la)])):=A9b hm (hMa _) hr hbox;obtain ⟨hg1,_,_⟩:=A1b hmb rfl hs1 rfl;have hJ1:=hgrow _ _ _ hJ hg1;obtain ⟨y1,e1,hG1,hm1,hcp1⟩:=hread _ _ hJ1;obtain ⟨hr1,hβ1⟩:=hcp1 (q,0) (List.mem_cons_of_mem _ List.mem_cons_self);have hr1:y1.k q = .real:=hr1;have hβ1:y1.β q=x.β q:=hβ1;have dat:∀{y:Ctx},G y->(E0 y q).D (.sl (.g1 la)) [va]:=fun {y} h=>A3z (x:=y) (y:=E0 y q) rfl (fun _ h=>h) rfl (hG y h)
 have hs2:=G5c (nx' := 80) (svs' := [.v (.c (.val (.func (.yield l) #[] #[]))),.v (.c (.ptr 0 0)),.v (.c (.vsl va (.g1 la))),.v (.c (.int .i64 (la.length:Nat))),.v (.c (.int .i64 ((0:Nat):Int)))]) hs1 rfl hm1 (hMb []) hr1 hbox ⟨F1x,H1f (z:=x) hβ1.symm,F1y (dat hG1),C8f,C8f,trivial⟩;rw[<-e1];rw[<-e1] at hJ1;let I:{ t:Nat // t<=n } -> List Act->Act->World->Prop:=fun t ac a w=>∃y z,z.w=w∧G y∧y.k q = .real∧y.β q=x.β q∧Mem y (M ((la.zip lb).take t.1))∧J ((la.zip lb).take t.1) y.w∧Sim y.w y.F (B4g (E0 y q)) ac (pjS l va vb la lb (t.1:Int)) z a
 refine A5u I (fun t=>n-t.1) (c:=lpC D6j) (k:=lpR D6j) (by kernel_rfl) (fun t ih ac b w hI=>?_) ⟨0,Nat.zero_le _⟩ ⟨y1,E0 y1 q,rfl,hG1,hr1,hβ1,hm1,hJ1,hs2.nx _⟩
 obtain ⟨t,ht⟩:=t;obtain ⟨y,z,rfl,hG2,hr,hβ,hm,hJ,hs⟩:=hI;simp only at hm hJ hs ih
 have hmb:Mem (E0 y q) (one (.fl [.vsl vb (.g2 lb)])):=A9b hm (hMb _) hr hbox;by_cases h:t<la.length
 ·refine pk l va vb la lb t ⟨by simp;omega,by omega,by omega,by omega,by omega,trivial⟩ hs fun ac cV aV hs4=>?_
  obtain ⟨hg4,_,hβ4⟩:=A1b hmb rfl hs4 rfl;have hJ4:=hgrow _ _ _ hJ hg4;have ev:[aV.tmps.getD 14 undef,aV.tmps.getD 18 undef]=C2k (la.getD t g10,lb.getD t g20):=by
   have k1:=H2f (hs4.t 14);have k2:=H2g (hs4.t 18);show _=[g1V _,g2V _];rw[k1,k2];rfl
  by_cases h2:t<n
  ·have hz:=D8g hlen h
   refine C3x (R:=fun W' => J ((la.zip lb).take (t+1)) W') (dst:=some 19) (f:=.tmp 13) (args:=[.tmp 14,.tmp 18]) (by kernel_rfl) hs4 (l:=l) rfl (vs:=C2k (la.getD t g10,lb.getD t g20)) ev ?_ fun W' hJ3=>?_
   ·have:=hyield ((la.zip lb).take t) (la.getD t g10,lb.getD t g20) _ hJ4 ⟨((la.zip lb).take n).drop (t+1),by
     have e2:((la.zip lb).take n).take (t+1)=(la.zip lb).take (t+1):=by rw[List.take_take];congr 1;omega
     have e3:=List.take_append_drop (t+1) ((la.zip lb).take n);rw[e2,hz,List.append_assoc] at e3;exact e3.symm⟩
    rw[<-hz] at this;exact this
   ·obtain ⟨y3,rfl,hG3,hm3,hc3⟩:=hread _ _ hJ3
    obtain ⟨hr3,hβ3⟩:=hc3 (q,0) (List.mem_cons_of_mem _ List.mem_cons_self);have hr3:y3.k q = .real:=hr3;have hβ3:y3.β q=x.β q:=hβ3;have hs7:=F4q (nx' := 400) (dst:=19) (b:=true) (svs' := [.v (.c (.val (.func (.yield l) #[] #[]))),.v (.c (.ptr 0 0)),.v (.c (.vsl va (.g1 la))),.v (.c (.int .i64 (la.length:Nat))),.v (.c (.int .i64 (t:Int))),.top,.top,.top]) hs4 rfl hm3 (hMb _) hr3 hbox ⟨F1x,H1e (by rw[hβ4,hβ];exact hβ3.symm),F1y (dat hG3),C8f,C8f,D8u,D8u,D8u,trivial⟩ (by decide)
    change Wq Tryz.prog _ _ _ _ _ (E0 y3 q).w
    refine pB l va vb la lb t trivial hs7 fun ac cT aT hs8=>?_
    have e4:wrap IntKind.i64 ((t:Int)+1)=((t+1:Nat):Int):=by rw[C4 (by omega) (by omega)];omega
    rw[e4] at hs8;exact ih ⟨t+1,by omega⟩ (by show n-(t+1)<n-t;omega) ac aT _ ⟨y3,cT,rfl,hG3,hr3,hβ3,hm3,hJ3,hs8.nx _⟩
  ·have ht2:t=n:=by omega
   subst ht2;rcases hst with ⟨_,h3⟩ | ⟨_,h3⟩
   ·omega
   ·refine C7h (ans:=false) (R:=J') (dst:=some 19) (f:=.tmp 13) (args:=[.tmp 14,.tmp 18]) (by kernel_rfl) hs4 (l:=l) rfl (vs:=C2k (la.getD t g10,lb.getD t g20)) ev (hstop _ h3 _ hJ4) fun W' hJ3=>?_
    have hb:=G5b (nt:=22) (nx:=400) (dst:=19) (b:=false) (w:=W') (a:=aV) hs4.nt (by have:=hs4.defers;exact this) (by decide)
    change Wq Tryz.prog _ _ _ _ _ (E2n W').w
    have hfr:Frs cV (B4g (E0 y q)).ds [] ac:=hs4.frs
    cases hfr
    refine pC trivial hb fun ac cT aT hs8=>?_
    exact ⟨C9j J9 hs8 rfl rfl rfl (fun v=>⟨⟨v,rfl⟩,hgrow' _ _ hJ3 ⟨hs8.base.os,hs8.base.tape,hs8.base.output,hs8.base.size,fun b hb _=>hs8.base.keep b hb trivial⟩⟩) (.inl rfl)⟩
 ·have e5:t=n:=by omega
  subst e5;refine pX l va vb la lb t ⟨by simp;omega,trivial⟩ hs fun ac cV aV hs4=>?_
  obtain ⟨hg,_,_⟩:=A1b hmb rfl hs4 rfl;rcases hst with ⟨h3,_⟩ | ⟨h3,_⟩
  ·exact ⟨C9j J9 hs4 rfl rfl rfl (fun v=>⟨⟨v,rfl⟩,hnone h3 _ (hgrow _ _ _ hJ hg)⟩) (.inr rfl)⟩
  ·omega
end

section
section
variable {w0:World} {F0:Nat->Prop} {K:Kp} {ac:List Act} {Q:Exit->Act->World->Prop} {cX:Ctx} {aX:Act}

--@env uzB J9
theorem ccA (va vb:Value) (la:List G1D) (lb:List G2D):B8 uzB Tryz.f18 3000 [.v (.c (.vsl va (.g1 la))),.v (.c (.vsl vb (.g2 lb)))] [true] [] []=(some ([(((la.length:Int) != (lb.length:Int))=true)],((.t [(.c (.lit false)),(.c (.int .i64 (3:Int)))]),[]))):=by kernel_rfl
theorem ccB (va vb:Value) (la:List G1D) (lb:List G2D):let a:Int:=la.length;B8 uzB Tryz.f18 3000 [.v (.c (.vsl va (.g1 la))),.v (.c (.vsl vb (.g2 lb)))] [false,true] [] []=(some ([((a != (lb.length:Int))=false),((decide (a > (64:Int)))=true)],((.t [(.c (.lit false)),(.c (.int .i64 (2:Int)))]),[]))):=by intros;kernel_rfl
def B8t:List KI:=(run uzB false 3000 ((fun (va vb:Value) (la:List G1D) (lb:List G2D)=>(⟨[.code (C0 Tryz.f18)],.normal,F4 Tryz.f18.ntmps [.v (.c (.vsl va (.g1 la))),.v (.c (.vsl vb (.g2 lb)))]⟩:Cfg)) default default default default) [false,false]).cfg.k
theorem cc (va vb:Value) (la:List G1D) (lb:List G2D):let a:=It.vsl va (Sq.g1 la);let b:=It.vsl vb (Sq.g2 lb);let d:Int:=la.length;B1 [((d != (lb.length:Int))=false),((decide (d > (64:Int)))=false)]->Sg Tryz.prog (F4 Tryz.f18.ntmps [.v (.c (.vsl va (.g1 la))),.v (.c (.vsl vb (.g2 lb)))]) (B2 48 [0,1,4,5,24] [(.ci a),(.ci b),.pt 16 0,.pt 32 0,(.ci (.clo 93 [(240,0),(256,0)]))] [16,32,240,256] [(eF_ [(.lit false)]),(eF_ [(.int .i64 (0:Int))]),(eF_ [a]),(eF_ [b])] 320 [] []) .normal (B8t) ([.code (C0 Tryz.f18)]):=fun ho=>fun hs hK=>
 B0 (unroll:=false) (n:=3000) (path:=[false,false]) (o:=⟨_,_,_,_,_,_,_⟩) J9 (by kernel_rfl) (by kernel_rfl) ho hs hK
def ccS (va vb:Value) (la:List G1D) (lb:List G2D) (e:Int):St:=B2 48 [0,1,4,5,24] [(.ci (It.vsl va (Sq.g1 la))),(.ci (It.vsl vb (Sq.g2 lb))),.pt 16 0,.pt 32 0,(.ci (.clo 93 [(240,0),(256,0)]))] [16,32,240,256] [(eF_ [(.lit false)]),some (.fl [.int .i64 e]),(eF_ [(It.vsl va (Sq.g1 la))]),(eF_ [(It.vsl vb (Sq.g2 lb))])] 320 [] []
theorem cA (va vb:Value) (la:List G1D) (lb:List G2D) (xa ya a b c d:U6) (i j:Bool) {ρ:Option Nat}:let f:=It.vsl va (Sq.g1 la);let g:=It.vsl vb (Sq.g2 lb);(B1 [])->(Sim w0 F0 K ac (X4 (ccS va vb la lb 0) [(25,.v (.a [.ob (.fp xa),.ob (.fp ya),.bool i])),(26,.v (.a [.ob (.fp a),.ob (.fp b),.ob (.fp c),.ob (.fp d),.bool j]))]) cX aX)->(∀cY aY,Sim w0 F0 K ac (B2 48 [4,5,6,7] [.pt 16 0,.pt 32 0,.pt 320 0,.pt 352 0] [16,32,240,256,320,352] [(eF_ [(.lit false)]),(eF_ [(.int .i64 (0:Int))]),(eF_ [f]),(eF_ [g]),(eF_ [.ob (.fp xa),.ob (.fp ya),(.bool i)]),(eF_ [.ob (.fp a),.ob (.fp b),.ob (.fp c),.ob (.fp d),(.bool j)])] 384 [[0,1,4,5,24]] [([(.ci f),(.ci g),.pt 16 0,.pt 32 0,(.ci (.clo 93 [(240,0),(256,0)]))],48)]) cY aY->Wq Tryz.prog Q ([]) ac Exit.normal aY cY.w ρ)->Wq Tryz.prog Q ([.code (rfA B8t)]) ac .normal aX cX.w ρ :=fun ho hs hK=>
 G7 (unroll:=false) (n:=3000) (path:=[]) (o:=⟨_,_,_,_,_,_,_⟩) J9 (by kernel_rfl) (by kernel_rfl) ho (by kernel_rfl) (by kernel_rfl) hs hK
def ccM (va vb:Value) (la:List G1D) (lb:List G2D) (xa ya a b c d:U6) (i j:Bool):St:=B2 48 [4,5,6,7] [.pt 16 0,.pt 32 0,.pt 320 0,.pt 352 0] [16,32,240,256,320,352] [(eF_ [(.lit false)]),(eF_ [(.int .i64 (0:Int))]),(eF_ [(It.vsl va (Sq.g1 la))]),(eF_ [(It.vsl vb (Sq.g2 lb))]),(eF_ [.ob (.fp xa),.ob (.fp ya),(.bool i)]),(eF_ [.ob (.fp a),.ob (.fp b),.ob (.fp c),.ob (.fp d),(.bool j)])] 384 [[0,1,4,5,24]] [([(.ci (It.vsl va (Sq.g1 la))),(.ci (It.vsl vb (Sq.g2 lb))),.pt 16 0,.pt 32 0,(.ci (.clo 93 [(240,0),(256,0)]))],48)]
theorem cN (va vb:Value) (la:List G1D) (lb:List G2D) (xa ya a b c d:U6) (i j:Bool) {ρ:Option Nat}:let f:=It.vsl va (Sq.g1 la);let g:=It.vsl vb (Sq.g2 lb);(B1 [(((X9 (G1D.mk xa ya i) (G2D.mk a b c d j)) != (0:Int))=false)])->(Sim w0 F0 K ac (ccM va vb la lb xa ya a b c d i j) cX aX)->(∀cY aY,Sim w0 F0 K ac (B2 48 [4,5] [.pt 16 0,.pt 32 0] [16,32,240,256] [(eF_ [(.lit false)]),(eF_ [(.int .i64 (0:Int))]),(eF_ [f]),(eF_ [g])] 480 [[0,1,4,5,24]] [([(.ci f),(.ci g),.pt 16 0,.pt 32 0,(.ci (.clo 93 [(240,0),(256,0)]))],48)]) cY aY->Wq Tryz.prog Q ([]) ac Exit.normal aY cY.w ρ)->Wq Tryz.prog Q ([.code (rfB B8t)]) ac .normal aX cX.w ρ :=fun ho hs hK=>
 G7 (unroll:=false) (n:=3000) (path:=[false]) (o:=⟨_,_,_,_,_,_,_⟩) J9 (by kernel_rfl) (by kernel_rfl) ho (by kernel_rfl) (by kernel_rfl) hs hK
theorem cY (va vb:Value) (la:List G1D) (lb:List G2D) (xa ya a b c d:U6) (i j:Bool) {ρ:Option Nat}:let f:=X9 (G1D.mk xa ya i) (G2D.mk a b c d j);let g:=It.vsl va (Sq.g1 la);let h:=It.vsl vb (Sq.g2 lb);(B1 [((f != (0:Int))=true)])->(Sim w0 F0 K ac (ccM va vb la lb xa ya a b c d i j) cX aX)->(∀cY aY,Sim w0 F0 K ac (B2 48 [4,5] [.pt 16 0,.pt 32 0] [16,32,240,256] [(eF_ [(.lit false)]),(eF_ [(.int .i64 f)]),(eF_ [g]),(eF_ [h])] 528 [[0,1,4,5,24]] [([(.ci g),(.ci h),.pt 16 0,.pt 32 0,(.ci (.clo 93 [(240,0),(256,0)]))],48)]) cY aY->Wq Tryz.prog Q ([]) ac Exit.ret aY cY.w ρ)->Wq Tryz.prog Q ([.code (rfB B8t)]) ac .normal aX cX.w ρ :=fun ho hs hK=>
 G7 (unroll:=false) (n:=3000) (path:=[true]) (o:=⟨_,_,_,_,_,_,_⟩) J9 (by kernel_rfl) (by kernel_rfl) ho (by kernel_rfl) (by kernel_rfl) hs hK
def ccE (va vb:Value) (la:List G1D) (lb:List G2D) (xa ya a b c d:U6) (i j:Bool) (e:Int):St:=B2 48 [4,5] [.pt 16 0,.pt 32 0] [16,32,240,256] [(eF_ [(.lit false)]),some (.fl [.int .i64 e]),(eF_ [(It.vsl va (Sq.g1 la))]),(eF_ [(It.vsl vb (Sq.g2 lb))])] 480 [[0,1,4,5,24]] [([(.ci (It.vsl va (Sq.g1 la))),(.ci (It.vsl vb (Sq.g2 lb))),.pt 16 0,.pt 32 0,(.ci (.clo 93 [(240,0),(256,0)]))],48)]
theorem cR (va vb:Value) (la:List G1D) (lb:List G2D) (e:Int) (ho:B1 []):Sg Tryz.prog (ccS va vb la lb e) (B2 48 [4,5] [.pt 16 0,.pt 32 0] [16,32] [(eF_ [(.lit false)]),(eF_ [(.int .i64 e)])] 320 [] []) .ret ([]) (.code .ret::rfR B8t):=fun hs hK=>
 B0 (unroll:=false) (n:=3000) (path:=[]) (o:=⟨_,_,_,_,_,_,_⟩) J9 (by kernel_rfl) (by kernel_rfl) ho hs hK
def D3a:List KI:=(run uzB false 3000 ((fun (va vb:Value) (la:List G1D) (lb:List G2D)=>(⟨rfR B8t,.normal,ccS va vb la lb 0⟩:Cfg)) default default default default) []).cfg.k
theorem cW (va vb:Value) (la:List G1D) (lb:List G2D) {ρ:Option Nat}:let a:=It.vsl va (Sq.g1 la);let b:=It.vsl vb (Sq.g2 lb);(B1 [])->(Sim w0 F0 K ac (ccS va vb la lb 0) cX aX)->(∀cY aY,Sim w0 F0 K ac (B2 48 [0,1,4,5,9,36] [(.ci a),(.ci b),.pt 16 0,.pt 32 0,.pt 336 0,(.ci (.clo 93 [(400,0),(416,0)]))] [16,32,336,400,416] [(eF_ [(.lit false)]),(eF_ [(.int .i64 (0:Int))]),(eF_ (E4 (1:F12))),(eF_ [a]),(eF_ [b])] 480 [] []) cY aY->Wq Tryz.prog Q (D3a) ac Exit.normal aY cY.w ρ)->Wq Tryz.prog Q (rfR B8t) ac .normal aX cX.w ρ :=fun ho hs hK=>
 G7 (unroll:=false) (n:=3000) (path:=[]) (o:=⟨_,_,_,_,_,_,_⟩) J9 (by kernel_rfl) (by kernel_rfl) ho (by kernel_rfl) (by kernel_rfl) hs hK
def ceS (va vb:Value) (la:List G1D) (lb:List G2D) (f:F12):St:=B2 48 [0,1,4,5,9,36] [(.ci (It.vsl va (Sq.g1 la))),(.ci (It.vsl vb (Sq.g2 lb))),.pt 16 0,.pt 32 0,.pt 336 0,(.ci (.clo 93 [(400,0),(416,0)]))] [16,32,336,400,416] [(eF_ [(.lit false)]),(eF_ [(.int .i64 (0:Int))]),some (.fl (E4 f)),(eF_ [(It.vsl va (Sq.g1 la))]),(eF_ [(It.vsl vb (Sq.g2 lb))])] 480 [] []
theorem dA (va vb:Value) (la:List G1D) (lb:List G2D) (f:F12) (xa ya a b c d:U6) (i j:Bool) {ρ:Option Nat}:let g:=It.vsl va (Sq.g1 la);let h:=It.vsl vb (Sq.g2 lb);(B1 [])->(Sim w0 F0 K ac (X4 (ceS va vb la lb f) [(37,.v (.a [.ob (.fp xa),.ob (.fp ya),.bool i])),(38,.v (.a [.ob (.fp a),.ob (.fp b),.ob (.fp c),.ob (.fp d),.bool j]))]) cX aX)->(∀cY aY,Sim w0 F0 K ac (B2 48 [4,5,9,10,11] [.pt 16 0,.pt 32 0,.pt 336 0,.pt 480 0,.pt 512 0] [16,32,336,400,416,480,512] [(eF_ [(.lit false)]),(eF_ [(.int .i64 (0:Int))]),(eF_ (E4 f)),(eF_ [g]),(eF_ [h]),(eF_ [.ob (.fp xa),.ob (.fp ya),(.bool i)]),(eF_ [.ob (.fp a),.ob (.fp b),.ob (.fp c),.ob (.fp d),(.bool j)])] 544 [[0,1,4,5,9,36]] [([(.ci g),(.ci h),.pt 16 0,.pt 32 0,.pt 336 0,(.ci (.clo 93 [(400,0),(416,0)]))],48)]) cY aY->Wq Tryz.prog Q ([]) ac Exit.normal aY cY.w ρ)->Wq Tryz.prog Q ([.code (rfA D3a)]) ac .normal aX cX.w ρ :=fun ho hs hK=>
 G7 (unroll:=false) (n:=3000) (path:=[]) (o:=⟨_,_,_,_,_,_,_⟩) J9 (by kernel_rfl) (by kernel_rfl) ho (by kernel_rfl) (by kernel_rfl) hs hK
def ceM (va vb:Value) (la:List G1D) (lb:List G2D) (f:F12) (xa ya a b c d:U6) (i j:Bool):St:=B2 48 [4,5,9,10,11] [.pt 16 0,.pt 32 0,.pt 336 0,.pt 480 0,.pt 512 0] [16,32,336,400,416,480,512] [(eF_ [(.lit false)]),(eF_ [(.int .i64 (0:Int))]),(eF_ (E4 f)),(eF_ [(It.vsl va (Sq.g1 la))]),(eF_ [(It.vsl vb (Sq.g2 lb))]),(eF_ [.ob (.fp xa),.ob (.fp ya),(.bool i)]),(eF_ [.ob (.fp a),.ob (.fp b),.ob (.fp c),.ob (.fp d),(.bool j)])] 544 [[0,1,4,5,9,36]] [([(.ci (It.vsl va (Sq.g1 la))),(.ci (It.vsl vb (Sq.g2 lb))),.pt 16 0,.pt 32 0,.pt 336 0,(.ci (.clo 93 [(400,0),(416,0)]))],48)]
theorem dN (va vb:Value) (la:List G1D) (lb:List G2D) (f:F12) (xa ya a b c d:U6) (i j:Bool) {ρ:Option Nat}:let g:=E2.a f;let h:=E2.b f;let k:=It.vsl va (Sq.g1 la);let l:=It.vsl vb (Sq.g2 lb);(B1 [])->(Sim w0 F0 K ac (ceM va vb la lb f xa ya a b c d i j) cX aX)->(∀cY aY,Sim w0 F0 K ac (B2 48 [4,5] [.pt 16 0,.pt 32 0] [16,32,336,400,416] [(eF_ [(.lit false)]),(eF_ [(.int .i64 (0:Int))]),(eF_ (E4 ((E2.mk (E3.mk ((Prod.fst (E3.a g)),(Prod.snd (E3.a g))) ((Prod.fst (E3.b g)),(Prod.snd (E3.b g))) ((Prod.fst (E3.c g)),(Prod.snd (E3.c g)))) (E3.mk ((Prod.fst (E3.a h)),(Prod.snd (E3.a h))) ((Prod.fst (E3.b h)),(Prod.snd (E3.b h))) ((Prod.fst (E3.c h)),(Prod.snd (E3.c h)))))*(A4g (G1D.mk xa ya i) (G2D.mk a b c d j))))),(eF_ [k]),(eF_ [l])] 640 [[0,1,4,5,9,36]] [([(.ci k),(.ci l),.pt 16 0,.pt 32 0,.pt 336 0,(.ci (.clo 93 [(400,0),(416,0)]))],48)]) cY aY->Wq Tryz.prog Q ([]) ac Exit.normal aY cY.w ρ)->Wq Tryz.prog Q ([.code (rfB D3a)]) ac .normal aX cX.w ρ :=fun ho hs hK=>
 G7 (unroll:=false) (n:=3000) (path:=[]) (o:=⟨_,_,_,_,_,_,_⟩) J9 (by kernel_rfl) (by kernel_rfl) ho (by kernel_rfl) (by kernel_rfl) hs hK
theorem dX (va vb:Value) (la:List G1D) (lb:List G2D) (f:F12):let g:=N6 f;let h:=E2.a (1:F12);let i:=E2.b (1:F12);let j:=E2.a g;let k:=E2.b g;let d:=Bool.and (decide ((Prod.fst (E3.a j))=(Prod.fst (E3.a h)))) (Bool.and (decide ((Prod.snd (E3.a j))=(Prod.snd (E3.a h)))) (Bool.and (decide ((Prod.fst (E3.b j))=(Prod.fst (E3.b h)))) (Bool.and (decide ((Prod.snd (E3.b j))=(Prod.snd (E3.b h)))) (Bool.and (decide ((Prod.fst (E3.c j))=(Prod.fst (E3.c h)))) (Bool.and (decide ((Prod.snd (E3.c j))=(Prod.snd (E3.c h)))) (Bool.and (decide ((Prod.fst (E3.a k))=(Prod.fst (E3.a i)))) (Bool.and (decide ((Prod.snd (E3.a k))=(Prod.snd (E3.a i)))) (Bool.and (decide ((Prod.fst (E3.b k))=(Prod.fst (E3.b i)))) (Bool.and (decide ((Prod.snd (E3.b k))=(Prod.snd (E3.b i)))) (Bool.and (decide ((Prod.fst (E3.c k))=(Prod.fst (E3.c i)))) (decide ((Prod.snd (E3.c k))=(Prod.snd (E3.c i))))))))))))));B1 []->Sg Tryz.prog (ceS va vb la lb f) (B2 48 [4,5] [.pt 16 0,.pt 32 0] [16,32] [(eF_ [(.bool (ite (true=true) d (Bool.not d)))]),(eF_ [(.int .i64 (0:Int))])] 576 [] []) .ret ([]) (rfR D3a):=fun ho=>fun hs hK=>
 B0 (unroll:=false) (n:=3000) (path:=[]) (o:=⟨_,_,_,_,_,_,_⟩) J9 (by kernel_rfl) (by kernel_rfl) ho hs hK
def ceE (va vb:Value) (la:List G1D) (lb:List G2D) (f:F12) (xa ya a b c d:U6) (i j:Bool):St:=B2 48 [4,5] [.pt 16 0,.pt 32 0] [16,32,336,400,416] [(eF_ [(.lit false)]),(eF_ [(.int .i64 (0:Int))]),some (.fl (E4 f)),(eF_ [(It.vsl va (Sq.g1 la))]),(eF_ [(It.vsl vb (Sq.g2 lb))])] 640 [[0,1,4,5,9,36]] [([(.ci (It.vsl va (Sq.g1 la))),(.ci (It.vsl vb (Sq.g2 lb))),.pt 16 0,.pt 32 0,.pt 336 0,(.ci (.clo 93 [(400,0),(416,0)]))],48)]
def ccZ (e:Int):St:=B2 48 [4,5] [.pt 16 0,.pt 32 0] [16,32] [(eF_ [(.lit false)]),(eF_ [(.int .i64 e)])] 320 [] []
theorem H1a (e:Int):I8 uzB Tryz.f18 false 3000 (⟨[],.ret,ccZ e⟩) [] [] []=(some ([],((.t [(.c (.lit false)),(.c (.int .i64 e))]),[]))):=by kernel_rfl
def dZ (r:Bool):St:=B2 48 [4,5] [.pt 16 0,.pt 32 0] [16,32] [some (.fl [.bool r]),(eF_ [(.int .i64 (0:Int))])] 576 [] []
theorem H1g (r:Bool):I8 uzB Tryz.f18 false 3000 (⟨[],.ret,dZ r⟩) [] [] []=(some ([],((.t [(.c (.bool r)),(.c (.int .i64 (0:Int)))]),[]))):=by kernel_rfl
end
end

section

def B6a (u v:F12):Bool:=decide (u.a.a.1=v.a.a.1) && (decide (u.a.a.2=v.a.a.2) && (decide (u.a.b.1=v.a.b.1) && (decide (u.a.b.2=v.a.b.2) && (decide (u.a.c.1=v.a.c.1) && (decide (u.a.c.2=v.a.c.2) && (decide (u.b.a.1=v.b.a.1) && (decide (u.b.a.2=v.b.a.2) && (decide (u.b.b.1=v.b.b.1) && (decide (u.b.b.2=v.b.b.2) && (decide (u.b.c.1=v.b.c.1) && decide (u.b.c.2=v.b.c.2)))))))))))
theorem E7f (u v:F12):B6a u v=true↔u=v:=by
 obtain ⟨⟨⟨a1,a2⟩,⟨a3,a4⟩,⟨a5,a6⟩⟩,⟨⟨a7,a8⟩,⟨a9,a10⟩,⟨a11,a12⟩⟩⟩:=u;obtain ⟨⟨⟨b1,b2⟩,⟨b3,b4⟩,⟨b5,b6⟩⟩,⟨⟨b7,b8⟩,⟨b9,b10⟩,⟨b11,b12⟩⟩⟩:=v;simp only[B6a,Bool.and_eq_true,decide_eq_true_eq,E2.mk.injEq,E3.mk.injEq,Prod.mk.injEq,and_assoc]
def A8i (l:List (G1D×G2D)):F12:=l.foldl (fun f z=>f*A4g z.1 z.2) 1
theorem E0t (l:List (G1D×G2D)) (z:G1D×G2D):A8i (l++[z])=A8i l*A4g z.1 z.2:=C5p (fun (f:F12) (z:G1D×G2D)=>f*A4g z.1 z.2) 1 l z
/-- The first pair that is refused. -/
def B6p:List (G1D×G2D)->Int
 | []=>0
 | z::l=>if (X9 z.1 z.2 != 0)=true then X9 z.1 z.2 else B6p l
def pcD (la:List G1D) (lb:List G2D):Bool×Int:=
 if la.length≠lb.length then (false,3) else if 64<la.length then (false,2) else if (B6p (la.zip lb) != 0)=true then (false,B6p (la.zip lb)) else (B6a (N6 (A8i (la.zip lb))) 1,0)
theorem B8w:∀l:List (G1D×G2D),(B6p l=0∧∀z∈l,(X9 z.1 z.2 != 0)=false)∨∃n z,(∃t,l=l.take n++z::t)∧n<l.length∧(∀z∈l.take n,(X9 z.1 z.2 != 0)=false)∧(X9 z.1 z.2 != 0)=true∧B6p l=X9 z.1 z.2
 | []=>.inl ⟨rfl,fun _ h=>nomatch h⟩
 | z::l=>by
  cases h:(X9 z.1 z.2 != 0) with
  | true=>exact .inr ⟨0,z,⟨l,rfl⟩,by simp,by simp,h,by simp only[B6p,h,if_true]⟩
  | false=>
   have e:B6p (z::l)=B6p l:=by simp only[B6p,h];exact if_neg (fun k=>nomatch k)
   rw[e];rcases B8w l with ⟨h1,h2⟩ | ⟨n,y,⟨t,h1⟩,h2,h3,h4,h5⟩
   ·refine .inl ⟨h1,fun y hy=>?_⟩
    rcases List.mem_cons.1 hy with rfl | hy
    ·exact h
    ·exact h2 y hy
   ·refine .inr ⟨n+1,y,⟨t,by rw[List.take_succ_cons,List.cons_append,<-h1]⟩,by simpa using h2,fun y hy=>?_,h4,h5⟩
    rw[List.take_succ_cons] at hy;rcases List.mem_cons.1 hy with rfl | hy
    ·exact h
    ·exact h3 y hy

theorem E5r {x:Ctx} {u v:Value} {q:Sq} (h:B9 x (.v (.c (.vsl u q))) v):x.D (.sl q) [u]:=by
 obtain ⟨h1,h2⟩:=E2e h.2;simp only[List.cons.injEq,and_true] at h1;subst h1;exact h2
theorem A1c {y:Ctx} {v:Value} {b:Bool} {e:Int} (hd:B9 y (.t [.c (.lit b),.c (.int .i64 e)]) v):B9 y (.t [.c (.bool b),.c (.int .i64 e)]) v:=by
 obtain ⟨vs,rfl,h⟩:=hd
 cases h with
 | cons h1 h2=>exact ⟨_,rfl,.cons (S1 rfl (y:=y) h1) h2⟩
/-- A rejected pair, or none. -/
structure Stp (la:List G1D) (lb:List G2D) (n:Nat) (stop:Option (G1D×G2D)):Prop where
 h1:n<=la.length
 h2:(stop=none∧n=la.length)∨(n<la.length∧stop=some (la.getD n g10,lb.getD n g20))
 h3:∀z∈(la.zip lb).take n,(X9 z.1 z.2 != 0)=false
 h4:∀z,stop=some z->(X9 z.1 z.2 != 0)=true∧B6p (la.zip lb)=X9 z.1 z.2
 h5:stop=none->B6p (la.zip lb)=0
theorem H7a {la:List G1D} {lb:List G2D} (hlen:la.length=lb.length):∃n stop,Stp la lb n stop:=by
 have hz:(la.zip lb).length=la.length:=by simp [hlen]
 rcases B8w (la.zip lb) with ⟨h1,h2⟩ | ⟨n,z,⟨t,h1⟩,h2,h3,h4,h5⟩
 ·exact ⟨la.length,none,⟨Nat.le_refl _,.inl ⟨rfl,rfl⟩,fun z hz=>h2 z (List.mem_of_mem_take hz),fun z h=>(nomatch h),fun _=>h1⟩⟩
 ·rw[hz] at h2
  have e:=D8g hlen h2;have e2:(la.zip lb).take (n+1)=(la.zip lb).take n++[z]:=by
   have h6:((la.zip lb).take n).length=n:=by rw[List.length_take];omega
   conv=>lhs;rw[h1]
   rw[List.take_append,h6,List.take_of_length_le (by omega)]
   simp
  rw[e2] at e;have e3:=List.append_cancel_left e;simp only[List.cons.injEq,and_true] at e3;subst e3;exact ⟨n,some _,⟨by omega,.inr ⟨h2,rfl⟩,h3,fun z hz=>by cases hz;exact ⟨h4,h5⟩,fun h=>nomatch h⟩⟩
theorem G9l {la:List G1D} {lb:List G2D} (hlen:la.length=lb.length):(la.zip lb).take la.length=la.zip lb:=by
 rw[List.take_of_length_le];simp [hlen]

theorem F8q (va vb:Value) (la:List G1D) (lb:List G2D) (hlen:la.length=lb.length) (hlim:la.length<=64) :
  FnD Tryz.prog 18 [.v (.c (.vsl va (.g1 la))),.v (.c (.vsl vb (.g2 lb)))] (.t [.c (.bool (pcD la lb).1),.c (.int .i64 (pcD la lb).2)]) []:=by
 refine T0 (fn:=Tryz.f18) (c:=C0 Tryz.f18) Tryz.func18 rfl rfl fun X B hk hF hs=>?_
 have o1:(((la.length:Nat):Int) != ((lb.length:Nat):Int))=false:=by rw[hlen];simp
 have o2:decide (((la.length:Nat):Int) > (64:Int))=false:=by simp;omega
 refine cc va vb la lb ⟨o1,o2,trivial⟩ hs fun ac cJ aJ hs1=>?_
 obtain ⟨e1,e2⟩:=A2i (k:=B8t) (by kernel_rfl)
 rw[e1];have eP:(rfP B8t).toList=[25,26]:=by kernel_rfl
 have eG:rfG B8t = .tmp 24:=by kernel_rfl
 obtain ⟨n,stop,st⟩:=H7a hlen;have hda:cJ.D (.sl (.g1 la)) [va]:=E5r (hs1.t 0);have hsn:∀pre z,(∃t,(la.zip lb).take n=pre++z::t)->(X9 z.1 z.2 != 0)=false:=fun pre z ⟨t,ht⟩=>st.h3 z (by rw[ht];simp)
 have hs1:Sim X.w X.F Y5 ac { ccS va vb la lb 0 with nx:=320 } cJ aJ:=hs1
 refine A6f (ps:=rfP B8t) e2 hs1.own (gf:=93) (caps:=[(240,0),(256,0)]) (A4 Tryz.func93 rfl rfl) (fun _=>ccS va vb la lb 0) (fun s=>by rw[eG];rfl) ⟨_,rfl⟩ ((la.zip lb).take n) stop F9c C2k
  (fun y z=>.cons (F3n y z.1) (.cons (F3o y z.2) .nil)) (fun z=>by rw[<-Array.length_toList,eP];rfl) (fun pre p hp=>?_)
  (C2d hlen hlim st.h1 st.h2 (fun _=>rfl) (fun _=>rfl) fun y hy=>C4u hs1.mem hy rfl hda)
  (fun pre z=>ccM va vb la lb z.1.x z.1.y z.2.xa z.2.xb z.2.ya z.2.yb z.1.inf z.2.inf) (fun pre z=>ccE va vb la lb z.1.x z.1.y z.2.xa z.2.xb z.2.ya z.2.yb z.1.inf z.2.inf (X9 z.1 z.2)) (fun pre z hz=>⟨_,by
   have h:=hsn pre z hz;have h0:X9 z.1 z.2=0:=by simpa using h
   rw[h0];rfl⟩) (fun pre z hz w1 F1 K1 as1 Q1 l Y b hs2 hQ=>?_) (fun pre z hz w1 F1 K1 as1 Q1 l Y b hs2 hQ=>?_) (fun z hz w1 F1 K1 as1 Q1 l Y b hs2 hQ=>?_) (fun hst D Y hs2 hD hFD hd=>?_) (fun z hz D Y hs2 hD hFD hd=>?_)
 ·rw[eP] at hp
  simp only[List.mem_cons,List.not_mem_nil,or_false] at hp;rcases hp with rfl | rfl
  ·show 25<48
   decide
  ·show 26<48
   decide
 ·rw[eP] at hs2
  obtain ⟨⟨xa,ya,i⟩,⟨a,b,c,d,j⟩⟩:=z;exact cA va vb la lb xa ya a b c d i j trivial hs2 fun cZ aZ hs3=>⟨hQ _ _ (hs3.nx _)⟩
 ·have h:=hsn pre z hz
  have h0:X9 z.1 z.2=0:=by simpa using h
  rw[h0] at hQ;obtain ⟨⟨xa,ya,i⟩,⟨a,b,c,d,j⟩⟩:=z;exact cN va vb la lb xa ya a b c d i j ⟨h,trivial⟩ hs2 fun cZ aZ hs3=>⟨hQ _ _ (hs3.nx _)⟩
 ·have h:=(st.h4 z hz).1
  obtain ⟨⟨xa,ya,i⟩,⟨a,b,c,d,j⟩⟩:=z;exact cY va vb la lb xa ya a b c d i j ⟨h,trivial⟩ hs2 fun cZ aZ hs3=>⟨hQ _ _ (hs3.nx _)⟩
 ·have e5:n=la.length:=by
   rcases st.h2 with ⟨_,h⟩ | ⟨_,h⟩
   ·exact h
   ·rw[hst] at h;cases h
  have eR:pcD la lb=(B6a (N6 (A8i (la.zip lb))) 1,0):=by
   unfold pcD;rw[if_neg (by omega),if_neg (by omega),st.h5 hst]
   exact if_neg (fun k=>nomatch k)
  rw[eR];have hs2:=hs1.outOwn hs2;have hD:=Nat.le_trans hs1.base.size hD;have hs3:=hs2.marked rfl rfl D;refine cW va vb la lb trivial hs3 fun cV aV hs4=>?_
  obtain ⟨k1,k2⟩:=A2i (k:=D3a) (by kernel_rfl)
  rw[k1];have kP:(rfP D3a).toList=[37,38]:=by kernel_rfl
  have kG:rfG D3a = .tmp 36:=by kernel_rfl
  have hdb:cV.D (.sl (.g1 la)) [va]:=E5r (hs4.t 0);have hs4:Sim Y.w Y.F (T8 Y Y5 (H9 D)) ac { ceS va vb la lb (A8i []) with nx:=480 } cV aV:=hs4
  have hit:E2h Tryz.prog cV 93 [(400,0),(416,0)] C2k ((la.zip lb).take la.length) none (fun s=>(ceS va vb la lb (A8i s)).m) (A8p cV.w cV.F (T8 cV (T8 Y Y5 (H9 D)) (H9 D))):=
   C2d hlen hlim (Nat.le_refl _) (.inl ⟨rfl,rfl⟩) (fun _=>rfl) (fun _=>rfl) fun y hy=>C4u hs4.mem hy rfl hdb
  refine A6f (ps:=rfP D3a) k2 hs4.own (gf:=93) (caps:=[(400,0),(416,0)]) (A4 Tryz.func93 rfl rfl) (fun s=>ceS va vb la lb (A8i s)) (fun s=>by rw[kG];rfl) ⟨_,rfl⟩ ((la.zip lb).take la.length) none F9c C2k
   (fun y z=>.cons (F3n y z.1) (.cons (F3o y z.2) .nil)) (fun z=>by rw[<-Array.length_toList,kP];rfl) (fun pre p hp=>?_) hit
   (fun pre z=>ceM va vb la lb (A8i pre) z.1.x z.1.y z.2.xa z.2.xb z.2.ya z.2.yb z.1.inf z.2.inf) (fun pre z=>ceE va vb la lb (A8i (pre++[z])) z.1.x z.1.y z.2.xa z.2.xb z.2.ya z.2.yb z.1.inf z.2.inf) (fun pre z _=>⟨_,rfl⟩)
   (fun pre z hz w1 F1 K1 as1 Q1 l Y b hs2 hQ=>?_) (fun pre z hz w1 F1 K1 as1 Q1 l Y b hs2 hQ=>?_) (fun z hz=>nomatch hz) (fun _ D' Y' hs5 hD' hFD' hd' => ?_) (fun z hz=>nomatch hz)
  ·rw[kP] at hp
   simp only[List.mem_cons,List.not_mem_nil,or_false] at hp;rcases hp with rfl | rfl
   ·show 37<48
    decide
   ·show 38<48
    decide
  ·rw[kP] at hs2
   obtain ⟨⟨xa,ya,i⟩,⟨a,b,c,d,j⟩⟩:=z;exact dA va vb la lb _ xa ya a b c d i j trivial hs2 fun cZ aZ hs3=>⟨hQ _ _ (hs3.nx _)⟩
  ·rw[E0t] at hQ
   obtain ⟨⟨xa,ya,i⟩,⟨a,b,c,d,j⟩⟩:=z;exact dN va vb la lb _ xa ya a b c d i j trivial hs2 fun cZ aZ hs3=>⟨hQ _ _ (hs3.nx _)⟩
  ·have hs5:=hs4.outOwn hs5
   have hD' := Nat.le_trans hs4.base.size hD';rw[G9l hlen] at hs5;generalize A8i (la.zip lb)=f at hs5 ⊢
   have hs6:=hs5.marked2 rfl D';refine dX va vb la lb f trivial hs6 fun ac3 cU aU hs7=>⟨?_⟩
   have hs8:Sim Y'.w Y'.F (T8 Y' (T8 Y Y5 (H9 D)) (H9 D' ++ H9 D)) ac3 (dZ (if true=true then B6a (N6 f) 1 else !B6a (N6 f) 1)) cU aU:=Eq.mpr (by kernel_rfl) hs7
   rw[if_pos rfl] at hs8;generalize B6a (N6 f) 1=r at hs8 ⊢
   exact D9h J9 hk hF (H1g r) trivial (fun y v hd=>hd) hs2 hD hFD hd hs5 hD' hFD' hd' rfl hs8
 ·obtain ⟨h,h5⟩:=st.h4 z hz
  have eR:pcD la lb=(false,X9 z.1 z.2):=by
   unfold pcD;rw[if_neg (by omega),if_neg (by omega),h5]
   exact if_pos h
  rw[eR];have hs2:=hs1.outOwn hs2;have hD:=Nat.le_trans hs1.base.size hD;generalize X9 z.1 z.2=e at hs2 ⊢
  have hs2:Sim X.w X.F Y5 ac { ccS va vb la lb e with nx:=(B6h (ccE va vb la lb z.1.x z.1.y z.2.xa z.2.xb z.2.ya z.2.yb z.1.inf z.2.inf e)).nx } Y aJ:=hs2
  have hs3:=(hs2.nx 320).marked rfl rfl D;refine cR va vb la lb e trivial hs3 fun ac2 cV aV hs4=>⟨?_⟩
  have hs5:Sim Y.w Y.F (T8 Y Y5 (H9 D)) ac2 (ccZ e) cV aV:=hs4;exact Y4 J9 hk hF (H1a e) trivial (fun y v hd=>A1c hd) hs2 hD hFD hd rfl hs5
theorem E0o (la:List G1D) (lb:List G2D):FnD Tryz.prog 18 [.v (.c (.sl (.g1 la))),.v (.c (.sl (.g2 lb)))] (.t [.c (.bool (pcD la lb).1),.c (.int .i64 (pcD la lb).2)]) []:=by
 intro x vs hk hF hd;have key:∀va vb,FnD Tryz.prog 18 [.v (.c (.vsl va (.g1 la))),.v (.c (.vsl vb (.g2 lb)))] (.t [.c (.bool (pcD la lb).1),.c (.int .i64 (pcD la lb).2)]) []:=by
  intro va vb;by_cases h1:la.length=lb.length
  ·by_cases h2:la.length<=64
   ·exact F8q va vb la lb h1 h2
   ·have eR:pcD la lb=(false,2):=by
     unfold pcD;rw[if_neg (by omega),if_pos (by omega)]
    rw[eR];exact (A5 J9 Tryz.func18 (ccB va vb la lb) ⟨by rw[h1];simp,by simp;omega,trivial⟩).conv (fun _ _ h=>h) fun y v hd=>A1c hd
  ·have eR:pcD la lb=(false,3):=by
    unfold pcD;rw[if_pos h1]
   rw[eR];exact (A5 J9 Tryz.func18 (ccA va vb la lb) ⟨by simp;omega,trivial⟩).conv (fun _ _ h=>h) fun y v hd=>A1c hd
 cases hd with
 | cons h1 hd=>
  cases hd with
  | cons h2 hd=>
   cases hd with
   | nil=>exact key _ _ x _ hk hF (.cons ⟨rfl,E1o h1.2⟩ (.cons ⟨rfl,E1o h2.2⟩ .nil))
end

section
section
variable {w0:World} {F0:Nat->Prop} {K:Kp} {ac:List Act} {Q:Exit->Act->World->Prop} {cX:Ctx} {aX:Act}

--@env A7y M4
def D3o:List KI:=(run A7y false 3000 ((fun (k:U4)=>(⟨[.code (C0 Tryz.f129)],.normal,F4 Tryz.f129.ntmps [.v (.a [.ob (.fr k)])]⟩:Cfg)) default) []).cfg.k
theorem di (k:U4) (ho:B1 []):Sg Tryz.prog (F4 Tryz.f129.ntmps [.v (.a [.ob (.fr k)])]) (B2 49 [1,3,4,5] [.pt 16 0,(.ci (.val (Value.slice Option.none 0 0))),.ii (0:Int),.ii (0:Int)] [16] [(eF_ [.ob (.fr k)])] 96 [] []) .normal (D3o) ([.code (C0 Tryz.f129)]):=fun hs hK=>
 B0 (unroll:=false) (n:=3000) (path:=[]) (o:=⟨_,_,_,_,_,_,_⟩) M4 (by kernel_rfl) (by kernel_rfl) ho hs hK
def diS (k:U4) (L:List Int) (n:Nat) (c i:Int):St:=B2 49 [1,3,4,5] [.pt 16 0,.v (.c (.slc 17 0 n 1)),.v (.c (.int .i64 c)),.v (.c (.int .i64 i))] [16,17] [(eF_ [.ob (.fr k)]),some (.sq (.int L))] 96 [] []
def B1h:List KI:=(run A7y false 3000 ((fun (k:U4) (L:List Int) (n:Nat) (c i:Int)=>(⟨F9 D3o,.normal,diS k L n c i⟩:Cfg)) default default default default default) [true]).cfg.k
theorem diA (k:U4) (L:List Int) (n:Nat) (c i:Int) (ho:B1 [((decide (i<(256:Int)))=true)]):Sg Tryz.prog (diS k L n c i) (B2 49 [1,3,5,6,18] [.pt 16 0,(.ci (.slc 17 0 n 1)),.ii i,.ii c,.ii (0:Int)] [16,17] [(eF_ [.ob (.fr k)]),(eQ_ (.int L))] 240 [] []) .normal (B1h) (F9 D3o):=fun hs hK=>
 B0 (unroll:=false) (n:=3000) (path:=[true]) (o:=⟨_,_,_,_,_,_,_⟩) M4 (by kernel_rfl) (by kernel_rfl) ho hs hK
def diI (k:U4) (L:List Int) (n:Nat) (i d j:Int):St:=B2 49 [1,3,5,6,18] [.pt 16 0,(.ci (.slc 17 0 n 1)),.ii i,.v (.c (.int .i64 d)),.v (.c (.int .i64 j))] [16,17] [(eF_ [.ob (.fr k)]),(eQ_ (.int L))] 240 [] []
section
variable (k:U4) (L:List Int) (n:Nat) (i d j:Int)
theorem diB:let b:=wrap .i64 (i+j);let c:Int:=64;let a:=wrap .i64 (Int.tdiv b c);let f:=Int.tmod b c;B1 [((decide (j<(5:Int)))=true),((decide (b<(256:Int)))=true),(c≠(0:Int)),(0<=a),(a<(4:Int)),((0+((a).toNat*1))<(Ob.k (.fr k))),(c≠(0:Int)),(0<=f),(0<=j)]->Sg Tryz.prog (diI k L n i d j) (B2 49 [1,3,5,6,18] [.pt 16 0,(.ci (.slc 17 0 n 1)),.ii i,(.ii (wrap .i64 (d+(wrap .i64 ((wrap .i64 (I0 BinOp.and IntKind.u64 (Int.fdiv (A0 (Ob.n (.fr k)) (0+((a).toNat*1))) ((2:Int) ^ (Min.min (f).toNat 64))) (1:Int)))*((2:Int) ^ (Min.min (j).toNat 64))))))),(.ii (wrap .i64 (j+1)))] [16,17] [(eF_ [.ob (.fr k)]),(eQ_ (.int L))] 640 [] []) .normal (P2 B1h) (F9 B1h):=fun ho=>fun hs hK=>
 B0 (unroll:=false) (n:=3000) (path:=[true,true]) (o:=⟨_,_,_,_,_,_,_⟩) M4 (by kernel_rfl) (by kernel_rfl) ho hs hK
theorem diC (ho:B1 [((decide (j<(5:Int)))=true),((decide ((wrap .i64 (i+j))<(256:Int)))=false)]):Sg Tryz.prog (diI k L n i d j) (B2 49 [1,3,5,6,18] [.pt 16 0,(.ci (.slc 17 0 n 1)),.ii i,.ii d,(.ii (wrap .i64 (j+1)))] [16,17] [(eF_ [.ob (.fr k)]),(eQ_ (.int L))] 416 [] []) .normal (P2 B1h) (F9 B1h):=fun hs hK=>
 B0 (unroll:=false) (n:=3000) (path:=[true,false]) (o:=⟨_,_,_,_,_,_,_⟩) M4 (by kernel_rfl) (by kernel_rfl) ho hs hK
theorem diD:let a:=L.length+1;B1 [((decide (j<(5:Int)))=false),((decide (d > (16:Int)))=true),((a*8)<=140737488355328),(a<=maxLen),(n=L.length),(1=1)]->Sg Tryz.prog (diI k L n i d j) (B2 49 [1,3,4,5] [.pt 16 0,(.ci (.slc 17 0 a 1)),.ii (1:Int),(.ii (wrap .i64 (i+(5:Int))))] [16,17] [(eF_ [.ob (.fr k)]),(eQ_ (.int (L++[(wrap .i64 (d-(32:Int)))])))] 496 [] []) .normal (P2 D3o) (F9 B1h):=fun ho=>fun hs hK=>
 B0 (unroll:=false) (n:=3000) (path:=[false,true]) (o:=⟨_,_,_,_,_,_,_⟩) M4 (by kernel_rfl) (by kernel_rfl) ho hs hK
theorem diE:let a:=L.length+1;B1 [((decide (j<(5:Int)))=false),((decide (d > (16:Int)))=false),((a*8)<=140737488355328),(a<=maxLen),(n=L.length),(1=1)]->Sg Tryz.prog (diI k L n i d j) (B2 49 [1,3,4,5] [.pt 16 0,(.ci (.slc 17 0 a 1)),.ii (0:Int),(.ii (wrap .i64 (i+(5:Int))))] [16,17] [(eF_ [.ob (.fr k)]),(eQ_ (.int (L++[d])))] 432 [] []) .normal (P2 D3o) (F9 B1h):=fun ho=>fun hs hK=>
 B0 (unroll:=false) (n:=3000) (path:=[false,false]) (o:=⟨_,_,_,_,_,_,_⟩) M4 (by kernel_rfl) (by kernel_rfl) ho hs hK
end
theorem G3f (k:U4) (L:List Int) (n:Nat) (c i:Int):I8 A7y Tryz.f129 false 3000 (⟨F9 D3o,.normal,diS k L n c i⟩) [false,false] [] [17]=(some ([((decide (i<(256:Int)))=false),((decide (c > (0:Int)))=false),(n=L.length)],((.ci (.sl (.int L))),[]))):=by kernel_rfl
end
end

section

/-- One bit, as it is reckoned. -/
theorem E6f (k:U4) {m j:Nat} (h:m+j<256) (hj:j<5):wrap IntKind.i64 ((wrap IntKind.i64 (I0 BinOp.and IntKind.u64 (Int.fdiv (A0 (Ob.n (Ob.fr k)) (0+(((wrap IntKind.i64 (Int.tdiv (wrap IntKind.i64 ((m:Int)+(j:Int))) (64:Int)))).toNat*1))) ((2:Int) ^ (Min.min ((Int.tmod (wrap IntKind.i64 ((m:Int)+(j:Int))) (64:Int))).toNat 64))) (1:Int)))*((2:Int) ^ (Min.min ((j:Int)).toNat 64)))=((k.val / 2 ^ (m+j) % 2*2 ^ j:Nat):Int):=by
 rw[C4 (n:=(m:Int)+(j:Int)) (by omega) (by omega),<-Int.natCast_add]
 generalize hi:m+j=i at *;have e1:Int.tdiv (i:Int) (64:Int)=((i / 64:Nat):Int):=Int.tdiv_eq_ediv_of_nonneg (by omega)
 have e2:Int.tmod (i:Int) (64:Int)=((i % 64:Nat):Int):=Int.tmod_eq_emod_of_nonneg (by omega)
 rw[e1,e2,C4 (n:=((i / 64:Nat):Int)) (by omega) (by omega),Int.toNat_natCast,Int.toNat_natCast,Int.toNat_natCast]
 have e3:Min.min (i % 64) 64=i % 64:=by omega
 have e4:0+i / 64*1=i / 64:=by omega
 have e5:Min.min j 64=j:=by omega
 rw[e3,e4,e5];have hl:A0 (Ob.n (Ob.fr k)) (i / 64)=((k.val / 2 ^ (64*(i / 64)) % 18446744073709551616:Nat):Int):=rfl;rw[hl];have hb:k.val / 2 ^ (64*(i / 64)) % 18446744073709551616 / 2 ^ (i % 64) % 2=k.val / 2 ^ i % 2:=by
  have h64:18446744073709551616=2 ^ (i % 64)*(2*2 ^ (63-i % 64)):=by
   rw[<-Nat.pow_succ',<-Nat.pow_add,show i % 64+(63-i % 64+1)=64 from by omega]
  rw[h64,Nat.mod_mul_right_div_self,Nat.mod_mul_right_mod,Nat.div_div_eq_div_mul,<-Nat.pow_add,show 64*(i / 64)+i % 64=i from Nat.div_add_mod i 64]
 rw[<-hb];have hlt:k.val / 2 ^ (64*(i / 64)) % 18446744073709551616<18446744073709551616:=Nat.mod_lt _ (by decide)
 generalize k.val / 2 ^ (64*(i / 64)) % 18446744073709551616=w at *;have hp:((2:Int) ^ (i % 64))=((2 ^ (i % 64):Nat):Int):=by simp
 have hp2:((2:Int) ^ j)=((2 ^ j:Nat):Int):=by simp
 rw[hp,hp2,Int.fdiv_eq_ediv_of_nonneg _ (Int.natCast_nonneg _),<-Int.natCast_ediv];generalize w / 2 ^ (i % 64)=v;have ha:I0 BinOp.and IntKind.u64 (v:Int) (1:Int)=((v % 2:Nat):Int):=by
  show wrap IntKind.u64 ((BitVec.ofInt 64 (v:Int) &&& BitVec.ofInt 64 ((1:Nat):Int)).toNat:Int)=_;rw[BitVec.ofInt_natCast,BitVec.ofInt_natCast,BitVec.toNat_and,BitVec.toNat_ofNat,BitVec.toNat_ofNat];have e:1 % 2 ^ 64=2 ^ 1-1:=by decide
  rw[e,Nat.and_two_pow_sub_one_eq_mod];show (((v % 2 ^ 64 % 2 ^ 1:Nat):Int)) % 18446744073709551616=_;omega
 have h32:2 ^ j<=2 ^ 4:=Nat.pow_le_pow_right (by decide) (by omega)
 have h2:v % 2<2:=Nat.mod_lt _ (by decide)
 have hm:v % 2*2 ^ j<=1*2 ^ 4:=Nat.mul_le_mul (by omega) h32
 rw[ha,C4 (n:=((v % 2:Nat):Int)) (by omega) (by omega),<-Int.natCast_mul,C4 (by omega) (by omega)]

theorem G1r (k m j:Nat):k / 2 ^ m % 2 ^ (j+1)=k / 2 ^ m % 2 ^ j+k / 2 ^ (m+j) % 2*2 ^ j:=by
 rw[Nat.pow_succ,Nat.mod_mul,Nat.div_div_eq_div_mul,<-Nat.pow_add,Nat.mul_comm (2 ^ j)]
theorem H8y (k m:Nat):k / 2 ^ (5*m) % 2 ^ 5=k / 32 ^ m % 32:=by
 rw[Nat.pow_mul]
theorem G1i (k:U4):k.val<2 ^ 256:=by
 have h:B4=2 ^ 256:=by decide +kernel
 rw[<-h];exact k.isLt

theorem D8y (k:U4) {N:Nat} (hN:N=52):FnD Tryz.prog 129 [.v (.a [.ob (.fr k)])] (.v (.c (.sl (.int (dgW k.val N).1)))) []:=by
 refine O4 (fn:=Tryz.f129) (c:=C0 Tryz.f129) Tryz.func129 rfl rfl fun x0 a0 hk hF hs=>?_
 refine di k trivial hs fun ac cY aY hs1=>?_
 have hs2:=hs1.nilRow (p:=17) (q:=.int []) rfl (by decide) rfl (ml' := [16,17]) (ens' := [some (.fl [.ob (.fr k)]),some (.sq (.int []))]) (fun r=>C8s (by decide)) (svs' := [.v (.c (.ptr 16 0)),.v (.c (.slc 17 0 0 1)),.v (.c (.int .i64 0)),.v (.c (.int .i64 0))]) ⟨.inl rfl,.inr ⟨1,rfl,rfl⟩,.inl rfl,.inl rfl,trivial⟩
 change Wq Tryz.prog _ _ _ _ _ (K6 cY 17).w
 refine G2 (ι:={ m:Nat // m<=N }) (fun m=>diS k (dgW k.val m.1).1 m.1 ((dgW k.val m.1).2:Int) ((5*m.1:Nat):Int)) (fun m=>N-m.1) (c:=lpC D3o) (k:=lpR D3o) (by kernel_rfl) (fun m ih ac cY aY hs=>?_) ⟨0,Nat.zero_le _⟩ (hs2.nx _)
 obtain ⟨m,hm⟩:=m;simp only at ih hs
 have hc:=B3v k.val m;have hl:=A7a k.val m;by_cases h:m<N
 ·refine diA k _ m _ _ ⟨decide_eq_true (by omega),trivial⟩ hs fun ac cZ aZ hs3=>?_
  have e0:(((dgW k.val m).2:Nat):Int)=(((dgW k.val m).2+k.val / 2 ^ (5*m) % 2 ^ 0:Nat):Int):=by rw[Nat.pow_zero,Nat.mod_one,Nat.add_zero]
  rw[e0] at hs3;refine G2 (ι:={ j:Nat // j<=5 }) (fun j=>diI k (dgW k.val m).1 m ((5*m:Nat):Int) (((dgW k.val m).2+k.val / 2 ^ (5*m) % 2 ^ j.1:Nat):Int) (j.1:Int)) (fun j=>5-j.1) (c:=lpC B1h) (k:=lpR B1h) (by kernel_rfl) (fun j ih2 ac cY aY hs=>?_) ⟨0,Nat.zero_le _⟩ (hs3.nx _)
  obtain ⟨j,hj⟩:=j;simp only at ih2 hs
  have hpj:k.val / 2 ^ (5*m) % 2 ^ j<2 ^ j:=Nat.mod_lt _ (Nat.two_pow_pos _);have hj5:2 ^ j<=2 ^ 5:=Nat.pow_le_pow_right (by decide) hj
  by_cases hj2:j<5
  ·have ej:wrap IntKind.i64 ((j:Int)+1)=((j+1:Nat):Int):=by rw[C4 (by omega) (by omega)];rfl
   have hsum:=G1r k.val (5*m) j;by_cases hb:5*m+j<256
   ·have eb:=E6f k hb hj2
    have hw:wrap IntKind.i64 (((5*m:Nat):Int)+(j:Int))=((5*m+j:Nat):Int):=by rw[C4 (by omega) (by omega)];rfl
    have ht:Int.tdiv ((5*m+j:Nat):Int) 64=(((5*m+j) / 64:Nat):Int):=Int.tdiv_eq_ediv_of_nonneg (by omega)
    have ht2:Int.tmod ((5*m+j:Nat):Int) 64=(((5*m+j) % 64:Nat):Int):=Int.tmod_eq_emod_of_nonneg (by omega)
    have hw2:wrap IntKind.i64 (((5*m+j) / 64:Nat):Int)=(((5*m+j) / 64:Nat):Int):=C4 (by omega) (by omega)
    refine diB k _ m _ _ _ ⟨decide_eq_true (by omega),by rw[hw];exact decide_eq_true (by omega),by decide,by rw[hw,ht,hw2];omega,by rw[hw,ht,hw2];omega,by rw[hw,ht,hw2,Int.toNat_natCast];show _<4;omega,by decide,by rw[hw,ht2];omega,by omega,trivial⟩ hs fun ac cU aU hs4=>?_
    rw[eb,ej] at hs4;have hbit:k.val / 2 ^ (5*m+j) % 2*2 ^ j<=1*2 ^ 5:=Nat.mul_le_mul (by omega) hj5
    rw[C4 (by omega) (by omega),<-Int.natCast_add,Nat.add_assoc,<-hsum] at hs4
    exact ih2 ⟨j+1,hj2⟩ (by show 5-(j+1)<5-j;omega) ac cU aU (hs4.nx _)
   ·have hw:wrap IntKind.i64 (((5*m:Nat):Int)+(j:Int))=((5*m+j:Nat):Int):=by rw[C4 (by omega) (by omega)];rfl
    refine diC k _ m _ _ _ ⟨decide_eq_true (by omega),by rw[hw];exact decide_eq_false (by omega),trivial⟩ hs fun ac cU aU hs4=>?_
    have h0:k.val / 2 ^ (5*m+j)=0:=Nat.div_eq_of_lt (Nat.lt_of_lt_of_le (G1i k) (Nat.pow_le_pow_right (by decide) (by omega)))
    rw[h0,Nat.zero_mod,Nat.zero_mul,Nat.add_zero (k.val / 2 ^ (5*m) % 2 ^ j)] at hsum;rw[ej,<-hsum] at hs4;exact ih2 ⟨j+1,hj2⟩ (by show 5-(j+1)<5-j;omega) ac cU aU (hs4.nx _)
  ·have:j=5:=by omega
   subst this;rw[H8y,Nat.add_comm] at hs;have hw5:k.val / 32 ^ m % 32<32:=Nat.mod_lt _ (by decide)
   have e5:wrap IntKind.i64 (((5*m:Nat):Int)+5)=((5*(m+1):Nat):Int):=by rw[C4 (by omega) (by omega)];omega
   have hml:(dgW k.val m).1.length<=52:=by omega
   have hmax:(dgW k.val m).1.length+1<=maxLen:=Nat.le_trans (by omega) (show 53<=maxLen by decide)
   by_cases hg:k.val / 32 ^ m % 32+(dgW k.val m).2 > 16
   ·refine diD k _ m _ _ _ ⟨by decide,decide_eq_true (by omega),by omega,hmax,hl.symm,rfl,trivial⟩ hs fun ac cU aU hs4=>?_
    rw[e5,hl,C4 (by omega) (by omega)] at hs4
    refine ih ⟨m+1,h⟩ (by show N-(m+1)<N-m;omega) ac cU aU ?_
    show Sim _ _ _ _ (diS k (dgW k.val (m+1)).1 (m+1) ((dgW k.val (m+1)).2:Int) ((5*(m+1):Nat):Int)) _ _;rw[B1g hg];exact hs4.nx _
   ·refine diE k _ m _ _ _ ⟨by decide,decide_eq_false (by omega),by omega,hmax,hl.symm,rfl,trivial⟩ hs fun ac cU aU hs4=>?_
    rw[e5,hl] at hs4;refine ih ⟨m+1,h⟩ (by show N-(m+1)<N-m;omega) ac cU aU ?_
    show Sim _ _ _ _ (diS k (dgW k.val (m+1)).1 (m+1) ((dgW k.val (m+1)).2:Int) ((5*(m+1):Nat):Int)) _ _;rw[A1g hg];exact hs4.nx _
 ·obtain rfl:m=N:=by omega
  have h0:=(E3c hN (G1i k)).2;exact M6 M4 hk hF (G3f k (dgW k.val m).1 m ((dgW k.val m).2:Int) ((5*m:Nat):Int)) ⟨decide_eq_false (by omega),by rw[h0];decide,hl.symm,trivial⟩ (fun y v hd=>hd) hs

end

section
section
variable {w0:World} {F0:Nat->Prop} {K:Kp} {ac:List Act} {Q:Exit->Act->World->Prop} {cX:Ctx} {aX:Act}

def A8u:B5
 | [.v (.a [.ob (.fr k)])]=>some ([],.v (.c (.sl (.int (dgW k.val 52).1))),[])
 | _=>none
def ucA:Env:=uaB.set (D5 uaB.fn 129 A8u)
theorem B0u:A9 Tryz.prog ucA:=A8 E2b 129 A8u (A4 Tryz.func129 rfl rfl) fun args o r es h _=>by
 unfold A8u at h;split at h
 ·cases h;exact D8y _ (Eq.refl 52)
 ·cases h
def F4m (T:Nat->Option Func) (f:Nat):Option Func:=if f=140 then some Tryz.f140 else T f
def ucB:Env:={ ucA with inl:=F4m ucA.inl }
theorem A4r:A9 Tryz.prog ucB:=by
 refine ⟨B0u.ty,B0u.mixed,B0u.fn,B0u.mu,fun f fn h=>?_,B0u.ex,B0u.inv⟩
 have h:F4m ucA.inl f=some fn:=h;unfold F4m at h;split at h
 ·rename_i hf;cases h;subst hf;exact ⟨Tryz.func140,A4 Tryz.func140 rfl rfl⟩
 exact B0u.inl f fn h
--@env ucB A4r
def B6s:List KI:=(run ucB false 3000 ((fun (P:List (Fp×Fp×Fp)) (D:List Int)=>(⟨[.code (C0 Tryz.f130)],.normal,F4 Tryz.f130.ntmps [.v (.c (.sl (.pt P))),.v (.c (.sl (.int D)))]⟩:Cfg)) default default) []).cfg.k
theorem kb (P:List (Fp×Fp×Fp)) (D:List Int):let a:Fp:=0;B1 []->Sg Tryz.prog (F4 Tryz.f130.ntmps [.v (.c (.sl (.pt P))),.v (.c (.sl (.int D)))]) (B2 45 [1,4,5,9,10,11] [(.ci (.sl (.int D))),.pt 16 0,.pt 32 0,(.ci (.sl (Sq.pt P))),(.ii (P.length:Int)),.ii (0:Int)] [16,32] [(eF_ [(.ob (.p a)),(.ob (.p a)),(.ob (.p a))]),(eF_ [(.ob (.p a)),(.ob (.p a)),(.ob (.p a)),(.ob (.p a)),(.ob (.p a)),(.ob (.p a)),(.ob (.p a)),(.ob (.p a)),(.ob (.p a)),(.ob (.p a)),(.ob (.p a)),(.ob (.p a)),(.ob (.p a)),(.ob (.p a)),(.ob (.p a)),(.ob (.p a)),(.ob (.p a)),(.ob (.p a)),(.ob (.p a)),(.ob (.p a)),(.ob (.p a)),(.ob (.p a)),(.ob (.p a)),(.ob (.p a)),(.ob (.p a)),(.ob (.p a)),(.ob (.p a)),(.ob (.p a)),(.ob (.p a)),(.ob (.p a)),(.ob (.p a)),(.ob (.p a)),(.ob (.p a)),(.ob (.p a)),(.ob (.p a)),(.ob (.p a)),(.ob (.p a)),(.ob (.p a)),(.ob (.p a)),(.ob (.p a)),(.ob (.p a)),(.ob (.p a)),(.ob (.p a)),(.ob (.p a)),(.ob (.p a)),(.ob (.p a)),(.ob (.p a)),(.ob (.p a)),(.ob (.p a)),(.ob (.p a)),(.ob (.p a))])] 96 [] []) .normal (B6s) ([.code (C0 Tryz.f130)]):=fun ho=>fun hs hK=>
 B0 (unroll:=false) (n:=3000) (path:=[]) (o:=⟨_,_,_,_,_,_,_⟩) A4r (by kernel_rfl) (by kernel_rfl) ho hs hK
def kbS (P:List (Fp×Fp×Fp)) (D:List Int) (S:List (Fp×Fp×Fp)) (i:Int):St:=B2 45 [1,4,5,9,10,11] [(.ci (.sl (.int D))),.pt 16 0,.pt 32 0,(.ci (.sl (Sq.pt P))),(.ii (P.length:Int)),.v (.c (.int .i64 i))] [16,32] [(eF_ [(.ob (.p (0:Fp))),(.ob (.p (0:Fp))),(.ob (.p (0:Fp)))]),some (.sq (.pt S))] 96 [] []
theorem kbA (P:List (Fp×Fp×Fp)) (D:List Int) (S:List (Fp×Fp×Fp)) (i:Int):let a:=D.getD i.toNat 0;let b:Int:=P.length;let c:=(a).toNat<S.length;B1 [((decide (i<b))=true),(0<=i),(i<b),(0<=i),(i<(D.length:Int)),((decide (a > (0:Int)))=true),(0<=a),(a<(17:Int)),(0=0),c,(0<=a),(a<(17:Int)),(0=0),c]->Sg Tryz.prog (kbS P D S i) (B2 45 [1,4,5,9,10,11] [(.ci (.sl (.int D))),.pt 16 0,.pt 32 0,(.ci (.sl (Sq.pt P))),(.ii b),(.ii (wrap .i64 (i+1)))] [16,32] [(eF_ [(.ob (.p (0:Fp))),(.ob (.p (0:Fp))),(.ob (.p (0:Fp)))]),(eQ_ (Sq.pt (List.set S (a).toNat (jpl (List.getD S (a).toNat pt0) (List.getD P (i).toNat pt0)))))] 496 [] []) .normal (P2 B6s) (F9 B6s):=fun ho=>fun hs hK=>
 B0 (unroll:=false) (n:=3000) (path:=[true,true]) (o:=⟨_,_,_,_,_,_,_⟩) A4r (by kernel_rfl) (by kernel_rfl) ho hs hK
theorem kbB (P:List (Fp×Fp×Fp)) (D:List Int) (S:List (Fp×Fp×Fp)) (i:Int):let b:=D.getD i.toNat 0;let a:=wrap .i64 ((0:Int)-b);let c:Int:=P.length;let d:=(a).toNat<S.length;B1 [((decide (i<c))=true),(0<=i),(i<c),(0<=i),(i<(D.length:Int)),((decide (b > (0:Int)))=false),((decide (b<(0:Int)))=true),(0<=a),(a<(17:Int)),(0=0),d,(0<=a),(a<(17:Int)),(0=0),d]->Sg Tryz.prog (kbS P D S i) (B2 45 [1,4,5,9,10,11] [(.ci (.sl (.int D))),.pt 16 0,.pt 32 0,(.ci (.sl (Sq.pt P))),(.ii c),(.ii (wrap .i64 (i+1)))] [16,32] [(eF_ [(.ob (.p (0:Fp))),(.ob (.p (0:Fp))),(.ob (.p (0:Fp)))]),(eQ_ (Sq.pt (List.set S (a).toNat (jpl (List.getD S (a).toNat pt0) (jng (List.getD P (i).toNat pt0))))))] 592 [] []) .normal (P2 B6s) (F9 B6s):=fun ho=>fun hs hK=>
 B0 (unroll:=false) (n:=3000) (path:=[true,false,true]) (o:=⟨_,_,_,_,_,_,_⟩) A4r (by kernel_rfl) (by kernel_rfl) ho hs hK
theorem kbC (P:List (Fp×Fp×Fp)) (D:List Int) (S:List (Fp×Fp×Fp)) (i:Int):let a:Int:=P.length;let b:=D.getD i.toNat 0;B1 [((decide (i<a))=true),(0<=i),(i<a),(0<=i),(i<(D.length:Int)),((decide (b > (0:Int)))=false),((decide (b<(0:Int)))=false)]->Sg Tryz.prog (kbS P D S i) (B2 45 [1,4,5,9,10,11] [(.ci (.sl (.int D))),.pt 16 0,.pt 32 0,(.ci (.sl (Sq.pt P))),(.ii a),(.ii (wrap .i64 (i+1)))] [16,32] [(eF_ [(.ob (.p (0:Fp))),(.ob (.p (0:Fp))),(.ob (.p (0:Fp)))]),(eQ_ (Sq.pt S))] 416 [] []) .normal (P2 B6s) (F9 B6s):=fun ho=>fun hs hK=>
 B0 (unroll:=false) (n:=3000) (path:=[true,false,false]) (o:=⟨_,_,_,_,_,_,_⟩) A4r (by kernel_rfl) (by kernel_rfl) ho hs hK
def C5x:List KI:=(run ucB false 3000 ((fun (P:List (Fp×Fp×Fp)) (D:List Int) (S:List (Fp×Fp×Fp)) (i:Int)=>(⟨F9 B6s,.normal,kbS P D S i⟩:Cfg)) default default default default) [false]).cfg.k
theorem kbX (P:List (Fp×Fp×Fp)) (D:List Int) (S:List (Fp×Fp×Fp)) (i:Int):let a:=eF_ [(.ob (.p (0:Fp))),(.ob (.p (0:Fp))),(.ob (.p (0:Fp)))];B1 [((decide (i<(P.length:Int)))=false)]->Sg Tryz.prog (kbS P D S i) (B2 21 [0,2,3,4,5] [.pt 32 0,.pt 112 0,.pt 128 0,.pt 144 0,.ii (16:Int)] [16,32,112,128,144] [a,(eQ_ (Sq.pt S)),a,a,a] 176 [[4]] [([.pt 16 0],45)]) .normal (C5x) (F9 B6s):=fun ho=>fun hs hK=>
 B0 (unroll:=false) (n:=3000) (path:=[false]) (o:=⟨_,_,_,_,_,_,_⟩) A4r (by kernel_rfl) (by kernel_rfl) ho hs hK
def kbT (S:List (Fp×Fp×Fp)) (r o:Fp×Fp×Fp) (d:Int):St:=B2 21 [0,2,3,4,5] [.pt 32 0,.pt 112 0,.pt 128 0,.pt 144 0,.v (.c (.int .i64 d))] [16,32,112,128,144] [(eF_ [(.ob (.p (0:Fp))),(.ob (.p (0:Fp))),(.ob (.p (0:Fp)))]),(eQ_ (Sq.pt S)),(eF_ [(.ob (.p (0:Fp))),(.ob (.p (0:Fp))),(.ob (.p (0:Fp)))]),some (.fl [.ob (.p o.1),.ob (.p o.2.1),.ob (.p o.2.2)]),some (.fl [.ob (.p r.1),.ob (.p r.2.1),.ob (.p r.2.2)])] 176 [[4]] [([.pt 16 0],45)]
theorem kbU (S:List (Fp×Fp×Fp)) (r o:Fp×Fp×Fp) (d:Int):let a:=jpl r (List.getD S (d).toNat pt0);let b:=eF_ [(.ob (.p (0:Fp))),(.ob (.p (0:Fp))),(.ob (.p (0:Fp)))];let c:=Prod.snd (jpl o a);B1 [((decide (d > (0:Int)))=true),(0<=d),(d<(17:Int)),(0=0),((d).toNat<S.length)]->Sg Tryz.prog (kbT S r o d) (B2 21 [0,2,3,4,5] [.pt 32 0,.pt 112 0,.pt 128 0,.pt 144 0,(.ii (wrap .i64 (d-1)))] [16,32,112,128,144] [b,(eQ_ (Sq.pt S)),b,(eF_ [(.ob (.p (Prod.fst (jpl o a)))),(.ob (.p (Prod.fst c))),(.ob (.p (Prod.snd c)))]),(eF_ [(.ob (.p (Prod.fst a))),(.ob (.p (Prod.fst (Prod.snd a)))),(.ob (.p (Prod.snd (Prod.snd a))))])] 448 [[4]] [([.pt 16 0],45)]) .normal (P2 C5x) (F9 C5x):=fun ho=>fun hs hK=>
 B0 (unroll:=false) (n:=3000) (path:=[true]) (o:=⟨_,_,_,_,_,_,_⟩) A4r (by kernel_rfl) (by kernel_rfl) ho hs hK
theorem G5i (S:List (Fp×Fp×Fp)) (r o:Fp×Fp×Fp) (d:Int):I8 ucB Tryz.f130 false 3000 (⟨F9 C5x,.normal,kbT S r o d⟩) [false] [] []=(some ([((decide (d > (0:Int)))=false)],((.v (.a [(.ob (.p (Prod.fst o))),(.ob (.p (Prod.fst (Prod.snd o)))),(.ob (.p (Prod.snd (Prod.snd o))))])),[]))):=by kernel_rfl
end
end

section

theorem E9p {x:Ctx} {n:Nat} (L:List (Fp×Fp×Fp)) (h:L.length=n) (cs:List Value) (hc:C6 x (.fl (I2 L 0 n)) cs):C6 x (.sq (.pt L)) cs:=by
 obtain ⟨hl,hj⟩:=A5h L n 0 cs hc;refine ⟨?_,fun i hi=>?_⟩
 ·show L.length*18<=cs.length
  rw[h,hl];exact Nat.le_refl _
 ·have hi:i<L.length:=hi
  rw[h] at hi;obtain ⟨c,h1,h2⟩:=hj i hi;rw[Nat.zero_add] at h1;exact ⟨c,h1,h2⟩

theorem D2z (P:List (Fp×Fp×Fp)) (D:List Int) (hl:D.length=P.length) (hp:P.length<=4611686018427387904) (hd:∀i,-16<=D.getD i 0∧D.getD i 0<=16) :
  FnD Tryz.prog 130 [.v (.c (.sl (.pt P))),.v (.c (.sl (.int D)))] (.v (.a (J4 (bkT pt0 P D)))) []:=by
 refine O4 (fn:=Tryz.f130) (c:=C0 Tryz.f130) Tryz.func130 rfl rfl fun x0 a0 hk hF hs=>?_
 refine kb P D trivial hs fun ac cY aY hs1=>?_
 have hs2:=hs1.blocks (ens' := [some (.fl [.ob (.p 0),.ob (.p 0),.ob (.p 0)]),some (.sq (.pt (List.replicate 17 pt0)))])
  ⟨.inl rfl,.inr ⟨_,_,_,rfl,rfl,rfl,fun cs h=>E9p (n:=17) _ rfl cs h⟩,trivial⟩
 have hlen:∀i,(bkN pt0 (List.replicate 17 pt0) P D i).length=17:=fun i=>(C7s ..).trans List.length_replicate
 refine G2 (ι:={ i:Nat // i<=P.length }) (fun i=>kbS P D (bkN pt0 (List.replicate 17 pt0) P D i.1) (i.1:Int)) (fun i=>P.length-i.1) (c:=lpC B6s) (k:=lpR B6s) (by kernel_rfl) (fun i ih ac cY aY hs=>?_) ⟨0,Nat.zero_le _⟩ (hs2.nx _)
 obtain ⟨i,hi⟩:=i;simp only at ih hs
 have hS:=hlen i;by_cases h:i<P.length
 ·have hnext:bkN pt0 (List.replicate 17 pt0) P D (i+1)=bkS pt0 (bkN pt0 (List.replicate 17 pt0) P D i) (P.getD i pt0) (D.getD i 0):=rfl
  have ei:wrap IntKind.i64 ((i:Int)+1)=((i+1:Nat):Int):=by rw[C4 (by omega) (by omega)];rfl
  have hdi:=hd i;have go:∀(S' : List (Fp×Fp×Fp)) (n:Nat) (ac:List Act) (cU:Ctx) (aU:Act),S' = bkN pt0 (List.replicate 17 pt0) P D (i+1)->Sim x0.w x0.F Y5 ac (kbS P D S' ((i+1:Nat):Int)) cU aU->Wq Tryz.prog (D8i Tryz.prog Tryz.f130 x0 (.v (.a (J4 (bkT pt0 P D)))) []) (P2 B6s) ac .normal aU cU.w:=by
   intro S' n ac cU aU e hs
   rw[e] at hs;exact ih ⟨i+1,h⟩ (by show P.length-(i+1)<P.length-i;omega) ac cU aU hs
  generalize bkN pt0 (List.replicate 17 pt0) P D i=S at hs hS hnext;generalize hd0:D.getD i 0=d at hdi hnext;by_cases hpos:d > 0
  ·refine kbA P D S i ⟨decide_eq_true (by omega),by omega,by omega,by omega,by omega,?_,?_,?_,rfl,?_,?_,?_,rfl,?_,trivial⟩ hs fun ac cU aU hs3=>?_
   all_goals try rw[Int.toNat_natCast,hd0]
   ·exact decide_eq_true hpos
   ·omega
   ·omega
   ·omega
   ·omega
   ·omega
   ·omega
   ·rw[Int.toNat_natCast,hd0,ei] at hs3
    refine go _ 0 ac cU aU ?_ (hs3.nx _)
    rw[hnext];exact (if_pos hpos).symm
  ·by_cases hneg:d<0
   ·have ew:wrap IntKind.i64 ((0:Int)-d) = -d:=by rw[C4 (by omega) (by omega)];omega
    refine kbB P D S i ⟨decide_eq_true (by omega),by omega,by omega,by omega,by omega,?_,?_,?_,?_,rfl,?_,?_,?_,rfl,?_,trivial⟩ hs fun ac cU aU hs3=>?_
    all_goals try rw[Int.toNat_natCast,hd0]
    ·exact decide_eq_false hpos
    ·exact decide_eq_true hneg
    all_goals try rw[ew]
    ·omega
    ·omega
    ·omega
    ·omega
    ·omega
    ·omega
    ·rw[Int.toNat_natCast,hd0,ew,ei] at hs3
     refine go _ 0 ac cU aU ?_ (hs3.nx _)
     rw[hnext];unfold bkS;rw[if_neg hpos,if_pos hneg]
   ·refine kbC P D S i ⟨decide_eq_true (by omega),by omega,by omega,by omega,by omega,?_,?_,trivial⟩ hs fun ac cU aU hs3=>?_
    all_goals try rw[Int.toNat_natCast,hd0]
    ·exact decide_eq_false hpos
    ·exact decide_eq_false hneg
    ·rw[ei] at hs3
     refine go _ 0 ac cU aU ?_ (hs3.nx _)
     rw[hnext];unfold bkS;rw[if_neg hpos,if_neg hneg]
 ·obtain rfl:i=P.length:=by omega
  have hT:bkT pt0 P D=toO pt0 (bkN pt0 (List.replicate 17 pt0) P D P.length) 16:=rfl;rw[hT];generalize bkN pt0 (List.replicate 17 pt0) P D P.length=S at hs hS ⊢
  refine kbX P D S _ ⟨decide_eq_false (by omega),trivial⟩ hs fun ac cU aU hs3=>?_
  refine G2 (ι:={ n:Nat // n<=16 }) (fun n=>kbT S (toR pt0 S n.1) (toO pt0 S n.1) ((16-n.1:Nat):Int)) (fun n=>16-n.1) (c:=lpC C5x) (k:=lpR C5x) (by kernel_rfl) (fun n ih2 ac cY aY hs=>?_) ⟨0,Nat.zero_le _⟩ (hs3.nx _)
  obtain ⟨n,hn⟩:=n;simp only at ih2 hs
  by_cases hn16:n<16
  ·refine kbU S _ _ _ ⟨decide_eq_true (by omega),by omega,by omega,rfl,by rw[Int.toNat_natCast,hS];omega,trivial⟩ hs fun ac cV aV hs4=>?_
   have en:wrap IntKind.i64 (((16-n:Nat):Int)-1)=((16-(n+1):Nat):Int):=by rw[C4 (by omega) (by omega)];omega
   have e1:jpl (toR pt0 S n) (S.getD (16-n) pt0)=toR pt0 S (n+1):=rfl;have e2:jpl (toO pt0 S n) (toR pt0 S (n+1))=toO pt0 S (n+1):=rfl;rw[Int.toNat_natCast,en,e1,e2] at hs4;exact ih2 ⟨n+1,hn16⟩ (by show 16-(n+1)<16-n;omega) ac cV aV (hs4.nx _)
  ·obtain rfl:n=16:=by omega
   exact M6 A4r hk hF (G5i S _ _ _) ⟨by decide,trivial⟩ (fun y v hd=>hd) hs

end

section
section
variable {w0:World} {F0:Nat->Prop} {K:Kp} {ac:List Act} {Q:Exit->Act->World->Prop} {cX:Ctx} {aX:Act}

theorem C7u (P:List (Fp×Fp×Fp)) (D:List Int) (h:D.length=P.length∧P.length<=4611686018427387904∧G3i D):FnD Tryz.prog 130 [.v (.c (.sl (.pt P))),.v (.c (.sl (.int D)))] (.v (.a (J4 (bkT pt0 P D)))) []:=D2z P D h.1 h.2.1 h.2.2
def A5f:B5
 | [.v (.c (.sl (.pt P))),.v (.c (.sl (.int D)))]=>some ([D.length=P.length,P.length<=4611686018427387904,G3i D],.v (.a (J4 (bkT pt0 P D))),[])
 | _=>none
def ucC:Env:=ucB.set (D5 ucB.fn 130 A5f)
theorem A1w:A9 Tryz.prog ucC:=A8 A4r 130 A5f (A4 Tryz.func130 rfl rfl) fun args o r es h ho=>by
 unfold A5f at h;split at h
 ·cases h;exact C7u _ _ ⟨ho.1,ho.2.1,ho.2.2.1⟩
 ·cases h
--@env ucC A1w
def D8m:List KI:=(run ucC false 3000 ((fun (P:List (Fp×Fp×Fp)) (k:List U4)=>(⟨[.code (C0 Tryz.f101)],.normal,F4 Tryz.f101.ntmps [.v (.c (.sl (.pt P))),.v (.c (.sl (.fr k)))]⟩:Cfg)) default default) []).cfg.k
theorem am (P:List (Fp×Fp×Fp)) (k:List U4) (ho:B1 []):Sg Tryz.prog (F4 Tryz.f101.ntmps [.v (.c (.sl (.pt P))),.v (.c (.sl (.fr k)))]) (B2 72 [0,1,4,5,6,15,16,17] [(.ci (.sl (Sq.pt P))),(.ci (.sl (.fr k))),.pt 16 0,(.ci (.val (Value.slice Option.none 0 0))),.ii (0:Int),(.ci (.sl (.fr k))),(.ii (k.length:Int)),.ii (0:Int)] [16] [(eF_ [(.ob (.p (0:Fp))),(.ob (.p (0:Fp))),(.ob (.p (0:Fp)))])] 112 [] []) .normal (D8m) ([.code (C0 Tryz.f101)]):=fun hs hK=>
 B0 (unroll:=false) (n:=3000) (path:=[]) (o:=⟨_,_,_,_,_,_,_⟩) A1w (by kernel_rfl) (by kernel_rfl) ho hs hK
def amS (P:List (Fp×Fp×Fp)) (k:List U4) (R:List (List Int)) (n:Nat) (m i:Int):St:=B2 72 [0,1,4,5,6,15,16,17] [(.ci (.sl (Sq.pt P))),(.ci (.sl (.fr k))),.pt 16 0,.v (.c (.slc 17 0 n 1)),.v (.c (.int .i64 m)),(.ci (.sl (.fr k))),(.ii (k.length:Int)),.v (.c (.int .i64 i))] [16,17] [(eF_ [(.ob (.p (0:Fp))),(.ob (.p (0:Fp))),(.ob (.p (0:Fp)))]),some (.sq (.ints R))] 112 [] []
theorem amA (P:List (Fp×Fp×Fp)) (k:List U4) (R:List (List Int)) (n:Nat) (m i:Int):let a:=Prod.fst (dgW (Fin.val (k.getD i.toNat 0)) 52);let b:Int:=k.length;let c:=R.length+1;let d:Int:=(a.length:Nat);B1 [((decide (i<b))=true),(0<=i),(i<b),((c*24)<=140737488355328),(c<=maxLen),(n=R.length),(1=1)]->Sg Tryz.prog (amS P k R n m i) (B2 72 [0,1,4,5,6,15,16,17] [(.ci (.sl (Sq.pt P))),(.ci (.sl (.fr k))),.pt 16 0,(.ci (.slc 17 0 c 1)),(.ii (ite (d > m) d m)),(.ci (.sl (.fr k))),(.ii b),(.ii (wrap .i64 (i+1)))] [16,17] [(eF_ [(.ob (.p (0:Fp))),(.ob (.p (0:Fp))),(.ob (.p (0:Fp)))]),(eQ_ (.ints (R++[a])))] 432 [] []) .normal (P2 D8m) (F9 D8m):=fun ho=>fun hs hK=>
 B0 (unroll:=false) (n:=3000) (path:=[true]) (o:=⟨_,_,_,_,_,_,_⟩) A1w (by kernel_rfl) (by kernel_rfl) ho hs hK
def B8c:List KI:=(run ucC false 3000 ((fun (P:List (Fp×Fp×Fp)) (k:List U4) (R:List (List Int)) (n:Nat) (m i:Int)=>(⟨F9 D8m,.normal,amS P k R n m i⟩:Cfg)) default default default default default default) [false]).cfg.k
theorem amB (P:List (Fp×Fp×Fp)) (k:List U4) (R:List (List Int)) (n:Nat) (m i:Int):let a:Int:=k.length;let b:=eF_ [(.ob (.p (0:Fp))),(.ob (.p (0:Fp))),(.ob (.p (0:Fp)))];B1 [((decide (i<a))=false),(0<=a),(a=a),(((8:Int)*a)<=(281474976710656:Int)),(a<=(9223372036854775807:Int))]->Sg Tryz.prog (amS P k R n m i) (B2 72 [0,4,5,10,11,12] [(.ci (.sl (Sq.pt P))),.pt 16 0,(.ci (.slc 17 0 n 1)),.pt 128 0,(.ci (.slc 176 0 (a).toNat 1)),(.ii (wrap .i64 (m-1)))] [16,17,128,176] [b,(eQ_ (.ints R)),b,(eQ_ (.int (List.replicate (a).toNat 0)))] 256 [] []) .normal (B8c) (F9 D8m):=fun ho=>fun hs hK=>
 B0 (unroll:=false) (n:=3000) (path:=[false]) (o:=⟨_,_,_,_,_,_,_⟩) A1w (by kernel_rfl) (by kernel_rfl) ho hs hK
def amT (P:List (Fp×Fp×Fp)) (R:List (List Int)) (n q:Nat) (D:List Int) (o:Fp×Fp×Fp) (h:Int):St:=B2 72 [0,4,5,10,11,12] [(.ci (.sl (Sq.pt P))),.pt 16 0,(.ci (.slc 17 0 n 1)),.pt 128 0,.v (.c (.slc 176 0 q 1)),.v (.c (.int .i64 h))] [16,17,128,176] [(eF_ [(.ob (.p (0:Fp))),(.ob (.p (0:Fp))),(.ob (.p (0:Fp)))]),(eQ_ (.ints R)),some (.fl [.ob (.p o.1),.ob (.p o.2.1),.ob (.p o.2.2)]),some (.sq (.int D))] 256 [] []
def B8d:List KI:=(run ucC false 3000 ((fun (P:List (Fp×Fp×Fp)) (R:List (List Int)) (n q:Nat) (D:List Int) (o:Fp×Fp×Fp) (h:Int)=>(⟨F9 B8c,.normal,amT P R n q D o h⟩:Cfg)) default default default default default default default) [true]).cfg.k
theorem amC (P:List (Fp×Fp×Fp)) (R:List (List Int)) (n q:Nat) (D:List Int) (o:Fp×Fp×Fp) (h:Int) (ho:B1 [((decide (h >= (0:Int)))=true)]):Sg Tryz.prog (amT P R n q D o h) (B2 72 [0,4,5,10,11,12,41] [(.ci (.sl (Sq.pt P))),.pt 16 0,(.ci (.slc 17 0 n 1)),.pt 128 0,(.ci (.slc 176 0 q 1)),.ii h,.ii (0:Int)] [16,17,128,176] [(eF_ [(.ob (.p (0:Fp))),(.ob (.p (0:Fp))),(.ob (.p (0:Fp)))]),(eQ_ (.ints R)),(eF_ [(.ob (.p (Prod.fst o))),(.ob (.p (Prod.fst (Prod.snd o)))),(.ob (.p (Prod.snd (Prod.snd o))))]),(eQ_ (.int D))] 304 [] []) .normal (B8d) (F9 B8c):=fun hs hK=>
 B0 (unroll:=false) (n:=3000) (path:=[true]) (o:=⟨_,_,_,_,_,_,_⟩) A1w (by kernel_rfl) (by kernel_rfl) ho hs hK
def amU (P:List (Fp×Fp×Fp)) (R:List (List Int)) (n q:Nat) (D:List Int) (o:Fp×Fp×Fp) (h j:Int):St:=B2 72 [0,4,5,10,11,12,41] [(.ci (.sl (Sq.pt P))),.pt 16 0,(.ci (.slc 17 0 n 1)),.pt 128 0,(.ci (.slc 176 0 q 1)),.ii h,.v (.c (.int .i64 j))] [16,17,128,176] [(eF_ [(.ob (.p (0:Fp))),(.ob (.p (0:Fp))),(.ob (.p (0:Fp)))]),(eQ_ (.ints R)),(eF_ [(.ob (.p (Prod.fst o))),(.ob (.p (Prod.fst (Prod.snd o)))),(.ob (.p (Prod.snd (Prod.snd o))))]),(eQ_ (.int D))] 304 [] []
theorem amD (P:List (Fp×Fp×Fp)) (R:List (List Int)) (n q:Nat) (D:List Int) (o:Fp×Fp×Fp) (h j:Int):let a:=Prod.snd (jtw o);B1 [((decide (j<(5:Int)))=true)]->Sg Tryz.prog (amU P R n q D o h j) (B2 72 [0,4,5,10,11,12,41] [(.ci (.sl (Sq.pt P))),.pt 16 0,(.ci (.slc 17 0 n 1)),.pt 128 0,(.ci (.slc 176 0 q 1)),.ii h,(.ii (wrap .i64 (j+1)))] [16,17,128,176] [(eF_ [(.ob (.p (0:Fp))),(.ob (.p (0:Fp))),(.ob (.p (0:Fp)))]),(eQ_ (.ints R)),(eF_ [(.ob (.p (Prod.fst (jtw o)))),(.ob (.p (Prod.fst a))),(.ob (.p (Prod.snd a)))]),(eQ_ (.int D))] 400 [] []) .normal (P2 B8d) (F9 B8d):=fun ho=>fun hs hK=>
 B0 (unroll:=false) (n:=3000) (path:=[true]) (o:=⟨_,_,_,_,_,_,_⟩) A1w (by kernel_rfl) (by kernel_rfl) ho hs hK
def C4r:List KI:=(run ucC false 3000 ((fun (P:List (Fp×Fp×Fp)) (R:List (List Int)) (n q:Nat) (D:List Int) (o:Fp×Fp×Fp) (h j:Int)=>(⟨F9 B8d,.normal,amU P R n q D o h j⟩:Cfg)) default default default default default default default default) [false]).cfg.k
theorem amE (P:List (Fp×Fp×Fp)) (R:List (List Int)) (n q:Nat) (D:List Int) (o:Fp×Fp×Fp) (h j:Int) (ho:B1 [((decide (j<(5:Int)))=false),(q=D.length)]):Sg Tryz.prog (amU P R n q D o h j) (B2 72 [0,4,5,10,11,12,47,48,49] [(.ci (.sl (Sq.pt P))),.pt 16 0,(.ci (.slc 17 0 n 1)),.pt 128 0,(.ci (.slc 176 0 q 1)),.ii h,(.ci (.slc 17 0 n 1)),(.ii ((n:Nat):Int)),.ii (0:Int)] [16,17,128,176] [(eF_ [(.ob (.p (0:Fp))),(.ob (.p (0:Fp))),(.ob (.p (0:Fp)))]),(eQ_ (.ints R)),(eF_ [(.ob (.p (Prod.fst o))),(.ob (.p (Prod.fst (Prod.snd o)))),(.ob (.p (Prod.snd (Prod.snd o))))]),(eQ_ (.int (List.replicate D.length (0:Int))))] 400 [] []) .normal (C4r) (F9 B8d):=fun hs hK=>
 B0 (unroll:=false) (n:=3000) (path:=[false]) (o:=⟨_,_,_,_,_,_,_⟩) A1w (by kernel_rfl) (by kernel_rfl) ho hs hK
def amV (P:List (Fp×Fp×Fp)) (R:List (List Int)) (n q:Nat) (D:List Int) (o:Fp×Fp×Fp) (h i:Int):St:=B2 72 [0,4,5,10,11,12,47,48,49] [(.ci (.sl (Sq.pt P))),.pt 16 0,(.ci (.slc 17 0 n 1)),.pt 128 0,(.ci (.slc 176 0 q 1)),.ii h,(.ci (.slc 17 0 n 1)),(.ii ((n:Nat):Int)),.v (.c (.int .i64 i))] [16,17,128,176] [(eF_ [(.ob (.p (0:Fp))),(.ob (.p (0:Fp))),(.ob (.p (0:Fp)))]),(eQ_ (.ints R)),(eF_ [(.ob (.p (Prod.fst o))),(.ob (.p (Prod.fst (Prod.snd o)))),(.ob (.p (Prod.snd (Prod.snd o))))]),some (.sq (.int D))] 400 [] []
theorem amF (P:List (Fp×Fp×Fp)) (R:List (List Int)) (n q:Nat) (D:List Int) (o:Fp×Fp×Fp) (h i:Int):let a:=List.getD R (i).toNat ([]:List Int);let b:Int:=(n:Nat);let c:=h<((a.length:Nat):Int);B1 [((decide (i<b))=true),(0<=i),(i<b),(0=0),((i).toNat<R.length),((decide c)=true),(0<=h),c,(0<=i),(i<((q:Nat):Int)),(0=0),((i).toNat<D.length)]->Sg Tryz.prog (amV P R n q D o h i) (B2 72 [0,4,5,10,11,12,47,48,49] [(.ci (.sl (Sq.pt P))),.pt 16 0,(.ci (.slc 17 0 n 1)),.pt 128 0,(.ci (.slc 176 0 q 1)),.ii h,(.ci (.slc 17 0 n 1)),(.ii b),(.ii (wrap .i64 (i+1)))] [16,17,128,176] [(eF_ [(.ob (.p (0:Fp))),(.ob (.p (0:Fp))),(.ob (.p (0:Fp)))]),(eQ_ (.ints R)),(eF_ [(.ob (.p (Prod.fst o))),(.ob (.p (Prod.fst (Prod.snd o)))),(.ob (.p (Prod.snd (Prod.snd o))))]),(eQ_ (.int (List.set D (i).toNat (List.getD a (h).toNat 0))))] 720 [] []) .normal (P2 C4r) (F9 C4r):=fun ho=>fun hs hK=>
 B0 (unroll:=false) (n:=3000) (path:=[true,true]) (o:=⟨_,_,_,_,_,_,_⟩) A1w (by kernel_rfl) (by kernel_rfl) ho hs hK
theorem amH (P:List (Fp×Fp×Fp)) (R:List (List Int)) (n q:Nat) (D:List Int) (o:Fp×Fp×Fp) (h i:Int):let a:=jpl o (bkT pt0 P D);B1 [((decide (i<((n:Nat):Int)))=false),(0=0),(q=D.length),(1=1),(D.length=P.length),(P.length<=4611686018427387904),(G3i D)]->Sg Tryz.prog (amV P R n q D o h i) (B2 72 [0,4,5,10,11,12] [(.ci (.sl (Sq.pt P))),.pt 16 0,(.ci (.slc 17 0 n 1)),.pt 128 0,(.ci (.slc 176 0 q 1)),(.ii (wrap .i64 (h-1)))] [16,17,128,176] [(eF_ [(.ob (.p (0:Fp))),(.ob (.p (0:Fp))),(.ob (.p (0:Fp)))]),(eQ_ (.ints R)),(eF_ [(.ob (.p (Prod.fst a))),(.ob (.p (Prod.fst (Prod.snd a)))),(.ob (.p (Prod.snd (Prod.snd a))))]),(eQ_ (.int D))] 560 [] []) .normal (P2 B8c) (F9 C4r):=fun ho=>fun hs hK=>
 B0 (unroll:=false) (n:=3000) (path:=[false]) (o:=⟨_,_,_,_,_,_,_⟩) A1w (by kernel_rfl) (by kernel_rfl) ho hs hK
theorem G2f (P:List (Fp×Fp×Fp)) (R:List (List Int)) (n q:Nat) (D:List Int) (o:Fp×Fp×Fp) (h:Int):I8 ucC Tryz.f101 false 3000 (⟨F9 B8c,.normal,amT P R n q D o h⟩) [false] [] []=(some ([((decide (h >= (0:Int)))=false)],((.v (.a [(.ob (.p (Prod.fst o))),(.ob (.p (Prod.fst (Prod.snd o)))),(.ob (.p (Prod.snd (Prod.snd o))))])),[]))):=by kernel_rfl
end
end

section

theorem G2e (P:List (Fp×Fp×Fp)) (k:List U4) (hk0:k.length=P.length) (hp:P.length<=4096) {N:Nat} (hN:N=52) :
  FnD Tryz.prog 101 [.v (.c (.sl (.pt P))),.v (.c (.sl (.fr k)))] (.v (.a (J4 (smJ N pt0 P k)))) []:=by
 refine O4 (fn:=Tryz.f101) (c:=C0 Tryz.f101) Tryz.func101 rfl rfl fun x0 a0 hk hF hs=>?_
 refine am P k trivial hs fun ac cY aY hs1=>?_
 have hs2:=hs1.nilRow (p:=17) (q:=.ints []) rfl (by decide) rfl (ml' := [16,17]) (ens' := [some (.fl [.ob (.p 0),.ob (.p 0),.ob (.p 0)]),some (.sq (.ints []))]) (fun r=>C8s (by decide))
  (svs' := [.v (.c (.sl (.pt P))),.v (.c (.sl (.fr k))),.v (.c (.ptr 16 0)),.v (.c (.slc 17 0 0 1)),.v (.c (.int .i64 0)),.v (.c (.sl (.fr k))),.v (.c (.int .i64 ((k.length:Nat):Int))),.v (.c (.int .i64 0))]) ⟨.inl rfl,.inl rfl,.inl rfl,.inr ⟨1,rfl,rfl⟩,.inl rfl,.inl rfl,.inl rfl,.inl rfl,trivial⟩
 have hL:=E2y N k;have hrow:=@G3d N k;have hget:=C8g N k;have hdig:=G3c N k;have hmax:4097<=maxLen:=by decide
 change Wq Tryz.prog _ _ _ _ _ (K6 cY 17).w
 refine G2 (ι:={ i:Nat // i<=k.length }) (fun i=>amS P k ((dgK N k).take i.1) i.1 (if i.1=0 then 0 else (N:Int)) (i.1:Int)) (fun i=>k.length-i.1) (c:=lpC D8m) (k:=lpR D8m) (by kernel_rfl) (fun i ih ac cY aY hs=>?_) ⟨0,Nat.zero_le _⟩ (hs2.nx _)
 obtain ⟨i,hi⟩:=i;simp only at ih hs
 have htl:((dgK N k).take i).length=i:=by rw[List.length_take,hL];omega
 by_cases h:i<k.length
 ·refine amA P k _ i _ i ⟨decide_eq_true (by omega),by omega,by omega,by rw[htl];omega,by rw[htl];omega,htl.symm,rfl,trivial⟩ hs fun ac cU aU hs3=>?_
  have ei:wrap IntKind.i64 ((i:Int)+1)=((i+1:Nat):Int):=by rw[C4 (by omega) (by omega)];rfl
  have e52:(dgW (k.getD i 0).val 52).1=(dgK N k).getD i []:=by rw[hget i h,hN]
  rw[Int.toNat_natCast,ei,htl,e52,E9q _ _ (by omega),hrow i h] at hs3
  have em:(if ((N:Nat):Int) > (if i=0 then 0 else (N:Int)) then ((N:Nat):Int) else (if i=0 then 0 else (N:Int)))=(if i+1=0 then 0 else (N:Int)):=by
   rw[if_neg (show ¬i+1=0 from by omega)]
   split<;>split<;>omega
  rw[em] at hs3;exact ih ⟨i+1,h⟩ (by show k.length-(i+1)<k.length-i;omega) ac cU aU (hs3.nx _)
 ·obtain rfl:i=k.length:=by omega
  have ht:(dgK N k).take k.length=dgK N k:=by rw[<-hL,List.take_length]
  rw[ht] at hs;have em:(if k.length=0 then 0 else (N:Int))=((D5j N k:Nat):Int):=by
   cases k with
   | nil=>rfl
   | cons x l=>rfl
  rw[em] at hs;have hm52:D5j N k<=52:=by
   cases k with
   | nil=>exact Nat.zero_le _
   | cons x l=>exact Nat.le_of_eq hN
  have hmN:0<k.length->D5j N k=N:=by
   intro h
   cases k with
   | nil=>cases h
   | cons x l=>rfl
  refine amB P k _ k.length _ _ ⟨decide_eq_false (by omega),by omega,rfl,by omega,by omega,trivial⟩ hs fun ac cU aU hs3=>?_
  rw[Int.toNat_natCast] at hs3;have hres:smJ N pt0 P k=alN pt0 P (dgK N k) (D5j N k) (D5j N k):=rfl;rw[hres];generalize dgK N k=L at hs3 hL hrow hdig ⊢
  generalize D5j N k=m at hs3 hm52 hmN ⊢
  have eh:wrap IntKind.i64 ((m:Int)-1)=(m:Int)-1-((0:Nat):Int):=by rw[C4 (by omega) (by omega)];omega
  rw[eh] at hs3;refine G2 (ι:={ p:Nat×List Int // p.1<=m∧p.2.length=k.length }) (fun p=>amT P L k.length k.length p.1.2 (alN pt0 P L m p.1.1) ((m:Int)-1-(p.1.1:Int))) (fun p=>m-p.1.1) (c:=lpC B8c) (k:=lpR B8c) (by kernel_rfl) (fun p ih2 ac cY aY hs=>?_) ⟨(0,List.replicate k.length 0),Nat.zero_le _,List.length_replicate⟩ (hs3.nx _)
  obtain ⟨⟨t,D⟩,ht1,hD⟩:=p;simp only at ih2 hs ht1 hD
  by_cases htm:t<m
  ·have hlt:m-(t+1)<m-t:=by omega
   obtain ⟨a,ha⟩:∃a:Nat,a=m-1-t:=⟨_,rfl⟩
   have ea:(m:Int)-1-(t:Int)=(a:Int):=by omega
   rw[ea] at hs;have hnext:alN pt0 P L m (t+1)=jpl (A3q 5 (alN pt0 P L m t)) (bkT pt0 P (A0v L a)):=by rw[ha];rfl
   generalize alN pt0 P L m t=o at hs hnext;refine amC P L _ _ D o _ ⟨decide_eq_true (by omega),trivial⟩ hs fun ac cZ aZ hs4=>?_
   refine G2 (ι:={ j:Nat // j<=5 }) (fun j=>amU P L k.length k.length D (A3q j.1 o) (a:Int) (j.1:Int)) (fun j=>5-j.1) (c:=lpC B8d) (k:=lpR B8d) (by kernel_rfl) (fun j ih3 ac cY aY hs=>?_) ⟨0,Nat.zero_le _⟩ (hs4.nx _)
   obtain ⟨j,hj⟩:=j;simp only at ih3 hs
   by_cases hj5:j<5
   ·have ej:jtw (A3q j o)=A3q (j+1) o:=(C5w j o).symm
    generalize A3q j o=o1 at hs ej;refine amD P L _ _ D _ _ _ ⟨decide_eq_true (by omega),trivial⟩ hs fun ac cV aV hs5=>?_
    rw[C4 (n:=(j:Int)+1) (by omega) (by omega),ej] at hs5
    exact ih3 ⟨j+1,hj5⟩ (by show 5-(j+1)<5-j;omega) ac cV aV (hs5.nx _)
   ·obtain rfl:j=5:=by omega
    generalize A3q 5 o=o5 at hs hnext;refine amE P L _ _ D _ _ _ ⟨by decide,hD.symm,trivial⟩ hs fun ac cV aV hs5=>?_
    refine G2 (ι:={ p:Nat×List Int // p.1<=k.length∧p.2.length=k.length∧∀j,j<p.1->p.2.getD j 0=(L.getD j []).getD a 0 }) (fun p=>amV P L k.length k.length p.1.2 o5 (a:Int) (p.1.1:Int)) (fun p=>k.length-p.1.1) (c:=lpC C4r) (k:=lpR C4r) (by kernel_rfl) (fun p ih4 ac cY aY hs=>?_)
     ⟨(0,List.replicate D.length 0),Nat.zero_le _,List.length_replicate.trans hD,fun j hj=>absurd hj (Nat.not_lt_zero j)⟩ (hs5.nx _)
    obtain ⟨⟨i,E⟩,hi1,hE,hEg⟩:=p;simp only at ih4 hs hi1 hE hEg
    by_cases hik:i<k.length
    ·have hri:=hrow i hik
     have hmn:=hmN (by omega)
     refine amF P L _ _ E _ _ _ ⟨decide_eq_true (by omega),by omega,by omega,rfl,by rw[Int.toNat_natCast];omega,by rw[Int.toNat_natCast,hri];exact decide_eq_true (by omega),by omega,by rw[Int.toNat_natCast,hri];omega,by omega,by omega,rfl,by rw[Int.toNat_natCast];omega,trivial⟩ hs fun ac cW aW hs6=>?_
     rw[Int.toNat_natCast,Int.toNat_natCast,C4 (n:=(i:Int)+1) (by omega) (by omega)] at hs6
     refine ih4 ⟨(i+1,E.set i ((L.getD i []).getD a 0)),hik,(List.length_set ..).trans hE,fun j hj=>?_⟩ (by show k.length-(i+1)<k.length-i;omega) ac cW aW (hs6.nx _)
     have hj:j<i+1:=hj;show (E.set i _).getD j 0=_;rw[A6m _ _ _ _ _ (by omega)]
     by_cases e:j=i
     ·subst e;rw[if_pos rfl]
     ·rw[if_neg e];exact hEg j (by omega)
    ·obtain rfl:i=k.length:=by omega
     have hrowE:E=A0v L a:=G8i (by omega) fun j hj=>hEg j (by omega)
     subst hrowE;have hds:G3i (A0v L a):=fun j=>by rw[C6x];exact hdig j a
     refine amH P L _ _ _ _ _ _ ⟨decide_eq_false (by omega),rfl,by omega,rfl,by omega,by omega,hds,trivial⟩ hs fun ac cW aW hs6=>?_
     have e7:wrap IntKind.i64 ((a:Int)-1)=(m:Int)-1-((t+1:Nat):Int):=by rw[C4 (by omega) (by omega)];omega
     rw[e7,<-hnext] at hs6;have ih5:=ih2 ⟨(t+1,A0v L a),htm,hE⟩ hlt;dsimp only at ih5;generalize alN pt0 P L m (t+1)=oN at hs6 ih5;exact ih5 ac cW aW (hs6.nx _)
  ·obtain rfl:t=m:=by omega
   exact M6 A1w hk hF (G2f P L _ _ D _ _) ⟨decide_eq_false (by omega),trivial⟩ (fun y v hd=>hd) hs

end

section

--@env A7y M4
theorem tkA (a b:Int) (w:Bool):B8 A7y Tryz.f100 3000 [.v (.c (.int .i64 a)),.v (.c (.int .i64 b)),.v (.c (.bool w))] [true] [] []=(some ([((a != b)=true)],((.ii (3:Int)),[]))):=by kernel_rfl
theorem tkB (a b:Int) (w:Bool):B8 A7y Tryz.f100 3000 [.v (.c (.int .i64 a)),.v (.c (.int .i64 b)),.v (.c (.bool w))] [false,true] [] []=(some ([((a != b)=false),((decide (a > (4096:Int)))=true)],((.ii (2:Int)),[]))):=by kernel_rfl
theorem tkC (a b:Int) (w:Bool):B8 A7y Tryz.f100 3000 [.v (.c (.int .i64 a)),.v (.c (.int .i64 b)),.v (.c (.bool w))] [false,false,true] [] []=(some ([((a != b)=false),((decide (a > (4096:Int)))=false),(w=true)],((.ii (30:Int)),[]))):=by kernel_rfl
theorem tkD (a b:Int) (w:Bool):B8 A7y Tryz.f100 3000 [.v (.c (.int .i64 a)),.v (.c (.int .i64 b)),.v (.c (.bool w))] [false,false,false] [] []=(some ([((a != b)=false),((decide (a > (4096:Int)))=false),(w=false)],((.ii (0:Int)),[]))):=by kernel_rfl
end

section

theorem E6u (a b:Int) (w:Bool):FnD Tryz.prog 100 [.v (.c (.int .i64 a)),.v (.c (.int .i64 b)),.v (.c (.bool w))] (.v (.c (.int .i64 (A3g a b w)))) []:=by
 by_cases h:a=b
 ·by_cases h2:a > 4096
  ·rw[F1f h h2]
   exact A5 M4 Tryz.func100 (tkB a b w) ⟨by simp [h],decide_eq_true h2,trivial⟩
  ·cases w with
   | true=>rw[G9r h h2 rfl];exact A5 M4 Tryz.func100 (tkC a b true) ⟨by simp [h],decide_eq_false h2,rfl,trivial⟩
   | false=>rw[G2q h h2 rfl];exact A5 M4 Tryz.func100 (tkD a b false) ⟨by simp [h],decide_eq_false h2,rfl,trivial⟩
 ·rw[F1g h]
  exact A5 M4 Tryz.func100 (tkA a b w) ⟨by simp [h],trivial⟩

end

section
section
variable {w0:World} {F0:Nat->Prop} {K:Kp} {ac:List Act} {Q:Exit->Act->World->Prop} {cX:Ctx} {aX:Act}

theorem F0j (P:List (Fp×Fp×Fp)) (k:List U4) (h:k.length=P.length∧P.length<=4096):FnD Tryz.prog 101 [.v (.c (.sl (.pt P))),.v (.c (.sl (.fr k)))] (.v (.a (J4 (smJ 52 pt0 P k)))) []:=G2e P k h.1 h.2 (Eq.refl 52)
def C7m:B5
 | [.v (.c (.sl (.pt P))),.v (.c (.sl (.fr k)))]=>some ([k.length=P.length,P.length<=4096],.v (.a (J4 (smJ 52 pt0 P k))),[])
 | _=>none
def udA:Env:=ucC.set (D5 ucC.fn 101 C7m)
theorem B5n:A9 Tryz.prog udA:=A8 A1w 101 C7m (A4 Tryz.func101 rfl rfl) fun args o r es h ho=>by
 unfold C7m at h;split at h
 ·cases h;exact F0j _ _ ⟨ho.1,ho.2.1⟩
 ·cases h
--@env udA B5n
def E7c:List KI:=(run udA false 3000 ((fun (l:List G1D)=>(⟨[.code (C0 Tryz.f102)],.normal,F4 Tryz.f102.ntmps [.v (.c (.sl (.g1 l))),.v (.c (.clo 40 []))]⟩:Cfg)) default) []).cfg.k
theorem ea (l:List G1D):let a:Int:=l.length;B1 [(0<=a),(a=a),(((144:Int)*a)<=(281474976710656:Int)),(a<=(9223372036854775807:Int))]->Sg Tryz.prog (F4 Tryz.f102.ntmps [.v (.c (.sl (.g1 l))),.v (.c (.clo 40 []))]) (B2 26 [1,5,11,12,13] [(.ci (.clo 40 ([]:List (Prod Nat Nat)))),(.ci (.slc 64 0 (a).toNat 18)),(.ci (.sl (Sq.g1 l))),(.ii a),.ii (0:Int)] [64] [(eQ_ (Sq.pt (List.replicate (a).toNat pt0)))] 144 [] []) .normal (E7c) ([.code (C0 Tryz.f102)]):=fun ho=>fun hs hK=>
 B0 (unroll:=false) (n:=3000) (path:=[]) (o:=⟨_,_,_,_,_,_,_⟩) B5n (by kernel_rfl) (by kernel_rfl) ho hs hK
def eaS (l:List G1D) (L:List (Fp×Fp×Fp)) (n:Nat) (i:Int):St:=B2 26 [1,5,11,12,13] [(.ci (.clo 40 ([]:List (Prod Nat Nat)))),.v (.c (.slc 64 0 n 18)),(.ci (.sl (Sq.g1 l))),(.ii (l.length:Int)),.v (.c (.int .i64 i))] [64] [some (.sq (.pt L))] 144 [] []
theorem eaA (l:List G1D) (L:List (Fp×Fp×Fp)) (n:Nat) (i:Int):let a:Int:=l.length;B1 [((decide (i<a))=true),(0<=i),(i<a),(0<=i),(i<((n:Nat):Int)),(0=0),((i).toNat<L.length)]->Sg Tryz.prog (eaS l L n i) (B2 26 [1,5,11,12,13] [(.ci (.clo 40 ([]:List (Prod Nat Nat)))),(.ci (.slc 64 0 n 18)),(.ci (.sl (Sq.g1 l))),(.ii a),(.ii (wrap .i64 (i+1)))] [64] [(eQ_ (Sq.pt (List.set L (i).toNat (inG (List.getD l (i).toNat g10)))))] 400 [] []) .normal (P2 E7c) (F9 E7c):=fun ho=>fun hs hK=>
 B0 (unroll:=false) (n:=3000) (path:=[true]) (o:=⟨_,_,_,_,_,_,_⟩) B5n (by kernel_rfl) (by kernel_rfl) ho hs hK
theorem G3j (l:List G1D) (L:List (Fp×Fp×Fp)) (n:Nat) (i:Int):I8 udA Tryz.f102 false 3000 (⟨F9 E7c,.normal,eaS l L n i⟩) [false] [] [64]=(some ([((decide (i<(l.length:Int)))=false),(n=L.length)],((.ci (.sl (Sq.pt L))),[]))):=by kernel_rfl
theorem I5a (a b:U6) (i:Bool):B8 udA Tryz.f99 3000 [.v (.a [.ob (.fp a),.ob (.fp b),.bool i])] [] [] []=(some ([],((.ci (.bool (Bool.not (onG (G1D.mk a b i))))),[]))):=by kernel_rfl
def C1q:B5
 | [.v (.a [.ob (.fp a),.ob (.fp b),.bool i])]=>some ([],.v (.c (.bool (!(onG ⟨a,b,i⟩)))),[])
 | _=>none
def udB:Env:=udA.set (D5 udA.fn 99 C1q)
theorem B5o:A9 Tryz.prog udB:=A8 B5n 99 C1q (A4 Tryz.func99 rfl rfl) fun args o r es h _=>by
 unfold C1q at h;split at h
 ·cases h;exact A5 B5n Tryz.func99 (I5a _ _ _) trivial
 ·cases h
--@env udB B5o
def D9p:List KI:=(run udB false 3000 ((fun (l:List G1D)=>(⟨[.code (C0 Tryz.f128)],.normal,F4 Tryz.f128.ntmps [.v (.c (.sl (.g1 l))),.v (.c (.clo 99 []))]⟩:Cfg)) default) []).cfg.k
theorem iw (l:List G1D) (ho:B1 []):Sg Tryz.prog (F4 Tryz.f128.ntmps [.v (.c (.sl (.g1 l))),.v (.c (.clo 99 []))]) (B2 19 [0,1,7,8] [(.ci (.sl (Sq.g1 l))),(.ci (.clo 99 ([]:List (Prod Nat Nat)))),(.ii (l.length:Int)),.ii (0:Int)] [] [] 80 [] []) .normal (D9p) ([.code (C0 Tryz.f128)]):=fun hs hK=>
 B0 (unroll:=false) (n:=3000) (path:=[]) (o:=⟨_,_,_,_,_,_,_⟩) B5o (by kernel_rfl) (by kernel_rfl) ho hs hK
def iwS (l:List G1D) (i:Int):St:=B2 19 [0,1,7,8] [(.ci (.sl (Sq.g1 l))),(.ci (.clo 99 ([]:List (Prod Nat Nat)))),(.ii (l.length:Int)),.v (.c (.int .i64 i))] [] [] 80 [] []
theorem iwA (l:List G1D) (i:Int):let a:Int:=l.length;B1 [((decide (i<a))=true),(0<=i),(i<a),((Bool.not (onG (List.getD l (i).toNat g10)))=false)]->Sg Tryz.prog (iwS l i) (B2 19 [0,1,7,8] [(.ci (.sl (Sq.g1 l))),(.ci (.clo 99 ([]:List (Prod Nat Nat)))),(.ii a),(.ii (wrap .i64 (i+1)))] [] [] 256 [] []) .normal (P2 D9p) (F9 D9p):=fun ho=>fun hs hK=>
 B0 (unroll:=false) (n:=3000) (path:=[true,false]) (o:=⟨_,_,_,_,_,_,_⟩) B5o (by kernel_rfl) (by kernel_rfl) ho hs hK
theorem G5e (l:List G1D) (i:Int):let a:=i<(l.length:Int);I8 udB Tryz.f128 false 3000 (⟨F9 D9p,.normal,iwS l i⟩) [true,true] [] []=(some ([((decide a)=true),(0<=i),a,((Bool.not (onG (List.getD l (i).toNat g10)))=true)],((.ii i),[]))):=by intros;kernel_rfl
theorem G5d (l:List G1D) (i:Int):I8 udB Tryz.f128 false 3000 (⟨F9 D9p,.normal,iwS l i⟩) [false] [] []=(some ([((decide (i<(l.length:Int)))=false)],((.ii (-1)),[]))):=by kernel_rfl
end
end

section

theorem F2m (l:List G1D) (hl:l.length<=1048576):FnD Tryz.prog 102 [.v (.c (.sl (.g1 l))),.v (.c (.clo 40 []))] (.v (.c (.sl (.pt (l.map inG))))) []:=by
 refine O4 (fn:=Tryz.f102) (c:=C0 Tryz.f102) Tryz.func102 rfl rfl fun x0 a0 hk hF hs=>?_
 refine ea l ⟨by omega,rfl,by omega,by omega,trivial⟩ hs fun ac cY aY hs1=>?_
 rw[Int.toNat_natCast] at hs1;refine G2 (ι:={ p:Nat×List (Fp×Fp×Fp) // p.1<=l.length∧p.2.length=l.length∧∀j,j<p.1->p.2.getD j pt0=inG (l.getD j g10) }) (fun p=>eaS l p.1.2 l.length (p.1.1:Int)) (fun p=>l.length-p.1.1) (c:=lpC E7c) (k:=lpR E7c) (by kernel_rfl) (fun p ih ac cY aY hs=>?_)
  ⟨(0,List.replicate l.length pt0),Nat.zero_le _,List.length_replicate,fun j hj=>absurd hj (Nat.not_lt_zero j)⟩ (hs1.nx _)
 obtain ⟨⟨i,L⟩,hi,hL,hg⟩:=p;simp only at ih hs hi hL hg
 by_cases h:i<l.length
 ·refine eaA l L l.length i ⟨decide_eq_true (by omega),by omega,by omega,by omega,by omega,rfl,by rw[Int.toNat_natCast];omega,trivial⟩ hs fun ac cU aU hs2=>?_
  rw[Int.toNat_natCast,C4 (n:=(i:Int)+1) (by omega) (by omega)] at hs2
  refine ih ⟨(i+1,L.set i (inG (l.getD i g10))),h,(List.length_set ..).trans hL,fun j hj=>?_⟩ (by show l.length-(i+1)<l.length-i;omega) ac cU aU (hs2.nx _)
  have hj:j<i+1:=hj;show (L.set i _).getD j pt0=_;rw[A6m _ _ _ _ _ (by omega)]
  by_cases e:j=i
  ·subst e;rw[if_pos rfl]
  ·rw[if_neg e];exact hg j (by omega)
 ·obtain rfl:i=l.length:=by omega
  have e:L=l.map inG:=by
   apply List.ext_getElem (by rw[hL,List.length_map])
   intro j h1 h2;have e:=hg j (by omega)
   rw[<-C1a inG l g10 pt0 (by omega),List.getD_eq_getElem?_getD,List.getD_eq_getElem?_getD,List.getElem?_eq_getElem h1,List.getElem?_eq_getElem h2] at e
   exact e
  subst e;exact M6 B5n hk hF (G3j l _ _ _) ⟨decide_eq_false (by omega),hL.symm,trivial⟩ (fun y v hd=>hd) hs

/-- Where the first one lies that is so. -/
def A8e (p:G1D->Bool):List G1D->Nat->Int
 | [],_=>-1
 | a::l,i=>if p a then (i:Int) else A8e p l (i+1)
theorem C5q (p:G1D->Bool):∀(l:List G1D) (i:Nat),decide (A8e p l i >= 0)=l.any p
 | [],_=>rfl
 | a::l,i=>by
  show decide ((if p a then (i:Int) else A8e p l (i+1)) >= 0)=(p a || l.any p)
  cases h:p a with
  | true=>rw[if_pos rfl,Bool.true_or];exact decide_eq_true (Int.natCast_nonneg i)
  | false=>rw[if_neg Bool.false_ne_true,Bool.false_or];exact C5q p l (i+1)
def A2c (a:G1D):Bool:=!(onG a)
theorem D9i (p:G1D->Bool) (l:List G1D) (i:Nat) (h:i<l.length):A8e p (l.drop i) i=if p (l.getD i g10) then (i:Int) else A8e p (l.drop (i+1)) (i+1):=by
 rw[List.drop_eq_getElem_cons h,List.getD_eq_getElem?_getD,List.getElem?_eq_getElem h];rfl
theorem E7q (l:List G1D):FnD Tryz.prog 128 [.v (.c (.sl (.g1 l))),.v (.c (.clo 99 []))] (.v (.c (.int .i64 (A8e A2c l 0)))) []:=by
 refine O4 (fn:=Tryz.f128) (c:=C0 Tryz.f128) Tryz.func128 rfl rfl fun x0 a0 hk hF hs=>?_
 have hlen:l.length<=maxLen:=by
  have h0:=hs.t 0;exact H6v h0
 have hmax:maxLen<=9223372036854775807:=by decide
 refine iw l trivial hs fun ac cY aY hs1=>?_
 refine G2 (ι:={ i:Nat // i<=l.length∧A8e A2c (l.drop i) i=A8e A2c l 0 }) (fun i=>iwS l (i.1:Int)) (fun i=>l.length-i.1) (c:=lpC D9p) (k:=lpR D9p) (by kernel_rfl) (fun i ih ac cY aY hs=>?_) ⟨0,Nat.zero_le _,by rw[List.drop_zero]⟩ (hs1.nx _)
 obtain ⟨i,hi,he⟩:=i;simp only at ih hs
 by_cases h:i<l.length
 ·rw[D9i _ _ _ h] at he
  cases ho:A2c (l.getD i g10) with
  | true=>
   rw[ho,if_pos rfl] at he;rw[<-he];exact M6 B5o hk hF (G5e l i) ⟨decide_eq_true (by omega),by omega,by omega,by rw[Int.toNat_natCast];exact ho,trivial⟩ (fun y v hd=>hd) hs
  | false=>
   rw[ho,if_neg Bool.false_ne_true] at he;refine iwA l i ⟨decide_eq_true (by omega),by omega,by omega,by rw[Int.toNat_natCast];exact ho,trivial⟩ hs fun ac cU aU hs2=>?_
   rw[C4 (n:=(i:Int)+1) (by omega) (by omega)] at hs2
   exact ih ⟨i+1,h,he⟩ (by show l.length-(i+1)<l.length-i;omega) ac cU aU (hs2.nx _)
 ·obtain rfl:i=l.length:=by omega
  rw[List.drop_length] at he;rw[<-he];exact M6 B5o hk hF (G5d l _) ⟨decide_eq_false (by omega),trivial⟩ (fun y v hd=>hd) hs

end

section

def B9i:B5
 | [.v (.c (.sl (.g1 l))),.v (.c (.clo 40 []))]=>some ([l.length<=1048576],.v (.c (.sl (.pt (l.map inG)))),[])
 | _=>none
def ueA:Env:=udB.set (D5 udB.fn 102 B9i)
theorem H7x:A9 Tryz.prog ueA:=A8 B5o 102 B9i (A4 Tryz.func102 rfl rfl) fun args o r es h ho=>by
 unfold B9i at h;split at h
 ·cases h;exact F2m _ ho.1
 ·cases h
def B4c:B5
 | [.v (.c (.sl (.g1 l))),.v (.c (.clo 99 []))]=>some ([],.v (.c (.int .i64 (A8e A2c l 0))),[])
 | _=>none
def ueB:Env:=ueA.set (D5 ueA.fn 128 B4c)
theorem H7y:A9 Tryz.prog ueB:=A8 H7x 128 B4c (A4 Tryz.func128 rfl rfl) fun args o r es h _=>by
 unfold B4c at h;split at h
 ·cases h;exact E7q _
 ·cases h
def B3o:B5
 | [.v (.c (.int .i64 a)),.v (.c (.int .i64 b)),.v (.c (.bool w))]=>some ([],.v (.c (.int .i64 (A3g a b w))),[])
 | _=>none
def ueC:Env:=ueB.set (D5 ueB.fn 100 B3o)
theorem H7z:A9 Tryz.prog ueC:=A8 H7y 100 B3o (A4 Tryz.func100 rfl rfl) fun args o r es h _=>by
 unfold B3o at h;split at h
 ·cases h;exact E6u _ _ _
 ·cases h
def ueD:Env:=ueC
theorem G1k:A9 Tryz.prog ueD:=H7z
theorem cfR (l:List G1D):B8 ueD Tryz.f98 3000 [.v (.c (.sl (.g1 l))),.v (.c (.clo 99 []))] [] [] []=(some ([],((.ci (.bool (decide ((A8e A2c l 0) >= (0:Int))))),[]))):=by kernel_rfl
theorem C8c (l:List G1D):FnD Tryz.prog 98 [.v (.c (.sl (.g1 l))),.v (.c (.clo 99 []))] (.v (.c (.bool (l.any A2c)))) []:=by
 have r:=cfR l;rw[C5q] at r;exact A5 G1k Tryz.func98 r trivial
def A4b:B5
 | [.v (.c (.sl (.g1 l))),.v (.c (.clo 99 []))]=>some ([],.v (.c (.bool (l.any A2c))),[])
 | _=>none
def ueE:Env:=ueD.set (D5 ueD.fn 98 A4b)
theorem D2n:A9 Tryz.prog ueE:=A8 G1k 98 A4b (A4 Tryz.func98 rfl rfl) fun args o r es h _=>by
 unfold A4b at h;split at h
 ·cases h;exact C8c _
 ·cases h
--@env ueE D2n
theorem s1A (l:List G1D) (k:List U4):let b:=A3g (l.length:Int) (k.length:Int) (List.any l A2c);B8 ueE Tryz.f54 3000 [.v (.c (.sl (.g1 l))),.v (.c (.sl (.fr k)))] [true] [] []=(some ([((b != (0:Int))=true)],((.t [(.a [(.ob (.fp (0:U6))),(.ob (.fp (0:U6))),(.lit false)]),(.c (.int .i64 b))]),[]))):=by intros;kernel_rfl
theorem s1B (l:List G1D) (k:List U4):let d:=List.map inG l;let b:=A4l (smJ 52 pt0 d k);B8 ueE Tryz.f54 3000 [.v (.c (.sl (.g1 l))),.v (.c (.sl (.fr k)))] [false] [] []=(some ([(((A3g (l.length:Int) (k.length:Int) (List.any l A2c)) != (0:Int))=false),(l.length<=1048576),(k.length=d.length),(d.length<=4096)],((.t [(.a [(.ob (.fp (G1D.x b))),(.ob (.fp (G1D.y b))),(.bool (G1D.inf b))]),(.c (.int .i64 (0:Int)))]),[]))):=by intros;kernel_rfl
end

section

/-- What Sum1 tells. -/
def C3e (l:List G1D) (k:List U4):G1D×Int:=
 if A3g (l.length:Int) (k.length:Int) (l.any A2c)=0 then (A4l (smJ 52 pt0 (l.map inG) k),0) else (g10,A3g (l.length:Int) (k.length:Int) (l.any A2c))
theorem E5t {l:List G1D} {k:List U4} (h:A3g (l.length:Int) (k.length:Int) (l.any A2c)=0):C3e l k=(A4l (smJ 52 pt0 (l.map inG) k),0):=if_pos h
theorem G9a {l:List G1D} {k:List U4} (h:¬A3g (l.length:Int) (k.length:Int) (l.any A2c)=0):C3e l k=(g10,A3g (l.length:Int) (k.length:Int) (l.any A2c)):=if_neg h
theorem G0m (l:List G1D) (k:List U4):FnD Tryz.prog 54 [.v (.c (.sl (.g1 l))),.v (.c (.sl (.fr k)))] (.t [.a (C3e l k).1.its,.c (.int .i64 (C3e l k).2)]) []:=by
 by_cases h:A3g (l.length:Int) (k.length:Int) (l.any A2c)=0
 ·rw[E5t h]
  obtain ⟨h1,h2,h3⟩:=D3d h;exact A5 D2n Tryz.func54 (s1B l k) ⟨by rw[h];rfl,by omega,by rw[List.length_map];omega,by rw[List.length_map];omega,trivial⟩
 ·rw[G9a h]
  exact (A5 D2n Tryz.func54 (s1A l k) ⟨by simpa using h,trivial⟩).conv (fun _ _ h=>h) fun y v hd=>A5t hd

theorem H6x {N:Nat} (hN:N=52) {l:List G1D} {k:List U4} (hl:k.length=l.length) (ho:l.any A2c=false):A4l (smJ N pt0 (l.map inG) k)=gP (C4d (k.map (·.val)) (l.map pG)):=by
 have hon:∀a,a∈l->onG a=true:=fun a ha=>by
  rw[List.any_eq_false] at ho;have:=ho a ha
  unfold A2c at this;simpa using this
 cases k with
 | nil=>
  have e:l=[]:=List.length_eq_zero_iff.1 hl.symm;subst e;exact A7q (P:=none) (rfl:(0:Fp)=0)
 | cons x k=>
  have hm:smJ N pt0 (l.map inG) (x::k)=alN pt0 (l.map inG) (C4b N ((x::k).map (·.val))) N N:=rfl;rw[hm];refine A7q (F5w hN cv1 pt0 rfl (by rw[List.length_map,List.length_map]) (fun P hP=>?_) (fun i hi=>?_) (by rw[List.length_map,List.length_map];exact hl) (fun v hv=>?_))
  ·obtain ⟨a,ha,rfl⟩:=List.mem_map.1 hP
   exact (U0 (hon a ha)).2
  ·rw[List.length_map] at hi
   rw[C1a pG l g10 none hi,C1a inG l g10 pt0 hi];exact A8z _
  ·obtain ⟨u,_,rfl⟩:=List.mem_map.1 hv
   exact G1i u

end

section

def uzC:Env:=uzB.or ueE
theorem H8u:A9 Tryz.prog uzC:=A5k J9 D2n
def C3f:B5
 | [.v (.c (.sl (.g1 l))),.v (.c (.sl (.fr k)))]=>some ([],.t [.a (C3e l k).1.its,.c (.int .i64 (C3e l k).2)],[])
 | _=>none
def uzD:Env:=uzC.set (D5 uzC.fn 54 C3f)
theorem H8v:A9 Tryz.prog uzD:=A8 H8u 54 C3f (A4 Tryz.func54 rfl rfl) fun args o r es h _=>by
 unfold C3f at h;split at h
 ·cases h;exact G0m _ _
 ·cases h
def A9s:B5
 | [.v (.c (.sl (.g1 la))),.v (.c (.sl (.g2 lb)))]=>some ([],.t [.c (.bool (pcD la lb).1),.c (.int .i64 (pcD la lb).2)],[])
 | _=>none
def uzE:Env:=uzD.set (D5 uzD.fn 18 A9s)
theorem E2d:A9 Tryz.prog uzE:=A8 H8v 18 A9s (A4 Tryz.func18 rfl rfl) fun args o r es h _=>by
 unfold A9s at h;split at h
 ·cases h;exact E0o _ _
 ·cases h
--@env uzE E2d
theorem ksm  : B8 uzE Tryz.f103 3000 [.v (.c (.int .u64 1))] [] [] []=(some ([(0<=(1:Int)),((1:Int)<(18446744073709551616:Int)),(0<=(0:Int)),(0<(18446744073709551616:Int)),(0<=(0:Int)),(0<(18446744073709551616:Int)),(0<=(0:Int)),(0<(18446744073709551616:Int))],((.v (.a [(.ob (.s (S4.inF (Fin.ofNat B4 1))))])),[]))):=by kernel_rfl
theorem G5m {n:Int} (h:n=1):FnD Tryz.prog 103 [.v (.c (.int .u64 n))] (.v (.a [.ob (.s 1)])) []:=by
 subst h;have r:=ksm;rw[show S4.inF (Fin.ofNat B4 1)=1 from by decide +kernel] at r
 exact A5 E2d Tryz.func103 r ⟨by decide,by decide,by decide,by decide,by decide,by decide,by decide,by decide,trivial⟩
def C9p:B5
 | [.v (.c (.int .u64 n))]=>some ([n=1],.v (.a [.ob (.s 1)]),[])
 | _=>none
def uzF:Env:=uzE.set (D5 uzE.fn 103 C9p)
theorem D2o:A9 Tryz.prog uzF:=A8 E2d 103 C9p (A4 Tryz.func103 rfl rfl) fun args o r es h ho=>by
 unfold C9p at h;split at h
 ·cases h;exact G5m ho.1
 ·cases h
--@env uzF D2o
theorem ksl  : B8 uzF Tryz.f55 3000 [.v (.c (.int .i64 1))] [false] [] []=(some ([((decide ((1:Int)<(0:Int)))=false),((1:Int)=(1:Int))],((.v (.a [(.ob (.fr (S4.D9 (1:Fr))))])),[]))):=by kernel_rfl
theorem G5l {n:Int} (h:n=1):FnD Tryz.prog 55 [.v (.c (.int .i64 n))] (.v (.a [.ob (.fr (S4.D9 1))])) []:=by
 subst h;exact A5 D2o Tryz.func55 ksl ⟨by decide,rfl,trivial⟩
def C9o:B5
 | [.v (.c (.int .i64 n))]=>some ([n=1],.v (.a [.ob (.fr (S4.D9 1))]),[])
 | _=>none
def uzG:Env:=uzF.set (D5 uzF.fn 55 C9o)
theorem H8w:A9 Tryz.prog uzG:=A8 D2o 55 C9o (A4 Tryz.func55 rfl rfl) fun args o r es h ho=>by
 unfold C9o at h;split at h
 ·cases h;exact G5l ho.1
 ·cases h
theorem ngF (k:U4):B8 uzF Tryz.f19 3000 [.v (.a [.ob (.fr k)])] [] [] []=(some ([],((.v (.a [(.ob (.fr (S4.D9 ((0:Fr)-(S4.inF k)))))])),[]))):=by kernel_rfl
theorem G6n (k:U4):FnD Tryz.prog 19 [.v (.a [.ob (.fr k)])] (.v (.a [.ob (.fr (S4.D9 (0-S4.inF k)))])) []:=A5 D2o Tryz.func19 (ngF k) trivial
def D0j:B5
 | [.v (.a [.ob (.fr k)])]=>some ([],.v (.a [.ob (.fr (S4.D9 (0-S4.inF k)))]),[])
 | _=>none
def uzH:Env:=uzG.set (D5 uzG.fn 19 D0j)
theorem A4s:A9 Tryz.prog uzH:=A8 H8w 19 D0j (A4 Tryz.func19 rfl rfl) fun args o r es h _=>by
 unfold D0j at h;split at h
 ·cases h;exact G6n _
 ·cases h
--@env uzH A4s
theorem kcA (s:G2D) (a b:G1D) (k l:U4):B8 uzH Tryz.f20 3000 [.v (.a s.its),.v (.a [.ob (.fp a.x),.ob (.fp a.y),.bool a.inf,.ob (.fr k),.ob (.fr l),.ob (.fp b.x),.ob (.fp b.y),.bool b.inf])] [true,true] [] []=(some ([((Bool.not (onG a))=true)],((.t [(.c (.lit false)),(.c (.int .i64 (30:Int)))]),[]))):=by kernel_rfl
theorem kcB (s:G2D) (a b:G1D) (k l:U4):B8 uzH Tryz.f20 3000 [.v (.a s.its),.v (.a [.ob (.fp a.x),.ob (.fp a.y),.bool a.inf,.ob (.fr k),.ob (.fr l),.ob (.fp b.x),.ob (.fp b.y),.bool b.inf])] [false,true] [] []=(some ([((Bool.not (onG a))=false),((Bool.not (onG b))=true)],((.t [(.c (.lit false)),(.c (.int .i64 (30:Int)))]),[]))):=by kernel_rfl
theorem kcC (s:G2D) (a b:G1D) (k l:U4):B8 uzH Tryz.f20 3000 [.v (.a s.its),.v (.a [.ob (.fp a.x),.ob (.fp a.y),.bool a.inf,.ob (.fr k),.ob (.fr l),.ob (.fp b.x),.ob (.fp b.y),.bool b.inf])] [false,false,true] [] []=(some ([((Bool.not (onG a))=false),((Bool.not (onG b))=false),((Bool.not (I5 s))=true)],((.t [(.c (.lit false)),(.c (.int .i64 (30:Int)))]),[]))):=by kernel_rfl
theorem kcD (s:G2D) (a b:G1D) (k l:U4):B8 uzH Tryz.f20 3000 [.v (.a s.its),.v (.a [.ob (.fp a.x),.ob (.fp a.y),.bool a.inf,.ob (.fr k),.ob (.fr l),.ob (.fp b.x),.ob (.fp b.y),.bool b.inf])] [false,false,false,true,true] [] []=(some ([((Bool.not (onG a))=false),((Bool.not (onG b))=false),((Bool.not (I5 s))=false),((Bool.not (grp a))=true)],((.t [(.c (.lit false)),(.c (.int .i64 (31:Int)))]),[]))):=by kernel_rfl
theorem kcE (s:G2D) (a b:G1D) (k l:U4):B8 uzH Tryz.f20 3000 [.v (.a s.its),.v (.a [.ob (.fp a.x),.ob (.fp a.y),.bool a.inf,.ob (.fr k),.ob (.fr l),.ob (.fp b.x),.ob (.fp b.y),.bool b.inf])] [false,false,false,false,true] [] []=(some ([((Bool.not (onG a))=false),((Bool.not (onG b))=false),((Bool.not (I5 s))=false),((Bool.not (grp a))=false),((Bool.not (grp b))=true)],((.t [(.c (.lit false)),(.c (.int .i64 (31:Int)))]),[]))):=by kernel_rfl
theorem kcF (s:G2D) (a b:G1D) (k l:U4):B8 uzH Tryz.f20 3000 [.v (.a s.its),.v (.a [.ob (.fp a.x),.ob (.fp a.y),.bool a.inf,.ob (.fr k),.ob (.fr l),.ob (.fp b.x),.ob (.fp b.y),.bool b.inf])] [false,false,false,false,false,true] [] []=(some ([((Bool.not (onG a))=false),((Bool.not (onG b))=false),((Bool.not (I5 s))=false),((Bool.not (grp a))=false),((Bool.not (grp b))=false),((Bool.not (A2b s))=true)],((.t [(.c (.lit false)),(.c (.int .i64 (31:Int)))]),[]))):=by kernel_rfl
theorem kcI (s:G2D) (a b:G1D) (k l:U4):let d:=([(S4.D9 (1:Fr))]++[(S4.D9 ((0:Fr)-(S4.inF l)))])++[(S4.D9 (S4.inF k))];let g:=([a]++[H7])++[b];let f:=[(Prod.fst (C3e g d))]++[(Prod.fst (neR b))];let h:=[N7]++[s];B8 uzH Tryz.f20 3000 [.v (.a s.its),.v (.a [.ob (.fp a.x),.ob (.fp a.y),.bool a.inf,.ob (.fr k),.ob (.fr l),.ob (.fp b.x),.ob (.fp b.y),.bool b.inf])] [false,false,false,false,false,false,false,false] [] []=(some ([((Bool.not (onG a))=false),((Bool.not (onG b))=false),((Bool.not (I5 s))=false),((Bool.not (grp a))=false),((Bool.not (grp b))=false),((Bool.not (A2b s))=false),((1:Int)=(1:Int)),(0=0),(3=g.length),(13=13),(0=0),(3=d.length),(4=4),(((Prod.snd (C3e g d)) != (0:Int))=false),(((Prod.snd (neR b)) != (0:Int))=false),(0=0),(2=f.length),(13=13),(0=0),(2=h.length),(25=25)],((.t [(.c (.bool (Prod.fst (pcD f h)))),(.c (.int .i64 (Prod.snd (pcD f h))))]),[]))):=by intros;kernel_rfl
end

section

/-- 1 outside. -/
def I2b:V12:=⟨⟨(Fin.ofNat B6 1,0),(0,0),(0,0)⟩,⟨(0,0),(0,0),(0,0)⟩⟩
end

section

theorem F4a {P:Pt Fp} (hP:OnC fp4 P):grp (gP P)=decide (E8 P rN=none):=by
 unfold grp;rw[B4u hP,Bool.true_and];have h:=D4u cv1 hP (C6k P ▸ A8z (gP P)) (dgT 52435875175126190479447740508185965837690552500527637822603658699938581184513 64);rw[E3b] at h;generalize (dgT 52435875175126190479447740508185965837690552500527637822603658699938581184513 64)=t at h ⊢
 exact h

end

section

theorem E4a {P:Pt F2} (hP:OnC fq4 P):A2b (gP2 P)=decide (E8 P rN=none):=by
 unfold A2b;rw[B7p hP,Bool.true_and];have h:=D4u cv2 hP (D0u P ▸ B1y (gP2 P)) (dgT 52435875175126190479447740508185965837690552500527637822603658699938581184513 64);rw[E3b] at h;generalize (dgT 52435875175126190479447740508185965837690552500527637822603658699938581184513 64)=t at h ⊢
 exact h

end

section

theorem E4y:nQ2 ((1,1):F2)=Fin.ofNat pN 2:=by decide +kernel
theorem D2p:(Fin.ofNat pN 2).val=2:=by decide +kernel
theorem F9a:A3t pN 2 384 ((pN-1) / 3)≠1:=by decide +kernel
theorem F8z:A3t pN 2 384 ((pN-1) / 2)≠1:=by decide +kernel
theorem E2f (x:F2):x*x*x≠Nrs.xi:=by
 intro h;have h:x*x*x=(1,1):=h;have h:=congrArg nQ2 h;rw[E4y,B2q,B2q] at h;refine C8d _ (fun e=>?_) (fun e=>?_) (nQ2 x) h
 ·have:=congrArg Fin.val e
  rw[W8 _ 384 _ C3i,D2p,A3u] at this;exact F9a this
 ·have:=congrArg Fin.val e
  rw[D2p] at this;revert this
  decide +kernel
theorem C4n (x:Fp):x*x≠Fin.ofNat pN 2:=by
 intro h;by_cases hx:x=0
 ·rw[hx] at h
  exact absurd (congrArg Fin.val h) (by decide +kernel)
 ·have e:=E1z x ((pN-1) / 2)
  rw[<-D4m,A5m x hx,h] at e;have:=congrArg Fin.val e
  rw[W8 _ 384 _ E4e,D2p,A3u] at this;exact F8z this
section
variable {R:Type} [Fld R] [Nrs R]
theorem E8j (x y:E3 R):A0u (x*y)=A0u x*A0u y:=by
 unfold A0u A0f;simp only[E3.mul_a,E3.mul_b,E3.mul_c];generalize x.a=a;generalize x.b=b;generalize x.c=c;generalize y.a=d;generalize y.b=e;generalize y.c=f;grind
end
theorem H8 (t:F6):t*t≠Nrs.xi:=by
 intro h;have h:=congrArg A0u h;rw[E8j] at h;have e:A0u (Nrs.xi:F6)=(1,1):=by decide +kernel
 rw[e] at h;have h:=congrArg nQ2 h;rw[E4y,B2q] at h;exact C4n _ h
@[reducible] instance fldF6:Fld F6:=I0h E2f
@[reducible] instance fldF12:Fld F12:=I0g H8
end

section

section
variable {G:Type} [J5 G]
theorem A3l (x y:G):∀n,A7 (x*y) n=A7 x n*A7 y n
 | 0=>by show (1:G)=1*1;grind
 | n+1=>by
  show A7 (x*y) n*(x*y)=A7 x n*x*(A7 y n*y);rw[A3l x y n];grind
theorem O6 (x:G) (m:Nat):∀n,A7 x (m*n)=A7 (A7 x m) n
 | 0=>rfl
 | n+1=>by
  rw[Nat.mul_succ,R7,O6 x m n];rfl
def gst (a o:G) (z:Bool):G:=if z=true then o*o*a else o*o
theorem C9b (a:G):∀(l:List Bool) (n:Nat),l.foldl (gst a) (A7 a n)=A7 a (l.foldl nst n)
 | [],_=>rfl
 | z::l,n=>by
  show l.foldl (gst a) (gst a (A7 a n) z)=A7 a (l.foldl nst (nst n z));rw[<-C9b a l (nst n z)];congr 1
  cases z with
  | true=>
   show A7 a n*A7 a n*a=A7 a (n+n)*a;rw[R7]
  | false=>
   show A7 a n*A7 a n=A7 a (n+n);rw[R7]
end

theorem C1l:∀k:Nat,(nc k:F12)=⟨⟨(Fin.ofNat pN k,0),0,0⟩,0⟩
 | 0=>rfl
 | k+1=>by
  show nc k+1=_;rw[C1l k,C1u,I5b];refine E2.ext' (E3.ext' (G1 rfl ?_) ?_ ?_) ?_
  ·show (0:Fp)+0=0;rfl
  ·show (0:F2)+0=0;rfl
  ·show (0:F2)+0=0;rfl
  ·show (0:F6)+0=0;rfl
theorem H4h:Fin.ofNat pN pN=0:=by decide +kernel
theorem F2g (p:Nat) (hp:1<=p) (h0:(nc p:F12)=0) (h1:∀k,0<k->k<p->(nc k:F12)≠0) (x y:F12):A7 (x+y) p=A7 x p+A7 y p:=H9y (G:=F12) hp h0 h1 x y
theorem E3j (x y:F12):A7 (x+y) pN=A7 x pN+A7 y pN:=by
 refine F2g pN (by decide +kernel) ?_ (fun k h1 h2 h=>?_) x y
 ·rw[C1l,H4h];rfl
 ·rw[C1l] at h
  have h:(⟨⟨(Fin.ofNat pN k,0),0,0⟩,0⟩:F12).a.a.1.val=(0:F12).a.a.1.val:=by rw[h]
  have h3:k % pN=0:=h;exact absurd ((Nat.mod_eq_of_lt h2).symm.trans h3) (Nat.ne_of_gt h1)
theorem H8z:A7 ((1,1):F2) ((pN-1) / 6)=tur 1:=by
 have h:=C9b ((1,1):F2) (btL ((pN-1) / 6) 384 384) 0;have e:(btL ((pN-1) / 6) 384 384).foldl nst 0=(pN-1) / 6:=by decide +kernel
 rw[e] at h;rw[<-h];decide +kernel
end

set_option linter.unusedSimpArgs false
set_option linter.unusedSectionVars false
section

def i2 (z:F2):F12:=⟨⟨z,0,0⟩,0⟩
def eV:F12:=⟨⟨0,1,0⟩,0⟩
def eW:F12:=⟨0,1⟩
section
variable {R:Type} [J5 R] [Nrs R]
theorem F2j (x y:R):(⟨x,0,0⟩:E3 R)*⟨y,0,0⟩=⟨x*y,0,0⟩:=by
 refine E3.ext' ?_ ?_ ?_
 all_goals
  simp only[E3.mul_a,E3.mul_b,E3.mul_c]<;>grind
theorem F2k (x y:R):(⟨x,0,0⟩:E3 R)+⟨y,0,0⟩=⟨x+y,0,0⟩:=by
 refine E3.ext' ?_ ?_ ?_
 all_goals
  simp only[E3.add_a,E3.add_b,E3.add_c]<;>grind
theorem C8j (x y:R):(⟨x,0⟩:E2 R)*⟨y,0⟩=⟨x*y,0⟩:=by
 refine E2.ext' ?_ ?_
 all_goals
  simp only[E2.mul_a,E2.mul_b]<;>grind
theorem D9a (x y:R):(⟨x,0⟩:E2 R)+⟨y,0⟩=⟨x+y,0⟩:=by
 refine E2.ext' ?_ ?_
 all_goals
  simp only[E2.add_a,E2.add_b]<;>grind
theorem H1m (x:E2 R):x=(⟨x.a,0⟩:E2 R)+⟨x.b,0⟩*⟨0,1⟩:=by
 refine E2.ext' ?_ ?_
 all_goals
  simp only[E2.add_a,E2.add_b,E2.mul_a,E2.mul_b]<;>grind
theorem H1n (x:E3 R):x=(⟨x.a,0,0⟩:E3 R)+⟨x.b,0,0⟩*⟨0,1,0⟩+⟨x.c,0,0⟩*(⟨0,1,0⟩*⟨0,1,0⟩):=by
 refine E3.ext' ?_ ?_ ?_
 all_goals
  simp only[E3.add_a,E3.add_b,E3.add_c,E3.mul_a,E3.mul_b,E3.mul_c]<;>grind
end
theorem F4e (x y:F2):i2 (x+y)=i2 x+i2 y:=by
 unfold i2;rw[D9a,F2k]
theorem C0p (x y:F2):i2 (x*y)=i2 x*i2 y:=by
 unfold i2;rw[C8j,F2j]
theorem A8y (x:F2):∀n,A7 (i2 x) n=i2 (A7 x n)
 | 0=>rfl
 | n+1=>by
  show A7 (i2 x) n*i2 x=i2 (A7 x n*x);rw[A8y x n,C0p]
theorem up6 (x:F6):(⟨x,0⟩:F12)=i2 x.a+i2 x.b*eV+i2 x.c*(eV*eV):=by
 unfold i2 eV;rw[C8j,C8j,C8j,D9a,D9a,<-H1n]
theorem G9s (x:F12):x=(i2 x.a.a+i2 x.a.b*eV+i2 x.a.c*(eV*eV))+(i2 x.b.a+i2 x.b.b*eV+i2 x.b.c*(eV*eV))*eW:=by
 rw[<-up6,<-up6];exact H1m x
theorem I0i (p:Nat) (dr:∀x y:F12,A7 (x+y) p=A7 x p+A7 y p) (h2:∀z:F2,A7 z p=cj2 z) (hV:A7 eV p=i2 (tur 2)*eV) (hW:A7 eW p=i2 (tur 1)*eW) (t4:tur 2*tur 2=tur 4) (t3:tur 2*tur 1=tur 3) (t5:tur 4*tur 1=tur 5) (x:F12):A7 x p=frb x:=by
 have e:=G9s x;have e2:=G9s (frb x);rw[e2];show A7 x p=(i2 (cj2 x.a.a)+i2 (cj2 x.a.b*tur 2)*eV+i2 (cj2 x.a.c*tur 4)*(eV*eV))+(i2 (cj2 x.b.a*tur 1)+i2 (cj2 x.b.b*tur 3)*eV+i2 (cj2 x.b.c*tur 5)*(eV*eV))*eW;rw[<-t4,<-t3,<-t5,<-t4];have k:A7 x p=A7 ((i2 x.a.a+i2 x.a.b*eV+i2 x.a.c*(eV*eV))+(i2 x.b.a+i2 x.b.b*eV+i2 x.b.c*(eV*eV))*eW) p:=congrArg (fun y=>A7 y p) e
 rw[k];simp only[dr,A3l,A8y,h2,hV,hW,C0p];generalize i2 (cj2 x.a.a)=a1;generalize i2 (cj2 x.a.b)=a2;generalize i2 (cj2 x.a.c)=a3;generalize i2 (cj2 x.b.a)=a4;generalize i2 (cj2 x.b.b)=a5;generalize i2 (cj2 x.b.c)=a6;generalize i2 (tur 1)=s;generalize i2 (tur 2)=t;generalize eV=v;generalize eW=w;clear e e2 k dr h2 hV hW t4 t3 t5;grind
theorem G9j:tur 2*tur 2=tur 4:=by decide +kernel
theorem G9i:tur 2*tur 1=tur 3:=by decide +kernel
theorem G9k:tur 4*tur 1=tur 5:=by decide +kernel
theorem G9h:tur 1*tur 1=tur 2:=by decide +kernel
theorem G9v:eW*eW=eV:=by decide +kernel
theorem I0b:eV*eV*eV=i2 (1,1):=by decide +kernel
section
variable {r:Nat} [NeZero r]
theorem H5e (a:Fin r):∀n,A7 ((a,0):Q2 r) n=(pw a n,0)
 | 0=>rfl
 | n+1=>by
  show A7 ((a,0):Q2 r) n*(a,0)=(pw a n*a,0);rw[H5e a n];exact G1 (by show pw a n*a-0*0=pw a n*a;grind) (by show pw a n*0+0*a=0;grind)
theorem H9u (x:Q2 r):x=(x.1,0)+(x.2,0)*(0,1):=G1 (by show x.1=x.1+(x.2*0-0*1);grind) (by show x.2=0+(x.2*1+0*0);grind)
theorem I3q (x:Q2 r):(x.1,0)+(x.2,0)*(0,0-1)=(x.1,0-x.2):=G1 (by show x.1+(x.2*0-0*(0-1))=x.1;grind) (by show 0+(x.2*(0-1)+0*0)=0-x.2;grind)
end
theorem E8x:∀n,pw (0:Fp) (n+1)=0:=fun n=>by show pw (0:Fp) n*0=0;grind
theorem B9z (a:Fp):pw a pN=a:=by
 have e:pN=pN-1+1:=by decide +kernel
 refine (congrArg (pw a) e).trans ?_
 by_cases h:a=0
 ·rw[h];exact E8x _
 ·show pw a (pN-1)*a=a
  rw[A5m a h];grind
theorem I3c:A7 ((0,1):F2) pN=(0,0-1):=by
 have h:=C9b ((0,1):F2) (btL pN 384 384) 0;have e:(btL pN 384 384).foldl nst 0=pN:=by decide +kernel
 rw[e] at h;refine h.symm.trans ?_
 decide +kernel
theorem G2r (z:F2):A7 z pN=cj2 z:=by
 have h:i2 (A7 z pN)=i2 (cj2 z):=by
  rw[<-A8y];have e:i2 z=i2 (z.1,0)+i2 (z.2,0)*i2 (0,1):=by rw[<-C0p,<-F4e];exact congrArg i2 (H9u z)
  have k:A7 (i2 z) pN=A7 (i2 (z.1,0)+i2 (z.2,0)*i2 (0,1)) pN:=congrArg (fun y=>A7 y pN) e
  refine k.trans ((E3j _ _).trans ?_)
  rw[A3l,A8y,A8y,A8y,H5e,H5e,I3c,B9z,B9z,<-C0p,<-F4e];exact congrArg i2 (I3q z)
 exact congrArg (fun x:F12=>x.a.a) h
theorem I2t:pN=6*((pN-1) / 6)+1:=by decide +kernel
section
variable {G:Type} [J5 G]
theorem F3x (g:G):A7 g 6=g*g*(g*g)*(g*g):=by
 show 1*g*g*g*g*g*g=_;grind
theorem C0m (g:G):A7 g 1=g:=by
 show 1*g=g;grind
end
theorem H1p:A7 eW 6=i2 (1,1):=by rw[F3x,G9v,I0b]
theorem F2l:A7 eW pN=i2 (tur 1)*eW:=by
 refine (congrArg (A7 eW) I2t).trans ?_
 rw[R7,O6,H1p,A8y,H8z,C0m]
theorem H1o:A7 eV pN=i2 (tur 2)*eV:=by
 rw[<-G9v,A3l,F2l,<-G9h,C0p];generalize i2 (tur 1)=t;generalize eW=w;grind
/-- Frob is the power of p. -/
theorem A0r (x:F12):A7 x pN=frb x:=I0i pN E3j G2r H1o F2l G9j G9i G9k x
end

set_option linter.unusedSectionVars false
section

theorem A0o (x:F12):cjp x=cj x:=by
 refine E2.ext' rfl ?_
 show (0:F6)-x.b = -x.b;generalize x.b=b;grind
theorem A4a (x y:F12):cjp (x*y)=cjp x*cjp y:=by rw[A0o,A0o,A0o];exact B8x x y
theorem E2t (x:F12):cjp (cjp x)=x:=by rw[A0o,A0o];exact F1m x
theorem A6y:cjp 1=1:=by rw[A0o];exact F1n
theorem A7e (x y:F12):frb (x*y)=frb x*frb y:=by rw[<-A0r,<-A0r,<-A0r,A3l]
section
variable {r:Nat} [NeZero r]
theorem H1c (z t:Q2 r):((((z.1,0-z.2):Q2 r)*t).1,0-(((z.1,0-z.2):Q2 r)*t).2)*t=z*((t.1,0-t.2)*t):=by
 refine G1 ?_ ?_
 ·simp only[C4j,C4k];grind
 ·simp only[C4j,C4k];grind
theorem F1p (z:Q2 r):((z.1,0-(0-z.2)):Q2 r)=z:=G1 rfl (by show 0-(0-z.2)=z.2;grind)
theorem C1i (z:Q2 r):z*(1,0)=z:=G1 (by show z.1*1-z.2*0=z.1;grind) (by show z.1*0+z.2*1=z.2;grind)
theorem A9m (z:Q2 r):z*(0-1,0)=0-z:=G1 (by show z.1*(0-1)-z.2*0=0-z.1;grind) (by show z.1*0+z.2*(0-1)=0-z.2;grind)
theorem A5d (z a:Q2 r):z*a*a*a=z*(a*a*a):=by grind
end
def frT (t1 t2 t3 t4 t5:F2) (x:F12):F12:=⟨⟨cj2 x.a.a,cj2 x.a.b*t2,cj2 x.a.c*t4⟩,⟨cj2 x.b.a*t1,cj2 x.b.b*t3,cj2 x.b.c*t5⟩⟩
def frS (t1 t2 t3 t4 t5:F2) (x:F12):F12:=⟨⟨x.a.a,x.a.b*t2,x.a.c*t4⟩,⟨x.b.a*t1,x.b.b*t3,x.b.c*t5⟩⟩
theorem D7p (z t:F2):cj2 (cj2 z*t)*t=z*(cj2 t*t):=H1c z t
theorem G4i (t1 t2 t3 t4 t5:F2) (x:F12):frT t1 t2 t3 t4 t5 (frT t1 t2 t3 t4 t5 x)=frS (cj2 t1*t1) (cj2 t2*t2) (cj2 t3*t3) (cj2 t4*t4) (cj2 t5*t5) x:=by
 refine E2.ext' (E3.ext' ?_ ?_ ?_) (E3.ext' ?_ ?_ ?_)
 ·exact F1p x.a.a
 ·exact D7p x.a.b t2
 ·exact D7p x.a.c t4
 ·exact D7p x.b.a t1
 ·exact D7p x.b.b t3
 ·exact D7p x.b.c t5
theorem E7l {t1 t2 t3 t4 t5:F2} (h1:t1*t1*t1=(0-1,0)) (h2:t2*t2*t2=(1,0)) (h3:t3*t3*t3=(0-1,0)) (h4:t4*t4*t4=(1,0)) (h5:t5*t5*t5=(0-1,0)) (x:F12):frS t1 t2 t3 t4 t5 (frS t1 t2 t3 t4 t5 (frS t1 t2 t3 t4 t5 x))=cjp x:=by
 refine E2.ext' (E3.ext' rfl ?_ ?_) (E3.ext' ?_ ?_ ?_)
 ·show x.a.b*t2*t2*t2=x.a.b
  rw[A5d,h2,C1i]
 ·show x.a.c*t4*t4*t4=x.a.c
  rw[A5d,h4,C1i]
 ·show x.b.a*t1*t1*t1=0-x.b.a
  rw[A5d,h1,A9m]
 ·show x.b.b*t3*t3*t3=0-x.b.b
  rw[A5d,h3,A9m]
 ·show x.b.c*t5*t5*t5=0-x.b.c
  rw[A5d,h5,A9m]
def tn (i:Int):F2:=cj2 (tur i)*tur i
theorem C8v (x:F12):frb (frb x)=frS (tn 1) (tn 2) (tn 3) (tn 4) (tn 5) x:=G4i (tur 1) (tur 2) (tur 3) (tur 4) (tur 5) x
theorem tn2:tn 2*tn 2*tn 2=(1,0):=by decide +kernel
theorem tn4:tn 4*tn 4*tn 4=(1,0):=by decide +kernel
theorem tn1:tn 1*tn 1*tn 1=(0-1,0):=by decide +kernel
theorem tn3:tn 3*tn 3*tn 3=(0-1,0):=by decide +kernel
theorem tn5:tn 5*tn 5*tn 5=(0-1,0):=by decide +kernel
section
variable {G:Type} [J5 G]
theorem G7q (e:G) (p:Nat):A7 e (p ^ 6+1)=A7 (A7 (A7 (A7 (A7 (A7 e p) p) p) p) p) p*e:=by
 have h:p ^ 6=p*p*p*p*p*p:=by rw[Nat.pow_succ,Nat.pow_succ,Nat.pow_succ,Nat.pow_succ,Nat.pow_succ,Nat.pow_one]
 rw[h,R7,C0m,O6,O6,O6,O6,O6]
end
theorem G1l {e:F12} (he:e*cjp e=1):A7 e (pN ^ 6+1)=1:=by
 rw[G7q,A0r,A0r,A0r,A0r,A0r,A0r,C8v,C8v,C8v,E7l tn1 tn2 tn3 tn4 tn5];refine Eq.trans ?_ he
 generalize cjp e=c;grind
end

set_option linter.unusedSectionVars false
section

theorem G5a (y:F6):Fld.inv y=B2a y:=rfl
section
variable {R:Type} [J5 R]
theorem H3y (y:R):0-y = -y:=by grind
end
theorem H2x (x:F12):ivp x=A3p x:=by
 unfold A3p C1r;rw[G5a];unfold ivp;generalize B2a (x.a*x.a-Nrs.xi*(x.b*x.b))=n;rw[H3y]
theorem G3m (f:F12):cjp f*ivp f=et f:=by rw[A0o,H2x];rfl
def A1z (e:F12):F12:=D3y (frb (frb e)*e)
theorem A3k (f:F12):N6 f=A1z (et f):=by
 rw[<-G3m];rfl
theorem B1t (x y:F12) (n:Int):gpi (x*y) n=gpi x n*gpi y n:=by rw[A2v,A2v,A2v,A3l]
theorem F3d (x y:F12):A2u (x*y)=A2u x*A2u y:=by unfold A2u;rw[B1t,B1t]
theorem F3f (x y:F12):A2a (x*y)=A2a x*A2a y:=by
 unfold A2a;rw[B1t,A4a,A7e];generalize cjp (gpi x 15132376222941642752)=a;generalize cjp (gpi y 15132376222941642752)=b;generalize frb x=c;generalize frb y=d;grind
theorem F3e (x y:F12):B6r (x*y)=B6r x*B6r y:=by unfold B6r;rw[B1t,B1t]
theorem F3b (x y:F12):D3y (x*y)=D3y x*D3y y:=by
 unfold D3y;rw[F3d,F3f,F3e,A4a,A7e,A7e];generalize B6r (A2a (A2u x))=a1;generalize B6r (A2a (A2u y))=a2;generalize frb (frb (A2a (A2u x)))=b1;generalize frb (frb (A2a (A2u y)))=b2;generalize cjp (A2a (A2u x))=c1;generalize cjp (A2a (A2u y))=c2;grind
theorem C0c (x y:F12):A1z (x*y)=A1z x*A1z y:=by
 unfold A1z;have e:frb (frb (x*y))*(x*y)=frb (frb x)*x*(frb (frb y)*y):=by
  rw[A7e,A7e];generalize frb (frb x)=a;generalize frb (frb y)=b;grind
 rw[e,F3b]
end

section

theorem H0h:(15132376222941642752:Int).toNat=15132376222941642752:=by decide +kernel
theorem I1w:(15132376222941642753:Int).toNat=15132376222941642753:=by decide +kernel
theorem I1x:(5044125407647214251:Int).toNat=5044125407647214251:=by decide +kernel
theorem H4f:(pN ^ 2+1)*(15132376222941642752+pN)*(15132376222941642753*5044125407647214251)*(pN*(15132376222941642752*15132376222941642752)+pN*(pN*pN)+15132376222941642752)+(pN ^ 2+1)*(15132376222941642752+pN)=(pN ^ 2+1)*(15132376222941642752+pN)*(15132376222941642753*5044125407647214251)*(pN+15132376222941642752*(15132376222941642752*15132376222941642752)+15132376222941642752*(pN*pN))+(pN ^ 6+1)*(15132376222941642753*5044125407647214251):=by decide +kernel
section
variable {G:Type} [J5 G]
theorem G8p (e:G) (p L:Nat):A7 (A7 (A7 e L*A7 e p) p) p*(A7 e L*A7 e p)=A7 e ((p ^ 2+1)*(L+p)):=by
 have h:(L+p)*(p*p)+(L+p)=(p ^ 2+1)*(L+p):=by rw[Nat.pow_two,Nat.mul_comm (p*p+1),Nat.mul_add,Nat.mul_one]
 rw[<-R7,<-O6,<-O6,<-R7,h]
end
theorem G4f {e:F12} (he:e*cjp e=1) (p L A B:Nat) (fr:∀x,frb x=A7 x p) (h6:A7 e (p ^ 6+1)=1)
  (num:(p ^ 2+1)*(L+p)*(A*B)*(p*(L*L)+p*(p*p)+L)+(p ^ 2+1)*(L+p)=(p ^ 2+1)*(L+p)*(A*B)*(p+L*(L*L)+L*(p*p))+(p ^ 6+1)*(A*B))
  (hG:∀x,A2u x=A7 (A7 x A) B) (hK:∀g,A2a g=cjp (A7 g L)*frb g) (hH:∀k,B6r k=A7 (A7 k L) L):A1z (A7 e L*frb e)=1:=by
 have ha:=G8p e p L;unfold A1z D3y;rw[fr e,fr (A7 e L*A7 e p),fr (A7 (A7 e L*A7 e p) p),ha,hH,fr (A2a _),fr (A7 (A2a _) p)];exact G4e A4a E2t A6y he h6 num rfl ((hG _).trans (O6 _ A B).symm) ((hK _).trans (by rw[fr]))
theorem F3c {e:F12} (he:e*cjp e=1):A1z (A7 e 15132376222941642752*frb e)=1:=
 G4f he pN 15132376222941642752 15132376222941642753 5044125407647214251 (fun x=>(A0r x).symm) (G1l he) H4f
  (fun x=>by unfold A2u;rw[A2v,A2v,I1w,I1x]) (fun g=>by unfold A2a;rw[A2v,H0h]) (fun k=>by unfold B6r;rw[A2v,A2v,H0h])
end

set_option linter.unusedSectionVars false
section

def gm:F2:=(Fin.ofNat pN 877076961050607968509681729531255177986764537961432449499635504522207616027455086505066378536590128544573588734230,Fin.ofNat pN 877076961050607968509681729531255177986764537961432449499635504522207616027455086505066378536590128544573588734230)
def f0E (x:Fp):F6:=upE ((x,0):F2)
section
variable {r:Nat} [NeZero r]
theorem H3k (x y:Fin r):((x+y,0):Q2 r)=(x,0)+(y,0):=G1 rfl (by show 0=(0:Fin r)+0;grind)
theorem H3n (x y:Fin r):((x-y,0):Q2 r)=(x,0)-(y,0):=G1 rfl (by show 0=(0:Fin r)-0;grind)
theorem H3l (x y:Fin r):((x*y,0):Q2 r)=(x,0)*(y,0):=G1 (by show x*y=x*y-0*0;grind) (by show 0=x*0+0*y;grind)
theorem H3m (z:Q2 r) (n:Fin r):((z.1*n,z.2*n):Q2 r)=z*(n,0):=G1 (by show z.1*n=z.1*n-z.2*0;grind) (by show z.2*n=z.1*0+z.2*n;grind)
def cjQ (x:Q2 r):Q2 r:=(x.1,0-x.2)
theorem G2s (x y:Q2 r):cjQ (x+y)=cjQ x+cjQ y:=G1 rfl (by show 0-(x.2+y.2)=(0-x.2)+(0-y.2);grind)
theorem E2s (x y:Q2 r):cjQ (x-y)=cjQ x-cjQ y:=G1 rfl (by show 0-(x.2-y.2)=(0-x.2)-(0-y.2);grind)
theorem E2r (x y:Q2 r):cjQ (x*y)=cjQ x*cjQ y:=G1 (by simp only[cjQ,C4j,C4k];grind) (by simp only[cjQ,C4j,C4k];grind)
theorem G2t (x:Q2 r):cjQ (-x) = -cjQ x:=by
 have e:-x=0-x:=by grind
 have e2:-cjQ x=0-cjQ x:=by grind
 rw[e,e2,E2s];have:cjQ (0:Q2 r)=0:=G1 rfl (by show (0:Fin r)-0=0;grind)
 rw[this]
theorem H1b (x:Fin r):cjQ ((x,0):Q2 r)=(x,0):=G1 rfl (by show (0:Fin r)-0=0;grind)
theorem F1l (x:Q2 r) (h:cjQ x=0):x=0:=by
 have h1:x.1=0:=congrArg Prod.fst h;have h2:0-x.2=0:=congrArg Prod.snd h;exact G1 h1 (by show x.2=0;clear h h1;grind)
end
section
variable {R:Type} [Fld R] [DecidableEq R] [Nrs R]
theorem G1m (x y:R):upE (x+y)=upE x+upE y:=(F2k x y).symm
theorem G1n (x y:R):upE (x*y)=upE x*upE y:=(F2j x y).symm
theorem G1o (x y:R):upE (x-y)=upE x-upE y:=E3.ext' rfl (by show (0:R)=0-0;grind) (by show (0:R)=0-0;grind)
theorem I3d (x:R):letI:=X7 (F:=R);upE x*Nrs.xi=(⟨0,x,0⟩:E3 R):=by
 letI:=X7 (F:=R)
 refine E3.ext' ?_ ?_ ?_
 all_goals
  simp only[upE,Nrs.xi,E3.mul_a,E3.mul_b,E3.mul_c]<;>grind
theorem D3u (x y l m:R):letI:=X7 (F:=R);evl upE (upE x*Nrs.xi) (upE y*Nrs.xi) (some (l,m))=B6t (-m) (-(l*x)) y:=by
 letI:=X7 (F:=R)
 refine E2.ext' (E3.ext' ?_ ?_ ?_) (E3.ext' ?_ ?_ ?_)
 all_goals
  simp only[evl,B6t,upE,Nrs.xi,E3.mul_a,E3.mul_b,E3.mul_c,E3.add_a,E3.add_b,E3.add_c,E3.neg_a,E3.neg_b,E3.neg_c]
  grind
def D5b (y a b:R):E2 (E3 R):=⟨⟨y,0,0⟩,⟨a,b,0⟩⟩
theorem D4y (l m x y:R):letI:=X7 (F:=R);(⟨upE y,-(upE l*upE x+upE m*Nrs.xi)⟩:E2 (E3 R))=D5b y (-(l*x)) (-m):=by
 letI:=X7 (F:=R)
 refine E2.ext' (E3.ext' ?_ ?_ ?_) (E3.ext' ?_ ?_ ?_)
 all_goals
  simp only[D5b,upE,Nrs.xi,E3.mul_a,E3.mul_b,E3.mul_c,E3.add_a,E3.add_b,E3.add_c,E3.neg_a,E3.neg_b,E3.neg_c]<;>grind
theorem F0o {a b c a' b' c' : R} (h1:a*c' = a' * c) (h2:b*c' = b' * c):letI:=X7 (F:=R);Ass (B6t a b c) (B6t a' b' c'):=by
 letI:=X7 (F:=R)
 refine E3.ext' ?_ ?_ ?_
 ·show a*0+Nrs.xi*(b*0+0*c')=a' * 0+Nrs.xi*(b' * 0+0*c);grind
 ·show a*c' + b*0+Nrs.xi*(0*0)=a' * c+b' * 0+Nrs.xi*(0*0);rw[h1];grind
 ·show a*0+b*c' + 0*0=a' * 0+b' * c+0*0;rw[h2];grind
theorem F0p {y a b y' a' b' : R} (h1:y*a' = y' * a) (h2:y*b' = y' * b):letI:=X7 (F:=R);Ass (D5b y a b) (D5b y' a' b'):=by
 letI:=X7 (F:=R)
 refine E3.ext' ?_ ?_ ?_
 ·show y*a' + Nrs.xi*(0*0+0*b')=y' * a+Nrs.xi*(0*0+0*b);rw[h1];grind
 ·show y*b' + 0*a' + Nrs.xi*(0*0)=y' * b+0*a+Nrs.xi*(0*0);rw[h2];grind
 ·show y*0+0*b' + 0*a' = y' * 0+0*b+0*a;grind
theorem H7t {m' l' x y t2 t3 g:R} (h2:g*t3=t2) (h3:g*g*g*t3=1):letI:=X7 (F:=R);Ass (B6t (-(m' * (g*g*g))) (-(l' * g*x)) y) (B6t (-m') (-(l' * x)*t2) (y*t3)):=by
 refine F0o ?_ ?_
 ·have:-(m' * (g*g*g))*(y*t3) = -m' * y*(g*g*g*t3):=by clear h2 h3;grind
  rw[this,h3];clear this h2 h3;grind
 ·rw[<-h2];clear h2 h3;grind
theorem H7u {y' l x' m t1 t3 g:R} (h1:g*t1=1) (h3:g*g*g*t3=1):letI:=X7 (F:=R);Ass (D5b (y' * (g*g*g)) (-(l*(x' * (g*g)))) (-m)) (D5b y' (-(l*x')*t1) (-m*t3)):=by
 refine F0p ?_ ?_
 ·have:y' * (g*g*g)*(-(l*x')*t1)=y' * -(l*(x' * (g*g)))*(g*t1):=by clear h1 h3;grind
  rw[this,h1];clear this h1 h3;grind
 ·have:y' * (g*g*g)*(-m*t3)=y' * -m*(g*g*g*t3):=by clear h1 h3;grind
  rw[this,h3];clear this h1 h3;grind
end
theorem emb:Emb fp4 fq4 f0E (upE:F2->F6) where
 h0:=⟨fun x y=>(congrArg upE (H3k x y)).trans (G1m _ _),fun x y=>(congrArg upE (H3l x y)).trans (G1n _ _),fun x y=>(congrArg upE (H3n x y)).trans (G1o _ _)⟩
 h:=⟨G1m,G1n,G1o⟩
 n0:=fun y hy h=>by
  have k:=(I3d ((y,0):F2)).symm.trans h;exact hy (congrArg (fun z:F6=>z.b.1) k)
 n:=fun y hy h=>hy (congrArg E3.a h)
 hb:=by decide +kernel
 c0:=cv1
 c:=cv2
 ns:=H8
theorem gm1:gm*tur 1=1:=by decide +kernel
theorem gm2:gm*tur 3=tur 2:=by decide +kernel
theorem gm3:gm*gm*gm*tur 3=1:=by decide +kernel
theorem tuQ:Tu cj2 gm fq4 where
 h:=⟨G2s,E2r,E2s⟩
 i:=F1l
 g0:=by decide +kernel
 b:=by decide +kernel
theorem F1o (x:F12):∀n,A7 (cj x) n=cj (A7 x n)
 | 0=>F1n.symm
 | n+1=>by
  show A7 (cj x) n*cj x=cj (A7 x n*x);rw[F1o x n,B8x]
theorem E3v:frb 1=1:=by decide +kernel
theorem A3h:cj2 0=0:=by decide +kernel
section
variable {R:Type} [J5 R]
theorem E9z (t:R):0*t=0:=by grind
end
theorem F3l (a b c:F2):frb (B6t a b c)=B6t (cj2 a) (cj2 b*tur 2) (cj2 c*tur 3):=by
 refine E2.ext' (E3.ext' rfl rfl ?_) (E3.ext' ?_ rfl ?_)
 ·show cj2 0*tur 4=0;rw[A3h,E9z]
 ·show cj2 0*tur 1=0;rw[A3h,E9z]
 ·show cj2 0*tur 5=0;rw[A3h,E9z]
theorem F3m (y a b:F2):frb (D5b y a b)=D5b (cj2 y) (cj2 a*tur 1) (cj2 b*tur 3):=by
 refine E2.ext' (E3.ext' rfl ?_ ?_) (E3.ext' rfl rfl ?_)
 ·show cj2 0*tur 2=0;rw[A3h,E9z]
 ·show cj2 0*tur 4=0;rw[A3h,E9z]
 ·show cj2 0*tur 5=0;rw[A3h,E9z]
theorem E2q (x y:F2):cj2 (x*y)=cj2 x*cj2 y:=E2r x y
theorem B7e (x:F2):cj2 (-x) = -cj2 x:=G2t x
theorem C7y (x:Fp):cj2 ((x,0):F2)=(x,0):=H1b x
theorem frl:Frl f0E (upE:F2->F6) cj2 gm frb where
 m:=A7e
 o:=E3v
 c:=fun x=>(A0r (cj x)).symm.trans ((F1o x pN).trans (congrArg cj (A0r x)))
 e:=fun x y l m=>by
  have k1:=D3u ((x,0):F2) (y,0) (cj2 l*gm) (cj2 m*(gm*gm*gm));have k2:=D3u ((x,0):F2) (y,0) l m;have k3:=(congrArg frb k2).trans (F3l _ _ _);rw[B7e,B7e,E2q,C7y,C7y] at k3;have k4:=H7t (m' := cj2 m) (l' := cj2 l) (x:=((x,0):F2)) (y:=(y,0)) gm2 gm3;exact (congrArg (fun u=>Ass u _) k1).mpr ((congrArg (fun u=>Ass _ u) k3).mpr k4)
 l:=fun l a=>by
  have k1:=D4y ((l.1,0):F2) (l.2,0) (cj2 a.1*(gm*gm)) (cj2 a.2*(gm*gm*gm));have k2:=D4y ((l.1,0):F2) (l.2,0) a.1 a.2;have k3:=(congrArg frb k2).trans (F3m _ _ _);rw[B7e,B7e,E2q,C7y,C7y] at k3;have k4:=H7u (y' := cj2 a.2) (l:=((l.1,0):F2)) (x' := cj2 a.1) (m:=(l.2,0)) gm1 gm3;exact (congrArg (fun u=>Ass u _) k1).mpr ((congrArg (fun u=>Ass _ u) k3).mpr k4)
end

set_option linter.unusedSectionVars false
section

section
variable {F:Type} [Fld F] [DecidableEq F] {b:F}
def I1c (a s:F×F×F) (z:Bool):F×F×F:=if z=true then jpl (jtw s) a else jtw s
def jbs (a:F×F×F) (l:List Bool):F×F×F:=l.foldl (I1c a) a
theorem F4s (hc:Cv b) {P:Pt F} {a:F×F×F} (hP:OnC b P) (h:Jc P a):∀(l:List Bool) (n:Nat) (s:F×F×F),Jc (E8 P n) s->Jc (E8 P (l.foldl nst n)) (l.foldl (I1c a) s)
 | [],_,_,hs=>hs
 | z::l,n,s,hs=>by
  refine F4s hc hP h l (nst n z) _ ?_
  have J1:Jc (E8 P (n+n)) (jtw s):=by rw[W4 hc hP];exact A5r hc.two _ _ hs
  cases z with
  | false=>exact J1
  | true=>exact A2x hc.two _ _ _ _ J1 h
theorem D5t (hc:Cv b) {P:Pt F} {a:F×F×F} (hP:OnC b P) (h:Jc P a) (l:List Bool) {n:Nat} (hn:l.foldl nst 1=n):Jc (E8 P n) (jbs a l):=hn ▸ F4s hc hP h l 1 a h
theorem G5f {P:Pt F} {t:F×F×F} (h:Jc P t) (hz:t.2.2=0):P=none:=by
 cases P with
 | none=>rfl
 | some p=>exact absurd hz h.1
theorem G5g {P Q:Pt F} {t:F×F×F} (h:Jc P t) (k:Jc Q t):P=Q:=(C9m P t h).symm.trans (C9m Q t k)
theorem A4h (hc:Cv b) (X:CP b):∀n,(letI:=M9 hc;mlt X n).1=E8 X.1 n
 | 0=>rfl
 | n+1=>by
  show D4 (letI:=M9 hc;mlt X n).1 X.1=D4 (E8 X.1 n) X.1
  rw[A4h hc X n]
end
@[reducible] instance agQ:AG (CP fq4):=M9 cv2
@[reducible] instance agP:AG (CP fp4):=M9 cv1
def hPt:F2×F2:=((Fin.ofNat pN 352701069587466618187139116011060144890029952792775240219908644239793785735715026873347600343865175952761926303160,Fin.ofNat pN 3059144344244213709971259814753781636986470325476647558659373206291635324768958432433509563104347017837885763365758),(Fin.ofNat pN 1985150602287291935568054521177171638300868978215655730859378665066344726373823718423869104263333984641494340347905,Fin.ofNat pN 927553665492332455747201965776037880757740193453592970025027978793976877002675564980949289727957565575433344219582))
def uPt:F2×F2:=((Fin.ofNat pN 1117537858402150239581489583423215310817594763587075173510352554317036724133868662355368490764272633936142202708396,Fin.ofNat pN 598156863305241747249262889660708741642521236408786009817264754940573902844630362426503131117978715071394150269485),(Fin.ofNat pN 1201985429637510306336279274905740415478318848439253116206132776238306151744392340446480012257797801557570457579778,Fin.ofNat pN 2343949297471243289497692297768928841657631340968057880984352745333316400744261991566673533373889824163548528572929))
def gPt:Fp×Fp:=(Fin.ofNat pN 3685416753713387016781088315183077757961620795782546409894578378688607592378376318836054947676345821548104185464507,Fin.ofNat pN 1339506544944476473020471379941921221584933875938349620426543736416511423956333506472724655353366534992391756441569)
theorem I3y:hPt.2*hPt.2=hPt.1*hPt.1*hPt.1+fq4:=by decide +kernel
theorem I6p:uPt.2*uPt.2=uPt.1*uPt.1*uPt.1+fq4:=by decide +kernel
theorem D4g:gPt.2*gPt.2=gPt.1*gPt.1*gPt.1+fp4:=by decide +kernel
def ptH:CP fq4:=⟨some hPt,I3y⟩
def ptU:CP fq4:=⟨some uPt,I6p⟩
def ptG:CP fp4:=⟨some gPt,D4g⟩
section
variable {F:Type} [Fld F]
theorem D9q (p:F×F) (o:F) (ho:o=1):Jc (some p) (p.1,p.2,o):=by
 subst ho;refine ⟨Fld.one_ne,?_,?_⟩
 ·show p.1=p.1*(1*1);generalize p.1=x;grind
 ·show p.2=p.2*(1*1*1);generalize p.2=x;grind
end
theorem F0x:(btL rN 255 255).tail.foldl nst 1=rN:=by decide +kernel
theorem H0v:(btL qU 448 448).tail.foldl nst 1=qU:=by decide +kernel
theorem F0v:(btL Y8 64 64).tail.foldl nst 1=Y8:=by decide +kernel
theorem H2l:(jbs (hPt.1,hPt.2,(1:F2)) (btL rN 255 255).tail).2.2=0:=by decide +kernel
theorem H7w:(jbs (uPt.1,uPt.2,(1:F2)) (btL qU 448 448).tail).2.2=0:=by decide +kernel
theorem H2h:(jbs (gPt.1,gPt.2,(1:Fp)) (btL rN 255 255).tail).2.2=0:=by decide +kernel
theorem I1d {F:Type} [Fld F] {p:F×F} {t:F×F×F} (h:t.2.2≠0∧t.1=p.1*(t.2.2*t.2.2)∧t.2.1=p.2*(t.2.2*t.2.2*t.2.2)):Jc (some p) t:=h
theorem H2k:(jbs (hPt.1,hPt.2,(1:F2)) (btL Y8 64 64).tail).2.2≠0∧(jbs (hPt.1,hPt.2,(1:F2)) (btL Y8 64 64).tail).1=(ngp (tu cj2 gm hPt)).1*((jbs (hPt.1,hPt.2,(1:F2)) (btL Y8 64 64).tail).2.2*(jbs (hPt.1,hPt.2,(1:F2)) (btL Y8 64 64).tail).2.2)∧(jbs (hPt.1,hPt.2,(1:F2)) (btL Y8 64 64).tail).2.1=(ngp (tu cj2 gm hPt)).2*((jbs (hPt.1,hPt.2,(1:F2)) (btL Y8 64 64).tail).2.2*(jbs (hPt.1,hPt.2,(1:F2)) (btL Y8 64 64).tail).2.2*(jbs (hPt.1,hPt.2,(1:F2)) (btL Y8 64 64).tail).2.2):=by decide +kernel
theorem I3x:Jc (some (ngp (tu cj2 gm hPt))) (jbs (hPt.1,hPt.2,(1:F2)) (btL Y8 64 64).tail):=I1d H2k
section
variable {F:Type} [Fld F] [DecidableEq F] {b:F}
theorem C1d (hc:Cv b) (X:CP b) {p:F×F} (hX:X.1=some p) {n:Nat} (l:List Bool) (hn:l.foldl nst 1=n) {o:F} (ho:o=1) (hz:(jbs (p.1,p.2,o) l).2.2=0):letI:=M9 hc;mlt X n=0:=by
 letI:=M9 hc
 have k:=A4h hc X n;rw[hX] at k;exact Subtype.ext (k.trans (G5f (D5t hc (hX ▸ X.2) (D9q p o ho) l hn) hz))
theorem F6r (hc:Cv b) (X:CP b) {p q:F×F} (hX:X.1=some p) {n:Nat} (l:List Bool) (hn:l.foldl nst 1=n) {o:F} (ho:o=1) (hz:Jc (some q) (jbs (p.1,p.2,o) l)):letI:=M9 hc;(mlt X n).1=some q:=by
 letI:=M9 hc
 have k:=A4h hc X n;rw[hX] at k;exact k.trans (G5g (D5t hc (hX ▸ X.2) (D9q p o ho) l hn) hz)
theorem F9h (hc:Cv b) {X:CP b} {p:F×F} (h:X.1=some p):letI:=M9 hc;X≠0:=by
 letI:=M9 hc
 intro e;rw[e] at h;have h:(none:Pt F)=some p:=h
 cases h
end
theorem H_r:mlt ptH rN=0:=C1d cv2 ptH (p:=hPt) rfl (n:=rN) (btL rN 255 255).tail F0x (o:=1) rfl H2l
theorem U_q:mlt ptU qU=0:=C1d cv2 ptU (p:=uPt) rfl (n:=qU) (btL qU 448 448).tail H0v (o:=1) rfl H7w
theorem G_r:mlt ptG rN=0:=C1d cv1 ptG (p:=gPt) rfl (n:=rN) (btL rN 255 255).tail F0x (o:=1) rfl H2h
theorem H_L:(mlt ptH Y8).1=P1 (ptu cj2 gm ptH.1):=F6r cv2 ptH (p:=hPt) (q:=ngp (tu cj2 gm hPt)) rfl (n:=Y8) (btL Y8 64 64).tail F0v (o:=1) rfl I3x
theorem H1q (x:F2):x.1.val*pN+x.2.val<pN*pN:=by
 have h1:=x.1.isLt;have h2:=x.2.isLt;have:=Nat.mul_le_mul_right pN (Nat.le_sub_one_of_lt h1)
 have h3:(pN-1)*pN+pN=pN*pN:=by
  rw[<-Nat.succ_mul];congr 1
 exact Nat.lt_of_lt_of_le (Nat.add_lt_add_of_le_of_lt this h2) (Nat.le_of_eq h3)
theorem G3k (x y:F2) (h:x.1.val*pN+x.2.val=y.1.val*pN+y.2.val):x=y:=by
 have h1:(x.1.val*pN+x.2.val) / pN=(y.1.val*pN+y.2.val) / pN:=by rw[h]
 have h2:(x.1.val*pN+x.2.val) % pN=(y.1.val*pN+y.2.val) % pN:=by rw[h]
 have hp:0<pN:=by decide +kernel
 rw[Nat.mul_comm,Nat.mul_add_mod,Nat.mul_comm y.1.val,Nat.mul_add_mod,Nat.mod_eq_of_lt x.2.isLt,Nat.mod_eq_of_lt y.2.isLt] at h2;rw[Nat.mul_comm,Nat.mul_add_div hp,Nat.mul_comm y.1.val,Nat.mul_add_div hp,Nat.div_eq_of_lt x.2.isLt,Nat.div_eq_of_lt y.2.isLt] at h1;exact Prod.ext (Fin.ext h1) (Fin.ext h2)
theorem H6u:2*(pN*pN)+1<qU*(rN*rN):=by decide +kernel
theorem E5n:0<rN:=by decide +kernel
theorem I2k:0<qU:=by decide +kernel
theorem H2i:Nat.gcd rN qU=1:=by decide +kernel
theorem H3v {A:CP fq4} (hA:mlt A rN=0):D2t ptH A:=
 F0k (G2x (b:=fq4) (fun x:F2=>x.1.val*pN+x.2.val) (pN*pN) H1q G3k) H6u H2v E5n I4e I2k H2i hA H_r U_q (F9h cv2 (X:=ptH) (p:=hPt) rfl) (F9h cv2 (X:=ptU) (p:=uPt) rfl)
theorem G1d {n:Nat} (hn:(mlt ptH n).1=P1 (ptu cj2 gm ptH.1)) (A:CP fq4) (hA:mlt A rN=0):(mlt A n).1=P1 (ptu cj2 gm A.1):=by
 obtain ⟨m,rfl⟩:=H3v hA;clear hA;rw[A0k];induction m with
 | zero=>rfl
 | succ m ih=>
  show D4 (mlt (mlt ptH n) m).1 (mlt ptH n).1=P1 (ptu cj2 gm (D4 (mlt ptH m).1 ptH.1));rw[ih,hn,<-(F5j cv2 tuQ (mlt ptH m).2 ptH.2).2];exact (congrArg Subtype.val (AG.ng_add (M:=CP fq4) (⟨ptu cj2 gm (mlt ptH m).1,B6n tuQ (mlt ptH m).2⟩:CP fq4) ⟨ptu cj2 gm ptH.1,B6n tuQ ptH.2⟩)).symm

def SQ (X:CP fq4):Prop:=mlt X rN=0
theorem G1w:SQ 0:=O5 rN
theorem F0c {x y:CP fq4} (hx:SQ x) (hy:SQ y):SQ (x+y):=by
 show mlt (x+y) rN=0;rw[B7n,show mlt x rN=0 from hx,show mlt y rN=0 from hy]
 grind
section
variable {M:Type} [C7l M]
theorem E8d (x:M):mlt x 3=x+x+x:=by show 0+x+x+x=_;grind
theorem F6p (x:M):mlt x 5=x+x+x+x+x:=by show 0+x+x+x+x+x=_;grind
end
theorem H9k (X:CP fq4) (h:SQ X):(X+X+X=0->X=0)∧(X+X+X+X+X=0->X=0):=
 ⟨fun e=>B2l 3 rN ((E8d X).trans e) h (by decide +kernel),fun e=>B2l 5 rN ((F6p X).trans e) h (by decide +kernel)⟩
abbrev DpE (P:Pt Fp):CP fq4->CP fq4->F12:=fun A B=>Dp f0E (upE:F2->F6) P A.1 B.1
theorem G2v {P:Pt Fp} (hP:OnC fp4 P):Coc SQ (DpE P):=H1h emb hP G1w F0c H9k
theorem F2r {u:F12} (hu:u≠0):et u*cjp (et u)=1:=by
 rw[A0o];have h:cj (et u)=et (cj u):=B6d H8 (C5b H8 hu) (by rw[<-B8x,K0 H8 hu])
 rw[h];have k:=D3s H8 hu;generalize et u=a at *;generalize et (cj u)=c at *;rw[<-k];clear k h;grind
theorem B7q:(1:F12)*cjp 1=1:=by rw[A6y];exact E2.one_mul 1
theorem G3h {P:Pt Fp} (hP:OnC fp4 P) (A B:Pt F2):Dp f0E (upE:F2->F6) P A B*cjp (Dp f0E (upE:F2->F6) P A B)=1:=by
 cases P with
 | none=>exact B7q
 | some p=>exact F2r (A0q emb hP _)
theorem G3l (P Q:Pt Fp) {A:Pt F2} (hA:OnC fq4 A):Ep f0E (upE:F2->F6) P Q A*cjp (Ep f0E (upE:F2->F6) P Q A)=1:=by
 cases A with
 | none=>rw[A8q];exact B7q
 | some a=>
  cases k:lda P Q with
  | none=>rw[P4 k];exact B7q
  | some l=>rw[Z5 k];exact F2r (A4f emb hA l)
theorem D3g (x:F12):∀n,cjp (A7 x n)=A7 (cjp x) n
 | 0=>A6y
 | n+1=>by
  show cjp (A7 x n*x)=A7 (cjp x) n*cjp x;rw[A4a,D3g x n]
theorem G2u (x:F12):cjp (frb x)=frb (cjp x):=by rw[A0o,A0o,frl.c]
theorem E7h {n:Nat} (hn:n=15132376222941642752) {e:F12} (he:e*cjp e=1):A1z (A7 e n*frb e)=1:=by
 subst hn;exact F3c he
theorem kill {n:Nat} (hn:n=15132376222941642752) {e:F12} (he:e*cjp e=1):A1z (cjp (A7 e n*frb e))=1:=by
 rw[A4a,D3g,G2u];refine E7h hn ?_
 rw[E2t,<-he];generalize cjp e=c;clear he;grind
theorem G3y {n:Nat} (hn:n=15132376222941642752):A1z 1=1:=by
 have k:=kill hn B7q;rw[B1v,E3v,E2.one_mul,A6y] at k;exact k
theorem D9e:A1z 1=1:=G3y rfl
section
variable {M G:Type} [C7l M] [J5 G]
theorem D4l {S:M->Prop} {D:M->M->G} (h:Coc S D):∀n,gth D 0 n=1
 | 0=>rfl
 | n+1=>by
  show gth D 0 n*D (mlt 0 n) 0=1;rw[D4l h n,O5,h.l h.z];grind
end
theorem H0b {x y z w:F12} (h:x*w=y*z) (hw:A1z (cjp w)=1):A1z (cjp x)=A1z (cjp y)*A1z (cjp z):=by
 have k:A1z (cjp (x*w))=A1z (cjp (y*z)):=congrArg (fun u=>A1z (cjp u)) h
 rw[A4a,C0c,hw,A4a,C0c,E2.mul_one] at k;exact k
/-- The pairing of two points, by any number of steps. -/
def A2d (n:Nat) (P:Pt Fp) (Q:CP fq4):F12:=A1z (cjp (gth (DpE P) Q n))
section
variable {n:Nat} (hn:n=15132376222941642752) (ht:∀A:CP fq4,SQ A->(mlt A n).1=P1 (ptu cj2 gm A.1))
theorem D4k (A:CP fq4):∀n,gth (DpE none) A n=1
 | 0=>rfl
 | n+1=>by
  show gth (DpE none) A n*1=1;rw[D4k A n,E2.one_mul]
theorem C2n (n:Nat) {P:Pt Fp} (hP:OnC fp4 P):A2d n P 0=1:=by
 unfold A2d;rw[D4l (G2v hP),A6y,D9e]
theorem C2m (n:Nat) (A:CP fq4):A2d n none A=1:=by
 unfold A2d;rw[D4k,A6y,D9e]
include hn ht
theorem E8v {P:Pt Fp} (hP:OnC fp4 P) {A B:CP fq4} (hA:SQ A) (hB:SQ B):A2d n P (A+B)=A2d n P A*A2d n P B:=
 H0b (F4c emb tuQ frl hP (G2v hP) hA hB (ht A hA) (ht B hB)) (kill hn (G3h hP _ _))
theorem C6m {P Q:Pt Fp} (hP:OnC fp4 P) (hQ:OnC fp4 Q) {A:CP fq4} (hA:SQ A):A2d n (D4 P Q) A=A2d n P A*A2d n Q A:=
 H0b (F4b emb tuQ frl hP hQ A (ht A hA)) (kill hn (G3l P Q A.2))
omit hn ht in
theorem F0d {A:CP fq4} (hA:SQ A) (m:Nat):SQ (mlt A m):=by
 show mlt (mlt A m) rN=0;rw[A0k,show mlt A rN=0 from hA,O5]
theorem C6n {P:Pt Fp} (hP:OnC fp4 P) {A:CP fq4} (hA:SQ A):∀m,A2d n P (mlt A m)=A7 (A2d n P A) m
 | 0=>C2n n hP
 | m+1=>by
  show A2d n P (mlt A m+A)=A7 (A2d n P A) m*A2d n P A;rw[E8v hn ht hP (F0d hA m) hA,C6n hP hA m]
theorem C2l {P:Pt Fp} (hP:OnC fp4 P) {A:CP fq4} (hA:SQ A):∀m,A2d n (E8 P m) A=A7 (A2d n P A) m
 | 0=>C2m n A
 | m+1=>by
  show A2d n (D4 (E8 P m) P) A=A7 (A2d n P A) m*A2d n P A;rw[C6m hn ht (J8 cv1 hP m) hP hA,C2l hP hA m]
end
theorem C3l (A:CP fq4) (hA:SQ A):(mlt A Y8).1=P1 (ptu cj2 gm A.1):=G1d H_L A hA
theorem D0c:Y8=15132376222941642752:=rfl
/-- The pairing of two points. -/
def prg (P:Pt Fp) (Q:CP fq4):F12:=A2d Y8 P Q
theorem E8w {P:Pt Fp} (hP:OnC fp4 P):prg P 0=1:=C2n Y8 hP
theorem A7r (A:CP fq4):prg none A=1:=C2m Y8 A
theorem B2y {P Q:Pt Fp} (hP:OnC fp4 P) (hQ:OnC fp4 Q) {A:CP fq4} (hA:SQ A):prg (D4 P Q) A=prg P A*prg Q A:=C6m D0c C3l hP hQ hA
theorem F9d {P:Pt Fp} (hP:OnC fp4 P) {A:CP fq4} (hA:SQ A) (m:Nat):prg P (mlt A m)=A7 (prg P A) m:=C6n D0c C3l hP hA m
theorem B5e {P:Pt Fp} (hP:OnC fp4 P) {A:CP fq4} (hA:SQ A) (m:Nat):prg (E8 P m) A=A7 (prg P A) m:=C2l D0c C3l hP hA m
end

set_option linter.unusedSectionVars false
section

theorem D1x (z:F2) (n:Fp):scl z n=z*(n,0):=H3m z n
theorem I2z (t:F2×F2×F2) (x y:Fp):tch t x y=H7c t (x,0) (y,0):=by
 unfold tch;rw[D1x,D1x];rfl
theorem I3a (t q:F2×F2×F2) (x y:Fp):thg t q x y=H7f t q (x,0) (y,0):=by
 unfold thg;rw[D1x,D1x];rfl
theorem H0o {k:F2} (h:k≠0):(upE k:F6)≠0:=fun e=>h (congrArg E3.a e)
theorem I1l (x y:Fp) (q:F2×F2×F2):mst x y q=B6w (fun t=>tch t x y) (fun t=>thg t q x y) q:=by kernel_rfl
theorem H1t {u:F12} (hu:u≠0):et (cjp u)=cjp (et u):=by
 rw[A0o,A0o];exact (B6d H8 (C5b H8 hu) (by rw[<-B8x,K0 H8 hu])).symm
theorem F7y:(1:F12)≠0:=fun e=>Fld.one_ne (congrArg E2.a e)
section
variable {M G:Type} [C7l M] [J5 G]
theorem I0s {S:M->Prop} {D:M->M->G} (h:Coc S D) {x:M} (hx:S x):gth D x 1=1:=by
 show 1*D 0 x=1;rw[h.l hx];grind
end
theorem F5m {x y:Fp} (hP:OnC fp4 (some (x,y))) {Q:CP fq4} (hQ:SQ Q) {q:F2×F2} (hq:Q.1=some q) {q3:F2×F2×F2} (hj:Jc (some q) q3) {T1 T2:F2×F2×F2->F12}
    (h1:∀(p:F2×F2) (t:F2×F2×F2),OnC fq4 (some p)->Jc (some p) t->∃k,k≠0∧T1 t=(⟨k,0⟩:E2 F6)*evl upE (f0E x*Nrs.xi) (f0E y*Nrs.xi) (lda (some p) (some p)))
    (h2:∀(p:F2×F2) (t:F2×F2×F2),OnC fq4 (some p)->Jc (some p) t->p.1≠q.1->∃k,k≠0∧T2 t=(⟨k,0⟩:E2 F6)*evl upE (f0E x*Nrs.xi) (f0E y*Nrs.xi) (lda (some p) (some q)))
    {n:Nat} (l:List Bool) (hl:l.foldl nst 1=n) (hn:n+1<rN) {s:(F2×F2×F2)×F12} (hs1:s.1=q3) (hs2:s.2=1) :
    (l.foldl (B6w T1 T2 q3) s).2≠0∧et (l.foldl (B6w T1 T2 q3) s).2=gth (DpE (some (x,y))) Q n:=by
  subst hl;have hne:Q≠0:=F9h cv2 hq;have g0:∀m,0<m->m<=l.foldl nst 1+1->mlt Q m≠0:=fun m g1 g2=>F6q H2v hQ hne g1 (by omega)
  have g1:Jc (mlt Q 1).1 s.1:=by rw[show mlt Q 1=Q from D0f Q,hq,hs1];exact hj
  have g2:s.2≠0:=by rw[hs2];exact F7y
  have g3:et s.2=gth (DpE (some (x,y))) Q 1:=by
    rw[hs2,C8m H8];exact (I0s (G2v hP) hQ).symm
  have k:=G5y emb hP (G2v hP) hQ hq hj (T1:=T1) (T2:=T2) (Eq.mpr (by kernel_rfl) h1) (Eq.mpr (by kernel_rfl) h2) l 1 s (Nat.le_refl 1) g0 g1 (Eq.mpr (by kernel_rfl) g2) g3
  obtain ⟨_,k2,k3⟩:=k;exact ⟨Eq.mpr (by kernel_rfl) k2,Eq.mpr (by kernel_rfl) k3⟩
theorem H7e (x y:Fp) {p:F2×F2} (hp:OnC fq4 (some p)) {t:F2×F2×F2} (ht:Jc (some p) t):∃k,k≠0∧tch t x y=(⟨k,0⟩:E2 F6)*evl upE (f0E x*Nrs.xi) (f0E y*Nrs.xi) (lda (some p) (some p)):=by
 obtain ⟨k,k1,k2⟩:=H7d cv2 hp ht ((x,0):F2) (y,0);exact ⟨upE k,Eq.mpr (by kernel_rfl) (H0o k1),(I2z t x y).trans (Eq.mpr (by kernel_rfl) k2)⟩
theorem H7h (x y:Fp) {p q:F2×F2} (hp:OnC fq4 (some p)) (hq:OnC fq4 (some q)) (hne:p.1≠q.1) {t q3:F2×F2×F2} (ht:Jc (some p) t) (hz:q3=(q.1,q.2,1)):∃k,k≠0∧thg t q3 x y=(⟨k,0⟩:E2 F6)*evl upE (f0E x*Nrs.xi) (f0E y*Nrs.xi) (lda (some p) (some q)):=by
 subst hz;obtain ⟨k,k1,k2⟩:=H7g cv2 hp hq hne ht 1 ((x,0):F2) (y,0);exact ⟨upE k,Eq.mpr (by kernel_rfl) (H0o k1),(I3a t (q.1,q.2,1) x y).trans (Eq.mpr (by kernel_rfl) k2)⟩
theorem G5x {x y:Fp} (hP:OnC fp4 (some (x,y))) {Q:CP fq4} (hQ:SQ Q) {q:F2×F2} (hq:Q.1=some q) {q3:F2×F2×F2} (hz:q3=(q.1,q.2,1)) {n:Nat} (l:List Bool) (hl:l.foldl nst 1=n) (hn:n+1<rN) {s:(F2×F2×F2)×F12} (hs1:s.1=q3) (hs2:s.2=1) :
  N6 (cjp (l.foldl (mst x y q3) s).2)=A2d n (some (x,y)) Q:=by
 have hj:Jc (some q) q3:=by rw[hz];exact D9q q 1 rfl
 have oq:OnC fq4 (some q):=hq ▸ Q.2;have k:=F5m hP hQ hq hj (T1:=fun t=>tch t x y) (T2:=fun t=>thg t q3 x y)
  (fun p t hp ht=>H7e x y hp ht) (fun p t hp ht hne=>H7h x y hp oq hne ht hz) l hl hn hs1 hs2
 have e:l.foldl (mst x y q3) s=l.foldl (B6w (fun t=>tch t x y) (fun t=>thg t q3 x y) q3) s:=by rw[I1l]
 rw[e];generalize (l.foldl (B6w (fun t=>tch t x y) (fun t=>thg t q3 x y) q3) s).2=u at *
 rw[A3k,H1t k.1,k.2]
 rfl
theorem I3i:Y8+1<rN:=by decide +kernel
/-- What the program makes of two points that are not at infinity. -/
theorem F6l {x y:Fp} (hP:OnC fp4 (some (x,y))) {Q:CP fq4} (hQ:SQ Q) {q:F2×F2} (hq:Q.1=some q) {q3:F2×F2×F2} (hz:q3=(q.1,q.2,1)):N6 (mil x y q3)=prg (some (x,y)) Q:=
 G5x hP hQ hq hz (btL Y8 64 64).tail F0v I3i rfl rfl
def pwb (x:F12) (l:List Bool):F12:=l.foldl (gst x) 1
theorem G7x (x:F12) (l:List Bool) {n:Nat} (h:l.foldl nst 0=n):A7 x n=pwb x l:=h ▸ (C9b x l 0).symm
theorem B1u (x:F12) (l:List Bool) (n:Int) {m:Nat} (hm:n.toNat=m) (h:l.foldl nst 0=m):gpi x n=pwb x l:=by rw[A2v,hm];exact G7x x l h
end

section

def z_m:F12:=⟨⟨(Fin.ofNat pN 1846979733742619984236856519096961505208445084542243478292833414410313232237533907243873223977707181173091964108599,Fin.ofNat pN 365407202272051176779677544776498623663204201849587783087480754328259921374655803463339256418276596553498722730500),(Fin.ofNat pN 1911190202214193306915191356716142301130331169821418006776127252225453638404959874819864409062577222875009424983847,Fin.ofNat pN 3679292861835765883467971526569659371940848602799042554389237721905911544082360143923892401668358113856105294683991),(Fin.ofNat pN 2048706228926000143585595190501178899722334393191232002313286002301612148408673186740176657565554885032015484799561,Fin.ofNat pN 1941528177453715868023560981532865930033012600192205645353298847431525237698799555598314634997957011571128691368016)⟩,⟨(Fin.ofNat pN 2035712879703771928920753882730810723170553615583772682173309193126073890580984515411763578568445503451914173249443,Fin.ofNat pN 2907834186091693609740023504105558744656979486185667446279010118323342456602745240592912149552678189682088280549676),(Fin.ofNat pN 1421790502914473105444211451683241860962942039793317028247101372029878979007739224851131020099690234801601989789569,Fin.ofNat pN 3909972074827346416347607999507588686753975557379670554626250238677046122221576338852530510105548501062384172334641),(Fin.ofNat pN 3745541392790952208309249491525067142614413111609433735013854515389948791813214821166166779905186876590804694132896,Fin.ofNat pN 391714869254764547459313469459838962546079986178871748952864967824322933306180385378072835416624742514373976356399)⟩⟩
def z_e:F12:=⟨⟨(Fin.ofNat pN 1038073191547956796409026126878527268266470333355040852538473024278270963003608990329503419596226995509466091364281,Fin.ofNat pN 3472128712581537949760206934119993164102934148149591657022520829544656424752225682686329512606112979909590191069875),(Fin.ofNat pN 2534263294660501372298551917375746746088971440679951304452806090500958437583570399100257591792062280364101959774713,Fin.ofNat pN 226120475576023910458186354568120210768387840076254684535861946575969288857542481271780947500752793445098186233864),(Fin.ofNat pN 1161314499601140605061621386185046551864673398870606121070552226873391735549267290642645255723745001747290604370800,Fin.ofNat pN 2301761811495838010211397103530397764661212867299386216842190604737931490024083276544598849191731828693919031501243)⟩,⟨(Fin.ofNat pN 1101359075410896704516684587098874271743859023359536958181364457006937722628980652042521003077979438314663188928108,Fin.ofNat pN 3462181531384267964705894785715758591977722174550004475700089220209547927723681588659246838982473357725170126489634),(Fin.ofNat pN 195935104236643205428256232515341883457695583985633909267294720907483770166720912913565822209799242147021163718598,Fin.ofNat pN 1287996221979984214617076245476348766139561224958234245646224933442842926227832370671385213841157666392705275698306),(Fin.ofNat pN 2956194018199014813064850645607321544119010843269968507649317034045645971925442547220301238637714931742621408888299,Fin.ofNat pN 3257868591292127695426273984752163636650071375206943337305993232301098408247453798670221901046621246590503275656043)⟩⟩
def z_a:F12:=⟨⟨(Fin.ofNat pN 1510107722572828261550456151093864086691603914687768733547089522940763855394581829056943774158245330102175234867365,Fin.ofNat pN 808088717004703826527845002367721048328742280592989028558030142710212828338665719435559947605712112865726189666705),(Fin.ofNat pN 3710514574182005371926233043859060107788439815410187352828615120303774202962806625846108553355796224478762282615718,Fin.ofNat pN 3718410119742133333192092795470106941040113391850829632607903082329109300254219700624284948054717451211425800147146),(Fin.ofNat pN 3258996093706043078483052074983766734841692758717147460252044539419829763475289249153099003976736977297613956120486,Fin.ofNat pN 2368694829310213597069917632356869514055569781787290568526433824371764704323762446873487997487613368223346360443403)⟩,⟨(Fin.ofNat pN 825019717055119404488291944227878455588656804579258664131545285287600947107393882625533957511195351444914053275555,Fin.ofNat pN 1235237080506678848819252090840181863359857720799046539637838566547094823241749997397844433226723860984981410384623),(Fin.ofNat pN 2764381966972188833242976222377757459066036708528928840431954636069928496277414501615608427534705033883967463366461,Fin.ofNat pN 3950261173758068029169962917567733265997797709591473479657980127059112999656277408515066842040039285101520990525635),(Fin.ofNat pN 1261947073570269029040075154556515989509616962110692009464372009392016601853269864118522864681591239693361464667833,Fin.ofNat pN 1217072859421831304326757924601188491648346757263556492236697331750135459118781991687175033633434919933585395413051)⟩⟩
def H9a:F12:=⟨⟨(Fin.ofNat pN 483422842865460960975360683702114890774652236718602907106293727446196211695581273973892359419995701245121992995932,Fin.ofNat pN 2222429867643352770373620402102901987490735137111375888176643315800991900757926591534439227271694953648151793490073),(Fin.ofNat pN 1610231307709252983729874367857479319336262477471876703530520453644123333657891264298201834448006573077855989948663,Fin.ofNat pN 3883156552931842258954066820918373383391036564109442315705756673666363391855252551117194480602926690221678027116094),(Fin.ofNat pN 3487256076643242096739625695434415784841696980413007827992375275914526691252467867196925701436642760753767022994301,Fin.ofNat pN 813845368504596805013206987507671669248149767947113052502533072429870854746035370668129256356175822471743790199901)⟩,⟨(Fin.ofNat pN 1927797602461781900086820045826522454704630925687809151875065518483635704814997569389244451712388306168900150958386,Fin.ofNat pN 847298330573190689045272099117471598078014883259199798869916916031475018353450749804637900679902831207603142280429),(Fin.ofNat pN 3181495748846431153534605515498972098909138481982325133651947125397286559591777687710504290184774857764937542436173,Fin.ofNat pN 3927442649956390445152114195600725081697808356048479001169541793773148602043543165637069657286618335111170148756235),(Fin.ofNat pN 3862461713938468101589408707758930616224752264359556066306406464341799679602123946570919867488829269571132542772045,Fin.ofNat pN 2313241134748716337674948143245730345706151910631567423961649313819758030894466160528567478647995009281984044836526)⟩⟩
def z_g:F12:=⟨⟨(Fin.ofNat pN 3727150175738056038437321238698697731781696080828773757040465011490166181611631337200778236356031642695439974349577,Fin.ofNat pN 1839616876754881781575858437310641937202581969126240033381844989596092734646398823766831267435784899908572145045229),(Fin.ofNat pN 1580184008049100904643447925191051042267566823155155928888485936743655907143247475057389383953654826599755381962794,Fin.ofNat pN 1005949275355438696672991010234449474573361999171252316254608330350763691274836406122448075879672385123810043437110),(Fin.ofNat pN 1585883970529978240440447542531357286798319535283777953821222332988572154537685743080024088316898147945266006734229,Fin.ofNat pN 1199950435371321038801444568252619754865232185458154947547888299091533290374719175887487243483924298314521692640896)⟩,⟨(Fin.ofNat pN 539680322645145116303307080724512506916061293076076986331653724442803312168823473248951745543834568468985016018192,Fin.ofNat pN 330947745919527821020935030651470241082031533021947398364489188527539447216233841244275379210418719581070542826781),(Fin.ofNat pN 2840388762593808083854887012734212079940937394313433939075964079968561662327095766812093669054050452258812556988242,Fin.ofNat pN 1271087477349948860464878134423988809838951568518485035210370323344073046381427019486706281467574774810664877475006),(Fin.ofNat pN 1345172911928469554826095690452192193536251277879245666210791152025976408422338480113649465367816341649210158049872,Fin.ofNat pN 1279259221751448315889073431954539259164919195792295350465434707814361055056283259375646338710602467184442465537696)⟩⟩
def I3f:F12:=⟨⟨(Fin.ofNat pN 98106732922247232046294826107804893606305139741859558001246681532726008229110186069559361626155778899354839290029,Fin.ofNat pN 2411243288242059420409506076039276428512266365926037552111752313440190731179225607997767635017270349439125996541834),(Fin.ofNat pN 2683305819022892796578784263010312016630281780315918502717907372576263986315038237375049427928424388897634981744248,Fin.ofNat pN 1870984871590677877346426025150611738918673294100338707497423226557823273417581946975760616334842831725692553781629),(Fin.ofNat pN 903171389235868883618496292449982554898075432727674087719684362304278145783033445620564310952930377480405516675348,Fin.ofNat pN 1819359316961982648696825768698582274299360242409634863041377482942933471064999032389391165236518591424861661659287)⟩,⟨(Fin.ofNat pN 457111985964339394215082602979823100535751250453477664959867604692228216990684070412327237746464656400878374138801,Fin.ofNat pN 502984723173621339954754264046803050075774572219914713748582398159965021764554578891183923100504711802602552665285),(Fin.ofNat pN 2640050477330814279885157441741131018999714396598562331099342031892294696094537543469746068160999411027057098227449,Fin.ofNat pN 2071409662492255450081680890260136948544391128508396357468185123426989978172823109733930793773695755500081522451880),(Fin.ofNat pN 1960995731015872851914120175578467298837249548514409779124305159220363476158331129914137406356779751074802695718210,Fin.ofNat pN 2246652698136281584724567586591973504853788313445268011455423953644425428075236802067160117569429819651226986381160)⟩⟩
def z_k:F12:=⟨⟨(Fin.ofNat pN 2401374825597450984127428083886778337644341190388984269675656905526889902455464871488112779953122061980914084015627,Fin.ofNat pN 2002573687219449662830204240587858250317599430313095799709320566820374703996084385141861121356633254802253977005442),(Fin.ofNat pN 3028279613350765026686766544182751254971050611826720636750466900672147934953470256070613978883010391439840233039588,Fin.ofNat pN 113563191712000362484023995569751002965941426771432656414436981090548153168153165436169568691878515546864934063345),(Fin.ofNat pN 15926619643239591426244004989463640041964077289053150867841914989714656759647379537174094756804348567524660996161,Fin.ofNat pN 1242039391770747613095191879614623161493229154269781009074784183548557566148691418098416833958574980512020957096597)⟩,⟨(Fin.ofNat pN 1377471301864288773875207376836132346997850425982474070735104180086873075701088402671487761813379626372230361753011,Fin.ofNat pN 3996650402454757027033741545761153002323826409467514634645456909204926049390647711532283840580602421922103095498999),(Fin.ofNat pN 41477575491093855033356358056189574868021126231132968100478746941059237150029438438726833044575311207419300145074,Fin.ofNat pN 1538913964194847306977659048482806629761570585802346203836756708813652839556883533781659395162706067606825141172986),(Fin.ofNat pN 425177787079411383532193901153113668593604979273513396666908022467507682525509644178815151004253210926106638434847,Fin.ofNat pN 3790844062079063273287822571722747293097189621267254163247632636941166343249062812246594379468490316803630358033370)⟩⟩
def H9b:F12:=⟨⟨(Fin.ofNat pN 1667042345708070419051561625519587936806034409531841266916663139149953915205998567404362858522772230372082086094582,Fin.ofNat pN 3437817373131021689205664549780155164026124757413870440185591124697775710462235751290191498842729723379319900740864),(Fin.ofNat pN 659938351063045713926716963141256514447739931325349089274962832456851031048424782085835912511548513071289416037160,Fin.ofNat pN 1341428926685649574799879320318749353156815187271088507422303000753062905433258307523270708501978032101916009285180),(Fin.ofNat pN 3689343633790114316388231993709004216488319168813859576060002225143274376296668090363750101674050814005887551589089,Fin.ofNat pN 2001315625713703806156278750684520731550948356193894726325791348006222001483819132773543298947537351937972353650638)⟩,⟨(Fin.ofNat pN 481216225444322718561558488115314876606906210238678728932867832389518710512213195318367094975813752249100878257220,Fin.ofNat pN 1778834673223820708882458954526353049170808384078535194644831731357808336722832738569241134476033964292728397544953),(Fin.ofNat pN 3601263170187299039142445999154583152635569289440529331090812297804125171480875456318885032207544016349728771679617,Fin.ofNat pN 2430629910346950372191591246609581955075300475900246855024908579766680775506292273679230786327128731190283386148395),(Fin.ofNat pN 1640097916102042003386927967765177937077945952159730592908187555607938043869534479950929296109606219484738568004719,Fin.ofNat pN 728755275437950015357954111362561367923506359825613896330377006130440457008008692837086256192504474521012420072089)⟩⟩
def z_h:F12:=⟨⟨(Fin.ofNat pN 589055896229357724898813026054869815825554603540858908788846270893194342128751991900312984932966447265589736569909,Fin.ofNat pN 320427958109657041869379692559908404793796619625774746885991155990607055058040384097267113815331010298168116306256),(Fin.ofNat pN 2744403133323501671841198434832856269771829887670677899843169656323643382192377007201428600564486593249659009907030,Fin.ofNat pN 2577236299869553128161237059298146471014100777491865977984750362778165253841129007455936177074401637407700772649511),(Fin.ofNat pN 195699993267395131758873990524811073173159498239134340944798222534633870826741189623341201375634256998172026835738,Fin.ofNat pN 3170011443495801230657759963163855202807592978700577774985215654542021048213919951223480085387080773715964850322860)⟩,⟨(Fin.ofNat pN 274718449853617674732953425410784855940963274415847505017988429927800225750647380221213588344488594861147263785006,Fin.ofNat pN 2966405939729013929128381729816003720644517278365089684144754637428775823275783054933441074098778345695441693540028),(Fin.ofNat pN 162226513279583004105742026365510714474328488132412503427154872397901315541737263627976920130103632420214485281059,Fin.ofNat pN 2988801086179843009666969224200243185328171807879070484464131300685519059474955177901881716043929970206521420775480),(Fin.ofNat pN 2561092381359788845876785788483929967465700545835492137588793741038490148101334966006307156781842952010495524875943,Fin.ofNat pN 1499643895222903872588682936648400837777251264527259047453680292093350879251383278928800494600198552998245168396413)⟩⟩
theorem I3g:mil gPt.1 gPt.2 (hPt.1,hPt.2,(1:F2))=z_m:=by decide +kernel
theorem I6s:z_e*z_m=cj z_m:=by decide +kernel
theorem I6r:frb (frb z_e)*z_e=z_a:=by decide +kernel
theorem I6q:pwb z_a (btL 15132376222941642753 64 64)=H9a:=by decide +kernel
theorem I6u:pwb H9a (btL 5044125407647214251 63 63)=z_g:=by decide +kernel
theorem I6v:pwb z_g (btL 15132376222941642752 64 64)=I3f:=by decide +kernel
theorem I6y:cjp I3f*frb z_g=z_k:=by decide +kernel
theorem I6x:pwb z_k (btL 15132376222941642752 64 64)=H9b:=by decide +kernel
theorem I6w:pwb H9b (btL 15132376222941642752 64 64)=z_h:=by decide +kernel
theorem I3h:z_h*frb (frb z_k)*cjp z_k*z_a≠1:=by decide +kernel
end

section

theorem I6z:z_m≠0:=by decide +kernel
theorem I6t:et z_m=z_e:=(B6d H8 I6z I6s).symm
theorem G4a:A2u z_a=z_g:=by
 unfold A2u;rw[B1u z_a (btL 15132376222941642753 64 64) 15132376222941642753 (m:=15132376222941642753) (by decide +kernel) (by decide +kernel),I6q,
  B1u H9a (btL 5044125407647214251 63 63) 5044125407647214251 (m:=5044125407647214251) (by decide +kernel) (by decide +kernel),I6u]
theorem G4c:A2a z_g=z_k:=by
 unfold A2a;rw[B1u z_g (btL 15132376222941642752 64 64) 15132376222941642752 (m:=15132376222941642752) (by decide +kernel) (by decide +kernel),I6v,I6y]
theorem G4b:B6r z_k=z_h:=by
 unfold B6r;rw[B1u z_k (btL 15132376222941642752 64 64) 15132376222941642752 (m:=15132376222941642752) (by decide +kernel) (by decide +kernel),I6x,
  B1u H9b (btL 15132376222941642752 64 64) 15132376222941642752 (m:=15132376222941642752) (by decide +kernel) (by decide +kernel),I6w]
theorem G3z:A1z z_e≠1:=by
 unfold A1z;rw[I6r];unfold D3y;rw[G4a,G4c,G4b];exact I3h
theorem I1j:N6 (mil gPt.1 gPt.2 (hPt.1,hPt.2,1))=prg (some gPt) ptH:=F6l (x:=gPt.1) (y:=gPt.2) D4g H_r (q:=hPt) rfl rfl
theorem H9z:prg (some gPt) ptH≠1:=by
 rw[<-I1j,I3g,A3k,I6t];exact G3z
section
variable {G:Type} [J5 G]
theorem D4i {g:G}:∀(d n:Nat),A7 g d=1->A7 g n=1->A7 g (Nat.gcd d n)=1
 | 0,n,_,h=>by rw[Nat.gcd_zero_left];exact h
 | d+1,n,h1,h2=>by
  rw[Nat.gcd_succ];refine D4i (n % (d+1)) (d+1) ?_ h1
  have e:n=(d+1)*(n / (d+1))+n % (d+1):=(Nat.div_add_mod n (d+1)).symm;have h3:A7 g ((d+1)*(n / (d+1))+n % (d+1))=1:=by rw[<-e];exact h2
  rw[Z6,W0,h1,B1v] at h3;generalize A7 g (n % (d+1))=u at *;clear h1 h2 e;grind
 termination_by d=>d
 decreasing_by exact Nat.mod_lt _ (Nat.succ_pos d)
theorem F3w {g:G} {r n:Nat} (hr:Ir r) (hg:g≠1) (h1:A7 g r=1) (h2:A7 g n=1):r ∣ n:=by
 have k:=D4i n r h2 h1;rcases hr _ (Nat.gcd_dvd_right n r) with h | h
 ·rw[h] at k
  exact absurd ((C0m g).symm.trans k) hg
 ·have:=Nat.gcd_dvd_left n r
  rwa [h] at this
end
theorem I2g {P:Pt Fp} (hP:OnC fp4 P) (hr:E8 P rN=none) {A:CP fq4} (hA:SQ A):A7 (prg P A) rN=1:=by
 rw[<-B5e hP hA rN,hr];exact A7r A
theorem H9j:E8 (some gPt) rN=none:=(A4h cv1 ptG rN).symm.trans (congrArg Subtype.val G_r)
theorem I0a:A7 (prg (some gPt) ptH) rN=1:=I2g (P:=some gPt) D4g H9j H_r
theorem F9e (i j:Nat):prg (E8 (some gPt) i) (mlt ptH j)=A7 (prg (some gPt) ptH) (i*j):=by
 rw[F9d (J8 cv1 (P:=some gPt) D4g i) H_r j,B5e (P:=some gPt) D4g H_r i,<-W0]
/-- When powers of the generators' pairing are 1. -/
theorem H1l (n:Nat):A7 (prg (some gPt) ptH) n=1↔rN ∣ n:=by
 constructor
 ·exact F3w H2v H9z I0a
 ·rintro ⟨k,rfl⟩
  rw[W0,I0a,B1v]
end

section

theorem C0q (x:F12):H2p (C1y x)=x:=E2.ext' (E3.ext' (Z7 _) (Z7 _) (Z7 _)) (E3.ext' (Z7 _) (Z7 _) (Z7 _))
theorem E8m {x y:F12} (h:C1y x=C1y y):x=y:=by rw[<-C0q x,h,C0q]
theorem G6x:C1y 1=I2b:=by decide +kernel
theorem E5g {x:F12}:C1y x=I2b↔x=1:=by rw[<-G6x];exact ⟨E8m,fun h=>by rw[h]⟩
theorem F1h {a:G1D} {b:G2D} (ha:onG a=true) (hb:I5 b=true) (ga:grp a=true) (gb:A2b b=true):X9 a b=0:=by
 unfold X9;rw[ha,hb,ga,gb];rfl
theorem I0r {a:G1D} (ha:onG a=true) (ga:grp a=true):E8 (pG a) rN=none:=by
 have k:=F4a (U0 ha).2;rw[(U0 ha).1,ga] at k;exact of_decide_eq_true k.symm
theorem C0o {a:G1D} (ha:onG a=true) (h:E8 (pG a) rN=none):grp a=true:=by
 have k:=F4a (U0 ha).2;rw[(U0 ha).1] at k;rw[k];exact decide_eq_true h
/-- A point of the second curve, as one of the group. -/
def ptQ (b:G2D) (h:I5 b=true):CP fq4:=⟨pG2 b,(A0a h).2⟩
section
variable {F:Type} [Fld F] [DecidableEq F] {b:F}
theorem H3q (hc:Cv b) {X:CP b} {n:Nat} (h:E8 X.1 n=none):letI:=M9 hc;mlt X n=0:=Subtype.ext ((A4h hc X n).trans h)
theorem H4c (hc:Cv b) {X:CP b} {n:Nat} (h:letI:=M9 hc;mlt X n=0):E8 X.1 n=none:=(A4h hc X n).symm.trans (congrArg Subtype.val h)
end
theorem F3z {b:G2D} (hb:I5 b=true) (gb:A2b b=true):SQ (ptQ b hb):=by
 have k:=E4a (A0a hb).2;rw[(A0a hb).1,gb] at k;exact H3q cv2 (X:=ptQ b hb) (of_decide_eq_true k.symm)
theorem B7k {b:G2D} (hb:I5 b=true) (h:SQ (ptQ b hb)):A2b b=true:=by
 have k:=E4a (A0a hb).2;rw[(A0a hb).1] at k;rw[k];exact decide_eq_true (H4c cv2 (X:=ptQ b hb) h)
theorem H1s:et (1:F12)=1:=C8m H8
theorem G4d {x:F12} (h:et x=1):N6 x=1:=by
 rw[A3k,h,D9e]
theorem C5o:N6 1=1:=G4d H1s
theorem H4n {a:G1D} (h:a.inf=true):pG a=none:=if_pos h
theorem G7f {b:G2D} (h:b.inf=true):pG2 b=none:=if_pos h
theorem F8m {a:G1D} (h:a.inf=false):pG a=some (inP a.x,inP a.y):=if_neg (by rw[h];decide)
theorem G7d {b:G2D} (h:b.inf=false):pG2 b=some (G4 b.xa b.xb,G4 b.ya b.yb):=if_neg (by rw[h];decide)
theorem F4g {b:G2D} (h:b.inf=false):A3n b=(G4 b.xa b.xb,G4 b.ya b.yb,1):=(if_neg (by rw[h];decide)).trans (by rw[E3u])
theorem F5n {a:G1D} {b:G2D} (ha:onG a=true) (hb:I5 b=true) (gb:A2b b=true):N6 (A4g a b)=prg (pG a) (ptQ b hb):=by
 cases h1:a.inf with
 | true=>
  have e:A4g a b=1:=if_pos (by rw[h1];rfl)
  rw[e,C5o,H4n h1,A7r]
 | false=>
  cases h2:b.inf with
  | true=>
   have e:A4g a b=1:=if_pos (by rw[h1,h2];rfl)
   have e2:ptQ b hb=0:=Subtype.ext (G7f h2);rw[e,C5o,e2,E8w (U0 ha).2]
  | false=>
   have e:A4g a b=mil (inP a.x) (inP a.y) (A3n b):=if_neg (by rw[h1,h2];decide)
   have o:=(U0 ha).2;rw[F8m h1] at o;rw[e,F8m h1];exact F6l o (F3z hb gb) (q:=(G4 b.xa b.xb,G4 b.ya b.yb)) (G7d h2) (F4g h2)
theorem E0m:pG H7=some gPt:=by decide +kernel
theorem G7e:pG2 N7=some hPt:=by decide +kernel
theorem A2z:onG H7=true:=by decide +kernel
theorem A4j:I5 N7=true:=by decide +kernel
theorem G4q:grp H7=true:=C0o A2z (by rw[E0m];exact H9j)
theorem D1b:ptQ N7 A4j=ptH:=Subtype.ext G7e
theorem D4j:A2b N7=true:=B7k A4j (by rw[D1b];exact H_r)
end

section

section
variable {G:Type} [J5 G]
end
theorem H0t {A:CP fq4} (h:SQ A):SQ (-A):=by
 have e:-A=0-A:=by clear h;grind
 show mlt (-A) rN=0;rw[e,B2k,show mlt A rN=0 from h,O5]
 grind
theorem F9f {P:Pt Fp} (hP:OnC fp4 P) {A:CP fq4} (hA:SQ A):prg (P1 P) A*prg P A=1:=by
 rw[<-B2y (S9 P hP) hP hA,V0 cv1 _ _ (S9 P hP) hP,Q5 cv1 P hP,A7r]
section
variable {G:Type} [J5 G]
end
theorem H4d {P:Pt Fp} (hP:OnC fp4 P) (hr:E8 P rN=none):E8 (P1 P) rN=none:=by
 rw[E8i cv1 hP,hr];rfl
theorem F7i {P Q:Pt Fp} (hP:OnC fp4 P) (hQ:OnC fp4 Q) (h1:E8 P rN=none) (h2:E8 Q rN=none):E8 (D4 P Q) rN=none:=by
 rw[B4r cv1 hP hQ,h1,h2];rfl
/-- What is inside: a point of the first group, one of the second. -/
structure In1 (a:G1D):Prop where
 o:onG a=true
 g:grp a=true
structure In2 (b:G2D):Prop where
 o:I5 b=true
 g:A2b b=true
theorem In1.r {a:G1D} (h:In1 a):E8 (pG a) rN=none:=I0r h.o h.g
theorem In1.c {a:G1D} (h:In1 a):OnC fp4 (pG a):=(U0 h.o).2
theorem In2.s {b:G2D} (h:In2 b):SQ (ptQ b h.o):=F3z h.o h.g
theorem In1.neg {a:G1D} (h:In1 a):In1 (B6x a):=⟨F7w h.o,C0o (F7w h.o) (by rw[F8p];exact H4d h.c h.r)⟩
theorem In1.add {a b:G1D} (h:In1 a) (k:In1 b):In1 (G2a a b):=⟨F7v h.o k.o,C0o (F7v h.o k.o) (by rw[H4m];exact F7i h.c k.c h.r k.r)⟩
theorem H4x {b:G2D} (h:I5 b=true) (k:I5 (C6e b)=true):ptQ (C6e b) k = -(ptQ b h):=Subtype.ext (G7h b)
theorem H4w {b c:G2D} (h:I5 b=true) (k:I5 c=true) (l:I5 (C4p b c)=true):ptQ (C4p b c) l=ptQ b h+ptQ c k:=Subtype.ext (G7c b c)
theorem In2.neg {b:G2D} (h:In2 b):In2 (C6e b):=⟨E5f h.o,B7k (E5f h.o) (by rw[H4x h.o];exact H0t h.s)⟩
theorem In2.add {b c:G2D} (h:In2 b) (k:In2 c):In2 (C4p b c):=⟨E5d h.o k.o,B7k (E5d h.o k.o) (by rw[H4w h.o k.o];exact F0c h.s k.s)⟩
end

section

theorem G0n {l:List G1D} {k:List U4} (h:A3g (l.length:Int) (k.length:Int) (l.any A2c)=0):C3e l k=(gP (C4d (k.map (·.val)) (l.map pG)),0):=by
 obtain ⟨h1,_,h3⟩:=D3d h;rw[E5t h,H6x (Eq.refl 52) (by omega) h3]
theorem I1t {P:Pt Fp} (hP:OnC fp4 P) (h:E8 P rN=none) (k:Nat):E8 (E8 P k) rN=none:=by rw[<-W5 cv1 hP,Nat.mul_comm,W5 cv1 hP,h,A1h]
theorem G0o:∀(ks:List Nat) (Ps:List (Pt Fp)),(∀P,P∈Ps->OnC fp4 P∧E8 P rN=none)->E8 (C4d ks Ps) rN=none
 | [],_,_=>A1h rN
 | _::_,[],_=>A1h rN
 | k::ks,P::Ps,h=>F7i (J8 cv1 (h P (List.mem_cons_self ..)).1 k) (C9c cv1 ks Ps fun Q hQ=>(h Q (List.mem_cons_of_mem _ hQ)).1) (I1t (h P (List.mem_cons_self ..)).1 (h P (List.mem_cons_self ..)).2 k) (G0o ks Ps fun Q hQ=>h Q (List.mem_cons_of_mem _ hQ))
theorem In1.of {P:Pt Fp} (hP:OnC fp4 P) (h:E8 P rN=none):In1 (gP P):=⟨B4u hP,C0o (B4u hP) (by rw[C6k];exact h)⟩
theorem B7l:In1 H7:=⟨A2z,G4q⟩
theorem E4g:In2 N7:=⟨A4j,D4j⟩

/-- How an opening is refused, if it is. -/
def B5p (s:G2D) (a b:G1D):Int:=if (onG a && (onG b && I5 s))=true then if (grp a && (grp b && A2b s))=true then 0 else 31 else 30
def C5y (k l:U4):List U4:=[S4.D9 1,S4.D9 (0-S4.inF l),S4.D9 (S4.inF k)]
def kcL (a b:G1D) (k l:U4):G1D:=(C3e [a,H7,b] (C5y k l)).1
def kcR (s:G2D) (a b:G1D) (k l:U4):Bool×Int:=if B5p s a b=0 then pcD [kcL a b k l,B6x b] [N7,s] else (false,B5p s a b)
theorem I1g {a b:G1D} (ha:onG a=true) (hb:onG b=true):([a,H7,b].any A2c)=false:=by
 simp only[List.any_cons,List.any_nil,A2c,ha,hb,A2z,Bool.not_true,Bool.or_false]
theorem H3d {a b:G1D} {k l:U4} (ha:onG a=true) (hb:onG b=true):A3g (([a,H7,b].length:Nat):Int) (((C5y k l).length:Nat):Int) ([a,H7,b].any A2c)=0:=by
 rw[I1g ha hb];rfl
theorem F4y {a b:G1D} (k l:U4) (ha:onG a=true) (hb:onG b=true):C3e [a,H7,b] (C5y k l)=(gP (C4d ((C5y k l).map (·.val)) ([a,H7,b].map pG)),0):=G0n (H3d ha hb)
theorem F4x {a b:G1D} (k l:U4) (ha:onG a=true) (hb:onG b=true):kcL a b k l=gP (C4d ((C5y k l).map (·.val)) ([a,H7,b].map pG)):=by unfold kcL;rw[F4y k l ha hb]
theorem H3c {a b:G1D} (k l:U4) (ha:In1 a) (hb:In1 b):In1 (kcL a b k l):=by
 rw[F4x k l ha.o hb.o];have h:∀P,P∈[a,H7,b].map pG->OnC fp4 P∧E8 P rN=none:=by
  intro P hP;simp only[List.map_cons,List.map_nil,List.mem_cons,List.not_mem_nil,or_false] at hP;rcases hP with rfl | rfl | rfl
  ·exact ⟨ha.c,ha.r⟩
  ·exact ⟨B7l.c,B7l.r⟩
  ·exact ⟨hb.c,hb.r⟩
 exact In1.of (C9c cv1 _ _ fun P hP=>(h P hP).1) (G0o _ _ h)
theorem G2p {a b:G1D} {s t:G2D} (ha:In1 a) (hb:In1 b) (hs:In2 s) (ht:In2 t):B6p ([a,b].zip [s,t])=0:=by
 have h1:=F1h ha.o hs.o ha.g hs.g;have h2:=F1h hb.o ht.o hb.g ht.g;show (if (X9 a s != 0)=true then X9 a s else if (X9 b t != 0)=true then X9 b t else 0)=0
 rw[h1,h2];rfl
theorem G7l {a b:G1D} {s t:G2D} (ha:In1 a) (hb:In1 b) (hs:In2 s) (ht:In2 t):pcD [a,b] [s,t]=(B6a (N6 (1*A4g a s*A4g b t)) 1,0):=by
 unfold pcD;rw[if_neg (fun h=>h rfl),if_neg (show ¬64<([a,b]:List G1D).length from by simp),G2p ha hb hs ht]
 exact if_neg (fun k=>nomatch k)
theorem D9u (s:G2D) (a b:G1D) (k l:U4):FnD Tryz.prog 20 [.v (.a s.its),.v (.a [.ob (.fp a.x),.ob (.fp a.y),.bool a.inf,.ob (.fr k),.ob (.fr l),.ob (.fp b.x),.ob (.fp b.y),.bool b.inf])] (.t [.c (.bool (kcR s a b k l).1),.c (.int .i64 (kcR s a b k l).2)]) []:=by
 have no:∀{e:Int},B5p s a b=e->e≠0->kcR s a b k l=(false,e):=fun h h2=>by
  unfold kcR;rw[h,if_neg h2]
 cases h1:onG a with
 | false=>
  rw[no (e:=30) (by unfold B5p;rw[h1];rfl) (by decide)]
  exact (A5 A4s Tryz.func20 (kcA s a b k l) ⟨by rw[h1];rfl,trivial⟩).conv (fun _ _ h=>h) fun y v hd=>A1c hd
 | true=>
 cases h2:onG b with
 | false=>
  rw[no (e:=30) (by unfold B5p;rw[h1,h2];rfl) (by decide)]
  exact (A5 A4s Tryz.func20 (kcB s a b k l) ⟨by rw[h1];rfl,by rw[h2];rfl,trivial⟩).conv (fun _ _ h=>h) fun y v hd=>A1c hd
 | true=>
 cases h3:I5 s with
 | false=>
  rw[no (e:=30) (by unfold B5p;rw[h1,h2,h3];rfl) (by decide)]
  exact (A5 A4s Tryz.func20 (kcC s a b k l) ⟨by rw[h1];rfl,by rw[h2];rfl,by rw[h3];rfl,trivial⟩).conv (fun _ _ h=>h) fun y v hd=>A1c hd
 | true=>
 cases h4:grp a with
 | false=>
  rw[no (e:=31) (by unfold B5p;rw[h1,h2,h3,h4];rfl) (by decide)]
  exact (A5 A4s Tryz.func20 (kcD s a b k l) ⟨by rw[h1];rfl,by rw[h2];rfl,by rw[h3];rfl,by rw[h4];rfl,trivial⟩).conv (fun _ _ h=>h) fun y v hd=>A1c hd
 | true=>
 cases h5:grp b with
 | false=>
  rw[no (e:=31) (by unfold B5p;rw[h1,h2,h3,h4,h5];rfl) (by decide)]
  exact (A5 A4s Tryz.func20 (kcE s a b k l) ⟨by rw[h1];rfl,by rw[h2];rfl,by rw[h3];rfl,by rw[h4];rfl,by rw[h5];rfl,trivial⟩).conv (fun _ _ h=>h) fun y v hd=>A1c hd
 | true=>
 cases h6:A2b s with
 | false=>
  rw[no (e:=31) (by unfold B5p;rw[h1,h2,h3,h4,h5,h6];rfl) (by decide)]
  exact (A5 A4s Tryz.func20 (kcF s a b k l) ⟨by rw[h1];rfl,by rw[h2];rfl,by rw[h3];rfl,by rw[h4];rfl,by rw[h5];rfl,by rw[h6];rfl,trivial⟩).conv (fun _ _ h=>h) fun y v hd=>A1c hd
 | true=>
  have e0:B5p s a b=0:=by unfold B5p;rw[h1,h2,h3,h4,h5,h6];rfl
  have r:=kcI s a b k l;dsimp only at r;have eS:((([a]:List G1D)++[H7])++[b])=[a,H7,b]:=rfl;have eN:((([S4.D9 1]:List U4)++[S4.D9 (0-S4.inF l)])++[S4.D9 (S4.inF k)])=C5y k l:=rfl;rw[eS,eN] at r;have eR:kcR s a b k l=pcD [kcL a b k l,B6x b] [N7,s]:=by unfold kcR;rw[e0,if_pos rfl]
  rw[eR];have eB:=H3x h2;rw[eB] at r;refine A5 A4s Tryz.func20 r ⟨by rw[h1];rfl,by rw[h2];rfl,by rw[h3];rfl,by rw[h4];rfl,by rw[h5];rfl,by rw[h6];rfl,rfl,rfl,rfl,rfl,rfl,rfl,rfl,by rw[F4y k l h1 h2];rfl,rfl,rfl,rfl,rfl,rfl,rfl,rfl,trivial⟩
end

section
section
variable {w0:World} {F0:Nat->Prop} {K:Kp} {ac:List Act} {Q:Exit->Act->World->Prop} {cX:Ctx} {aX:Act}

--@env qtG Q7
def E0d:List KI:=(run qtG false 3000 ((fun (a:Fp×Fp×Fp)=>(⟨[.code (C0 Tryz.f110)],.normal,F4 Tryz.f110.ntmps [.v (.a [.ob (.p a.1),.ob (.p a.2.1),.ob (.p a.2.2)])]⟩:Cfg)) default) []).cfg.k
theorem mv (a:Fp×Fp×Fp) (ho:B1 []):Sg Tryz.prog (F4 Tryz.f110.ntmps [.v (.a [.ob (.p a.1),.ob (.p a.2.1),.ob (.p a.2.2)])]) (B2 30 [1,3,6] [.pt 16 0,(.ci (.val (Value.slice Option.none 0 0))),.ii (0:Int)] [16] [(eF_ [(.ob (.p (Prod.fst a))),(.ob (.p (Prod.fst (Prod.snd a)))),(.ob (.p (Prod.snd (Prod.snd a))))])] 80 [] []) .normal (E0d) ([.code (C0 Tryz.f110)]):=fun hs hK=>
 B0 (unroll:=false) (n:=3000) (path:=[]) (o:=⟨_,_,_,_,_,_,_⟩) Q7 (by kernel_rfl) (by kernel_rfl) ho hs hK
def mvS (a:Fp×Fp×Fp) (R:List (List (Fp×Fp×Fp))) (n:Nat) (i:Int):St:=B2 30 [1,3,6] [.pt 16 0,.v (.c (.slc 17 0 n 288)),.v (.c (.int .i64 i))] [16,17] [(eF_ [(.ob (.p (Prod.fst a))),(.ob (.p (Prod.fst (Prod.snd a)))),(.ob (.p (Prod.snd (Prod.snd a))))]),some (.sq (.ptt R))] 80 [] []
def C1k:List KI:=(run qtG false 3000 ((fun (a:Fp×Fp×Fp) (R:List (List (Fp×Fp×Fp))) (n:Nat) (i:Int)=>(⟨F9 E0d,.normal,mvS a R n i⟩:Cfg)) default default default default) [true]).cfg.k
theorem mvA (a:Fp×Fp×Fp) (R:List (List (Fp×Fp×Fp))) (n:Nat) (i:Int):let b:Fp:=0;B1 [((decide (i<(64:Int)))=true)]->Sg Tryz.prog (mvS a R n i) (B2 30 [1,3,4,5,6] [.pt 16 0,(.ci (.slc 17 0 n 288)),.pt 96 0,.ii (1:Int),.ii i] [16,17,96] [(eF_ [(.ob (.p (Prod.fst a))),(.ob (.p (Prod.fst (Prod.snd a)))),(.ob (.p (Prod.snd (Prod.snd a))))]),(eQ_ (Sq.ptt R)),(eF_ [(.ob (.p b)),(.ob (.p b)),(.ob (.p b)),(.ob (.p b)),(.ob (.p b)),(.ob (.p b)),(.ob (.p b)),(.ob (.p b)),(.ob (.p b)),(.ob (.p b)),(.ob (.p b)),(.ob (.p b)),(.ob (.p b)),(.ob (.p b)),(.ob (.p b)),(.ob (.p b)),(.ob (.p b)),(.ob (.p b)),(.ob (.p b)),(.ob (.p b)),(.ob (.p b)),(.ob (.p b)),(.ob (.p b)),(.ob (.p b)),(.ob (.p b)),(.ob (.p b)),(.ob (.p b)),(.ob (.p b)),(.ob (.p b)),(.ob (.p b)),(.ob (.p b)),(.ob (.p b)),(.ob (.p b)),(.ob (.p b)),(.ob (.p b)),(.ob (.p b)),(.ob (.p b)),(.ob (.p b)),(.ob (.p b)),(.ob (.p b)),(.ob (.p b)),(.ob (.p b)),(.ob (.p b)),(.ob (.p b)),(.ob (.p b)),(.ob (.p b)),(.ob (.p b)),(.ob (.p b))])] 128 [] []) .normal (C1k) (F9 E0d):=fun ho=>fun hs hK=>
 B0 (unroll:=false) (n:=3000) (path:=[true]) (o:=⟨_,_,_,_,_,_,_⟩) Q7 (by kernel_rfl) (by kernel_rfl) ho hs hK
theorem G6j (a:Fp×Fp×Fp) (R:List (List (Fp×Fp×Fp))) (n:Nat) (i:Int):I8 qtG Tryz.f110 false 3000 (⟨F9 E0d,.normal,mvS a R n i⟩) [false] [] [17]=(some ([((decide (i<(64:Int)))=false),(n=R.length)],((.ci (.sl (Sq.ptt R))),[]))):=by kernel_rfl
def mvT (a:Fp×Fp×Fp) (R:List (List (Fp×Fp×Fp))) (n:Nat) (i:Int) (L:List (Fp×Fp×Fp)) (d:Int):St:=B2 30 [1,3,4,5,6] [.pt 16 0,(.ci (.slc 17 0 n 288)),.pt 96 0,.v (.c (.int .i64 d)),.ii i] [16,17,96] [(eF_ [(.ob (.p (Prod.fst a))),(.ob (.p (Prod.fst (Prod.snd a)))),(.ob (.p (Prod.snd (Prod.snd a))))]),(eQ_ (Sq.ptt R)),some (.sq (.pt L))] 128 [] []
theorem mvB (a:Fp×Fp×Fp) (R:List (List (Fp×Fp×Fp))) (n:Nat) (i:Int) (L:List (Fp×Fp×Fp)) (d:Int):let b:=wrap .i64 (d-1);let c:Int:=16;B1 [((decide (d<c))=true),(0<=b),(b<c),(0=0),((b).toNat<L.length),(0<=d),(d<c),(0=0),((d).toNat<L.length)]->Sg Tryz.prog (mvT a R n i L d) (B2 30 [1,3,4,5,6] [.pt 16 0,(.ci (.slc 17 0 n 288)),.pt 96 0,(.ii (wrap .i64 (d+1))),.ii i] [16,17,96] [(eF_ [(.ob (.p (Prod.fst a))),(.ob (.p (Prod.fst (Prod.snd a)))),(.ob (.p (Prod.snd (Prod.snd a))))]),(eQ_ (Sq.ptt R)),(eQ_ (Sq.pt (List.set L (d).toNat (jpl (List.getD L (b).toNat pt0) a))))] 352 [] []) .normal (P2 C1k) (F9 C1k):=fun ho=>fun hs hK=>
 B0 (unroll:=false) (n:=3000) (path:=[true]) (o:=⟨_,_,_,_,_,_,_⟩) Q7 (by kernel_rfl) (by kernel_rfl) ho hs hK
def mvU (a:Fp×Fp×Fp) (R:List (List (Fp×Fp×Fp))) (n:Nat) (i:Int) (L:List (Fp×Fp×Fp)) (d:Int):St:=B2 30 [1,3,4,5,6] [.pt 16 0,(.ci (.slc 17 0 n 288)),.pt 96 0,.v (.c (.int .i64 d)),.ii i] [16,17,96] [(eF_ [(.ob (.p (Prod.fst a))),(.ob (.p (Prod.fst (Prod.snd a)))),(.ob (.p (Prod.snd (Prod.snd a))))]),(eQ_ (Sq.ptt R)),some (.sq (.ptt [L]))] 128 [] []
def H0f:List KI:=(run qtG false 19 ((fun (a:Fp×Fp×Fp) (R:List (List (Fp×Fp×Fp))) (n:Nat) (i:Int) (L:List (Fp×Fp×Fp)) (d:Int)=>(⟨F9 C1k,.normal,mvU a R n i L d⟩:Cfg)) default default default default default default) [false]).cfg.k
theorem mvC (a:Fp×Fp×Fp) (R:List (List (Fp×Fp×Fp))) (n:Nat) (i:Int) (L:List (Fp×Fp×Fp)) (d:Int):let b:=R.length+1;B1 [((decide (d<(16:Int)))=false),(0<1),((b*2304)<=140737488355328),(b<=maxLen),(n=R.length),(1=1)]->Sg Tryz.prog (mvU a R n i L d) (B2 30 [1,3,4,6] [.pt 16 0,(.ci (.slc 17 0 b 288)),.pt 96 0,.ii i] [16,17,96] [(eF_ [(.ob (.p (Prod.fst a))),(.ob (.p (Prod.fst (Prod.snd a)))),(.ob (.p (Prod.snd (Prod.snd a))))]),(eQ_ (Sq.ptt (R++[[(List.getD L 0 pt0),(List.getD L 1 pt0),(List.getD L 2 pt0),(List.getD L 3 pt0),(List.getD L 4 pt0),(List.getD L 5 pt0),(List.getD L 6 pt0),(List.getD L 7 pt0),(List.getD L 8 pt0),(List.getD L 9 pt0),(List.getD L 10 pt0),(List.getD L 11 pt0),(List.getD L 12 pt0),(List.getD L 13 pt0),(List.getD L 14 pt0),(List.getD L 15 pt0)]]))),(eQ_ (Sq.ptt [L]))] 240 [] []) .normal (H0f) (F9 C1k):=fun ho=>fun hs hK=>
 B0 (unroll:=false) (n:=19) (path:=[false]) (o:=⟨_,_,_,_,_,_,_⟩) Q7 (by kernel_rfl) (by kernel_rfl) ho hs hK
def mvV (a:Fp×Fp×Fp) (R:List (List (Fp×Fp×Fp))) (n:Nat) (i:Int) (L:List (Fp×Fp×Fp)) (d:Int):St:=B2 30 [1,3,4,6] [.pt 16 0,(.ci (.slc 17 0 (R.length+1) 288)),.pt 96 0,.ii i] [16,17,96] [(eF_ [(.ob (.p (Prod.fst a))),(.ob (.p (Prod.fst (Prod.snd a)))),(.ob (.p (Prod.snd (Prod.snd a))))]),(eQ_ (Sq.ptt (R++[[(List.getD L 0 pt0),(List.getD L 1 pt0),(List.getD L 2 pt0),(List.getD L 3 pt0),(List.getD L 4 pt0),(List.getD L 5 pt0),(List.getD L 6 pt0),(List.getD L 7 pt0),(List.getD L 8 pt0),(List.getD L 9 pt0),(List.getD L 10 pt0),(List.getD L 11 pt0),(List.getD L 12 pt0),(List.getD L 13 pt0),(List.getD L 14 pt0),(List.getD L 15 pt0)]]))),some (.sq (.pt L))] 240 [] []
theorem mvD (a:Fp×Fp×Fp) (R:List (List (Fp×Fp×Fp))) (n:Nat) (i:Int) (L:List (Fp×Fp×Fp)) (d:Int):let b:=List.getD L 15 pt0;let c:=Prod.snd (jpl b a);B1 [(0<=(15:Int)),((15:Int)<(16:Int)),(0=0),(15<L.length)]->Sg Tryz.prog (mvV a R n i L d) (B2 30 [1,3,6] [.pt 16 0,(.ci (.slc 17 0 (R.length+1) 288)),(.ii (wrap .i64 (i+1)))] [16,17] [(eF_ [(.ob (.p (Prod.fst (jpl b a)))),(.ob (.p (Prod.fst c))),(.ob (.p (Prod.snd c)))]),(eQ_ (Sq.ptt (R++[[(List.getD L 0 pt0),(List.getD L 1 pt0),(List.getD L 2 pt0),(List.getD L 3 pt0),(List.getD L 4 pt0),(List.getD L 5 pt0),(List.getD L 6 pt0),(List.getD L 7 pt0),(List.getD L 8 pt0),(List.getD L 9 pt0),(List.getD L 10 pt0),(List.getD L 11 pt0),(List.getD L 12 pt0),(List.getD L 13 pt0),(List.getD L 14 pt0),b]])))] 352 [] []) .normal (P2 E0d) (H0f):=fun ho=>fun hs hK=>
 B0 (unroll:=false) (n:=3000) (path:=[]) (o:=⟨_,_,_,_,_,_,_⟩) Q7 (by kernel_rfl) (by kernel_rfl) ho hs hK
end
end

section

theorem H0m {x:Ctx} (L:List (Fp×Fp×Fp)) (h:L.length=16) (cs:List Value) (hc:C6 x (.fl (I2 L 0 16)) cs):C6 x (.sq (.pt L)) cs:=by
 obtain ⟨hl,hj⟩:=A5h L 16 0 cs hc;refine ⟨?_,fun i hi=>?_⟩
 ·show L.length*18<=cs.length
  rw[h,hl];exact Nat.le_refl _
 ·have hi:i<L.length:=hi
  rw[h] at hi;obtain ⟨c,h1,h2⟩:=hj i hi;rw[Nat.zero_add] at h1;exact ⟨c,h1,h2⟩
theorem D4c {x:Ctx} (L:List (Fp×Fp×Fp)):∀(n k:Nat) (cs:List Value),(∀j,j<n->∃c,C5 x.D (J4 (L.getD (k+j) pt0)) c∧∀(q:Nat) (v:Value),c[q]? = some v->cs[j*18+q]? = some v) ->
  ∃c,C5 x.D (I2 L k n) c∧∀(q:Nat) (v:Value),c[q]? = some v->cs[q]? = some v
 | 0,k,cs,_=>⟨[],rfl,fun q v h=>by simp at h⟩
 | n+1,k,cs,h=>by
  obtain ⟨c0,h0,g0⟩:=h 0 (Nat.zero_lt_succ _);rw[Nat.add_zero] at h0;obtain ⟨c,hc,g⟩:=D4c L n (k+1) (cs.drop 18) fun j hj=>by
   obtain ⟨c,h1,h2⟩:=h (j+1) (by omega)
   rw[show k+(j+1)=k+1+j from by omega] at h1
   refine ⟨c,h1,fun q v hq=>?_⟩
   rw[List.getElem?_drop,<-h2 q v hq];congr 1
   omega
  obtain ⟨c1,r1,e1,h1,c2,r2,e2,h2,c3,r3,e3,h3,h4⟩:=h0;have h4:r3=[]:=h4;have l1:c1.length=6:=A0e h1;have l2:c2.length=6:=A0e h2;have l3:c3.length=6:=A0e h3;subst e1 e2 e3 h4;refine ⟨c1++(c2++(c3++c)),⟨c1,_,rfl,h1,c2,_,rfl,h2,c3,_,rfl,h3,hc⟩,fun q v hq=>?_⟩
  have e:c1++(c2++(c3++c))=(c1++(c2++(c3++[])))++c:=by simp
  have hl:(c1++(c2++(c3++[]))).length=18:=by simp only[List.length_append,List.length_nil];omega
  rw[e] at hq;by_cases hq18:q<18
  ·rw[List.getElem?_append_left (by omega)] at hq
   have:=g0 q v hq
   rwa [Nat.zero_mul,Nat.zero_add] at this
  ·rw[List.getElem?_append_right (by omega),hl] at hq
   have:=g _ v hq
   rw[List.getElem?_drop] at this;rwa [show 18+(q-18)=q from by omega] at this
theorem H4y {x:Ctx} (L:List (Fp×Fp×Fp)) (h:L.length=16) (cs:List Value) (hc:C6 x (.sq (.pt L)) cs):C6 x (.sq (.ptt [L])) cs:=by
 obtain ⟨hl,hj⟩:=hc;have hl:L.length*18<=cs.length:=hl;rw[h] at hl;obtain ⟨c,h1,h2⟩:=D4c L 16 0 cs fun j hj16=>by
  obtain ⟨c,g1,g2⟩:=hj j (by show j<L.length;omega)
  refine ⟨c,?_,g2⟩
  rw[Nat.zero_add];exact g1
 refine ⟨by show 1*288<=cs.length;omega,fun i hi=>?_⟩
 have hi:i<1:=hi;obtain rfl:i=0:=by omega
 refine ⟨c,h1,fun q v hq=>?_⟩
 rw[Nat.zero_mul,Nat.zero_add];exact h2 q v hq
theorem H4z {x:Ctx} (L:List (Fp×Fp×Fp)) (h:L.length=16) (cs:List Value) (hc:C6 x (.sq (.ptt [L])) cs):C6 x (.sq (.pt L)) cs:=by
 obtain ⟨hl,hj⟩:=hc;have hl:1*288<=cs.length:=hl;obtain ⟨c,h1,h2⟩:=hj 0 (Nat.zero_lt_succ _);obtain ⟨_,g⟩:=A5h L 16 0 c h1;refine ⟨by show L.length*18<=cs.length;omega,fun i hi=>?_⟩
 have hi:i<L.length:=hi;obtain ⟨c',g1,g2⟩:=g i (by omega)
 rw[Nat.zero_add] at g1;refine ⟨c',g1,fun q v hq=>?_⟩
 have:=h2 _ v (g2 q v hq)
 rwa [Nat.zero_mul,Nat.zero_add] at this

/-- Rows in blocks, told otherwise. -/
def F1w (x:Ctx):List (Option En)->List (Option En)->Prop
 | [],[]=>True
 | e::l,e' :: l' => (e=e' ∨ ∃q q',e=some (.sq q)∧e' = some (.sq q')∧(q.n=0->q'.n=0)∧∀cs,C6 x (.sq q) cs->C6 x (.sq q') cs)∧F1w x l l'
 | _,_=>False
theorem B9c {x:Ctx}:∀{ml:List Nat} {ens ens' : List (Option En)},F1w x ens ens' -> ∀p,D7 none ml ens p=D7 none ml ens' p∨∃q q',D7 none ml ens p=some (.sq q)∧D7 none ml ens' p=some (.sq q')∧(q.n=0->q'.n=0)∧∀cs,C6 x (.sq q) cs->C6 x (.sq q') cs
 | [],_,_,_,_=>.inl rfl
 | _::_,[],[],_,_=>.inl rfl
 | _::_,[],_::_,h,_=>h.elim
 | _::_,_::_,[],h,_=>h.elim
 | t::tl,e::l,e' :: l',h,p=>by
  simp only[D7];by_cases hp:p=t
  ·simp only[hp,if_true];exact h.1
  ·simp only[hp,if_false];exact B9c h.2 p
theorem Sim.rows {w0:World} {F0:Nat->Prop} {K:Kp} {ac:List Act} {nt nx:Nat} {tl:List Nat} {svs:List SV} {ml:List Nat} {ens ens' : List (Option En)} {ftl:List (List Nat)} {fsv:List (List SV×Nat)} {x:Ctx} {a:Act}
  (hs:Sim w0 F0 K ac (B2 nt tl svs ml ens nx ftl fsv) x a) (h:F1w x ens ens'):Sim w0 F0 K ac (B2 nt tl svs ml ens' nx ftl fsv) x a:=by
 have hm:=hs.mem;refine ⟨hs.defers,hs.nt,hs.t,?_,hs.base,hs.frs⟩
 have key:=B9c (ml:=ml) h;refine ⟨fun p=>?_,fun p l hp=>?_,fun p q hp hn=>?_,fun p e hp hr=>?_,hm.inj,hm.own,hm.fw⟩
 ·rw[<-hm.dom p]
  show D7 none ml ens' p=none↔D7 none ml ens p=none;rcases key p with e | ⟨q,q',e1,e2,_⟩
  ·rw[e]
  ·rw[e1,e2]
   constructor<;>(intro h;cases h)
 ·have hp:D7 none ml ens' p=some (.fl l):=hp
  rcases key p with e | ⟨q,q',e1,e2,_⟩
  ·rw[<-e] at hp;exact hm.fl p l hp
  ·rw[e2] at hp;cases hp
 ·have hp:D7 none ml ens' p=some (.sq q):=hp
  rcases key p with e | ⟨q1,q',e1,e2,h0,_⟩
  ·rw[<-e] at hp;exact hm.nil p q hp hn
  ·rw[e2] at hp
   cases hp
   exact h0 (hm.nil p q1 e1 hn)
 ·have hp:D7 none ml ens' p=some e:=hp
  rcases key p with e0 | ⟨q,q',e1,e2,_,hc⟩
  ·rw[<-e0] at hp;exact hm.ent p e hp hr
  ·rw[e2] at hp
   cases hp
   obtain ⟨cs,ty,h1,h2⟩:=hm.ent p _ e1 hr;exact ⟨cs,ty,h1,hc _ h2⟩

/-- One row, and all rows. -/
def rwL (a:Fp×Fp×Fp):List (Fp×Fp×Fp):=(List.range 16).map (B5i pt0 a)
def tbL (a:Fp×Fp×Fp) (n:Nat):List (List (Fp×Fp×Fp)):=(List.range n).map fun i=>rwL (baT pt0 a i)
theorem D1v (a:Fp×Fp×Fp):(rwL a).length=16:=rfl
theorem D1u (a:Fp×Fp×Fp) {d:Nat} (h:d<16):(rwL a).getD d pt0=B5i pt0 a d:=by
 unfold rwL;rw[List.getD_eq_getElem?_getD,List.getElem?_map,List.getElem?_range h];rfl
theorem D2g (a:Fp×Fp×Fp) (n:Nat):(tbL a n).length=n:=by
 unfold tbL;rw[List.length_map,List.length_range]
theorem G0v (a:Fp×Fp×Fp) (n:Nat):tbL a (n+1)=tbL a n++[rwL (baT pt0 a n)]:=by
 unfold tbL;rw[List.range_succ,List.map_append];rfl
theorem E5v (a:Fp×Fp×Fp) {n i:Nat} (h:i<n):(tbL a n).getD i []=rwL (baT pt0 a i):=by
 unfold tbL;rw[List.getD_eq_getElem?_getD,List.getElem?_map,List.getElem?_range h];rfl
theorem G8k {L:List (Fp×Fp×Fp)} {a:Fp×Fp×Fp} (hl:L.length=16) (hg:∀j,j<16->L.getD j pt0=B5i pt0 a j):L=rwL a:=by
 apply List.ext_getElem (by rw[hl,D1v])
 intro j h1 h2;have e:=hg j (by omega)
 rw[<-D1u a (by omega),List.getD_eq_getElem?_getD,List.getD_eq_getElem?_getD,List.getElem?_eq_getElem h1,List.getElem?_eq_getElem h2] at e
 exact e
theorem F0i {L:List (Fp×Fp×Fp)} (h:L.length=16):[L.getD 0 pt0,L.getD 1 pt0,L.getD 2 pt0,L.getD 3 pt0,L.getD 4 pt0,L.getD 5 pt0,L.getD 6 pt0,L.getD 7 pt0,L.getD 8 pt0,L.getD 9 pt0,L.getD 10 pt0,L.getD 11 pt0,L.getD 12 pt0,L.getD 13 pt0,L.getD 14 pt0,L.getD 15 pt0]=L:=by
 match L,h with
 | [_,_,_,_,_,_,_,_,_,_,_,_,_,_,_,_],_=>rfl
end

section

theorem F6y (a:Fp×Fp×Fp) {N:Nat} (hN:N=64):FnD Tryz.prog 110 [.v (.a (J4 a))] (.v (.c (.sl (.ptt (tbL a N))))) []:=by
 refine O4 (fn:=Tryz.f110) (c:=C0 Tryz.f110) Tryz.func110 rfl rfl fun x0 a0 hk hF hs=>?_
 refine mv a trivial hs fun ac cY aY hs1=>?_
 have hs2:=hs1.nilRow (p:=17) (q:=.ptt []) rfl (by decide) rfl (ml' := [16,17]) (ens' := [some (.fl (J4 a)),some (.sq (.ptt []))]) (fun r=>C8s (by decide))
  (svs' := [.v (.c (.ptr 16 0)),.v (.c (.slc 17 0 0 288)),.v (.c (.int .i64 0))]) ⟨.inl rfl,.inr ⟨288,rfl,rfl⟩,.inl rfl,trivial⟩
 have hmax:65<=maxLen:=by decide
 change Wq Tryz.prog _ _ _ _ _ (K6 cY 17).w
 refine G2 (ι:={ i:Nat // i<=N }) (fun i=>mvS (baT pt0 a i.1) (tbL a i.1) i.1 (i.1:Int)) (fun i=>N-i.1) (c:=lpC E0d) (k:=lpR E0d) (by kernel_rfl) (fun i ih ac cY aY hs=>?_) ⟨0,Nat.zero_le _⟩ (hs2.nx _)
 obtain ⟨i,hi⟩:=i;simp only at ih hs
 by_cases h:i<N
 ·have hnext:baT pt0 a (i+1)=jpl (B5i pt0 (baT pt0 a i) 15) (baT pt0 a i):=rfl
  have htab:=G0v a i;have hlen:=D2g a i;have ih2:=ih ⟨i+1,h⟩ (by show N-(i+1)<N-i;omega)
  dsimp only at ih2;rw[hnext,htab] at ih2;clear ih hnext htab;generalize baT pt0 a i=o at hs ih2;generalize tbL a i=R at hs ih2 hlen;refine mvA o R i i ⟨decide_eq_true (by omega),trivial⟩ hs fun ac cU aU hs3=>?_
  have hs4:=hs3.blocks (ens' := [some (.fl (J4 o)),some (.sq (.ptt R)),some (.sq (.pt (List.replicate 16 pt0)))])
   ⟨.inl rfl,.inl rfl,.inr ⟨_,_,_,rfl,rfl,rfl,fun cs h=>H0m _ rfl cs h⟩,trivial⟩
  refine G2 (ι:={ p:Nat×List (Fp×Fp×Fp) // 1<=p.1∧p.1<=16∧p.2.length=16∧∀j,j<p.1->p.2.getD j pt0=B5i pt0 o j }) (fun p=>mvT o R i i p.1.2 (p.1.1:Int)) (fun p=>16-p.1.1) (c:=lpC C1k) (k:=lpR C1k) (by kernel_rfl) (fun p ih ac cY aY hs=>?_)
   ⟨(1,List.replicate 16 pt0),Nat.le_refl _,by decide,rfl,fun j hj=>by
    obtain rfl:j=0:=by have hj:j<1:=hj;omega
    rfl⟩ (hs4.nx _)
  obtain ⟨⟨d,L⟩,hd1,hd16,hL,hg⟩:=p;simp only at ih hs hd1 hd16 hL hg
  by_cases hd:d<16
  ·have ed:(wrap IntKind.i64 ((d:Int)-1))=((d-1:Nat):Int):=by rw[C4 (by omega) (by omega)];omega
   have ed2:(wrap IntKind.i64 ((d:Int)+1))=((d+1:Nat):Int):=by rw[C4 (by omega) (by omega)];rfl
   refine mvB o R i i L d ⟨decide_eq_true (by omega),by rw[ed];omega,by rw[ed];omega,rfl,by rw[ed,Int.toNat_natCast];omega,by omega,by omega,rfl,by rw[Int.toNat_natCast];omega,trivial⟩ hs fun ac cV aV hs5=>?_
   rw[ed,ed2,Int.toNat_natCast,Int.toNat_natCast,hg (d-1) (by omega)] at hs5
   have er:jpl (B5i pt0 o (d-1)) o=B5i pt0 o d:=by
    obtain ⟨e,rfl⟩:∃e,d=e+1:=⟨d-1,by omega⟩
    rfl
   rw[er] at hs5;refine ih ⟨(d+1,L.set d (B5i pt0 o d)),by show 1<=d+1;omega,hd,(List.length_set ..).trans hL,fun j hj=>?_⟩ (by show 16-(d+1)<16-d;omega) ac cV aV (hs5.nx _)
   have hj:j<d+1:=hj;show (L.set d _).getD j pt0=_;rw[A6m _ _ _ _ _ (by omega)]
   by_cases e:j=d
   ·subst e;rw[if_pos rfl]
   ·rw[if_neg e];exact hg j (by omega)
  ·obtain rfl:d=16:=by omega
   have eL:L=rwL o:=G8k hL hg;have h15:=D1u o (d:=15) (by decide)
   have h16:=D1v o;rw[<-eL] at ih2 h15 h16;have hs5:=hs.rows (ens' := [some (.fl (J4 o)),some (.sq (.ptt R)),some (.sq (.ptt [L]))])
    ⟨.inl rfl,.inl rfl,.inr ⟨_,_,rfl,rfl,fun h=>by have h:L.length=0:=h;omega,fun cs h=>H4y L h16 cs h⟩,trivial⟩
   refine mvC o R i i L 16 ⟨by decide,by decide,by omega,by omega,by omega,rfl,trivial⟩ (hs5.nx _) fun ac cV aV hs6=>?_
   rw[F0i h16] at hs6;have hs7:=hs6.rows (ens' := [some (.fl (J4 o)),some (.sq (.ptt (R++[L]))),some (.sq (.pt L))])
    ⟨.inl rfl,.inl rfl,.inr ⟨_,_,rfl,rfl,fun h=>Nat.noConfusion (show 1=0 from h),fun cs h=>H4z L h16 cs h⟩,trivial⟩
   have hs8:Sim x0.w x0.F Y5 ac (mvV o R i i L 16) cV aV:=by
    unfold mvV;rw[F0i h16];exact hs7
   refine mvD o R i i L 16 ⟨by decide,by decide,rfl,by omega,trivial⟩ hs8 fun ac cW aW hs9=>?_
   rw[F0i h16,h15,C4 (n:=(i:Int)+1) (by omega) (by omega),hlen] at hs9
   exact ih2 ac cW aW (hs9.nx _)
 ·obtain rfl:i=N:=by omega
  exact M6 Q7 hk hF (G6j _ _ _ _) ⟨decide_eq_false (by omega),(D2g a i).symm,trivial⟩ (fun y v hd=>hd) hs

end

section
section
variable {w0:World} {F0:Nat->Prop} {K:Kp} {ac:List Act} {Q:Exit->Act->World->Prop} {cX:Ctx} {aX:Act}

--@env qtG Q7
def E0n:List KI:=(run qtG false 3000 ((fun (T:List (List (Fp×Fp×Fp))) (k:U4)=>(⟨[.code (C0 Tryz.f111)],.normal,F4 Tryz.f111.ntmps [.v (.c (.sl (.ptt T))),.v (.a [.ob (.fr k)])]⟩:Cfg)) default default) []).cfg.k
theorem pc (T:List (List (Fp×Fp×Fp))) (k:U4):let b:=eF_ [(.ob (.p (0:Fp))),(.ob (.p (0:Fp))),(.ob (.p (0:Fp)))];B1 []->Sg Tryz.prog (F4 Tryz.f111.ntmps [.v (.c (.sl (.ptt T))),.v (.a [.ob (.fr k)])]) (B2 30 [3,4,5,8,9,10] [.pt 16 0,.pt 32 0,.pt 48 0,(.ci (.sl (Sq.ptt T))),(.ii (T.length:Int)),.ii (0:Int)] [16,32,48] [(eF_ [.ob (.fr k)]),b,b] 112 [] []) .normal (E0n) ([.code (C0 Tryz.f111)]):=fun ho=>fun hs hK=>
 B0 (unroll:=false) (n:=3000) (path:=[]) (o:=⟨_,_,_,_,_,_,_⟩) Q7 (by kernel_rfl) (by kernel_rfl) ho hs hK
def pcS (T:List (List (Fp×Fp×Fp))) (k:U4) (o:Fp×Fp×Fp) (i:Int):St:=B2 30 [3,4,5,8,9,10] [.pt 16 0,.pt 32 0,.pt 48 0,(.ci (.sl (Sq.ptt T))),(.ii (T.length:Int)),.v (.c (.int .i64 i))] [16,32,48] [(eF_ [.ob (.fr k)]),(eF_ [(.ob (.p (0:Fp))),(.ob (.p (0:Fp))),(.ob (.p (0:Fp)))]),some (.fl [.ob (.p o.1),.ob (.p o.2.1),.ob (.p o.2.2)])] 112 [] []
def H0i:List KI:=(run qtG false 18 ((fun (T:List (List (Fp×Fp×Fp))) (k:U4) (o:Fp×Fp×Fp) (i:Int)=>(⟨F9 E0n,.normal,pcS T k o i⟩:Cfg)) default default default default) [true]).cfg.k
theorem pcA (T:List (List (Fp×Fp×Fp))) (k:U4) (o:Fp×Fp×Fp) (i:Int):let a:=List.getD T (i).toNat ([]:List (Prod Fp (Prod Fp Fp)));let b:=List.getD a 10 pt0;let c:=List.getD a 11 pt0;let d:=List.getD a 12 pt0;let f:=List.getD a 13 pt0;let g:=List.getD a 14 pt0;let h:=List.getD a 15 pt0;let j:=List.getD a 0 pt0;let l:=List.getD a 1 pt0;let m:=List.getD a 2 pt0;let n:=List.getD a 3 pt0;let q:=List.getD a 4 pt0;let r:=List.getD a 5 pt0;let s:=List.getD a 6 pt0;let t:=List.getD a 7 pt0;let u:=List.getD a 8 pt0;let v:=List.getD a 9 pt0;let w:Int:=T.length;B1 [((decide (i<w))=true),(0<=i),(i<w)]->Sg Tryz.prog (pcS T k o i) (B2 30 [3,4,5,6,7,8,9,10] [.pt 16 0,.pt 32 0,.pt 48 0,.ii i,.pt 176 0,(.ci (.sl (Sq.ptt T))),(.ii w),.ii i] [16,32,48,176] [(eF_ [.ob (.fr k)]),(eF_ [(.ob (.p (0:Fp))),(.ob (.p (0:Fp))),(.ob (.p (0:Fp)))]),(eF_ [(.ob (.p (Prod.fst o))),(.ob (.p (Prod.fst (Prod.snd o)))),(.ob (.p (Prod.snd (Prod.snd o))))]),(eF_ [(.ob (.p (Prod.fst j))),(.ob (.p (Prod.fst (Prod.snd j)))),(.ob (.p (Prod.snd (Prod.snd j)))),(.ob (.p (Prod.fst l))),(.ob (.p (Prod.fst (Prod.snd l)))),(.ob (.p (Prod.snd (Prod.snd l)))),(.ob (.p (Prod.fst m))),(.ob (.p (Prod.fst (Prod.snd m)))),(.ob (.p (Prod.snd (Prod.snd m)))),(.ob (.p (Prod.fst n))),(.ob (.p (Prod.fst (Prod.snd n)))),(.ob (.p (Prod.snd (Prod.snd n)))),(.ob (.p (Prod.fst q))),(.ob (.p (Prod.fst (Prod.snd q)))),(.ob (.p (Prod.snd (Prod.snd q)))),(.ob (.p (Prod.fst r))),(.ob (.p (Prod.fst (Prod.snd r)))),(.ob (.p (Prod.snd (Prod.snd r)))),(.ob (.p (Prod.fst s))),(.ob (.p (Prod.fst (Prod.snd s)))),(.ob (.p (Prod.snd (Prod.snd s)))),(.ob (.p (Prod.fst t))),(.ob (.p (Prod.fst (Prod.snd t)))),(.ob (.p (Prod.snd (Prod.snd t)))),(.ob (.p (Prod.fst u))),(.ob (.p (Prod.fst (Prod.snd u)))),(.ob (.p (Prod.snd (Prod.snd u)))),(.ob (.p (Prod.fst v))),(.ob (.p (Prod.fst (Prod.snd v)))),(.ob (.p (Prod.snd (Prod.snd v)))),(.ob (.p (Prod.fst b))),(.ob (.p (Prod.fst (Prod.snd b)))),(.ob (.p (Prod.snd (Prod.snd b)))),(.ob (.p (Prod.fst c))),(.ob (.p (Prod.fst (Prod.snd c)))),(.ob (.p (Prod.snd (Prod.snd c)))),(.ob (.p (Prod.fst d))),(.ob (.p (Prod.fst (Prod.snd d)))),(.ob (.p (Prod.snd (Prod.snd d)))),(.ob (.p (Prod.fst f))),(.ob (.p (Prod.fst (Prod.snd f)))),(.ob (.p (Prod.snd (Prod.snd f)))),(.ob (.p (Prod.fst g))),(.ob (.p (Prod.fst (Prod.snd g)))),(.ob (.p (Prod.snd (Prod.snd g)))),(.ob (.p (Prod.fst h))),(.ob (.p (Prod.fst (Prod.snd h)))),(.ob (.p (Prod.snd (Prod.snd h))))])] 224 [] []) .normal (H0i) (F9 E0n):=fun ho=>fun hs hK=>
 B0 (unroll:=false) (n:=18) (path:=[true]) (o:=⟨_,_,_,_,_,_,_⟩) Q7 (by kernel_rfl) (by kernel_rfl) ho hs hK
theorem G7m (T:List (List (Fp×Fp×Fp))) (k:U4) (o:Fp×Fp×Fp) (i:Int):I8 qtG Tryz.f111 false 3000 (⟨F9 E0n,.normal,pcS T k o i⟩) [false] [] []=(some ([((decide (i<(T.length:Int)))=false)],((.v (.a [(.ob (.p (Prod.fst o))),(.ob (.p (Prod.fst (Prod.snd o)))),(.ob (.p (Prod.snd (Prod.snd o))))])),[]))):=by kernel_rfl
def pcT (T:List (List (Fp×Fp×Fp))) (k:U4) (o:Fp×Fp×Fp) (i:Int) (L:List (Fp×Fp×Fp)):St:=B2 30 [3,4,5,6,7,8,9,10] [.pt 16 0,.pt 32 0,.pt 48 0,.ii i,.pt 176 0,(.ci (.sl (Sq.ptt T))),(.ii (T.length:Int)),.ii i] [16,32,48,176] [(eF_ [.ob (.fr k)]),(eF_ [(.ob (.p (0:Fp))),(.ob (.p (0:Fp))),(.ob (.p (0:Fp)))]),(eF_ [(.ob (.p (Prod.fst o))),(.ob (.p (Prod.fst (Prod.snd o)))),(.ob (.p (Prod.snd (Prod.snd o))))]),some (.sq (.pt L))] 224 [] []
theorem pcB (T:List (List (Fp×Fp×Fp))) (k:U4) (o:Fp×Fp×Fp) (i:Int) (L:List (Fp×Fp×Fp)):let f:Int:=16;let b:=wrap .i64 (Int.tdiv i f);let d:=wrap .i64 ((4:Int)*(Int.tmod i f));let a:=I0 BinOp.and IntKind.u64 (Int.fdiv (A0 (Ob.n (.fr k)) (0+((b).toNat*1))) ((2:Int) ^ (Min.min (d).toNat 64))) (15:Int);let c:=jpl o (List.getD L (a).toNat pt0);B1 [(f≠(0:Int)),(0<=b),(b<(4:Int)),((0+((b).toNat*1))<(Ob.k (.fr k))),(f≠(0:Int)),(0<=d),(0<=a),(a<f),(0=0),((a).toNat<L.length)]->Sg Tryz.prog (pcT T k o i L) (B2 30 [3,4,5,8,9,10] [.pt 16 0,.pt 32 0,.pt 48 0,(.ci (.sl (Sq.ptt T))),(.ii (T.length:Int)),(.ii (wrap .i64 (i+1)))] [16,32,48] [(eF_ [.ob (.fr k)]),(eF_ [(.ob (.p (0:Fp))),(.ob (.p (0:Fp))),(.ob (.p (0:Fp)))]),(eF_ [(.ob (.p (Prod.fst c))),(.ob (.p (Prod.fst (Prod.snd c)))),(.ob (.p (Prod.snd (Prod.snd c))))])] 480 [] []) .normal (P2 E0n) (H0i):=fun ho=>fun hs hK=>
 B0 (unroll:=false) (n:=3000) (path:=[]) (o:=⟨_,_,_,_,_,_,_⟩) Q7 (by kernel_rfl) (by kernel_rfl) ho hs hK
end
end

end
end Go.Proofs.YtefimjofjjdndaaGreat
