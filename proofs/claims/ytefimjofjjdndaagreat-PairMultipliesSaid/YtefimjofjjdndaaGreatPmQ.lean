/- Parts of a proof, one behind the other: PFe, WFf, PFf, WFg, PFg, WFh, POb, PEb, Gx, Gy, Gz, Gw, Gv, Gu, Gt, Gs, Gr, Ge, Gq, PFh, WFi, WMa, WPm, PFi, PPm. No conditions. -/
import Derived.Test.YtefimjofjjdndaaGreatPmP
open Go.IntKind (wrap)
namespace Go.Proofs.YtefimjofjjdndaaGreat
noncomputable section
section

/-- One turn of the loop, behind the first. -/
def mst (x y:Fp) (q:F2×F2×F2) (s:(F2×F2×F2)×F12) (z:Bool):(F2×F2×F2)×F12:=
 if z=true then (jpl (jtw s.1) q,s.2*s.2*tch s.1 x y*thg (jtw s.1) q x y) else (jtw s.1,s.2*s.2*tch s.1 x y)
def mls (x y:Fp) (q:F2×F2×F2) (l:List Bool):(F2×F2×F2)×F12:=l.tail.foldl (mst x y q) (q,1)
def milN:Nat:=15132376222941642752
/-- The loop's value. -/
def mil (x y:Fp) (q:F2×F2×F2):F12:=cjp (mls x y q (btL milN 64 64)).2
theorem mls_one (x y:Fp) (q:F2×F2×F2) (z:Bool):mls x y q ([]++[z])=(q,1):=rfl
theorem fold_snoc {α β:Type} (f:β→α→β) (s:β) (l:List α) (z:α):(l++[z]).foldl f s=f (l.foldl f s) z:=by
 rw[List.foldl_append]
 rfl
theorem mls_snoc (x y:Fp) (q:F2×F2×F2) (u:Bool) (l:List Bool) (z:Bool):mls x y q (u::l++[z])=mst x y q (mls x y q (u::l)) z:=fold_snoc (mst x y q) (q,1) l z
theorem mst_t (x y:Fp) (q:F2×F2×F2) (s:(F2×F2×F2)×F12):mst x y q s true=(jpl (jtw s.1) q,s.2*s.2*tch s.1 x y*thg (jtw s.1) q x y):=rfl
theorem mst_f (x y:Fp) (q:F2×F2×F2) (s:(F2×F2×F2)×F12):mst x y q s false=(jtw s.1,s.2*s.2*tch s.1 x y):=rfl
theorem mil_bits:bitsC [15132376222941642752] 1=64:=by decide +kernel
theorem mil_num:numL [15132376222941642752]=milN:=by decide +kernel

theorem miller_fnd (xa ya a b c d:U6) (i j:Bool) :
  FnD Tryz.prog 73 [.v (.a [.ob (.fp xa),.ob (.fp ya),.bool i]),.v (.a [.ob (.fp a),.ob (.fp b),.ob (.fp c),.ob (.fp d),.bool j])] (.v (.a (f12I (mil (inP xa) (inP ya) (inG2 ⟨a,b,c,d,j⟩))))) []:=by
 refine fn_start_m (fn:=Tryz.f73) (c:=bodyOf Tryz.f73) Tryz.func73 rfl rfl fun X B hk hF hs=>?_
 refine mi xa ya a b c d i j trivial hs fun ac cY aY hs1=>?_
 generalize inG2 ⟨a,b,c,d,j⟩=q at hs1 ⊢
 generalize inP xa=x at hs1 ⊢
 generalize inP ya=y at hs1 ⊢
 obtain ⟨e1,e2⟩:=isRf_eq (k:=mi_k) (by kernel_rfl)
 rw[e1]
 have eP:(rfP mi_k).toList=[24]:=by kernel_rfl
 have eG:rfG mi_k = .tmp 23:=by kernel_rfl
 have hit:IterC Tryz.prog cY 123 [(432,0)] btEnc (btL milN 64 64) fun pre=>(miS x y q (mls x y q pre).1 (mls x y q pre).2 pre.isEmpty).m:=by
  have h:=bits_iter (x:=cY) (p:=432) (e:=[15132376222941642752]) (M:=fun _=>fzM 432 (.u64 [15132376222941642752])) (by decide) (fun v hv=>by simp only[List.mem_cons,List.not_mem_nil,or_false] at hv;subst hv;decide) (fun s=>rfl)
  rw[mil_num] at h
  rw[show bitsC [15132376222941642752] ([15132376222941642752]:List Int).length=64 from mil_bits] at h
  exact h.freeze (len:=1) (es:=1) (pb:=416) (fun s=>rfl) (fun s=>rfl) rfl
 refine range_rule (ps:=rfP mi_k) e2 hs1 (gf:=123) (caps:=[(432,0)]) (enters_of Tryz.func123 rfl rfl) (fun pre=>miS x y q (mls x y q pre).1 (mls x y q pre).2 pre.isEmpty) (fun s=>by rw[eG];rfl) ⟨_,rfl⟩ (btL milN 64 64) btVals btEnc
  (fun y z=>.cons ⟨rfl,0,rfl⟩ .nil) (fun z=>by rw[←Array.length_toList,eP];rfl) (fun pre p hp=>?_) hit (fun pre z=>miB x y q (mls x y q pre).1 (mls x y q pre).2 pre.isEmpty z)
  (fun pre z=>miE x y q (mls x y q (pre++[z])).1 (mls x y q (pre++[z])).2 false z) (fun pre z=>⟨_,by
   have:(pre++[z]).isEmpty=false:=by cases pre<;>rfl
   rw[this]
   rfl⟩) (fun pre z hz w1 F1 K1 as1 Q1 l Y b hs2 hQ=>?_) (fun pre z hz w1 F1 K1 as1 Q1 l Y b hs2 hQ=>?_) fun D Y hs2 hD hFD hd=>?_
 ·rw[eP] at hp
  simp only[List.mem_cons,List.not_mem_nil,or_false] at hp
  subst hp
  show 24<49
  decide
 ·rw[eP] at hs2
  exact miA x y q _ _ _ z trivial hs2 fun cZ aZ hs3=>⟨hQ _ _ (hs3.nx _)⟩
 ·cases pre with
  | nil=>
   rw[mls_one] at hQ
   exact miF x y q _ _ z trivial hs2 fun cZ aZ hs3=>⟨hQ _ _ (hs3.nx _)⟩
  | cons u l=>
   rw[mls_snoc] at hQ
   cases z with
   | true=>
    rw[mst_t] at hQ
    exact miT x y q _ _ true ⟨rfl,trivial⟩ hs2 fun cZ aZ hs3=>⟨hQ _ _ (hs3.nx _)⟩
   | false=>
    rw[mst_f] at hQ
    exact miN x y q _ _ false ⟨rfl,trivial⟩ hs2 fun cZ aZ hs3=>⟨hQ _ _ (hs3.nx _)⟩
 ·have hs3:=hs2.marked rfl rfl D
  unfold mil
  generalize (mls x y q (btL milN 64 64)).1=t at hs2 hs3
  generalize (mls x y q (btL milN 64 64)).2=o at hs2 hs3 ⊢
  refine miX x y q t o _ trivial hs3 fun ac cV aV hs6=>⟨?_⟩
  have hs7:Sim Y.w Y.F (kOwn Y kAll (markOf D)) ac (miZ (cjp o)) cV aV:=hs6
  exact fn_finish uyC_ok hk hF (miR_end (cjp o)) trivial (fun y v hd=>hd) hs2 hD hFD hd rfl hs7
end

section

theorem finish_fnd2 (x0 x1 x2 x3 x4 x5 x6 x7 x8 x9 x10 x11:Fp):FnD Tryz.prog 35 [.v (.a [.ob (.p x0),.ob (.p x1),.ob (.p x2),.ob (.p x3),.ob (.p x4),.ob (.p x5),.ob (.p x6),.ob (.p x7),.ob (.p x8),.ob (.p x9),.ob (.p x10),.ob (.p x11)])] (.v (.a (f12I (fin12 (⟨⟨(x0,x1),(x2,x3),(x4,x5)⟩,⟨(x6,x7),(x8,x9),(x10,x11)⟩⟩:F12))))) []:=finish_fnd (⟨⟨(x0,x1),(x2,x3),(x4,x5)⟩,⟨(x6,x7),(x8,x9),(x10,x11)⟩⟩:F12)
def finishSpec:FnSpec
 | [.v (.a [.ob (.p x0),.ob (.p x1),.ob (.p x2),.ob (.p x3),.ob (.p x4),.ob (.p x5),.ob (.p x6),.ob (.p x7),.ob (.p x8),.ob (.p x9),.ob (.p x10),.ob (.p x11)])]=>some ([],.v (.a (f12I (fin12 (⟨⟨(x0,x1),(x2,x3),(x4,x5)⟩,⟨(x6,x7),(x8,x9),(x10,x11)⟩⟩:F12)))),[])
 | _=>none
def uyD:Env:=uyC.set (addT uyC.fn 35 finishSpec)
theorem uyD_ok:EnvOk Tryz.prog uyD:=env_add uyC_ok 35 finishSpec (enters_of Tryz.func35 rfl rfl) fun args o r es h _=>by
 unfold finishSpec at h
 split at h
 ·cases h;exact finish_fnd2 _ _ _ _ _ _ _ _ _ _ _ _
 ·cases h
def millerSpec:FnSpec
 | [.v (.a [.ob (.fp xa),.ob (.fp ya),.bool _]),.v (.a [.ob (.fp a),.ob (.fp b),.ob (.fp c),.ob (.fp d),.bool j])]=>some ([],.v (.a (f12I (mil (inP xa) (inP ya) (inG2 ⟨a,b,c,d,j⟩)))),[])
 | _=>none
def uyE:Env:=uyD.set (addT uyD.fn 73 millerSpec)
theorem uyE_ok:EnvOk Tryz.prog uyE:=env_add uyD_ok 73 millerSpec (enters_of Tryz.func73 rfl rfl) fun args o r es h _=>by
 unfold millerSpec at h
 split at h
 ·cases h;exact miller_fnd _ _ _ _ _ _ _ _
 ·cases h
--@env uyE uyE_ok

theorem ckA (xa ya a b c d:U6) (i j:Bool):fnRes uyE Tryz.f34 3000 [.v (.a [.ob (.fp xa),.ob (.fp ya),.bool i]),.v (.a [.ob (.fp a),.ob (.fp b),.ob (.fp c),.ob (.fp d),.bool j])] [true] [] []=(some ([((Bool.not (onG (G1D.mk xa ya i)))=true)],((.ii (30:Int)),[]))):=by kernel_rfl
theorem ckB (xa ya a b c d:U6) (i j:Bool):fnRes uyE Tryz.f34 3000 [.v (.a [.ob (.fp xa),.ob (.fp ya),.bool i]),.v (.a [.ob (.fp a),.ob (.fp b),.ob (.fp c),.ob (.fp d),.bool j])] [false,true] [] []=(some ([((Bool.not (onG (G1D.mk xa ya i)))=false),((Bool.not (onG2 (G2D.mk a b c d j)))=true)],((.ii (30:Int)),[]))):=by kernel_rfl
theorem ckC (xa ya a b c d:U6) (i j:Bool):fnRes uyE Tryz.f34 3000 [.v (.a [.ob (.fp xa),.ob (.fp ya),.bool i]),.v (.a [.ob (.fp a),.ob (.fp b),.ob (.fp c),.ob (.fp d),.bool j])] [false,false,true] [] []=(some ([((Bool.not (onG (G1D.mk xa ya i)))=false),((Bool.not (onG2 (G2D.mk a b c d j)))=false),((Bool.not (grp (G1D.mk xa ya i)))=true)],((.ii (31:Int)),[]))):=by kernel_rfl
theorem ckD (xa ya a b c d:U6) (i j:Bool):fnRes uyE Tryz.f34 3000 [.v (.a [.ob (.fp xa),.ob (.fp ya),.bool i]),.v (.a [.ob (.fp a),.ob (.fp b),.ob (.fp c),.ob (.fp d),.bool j])] [false,false,false,true] [] []=(some ([((Bool.not (onG (G1D.mk xa ya i)))=false),((Bool.not (onG2 (G2D.mk a b c d j)))=false),((Bool.not (grp (G1D.mk xa ya i)))=false),((Bool.not (grp2 (G2D.mk a b c d j)))=true)],((.ii (31:Int)),[]))):=by kernel_rfl
theorem ckE (xa ya a b c d:U6) (i j:Bool):fnRes uyE Tryz.f34 3000 [.v (.a [.ob (.fp xa),.ob (.fp ya),.bool i]),.v (.a [.ob (.fp a),.ob (.fp b),.ob (.fp c),.ob (.fp d),.bool j])] [false,false,false,false] [] []=(some ([((Bool.not (onG (G1D.mk xa ya i)))=false),((Bool.not (onG2 (G2D.mk a b c d j)))=false),((Bool.not (grp (G1D.mk xa ya i)))=false),((Bool.not (grp2 (G2D.mk a b c d j)))=false)],((.ii (0:Int)),[]))):=by kernel_rfl
theorem loA (xa ya a b c d:U6) (i j:Bool):fnRes uyE Tryz.f36 3000 [.v (.a [.ob (.fp xa),.ob (.fp ya),.bool i]),.v (.a [.ob (.fp a),.ob (.fp b),.ob (.fp c),.ob (.fp d),.bool j])] [true] [] []=(some ([(i=true)],((.v (.a (f12I (1:F12)))),[]))):=by kernel_rfl
theorem loB (xa ya a b c d:U6) (i j:Bool):fnRes uyE Tryz.f36 3000 [.v (.a [.ob (.fp xa),.ob (.fp ya),.bool i]),.v (.a [.ob (.fp a),.ob (.fp b),.ob (.fp c),.ob (.fp d),.bool j])] [false,true] [] []=(some ([(i=false),(j=true)],((.v (.a (f12I (1:F12)))),[]))):=by kernel_rfl
theorem loC (xa ya a b c d:U6) (i j:Bool):fnRes uyE Tryz.f36 3000 [.v (.a [.ob (.fp xa),.ob (.fp ya),.bool i]),.v (.a [.ob (.fp a),.ob (.fp b),.ob (.fp c),.ob (.fp d),.bool j])] [false,false] [] []=(some ([(i=false),(j=false)],((.v (.a (f12I (mil (inP xa) (inP ya) (inG2 (G2D.mk a b c d j)))))),[]))):=by kernel_rfl
/-- How a pair is refused, if it is; the loop's value. -/
def chkD (a:G1D) (b:G2D):Int:=if (!onG a || !onG2 b)=true then 30 else if (!grp a || !grp2 b)=true then 31 else 0
def lopD (a:G1D) (b:G2D):F12:=if (a.inf || b.inf)=true then 1 else mil (inP a.x) (inP a.y) (inG2 b)
theorem chk_fnd (xa ya a b c d:U6) (i j:Bool):FnD Tryz.prog 34 [.v (.a [.ob (.fp xa),.ob (.fp ya),.bool i]),.v (.a [.ob (.fp a),.ob (.fp b),.ob (.fp c),.ob (.fp d),.bool j])] (.v (.c (.int .i64 (chkD ⟨xa,ya,i⟩ ⟨a,b,c,d,j⟩)))) []:=by
 unfold chkD
 cases h1:(!onG ⟨xa,ya,i⟩) with
 | true=>exact fn_sound uyE_ok Tryz.func34 (ckA xa ya a b c d i j) ⟨h1,trivial⟩
 | false=>
  cases h2:(!onG2 ⟨a,b,c,d,j⟩) with
  | true=>exact fn_sound uyE_ok Tryz.func34 (ckB xa ya a b c d i j) ⟨h1,h2,trivial⟩
  | false=>
   cases h3:(!grp ⟨xa,ya,i⟩) with
   | true=>exact fn_sound uyE_ok Tryz.func34 (ckC xa ya a b c d i j) ⟨h1,h2,h3,trivial⟩
   | false=>
    cases h4:(!grp2 ⟨a,b,c,d,j⟩) with
    | true=>exact fn_sound uyE_ok Tryz.func34 (ckD xa ya a b c d i j) ⟨h1,h2,h3,h4,trivial⟩
    | false=>exact fn_sound uyE_ok Tryz.func34 (ckE xa ya a b c d i j) ⟨h1,h2,h3,h4,trivial⟩
theorem lop_fnd (xa ya a b c d:U6) (i j:Bool):FnD Tryz.prog 36 [.v (.a [.ob (.fp xa),.ob (.fp ya),.bool i]),.v (.a [.ob (.fp a),.ob (.fp b),.ob (.fp c),.ob (.fp d),.bool j])] (.v (.a (f12I (lopD ⟨xa,ya,i⟩ ⟨a,b,c,d,j⟩)))) []:=by
 cases i with
 | true=>
  have e:lopD ⟨xa,ya,true⟩ ⟨a,b,c,d,j⟩=1:=if_pos rfl
  rw[e]
  exact fn_sound uyE_ok Tryz.func36 (loA xa ya a b c d true j) ⟨rfl,trivial⟩
 | false=>
  cases j with
  | true=>
   have e:lopD ⟨xa,ya,false⟩ ⟨a,b,c,d,true⟩=1:=if_pos rfl
   rw[e]
   exact fn_sound uyE_ok Tryz.func36 (loB xa ya a b c d false true) ⟨rfl,rfl,trivial⟩
  | false=>
   have e:lopD ⟨xa,ya,false⟩ ⟨a,b,c,d,false⟩=mil (inP xa) (inP ya) (inG2 ⟨a,b,c,d,false⟩):=if_neg (fun h=>nomatch h)
   rw[e]
   exact fn_sound uyE_ok Tryz.func36 (loC xa ya a b c d false false) ⟨rfl,rfl,trivial⟩
def chkSpec:FnSpec
 | [.v (.a [.ob (.fp xa),.ob (.fp ya),.bool i]),.v (.a [.ob (.fp a),.ob (.fp b),.ob (.fp c),.ob (.fp d),.bool j])]=>some ([],.v (.c (.int .i64 (chkD ⟨xa,ya,i⟩ ⟨a,b,c,d,j⟩))),[])
 | _=>none
def uyF:Env:=uyE.set (addT uyE.fn 34 chkSpec)
theorem uyF_ok:EnvOk Tryz.prog uyF:=env_add uyE_ok 34 chkSpec (enters_of Tryz.func34 rfl rfl) fun args o r es h _=>by
 unfold chkSpec at h
 split at h
 ·cases h;exact chk_fnd _ _ _ _ _ _ _ _
 ·cases h
def lopSpec:FnSpec
 | [.v (.a [.ob (.fp xa),.ob (.fp ya),.bool i]),.v (.a [.ob (.fp a),.ob (.fp b),.ob (.fp c),.ob (.fp d),.bool j])]=>some ([],.v (.a (f12I (lopD ⟨xa,ya,i⟩ ⟨a,b,c,d,j⟩))),[])
 | _=>none
def uyG:Env:=uyF.set (addT uyF.fn 36 lopSpec)
theorem uyG_ok:EnvOk Tryz.prog uyG:=env_add uyF_ok 36 lopSpec (enters_of Tryz.func36 rfl rfl) fun args o r es h _=>by
 unfold lopSpec at h
 split at h
 ·cases h;exact lop_fnd _ _ _ _ _ _ _ _
 ·cases h
--@env uyG uyG_ok
theorem paA (xa ya a b c d:U6) (i j:Bool):fnRes uyG Tryz.f8 3000 [.v (.a [.ob (.fp xa),.ob (.fp ya),.bool i]),.v (.a [.ob (.fp a),.ob (.fp b),.ob (.fp c),.ob (.fp d),.bool j])] [true] [] []=(some ([(((chkD (G1D.mk xa ya i) (G2D.mk a b c d j)) != (0:Int))=true)],((.t [(.a [(.ob (.fp (0:U6))),(.ob (.fp (0:U6))),(.ob (.fp (0:U6))),(.ob (.fp (0:U6))),(.ob (.fp (0:U6))),(.ob (.fp (0:U6))),(.ob (.fp (0:U6))),(.ob (.fp (0:U6))),(.ob (.fp (0:U6))),(.ob (.fp (0:U6))),(.ob (.fp (0:U6))),(.ob (.fp (0:U6)))]),(.c (.int .i64 (chkD (G1D.mk xa ya i) (G2D.mk a b c d j))))]),[]))):=by kernel_rfl
theorem paB (xa ya a b c d:U6) (i j:Bool):fnRes uyG Tryz.f8 3000 [.v (.a [.ob (.fp xa),.ob (.fp ya),.bool i]),.v (.a [.ob (.fp a),.ob (.fp b),.ob (.fp c),.ob (.fp d),.bool j])] [false] [] []=(some ([(((chkD (G1D.mk xa ya i) (G2D.mk a b c d j)) != (0:Int))=false)],((.t [(.a (v12I (out12 (fin12 (lopD (G1D.mk xa ya i) (G2D.mk a b c d j)))))),(.c (.int .i64 (0:Int)))]),[]))):=by kernel_rfl
end

section

def z12:V12:=⟨⟨(0,0),(0,0),(0,0)⟩,⟨(0,0),(0,0),(0,0)⟩⟩
/-- What a pair makes, or how it is refused. -/
def pairD (a:G1D) (b:G2D):V12×Int:=if (chkD a b != 0)=true then (z12,chkD a b) else (out12 (fin12 (lopD a b)),0)
theorem pair_fnd (xa ya a b c d:U6) (i j:Bool):FnD Tryz.prog 8 [.v (.a [.ob (.fp xa),.ob (.fp ya),.bool i]),.v (.a [.ob (.fp a),.ob (.fp b),.ob (.fp c),.ob (.fp d),.bool j])] (.t [.a (v12I (pairD ⟨xa,ya,i⟩ ⟨a,b,c,d,j⟩).1),.c (.int .i64 (pairD ⟨xa,ya,i⟩ ⟨a,b,c,d,j⟩).2)]) []:=by
 cases h:(chkD ⟨xa,ya,i⟩ ⟨a,b,c,d,j⟩ != 0) with
 | true=>
  have e:pairD ⟨xa,ya,i⟩ ⟨a,b,c,d,j⟩=(z12,chkD ⟨xa,ya,i⟩ ⟨a,b,c,d,j⟩):=if_pos h
  rw[e]
  exact fn_sound uyG_ok Tryz.func8 (paA xa ya a b c d i j) ⟨h,trivial⟩
 | false=>
  have e:pairD ⟨xa,ya,i⟩ ⟨a,b,c,d,j⟩=(out12 (fin12 (lopD ⟨xa,ya,i⟩ ⟨a,b,c,d,j⟩)),0):=if_neg (fun k=>by rw[h] at k;cases k)
  rw[e]
  exact fn_sound uyG_ok Tryz.func8 (paB xa ya a b c d i j) ⟨h,trivial⟩
end

section
section
variable {w0:World} {F0:Nat→Prop} {K:Kp} {ac:List Act} {Q:Exit→Act→World→Prop} {cX:Ctx} {aX:Act}

def pairSpec:FnSpec
 | [.v (.a [.ob (.fp xa),.ob (.fp ya),.bool i]),.v (.a [.ob (.fp a),.ob (.fp b),.ob (.fp c),.ob (.fp d),.bool j])]=>some ([],.t [.a (v12I (pairD ⟨xa,ya,i⟩ ⟨a,b,c,d,j⟩).1),.c (.int .i64 (pairD ⟨xa,ya,i⟩ ⟨a,b,c,d,j⟩).2)],[])
 | _=>none
def uyH:Env:=uyG.set (addT uyG.fn 8 pairSpec)
theorem uyH_ok:EnvOk Tryz.prog uyH:=env_add uyG_ok 8 pairSpec (enters_of Tryz.func8 rfl rfl) fun args o r es h _=>by
 unfold pairSpec at h
 split at h
 ·cases h;exact pair_fnd _ _ _ _ _ _ _ _
 ·cases h
def uyI:Env:=uyH.or (qvF.or rtM)
theorem uyI_ok:EnvOk Tryz.prog uyI:=env_or uyH_ok (env_or qvF_ok rtM_ok)
--@env uyI uyI_ok
def uyJ:Env:=uyI
theorem uyJ_ok:EnvOk Tryz.prog uyJ:=uyI_ok
def uyK:Env:=uyJ
theorem uyK_ok:EnvOk Tryz.prog uyK:=uyJ_ok
theorem oneVR  : fnRes uyI Tryz.f38 3000 [] [] [] []=(some ([(0≤(1:Int)),((1:Int)<(18446744073709551616:Int)),(0≤(0:Int)),(0<(18446744073709551616:Int)),(0≤(0:Int)),(0<(18446744073709551616:Int)),(0≤(0:Int)),(0<(18446744073709551616:Int)),(0≤(0:Int)),(0<(18446744073709551616:Int)),(0≤(0:Int)),(0<(18446744073709551616:Int))],((.v (.a [(.ob (.fp (Fin.ofNat B6 1))),(.ob (.fp (0:U6))),(.ob (.fp (0:U6))),(.ob (.fp (0:U6))),(.ob (.fp (0:U6))),(.ob (.fp (0:U6))),(.ob (.fp (0:U6))),(.ob (.fp (0:U6))),(.ob (.fp (0:U6))),(.ob (.fp (0:U6))),(.ob (.fp (0:U6))),(.ob (.fp (0:U6)))])),[]))):=by kernel_rfl
theorem wnA (xa ya a b c d:U6) (i j:Bool):fnRes uyI Tryz.f10 3000 [.v (.a [.ob (.fp xa),.ob (.fp ya),.bool i]),.v (.a [.ob (.fp a),.ob (.fp b),.ob (.fp c),.ob (.fp d),.bool j])] [true] [] []=(some ([((Bool.not (onG (G1D.mk xa ya i)))=true)],((.ii (30:Int)),[]))):=by kernel_rfl
theorem wnB (xa ya a b c d:U6) (i j:Bool):fnRes uyI Tryz.f10 3000 [.v (.a [.ob (.fp xa),.ob (.fp ya),.bool i]),.v (.a [.ob (.fp a),.ob (.fp b),.ob (.fp c),.ob (.fp d),.bool j])] [false,true] [] []=(some ([((Bool.not (onG (G1D.mk xa ya i)))=false),((Bool.not (onG2 (G2D.mk a b c d j)))=true)],((.ii (30:Int)),[]))):=by kernel_rfl
theorem wnC (xa ya a b c d:U6) (i j:Bool):fnRes uyI Tryz.f10 3000 [.v (.a [.ob (.fp xa),.ob (.fp ya),.bool i]),.v (.a [.ob (.fp a),.ob (.fp b),.ob (.fp c),.ob (.fp d),.bool j])] [false,false,true] [] []=(some ([((Bool.not (onG (G1D.mk xa ya i)))=false),((Bool.not (onG2 (G2D.mk a b c d j)))=false),((Bool.not (grp (G1D.mk xa ya i)))=true)],((.ii (31:Int)),[]))):=by kernel_rfl
theorem wnD (xa ya a b c d:U6) (i j:Bool):fnRes uyI Tryz.f10 3000 [.v (.a [.ob (.fp xa),.ob (.fp ya),.bool i]),.v (.a [.ob (.fp a),.ob (.fp b),.ob (.fp c),.ob (.fp d),.bool j])] [false,false,false,true] [] []=(some ([((Bool.not (onG (G1D.mk xa ya i)))=false),((Bool.not (onG2 (G2D.mk a b c d j)))=false),((Bool.not (grp (G1D.mk xa ya i)))=false),((Bool.not (grp2 (G2D.mk a b c d j)))=true)],((.ii (31:Int)),[]))):=by kernel_rfl
theorem wnE (xa ya a b c d:U6) (i j:Bool):fnRes uyI Tryz.f10 3000 [.v (.a [.ob (.fp xa),.ob (.fp ya),.bool i]),.v (.a [.ob (.fp a),.ob (.fp b),.ob (.fp c),.ob (.fp d),.bool j])] [false,false,false,false] [] []=(some ([((Bool.not (onG (G1D.mk xa ya i)))=false),((Bool.not (onG2 (G2D.mk a b c d j)))=false),((Bool.not (grp (G1D.mk xa ya i)))=false),((Bool.not (grp2 (G2D.mk a b c d j)))=false)],((.ii (0:Int)),[]))):=by kernel_rfl
theorem want_fnd (xa ya a b c d:U6) (i j:Bool):FnD Tryz.prog 10 [.v (.a [.ob (.fp xa),.ob (.fp ya),.bool i]),.v (.a [.ob (.fp a),.ob (.fp b),.ob (.fp c),.ob (.fp d),.bool j])] (.v (.c (.int .i64 (chkD ⟨xa,ya,i⟩ ⟨a,b,c,d,j⟩)))) []:=by
 unfold chkD
 cases h1:(!onG ⟨xa,ya,i⟩) with
 | true=>exact fn_sound uyI_ok Tryz.func10 (wnA xa ya a b c d i j) ⟨h1,trivial⟩
 | false=>
  cases h2:(!onG2 ⟨a,b,c,d,j⟩) with
  | true=>exact fn_sound uyI_ok Tryz.func10 (wnB xa ya a b c d i j) ⟨h1,h2,trivial⟩
  | false=>
   cases h3:(!grp ⟨xa,ya,i⟩) with
   | true=>exact fn_sound uyI_ok Tryz.func10 (wnC xa ya a b c d i j) ⟨h1,h2,h3,trivial⟩
   | false=>
    cases h4:(!grp2 ⟨a,b,c,d,j⟩) with
    | true=>exact fn_sound uyI_ok Tryz.func10 (wnD xa ya a b c d i j) ⟨h1,h2,h3,h4,trivial⟩
    | false=>exact fn_sound uyI_ok Tryz.func10 (wnE xa ya a b c d i j) ⟨h1,h2,h3,h4,trivial⟩
def wantSpec:FnSpec
 | [.v (.a [.ob (.fp xa),.ob (.fp ya),.bool i]),.v (.a [.ob (.fp a),.ob (.fp b),.ob (.fp c),.ob (.fp d),.bool j])]=>some ([],.v (.c (.int .i64 (chkD ⟨xa,ya,i⟩ ⟨a,b,c,d,j⟩))),[])
 | _=>none
def uyL:Env:=uyK.set (addT uyK.fn 10 wantSpec)
theorem uyL_ok:EnvOk Tryz.prog uyL:=env_add uyK_ok 10 wantSpec (enters_of Tryz.func10 rfl rfl) fun args o r es h _=>by
 unfold wantSpec at h
 split at h
 ·cases h;exact want_fnd _ _ _ _ _ _ _ _
 ·cases h
def po_k:List KI:=(run uyI false 3000 ((fun (x0 x1 x2 x3 x4 x5 x6 x7 x8 x9 x10 x11:U6) (e:U6)=>(⟨[.code (bodyOf Tryz.f45)],.normal,initSt Tryz.f45.ntmps [.v (.a [.ob (.fp x0),.ob (.fp x1),.ob (.fp x2),.ob (.fp x3),.ob (.fp x4),.ob (.fp x5),.ob (.fp x6),.ob (.fp x7),.ob (.fp x8),.ob (.fp x9),.ob (.fp x10),.ob (.fp x11)]),.v (.a [.ob (.fp e)])]⟩:Cfg)) default default default default default default default default default default default default default) []).cfg.k
theorem po (x0 x1 x2 x3 x4 x5 x6 x7 x8 x9 x10 x11:U6) (e:U6) (ho:AllP []):Sg Tryz.prog (initSt Tryz.f45.ntmps [.v (.a [.ob (.fp x0),.ob (.fp x1),.ob (.fp x2),.ob (.fp x3),.ob (.fp x4),.ob (.fp x5),.ob (.fp x6),.ob (.fp x7),.ob (.fp x8),.ob (.fp x9),.ob (.fp x10),.ob (.fp x11)]),.v (.a [.ob (.fp e)])]) (mkSt 23 [4,5,6,12] [.pt 48 0,.pt 112 0,.pt 128 0,(.ci (.clo 123 [(192,0)]))] [32,48,112,128,192] [(eF_ [.ob (.fp e)]),(eF_ [(.ob (.fp (0:U6))),(.ob (.fp (0:U6))),(.ob (.fp (0:U6))),(.ob (.fp (0:U6))),(.ob (.fp (0:U6))),(.ob (.fp (0:U6))),(.ob (.fp (0:U6))),(.ob (.fp (0:U6))),(.ob (.fp (0:U6))),(.ob (.fp (0:U6))),(.ob (.fp (0:U6))),(.ob (.fp (0:U6)))]),(eF_ (f12I (in12 (E2.mk (E3.mk (x0,x1) (x2,x3) (x4,x5)) (E3.mk (x6,x7) (x8,x9) (x10,x11)))))),(eF_ (f12I (1:F12))),(eF_ [(.slc 32 0 6 1)])] 256 [] []) .normal (po_k) ([.code (bodyOf Tryz.f45)]):=fun hs hK=>
 run_at2 (unroll:=false) (n:=3000) (path:=[]) (o:=⟨_,_,_,_,_,_,_⟩) uyI_ok (by kernel_rfl) (by kernel_rfl) ho hs hK
def poS (x:F12) (e:U6) (o:F12):St:=mkSt 23 [4,5,6,12] [.pt 48 0,.pt 112 0,.pt 128 0,(.ci (.clo 123 [(192,0)]))] [32,48,112,128,192] [some (.sq (.u64 (limL e.val 6))),(eF_ [(.ob (.fp (0:U6))),(.ob (.fp (0:U6))),(.ob (.fp (0:U6))),(.ob (.fp (0:U6))),(.ob (.fp (0:U6))),(.ob (.fp (0:U6))),(.ob (.fp (0:U6))),(.ob (.fp (0:U6))),(.ob (.fp (0:U6))),(.ob (.fp (0:U6))),(.ob (.fp (0:U6))),(.ob (.fp (0:U6)))]),some (.fl (f12I x)),some (.fl (f12I o)),(eF_ [(.slc 32 0 6 1)])] 256 [] []
theorem poA (x:F12) (e:U6) (o:F12) (z:Bool) {ρ:Option Nat} (ho:AllP []) (hs:Sim w0 F0 K ac (roundSt (poS x e o) [(13,.v (.c (.bool z)))]) cX aX) (hK:∀cY aY,Sim w0 F0 K ac (mkSt 23 [4,5,6,7] [.pt 48 0,.pt 112 0,.pt 128 0,(.ci (.bool z))] [32,48,112,128,192] [(eQ_ (.u64 [(limb (Fin.val e) 0),(limb (Fin.val e) 1),(limb (Fin.val e) 2),(limb (Fin.val e) 3),(limb (Fin.val e) 4),(limb (Fin.val e) 5)])),(eF_ [(.ob (.fp (0:U6))),(.ob (.fp (0:U6))),(.ob (.fp (0:U6))),(.ob (.fp (0:U6))),(.ob (.fp (0:U6))),(.ob (.fp (0:U6))),(.ob (.fp (0:U6))),(.ob (.fp (0:U6))),(.ob (.fp (0:U6))),(.ob (.fp (0:U6))),(.ob (.fp (0:U6))),(.ob (.fp (0:U6)))]),(eF_ (f12I x)),(eF_ (f12I o)),(eF_ [(.slc 32 0 6 1)])] 272 [[4,5,6,12]] [([.pt 48 0,.pt 112 0,.pt 128 0,(.ci (.clo 123 [(192,0)]))],23)]) cY aY→Wq Tryz.prog Q ([]) ac Exit.normal aY cY.w ρ):Wq Tryz.prog Q ([.code (rfA po_k)]) ac .normal aX cX.w ρ :=
 run_atT (unroll:=false) (n:=3000) (path:=[]) (o:=⟨_,_,_,_,_,_,_⟩) uyI_ok (by kernel_rfl) (by kernel_rfl) ho (by kernel_rfl) (by kernel_rfl) hs hK
def poB (x:F12) (e:U6) (o:F12) (z:Bool):St:=mkSt 23 [4,5,6,7] [.pt 48 0,.pt 112 0,.pt 128 0,(.ci (.bool z))] [32,48,112,128,192] [some (.sq (.u64 (limL e.val 6))),(eF_ [(.ob (.fp (0:U6))),(.ob (.fp (0:U6))),(.ob (.fp (0:U6))),(.ob (.fp (0:U6))),(.ob (.fp (0:U6))),(.ob (.fp (0:U6))),(.ob (.fp (0:U6))),(.ob (.fp (0:U6))),(.ob (.fp (0:U6))),(.ob (.fp (0:U6))),(.ob (.fp (0:U6))),(.ob (.fp (0:U6)))]),some (.fl (f12I x)),some (.fl (f12I o)),(eF_ [(.slc 32 0 6 1)])] 272 [[4,5,6,12]] [([.pt 48 0,.pt 112 0,.pt 128 0,(.ci (.clo 123 [(192,0)]))],23)]
theorem poC (x:F12) (e:U6) (o:F12) (z:Bool) {ρ:Option Nat} (ho:AllP [(z=true)]) (hs:Sim w0 F0 K ac (poB x e o z) cX aX) (hK:∀cY aY,Sim w0 F0 K ac (mkSt 23 [4] [.pt 48 0] [32,48,112,128,192] [(eQ_ (.u64 [(limb (Fin.val e) 0),(limb (Fin.val e) 1),(limb (Fin.val e) 2),(limb (Fin.val e) 3),(limb (Fin.val e) 4),(limb (Fin.val e) 5)])),(eF_ [(.ob (.fp (0:U6))),(.ob (.fp (0:U6))),(.ob (.fp (0:U6))),(.ob (.fp (0:U6))),(.ob (.fp (0:U6))),(.ob (.fp (0:U6))),(.ob (.fp (0:U6))),(.ob (.fp (0:U6))),(.ob (.fp (0:U6))),(.ob (.fp (0:U6))),(.ob (.fp (0:U6))),(.ob (.fp (0:U6)))]),(eF_ (f12I x)),(eF_ (f12I ((o*o)*x))),(eF_ [(.slc 32 0 6 1)])] 416 [[4,5,6,12]] [([.pt 48 0,.pt 112 0,.pt 128 0,(.ci (.clo 123 [(192,0)]))],23)]) cY aY→Wq Tryz.prog Q ([]) ac Exit.normal aY cY.w ρ):Wq Tryz.prog Q ([.code (rfB po_k)]) ac .normal aX cX.w ρ :=
 run_atT (unroll:=false) (n:=3000) (path:=[true]) (o:=⟨_,_,_,_,_,_,_⟩) uyI_ok (by kernel_rfl) (by kernel_rfl) ho (by kernel_rfl) (by kernel_rfl) hs hK
theorem poD (x:F12) (e:U6) (o:F12) (z:Bool) {ρ:Option Nat} (ho:AllP [(z=false)]) (hs:Sim w0 F0 K ac (poB x e o z) cX aX) (hK:∀cY aY,Sim w0 F0 K ac (mkSt 23 [4] [.pt 48 0] [32,48,112,128,192] [(eQ_ (.u64 [(limb (Fin.val e) 0),(limb (Fin.val e) 1),(limb (Fin.val e) 2),(limb (Fin.val e) 3),(limb (Fin.val e) 4),(limb (Fin.val e) 5)])),(eF_ [(.ob (.fp (0:U6))),(.ob (.fp (0:U6))),(.ob (.fp (0:U6))),(.ob (.fp (0:U6))),(.ob (.fp (0:U6))),(.ob (.fp (0:U6))),(.ob (.fp (0:U6))),(.ob (.fp (0:U6))),(.ob (.fp (0:U6))),(.ob (.fp (0:U6))),(.ob (.fp (0:U6))),(.ob (.fp (0:U6)))]),(eF_ (f12I x)),(eF_ (f12I (o*o))),(eF_ [(.slc 32 0 6 1)])] 352 [[4,5,6,12]] [([.pt 48 0,.pt 112 0,.pt 128 0,(.ci (.clo 123 [(192,0)]))],23)]) cY aY→Wq Tryz.prog Q ([]) ac Exit.normal aY cY.w ρ):Wq Tryz.prog Q ([.code (rfB po_k)]) ac .normal aX cX.w ρ :=
 run_atT (unroll:=false) (n:=3000) (path:=[false]) (o:=⟨_,_,_,_,_,_,_⟩) uyI_ok (by kernel_rfl) (by kernel_rfl) ho (by kernel_rfl) (by kernel_rfl) hs hK
theorem poX (x:F12) (e:U6) (o:F12) (ho:AllP []):Sg Tryz.prog (poS x e o) (mkSt 23 [4] [.pt 48 0] [48] [(eF_ (v12I (out12 o)))] 304 [] []) .ret ([]) (rfR po_k):=fun hs hK=>
 run_at2 (unroll:=false) (n:=3000) (path:=[]) (o:=⟨_,_,_,_,_,_,_⟩) uyI_ok (by kernel_rfl) (by kernel_rfl) ho hs hK
def poE (x:F12) (e:U6) (o:F12):St:=mkSt 23 [4] [.pt 48 0] [32,48,112,128,192] [some (.sq (.u64 (limL e.val 6))),(eF_ [(.ob (.fp (0:U6))),(.ob (.fp (0:U6))),(.ob (.fp (0:U6))),(.ob (.fp (0:U6))),(.ob (.fp (0:U6))),(.ob (.fp (0:U6))),(.ob (.fp (0:U6))),(.ob (.fp (0:U6))),(.ob (.fp (0:U6))),(.ob (.fp (0:U6))),(.ob (.fp (0:U6))),(.ob (.fp (0:U6)))]),some (.fl (f12I x)),some (.fl (f12I o)),(eF_ [(.slc 32 0 6 1)])] 416 [[4,5,6,12]] [([.pt 48 0,.pt 112 0,.pt 128 0,(.ci (.clo 123 [(192,0)]))],23)]
def poZ (o:V12):St:=mkSt 23 [4] [.pt 48 0] [48] [some (.fl (v12I o))] 304 [] []
theorem poR_end (o:V12):runEnd uyI Tryz.f45 false 3000 (⟨[],.ret,poZ o⟩) [] [] []=(some ([],((.v (.a (v12I o))),[]))):=by kernel_rfl
end
end

section

/-- A power outside. -/
def powV (x:V12) (e:U6):V12:=out12 (gpi (in12 x) (e.val:Int))
theorem po_bits (e:U6):numL (limL e.val 6)=e.val:=numL_lim (k:=6) (Nat.lt_of_lt_of_eq e.isLt (by decide +kernel))
theorem pow_fndX (X:V12) (e:U6) (hX:X=⟨⟨(X.a.a.1,X.a.a.2),(X.a.b.1,X.a.b.2),(X.a.c.1,X.a.c.2)⟩,⟨(X.b.a.1,X.b.a.2),(X.b.b.1,X.b.b.2),(X.b.c.1,X.b.c.2)⟩⟩):FnD Tryz.prog 45 [.v (.a (v12I X)),.v (.a [.ob (.fp e)])] (.v (.a (v12I (powV X e)))) []:=by
 refine fn_start_m (fn:=Tryz.f45) (c:=bodyOf Tryz.f45) Tryz.func45 rfl rfl fun Y b hk hF hs=>?_
 refine po _ _ _ _ _ _ _ _ _ _ _ _ e trivial hs fun ac cY aY hs1=>?_
 rw[←hX] at hs1
 unfold powV
 generalize in12 X=x at hs1 ⊢
 have hs2:=hs1.blocks (ens' := [some (.sq (.u64 (limL e.val 6))),some (.fl [.ob (.fp 0),.ob (.fp 0),.ob (.fp 0),.ob (.fp 0),.ob (.fp 0),.ob (.fp 0),.ob (.fp 0),.ob (.fp 0),.ob (.fp 0),.ob (.fp 0),.ob (.fp 0),.ob (.fp 0)]),some (.fl (f12I x)),some (.fl (f12I 1)),some (.fl [.slc 32 0 6 1])])
  ⟨.inr ⟨_,_,_,rfl,rfl,rfl,fun cs h=>ob_u64 (.fp e) cs h⟩,.inl rfl,.inl rfl,.inl rfl,.inl rfl,trivial⟩
 obtain ⟨e1,e2⟩:=isRf_eq (k:=po_k) (by kernel_rfl)
 rw[e1]
 have eP:(rfP po_k).toList=[13]:=by kernel_rfl
 have eG:rfG po_k = .tmp 12:=by kernel_rfl
 have hit:IterC Tryz.prog cY 123 [(192,0)] btEnc (btL e.val (bitsC (limL e.val 6) 6) (bitsC (limL e.val 6) 6)) fun pre=>(poS x e (gpow x (pv pre))).m:=by
  have h:=bits_iter (x:=cY) (p:=192) (e:=limL e.val 6) (M:=fun _=>fzM 192 (.u64 (limL e.val 6))) (by rw[limL_len];decide) (limL_lims _ _) (fun s=>rfl)
  rw[po_bits,limL_len] at h
  exact h.freeze (len:=6) (es:=1) (pb:=32) (fun s=>rfl) (fun s=>rfl) (limL_len _ _).symm
 refine range_rule (ps:=rfP po_k) e2 hs2 (gf:=123) (caps:=[(192,0)]) (enters_of Tryz.func123 rfl rfl) (fun pre=>poS x e (gpow x (pv pre))) (fun s=>by rw[eG];rfl) ⟨_,rfl⟩ (btL e.val (bitsC (limL e.val 6) 6) (bitsC (limL e.val 6) 6)) btVals btEnc
  (fun y z=>.cons ⟨rfl,0,rfl⟩ .nil) (fun z=>by rw[←Array.length_toList,eP];rfl) (fun pre p hp=>?_) hit (fun pre z=>poB x e (gpow x (pv pre)) z)
  (fun pre z=>poE x e (gpow x (pv (pre++[z])))) (fun pre z=>⟨_,rfl⟩) (fun pre z hz w1 F1 K1 as1 Q1 l y b hs2 hQ=>?_) (fun pre z hz w1 F1 K1 as1 Q1 l y b hs2 hQ=>?_) fun D y hs2 hD hFD hd=>?_
 ·rw[eP] at hp
  have h23:(poS x e (gpow x (pv pre))).nt=23:=rfl
  rw[h23]
  simp only[List.mem_cons,List.not_mem_nil,or_false] at hp
  subst hp
  decide
 ·rw[eP] at hs2
  exact poA x e _ z trivial hs2 fun cZ aZ hs3=>⟨hQ _ _ (hs3.nx _)⟩
 ·rw[gpow_bit] at hQ
  cases z with
  | true=>exact poC x e _ true ⟨rfl,trivial⟩ hs2 fun cZ aZ hs3=>⟨hQ _ _ (hs3.nx _)⟩
  | false=>exact poD x e _ false ⟨rfl,trivial⟩ hs2 fun cZ aZ hs3=>⟨hQ _ _ (hs3.nx _)⟩
 ·have hs3:=hs2.marked rfl rfl D
  have hN:e.val<2 ^ bitsC (limL e.val 6) 6:=by
   have:=numL_lt (limL_lims e.val 6) (limL e.val 6).length (Nat.le_refl _)
   rw[List.take_length,limL_len,po_bits] at this
   exact this
  rw[pv_bits hN _ (Nat.le_refl _),Nat.sub_self,Nat.pow_zero,Nat.div_one] at hs2 hs3
  rw[gpi_is,Int.toNat_natCast]
  generalize gpow x e.val=o at hs2 hs3 ⊢
  refine poX x e o trivial hs3 fun ac cV aV hs6=>⟨?_⟩
  have hs7:Sim y.w y.F (kOwn y kAll (markOf D)) ac (poZ (out12 o)) cV aV:=hs6
  exact fn_finish uyI_ok hk hF (poR_end (out12 o)) trivial (fun y v hd=>hd) hs2 hD hFD hd rfl hs7
end

section

/-- 1 outside. -/
def oneV:V12:=⟨⟨(Fin.ofNat B6 1,0),(0,0),(0,0)⟩,⟨(0,0),(0,0),(0,0)⟩⟩
theorem oneV_fnd:FnD Tryz.prog 38 [] (.v (.a (v12I oneV))) []:=fn_sound uyI_ok Tryz.func38 oneVR (by simp [AllP])
def oneVSpec:FnSpec
 | []=>some ([],.v (.a (v12I oneV)),[])
 | _=>none
def uyM:Env:=uyL.set (addT uyL.fn 38 oneVSpec)
theorem uyM_ok:EnvOk Tryz.prog uyM:=env_add uyL_ok 38 oneVSpec (enters_of Tryz.func38 rfl rfl) fun args o r es h _=>by
 unfold oneVSpec at h
 split at h
 ·cases h;exact oneV_fnd
 ·cases h
theorem pow_fndY (x0 x1 x2 x3 x4 x5 x6 x7 x8 x9 x10 x11 e:U6):FnD Tryz.prog 45 [.v (.a [.ob (.fp x0),.ob (.fp x1),.ob (.fp x2),.ob (.fp x3),.ob (.fp x4),.ob (.fp x5),.ob (.fp x6),.ob (.fp x7),.ob (.fp x8),.ob (.fp x9),.ob (.fp x10),.ob (.fp x11)]),.v (.a [.ob (.fp e)])] (.v (.a (v12I (powV (⟨⟨(x0,x1),(x2,x3),(x4,x5)⟩,⟨(x6,x7),(x8,x9),(x10,x11)⟩⟩:V12) e)))) []:=pow_fndX (⟨⟨(x0,x1),(x2,x3),(x4,x5)⟩,⟨(x6,x7),(x8,x9),(x10,x11)⟩⟩:V12) e rfl
def powVSpec:FnSpec
 | [.v (.a [.ob (.fp x0),.ob (.fp x1),.ob (.fp x2),.ob (.fp x3),.ob (.fp x4),.ob (.fp x5),.ob (.fp x6),.ob (.fp x7),.ob (.fp x8),.ob (.fp x9),.ob (.fp x10),.ob (.fp x11)]),.v (.a [.ob (.fp e)])]=>some ([],.v (.a (v12I (powV (⟨⟨(x0,x1),(x2,x3),(x4,x5)⟩,⟨(x6,x7),(x8,x9),(x10,x11)⟩⟩:V12) e))),[])
 | _=>none
def uyN:Env:=uyM.set (addT uyM.fn 45 powVSpec)
theorem uyN_ok:EnvOk Tryz.prog uyN:=env_add uyM_ok 45 powVSpec (enters_of Tryz.func45 rfl rfl) fun args o r es h _=>by
 unfold powVSpec at h
 split at h
 ·cases h;exact pow_fndY _ _ _ _ _ _ _ _ _ _ _ _ _
 ·cases h
--@env uyN uyN_ok
/-- A number of four limbs, as one of six. -/
def upU (k:U4):U6:=Fin.ofNat B6 ((limb k.val 0).toNat+18446744073709551616*((limb k.val 1).toNat+18446744073709551616*((limb k.val 2).toNat+18446744073709551616*((limb k.val 3).toNat+0))))
theorem upU_val (k:U4):(upU k).val=k.val:=by
 have e:(limb k.val 0).toNat+18446744073709551616*((limb k.val 1).toNat+18446744073709551616*((limb k.val 2).toNat+18446744073709551616*((limb k.val 3).toNat+0)))=k.val:=
  (by kernel_rfl:_=numL (limL k.val 4)).trans (numL_lim (k:=4) (Nat.lt_of_lt_of_eq k.isLt (by decide +kernel)))
 show _ % B6=_
 rw[e]
 exact Nat.mod_eq_of_lt (Nat.lt_trans k.isLt (by decide +kernel))
theorem pwrR (x0 x1 x2 x3 x4 x5 x6 x7 x8 x9 x10 x11:U6) (k:U4):fnRes uyN Tryz.f13 3000 [.v (.a [.ob (.fp x0),.ob (.fp x1),.ob (.fp x2),.ob (.fp x3),.ob (.fp x4),.ob (.fp x5),.ob (.fp x6),.ob (.fp x7),.ob (.fp x8),.ob (.fp x9),.ob (.fp x10),.ob (.fp x11)]),.v (.a [.ob (.fr k)])] [] [] []=some ([(0:Int)≤0,(0:Int)<4,0<Ob.k (.fr k),(0:Int)≤1,(1:Int)<4,1<Ob.k (.fr k),(0:Int)≤2,(2:Int)<4,2<Ob.k (.fr k),(0:Int)≤3,(3:Int)<4,3<Ob.k (.fr k),
  0≤limb k.val 0,limb k.val 0<18446744073709551616,0≤limb k.val 1,limb k.val 1<18446744073709551616,0≤limb k.val 2,limb k.val 2<18446744073709551616,0≤limb k.val 3,limb k.val 3<18446744073709551616,(0:Int)≤0,(0:Int)<18446744073709551616,(0:Int)≤0,(0:Int)<18446744073709551616],
  .v (.a (v12I (powV (⟨⟨(x0,x1),(x2,x3),(x4,x5)⟩,⟨(x6,x7),(x8,x9),(x10,x11)⟩⟩:V12) (upU k)))),[]):=by kernel_rfl
theorem pwr_fnd (x0 x1 x2 x3 x4 x5 x6 x7 x8 x9 x10 x11:U6) (k:U4):FnD Tryz.prog 13 [.v (.a [.ob (.fp x0),.ob (.fp x1),.ob (.fp x2),.ob (.fp x3),.ob (.fp x4),.ob (.fp x5),.ob (.fp x6),.ob (.fp x7),.ob (.fp x8),.ob (.fp x9),.ob (.fp x10),.ob (.fp x11)]),.v (.a [.ob (.fr k)])] (.v (.a (v12I (powV (⟨⟨(x0,x1),(x2,x3),(x4,x5)⟩,⟨(x6,x7),(x8,x9),(x10,x11)⟩⟩:V12) (upU k))))) []:=
 fn_sound uyN_ok Tryz.func13 (pwrR x0 x1 x2 x3 x4 x5 x6 x7 x8 x9 x10 x11 k) ⟨by decide,by decide,by show 0<4;decide,by decide,by decide,by show 1<4;decide,by decide,by decide,by show 2<4;decide,by decide,by decide,by show 3<4;decide,
  (limb_lim _ _).1,(limb_lim _ _).2,(limb_lim _ _).1,(limb_lim _ _).2,(limb_lim _ _).1,(limb_lim _ _).2,(limb_lim _ _).1,(limb_lim _ _).2,by decide,by decide,by decide,by decide,trivial⟩
def pwrSpec:FnSpec
 | [.v (.a [.ob (.fp x0),.ob (.fp x1),.ob (.fp x2),.ob (.fp x3),.ob (.fp x4),.ob (.fp x5),.ob (.fp x6),.ob (.fp x7),.ob (.fp x8),.ob (.fp x9),.ob (.fp x10),.ob (.fp x11)]),.v (.a [.ob (.fr k)])]=>some ([],.v (.a (v12I (powV (⟨⟨(x0,x1),(x2,x3),(x4,x5)⟩,⟨(x6,x7),(x8,x9),(x10,x11)⟩⟩:V12) (upU k)))),[])
 | _=>none
def uyO:Env:=uyN.set (addT uyN.fn 13 pwrSpec)
theorem uyO_ok:EnvOk Tryz.prog uyO:=env_add uyN_ok 13 pwrSpec (enters_of Tryz.func13 rfl rfl) fun args o r es h _=>by
 unfold pwrSpec at h
 split at h
 ·cases h;exact pwr_fnd _ _ _ _ _ _ _ _ _ _ _ _ _
 ·cases h
/-- Whether elements are alike, as the program looks. -/
def eqV (x y:V12):Bool:=decide (x.a.a.1=y.a.a.1) && (decide (x.a.a.2=y.a.a.2) && (decide (x.a.b.1=y.a.b.1) && (decide (x.a.b.2=y.a.b.2) && (decide (x.a.c.1=y.a.c.1) && (decide (x.a.c.2=y.a.c.2) && (decide (x.b.a.1=y.b.a.1) && (decide (x.b.a.2=y.b.a.2) && (decide (x.b.b.1=y.b.b.1) && (decide (x.b.b.2=y.b.b.2) && (decide (x.b.c.1=y.b.c.1) && decide (x.b.c.2=y.b.c.2)))))))))))
theorem eqV_is {x y:V12}:eqV x y=true↔x=y:=by
 constructor
 ·intro h
  simp only[eqV,Bool.and_eq_true,decide_eq_true_eq] at h
  obtain ⟨h1,h2,h3,h4,h5,h6,h7,h8,h9,h10,h11,h12⟩:=h
  exact E2.ext' (E3.ext' (Prod.ext h1 h2) (Prod.ext h3 h4) (Prod.ext h5 h6)) (E3.ext' (Prod.ext h7 h8) (Prod.ext h9 h10) (Prod.ext h11 h12))
 ·rintro rfl
  simp [eqV]
def neV (x y:V12):Bool:=if false=true then eqV x y else !eqV x y
theorem alvB:fnRes uyN Tryz.f9 3000 [] [true,true] [] []=some ([((0:Int) == 0)=true,neV (pairD genG genG2).1 z12=true],.v (.c (.bool (neV (pairD genG genG2).1 oneV))),[]):=by kernel_rfl
end

section

theorem grp_is {P:Pt Fp} (hP:OnC fp4 P):grp (gP P)=decide (nmul P rN=none):=by
 unfold grp
 rw[onG_gP hP,Bool.true_and]
 have h:=jmn_zero cv1 hP (pG_gP P ▸ inG_jc (gP P)) (dgT 52435875175126190479447740508185965837690552500527637822603658699938581184513 64)
 rw[dgV_lit] at h
 generalize (dgT 52435875175126190479447740508185965837690552500527637822603658699938581184513 64)=t at h ⊢
 exact h

end

section

theorem grp2_is {P:Pt F2} (hP:OnC fq4 P):grp2 (gP2 P)=decide (nmul P rN=none):=by
 unfold grp2
 rw[onG2_gP hP,Bool.true_and]
 have h:=jmn_zero cv2 hP (pG_gP2 P ▸ inG2_jc (gP2 P)) (dgT 52435875175126190479447740508185965837690552500527637822603658699938581184513 64)
 rw[dgV_lit] at h
 generalize (dgT 52435875175126190479447740508185965837690552500527637822603658699938581184513 64)=t at h ⊢
 exact h

end

section

theorem norm_xi:nQ2 ((1,1):F2)=Fin.ofNat pN 2:=by decide +kernel
theorem val_two:(Fin.ofNat pN 2).val=2:=by decide +kernel
theorem pow_two3:mpow pN 2 384 ((pN-1) / 3)≠1:=by decide +kernel
theorem pow_two2:mpow pN 2 384 ((pN-1) / 2)≠1:=by decide +kernel
theorem xi_no_cube (x:F2):x*x*x≠Nrs.xi:=by
 intro h
 have h:x*x*x=(1,1):=h
 have h:=congrArg nQ2 h
 rw[norm_xi,nQ2_mul,nQ2_mul] at h
 refine cube_ne _ (fun e=>?_) (fun e=>?_) (nQ2 x) h
 ·have:=congrArg Fin.val e
  rw[pw_mpow _ 384 _ third_lt,val_two,one_val_p] at this
  exact pow_two3 this
 ·have:=congrArg Fin.val e
  rw[val_two] at this
  revert this
  decide +kernel
theorem two_no_square (x:Fp):x*x≠Fin.ofNat pN 2:=by
 intro h
 by_cases hx:x=0
 ·rw[hx] at h
  exact absurd (congrArg Fin.val h) (by decide +kernel)
 ·have e:=two_pw x ((pN-1) / 2)
  rw[←halves_p,fermat_p x hx,h] at e
  have:=congrArg Fin.val e
  rw[pw_mpow _ 384 _ half_lt,val_two,one_val_p] at this
  exact pow_two2 this
section
variable {R:Type} [Fld R] [Nrs R]
theorem nrmE3_mul (x y:E3 R):nrmE3 (x*y)=nrmE3 x*nrmE3 y:=by
 unfold nrmE3 adjE3
 simp only[E3.mul_a,E3.mul_b,E3.mul_c]
 generalize x.a=a
 generalize x.b=b
 generalize x.c=c
 generalize y.a=d
 generalize y.b=e
 generalize y.c=f
 grind
end
theorem v_no_square (t:F6):t*t≠Nrs.xi:=by
 intro h
 have h:=congrArg nrmE3 h
 rw[nrmE3_mul] at h
 have e:nrmE3 (Nrs.xi:F6)=(1,1):=by decide +kernel
 rw[e] at h
 have h:=congrArg nQ2 h
 rw[norm_xi,nQ2_mul] at h
 exact two_no_square _ h
@[reducible] instance fldF6:Fld F6:=fldE3 xi_no_cube
@[reducible] instance fldF12:Fld F12:=fldE2 v_no_square
end

section

section
variable {G:Type} [CRing G]
theorem gpow_mul (x y:G):∀n,gpow (x*y) n=gpow x n*gpow y n
 | 0=>by show (1:G)=1*1;grind
 | n+1=>by
  show gpow (x*y) n*(x*y)=gpow x n*x*(gpow y n*y)
  rw[gpow_mul x y n];grind
theorem gpow_gpow (x:G) (m:Nat):∀n,gpow x (m*n)=gpow (gpow x m) n
 | 0=>rfl
 | n+1=>by
  rw[Nat.mul_succ,gpow_add,gpow_gpow x m n]
  rfl
def gst (a o:G) (z:Bool):G:=if z=true then o*o*a else o*o
theorem gst_is (a:G):∀(l:List Bool) (n:Nat),l.foldl (gst a) (gpow a n)=gpow a (l.foldl nst n)
 | [],_=>rfl
 | z::l,n=>by
  show l.foldl (gst a) (gst a (gpow a n) z)=gpow a (l.foldl nst (nst n z))
  rw[←gst_is a l (nst n z)]
  congr 1
  cases z with
  | true=>
   show gpow a n*gpow a n*a=gpow a (n+n)*a
   rw[gpow_add]
  | false=>
   show gpow a n*gpow a n=gpow a (n+n)
   rw[gpow_add]
end

theorem nc_fin12:∀k:Nat,(nc k:F12)=⟨⟨(Fin.ofNat pN k,0),0,0⟩,0⟩
 | 0=>rfl
 | k+1=>by
  show nc k+1=_
  rw[nc_fin12 k,ofN_succ,ofN1]
  refine E2.ext' (E3.ext' (q2_ext rfl ?_) ?_ ?_) ?_
  ·show (0:Fp)+0=0;rfl
  ·show (0:F2)+0=0;rfl
  ·show (0:F2)+0=0;rfl
  ·show (0:F6)+0=0;rfl
theorem ofN_pN:Fin.ofNat pN pN=0:=by decide +kernel
theorem dream12p (p:Nat) (hp:1≤p) (h0:(nc p:F12)=0) (h1:∀k,0<k→k<p→(nc k:F12)≠0) (x y:F12):gpow (x+y) p=gpow x p+gpow y p:=dream (G:=F12) hp h0 h1 x y
theorem dream12 (x y:F12):gpow (x+y) pN=gpow x pN+gpow y pN:=by
 refine dream12p pN (by decide +kernel) ?_ (fun k h1 h2 h=>?_) x y
 ·rw[nc_fin12,ofN_pN];rfl
 ·rw[nc_fin12] at h
  have h:(⟨⟨(Fin.ofNat pN k,0),0,0⟩,0⟩:F12).a.a.1.val=(0:F12).a.a.1.val:=by rw[h]
  have h3:k % pN=0:=h
  exact absurd ((Nat.mod_eq_of_lt h2).symm.trans h3) (Nat.ne_of_gt h1)
theorem xi_pow:gpow ((1,1):F2) ((pN-1) / 6)=tur 1:=by
 have h:=gst_is ((1,1):F2) (btL ((pN-1) / 6) 384 384) 0
 have e:(btL ((pN-1) / 6) 384 384).foldl nst 0=(pN-1) / 6:=by decide +kernel
 rw[e] at h
 rw[←h]
 decide +kernel
end

set_option linter.unusedSimpArgs false
set_option linter.unusedSectionVars false
section

def i2 (z:F2):F12:=⟨⟨z,0,0⟩,0⟩
def eV:F12:=⟨⟨0,1,0⟩,0⟩
def eW:F12:=⟨0,1⟩
section
variable {R:Type} [CRing R] [Nrs R]
theorem e3_low (x y:R):(⟨x,0,0⟩:E3 R)*⟨y,0,0⟩=⟨x*y,0,0⟩:=by
 refine E3.ext' ?_ ?_ ?_
 all_goals
  simp only[E3.mul_a,E3.mul_b,E3.mul_c]<;>grind
theorem e3_sum (x y:R):(⟨x,0,0⟩:E3 R)+⟨y,0,0⟩=⟨x+y,0,0⟩:=by
 refine E3.ext' ?_ ?_ ?_
 all_goals
  simp only[E3.add_a,E3.add_b,E3.add_c]<;>grind
theorem e2_low (x y:R):(⟨x,0⟩:E2 R)*⟨y,0⟩=⟨x*y,0⟩:=by
 refine E2.ext' ?_ ?_
 all_goals
  simp only[E2.mul_a,E2.mul_b]<;>grind
theorem e2_sum (x y:R):(⟨x,0⟩:E2 R)+⟨y,0⟩=⟨x+y,0⟩:=by
 refine E2.ext' ?_ ?_
 all_goals
  simp only[E2.add_a,E2.add_b]<;>grind
theorem e2_dec (x:E2 R):x=(⟨x.a,0⟩:E2 R)+⟨x.b,0⟩*⟨0,1⟩:=by
 refine E2.ext' ?_ ?_
 all_goals
  simp only[E2.add_a,E2.add_b,E2.mul_a,E2.mul_b]<;>grind
theorem e3_dec (x:E3 R):x=(⟨x.a,0,0⟩:E3 R)+⟨x.b,0,0⟩*⟨0,1,0⟩+⟨x.c,0,0⟩*(⟨0,1,0⟩*⟨0,1,0⟩):=by
 refine E3.ext' ?_ ?_ ?_
 all_goals
  simp only[E3.add_a,E3.add_b,E3.add_c,E3.mul_a,E3.mul_b,E3.mul_c]<;>grind
end
theorem i2_add (x y:F2):i2 (x+y)=i2 x+i2 y:=by
 unfold i2
 rw[e2_sum,e3_sum]
theorem i2_mul (x y:F2):i2 (x*y)=i2 x*i2 y:=by
 unfold i2
 rw[e2_low,e3_low]
theorem i2_pow (x:F2):∀n,gpow (i2 x) n=i2 (gpow x n)
 | 0=>rfl
 | n+1=>by
  show gpow (i2 x) n*i2 x=i2 (gpow x n*x)
  rw[i2_pow x n,i2_mul]
theorem up6 (x:F6):(⟨x,0⟩:F12)=i2 x.a+i2 x.b*eV+i2 x.c*(eV*eV):=by
 unfold i2 eV
 rw[e2_low,e2_low,e2_low,e2_sum,e2_sum,←e3_dec]
theorem dec12 (x:F12):x=(i2 x.a.a+i2 x.a.b*eV+i2 x.a.c*(eV*eV))+(i2 x.b.a+i2 x.b.b*eV+i2 x.b.c*(eV*eV))*eW:=by
 rw[←up6,←up6]
 exact e2_dec x
theorem frb_g (p:Nat) (dr:∀x y:F12,gpow (x+y) p=gpow x p+gpow y p) (h2:∀z:F2,gpow z p=cj2 z) (hV:gpow eV p=i2 (tur 2)*eV) (hW:gpow eW p=i2 (tur 1)*eW) (t4:tur 2*tur 2=tur 4) (t3:tur 2*tur 1=tur 3) (t5:tur 4*tur 1=tur 5) (x:F12):gpow x p=frb x:=by
 have e:=dec12 x
 have e2:=dec12 (frb x)
 rw[e2]
 show gpow x p=(i2 (cj2 x.a.a)+i2 (cj2 x.a.b*tur 2)*eV+i2 (cj2 x.a.c*tur 4)*(eV*eV))+(i2 (cj2 x.b.a*tur 1)+i2 (cj2 x.b.b*tur 3)*eV+i2 (cj2 x.b.c*tur 5)*(eV*eV))*eW
 rw[←t4,←t3,←t5,←t4]
 have k:gpow x p=gpow ((i2 x.a.a+i2 x.a.b*eV+i2 x.a.c*(eV*eV))+(i2 x.b.a+i2 x.b.b*eV+i2 x.b.c*(eV*eV))*eW) p:=congrArg (fun y=>gpow y p) e
 rw[k]
 simp only[dr,gpow_mul,i2_pow,h2,hV,hW,i2_mul]
 generalize i2 (cj2 x.a.a)=a1
 generalize i2 (cj2 x.a.b)=a2
 generalize i2 (cj2 x.a.c)=a3
 generalize i2 (cj2 x.b.a)=a4
 generalize i2 (cj2 x.b.b)=a5
 generalize i2 (cj2 x.b.c)=a6
 generalize i2 (tur 1)=s
 generalize i2 (tur 2)=t
 generalize eV=v
 generalize eW=w
 clear e e2 k dr h2 hV hW t4 t3 t5
 grind
theorem tur4_is:tur 2*tur 2=tur 4:=by decide +kernel
theorem tur3_is:tur 2*tur 1=tur 3:=by decide +kernel
theorem tur5_is:tur 4*tur 1=tur 5:=by decide +kernel
theorem tur2_is:tur 1*tur 1=tur 2:=by decide +kernel
theorem eW_sq:eW*eW=eV:=by decide +kernel
theorem eV_cu:eV*eV*eV=i2 (1,1):=by decide +kernel
section
variable {r:Nat} [NeZero r]
theorem pw_q (a:Fin r):∀n,gpow ((a,0):Q2 r) n=(pw a n,0)
 | 0=>rfl
 | n+1=>by
  show gpow ((a,0):Q2 r) n*(a,0)=(pw a n*a,0)
  rw[pw_q a n]
  exact q2_ext (by show pw a n*a-0*0=pw a n*a;grind) (by show pw a n*0+0*a=0;grind)
theorem dec_q (x:Q2 r):x=(x.1,0)+(x.2,0)*(0,1):=q2_ext (by show x.1=x.1+(x.2*0-0*1);grind) (by show x.2=0+(x.2*1+0*0);grind)
theorem cj_q (x:Q2 r):(x.1,0)+(x.2,0)*(0,0-1)=(x.1,0-x.2):=q2_ext (by show x.1+(x.2*0-0*(0-1))=x.1;grind) (by show 0+(x.2*(0-1)+0*0)=0-x.2;grind)
end
theorem pw_zero_p:∀n,pw (0:Fp) (n+1)=0:=fun n=>by show pw (0:Fp) n*0=0;grind
theorem fermat_all (a:Fp):pw a pN=a:=by
 have e:pN=pN-1+1:=by decide +kernel
 refine (congrArg (pw a) e).trans ?_
 by_cases h:a=0
 ·rw[h];exact pw_zero_p _
 ·show pw a (pN-1)*a=a
  rw[fermat_p a h];grind
theorem u_pow:gpow ((0,1):F2) pN=(0,0-1):=by
 have h:=gst_is ((0,1):F2) (btL pN 384 384) 0
 have e:(btL pN 384 384).foldl nst 0=pN:=by decide +kernel
 rw[e] at h
 refine h.symm.trans ?_
 decide +kernel
theorem cj2_pow (z:F2):gpow z pN=cj2 z:=by
 have h:i2 (gpow z pN)=i2 (cj2 z):=by
  rw[←i2_pow]
  have e:i2 z=i2 (z.1,0)+i2 (z.2,0)*i2 (0,1):=by rw[←i2_mul,←i2_add];exact congrArg i2 (dec_q z)
  have k:gpow (i2 z) pN=gpow (i2 (z.1,0)+i2 (z.2,0)*i2 (0,1)) pN:=congrArg (fun y=>gpow y pN) e
  refine k.trans ((dream12 _ _).trans ?_)
  rw[gpow_mul,i2_pow,i2_pow,i2_pow,pw_q,pw_q,u_pow,fermat_all,fermat_all,←i2_mul,←i2_add]
  exact congrArg i2 (cj_q z)
 exact congrArg (fun x:F12=>x.a.a) h
theorem six_p:pN=6*((pN-1) / 6)+1:=by decide +kernel
section
variable {G:Type} [CRing G]
theorem gpow_six (g:G):gpow g 6=g*g*(g*g)*(g*g):=by
 show 1*g*g*g*g*g*g=_
 grind
theorem gpow_one (g:G):gpow g 1=g:=by
 show 1*g=g
 grind
end
theorem eW_six:gpow eW 6=i2 (1,1):=by rw[gpow_six,eW_sq,eV_cu]
theorem eW_pow:gpow eW pN=i2 (tur 1)*eW:=by
 refine (congrArg (gpow eW) six_p).trans ?_
 rw[gpow_add,gpow_gpow,eW_six,i2_pow,xi_pow,gpow_one]
theorem eV_pow:gpow eV pN=i2 (tur 2)*eV:=by
 rw[←eW_sq,gpow_mul,eW_pow,←tur2_is,i2_mul]
 generalize i2 (tur 1)=t
 generalize eW=w
 grind
/-- Frob is the power of p. -/
theorem frb_is (x:F12):gpow x pN=frb x:=frb_g pN dream12 cj2_pow eV_pow eW_pow tur4_is tur3_is tur5_is x
end

set_option linter.unusedSectionVars false
section

theorem cjp_cj (x:F12):cjp x=cj x:=by
 refine E2.ext' rfl ?_
 show (0:F6)-x.b = -x.b
 generalize x.b=b
 grind
theorem cjp_mul (x y:F12):cjp (x*y)=cjp x*cjp y:=by rw[cjp_cj,cjp_cj,cjp_cj];exact cj_mul x y
theorem cjp_cjp (x:F12):cjp (cjp x)=x:=by rw[cjp_cj,cjp_cj];exact cj_cj x
theorem cjp_one:cjp 1=1:=by rw[cjp_cj];exact cj_one
theorem frb_mul (x y:F12):frb (x*y)=frb x*frb y:=by rw[←frb_is,←frb_is,←frb_is,gpow_mul]
section
variable {r:Nat} [NeZero r]
theorem cj_two (z t:Q2 r):((((z.1,0-z.2):Q2 r)*t).1,0-(((z.1,0-z.2):Q2 r)*t).2)*t=z*((t.1,0-t.2)*t):=by
 refine q2_ext ?_ ?_
 ·simp only[mul1,mul2];grind
 ·simp only[mul1,mul2];grind
theorem cj_twice (z:Q2 r):((z.1,0-(0-z.2)):Q2 r)=z:=q2_ext rfl (by show 0-(0-z.2)=z.2;grind)
theorem mul_one_q2 (z:Q2 r):z*(1,0)=z:=q2_ext (by show z.1*1-z.2*0=z.1;grind) (by show z.1*0+z.2*1=z.2;grind)
theorem mul_neg_q2 (z:Q2 r):z*(0-1,0)=0-z:=q2_ext (by show z.1*(0-1)-z.2*0=0-z.1;grind) (by show z.1*0+z.2*(0-1)=0-z.2;grind)
theorem assoc_q2 (z a:Q2 r):z*a*a*a=z*(a*a*a):=by grind
end
def frT (t1 t2 t3 t4 t5:F2) (x:F12):F12:=⟨⟨cj2 x.a.a,cj2 x.a.b*t2,cj2 x.a.c*t4⟩,⟨cj2 x.b.a*t1,cj2 x.b.b*t3,cj2 x.b.c*t5⟩⟩
def frS (t1 t2 t3 t4 t5:F2) (x:F12):F12:=⟨⟨x.a.a,x.a.b*t2,x.a.c*t4⟩,⟨x.b.a*t1,x.b.b*t3,x.b.c*t5⟩⟩
theorem two_t (z t:F2):cj2 (cj2 z*t)*t=z*(cj2 t*t):=cj_two z t
theorem frT_two (t1 t2 t3 t4 t5:F2) (x:F12):frT t1 t2 t3 t4 t5 (frT t1 t2 t3 t4 t5 x)=frS (cj2 t1*t1) (cj2 t2*t2) (cj2 t3*t3) (cj2 t4*t4) (cj2 t5*t5) x:=by
 refine E2.ext' (E3.ext' ?_ ?_ ?_) (E3.ext' ?_ ?_ ?_)
 ·exact cj_twice x.a.a
 ·exact two_t x.a.b t2
 ·exact two_t x.a.c t4
 ·exact two_t x.b.a t1
 ·exact two_t x.b.b t3
 ·exact two_t x.b.c t5
theorem frS_three {t1 t2 t3 t4 t5:F2} (h1:t1*t1*t1=(0-1,0)) (h2:t2*t2*t2=(1,0)) (h3:t3*t3*t3=(0-1,0)) (h4:t4*t4*t4=(1,0)) (h5:t5*t5*t5=(0-1,0)) (x:F12):frS t1 t2 t3 t4 t5 (frS t1 t2 t3 t4 t5 (frS t1 t2 t3 t4 t5 x))=cjp x:=by
 refine E2.ext' (E3.ext' rfl ?_ ?_) (E3.ext' ?_ ?_ ?_)
 ·show x.a.b*t2*t2*t2=x.a.b
  rw[assoc_q2,h2,mul_one_q2]
 ·show x.a.c*t4*t4*t4=x.a.c
  rw[assoc_q2,h4,mul_one_q2]
 ·show x.b.a*t1*t1*t1=0-x.b.a
  rw[assoc_q2,h1,mul_neg_q2]
 ·show x.b.b*t3*t3*t3=0-x.b.b
  rw[assoc_q2,h3,mul_neg_q2]
 ·show x.b.c*t5*t5*t5=0-x.b.c
  rw[assoc_q2,h5,mul_neg_q2]
def tn (i:Int):F2:=cj2 (tur i)*tur i
theorem frb_frb (x:F12):frb (frb x)=frS (tn 1) (tn 2) (tn 3) (tn 4) (tn 5) x:=frT_two (tur 1) (tur 2) (tur 3) (tur 4) (tur 5) x
theorem tn2:tn 2*tn 2*tn 2=(1,0):=by decide +kernel
theorem tn4:tn 4*tn 4*tn 4=(1,0):=by decide +kernel
theorem tn1:tn 1*tn 1*tn 1=(0-1,0):=by decide +kernel
theorem tn3:tn 3*tn 3*tn 3=(0-1,0):=by decide +kernel
theorem tn5:tn 5*tn 5*tn 5=(0-1,0):=by decide +kernel
section
variable {G:Type} [CRing G]
theorem pow_six (e:G) (p:Nat):gpow e (p ^ 6+1)=gpow (gpow (gpow (gpow (gpow (gpow e p) p) p) p) p) p*e:=by
 have h:p ^ 6=p*p*p*p*p*p:=by rw[Nat.pow_succ,Nat.pow_succ,Nat.pow_succ,Nat.pow_succ,Nat.pow_succ,Nat.pow_one]
 rw[h,gpow_add,gpow_one,gpow_gpow,gpow_gpow,gpow_gpow,gpow_gpow,gpow_gpow]
end
theorem unit_six {e:F12} (he:e*cjp e=1):gpow e (pN ^ 6+1)=1:=by
 rw[pow_six,frb_is,frb_is,frb_is,frb_is,frb_is,frb_is,frb_frb,frb_frb,frb_frb,frS_three tn1 tn2 tn3 tn4 tn5]
 refine Eq.trans ?_ he
 generalize cjp e=c
 grind
end

set_option linter.unusedSectionVars false
section

theorem inv6_is (y:F6):Fld.inv y=invE3 y:=rfl
section
variable {R:Type} [CRing R]
theorem neg0_g (y:R):0-y = -y:=by grind
end
theorem ivp_is (x:F12):ivp x=invE2 x:=by
 unfold invE2 nrmE2
 rw[inv6_is]
 unfold ivp
 generalize invE3 (x.a*x.a-Nrs.xi*(x.b*x.b))=n
 rw[neg0_g]
theorem et_is12 (f:F12):cjp f*ivp f=et f:=by rw[cjp_cj,ivp_is];rfl
def finC (e:F12):F12:=finB (frb (frb e)*e)
theorem fin12_is (f:F12):fin12 f=finC (et f):=by
 rw[←et_is12]
 rfl
theorem gpi_mul (x y:F12) (n:Int):gpi (x*y) n=gpi x n*gpi y n:=by rw[gpi_is,gpi_is,gpi_is,gpow_mul]
theorem finG_mul (x y:F12):finG (x*y)=finG x*finG y:=by unfold finG;rw[gpi_mul,gpi_mul]
theorem finK_mul (x y:F12):finK (x*y)=finK x*finK y:=by
 unfold finK
 rw[gpi_mul,cjp_mul,frb_mul]
 generalize cjp (gpi x 15132376222941642752)=a
 generalize cjp (gpi y 15132376222941642752)=b
 generalize frb x=c
 generalize frb y=d
 grind
theorem finH_mul (x y:F12):finH (x*y)=finH x*finH y:=by unfold finH;rw[gpi_mul,gpi_mul]
theorem finB_mul (x y:F12):finB (x*y)=finB x*finB y:=by
 unfold finB
 rw[finG_mul,finK_mul,finH_mul,cjp_mul,frb_mul,frb_mul]
 generalize finH (finK (finG x))=a1
 generalize finH (finK (finG y))=a2
 generalize frb (frb (finK (finG x)))=b1
 generalize frb (frb (finK (finG y)))=b2
 generalize cjp (finK (finG x))=c1
 generalize cjp (finK (finG y))=c2
 grind
theorem finC_mul (x y:F12):finC (x*y)=finC x*finC y:=by
 unfold finC
 have e:frb (frb (x*y))*(x*y)=frb (frb x)*x*(frb (frb y)*y):=by
  rw[frb_mul,frb_mul]
  generalize frb (frb x)=a
  generalize frb (frb y)=b
  grind
 rw[e,finB_mul]
end

section

theorem num_L:(15132376222941642752:Int).toNat=15132376222941642752:=by decide +kernel
theorem num_A:(15132376222941642753:Int).toNat=15132376222941642753:=by decide +kernel
theorem num_B:(5044125407647214251:Int).toNat=5044125407647214251:=by decide +kernel
theorem num_is:(pN ^ 2+1)*(15132376222941642752+pN)*(15132376222941642753*5044125407647214251)*(pN*(15132376222941642752*15132376222941642752)+pN*(pN*pN)+15132376222941642752)+(pN ^ 2+1)*(15132376222941642752+pN)=(pN ^ 2+1)*(15132376222941642752+pN)*(15132376222941642753*5044125407647214251)*(pN+15132376222941642752*(15132376222941642752*15132376222941642752)+15132376222941642752*(pN*pN))+(pN ^ 6+1)*(15132376222941642753*5044125407647214251):=by decide +kernel
section
variable {G:Type} [CRing G]
theorem shape_a (e:G) (p L:Nat):gpow (gpow (gpow e L*gpow e p) p) p*(gpow e L*gpow e p)=gpow e ((p ^ 2+1)*(L+p)):=by
 have h:(L+p)*(p*p)+(L+p)=(p ^ 2+1)*(L+p):=by rw[Nat.pow_two,Nat.mul_comm (p*p+1),Nat.mul_add,Nat.mul_one]
 rw[←gpow_add,←gpow_gpow,←gpow_gpow,←gpow_add,h]
end
theorem fin_var {e:F12} (he:e*cjp e=1) (p L A B:Nat) (fr:∀x,frb x=gpow x p) (h6:gpow e (p ^ 6+1)=1)
  (num:(p ^ 2+1)*(L+p)*(A*B)*(p*(L*L)+p*(p*p)+L)+(p ^ 2+1)*(L+p)=(p ^ 2+1)*(L+p)*(A*B)*(p+L*(L*L)+L*(p*p))+(p ^ 6+1)*(A*B))
  (hG:∀x,finG x=gpow (gpow x A) B) (hK:∀g,finK g=cjp (gpow g L)*frb g) (hH:∀k,finH k=gpow (gpow k L) L):finC (gpow e L*frb e)=1:=by
 have ha:=shape_a e p L
 unfold finC finB
 rw[fr e,fr (gpow e L*gpow e p),fr (gpow (gpow e L*gpow e p) p),ha,hH,fr (finK _),fr (gpow (finK _) p)]
 exact fin_one cjp_mul cjp_cjp cjp_one he h6 num rfl ((hG _).trans (gpow_gpow _ A B).symm) ((hK _).trans (by rw[fr]))
theorem finC_one {e:F12} (he:e*cjp e=1):finC (gpow e 15132376222941642752*frb e)=1:=
 fin_var he pN 15132376222941642752 15132376222941642753 5044125407647214251 (fun x=>(frb_is x).symm) (unit_six he) num_is
  (fun x=>by unfold finG;rw[gpi_is,gpi_is,num_A,num_B]) (fun g=>by unfold finK;rw[gpi_is,num_L]) (fun k=>by unfold finH;rw[gpi_is,gpi_is,num_L])
end

set_option linter.unusedSectionVars false
section

def gm:F2:=(Fin.ofNat pN 877076961050607968509681729531255177986764537961432449499635504522207616027455086505066378536590128544573588734230,Fin.ofNat pN 877076961050607968509681729531255177986764537961432449499635504522207616027455086505066378536590128544573588734230)
def f0E (x:Fp):F6:=upE ((x,0):F2)
section
variable {r:Nat} [NeZero r]
theorem lo_add (x y:Fin r):((x+y,0):Q2 r)=(x,0)+(y,0):=q2_ext rfl (by show 0=(0:Fin r)+0;grind)
theorem lo_sub (x y:Fin r):((x-y,0):Q2 r)=(x,0)-(y,0):=q2_ext rfl (by show 0=(0:Fin r)-0;grind)
theorem lo_mul (x y:Fin r):((x*y,0):Q2 r)=(x,0)*(y,0):=q2_ext (by show x*y=x*y-0*0;grind) (by show 0=x*0+0*y;grind)
theorem lo_scl (z:Q2 r) (n:Fin r):((z.1*n,z.2*n):Q2 r)=z*(n,0):=q2_ext (by show z.1*n=z.1*n-z.2*0;grind) (by show z.2*n=z.1*0+z.2*n;grind)
def cjQ (x:Q2 r):Q2 r:=(x.1,0-x.2)
theorem cjQ_add (x y:Q2 r):cjQ (x+y)=cjQ x+cjQ y:=q2_ext rfl (by show 0-(x.2+y.2)=(0-x.2)+(0-y.2);grind)
theorem cjQ_sub (x y:Q2 r):cjQ (x-y)=cjQ x-cjQ y:=q2_ext rfl (by show 0-(x.2-y.2)=(0-x.2)-(0-y.2);grind)
theorem cjQ_mul (x y:Q2 r):cjQ (x*y)=cjQ x*cjQ y:=q2_ext (by simp only[cjQ,mul1,mul2];grind) (by simp only[cjQ,mul1,mul2];grind)
theorem cjQ_neg (x:Q2 r):cjQ (-x) = -cjQ x:=by
 have e:-x=0-x:=by grind
 have e2:-cjQ x=0-cjQ x:=by grind
 rw[e,e2,cjQ_sub]
 have:cjQ (0:Q2 r)=0:=q2_ext rfl (by show (0:Fin r)-0=0;grind)
 rw[this]
theorem cjQ_lo (x:Fin r):cjQ ((x,0):Q2 r)=(x,0):=q2_ext rfl (by show (0:Fin r)-0=0;grind)
theorem cjQ_zero (x:Q2 r) (h:cjQ x=0):x=0:=by
 have h1:x.1=0:=congrArg Prod.fst h
 have h2:0-x.2=0:=congrArg Prod.snd h
 exact q2_ext h1 (by show x.2=0;clear h h1;grind)
end
section
variable {R:Type} [Fld R] [DecidableEq R] [Nrs R]
theorem up_add (x y:R):upE (x+y)=upE x+upE y:=(e3_sum x y).symm
theorem up_mul (x y:R):upE (x*y)=upE x*upE y:=(e3_low x y).symm
theorem up_sub (x y:R):upE (x-y)=upE x-upE y:=E3.ext' rfl (by show (0:R)=0-0;grind) (by show (0:R)=0-0;grind)
theorem up_xi (x:R):letI:=nrsE3 (F:=R);upE x*Nrs.xi=(⟨0,x,0⟩:E3 R):=by
 letI:=nrsE3 (F:=R)
 refine E3.ext' ?_ ?_ ?_
 all_goals
  simp only[upE,Nrs.xi,E3.mul_a,E3.mul_b,E3.mul_c]<;>grind
theorem evl_lin1 (x y l m:R):letI:=nrsE3 (F:=R);evl upE (upE x*Nrs.xi) (upE y*Nrs.xi) (some (l,m))=linG (-m) (-(l*x)) y:=by
 letI:=nrsE3 (F:=R)
 refine E2.ext' (E3.ext' ?_ ?_ ?_) (E3.ext' ?_ ?_ ?_)
 all_goals
  simp only[evl,linG,upE,Nrs.xi,E3.mul_a,E3.mul_b,E3.mul_c,E3.add_a,E3.add_b,E3.add_c,E3.neg_a,E3.neg_b,E3.neg_c]
  grind
def linH (y a b:R):E2 (E3 R):=⟨⟨y,0,0⟩,⟨a,b,0⟩⟩
theorem lae_lin1 (l m x y:R):letI:=nrsE3 (F:=R);(⟨upE y,-(upE l*upE x+upE m*Nrs.xi)⟩:E2 (E3 R))=linH y (-(l*x)) (-m):=by
 letI:=nrsE3 (F:=R)
 refine E2.ext' (E3.ext' ?_ ?_ ?_) (E3.ext' ?_ ?_ ?_)
 all_goals
  simp only[linH,upE,Nrs.xi,E3.mul_a,E3.mul_b,E3.mul_c,E3.add_a,E3.add_b,E3.add_c,E3.neg_a,E3.neg_b,E3.neg_c]<;>grind
theorem ass_linG {a b c a' b' c' : R} (h1:a*c' = a' * c) (h2:b*c' = b' * c):letI:=nrsE3 (F:=R);Ass (linG a b c) (linG a' b' c'):=by
 letI:=nrsE3 (F:=R)
 refine E3.ext' ?_ ?_ ?_
 ·show a*0+Nrs.xi*(b*0+0*c')=a' * 0+Nrs.xi*(b' * 0+0*c);grind
 ·show a*c' + b*0+Nrs.xi*(0*0)=a' * c+b' * 0+Nrs.xi*(0*0);rw[h1];grind
 ·show a*0+b*c' + 0*0=a' * 0+b' * c+0*0;rw[h2];grind
theorem ass_linH {y a b y' a' b' : R} (h1:y*a' = y' * a) (h2:y*b' = y' * b):letI:=nrsE3 (F:=R);Ass (linH y a b) (linH y' a' b'):=by
 letI:=nrsE3 (F:=R)
 refine E3.ext' ?_ ?_ ?_
 ·show y*a' + Nrs.xi*(0*0+0*b')=y' * a+Nrs.xi*(0*0+0*b);rw[h1];grind
 ·show y*b' + 0*a' + Nrs.xi*(0*0)=y' * b+0*a+Nrs.xi*(0*0);rw[h2];grind
 ·show y*0+0*b' + 0*a' = y' * 0+0*b+0*a;grind
theorem turn_G {m' l' x y t2 t3 g:R} (h2:g*t3=t2) (h3:g*g*g*t3=1):letI:=nrsE3 (F:=R);Ass (linG (-(m' * (g*g*g))) (-(l' * g*x)) y) (linG (-m') (-(l' * x)*t2) (y*t3)):=by
 refine ass_linG ?_ ?_
 ·have:-(m' * (g*g*g))*(y*t3) = -m' * y*(g*g*g*t3):=by clear h2 h3;grind
  rw[this,h3];clear this h2 h3;grind
 ·rw[←h2];clear h2 h3;grind
theorem turn_H {y' l x' m t1 t3 g:R} (h1:g*t1=1) (h3:g*g*g*t3=1):letI:=nrsE3 (F:=R);Ass (linH (y' * (g*g*g)) (-(l*(x' * (g*g)))) (-m)) (linH y' (-(l*x')*t1) (-m*t3)):=by
 refine ass_linH ?_ ?_
 ·have:y' * (g*g*g)*(-(l*x')*t1)=y' * -(l*(x' * (g*g)))*(g*t1):=by clear h1 h3;grind
  rw[this,h1];clear this h1 h3;grind
 ·have:y' * (g*g*g)*(-m*t3)=y' * -m*(g*g*g*t3):=by clear h1 h3;grind
  rw[this,h3];clear this h1 h3;grind
end
theorem emb:Emb fp4 fq4 f0E (upE:F2→F6) where
 h0:=⟨fun x y=>(congrArg upE (lo_add x y)).trans (up_add _ _),fun x y=>(congrArg upE (lo_mul x y)).trans (up_mul _ _),fun x y=>(congrArg upE (lo_sub x y)).trans (up_sub _ _)⟩
 h:=⟨up_add,up_mul,up_sub⟩
 n0:=fun y hy h=>by
  have k:=(up_xi ((y,0):F2)).symm.trans h
  exact hy (congrArg (fun z:F6=>z.b.1) k)
 n:=fun y hy h=>hy (congrArg E3.a h)
 hb:=by decide +kernel
 c0:=cv1
 c:=cv2
 ns:=v_no_square
theorem gm1:gm*tur 1=1:=by decide +kernel
theorem gm2:gm*tur 3=tur 2:=by decide +kernel
theorem gm3:gm*gm*gm*tur 3=1:=by decide +kernel
theorem tuQ:Tu cj2 gm fq4 where
 h:=⟨cjQ_add,cjQ_mul,cjQ_sub⟩
 i:=cjQ_zero
 g0:=by decide +kernel
 b:=by decide +kernel
theorem cj_pow (x:F12):∀n,gpow (cj x) n=cj (gpow x n)
 | 0=>cj_one.symm
 | n+1=>by
  show gpow (cj x) n*cj x=cj (gpow x n*x)
  rw[cj_pow x n,cj_mul]
theorem frb_one:frb 1=1:=by decide +kernel
theorem cj2_zero:cj2 0=0:=by decide +kernel
section
variable {R:Type} [CRing R]
theorem zmul (t:R):0*t=0:=by grind
end
theorem frb_linG (a b c:F2):frb (linG a b c)=linG (cj2 a) (cj2 b*tur 2) (cj2 c*tur 3):=by
 refine E2.ext' (E3.ext' rfl rfl ?_) (E3.ext' ?_ rfl ?_)
 ·show cj2 0*tur 4=0;rw[cj2_zero,zmul]
 ·show cj2 0*tur 1=0;rw[cj2_zero,zmul]
 ·show cj2 0*tur 5=0;rw[cj2_zero,zmul]
theorem frb_linH (y a b:F2):frb (linH y a b)=linH (cj2 y) (cj2 a*tur 1) (cj2 b*tur 3):=by
 refine E2.ext' (E3.ext' rfl ?_ ?_) (E3.ext' rfl rfl ?_)
 ·show cj2 0*tur 2=0;rw[cj2_zero,zmul]
 ·show cj2 0*tur 4=0;rw[cj2_zero,zmul]
 ·show cj2 0*tur 5=0;rw[cj2_zero,zmul]
theorem cj2_mul (x y:F2):cj2 (x*y)=cj2 x*cj2 y:=cjQ_mul x y
theorem cj2_neg (x:F2):cj2 (-x) = -cj2 x:=cjQ_neg x
theorem cj2_lo (x:Fp):cj2 ((x,0):F2)=(x,0):=cjQ_lo x
theorem frl:Frl f0E (upE:F2→F6) cj2 gm frb where
 m:=frb_mul
 o:=frb_one
 c:=fun x=>(frb_is (cj x)).symm.trans ((cj_pow x pN).trans (congrArg cj (frb_is x)))
 e:=fun x y l m=>by
  have k1:=evl_lin1 ((x,0):F2) (y,0) (cj2 l*gm) (cj2 m*(gm*gm*gm))
  have k2:=evl_lin1 ((x,0):F2) (y,0) l m
  have k3:=(congrArg frb k2).trans (frb_linG _ _ _)
  rw[cj2_neg,cj2_neg,cj2_mul,cj2_lo,cj2_lo] at k3
  have k4:=turn_G (m' := cj2 m) (l' := cj2 l) (x:=((x,0):F2)) (y:=(y,0)) gm2 gm3
  exact (congrArg (fun u=>Ass u _) k1).mpr ((congrArg (fun u=>Ass _ u) k3).mpr k4)
 l:=fun l a=>by
  have k1:=lae_lin1 ((l.1,0):F2) (l.2,0) (cj2 a.1*(gm*gm)) (cj2 a.2*(gm*gm*gm))
  have k2:=lae_lin1 ((l.1,0):F2) (l.2,0) a.1 a.2
  have k3:=(congrArg frb k2).trans (frb_linH _ _ _)
  rw[cj2_neg,cj2_neg,cj2_mul,cj2_lo,cj2_lo] at k3
  have k4:=turn_H (y' := cj2 a.2) (l:=((l.1,0):F2)) (x' := cj2 a.1) (m:=(l.2,0)) gm1 gm3
  exact (congrArg (fun u=>Ass u _) k1).mpr ((congrArg (fun u=>Ass _ u) k3).mpr k4)
end

set_option linter.unusedSectionVars false
section

section
variable {F:Type} [Fld F] [DecidableEq F] {b:F}
def jbst (a s:F×F×F) (z:Bool):F×F×F:=if z=true then jpl (jtw s) a else jtw s
def jbs (a:F×F×F) (l:List Bool):F×F×F:=l.foldl (jbst a) a
theorem jbs_ok (hc:Cv b) {P:Pt F} {a:F×F×F} (hP:OnC b P) (h:Jc P a):∀(l:List Bool) (n:Nat) (s:F×F×F),Jc (nmul P n) s→Jc (nmul P (l.foldl nst n)) (l.foldl (jbst a) s)
 | [],_,_,hs=>hs
 | z::l,n,s,hs=>by
  refine jbs_ok hc hP h l (nst n z) _ ?_
  have J1:Jc (nmul P (n+n)) (jtw s):=by rw[nmul_add hc hP];exact jtw_ok hc.two _ _ hs
  cases z with
  | false=>exact J1
  | true=>exact jpl_ok hc.two _ _ _ _ J1 h
theorem nmul_jbs (hc:Cv b) {P:Pt F} {a:F×F×F} (hP:OnC b P) (h:Jc P a) (l:List Bool) {n:Nat} (hn:l.foldl nst 1=n):Jc (nmul P n) (jbs a l):=hn ▸ jbs_ok hc hP h l 1 a h
theorem jc_none {P:Pt F} {t:F×F×F} (h:Jc P t) (hz:t.2.2=0):P=none:=by
 cases P with
 | none=>rfl
 | some p=>exact absurd hz h.1
theorem jc_same {P Q:Pt F} {t:F×F×F} (h:Jc P t) (k:Jc Q t):P=Q:=(jpt_of P t h).symm.trans (jpt_of Q t k)
theorem mlt_val (hc:Cv b) (X:CP b):∀n,(letI:=cpAG hc;mlt X n).1=nmul X.1 n
 | 0=>rfl
 | n+1=>by
  show gadd (letI:=cpAG hc;mlt X n).1 X.1=gadd (nmul X.1 n) X.1
  rw[mlt_val hc X n]
end
@[reducible] instance agQ:AG (CP fq4):=cpAG cv2
@[reducible] instance agP:AG (CP fp4):=cpAG cv1
def hPt:F2×F2:=((Fin.ofNat pN 352701069587466618187139116011060144890029952792775240219908644239793785735715026873347600343865175952761926303160,Fin.ofNat pN 3059144344244213709971259814753781636986470325476647558659373206291635324768958432433509563104347017837885763365758),(Fin.ofNat pN 1985150602287291935568054521177171638300868978215655730859378665066344726373823718423869104263333984641494340347905,Fin.ofNat pN 927553665492332455747201965776037880757740193453592970025027978793976877002675564980949289727957565575433344219582))
def uPt:F2×F2:=((Fin.ofNat pN 1117537858402150239581489583423215310817594763587075173510352554317036724133868662355368490764272633936142202708396,Fin.ofNat pN 598156863305241747249262889660708741642521236408786009817264754940573902844630362426503131117978715071394150269485),(Fin.ofNat pN 1201985429637510306336279274905740415478318848439253116206132776238306151744392340446480012257797801557570457579778,Fin.ofNat pN 2343949297471243289497692297768928841657631340968057880984352745333316400744261991566673533373889824163548528572929))
def gPt:Fp×Fp:=(Fin.ofNat pN 3685416753713387016781088315183077757961620795782546409894578378688607592378376318836054947676345821548104185464507,Fin.ofNat pN 1339506544944476473020471379941921221584933875938349620426543736416511423956333506472724655353366534992391756441569)
theorem h_on:hPt.2*hPt.2=hPt.1*hPt.1*hPt.1+fq4:=by decide +kernel
theorem u_on:uPt.2*uPt.2=uPt.1*uPt.1*uPt.1+fq4:=by decide +kernel
theorem g_on:gPt.2*gPt.2=gPt.1*gPt.1*gPt.1+fp4:=by decide +kernel
def ptH:CP fq4:=⟨some hPt,h_on⟩
def ptU:CP fq4:=⟨some uPt,u_on⟩
def ptG:CP fp4:=⟨some gPt,g_on⟩
section
variable {F:Type} [Fld F]
theorem jc_aff (p:F×F) (o:F) (ho:o=1):Jc (some p) (p.1,p.2,o):=by
 subst ho
 refine ⟨Fld.one_ne,?_,?_⟩
 ·show p.1=p.1*(1*1);generalize p.1=x;grind
 ·show p.2=p.2*(1*1*1);generalize p.2=x;grind
end
theorem bits_r:(btL rN 255 255).tail.foldl nst 1=rN:=by decide +kernel
theorem bits_q:(btL qU 448 448).tail.foldl nst 1=qU:=by decide +kernel
theorem bits_L:(btL milN 64 64).tail.foldl nst 1=milN:=by decide +kernel
theorem h_zero:(jbs (hPt.1,hPt.2,(1:F2)) (btL rN 255 255).tail).2.2=0:=by decide +kernel
theorem u_zero:(jbs (uPt.1,uPt.2,(1:F2)) (btL qU 448 448).tail).2.2=0:=by decide +kernel
theorem g_zero:(jbs (gPt.1,gPt.2,(1:Fp)) (btL rN 255 255).tail).2.2=0:=by decide +kernel
theorem jc_mk {F:Type} [Fld F] {p:F×F} {t:F×F×F} (h:t.2.2≠0∧t.1=p.1*(t.2.2*t.2.2)∧t.2.1=p.2*(t.2.2*t.2.2*t.2.2)):Jc (some p) t:=h
theorem h_turn:(jbs (hPt.1,hPt.2,(1:F2)) (btL milN 64 64).tail).2.2≠0∧(jbs (hPt.1,hPt.2,(1:F2)) (btL milN 64 64).tail).1=(ngp (tu cj2 gm hPt)).1*((jbs (hPt.1,hPt.2,(1:F2)) (btL milN 64 64).tail).2.2*(jbs (hPt.1,hPt.2,(1:F2)) (btL milN 64 64).tail).2.2)∧(jbs (hPt.1,hPt.2,(1:F2)) (btL milN 64 64).tail).2.1=(ngp (tu cj2 gm hPt)).2*((jbs (hPt.1,hPt.2,(1:F2)) (btL milN 64 64).tail).2.2*(jbs (hPt.1,hPt.2,(1:F2)) (btL milN 64 64).tail).2.2*(jbs (hPt.1,hPt.2,(1:F2)) (btL milN 64 64).tail).2.2):=by decide +kernel
theorem h_jc:Jc (some (ngp (tu cj2 gm hPt))) (jbs (hPt.1,hPt.2,(1:F2)) (btL milN 64 64).tail):=jc_mk h_turn
section
variable {F:Type} [Fld F] [DecidableEq F] {b:F}
theorem mlt_none (hc:Cv b) (X:CP b) {p:F×F} (hX:X.1=some p) {n:Nat} (l:List Bool) (hn:l.foldl nst 1=n) {o:F} (ho:o=1) (hz:(jbs (p.1,p.2,o) l).2.2=0):letI:=cpAG hc;mlt X n=0:=by
 letI:=cpAG hc
 have k:=mlt_val hc X n
 rw[hX] at k
 exact Subtype.ext (k.trans (jc_none (nmul_jbs hc (hX ▸ X.2) (jc_aff p o ho) l hn) hz))
theorem mlt_some (hc:Cv b) (X:CP b) {p q:F×F} (hX:X.1=some p) {n:Nat} (l:List Bool) (hn:l.foldl nst 1=n) {o:F} (ho:o=1) (hz:Jc (some q) (jbs (p.1,p.2,o) l)):letI:=cpAG hc;(mlt X n).1=some q:=by
 letI:=cpAG hc
 have k:=mlt_val hc X n
 rw[hX] at k
 exact k.trans (jc_same (nmul_jbs hc (hX ▸ X.2) (jc_aff p o ho) l hn) hz)
theorem pt_ne (hc:Cv b) {X:CP b} {p:F×F} (h:X.1=some p):letI:=cpAG hc;X≠0:=by
 letI:=cpAG hc
 intro e
 rw[e] at h
 have h:(none:Pt F)=some p:=h
 cases h
end
theorem H_r:mlt ptH rN=0:=mlt_none cv2 ptH (p:=hPt) rfl (n:=rN) (btL rN 255 255).tail bits_r (o:=1) rfl h_zero
theorem U_q:mlt ptU qU=0:=mlt_none cv2 ptU (p:=uPt) rfl (n:=qU) (btL qU 448 448).tail bits_q (o:=1) rfl u_zero
theorem G_r:mlt ptG rN=0:=mlt_none cv1 ptG (p:=gPt) rfl (n:=rN) (btL rN 255 255).tail bits_r (o:=1) rfl g_zero
theorem H_L:(mlt ptH milN).1=gneg (ptu cj2 gm ptH.1):=mlt_some cv2 ptH (p:=hPt) (q:=ngp (tu cj2 gm hPt)) rfl (n:=milN) (btL milN 64 64).tail bits_L (o:=1) rfl h_jc
theorem enc_lt (x:F2):x.1.val*pN+x.2.val<pN*pN:=by
 have h1:=x.1.isLt
 have h2:=x.2.isLt
 have:=Nat.mul_le_mul_right pN (Nat.le_sub_one_of_lt h1)
 have h3:(pN-1)*pN+pN=pN*pN:=by
  rw[←Nat.succ_mul]
  congr 1
 exact Nat.lt_of_lt_of_le (Nat.add_lt_add_of_le_of_lt this h2) (Nat.le_of_eq h3)
theorem enc_inj (x y:F2) (h:x.1.val*pN+x.2.val=y.1.val*pN+y.2.val):x=y:=by
 have h1:(x.1.val*pN+x.2.val) / pN=(y.1.val*pN+y.2.val) / pN:=by rw[h]
 have h2:(x.1.val*pN+x.2.val) % pN=(y.1.val*pN+y.2.val) % pN:=by rw[h]
 have hp:0<pN:=by decide +kernel
 rw[Nat.mul_comm,Nat.mul_add_mod,Nat.mul_comm y.1.val,Nat.mul_add_mod,Nat.mod_eq_of_lt x.2.isLt,Nat.mod_eq_of_lt y.2.isLt] at h2
 rw[Nat.mul_comm,Nat.mul_add_div hp,Nat.mul_comm y.1.val,Nat.mul_add_div hp,Nat.div_eq_of_lt x.2.isLt,Nat.div_eq_of_lt y.2.isLt] at h1
 exact Prod.ext (Fin.ext h1) (Fin.ext h2)
theorem size_Q:2*(pN*pN)+1<qU*(rN*rN):=by decide +kernel
theorem r_pos:0<rN:=by decide +kernel
theorem q_pos:0<qU:=by decide +kernel
theorem gcd_rq:Nat.gcd rN qU=1:=by decide +kernel
theorem mult_H {A:CP fq4} (hA:mlt A rN=0):Mul1 ptH A:=
 all_mult (cp_card (b:=fq4) (fun x:F2=>x.1.val*pN+x.2.val) (pN*pN) enc_lt enc_inj) size_Q ir_r r_pos ir_q q_pos gcd_rq hA H_r U_q (pt_ne cv2 (X:=ptH) (p:=hPt) rfl) (pt_ne cv2 (X:=ptU) (p:=uPt) rfl)
theorem turn_gen {n:Nat} (hn:(mlt ptH n).1=gneg (ptu cj2 gm ptH.1)) (A:CP fq4) (hA:mlt A rN=0):(mlt A n).1=gneg (ptu cj2 gm A.1):=by
 obtain ⟨m,rfl⟩:=mult_H hA
 clear hA
 rw[mlt_swap]
 induction m with
 | zero=>rfl
 | succ m ih=>
  show gadd (mlt (mlt ptH n) m).1 (mlt ptH n).1=gneg (ptu cj2 gm (gadd (mlt ptH m).1 ptH.1))
  rw[ih,hn,←(lda_tu cv2 tuQ (mlt ptH m).2 ptH.2).2]
  exact (congrArg Subtype.val (AG.ng_add (M:=CP fq4) (⟨ptu cj2 gm (mlt ptH m).1,tu_on tuQ (mlt ptH m).2⟩:CP fq4) ⟨ptu cj2 gm ptH.1,tu_on tuQ ptH.2⟩)).symm

def SQ (X:CP fq4):Prop:=mlt X rN=0
theorem SQ_zero:SQ 0:=mlt_zero rN
theorem SQ_add {x y:CP fq4} (hx:SQ x) (hy:SQ y):SQ (x+y):=by
 show mlt (x+y) rN=0
 rw[mlt_sum,show mlt x rN=0 from hx,show mlt y rN=0 from hy]
 grind
section
variable {M:Type} [IMod M]
theorem mlt_three (x:M):mlt x 3=x+x+x:=by show 0+x+x+x=_;grind
theorem mlt_five (x:M):mlt x 5=x+x+x+x+x:=by show 0+x+x+x+x+x=_;grind
end
theorem SQ_h3 (X:CP fq4) (h:SQ X):(X+X+X=0→X=0)∧(X+X+X+X+X=0→X=0):=
 ⟨fun e=>mlt_zgcd 3 rN ((mlt_three X).trans e) h (by decide +kernel),fun e=>mlt_zgcd 5 rN ((mlt_five X).trans e) h (by decide +kernel)⟩
abbrev DpE (P:Pt Fp):CP fq4→CP fq4→F12:=fun A B=>Dp f0E (upE:F2→F6) P A.1 B.1
theorem cocE {P:Pt Fp} (hP:OnC fp4 P):Coc SQ (DpE P):=dp_coc emb hP SQ_zero SQ_add SQ_h3
theorem et_cjs {u:F12} (hu:u≠0):et u*cjp (et u)=1:=by
 rw[cjp_cj]
 have h:cj (et u)=et (cj u):=et_is v_no_square (cj_ne v_no_square hu) (by rw[←cj_mul,et_mul_self v_no_square hu])
 rw[h]
 have k:=et_cj v_no_square hu
 generalize et u=a at *
 generalize et (cj u)=c at *
 rw[←k];clear k h;grind
theorem one_cjp:(1:F12)*cjp 1=1:=by rw[cjp_one];exact E2.one_mul 1
theorem dp_unit {P:Pt Fp} (hP:OnC fp4 P) (A B:Pt F2):Dp f0E (upE:F2→F6) P A B*cjp (Dp f0E (upE:F2→F6) P A B)=1:=by
 cases P with
 | none=>exact one_cjp
 | some p=>exact et_cjs (evl_ne emb hP _)
theorem ep_unit (P Q:Pt Fp) {A:Pt F2} (hA:OnC fq4 A):Ep f0E (upE:F2→F6) P Q A*cjp (Ep f0E (upE:F2→F6) P Q A)=1:=by
 cases A with
 | none=>rw[Ep_inf];exact one_cjp
 | some a=>
  cases k:lda P Q with
  | none=>rw[Ep_none k];exact one_cjp
  | some l=>rw[Ep_some k];exact et_cjs (lae_ne emb hA l)
theorem cjp_gpow (x:F12):∀n,cjp (gpow x n)=gpow (cjp x) n
 | 0=>cjp_one
 | n+1=>by
  show cjp (gpow x n*x)=gpow (cjp x) n*cjp x
  rw[cjp_mul,cjp_gpow x n]
theorem cjp_frb (x:F12):cjp (frb x)=frb (cjp x):=by rw[cjp_cj,cjp_cj,frl.c]
theorem finC_oneM {n:Nat} (hn:n=15132376222941642752) {e:F12} (he:e*cjp e=1):finC (gpow e n*frb e)=1:=by
 subst hn
 exact finC_one he
theorem kill {n:Nat} (hn:n=15132376222941642752) {e:F12} (he:e*cjp e=1):finC (cjp (gpow e n*frb e))=1:=by
 rw[cjp_mul,cjp_gpow,cjp_frb]
 refine finC_oneM hn ?_
 rw[cjp_cjp,←he]
 generalize cjp e=c
 clear he;grind
theorem finC_1g {n:Nat} (hn:n=15132376222941642752):finC 1=1:=by
 have k:=kill hn one_cjp
 rw[gpw_one,frb_one,E2.one_mul,cjp_one] at k
 exact k
theorem finC_1:finC 1=1:=finC_1g rfl
section
variable {M G:Type} [IMod M] [CRing G]
theorem gth_zero {S:M→Prop} {D:M→M→G} (h:Coc S D):∀n,gth D 0 n=1
 | 0=>rfl
 | n+1=>by
  show gth D 0 n*D (mlt 0 n) 0=1
  rw[gth_zero h n,mlt_zero,h.l h.z];grind
end
theorem kill2 {x y z w:F12} (h:x*w=y*z) (hw:finC (cjp w)=1):finC (cjp x)=finC (cjp y)*finC (cjp z):=by
 have k:finC (cjp (x*w))=finC (cjp (y*z)):=congrArg (fun u=>finC (cjp u)) h
 rw[cjp_mul,finC_mul,hw,cjp_mul,finC_mul,E2.mul_one] at k
 exact k
/-- The pairing of two points, by any number of steps. -/
def prgN (n:Nat) (P:Pt Fp) (Q:CP fq4):F12:=finC (cjp (gth (DpE P) Q n))
section
variable {n:Nat} (hn:n=15132376222941642752) (ht:∀A:CP fq4,SQ A→(mlt A n).1=gneg (ptu cj2 gm A.1))
theorem gth_none (A:CP fq4):∀n,gth (DpE none) A n=1
 | 0=>rfl
 | n+1=>by
  show gth (DpE none) A n*1=1
  rw[gth_none A n,E2.one_mul]
theorem prgN_zeroR (n:Nat) {P:Pt Fp} (hP:OnC fp4 P):prgN n P 0=1:=by
 unfold prgN
 rw[gth_zero (cocE hP),cjp_one,finC_1]
theorem prgN_zeroL (n:Nat) (A:CP fq4):prgN n none A=1:=by
 unfold prgN
 rw[gth_none,cjp_one,finC_1]
include hn ht
theorem prgN_addR {P:Pt Fp} (hP:OnC fp4 P) {A B:CP fq4} (hA:SQ A) (hB:SQ B):prgN n P (A+B)=prgN n P A*prgN n P B:=
 kill2 (gth_addR emb tuQ frl hP (cocE hP) hA hB (ht A hA) (ht B hB)) (kill hn (dp_unit hP _ _))
theorem prgN_addL {P Q:Pt Fp} (hP:OnC fp4 P) (hQ:OnC fp4 Q) {A:CP fq4} (hA:SQ A):prgN n (gadd P Q) A=prgN n P A*prgN n Q A:=
 kill2 (gth_addL emb tuQ frl hP hQ A (ht A hA)) (kill hn (ep_unit P Q A.2))
omit hn ht in
theorem SQ_mlt {A:CP fq4} (hA:SQ A) (m:Nat):SQ (mlt A m):=by
 show mlt (mlt A m) rN=0
 rw[mlt_swap,show mlt A rN=0 from hA,mlt_zero]
theorem prgN_mltR {P:Pt Fp} (hP:OnC fp4 P) {A:CP fq4} (hA:SQ A):∀m,prgN n P (mlt A m)=gpow (prgN n P A) m
 | 0=>prgN_zeroR n hP
 | m+1=>by
  show prgN n P (mlt A m+A)=gpow (prgN n P A) m*prgN n P A
  rw[prgN_addR hn ht hP (SQ_mlt hA m) hA,prgN_mltR hP hA m]
theorem prgN_nmulL {P:Pt Fp} (hP:OnC fp4 P) {A:CP fq4} (hA:SQ A):∀m,prgN n (nmul P m) A=gpow (prgN n P A) m
 | 0=>prgN_zeroL n A
 | m+1=>by
  show prgN n (gadd (nmul P m) P) A=gpow (prgN n P A) m*prgN n P A
  rw[prgN_addL hn ht (nmul_on cv1 hP m) hP hA,prgN_nmulL hP hA m]
end
theorem turn_all (A:CP fq4) (hA:SQ A):(mlt A milN).1=gneg (ptu cj2 gm A.1):=turn_gen H_L A hA
theorem milN_is:milN=15132376222941642752:=rfl
/-- The pairing of two points. -/
def prg (P:Pt Fp) (Q:CP fq4):F12:=prgN milN P Q
theorem prg_zeroR {P:Pt Fp} (hP:OnC fp4 P):prg P 0=1:=prgN_zeroR milN hP
theorem prg_zeroL (A:CP fq4):prg none A=1:=prgN_zeroL milN A
theorem prg_mltR {P:Pt Fp} (hP:OnC fp4 P) {A:CP fq4} (hA:SQ A) (m:Nat):prg P (mlt A m)=gpow (prg P A) m:=prgN_mltR milN_is turn_all hP hA m
theorem prg_nmulL {P:Pt Fp} (hP:OnC fp4 P) {A:CP fq4} (hA:SQ A) (m:Nat):prg (nmul P m) A=gpow (prg P A) m:=prgN_nmulL milN_is turn_all hP hA m
end

set_option linter.unusedSectionVars false
section

theorem scl_is (z:F2) (n:Fp):scl z n=z*(n,0):=lo_scl z n
theorem tch_G (t:F2×F2×F2) (x y:Fp):tch t x y=tchG t (x,0) (y,0):=by
 unfold tch
 rw[scl_is,scl_is]
 rfl
theorem thg_G (t q:F2×F2×F2) (x y:Fp):thg t q x y=thgG t q (x,0) (y,0):=by
 unfold thg
 rw[scl_is,scl_is]
 rfl
theorem up_ne {k:F2} (h:k≠0):(upE k:F6)≠0:=fun e=>h (congrArg E3.a e)
theorem mst_K (x y:Fp) (q:F2×F2×F2):mst x y q=mstK (fun t=>tch t x y) (fun t=>thg t q x y) q:=by kernel_rfl
theorem et_cjp {u:F12} (hu:u≠0):et (cjp u)=cjp (et u):=by
 rw[cjp_cj,cjp_cj]
 exact (et_is v_no_square (cj_ne v_no_square hu) (by rw[←cj_mul,et_mul_self v_no_square hu])).symm
theorem one_ne12:(1:F12)≠0:=fun e=>Fld.one_ne (congrArg E2.a e)
section
variable {M G:Type} [IMod M] [CRing G]
theorem gth_1 {S:M→Prop} {D:M→M→G} (h:Coc S D) {x:M} (hx:S x):gth D x 1=1:=by
 show 1*D 0 x=1
 rw[h.l hx];grind
end
theorem loop_gen {x y:Fp} (hP:OnC fp4 (some (x,y))) {Q:CP fq4} (hQ:SQ Q) {q:F2×F2} (hq:Q.1=some q) {q3:F2×F2×F2} (hj:Jc (some q) q3) {T1 T2:F2×F2×F2→F12}
    (h1:∀(p:F2×F2) (t:F2×F2×F2),OnC fq4 (some p)→Jc (some p) t→∃k,k≠0∧T1 t=(⟨k,0⟩:E2 F6)*evl upE (f0E x*Nrs.xi) (f0E y*Nrs.xi) (lda (some p) (some p)))
    (h2:∀(p:F2×F2) (t:F2×F2×F2),OnC fq4 (some p)→Jc (some p) t→p.1≠q.1→∃k,k≠0∧T2 t=(⟨k,0⟩:E2 F6)*evl upE (f0E x*Nrs.xi) (f0E y*Nrs.xi) (lda (some p) (some q)))
    {n:Nat} (l:List Bool) (hl:l.foldl nst 1=n) (hn:n+1<rN) {s:(F2×F2×F2)×F12} (hs1:s.1=q3) (hs2:s.2=1) :
    (l.foldl (mstK T1 T2 q3) s).2≠0∧et (l.foldl (mstK T1 T2 q3) s).2=gth (DpE (some (x,y))) Q n:=by
  subst hl
  have hne:Q≠0:=pt_ne cv2 hq
  have g0:∀m,0<m→m≤l.foldl nst 1+1→mlt Q m≠0:=fun m g1 g2=>mlt_ne ir_r hQ hne g1 (by omega)
  have g1:Jc (mlt Q 1).1 s.1:=by rw[show mlt Q 1=Q from mlt_one Q,hq,hs1];exact hj
  have g2:s.2≠0:=by rw[hs2];exact one_ne12
  have g3:et s.2=gth (DpE (some (x,y))) Q 1:=by
    rw[hs2,et_one v_no_square]
    exact (gth_1 (cocE hP) hQ).symm
  have k:=mil_inv emb hP (cocE hP) hQ hq hj (T1:=T1) (T2:=T2) (Eq.mpr (by kernel_rfl) h1) (Eq.mpr (by kernel_rfl) h2) l 1 s (Nat.le_refl 1) g0 g1 (Eq.mpr (by kernel_rfl) g2) g3
  obtain ⟨_,k2,k3⟩:=k
  exact ⟨Eq.mpr (by kernel_rfl) k2,Eq.mpr (by kernel_rfl) k3⟩
theorem tch_ok (x y:Fp) {p:F2×F2} (hp:OnC fq4 (some p)) {t:F2×F2×F2} (ht:Jc (some p) t):∃k,k≠0∧tch t x y=(⟨k,0⟩:E2 F6)*evl upE (f0E x*Nrs.xi) (f0E y*Nrs.xi) (lda (some p) (some p)):=by
 obtain ⟨k,k1,k2⟩:=tch_is cv2 hp ht ((x,0):F2) (y,0)
 exact ⟨upE k,Eq.mpr (by kernel_rfl) (up_ne k1),(tch_G t x y).trans (Eq.mpr (by kernel_rfl) k2)⟩
theorem thg_ok (x y:Fp) {p q:F2×F2} (hp:OnC fq4 (some p)) (hq:OnC fq4 (some q)) (hne:p.1≠q.1) {t q3:F2×F2×F2} (ht:Jc (some p) t) (hz:q3=(q.1,q.2,1)):∃k,k≠0∧thg t q3 x y=(⟨k,0⟩:E2 F6)*evl upE (f0E x*Nrs.xi) (f0E y*Nrs.xi) (lda (some p) (some q)):=by
 subst hz
 obtain ⟨k,k1,k2⟩:=thg_is cv2 hp hq hne ht 1 ((x,0):F2) (y,0)
 exact ⟨upE k,Eq.mpr (by kernel_rfl) (up_ne k1),(thg_G t (q.1,q.2,1) x y).trans (Eq.mpr (by kernel_rfl) k2)⟩
theorem mil_gen {x y:Fp} (hP:OnC fp4 (some (x,y))) {Q:CP fq4} (hQ:SQ Q) {q:F2×F2} (hq:Q.1=some q) {q3:F2×F2×F2} (hz:q3=(q.1,q.2,1)) {n:Nat} (l:List Bool) (hl:l.foldl nst 1=n) (hn:n+1<rN) {s:(F2×F2×F2)×F12} (hs1:s.1=q3) (hs2:s.2=1) :
  fin12 (cjp (l.foldl (mst x y q3) s).2)=prgN n (some (x,y)) Q:=by
 have hj:Jc (some q) q3:=by rw[hz];exact jc_aff q 1 rfl
 have oq:OnC fq4 (some q):=hq ▸ Q.2
 have k:=loop_gen hP hQ hq hj (T1:=fun t=>tch t x y) (T2:=fun t=>thg t q3 x y)
  (fun p t hp ht=>tch_ok x y hp ht) (fun p t hp ht hne=>thg_ok x y hp oq hne ht hz) l hl hn hs1 hs2
 have e:l.foldl (mst x y q3) s=l.foldl (mstK (fun t=>tch t x y) (fun t=>thg t q3 x y) q3) s:=by rw[mst_K]
 rw[e]
 generalize (l.foldl (mstK (fun t=>tch t x y) (fun t=>thg t q3 x y) q3) s).2=u at *
 rw[fin12_is,et_cjp k.1,k.2]
 rfl
theorem L_lt:milN+1<rN:=by decide +kernel
/-- What the program makes of two points that are not at infinity. -/
theorem mil_is {x y:Fp} (hP:OnC fp4 (some (x,y))) {Q:CP fq4} (hQ:SQ Q) {q:F2×F2} (hq:Q.1=some q) {q3:F2×F2×F2} (hz:q3=(q.1,q.2,1)):fin12 (mil x y q3)=prg (some (x,y)) Q:=
 mil_gen hP hQ hq hz (btL milN 64 64).tail bits_L L_lt rfl rfl
def pwb (x:F12) (l:List Bool):F12:=l.foldl (gst x) 1
theorem pwb_gen (x:F12) (l:List Bool) {n:Nat} (h:l.foldl nst 0=n):gpow x n=pwb x l:=h ▸ (gst_is x l 0).symm
theorem gpi_pwb (x:F12) (l:List Bool) (n:Int) {m:Nat} (hm:n.toNat=m) (h:l.foldl nst 0=m):gpi x n=pwb x l:=by rw[gpi_is,hm];exact pwb_gen x l h
end

section

def z_m:F12:=⟨⟨(Fin.ofNat pN 1846979733742619984236856519096961505208445084542243478292833414410313232237533907243873223977707181173091964108599,Fin.ofNat pN 365407202272051176779677544776498623663204201849587783087480754328259921374655803463339256418276596553498722730500),(Fin.ofNat pN 1911190202214193306915191356716142301130331169821418006776127252225453638404959874819864409062577222875009424983847,Fin.ofNat pN 3679292861835765883467971526569659371940848602799042554389237721905911544082360143923892401668358113856105294683991),(Fin.ofNat pN 2048706228926000143585595190501178899722334393191232002313286002301612148408673186740176657565554885032015484799561,Fin.ofNat pN 1941528177453715868023560981532865930033012600192205645353298847431525237698799555598314634997957011571128691368016)⟩,⟨(Fin.ofNat pN 2035712879703771928920753882730810723170553615583772682173309193126073890580984515411763578568445503451914173249443,Fin.ofNat pN 2907834186091693609740023504105558744656979486185667446279010118323342456602745240592912149552678189682088280549676),(Fin.ofNat pN 1421790502914473105444211451683241860962942039793317028247101372029878979007739224851131020099690234801601989789569,Fin.ofNat pN 3909972074827346416347607999507588686753975557379670554626250238677046122221576338852530510105548501062384172334641),(Fin.ofNat pN 3745541392790952208309249491525067142614413111609433735013854515389948791813214821166166779905186876590804694132896,Fin.ofNat pN 391714869254764547459313469459838962546079986178871748952864967824322933306180385378072835416624742514373976356399)⟩⟩
def z_e:F12:=⟨⟨(Fin.ofNat pN 1038073191547956796409026126878527268266470333355040852538473024278270963003608990329503419596226995509466091364281,Fin.ofNat pN 3472128712581537949760206934119993164102934148149591657022520829544656424752225682686329512606112979909590191069875),(Fin.ofNat pN 2534263294660501372298551917375746746088971440679951304452806090500958437583570399100257591792062280364101959774713,Fin.ofNat pN 226120475576023910458186354568120210768387840076254684535861946575969288857542481271780947500752793445098186233864),(Fin.ofNat pN 1161314499601140605061621386185046551864673398870606121070552226873391735549267290642645255723745001747290604370800,Fin.ofNat pN 2301761811495838010211397103530397764661212867299386216842190604737931490024083276544598849191731828693919031501243)⟩,⟨(Fin.ofNat pN 1101359075410896704516684587098874271743859023359536958181364457006937722628980652042521003077979438314663188928108,Fin.ofNat pN 3462181531384267964705894785715758591977722174550004475700089220209547927723681588659246838982473357725170126489634),(Fin.ofNat pN 195935104236643205428256232515341883457695583985633909267294720907483770166720912913565822209799242147021163718598,Fin.ofNat pN 1287996221979984214617076245476348766139561224958234245646224933442842926227832370671385213841157666392705275698306),(Fin.ofNat pN 2956194018199014813064850645607321544119010843269968507649317034045645971925442547220301238637714931742621408888299,Fin.ofNat pN 3257868591292127695426273984752163636650071375206943337305993232301098408247453798670221901046621246590503275656043)⟩⟩
def z_a:F12:=⟨⟨(Fin.ofNat pN 1510107722572828261550456151093864086691603914687768733547089522940763855394581829056943774158245330102175234867365,Fin.ofNat pN 808088717004703826527845002367721048328742280592989028558030142710212828338665719435559947605712112865726189666705),(Fin.ofNat pN 3710514574182005371926233043859060107788439815410187352828615120303774202962806625846108553355796224478762282615718,Fin.ofNat pN 3718410119742133333192092795470106941040113391850829632607903082329109300254219700624284948054717451211425800147146),(Fin.ofNat pN 3258996093706043078483052074983766734841692758717147460252044539419829763475289249153099003976736977297613956120486,Fin.ofNat pN 2368694829310213597069917632356869514055569781787290568526433824371764704323762446873487997487613368223346360443403)⟩,⟨(Fin.ofNat pN 825019717055119404488291944227878455588656804579258664131545285287600947107393882625533957511195351444914053275555,Fin.ofNat pN 1235237080506678848819252090840181863359857720799046539637838566547094823241749997397844433226723860984981410384623),(Fin.ofNat pN 2764381966972188833242976222377757459066036708528928840431954636069928496277414501615608427534705033883967463366461,Fin.ofNat pN 3950261173758068029169962917567733265997797709591473479657980127059112999656277408515066842040039285101520990525635),(Fin.ofNat pN 1261947073570269029040075154556515989509616962110692009464372009392016601853269864118522864681591239693361464667833,Fin.ofNat pN 1217072859421831304326757924601188491648346757263556492236697331750135459118781991687175033633434919933585395413051)⟩⟩
def z_g1:F12:=⟨⟨(Fin.ofNat pN 483422842865460960975360683702114890774652236718602907106293727446196211695581273973892359419995701245121992995932,Fin.ofNat pN 2222429867643352770373620402102901987490735137111375888176643315800991900757926591534439227271694953648151793490073),(Fin.ofNat pN 1610231307709252983729874367857479319336262477471876703530520453644123333657891264298201834448006573077855989948663,Fin.ofNat pN 3883156552931842258954066820918373383391036564109442315705756673666363391855252551117194480602926690221678027116094),(Fin.ofNat pN 3487256076643242096739625695434415784841696980413007827992375275914526691252467867196925701436642760753767022994301,Fin.ofNat pN 813845368504596805013206987507671669248149767947113052502533072429870854746035370668129256356175822471743790199901)⟩,⟨(Fin.ofNat pN 1927797602461781900086820045826522454704630925687809151875065518483635704814997569389244451712388306168900150958386,Fin.ofNat pN 847298330573190689045272099117471598078014883259199798869916916031475018353450749804637900679902831207603142280429),(Fin.ofNat pN 3181495748846431153534605515498972098909138481982325133651947125397286559591777687710504290184774857764937542436173,Fin.ofNat pN 3927442649956390445152114195600725081697808356048479001169541793773148602043543165637069657286618335111170148756235),(Fin.ofNat pN 3862461713938468101589408707758930616224752264359556066306406464341799679602123946570919867488829269571132542772045,Fin.ofNat pN 2313241134748716337674948143245730345706151910631567423961649313819758030894466160528567478647995009281984044836526)⟩⟩
def z_g:F12:=⟨⟨(Fin.ofNat pN 3727150175738056038437321238698697731781696080828773757040465011490166181611631337200778236356031642695439974349577,Fin.ofNat pN 1839616876754881781575858437310641937202581969126240033381844989596092734646398823766831267435784899908572145045229),(Fin.ofNat pN 1580184008049100904643447925191051042267566823155155928888485936743655907143247475057389383953654826599755381962794,Fin.ofNat pN 1005949275355438696672991010234449474573361999171252316254608330350763691274836406122448075879672385123810043437110),(Fin.ofNat pN 1585883970529978240440447542531357286798319535283777953821222332988572154537685743080024088316898147945266006734229,Fin.ofNat pN 1199950435371321038801444568252619754865232185458154947547888299091533290374719175887487243483924298314521692640896)⟩,⟨(Fin.ofNat pN 539680322645145116303307080724512506916061293076076986331653724442803312168823473248951745543834568468985016018192,Fin.ofNat pN 330947745919527821020935030651470241082031533021947398364489188527539447216233841244275379210418719581070542826781),(Fin.ofNat pN 2840388762593808083854887012734212079940937394313433939075964079968561662327095766812093669054050452258812556988242,Fin.ofNat pN 1271087477349948860464878134423988809838951568518485035210370323344073046381427019486706281467574774810664877475006),(Fin.ofNat pN 1345172911928469554826095690452192193536251277879245666210791152025976408422338480113649465367816341649210158049872,Fin.ofNat pN 1279259221751448315889073431954539259164919195792295350465434707814361055056283259375646338710602467184442465537696)⟩⟩
def z_k1:F12:=⟨⟨(Fin.ofNat pN 98106732922247232046294826107804893606305139741859558001246681532726008229110186069559361626155778899354839290029,Fin.ofNat pN 2411243288242059420409506076039276428512266365926037552111752313440190731179225607997767635017270349439125996541834),(Fin.ofNat pN 2683305819022892796578784263010312016630281780315918502717907372576263986315038237375049427928424388897634981744248,Fin.ofNat pN 1870984871590677877346426025150611738918673294100338707497423226557823273417581946975760616334842831725692553781629),(Fin.ofNat pN 903171389235868883618496292449982554898075432727674087719684362304278145783033445620564310952930377480405516675348,Fin.ofNat pN 1819359316961982648696825768698582274299360242409634863041377482942933471064999032389391165236518591424861661659287)⟩,⟨(Fin.ofNat pN 457111985964339394215082602979823100535751250453477664959867604692228216990684070412327237746464656400878374138801,Fin.ofNat pN 502984723173621339954754264046803050075774572219914713748582398159965021764554578891183923100504711802602552665285),(Fin.ofNat pN 2640050477330814279885157441741131018999714396598562331099342031892294696094537543469746068160999411027057098227449,Fin.ofNat pN 2071409662492255450081680890260136948544391128508396357468185123426989978172823109733930793773695755500081522451880),(Fin.ofNat pN 1960995731015872851914120175578467298837249548514409779124305159220363476158331129914137406356779751074802695718210,Fin.ofNat pN 2246652698136281584724567586591973504853788313445268011455423953644425428075236802067160117569429819651226986381160)⟩⟩
def z_k:F12:=⟨⟨(Fin.ofNat pN 2401374825597450984127428083886778337644341190388984269675656905526889902455464871488112779953122061980914084015627,Fin.ofNat pN 2002573687219449662830204240587858250317599430313095799709320566820374703996084385141861121356633254802253977005442),(Fin.ofNat pN 3028279613350765026686766544182751254971050611826720636750466900672147934953470256070613978883010391439840233039588,Fin.ofNat pN 113563191712000362484023995569751002965941426771432656414436981090548153168153165436169568691878515546864934063345),(Fin.ofNat pN 15926619643239591426244004989463640041964077289053150867841914989714656759647379537174094756804348567524660996161,Fin.ofNat pN 1242039391770747613095191879614623161493229154269781009074784183548557566148691418098416833958574980512020957096597)⟩,⟨(Fin.ofNat pN 1377471301864288773875207376836132346997850425982474070735104180086873075701088402671487761813379626372230361753011,Fin.ofNat pN 3996650402454757027033741545761153002323826409467514634645456909204926049390647711532283840580602421922103095498999),(Fin.ofNat pN 41477575491093855033356358056189574868021126231132968100478746941059237150029438438726833044575311207419300145074,Fin.ofNat pN 1538913964194847306977659048482806629761570585802346203836756708813652839556883533781659395162706067606825141172986),(Fin.ofNat pN 425177787079411383532193901153113668593604979273513396666908022467507682525509644178815151004253210926106638434847,Fin.ofNat pN 3790844062079063273287822571722747293097189621267254163247632636941166343249062812246594379468490316803630358033370)⟩⟩
def z_h1:F12:=⟨⟨(Fin.ofNat pN 1667042345708070419051561625519587936806034409531841266916663139149953915205998567404362858522772230372082086094582,Fin.ofNat pN 3437817373131021689205664549780155164026124757413870440185591124697775710462235751290191498842729723379319900740864),(Fin.ofNat pN 659938351063045713926716963141256514447739931325349089274962832456851031048424782085835912511548513071289416037160,Fin.ofNat pN 1341428926685649574799879320318749353156815187271088507422303000753062905433258307523270708501978032101916009285180),(Fin.ofNat pN 3689343633790114316388231993709004216488319168813859576060002225143274376296668090363750101674050814005887551589089,Fin.ofNat pN 2001315625713703806156278750684520731550948356193894726325791348006222001483819132773543298947537351937972353650638)⟩,⟨(Fin.ofNat pN 481216225444322718561558488115314876606906210238678728932867832389518710512213195318367094975813752249100878257220,Fin.ofNat pN 1778834673223820708882458954526353049170808384078535194644831731357808336722832738569241134476033964292728397544953),(Fin.ofNat pN 3601263170187299039142445999154583152635569289440529331090812297804125171480875456318885032207544016349728771679617,Fin.ofNat pN 2430629910346950372191591246609581955075300475900246855024908579766680775506292273679230786327128731190283386148395),(Fin.ofNat pN 1640097916102042003386927967765177937077945952159730592908187555607938043869534479950929296109606219484738568004719,Fin.ofNat pN 728755275437950015357954111362561367923506359825613896330377006130440457008008692837086256192504474521012420072089)⟩⟩
def z_h:F12:=⟨⟨(Fin.ofNat pN 589055896229357724898813026054869815825554603540858908788846270893194342128751991900312984932966447265589736569909,Fin.ofNat pN 320427958109657041869379692559908404793796619625774746885991155990607055058040384097267113815331010298168116306256),(Fin.ofNat pN 2744403133323501671841198434832856269771829887670677899843169656323643382192377007201428600564486593249659009907030,Fin.ofNat pN 2577236299869553128161237059298146471014100777491865977984750362778165253841129007455936177074401637407700772649511),(Fin.ofNat pN 195699993267395131758873990524811073173159498239134340944798222534633870826741189623341201375634256998172026835738,Fin.ofNat pN 3170011443495801230657759963163855202807592978700577774985215654542021048213919951223480085387080773715964850322860)⟩,⟨(Fin.ofNat pN 274718449853617674732953425410784855940963274415847505017988429927800225750647380221213588344488594861147263785006,Fin.ofNat pN 2966405939729013929128381729816003720644517278365089684144754637428775823275783054933441074098778345695441693540028),(Fin.ofNat pN 162226513279583004105742026365510714474328488132412503427154872397901315541737263627976920130103632420214485281059,Fin.ofNat pN 2988801086179843009666969224200243185328171807879070484464131300685519059474955177901881716043929970206521420775480),(Fin.ofNat pN 2561092381359788845876785788483929967465700545835492137588793741038490148101334966006307156781842952010495524875943,Fin.ofNat pN 1499643895222903872588682936648400837777251264527259047453680292093350879251383278928800494600198552998245168396413)⟩⟩
theorem z_mil:mil gPt.1 gPt.2 (hPt.1,hPt.2,(1:F2))=z_m:=by decide +kernel
theorem z_em:z_e*z_m=cj z_m:=by decide +kernel
theorem z_ea:frb (frb z_e)*z_e=z_a:=by decide +kernel
theorem z_ag:pwb z_a (btL 15132376222941642753 64 64)=z_g1:=by decide +kernel
theorem z_gg:pwb z_g1 (btL 5044125407647214251 63 63)=z_g:=by decide +kernel
theorem z_gk:pwb z_g (btL 15132376222941642752 64 64)=z_k1:=by decide +kernel
theorem z_kk:cjp z_k1*frb z_g=z_k:=by decide +kernel
theorem z_kh:pwb z_k (btL 15132376222941642752 64 64)=z_h1:=by decide +kernel
theorem z_hh:pwb z_h1 (btL 15132376222941642752 64 64)=z_h:=by decide +kernel
theorem z_out:z_h*frb (frb z_k)*cjp z_k*z_a≠1:=by decide +kernel
end

section

theorem z_ne:z_m≠0:=by decide +kernel
theorem z_et:et z_m=z_e:=(et_is v_no_square z_ne z_em).symm
theorem finG_is:finG z_a=z_g:=by
 unfold finG
 rw[gpi_pwb z_a (btL 15132376222941642753 64 64) 15132376222941642753 (m:=15132376222941642753) (by decide +kernel) (by decide +kernel),z_ag,
  gpi_pwb z_g1 (btL 5044125407647214251 63 63) 5044125407647214251 (m:=5044125407647214251) (by decide +kernel) (by decide +kernel),z_gg]
theorem finK_is:finK z_g=z_k:=by
 unfold finK
 rw[gpi_pwb z_g (btL 15132376222941642752 64 64) 15132376222941642752 (m:=15132376222941642752) (by decide +kernel) (by decide +kernel),z_gk,z_kk]
theorem finH_is:finH z_k=z_h:=by
 unfold finH
 rw[gpi_pwb z_k (btL 15132376222941642752 64 64) 15132376222941642752 (m:=15132376222941642752) (by decide +kernel) (by decide +kernel),z_kh,
  gpi_pwb z_h1 (btL 15132376222941642752 64 64) 15132376222941642752 (m:=15132376222941642752) (by decide +kernel) (by decide +kernel),z_hh]
theorem finC_ze:finC z_e≠1:=by
 unfold finC
 rw[z_ea]
 unfold finB
 rw[finG_is,finK_is,finH_is]
 exact z_out
theorem mil_e:fin12 (mil gPt.1 gPt.2 (hPt.1,hPt.2,1))=prg (some gPt) ptH:=mil_is (x:=gPt.1) (y:=gPt.2) g_on H_r (q:=hPt) rfl rfl
theorem e0_ne:prg (some gPt) ptH≠1:=by
 rw[←mil_e,z_mil,fin12_is,z_et]
 exact finC_ze
section
variable {G:Type} [CRing G]
theorem gpow_mod {g:G} {r:Nat} (h1:gpow g r=1) (n:Nat):gpow g n=gpow g (n % r):=by
 have e:n=r*(n / r)+n % r:=(Nat.div_add_mod n r).symm
 have h3:gpow g n=gpow g (r*(n / r)+n % r):=congrArg (gpow g) e
 rw[gpw_add,gpw_gpw,h1,gpw_one] at h3
 rw[h3]
 generalize gpow g (n % r)=u
 clear h1 h3 e;grind
end
theorem prg_r {P:Pt Fp} (hP:OnC fp4 P) (hr:nmul P rN=none) {A:CP fq4} (hA:SQ A):gpow (prg P A) rN=1:=by
 rw[←prg_nmulL hP hA rN,hr]
 exact prg_zeroL A
theorem G_r2:nmul (some gPt) rN=none:=(mlt_val cv1 ptG rN).symm.trans (congrArg Subtype.val G_r)
end

section

theorem in12_out12 (x:F12):in12 (out12 x)=x:=E2.ext' (E3.ext' (in_out2 _) (in_out2 _) (in_out2 _)) (E3.ext' (in_out2 _) (in_out2 _) (in_out2 _))
theorem out12_inj {x y:F12} (h:out12 x=out12 y):x=y:=by rw[←in12_out12 x,h,in12_out12]
theorem one_out:out12 1=oneV:=by decide +kernel
theorem in_z12:in12 z12=0:=by decide +kernel
theorem out_one {x:F12}:out12 x=oneV↔x=1:=by rw[←one_out];exact ⟨out12_inj,fun h=>by rw[h]⟩
theorem chk_ok {a:G1D} {b:G2D} (ha:onG a=true) (hb:onG2 b=true) (ga:grp a=true) (gb:grp2 b=true):chkD a b=0:=by
 unfold chkD
 rw[ha,hb,ga,gb]
 rfl
theorem chk_of {a:G1D} {b:G2D} (h:chkD a b=0):(onG a=true∧grp a=true)∧onG2 b=true∧grp2 b=true:=by
 unfold chkD at h
 cases h1:onG a<;>cases h2:onG2 b<;>cases h3:grp a<;>cases h4:grp2 b<;>rw[h1,h2,h3,h4] at h<;>first | exact ⟨⟨rfl,rfl⟩,rfl,rfl⟩ | exact absurd h (by decide)
theorem grp_r {a:G1D} (ha:onG a=true) (ga:grp a=true):nmul (pG a) rN=none:=by
 have k:=grp_is (onG_is ha).2
 rw[(onG_is ha).1,ga] at k
 exact of_decide_eq_true k.symm
theorem grp_of {a:G1D} (ha:onG a=true) (h:nmul (pG a) rN=none):grp a=true:=by
 have k:=grp_is (onG_is ha).2
 rw[(onG_is ha).1] at k
 rw[k]
 exact decide_eq_true h
/-- A point of the second curve, as one of the group. -/
def ptQ (b:G2D) (h:onG2 b=true):CP fq4:=⟨pG2 b,(onG2_is h).2⟩
section
variable {F:Type} [Fld F] [DecidableEq F] {b:F}
theorem mlt_nm (hc:Cv b) {X:CP b} {n:Nat} (h:nmul X.1 n=none):letI:=cpAG hc;mlt X n=0:=Subtype.ext ((mlt_val hc X n).trans h)
theorem nm_mlt (hc:Cv b) {X:CP b} {n:Nat} (h:letI:=cpAG hc;mlt X n=0):nmul X.1 n=none:=(mlt_val hc X n).symm.trans (congrArg Subtype.val h)
end
theorem grp2_r {b:G2D} (hb:onG2 b=true) (gb:grp2 b=true):SQ (ptQ b hb):=by
 have k:=grp2_is (onG2_is hb).2
 rw[(onG2_is hb).1,gb] at k
 exact mlt_nm cv2 (X:=ptQ b hb) (of_decide_eq_true k.symm)
theorem grp2_of {b:G2D} (hb:onG2 b=true) (h:SQ (ptQ b hb)):grp2 b=true:=by
 have k:=grp2_is (onG2_is hb).2
 rw[(onG2_is hb).1] at k
 rw[k]
 exact decide_eq_true (nm_mlt cv2 (X:=ptQ b hb) h)
theorem et_112:et (1:F12)=1:=et_one v_no_square
theorem fin_gen {x:F12} (h:et x=1):fin12 x=1:=by
 rw[fin12_is,h,finC_1]
theorem fin_one12:fin12 1=1:=fin_gen et_112
theorem pG_inf {a:G1D} (h:a.inf=true):pG a=none:=if_pos h
theorem pG2_inf {b:G2D} (h:b.inf=true):pG2 b=none:=if_pos h
theorem pG_fin {a:G1D} (h:a.inf=false):pG a=some (inP a.x,inP a.y):=if_neg (by rw[h];decide)
theorem pG2_fin {b:G2D} (h:b.inf=false):pG2 b=some (inP2 b.xa b.xb,inP2 b.ya b.yb):=if_neg (by rw[h];decide)
theorem inG2_fin {b:G2D} (h:b.inf=false):inG2 b=(inP2 b.xa b.xb,inP2 b.ya b.yb,1):=(if_neg (by rw[h];decide)).trans (by rw[fq1_one])
theorem lop_pt {a:G1D} {b:G2D} (ha:onG a=true) (hb:onG2 b=true) (gb:grp2 b=true):fin12 (lopD a b)=prg (pG a) (ptQ b hb):=by
 cases h1:a.inf with
 | true=>
  have e:lopD a b=1:=if_pos (by rw[h1];rfl)
  rw[e,fin_one12,pG_inf h1,prg_zeroL]
 | false=>
  cases h2:b.inf with
  | true=>
   have e:lopD a b=1:=if_pos (by rw[h1,h2];rfl)
   have e2:ptQ b hb=0:=Subtype.ext (pG2_inf h2)
   rw[e,fin_one12,e2,prg_zeroR (onG_is ha).2]
  | false=>
   have e:lopD a b=mil (inP a.x) (inP a.y) (inG2 b):=if_neg (by rw[h1,h2];decide)
   have o:=(onG_is ha).2
   rw[pG_fin h1] at o
   rw[e,pG_fin h1]
   exact mil_is o (grp2_r hb gb) (q:=(inP2 b.xa b.xb,inP2 b.ya b.yb)) (pG2_fin h2) (inG2_fin h2)
theorem pair_off {a:G1D} {b:G2D} (h:chkD a b≠0):pairD a b=(z12,chkD a b):=if_pos (bne_iff_ne.2 h)
theorem pair_on {a:G1D} {b:G2D} (ha:onG a=true) (hb:onG2 b=true) (ga:grp a=true) (gb:grp2 b=true):pairD a b=(out12 (prg (pG a) (ptQ b hb)),0):=by
 rw[←lop_pt ha hb gb]
 exact if_neg (by rw[chk_ok ha hb ga gb];decide)
theorem pair_err (a:G1D) (b:G2D):(pairD a b).2=chkD a b:=by
 by_cases h:chkD a b=0
 ·obtain ⟨⟨h1,h2⟩,h3,h4⟩:=chk_of h
  rw[pair_on h1 h3 h2 h4,h]
 ·rw[pair_off h]
theorem pG_gen:pG genG=some gPt:=by decide +kernel
theorem pG2_gen:pG2 genG2=some hPt:=by decide +kernel
theorem on_gen:onG genG=true:=by decide +kernel
theorem on_gen2:onG2 genG2=true:=by decide +kernel
theorem grp_gen:grp genG=true:=grp_of on_gen (by rw[pG_gen];exact G_r2)
theorem ptQ_gen:ptQ genG2 on_gen2=ptH:=Subtype.ext pG2_gen
theorem grp2_gen:grp2 genG2=true:=grp2_of on_gen2 (by rw[ptQ_gen];exact H_r)
theorem pair_gen:pairD genG genG2=(out12 (prg (some gPt) ptH),0):=by
 rw[pair_on on_gen on_gen2 grp_gen grp2_gen,ptQ_gen,pG_gen]
theorem neV_is {x y:V12} (h:x≠y):neV x y=true:=by
 have:eqV x y=false:=Bool.eq_false_iff.2 fun e=>h (eqV_is.1 e)
 show (!eqV x y)=true
 rw[this]
 rfl
theorem pow_zero12 {x:F12} (h:x=0):∀n,gpow x (n+1)=0:=by
 intro n
 show gpow x n*x=0
 rw[h]
 generalize gpow (0:F12) n=u
 grind
theorem r_succ:rN=(rN-1)+1:=by decide +kernel
theorem prg_ne {P:Pt Fp} (hP:OnC fp4 P) (hr:nmul P rN=none) {A:CP fq4} (hA:SQ A):prg P A≠0:=fun e=>by
 have k:=prg_r hP hr hA
 have z:=pow_zero12 e (rN-1)
 rw[←r_succ] at z
 exact one_ne12 (k.symm.trans z)
theorem out_ne {x:F12} (h:x≠0):out12 x≠z12:=fun e=>h (by rw[←in12_out12 x,e,in_z12])
theorem gen_ne_z:neV (pairD genG genG2).1 z12=true:=by
 rw[pair_gen]
 exact neV_is (out_ne (prg_ne (P:=some gPt) g_on G_r2 H_r))
theorem gen_ne_one:neV (pairD genG genG2).1 oneV=true:=by
 rw[pair_gen]
 exact neV_is fun e=>e0_ne (out_one.1 e)
theorem bool_lit {x:Ctx} {b:Bool} {v:Value} (h:denS x (.v (.c (.bool b))) v):denS x (.v (.c (.lit b))) v:=by
 rw[D_bool h]
 exact ⟨rfl,0,rfl⟩
/-- The laws' generators pair to neither 0 nor 1. -/
theorem alive_fnd:FnD Tryz.prog 9 [] (.v (.c (.lit true))) []:=by
 have r:=alvB
 rw[gen_ne_one] at r
 exact (fn_sound uyN_ok Tryz.func9 r ⟨rfl,gen_ne_z,trivial⟩).conv (fun _ _ h=>h) fun y v hd=>bool_lit hd
theorem powV_out (x:F12) (k:U4):powV (out12 x) (upU k)=out12 (gpow x k.val):=by
 unfold powV
 rw[in12_out12,gpi_is,upU_val,Int.toNat_natCast]
end

section

def alvSpec:FnSpec
 | []=>some ([],.v (.c (.lit true)),[])
 | _=>none
def uyP:Env:=uyO.set (addT uyO.fn 9 alvSpec)
theorem uyP_ok:EnvOk Tryz.prog uyP:=env_add uyO_ok 9 alvSpec (enters_of Tryz.func9 rfl rfl) fun args o r es h _=>by
 unfold alvSpec at h
 split at h
 ·cases h;exact alive_fnd
 ·cases h
--@env uyP uyP_ok
def eqE (x y:V12):Bool:=if true=true then eqV x y else !eqV x y
end

section

--@env qwC qwC_ok
theorem muA (a b:U6) (i:Bool) (k:U4):fnRes qwC Tryz.f11 3000 [.v (.a [.ob (.fp a),.ob (.fp b),.bool i]),.v (.a [.ob (.fr k)])] [true] [] []=(some ([((Bool.not (onG (G1D.mk a b i)))=true)],((.t [(.a [(.ob (.fp (0:U6))),(.ob (.fp (0:U6))),(.lit false)]),(.c (.int .i64 (30:Int)))]),[]))):=by kernel_rfl
theorem muB (a b:U6) (i:Bool) (k:U4):fnRes qwC Tryz.f11 3000 [.v (.a [.ob (.fp a),.ob (.fp b),.bool i]),.v (.a [.ob (.fr k)])] [false] [] []=(some ([((Bool.not (onG (G1D.mk a b i)))=false)],((.t [(.a [(.ob (.fp (G1D.x (outG (jmn (inG (G1D.mk a b i)) (dgT (Fin.val k) 64)))))),(.ob (.fp (G1D.y (outG (jmn (inG (G1D.mk a b i)) (dgT (Fin.val k) 64)))))),(.bool (G1D.inf (outG (jmn (inG (G1D.mk a b i)) (dgT (Fin.val k) 64)))))]),(.c (.int .i64 (0:Int)))]),[]))):=by kernel_rfl
theorem mul_fnd1 (a b:U6) (i:Bool) (k:U4):FnD Tryz.prog 11 [.v (.a [.ob (.fp a),.ob (.fp b),.bool i]),.v (.a [.ob (.fr k)])] (.t [.a (muR ⟨a,b,i⟩ k).1.its,.c (.int .i64 (muR ⟨a,b,i⟩ k).2)]) []:=by
 by_cases h1:onG ⟨a,b,i⟩=true
 ·rw[muR_on k h1]
  exact fn_sound qwC_ok Tryz.func11 (muB a b i k) ⟨by rw[h1];rfl,trivial⟩
 ·have h1:onG ⟨a,b,i⟩=false:=Bool.eq_false_iff.2 h1
  rw[muR_off k h1]
  exact (fn_sound qwC_ok Tryz.func11 (muA a b i k) ⟨by rw[h1];rfl,trivial⟩).conv (fun _ _ h=>h) fun y v hd=>lit_third_t hd
--@env ruC ruC_ok
theorem mu2A (a b c d:U6) (i:Bool) (k:U4):fnRes ruC Tryz.f12 3000 [.v (.a [.ob (.fp a),.ob (.fp b),.ob (.fp c),.ob (.fp d),.bool i]),.v (.a [.ob (.fr k)])] [true] [] []=(some ([((Bool.not (onG2 (G2D.mk a b c d i)))=true)],((.t [(.a [(.ob (.fp (0:U6))),(.ob (.fp (0:U6))),(.ob (.fp (0:U6))),(.ob (.fp (0:U6))),(.lit false)]),(.c (.int .i64 (30:Int)))]),[]))):=by kernel_rfl
theorem mu2B (a b c d:U6) (i:Bool) (k:U4):fnRes ruC Tryz.f12 3000 [.v (.a [.ob (.fp a),.ob (.fp b),.ob (.fp c),.ob (.fp d),.bool i]),.v (.a [.ob (.fr k)])] [false] [] []=(some ([((Bool.not (onG2 (G2D.mk a b c d i)))=false)],((.t [(.a [(.ob (.fp (G2D.xa (outG2 (jmn (inG2 (G2D.mk a b c d i)) (dgT (Fin.val k) 64)))))),(.ob (.fp (G2D.xb (outG2 (jmn (inG2 (G2D.mk a b c d i)) (dgT (Fin.val k) 64)))))),(.ob (.fp (G2D.ya (outG2 (jmn (inG2 (G2D.mk a b c d i)) (dgT (Fin.val k) 64)))))),(.ob (.fp (G2D.yb (outG2 (jmn (inG2 (G2D.mk a b c d i)) (dgT (Fin.val k) 64)))))),(.bool (G2D.inf (outG2 (jmn (inG2 (G2D.mk a b c d i)) (dgT (Fin.val k) 64)))))]),(.c (.int .i64 (0:Int)))]),[]))):=by kernel_rfl
theorem mul2_fnd (a b c d:U6) (i:Bool) (k:U4):FnD Tryz.prog 12 [.v (.a [.ob (.fp a),.ob (.fp b),.ob (.fp c),.ob (.fp d),.bool i]),.v (.a [.ob (.fr k)])] (.t [.a (muR2 ⟨a,b,c,d,i⟩ k).1.its,.c (.int .i64 (muR2 ⟨a,b,c,d,i⟩ k).2)]) []:=by
 by_cases h1:onG2 ⟨a,b,c,d,i⟩=true
 ·rw[muR2_on k h1]
  exact fn_sound ruC_ok Tryz.func12 (mu2B a b c d i k) ⟨by rw[h1];rfl,trivial⟩
 ·have h1:onG2 ⟨a,b,c,d,i⟩=false:=Bool.eq_false_iff.2 h1
  rw[muR2_off k h1]
  exact (fn_sound ruC_ok Tryz.func12 (mu2A a b c d i k) ⟨by rw[h1];rfl,trivial⟩).conv (fun _ _ h=>h) fun y v hd=>lit_fifth_t hd
def mulSpec1:FnSpec
 | [.v (.a [.ob (.fp a),.ob (.fp b),.bool i]),.v (.a [.ob (.fr k)])]=>some ([],.t [.a (muR ⟨a,b,i⟩ k).1.its,.c (.int .i64 (muR ⟨a,b,i⟩ k).2)],[])
 | _=>none
def uzA:Env:=uyP.set (addT uyP.fn 11 mulSpec1)
theorem uzA_ok:EnvOk Tryz.prog uzA:=env_add uyP_ok 11 mulSpec1 (enters_of Tryz.func11 rfl rfl) fun args o r es h _=>by
 unfold mulSpec1 at h
 split at h
 ·cases h;exact mul_fnd1 _ _ _ _
 ·cases h
def mulSpec3:FnSpec
 | [.v (.a [.ob (.fp a),.ob (.fp b),.ob (.fp c),.ob (.fp d),.bool i]),.v (.a [.ob (.fr k)])]=>some ([],.t [.a (muR2 ⟨a,b,c,d,i⟩ k).1.its,.c (.int .i64 (muR2 ⟨a,b,c,d,i⟩ k).2)],[])
 | _=>none
def uzB:Env:=uzA.set (addT uzA.fn 12 mulSpec3)
theorem uzB_ok:EnvOk Tryz.prog uzB:=env_add uzA_ok 12 mulSpec3 (enters_of Tryz.func12 rfl rfl) fun args o r es h _=>by
 unfold mulSpec3 at h
 split at h
 ·cases h;exact mul2_fnd _ _ _ _ _ _
 ·cases h
end

section

--@env uzB uzB_ok
theorem pmA (a:G1D) (b:G2D) (k l:U4):fnRes uzB Tryz.f3 3000 [.v (.a a.its),.v (.a b.its),.v (.a [.ob (.fr k)]),.v (.a [.ob (.fr l)])] [true,true] [] []=some ([((pairD a b).2 != 0)=true],.v (.c (.bool ((pairD a b).2 == chkD a b))),[]):=by kernel_rfl
theorem pmB (a:G1D) (b:G2D) (k l:U4):fnRes uzB Tryz.f3 3000 [.v (.a a.its),.v (.a b.its),.v (.a [.ob (.fr k)]),.v (.a [.ob (.fr l)])] [false,true,true,true,true,true,true,true] [] []=some ([((pairD a b).2 != 0)=false,((muR a k).2 == 0)=true,((muR2 b l).2 == 0)=true,((pairD (muR a k).1 (muR2 b l).1).2 == 0)=true],
  .v (.c (.bool (eqE (pairD (muR a k).1 (muR2 b l).1).1 (powV (pairD a b).1 (upU (S4.outF (S4.inF k*S4.inF l))))))),[]):=by kernel_rfl
end

section

theorem eqE_of {x y:V12} (h:x=y):eqE x y=true:=eqV_is.2 h
section
variable {G:Type} [CRing G]
end
theorem SQ_neg {A:CP fq4} (h:SQ A):SQ (-A):=by
 have e:-A=0-A:=by clear h;grind
 show mlt (-A) rN=0
 rw[e,mlt_sub,show mlt A rN=0 from h,mlt_zero]
 grind
section
variable {G:Type} [CRing G]
end
theorem nm_neg {P:Pt Fp} (hP:OnC fp4 P) (hr:nmul P rN=none):nmul (gneg P) rN=none:=by
 rw[nmul_gneg cv1 hP,hr]
 rfl
theorem nm_add {P Q:Pt Fp} (hP:OnC fp4 P) (hQ:OnC fp4 Q) (h1:nmul P rN=none) (h2:nmul Q rN=none):nmul (gadd P Q) rN=none:=by
 rw[nmul_gadd cv1 hP hQ,h1,h2]
 rfl
/-- What is inside: a point of the first group, one of the second. -/
structure In1 (a:G1D):Prop where
 o:onG a=true
 g:grp a=true
structure In2 (b:G2D):Prop where
 o:onG2 b=true
 g:grp2 b=true
theorem In1.r {a:G1D} (h:In1 a):nmul (pG a) rN=none:=grp_r h.o h.g
theorem In1.c {a:G1D} (h:In1 a):OnC fp4 (pG a):=(onG_is h.o).2
theorem In2.s {b:G2D} (h:In2 b):SQ (ptQ b h.o):=grp2_r h.o h.g
theorem In1.neg {a:G1D} (h:In1 a):In1 (negG a):=⟨on_neg h.o,grp_of (on_neg h.o) (by rw[pG_neg];exact nm_neg h.c h.r)⟩
theorem In1.add {a b:G1D} (h:In1 a) (k:In1 b):In1 (addG a b):=⟨on_add h.o k.o,grp_of (on_add h.o k.o) (by rw[pG_add];exact nm_add h.c k.c h.r k.r)⟩
theorem pt_neg {b:G2D} (h:onG2 b=true) (k:onG2 (negG2 b)=true):ptQ (negG2 b) k = -(ptQ b h):=Subtype.ext (pG2_neg b)
theorem pt_add {b c:G2D} (h:onG2 b=true) (k:onG2 c=true) (l:onG2 (addG2 b c)=true):ptQ (addG2 b c) l=ptQ b h+ptQ c k:=Subtype.ext (pG2_add b c)
theorem In2.neg {b:G2D} (h:In2 b):In2 (negG2 b):=⟨on_neg2 h.o,grp2_of (on_neg2 h.o) (by rw[pt_neg h.o];exact SQ_neg h.s)⟩
theorem In2.add {b c:G2D} (h:In2 b) (k:In2 c):In2 (addG2 b c):=⟨on_add2 h.o k.o,grp2_of (on_add2 h.o k.o) (by rw[pt_add h.o k.o];exact SQ_add h.s k.s)⟩
theorem pair_in {a:G1D} {b:G2D} (h:In1 a) (k:In2 b):pairD a b=(out12 (prg (pG a) (ptQ b k.o)),0):=pair_on h.o k.o h.g k.g
theorem chk_in {a:G1D} {b:G2D} (h:chkD a b=0):In1 a∧In2 b:=⟨⟨(chk_of h).1.1,(chk_of h).1.2⟩,⟨(chk_of h).2.1,(chk_of h).2.2⟩⟩

end

section

theorem cmul_val (k l:U4):(S4.outF (S4.inF k*S4.inF l)).val=(k.val*l.val) % rN:=by
 rw[S4.outF_val]
 show (k.val % rN*(l.val % rN)) % rN=_
 rw[←Nat.mul_mod]
theorem nm_swap {P:Pt Fp} (hP:OnC fp4 P) (m n:Nat):nmul (nmul P m) n=nmul (nmul P n) m:=by rw[←nmul_mul cv1 hP,←nmul_mul cv1 hP,Nat.mul_comm]
theorem In1.mul {a:G1D} (h:In1 a) (k:U4):In1 (mulG a k):=⟨on_mul h.o k,grp_of (on_mul h.o k) (by rw[pG_mul h.o,nm_swap h.c,h.r,nmul_none])⟩
section
variable {F:Type} [Fld F] [DecidableEq F] {b:F}
theorem mlt_of (hc:Cv b) {X Y:CP b} {n:Nat} (h:Y.1=nmul X.1 n):letI:=cpAG hc;Y=mlt X n:=Subtype.ext (h.trans (mlt_val hc X n).symm)
end
section
variable {G:Type} [CRing G]
theorem gpow_modG {g:G} {r m n:Nat} (h1:gpow g r=1) (hm:m=n % r):gpow g n=gpow g m:=by
 subst hm
 exact gpow_mod h1 n
end
theorem ptQ_val {b:G2D} (h:onG2 b=true):(ptQ b h).1=pG2 b:=rfl
theorem pt_mul {b:G2D} (h:onG2 b=true) (l:U4) (k:onG2 (mulG2 b l)=true):ptQ (mulG2 b l) k=mlt (ptQ b h) l.val:=by
 have e:(ptQ (mulG2 b l) k).1=nmul (ptQ b h).1 l.val:=by
  rw[ptQ_val,ptQ_val]
  exact pG2_mul h l
 generalize l.val=n at e ⊢
 exact mlt_of cv2 e
theorem In2.mul {b:G2D} (h:In2 b) (l:U4):In2 (mulG2 b l):=⟨on_mul2 h.o l,grp2_of (on_mul2 h.o l) (by rw[pt_mul h.o];exact SQ_mlt h.s l.val)⟩
theorem mults_fnd (a:G1D) (b:G2D) (k l:U4):FnD Tryz.prog 3 [.v (.a a.its),.v (.a b.its),.v (.a [.ob (.fr k)]),.v (.a [.ob (.fr l)])] (.v (.c (.bool true))) []:=by
 by_cases h:chkD a b=0
 ·obtain ⟨h1,h2⟩:=chk_in h
  have r:=pmB a b k l
  have e:prg (nmul (pG a) k.val) (mlt (ptQ b h2.o) l.val)=gpow (prg (pG a) (ptQ b h2.o)) (S4.outF (S4.inF k*S4.inF l)).val:=by
   rw[prg_mltR (nmul_on cv1 h1.c _) h2.s,prg_nmulL h1.c h2.s,←gpw_gpw]
   exact gpow_modG (prg_r h1.c h1.r h2.s) (cmul_val k l)
  rw[muR_on k h1.o,muR2_on l h2.o] at r
  dsimp only at r
  rw[pair_in h1 h2,pair_in (h1.mul k) (h2.mul l),pt_mul h2.o,pG_mul h1.o,powV_out,e] at r
  generalize out12 (gpow (prg (pG a) (ptQ b h2.o)) (S4.outF (S4.inF k*S4.inF l)).val)=v at r
  have ev:eqE v v=true:=eqE_of rfl
  rw[ev] at r
  exact fn_sound uzB_ok Tryz.func3 r ⟨rfl,rfl,rfl,rfl,trivial⟩
 ·have r:=pmA a b k l
  have ev:((pairD a b).2 == chkD a b)=true:=by rw[pair_err];exact beq_self_eq_true _
  rw[ev] at r
  exact fn_sound uzB_ok Tryz.func3 r ⟨by rw[pair_err];exact bne_iff_ne.2 h,trivial⟩
end

end
end Go.Proofs.YtefimjofjjdndaaGreat
