/- Parts of a proof, one behind the other: WPs, PPs, WPt, WLb, PLb, DFe, DRv, DWs, DPs, DWt, DNt, DPt, DIv. No conditions. -/
import Derived.Test.YtifiiigbedjceaaSkM
open Go.IntKind (wrap)
namespace Go.Proofs.Ytifiiigbedjceaa
noncomputable section
section

theorem G1w (x y:Fp):let f:=Ob.n (.p y);let g:=Ob.n (.p x);let h:Int:=18446744073709551616;let m:Int:=6;let q:Int:=1;let r:=Ob.k (.p x);let s:=Ob.k (.p y);let t:=0<=(0:Int);let u:Int:=2;let w:Int:=3;let z:Int:=4;let A:Int:=5;let M:=A0 f 2;let N:=A0 f 4;let O:=A0 f 1;let P:=A0 f 3;let Q:=A0 f 0;let j:=A2 0 (A0 g 0) Q (0:Int);let D:=Prod.snd j;let d:=A2 0 (A0 g 1) O D;let B:=Prod.snd d;let b:=A2 0 (A0 g 2) M B;let F:=Prod.snd b;let i:=A2 0 (A0 g 3) P F;let C:=Prod.snd i;let c:=A2 0 (A0 g 4) N C;let G:=Prod.snd c;let H:=Prod.fst j;let I:=Prod.fst d;let J:=Prod.fst b;let K:=Prod.fst i;let L:=Prod.fst c;let R:=A0 f 5;let l:=Prod.fst (A2 0 (A0 g 5) R G);let o:=G3 H I J K L l;C9 qeE Try.f89 3000 [.v (.a [.ob (.p x)]),.v (.a [.ob (.p y)])] [] [] []=(some ([t,(0<m),(0<r),t,(0<m),(0<s),(0<=(A0 g 0)),(0<=Q),(Q<h),t,(0<=q),t,(0<m),(0<=q),(q<m),(1<r),(0<=q),(q<m),(1<s),(0<=(A0 g 1)),(0<=O),(O<h),(0<=D),(D<=q),(0<=q),(q<m),(0<=u),(u<m),(2<r),(0<=u),(u<m),(2<s),(0<=(A0 g 2)),(0<=M),(M<h),(0<=B),(B<=q),(0<=u),(u<m),(0<=w),(w<m),(3<r),(0<=w),(w<m),(3<s),(0<=(A0 g 3)),(0<=P),(P<h),(0<=F),(F<=q),(0<=w),(w<m),(0<=z),(z<m),(4<r),(0<=z),(z<m),(4<s),(0<=(A0 g 4)),(0<=N),(N<h),(0<=C),(C<=q),(0<=z),(z<m),(0<=A),(A<m),(5<r),(0<=A),(A<m),(5<s),(0<=(A0 g 5)),(0<=R),(R<h),(0<=G),(G<=q),(0<=A),(A<m),(0<=H),(H<h),(0<=I),(I<h),(0<=J),(J<h),(0<=K),(K<h),(0<=L),(L<h),(0<=l),(l<h),(o<(8004819110443334786835579651471808313113765639878015770664116272248063300981675728885375258258031328075788545119574:Int))],((.v (.a [(.ob (.p (B5h (o).toNat)))])),[]))):=by intros;kernel_rfl
theorem F4g (x y:Fp):let f:=Ob.n (.p y);let g:=Ob.n (.p x);let h:Int:=18446744073709551616;let l:Int:=6;let m:Int:=1;let o:=Ob.k (.p x);let q:=Ob.k (.p y);let s:Int:=0;let t:Int:=2;let u:Int:=3;let w:Int:=4;let z:Int:=5;let G:=A0 f 2;let H:=A0 f 4;let I:=A0 f 1;let J:=A0 f 3;let K:=A0 f 0;let j:=A2 1 (A0 g 0) K s;let C:=Prod.snd j;let d:=A2 1 (A0 g 1) I C;let A:=Prod.snd d;let b:=A2 1 (A0 g 2) G A;let D:=Prod.snd b;let i:=A2 1 (A0 g 3) J D;let B:=Prod.snd i;let c:=A2 1 (A0 g 4) H B;let F:=Prod.snd c;let L:=A0 f 5;let r:=A2 1 (A0 g 5) L F;C9 qeE Try.f114 3000 [.v (.a [.ob (.p x)]),.v (.a [.ob (.p y)])] [true] [] []=(some ([(0<=s),(0<l),(0<o),(0<=s),(0<l),(0<q),(0<=(A0 g 0)),(0<=K),(K<h),(0<=s),(0<=m),(0<=s),(0<l),(0<=m),(m<l),(1<o),(0<=m),(m<l),(1<q),(0<=(A0 g 1)),(0<=I),(I<h),(0<=C),(C<=m),(0<=m),(m<l),(0<=t),(t<l),(2<o),(0<=t),(t<l),(2<q),(0<=(A0 g 2)),(0<=G),(G<h),(0<=A),(A<=m),(0<=t),(t<l),(0<=u),(u<l),(3<o),(0<=u),(u<l),(3<q),(0<=(A0 g 3)),(0<=J),(J<h),(0<=D),(D<=m),(0<=u),(u<l),(0<=w),(w<l),(4<o),(0<=w),(w<l),(4<q),(0<=(A0 g 4)),(0<=H),(H<h),(0<=B),(B<=m),(0<=w),(w<l),(0<=z),(z<l),(5<o),(0<=z),(z<l),(5<q),(0<=(A0 g 5)),(0<=L),(L<h),(0<=F),(F<=m),(0<=z),(z<l),(((Prod.snd r) == s)=true)],((.v (.a [(.int .u64 (Prod.fst j)),(.int .u64 (Prod.fst d)),(.int .u64 (Prod.fst b)),(.int .u64 (Prod.fst i)),(.int .u64 (Prod.fst c)),(.int .u64 (Prod.fst r))])),[]))):=by intros;kernel_rfl
theorem F4h (x y:Fp):let j:=Ob.n (.p y);let l:Int:=18446744073709551616;let m:Int:=6;let o:=Ob.n (.p x);let t:Int:=1;let z:Int:=2;let A:Int:=3;let B:Int:=4;let C:Int:=5;let D:=Ob.k (.p x);let F:=Ob.k (.p y);let G:Int:=13402431016077863595;let H:Int:=2210141511517208575;let I:Int:=5412103778470702295;let J:Int:=7435674573564081700;let K:Int:=7239337960414712511;let L:Int:=1873798617647539866;let W:Int:=0;let w:=0<=W;let X:=A0 j 2;let Y:=A0 j 3;let Z:=A0 j 0;let g:=A2 1 (A0 o 0) Z W;let r:=A2 0 (Prod.fst g) G W;let N:=Prod.snd r;let T:=Prod.snd g;let s:=A2 1 (A0 o 1) (A0 j 1) T;let c:=A2 0 (Prod.fst s) H N;let M:=Prod.snd s;let b:=A2 1 (A0 o 2) X M;let O:=Prod.snd b;let d:=A2 1 (A0 o 3) Y O;let Q:=Prod.snd d;let h:=A2 1 (A0 o 4) (A0 j 4) Q;let R:=Prod.snd c;let i:=A2 0 (Prod.fst b) J R;let S:=Prod.snd i;let q:=A2 0 (Prod.fst d) K S;let P:=Prod.snd q;let f:=A2 0 (Prod.fst h) I P;let U:=Prod.snd h;let u:=A2 1 (A0 o 5) (A0 j 5) U;let V:=Prod.snd f;C9 qeE Try.f114 3000 [.v (.a [.ob (.p x)]),.v (.a [.ob (.p y)])] [false] [] []=(some ([w,(0<m),(0<D),w,(0<m),(0<F),(0<=(A0 o 0)),(0<=Z),(Z<l),w,(0<=t),w,(0<m),(0<=t),(t<m),(1<D),(0<=t),(t<m),(1<F),(0<=(A0 o 1)),(0<=(A0 j 1)),((A0 j 1)<l),(0<=T),(T<=t),(0<=t),(t<m),(0<=z),(z<m),(2<D),(0<=z),(z<m),(2<F),(0<=(A0 o 2)),(0<=X),(X<l),(0<=M),(M<=t),(0<=z),(z<m),(0<=A),(A<m),(3<D),(0<=A),(A<m),(3<F),(0<=(A0 o 3)),(0<=Y),(Y<l),(0<=O),(O<=t),(0<=A),(A<m),(0<=B),(B<m),(4<D),(0<=B),(B<m),(4<F),(0<=(A0 o 4)),(0<=(A0 j 4)),((A0 j 4)<l),(0<=Q),(Q<=t),(0<=B),(B<m),(0<=C),(C<m),(5<D),(0<=C),(C<m),(5<F),(0<=(A0 o 5)),(0<=(A0 j 5)),((A0 j 5)<l),(0<=U),(U<=t),(0<=C),(C<m),(((Prod.snd u) == W)=false),w,(0<m),w,(0<m),(0<6),(0<=(Prod.fst g)),(0<=G),(G<l),w,(0<=t),w,(0<m),(0<=t),(t<m),(0<=t),(t<m),(1<6),(0<=(Prod.fst s)),(0<=H),(H<l),(0<=N),(N<=t),(0<=t),(t<m),(0<=z),(z<m),(0<=z),(z<m),(2<6),(0<=(Prod.fst b)),(0<=J),(J<l),(0<=R),(R<=t),(0<=z),(z<m),(0<=A),(A<m),(0<=A),(A<m),(3<6),(0<=(Prod.fst d)),(0<=K),(K<l),(0<=S),(S<=t),(0<=A),(A<m),(0<=B),(B<m),(0<=B),(B<m),(4<6),(0<=(Prod.fst h)),(0<=I),(I<l),(0<=P),(P<=t),(0<=B),(B<m),(0<=C),(C<m),(0<=C),(C<m),(5<6),(0<=(Prod.fst u)),(0<=L),(L<l),(0<=V),(V<=t),(0<=C),(C<m)],((.v (.a [(.int .u64 (Prod.fst r)),(.int .u64 (Prod.fst c)),(.int .u64 (Prod.fst i)),(.int .u64 (Prod.fst q)),(.int .u64 (Prod.fst f)),(.int .u64 (Prod.fst (A2 0 (Prod.fst u) L V)))])),[]))):=by intros;kernel_rfl
end

section

theorem E1i {x y r B:Nat}:((x+y) % r)*B % r=(x*B % r+y*B % r) % r:=by
 rw[Nat.mod_mul_mod,Nat.add_mul,<-Nat.add_mod]
theorem F5r (x y:Fp):(Ob.p (x+y)).n=((Ob.p x).n+(Ob.p y).n) % pN:=by
 exact E1i
theorem C4z {n:Nat} (x y:Fin n):x-y+y=x:=by
 apply Fin.ext
 simp only[Fin.add_def,Fin.sub_def];have:=y.isLt
 rw[Nat.mod_add_mod,show n-y.val+x.val+y.val=x.val+n from by omega,Nat.add_mod_right,Nat.mod_eq_of_lt x.isLt]
theorem F5s (x y:Fp):((Ob.p (x-y)).n+(Ob.p y).n) % pN=(Ob.p x).n:=by
 rw[<-F5r,C4z]
theorem E2y {r B v x y:Nat} (e:v*B % r=1 % r):(x*B % r+y*B % r)*v % r=(x+y) % r:=by
 rw[<-Nat.mod_mul_mod,<-Nat.add_mod,Nat.mod_mul_mod,<-Nat.add_mul,Nat.mul_assoc,Nat.mul_comm B,<-Nat.mul_mod_mod,e,Nat.mul_mod_mod,Nat.mul_one]
theorem F0a (x y:Fp):B5h ((Ob.p x).n+(Ob.p y).n)=x+y:=by
 apply Fin.ext
 have e:(Ob.p x).n=x.val*B6 % pN:=rfl;have e' : (Ob.p y).n=y.val*B6 % pN:=rfl;rw[e,e'];exact E2y B9u

theorem F8b {a0 a1 a2 a3 a4 a5 b0 b1 b2 b3 b4 b5 o0 o1 o2 o3 o4 o5 v0 v1 v2 v3 v4 v5:Int} (e0:a0+b0+0=o0+18446744073709551616*v0) (e1:a1+b1+v0=o1+18446744073709551616*v1) (e2:a2+b2+v1=o2+18446744073709551616*v2) (e3:a3+b3+v2=o3+18446744073709551616*v3) (e4:a4+b4+v3=o4+18446744073709551616*v4) (e5:a5+b5+v4=o5+18446744073709551616*v5) :
  G3 o0 o1 o2 o3 o4 o5+39402006196394479212279040100143613805079739270465446667948293404245721771497210611414266254884915640806627990306816*v5=G3 a0 a1 a2 a3 a4 a5+G3 b0 b1 b2 b3 b4 b5:=by
 unfold G3;omega
theorem G7f {a0 a1 a2 a3 a4 a5 b0 b1 b2 b3 b4 b5 o0 o1 o2 o3 o4 o5 v0 v1 v2 v3 v4 v5:Int} (e0:o0=a0-b0-0+18446744073709551616*v0) (e1:o1=a1-b1-v0+18446744073709551616*v1) (e2:o2=a2-b2-v1+18446744073709551616*v2) (e3:o3=a3-b3-v2+18446744073709551616*v3) (e4:o4=a4-b4-v3+18446744073709551616*v4) (e5:o5=a5-b5-v4+18446744073709551616*v5) :
  G3 o0 o1 o2 o3 o4 o5-39402006196394479212279040100143613805079739270465446667948293404245721771497210611414266254884915640806627990306816*v5=G3 a0 a1 a2 a3 a4 a5-G3 b0 b1 b2 b3 b4 b5:=by
 unfold G3;omega

theorem E1l (x y:Fp):FnD Try.prog 89 [.v (.a [.ob (.p x)]),.v (.a [.ob (.p y)])] (.v (.a [.ob (.p (x+y))])) []:=by
 have r0:=G1w x y;dsimp only at r0;have hX:=B3m x;have hY:=B3m y;have hadd:=F0a x y;have ex:=(A1g (Ob.p x).n (Nat.lt_trans (B3m x) (by decide))).1
 have ey:=(A1g (Ob.p y).n (Nat.lt_trans (B3m y) (by decide))).1
 have x0:=D1 (Ob.p x).n 0;have x1:=D1 (Ob.p x).n 1;have x2:=D1 (Ob.p x).n 2;have x3:=D1 (Ob.p x).n 3;have x4:=D1 (Ob.p x).n 4;have x5:=D1 (Ob.p x).n 5;have y0:=D1 (Ob.p y).n 0;have y1:=D1 (Ob.p y).n 1;have y2:=D1 (Ob.p y).n 2;have y3:=D1 (Ob.p y).n 3;have y4:=D1 (Ob.p y).n 4;have y5:=D1 (Ob.p y).n 5;generalize A0 (Ob.p x).n 0=a0 at *;generalize A0 (Ob.p x).n 1=a1 at *;generalize A0 (Ob.p x).n 2=a2 at *;generalize A0 (Ob.p x).n 3=a3 at *;generalize A0 (Ob.p x).n 4=a4 at *;generalize A0 (Ob.p x).n 5=a5 at *;generalize A0 (Ob.p y).n 0=b0 at *;generalize A0 (Ob.p y).n 1=b1 at *;generalize A0 (Ob.p y).n 2=b2 at *;generalize A0 (Ob.p y).n 3=b3 at *;generalize A0 (Ob.p y).n 4=b4 at *;generalize A0 (Ob.p y).n 5=b5 at *;obtain ⟨e0,p0,p0',c0,c0'⟩:=F2 (c:=0) x0.1 x0.2 y0.1 y0.2 (by decide) (by decide)
 obtain ⟨e1,p1,p1',c1,c1'⟩:=F2 x1.1 x1.2 y1.1 y1.2 c0 c0';obtain ⟨e2,p2,p2',c2,c2'⟩:=F2 x2.1 x2.2 y2.1 y2.2 c1 c1';obtain ⟨e3,p3,p3',c3,c3'⟩:=F2 x3.1 x3.2 y3.1 y3.2 c2 c2';obtain ⟨e4,p4,p4',c4,c4'⟩:=F2 x4.1 x4.2 y4.1 y4.2 c3 c3';obtain ⟨e5,p5,p5',c5,c5'⟩:=F2 x5.1 x5.2 y5.1 y5.2 c4 c4';generalize hq0:A2 0 a0 b0 0=q0 at *;generalize hq1:A2 0 a1 b1 q0.2=q1 at *;generalize hq2:A2 0 a2 b2 q1.2=q2 at *;generalize hq3:A2 0 a3 b3 q2.2=q3 at *;generalize hq4:A2 0 a4 b4 q3.2=q4 at *;generalize hq5:A2 0 a5 b5 q4.2=q5 at *;clear hq0 hq1 hq2 hq3 hq4 hq5;have hS:=F8b e0 e1 e2 e3 e4 e5;rw[<-ex,<-ey] at hS;have hp:=A1l;have hO:=lt6 p0 p0' p1 p1' p2 p2' p3 p3' p4 p4' p5 p5';have hO0:=W5 p0 p1 p2 p3 p4 p5;have hv:q5.2=0:=by omega
 rw[hv,Int.mul_zero,Int.add_zero] at hS;have hlt:G3 q0.1 q1.1 q2.1 q3.1 q4.1 q5.1<2*pN:=by omega
 refine (A7 B3w Try.func89 r0 ?_).conv (fun _ _ h=>h) fun z v hd=>?_
 ·simp only[A3,and_true,Ob.k]
  clear hS hO hO0 hX hY ex ey hadd r0 e0 e1 e2 e3 e4 e5 hp;obtain ⟨x0,x0'⟩:=x0;obtain ⟨y0,y0'⟩:=y0;obtain ⟨x1,x1'⟩:=x1;obtain ⟨y1,y1'⟩:=y1;obtain ⟨x2,x2'⟩:=x2;obtain ⟨y2,y2'⟩:=y2;obtain ⟨x3,x3'⟩:=x3;obtain ⟨y3,y3'⟩:=y3;obtain ⟨x4,x4'⟩:=x4;obtain ⟨y4,y4'⟩:=y4;obtain ⟨x5,x5'⟩:=x5;obtain ⟨y5,y5'⟩:=y5;and_intros<;>first | assumption | decide | omega
 ·have hN' : (G3 q0.1 q1.1 q2.1 q3.1 q4.1 q5.1).toNat=(Ob.p x).n+(Ob.p y).n:=by omega
  rw[hN',hadd] at hd;exact hd

theorem D5s {X Y Z r:Nat} (_hX:X<r) (hY:Y<r) (hZ:Z<r) (h:(Z+Y) % r=X):(Y<=X∧(Z:Int)=X-Y)∨(X<Y∧(Z:Int)=X+r-Y):=by
 by_cases hl:Z+Y<r
 ·rw[Nat.mod_eq_of_lt hl] at h
  left;omega
 ·rw[Nat.mod_eq_sub_mod (by omega),Nat.mod_eq_of_lt (by omega)] at h
  right;omega

theorem F0z {X Y Z:Nat} {N W v:Int} (hX:X<pN) (hY:Y<pN) (hcase:(Y<=X∧(Z:Int)=X-Y)∨(X<Y∧(Z:Int)=X+pN-Y))
  (hdiff:N-39402006196394479212279040100143613805079739270465446667948293404245721771497210611414266254884915640806627990306816*1=(X:Int)-Y) (hN1:N<39402006196394479212279040100143613805079739270465446667948293404245721771497210611414266254884915640806627990306816) (hW0:0<=W) (hW1:W<39402006196394479212279040100143613805079739270465446667948293404245721771497210611414266254884915640806627990306816) (hv0:0<=v) (hv1:v<=1)
  (hsum:W+39402006196394479212279040100143613805079739270465446667948293404245721771497210611414266254884915640806627990306816*v=N+G3 13402431016077863595 2210141511517208575 7435674573564081700 7239337960414712511 5412103778470702295 1873798617647539866):(Z:Int)=W:=by
 have hp:=A1l;have hm:G3 13402431016077863595 2210141511517208575 7435674573564081700 7239337960414712511 5412103778470702295 1873798617647539866=4002409555221667393417789825735904156556882819939007885332058136124031650490837864442687629129015664037894272559787:=by decide
 rw[hm] at hsum;have:v=0∨v=1:=by omega
 rcases hcase with ⟨h1,h2⟩ | ⟨h1,h2⟩
 ·exfalso;omega
 ·rcases this with rfl | rfl<;>omega

theorem D4e (x y:Fp):FnD Try.prog 114 [.v (.a [.ob (.p x)]),.v (.a [.ob (.p y)])] (.v (.a [.ob (.p (x-y))])) []:=by
 have r0:=F4g x y;dsimp only at r0;have r1:=F4h x y;dsimp only at r1;have hX:=B3m x;have hY:=B3m y;have hZ:=B3m (x-y);have hsub:=F5s x y;have ex:=(A1g (Ob.p x).n (Nat.lt_trans (B3m x) (by decide))).1
 have ey:=(A1g (Ob.p y).n (Nat.lt_trans (B3m y) (by decide))).1
 have x0:=D1 (Ob.p x).n 0;have x1:=D1 (Ob.p x).n 1;have x2:=D1 (Ob.p x).n 2;have x3:=D1 (Ob.p x).n 3;have x4:=D1 (Ob.p x).n 4;have x5:=D1 (Ob.p x).n 5;have y0:=D1 (Ob.p y).n 0;have y1:=D1 (Ob.p y).n 1;have y2:=D1 (Ob.p y).n 2;have y3:=D1 (Ob.p y).n 3;have y4:=D1 (Ob.p y).n 4;have y5:=D1 (Ob.p y).n 5;generalize A0 (Ob.p x).n 0=a0 at *;generalize A0 (Ob.p x).n 1=a1 at *;generalize A0 (Ob.p x).n 2=a2 at *;generalize A0 (Ob.p x).n 3=a3 at *;generalize A0 (Ob.p x).n 4=a4 at *;generalize A0 (Ob.p x).n 5=a5 at *;generalize A0 (Ob.p y).n 0=b0 at *;generalize A0 (Ob.p y).n 1=b1 at *;generalize A0 (Ob.p y).n 2=b2 at *;generalize A0 (Ob.p y).n 3=b3 at *;generalize A0 (Ob.p y).n 4=b4 at *;generalize A0 (Ob.p y).n 5=b5 at *;obtain ⟨e0,p0,p0',c0,c0'⟩:=E5 (c:=0) x0.1 x0.2 y0.1 y0.2 (by decide) (by decide)
 obtain ⟨e1,p1,p1',c1,c1'⟩:=E5 x1.1 x1.2 y1.1 y1.2 c0 c0';obtain ⟨e2,p2,p2',c2,c2'⟩:=E5 x2.1 x2.2 y2.1 y2.2 c1 c1';obtain ⟨e3,p3,p3',c3,c3'⟩:=E5 x3.1 x3.2 y3.1 y3.2 c2 c2';obtain ⟨e4,p4,p4',c4,c4'⟩:=E5 x4.1 x4.2 y4.1 y4.2 c3 c3';obtain ⟨e5,p5,p5',c5,c5'⟩:=E5 x5.1 x5.2 y5.1 y5.2 c4 c4';generalize hq0:A2 1 a0 b0 0=q0 at *;generalize hq1:A2 1 a1 b1 q0.2=q1 at *;generalize hq2:A2 1 a2 b2 q1.2=q2 at *;generalize hq3:A2 1 a3 b3 q2.2=q3 at *;generalize hq4:A2 1 a4 b4 q3.2=q4 at *;generalize hq5:A2 1 a5 b5 q4.2=q5 at *;clear hq0 hq1 hq2 hq3 hq4 hq5;have hcase:=D5s hX hY hZ hsub;have hdiff:=G7f e0 e1 e2 e3 e4 e5;rw[<-ex,<-ey] at hdiff;have hO:=lt6 p0 p0' p1 p1' p2 p2' p3 p3' p4 p4' p5 p5';have hO0:=W5 p0 p1 p2 p3 p4 p5;have hp:=A1l;by_cases hz:q5.2=0
 ·refine (A7 B3w Try.func114 r0 ?_).conv (fun _ _ h=>h) fun z v hd=>A5j rfl (X5 p0 p0' p1 p1' p2 p2' p3 p3' p4 p4' p5 p5' ?_) hd
  ·simp only[A3,and_true,Ob.k,beq_iff_eq]
   clear hsub hX hY hZ ex ey r0 r1 hcase hdiff hO hO0 hp e0 e1 e2 e3 e4 e5;obtain ⟨x0,x0'⟩:=x0;obtain ⟨y0,y0'⟩:=y0;obtain ⟨x1,x1'⟩:=x1;obtain ⟨y1,y1'⟩:=y1;obtain ⟨x2,x2'⟩:=x2;obtain ⟨y2,y2'⟩:=y2;obtain ⟨x3,x3'⟩:=x3;obtain ⟨y3,y3'⟩:=y3;obtain ⟨x4,x4'⟩:=x4;obtain ⟨y4,y4'⟩:=y4;obtain ⟨x5,x5'⟩:=x5;obtain ⟨y5,y5'⟩:=y5;and_intros<;>first | assumption | decide | omega
  ·rw[hz] at hdiff
   rcases hcase with ⟨h1,h2⟩ | ⟨h1,h2⟩<;>omega
 ·have hz1:q5.2=1:=by omega
  obtain ⟨f0,s0,s0',d0,d0'⟩:=F2 (y:=13402431016077863595) (c:=0) p0 p0' (by decide) (by decide) (by decide) (by decide)
  obtain ⟨f1,s1,s1',d1,d1'⟩:=F2 (y:=2210141511517208575) p1 p1' (by decide) (by decide) d0 d0'
  obtain ⟨f2,s2,s2',d2,d2'⟩:=F2 (y:=7435674573564081700) p2 p2' (by decide) (by decide) d1 d1'
  obtain ⟨f3,s3,s3',d3,d3'⟩:=F2 (y:=7239337960414712511) p3 p3' (by decide) (by decide) d2 d2'
  obtain ⟨f4,s4,s4',d4,d4'⟩:=F2 (y:=5412103778470702295) p4 p4' (by decide) (by decide) d3 d3'
  obtain ⟨f5,s5,s5',d5,d5'⟩:=F2 (y:=1873798617647539866) p5 p5' (by decide) (by decide) d4 d4'
  generalize hw0:A2 0 q0.1 13402431016077863595 0=w0 at *;generalize hw1:A2 0 q1.1 2210141511517208575 w0.2=w1 at *;generalize hw2:A2 0 q2.1 7435674573564081700 w1.2=w2 at *;generalize hw3:A2 0 q3.1 7239337960414712511 w2.2=w3 at *;generalize hw4:A2 0 q4.1 5412103778470702295 w3.2=w4 at *;generalize hw5:A2 0 q5.1 1873798617647539866 w4.2=w5 at *;clear hw0 hw1 hw2 hw3 hw4 hw5;have hS:=F8b f0 f1 f2 f3 f4 f5;have hW:=lt6 s0 s0' s1 s1' s2 s2' s3 s3' s4 s4' s5 s5';have hW0:=W5 s0 s1 s2 s3 s4 s5;refine (A7 B3w Try.func114 r1 ?_).conv (fun _ _ h=>h) fun z v hd=>A5j rfl (X5 s0 s0' s1 s1' s2 s2' s3 s3' s4 s4' s5 s5' ?_) hd
  ·simp only[A3,and_true,Ob.k,beq_eq_false_iff_ne]
   clear hsub hX hY hZ ex ey r0 r1 hcase hdiff hO hO0 hp hS hW hW0 e0 e1 e2 e3 e4 e5 f0 f1 f2 f3 f4 f5;obtain ⟨x0,x0'⟩:=x0;obtain ⟨y0,y0'⟩:=y0;obtain ⟨x1,x1'⟩:=x1;obtain ⟨y1,y1'⟩:=y1;obtain ⟨x2,x2'⟩:=x2;obtain ⟨y2,y2'⟩:=y2;obtain ⟨x3,x3'⟩:=x3;obtain ⟨y3,y3'⟩:=y3;obtain ⟨x4,x4'⟩:=x4;obtain ⟨y4,y4'⟩:=y4;obtain ⟨x5,x5'⟩:=x5;obtain ⟨y5,y5'⟩:=y5;and_intros<;>first | assumption | decide | omega
  ·rw[hz1] at hdiff
   exact F0z hX hY hcase hdiff hO hW0 hW d5 d5' hS

end

section

def C5e:B7
 | [.v (.a [.ob (.fp a)])]=>some ([],.v (.a [.ob (.p (inP a))]),[])
 | _=>none
def G2b:Env:=qeE.set (E8 qeE.fn 83 C5e)
theorem F6a:A6 Try.prog G2b:=A9 B3w 83 C5e (A4 Try.func83 rfl rfl) fun args o r es h _=>by
 unfold C5e at h;split at h
 ·cases h;exact F3e _
 ·cases h
def B9q:B7
 | [.v (.a [.ob (.p x)])]=>some ([],.v (.a [.ob (.fp (A0b x))]),[])
 | _=>none
def G2c:Env:=G2b.set (E8 G2b.fn 77 B9q)
theorem F6b:A6 Try.prog G2c:=A9 F6a 77 B9q (A4 Try.func77 rfl rfl) fun args o r es h _=>by
 unfold B9q at h;split at h
 ·cases h;exact E8x _
 ·cases h
def A9k:B7
 | [.v (.a [.ob (.p x)]),.v (.a [.ob (.p y)])]=>some ([],.v (.a [.ob (.p (x*y))]),[])
 | _=>none
def G2d:Env:=G2c.set (E8 G2c.fn 88 A9k)
theorem F6c:A6 Try.prog G2d:=A9 F6b 88 A9k (A4 Try.func88 rfl rfl) fun args o r es h _=>by
 unfold A9k at h;split at h
 ·cases h;exact D5v _ _
 ·cases h
def B3o:B7
 | [.v (.a [.ob (.p x)]),.v (.a [.ob (.p y)])]=>some ([],.v (.a [.ob (.p (x+y))]),[])
 | _=>none
def G2e:Env:=G2d.set (E8 G2d.fn 89 B3o)
theorem F6d:A6 Try.prog G2e:=A9 F6c 89 B3o (A4 Try.func89 rfl rfl) fun args o r es h _=>by
 unfold B3o at h;split at h
 ·cases h;exact E1l _ _
 ·cases h
def A8j:B7
 | [.v (.a [.ob (.p x)]),.v (.a [.ob (.p y)])]=>some ([],.v (.a [.ob (.p (x-y))]),[])
 | _=>none
def qeF:Env:=G2e.set (E8 G2e.fn 114 A8j)
theorem C6u:A6 Try.prog qeF:=A9 F6d 114 A8j (A4 Try.func114 rfl rfl) fun args o r es h _=>by
 unfold A8j at h;split at h
 ·cases h;exact D4e _ _
 ·cases h
theorem F7e (n:Int):let b:Int:=18446744073709551616;let d:=0<=(0:Int);C9 qeF Try.f82 3000 [.v (.c (.int .u64 n))] [] [] []=(some ([(0<=n),(n<b),d,(0<b),d,(0<b),d,(0<b),d,(0<b),d,(0<b)],((.v (.a [(.ob (.p (inP (Fin.ofNat B6 ((n).toNat+0)))))])),[]))):=by intros;kernel_rfl
theorem G5o (x:Fp):C9 qeF Try.f115 3000 [.v (.a [.ob (.p x)])] [] [] []=(some ([],((.v (.a [(.ob (.p ((0:Fp)-x)))])),[]))):=by kernel_rfl
theorem G4e (x:Fp):C9 qeF Try.f113 3000 [.v (.a [.ob (.p x)])] [] [] []=(some ([],((.ci (.bool (ite (true=true) (decide (x=(0:Fp))) (Bool.not (decide (x=(0:Fp))))))),[]))):=by kernel_rfl
end

namespace S4

theorem D5z {x:Ctx} {q:Sq} (hq:q.n=0) {v:Value} (h:B1 x (.v (.c (.val (.slice none 0 0)))) v):B1 x (.v (.c (.sl q))) v:=by
 have e:=(O9 h).1;subst e;exact ⟨rfl,1,.inl ⟨none,0,rfl,hq⟩⟩
def hA:Env:=gL
theorem G5a:A6 Try.prog hA:=A3m
def E4x:B7
 | [.v (.c (.sl (.fr a)))]=>some ([a.length<=8796093022208],.v (.c (.slc 0 0 a.length 4)),[.sq (.s (a.map inF))])
 | [.v (.c (.val (.slice none 0 0)))]=>some ([],.v (.c (.slc 0 0 0 4)),[.sq (.s [])])
 | _=>none
def hB:Env:=hA.set (E8 hA.fn 51 E4x)
theorem G5b:A6 Try.prog hB:=A9 G5a 51 E4x (A4 Try.func51 rfl rfl) fun args o r es h ho=>by
 unfold E4x at h;split at h
 ·cases h;exact E4y _ ho.1
 ·cases h
  refine (E4y [] (by decide)).conv (fun x vs hd=>?_) (fun _ _ h=>h)
  cases hd with | cons ha hd=>
  cases hd
  exact .cons (D5z rfl ha) .nil
 ·cases h
def B6n:B7
 | [.v (.c (.sl (.s a)))]=>some ([a.length<=8796093022208],.v (.c (.slc 0 0 (A2p a).length 4)),[.sq (.fr ((A2p a).map I8))])
 | _=>none
def hC:Env:=hB.set (E8 hB.fn 50 B6n)
theorem F8j:A6 Try.prog hC:=A9 G5b 50 B6n (A4 Try.func50 rfl rfl) fun args o r es h ho=>by
 unfold B6n at h;split at h
 ·cases h;exact E3d _ ho.1
 ·cases h
theorem G7g (a:List U4):let b:=List.map S4.inF a;C9 hC Try.f30 3000 [.v (.c (.sl (.fr a)))] [] [64] []=(some ([(a.length<=8796093022208),(0=0),(a.length=b.length),(4=4),(b.length<=8796093022208)],((.ci (.slc 0 0 (S4.A2p b).length 4)),[(.sq (.fr (List.map S4.I8 (S4.A2p b))))]))):=by intros;kernel_rfl
end S4

namespace S4

theorem F1k (a:List U4) (h:a.length<=8796093022208):FnD Try.prog 30 [.v (.c (.sl (.fr a)))] (.v (.c (.slc 0 0 (A2p (a.map inF)).length 4))) [.sq (.fr ((A2p (a.map inF)).map I8))]:=
 A7 F8j Try.func30 (G7g a) ⟨h,rfl,by simp,rfl,by simpa using h,trivial⟩
end S4


namespace S4



theorem C9i (x:Fr):x*0=0:=Fin.mul_zero x
theorem D3k (x:Fr):x*1=x:=Fin.mul_one x

end S4

namespace S4

/-- Bits of two kinds change places. -/
def swp (m s x:Int):Int:=E7 .or .u64 (E7 .and .u64 (Int.fdiv x s) m) (wrap .u64 ((E7 .and .u64 x m)*s))
def F0l (x:Int):Int:=E7 .or .u64 (Int.fdiv (swp 281470681808895 65536 (swp 71777214294589695 256 x)) 4294967296) (wrap .u64 (swp 281470681808895 65536 (swp 71777214294589695 256 x)*4294967296))
def D5h (x:Int):Int:=F0l (swp 1085102592571150095 16 (swp 3689348814741910323 4 (swp 6148914691236517205 2 x)))

def A3c (m:BitVec 64) (s:Nat) (x:BitVec 64):BitVec 64:=((x >>> s) &&& m) ||| ((x &&& m) <<< s)

theorem E3b (x y:BitVec 64):E7 .and .u64 (x.toNat:Int) (y.toNat:Int)=((x &&& y).toNat:Int):=by
 show wrap IntKind.u64 ((BitVec.ofInt 64 (x.toNat:Int) &&& BitVec.ofInt 64 (y.toNat:Int)).toNat:Int)=_;rw[BitVec.ofInt_natCast,BitVec.ofInt_natCast,BitVec.ofNat_toNat,BitVec.ofNat_toNat];exact A1x (by omega) (by have:=(BitVec.setWidth 64 x &&& BitVec.setWidth 64 y).isLt;omega) |>.trans (by simp)

theorem F8p (x y:BitVec 64):E7 .or .u64 (x.toNat:Int) (y.toNat:Int)=((x ||| y).toNat:Int):=by
 show wrap IntKind.u64 ((BitVec.ofInt 64 (x.toNat:Int) ||| BitVec.ofInt 64 (y.toNat:Int)).toNat:Int)=_
 rw[BitVec.ofInt_natCast,BitVec.ofInt_natCast,BitVec.ofNat_toNat,BitVec.ofNat_toNat];exact A1x (by omega) (by have:=(BitVec.setWidth 64 x ||| BitVec.setWidth 64 y).isLt;omega) |>.trans (by simp)

theorem D5l (x:BitVec 64) (s:Nat):Int.fdiv (x.toNat:Int) ((2 ^ s:Nat):Int)=((x >>> s).toNat:Int):=by
 rw[BitVec.toNat_ushiftRight,Nat.shiftRight_eq_div_pow,Int.fdiv_eq_ediv_of_nonneg _ (Int.natCast_nonneg _)];exact (Int.natCast_ediv _ _).symm

theorem F0p (x:BitVec 64) (s:Nat):wrap IntKind.u64 ((x.toNat:Int)*((2 ^ s:Nat):Int))=((x <<< s).toNat:Int):=by
 rw[BitVec.toNat_shiftLeft,Nat.shiftLeft_eq,B1x,<-Int.natCast_mul];omega

theorem C0r (m:BitVec 64) (s:Nat) (x:BitVec 64):swp (m.toNat:Int) ((2 ^ s:Nat):Int) (x.toNat:Int)=((A3c m s x).toNat:Int):=by
 unfold swp A3c;rw[D5l,E3b,E3b,F0p,F8p]

def C7o (x:BitVec 64):BitVec 64:=(x >>> 32) ||| (x <<< 32)
def F0f (x:BitVec 64):BitVec 64:=C7o (A3c 281470681808895#64 16 (A3c 71777214294589695#64 8 (A3c 1085102592571150095#64 4 (A3c 3689348814741910323#64 2 (A3c 6148914691236517205#64 1 x)))))

theorem F6u (x:BitVec 64):D5h (x.toNat:Int)=((F0f x).toNat:Int):=by
 unfold D5h F0l F0f C7o;have h1:=C0r 6148914691236517205#64 1 x;have h2:=C0r 3689348814741910323#64 2 (A3c 6148914691236517205#64 1 x);have h3:=C0r 1085102592571150095#64 4 (A3c 3689348814741910323#64 2 (A3c 6148914691236517205#64 1 x));have h4:=C0r 71777214294589695#64 8 (A3c 1085102592571150095#64 4 (A3c 3689348814741910323#64 2 (A3c 6148914691236517205#64 1 x)));have h5:=C0r 281470681808895#64 16 (A3c 71777214294589695#64 8 (A3c 1085102592571150095#64 4 (A3c 3689348814741910323#64 2 (A3c 6148914691236517205#64 1 x))));have h1:swp 6148914691236517205 2 (x.toNat:Int)=_:=h1;rw[h1];have h2:swp 3689348814741910323 4 ((A3c 6148914691236517205#64 1 x).toNat:Int)=_:=h2;rw[h2];have h3:swp 1085102592571150095 16 _=_:=h3;rw[h3];have h4:swp 71777214294589695 256 _=_:=h4;rw[h4];have h5:swp 281470681808895 65536 _=_:=h5;rw[h5];generalize A3c 281470681808895#64 16 _=y;have g1:Int.fdiv (y.toNat:Int) 4294967296=_:=D5l y 32;have g2:wrap .u64 ((y.toNat:Int)*4294967296)=_:=F0p y 32;rw[g1,g2,F8p]

theorem A6g (m:BitVec 64) (s:Nat) (p:Nat->Nat) (h:∀i,i<64->(m.getLsbD i=true∧p i=s+i∧(i<s∨m.getLsbD (i-s)=false))∨(m.getLsbD i=false∧s<=i∧m.getLsbD (i-s)=true∧p i=i-s)) (x:BitVec 64) {i:Nat} (hi:i<64) :
  (A3c m s x).getLsbD i=x.getLsbD (p i):=by
 unfold A3c;rw[BitVec.getLsbD_or,BitVec.getLsbD_and,BitVec.getLsbD_ushiftRight,BitVec.getLsbD_shiftLeft,BitVec.getLsbD_and];rcases h i hi with ⟨h1,h2,h3⟩ | ⟨h1,h2,h3,h4⟩
 ·rw[h1,h2]
  rcases h3 with h3 | h3
  ·simp [h3]
  ·simp [h3]
 ·rw[h1,h3,h4]
  simp [hi,Nat.not_lt.2 h2]

theorem D5t (x:BitVec 64) {i:Nat} (hi:i<64):(C7o x).getLsbD i=x.getLsbD (if i<32 then 32+i else i-32):=by
 unfold C7o;rw[BitVec.getLsbD_or,BitVec.getLsbD_ushiftRight,BitVec.getLsbD_shiftLeft];by_cases h:i<32
 ·simp [h]
 ·simp only[h,if_false,hi,decide_true,decide_false,Bool.not_false,Bool.true_and]
  rw[BitVec.getLsbD_of_ge x (32+i) (by omega)]
  simp

def par (s i:Nat):Nat:=if i / s % 2=0 then s+i else i-s

theorem F0g (x:BitVec 64) {i:Nat} (hi:i<64):(F0f x).getLsbD i=x.getLsbD (63-i):=by
 unfold F0f;have hp:∀i,i<64->par 1 i<64∧par 2 i<64∧par 4 i<64∧par 8 i<64∧par 16 i<64∧(if i<32 then 32+i else i-32)<64:=by decide
 have he:∀i,i<64->par 1 (par 2 (par 4 (par 8 (par 16 (if i<32 then 32+i else i-32)))))=63-i:=by decide
 rw[D5t _ hi,A6g _ 16 (par 16) (by decide) _ (hp _ hi).2.2.2.2.2]
 have h1:=(hp _ (hp _ hi).2.2.2.2.2).2.2.2.2.1;rw[A6g _ 8 (par 8) (by decide) _ h1]
 have h2:=(hp _ h1).2.2.2.1;rw[A6g _ 4 (par 4) (by decide) _ h2]
 have h3:=(hp _ h2).2.2.1;rw[A6g _ 2 (par 2) (by decide) _ h3]
 have h4:=(hp _ h3).2.1;rw[A6g _ 1 (par 1) (by decide) _ h4,he _ hi]

/-- So many bits turned round. -/
def brv:Nat->Nat->Nat
 | 0,_=>0
 | m+1,i=>2 ^ m*(i % 2)+brv m (i / 2)

theorem B6q:∀m i,brv m i<2 ^ m
 | 0,_=>by simp [brv]
 | m+1,i=>by
  have:=B6q m (i / 2)
  have h2:i % 2<2:=Nat.mod_lt _ (by decide)
  simp only[brv,Nat.pow_succ];rcases (by omega:i % 2=0∨i % 2=1) with h | h<;>rw[h]<;>omega

theorem B5l:∀m i k,(brv m i).testBit k=(decide (k<m) && i.testBit (m-1-k))
 | 0,_,k=>by simp [brv]
 | m+1,i,k=>by
  simp only[brv];rw[Nat.testBit_two_pow_mul_add _ (B6q m (i / 2)),B5l m (i / 2) k];by_cases h:k<m
  ·simp only[h,if_true,decide_true,Bool.true_and,Nat.add_sub_cancel]
   rw[show decide (k<m+1)=true from by simp;omega,Bool.true_and,show m-k=(m-1-k)+1 from by omega,Nat.testBit_succ]
  ·simp only[h,if_false]
   by_cases h2:k=m
   ·subst h2
    simp [Nat.testBit_zero]
   ·rw[show decide (k<m+1)=false from by simp;omega,Bool.false_and,Nat.testBit_lt_two_pow]
    exact Nat.lt_of_lt_of_le (Nat.mod_lt _ (by decide)) (by have:=Nat.one_lt_two_pow (n:=k-m) (by omega);omega)

theorem E1s {m i:Nat} (hm:0<m) (hm2:m<=16) (hi:i<2 ^ m):wrap .i64 (Int.fdiv (D5h (wrap .u64 (i:Int))) ((2:Int) ^ (Min.min (wrap .i64 ((64:Int)-(m:Int))).toNat 64)))=((brv m i:Nat):Int):=by
 have hp:2 ^ m<=2 ^ 16:=Nat.pow_le_pow_right (by decide) hm2
 have hi64:i<18446744073709551616:=by omega
 rw[A1x (by omega) (by omega),B0 (n:=(64:Int)-(m:Int)) (by omega) (by omega)]
 have e1:min (((64:Int)-(m:Int)).toNat) 64=64-m:=by omega
 rw[e1];have e2:(i:Int)=((BitVec.ofNat 64 i).toNat:Int):=by
  rw[BitVec.toNat_ofNat,Nat.mod_eq_of_lt hi64]
 rw[e2,F6u];have e3:((2:Int) ^ (64-m))=((2 ^ (64-m):Nat):Int):=by simp
 rw[e3,D5l];have e4:(F0f (BitVec.ofNat 64 i) >>> (64-m)).toNat=brv m i:=by
  apply Nat.eq_of_testBit_eq
  intro k;rw[B5l,BitVec.testBit_toNat,BitVec.getLsbD_ushiftRight];by_cases h:k<m
  ·rw[F0g _ (by omega),show decide (k<m)=true from by simp [h],Bool.true_and,BitVec.getLsbD_ofNat,show 63-(64-m+k)=m-1-k from by omega]
   simp
   omega
  ·rw[BitVec.getLsbD_of_ge _ _ (by omega)]
   simp [h]
 rw[e4];have:=B6q m i
 exact B0 (by omega) (by omega)
end S4

namespace S4
section
variable {w0:World} {F0:Nat->Prop} {K:Kp} {ac:List Act} {Q:Exit->Act->World->Prop} {cX:Ctx} {aX:Act}

theorem rvb (x:Int):let d:Int:=71777214294589695;let a:=E7 BinOp.or IntKind.u64 (E7 BinOp.and IntKind.u64 (Int.fdiv x (256:Int)) d) (wrap .u64 ((E7 BinOp.and IntKind.u64 x d)*(256:Int)));let f:Int:=281470681808895;let b:=E7 BinOp.or IntKind.u64 (E7 BinOp.and IntKind.u64 (Int.fdiv a (65536:Int)) f) (wrap .u64 ((E7 BinOp.and IntKind.u64 a f)*(65536:Int)));let g:Int:=4294967296;C9 dC Try.f85 3000 [.v (.c (.int .u64 x))] [] [] []=(some ([(0<=(8:Int)),(0<=(8:Int)),(0<=(16:Int)),(0<=(16:Int)),(0<=(32:Int)),(0<=(32:Int))],((.iu (E7 BinOp.or IntKind.u64 (Int.fdiv b g) (wrap .u64 (b*g)))),[]))):=by intros;kernel_rfl

theorem F6z (x:Int):FnD Try.prog 85 [.v (.c (.int .u64 x))] (.v (.c (.int .u64 (F0l x)))) []:=
 A7 C8m Try.func85 (rvb x) ⟨by decide,by decide,by decide,by decide,by decide,by decide,trivial⟩
def C7d:B7
 | [.v (.c (.int .u64 x))]=>some ([],.v (.c (.int .u64 (F0l x))),[])
 | _=>none
def dW1:Env:=dC.set (E8 dC.fn 85 C7d)
theorem D3c:A6 Try.prog dW1:=A9 C8m 85 C7d (A4 Try.func85 rfl rfl) fun args o r es h _=>by
 unfold C7d at h;split at h
 ·cases h;exact F6z _
 ·cases h
theorem rev (x:Int):let d:Int:=6148914691236517205;let f:Int:=3689348814741910323;let g:Int:=1085102592571150095;let h:Int:=2;let a:=E7 BinOp.or IntKind.u64 (E7 BinOp.and IntKind.u64 (Int.fdiv x h) d) (wrap .u64 ((E7 BinOp.and IntKind.u64 x d)*h));let i:Int:=4;let b:=E7 BinOp.or IntKind.u64 (E7 BinOp.and IntKind.u64 (Int.fdiv a i) f) (wrap .u64 ((E7 BinOp.and IntKind.u64 a f)*i));C9 dW1 Try.f72 3000 [.v (.c (.int .u64 x))] [] [] []=(some ([(0<=(1:Int)),(0<=(1:Int)),(0<=h),(0<=h),(0<=i),(0<=i)],((.iu (S4.F0l (E7 BinOp.or IntKind.u64 (E7 BinOp.and IntKind.u64 (Int.fdiv b (16:Int)) g) (wrap .u64 ((E7 BinOp.and IntKind.u64 b g)*(16:Int)))))),[]))):=by intros;kernel_rfl
theorem F6v (x:Int):FnD Try.prog 72 [.v (.c (.int .u64 x))] (.v (.c (.int .u64 (D5h x)))) []:=
 A7 D3c Try.func72 (rev x) ⟨by decide,by decide,by decide,by decide,by decide,by decide,trivial⟩
def C6z:B7
 | [.v (.c (.int .u64 x))]=>some ([],.v (.c (.int .u64 (D5h x))),[])
 | _=>none
def dW2:Env:=dW1.set (E8 dW1.fn 72 C6z)
theorem A7x:A6 Try.prog dW2:=A9 D3c 72 C6z (A4 Try.func72 rfl rfl) fun args o r es h _=>by
 unfold C6z at h;split at h
 ·cases h;exact F6v _
 ·cases h

def F9o (T:Nat->Option Func) (f:Nat):Option Func:=if f=45 then some Try.f45 else T f
def dW:Env:={ dW2 with inl:=F9o dW2.inl }
theorem W9:A6 Try.prog dW:=by
 refine ⟨A7x.ty,A7x.mixed,A7x.fn,A7x.mu,fun f fn h=>?_,A7x.ex,A7x.inv⟩
 have h:F9o dW2.inl f=some fn:=h;unfold F9o at h;split at h
 ·rename_i hf;cases h;subst hf;exact ⟨Try.func45,A4 Try.func45 rfl rfl⟩
 exact A7x.inl f fn h

def C0q:List KI:=(run dW false 3000 (⟨[.code (B2 Try.f71)],.normal,⟨B2b [.v (.c (.val (.func (.yield dF) #[] #[]))),.v (.c (.ptr 0 0))],one (.fl [.int .i64 dF]),Try.f71.ntmps,16,[]⟩⟩:Cfg) []).cfg.k
theorem sw (l:Nat) (log:Int):let a:=Array.mk ([]:List Value);A3 [(0<=log)]->Sg Try.prog (⟨B2b [.v (.c (.val (.func (.yield l) #[] #[]))),.v (.c (.ptr 0 0))],one (.fl [.int .i64 log]),Try.f71.ntmps,16,[]⟩) (A5 30 [0,1,6,7] [(.ci (.val (Value.func (Fn.yield l) a a))),.pt 0 0,(.ii (wrap .i64 ((1:Int)*((2:Int) ^ (Min.min (log).toNat 64))))),.ii (0:Int)] [0] [(eF_ [(.int .i64 log)])] 64 [] []) .normal (C0q) ([.code (B2 Try.f71)]):=sgA false 3000 [] W9
def swS (l:Nat) (log n i :Int):St:=A5 30 [0,1,6,7] [(.ci (.val (Value.func (Fn.yield l) (Array.mk ([]:List Value)) (Array.mk ([]:List Value))))),.pt 0 0,.v (.c (.int .i64 n)),.v (.c (.int .i64 i))] [0] [(eF_ [(.int .i64 log)])] 64 [] []
def F8t:List KI:=(run dW false 3000 (⟨B5 C0q,.normal,swS dF dF dF dF⟩:Cfg) [true,true,true]).cfg.k
theorem swY (l:Nat) (log n i:Int):let c:=wrap .i64 ((64:Int)-log);let a:=wrap .i64 (Int.fdiv (S4.D5h (wrap .u64 i)) ((2:Int) ^ (Min.min (c).toNat 64)));let d:=Array.mk ([]:List Value);let b:=Value.func (Fn.yield l) d d;A3 [((decide (i<n))=true),((decide (log > (0:Int)))=true),(0<=c),((decide (i<a))=true)]->Sg Try.prog (swS l log n i) (A5 30 [0,1,6,7,22,23,24,25] [(.ci (.val b)),.pt 0 0,.ii n,.ii i,(.ci (.lit true)),(.ci (.val b)),.ii i,(.ii a)] [0] [(eF_ [(.int .i64 log)])] 400 [] []) .normal (F8t) (B5 C0q):=sgA false 3000 [true,true,true] W9
theorem swB (l:Nat) (log n i j:Int):let a:=Array.mk ([]:List Value);A3 []->Sg Try.prog (⟨J7 (E1 .top [0,1,6,7,22,23,24,25] [(.ci (.val (.func (.yield l) #[] #[]))),.v (.c (.ptr 0 0)),.v (.c (.int .i64 n)),.v (.c (.int .i64 i)),.v (.c (.lit true)),(.ci (.val (.func (.yield l) #[] #[]))),.v (.c (.int .i64 i)),.v (.c (.int .i64 j))]) 26 (.ci (.lit true)),one (.fl [.int .i64 log]),30,400,[]⟩) (A5 30 [0,1,6,7] [(.ci (.val (Value.func (Fn.yield l) a a))),.pt 0 0,.ii n,(.ii (wrap .i64 (i+1)))] [0] [(eF_ [(.int .i64 log)])] 464 [] []) .normal (D5 C0q) (I3 F8t):=sgA false 3000 [] W9
section
variable (l:Nat) (log n i:Int)
theorem swN:let a:=wrap .i64 ((64:Int)-log);let b:=Array.mk ([]:List Value);A3 [((decide (i<n))=true),((decide (log > (0:Int)))=true),(0<=a),((decide (i<(wrap .i64 (Int.fdiv (S4.D5h (wrap .u64 i)) ((2:Int) ^ (Min.min (a).toNat 64))))))=false)]->Sg Try.prog (swS l log n i) (A5 30 [0,1,6,7] [(.ci (.val (Value.func (Fn.yield l) b b))),.pt 0 0,.ii n,(.ii (wrap .i64 (i+1)))] [0] [(eF_ [(.int .i64 log)])] 480 [] []) .normal (D5 C0q) (B5 C0q):=sgA false 3000 [true,true,false] W9
theorem swZ:let a:=Array.mk ([]:List Value);A3 [((decide (i<n))=true),((decide (log > (0:Int)))=false),((decide (i<(0:Int)))=false)]->Sg Try.prog (swS l log n i) (A5 30 [0,1,6,7] [(.ci (.val (Value.func (Fn.yield l) a a))),.pt 0 0,.ii n,(.ii (wrap .i64 (i+1)))] [0] [(eF_ [(.int .i64 log)])] 352 [] []) .normal (D5 C0q) (B5 C0q):=sgA false 3000 [true,false,false] W9
theorem swX:A3 [((decide (i<n))=false)]->Sg Try.prog (swS l log n i) (A5 30 [] [] [0] [(eF_ [(.int .i64 log)])] 80 [] []) .normal ([]) (B5 C0q):=sgA false 3000 [false] W9
end
end
end S4

namespace S4

/-- The pairs among the first so many places. -/
def prs (log:Nat):Nat->List (Nat×Nat)
 | 0=>[]
 | i+1=>prs log i++(if i<brv log i then [(i,brv log i)] else [])

theorem D8a (log:Nat):∀{n i:Nat},i<=n->∃t,prs log n=prs log i++t
 | 0,i,h=>⟨[],by rw[show i=0 from by omega];simp⟩
 | n+1,i,h=>by
  by_cases h1:i=n+1
  ·exact ⟨[],by rw[h1];simp⟩
  ·obtain ⟨t,ht⟩:=D8a log (n:=n) (i:=i) (by omega)
   exact ⟨_,by simp only[prs];rw[ht,List.append_assoc]⟩

def E9r (z:Nat×Nat):List Value:=[.int .i64 (z.1:Int),.int .i64 (z.2:Int)]

theorem D8g {log:Nat} (h:log<=16):wrap .i64 ((1:Int)*((2:Int) ^ (min ((log:Int)).toNat 64)))=((2 ^ log:Nat):Int):=by
 have hp:2 ^ log<=2 ^ 16:=Nat.pow_le_pow_right (by decide) h
 rw[Int.one_mul,show min ((log:Int)).toNat 64=log from by omega]
 have e3:((2:Int) ^ log)=((2 ^ log:Nat):Int):=by simp
 rw[e3];generalize 2 ^ log=n at *;exact B0 (by omega) (by omega)

theorem C4k {y:Ctx} {p:Nat} {log:Int}:∀(cs:Array Value) ty,y.w.heap[y.β p]? = some (.cells cs ty (0,0))->D9 y (.fl [.int .i64 log]) cs.toList->D9 (E0 y p) (.fl [.int .i64 log]) cs.toList:=by
 intro cs ty _ h;exact B5u (e:=.fl [.int .i64 log]) rfl h

theorem D5u {x:Ctx} {p log:Nat} {M:List (Nat×Nat)->Nat->Option En} (hlog:log<=16) (hM:∀s,M s p=some (.fl [.int .i64 (log:Int)])):B6e Try.prog x 71 [(p,0)] E9r (prs log (2 ^ log)) M:=by
 intro l J W hgrow hread hyield hJ;have key:Wq Try.prog (bodyPost Try.prog Try.f71 fun e W' => (∃v,e=Ending.returned v)∧J (prs log (2 ^ log)) W') [.code (B2 Try.f71)] [] .normal { tmps:=[Value.func (.yield l) #[] #[],.pointer (some ⟨x.β p,0,none⟩)].toArray++Array.replicate 28 undef,defers:=[] } W:=?_
 ·exact calls_of_wp (c:=B2 Try.f71) Try.func71 rfl ((wpIn_wide (n:=0)).1 key.wp)
 obtain ⟨y,rfl,hm,hc⟩:=hread [] W hJ;obtain ⟨hr,hβ⟩:=hc (p,0) List.mem_cons_self;have hr:y.k p = .real:=hr;have hβ:y.β p=x.β p:=hβ;have hp2:2 ^ log<=2 ^ 16:=Nat.pow_le_pow_right (by decide) hlog
 have hargs:I0 (E0 y p) [.v (.c (.val (.func (.yield l) #[] #[]))),.v (.c (.ptr 0 0))] [.func (.yield l) #[] #[],.pointer (some ⟨x.β p,0,none⟩)]:=
  .cons ⟨rfl,0,rfl,rfl⟩ (.cons ⟨rfl,0,rfl,by show _=[Value.pointer (some ⟨y.β p,0,none⟩)];rw[hβ]⟩ .nil)
 have hs:=B8n (nx:=16) (nt:=30) (a:={ tmps:=[Value.func (.yield l) #[] #[],.pointer (some ⟨x.β p,0,none⟩)].toArray++Array.replicate 28 undef,defers:=[] }) hm (hM []) hr C4k rfl (by simp) (A0y hargs 28)
 change Wq Try.prog _ _ _ _ _ (E0 y p).w
 refine sw l (log:Int) ⟨by omega,trivial⟩ hs fun ac cY aY hs1=>?_
 rw[D8g hlog] at hs1;let I:{ i:Nat // i<=2 ^ log } -> List Act->Act->World->Prop:=fun i ac a w=>∃y z,z.w=w∧y.k p = .real∧y.β p=x.β p∧Mem y (M (prs log i.1))∧J (prs log i.1) y.w∧Sim y.w y.F (B2t (E0 y p)) ac (swS l (log:Int) ((2 ^ log:Nat):Int) (i.1:Int)) z a
 refine I2 I (fun i=>2 ^ log-i.1) (c:=lpC C0q) (k:=lpR C0q) (by kernel_rfl) (fun i ih ac b w hI=>?_) ⟨0,Nat.zero_le _⟩ ⟨y,cY,rfl,hr,hβ,hm,hJ,hs1.nx _⟩
 obtain ⟨i,hi⟩:=i;obtain ⟨y,z,rfl,hr,hβ,hm,hJ,hs⟩:=hI;simp only at hm hJ hs ih
 have hmb:Mem (E0 y p) (one (.fl [.int .i64 (log:Int)])):=A5k hm (hM _) hr C4k;by_cases h:i<2 ^ log
 ·have hd:decide ((i:Int)<((2 ^ log:Nat):Int))=true:=decide_eq_true (Int.ofNat_lt.2 h)
  have hw:wrap IntKind.i64 ((i:Int)+1)=((i+1:Nat):Int):=by rw[B0 (by omega) (by omega)];omega
  by_cases h0:log=0
  ·subst h0
   refine swZ l _ _ _ ⟨hd,by simp,by simp,trivial⟩ hs fun ac cZ aZ hs2=>?_
   rw[hw] at hs2;have e:prs 0 (i+1)=prs 0 i:=by simp [prs,brv]
   exact ih ⟨i+1,by omega⟩ (by show 2 ^ 0-(i+1)<2 ^ 0-i;omega) ac aZ _ ⟨y,cZ,rfl,hr,hβ,by rw[e];exact hm,by rw[e];exact hJ,hs2.nx _⟩
  ·have hj:=E1s (m:=log) (i:=i) (by omega) hlog h
   have hpos:decide ((log:Int) > (0:Int))=true:=by simp;omega
   have hsub:(0:Int)<=wrap IntKind.i64 ((64:Int)-(log:Int)):=by rw[B0 (by omega) (by omega)];omega
   by_cases h1:i<brv log i
   ·have e:prs log (i+1)=prs log i++[(i,brv log i)]:=by simp [prs,h1]
    refine swY l _ _ _ ⟨hd,hpos,hsub,by rw[hj];simp [h1],trivial⟩ hs fun ac cZ aZ hs2=>?_
    rw[hj] at hs2;obtain ⟨hg,hk2,hβ2⟩:=A6v hmb rfl hs2 rfl;have hJ2:=hgrow _ _ _ hJ hg;obtain ⟨t,ht⟩:=D8a log (n:=2 ^ log) (i:=i+1) (by omega)
    refine A6k (R:=fun W' => J (prs log (i+1)) W') (dst:=some 26) (f:=.tmp 23) (args:=[.tmp 24,.tmp 25]) (by kernel_rfl) hs2 (l:=l) rfl (vs:=E9r (i,brv log i)) ?_ ?_ fun W' hJ3=>?_
    ·have h24:=K3 (hs2.t 24)
     have h25:=K3 (hs2.t 25);show [aZ.tmps.getD 24 undef,aZ.tmps.getD 25 undef]=_;rw[h24,h25];rfl
    ·have:=hyield (prs log i) (i,brv log i) _ hJ2 ⟨t,by rw[ht,e,List.append_assoc];rfl⟩
     rw[<-e] at this;exact this
    ·obtain ⟨y3,rfl,hm3,hc3⟩:=hread _ _ hJ3
     obtain ⟨hr3,hβ3⟩:=hc3 (p,0) List.mem_cons_self;have hs3:=C9p (nx' := 400) (dst:=26) (b:=true) hs2 (by kernel_rfl) rfl hm3 (hM _) hr3 C4k (by rw[hβ2,hβ];exact hβ3.symm) (by decide)
     change Wq Try.prog _ _ _ _ _ (E0 y3 p).w
     refine swB l _ _ _ _ trivial hs3 fun ac cV aV hs4=>?_
     rw[hw] at hs4;exact ih ⟨i+1,by omega⟩ (by show 2 ^ log-(i+1)<2 ^ log-i;omega) ac aV _ ⟨y3,cV,rfl,hr3,hβ3,hm3,hJ3,hs4.nx _⟩
   ·have e:prs log (i+1)=prs log i:=by simp [prs,h1]
    refine swN l _ _ _ ⟨hd,hpos,hsub,by rw[hj];simp;omega,trivial⟩ hs fun ac cZ aZ hs2=>?_
    rw[hw] at hs2;exact ih ⟨i+1,by omega⟩ (by show 2 ^ log-(i+1)<2 ^ log-i;omega) ac aZ _ ⟨y,cZ,rfl,hr,hβ,by rw[e];exact hm,by rw[e];exact hJ,hs2.nx _⟩
 ·have e:i=2 ^ log:=by omega
  subst e;refine swX l _ _ _ ⟨by simp,trivial⟩ hs fun ac cZ aZ hs2=>?_
  obtain ⟨hg,_,_⟩:=A6v hmb rfl hs2 rfl;exact ⟨D3t D3c hs2 rfl rfl rfl (fun v=>⟨⟨v,rfl⟩,hgrow _ _ _ hJ hg⟩) (.inr rfl)⟩

end S4

namespace S4
section
variable {w0:World} {F0:Nat->Prop} {K:Kp} {ac:List Act} {Q:Exit->Act->World->Prop} {cX:Ctx} {aX:Act}

def C0t:List KI:=(run dW false 3000 (⟨[.code (B2 Try.f26)],.normal,C1j Try.f26.ntmps 0 dF 4 (.sq (.s dF)) [.v (.c (.int .i64 dF)),.v (.a [.ob (.s dF)])]⟩:Cfg) []).cfg.k
theorem tf (L:List Fr) (n:Nat) (log:Int) (w:Fr):A3 []->Sg Try.prog (C1j Try.f26.ntmps 0 n 4 (.sq (.s L)) [.v (.c (.int .i64 log)),.v (.a [.ob (.s w)])]) (A5 102 [3,5,16] [.pt 16 0,.pt 32 0,(.ci (.clo 71 [(64,0)]))] [0,16,32,64] [(eQ_ (.s L)),(eF_ [(.slc 0 0 n 4)]),(eF_ [.ob (.s w)]),(eF_ [(.int .i64 log)])] 128 [] []) .normal (C0t) ([.code (B2 Try.f26)]):=sgA false 3000 [] W9
def tfS (L:List Fr) (n:Nat) (log :Int) (w:Fr):St:=A5 102 [3,5,16] [.pt 16 0,.pt 32 0,(.ci (.clo 71 [(64,0)]))] [0,16,32,64] [some (.sq (.s L)),(eF_ [(.slc 0 0 n 4)]),(eF_ [.ob (.s w)]),(eF_ [(.int .i64 log)])] 128 [] []
theorem tfA (L:List Fr) (n:Nat) (log:Int) (w:Fr) (i j:Nat) {ρ:Option Nat} (ho:A3 []) (hs:Sim w0 F0 K ac (Y8 (tfS L n log w) [(17,.v (.c (.int .i64 (i:Int)))),(18,.v (.c (.int .i64 (j:Int))))]) cX aX) (hK:∀cY aY,Sim w0 F0 K ac (A5 102 [3,5,6,7] [.pt 16 0,.pt 32 0,(.ii (i:Int)),(.ii ((j:Nat):Int))] [0,16,32,64] [(eQ_ (.s L)),(eF_ [(.slc 0 0 n 4)]),(eF_ [.ob (.s w)]),(eF_ [(.int .i64 log)])] 160 [[3,5,16]] [([.pt 16 0,.pt 32 0,(.ci (.clo 71 [(64,0)]))],102)]) cY aY->Wq Try.prog Q ([]) ac Exit.normal aY cY.w ρ):Wq Try.prog Q ([.code (rfA C0t)]) ac .normal aX cX.w ρ :=
 N1 (unroll:=false) (n:=3000) (path:=[]) (o:=⟨_,_,_,_,_,_,_⟩) W9 (by kernel_rfl) (by kernel_rfl) ho (by kernel_rfl) (by kernel_rfl) hs hK
def tfB (L:List Fr) (n:Nat) (log :Int) (w:Fr) (i j:Nat):St:=A5 102 [3,5,6,7] [.pt 16 0,.pt 32 0,(.ii (i:Int)),(.ii ((j:Nat):Int))] [0,16,32,64] [some (.sq (.s L)),(eF_ [(.slc 0 0 n 4)]),(eF_ [.ob (.s w)]),(eF_ [(.int .i64 log)])] 160 [[3,5,16]] [([.pt 16 0,.pt 32 0,(.ci (.clo 71 [(64,0)]))],102)]
theorem tfC (L:List Fr) (n:Nat) (log:Int) (w:Fr) (i j:Nat) {ρ:Option Nat}:let a:Int:=(j:Nat);let c:Int:=i;let b:=List.set L (c).toNat (List.getD L (a).toNat 0);let d:Int:=(n:Nat);let f:=(c).toNat<L.length;(A3 [(0<=a),(a<d),(0=0),((a).toNat<L.length),(0<=c),(c<d),(0=0),f,(0<=c),(c<d),(0=0),f,(0<=a),(a<d),(0=0),((a).toNat<b.length)])->(Sim w0 F0 K ac (tfB L n log w i j) cX aX)->(∀cY aY,Sim w0 F0 K ac (A5 102 [] [] [0,16,32,64] [(eQ_ (.s (List.set b (a).toNat (List.getD L (c).toNat 0)))),(eF_ [(.slc 0 0 n 4)]),(eF_ [.ob (.s w)]),(eF_ [(.int .i64 log)])] 416 [[3,5,16]] [([.pt 16 0,.pt 32 0,(.ci (.clo 71 [(64,0)]))],102)]) cY aY->Wq Try.prog Q ([]) ac Exit.normal aY cY.w ρ)->Wq Try.prog Q ([.code (rfB C0t)]) ac .normal aX cX.w ρ :=fun ho hs hK=>
 N1 (unroll:=false) (n:=3000) (path:=[]) (o:=⟨_,_,_,_,_,_,_⟩) W9 (by kernel_rfl) (by kernel_rfl) ho (by kernel_rfl) (by kernel_rfl) hs hK
def tfE (L:List Fr) (n:Nat) (log :Int) (w:Fr):St:=A5 102 [] [] [0,16,32,64] [some (.sq (.s L)),(eF_ [(.slc 0 0 n 4)]),(eF_ [.ob (.s w)]),(eF_ [(.int .i64 log)])] 416 [[3,5,16]] [([.pt 16 0,.pt 32 0,(.ci (.clo 71 [(64,0)]))],102)]
def C0u:List KI:=(run dW false 3000 (⟨rfR C0t,.normal,tfS dF dF dF dF⟩:Cfg) []).cfg.k
theorem tg (L:List Fr) (n:Nat) (log:Int) (w:Fr):let b:=wrap .i64 (Int.tdiv ((n:Nat):Int) (2:Int));let a:=ite ((1:Int) > b) (1:Int) b;A3 [((2:Int)≠(0:Int)),(0<=a),(a<=(8796093022208:Int))]->Sg Try.prog (tfS L n log w) (A5 102 [3,8,9] [.pt 16 0,(.ci (.slc 208 0 (a).toNat 4)),.ii (1:Int)] [0,16,208] [(eQ_ (.s L)),(eF_ [(.slc 0 0 n 4)]),(eQ_ (.s (S4.A4k w (a).toNat)))] 256 [] []) .normal (C0u) (rfR C0t):=sgA false 3000 [] W9
def tgS (L A:List Fr) (n m:Nat) (half :Int):St:=A5 102 [3,8,9] [.pt 16 0,.v (.c (.slc 208 0 m 4)),.v (.c (.int .i64 half))] [0,16,208] [some (.sq (.s L)),(eF_ [(.slc 0 0 n 4)]),some (.sq (.s A))] 256 [] []
def D1s:List KI:=(run dW false 3000 (⟨B5 C0u,.normal,tgS dF dF dF dF dF⟩:Cfg) [true]).cfg.k
theorem th (L A:List Fr) (n m:Nat) (half:Int):let a:=wrap .i64 ((2:Int)*half);A3 [((decide (half<((n:Nat):Int)))=true),(a≠(0:Int))]->Sg Try.prog (tgS L A n m half) (A5 102 [3,8,9,10,11] [.pt 16 0,(.ci (.slc 208 0 m 4)),.ii half,(.ii (wrap .i64 (Int.tdiv ((n:Nat):Int) a))),.ii (0:Int)] [0,16,208] [(eQ_ (.s L)),(eF_ [(.slc 0 0 n 4)]),(eQ_ (.s A))] 432 [] []) .normal (D1s) (B5 C0u):=sgA false 3000 [true] W9
def thS (L A:List Fr) (n m:Nat) (half st fr :Int):St:=A5 102 [3,8,9,10,11] [.pt 16 0,(.ci (.slc 208 0 m 4)),.ii half,.v (.c (.int .i64 st)),.v (.c (.int .i64 fr))] [0,16,208] [(eQ_ (.s L)),(eF_ [(.slc 0 0 n 4)]),(eQ_ (.s A))] 432 [] []
def E2m:List KI:=(run dW false 3000 (⟨B5 D1s,.normal,thS dF dF dF dF dF dF dF⟩:Cfg) [true]).cfg.k
theorem ti (L A:List Fr) (n m:Nat) (half st fr:Int):A3 [((decide (fr<((n:Nat):Int)))=true)]->Sg Try.prog (thS L A n m half st fr) (A5 102 [3,8,9,10,11,58,59] [.pt 16 0,(.ci (.slc 208 0 m 4)),.ii half,.ii st,.ii fr,.ii half,.ii (0:Int)] [0,16,208] [(eQ_ (.s L)),(eF_ [(.slc 0 0 n 4)]),(eQ_ (.s A))] 528 [] []) .normal (E2m) (B5 D1s):=sgA false 3000 [true] W9
def tiS (L A:List Fr) (n m:Nat) (half st fr i :Int):St:=A5 102 [3,8,9,10,11,58,59] [.pt 16 0,(.ci (.slc 208 0 m 4)),.ii half,.ii st,.ii fr,.ii half,.v (.c (.int .i64 i))] [0,16,208] [(eQ_ (.s L)),(eF_ [(.slc 0 0 n 4)]),(eQ_ (.s A))] 528 [] []
section
variable (L A:List Fr) (n m:Nat) (half st fr i:Int)
theorem tj:let a:=wrap .i64 (fr+i);let c:=wrap .i64 (a+half);let d:=wrap .i64 (i*st);let b:=(List.getD L (c).toNat 0)*(List.getD A (d).toNat 0);let g:Int:=(n:Nat);let h:=List.getD L (a).toNat 0;let f:=List.set L (a).toNat (h+b);let j:=(a).toNat<L.length;A3 [((decide (i<half))=true),(0<=a),(a<g),(0=0),j,(0<=c),(c<g),(0=0),((c).toNat<L.length),(0<=d),(d<((m:Nat):Int)),(0=0),((d).toNat<A.length),(0<=a),(a<g),(0=0),j,(0<=c),(c<g),(0=0),((c).toNat<f.length)]->Sg Try.prog (tiS L A n m half st fr i) (A5 102 [3,8,9,10,11,58,59] [.pt 16 0,(.ci (.slc 208 0 m 4)),.ii half,.ii st,.ii fr,.ii half,(.ii (wrap .i64 (i+1)))] [0,16,208] [(eQ_ (.s (List.set f (c).toNat (h-b)))),(eF_ [(.slc 0 0 n 4)]),(eQ_ (.s A))] 1328 [] []) .normal (D5 E2m) (B5 E2m):=sgA false 3000 [true] W9
theorem tk:A3 [((decide (i<half))=false)]->Sg Try.prog (tiS L A n m half st fr i) (A5 102 [3,8,9,10,11] [.pt 16 0,(.ci (.slc 208 0 m 4)),.ii half,.ii st,(.ii (wrap .i64 (fr+(wrap .i64 ((2:Int)*half)))))] [0,16,208] [(eQ_ (.s L)),(eF_ [(.slc 0 0 n 4)]),(eQ_ (.s A))] 624 [] []) .normal (D5 D1s) (B5 E2m):=sgA false 3000 [false] W9
end
theorem tm (L A:List Fr) (n m:Nat) (half st fr:Int):A3 [((decide (fr<((n:Nat):Int)))=false)]->Sg Try.prog (thS L A n m half st fr) (A5 102 [3,8,9] [.pt 16 0,(.ci (.slc 208 0 m 4)),(.ii (wrap .i64 (half*(2:Int))))] [0,16,208] [(eQ_ (.s L)),(eF_ [(.slc 0 0 n 4)]),(eQ_ (.s A))] 544 [] []) .normal (D5 C0u) (B5 D1s):=sgA false 3000 [false] W9
theorem tn (L A:List Fr) (n m:Nat) (half:Int):A3 [((decide (half<((n:Nat):Int)))=false)]->Sg Try.prog (tgS L A n m half) (A5 102 [] [] [0] [(eQ_ (.s L))] 320 [] []) .normal ([]) (B5 C0u):=sgA false 3000 [false] W9
end
end S4

namespace S4

section
variable {r:Nat} [NeZero r]

def sm (f:Nat->Fin r):Nat->Fin r
 | 0=>0
 | n+1=>sm f n+f n

theorem B1n {f g:Nat->Fin r}:∀n,(∀i,i<n->f i=g i)->sm f n=sm g n
 | 0,_=>rfl
 | n+1,h=>by
  simp only[sm];rw[B1n n (fun i hi=>h i (by omega)),h n (by omega)]

theorem F0t (k:Fin r) (f:Nat->Fin r):∀n,sm (fun i=>k*f i) n=k*sm f n
 | 0=>by simp only[sm];grind
 | n+1=>by
  simp only[sm];rw[F0t k f n];grind

theorem F0u (f:Nat->Fin r):∀n,sm f (2*n)=sm (fun i=>f (2*i)) n+sm (fun i=>f (2*i+1)) n
 | 0=>by simp only[sm];grind
 | n+1=>by
  rw[show 2*(n+1)=2*n+1+1 from by omega]
  simp only[sm];rw[F0u f n];grind

theorem E3j (m b:Nat):brv (m+1) (2*b)=brv m b:=by
 simp only[brv];rw[show 2*b % 2=0 from by omega,show 2*b / 2=b from by omega]
 omega
theorem F2c (m b:Nat):brv (m+1) (2*b+1)=brv m b+2 ^ m:=by
 simp only[brv];rw[show (2*b+1) % 2=1 from by omega,show (2*b+1) / 2=b from by omega]
 omega
theorem B5m {m i:Nat} (h:i<2 ^ m):brv m (brv m i)=i:=by
 apply Nat.eq_of_testBit_eq
 intro k;rw[B5l,B5l];by_cases hk:k<m
 ·rw[show decide (k<m)=true from by simp [hk],show decide (m-1-k<m)=true from by simp;omega,Bool.true_and,Bool.true_and,show m-1-(m-1-k)=k from by omega]
 ·rw[show decide (k<m)=false from by simp [hk],Bool.false_and,Nat.testBit_lt_two_pow]
  exact Nat.lt_of_lt_of_le h (Nat.pow_le_pow_right (by decide) (by omega))

variable (c W:Nat->Fin r)

/-- What stands at a place of a block, when blocks are so long. -/
def B2c (m k b i:Nat):Fin r:=sm (fun j=>c (brv m b+j*2 ^ m)*W (i*j*2 ^ m)) (2 ^ k)

variable (h0:W 0=1) (ha:∀a b,W (a+b)=W a*W b)
include h0 ha

omit h0 in
theorem C7z (m k b i:Nat):B2c c W m (k+1) b i=B2c c W (m+1) k (2*b) i+W (i*2 ^ m)*B2c c W (m+1) k (2*b+1) i:=by
 unfold B2c;rw[Nat.pow_succ 2 k,Nat.mul_comm (2 ^ k) 2,F0u,<-F0t];refine congr (congrArg _ (B1n _ fun t _=>?_)) (B1n _ fun t _=>?_)
 ·rw[E3j,Nat.pow_succ]
  rw[show 2*t*2 ^ m=t*(2 ^ m*2) from by ac_rfl,show i*(2*t)*2 ^ m=i*t*(2 ^ m*2) from by ac_rfl]
 ·have e1:brv (m+1) (2*b+1)+t*2 ^ (m+1)=brv m b+(2*t+1)*2 ^ m:=by
   rw[F2c,Nat.pow_succ,Nat.add_mul,Nat.one_mul,Nat.mul_comm (2 ^ m) 2,<-Nat.mul_assoc,Nat.mul_comm t 2];omega
  have e2:i*(2*t+1)*2 ^ m=i*2 ^ m+i*t*2 ^ (m+1):=by
   rw[Nat.pow_succ,Nat.mul_add,Nat.mul_one,Nat.add_mul,show i*(2*t)*2 ^ m=i*t*(2 ^ m*2) from by ac_rfl,Nat.add_comm]
  rw[e1,e2,ha];grind

theorem F8a (a:Nat) (h:W a=1):∀t,W (a*t)=1
 | 0=>by rw[Nat.mul_zero];exact h0
 | t+1=>by
  rw[Nat.mul_succ,ha,F8a a h t,h];grind

theorem D8t (m k b i:Nat) (hn:W (2 ^ (k+m)) = -1):B2c c W m (k+1) b (i+2 ^ k)=B2c c W (m+1) k (2*b) i-W (i*2 ^ m)*B2c c W (m+1) k (2*b+1) i:=by
 have hone:W (2 ^ k*2 ^ (m+1))=1:=by
  rw[<-Nat.pow_add,show k+(m+1)=(k+m)+1 from by omega,Nat.pow_succ,Nat.mul_two,ha,hn]
  grind
 have hper:∀b',B2c c W (m+1) k b' (i+2 ^ k)=B2c c W (m+1) k b' i:=by
  intro b'
  unfold B2c;refine B1n _ fun t _=>?_
  rw[show (i+2 ^ k)*t*2 ^ (m+1)=i*t*2 ^ (m+1)+2 ^ k*2 ^ (m+1)*t from by rw[Nat.add_mul,Nat.add_mul,Nat.mul_right_comm (2 ^ k)],ha,F8a W h0 ha _ hone]
  grind
 rw[C7z c W ha,hper,hper,Nat.add_mul,ha,<-Nat.pow_add,hn];grind

/-- What stands at a place when blocks are 2^k long. -/
def A4x (log k q:Nat):Fin r:=B2c c W (log-k) k (q / 2 ^ k) (q % 2 ^ k)

omit ha in
theorem D4s (log q:Nat):A4x c W log 0 q=c (brv log q):=by
 simp only[A4x,B2c,Nat.pow_zero,Nat.div_one,Nat.mod_one,sm,Nat.sub_zero,Nat.zero_mul,Nat.add_zero,h0];grind

omit h0 ha in
theorem E1m (log q:Nat) (hq:q<2 ^ log):A4x c W log log q=sm (fun j=>c j*W (q*j)) (2 ^ log):=by
 simp only[A4x,B2c,Nat.sub_self,brv,Nat.pow_zero,Nat.mul_one,Nat.zero_add,Nat.mod_eq_of_lt hq]

theorem E1n {log k b i:Nat} (hk:k<log) (hi:i<2 ^ k) (hn:W (2 ^ (log-1)) = -1) :
  A4x c W log (k+1) (b*2 ^ (k+1)+i)=A4x c W log k (b*2 ^ (k+1)+i)+A4x c W log k (b*2 ^ (k+1)+2 ^ k+i)*W (i*2 ^ (log-k-1)) ∧
  A4x c W log (k+1) (b*2 ^ (k+1)+2 ^ k+i)=A4x c W log k (b*2 ^ (k+1)+i)-A4x c W log k (b*2 ^ (k+1)+2 ^ k+i)*W (i*2 ^ (log-k-1)):=by
 obtain ⟨m,rfl⟩:∃m,log=m+k+1:=⟨log-k-1,by omega⟩
 have hp:0<2 ^ k:=Nat.two_pow_pos k;have e1:(b*2 ^ (k+1)+i) / 2 ^ (k+1)=b∧(b*2 ^ (k+1)+i) % 2 ^ (k+1)=i:=by
  have:i<2 ^ (k+1):=by rw[Nat.pow_succ];omega
  rw[Nat.mul_comm b,Nat.mul_add_mod,Nat.mod_eq_of_lt this,Nat.mul_add_div (Nat.two_pow_pos _),Nat.div_eq_of_lt this];exact ⟨rfl,rfl⟩
 have e2:(b*2 ^ (k+1)+2 ^ k+i) / 2 ^ (k+1)=b∧(b*2 ^ (k+1)+2 ^ k+i) % 2 ^ (k+1)=i+2 ^ k:=by
  have:2 ^ k+i<2 ^ (k+1):=by rw[Nat.pow_succ];omega
  rw[Nat.add_assoc,Nat.mul_comm b,Nat.mul_add_mod,Nat.mod_eq_of_lt this,Nat.mul_add_div (Nat.two_pow_pos _),Nat.div_eq_of_lt this];exact ⟨rfl,Nat.add_comm _ _⟩
 have e3:(b*2 ^ (k+1)+i) / 2 ^ k=2*b∧(b*2 ^ (k+1)+i) % 2 ^ k=i:=by
  rw[show b*2 ^ (k+1)=2 ^ k*(2*b) from by rw[Nat.pow_succ];ac_rfl,Nat.mul_add_mod,Nat.mod_eq_of_lt hi,Nat.mul_add_div hp,Nat.div_eq_of_lt hi]
  exact ⟨rfl,rfl⟩
 have e4:(b*2 ^ (k+1)+2 ^ k+i) / 2 ^ k=2*b+1∧(b*2 ^ (k+1)+2 ^ k+i) % 2 ^ k=i:=by
  rw[show b*2 ^ (k+1)+2 ^ k=2 ^ k*(2*b+1) from by rw[Nat.pow_succ,Nat.mul_add,Nat.mul_one];congr 1;ac_rfl,Nat.mul_add_mod,Nat.mod_eq_of_lt hi,Nat.mul_add_div hp,Nat.div_eq_of_lt hi]
  exact ⟨rfl,rfl⟩
 have h1:=C7z c W ha m k b i;have h2:=D8t c W h0 ha m k b i (by rw[<-hn];congr 2;omega)
 unfold A4x;rw[e1.1,e1.2,e2.1,e2.2,e3.1,e3.2,e4.1,e4.2,show m+k+1-(k+1)=m from by omega,show m+k+1-k=m+1 from by omega,show m+1-1=m from by omega,h1,h2]
 constructor<;>grind

end
/-- Places that are done, and others. -/
def mix {r:Nat} (f g:Nat->Fin r) (fr half i q:Nat):Fin r:=if q<fr∨(fr<=q∧q<fr+i)∨(fr+half<=q∧q<fr+half+i) then g q else f q
section
variable {r:Nat} {f g:Nat->Fin r} {fr half i n q:Nat}

theorem E0w:mix f g 0 half 0 q=f q:=by
 unfold mix;rw[if_neg (by omega)]
theorem F4m (h:q<n):mix f g n half 0 q=g q:=by
 unfold mix;rw[if_pos (.inl h)]
theorem E7s:mix f g fr half half q=mix f g (fr+2*half) half 0 q:=by
 unfold mix;by_cases h:q<fr+2*half
 ·rw[if_pos (by omega),if_pos (.inl h)]
 ·rw[if_neg (by omega),if_neg (by omega)]
theorem F4k (h:i<half):mix f g fr half i (fr+i)=f (fr+i):=by
 unfold mix;rw[if_neg (by omega)]
theorem F4l:mix f g fr half i (fr+half+i)=f (fr+half+i):=by
 unfold mix;rw[if_neg (by omega)]
theorem E7t (h:i<half):(if q=fr+half+i then g (fr+half+i) else if q=fr+i then g (fr+i) else mix f g fr half i q)=mix f g fr half (i+1) q:=by
 unfold mix;by_cases h1:q=fr+half+i
 ·subst h1
  rw[if_pos rfl,if_pos (by omega)]
 ·rw[if_neg h1]
  by_cases h2:q=fr+i
  ·subst h2
   rw[if_pos rfl,if_pos (by omega)]
  ·rw[if_neg h2]
   by_cases h3:q<fr∨(fr<=q∧q<fr+i)∨(fr+half<=q∧q<fr+half+i)
   ·rw[if_pos h3,if_pos (by omega)]
   ·rw[if_neg h3,if_neg (by omega)]

end

/-! Rows as tables. -/
def tab (n:Nat) (F:Nat->Fr):List Fr:=(List.range n).map F
theorem B5z (n:Nat) (F:Nat->Fr):(tab n F).length=n:=by simp [tab]
theorem M7 {n:Nat} {F G:Nat->Fr} (h:∀q,q<n->F q=G q):tab n F=tab n G:=by
 unfold tab;refine List.map_congr_left fun q hq=>h q (List.mem_range.1 hq)
theorem A7a {n:Nat} {F:Nat->Fr} {q:Nat} (h:q<n):(tab n F).getD q 0=F q:=by
 simp [tab,List.getD,h]
theorem B1r {n:Nat} {F:Nat->Fr} {p:Nat} {v:Fr}:(tab n F).set p v=tab n (fun q=>if q=p then v else F q):=by
 apply List.ext_getElem
 ·simp [tab]
 ·intro q h1 h2
  simp only[tab,List.getElem_set,List.getElem_map,List.getElem_range];by_cases h:q=p
  ·simp [h]
  ·rw[if_neg (fun e=>h e.symm),if_neg h]
theorem F1h (l:List Fr):l=tab l.length (fun q=>l.getD q 0):=by
 apply List.ext_getElem
 ·simp [tab]
 ·intro q h1 h2
  simp [tab,List.getD,h1]

/-- Two elements change places. -/
def E2h (l:List Fr) (z:Nat×Nat):List Fr:=(l.set z.1 (l.getD z.2 0)).set z.2 (l.getD z.1 0)
def swA (l:List Fr) (zs:List (Nat×Nat)):List Fr:=zs.foldl E2h l
theorem F7l (l:List Fr):∀zs,(swA l zs).length=l.length:=by
 intro zs;unfold swA;induction zs generalizing l with
 | nil=>rfl
 | cons z zs ih=>
  simp only[List.foldl_cons];rw[ih];simp [E2h]
theorem D1q (l:List Fr) (zs:List (Nat×Nat)) (z:Nat×Nat):swA l (zs++[z])=E2h (swA l zs) z:=by
 unfold swA;rw[List.foldl_append];rfl

def swF (c:Nat->Fr) (log i q:Nat):Fr:=if min q (brv log q)<i then c (brv log q) else c q

theorem F1e (c:Nat->Fr) (log q:Nat):swF c log 0 q=c q:=by
 unfold swF;rw[if_neg (by omega)]
theorem F7m (c:Nat->Fr) {log q:Nat} (h:q<2 ^ log):swF c log (2 ^ log) q=c (brv log q):=by
 unfold swF;rw[if_pos (by have:=Nat.min_le_left q (brv log q);omega)]

theorem F1d {c:Nat->Fr} {log i:Nat} (hi:i<2 ^ log) (h:i<brv log i) :
  E2h (tab (2 ^ log) (swF c log i)) (i,brv log i)=tab (2 ^ log) (swF c log (i+1)):=by
 have hb:=B6q log i;unfold E2h;simp only
 rw[A7a hb,A7a hi,B1r,B1r];refine M7 fun q hq=>?_
 have hbb:=B5m hi;have hqq:=B5m hq;unfold swF;by_cases h1:q=brv log i
 ·subst h1
  rw[if_pos rfl,hbb,if_neg (by omega),if_pos (by omega)]
 ·rw[if_neg h1]
  by_cases h2:q=i
  ·subst h2
   rw[if_pos rfl,hbb,if_neg (by omega),if_pos (by omega)]
  ·rw[if_neg h2]
   have h3:brv log q≠i:=fun e=>h1 (by rw[<-hqq,e])
   by_cases h4:min q (brv log q)<i
   ·rw[if_pos h4,if_pos (by omega)]
   ·rw[if_neg h4,if_neg (by omega)]

theorem F1c {c:Nat->Fr} {log i:Nat} (hi:i<2 ^ log) (h:¬i<brv log i):tab (2 ^ log) (swF c log i)=tab (2 ^ log) (swF c log (i+1)):=by
 refine M7 fun q hq=>?_
 have hqq:=B5m hq;have hbb:=B5m hi;unfold swF;by_cases h4:min q (brv log q)<i
 ·rw[if_pos h4,if_pos (by omega)]
 ·rw[if_neg h4]
  by_cases h5:min q (brv log q)<i+1
  ·rw[if_pos h5]
   by_cases h2:q=i
   ·subst h2
    rw[show brv log q=q from by omega]
   ·have h3:brv log q=i:=by omega
    have:q=brv log i:=by rw[<-h3,hqq]
    omega
  ·rw[if_neg h5]

end S4

namespace S4

theorem C7n (c:Nat->Fr) (log:Nat):∀i,i<=2 ^ log->swA (tab (2 ^ log) c) (prs log i)=tab (2 ^ log) (swF c log i)
 | 0,_=>by
  show tab _ c=_;exact M7 fun q _=>(F1e c log q).symm
 | i+1,h=>by
  simp only[prs];by_cases h1:i<brv log i
  ·rw[if_pos h1,D1q,C7n c log i (by omega),F1d (by omega) h1]
  ·rw[if_neg h1,List.append_nil,C7n c log i (by omega),F1c (by omega) h1]

theorem D7z {log:Nat}:∀{n:Nat} {z:Nat×Nat},z∈prs log n->z.1<n∧z.2<2 ^ log
 | 0,z,h=>by cases h
 | n+1,z,h=>by
  simp only[prs,List.mem_append] at h;rcases h with h | h
  ·have:=D7z h;omega
  ·split at h
   ·simp only[List.mem_singleton] at h
    subst h;exact ⟨by simp,B6q _ _⟩
   ·cases h

/-- The values of a polynomial at the powers of a number. -/
def G1h (c:Nat->Fr) (w:Fr) (n:Nat):List Fr:=tab n (fun q=>sm (fun j=>c j*I4 w (q*j)) n)

def E9s (z:Nat×Nat):List SV:=[.v (.c (.int .i64 (z.1:Int))),.v (.c (.int .i64 (z.2:Int)))]

theorem E2k {L:List Fr} {n log:Nat} {w:Fr} {z:Nat×Nat} {w1:World} {F1:Nat->Prop} {K1:Kp} {as1:List Act} {Q1:Exit->Act->World->Prop} {l:Nat} {y:Ctx} {b:Act} (hs:Sim w1 F1 K1 as1 (Y8 (tfS L n log w) ([17,18].zip (E9s z))) y b)
  (hQ:∀y' b',Sim w1 F1 K1 as1 (tfB L n log w z.1 z.2) y' b' -> Q1 .normal b' y'.w):Wq Try.prog Q1 [.code (rfA C0t)] as1 .normal b y.w (some l):=by
 exact tfA L n log w z.1 z.2 trivial hs fun cZ aZ hs3=>⟨hQ _ _ (hs3.nx _)⟩

theorem F7r {L:List Fr} {n log:Nat} {w:Fr} {z:Nat×Nat} (h1:z.1<n) (h2:z.2<n) (hl:L.length=n) {w1:World} {F1:Nat->Prop} {K1:Kp} {as1:List Act} {Q1:Exit->Act->World->Prop} {l:Nat} {y:Ctx} {b:Act} (hs:Sim w1 F1 K1 as1 (tfB L n log w z.1 z.2) y b)
  (hQ:∀y' b',Sim w1 F1 K1 as1 (tfE (E2h L z) n log w) y' b' -> Q1 .normal b' y'.w):Wq Try.prog Q1 [.code (rfB C0t)] as1 .normal b y.w (some l):=by
 refine tfC L n (log:Int) w z.1 z.2 (by and_intros<;>first | rfl | trivial | omega | (simp only[List.length_set,Int.toNat_natCast];omega)) hs fun cZ aZ hs3=>⟨hQ _ _ ?_⟩
 rw[Int.toNat_natCast,Int.toNat_natCast] at hs3;exact hs3.nx _

theorem E9p {w:Fr} {m e:Nat} (h:e<m):(A4k w m).getD e 0=I4 w e:=A7a (F:=I4 w) h

section
variable {w0:World} {F0:Nat->Prop} {K:Kp} {Q:Exit->Act->World->Prop}

theorem F1i {f g:Nat->Fr} {w:Fr} {N M H T fr:Nat} (hN:N<=65536) (hM:M<=65536) (hfr:fr+2*H<=N) (hT:∀i,i<H->i*T<M)
    (hst:∀i,i<H->g (fr+i)=f (fr+i)+f (fr+H+i)*I4 w (i*T)∧g (fr+H+i)=f (fr+i)-f (fr+H+i)*I4 w (i*T))
    (hK:∀ac y b,Sim w0 F0 K ac (thS (tab N (mix f g (fr+2*H) H 0)) (A4k w M) N M (H:Int) (T:Int) ((fr+2*H:Nat):Int)) y b->Wq Try.prog Q (D5 D1s) ac .normal b y.w)
    {k0:List KI} (hl:A5o k0=some (lpC E2m,lpR E2m)) {ac:List Act} {y:Ctx} {b:Act} (hs:Sim w0 F0 K ac (tiS (tab N (mix f g fr H 0)) (A4k w M) N M (H:Int) (T:Int) (fr:Int) 0) y b):Wq Try.prog Q k0 ac .normal b y.w:=by
  refine C0 (ι:={ i:Nat // i<=H }) (fun i=>tiS (tab N (mix f g fr H i.1)) (A4k w M) N M (H:Int) (T:Int) (fr:Int) (i.1:Int)) (fun i=>H-i.1) hl (fun i ih ac cY aY hs=>?_) ⟨0,Nat.zero_le _⟩ hs
  obtain ⟨i,hi⟩:=i;simp only at ih hs
  by_cases h:i<H
  · have hiT:=hT i h
    have hw1:wrap .i64 ((fr:Int)+(i:Int))=((fr+i:Nat):Int):=by rw[B0 (by omega) (by omega)];omega
    have hw2:wrap .i64 (((fr+i:Nat):Int)+(H:Int))=((fr+H+i:Nat):Int):=by rw[B0 (by omega) (by omega)];omega
    have hw3:wrap .i64 ((i:Int)*(T:Int))=((i*T:Nat):Int):=by
      rw[<-Int.natCast_mul];generalize i*T=e at *;exact B0 (by omega) (by omega)
    have hw4:wrap .i64 ((i:Int)+1)=((i+1:Nat):Int):=by rw[B0 (by omega) (by omega)];omega
    have hlenA:(A4k w M).length=M:=A5t w M;have hlenL:(tab N (mix f g fr H i)).length=N:=B5z _ _;obtain ⟨hs1,hs2⟩:=hst i h;refine tj _ _ _ _ _ _ _ _ ?_ hs fun ac cZ aZ hs3=>?_
    · rw[hw1,hw2,hw3]
      simp only[Int.toNat_natCast,List.length_set,hlenA,hlenL];clear hs1 hs2 hst hT hw1 hw2 hw3 hw4 hlenA hlenL ih hs;generalize i*T=e at *;and_intros<;>first | rfl | trivial | omega | (apply decide_eq_true;omega)
    · rw[hw1,hw2,hw3,hw4] at hs3
      simp only[Int.toNat_natCast] at hs3;rw[A7a (by omega),A7a (by omega),E9p hiT,F4k h,F4l,<-hs1,<-hs2,B1r,B1r,M7 fun q _=>E7t (q:=q) h] at hs3
      exact ih ⟨i+1,by omega⟩ (by show H-(i+1)<H-i;omega) ac cZ aZ (hs3.nx _)
  · have e:i=H:=by omega
    subst e;refine tk _ _ _ _ _ _ _ _ ⟨by simp,trivial⟩ hs fun ac cZ aZ hs3=>?_
    have hw5:wrap .i64 ((2:Int)*(i:Int))=((2*i:Nat):Int):=by rw[B0 (by omega) (by omega)];omega
    have hw6:wrap .i64 ((fr:Int)+((2*i:Nat):Int))=((fr+2*i:Nat):Int):=by rw[B0 (by omega) (by omega)];omega
    rw[hw5,hw6,M7 fun q _=>E7s (q:=q)] at hs3
    exact hK _ _ _ (hs3.nx _)

/-- One round of sums and differences. -/
theorem F1j {f g:Nat->Fr} {w:Fr} {N M H T B:Nat} (hN:N<=65536) (hM:M<=65536) (hH:0<H) (hB:B*(2*H)=N) (hT:∀i,i<H->i*T<M) (hTN:N / (2*H)=T)
    (hst:∀b i,i<H->g (b*(2*H)+i)=f (b*(2*H)+i)+f (b*(2*H)+H+i)*I4 w (i*T)∧g (b*(2*H)+H+i)=f (b*(2*H)+i)-f (b*(2*H)+H+i)*I4 w (i*T))
    (hK:∀ac y b,Sim w0 F0 K ac (tgS (tab N g) (A4k w M) N M ((2*H:Nat):Int)) y b->Wq Try.prog Q (D5 C0u) ac .normal b y.w)
    {ac:List Act} {y:Ctx} {b:Act} (hs:Sim w0 F0 K ac (tgS (tab N f) (A4k w M) N M (H:Int)) y b) (hHN:H<N):Wq Try.prog Q (B5 C0u) ac .normal b y.w:=by
  have hw1:wrap .i64 ((2:Int)*(H:Int))=((2*H:Nat):Int):=by rw[B0 (by omega) (by omega)];omega
  have hw2:wrap .i64 (Int.tdiv (N:Int) ((2*H:Nat):Int))=(T:Int):=by
    rw[Int.tdiv_eq_ediv_of_nonneg (by omega),<-Int.natCast_ediv,hTN]
    have:T<=N:=by rw[<-hTN];exact Nat.div_le_self _ _
    exact B0 (by omega) (by omega)
  refine th _ _ _ _ _ ⟨by simp;omega,by rw[hw1];omega,trivial⟩ hs fun ac cY aY hs1=>?_
  rw[hw1,hw2,M7 fun q _=>(E0w (f:=f) (g:=g) (half:=H) (q:=q)).symm] at hs1
  refine C0 (ι:={ b:Nat // b<=B }) (fun b=>thS (tab N (mix f g (b.1*(2*H)) H 0)) (A4k w M) N M (H:Int) (T:Int) ((b.1*(2*H):Nat):Int)) (fun b=>B-b.1) (c:=lpC D1s) (k:=lpR D1s) (by kernel_rfl) (fun b ih ac cY aY hs=>?_) ⟨0,Nat.zero_le _⟩ (by simp only[Nat.zero_mul];exact hs1.nx _)
  obtain ⟨b,hb⟩:=b;simp only at ih hs
  have hle:b*(2*H)<=N:=by rw[<-hB];exact Nat.mul_le_mul_right _ hb
  by_cases h:b<B
  · have hle2:b*(2*H)+2*H<=N:=by
      rw[<-hB,<-Nat.succ_mul];exact Nat.mul_le_mul_right _ h
    have hst' := hst b;have he:(b+1)*(2*H)=b*(2*H)+2*H:=Nat.succ_mul _ _;have ih' := ih ⟨b+1,h⟩ (by show B-(b+1)<B-b;omega)
    simp only[he] at ih'
    generalize b*(2*H)=fr at *;refine ti _ _ _ _ _ _ _ ⟨by simp;omega,trivial⟩ hs fun ac cZ aZ hs3=>?_
    exact F1i hN hM hle2 hT hst' (fun ac y b hs=>ih' ac y b hs) (by kernel_rfl) (hs3.nx _)
  · have e:b=B:=by omega
    subst e;rw[hB] at hs;refine tm _ _ _ _ _ _ _ ⟨by simp,trivial⟩ hs fun ac cZ aZ hs3=>?_
    have hw3:wrap .i64 ((H:Int)*(2:Int))=((2*H:Nat):Int):=by rw[B0 (by omega) (by omega)];omega
    rw[hw3,M7 fun q hq=>F4m hq] at hs3
    exact hK _ _ _ (hs3.nx _)

theorem E2l {c:Nat->Fr} {log M:Nat} {w:Fr} (hlog:log<=16) (hw:0<log->I4 w (2 ^ (log-1)) = -1) (hM:M<=65536) (hM2:2 ^ log<=2*M)
    (hK:∀ac y b,Sim w0 F0 K ac (tgS (tab (2 ^ log) (A4x c (I4 w) log log)) (A4k w M) (2 ^ log) M ((2 ^ log:Nat):Int)) y b->Wq Try.prog Q (B5 C0u) ac .normal b y.w)
    {ac:List Act} {y:Ctx} {b:Act} (hs:Sim w0 F0 K ac (tgS (tab (2 ^ log) (A4x c (I4 w) log 0)) (A4k w M) (2 ^ log) M 1) y b):Wq Try.prog Q C0u ac .normal b y.w:=by
  have hp2:2 ^ log<=2 ^ 16:=Nat.pow_le_pow_right (by decide) hlog
  refine C0 (ι:={ k:Nat // k<=log }) (fun k=>tgS (tab (2 ^ log) (A4x c (I4 w) log k.1)) (A4k w M) (2 ^ log) M ((2 ^ k.1:Nat):Int)) (fun k=>log-k.1) (c:=lpC C0u) (k:=lpR C0u) (by kernel_rfl) (fun k ih ac cY aY hs=>?_) ⟨0,Nat.zero_le _⟩ hs
  obtain ⟨k,hk⟩:=k;simp only at ih hs
  by_cases h:k<log
  · have ih' := ih ⟨k+1,h⟩ (by show log-(k+1)<log-k;omega)
    simp only at ih'
    have hstep:=fun b i (hi:i<2 ^ k)=>E1n c (I4 w) rfl (fun a b=>B1f w a b) (b:=b) h hi (hw (by omega))
    have eN:2 ^ log=2 ^ (log-k-1)*(2*2 ^ k):=by
      rw[<-Nat.pow_succ',<-Nat.pow_add];congr 1
      omega
    have e2:2 ^ (k+1)=2*2 ^ k:=Nat.pow_succ';rw[e2] at ih'
    simp only[e2] at hstep;have hH:=Nat.two_pow_pos k;have hT0:=Nat.two_pow_pos (log-k-1);generalize 2 ^ k=H at *;generalize A4x c (I4 w) log k=f at *;generalize A4x c (I4 w) log (k+1)=g at *;generalize 2 ^ (log-k-1)=T at *;generalize 2 ^ log=N at *;have hTH:N=T*H+T*H:=by rw[eN,Nat.mul_left_comm,Nat.two_mul]
    refine F1j (B:=T) (T:=T) (by omega) hM hH eN.symm (fun i hi=>?_) ?_ hstep ih' hs ?_
    · have h1:i*T<H*T:=Nat.mul_lt_mul_of_pos_right hi hT0
      rw[Nat.mul_comm H T] at h1;omega
    · rw[eN,Nat.mul_div_cancel _ (by omega)]
    · have h1:1*H<=T*H:=Nat.mul_le_mul_right _ hT0
      omega
  · have e:k=log:=by omega
    subst e;exact hK _ _ _ hs

end

theorem C7q (c:Nat->Fr) (log:Nat) (w:Fr) (hlog:log<=16) (hw:0<log->I4 w (2 ^ (log-1)) = -1) :
  MuC Try.prog 26 0 (2 ^ log) 4 (.sq (.s (tab (2 ^ log) c))) [.v (.c (.int .i64 (log:Int))),.v (.a [.ob (.s w)])] (.sq (.s (G1h c w (2 ^ log)))):=by
 refine D4f (c:=B2 Try.f26) Try.func26 rfl rfl fun x a hk hm0 hs=>?_
 have hp2:2 ^ log<=2 ^ 16:=Nat.pow_le_pow_right (by decide) hlog
 have hpos:0<2 ^ log:=Nat.two_pow_pos log;refine tf _ _ _ _ trivial hs fun ac cY aY hs1=>?_
 obtain ⟨e1,e2⟩:=B5r (k:=C0t) (by kernel_rfl)
 rw[e1];have eP:(rfP C0t).toList=[17,18]:=by kernel_rfl
 have eG:rfG C0t = .tmp 16:=by kernel_rfl
 have hlen:∀pre,(swA (tab (2 ^ log) c) pre).length=2 ^ log:=fun pre=>by rw[F7l,B5z]
 refine A9b (ps:=rfP C0t) e2 hs1 (gf:=71) (caps:=[(64,0)]) (A4 Try.func71 rfl rfl) (fun pre=>tfS (swA (tab (2 ^ log) c) pre) (2 ^ log) (log:Int) w) (fun s=>by rw[eG];rfl) ⟨_,rfl⟩ (prs log (2 ^ log)) E9s E9r
  (fun y z=>.cons ⟨rfl,0,rfl⟩ (.cons ⟨rfl,0,rfl⟩ .nil)) (fun z=>by rw[<-Array.length_toList,eP];rfl) (fun pre p hp=>?_) (D5u hlog fun s=>rfl) (fun pre z=>tfB (swA (tab (2 ^ log) c) pre) (2 ^ log) (log:Int) w z.1 z.2)
  (fun pre z=>tfE (swA (tab (2 ^ log) c) (pre++[z])) (2 ^ log) (log:Int) w) (fun pre z=>⟨_,rfl⟩) (fun pre z hz w1 F1 K1 as1 Q1 l y b hs2 hQ=>?_) (fun pre z hz w1 F1 K1 as1 Q1 l y b hs2 hQ=>?_) fun D y hs2 hD hF hd=>?_
 ·rw[eP] at hp
  have h102:(tfS (swA (tab (2 ^ log) c) pre) (2 ^ log) (log:Int) w).nt=102:=rfl;rw[h102];simp only[List.mem_cons,List.not_mem_nil,or_false] at hp;rcases hp with rfl | rfl<;>decide
 ·rw[eP] at hs2
  exact E2k hs2 hQ
 ·obtain ⟨t,ht⟩:=hz
  obtain ⟨g1,g2⟩:=D7z (log:=log) (z:=z) (n:=2 ^ log) (by rw[ht];simp)
  rw[D1q] at hQ;exact F7r g1 g2 (hlen pre) hs2 hQ
 ·have hs3:=hs2.marked rfl rfl D
  have eL:swA (tab (2 ^ log) c) (prs log (2 ^ log))=tab (2 ^ log) (A4x c (I4 w) log 0):=by
   rw[C7n c log _ (Nat.le_refl _)];refine M7 fun q hq=>?_
   rw[F7m c hq];exact (D4s c (I4 w) rfl log q).symm
  rw[eL] at hs3;obtain ⟨M,hMe⟩:∃M,M=max (2 ^ log / 2) 1:=⟨_,rfl⟩
  have hm:(if (1:Int) > wrap .i64 (Int.tdiv ((2 ^ log:Nat):Int) (2:Int)) then (1:Int) else wrap .i64 (Int.tdiv ((2 ^ log:Nat):Int) (2:Int)))=(M:Int):=by
   generalize 2 ^ log=N at *;have e:wrap .i64 (Int.tdiv (N:Int) (2:Int))=((N / 2:Nat):Int):=by
    rw[Int.tdiv_eq_ediv_of_nonneg (by omega)]
    exact B0 (by omega) (by omega)
   rw[e,hMe];split<;>omega
  have hMb:M<=65536∧2 ^ log<=2*M:=by
   clear hm;have he:2 ^ log=1∨2 ^ log=2*2 ^ (log-1):=by
    cases log with
    | zero=>exact .inl rfl
    | succ l=>exact .inr Nat.pow_succ'
   generalize 2 ^ (log-1)=N2 at *;generalize 2 ^ log=N at *;omega
  refine tg _ _ (log:Int) w ⟨by decide,by rw[hm];omega,by rw[hm];omega,trivial⟩ hs3 fun ac cZ aZ hs4=>?_
  rw[hm,Int.toNat_natCast] at hs4;refine E2l hlog hw hMb.1 hMb.2 (fun ac y2 b2 hs5=>?_) (hs4.nx _)
  refine tn _ _ _ _ _ ⟨by simp,trivial⟩ hs5 fun ac cV aV hs6=>⟨?_⟩
  have eR:tab (2 ^ log) (A4x c (I4 w) log log)=G1h c w (2 ^ log):=M7 fun q hq=>E1m c (I4 w) log q hq
  rw[eR] at hs6;exact E0y W9 hk hm0 rfl hs2 hD hF hd rfl rfl rfl (fun _ _ h=>h) (.inr ⟨_,_,rfl,rfl,rfl⟩) hs6

end S4

namespace S4

section
variable {r:Nat} [NeZero r]

theorem E0z {a b:Fin r} (h:a*b=1) (hb:b = -1):a = -1:=by grind
end

/-- 1 divided by it, 0 of 0. -/
def G6t (x:Fin rN):Fin rN:=pw x (rN-2)
theorem E9j (x:Fin rN) (hx:x≠0):x*G6t x=1:=by
 have h:=E4q x hx;have e:rN-1=(rN-2)+1:=by decide
 rw[e,S8] at h;rw[A1i];have e1:pw x 1=x:=B3h x;rw[e1] at h;exact h
end S4

end
end Go.Proofs.Ytifiiigbedjceaa
