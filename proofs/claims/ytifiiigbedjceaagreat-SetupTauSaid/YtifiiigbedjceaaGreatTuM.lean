/- Parts of a proof, one behind the other: WSprd, PSprd, PSprl, WSio, PSio, WSpls, PSpls, WSfr, WLa, PLa, PLm, WLb, PLb, DWa, DPa, DWb, DPb, DWc, DFe, DRv, DWs, DPs, DWt, DNt, DPt, DIv, WVa, WVb, PVb, WRight, PRight, WSize, PSize, WPl. No conditions. -/
import Derived.Test.YtifiiigbedjceaaGreatTuL
open Go.IntKind (wrap)
namespace Go.Proofs.YtifiiigbedjceaaGreat
noncomputable section
namespace S4
section
variable {w0:World} {F0:Nat->Prop} {K:Kp} {ac:List Act} {Q:Exit->Act->World->Prop} {cX:C0} {aX:Act}
def Il:MuS:=fun off len es e rest=>
 match off,len,es,e,rest with
 | 0,4,1,.fl [.int .u64 _,.int .u64 _,.int .u64 _,.int .u64 _],[.v (.c (.sl (.u64 [a,b,c,d]))),.v (.c (.int .u64 more)),.v (.c (.sl (.u64 [m0,m1,m2,m3])))]=>
  some ([G8 a,G8 b,G8 c,G8 d,E5 a b c d<2*rN,more=0,m0=18446744069414584321,m1=6034159408538082302,m2=3691218898639771653,m3=8353516859464449352],.fl [.ob (.fr (DJ (E5 a b c d).toNat))])
 | _,_,_,_,_=>none
def KT:D6:={ RJ with mu:=fun g=>if g=94 then some (mu1 Il) else RJ.mu g }
theorem Y5:A7 Tryz.prog KT:=
 OK BJ 94 Il (A2 Tryz.func94 rfl rfl) fun off len es e rest o e' h ho _ _=>by
  unfold Il at h;split at h
  ·cases h
   obtain ⟨h1,h2,h3,h4,h5,h6,h7,h8,h9,h10,_⟩:=ho;subst h6 h7 h8 h9 h10;exact A9x _ _ _ _ _ _ _ _ h1 h2 h3 h4 h5
  ·cases h
def mR:SV:=u4s 18446744069414584321 6034159408538082302 3691218898639771653 8353516859464449352
def pd0(o0 o1 o2 o3 a b c d y0 y1 y2 y3:Int):G5:=⟨[.code (B5 Tryz.f62)],.normal,RQ Tryz.f62.ntmps 0 4 1 (fl4 o0 o1 o2 o3) [u4s a b c d,u4s y0 y1 y2 y3,mR,.v (.c (.int .u64 18446744069414584319))]⟩
def JL:List KI:=(run KT false 3000 (pd0 dF dF dF dF dF dF dF dF dF dF dF dF:G5) []).cfg.k
theorem pIn(o0 o1 o2 o3 a b c d y0 y1 y2 y3:Int){w0:World}{F0:Nat->Prop}{K:Kp}{ac:List Act}{Q:Exit->Act->World->Prop}{cX:C0}{aX:Act}(ho:A5 [])(hs:Sim w0 F0 K ac (((pd0 o0 o1 o2 o3 a b c d y0 y1 y2 y3:G5)).σ) cX aX)(hK:∀ac cY aY,Sim w0 F0 K ac (B0 176 [0,1,2,3,4,10,11,29,30] [(.ci (.slc 0 0 4 1)),(.ci (.sl (.u64 [a,b,c,d]))),(.ci (.sl (.u64 [y0,y1,y2,y3]))),(.ci (.sl (.u64 [(18446744069414584321:Int),(6034159408538082302:Int),(3691218898639771653:Int),(8353516859464449352:Int)]))),.iu 18446744069414584319,.ii 4,.pt 64 0,.ii 4,.ii 0] [0,64] [(B9 [(.int .u64 o0),(.int .u64 o1),(.int .u64 o2),(.int .u64 o3)]),(B9 [(.int .u64 0),(.int .u64 0),(.int .u64 0),(.int .u64 0),(.int .u64 0),(.int .u64 0),(.int .u64 0),(.int .u64 0),(.int .u64 0),(.int .u64 0)])] 112 [] []) cY aY->Wq Tryz.prog Q (JL) ac Exit.normal aY cY.w):Wq Tryz.prog Q (((pd0 o0 o1 o2 o3 a b c d y0 y1 y2 y3:G5)).k) ac ((pd0 o0 o1 o2 o3 a b c d y0 y1 y2 y3:G5)).x aX cX.w:=
 DN (unroll:=false) (n:=3000) (path:=[]) (o:=⟨_,_,_,_,_,_,_⟩) Y5 (by kernel_rfl) (by kernel_rfl) ho hs hK
def pS(o0 o1 o2 o3 a b c d y0 y1 y2 y3 :Int)(i:Nat)(r0 r1 r2 r3 r4 r5 :Int):St:=B0 176 [0,1,2,3,4,10,11,29,30] [(.ci (.slc 0 0 4 1)),(.ci (.sl (.u64 [a,b,c,d]))),(.ci (.sl (.u64 [y0,y1,y2,y3]))),(.ci (.sl (.u64 [(18446744069414584321:Int),(6034159408538082302:Int),(3691218898639771653:Int),(8353516859464449352:Int)]))),.iu 18446744069414584319,.ii 4,.pt 64 0,.ii 4,.v (.c (.int .i64 (i:Int)))] [0,64] [(B9 [(.int .u64 o0),(.int .u64 o1),(.int .u64 o2),(.int .u64 o3)]),some (.fl [.int .u64 r0,.int .u64 r1,.int .u64 r2,.int .u64 r3,.int .u64 r4,.int .u64 r5,.int .u64 0,.int .u64 0,.int .u64 0,.int .u64 0])] 112 [] []
def C6u(o0 o1 o2 o3 a b c d y0 y1 y2 y3 :Int)(i:Nat)(x cy r0 r1 r2 r3 r4 r5 :Int)(h0 :Int)(h1:Nat):St:=B0 176 [0,1,2,3,4,10,11,13,14,29,30,37,38] [(.ci (.slc 0 0 4 1)),(.ci (.sl (.u64 [a,b,c,d]))),(.ci (.sl (.u64 [y0,y1,y2,y3]))),(.ci (.sl (.u64 [(18446744069414584321:Int),(6034159408538082302:Int),(3691218898639771653:Int),(8353516859464449352:Int)]))),.iu 18446744069414584319,.ii 4,.pt 64 0,.v (.c (.int .u64 x)),.v (.c (.int .u64 cy)),.ii 4,(.ii (i:Int)),.ii 4,.ii h0] [0,64] [(B9 [(.int .u64 o0),(.int .u64 o1),(.int .u64 o2),(.int .u64 o3)]),some (.fl [.int .u64 r0,.int .u64 r1,.int .u64 r2,.int .u64 r3,.int .u64 r4,.int .u64 r5,.int .u64 0,.int .u64 0,.int .u64 0,.int .u64 0])] h1 [] []
def pS1(o0 o1 o2 o3 a b c d y0 y1 y2 y3:Int)(i:Nat)(x cy r0 r1 r2 r3 r4 r5:Int):St:=C6u o0 o1 o2 o3 a b c d y0 y1 y2 y3 i x cy r0 r1 r2 r3 r4 r5 (0:Int) 992
def B8f:List KI:=(run KT true 104 (⟨B7 JL,.normal,pS dF dF dF dF dF dF dF dF dF dF dF dF dF dF dF dF dF dF dF⟩:G5) [true,true]).cfg.k
theorem pA(o0 o1 o2 o3 a b c d y0 y1 y2 y3:Int)(i:Nat)(r0 r1 r2 r3 r4 r5:Int){w0:World}{F0:Nat->Prop}{K:Kp}{ac:List Act}{Q:Exit->Act->World->Prop}{cX:C0}{aX:Act}(ho:A5 [((decide ((i:Int)<(4:Int)))=true),(0<=(i:Int)),((i:Int)<((4:Nat):Int)),((decide (0<(4:Int)))=true),(0<=(0:Int)),(0<((4:Nat):Int)),(0<=(List.getD [a,b,c,d] ((i:Int)).toNat 0)),((List.getD [a,b,c,d] ((i:Int)).toNat 0)<(18446744073709551616:Int)),(0<=y0),(y0<(18446744073709551616:Int)),(0<=(0:Int)),(0<(10:Int)),(0<=(((List.getD [a,b,c,d] ((i:Int)).toNat 0)*y0) % (18446744073709551616:Int))),(0<=r0),(r0<(18446744073709551616:Int)),(0<=(0:Int)),(0<=(1:Int)),(0<=(Prod.fst (A3 0 (((List.getD [a,b,c,d] ((i:Int)).toNat 0)*y0) % (18446744073709551616:Int)) r0 (0:Int)))),(0<=(0:Int)),(0<(18446744073709551616:Int)),(0<=(0:Int)),(0<=(1:Int)),(0<=(0:Int)),(0<(10:Int))])(hs:Sim w0 F0 K ac (pS o0 o1 o2 o3 a b c d y0 y1 y2 y3 i r0 r1 r2 r3 r4 r5) cX aX)(hK:∀ac cY aY,Sim w0 F0 K ac (pS1 o0 o1 o2 o3 a b c d y0 y1 y2 y3 i (List.getD [a,b,c,d] ((i:Int)).toNat 0) (wrap .u64 ((wrap .u64 ((((List.getD [a,b,c,d] ((i:Int)).toNat 0)*y0) / (18446744073709551616:Int))+(Prod.snd (A3 0 (((List.getD [a,b,c,d] ((i:Int)).toNat 0)*y0) % (18446744073709551616:Int)) r0 (0:Int)))))+(Prod.snd (A3 0 (Prod.fst (A3 0 (((List.getD [a,b,c,d] ((i:Int)).toNat 0)*y0) % (18446744073709551616:Int)) r0 (0:Int))) (0:Int) (0:Int))))) (Prod.fst (A3 0 (Prod.fst (A3 0 (((List.getD [a,b,c,d] ((i:Int)).toNat 0)*y0) % (18446744073709551616:Int)) r0 (0:Int))) (0:Int) (0:Int))) r1 r2 r3 r4 r5) cY aY->Wq Tryz.prog Q (B8f) ac Exit.normal aY cY.w):Wq Tryz.prog Q (B7 JL) ac .normal aX cX.w:=
 JZ (unroll:=true) (n:=104) (path:=[true,true]) (o:=⟨_,_,_,_,_,_,_⟩) Y5 (by kernel_rfl) (by kernel_rfl) ho hs hK
theorem pX(o0 o1 o2 o3 a b c d y0 y1 y2 y3:Int)(i:Nat)(r0 r1 r2 r3 r4 r5:Int):let f:Int:=18446744069414584321;let g:Int:=4;let h:Int:=6034159408538082302;let j:Int:=3691218898639771653;let k:Int:=8353516859464449352;let l:=S4.E5 r0 r1 r2 r3;Hf KT Tryz.f62 true 3000 ⟨B7 JL,.normal,pS o0 o1 o2 o3 a b c d y0 y1 y2 y3 i r0 r1 r2 r3 r4 r5⟩ [false]=(some ([((decide ((i:Int)<g))=false),(0<=g),(g<=(10:Int)),(0<=g),(g<(10:Int)),(S4.G8 r0),(S4.G8 r1),(S4.G8 r2),(S4.G8 r3),(l<(104871750350252380958895481016371931675381105001055275645207317399877162369026:Int)),(r4=(0:Int)),(f=f),(h=h),(j=j),(k=k)],(.fl [(.ob (.fr (S4.DJ (l).toNat)))]))):=by intros;kernel_rfl
def pS2(o0 o1 o2 o3 a b c d y0 y1 y2 y3:Int)(i:Nat)(x cy r0 r1 r2 r3 r4 r5:Int):St:=C6u o0 o1 o2 o3 a b c d y0 y1 y2 y3 i x cy r0 r1 r2 r3 r4 r5 (1:Int) 1728
def B8g:List KI:=(run KT true 75 (⟨B8f,.normal,pS1 dF dF dF dF dF dF dF dF dF dF dF dF dF dF dF dF dF dF dF dF dF⟩:G5) [true]).cfg.k
section
variable (o0 o1 o2 o3 a b c d y0 y1 y2 y3:Int) (i:Nat) (x cy r0 r1 r2 r3 r4 r5:Int)
theorem pB:let f:Int:=18446744073709551616;let h:Int:=1;let k:Int:=0;let g:=A3 0 ((x*y1) % f) r1 k;let j:=A3 0 (Prod.fst g) cy k;A5 [((decide (h<(4:Int)))=true),(0<=h),(h<((4:Nat):Int)),(0<=x),(x<f),(0<=y1),(y1<f),(0<=h),(h<(10:Int)),(0<=((x*y1) % f)),(0<=r1),(r1<f),(0<=k),(0<=h),(0<=(Prod.fst g)),(0<=cy),(cy<f),(0<=k),(0<=h),(0<=h),(h<(10:Int))]->Sg Tryz.prog (pS1 o0 o1 o2 o3 a b c d y0 y1 y2 y3 i x cy r0 r1 r2 r3 r4 r5) (pS2 o0 o1 o2 o3 a b c d y0 y1 y2 y3 i x (wrap .u64 ((wrap .u64 (((x*y1) / f)+(Prod.snd g)))+(Prod.snd j))) r0 (Prod.fst j) r2 r3 r4 r5) .normal (B8g) (B8f):=E4 true 75 [true] Y5
def pS3(o0 o1 o2 o3 a b c d y0 y1 y2 y3:Int)(i:Nat)(x cy r0 r1 r2 r3 r4 r5:Int):St:=C6u o0 o1 o2 o3 a b c d y0 y1 y2 y3 i x cy r0 r1 r2 r3 r4 r5 (2:Int) 2464
def B8h:List KI:=(run KT true 75 (⟨B8g,.normal,pS2 dF dF dF dF dF dF dF dF dF dF dF dF dF dF dF dF dF dF dF dF dF⟩:G5) [true]).cfg.k
theorem pC:let f:Int:=18446744073709551616;let h:Int:=2;let k:Int:=0;let g:=A3 0 ((x*y2) % f) r2 k;let j:=A3 0 (Prod.fst g) cy k;A5 [((decide (h<(4:Int)))=true),(0<=h),(h<((4:Nat):Int)),(0<=x),(x<f),(0<=y2),(y2<f),(0<=h),(h<(10:Int)),(0<=((x*y2) % f)),(0<=r2),(r2<f),(0<=k),(0<=(1:Int)),(0<=(Prod.fst g)),(0<=cy),(cy<f),(0<=k),(0<=(1:Int)),(0<=h),(h<(10:Int))]->Sg Tryz.prog (pS2 o0 o1 o2 o3 a b c d y0 y1 y2 y3 i x cy r0 r1 r2 r3 r4 r5) (pS3 o0 o1 o2 o3 a b c d y0 y1 y2 y3 i x (wrap .u64 ((wrap .u64 (((x*y2) / f)+(Prod.snd g)))+(Prod.snd j))) r0 r1 (Prod.fst j) r3 r4 r5) .normal (B8h) (B8g):=E4 true 75 [true] Y5
def pS4(o0 o1 o2 o3 a b c d y0 y1 y2 y3:Int)(i:Nat)(x cy r0 r1 r2 r3 r4 r5:Int):St:=C6u o0 o1 o2 o3 a b c d y0 y1 y2 y3 i x cy r0 r1 r2 r3 r4 r5 (3:Int) 3200
def B8i:List KI:=(run KT true 75 (⟨B8h,.normal,pS3 dF dF dF dF dF dF dF dF dF dF dF dF dF dF dF dF dF dF dF dF dF⟩:G5) [true]).cfg.k
theorem pD:let f:Int:=18446744073709551616;let h:Int:=3;let k:Int:=0;let g:=A3 0 ((x*y3) % f) r3 k;let j:=A3 0 (Prod.fst g) cy k;A5 [((decide (h<(4:Int)))=true),(0<=h),(h<((4:Nat):Int)),(0<=x),(x<f),(0<=y3),(y3<f),(0<=h),(h<(10:Int)),(0<=((x*y3) % f)),(0<=r3),(r3<f),(0<=k),(0<=(1:Int)),(0<=(Prod.fst g)),(0<=cy),(cy<f),(0<=k),(0<=(1:Int)),(0<=h),(h<(10:Int))]->Sg Tryz.prog (pS3 o0 o1 o2 o3 a b c d y0 y1 y2 y3 i x cy r0 r1 r2 r3 r4 r5) (pS4 o0 o1 o2 o3 a b c d y0 y1 y2 y3 i x (wrap .u64 ((wrap .u64 (((x*y3) / f)+(Prod.snd g)))+(Prod.snd j))) r0 r1 r2 (Prod.fst j) r4 r5) .normal (B8i) (B8h):=E4 true 75 [true] Y5
def E0q(o0 o1 o2 o3 a b c d y0 y1 y2 y3 :Int)(i:Nat)(q cy r0 r1 r2 r3 r4 r5 :Int)(h0:Nat):St:=B0 176 [0,1,2,3,4,10,11,14,20,23,29,30] [(.ci (.slc 0 0 4 1)),(.ci (.sl (.u64 [a,b,c,d]))),(.ci (.sl (.u64 [y0,y1,y2,y3]))),(.ci (.sl (.u64 [(18446744069414584321:Int),(6034159408538082302:Int),(3691218898639771653:Int),(8353516859464449352:Int)]))),.iu 18446744069414584319,.ii 4,.pt 64 0,.v (.c (.int .u64 cy)),.v (.c (.int .u64 q)),.ii 1,.ii 4,(.ii (i:Int))] [0,64] [(B9 [(.int .u64 o0),(.int .u64 o1),(.int .u64 o2),(.int .u64 o3)]),some (.fl [.int .u64 r0,.int .u64 r1,.int .u64 r2,.int .u64 r3,.int .u64 r4,.int .u64 r5,.int .u64 0,.int .u64 0,.int .u64 0,.int .u64 0])] h0 [] []
def pT1(o0 o1 o2 o3 a b c d y0 y1 y2 y3:Int)(i:Nat)(q cy r0 r1 r2 r3 r4 r5:Int):St:=E0q o0 o1 o2 o3 a b c d y0 y1 y2 y3 i q cy r0 r1 r2 r3 r4 r5 3984
def B8j:List KI:=(run KT true 88 (⟨B8i,.normal,pS4 dF dF dF dF dF dF dF dF dF dF dF dF dF dF dF dF dF dF dF dF dF⟩:G5) [false]).cfg.k
theorem pE:let f:=wrap .u64 (r0*(18446744069414584319:Int));let g:Int:=18446744073709551616;let h:Int:=18446744069414584321;let j:Int:=0;let k:Int:=4;let l:Int:=10;let m:=A3 0 r4 cy j;A5 [((decide (k<k))=false),(0<=k),(k<l),(0<=r4),(0<=cy),(cy<g),(0<=j),(0<=(1:Int)),(0<=k),(k<l),(0<=(5:Int)),((5:Int)<l),(0<=j),(0<l),(0<=j),(0<k),(0<=f),(f<g),(0<=h),(h<g),(0<=j),(0<l),(0<=((f*h) % g)),(0<=r0),(r0<g),(0<=j),(0<=(1:Int))]->Sg Tryz.prog (pS4 o0 o1 o2 o3 a b c d y0 y1 y2 y3 i x cy r0 r1 r2 r3 r4 r5) (pT1 o0 o1 o2 o3 a b c d y0 y1 y2 y3 i f (wrap .u64 (((f*h) / g)+(Prod.snd (A3 0 ((f*h) % g) r0 j)))) r0 r1 r2 r3 (Prod.fst m) (Prod.snd m)) .normal (B8j) (B8i):=E4 true 88 [false] Y5
def pT2(o0 o1 o2 o3 a b c d y0 y1 y2 y3:Int)(i:Nat)(q cy r0 r1 r2 r3 r4 r5:Int):St:=E0q o0 o1 o2 o3 a b c d y0 y1 y2 y3 i q cy r0 r1 r2 r3 r4 r5 4704
def B8k:List KI:=(run KT true 68 (⟨B8j,.normal,pT1 dF dF dF dF dF dF dF dF dF dF dF dF dF dF dF dF dF dF dF dF dF⟩:G5) [true]).cfg.k
end
section
variable (o0 o1 o2 o3 a b c d y0 y1 y2 y3:Int) (i:Nat) (q cy r0 r1 r2 r3 r4 r5:Int)
theorem pF:let g:Int:=18446744073709551616;let h:Int:=6034159408538082302;let f:=(q*h) % g;let k:Int:=0;let l:Int:=1;let m:=A3 0 f r1 k;let j:=Prod.fst m;let n:=A3 0 j cy k;A5 [((decide (l<(4:Int)))=true),(0<=l),(l<(4:Int)),(0<=q),(q<g),(0<=h),(h<g),(0<=l),(l<(10:Int)),(0<=f),(0<=r1),(r1<g),(0<=k),(0<=l),(0<=j),(0<=cy),(cy<g),(0<=k),(0<=l),(0<=k),(0<(10:Int))]->Sg Tryz.prog (pT1 o0 o1 o2 o3 a b c d y0 y1 y2 y3 i q cy r0 r1 r2 r3 r4 r5) (pT2 o0 o1 o2 o3 a b c d y0 y1 y2 y3 i q (wrap .u64 ((wrap .u64 (((q*h) / g)+(Prod.snd m)))+(Prod.snd n))) (Prod.fst n) r1 r2 r3 r4 r5) .normal (B8k) (B8j):=E4 true 68 [true] Y5
def E0r(o0 o1 o2 o3 a b c d y0 y1 y2 y3 :Int)(i:Nat)(q cy r0 r1 r2 r3 r4 r5 :Int)(h0 :Int)(h1:Nat):St:=B0 176 [0,1,2,3,4,10,11,14,20,23,29,30] [(.ci (.slc 0 0 4 1)),(.ci (.sl (.u64 [a,b,c,d]))),(.ci (.sl (.u64 [y0,y1,y2,y3]))),(.ci (.sl (.u64 [(18446744069414584321:Int),(6034159408538082302:Int),(3691218898639771653:Int),(8353516859464449352:Int)]))),.iu 18446744069414584319,.ii 4,.pt 64 0,.v (.c (.int .u64 cy)),.v (.c (.int .u64 q)),.ii h0,.ii 4,(.ii (i:Int))] [0,64] [(B9 [(.int .u64 o0),(.int .u64 o1),(.int .u64 o2),(.int .u64 o3)]),some (.fl [.int .u64 r0,.int .u64 r1,.int .u64 r2,.int .u64 r3,.int .u64 r4,.int .u64 r5,.int .u64 0,.int .u64 0,.int .u64 0,.int .u64 0])] h1 [] []
def pT3(o0 o1 o2 o3 a b c d y0 y1 y2 y3:Int)(i:Nat)(q cy r0 r1 r2 r3 r4 r5:Int):St:=E0r o0 o1 o2 o3 a b c d y0 y1 y2 y3 i q cy r0 r1 r2 r3 r4 r5 (2:Int) 5472
def B8l:List KI:=(run KT true 74 (⟨B8k,.normal,pT2 dF dF dF dF dF dF dF dF dF dF dF dF dF dF dF dF dF dF dF dF dF⟩:G5) [true]).cfg.k
theorem pG:let g:Int:=18446744073709551616;let h:Int:=3691218898639771653;let f:=(q*h) % g;let k:Int:=0;let l:Int:=2;let m:=0<=(1:Int);let n:=A3 0 f r2 k;let j:=Prod.fst n;let o:=A3 0 j cy k;A5 [((decide (l<(4:Int)))=true),(0<=l),(l<(4:Int)),(0<=q),(q<g),(0<=h),(h<g),(0<=l),(l<(10:Int)),(0<=f),(0<=r2),(r2<g),(0<=k),m,(0<=j),(0<=cy),(cy<g),(0<=k),m,m,((1:Int)<(10:Int))]->Sg Tryz.prog (pT2 o0 o1 o2 o3 a b c d y0 y1 y2 y3 i q cy r0 r1 r2 r3 r4 r5) (pT3 o0 o1 o2 o3 a b c d y0 y1 y2 y3 i q (wrap .u64 ((wrap .u64 (((q*h) / g)+(Prod.snd n)))+(Prod.snd o))) r0 (Prod.fst o) r2 r3 r4 r5) .normal (B8l) (B8k):=E4 true 74 [true] Y5
def pT4(o0 o1 o2 o3 a b c d y0 y1 y2 y3:Int)(i:Nat)(q cy r0 r1 r2 r3 r4 r5:Int):St:=E0r o0 o1 o2 o3 a b c d y0 y1 y2 y3 i q cy r0 r1 r2 r3 r4 r5 (3:Int) 6240
def C6t:List KI:=(run KT true 74 (⟨B8l,.normal,pT3 dF dF dF dF dF dF dF dF dF dF dF dF dF dF dF dF dF dF dF dF dF⟩:G5) [true]).cfg.k
theorem pH:let g:Int:=18446744073709551616;let h:Int:=8353516859464449352;let f:=(q*h) % g;let k:Int:=0;let l:Int:=3;let m:=A3 0 f r3 k;let j:=Prod.fst m;let n:=A3 0 j cy k;A5 [((decide (l<(4:Int)))=true),(0<=l),(l<(4:Int)),(0<=q),(q<g),(0<=h),(h<g),(0<=l),(l<(10:Int)),(0<=f),(0<=r3),(r3<g),(0<=k),(0<=(1:Int)),(0<=j),(0<=cy),(cy<g),(0<=k),(0<=(1:Int)),(0<=(2:Int)),((2:Int)<(10:Int))]->Sg Tryz.prog (pT3 o0 o1 o2 o3 a b c d y0 y1 y2 y3 i q cy r0 r1 r2 r3 r4 r5) (pT4 o0 o1 o2 o3 a b c d y0 y1 y2 y3 i q (wrap .u64 ((wrap .u64 (((q*h) / g)+(Prod.snd m)))+(Prod.snd n))) r0 r1 (Prod.fst n) r3 r4 r5) .normal (C6t) (B8l):=E4 true 74 [true] Y5
theorem pI:let f:Int:=4;let g:Int:=0;let h:Int:=10;let j:=A3 0 r4 cy g;A5 [((decide (f<f))=false),(0<=f),(f<h),(0<=r4),(0<=cy),(cy<(18446744073709551616:Int)),(0<=g),(0<=(1:Int)),(0<=(3:Int)),((3:Int)<h),(0<=(5:Int)),((5:Int)<h),(0<=f),(f<h)]->Sg Tryz.prog (pT4 o0 o1 o2 o3 a b c d y0 y1 y2 y3 i q cy r0 r1 r2 r3 r4 r5) (B0 176 [0,1,2,3,4,10,11,29,30] [(.ci (.slc 0 0 4 1)),(.ci (.sl (.u64 [a,b,c,d]))),(.ci (.sl (.u64 [y0,y1,y2,y3]))),(.ci (.sl (.u64 [(18446744069414584321:Int),(6034159408538082302:Int),(3691218898639771653:Int),(8353516859464449352:Int)]))),.iu 18446744069414584319,.ii f,.pt 64 0,.ii f,(.ii (wrap .i64 ((i:Int)+1)))] [0,64] [(B9 [(.int .u64 o0),(.int .u64 o1),(.int .u64 o2),(.int .u64 o3)]),(B9 [(.int .u64 r0),(.int .u64 r1),(.int .u64 r2),(.int .u64 (Prod.fst j)),(.int .u64 (wrap .u64 (r5+(Prod.snd j)))),(.int .u64 r5),(.int .u64 g),(.int .u64 g),(.int .u64 g),(.int .u64 g)])] 6720 [] []) .normal (D4 JL) (C6t):=E4 true 50 [false] Y5
end
end
end S4
namespace S4
section
variable {w0:World} {F0:Nat->Prop} {K:Kp} {ac:List Act} {Q:Exit->Act->World->Prop} {cX:C0} {aX:Act}
theorem sPA(o0 o1 o2 o3 a b c d y0 y1 y2 y3:Int)(i:Nat){r0 r1 r2 r3 r4 r5 x:Int}(hi:i<4)(he:List.getD [a,b,c,d] i 0=x)(hx:G8 x)(hy:G8 y0)(hr:G8 r0)(hs:Sim w0 F0 K ac (pS o0 o1 o2 o3 a b c d y0 y1 y2 y3 i r0 r1 r2 r3 r4 r5) cX aX)
  (k:∀n cy:Int,x*y0+r0+0=n+18446744073709551616*cy->G8 n->G8 cy->∀ac cY aY,Sim w0 F0 K ac (pS1 o0 o1 o2 o3 a b c d y0 y1 y2 y3 i x cy n r1 r2 r3 r4 r5) cY aY->Wq Tryz.prog Q B8f ac .normal aY cY.w):Wq Tryz.prog Q (B7 JL) ac .normal aX cX.w:=by
 obtain ⟨x0,x1⟩:=hx;obtain ⟨yy0,yy1⟩:=hy;obtain ⟨rr0,rr1⟩:=hr;have e:=mac x0 x1 yy0 yy1 rr0 rr1 (u:=0) A4 A4;have sA:=@pA o0 o1 o2 o3 a b c d y0 y1 y2 y3 i r0 r1 r2 r3 r4 r5 w0 F0 K ac Q cX aX;rw[Int.toNat_natCast,he] at sA;obtain ⟨e1,l1,u1,m1⟩:=e;refine sA ?_ hs fun ac cY aY h=>k _ _ e1 l1 u1 ac cY aY h
 simp only[A5,and_true,decide_eq_true_eq];omega
theorem sPB(o0 o1 o2 o3 a b c d y0 y1 y2 y3:Int)(i:Nat){x cy r0 r1 r2 r3 r4 r5:Int}(hx:G8 x)(hy:G8 y1)(hr:G8 r1)(hc:G8 cy)(hs:Sim w0 F0 K ac (pS1 o0 o1 o2 o3 a b c d y0 y1 y2 y3 i x cy r0 r1 r2 r3 r4 r5) cX aX)
  (k:∀n cy' : Int,x*y1+r1+cy=n+18446744073709551616*cy' -> G8 n->G8 cy' -> ∀ac cY aY,Sim w0 F0 K ac (pS2 o0 o1 o2 o3 a b c d y0 y1 y2 y3 i x cy' r0 n r2 r3 r4 r5) cY aY->Wq Tryz.prog Q B8g ac .normal aY cY.w):Wq Tryz.prog Q B8f ac .normal aX cX.w:=by
 obtain ⟨x0,x1⟩:=hx;obtain ⟨yy0,yy1⟩:=hy;obtain ⟨rr0,rr1⟩:=hr;obtain ⟨cc0,cc1⟩:=hc;obtain ⟨e1,l1,u1,m1⟩:=mac x0 x1 yy0 yy1 rr0 rr1 cc0 cc1;refine pB o0 o1 o2 o3 a b c d y0 y1 y2 y3 i x cy r0 r1 r2 r3 r4 r5 ?_ hs fun ac cY aY h=>k _ _ e1 l1 u1 ac cY aY h
 simp only[A5,and_true,decide_eq_true_eq];omega
theorem sPC(o0 o1 o2 o3 a b c d y0 y1 y2 y3:Int)(i:Nat){x cy r0 r1 r2 r3 r4 r5:Int}(hx:G8 x)(hy:G8 y2)(hr:G8 r2)(hc:G8 cy)(hs:Sim w0 F0 K ac (pS2 o0 o1 o2 o3 a b c d y0 y1 y2 y3 i x cy r0 r1 r2 r3 r4 r5) cX aX)
  (k:∀n cy' : Int,x*y2+r2+cy=n+18446744073709551616*cy' -> G8 n->G8 cy' -> ∀ac cY aY,Sim w0 F0 K ac (pS3 o0 o1 o2 o3 a b c d y0 y1 y2 y3 i x cy' r0 r1 n r3 r4 r5) cY aY->Wq Tryz.prog Q B8h ac .normal aY cY.w):Wq Tryz.prog Q B8g ac .normal aX cX.w:=by
 obtain ⟨x0,x1⟩:=hx;obtain ⟨yy0,yy1⟩:=hy;obtain ⟨rr0,rr1⟩:=hr;obtain ⟨cc0,cc1⟩:=hc;obtain ⟨e1,l1,u1,m1⟩:=mac x0 x1 yy0 yy1 rr0 rr1 cc0 cc1;refine pC o0 o1 o2 o3 a b c d y0 y1 y2 y3 i x cy r0 r1 r2 r3 r4 r5 ?_ hs fun ac cY aY h=>k _ _ e1 l1 u1 ac cY aY h
 simp only[A5,and_true,decide_eq_true_eq];omega
theorem sPD(o0 o1 o2 o3 a b c d y0 y1 y2 y3:Int)(i:Nat){x cy r0 r1 r2 r3 r4 r5:Int}(hx:G8 x)(hy:G8 y3)(hr:G8 r3)(hc:G8 cy)(hs:Sim w0 F0 K ac (pS3 o0 o1 o2 o3 a b c d y0 y1 y2 y3 i x cy r0 r1 r2 r3 r4 r5) cX aX)
  (k:∀n cy' : Int,x*y3+r3+cy=n+18446744073709551616*cy' -> G8 n->G8 cy' -> ∀ac cY aY,Sim w0 F0 K ac (pS4 o0 o1 o2 o3 a b c d y0 y1 y2 y3 i x cy' r0 r1 r2 n r4 r5) cY aY->Wq Tryz.prog Q B8i ac .normal aY cY.w):Wq Tryz.prog Q B8h ac .normal aX cX.w:=by
 obtain ⟨x0,x1⟩:=hx;obtain ⟨yy0,yy1⟩:=hy;obtain ⟨rr0,rr1⟩:=hr;obtain ⟨cc0,cc1⟩:=hc;obtain ⟨e1,l1,u1,m1⟩:=mac x0 x1 yy0 yy1 rr0 rr1 cc0 cc1;refine pD o0 o1 o2 o3 a b c d y0 y1 y2 y3 i x cy r0 r1 r2 r3 r4 r5 ?_ hs fun ac cY aY h=>k _ _ e1 l1 u1 ac cY aY h
 simp only[A5,and_true,decide_eq_true_eq];omega
theorem sPE(o0 o1 o2 o3 a b c d y0 y1 y2 y3:Int)(i:Nat){x cy r0 r1 r2 r3 r4 r5:Int}(hr0:G8 r0)(hr4:G8 r4)(hc:G8 cy)(hs:Sim w0 F0 K ac (pS4 o0 o1 o2 o3 a b c d y0 y1 y2 y3 i x cy r0 r1 r2 r3 r4 r5) cX aX)
  (k:∀q cy' n4 n5:Int,r4+cy+0=n4+18446744073709551616*n5->q*18446744069414584321+r0=18446744073709551616*cy' -> G8 n4->0<=n5->n5<=1->G8 q->G8 cy' -> ∀ac cY aY,Sim w0 F0 K ac (pT1 o0 o1 o2 o3 a b c d y0 y1 y2 y3 i q cy' r0 r1 r2 r3 n4 n5) cY aY->Wq Tryz.prog Q B8j ac .normal aY cY.w):Wq Tryz.prog Q B8i ac .normal aX cX.w:=by
 obtain ⟨rr0,rr1⟩:=hr0;obtain ⟨rr4,rr5⟩:=hr4;obtain ⟨cc0,cc1⟩:=hc;obtain ⟨e1,p1,p1',q1,q1'⟩:=G1 (c:=0) rr4 rr5 cc0 cc1 A4 A4;have hq:=RA (r0*18446744069414584319);have e2:=A8r (b:=18446744069414584321) hq.1 hq.2 A4 A4 rr0 rr1;have e3:=XX (l:=r0) rfl;obtain ⟨hq0,hq1⟩:=hq;obtain ⟨e2,⟨f1,f2⟩,f3⟩:=e2;refine pE o0 o1 o2 o3 a b c d y0 y1 y2 y3 i x cy r0 r1 r2 r3 r4 r5 ?_ hs fun ac cY aY h=>k _ _ _ _ e1 ?_ ⟨p1,p1'⟩ q1 q1' ⟨hq0,hq1⟩ f3 ac cY aY h
 ·simp only[A5,and_true,decide_eq_false_iff_not]
  omega
 ·omega
theorem sPF(o0 o1 o2 o3 a b c d y0 y1 y2 y3:Int)(i:Nat){q cy r0 r1 r2 r3 r4 r5:Int}(hq:G8 q)(hr:G8 r1)(hc:G8 cy)(hs:Sim w0 F0 K ac (pT1 o0 o1 o2 o3 a b c d y0 y1 y2 y3 i q cy r0 r1 r2 r3 r4 r5) cX aX)
  (k:∀n cy' : Int,q*6034159408538082302+r1+cy=n+18446744073709551616*cy' -> G8 n->G8 cy' -> ∀ac cY aY,Sim w0 F0 K ac (pT2 o0 o1 o2 o3 a b c d y0 y1 y2 y3 i q cy' n r1 r2 r3 r4 r5) cY aY->Wq Tryz.prog Q B8k ac .normal aY cY.w):Wq Tryz.prog Q B8j ac .normal aX cX.w:=by
 obtain ⟨x0,x1⟩:=hq;obtain ⟨rr0,rr1⟩:=hr;obtain ⟨cc0,cc1⟩:=hc;obtain ⟨e1,l1,u1,m1⟩:=mac (b:=6034159408538082302) x0 x1 A4 A4 rr0 rr1 cc0 cc1;refine pF o0 o1 o2 o3 a b c d y0 y1 y2 y3 i q cy r0 r1 r2 r3 r4 r5 ?_ hs fun ac cY aY h=>k _ _ e1 l1 u1 ac cY aY h
 simp only[A5,and_true,decide_eq_true_eq];omega
theorem sPG(o0 o1 o2 o3 a b c d y0 y1 y2 y3:Int)(i:Nat){q cy r0 r1 r2 r3 r4 r5:Int}(hq:G8 q)(hr:G8 r2)(hc:G8 cy)(hs:Sim w0 F0 K ac (pT2 o0 o1 o2 o3 a b c d y0 y1 y2 y3 i q cy r0 r1 r2 r3 r4 r5) cX aX)
  (k:∀n cy' : Int,q*3691218898639771653+r2+cy=n+18446744073709551616*cy' -> G8 n->G8 cy' -> ∀ac cY aY,Sim w0 F0 K ac (pT3 o0 o1 o2 o3 a b c d y0 y1 y2 y3 i q cy' r0 n r2 r3 r4 r5) cY aY->Wq Tryz.prog Q B8l ac .normal aY cY.w):Wq Tryz.prog Q B8k ac .normal aX cX.w:=by
 obtain ⟨x0,x1⟩:=hq;obtain ⟨rr0,rr1⟩:=hr;obtain ⟨cc0,cc1⟩:=hc;obtain ⟨e1,l1,u1,m1⟩:=mac (b:=3691218898639771653) x0 x1 A4 A4 rr0 rr1 cc0 cc1;refine pG o0 o1 o2 o3 a b c d y0 y1 y2 y3 i q cy r0 r1 r2 r3 r4 r5 ?_ hs fun ac cY aY h=>k _ _ e1 l1 u1 ac cY aY h
 simp only[A5,and_true,decide_eq_true_eq];omega
theorem sPH(o0 o1 o2 o3 a b c d y0 y1 y2 y3:Int)(i:Nat){q cy r0 r1 r2 r3 r4 r5:Int}(hq:G8 q)(hr:G8 r3)(hc:G8 cy)(hs:Sim w0 F0 K ac (pT3 o0 o1 o2 o3 a b c d y0 y1 y2 y3 i q cy r0 r1 r2 r3 r4 r5) cX aX)
  (k:∀n cy' : Int,q*8353516859464449352+r3+cy=n+18446744073709551616*cy' -> G8 n->G8 cy' -> ∀ac cY aY,Sim w0 F0 K ac (pT4 o0 o1 o2 o3 a b c d y0 y1 y2 y3 i q cy' r0 r1 n r3 r4 r5) cY aY->Wq Tryz.prog Q C6t ac .normal aY cY.w):Wq Tryz.prog Q B8l ac .normal aX cX.w:=by
 obtain ⟨x0,x1⟩:=hq;obtain ⟨rr0,rr1⟩:=hr;obtain ⟨cc0,cc1⟩:=hc;obtain ⟨e1,l1,u1,m1⟩:=mac (b:=8353516859464449352) x0 x1 A4 A4 rr0 rr1 cc0 cc1;refine pH o0 o1 o2 o3 a b c d y0 y1 y2 y3 i q cy r0 r1 r2 r3 r4 r5 ?_ hs fun ac cY aY h=>k _ _ e1 l1 u1 ac cY aY h
 simp only[A5,and_true,decide_eq_true_eq];omega
theorem sPI(o0 o1 o2 o3 a b c d y0 y1 y2 y3:Int)(i:Nat){q cy r0 r1 r2 r3 r4 r5:Int}(hi:i<4)(hr4:G8 r4)(hc:G8 cy)(hs:Sim w0 F0 K ac (pT4 o0 o1 o2 o3 a b c d y0 y1 y2 y3 i q cy r0 r1 r2 r3 r4 r5) cX aX)
  (k:∀n3 c4:Int,r4+cy+0=n3+18446744073709551616*c4->G8 n3->0<=c4->c4<=1->∀ac cY aY,Sim w0 F0 K ac (pS o0 o1 o2 o3 a b c d y0 y1 y2 y3 (i+1) r0 r1 r2 n3 (wrap IntKind.u64 (r5+c4)) r5) cY aY->Wq Tryz.prog Q (D4 JL) ac .normal aY cY.w):Wq Tryz.prog Q C6t ac .normal aX cX.w:=by
 obtain ⟨rr4,rr5⟩:=hr4;obtain ⟨cc0,cc1⟩:=hc;obtain ⟨e1,p1,p1',q1,q1'⟩:=G1 (c:=0) rr4 rr5 cc0 cc1 A4 A4;refine pI o0 o1 o2 o3 a b c d y0 y1 y2 y3 i q cy r0 r1 r2 r3 r4 r5 ?_ hs fun ac cY aY h=>k _ _ e1 ⟨p1,p1'⟩ q1 q1' ac cY aY (by rw[A9 (by omega) (by omega)] at h;exact h.nx _)
 simp only[A5,and_true,decide_eq_false_iff_not];omega
end
end S4
namespace S4
structure E1r(A Y i:Nat)(r0 r1 r2 r3 r4:Int):Prop where
 i4:i<=4
 h0:G8 r0
 h1:G8 r1
 h2:G8 r2
 h3:G8 r3
 h4:r4=0
 lt:E5 r0 r1 r2 r3<2*rN
 eq:∃Q:Nat,E5 r0 r1 r2 r3*((2 ^ (64*i):Nat):Int)=((A % 2 ^ (64*i):Nat):Int)*(Y:Int)+(Q:Int)*(rN:Int)
theorem B0b{A Y r i Q:Nat}{T T' q:Int}(hq:0<=q)(h:T*((2 ^ (64*i):Nat):Int)=((A % 2 ^ (64*i):Nat):Int)*(Y:Int)+(Q:Int)*(r:Int))
  (h' : 18446744073709551616*T' = T+A1 A i*(Y:Int)+q*(r:Int)) :
  ∃Q:Nat,T' * ((2 ^ (64*(i+1)):Nat):Int)=((A % 2 ^ (64*(i+1)):Nat):Int)*(Y:Int)+(Q:Int)*(r:Int):=by
 obtain ⟨q,rfl⟩:=Int.eq_ofNat_of_zero_le hq;refine ⟨Q+q*2 ^ (64*i),?_⟩
 rw[Qa];have hp:(2:Nat) ^ (64*(i+1))=2 ^ (64*i)*18446744073709551616:=by rw[Nat.mul_add,Nat.pow_add]
 rw[hp];have hl:A1 A i=((A / 2 ^ (64*i) % 18446744073709551616:Nat):Int):=rfl;rw[hl] at h'
 generalize A / 2 ^ (64*i) % 18446744073709551616=xi at *;generalize A % 2 ^ (64*i)=X at *;generalize 2 ^ (64*i)=m at *;have e1:T' * ((m*18446744073709551616:Nat):Int)=(18446744073709551616*T')*(m:Int):=by
  rw[Int.natCast_mul,Int.mul_comm (m:Int),<-Int.mul_assoc,Int.mul_comm T'];rfl
 rw[e1,h',Int.add_mul,Int.add_mul,h];push_cast
 simp only[Int.add_mul,Int.mul_assoc];have e2:(xi:Int)*((Y:Int)*(m:Int))=(m:Int)*((xi:Int)*(Y:Int)):=by rw[<-Int.mul_assoc,Int.mul_comm]
 have e3:(q:Int)*((r:Int)*(m:Int))=(q:Int)*((m:Int)*(r:Int)):=by rw[Int.mul_comm (r:Int)]
 rw[e2,e3];omega
theorem C6r{r B v T X Q:Nat}(e:v*B % r=1 % r)(h:T*B=X+Q*r):T % r=X*v % r:=by
  have h2:∀a:Nat,a*(v*B) % r=a % r:=fun a=>by rw[<-Nat.mul_mod_mod,e,Nat.mul_mod_mod,Nat.mul_one]
  calc T % r=T*(v*B) % r:=(h2 _).symm
    _=(T*B)*v % r:=by congr 1;simp only[Nat.mul_comm,Nat.mul_left_comm]
    _=X*v % r:=by rw[h,Nat.add_mul,Nat.mul_assoc Q,Nat.mul_comm r,<-Nat.mul_assoc,Nat.add_mul_mod_self_right]
theorem A1o{a b:Nat}(h:a % rN=b % rN):DJ a=DJ b:=by unfold DJ;rw[h]
theorem A1f(o0 o1 o2 o3:Int)(A Y:Nat)(hA:A<B4)(hY:Y<rN) :
  MuC Tryz.prog 62 0 4 1 (fl4 o0 o1 o2 o3) [u4s (A1 A 0) (A1 A 1) (A1 A 2) (A1 A 3),u4s (A1 Y 0) (A1 Y 1) (A1 Y 2) (A1 Y 3),mR,.v (.c (.int .u64 18446744069414584319))] (.fl [.ob (.fr (DJ (A*Y*VZ)))]):=by
 refine JA (fn:=Tryz.f62) (c:=B5 Tryz.f62) Tryz.func62 rfl rfl fun x0 a0 hk hm hs=>?_
 obtain ⟨ey,y0,y0',y1,y1',y2,y2',y3,y3'⟩:=Bd Y (Nat.lt_trans hY A4);obtain ⟨ea,z0,z0',z1,z1',z2,z2',z3,z3'⟩:=Bd A hA;have hyr:(Y:Int)<(rN:Int):=by exact_mod_cast hY
 have hin:=@pIn o0 o1 o2 o3 (A1 A 0) (A1 A 1) (A1 A 2) (A1 A 3) (A1 Y 0) (A1 Y 1) (A1 Y 2) (A1 Y 3);have hget:∀i,i<4->List.getD [A1 A 0,A1 A 1,A1 A 2,A1 A 3] i 0=A1 A i:=by
  intro i hi;have:i=0∨i=1∨i=2∨i=3:=by omega
  rcases this with rfl | rfl | rfl | rfl<;>rfl
 have hmul:=fun z=>XZ z (A1 Y 0) (A1 Y 1) (A1 Y 2) (A1 Y 3)
 have hyn:(Y:Int)=E5 (A1 Y 0) (A1 Y 1) (A1 Y 2) (A1 Y 3):=ey;rw[<-hyn] at hmul;have hx0:∀i,0<=A1 A i:=fun i=>Int.natCast_nonneg _
 have hx1:∀i,A1 A i<18446744073709551616:=fun i=>by
  show ((A / 2 ^ (64*i) % 18446744073709551616:Nat):Int)<18446744073709551616;omega
 have hlimY0:G8 (A1 Y 0):=⟨y0,y0'⟩;have hlimY1:G8 (A1 Y 1):=⟨y1,y1'⟩;have hlimY2:G8 (A1 Y 2):=⟨y2,y2'⟩;have hlimY3:G8 (A1 Y 3):=⟨y3,y3'⟩;clear ey ea y0 y0' y1 y1' y2 y2' y3 y3' z0 z0' z1 z1' z2 z2' z3 z3';have hT4:A % 2 ^ (64*4)=A:=Nat.mod_eq_of_lt (by rw[B8w];exact hA)
 generalize A1 A 0=a at *;generalize A1 A 1=b at *;generalize A1 A 2=c at *;generalize A1 A 3=d at *;generalize A1 Y 0=v0 at *;generalize A1 Y 1=v1 at *;generalize A1 Y 2=v2 at *;generalize A1 Y 3=v3 at *;refine hin trivial hs fun ac cY aY hs1=>?_
 refine C5 (ι:={ p:Nat×Int×Int×Int×Int×Int×Int // E1r A Y p.1 p.2.1 p.2.2.1 p.2.2.2.1 p.2.2.2.2.1 p.2.2.2.2.2.1 })
  (fun p=>pS o0 o1 o2 o3 a b c d v0 v1 v2 v3 p.1.1 p.1.2.1 p.1.2.2.1 p.1.2.2.2.1 p.1.2.2.2.2.1 p.1.2.2.2.2.2.1 p.1.2.2.2.2.2.2) (fun p=>4-p.1.1) (c:=X5 JL) (k:=X8 JL) (by kernel_rfl) (fun p ih ac cY aY hs=>?_)
  ⟨(0,0,0,0,0,0,0),⟨A4,⟨A4,A4⟩,⟨A4,A4⟩,⟨A4,A4⟩,⟨A4,A4⟩,rfl,A4,0,by simp [E5,Nat.mod_one]⟩⟩ hs1
 obtain ⟨⟨i,r0,r1,r2,r3,r4,r5⟩,hI⟩:=p;simp only at ih hs hI
 obtain ⟨hi,h0,h1,h2,h3,h4,hlt,Q,hQ⟩:=hI;subst h4;by_cases h5:i<4
 ·have hround:=fun T' q hq=>B0b (A:=A) (Y:=Y) (r:=rN) (i:=i) (Q:=Q) (T:=E5 r0 r1 r2 r3) (T' := T') (q:=q) hq hQ
  have hzz:A1 A i*(Y:Int)<=18446744073709551615*(Y:Int):=Int.mul_le_mul_of_nonneg_right (by have:=hx1 i;omega) (by omega)
  have hz0:0<=A1 A i*(Y:Int):=Int.mul_nonneg (hx0 i) (by omega)
  have hlx:G8 (A1 A i):=⟨hx0 i,hx1 i⟩;refine sPA o0 o1 o2 o3 a b c d v0 v1 v2 v3 i h5 (hget i h5) hlx hlimY0 h0 hs fun a0 c0 eA la0 lc0 ac cY aY hs=>?_
  refine sPB o0 o1 o2 o3 a b c d v0 v1 v2 v3 i hlx hlimY1 h1 lc0 hs fun a1 c1 eB la1 lc1 ac cY aY hs=>?_
  refine sPC o0 o1 o2 o3 a b c d v0 v1 v2 v3 i hlx hlimY2 h2 lc1 hs fun a2 c2 eC la2 lc2 ac cY aY hs=>?_
  refine sPD o0 o1 o2 o3 a b c d v0 v1 v2 v3 i hlx hlimY3 h3 lc2 hs fun a3 c3 eD la3 lc3 ac cY aY hs=>?_
  refine sPE o0 o1 o2 o3 a b c d v0 v1 v2 v3 i la0 ⟨A4,A4⟩ lc3 hs fun q d0 n4 n5 eE eQ ln4 n50 n51 lq ld0 ac cY aY hs=>?_
  refine sPF o0 o1 o2 o3 a b c d v0 v1 v2 v3 i lq la1 ld0 hs fun b0 d1 eF lb0 ld1 ac cY aY hs=>?_
  refine sPG o0 o1 o2 o3 a b c d v0 v1 v2 v3 i lq la2 ld1 hs fun b1 d2 eG lb1 ld2 ac cY aY hs=>?_
  refine sPH o0 o1 o2 o3 a b c d v0 v1 v2 v3 i lq la3 ld2 hs fun b2 d3 eH lb2 ld3 ac cY aY hs=>?_
  refine sPI o0 o1 o2 o3 a b c d v0 v1 v2 v3 i h5 ln4 ld3 hs fun b3 c4 eI lb3 c40 c41 ac cY aY hs=>?_
  have hall:18446744073709551616*(E5 b0 b1 b2 b3+115792089237316195423570985008687907853269984665640564039457584007913129639936*(n5+c4))=E5 r0 r1 r2 r3+A1 A i*(Y:Int)+q*(rN:Int):=by
   rw[hmul];clear hround hmul hzz hz0 hQ ih hyr hyn;unfold E5 rN;omega
  have hlt' : E5 b0 b1 b2 b3+115792089237316195423570985008687907853269984665640564039457584007913129639936*(n5+c4)<2*rN:=by
   obtain ⟨q0,q1⟩:=lq;have:q*(rN:Int)<=18446744073709551615*(rN:Int):=Int.mul_le_mul_of_nonneg_right (by omega) (by omega)
   clear hround hmul hQ ih hyn;generalize A1 A i*(Y:Int)=z at *;generalize q*(rN:Int)=z' at *;omega
  have htop:n5+c4=0:=by
   obtain ⟨_,_⟩:=lb0;obtain ⟨_,_⟩:=lb1;obtain ⟨_,_⟩:=lb2;obtain ⟨_,_⟩:=lb3;unfold E5 rN at hlt';omega
  rw[htop,Int.mul_zero,Int.add_zero] at hall hlt'
  rw[htop] at hs;exact ih ⟨(i+1,b0,b1,b2,b3,wrap IntKind.u64 0,n5),⟨h5,lb0,lb1,lb2,lb3,rfl,hlt',hround _ q lq.1 hall⟩⟩ (by show 4-(i+1)<4-i;omega) ac cY aY hs
 ·have hi4:i=4:=by omega
  subst hi4;have hT:0<=E5 r0 r1 r2 r3:=by
   obtain ⟨_,_⟩:=h0;obtain ⟨_,_⟩:=h1;obtain ⟨_,_⟩:=h2;obtain ⟨_,_⟩:=h3;unfold E5;omega
  rw[hT4] at hQ;have hb4:(2 ^ (64*4):Nat)=B4:=B8w;rw[hb4] at hQ;have hlast:=A4q hT hQ;have hred:DJ (E5 r0 r1 r2 r3).toNat=DJ (A*Y*VZ):=A1o (C6r JY hlast);rw[<-hred];refine HL Y5 hk hm (pX o0 o1 o2 o3 a b c d v0 v1 v2 v3 4 r0 r1 r2 r3 0 r5) rfl ?_ (fun y cs h=>h) (.inl ⟨_,_,rfl,rfl⟩) hs
  refine ⟨A4,A4,A4,A4,A4,h0,h1,h2,h3,hlt,rfl,rfl,rfl,rfl,rfl,C4⟩
end S4
namespace S4
theorem MuC.pre{P:Program}{f off len es:Nat}{e1 e2 e' : En}{rest:List SV}(h:MuC P f off len es e2 rest e')(hl:∃l l',e1 = .fl l∧e2 = .fl l')(hd:∀x cs,C9 x e1 cs->C9 x e2 cs):MuC P f off len es e1 rest e' := by
 intro x vs hk hm hden;obtain ⟨l,l',rfl,rfl⟩:=hl;refine h x vs hk ⟨fun p=>?_,fun p r hp=>?_,fun p q hp hn=>?_,fun p e hp hr=>?_,hm.inj,hm.own,hm.fw⟩ hden
 ·rw[<-hm.dom p]
  by_cases h0:p=0<;>simp [one,h0]
 ·by_cases h0:p=0
  ·subst h0;exact hm.fl 0 l rfl
  ·simp [one,h0] at hp
 ·by_cases h0:p=0
  ·subst h0;simp [one] at hp
  ·simp [one,h0] at hp
 ·by_cases h0:p=0
  ·subst h0
   simp only[one,if_true,Option.some.injEq] at hp;subst hp;obtain ⟨cs,ty,hc,hdd⟩:=hm.ent 0 _ rfl hr;exact ⟨cs,ty,hc,hd _ _ hdd⟩
  ·simp [one,h0] at hp
theorem C6o{x:C0}{o:Ob}(hk:o.k=4){cs:List Value}(h:C6 x.D [.ob o] cs):C6 x.D [.int .u64 (A1 o.n 0),.int .u64 (A1 o.n 1),.int .u64 (A1 o.n 2),.int .u64 (A1 o.n 3)] cs:=by
 obtain ⟨c1,c2,e,⟨d,h1⟩,h2⟩:=h;have h1:c1=o.cells:=by cases d<;>exact h1
 have h2:c2=[]:=h2;subst h2 h1 e;rw[List.append_nil];unfold Ob.cells;rw[hk];exact ⟨[_],_,rfl,⟨0,rfl⟩,[_],_,rfl,⟨0,rfl⟩,[_],_,rfl,⟨0,rfl⟩,[_],_,rfl,⟨0,rfl⟩,rfl⟩
def A5o(a b c d y0 y1 y2 y3:Int):En:=.fl [.ob (.fr (DJ ((E5 a b c d).toNat*(E5 y0 y1 y2 y3).toNat*VZ)))]
def QI:MuS:=fun off len es e rest=>
 match off,len,es,e,rest with
 | 0,4,1,.fl [.ob (.s _)],[.v (.c (.sl (.u64 [a,b,c,d]))),.v (.c (.sl (.u64 [y0,y1,y2,y3]))),.v (.c (.sl (.u64 [m0,m1,m2,m3]))),.v (.c (.int .u64 neg))]=>
  some ([G8 a,G8 b,G8 c,G8 d,G8 y0,G8 y1,G8 y2,G8 y3,E5 y0 y1 y2 y3<rN,neg=18446744069414584319,m0=18446744069414584321,m1=6034159408538082302,m2=3691218898639771653,m3=8353516859464449352],A5o a b c d y0 y1 y2 y3)
 | 0,4,1,.fl [.ob (.fr _)],[.v (.c (.sl (.u64 [a,b,c,d]))),.v (.c (.sl (.u64 [y0,y1,y2,y3]))),.v (.c (.sl (.u64 [m0,m1,m2,m3]))),.v (.c (.int .u64 neg))]=>
  some ([G8 a,G8 b,G8 c,G8 d,G8 y0,G8 y1,G8 y2,G8 y3,E5 y0 y1 y2 y3<rN,neg=18446744069414584319,m0=18446744069414584321,m1=6034159408538082302,m2=3691218898639771653,m3=8353516859464449352],A5o a b c d y0 y1 y2 y3)
 | _,_,_,_,_=>none
theorem Ya{a b c d:Int}(ha:G8 a)(hb:G8 b)(hc:G8 c)(hd:G8 d):∃n:Nat,n<B4∧E5 a b c d=(n:Int)∧A1 n 0=a∧A1 n 1=b∧A1 n 2=c∧A1 n 3=d:=by
 obtain ⟨ha,ha1⟩:=ha;obtain ⟨hb,hb1⟩:=hb;obtain ⟨hc,hc1⟩:=hc;obtain ⟨hd,hd1⟩:=hd;have h0:0<=E5 a b c d:=by unfold E5;omega
 obtain ⟨n,hn⟩:=Int.eq_ofNat_of_zero_le h0;refine ⟨n,?_,hn,AH ha ha1 hb hb1 hc hc1 hd hd1 (by rw[<-hn];rfl)⟩
 unfold E5 at hn;unfold B4;omega
theorem Ys{o:Ob}(hk:o.k=4){a b c d y0 y1 y2 y3 neg m0 m1 m2 m3:Int}
  (ho:A5 [G8 a,G8 b,G8 c,G8 d,G8 y0,G8 y1,G8 y2,G8 y3,E5 y0 y1 y2 y3<rN,neg=18446744069414584319,m0=18446744069414584321,m1=6034159408538082302,m2=3691218898639771653,m3=8353516859464449352]) :
  MuC Tryz.prog 62 0 4 1 (.fl [.ob o]) [.v (.c (.sl (.u64 [a,b,c,d]))),.v (.c (.sl (.u64 [y0,y1,y2,y3]))),.v (.c (.sl (.u64 [m0,m1,m2,m3]))),.v (.c (.int .u64 neg))] (A5o a b c d y0 y1 y2 y3):=by
 obtain ⟨h1,h2,h3,h4,h5,h6,h7,h8,h9,rfl,rfl,rfl,rfl,rfl,_⟩:=ho;obtain ⟨A,hA,eA,rfl,rfl,rfl,rfl⟩:=Ya h1 h2 h3 h4;obtain ⟨Y,hY,eY,rfl,rfl,rfl,rfl⟩:=Ya h5 h6 h7 h8;refine MuC.pre (e2:=fl4 (A1 o.n 0) (A1 o.n 1) (A1 o.n 2) (A1 o.n 3)) ?_ ⟨_,_,rfl,rfl⟩ fun x cs h=>C6o hk h
 unfold A5o;rw[eA,eY,Int.toNat_natCast,Int.toNat_natCast];rw[eY] at h9;exact A1f _ _ _ _ A Y hA (by exact_mod_cast h9)
def Xi:D6:={ KT with mu:=fun g=>if g=62 then some (mu1 QI) else KT.mu g }
theorem Gz:A7 Tryz.prog Xi:=
 OK Y5 62 QI (A2 Tryz.func62 rfl rfl) fun off len es e rest o e' h ho _ _=>by
  unfold QI at h;split at h
  ·cases h;exact Ys rfl ho
  ·cases h;exact Ys rfl ho
  ·cases h
theorem E2f(x:U4):let b:=Ob.n (.fr x);let c:Int:=18446744069414584319;let d:Int:=18446744069414584321;let f:Int:=6034159408538082302;let g:Int:=3691218898639771653;let h:Int:=8353516859464449352;C2 Xi Tryz.f31 3000 [.v (.a [.ob (.fr x)])] [] [] []=(some ([(S4.G8 (A1 b 0)),(S4.G8 (A1 b 1)),(S4.G8 (A1 b 2)),(S4.G8 (A1 b 3)),(S4.G8 (14526898881837571181:Int)),(S4.G8 (3129137299524312099:Int)),(S4.G8 (419701826671360399:Int)),(S4.G8 (524908885293268753:Int)),((3294906474794265442129797520630710739278575682199800681788903916070560242797:Int)<(52435875175126190479447740508185965837690552500527637822603658699938581184513:Int)),(c=c),(d=d),(f=f),(g=g),(h=h)],((.v (.a [(.ob (.fr (S4.DJ ((((S4.E5 (A1 b 0) (A1 b 1) (A1 b 2) (A1 b 3))).toNat*3294906474794265442129797520630710739278575682199800681788903916070560242797)*VZ))))])),[]))):=by intros;kernel_rfl
theorem E0o(x:Fr):let b:=Ob.n (.s x);let c:=S4.G8 (0:Int);let d:Int:=18446744069414584319;let f:Int:=18446744069414584321;let g:Int:=6034159408538082302;let h:Int:=3691218898639771653;let i:Int:=8353516859464449352;C2 Xi Tryz.f28 3000 [.v (.a [.ob (.s x)])] [] [] []=(some ([(S4.G8 (A1 b 0)),(S4.G8 (A1 b 1)),(S4.G8 (A1 b 2)),(S4.G8 (A1 b 3)),(S4.G8 (1:Int)),c,c,c,((1:Int)<(52435875175126190479447740508185965837690552500527637822603658699938581184513:Int)),(d=d),(f=f),(g=g),(h=h),(i=i)],((.v (.a [(.ob (.fr (S4.DJ ((((S4.E5 (A1 b 0) (A1 b 1) (A1 b 2) (A1 b 3))).toNat*1)*VZ))))])),[]))):=by intros;kernel_rfl
end S4
namespace S4
def E8(a:U4):Fr:=Fin.ofNat rN a.val
def E6(x:Fr):U4:=Fin.ofNat B4 x.val
theorem JJ(x:Fr):(E6 x).val=x.val:=Nat.mod_eq_of_lt (Nat.lt_trans x.isLt A4)
theorem A4r{n:Nat}(h:n<B4):G8 (A1 n 0)∧G8 (A1 n 1)∧G8 (A1 n 2)∧G8 (A1 n 3)∧(E5 (A1 n 0) (A1 n 1) (A1 n 2) (A1 n 3)).toNat=n:=by
 obtain ⟨e,a0,a1,b0,b1,c0,c1,d0,d1⟩:=Bd n h;refine ⟨⟨a0,a1⟩,⟨b0,b1⟩,⟨c0,c1⟩,⟨d0,d1⟩,?_⟩
 unfold E5;rw[<-e];exact Int.toNat_natCast n
theorem C4d{r B v s a:Nat}(e:v*B % r=1 % r)(hs:s % r=B*B % r):a*s*v % r=(a % r)*B % r:=by
  have h2:∀a:Nat,a*(v*B) % r=a % r:=fun a=>by rw[<-Nat.mul_mod_mod,e,Nat.mul_mod_mod,Nat.mul_one]
  calc a*s*v % r=(a*v)*s % r:=by congr 1;simp only[Nat.mul_comm,Nat.mul_left_comm]
    _=(a*v)*(B*B) % r:=by rw[<-Nat.mul_mod_mod,hs,Nat.mul_mod_mod]
    _=(a*B)*(v*B) % r:=by congr 1;simp only[Nat.mul_comm,Nat.mul_left_comm]
    _=a*B % r:=h2 _
    _=(a % r)*B % r:=by rw[Nat.mod_mul_mod]
theorem E0y:3294906474794265442129797520630710739278575682199800681788903916070560242797 % rN=B4*B4 % rN:=by kernel_rfl
theorem C4e(a:U4):K2 Tryz.prog 31 [.v (.a [.ob (.fr a)])] (.v (.a [.ob (.s (E8 a))])) []:=by
 obtain ⟨h0,h1,h2,h3,hn⟩:=A4r a.isLt;refine (A6 Gz Tryz.func31 (E2f a) ?_).conv (fun _ _ h=>h) fun y v hd=>?_
 ·exact ⟨h0,h1,h2,h3,⟨A4,A4⟩,⟨A4,A4⟩,⟨A4,A4⟩,⟨A4,A4⟩,A4,rfl,rfl,rfl,rfl,rfl,C4⟩
 ·refine A5h (o:=.fr (DJ _)) (o' := .s (E8 a)) rfl ?_ hd
  show (DJ _).val=_;rw[JW];have hn:(E5 (A1 (Ob.n (Ob.fr a)) 0) (A1 (Ob.n (Ob.fr a)) 1) (A1 (Ob.n (Ob.fr a)) 2) (A1 (Ob.n (Ob.fr a)) 3)).toNat=a.val:=hn;rw[hn];exact C4d JY E0y
theorem C6s{r B v x:Nat}(e:v*B % r=1 % r):(x*B % r)*1*v % r=x % r:=by
 rw[Nat.mul_one,Nat.mod_mul_mod,Nat.mul_assoc,Nat.mul_comm B,<-Nat.mul_mod_mod,e,Nat.mul_mod_mod,Nat.mul_one]
theorem B8d(x:Fr):K2 Tryz.prog 28 [.v (.a [.ob (.s x)])] (.v (.a [.ob (.fr (E6 x))])) []:=by
 obtain ⟨h0,h1,h2,h3,hn⟩:=A4r (n:=(Ob.s x).n) (Nat.lt_trans (LX x) A4);refine (A6 Gz Tryz.func28 (E0o x) ?_).conv (fun _ _ h=>h) fun y v hd=>?_
 ·exact ⟨h0,h1,h2,h3,⟨A4,A4⟩,⟨A4,A4⟩,⟨A4,A4⟩,⟨A4,A4⟩,A4,rfl,rfl,rfl,rfl,rfl,C4⟩
 ·refine A5h (o:=.fr (DJ _)) (o' := .fr (E6 x)) (Eq.refl 4) ?_ hd
  show (DJ _).val=(E6 x).val;rw[JW,hn,JJ];have e:(Ob.s x).n=x.val*B4 % rN:=rfl;rw[e,C6s JY];exact Nat.mod_eq_of_lt x.isLt
end S4
namespace S4
theorem D4g(x y:Fr):let g:Int:=18446744073709551616;let h:=Ob.n (.s y);let i:=Ob.n (.s x);let j:Int:=4;let l:Int:=1;let o:=Ob.k (.s x);let p:=Ob.k (.s y);let q:=0<=(0:Int);let r:Int:=2;let t:Int:=3;let D:=A1 h 1;let F:=A1 h 2;let G:=A1 h 0;let d:=A3 0 (A1 i 0) G (0:Int);let u:=Prod.snd d;let b:=A3 0 (A1 i 1) D u;let w:=Prod.snd b;let c:=A3 0 (A1 i 2) F w;let z:=Prod.snd c;let A:=Prod.fst d;let B:=Prod.fst b;let C:=Prod.fst c;let H:=A1 h 3;let f:=Prod.fst (A3 0 (A1 i 3) H z);let m:=S4.E5 A B C f;C2 Xi Tryz.f35 3000 [.v (.a [.ob (.s x)]),.v (.a [.ob (.s y)])] [] [] []=(some ([q,(0<j),(0<o),q,(0<j),(0<p),(0<=(A1 i 0)),(0<=G),(G<g),q,(0<=l),q,(0<j),(0<=l),(l<j),(1<o),(0<=l),(l<j),(1<p),(0<=(A1 i 1)),(0<=D),(D<g),(0<=u),(u<=l),(0<=l),(l<j),(0<=r),(r<j),(2<o),(0<=r),(r<j),(2<p),(0<=(A1 i 2)),(0<=F),(F<g),(0<=w),(w<=l),(0<=r),(r<j),(0<=t),(t<j),(3<o),(0<=t),(t<j),(3<p),(0<=(A1 i 3)),(0<=H),(H<g),(0<=z),(z<=l),(0<=t),(t<j),(0<=A),(A<g),(0<=B),(B<g),(0<=C),(C<g),(0<=f),(f<g),(m<(104871750350252380958895481016371931675381105001055275645207317399877162369026:Int))],((.v (.a [(.ob (.s (RR (m).toNat)))])),[]))):=by intros;kernel_rfl
theorem C5b(x y:Fr):let d:=Ob.n (.s y);let g:=Ob.n (.s x);let h:Int:=18446744073709551616;let i:Int:=4;let j:Int:=1;let m:=Ob.k (.s x);let o:=Ob.k (.s y);let p:Int:=0;let q:Int:=2;let r:Int:=3;let z:=A1 d 1;let A:=A1 d 2;let B:=A1 d 0;let f:=A3 1 (A1 g 0) B p;let t:=Prod.snd f;let b:=A3 1 (A1 g 1) z t;let u:=Prod.snd b;let c:=A3 1 (A1 g 2) A u;let w:=Prod.snd c;let C:=A1 d 3;let l:=A3 1 (A1 g 3) C w;C2 Xi Tryz.f33 3000 [.v (.a [.ob (.s x)]),.v (.a [.ob (.s y)])] [true] [] []=(some ([(0<=p),(0<i),(0<m),(0<=p),(0<i),(0<o),(0<=(A1 g 0)),(0<=B),(B<h),(0<=p),(0<=j),(0<=p),(0<i),(0<=j),(j<i),(1<m),(0<=j),(j<i),(1<o),(0<=(A1 g 1)),(0<=z),(z<h),(0<=t),(t<=j),(0<=j),(j<i),(0<=q),(q<i),(2<m),(0<=q),(q<i),(2<o),(0<=(A1 g 2)),(0<=A),(A<h),(0<=u),(u<=j),(0<=q),(q<i),(0<=r),(r<i),(3<m),(0<=r),(r<i),(3<o),(0<=(A1 g 3)),(0<=C),(C<h),(0<=w),(w<=j),(0<=r),(r<i),(((Prod.snd l) == p)=true)],((.v (.a [(.int .u64 (Prod.fst f)),(.int .u64 (Prod.fst b)),(.int .u64 (Prod.fst c)),(.int .u64 (Prod.fst l))])),[]))):=by intros;kernel_rfl
theorem C5c(x y:Fr):let g:Int:=18446744073709551616;let j:=Ob.n (.s y);let l:Int:=4;let m:Int:=1;let o:=Ob.n (.s x);let r:Int:=2;let t:Int:=3;let u:Int:=18446744069414584321;let w:Int:=6034159408538082302;let z:Int:=3691218898639771653;let A:Int:=8353516859464449352;let B:=Ob.k (.s x);let C:=Ob.k (.s y);let K:Int:=0;let q:=0<=K;let L:=A1 j 1;let M:=A1 j 2;let N:=A1 j 0;let f:=A3 1 (A1 o 0) N K;let i:=A3 0 (Prod.fst f) u K;let D:=Prod.snd f;let b:=A3 1 (A1 o 1) L D;let F:=Prod.snd i;let c:=A3 0 (Prod.fst b) w F;let G:=Prod.snd b;let d:=A3 1 (A1 o 2) M G;let H:=Prod.snd c;let h:=A3 0 (Prod.fst d) z H;let I:=Prod.snd d;let J:=Prod.snd h;let O:=A1 j 3;let p:=A3 1 (A1 o 3) O I;C2 Xi Tryz.f33 3000 [.v (.a [.ob (.s x)]),.v (.a [.ob (.s y)])] [false] [] []=(some ([q,(0<l),(0<B),q,(0<l),(0<C),(0<=(A1 o 0)),(0<=N),(N<g),q,(0<=m),q,(0<l),(0<=m),(m<l),(1<B),(0<=m),(m<l),(1<C),(0<=(A1 o 1)),(0<=L),(L<g),(0<=D),(D<=m),(0<=m),(m<l),(0<=r),(r<l),(2<B),(0<=r),(r<l),(2<C),(0<=(A1 o 2)),(0<=M),(M<g),(0<=G),(G<=m),(0<=r),(r<l),(0<=t),(t<l),(3<B),(0<=t),(t<l),(3<C),(0<=(A1 o 3)),(0<=O),(O<g),(0<=I),(I<=m),(0<=t),(t<l),(((Prod.snd p) == K)=false),q,(0<l),q,(0<l),(0<4),(0<=(Prod.fst f)),(0<=u),(u<g),q,(0<=m),q,(0<l),(0<=m),(m<l),(0<=m),(m<l),(1<4),(0<=(Prod.fst b)),(0<=w),(w<g),(0<=F),(F<=m),(0<=m),(m<l),(0<=r),(r<l),(0<=r),(r<l),(2<4),(0<=(Prod.fst d)),(0<=z),(z<g),(0<=H),(H<=m),(0<=r),(r<l),(0<=t),(t<l),(0<=t),(t<l),(3<4),(0<=(Prod.fst p)),(0<=A),(A<g),(0<=J),(J<=m),(0<=t),(t<l)],((.v (.a [(.int .u64 (Prod.fst i)),(.int .u64 (Prod.fst c)),(.int .u64 (Prod.fst h)),(.int .u64 (Prod.fst (A3 0 (Prod.fst p) A J)))])),[]))):=by intros;kernel_rfl
end S4
namespace S4
theorem B0d{x y r B:Nat}:((x+y) % r)*B % r=(x*B % r+y*B % r) % r:=by
 rw[Nat.mod_mul_mod,Nat.add_mul,<-Nat.add_mod]
theorem C8l(x y:Fr):(Ob.s (x+y)).n=((Ob.s x).n+(Ob.s y).n) % rN:=by
 exact B0d
theorem Xq{n:Nat}(x y:Fin n):x-y+y=x:=by
 apply Fin.ext
 simp only[Fin.add_def,Fin.sub_def];have:=y.isLt
 rw[Nat.mod_add_mod,show n-y.val+x.val+y.val=x.val+n from by omega,Nat.add_mod_right,Nat.mod_eq_of_lt x.isLt]
theorem C8m(x y:Fr):((Ob.s (x-y)).n+(Ob.s y).n) % rN=(Ob.s x).n:=by
 rw[<-C8l,Xq]
theorem C2g{r B v x y:Nat}(e:v*B % r=1 % r):(x*B % r+y*B % r)*v % r=(x+y) % r:=by
 rw[<-Nat.mod_mul_mod,<-Nat.add_mod,Nat.mod_mul_mod,<-Nat.add_mul,Nat.mul_assoc,Nat.mul_comm B,<-Nat.mul_mod_mod,e,Nat.mul_mod_mod,Nat.mul_one]
theorem B9o(x y:Fr):RR ((Ob.s x).n+(Ob.s y).n)=x+y:=by
 apply Fin.ext
 have e:(Ob.s x).n=x.val*B4 % rN:=rfl;have e' : (Ob.s y).n=y.val*B4 % rN:=rfl;rw[e,e'];exact C2g JY
theorem B8v(x y:Fr):K2 Tryz.prog 35 [.v (.a [.ob (.s x)]),.v (.a [.ob (.s y)])] (.v (.a [.ob (.s (x+y))])) []:=by
 have r0:=D4g x y;dsimp only at r0;have hX:=LX x;have hY:=LX y;have hadd:=B9o x y;obtain ⟨ex,x0,x0',x1,x1',x2,x2',x3,x3'⟩:=Bd (Ob.s x).n (Nat.lt_trans (LX x) A4);obtain ⟨ey,y0,y0',y1,y1',y2,y2',y3,y3'⟩:=Bd (Ob.s y).n (Nat.lt_trans (LX y) A4);generalize A1 (Ob.s x).n 0=a0 at *;generalize A1 (Ob.s x).n 1=a1 at *;generalize A1 (Ob.s x).n 2=a2 at *;generalize A1 (Ob.s x).n 3=a3 at *;generalize A1 (Ob.s y).n 0=b0 at *;generalize A1 (Ob.s y).n 1=b1 at *;generalize A1 (Ob.s y).n 2=b2 at *;generalize A1 (Ob.s y).n 3=b3 at *;obtain ⟨e0,p0,p0',c0,c0'⟩:=G1 (c:=0) x0 x0' y0 y0' A4 A4;obtain ⟨e1,p1,p1',c1,c1'⟩:=G1 x1 x1' y1 y1' c0 c0';obtain ⟨e2,p2,p2',c2,c2'⟩:=G1 x2 x2' y2 y2' c1 c1';obtain ⟨e3,p3,p3',c3,c3'⟩:=G1 x3 x3' y3 y3' c2 c2';generalize hq0:A3 0 a0 b0 0=q0 at *;generalize hq1:A3 0 a1 b1 q0.2=q1 at *;generalize hq2:A3 0 a2 b2 q1.2=q2 at *;generalize hq3:A3 0 a3 b3 q2.2=q3 at *;clear hq0 hq1 hq2 hq3;have hN:E5 q0.1 q1.1 q2.1 q3.1=((Ob.s x).n:Int)+((Ob.s y).n:Int):=by
  generalize (Ob.s x).n=X at *;generalize (Ob.s y).n=Y at *;unfold rN at hX hY;unfold E5;omega
 refine (A6 Gz Tryz.func35 r0 ?_).conv (fun _ _ h=>h) fun z v hd=>?_
 ·have hlt:E5 q0.1 q1.1 q2.1 q3.1<104871750350252380958895481016371931675381105001055275645207317399877162369026:=by
   unfold rN at hX hY;omega
  simp only[A5,and_true,Ob.k];clear hN hX hY ex ey hadd r0;and_intros<;>first | assumption | decide | omega
 ·have hN' : (E5 q0.1 q1.1 q2.1 q3.1).toNat=(Ob.s x).n+(Ob.s y).n:=by omega
  rw[hN',hadd] at hd;exact hd
theorem C2l{b:Int}(h0:0<=b)(h1:b<=1)(h:¬b=0):b=1:=by omega
theorem E6o{q0 q1 q2 q3 w0 w1 w2 w3 v0 v1 v2 v3:Int}(f0:q0+18446744069414584321+0=w0+18446744073709551616*v0)(f1:q1+6034159408538082302+v0=w1+18446744073709551616*v1)
  (f2:q2+3691218898639771653+v1=w2+18446744073709551616*v2) (f3:q3+8353516859464449352+v2=w3+18446744073709551616*v3) :
  E5 w0 w1 w2 w3+115792089237316195423570985008687907853269984665640564039457584007913129639936*v3=E5 q0 q1 q2 q3+rN:=by
 unfold E5 rN;omega
theorem A5f{a b c d:Int}(ha:G8 a)(hb:G8 b)(hc:G8 c)(hd:G8 d):0<=E5 a b c d∧E5 a b c d<115792089237316195423570985008687907853269984665640564039457584007913129639936:=by
 obtain ⟨_,_⟩:=ha;obtain ⟨_,_⟩:=hb;obtain ⟨_,_⟩:=hc;obtain ⟨_,_⟩:=hd;unfold E5;omega
theorem C8u{X Y Z:Nat}{N W v:Int}(hX:X<rN)(hY:Y<rN)(hcase:(Y<=X∧(Z:Int)=X-Y)∨(X<Y∧(Z:Int)=X+rN-Y))
  (hdiff:N-115792089237316195423570985008687907853269984665640564039457584007913129639936*1=(X:Int)-Y) (hN:0<=N∧N<115792089237316195423570985008687907853269984665640564039457584007913129639936)
  (hW:0<=W∧W<115792089237316195423570985008687907853269984665640564039457584007913129639936) (hv:0<=v∧v<=1)
  (hsum:W+115792089237316195423570985008687907853269984665640564039457584007913129639936*v=N+rN):(Z:Int)=W:=by
 obtain ⟨hN0,hN1⟩:=hN;obtain ⟨hW0,hW1⟩:=hW;obtain ⟨hv0,hv1⟩:=hv;unfold rN at *;have:v=0∨v=1:=by omega
 rcases hcase with ⟨h1,h2⟩ | ⟨h1,h2⟩
 ·exfalso;omega
 ·rcases this with rfl | rfl<;>omega
theorem B0m{X Y Z r:Nat}(_hX:X<r)(hY:Y<r)(hZ:Z<r)(h:(Z+Y) % r=X):(Y<=X∧(Z:Int)=X-Y)∨(X<Y∧(Z:Int)=X+r-Y):=by
 by_cases hl:Z+Y<r
 ·rw[Nat.mod_eq_of_lt hl] at h
  left;omega
 ·rw[Nat.mod_eq_sub_mod (by omega),Nat.mod_eq_of_lt (by omega)] at h
  right;omega
theorem A8u(x y:Fr):K2 Tryz.prog 33 [.v (.a [.ob (.s x)]),.v (.a [.ob (.s y)])] (.v (.a [.ob (.s (x-y))])) []:=by
 have r0:=C5b x y;dsimp only at r0;have r1:=C5c x y;dsimp only at r1;have hX:=LX x;have hY:=LX y;have hZ:=LX (x-y);have hsub:=C8m x y;obtain ⟨ex,x0,x0',x1,x1',x2,x2',x3,x3'⟩:=Bd (Ob.s x).n (Nat.lt_trans (LX x) A4);obtain ⟨ey,y0,y0',y1,y1',y2,y2',y3,y3'⟩:=Bd (Ob.s y).n (Nat.lt_trans (LX y) A4);generalize A1 (Ob.s x).n 0=a0 at *;generalize A1 (Ob.s x).n 1=a1 at *;generalize A1 (Ob.s x).n 2=a2 at *;generalize A1 (Ob.s x).n 3=a3 at *;generalize A1 (Ob.s y).n 0=b0 at *;generalize A1 (Ob.s y).n 1=b1 at *;generalize A1 (Ob.s y).n 2=b2 at *;generalize A1 (Ob.s y).n 3=b3 at *;obtain ⟨e0,p0,p0',c0,c0'⟩:=F6 (c:=0) x0 x0' y0 y0' A4 A4;obtain ⟨e1,p1,p1',c1,c1'⟩:=F6 x1 x1' y1 y1' c0 c0';obtain ⟨e2,p2,p2',c2,c2'⟩:=F6 x2 x2' y2 y2' c1 c1';obtain ⟨e3,p3,p3',c3,c3'⟩:=F6 x3 x3' y3 y3' c2 c2';generalize hq0:A3 1 a0 b0 0=q0 at *;generalize hq1:A3 1 a1 b1 q0.2=q1 at *;generalize hq2:A3 1 a2 b2 q1.2=q2 at *;generalize hq3:A3 1 a3 b3 q2.2=q3 at *;clear hq0 hq1 hq2 hq3;have hcase:=B0m hX hY hZ hsub;have hdiff:E5 q0.1 q1.1 q2.1 q3.1-115792089237316195423570985008687907853269984665640564039457584007913129639936*q3.2=((Ob.s x).n:Int)-((Ob.s y).n:Int):=by
  rw[ex,ey];clear hsub hcase hX hY hZ ex ey;unfold E5;omega
 by_cases hz:q3.2=0
 ·refine (A6 Gz Tryz.func33 r0 ?_).conv (fun _ _ h=>h) fun z v hd=>Jn rfl (AH p0 p0' p1 p1' p2 p2' p3 p3' ?_) hd
  ·simp only[A5,and_true,Ob.k,beq_iff_eq]
   clear hsub hX hY hZ ex ey r0 r1 hcase hdiff;and_intros<;>first | assumption | decide | omega
  ·rcases hcase with ⟨h1,h2⟩ | ⟨h1,h2⟩
   ·rw[h2,<-hdiff,hz];unfold E5;omega
   ·rw[hz] at hdiff;exfalso;unfold E5 at hdiff;clear ex ey hsub h2 e0 e1 e2 e3;omega
 ·obtain ⟨f0,s0,s0',d0,d0'⟩:=G1 (y:=18446744069414584321) (c:=0) p0 p0' A4 A4 A4 A4
  obtain ⟨f1,s1,s1',d1,d1'⟩:=G1 (y:=6034159408538082302) p1 p1' A4 A4 d0 d0';obtain ⟨f2,s2,s2',d2,d2'⟩:=G1 (y:=3691218898639771653) p2 p2' A4 A4 d1 d1';obtain ⟨f3,s3,s3',d3,d3'⟩:=G1 (y:=8353516859464449352) p3 p3' A4 A4 d2 d2';generalize hw0:A3 0 q0.1 18446744069414584321 0=w0 at *;generalize hw1:A3 0 q1.1 6034159408538082302 w0.2=w1 at *;generalize hw2:A3 0 q2.1 3691218898639771653 w1.2=w2 at *;generalize hw3:A3 0 q3.1 8353516859464449352 w2.2=w3 at *;clear hw0 hw1 hw2 hw3;refine (A6 Gz Tryz.func33 r1 ?_).conv (fun _ _ h=>h) fun z v hd=>Jn rfl (AH s0 s0' s1 s1' s2 s2' s3 s3' ?_) hd
  ·simp only[A5,and_true,Ob.k,beq_eq_false_iff_ne]
   clear hsub hX hY hZ ex ey r0 r1 hcase hdiff;and_intros<;>first | assumption | decide | omega
  ·have hz1:q3.2=1:=C2l c3 c3' hz
   rw[hz1] at hdiff;exact C8u hX hY hcase hdiff (A5f ⟨p0,p0'⟩ ⟨p1,p1'⟩ ⟨p2,p2'⟩ ⟨p3,p3'⟩) (A5f ⟨s0,s0'⟩ ⟨s1,s1'⟩ ⟨s2,s2'⟩ ⟨s3,s3'⟩) ⟨d3,d3'⟩ (E6o f0 f1 f2 f3)
end S4
namespace S4
def ZQ:B2
 | [.v (.a [.ob (.fr a)])]=>some ([],.v (.a [.ob (.s (E8 a))]),[])
 | _=>none
def gA:D6:=Xi.set (E0 Xi.fn 31 ZQ)
theorem D8k:A7 Tryz.prog gA:=A8 Gz 31 ZQ (A2 Tryz.func31 rfl rfl) fun args o r es h _=>by
 unfold ZQ at h;split at h
 ·cases h;exact C4e _
 ·cases h
def VI:B2
 | [.v (.a [.ob (.s x)])]=>some ([],.v (.a [.ob (.fr (E6 x))]),[])
 | _=>none
def gB:D6:=gA.set (E0 gA.fn 28 VI)
theorem D8l:A7 Tryz.prog gB:=A8 D8k 28 VI (A2 Tryz.func28 rfl rfl) fun args o r es h _=>by
 unfold VI at h;split at h
 ·cases h;exact B8d _
 ·cases h
def MA:B2
 | [.v (.a [.ob (.s x)]),.v (.a [.ob (.s y)])]=>some ([],.v (.a [.ob (.s (x*y))]),[])
 | _=>none
def gC:D6:=gB.set (E0 gB.fn 27 MA)
theorem D8m:A7 Tryz.prog gC:=A8 D8l 27 MA (A2 Tryz.func27 rfl rfl) fun args o r es h _=>by
 unfold MA at h;split at h
 ·cases h;exact B0t _ _
 ·cases h
def QC:B2
 | [.v (.a [.ob (.s x)]),.v (.a [.ob (.s y)])]=>some ([],.v (.a [.ob (.s (x+y))]),[])
 | _=>none
def gD:D6:=gC.set (E0 gC.fn 35 QC)
theorem D8n:A7 Tryz.prog gD:=A8 D8m 35 QC (A2 Tryz.func35 rfl rfl) fun args o r es h _=>by
 unfold QC at h;split at h
 ·cases h;exact B8v _ _
 ·cases h
def Lp:B2
 | [.v (.a [.ob (.s x)]),.v (.a [.ob (.s y)])]=>some ([],.v (.a [.ob (.s (x-y))]),[])
 | _=>none
def gE:D6:=gD.set (E0 gD.fn 33 Lp)
theorem D0d:A7 Tryz.prog gE:=A8 D8n 33 Lp (A2 Tryz.func33 rfl rfl) fun args o r es h _=>by
 unfold Lp at h;split at h
 ·cases h;exact A8u _ _
 ·cases h
theorem E3t(x:Fr):C2 gE Tryz.f55 3000 [.v (.a [.ob (.s x)])] [] [] []=(some ([],((.v (.a [(.ob (.s ((0:Fr)-x)))])),[]))):=by kernel_rfl
def Vt:B2
 | [.v (.a [.ob (.s x)])]=>some ([],.v (.a [.ob (.s (0-x))]),[])
 | _=>none
def gF:D6:=gE.set (E0 gE.fn 55 Vt)
theorem B3p:A7 Tryz.prog gF:=A8 D0d 55 Vt (A2 Tryz.func55 rfl rfl) fun args o r es h _=>by
 unfold Vt at h;split at h
 ·cases h;exact A6 D0d Tryz.func55 (E3t _) trivial
 ·cases h
theorem frC(a:U4):C2 gF Tryz.f19 3000 [.v (.a [.ob (.fr a)])] [] [] []=(some ([],((.v (.a [(.ob (.fr (S4.E6 (S4.E8 a))))])),[]))):=by kernel_rfl
theorem frM(a b:U4):C2 gF Tryz.f12 3000 [.v (.a [.ob (.fr a)]),.v (.a [.ob (.fr b)])] [] [] []=(some ([],((.v (.a [(.ob (.fr (S4.E6 ((S4.E8 a)*(S4.E8 b)))))])),[]))):=by kernel_rfl
def KL:B2
 | [.v (.a [.ob (.fr a)])]=>some ([],.v (.a [.ob (.fr (E6 (E8 a)))]),[])
 | _=>none
def gG:D6:=gF.set (E0 gF.fn 19 KL)
theorem D8p:A7 Tryz.prog gG:=A8 B3p 19 KL (A2 Tryz.func19 rfl rfl) fun args o r es h _=>by
 unfold KL at h;split at h
 ·cases h;exact A6 B3p Tryz.func19 (frC _) trivial
 ·cases h
def gH:D6:=gG
theorem D8q:A7 Tryz.prog gH:=D8p
def Vs:B2
 | [.v (.a [.ob (.fr a)]),.v (.a [.ob (.fr b)])]=>some ([],.v (.a [.ob (.fr (E6 (E8 a*E8 b)))]),[])
 | _=>none
def gI:D6:=gH.set (E0 gH.fn 12 Vs)
theorem D8r:A7 Tryz.prog gI:=A8 D8q 12 Vs (A2 Tryz.func12 rfl rfl) fun args o r es h _=>by
 unfold Vs at h;split at h
 ·cases h;exact A6 B3p Tryz.func12 (frM _ _) trivial
 ·cases h
def gJ:D6:=gI
theorem D8s:A7 Tryz.prog gJ:=D8r
def gK:D6:=gJ
theorem A4f:A7 Tryz.prog gK:=D8s
end S4
namespace S4
section
variable {w0:World} {F0:Nat->Prop} {K:Kp} {ac:List Act} {Q:Exit->Act->World->Prop} {cX:C0} {aX:Act}
theorem zeR(x:Fr):C2 gK Tryz.f52 3000 [.v (.a [.ob (.s x)])] [] [] []=(some ([],((.ci (.bool (ite (true=true) (decide (x=(0:Fr))) (Bool.not (decide (x=(0:Fr))))))),[]))):=by kernel_rfl
theorem C9s(x:Fr):K2 Tryz.prog 52 [.v (.a [.ob (.s x)])] (.v (.c (.bool (decide (x=0))))) []:=by
 refine (A6 A4f Tryz.func52 (zeR x) trivial).conv (fun _ _ h=>h) fun y v hd=>?_
 rw[if_pos rfl] at hd;exact hd
def RD:B2
 | [.v (.a [.ob (.s x)])]=>some ([],.v (.c (.bool (decide (x=0)))),[])
 | _=>none
def gL:D6:=gK.set (E0 gK.fn 52 RD)
theorem Ed:A7 Tryz.prog gL:=A8 A4f 52 RD (A2 Tryz.func52 rfl rfl) fun args o r es h _=>by
 unfold RD at h;split at h
 ·cases h;exact C9s _
 ·cases h
def LL:List KI:=(run gL false 3000 (⟨[.code (B5 Tryz.f88)],.normal,D2 Tryz.f88.ntmps [.v (.c (.sl (.fr dF)))]⟩:G5) []).cfg.k
theorem E4w(a:List U4):let b:Int:=a.length;A5 [(0<=b),(b=b),(((32:Int)*b)<=(281474976710656:Int)),(b<=(9223372036854775807:Int))]->Sg Tryz.prog (D2 Tryz.f88.ntmps [.v (.c (.sl (.fr a)))]) (B0 23 [3,9,10,11] [(.ci (.slc 64 0 (b).toNat 4)),(.ci (.sl (.fr a))),(.ii b),.ii 0] [64] [(D9 (.s (List.replicate (b).toNat 0)))] 144 [] []) .normal (LL) ([.code (B5 Tryz.f88)]):=E4 false 3000 [] Ed
def pbS(a:List Fr)(n:Nat):St:=B0 37 [0,3] [(.ci (.sl (.s a))),.v (.c (.int .i64 (n:Int)))] [] [] 80 [] []
def FT:List KI:=(run gL false 3000 (⟨[.code (B5 Tryz.f87)],.normal,D2 Tryz.f87.ntmps [.v (.c (.sl (.s dF)))]⟩:G5) []).cfg.k
theorem E4v(a:List Fr):A5 []->Sg Tryz.prog (D2 Tryz.f87.ntmps [.v (.c (.sl (.s a)))]) (pbS a (a.length:Nat)) .normal (FT) ([.code (B5 Tryz.f87)]):=E4 false 3000 [] Ed
def piS(a:List U4)(N:Nat)(L:List Fr)(i:Nat):St:=B0 23 [3,9,10,11] [.v (.c (.slc 64 0 N 4)),(.ci (.sl (.fr a))),.v (.c (.int .i64 (N:Int))),.v (.c (.int .i64 (i:Int)))] [64] [some (.sq (.s L))] 144 [] []
theorem piN(a:List U4)(N:Nat)(L:List Fr)(i:Nat):let b:Int:=i;let c:Int:=(N:Nat);A5 [((decide (b<c))=true),(0<=b),(b<(a.length:Int)),(0<=b),(b<c),(0=0),((b).toNat<L.length)]->Sg Tryz.prog (piS a N L i) (B0 23 [3,9,10,11] [(.ci (.slc 64 0 N 4)),(.ci (.sl (.fr a))),(.ii c),(.ii (wrap .i64 (b+1)))] [64] [(D9 (.s (List.set L (b).toNat (S4.E8 (List.getD a (b).toNat 0)))))] 384 [] []) .normal (D4 LL) (B7 LL):=E4 false 3000 [true] Ed
theorem C6z(a:List U4)(N:Nat)(L:List Fr)(i:Nat):E2 gL Tryz.f88 false 3000 (⟨B7 LL,.normal,piS a N L i⟩) [false] [64] []=(some ([((decide ((i:Int)<((N:Nat):Int)))=false)],((.ci (.slc 0 0 N 4)),[(.sq (.s L))]))):=by kernel_rfl
section
variable (a:List Fr) (n:Nat)
theorem pbN:let b:=wrap .i64 (((n:Nat):Int)-1);A5 [((decide (((n:Nat):Int) > (0:Int)))=true),(0<=b),(b<(a.length:Int)),((decide ((List.getD a (b).toNat 0)=(0:Fr)))=true)]->Sg Tryz.prog (pbS a n) (B0 37 [0,3] [(.ci (.sl (.s a))),(.ii b)] [] [] 288 [] []) .normal (D4 FT) (B7 FT):=E4 false 3000 [true,true] Ed
def MX:List KI:=(run gL false 3000 (⟨B7 FT,.normal,pbS dF dF⟩:G5) [true,false]).cfg.k
theorem pbB:let b:Int:=(n:Nat);let c:=wrap .i64 (b-1);A5 [((decide (b > (0:Int)))=true),(0<=c),(c<(a.length:Int)),((decide ((List.getD a (c).toNat 0)=(0:Fr)))=false),(0<=b),(b=b),(((32:Int)*b)<=(281474976710656:Int)),(b<=(9223372036854775807:Int))]->Sg Tryz.prog (pbS a n) (B0 37 [0,4,23,24] [(.ci (.sl (.s a))),(.ci (.slc 256 0 (b).toNat 4)),(.ii (((b).toNat:Nat):Int)),.ii 0] [256] [(D9 (.fr (List.replicate (b).toNat 0)))] 336 [] []) .normal (MX) (B7 FT):=E4 false 3000 [true,false] Ed
theorem pbC:let b:Int:=(n:Nat);A5 [((decide (b > (0:Int)))=false),(0<=b),(b=b),(((32:Int)*b)<=(281474976710656:Int)),(b<=(9223372036854775807:Int))]->Sg Tryz.prog (pbS a n) (B0 37 [0,4,23,24] [(.ci (.sl (.s a))),(.ci (.slc 256 0 (b).toNat 4)),(.ii (((b).toNat:Nat):Int)),.ii 0] [256] [(D9 (.fr (List.replicate (b).toNat 0)))] 336 [] []) .normal (MX) (B7 FT):=E4 false 3000 [false] Ed
def pbT(a:List Fr)(N:Nat)(L:List U4)(i:Nat):St:=B0 37 [0,4,23,24] [(.ci (.sl (.s a))),.v (.c (.slc 256 0 N 4)),.v (.c (.int .i64 (N:Int))),.v (.c (.int .i64 (i:Int)))] [256] [some (.sq (.fr L))] 336 [] []
end
theorem pbM(a:List Fr)(N:Nat)(L:List U4)(i:Nat):let b:Int:=i;let c:Int:=(N:Nat);A5 [((decide (b<c))=true),(0<=b),(b<(a.length:Int)),(0<=b),(b<c),(0=0),((b).toNat<L.length)]->Sg Tryz.prog (pbT a N L i) (B0 37 [0,4,23,24] [(.ci (.sl (.s a))),(.ci (.slc 256 0 N 4)),(.ii c),(.ii (wrap .i64 (b+1)))] [256] [(D9 (.fr (List.set L (b).toNat (S4.E6 (List.getD a (b).toNat 0)))))] 560 [] []) .normal (D4 MX) (B7 MX):=E4 false 3000 [true] Ed
theorem C6x(a:List Fr)(N:Nat)(L:List U4)(i:Nat):E2 gL Tryz.f87 false 3000 (⟨B7 MX,.normal,pbT a N L i⟩) [false] [256] []=(some ([((decide ((i:Int)<((N:Nat):Int)))=false)],((.ci (.slc 0 0 N 4)),[(.sq (.fr L))]))):=by kernel_rfl
end
end S4
namespace S4
theorem Eb{α:Type}(f:Nat->α)(z:α){i N:Nat}(h:i<N):((List.range i).map f++List.replicate (N-i) z).set i (f i)=(List.range (i+1)).map f++List.replicate (N-(i+1)) z:=by
 rw[List.set_append_right _ _ (by simp)]
 have e:N-i=(N-(i+1))+1:=by omega
 rw[e,List.replicate_succ];simp [List.range_succ]
theorem Ea{α:Type}(f:Nat->α)(z:α){i N:Nat}(h:i<=N):((List.range i).map f++List.replicate (N-i) z).length=N:=by
 simp
 omega
theorem Ik{α β:Type}(g:α->β)(l:List α)(d:α):(List.range l.length).map (fun i=>g (l.getD i d))=l.map g:=by
 apply List.ext_getElem
 ·simp
 ·intro i h1 h2
  simp at h1
  simp [List.getD,h1]
def BF(l:List Fr):Nat->Nat
 | 0=>0
 | n+1=>if l.getD n 0=0 then BF l n else n+1
def Bi(l:List Fr):List Fr:=l.take (BF l l.length)
theorem Ro(l:List Fr):∀n,BF l n<=n
 | 0=>Nat.le_refl _
 | n+1=>by
  show (if l.getD n 0=0 then BF l n else n+1)<=n+1
  split
  ·exact Nat.le_succ_of_le (Ro l n)
  ·exact Nat.le_refl _
theorem MB(l:List Fr):(Bi l).length=BF l l.length:=by
 have:=Ro l l.length
 unfold Bi;rw[List.length_take];omega
theorem B4b(a:List U4)(hl0:a.length<=8796093022208):K2 Tryz.prog 88 [.v (.c (.sl (.fr a)))] (.v (.c (.slc 0 0 a.length 4))) [.sq (.s (a.map E8))]:=by
 refine H2 (fn:=Tryz.f88) (c:=B5 Tryz.f88) Tryz.func88 rfl rfl fun x a0 hk hF hs=>?_
 refine E4w a (by and_intros<;>first | trivial | decide | omega) hs fun ac cY aY hs1=>?_
 rw[Int.toNat_natCast] at hs1;refine C5 (ι:={ i:Nat // i<=a.length }) (fun i=>piS a a.length ((List.range i.1).map (fun i=>E8 (a.getD i 0))++List.replicate (a.length-i.1) 0) i.1) (fun i=>a.length-i.1) (c:=X5 LL) (k:=X8 LL) (by kernel_rfl) (fun i ih ac cY aY hs=>?_) ⟨0,Nat.zero_le _⟩ hs1
 obtain ⟨i,hi⟩:=i;simp only at ih hs
 have hl:=Ea (fun i=>E8 (a.getD i 0)) 0 hi
 by_cases h:i<a.length
 ·refine piN a a.length _ i ⟨by simp [h],by omega,by omega,by omega,by omega,rfl,by rw[hl];omega,C4⟩ hs fun ac cY aY hs2=>?_
  rw[Int.toNat_natCast,Eb (fun i=>E8 (a.getD i 0)) _ h,A9 (by omega) (by omega)] at hs2
  exact ih ⟨i+1,by omega⟩ (by show a.length-(i+1)<a.length-i;omega) ac cY aY (hs2.nx _)
 ·have e:i=a.length:=by omega
  rw[e,Nat.sub_self,List.replicate_zero,List.append_nil,Ik] at hs;exact H4 Ed hk hF (C6z a a.length _ a.length) ⟨by simp,C4⟩ (fun y v hd=>hd) hs
theorem A1m{α β:Type}(g:α->β)(l:List α)(d:α){n:Nat}(h:n<=l.length):(List.range n).map (fun i=>g (l.getD i d))=(l.take n).map g:=by
 apply List.ext_getElem
 ·simp;omega
 ·intro i h1 h2
  simp at h1
  simp [List.getD,show i<l.length from by omega]
theorem B1q(a:List Fr)(hl0:a.length<=8796093022208):K2 Tryz.prog 87 [.v (.c (.sl (.s a)))] (.v (.c (.slc 0 0 (Bi a).length 4))) [.sq (.fr ((Bi a).map E6))]:=by
 rw[MB];refine H2 (fn:=Tryz.f87) (c:=B5 Tryz.f87) Tryz.func87 rfl rfl fun x a0 hk hF hs=>?_
 refine E4v a trivial hs fun ac cY aY hs1=>?_
 refine C5 (ι:={ n:Nat // n<=a.length∧BF a n=BF a a.length }) (fun n=>pbS a n.1) (fun n=>n.1) (c:=X5 FT) (k:=X8 FT) (by kernel_rfl) (fun n ih ac cY aY hs=>?_) ⟨a.length,Nat.le_refl _,rfl⟩ hs1
 obtain ⟨n,hn,he⟩:=n;simp only at ih hs
 have key:BF a a.length=n->∀ac cY aY,Sim x.w x.F AD ac (pbT a n (List.replicate n 0) 0) cY aY->Wq Tryz.prog (NU Tryz.prog Tryz.f87 x (.v (.c (.slc 0 0 (BF a a.length) 4))) [.sq (.fr ((Bi a).map E6))]) MX ac .normal aY cY.w:=by
  intro hN ac cY aY hs;have hs:Sim x.w x.F AD ac (pbT a n ((List.range 0).map (fun i=>E6 (a.getD i 0))++List.replicate (n-0) 0) 0) cY aY:=hs
  refine C5 (ι:={ i:Nat // i<=n }) (fun i=>pbT a n ((List.range i.1).map (fun i=>E6 (a.getD i 0))++List.replicate (n-i.1) 0) i.1) (fun i=>n-i.1) (c:=X5 MX) (k:=X8 MX) (by kernel_rfl) (fun i ih ac cY aY hs=>?_) ⟨0,Nat.zero_le _⟩ hs
  obtain ⟨i,hi⟩:=i;simp only at ih hs
  have hl:=Ea (fun i=>E6 (a.getD i 0)) 0 hi
  by_cases h:i<n
  ·refine pbM a n _ i ⟨by simp [h],by omega,by omega,by omega,by omega,rfl,by rw[hl];omega,C4⟩ hs fun ac cY aY hs2=>?_
   rw[Int.toNat_natCast,Eb (fun i=>E6 (a.getD i 0)) _ h,A9 (by omega) (by omega)] at hs2
   exact ih ⟨i+1,by omega⟩ (by show n-(i+1)<n-i;omega) ac cY aY (hs2.nx _)
  ·have e:i=n:=by omega
   unfold Bi;rw[e,Nat.sub_self,List.replicate_zero,List.append_nil,A1m _ _ _ hn] at hs;rw[hN];exact H4 Ed hk hF (C6x a n _ n) ⟨by simp,C4⟩ (fun y v hd=>hd) hs
 by_cases h0:n=0
 ·refine pbC a n (by and_intros<;>first | trivial | decide | omega | (simp only[decide_eq_false_iff_not];omega)) hs fun ac cY aY hs2=>?_
  rw[Int.toNat_natCast] at hs2;exact key (by rw[<-he,h0];rfl) ac cY aY (hs2.nx _)
 ·obtain ⟨m,rfl⟩:∃m,n=m+1:=⟨n-1,by omega⟩
  have hw:wrap IntKind.i64 (((m+1:Nat):Int)-1)=(m:Int):=by rw[A9 (by omega) (by omega)];omega
  have hT:BF a (m+1)=if a.getD m 0=0 then BF a m else m+1:=rfl
  by_cases hz:a.getD m 0=0
  ·refine pbN a (m+1) (by rw[hw];exact ⟨by simp only[decide_eq_true_eq];omega,by omega,by omega,by rw[Int.toNat_natCast,decide_eq_true hz],C4⟩) hs fun ac cY aY hs2=>?_
   rw[hw] at hs2;exact ih ⟨m,by omega,by rw[<-he,hT,if_pos hz]⟩ (Nat.lt_succ_self m) ac cY aY (hs2.nx _)
  ·refine pbB a (m+1) (by rw[hw];exact ⟨by simp only[decide_eq_true_eq];omega,by omega,by omega,by rw[Int.toNat_natCast,decide_eq_false hz],by omega,rfl,by omega,by omega,C4⟩) hs fun ac cY aY hs2=>?_
   rw[Int.toNat_natCast] at hs2;exact key (by rw[<-he,hT,if_neg hz]) ac cY aY (hs2.nx _)
end S4
namespace S4
theorem XA(x:Fr):0*x=0:=Fin.zero_mul x
theorem Xy(x:Fr):x+0=x:=Fin.add_zero x
def cf(l:List Fr)(i:Nat):Fr:=l.getD i 0
theorem B2e{l:List Fr}{i:Nat}(h:l.length<=i):cf l i=0:=by simp [cf,List.getD,h]
theorem Rq(l:List Fr):∀n i,BF l n<=i->i<n->cf l i=0
 | 0,i,_,h=>by omega
 | n+1,i,h1,h2=>by
  have e:BF l (n+1)=if l.getD n 0=0 then BF l n else n+1:=rfl
  rw[e] at h1;split at h1
  ·rename_i hz
   by_cases hi:i=n
   ·subst hi;exact hz
   ·exact Rq l n i h1 (by omega)
  ·omega
theorem Uk(l:List Fr)(i:Nat)(h:BF l l.length<=i):cf l i=0:=by
 by_cases hi:i<l.length
 ·exact Rq l _ i h hi
 ·exact B2e (by omega)
theorem C2w(l:List Fr)(k i:Nat):cf (l.take k) i=if i<k then cf l i else 0:=by
 unfold cf;by_cases h:i<k
 ·simp [List.getD,h]
 ·simp [List.getD,List.getElem?_take,h]
theorem C9j(l:List Fr)(i:Nat):cf (Bi l) i=cf l i:=by
 unfold Bi;rw[C2w];split
 ·rfl
 ·rw[Uk l i (by omega)]
theorem C9k(l:List Fr):(Bi l).length<=l.length:=by rw[MB];exact Ro _ _
def evF(f g:Nat->Fr):Nat->Fr
 | 0=>0
 | n+1=>evF f g n+f n*g n
theorem ON(f g:Nat->Fr){m:Nat}(h:∀i,m<=i->f i=0):∀n,m<=n->evF f g n=evF f g m
 | 0,hn=>by rw[Nat.le_zero.1 hn]
 | n+1,hn=>by
  by_cases e:m=n+1
  ·rw[e]
  ·show evF f g n+f n*g n=_
   rw[h n (by omega),XA,Xy]
   exact ON f g h n (by omega)
end S4
namespace S4
theorem A2r{x:C0}{q:Sq}(hq:q.n=0){v:Value}(h:B8 x (.v (.c (.val (.slice none 0 0)))) v):B8 x (.v (.c (.sl q))) v:=by
 have e:=(U0 h).1;subst e;exact ⟨rfl,1,.inl ⟨none,0,rfl,hq⟩⟩
def hA:D6:=gL
theorem D8t:A7 Tryz.prog hA:=Ed
def B3z:B2
 | [.v (.c (.sl (.fr a)))]=>some ([a.length<=8796093022208],.v (.c (.slc 0 0 a.length 4)),[.sq (.s (a.map E8))])
 | [.v (.c (.val (.slice none 0 0)))]=>some ([],.v (.c (.slc 0 0 0 4)),[.sq (.s [])])
 | _=>none
def hB:D6:=hA.set (E0 hA.fn 88 B3z)
theorem D8u:A7 Tryz.prog hB:=A8 D8t 88 B3z (A2 Tryz.func88 rfl rfl) fun args o r es h ho=>by
 unfold B3z at h;split at h
 ·cases h;exact B4b _ ho.1
 ·cases h
  refine (B4b [] A4).conv (fun x vs hd=>?_) (fun _ _ h=>h)
  cases hd with | cons ha hd=>
  cases hd
  exact .cons (A2r rfl ha) .nil
 ·cases h
def Of:B2
 | [.v (.c (.sl (.s a)))]=>some ([a.length<=8796093022208],.v (.c (.slc 0 0 (Bi a).length 4)),[.sq (.fr ((Bi a).map E6))])
 | _=>none
def hC:D6:=hB.set (E0 hB.fn 87 Of)
theorem D0e:A7 Tryz.prog hC:=A8 D8u 87 Of (A2 Tryz.func87 rfl rfl) fun args o r es h ho=>by
 unfold Of at h;split at h
 ·cases h;exact B1q _ ho.1
 ·cases h
theorem E1e(a:List U4):let b:=List.map S4.E8 a;C2 hC Tryz.f56 3000 [.v (.c (.sl (.fr a)))] [] [64] []=(some ([(a.length<=8796093022208),(0=0),(a.length=b.length),(4=4),(b.length<=8796093022208)],((.ci (.slc 0 0 (S4.Bi b).length 4)),[(.sq (.fr (List.map S4.E6 (S4.Bi b))))]))):=by intros;kernel_rfl
end S4
namespace S4
theorem C1l(a:List U4)(h:a.length<=8796093022208):K2 Tryz.prog 56 [.v (.c (.sl (.fr a)))] (.v (.c (.slc 0 0 (Bi (a.map E8)).length 4))) [.sq (.fr ((Bi (a.map E8)).map E6))]:=
 A6 D0e Tryz.func56 (E1e a) ⟨h,rfl,by simp,rfl,by simpa using h,C4⟩
end S4
namespace S4
section
variable {w0:World} {F0:Nat->Prop} {K:Kp} {ac:List Act} {Q:Exit->Act->World->Prop} {cX:C0} {aX:Act}
theorem D6o(n:Int):let b:Int:=18446744073709551616;let d:=0<=(0:Int);C2 gL Tryz.f30 3000 [.v (.c (.int .u64 n))] [] [] []=(some ([(0<=n),(n<b),d,(0<b),d,(0<b),d,(0<b)],((.v (.a [(.ob (.s (S4.E8 (Fin.ofNat B4 ((n).toNat+0)))))])),[]))):=by intros;kernel_rfl
theorem E0w  : C2 gL Tryz.f26 3000 [] [] [] []=(some ([(0<=(4046931900703378731:Int)),((4046931900703378731:Int)<(18446744073709551616:Int)),(0<=(13129826145616953529:Int)),((13129826145616953529:Int)<(18446744073709551616:Int)),(0<=(15031722638446171060:Int)),((15031722638446171060:Int)<(18446744073709551616:Int)),(0<=(1631043718794977056:Int)),((1631043718794977056:Int)<(18446744073709551616:Int))],((.v (.a [(.ob (.s (S4.E8 (Fin.ofNat B4 10238227357739495823651030575849232062558860180284477541189508159991286009131))))])),[]))):=by kernel_rfl
def LZ:B2
 | [.v (.c (.int .u64 n))]=>some ([0<=n,n<18446744073709551616],.v (.a [.ob (.s (Fin.ofNat rN n.toNat))]),[])
 | _=>none
def Hi:Fr:=Fin.ofNat rN 10238227357739495823651030575849232062558860180284477541189508159991286009131
def QQ:B2
 | []=>some ([],.v (.a [.ob (.s Hi)]),[])
 | _=>none
theorem Tf{n:Nat}(h:n<B4):E8 (Fin.ofNat B4 n)=Fin.ofNat rN n:=by
 apply Fin.ext
 show (n % B4) % rN=n % rN;rw[Nat.mod_eq_of_lt h]
def dA1:D6:=gL.set (E0 gL.fn 30 LZ)
theorem D1h:A7 Tryz.prog dA1:=A8 Ed 30 LZ (A2 Tryz.func30 rfl rfl) fun args o r es h ho=>by
 unfold LZ at h;split at h
 ·rename_i n
  cases h
  obtain ⟨h1,h2,_⟩:=ho;refine (A6 Ed Tryz.func30 (D6o n) ⟨h1,h2,A4,A4,A4,A4,A4,A4,C4⟩).conv (fun _ _ h=>h) fun y v hd=>?_
  rw[Nat.add_zero,Tf (by unfold B4;omega)] at hd
  exact hd
 ·cases h
def dA:D6:=dA1.set (E0 dA1.fn 26 QQ)
theorem SG:A7 Tryz.prog dA:=A8 D1h 26 QQ (A2 Tryz.func26 rfl rfl) fun args o r es h _=>by
 unfold QQ at h;split at h
 ·cases h
  refine (A6 Ed Tryz.func26 E0w ⟨A4,A4,A4,A4,A4,A4,A4,A4,C4⟩).conv (fun _ _ h=>h) fun y v hd=>?_
  rw[Tf (by decide)] at hd
  exact hd
 ·cases h
def nw0(log:Int):G5:=⟨[.code (B5 Tryz.f8)],.normal,D2 Tryz.f8.ntmps [.v (.c (.int .i64 log))]⟩
theorem C6d(log:Int):E2 dA Tryz.f8 false 3000 (nw0 log) [true] [] []=(some ([((decide (log<(0:Int)))=true)],((.t [(.a [(.int .i64 0),(.ob (.fr (0:U4)))]),(.c (.int .i64 40))]),[]))):=by kernel_rfl
theorem C6e(log:Int):E2 dA Tryz.f8 false 3000 (nw0 log) [false,true] [] []=(some ([((decide (log<(0:Int)))=false),((decide (log > (16:Int)))=true)],((.t [(.a [(.int .i64 0),(.ob (.fr (0:U4)))]),(.c (.int .i64 40))]),[]))):=by kernel_rfl
def LA:List KI:=(run dA false 3000 (nw0 dF:G5) [false,false]).cfg.k
theorem E4b(log:Int):let a:=(nw0 log:G5);(A5 [((decide (log<(0:Int)))=false),((decide (log > (16:Int)))=false)])->(Sim w0 F0 K ac (a.σ) cX aX)->(∀ac cY aY,Sim w0 F0 K ac (B0 25 [0,2,4,14,15] [.ii log,.pt 16 0,.pt 160 0,(.ii (wrap .i64 ((32:Int)-log))),.ii 0] [16,160] [(B9 [(.int .i64 0),(.ob (.fr (0:U4)))]),(B9 [(.ob (.s S4.Hi))])] 240 [] []) cY aY->Wq Tryz.prog Q (LA) ac Exit.normal aY cY.w)->Wq Tryz.prog Q (a.k) ac a.x aX cX.w:=fun ho hs hK=>
 DN (unroll:=false) (n:=3000) (path:=[false,false]) (o:=⟨_,_,_,_,_,_,_⟩) SG (by kernel_rfl) (by kernel_rfl) ho hs hK
def nwS(log :Int)(m :Int)(i:Nat)(w:Fr):St:=B0 25 [0,2,4,14,15] [.ii log,.pt 16 0,.pt 160 0,.v (.c (.int .i64 m)),.v (.c (.int .i64 (i:Int)))] [16,160] [(B9 [(.int .i64 0),(.ob (.fr (0:U4)))]),some (.fl [.ob (.s w)])] 240 [] []
theorem C6f(log m:Int)(i:Nat)(w:Fr):E2 dA Tryz.f8 false 3000 (⟨B7 LA,.normal,nwS log m i w⟩) [false] [] []=(some ([((decide ((i:Int)<m))=false)],((.t [(.a [(.int .i64 log),(.ob (.fr (S4.E6 w)))]),(.c (.int .i64 0))]),[]))):=by kernel_rfl
theorem nwN(log m:Int)(i:Nat)(w:Fr):A5 [((decide ((i:Int)<m))=true)]->Sg Tryz.prog (nwS log m i w) (B0 25 [0,2,4,14,15] [.ii log,.pt 16 0,.pt 160 0,.ii m,(.ii (wrap .i64 ((i:Int)+1)))] [16,160] [(B9 [(.int .i64 0),(.ob (.fr (0:U4)))]),(B9 [(.ob (.s (w*w)))])] 352 [] []) .normal (D4 LA) (B7 LA):=E4 false 3000 [true] SG
end
end S4
namespace S4
def sqN(w:Fr):Nat->Fr
 | 0=>w
 | n+1=>sqN w n*sqN w n
def O6(log:Int):Bool:=decide (0<=log) && decide (log<=16)
def I4(log:Int):U4:=if O6 log then E6 (sqN Hi (32-log).toNat) else 0
def A9a(log:Int):SV:=.t [.a [.int .i64 (if O6 log then log else 0),.ob (.fr (I4 log))],.c (.int .i64 (if O6 log then 0 else 40))]
theorem A4y(log:Int):K2 Tryz.prog 8 [.v (.c (.int .i64 log))] (A9a log) []:=by
 refine H2 (fn:=Tryz.f8) (c:=B5 Tryz.f8) Tryz.func8 rfl rfl fun x a hk hF hs=>?_
 by_cases h1:log<0
 ·have hn:O6 log=false:=by simp [O6];omega
  refine O4 SG hk hF (C6d log) (by simp [A5];omega) (fun y v hd=>?_) hs
  unfold A9a I4;rw[hn];exact hd
 by_cases h2:log > 16
 ·have hn:O6 log=false:=by simp [O6];omega
  refine O4 SG hk hF (C6e log) (by simp [A5];omega) (fun y v hd=>?_) hs
  unfold A9a I4;rw[hn];exact hd
 have hn:O6 log=true:=by simp [O6];omega
 have hw:wrap IntKind.i64 ((32:Int)-log)=32-log:=A9 (by omega) (by omega)
 refine E4b log (by simp [A5];omega) hs fun ac cY aY hs1=>?_
 rw[hw] at hs1;refine C5 (ι:={ i:Nat // (i:Int)<=32-log }) (fun i=>nwS log (32-log) i.1 (sqN Hi i.1)) (fun i=>32-i.1) (c:=X5 LA) (k:=X8 LA) (by kernel_rfl) (fun i ih ac cY aY hs=>?_) ⟨0,by omega⟩ hs1
 obtain ⟨i,hi⟩:=i;simp only at ih hs
 by_cases h5:(i:Int)<32-log
 ·refine nwN log (32-log) i (sqN Hi i) (by simp [A5];omega) hs fun ac cY aY hs2=>?_
  rw[A9 (by omega) (by omega)] at hs2
  exact ih ⟨i+1,by omega⟩ (by show 32-(i+1)<32-i;omega) ac cY aY (hs2.nx _)
 ·refine H4 SG hk hF (C6f log (32-log) i (sqN Hi i)) (by simp [A5];omega) (fun y v hd=>?_) hs
  have e:(32-log).toNat=i:=by omega
  unfold A9a I4;rw[hn,e];exact hd
end S4
namespace S4
section
variable {w0:World} {F0:Nat->Prop} {K:Kp} {ac:List Act} {Q:Exit->Act->World->Prop} {cX:C0} {aX:Act}
def Qj:B2
 | [.v (.c (.int .i64 n))]=>some ([],A9a n,[])
 | _=>none
def dB:D6:=dA.set (E0 dA.fn 8 Qj)
theorem IP:A7 Tryz.prog dB:=A8 SG 8 Qj (A2 Tryz.func8 rfl rfl) fun args o r es h _=>by
 unfold Qj at h;split at h
 ·cases h;exact A4y _
 ·cases h
theorem rgA(log:Int)(w:U4):let c:=(S4.O6 log)=true;let b:=Bool.and ((ite c log (0:Int)) == log) (decide ((S4.I4 log)=w));C2 dB Tryz.f29 3000 [.v (.a [.int .i64 log,.ob (.fr w)])] [true] [] []=(some ([(((ite c (0:Int) (40:Int)) == (0:Int))=true)],((.ci (.bool (ite (true=true) b (Bool.not b)))),[]))):=by intros;kernel_rfl
theorem rgB(log:Int)(w:U4):C2 dB Tryz.f29 3000 [.v (.a [.int .i64 log,.ob (.fr w)])] [false] [] []=(some ([(((ite ((S4.O6 log)=true) (0:Int) (40:Int)) == (0:Int))=false)],((.ci (.lit false)),[]))):=by kernel_rfl
def ps0(w:Fr)(n:Int):G5:=⟨[.code (B5 Tryz.f86)],.normal,D2 Tryz.f86.ntmps [.v (.a [.ob (.s w)]),.v (.c (.int .i64 n))]⟩
def ot0(l:List Fr):G5:=⟨[.code (B5 Tryz.f54)],.normal,D2 Tryz.f54.ntmps [.v (.c (.sl (.s l)))]⟩
def LQ:List KI:=(run dB false 3000 (ps0 dF dF:G5) []).cfg.k
theorem E5t(w:Fr)(n:Int):let a:=(ps0 w n:G5);(A5 [(0<=n),(n=n),(((32:Int)*n)<=(281474976710656:Int)),(n<=(9223372036854775807:Int)),(0<=(1:Int)),((1:Int)<(18446744073709551616:Int))])->(Sim w0 F0 K ac (a.σ) cX aX)->(∀ac cY aY,Sim w0 F0 K ac (B0 25 [2,5,6,12,13] [.pt 16 0,(.ci (.slc 64 0 (n).toNat 4)),.pt 112 0,(.ii (((n).toNat:Nat):Int)),.ii 0] [16,64,112] [(B9 [.ob (.s w)]),(D9 (.s (List.replicate (n).toNat 0))),(B9 [(.ob (.s (Fin.ofNat rN 1)))])] 192 [] []) cY aY->Wq Tryz.prog Q (LQ) ac Exit.normal aY cY.w)->Wq Tryz.prog Q (a.k) ac a.x aX cX.w:=fun ho hs hK=>
 DN (unroll:=false) (n:=3000) (path:=[]) (o:=⟨_,_,_,_,_,_,_⟩) IP (by kernel_rfl) (by kernel_rfl) ho hs hK
def LH:List KI:=(run dB false 3000 (ot0 dF:G5) []).cfg.k
theorem E4u(l:List Fr):let a:Int:=l.length;let b:=(ot0 l:G5);(A5 [(0<=a),(a=a),(((32:Int)*a)<=(281474976710656:Int)),(a<=(9223372036854775807:Int))])->(Sim w0 F0 K ac (b.σ) cX aX)->(∀ac cY aY,Sim w0 F0 K ac (B0 23 [3,9,10,11] [(.ci (.slc 64 0 (a).toNat 4)),(.ci (.sl (.s l))),(.ii a),.ii 0] [64] [(D9 (.fr (List.replicate (a).toNat 0)))] 144 [] []) cY aY->Wq Tryz.prog Q (LH) ac Exit.normal aY cY.w)->Wq Tryz.prog Q (b.k) ac b.x aX cX.w:=fun ho hs hK=>
 DN (unroll:=false) (n:=3000) (path:=[]) (o:=⟨_,_,_,_,_,_,_⟩) IP (by kernel_rfl) (by kernel_rfl) ho hs hK
def psS(w:Fr)(N:Nat)(L:List Fr)(x:Fr)(i:Nat):St:=B0 25 [2,5,6,12,13] [.pt 16 0,.v (.c (.slc 64 0 N 4)),.pt 112 0,.v (.c (.int .i64 (N:Int))),.v (.c (.int .i64 (i:Int)))] [16,64,112] [(B9 [.ob (.s w)]),some (.sq (.s L)),some (.fl [.ob (.s x)])] 192 [] []
theorem psN(w:Fr)(N:Nat)(L:List Fr)(x:Fr)(i:Nat):let a:Int:=i;let b:Int:=(N:Nat);A5 [((decide (a<b))=true),(0<=a),(a<b),(0=0),((a).toNat<L.length)]->Sg Tryz.prog (psS w N L x i) (B0 25 [2,5,6,12,13] [.pt 16 0,(.ci (.slc 64 0 N 4)),.pt 112 0,(.ii b),(.ii (wrap .i64 (a+1)))] [16,64,112] [(B9 [.ob (.s w)]),(D9 (.s (List.set L (a).toNat x))),(B9 [(.ob (.s (x*w)))])] 416 [] []) .normal (D4 LQ) (B7 LQ):=E4 false 3000 [true] IP
theorem C7d(w:Fr)(N:Nat)(L:List Fr)(x:Fr)(i:Nat):E2 dB Tryz.f86 false 3000 (⟨B7 LQ,.normal,psS w N L x i⟩) [false] [64] []=(some ([((decide ((i:Int)<((N:Nat):Int)))=false)],((.ci (.slc 0 0 N 4)),[(.sq (.s L))]))):=by kernel_rfl
def otS(l:List Fr)(N:Nat)(L:List U4)(i:Nat):St:=B0 23 [3,9,10,11] [.v (.c (.slc 64 0 N 4)),(.ci (.sl (.s l))),.v (.c (.int .i64 (N:Int))),.v (.c (.int .i64 (i:Int)))] [64] [some (.sq (.fr L))] 144 [] []
theorem otN(l:List Fr)(N:Nat)(L:List U4)(i:Nat):let a:Int:=i;let b:Int:=(N:Nat);A5 [((decide (a<b))=true),(0<=a),(a<(l.length:Int)),(0<=a),(a<b),(0=0),((a).toNat<L.length)]->Sg Tryz.prog (otS l N L i) (B0 23 [3,9,10,11] [(.ci (.slc 64 0 N 4)),(.ci (.sl (.s l))),(.ii b),(.ii (wrap .i64 (a+1)))] [64] [(D9 (.fr (List.set L (a).toNat (S4.E6 (List.getD l (a).toNat 0)))))] 384 [] []) .normal (D4 LH) (B7 LH):=E4 false 3000 [true] IP
theorem C6q(l:List Fr)(N:Nat)(L:List U4)(i:Nat):E2 dB Tryz.f54 false 3000 (⟨B7 LH,.normal,otS l N L i⟩) [false] [64] []=(some ([((decide ((i:Int)<((N:Nat):Int)))=false)],((.ci (.slc 0 0 N 4)),[(.sq (.fr L))]))):=by kernel_rfl
end
end S4
namespace S4
def G3(x:Fr):Nat->Fr
 | 0=>1
 | n+1=>G3 x n*x
theorem JQ(x:Fr)(m:Nat):∀n,G3 x (m+n)=G3 x m*G3 x n
 | 0=>(Fin.mul_one _).symm
 | n+1=>by
  show G3 x (m+n)*x=G3 x m*(G3 x n*x);rw[JQ x m n,Fin.mul_assoc]
def G7(log:Int)(w:U4):Bool:=O6 log && decide (I4 log=w)
theorem YB(log:Int)(w:U4):K2 Tryz.prog 29 [.v (.a [.int .i64 log,.ob (.fr w)])] (.v (.c (.bool (G7 log w)))) []:=by
 cases h:O6 log with
 | true=>
  refine (A6 IP Tryz.func29 (rgA log w) (by rw[h];exact ⟨rfl,C4⟩)).conv (fun _ _ h=>h) fun y v hd=>?_
  rw[h,if_pos rfl,if_pos rfl,beq_self_eq_true,Bool.true_and] at hd;unfold G7;rw[h,Bool.true_and];exact hd
 | false=>
  refine (A6 IP Tryz.func29 (rgB log w) (by rw[h];exact ⟨rfl,C4⟩)).conv (fun _ _ h=>h) fun y v hd=>?_
  unfold G7;rw[h,Bool.false_and];exact V0 rfl hd
def EL(w:Fr)(n:Nat):List Fr:=(List.range n).map (G3 w)
theorem Ic(w:Fr)(n:Nat)(hn:n<=8796093022208):K2 Tryz.prog 86 [.v (.a [.ob (.s w)]),.v (.c (.int .i64 (n:Int)))] (.v (.c (.slc 0 0 n 4))) [.sq (.s (EL w n))]:=by
 refine H2 (fn:=Tryz.f86) (c:=B5 Tryz.f86) Tryz.func86 rfl rfl fun x a hk hF hs=>?_
 refine E5t w n (by and_intros<;>first | trivial | decide | omega) hs fun ac cY aY hs1=>?_
 rw[Int.toNat_natCast] at hs1;refine C5 (ι:={ i:Nat // i<=n }) (fun i=>psS w n ((List.range i.1).map (G3 w)++List.replicate (n-i.1) 0) (G3 w i.1) i.1) (fun i=>n-i.1) (c:=X5 LQ) (k:=X8 LQ) (by kernel_rfl) (fun i ih ac cY aY hs=>?_) ⟨0,Nat.zero_le _⟩ hs1
 obtain ⟨i,hi⟩:=i;simp only at ih hs
 have hl:=Ea (G3 w) 0 hi;by_cases h:i<n
 ·refine psN w n _ _ i ⟨by simp [h],by omega,by omega,rfl,by rw[hl];omega,C4⟩ hs fun ac cY aY hs2=>?_
  rw[Int.toNat_natCast,Eb _ _ h,A9 (by omega) (by omega)] at hs2
  exact ih ⟨i+1,by omega⟩ (by show n-(i+1)<n-i;omega) ac cY aY (hs2.nx _)
 ·obtain rfl:i=n:=by omega
  rw[Nat.sub_self,List.replicate_zero,List.append_nil] at hs;exact H4 IP hk hF (C7d w i _ _ i) ⟨by simp,C4⟩ (fun y v hd=>hd) hs
theorem A9h(l:List Fr)(hl0:l.length<=8796093022208):K2 Tryz.prog 54 [.v (.c (.sl (.s l)))] (.v (.c (.slc 0 0 l.length 4))) [.sq (.fr (l.map E6))]:=by
 refine H2 (fn:=Tryz.f54) (c:=B5 Tryz.f54) Tryz.func54 rfl rfl fun x a hk hF hs=>?_
 refine E4u l (by and_intros<;>first | trivial | decide | omega) hs fun ac cY aY hs1=>?_
 rw[Int.toNat_natCast] at hs1;refine C5 (ι:={ i:Nat // i<=l.length }) (fun i=>otS l l.length ((List.range i.1).map (fun i=>E6 (l.getD i 0))++List.replicate (l.length-i.1) 0) i.1) (fun i=>l.length-i.1) (c:=X5 LH) (k:=X8 LH) (by kernel_rfl) (fun i ih ac cY aY hs=>?_) ⟨0,Nat.zero_le _⟩ hs1
 obtain ⟨i,hi⟩:=i;simp only at ih hs
 have hl:=Ea (fun i=>E6 (l.getD i 0)) 0 hi
 by_cases h:i<l.length
 ·refine otN l l.length _ i ⟨by simp [h],by omega,by omega,by omega,by omega,rfl,by rw[hl];omega,C4⟩ hs fun ac cY aY hs2=>?_
  rw[Int.toNat_natCast,Eb (fun i=>E6 (l.getD i 0)) _ h,A9 (by omega) (by omega)] at hs2
  exact ih ⟨i+1,by omega⟩ (by show l.length-(i+1)<l.length-i;omega) ac cY aY (hs2.nx _)
 ·have e:i=l.length:=by omega
  rw[e,Nat.sub_self,List.replicate_zero,List.append_nil,Ik] at hs;exact H4 IP hk hF (C6q l l.length _ l.length) ⟨by simp,C4⟩ (fun y v hd=>hd) hs
theorem E6m(k:Nat)(h:k<=30):wrap IntKind.i64 ((1:Int)*((2:Int) ^ (Min.min ((wrap IntKind.u64 (k:Int))).toNat 64)))=((2 ^ k:Nat):Int)∧2 ^ k<=1073741824:=by
 have h2:(2:Nat) ^ k<=2 ^ 30:=Nat.pow_le_pow_right A4 h;have h3:(2:Nat) ^ 30=1073741824:=by decide
 rw[Av (by omega) (by omega),Int.toNat_natCast,Nat.min_eq_left (by omega),Int.one_mul]
 have e:((2:Int) ^ k)=((2 ^ k:Nat):Int):=by simp
 rw[e];generalize 2 ^ k=m at h2;rw[A9 (by omega) (by omega)]
 exact ⟨rfl,by omega⟩
theorem Z3(x:Fr):E8 (E6 x)=x:=by
 apply Fin.ext
 show (E6 x).val % rN=x.val;rw[JJ,Nat.mod_eq_of_lt x.isLt]
end S4
namespace S4
def OF:B2
 | [.v (.a [.int .i64 log,.ob (.fr w)])]=>some ([],.v (.c (.bool (G7 log w))),[])
 | _=>none
def dC1:D6:=dB.set (E0 dB.fn 29 OF)
theorem D1i:A7 Tryz.prog dC1:=A8 IP 29 OF (A2 Tryz.func29 rfl rfl) fun args o r es h _=>by
 unfold OF at h;split at h
 ·cases h;exact YB _ _
 ·cases h
def Z6:B2
 | [.v (.a [.ob (.s w)]),.v (.c (.int .i64 n))]=>some ([0<=n,n<=8796093022208],.v (.c (.slc 0 0 n.toNat 4)),[.sq (.s (EL w n.toNat))])
 | _=>none
def LI:B2
 | [.v (.c (.sl (.s l)))]=>some ([l.length<=8796093022208],.v (.c (.slc 0 0 l.length 4)),[.sq (.fr (l.map E6))])
 | _=>none
def dC2:D6:=dC1.set (E0 dC1.fn 86 Z6)
theorem D1j:A7 Tryz.prog dC2:=A8 D1i 86 Z6 (A2 Tryz.func86 rfl rfl) fun args o r es h ho=>by
 unfold Z6 at h;split at h
 ·rename_i w n
  cases h
  obtain ⟨h0,h1,_⟩:=ho;obtain ⟨m,rfl⟩:=Int.eq_ofNat_of_zero_le h0;exact Ic w m (by omega)
 ·cases h
def dC:D6:=dC2.set (E0 dC2.fn 54 LI)
theorem Xb:A7 Tryz.prog dC:=A8 D1j 54 LI (A2 Tryz.func54 rfl rfl) fun args o r es h ho=>by
 unfold LI at h;split at h
 ·cases h;exact A9h _ ho.1
 ·cases h
theorem elA(log:Int)(w:U4):C2 dC Tryz.f83 3000 [.v (.a [.int .i64 log,.ob (.fr w)])] [true] [] []=(some ([((Bool.not (S4.G7 log w))=true)],((.t [(.c (.val (Value.slice Option.none 0 0))),(.c (.int .i64 40))]),[]))):=by kernel_rfl
theorem elB(log:Int)(w:U4):let b:=wrap .i64 ((1:Int)*((2:Int) ^ (Min.min (log).toNat 64)));let d:=S4.EL (S4.E8 w) (b).toNat;C2 dC Tryz.f83 3000 [.v (.a [.int .i64 log,.ob (.fr w)])] [false] [224] []=(some ([((Bool.not (S4.G7 log w))=false),(0<=log),(0<=b),(b<=(8796093022208:Int)),(0=0),((b).toNat=d.length),(4=4),(d.length<=8796093022208)],((.t [(.c (.slc 0 0 d.length 4)),(.c (.int .i64 0))]),[(.sq (.fr (List.map S4.E6 d)))]))):=by intros;kernel_rfl
def DW(log:Int)(w:U4):List U4:=if G7 log w then (EL (E8 w) (2 ^ log.toNat)).map E6 else []
theorem V7{log:Int}{w:U4}(h:G7 log w=true):0<=log∧log<=16∧w=E6 (sqN Hi (32-log).toNat):=by
 simp only[G7,Bool.and_eq_true,decide_eq_true_eq] at h;obtain ⟨h1,h2⟩:=h;have h3:=h1;simp only[O6,Bool.and_eq_true,decide_eq_true_eq] at h1;refine ⟨h1.1,h1.2,?_⟩
 rw[<-h2];unfold I4;rw[if_pos h3]
theorem D6i{log:Int}(h0:0<=log)(h1:log<=30):wrap IntKind.i64 ((1:Int)*((2:Int) ^ (Min.min (log).toNat 64)))=((2 ^ log.toNat:Nat):Int)∧2 ^ log.toNat<=1073741824:=by
 obtain ⟨k,rfl⟩:=Int.eq_ofNat_of_zero_le h0;have h:=E6m k (by omega)
 rw[Av (by omega) (by omega)] at h
 exact h
theorem FV(w:Fr)(n:Nat):(EL w n).length=n:=by simp [EL]
theorem A7s(log:Int)(w:U4):K2 Tryz.prog 83 [.v (.a [.int .i64 log,.ob (.fr w)])] (.t [.c (.slc 0 0 (DW log w).length 4),.c (.int .i64 (if G7 log w then 0 else 40))]) [.sq (.fr (DW log w))]:=by
 cases h:G7 log w with
 | false=>
  have e:DW log w=[]:=by unfold DW;rw[h];rfl
  rw[e];exact (A6 Xb Tryz.func83 (elA log w) ⟨by rw[h];rfl,C4⟩).nil2 rfl
 | true=>
  obtain ⟨h0,h1,_⟩:=V7 h;obtain ⟨e1,e2⟩:=D6i h0 (by omega)
  have e:DW log w=(EL (E8 w) (2 ^ log.toNat)).map E6:=by unfold DW;rw[h];rfl
  have r:=elB log w;dsimp only at r;rw[e1,Int.toNat_natCast,FV] at r;rw[e,List.length_map,FV];generalize hm:2 ^ log.toNat=m at r e2;exact A6 Xb Tryz.func83 r ⟨by rw[h];rfl,h0,by omega,by omega,rfl,rfl,rfl,by omega,C4⟩
end S4
namespace S4
theorem Xz(x:Fr):x*0=0:=Fin.mul_zero x
theorem Hw(x:Fr):x*1=x:=Fin.mul_one x
end S4
namespace S4
def swp(m s x:Int):Int:=E1 .or .u64 (E1 .and .u64 (Int.fdiv x s) m) (wrap .u64 ((E1 .and .u64 x m)*s))
def B9z(x:Int):Int:=E1 .or .u64 (Int.fdiv (swp 281470681808895 65536 (swp 71777214294589695 256 x)) 4294967296) (wrap .u64 (swp 281470681808895 65536 (swp 71777214294589695 256 x)*4294967296))
def A1s(x:Int):Int:=B9z (swp 1085102592571150095 16 (swp 3689348814741910323 4 (swp 6148914691236517205 2 x)))
def DO(m:BitVec 64)(s:Nat)(x:BitVec 64):BitVec 64:=((x >>> s) &&& m) ||| ((x &&& m) <<< s)
theorem B1l(x y:BitVec 64):E1 .and .u64 (x.toNat:Int) (y.toNat:Int)=((x &&& y).toNat:Int):=by
 show wrap IntKind.u64 ((BitVec.ofInt 64 (x.toNat:Int) &&& BitVec.ofInt 64 (y.toNat:Int)).toNat:Int)=_;rw[BitVec.ofInt_natCast,BitVec.ofInt_natCast,BitVec.ofNat_toNat,BitVec.ofNat_toNat];exact Av (by omega) (by have:=(BitVec.setWidth 64 x &&& BitVec.setWidth 64 y).isLt;omega) |>.trans (by simp)
theorem D0l(x y:BitVec 64):E1 .or .u64 (x.toNat:Int) (y.toNat:Int)=((x ||| y).toNat:Int):=by
 show wrap IntKind.u64 ((BitVec.ofInt 64 (x.toNat:Int) ||| BitVec.ofInt 64 (y.toNat:Int)).toNat:Int)=_
 rw[BitVec.ofInt_natCast,BitVec.ofInt_natCast,BitVec.ofNat_toNat,BitVec.ofNat_toNat];exact Av (by omega) (by have:=(BitVec.setWidth 64 x ||| BitVec.setWidth 64 y).isLt;omega) |>.trans (by simp)
theorem A1x(x:BitVec 64)(s:Nat):Int.fdiv (x.toNat:Int) ((2 ^ s:Nat):Int)=((x >>> s).toNat:Int):=by
 rw[BitVec.toNat_ushiftRight,Nat.shiftRight_eq_div_pow,Int.fdiv_eq_ediv_of_nonneg _ (Int.natCast_nonneg _)];exact (Int.natCast_ediv _ _).symm
theorem C0d(x:BitVec 64)(s:Nat):wrap IntKind.u64 ((x.toNat:Int)*((2 ^ s:Nat):Int))=((x <<< s).toNat:Int):=by
 rw[BitVec.toNat_shiftLeft,Nat.shiftLeft_eq,Kz,<-Int.natCast_mul];omega
theorem Rb(m:BitVec 64)(s:Nat)(x:BitVec 64):swp (m.toNat:Int) ((2 ^ s:Nat):Int) (x.toNat:Int)=((DO m s x).toNat:Int):=by
 unfold swp DO;rw[A1x,B1l,B1l,C0d,D0l]
def Wy(x:BitVec 64):BitVec 64:=(x >>> 32) ||| (x <<< 32)
def B9s(x:BitVec 64):BitVec 64:=Wy (DO 281470681808895#64 16 (DO 71777214294589695#64 8 (DO 1085102592571150095#64 4 (DO 3689348814741910323#64 2 (DO 6148914691236517205#64 1 x)))))
theorem C8f(x:BitVec 64):A1s (x.toNat:Int)=((B9s x).toNat:Int):=by
 unfold A1s B9z B9s Wy;have h1:=Rb 6148914691236517205#64 1 x;have h2:=Rb 3689348814741910323#64 2 (DO 6148914691236517205#64 1 x);have h3:=Rb 1085102592571150095#64 4 (DO 3689348814741910323#64 2 (DO 6148914691236517205#64 1 x));have h4:=Rb 71777214294589695#64 8 (DO 1085102592571150095#64 4 (DO 3689348814741910323#64 2 (DO 6148914691236517205#64 1 x)));have h5:=Rb 281470681808895#64 16 (DO 71777214294589695#64 8 (DO 1085102592571150095#64 4 (DO 3689348814741910323#64 2 (DO 6148914691236517205#64 1 x))));have h1:swp 6148914691236517205 2 (x.toNat:Int)=_:=h1;rw[h1];have h2:swp 3689348814741910323 4 ((DO 6148914691236517205#64 1 x).toNat:Int)=_:=h2;rw[h2];have h3:swp 1085102592571150095 16 _=_:=h3;rw[h3];have h4:swp 71777214294589695 256 _=_:=h4;rw[h4];have h5:swp 281470681808895 65536 _=_:=h5;rw[h5];generalize DO 281470681808895#64 16 _=y;have g1:Int.fdiv (y.toNat:Int) 4294967296=_:=A1x y 32;have g2:wrap .u64 ((y.toNat:Int)*4294967296)=_:=C0d y 32;rw[g1,g2,D0l]
theorem Gl(m:BitVec 64)(s:Nat)(p:Nat->Nat)(h:∀i,i<64->(m.getLsbD i=true∧p i=s+i∧(i<s∨m.getLsbD (i-s)=false))∨(m.getLsbD i=false∧s<=i∧m.getLsbD (i-s)=true∧p i=i-s))(x:BitVec 64){i:Nat}(hi:i<64) :
  (DO m s x).getLsbD i=x.getLsbD (p i):=by
 unfold DO;rw[BitVec.getLsbD_or,BitVec.getLsbD_and,BitVec.getLsbD_ushiftRight,BitVec.getLsbD_shiftLeft,BitVec.getLsbD_and];rcases h i hi with ⟨h1,h2,h3⟩ | ⟨h1,h2,h3,h4⟩
 ·rw[h1,h2]
  rcases h3 with h3 | h3
  ·simp [h3]
  ·simp [h3]
 ·rw[h1,h3,h4]
  simp [hi,Nat.not_lt.2 h2]
theorem A2h(x:BitVec 64){i:Nat}(hi:i<64):(Wy x).getLsbD i=x.getLsbD (if i<32 then 32+i else i-32):=by
 unfold Wy;rw[BitVec.getLsbD_or,BitVec.getLsbD_ushiftRight,BitVec.getLsbD_shiftLeft];by_cases h:i<32
 ·simp [h]
 ·simp only[h,if_false,hi,decide_true,decide_false,Bool.not_false,Bool.true_and]
  rw[BitVec.getLsbD_of_ge x (32+i) (by omega)]
  simp
def par(s i:Nat):Nat:=if i / s % 2=0 then s+i else i-s
theorem B9t(x:BitVec 64){i:Nat}(hi:i<64):(B9s x).getLsbD i=x.getLsbD (63-i):=by
 unfold B9s;have hp:∀i,i<64->par 1 i<64∧par 2 i<64∧par 4 i<64∧par 8 i<64∧par 16 i<64∧(if i<32 then 32+i else i-32)<64:=by decide
 have he:∀i,i<64->par 1 (par 2 (par 4 (par 8 (par 16 (if i<32 then 32+i else i-32)))))=63-i:=by decide
 rw[A2h _ hi,Gl _ 16 (par 16) A4 _ (hp _ hi).2.2.2.2.2];have h1:=(hp _ (hp _ hi).2.2.2.2.2).2.2.2.2.1;rw[Gl _ 8 (par 8) A4 _ h1];have h2:=(hp _ h1).2.2.2.1;rw[Gl _ 4 (par 4) A4 _ h2];have h3:=(hp _ h2).2.2.1;rw[Gl _ 2 (par 2) A4 _ h3];have h4:=(hp _ h3).2.1;rw[Gl _ 1 (par 1) A4 _ h4,he _ hi]
def brv:Nat->Nat->Nat
 | 0,_=>0
 | m+1,i=>2 ^ m*(i % 2)+brv m (i / 2)
theorem Oi:∀m i,brv m i<2 ^ m
 | 0,_=>by simp [brv]
 | m+1,i=>by
  have:=Oi m (i / 2)
  have h2:i % 2<2:=Nat.mod_lt _ A4;simp only[brv,Nat.pow_succ];rcases (by omega:i % 2=0∨i % 2=1) with h | h<;>rw[h]<;>omega
theorem NB:∀m i k,(brv m i).testBit k=(decide (k<m) && i.testBit (m-1-k))
 | 0,_,k=>by simp [brv]
 | m+1,i,k=>by
  simp only[brv];rw[Nat.testBit_two_pow_mul_add _ (Oi m (i / 2)),NB m (i / 2) k];by_cases h:k<m
  ·simp only[h,if_true,decide_true,Bool.true_and,Nat.add_sub_cancel]
   rw[show decide (k<m+1)=true from by simp;omega,Bool.true_and,show m-k=(m-1-k)+1 from by omega,Nat.testBit_succ]
  ·simp only[h,if_false]
   by_cases h2:k=m
   ·subst h2
    simp [Nat.testBit_zero]
   ·rw[show decide (k<m+1)=false from by simp;omega,Bool.false_and,Nat.testBit_lt_two_pow]
    exact Nat.lt_of_lt_of_le (Nat.mod_lt _ A4) (by have:=Nat.one_lt_two_pow (n:=k-m) (by omega);omega)
theorem A9y{m i:Nat}(hm:0<m)(hm2:m<=16)(hi:i<2 ^ m):wrap .i64 (Int.fdiv (A1s (wrap .u64 (i:Int))) ((2:Int) ^ (Min.min (wrap .i64 ((64:Int)-(m:Int))).toNat 64)))=((brv m i:Nat):Int):=by
 have hp:2 ^ m<=2 ^ 16:=Nat.pow_le_pow_right A4 hm2;have hi64:i<18446744073709551616:=by omega
 rw[Av (by omega) (by omega),A9 (n:=(64:Int)-(m:Int)) (by omega) (by omega)]
 have e1:min (((64:Int)-(m:Int)).toNat) 64=64-m:=by omega
 rw[e1];have e2:(i:Int)=((BitVec.ofNat 64 i).toNat:Int):=by
  rw[BitVec.toNat_ofNat,Nat.mod_eq_of_lt hi64]
 rw[e2,C8f];have e3:((2:Int) ^ (64-m))=((2 ^ (64-m):Nat):Int):=by simp
 rw[e3,A1x];have e4:(B9s (BitVec.ofNat 64 i) >>> (64-m)).toNat=brv m i:=by
  apply Nat.eq_of_testBit_eq
  intro k;rw[NB,BitVec.testBit_toNat,BitVec.getLsbD_ushiftRight];by_cases h:k<m
  ·rw[B9t _ (by omega),show decide (k<m)=true from by simp [h],Bool.true_and,BitVec.getLsbD_ofNat,show 63-(64-m+k)=m-1-k from by omega]
   simp
   omega
  ·rw[BitVec.getLsbD_of_ge _ _ (by omega)]
   simp [h]
 rw[e4];have:=Oi m i
 exact A9 (by omega) (by omega)
end S4
namespace S4
section
variable {w0:World} {F0:Nat->Prop} {K:Kp} {ac:List Act} {Q:Exit->Act->World->Prop} {cX:C0} {aX:Act}
theorem rvb(x:Int):let d:Int:=71777214294589695;let a:=E1 BinOp.or IntKind.u64 (E1 BinOp.and IntKind.u64 (Int.fdiv x (256:Int)) d) (wrap .u64 ((E1 BinOp.and IntKind.u64 x d)*(256:Int)));let f:Int:=281470681808895;let b:=E1 BinOp.or IntKind.u64 (E1 BinOp.and IntKind.u64 (Int.fdiv a (65536:Int)) f) (wrap .u64 ((E1 BinOp.and IntKind.u64 a f)*(65536:Int)));let g:Int:=4294967296;C2 dC Tryz.f113 3000 [.v (.c (.int .u64 x))] [] [] []=(some ([(0<=(8:Int)),(0<=(8:Int)),(0<=(16:Int)),(0<=(16:Int)),(0<=(32:Int)),(0<=(32:Int))],((.iu (E1 BinOp.or IntKind.u64 (Int.fdiv b g) (wrap .u64 (b*g)))),[]))):=by intros;kernel_rfl
theorem C8j(x:Int):K2 Tryz.prog 113 [.v (.c (.int .u64 x))] (.v (.c (.int .u64 (B9z x)))) []:=
 A6 Xb Tryz.func113 (rvb x) ⟨A4,A4,A4,A4,A4,A4,C4⟩
def Wh:B2
 | [.v (.c (.int .u64 x))]=>some ([],.v (.c (.int .u64 (B9z x))),[])
 | _=>none
def dW1:D6:=dC.set (E0 dC.fn 113 Wh)
theorem ZC:A7 Tryz.prog dW1:=A8 Xb 113 Wh (A2 Tryz.func113 rfl rfl) fun args o r es h _=>by
 unfold Wh at h;split at h
 ·cases h;exact C8j _
 ·cases h
theorem rev(x:Int):let d:Int:=6148914691236517205;let f:Int:=3689348814741910323;let g:Int:=1085102592571150095;let h:Int:=2;let a:=E1 BinOp.or IntKind.u64 (E1 BinOp.and IntKind.u64 (Int.fdiv x h) d) (wrap .u64 ((E1 BinOp.and IntKind.u64 x d)*h));let i:Int:=4;let b:=E1 BinOp.or IntKind.u64 (E1 BinOp.and IntKind.u64 (Int.fdiv a i) f) (wrap .u64 ((E1 BinOp.and IntKind.u64 a f)*i));C2 dW1 Tryz.f105 3000 [.v (.c (.int .u64 x))] [] [] []=(some ([(0<=(1:Int)),(0<=(1:Int)),(0<=h),(0<=h),(0<=i),(0<=i)],((.iu (S4.B9z (E1 BinOp.or IntKind.u64 (E1 BinOp.and IntKind.u64 (Int.fdiv b (16:Int)) g) (wrap .u64 ((E1 BinOp.and IntKind.u64 b g)*(16:Int)))))),[]))):=by intros;kernel_rfl
theorem C8g(x:Int):K2 Tryz.prog 105 [.v (.c (.int .u64 x))] (.v (.c (.int .u64 (A1s x)))) []:=
 A6 ZC Tryz.func105 (rev x) ⟨A4,A4,A4,A4,A4,A4,C4⟩
def VY:B2
 | [.v (.c (.int .u64 x))]=>some ([],.v (.c (.int .u64 (A1s x))),[])
 | _=>none
def dW2:D6:=dW1.set (E0 dW1.fn 105 VY)
theorem Hq:A7 Tryz.prog dW2:=A8 ZC 105 VY (A2 Tryz.func105 rfl rfl) fun args o r es h _=>by
 unfold VY at h;split at h
 ·cases h;exact C8g _
 ·cases h
def D1x(T:Nat->Option Func)(f:Nat):Option Func:=if f=85 then some Tryz.f85 else T f
def dW:D6:={ dW2 with inl:=D1x dW2.inl }
theorem Ax:A7 Tryz.prog dW:=by
 refine ⟨Hq.ty,Hq.mixed,Hq.fn,Hq.mu,fun f fn h=>?_,Hq.ex,Hq.inv⟩
 have h:D1x dW2.inl f=some fn:=h;unfold D1x at h;split at h
 ·rename_i hf;cases h;subst hf;exact ⟨Tryz.func85,A2 Tryz.func85 rfl rfl⟩
 exact Hq.inl f fn h
def swS(l:Nat)(log n i :Int):St:=B0 30 [0,1,6,7] [(.ci (.val (Value.func (Fn.yield l) (Array.mk ([]:List Value)) (Array.mk ([]:List Value))))),.pt 0 0,.v (.c (.int .i64 n)),.v (.c (.int .i64 i))] [0] [(B9 [(.int .i64 log)])] 64 [] []
def QZ:List KI:=(run dW false 3000 (⟨[.code (B5 Tryz.f104)],.normal,⟨Hm [.v (.c (.val (.func (.yield dF) #[] #[]))),.v (.c (.ptr 0 0))],one (.fl [.int .i64 dF]),Tryz.f104.ntmps,16,[]⟩⟩:G5) []).cfg.k
theorem sw(l:Nat)(log:Int):A5 [(0<=log)]->Sg Tryz.prog (⟨Hm [.v (.c (.val (.func (.yield l) #[] #[]))),.v (.c (.ptr 0 0))],one (.fl [.int .i64 log]),Tryz.f104.ntmps,16,[]⟩) (swS l log (wrap .i64 ((1:Int)*((2:Int) ^ (Min.min (log).toNat 64)))) (0:Int)) .normal (QZ) ([.code (B5 Tryz.f104)]):=E4 false 3000 [] Ax
def D0q:List KI:=(run dW false 3000 (⟨B7 QZ,.normal,swS dF dF dF dF⟩:G5) [true,true,true]).cfg.k
theorem swY(l:Nat)(log n i:Int):let c:=wrap .i64 ((64:Int)-log);let a:=wrap .i64 (Int.fdiv (S4.A1s (wrap .u64 i)) ((2:Int) ^ (Min.min (c).toNat 64)));let d:=Array.mk ([]:List Value);let b:=Value.func (Fn.yield l) d d;A5 [((decide (i<n))=true),((decide (log > (0:Int)))=true),(0<=c),((decide (i<a))=true)]->Sg Tryz.prog (swS l log n i) (B0 30 [0,1,6,7,22,23,24,25] [(.ci (.val b)),.pt 0 0,.ii n,.ii i,(.ci (.lit true)),(.ci (.val b)),.ii i,(.ii a)] [0] [(B9 [(.int .i64 log)])] 400 [] []) .normal (D0q) (B7 QZ):=E4 false 3000 [true,true,true] Ax
theorem swB(l:Nat)(log n i j:Int):A5 []->Sg Tryz.prog (⟨M7 (C7 .top [0,1,6,7,22,23,24,25] [(.ci (.val (.func (.yield l) #[] #[]))),.v (.c (.ptr 0 0)),.v (.c (.int .i64 n)),.v (.c (.int .i64 i)),.v (.c (.lit true)),(.ci (.val (.func (.yield l) #[] #[]))),.v (.c (.int .i64 i)),.v (.c (.int .i64 j))]) 26 (.ci (.lit true)),one (.fl [.int .i64 log]),30,400,[]⟩) (St.z (swS l log n (wrap .i64 (i+1))) 464) .normal (D4 QZ) (J4 D0q):=E4 false 3000 [] Ax
section
variable (l:Nat) (log n i:Int)
theorem swN:let a:=wrap .i64 ((64:Int)-log);A5 [((decide (i<n))=true),((decide (log > (0:Int)))=true),(0<=a),((decide (i<(wrap .i64 (Int.fdiv (S4.A1s (wrap .u64 i)) ((2:Int) ^ (Min.min (a).toNat 64))))))=false)]->Sg Tryz.prog (swS l log n i) (St.z (swS l log n (wrap .i64 (i+1))) 480) .normal (D4 QZ) (B7 QZ):=E4 false 3000 [true,true,false] Ax
theorem swZ:A5 [((decide (i<n))=true),((decide (log > (0:Int)))=false),((decide (i<(0:Int)))=false)]->Sg Tryz.prog (swS l log n i) (St.z (swS l log n (wrap .i64 (i+1))) 352) .normal (D4 QZ) (B7 QZ):=E4 false 3000 [true,false,false] Ax
theorem swX:A5 [((decide (i<n))=false)]->Sg Tryz.prog (swS l log n i) (B0 30 [] [] [0] [(B9 [(.int .i64 log)])] 80 [] []) .normal ([]) (B7 QZ):=E4 false 3000 [false] Ax
end
end
end S4
namespace S4
def prs(log:Nat):Nat->List (Nat×Nat)
 | 0=>[]
 | i+1=>prs log i++(if i<brv log i then [(i,brv log i)] else [])
theorem A5q(log:Nat):∀{n i:Nat},i<=n->∃t,prs log n=prs log i++t
 | 0,i,h=>⟨[],by rw[show i=0 from by omega];simp⟩
 | n+1,i,h=>by
  by_cases h1:i=n+1
  ·exact ⟨[],by rw[h1];simp⟩
  ·obtain ⟨t,ht⟩:=A5q log (n:=n) (i:=i) (by omega)
   exact ⟨_,by simp only[prs];rw[ht,List.append_assoc]⟩
def B8z(z:Nat×Nat):List Value:=[.int .i64 (z.1:Int),.int .i64 (z.2:Int)]
theorem A5z{log:Nat}(h:log<=16):wrap .i64 ((1:Int)*((2:Int) ^ (min ((log:Int)).toNat 64)))=((2 ^ log:Nat):Int):=by
 have hp:2 ^ log<=2 ^ 16:=Nat.pow_le_pow_right A4 h;rw[Int.one_mul,show min ((log:Int)).toNat 64=log from by omega]
 have e3:((2:Int) ^ log)=((2 ^ log:Nat):Int):=by simp
 rw[e3];generalize 2 ^ log=n at *;exact A9 (by omega) (by omega)
theorem Uz{y:C0}{p:Nat}{log:Int}:∀(cs:Array Value) ty,y.w.heap[y.β p]? = some (.cells cs ty (0,0))->C9 y (.fl [.int .i64 log]) cs.toList->C9 (D5 y p) (.fl [.int .i64 log]) cs.toList:=by
 intro cs ty _ h;exact JS (e:=.fl [.int .i64 log]) rfl h
theorem A2i{x:C0}{p log:Nat}{M:List (Nat×Nat)->Nat->Option En}(hlog:log<=16)(hM:∀s,M s p=some (.fl [.int .i64 (log:Int)])):MK Tryz.prog x 104 [(p,0)] B8z (prs log (2 ^ log)) M:=by
 intro l J W hgrow hread hyield hJ;have key:Wq Tryz.prog (bodyPost Tryz.prog Tryz.f104 fun e W' => (∃v,e=Ending.returned v)∧J (prs log (2 ^ log)) W') [.code (B5 Tryz.f104)] [] .normal { tmps:=[Value.func (.yield l) #[] #[],.pointer (some ⟨x.β p,0,none⟩)].toArray++Array.replicate 28 undef,defers:=[] } W:=?_
 ·exact calls_of_wp (c:=B5 Tryz.f104) Tryz.func104 rfl ((wpIn_wide (n:=0)).1 key.wp)
 obtain ⟨y,rfl,hm,hc⟩:=hread [] W hJ;obtain ⟨hr,hβ⟩:=hc (p,0) List.mem_cons_self;have hr:y.k p = .real:=hr;have hβ:y.β p=x.β p:=hβ;have hp2:2 ^ log<=2 ^ 16:=Nat.pow_le_pow_right A4 hlog;have hargs:J7 (D5 y p) [.v (.c (.val (.func (.yield l) #[] #[]))),.v (.c (.ptr 0 0))] [.func (.yield l) #[] #[],.pointer (some ⟨x.β p,0,none⟩)]:=
  .cons ⟨rfl,0,rfl,rfl⟩ (.cons ⟨rfl,0,rfl,by show _=[Value.pointer (some ⟨y.β p,0,none⟩)];rw[hβ]⟩ .nil)
 have hs:=KY (nx:=16) (nt:=30) (a:={ tmps:=[Value.func (.yield l) #[] #[],.pointer (some ⟨x.β p,0,none⟩)].toArray++Array.replicate 28 undef,defers:=[] }) hm (hM []) hr Uz rfl (by simp) (AX hargs 28)
 change Wq Tryz.prog _ _ _ _ _ (D5 y p).w
 refine sw l (log:Int) ⟨by omega,C4⟩ hs fun ac cY aY hs1=>?_
 rw[A5z hlog] at hs1;let I:{ i:Nat // i<=2 ^ log } -> List Act->Act->World->Prop:=fun i ac a w=>∃y z,z.w=w∧y.k p = .real∧y.β p=x.β p∧P0 y (M (prs log i.1))∧J (prs log i.1) y.w∧Sim y.w y.F (HA (D5 y p)) ac (swS l (log:Int) ((2 ^ log:Nat):Int) (i.1:Int)) z a
 refine I5 I (fun i=>2 ^ log-i.1) (c:=X5 QZ) (k:=X8 QZ) (by kernel_rfl) (fun i ih ac b w hI=>?_) ⟨0,Nat.zero_le _⟩ ⟨y,cY,rfl,hr,hβ,hm,hJ,hs1.nx _⟩
 obtain ⟨i,hi⟩:=i;obtain ⟨y,z,rfl,hr,hβ,hm,hJ,hs⟩:=hI;simp only at hm hJ hs ih
 have hmb:P0 (D5 y p) (one (.fl [.int .i64 (log:Int)])):=Dt hm (hM _) hr Uz;by_cases h:i<2 ^ log
 ·have hd:decide ((i:Int)<((2 ^ log:Nat):Int))=true:=decide_eq_true (Int.ofNat_lt.2 h)
  have hw:wrap IntKind.i64 ((i:Int)+1)=((i+1:Nat):Int):=by rw[A9 (by omega) (by omega)];omega
  by_cases h0:log=0
  ·subst h0
   refine swZ l _ _ _ ⟨hd,by simp,by simp,C4⟩ hs fun ac cZ aZ hs2=>?_
   rw[hw] at hs2;have e:prs 0 (i+1)=prs 0 i:=by simp [prs,brv]
   exact ih ⟨i+1,by omega⟩ (by show 2 ^ 0-(i+1)<2 ^ 0-i;omega) ac aZ _ ⟨y,cZ,rfl,hr,hβ,by rw[e];exact hm,by rw[e];exact hJ,hs2.nx _⟩
  ·have hj:=A9y (m:=log) (i:=i) (by omega) hlog h
   have hpos:decide ((log:Int) > (0:Int))=true:=by simp;omega
   have hsub:(0:Int)<=wrap IntKind.i64 ((64:Int)-(log:Int)):=by rw[A9 (by omega) (by omega)];omega
   by_cases h1:i<brv log i
   ·have e:prs log (i+1)=prs log i++[(i,brv log i)]:=by simp [prs,h1]
    refine swY l _ _ _ ⟨hd,hpos,hsub,by rw[hj];simp [h1],C4⟩ hs fun ac cZ aZ hs2=>?_
    rw[hj] at hs2;obtain ⟨hg,hk2,hβ2⟩:=CZ hmb rfl hs2 rfl;have hJ2:=hgrow _ _ _ hJ hg;obtain ⟨t,ht⟩:=A5q log (n:=2 ^ log) (i:=i+1) (by omega)
    refine Ey (R:=fun W' => J (prs log (i+1)) W') (dst:=some 26) (f:=.tmp 23) (args:=[.tmp 24,.tmp 25]) (by kernel_rfl) hs2 (l:=l) rfl (vs:=B8z (i,brv log i)) ?_ ?_ fun W' hJ3=>?_
    ·have h24:=M9 (hs2.t 24)
     have h25:=M9 (hs2.t 25);show [aZ.tmps.getD 24 undef,aZ.tmps.getD 25 undef]=_;rw[h24,h25];rfl
    ·have:=hyield (prs log i) (i,brv log i) _ hJ2 ⟨t,by rw[ht,e,List.append_assoc];rfl⟩
     rw[<-e] at this;exact this
    ·obtain ⟨y3,rfl,hm3,hc3⟩:=hread _ _ hJ3
     obtain ⟨hr3,hβ3⟩:=hc3 (p,0) List.mem_cons_self;have hs3:=PO (nx' := 400) (dst:=26) (b:=true) hs2 (by kernel_rfl) rfl hm3 (hM _) hr3 Uz (by rw[hβ2,hβ];exact hβ3.symm) A4
     change Wq Tryz.prog _ _ _ _ _ (D5 y3 p).w
     refine swB l _ _ _ _ trivial hs3 fun ac cV aV hs4=>?_
     rw[hw] at hs4;exact ih ⟨i+1,by omega⟩ (by show 2 ^ log-(i+1)<2 ^ log-i;omega) ac aV _ ⟨y3,cV,rfl,hr3,hβ3,hm3,hJ3,hs4.nx _⟩
   ·have e:prs log (i+1)=prs log i:=by simp [prs,h1]
    refine swN l _ _ _ ⟨hd,hpos,hsub,by rw[hj];simp;omega,C4⟩ hs fun ac cZ aZ hs2=>?_
    rw[hw] at hs2;exact ih ⟨i+1,by omega⟩ (by show 2 ^ log-(i+1)<2 ^ log-i;omega) ac aZ _ ⟨y,cZ,rfl,hr,hβ,by rw[e];exact hm,by rw[e];exact hJ,hs2.nx _⟩
 ·have e:i=2 ^ log:=by omega
  subst e;refine swX l _ _ _ ⟨by simp,C4⟩ hs fun ac cZ aZ hs2=>?_
  obtain ⟨hg,_,_⟩:=CZ hmb rfl hs2 rfl;exact ⟨Va ZC hs2 rfl rfl rfl (fun v=>⟨⟨v,rfl⟩,hgrow _ _ _ hJ hg⟩) (.inr rfl)⟩
end S4
namespace S4
section
variable {w0:World} {F0:Nat->Prop} {K:Kp} {ac:List Act} {Q:Exit->Act->World->Prop} {cX:C0} {aX:Act}
def tfS(L:List Fr)(n:Nat)(log :Int)(w:Fr):St:=B0 102 [3,5,16] [.pt 16 0,.pt 32 0,(.ci (.clo 104 [(64,0)]))] [0,16,32,64] [some (.sq (.s L)),(B9 [(.slc 0 0 n 4)]),(B9 [.ob (.s w)]),(B9 [(.int .i64 log)])] 128 [] []
def Rf:List KI:=(run dW false 3000 (⟨[.code (B5 Tryz.f53)],.normal,RQ Tryz.f53.ntmps 0 dF 4 (.sq (.s dF)) [.v (.c (.int .i64 dF)),.v (.a [.ob (.s dF)])]⟩:G5) []).cfg.k
theorem tf(L:List Fr)(n:Nat)(log:Int)(w:Fr):A5 []->Sg Tryz.prog (RQ Tryz.f53.ntmps 0 n 4 (.sq (.s L)) [.v (.c (.int .i64 log)),.v (.a [.ob (.s w)])]) (tfS L n log w) .normal (Rf) ([.code (B5 Tryz.f53)]):=E4 false 3000 [] Ax
def tfB(L:List Fr)(n:Nat)(log :Int)(w:Fr)(i j:Nat):St:=B0 102 [3,5,6,7] [.pt 16 0,.pt 32 0,(.ii (i:Int)),(.ii ((j:Nat):Int))] [0,16,32,64] [some (.sq (.s L)),(B9 [(.slc 0 0 n 4)]),(B9 [.ob (.s w)]),(B9 [(.int .i64 log)])] 160 [[3,5,16]] [([.pt 16 0,.pt 32 0,(.ci (.clo 104 [(64,0)]))],102)]
theorem tfA(L:List Fr)(n:Nat)(log:Int)(w:Fr)(i j:Nat){ρ:Option Nat}(ho:A5 [])(hs:Sim w0 F0 K ac (Y6 (tfS L n log w) [(17,.v (.c (.int .i64 (i:Int)))),(18,.v (.c (.int .i64 (j:Int))))]) cX aX)(hK:∀cY aY,Sim w0 F0 K ac (tfB L n log w i j) cY aY->Wq Tryz.prog Q ([]) ac Exit.normal aY cY.w ρ):Wq Tryz.prog Q ([.code (rfA Rf)]) ac .normal aX cX.w ρ :=
 J5 (unroll:=false) (n:=3000) (path:=[]) (o:=⟨_,_,_,_,_,_,_⟩) Ax (by kernel_rfl) (by kernel_rfl) ho (by kernel_rfl) (by kernel_rfl) hs hK
def tfE(L:List Fr)(n:Nat)(log :Int)(w:Fr):St:=B0 102 [] [] [0,16,32,64] [some (.sq (.s L)),(B9 [(.slc 0 0 n 4)]),(B9 [.ob (.s w)]),(B9 [(.int .i64 log)])] 416 [[3,5,16]] [([.pt 16 0,.pt 32 0,(.ci (.clo 104 [(64,0)]))],102)]
theorem tfC(L:List Fr)(n:Nat)(log:Int)(w:Fr)(i j:Nat){ρ:Option Nat}:let a:Int:=(j:Nat);let c:Int:=i;let b:=List.set L (c).toNat (List.getD L (a).toNat 0);let d:Int:=(n:Nat);let f:=(c).toNat<L.length;(A5 [(0<=a),(a<d),(0=0),((a).toNat<L.length),(0<=c),(c<d),(0=0),f,(0<=c),(c<d),(0=0),f,(0<=a),(a<d),(0=0),((a).toNat<b.length)])->(Sim w0 F0 K ac (tfB L n log w i j) cX aX)->(∀cY aY,Sim w0 F0 K ac (tfE (List.set b (a).toNat (List.getD L (c).toNat 0)) n log w) cY aY->Wq Tryz.prog Q ([]) ac Exit.normal aY cY.w ρ)->Wq Tryz.prog Q ([.code (rfB Rf)]) ac .normal aX cX.w ρ :=fun ho hs hK=>
 J5 (unroll:=false) (n:=3000) (path:=[]) (o:=⟨_,_,_,_,_,_,_⟩) Ax (by kernel_rfl) (by kernel_rfl) ho (by kernel_rfl) (by kernel_rfl) hs hK
def Rh:List KI:=(run dW false 3000 (⟨rfR Rf,.normal,tfS dF dF dF dF⟩:G5) []).cfg.k
theorem tg(L:List Fr)(n:Nat)(log:Int)(w:Fr):let b:=wrap .i64 (Int.tdiv ((n:Nat):Int) (2:Int));let a:=ite ((1:Int) > b) (1:Int) b;A5 [((2:Int)≠(0:Int)),(0<=a),(a<=(8796093022208:Int))]->Sg Tryz.prog (tfS L n log w) (B0 102 [3,8,9] [.pt 16 0,(.ci (.slc 208 0 (a).toNat 4)),.ii 1] [0,16,208] [(D9 (.s L)),(B9 [(.slc 0 0 n 4)]),(D9 (.s (S4.EL w (a).toNat)))] 256 [] []) .normal (Rh) (rfR Rf):=E4 false 3000 [] Ax
def tgS(L A:List Fr)(n m:Nat)(half :Int):St:=B0 102 [3,8,9] [.pt 16 0,.v (.c (.slc 208 0 m 4)),.v (.c (.int .i64 half))] [0,16,208] [some (.sq (.s L)),(B9 [(.slc 0 0 n 4)]),some (.sq (.s A))] 256 [] []
def thS(L A:List Fr)(n m:Nat)(half st fr :Int):St:=B0 102 [3,8,9,10,11] [.pt 16 0,(.ci (.slc 208 0 m 4)),.ii half,.v (.c (.int .i64 st)),.v (.c (.int .i64 fr))] [0,16,208] [(D9 (.s L)),(B9 [(.slc 0 0 n 4)]),(D9 (.s A))] 432 [] []
def YR:List KI:=(run dW false 3000 (⟨B7 Rh,.normal,tgS dF dF dF dF dF⟩:G5) [true]).cfg.k
theorem th(L A:List Fr)(n m:Nat)(half:Int):let a:=wrap .i64 ((2:Int)*half);A5 [((decide (half<((n:Nat):Int)))=true),(a≠(0:Int))]->Sg Tryz.prog (tgS L A n m half) (thS L A n m half (wrap .i64 (Int.tdiv ((n:Nat):Int) a)) (0:Int)) .normal (YR) (B7 Rh):=E4 false 3000 [true] Ax
def tiS(L A:List Fr)(n m:Nat)(half st fr i :Int):St:=B0 102 [3,8,9,10,11,58,59] [.pt 16 0,(.ci (.slc 208 0 m 4)),.ii half,.ii st,.ii fr,.ii half,.v (.c (.int .i64 i))] [0,16,208] [(D9 (.s L)),(B9 [(.slc 0 0 n 4)]),(D9 (.s A))] 528 [] []
def B0s:List KI:=(run dW false 3000 (⟨B7 YR,.normal,thS dF dF dF dF dF dF dF⟩:G5) [true]).cfg.k
theorem ti(L A:List Fr)(n m:Nat)(half st fr:Int):A5 [((decide (fr<((n:Nat):Int)))=true)]->Sg Tryz.prog (thS L A n m half st fr) (tiS L A n m half st fr (0:Int)) .normal (B0s) (B7 YR):=E4 false 3000 [true] Ax
section
variable (L A:List Fr) (n m:Nat) (half st fr i:Int)
theorem tj:let a:=wrap .i64 (fr+i);let c:=wrap .i64 (a+half);let d:=wrap .i64 (i*st);let b:=(List.getD L (c).toNat 0)*(List.getD A (d).toNat 0);let g:Int:=(n:Nat);let h:=List.getD L (a).toNat 0;let f:=List.set L (a).toNat (h+b);let j:=(a).toNat<L.length;A5 [((decide (i<half))=true),(0<=a),(a<g),(0=0),j,(0<=c),(c<g),(0=0),((c).toNat<L.length),(0<=d),(d<((m:Nat):Int)),(0=0),((d).toNat<A.length),(0<=a),(a<g),(0=0),j,(0<=c),(c<g),(0=0),((c).toNat<f.length)]->Sg Tryz.prog (tiS L A n m half st fr i) (St.z (tiS (List.set f (c).toNat (h-b)) A n m half st fr (wrap .i64 (i+1))) 1328) .normal (D4 B0s) (B7 B0s):=E4 false 3000 [true] Ax
theorem tk:A5 [((decide (i<half))=false)]->Sg Tryz.prog (tiS L A n m half st fr i) (St.z (thS L A n m half st (wrap .i64 (fr+(wrap .i64 ((2:Int)*half))))) 624) .normal (D4 YR) (B7 B0s):=E4 false 3000 [false] Ax
end
theorem tm(L A:List Fr)(n m:Nat)(half st fr:Int):A5 [((decide (fr<((n:Nat):Int)))=false)]->Sg Tryz.prog (thS L A n m half st fr) (St.z (tgS L A n m (wrap .i64 (half*(2:Int)))) 544) .normal (D4 Rh) (B7 YR):=E4 false 3000 [false] Ax
theorem tn(L A:List Fr)(n m:Nat)(half:Int):A5 [((decide (half<((n:Nat):Int)))=false)]->Sg Tryz.prog (tgS L A n m half) (B0 102 [] [] [0] [(D9 (.s L))] 320 [] []) .normal ([]) (B7 Rh):=E4 false 3000 [false] Ax
end
end S4
namespace S4
section
variable {r:Nat} [NeZero r]
def sm(f:Nat->Fin r):Nat->Fin r
 | 0=>0
 | n+1=>sm f n+f n
theorem Q0{f g:Nat->Fin r}:∀n,(∀i,i<n->f i=g i)->sm f n=sm g n
 | 0,_=>rfl
 | n+1,h=>by
  simp only[sm];rw[Q0 n (fun i hi=>h i (by omega)),h n (by omega)]
theorem QV(k:Fin r)(f:Nat->Fin r):∀n,sm (fun i=>k*f i) n=k*sm f n
 | 0=>by simp only[sm];grind
 | n+1=>by
  simp only[sm];rw[QV k f n];grind
theorem C0f(f g:Nat->Fin r):∀n,sm (fun i=>f i+g i) n=sm f n+sm g n
 | 0=>by simp only[sm];grind
 | n+1=>by
  simp only[sm];rw[C0f f g n];grind
theorem A6c:∀n,sm (fun _=>(0:Fin r)) n=0
 | 0=>rfl
 | n+1=>by
  simp only[sm];rw[A6c n];grind
theorem C0g(f:Nat->Fin r):∀n,sm f (2*n)=sm (fun i=>f (2*i)) n+sm (fun i=>f (2*i+1)) n
 | 0=>by simp only[sm];grind
 | n+1=>by
  rw[show 2*(n+1)=2*n+1+1 from by omega]
  simp only[sm];rw[C0g f n];grind
theorem B1x(m b:Nat):brv (m+1) (2*b)=brv m b:=by
 simp only[brv];rw[show 2*b % 2=0 from by omega,show 2*b / 2=b from by omega]
 omega
theorem C2o(m b:Nat):brv (m+1) (2*b+1)=brv m b+2 ^ m:=by
 simp only[brv];rw[show (2*b+1) % 2=1 from by omega,show (2*b+1) / 2=b from by omega]
 omega
theorem NC{m i:Nat}(h:i<2 ^ m):brv m (brv m i)=i:=by
 apply Nat.eq_of_testBit_eq
 intro k;rw[NB,NB];by_cases hk:k<m
 ·rw[show decide (k<m)=true from by simp [hk],show decide (m-1-k<m)=true from by simp;omega,Bool.true_and,Bool.true_and,show m-1-(m-1-k)=k from by omega]
 ·rw[show decide (k<m)=false from by simp [hk],Bool.false_and,Nat.testBit_lt_two_pow]
  exact Nat.lt_of_lt_of_le h (Nat.pow_le_pow_right A4 (by omega))
variable (c W:Nat->Fin r)
def KF(m k b i:Nat):Fin r:=sm (fun j=>c (brv m b+j*2 ^ m)*W (i*j*2 ^ m)) (2 ^ k)
variable (h0:W 0=1) (ha:∀a b,W (a+b)=W a*W b)
include h0 ha
omit h0 in
theorem WP(m k b i:Nat):KF c W m (k+1) b i=KF c W (m+1) k (2*b) i+W (i*2 ^ m)*KF c W (m+1) k (2*b+1) i:=by
 unfold KF;rw[Nat.pow_succ 2 k,Nat.mul_comm (2 ^ k) 2,C0g,<-QV];refine congr (congrArg _ (Q0 _ fun t _=>?_)) (Q0 _ fun t _=>?_)
 ·rw[B1x,Nat.pow_succ]
  rw[show 2*t*2 ^ m=t*(2 ^ m*2) from by ac_rfl,show i*(2*t)*2 ^ m=i*t*(2 ^ m*2) from by ac_rfl]
 ·have e1:brv (m+1) (2*b+1)+t*2 ^ (m+1)=brv m b+(2*t+1)*2 ^ m:=by
   rw[C2o,Nat.pow_succ,Nat.add_mul,Nat.one_mul,Nat.mul_comm (2 ^ m) 2,<-Nat.mul_assoc,Nat.mul_comm t 2];omega
  have e2:i*(2*t+1)*2 ^ m=i*2 ^ m+i*t*2 ^ (m+1):=by
   rw[Nat.pow_succ,Nat.mul_add,Nat.mul_one,Nat.add_mul,show i*(2*t)*2 ^ m=i*t*(2 ^ m*2) from by ac_rfl,Nat.add_comm]
  rw[e1,e2,ha];grind
theorem C9v(a:Nat)(h:W a=1):∀t,W (a*t)=1
 | 0=>by rw[Nat.mul_zero];exact h0
 | t+1=>by
  rw[Nat.mul_succ,ha,C9v a h t,h];grind
theorem A6v(m k b i:Nat)(hn:W (2 ^ (k+m)) = -1):KF c W m (k+1) b (i+2 ^ k)=KF c W (m+1) k (2*b) i-W (i*2 ^ m)*KF c W (m+1) k (2*b+1) i:=by
 have hone:W (2 ^ k*2 ^ (m+1))=1:=by
  rw[<-Nat.pow_add,show k+(m+1)=(k+m)+1 from by omega,Nat.pow_succ,Nat.mul_two,ha,hn]
  grind
 have hper:∀b',KF c W (m+1) k b' (i+2 ^ k)=KF c W (m+1) k b' i:=by
  intro b'
  unfold KF;refine Q0 _ fun t _=>?_
  rw[show (i+2 ^ k)*t*2 ^ (m+1)=i*t*2 ^ (m+1)+2 ^ k*2 ^ (m+1)*t from by rw[Nat.add_mul,Nat.add_mul,Nat.mul_right_comm (2 ^ k)],ha,C9v W h0 ha _ hone]
  grind
 rw[WP c W ha,hper,hper,Nat.add_mul,ha,<-Nat.pow_add,hn];grind
def Fh(log k q:Nat):Fin r:=KF c W (log-k) k (q / 2 ^ k) (q % 2 ^ k)
omit ha in
theorem A1c(log q:Nat):Fh c W log 0 q=c (brv log q):=by
 simp only[Fh,KF,Nat.pow_zero,Nat.div_one,Nat.mod_one,sm,Nat.sub_zero,Nat.zero_mul,Nat.add_zero,h0];grind
omit h0 ha in
theorem A9o(log q:Nat)(hq:q<2 ^ log):Fh c W log log q=sm (fun j=>c j*W (q*j)) (2 ^ log):=by
 simp only[Fh,KF,Nat.sub_self,brv,Nat.pow_zero,Nat.mul_one,Nat.zero_add,Nat.mod_eq_of_lt hq]
theorem A9p{log k b i:Nat}(hk:k<log)(hi:i<2 ^ k)(hn:W (2 ^ (log-1)) = -1) :
  Fh c W log (k+1) (b*2 ^ (k+1)+i)=Fh c W log k (b*2 ^ (k+1)+i)+Fh c W log k (b*2 ^ (k+1)+2 ^ k+i)*W (i*2 ^ (log-k-1)) ∧
  Fh c W log (k+1) (b*2 ^ (k+1)+2 ^ k+i)=Fh c W log k (b*2 ^ (k+1)+i)-Fh c W log k (b*2 ^ (k+1)+2 ^ k+i)*W (i*2 ^ (log-k-1)):=by
 obtain ⟨m,rfl⟩:∃m,log=m+k+1:=⟨log-k-1,by omega⟩
 have hp:0<2 ^ k:=Nat.two_pow_pos k;have e1:(b*2 ^ (k+1)+i) / 2 ^ (k+1)=b∧(b*2 ^ (k+1)+i) % 2 ^ (k+1)=i:=by
  have:i<2 ^ (k+1):=by rw[Nat.pow_succ];omega
  rw[Nat.mul_comm b,Nat.mul_add_mod,Nat.mod_eq_of_lt this,Nat.mul_add_div (Nat.two_pow_pos _),Nat.div_eq_of_lt this];exact ⟨rfl,rfl⟩
 have e2:(b*2 ^ (k+1)+2 ^ k+i) / 2 ^ (k+1)=b∧(b*2 ^ (k+1)+2 ^ k+i) % 2 ^ (k+1)=i+2 ^ k:=by
  have:2 ^ k+i<2 ^ (k+1):=by rw[Nat.pow_succ];omega
  rw[Nat.add_assoc,Nat.mul_comm b,Nat.mul_add_mod,Nat.mod_eq_of_lt this,Nat.mul_add_div (Nat.two_pow_pos _),Nat.div_eq_of_lt this];exact ⟨rfl,Nat.add_comm _ _⟩
 have e3:(b*2 ^ (k+1)+i) / 2 ^ k=2*b∧(b*2 ^ (k+1)+i) % 2 ^ k=i:=by
  rw[show b*2 ^ (k+1)=2 ^ k*(2*b) from by rw[Nat.pow_succ];ac_rfl,Nat.mul_add_mod,Nat.mod_eq_of_lt hi,Nat.mul_add_div hp,Nat.div_eq_of_lt hi]
  exact ⟨rfl,rfl⟩
 have e4:(b*2 ^ (k+1)+2 ^ k+i) / 2 ^ k=2*b+1∧(b*2 ^ (k+1)+2 ^ k+i) % 2 ^ k=i:=by
  rw[show b*2 ^ (k+1)+2 ^ k=2 ^ k*(2*b+1) from by rw[Nat.pow_succ,Nat.mul_add,Nat.mul_one];congr 1;ac_rfl,Nat.mul_add_mod,Nat.mod_eq_of_lt hi,Nat.mul_add_div hp,Nat.div_eq_of_lt hi]
  exact ⟨rfl,rfl⟩
 have h1:=WP c W ha m k b i;have h2:=A6v c W h0 ha m k b i (by rw[<-hn];congr 2;omega)
 unfold Fh;rw[e1.1,e1.2,e2.1,e2.2,e3.1,e3.2,e4.1,e4.2,show m+k+1-(k+1)=m from by omega,show m+k+1-k=m+1 from by omega,show m+1-1=m from by omega,h1,h2]
 constructor<;>grind
end
def mix{r:Nat}(f g:Nat->Fin r)(fr half i q:Nat):Fin r:=if q<fr∨(fr<=q∧q<fr+i)∨(fr+half<=q∧q<fr+half+i) then g q else f q
section
variable {r:Nat} {f g:Nat->Fin r} {fr half i n q:Nat}
theorem A8v:mix f g 0 half 0 q=f q:=by
 unfold mix;rw[if_neg (by omega)]
theorem C5f(h:q<n):mix f g n half 0 q=g q:=by
 unfold mix;rw[if_pos (.inl h)]
theorem B5z:mix f g fr half half q=mix f g (fr+2*half) half 0 q:=by
 unfold mix;by_cases h:q<fr+2*half
 ·rw[if_pos (by omega),if_pos (.inl h)]
 ·rw[if_neg (by omega),if_neg (by omega)]
theorem C5d(h:i<half):mix f g fr half i (fr+i)=f (fr+i):=by
 unfold mix;rw[if_neg (by omega)]
theorem C5e:mix f g fr half i (fr+half+i)=f (fr+half+i):=by
 unfold mix;rw[if_neg (by omega)]
theorem B6a(h:i<half):(if q=fr+half+i then g (fr+half+i) else if q=fr+i then g (fr+i) else mix f g fr half i q)=mix f g fr half (i+1) q:=by
 unfold mix;by_cases h1:q=fr+half+i
 ·subst h1
  rw[if_pos rfl,if_pos (by omega)]
 ·rw[if_neg h1]
  by_cases h2:q=fr+i
  ·subst h2
   rw[if_pos rfl,if_pos (by omega)]
  ·rw[if_neg h2]
   by_cases h3:q<fr∨(fr<=q∧q<fr+i)∨(fr+half<=q∧q<fr+half+i)
   ·rw[if_pos h3,if_pos (by omega)]
   ·rw[if_neg h3,if_neg (by omega)]
end
def tab(n:Nat)(F:Nat->Fr):List Fr:=(List.range n).map F
theorem NN(n:Nat)(F:Nat->Fr):(tab n F).length=n:=by simp [tab]
theorem O7{n:Nat}{F G:Nat->Fr}(h:∀q,q<n->F q=G q):tab n F=tab n G:=by
 unfold tab;refine List.map_congr_left fun q hq=>h q (List.mem_range.1 hq)
theorem EU{n:Nat}{F:Nat->Fr}{q:Nat}(h:q<n):(tab n F).getD q 0=F q:=by
 simp [tab,List.getD,h]
theorem Ku{n:Nat}{F:Nat->Fr}{p:Nat}{v:Fr}:(tab n F).set p v=tab n (fun q=>if q=p then v else F q):=by
 apply List.ext_getElem
 ·simp [tab]
 ·intro q h1 h2
  simp only[tab,List.getElem_set,List.getElem_map,List.getElem_range];by_cases h:q=p
  ·simp [h]
  ·rw[if_neg (fun e=>h e.symm),if_neg h]
theorem C0u(l:List Fr):l=tab l.length (fun q=>l.getD q 0):=by
 apply List.ext_getElem
 ·simp [tab]
 ·intro q h1 h2
  simp [tab,List.getD,h1]
def B0n(l:List Fr)(z:Nat×Nat):List Fr:=(l.set z.1 (l.getD z.2 0)).set z.2 (l.getD z.1 0)
def swA(l:List Fr)(zs:List (Nat×Nat)):List Fr:=zs.foldl B0n l
theorem C8x(l:List Fr):∀zs,(swA l zs).length=l.length:=by
 intro zs;unfold swA;induction zs generalizing l with
 | nil=>rfl
 | cons z zs ih=>
  simp only[List.foldl_cons];rw[ih];simp [B0n]
theorem YP(l:List Fr)(zs:List (Nat×Nat))(z:Nat×Nat):swA l (zs++[z])=B0n (swA l zs) z:=by
 unfold swA;rw[List.foldl_append];rfl
def swF(c:Nat->Fr)(log i q:Nat):Fr:=if min q (brv log q)<i then c (brv log q) else c q
theorem C0q(c:Nat->Fr)(log q:Nat):swF c log 0 q=c q:=by
 unfold swF;rw[if_neg (by omega)]
theorem C8y(c:Nat->Fr){log q:Nat}(h:q<2 ^ log):swF c log (2 ^ log) q=c (brv log q):=by
 unfold swF;rw[if_pos (by have:=Nat.min_le_left q (brv log q);omega)]
theorem C0p{c:Nat->Fr}{log i:Nat}(hi:i<2 ^ log)(h:i<brv log i) :
  B0n (tab (2 ^ log) (swF c log i)) (i,brv log i)=tab (2 ^ log) (swF c log (i+1)):=by
 have hb:=Oi log i;unfold B0n;simp only
 rw[EU hb,EU hi,Ku,Ku];refine O7 fun q hq=>?_
 have hbb:=NC hi;have hqq:=NC hq;unfold swF;by_cases h1:q=brv log i
 ·subst h1
  rw[if_pos rfl,hbb,if_neg (by omega),if_pos (by omega)]
 ·rw[if_neg h1]
  by_cases h2:q=i
  ·subst h2
   rw[if_pos rfl,hbb,if_neg (by omega),if_pos (by omega)]
  ·rw[if_neg h2]
   have h3:brv log q≠i:=fun e=>h1 (by rw[<-hqq,e])
   by_cases h4:min q (brv log q)<i
   ·rw[if_pos h4,if_pos (by omega)]
   ·rw[if_neg h4,if_neg (by omega)]
theorem C0o{c:Nat->Fr}{log i:Nat}(hi:i<2 ^ log)(h:¬i<brv log i):tab (2 ^ log) (swF c log i)=tab (2 ^ log) (swF c log (i+1)):=by
 refine O7 fun q hq=>?_
 have hqq:=NC hq;have hbb:=NC hi;unfold swF;by_cases h4:min q (brv log q)<i
 ·rw[if_pos h4,if_pos (by omega)]
 ·rw[if_neg h4]
  by_cases h5:min q (brv log q)<i+1
  ·rw[if_pos h5]
   by_cases h2:q=i
   ·subst h2
    rw[show brv log q=q from by omega]
   ·have h3:brv log q=i:=by omega
    have:q=brv log i:=by rw[<-h3,hqq]
    omega
  ·rw[if_neg h5]
end S4
namespace S4
theorem Wx(c:Nat->Fr)(log:Nat):∀i,i<=2 ^ log->swA (tab (2 ^ log) c) (prs log i)=tab (2 ^ log) (swF c log i)
 | 0,_=>by
  show tab _ c=_;exact O7 fun q _=>(C0q c log q).symm
 | i+1,h=>by
  simp only[prs];by_cases h1:i<brv log i
  ·rw[if_pos h1,YP,Wx c log i (by omega),C0p (by omega) h1]
  ·rw[if_neg h1,List.append_nil,Wx c log i (by omega),C0o (by omega) h1]
theorem A5p{log:Nat}:∀{n:Nat} {z:Nat×Nat},z∈prs log n->z.1<n∧z.2<2 ^ log
 | 0,z,h=>by cases h
 | n+1,z,h=>by
  simp only[prs,List.mem_append] at h;rcases h with h | h
  ·have:=A5p h;omega
  ·split at h
   ·simp only[List.mem_singleton] at h
    subst h;exact ⟨by simp,Oi _ _⟩
   ·cases h
def D3l(c:Nat->Fr)(w:Fr)(n:Nat):List Fr:=tab n (fun q=>sm (fun j=>c j*G3 w (q*j)) n)
def B9a(z:Nat×Nat):List SV:=[.v (.c (.int .i64 (z.1:Int))),.v (.c (.int .i64 (z.2:Int)))]
theorem B0q{L:List Fr}{n log:Nat}{w:Fr}{z:Nat×Nat}{w1:World}{F1:Nat->Prop}{K1:Kp}{as1:List Act}{Q1:Exit->Act->World->Prop}{l:Nat}{y:C0}{b:Act}(hs:Sim w1 F1 K1 as1 (Y6 (tfS L n log w) ([17,18].zip (B9a z))) y b)
  (hQ:∀y' b',Sim w1 F1 K1 as1 (tfB L n log w z.1 z.2) y' b' -> Q1 .normal b' y'.w):Wq Tryz.prog Q1 [.code (rfA Rf)] as1 .normal b y.w (some l):=by
 exact tfA L n log w z.1 z.2 trivial hs fun cZ aZ hs3=>⟨hQ _ _ (hs3.nx _)⟩
theorem C9d{L:List Fr}{n log:Nat}{w:Fr}{z:Nat×Nat}(h1:z.1<n)(h2:z.2<n)(hl:L.length=n){w1:World}{F1:Nat->Prop}{K1:Kp}{as1:List Act}{Q1:Exit->Act->World->Prop}{l:Nat}{y:C0}{b:Act}(hs:Sim w1 F1 K1 as1 (tfB L n log w z.1 z.2) y b)
  (hQ:∀y' b',Sim w1 F1 K1 as1 (tfE (B0n L z) n log w) y' b' -> Q1 .normal b' y'.w):Wq Tryz.prog Q1 [.code (rfB Rf)] as1 .normal b y.w (some l):=by
 refine tfC L n (log:Int) w z.1 z.2 (by and_intros<;>first | rfl | trivial | omega | (simp only[List.length_set,Int.toNat_natCast];omega)) hs fun cZ aZ hs3=>⟨hQ _ _ ?_⟩
 rw[Int.toNat_natCast,Int.toNat_natCast] at hs3;exact hs3.nx _
theorem B8x{w:Fr}{m e:Nat}(h:e<m):(EL w m).getD e 0=G3 w e:=EU (F:=G3 w) h
section
variable {w0:World} {F0:Nat->Prop} {K:Kp} {Q:Exit->Act->World->Prop}
theorem C0z{f g:Nat->Fr}{w:Fr}{N M H T fr:Nat}(hN:N<=65536)(hM:M<=65536)(hfr:fr+2*H<=N)(hT:∀i,i<H->i*T<M)
  (hst:∀i,i<H->g (fr+i)=f (fr+i)+f (fr+H+i)*G3 w (i*T)∧g (fr+H+i)=f (fr+i)-f (fr+H+i)*G3 w (i*T))
  (hK:∀ac y b,Sim w0 F0 K ac (thS (tab N (mix f g (fr+2*H) H 0)) (EL w M) N M (H:Int) (T:Int) ((fr+2*H:Nat):Int)) y b->Wq Tryz.prog Q (D4 YR) ac .normal b y.w)
  {k0:List KI} (hl:FQ k0=some (X5 B0s,X8 B0s)) {ac:List Act} {y:C0} {b:Act} (hs:Sim w0 F0 K ac (tiS (tab N (mix f g fr H 0)) (EL w M) N M (H:Int) (T:Int) (fr:Int) 0) y b):Wq Tryz.prog Q k0 ac .normal b y.w:=by
 refine C5 (ι:={ i:Nat // i<=H }) (fun i=>tiS (tab N (mix f g fr H i.1)) (EL w M) N M (H:Int) (T:Int) (fr:Int) (i.1:Int)) (fun i=>H-i.1) hl (fun i ih ac cY aY hs=>?_) ⟨0,Nat.zero_le _⟩ hs
 obtain ⟨i,hi⟩:=i;simp only at ih hs
 by_cases h:i<H
 ·have hiT:=hT i h
  have hw1:wrap .i64 ((fr:Int)+(i:Int))=((fr+i:Nat):Int):=by rw[A9 (by omega) (by omega)];omega
  have hw2:wrap .i64 (((fr+i:Nat):Int)+(H:Int))=((fr+H+i:Nat):Int):=by rw[A9 (by omega) (by omega)];omega
  have hw3:wrap .i64 ((i:Int)*(T:Int))=((i*T:Nat):Int):=by
   rw[<-Int.natCast_mul];generalize i*T=e at *;exact A9 (by omega) (by omega)
  have hw4:wrap .i64 ((i:Int)+1)=((i+1:Nat):Int):=by rw[A9 (by omega) (by omega)];omega
  have hlenA:(EL w M).length=M:=FV w M;have hlenL:(tab N (mix f g fr H i)).length=N:=NN _ _;obtain ⟨hs1,hs2⟩:=hst i h;refine tj _ _ _ _ _ _ _ _ ?_ hs fun ac cZ aZ hs3=>?_
  ·rw[hw1,hw2,hw3]
   simp only[Int.toNat_natCast,List.length_set,hlenA,hlenL];clear hs1 hs2 hst hT hw1 hw2 hw3 hw4 hlenA hlenL ih hs;generalize i*T=e at *;and_intros<;>first | rfl | trivial | omega | (apply decide_eq_true;omega)
  ·rw[hw1,hw2,hw3,hw4] at hs3
   simp only[Int.toNat_natCast] at hs3;rw[EU (by omega),EU (by omega),B8x hiT,C5d h,C5e,<-hs1,<-hs2,Ku,Ku,O7 fun q _=>B6a (q:=q) h] at hs3
   exact ih ⟨i+1,by omega⟩ (by show H-(i+1)<H-i;omega) ac cZ aZ (hs3.nx _)
 ·have e:i=H:=by omega
  subst e;refine tk _ _ _ _ _ _ _ _ ⟨by simp,C4⟩ hs fun ac cZ aZ hs3=>?_
  have hw5:wrap .i64 ((2:Int)*(i:Int))=((2*i:Nat):Int):=by rw[A9 (by omega) (by omega)];omega
  have hw6:wrap .i64 ((fr:Int)+((2*i:Nat):Int))=((fr+2*i:Nat):Int):=by rw[A9 (by omega) (by omega)];omega
  rw[hw5,hw6,O7 fun q _=>B5z (q:=q)] at hs3
  exact hK _ _ _ (hs3.nx _)
theorem C1a{f g:Nat->Fr}{w:Fr}{N M H T B:Nat}(hN:N<=65536)(hM:M<=65536)(hH:0<H)(hB:B*(2*H)=N)(hT:∀i,i<H->i*T<M)(hTN:N / (2*H)=T)
  (hst:∀b i,i<H->g (b*(2*H)+i)=f (b*(2*H)+i)+f (b*(2*H)+H+i)*G3 w (i*T)∧g (b*(2*H)+H+i)=f (b*(2*H)+i)-f (b*(2*H)+H+i)*G3 w (i*T))
  (hK:∀ac y b,Sim w0 F0 K ac (tgS (tab N g) (EL w M) N M ((2*H:Nat):Int)) y b->Wq Tryz.prog Q (D4 Rh) ac .normal b y.w)
  {ac:List Act} {y:C0} {b:Act} (hs:Sim w0 F0 K ac (tgS (tab N f) (EL w M) N M (H:Int)) y b) (hHN:H<N):Wq Tryz.prog Q (B7 Rh) ac .normal b y.w:=by
 have hw1:wrap .i64 ((2:Int)*(H:Int))=((2*H:Nat):Int):=by rw[A9 (by omega) (by omega)];omega
 have hw2:wrap .i64 (Int.tdiv (N:Int) ((2*H:Nat):Int))=(T:Int):=by
  rw[Int.tdiv_eq_ediv_of_nonneg (by omega),<-Int.natCast_ediv,hTN]
  have:T<=N:=by rw[<-hTN];exact Nat.div_le_self _ _
  exact A9 (by omega) (by omega)
 refine th _ _ _ _ _ ⟨by simp;omega,by rw[hw1];omega,C4⟩ hs fun ac cY aY hs1=>?_
 rw[hw1,hw2,O7 fun q _=>(A8v (f:=f) (g:=g) (half:=H) (q:=q)).symm] at hs1
 refine C5 (ι:={ b:Nat // b<=B }) (fun b=>thS (tab N (mix f g (b.1*(2*H)) H 0)) (EL w M) N M (H:Int) (T:Int) ((b.1*(2*H):Nat):Int)) (fun b=>B-b.1) (c:=X5 YR) (k:=X8 YR) (by kernel_rfl) (fun b ih ac cY aY hs=>?_) ⟨0,Nat.zero_le _⟩ (by simp only[Nat.zero_mul];exact hs1.nx _)
 obtain ⟨b,hb⟩:=b;simp only at ih hs
 have hle:b*(2*H)<=N:=by rw[<-hB];exact Nat.mul_le_mul_right _ hb
 by_cases h:b<B
 ·have hle2:b*(2*H)+2*H<=N:=by
   rw[<-hB,<-Nat.succ_mul];exact Nat.mul_le_mul_right _ h
  have hst' := hst b;have he:(b+1)*(2*H)=b*(2*H)+2*H:=Nat.succ_mul _ _;have ih' := ih ⟨b+1,h⟩ (by show B-(b+1)<B-b;omega)
  simp only[he] at ih'
  generalize b*(2*H)=fr at *;refine ti _ _ _ _ _ _ _ ⟨by simp;omega,C4⟩ hs fun ac cZ aZ hs3=>?_
  exact C0z hN hM hle2 hT hst' (fun ac y b hs=>ih' ac y b hs) (by kernel_rfl) (hs3.nx _)
 ·have e:b=B:=by omega
  subst e;rw[hB] at hs;refine tm _ _ _ _ _ _ _ ⟨by simp,C4⟩ hs fun ac cZ aZ hs3=>?_
  have hw3:wrap .i64 ((H:Int)*(2:Int))=((2*H:Nat):Int):=by rw[A9 (by omega) (by omega)];omega
  rw[hw3,O7 fun q hq=>C5f hq] at hs3
  exact hK _ _ _ (hs3.nx _)
theorem B0r{c:Nat->Fr}{log M:Nat}{w:Fr}(hlog:log<=16)(hw:0<log->G3 w (2 ^ (log-1)) = -1)(hM:M<=65536)(hM2:2 ^ log<=2*M)
  (hK:∀ac y b,Sim w0 F0 K ac (tgS (tab (2 ^ log) (Fh c (G3 w) log log)) (EL w M) (2 ^ log) M ((2 ^ log:Nat):Int)) y b->Wq Tryz.prog Q (B7 Rh) ac .normal b y.w)
  {ac:List Act} {y:C0} {b:Act} (hs:Sim w0 F0 K ac (tgS (tab (2 ^ log) (Fh c (G3 w) log 0)) (EL w M) (2 ^ log) M 1) y b):Wq Tryz.prog Q Rh ac .normal b y.w:=by
 have hp2:2 ^ log<=2 ^ 16:=Nat.pow_le_pow_right A4 hlog;refine C5 (ι:={ k:Nat // k<=log }) (fun k=>tgS (tab (2 ^ log) (Fh c (G3 w) log k.1)) (EL w M) (2 ^ log) M ((2 ^ k.1:Nat):Int)) (fun k=>log-k.1) (c:=X5 Rh) (k:=X8 Rh) (by kernel_rfl) (fun k ih ac cY aY hs=>?_) ⟨0,Nat.zero_le _⟩ hs
 obtain ⟨k,hk⟩:=k;simp only at ih hs
 by_cases h:k<log
 ·have ih' := ih ⟨k+1,h⟩ (by show log-(k+1)<log-k;omega)
  simp only at ih'
  have hstep:=fun b i (hi:i<2 ^ k)=>A9p c (G3 w) rfl (fun a b=>JQ w a b) (b:=b) h hi (hw (by omega))
  have eN:2 ^ log=2 ^ (log-k-1)*(2*2 ^ k):=by
   rw[<-Nat.pow_succ',<-Nat.pow_add];congr 1
   omega
  have e2:2 ^ (k+1)=2*2 ^ k:=Nat.pow_succ';rw[e2] at ih'
  simp only[e2] at hstep;have hH:=Nat.two_pow_pos k;have hT0:=Nat.two_pow_pos (log-k-1);generalize 2 ^ k=H at *;generalize Fh c (G3 w) log k=f at *;generalize Fh c (G3 w) log (k+1)=g at *;generalize 2 ^ (log-k-1)=T at *;generalize 2 ^ log=N at *;have hTH:N=T*H+T*H:=by rw[eN,Nat.mul_left_comm,Nat.two_mul]
  refine C1a (B:=T) (T:=T) (by omega) hM hH eN.symm (fun i hi=>?_) ?_ hstep ih' hs ?_
  ·have h1:i*T<H*T:=Nat.mul_lt_mul_of_pos_right hi hT0
   rw[Nat.mul_comm H T] at h1;omega
  ·rw[eN,Nat.mul_div_cancel _ (by omega)]
  ·have h1:1*H<=T*H:=Nat.mul_le_mul_right _ hT0
   omega
 ·have e:k=log:=by omega
  subst e;exact hK _ _ _ hs
end
theorem WC(c:Nat->Fr)(log:Nat)(w:Fr)(hlog:log<=16)(hw:0<log->G3 w (2 ^ (log-1)) = -1) :
  MuC Tryz.prog 53 0 (2 ^ log) 4 (.sq (.s (tab (2 ^ log) c))) [.v (.c (.int .i64 (log:Int))),.v (.a [.ob (.s w)])] (.sq (.s (D3l c w (2 ^ log)))):=by
 refine A0d (c:=B5 Tryz.f53) Tryz.func53 rfl rfl fun x a hk hm0 hs=>?_
 have hp2:2 ^ log<=2 ^ 16:=Nat.pow_le_pow_right A4 hlog;have hpos:0<2 ^ log:=Nat.two_pow_pos log;refine tf _ _ _ _ trivial hs fun ac cY aY hs1=>?_
 obtain ⟨e1,e2⟩:=GG (k:=Rf) (by kernel_rfl)
 rw[e1];have eP:(rfP Rf).toList=[17,18]:=by kernel_rfl
 have eG:rfG Rf = .tmp 16:=by kernel_rfl
 have hlen:∀pre,(swA (tab (2 ^ log) c) pre).length=2 ^ log:=fun pre=>by rw[C8x,NN]
 refine Cm (ps:=rfP Rf) e2 hs1 (gf:=104) (caps:=[(64,0)]) (A2 Tryz.func104 rfl rfl) (fun pre=>tfS (swA (tab (2 ^ log) c) pre) (2 ^ log) (log:Int) w) (fun s=>by rw[eG];rfl) ⟨_,rfl⟩ (prs log (2 ^ log)) B9a B8z
  (fun y z=>.cons ⟨rfl,0,rfl⟩ (.cons ⟨rfl,0,rfl⟩ .nil)) (fun z=>by rw[<-Array.length_toList,eP];rfl) (fun pre p hp=>?_) (A2i hlog fun s=>rfl) (fun pre z=>tfB (swA (tab (2 ^ log) c) pre) (2 ^ log) (log:Int) w z.1 z.2)
  (fun pre z=>tfE (swA (tab (2 ^ log) c) (pre++[z])) (2 ^ log) (log:Int) w) (fun pre z=>⟨_,rfl⟩) (fun pre z hz w1 F1 K1 as1 Q1 l y b hs2 hQ=>?_) (fun pre z hz w1 F1 K1 as1 Q1 l y b hs2 hQ=>?_) fun D y hs2 hD hF hd=>?_
 ·rw[eP] at hp
  have h102:(tfS (swA (tab (2 ^ log) c) pre) (2 ^ log) (log:Int) w).nt=102:=rfl;rw[h102];simp only[List.mem_cons,List.not_mem_nil,or_false] at hp;rcases hp with rfl | rfl<;>decide
 ·rw[eP] at hs2
  exact B0q hs2 hQ
 ·obtain ⟨t,ht⟩:=hz
  obtain ⟨g1,g2⟩:=A5p (log:=log) (z:=z) (n:=2 ^ log) (by rw[ht];simp)
  rw[YP] at hQ;exact C9d g1 g2 (hlen pre) hs2 hQ
 ·have hs3:=hs2.marked rfl rfl D
  have eL:swA (tab (2 ^ log) c) (prs log (2 ^ log))=tab (2 ^ log) (Fh c (G3 w) log 0):=by
   rw[Wx c log _ (Nat.le_refl _)];refine O7 fun q hq=>?_
   rw[C8y c hq];exact (A1c c (G3 w) rfl log q).symm
  rw[eL] at hs3;obtain ⟨M,hMe⟩:∃M,M=max (2 ^ log / 2) 1:=⟨_,rfl⟩
  have hm:(if (1:Int) > wrap .i64 (Int.tdiv ((2 ^ log:Nat):Int) (2:Int)) then (1:Int) else wrap .i64 (Int.tdiv ((2 ^ log:Nat):Int) (2:Int)))=(M:Int):=by
   generalize 2 ^ log=N at *;have e:wrap .i64 (Int.tdiv (N:Int) (2:Int))=((N / 2:Nat):Int):=by
    rw[Int.tdiv_eq_ediv_of_nonneg (by omega)]
    exact A9 (by omega) (by omega)
   rw[e,hMe];split<;>omega
  have hMb:M<=65536∧2 ^ log<=2*M:=by
   clear hm;have he:2 ^ log=1∨2 ^ log=2*2 ^ (log-1):=by
    cases log with
    | zero=>exact .inl rfl
    | succ l=>exact .inr Nat.pow_succ'
   generalize 2 ^ (log-1)=N2 at *;generalize 2 ^ log=N at *;omega
  refine tg _ _ (log:Int) w ⟨A4,by rw[hm];omega,by rw[hm];omega,C4⟩ hs3 fun ac cZ aZ hs4=>?_
  rw[hm,Int.toNat_natCast] at hs4;refine B0r hlog hw hMb.1 hMb.2 (fun ac y2 b2 hs5=>?_) (hs4.nx _)
  refine tn _ _ _ _ _ ⟨by simp,C4⟩ hs5 fun ac cV aV hs6=>⟨?_⟩
  have eR:tab (2 ^ log) (Fh c (G3 w) log log)=D3l c w (2 ^ log):=O7 fun q hq=>A9o c (G3 w) log q hq
  rw[eR] at hs6;exact A8x Ax hk hm0 rfl hs2 hD hF hd rfl rfl rfl (fun _ _ h=>h) (.inr ⟨_,_,rfl,rfl,rfl⟩) hs6
end S4
namespace S4
section
variable {r:Nat} [NeZero r]
theorem A6b(f:Nat->Nat->Fin r)(n:Nat):∀m,sm (fun i=>sm (f i) n) m=sm (fun j=>sm (fun i=>f i j) m) n
 | 0=>by
  show 0=sm (fun _=>(0:Fin r)) n
  exact (A6c n).symm
 | m+1=>by
  show sm (fun i=>sm (f i) n) m+sm (f m) n=sm (fun j=>sm (fun i=>f i j) m+f m j) n
  rw[A6b f n m,C0f]
theorem A6a(k:Fin r)(f:Nat->Fin r)(n:Nat):sm (fun i=>f i*k) n=sm f n*k:=by
 rw[Z5 (sm f n) k,<-QV];exact Q0 n fun i _=>Z5 _ _
theorem C3u(z s p:Fin r)(h:(z-1)*s=p-1):(z-1)*(s+p)=p*z-1:=by grind
theorem A2g(z:Fin r):z-z=0:=by grind
theorem A0e(z:Fin r):z*0=0:=by grind
theorem geo(z:Fin r):∀n,(z-1)*sm (pw z) n=pw z n-1
 | 0=>by
  show (z-1)*0=1-1;rw[A0e,A2g]
 | n+1=>C3u z _ _ (geo z n)
theorem D2z(a b c d:Fin r):a*b*(c*d)=a*c*(b*d):=by grind
theorem NK(x y:Fin r):∀n,pw (x*y) n=pw x n*pw y n
 | 0=>(Ei _).symm
 | n+1=>by
  show pw (x*y) n*(x*y)=pw x n*x*(pw y n*y);rw[NK x y n,D2z]
theorem A5s{w u:Fin r}(hwu:w*u=1)(k:Nat):pw w k*pw u k=1:=by
 rw[<-NK,hwu,Ap]
theorem A8z{a b:Fin r}(h:a*b=1)(hb:b = -1):a = -1:=by grind
theorem B0w(h:1<r):((1:Fin r)).val=1:=Nat.mod_eq_of_lt (show 1<r from h)
theorem A3h{n:Nat}(hn:n<r):∀m,m<=n->(sm (fun _=>(1:Fin r)) m).val=m
 | 0,_=>by show (0:Fin r).val=0;simp
 | m+1,h=>by
  show (sm (fun _=>(1:Fin r)) m+1).val=m+1
  have:((1:Fin r)).val=1:=B0w (by omega)
  rw[Fin.val_add,A3h hn m (by omega),this,Nat.mod_eq_of_lt (by omega)]
end
def E0s(x:Fin rN):Fin rN:=pw x (rN-2)
theorem B8o(x:Fin rN)(hx:x≠0):x*E0s x=1:=by
 have h:=B3l x hx;have e:rN-1=(rN-2)+1:=by decide
 rw[e,R9] at h;rw[Z5];have e1:pw x 1=x:=GM x;rw[e1] at h;exact h
end S4
namespace S4
def OI:B2
 | [.v (.a [.int .i64 log,.ob (.fr w)])]=>some ([],.t [.c (.slc 0 0 (DW log w).length 4),.c (.int .i64 (if G7 log w then 0 else 40))],[.sq (.fr (DW log w))])
 | _=>none
def dN:D6:=dC.set (E0 dC.fn 83 OI)
theorem D0a:A7 Tryz.prog dN:=A8 Xb 83 OI (A2 Tryz.func83 rfl rfl) fun args o r es h _=>by
 unfold OI at h;split at h
 ·cases h;exact A7s _ _
 ·cases h
def smF(n:Int):U4:=E6 (Fin.ofNat rN n.toNat)
theorem smP(n:Int):let b:=wrap .u64 n;C2 dN Tryz.f24 3000 [.v (.c (.int .i64 n))] [false] [] []=(some ([((decide (n<(0:Int)))=false),(0<=b),(b<(18446744073709551616:Int))],((.v (.a [(.ob (.fr (S4.E6 (Fin.ofNat rN (b).toNat))))])),[]))):=by intros;kernel_rfl
theorem B0i(n:Int)(h0:0<=n)(h1:n<9223372036854775808):K2 Tryz.prog 24 [.v (.c (.int .i64 n))] (.v (.a [.ob (.fr (smF n))])) []:=by
 have r:=smP n;dsimp only at r;rw[Av h0 (by omega)] at r
 exact A6 D0a Tryz.func24 r ⟨decide_eq_false (by omega),h0,by omega,C4⟩
def ET:B2
 | [.v (.c (.int .i64 n))]=>some ([0<=n,n<9223372036854775808],.v (.a [.ob (.fr (smF n))]),[])
 | _=>none
def dS:D6:=dN.set (E0 dN.fn 24 ET)
theorem A3e:A7 Tryz.prog dS:=A8 D0a 24 ET (A2 Tryz.func24 rfl rfl) fun args o r es h ho=>by
 unfold ET at h;split at h
 ·cases h;exact B0i _ ho.1 ho.2.1
 ·cases h
def shF(w:Int):U4:=if w=0 then smF 1 else if w=1 then smF 7 else smF 49
theorem sh0(_z:Nat):C2 dS Tryz.f84 3000 [.v (.c (.int .i64 0))] [true] [] []=(some ([(((0:Int)==0)=true),(0<=(1:Int)),((1:Int)<(9223372036854775808:Int))],((.v (.a [(.ob (.fr (S4.smF (1:Int))))])),[]))):=by kernel_rfl
theorem sh1(_z:Nat):C2 dS Tryz.f84 3000 [.v (.c (.int .i64 1))] [false,true] [] []=(some ([(((1:Int)==0)=false),(((1:Int)==1)=true),(0<=(7:Int)),((7:Int)<(9223372036854775808:Int))],((.v (.a [(.ob (.fr (S4.smF (7:Int))))])),[]))):=by kernel_rfl
theorem sh2(_z:Nat):let b:Int:=49;C2 dS Tryz.f84 3000 [.v (.c (.int .i64 2))] [false,false,true] [] []=(some ([(((2:Int)==0)=false),(((2:Int)==1)=false),(((2:Int)==2)=true),(0<=b),(b<(9223372036854775808:Int))],((.v (.a [(.ob (.fr (S4.smF b)))])),[]))):=by intros;kernel_rfl
theorem B0f(w:Int)(h0:0<=w)(h1:w<3):K2 Tryz.prog 84 [.v (.c (.int .i64 w))] (.v (.a [.ob (.fr (shF w))])) []:=by
 have h:w=0∨w=1∨w=2:=by omega
 rcases h with rfl | rfl | rfl
 ·exact A6 A3e Tryz.func84 (sh0 0) ⟨A4,A4,A4,C4⟩
 ·exact A6 A3e Tryz.func84 (sh1 0) ⟨A4,A4,A4,A4,C4⟩
 ·exact A6 A3e Tryz.func84 (sh2 0) ⟨A4,A4,A4,A4,A4,C4⟩
def Wp:B2
 | [.v (.c (.int .i64 w))]=>some ([0<=w,w<3],.v (.a [.ob (.fr (shF w))]),[])
 | _=>none
def dT:D6:=dS.set (E0 dS.fn 84 Wp)
theorem DU:A7 Tryz.prog dT:=A8 A3e 84 Wp (A2 Tryz.func84 rfl rfl) fun args o r es h ho=>by
 unfold Wp at h;split at h
 ·cases h;exact B0f _ ho.1 ho.2.1
 ·cases h
end S4
namespace S4
section
variable {w0:World} {F0:Nat->Prop} {K:Kp} {ac:List Act} {Q:Exit->Act->World->Prop} {cX:C0} {aX:Act}
def Fg:List KI:=(run dT false 3000 (⟨[.code (B5 Tryz.f51)],.normal,D2 Tryz.f51.ntmps [.v (.c (.int .i64 dF))]⟩:G5) [false]).cfg.k
theorem nb(log:Int):let a:=Value.slice Option.none 0 0;let d:=B9 [(.val a),(.val a),(.val a)];let f:=S4.I4 log;let g:Int:=0;let h:=(S4.O6 log)=true;let b:=ite h log g;let i:=S4.DW b f;A5 [(((ite h g (40:Int)) != g)=false)]->Sg Tryz.prog (D2 Tryz.f51.ntmps [.v (.c (.int .i64 log))]) (B0 53 [2,4,6,7,26] [.pt 16 0,.pt 48 0,(.ii (ite ((S4.G7 b f)=true) g (40:Int))),(.ci (.slc 240 0 i.length 4)),.ii g] [16,48,240] [d,d,(D9 (.fr i))] 352 [] []) .normal (Fg) ([.code (B5 Tryz.f51)]):=E4 false 3000 [false] DU
def nbO(E:List U4)(e w :Int)(m0 m1 m2:Nat)(L0 L1 L2:List Fr):St:=B0 53 [2,4,6,7,26] [.pt 16 0,.pt 48 0,.v (.c (.int .i64 e)),.v (.c (.slc 240 0 E.length 4)),.v (.c (.int .i64 w))] [16,48,240,241,242,243] [(B9 [(.val (Value.slice Option.none 0 0)),(.val (Value.slice Option.none 0 0)),(.val (Value.slice Option.none 0 0))]),some (.fl [.slc 241 0 m0 4,.slc 242 0 m1 4,.slc 243 0 m2 4]),some (.sq (.fr E)),some (.sq (.s L0)),some (.sq (.s L1)),some (.sq (.s L2))] 352 [] []
def B6o(E:List U4)(e i :Int)(m0 m1 m2:Nat)(L0 L1 L2:List Fr)(h0 :Int)(h1 :Int)(h2 :Int):St:=B0 53 [2,4,6,7,8,9,26,32,33,34] [.pt 16 0,.pt 48 0,.ii e,(.ci (.slc 240 0 E.length 4)),.ii h0,.pt 448 0,.ii h1,(.ci (.slc 240 0 E.length 4)),(.ii (E.length:Int)),.v (.c (.int .i64 i))] [16,48,240,241,242,243,448] [(B9 [(.val (Value.slice Option.none 0 0)),(.val (Value.slice Option.none 0 0)),(.val (Value.slice Option.none 0 0))]),(B9 [(.slc 241 0 m0 4),(.slc 242 0 m1 4),(.slc 243 0 m2 4)]),(D9 (.fr E)),(D9 (.s L0)),(D9 (.s L1)),(D9 (.s L2)),(B9 [(.ob (.s (S4.E8 (S4.shF h2))))])] 528 [] []
def A0i(E:List U4)(e i:Int)(m0 m1 m2:Nat)(L0 L1 L2:List Fr):St:=B6o E e i m0 m1 m2 L0 L1 L2 (0:Int) (0:Int) (0:Int)
def HM:List KI:=(run dT false 3000 (⟨B7 Fg,.normal,nbO dF dF 0 dF dF dF dF dF dF⟩:G5) [true]).cfg.k
theorem E3i(E:List U4)(e:Int)(m0 m1 m2:Nat)(L0 L1 L2:List Fr):A5 [((decide (0<(3:Int)))=true),(0<=(0:Int)),(0<(3:Int))]->Sg Tryz.prog (nbO E e 0 m0 m1 m2 L0 L1 L2) (A0i E e (0:Int) m0 m1 m2 L0 L1 L2) .normal (HM) (B7 Fg):=E4 false 3000 [true] DU
section
variable (E:List U4) (e i:Int) (m0 m1 m2:Nat) (L0 L1 L2:List Fr)
theorem E3l:let a:=L0.length+1;let b:=i<(E.length:Int);A5 [((decide b)=true),(0<=i),b,(0=0),((i).toNat<E.length),(0<=(0:Int)),(0<(3:Int)),((a*32)<=140737488355328),(a<=maxLen),(m0=L0.length),(1=1),(0<=(0:Int)),(0<(3:Int))]->Sg Tryz.prog (A0i E e i m0 m1 m2 L0 L1 L2) (St.z (A0i E e (wrap .i64 (i+1)) a m1 m2 (L0++[((S4.E8 (E.getD i.toNat 0))*(S4.E8 (S4.shF (0:Int))))]) L1 L2) 832) .normal (D4 HM) (B7 HM):=E4 false 3000 [true] DU
theorem E3o:let a:=Value.slice Option.none 0 0;A5 [((decide (i<(E.length:Int)))=false)]->Sg Tryz.prog (A0i E e i m0 m1 m2 L0 L1 L2) (B0 53 [2,4,6,7,26] [.pt 16 0,.pt 48 0,.ii e,(.ci (.slc 240 0 E.length 4)),.ii 1] [16,48,240,241,242,243] [(B9 [(.val a),(.val a),(.val a)]),(B9 [(.slc 241 0 m0 4),(.slc 242 0 m1 4),(.slc 243 0 m2 4)]),(D9 (.fr E)),(D9 (.s L0)),(D9 (.s L1)),(D9 (.s L2))] 576 [] []) .normal (D4 Fg) (B7 HM):=E4 false 3000 [false] DU
def A0j(E:List U4)(e i:Int)(m0 m1 m2:Nat)(L0 L1 L2:List Fr):St:=B6o E e i m0 m1 m2 L0 L1 L2 (1:Int) (1:Int) (1:Int)
def HN:List KI:=(run dT false 3000 (⟨B7 Fg,.normal,nbO dF dF 1 dF dF dF dF dF dF⟩:G5) [true]).cfg.k
end
theorem E3j(E:List U4)(e:Int)(m0 m1 m2:Nat)(L0 L1 L2:List Fr):let a:=(1:Int)<(3:Int);A5 [((decide a)=true),(0<=(1:Int)),a]->Sg Tryz.prog (nbO E e 1 m0 m1 m2 L0 L1 L2) (A0j E e (0:Int) m0 m1 m2 L0 L1 L2) .normal (HN) (B7 Fg):=E4 false 3000 [true] DU
section
variable (E:List U4) (e i:Int) (m0 m1 m2:Nat) (L0 L1 L2:List Fr)
theorem E3m:let a:Int:=1;let b:=L1.length+1;let c:=i<(E.length:Int);A5 [((decide c)=true),(0<=i),c,(0=0),((i).toNat<E.length),(0<=a),(a<(3:Int)),((b*32)<=140737488355328),(b<=maxLen),(m1=L1.length),(1=1),(0<=a),(a<(3:Int))]->Sg Tryz.prog (A0j E e i m0 m1 m2 L0 L1 L2) (St.z (A0j E e (wrap .i64 (i+1)) m0 b m2 L0 (L1++[((S4.E8 (E.getD i.toNat 0))*(S4.E8 (S4.shF a)))]) L2) 832) .normal (D4 HN) (B7 HN):=E4 false 3000 [true] DU
theorem E3p:let a:=Value.slice Option.none 0 0;A5 [((decide (i<(E.length:Int)))=false)]->Sg Tryz.prog (A0j E e i m0 m1 m2 L0 L1 L2) (B0 53 [2,4,6,7,26] [.pt 16 0,.pt 48 0,.ii e,(.ci (.slc 240 0 E.length 4)),.ii 2] [16,48,240,241,242,243] [(B9 [(.val a),(.val a),(.val a)]),(B9 [(.slc 241 0 m0 4),(.slc 242 0 m1 4),(.slc 243 0 m2 4)]),(D9 (.fr E)),(D9 (.s L0)),(D9 (.s L1)),(D9 (.s L2))] 576 [] []) .normal (D4 Fg) (B7 HN):=E4 false 3000 [false] DU
def A0k(E:List U4)(e i:Int)(m0 m1 m2:Nat)(L0 L1 L2:List Fr):St:=B6o E e i m0 m1 m2 L0 L1 L2 (2:Int) (2:Int) (2:Int)
def HO:List KI:=(run dT false 3000 (⟨B7 Fg,.normal,nbO dF dF 2 dF dF dF dF dF dF⟩:G5) [true]).cfg.k
end
theorem E3k(E:List U4)(e:Int)(m0 m1 m2:Nat)(L0 L1 L2:List Fr):let a:=(2:Int)<(3:Int);A5 [((decide a)=true),(0<=(2:Int)),a]->Sg Tryz.prog (nbO E e 2 m0 m1 m2 L0 L1 L2) (A0k E e (0:Int) m0 m1 m2 L0 L1 L2) .normal (HO) (B7 Fg):=E4 false 3000 [true] DU
section
variable (E:List U4) (e i:Int) (m0 m1 m2:Nat) (L0 L1 L2:List Fr)
theorem E3n:let a:Int:=2;let b:=L2.length+1;let c:=i<(E.length:Int);A5 [((decide c)=true),(0<=i),c,(0=0),((i).toNat<E.length),(0<=a),(a<(3:Int)),((b*32)<=140737488355328),(b<=maxLen),(m2=L2.length),(1=1),(0<=a),(a<(3:Int))]->Sg Tryz.prog (A0k E e i m0 m1 m2 L0 L1 L2) (St.z (A0k E e (wrap .i64 (i+1)) m0 m1 b L0 L1 (L2++[((S4.E8 (E.getD i.toNat 0))*(S4.E8 (S4.shF a)))])) 832) .normal (D4 HO) (B7 HO):=E4 false 3000 [true] DU
theorem E3q:let a:=Value.slice Option.none 0 0;A5 [((decide (i<(E.length:Int)))=false)]->Sg Tryz.prog (A0k E e i m0 m1 m2 L0 L1 L2) (B0 53 [2,4,6,7,26] [.pt 16 0,.pt 48 0,.ii e,(.ci (.slc 240 0 E.length 4)),.ii 3] [16,48,240,241,242,243] [(B9 [(.val a),(.val a),(.val a)]),(B9 [(.slc 241 0 m0 4),(.slc 242 0 m1 4),(.slc 243 0 m2 4)]),(D9 (.fr E)),(D9 (.s L0)),(D9 (.s L1)),(D9 (.s L2))] 576 [] []) .normal (D4 Fg) (B7 HO):=E4 false 3000 [false] DU
def nbQ(_E:List U4)(e :Int)(m0 m1 m2:Nat)(L0 L1 L2:List Fr):St:=B0 53 [2,3] [.pt 16 0,.ii e] [16,241,242,243] [(B9 [(.slc 241 0 m0 4),(.slc 242 0 m1 4),(.slc 243 0 m2 4)]),(D9 (.s L0)),(D9 (.s L1)),(D9 (.s L2))] 432 [] []
end
theorem nbD(E:List U4)(e:Int)(m0 m1 m2:Nat)(L0 L1 L2:List Fr):A5 [((decide ((3:Int)<(3:Int)))=false)]->Sg Tryz.prog (nbO E e 3 m0 m1 m2 L0 L1 L2) (nbQ E e m0 m1 m2 L0 L1 L2) .ret ([]) (B7 Fg):=E4 false 3000 [false] DU
theorem B6p(E:List U4)(e:Int)(m0 m1 m2:Nat)(L0 L1 L2:List Fr):E2 dT Tryz.f51 false 3000 (⟨[],.ret,nbQ E e m0 m1 m2 L0 L1 L2⟩) [] [241,242,243] []=(some ([],((.t [(.a [(.slc 0 0 m0 4),(.slc 1 0 m1 4),(.slc 2 0 m2 4)]),(.c (.int .i64 e))]),[(.sq (.s L0)),(.sq (.s L1)),(.sq (.s L2))]))):=by kernel_rfl
end
end S4
namespace S4
def J1(E:List U4)(w:Int)(n:Nat):List Fr:=(List.range n).map fun (i:Nat)=>E8 (E.getD i 0)*E8 (shF w)
theorem P7(E:List U4)(w:Int)(n:Nat):(J1 E w n).length=n:=by simp [J1]
theorem Ly(E:List U4)(w:Int):J1 E w 0=[]:=rfl
theorem Lx(E:List U4)(w:Int)(n:Nat):J1 E w (n+1)=J1 E w n++[E8 (E.getD n 0)*E8 (shF w)]:=by
 unfold J1;rw[List.range_succ,List.map_append];rfl
theorem C5p{w0:World}{F0:Nat->Prop}{K:Kp}{Q:Exit->Act->World->Prop}(E:List U4)(e:Int)(m1 m2:Nat)(L1 L2:List Fr)(hN:E.length<=65536)(next:∀ac a y,Sim w0 F0 K ac (nbO E e 1 E.length m1 m2 (J1 E 0 E.length) L1 L2) y a->Wq Tryz.prog Q (D4 Fg) ac .normal a y.w)
  {ac:List Act} {a:Act} {y:C0} (h0:Sim w0 F0 K ac (A0i E e ((0:Nat):Int) 0 m1 m2 (J1 E 0 0) L1 L2) y a):Wq Tryz.prog Q HM ac .normal a y.w:=by
 refine I5 (fun i:{ i:Nat // i<=E.length }=>fun ac a W=>∃y,W=y.w∧Sim w0 F0 K ac (A0i E e i.1 i.1 m1 m2 (J1 E 0 i.1) L1 L2) y a) (fun i=>E.length-i.1) (c:=X5 HM) (k:=X8 HM) (by kernel_rfl) (fun i ih ac b w hI=>?_) ⟨0,Nat.zero_le _⟩ ⟨y,rfl,h0⟩
 obtain ⟨i,hi⟩:=i;obtain ⟨y,rfl,hs⟩:=hI;simp only at hs ih
 by_cases h:i<E.length
 ·refine E3l E e i i m1 m2 (J1 E 0 i) L1 L2 ⟨decide_eq_true (by omega),by omega,by omega,rfl,by omega,A4,A4,by rw[P7];omega,by rw[P7];exact Nat.le_trans (by omega:i+1<=65536) A4,(P7 E 0 i).symm,rfl,A4,A4,C4⟩ hs fun ac cZ aZ hs2=>?_
  have hw:wrap IntKind.i64 ((i:Int)+1)=((i+1:Nat):Int):=by rw[A9 (by omega) (by omega)];omega
  rw[hw,P7,Int.toNat_natCast] at hs2;refine ih ⟨i+1,by omega⟩ (by show E.length-(i+1)<E.length-i;omega) ac aZ _ ⟨cZ,rfl,?_⟩
  show Sim w0 F0 K ac (A0i E e ((i+1:Nat):Int) (i+1) m1 m2 (J1 E 0 (i+1)) L1 L2) cZ aZ;rw[Lx];exact hs2.nx 528
 ·have e' : i=E.length:=by omega
  subst e'
  refine E3o E e E.length E.length m1 m2 (J1 E 0 E.length) L1 L2 ⟨decide_eq_false (by omega),C4⟩ hs fun ac cZ aZ hs2=>?_
  exact next ac aZ cZ (hs2.nx 352)
theorem C5q{w0:World}{F0:Nat->Prop}{K:Kp}{Q:Exit->Act->World->Prop}(E:List U4)(e:Int)(m0 m2:Nat)(L0 L2:List Fr)(hN:E.length<=65536)(next:∀ac a y,Sim w0 F0 K ac (nbO E e 2 m0 E.length m2 L0 (J1 E 1 E.length) L2) y a->Wq Tryz.prog Q (D4 Fg) ac .normal a y.w)
  {ac:List Act} {a:Act} {y:C0} (h0:Sim w0 F0 K ac (A0j E e ((0:Nat):Int) m0 0 m2 L0 (J1 E 1 0) L2) y a):Wq Tryz.prog Q HN ac .normal a y.w:=by
 refine I5 (fun i:{ i:Nat // i<=E.length }=>fun ac a W=>∃y,W=y.w∧Sim w0 F0 K ac (A0j E e i.1 m0 i.1 m2 L0 (J1 E 1 i.1) L2) y a) (fun i=>E.length-i.1) (c:=X5 HN) (k:=X8 HN) (by kernel_rfl) (fun i ih ac b w hI=>?_) ⟨0,Nat.zero_le _⟩ ⟨y,rfl,h0⟩
 obtain ⟨i,hi⟩:=i;obtain ⟨y,rfl,hs⟩:=hI;simp only at hs ih
 by_cases h:i<E.length
 ·refine E3m E e i m0 i m2 L0 (J1 E 1 i) L2 ⟨decide_eq_true (by omega),by omega,by omega,rfl,by omega,A4,A4,by rw[P7];omega,by rw[P7];exact Nat.le_trans (by omega:i+1<=65536) A4,(P7 E 1 i).symm,rfl,A4,A4,C4⟩ hs fun ac cZ aZ hs2=>?_
  have hw:wrap IntKind.i64 ((i:Int)+1)=((i+1:Nat):Int):=by rw[A9 (by omega) (by omega)];omega
  rw[hw,P7,Int.toNat_natCast] at hs2;refine ih ⟨i+1,by omega⟩ (by show E.length-(i+1)<E.length-i;omega) ac aZ _ ⟨cZ,rfl,?_⟩
  show Sim w0 F0 K ac (A0j E e ((i+1:Nat):Int) m0 (i+1) m2 L0 (J1 E 1 (i+1)) L2) cZ aZ;rw[Lx];exact hs2.nx 528
 ·have e' : i=E.length:=by omega
  subst e'
  refine E3p E e E.length m0 E.length m2 L0 (J1 E 1 E.length) L2 ⟨decide_eq_false (by omega),C4⟩ hs fun ac cZ aZ hs2=>?_
  exact next ac aZ cZ (hs2.nx 352)
theorem C5r{w0:World}{F0:Nat->Prop}{K:Kp}{Q:Exit->Act->World->Prop}(E:List U4)(e:Int)(m0 m1:Nat)(L0 L1:List Fr)(hN:E.length<=65536)(next:∀ac a y,Sim w0 F0 K ac (nbO E e 3 m0 m1 E.length L0 L1 (J1 E 2 E.length)) y a->Wq Tryz.prog Q (D4 Fg) ac .normal a y.w)
  {ac:List Act} {a:Act} {y:C0} (h0:Sim w0 F0 K ac (A0k E e ((0:Nat):Int) m0 m1 0 L0 L1 (J1 E 2 0)) y a):Wq Tryz.prog Q HO ac .normal a y.w:=by
 refine I5 (fun i:{ i:Nat // i<=E.length }=>fun ac a W=>∃y,W=y.w∧Sim w0 F0 K ac (A0k E e i.1 m0 m1 i.1 L0 L1 (J1 E 2 i.1)) y a) (fun i=>E.length-i.1) (c:=X5 HO) (k:=X8 HO) (by kernel_rfl) (fun i ih ac b w hI=>?_) ⟨0,Nat.zero_le _⟩ ⟨y,rfl,h0⟩
 obtain ⟨i,hi⟩:=i;obtain ⟨y,rfl,hs⟩:=hI;simp only at hs ih
 by_cases h:i<E.length
 ·refine E3n E e i m0 m1 i L0 L1 (J1 E 2 i) ⟨decide_eq_true (by omega),by omega,by omega,rfl,by omega,A4,A4,by rw[P7];omega,by rw[P7];exact Nat.le_trans (by omega:i+1<=65536) A4,(P7 E 2 i).symm,rfl,A4,A4,C4⟩ hs fun ac cZ aZ hs2=>?_
  have hw:wrap IntKind.i64 ((i:Int)+1)=((i+1:Nat):Int):=by rw[A9 (by omega) (by omega)];omega
  rw[hw,P7,Int.toNat_natCast] at hs2;refine ih ⟨i+1,by omega⟩ (by show E.length-(i+1)<E.length-i;omega) ac aZ _ ⟨cZ,rfl,?_⟩
  show Sim w0 F0 K ac (A0k E e ((i+1:Nat):Int) m0 m1 (i+1) L0 L1 (J1 E 2 (i+1))) cZ aZ;rw[Lx];exact hs2.nx 528
 ·have e' : i=E.length:=by omega
  subst e'
  refine E3q E e E.length m0 m1 E.length L0 L1 (J1 E 2 E.length) ⟨decide_eq_false (by omega),C4⟩ hs fun ac cZ aZ hs2=>?_
  exact next ac aZ cZ (hs2.nx 352)
theorem C5s{w0:World}{F0:Nat->Prop}{K:Kp}{Q:Exit->Act->World->Prop}(E:List U4)(e:Int)(hN:E.length<=65536)(next:∀ac a y,Sim w0 F0 K ac (nbO E e 3 E.length E.length E.length (J1 E 0 E.length) (J1 E 1 E.length) (J1 E 2 E.length)) y a->Wq Tryz.prog Q (B7 Fg) ac .normal a y.w)
  {ac:List Act} {a:Act} {y:C0} (hs:Sim w0 F0 K ac (nbO E e 0 0 0 0 [] [] []) y a):Wq Tryz.prog Q Fg ac .normal a y.w:=by
 let I:{ w:Nat // w<=3 } -> List Act->Act->World->Prop:=fun w ac a W=>∃y,W=y.w∧Sim w0 F0 K ac (match w.1 with
  | 0=>nbO E e 0 0 0 0 [] [] []
  | 1=>nbO E e 1 E.length 0 0 (J1 E 0 E.length) [] []
  | 2=>nbO E e 2 E.length E.length 0 (J1 E 0 E.length) (J1 E 1 E.length) []
  | _=>nbO E e 3 E.length E.length E.length (J1 E 0 E.length) (J1 E 1 E.length) (J1 E 2 E.length)) y a
 have l0:(0:Nat)<=3:=by decide
 refine I5 I (fun w=>3-w.1) (c:=X5 Fg) (k:=X8 Fg) (by kernel_rfl) (fun w ih ac b W hI=>?_) ⟨0,l0⟩ (show I ⟨0,l0⟩ ac a y.w from ⟨y,rfl,hs⟩)
 obtain ⟨w,hw3⟩:=w;obtain ⟨y,rfl,hs⟩:=hI;match w,hw3 with
 | 0,_=>
  have hs:Sim w0 F0 K ac (nbO E e 0 0 0 0 [] [] []) y b:=hs;refine E3i E e 0 0 0 [] [] [] ⟨decide_eq_true A4,A4,A4,C4⟩ hs fun ac cZ aZ hs2=>?_
  have hs2:=hs2.nx 528;refine C5p E e 0 0 [] [] hN (fun ac a y h=>ih ⟨1,A4⟩ (by show 3-1<3-0;decide) ac a _ ⟨y,rfl,h⟩) ?_
  rw[Ly,show ((0:Nat):Int)=0 from rfl]
  exact hs2
 | 1,_=>
  have hs:Sim w0 F0 K ac (nbO E e 1 E.length 0 0 (J1 E 0 E.length) [] []) y b:=hs;refine E3j E e E.length 0 0 (J1 E 0 E.length) [] [] ⟨decide_eq_true A4,A4,A4,C4⟩ hs fun ac cZ aZ hs2=>?_
  have hs2:=hs2.nx 528;refine C5q E e E.length 0 (J1 E 0 E.length) [] hN (fun ac a y h=>ih ⟨2,A4⟩ (by show 3-2<3-1;decide) ac a _ ⟨y,rfl,h⟩) ?_
  rw[Ly,show ((0:Nat):Int)=0 from rfl]
  exact hs2
 | 2,_=>
  have hs:Sim w0 F0 K ac (nbO E e 2 E.length E.length 0 (J1 E 0 E.length) (J1 E 1 E.length) []) y b:=hs;refine E3k E e E.length E.length 0 (J1 E 0 E.length) (J1 E 1 E.length) [] ⟨decide_eq_true A4,A4,A4,C4⟩ hs fun ac cZ aZ hs2=>?_
  have hs2:=hs2.nx 528;refine C5r E e E.length E.length (J1 E 0 E.length) (J1 E 1 E.length) hN (fun ac a y h=>ih ⟨3,A4⟩ (by show 3-3<3-2;decide) ac a _ ⟨y,rfl,h⟩) ?_
  rw[Ly,show ((0:Nat):Int)=0 from rfl]
  exact hs2
 | 3,_=>exact next ac b y hs
theorem Ye(log:Int)(h:O6 log=true)(E:List U4)(hE:E=DW log (I4 log)) :
  K2 Tryz.prog 51 [.v (.c (.int .i64 log))] (.t [.a [.slc 0 0 E.length 4,.slc 1 0 E.length 4,.slc 2 0 E.length 4],.c (.int .i64 0)]) [.sq (.s (J1 E 0 E.length)),.sq (.s (J1 E 1 E.length)),.sq (.s (J1 E 2 E.length))]:=by
 have hd:G7 log (I4 log)=true:=by simp [G7,h]
 have hb:=V7 hd;have hlen:E.length<=65536:=by
  have hp:2 ^ log.toNat<=2 ^ 16:=Nat.pow_le_pow_right A4 (by omega)
  rw[hE];unfold DW;rw[if_pos hd,List.length_map,FV];exact hp
 refine H2 (fn:=Tryz.f51) (c:=B5 Tryz.f51) Tryz.func51 rfl rfl fun x b hk hF hs=>?_
 refine nb log ⟨by rw[if_pos h];rfl,C4⟩ hs fun ac cY aY hs1=>?_
 rw[if_pos h,hd,if_pos rfl,<-hE] at hs1;have n1:=hs1.nilB 241 1 (q:=.s []) (l' := [.slc 241 0 0 4,.val (.slice none 0 0),.val (.slice none 0 0)]) rfl rfl A4 A4 A4 rfl rfl ⟨.inr (.inl ⟨4,rfl,rfl⟩),.inl rfl,.inl rfl,C4⟩;have n2:=n1.nilB 242 1 (q:=.s []) (l' := [.slc 241 0 0 4,.slc 242 0 0 4,.val (.slice none 0 0)]) rfl rfl A4 A4 A4 rfl rfl ⟨.inl rfl,.inr (.inl ⟨4,rfl,rfl⟩),.inl rfl,C4⟩;have n3:=n2.nilB 243 1 (q:=.s []) (l' := [.slc 241 0 0 4,.slc 242 0 0 4,.slc 243 0 0 4]) rfl rfl A4 A4 A4 rfl rfl ⟨.inl rfl,.inl rfl,.inr (.inl ⟨4,rfl,rfl⟩),C4⟩;change Wq Tryz.prog _ _ _ _ _ (G4 (G4 (G4 cY 241) 242) 243).w
 refine C5s E 0 hlen (fun ac aZ cZ hs2=>?_) (n3.nx 352)
 refine nbD E 0 E.length E.length E.length (J1 E 0 E.length) (J1 E 1 E.length) (J1 E 2 E.length) ⟨decide_eq_false A4,C4⟩ hs2 fun ac cD aD hs3=>?_
 have hs4:Sim x.w x.F AD ac (nbQ E 0 E.length E.length E.length (J1 E 0 E.length) (J1 E 1 E.length) (J1 E 2 E.length)) cD aD:=hs3;exact H4 DU hk hF (B6p E 0 _ _ _ _ _ _) trivial (fun y v hd=>hd) hs4
end S4
section
section
variable {w0:World} {F0:Nat->Prop} {K:Kp} {ac:List Act} {Q:Exit->Act->World->Prop} {cX:C0} {aX:Act}
def W4(l:List A0)(p v:Int):SV:=.v (.a [.sl (.gate l),.int .i64 p,.int .i64 v])
def rc0(l:List A0)(p v:Int):G5:=⟨[.code (B5 Tryz.f15)],.normal,D2 Tryz.f15.ntmps [W4 l p v]⟩
def Fb:List KI:=(run AC false 3000 (rc0 dF dF dF:G5) [false,false,false,false]).cfg.k
theorem rIn(l:List A0)(p v:Int):let a:=(rc0 l p v:G5);let b:Int:=l.length;(A5 [((decide (b > (4096:Int)))=false),((decide (p<(0:Int)))=false),((decide (p > b))=false),((decide (v<(0:Int)))=false)])->(Sim w0 F0 K ac (a.σ) cX aX)->(∀ac cY aY,Sim w0 F0 K ac (B0 19 [0,1,7,8] [(.ci (.sl (.gate l))),(.ci (.clo 41 [(16,0)])),(.ii b),.ii 0] [16] [(B9 [(.sl (.gate l)),(.int .i64 p),(.int .i64 v)])] 560 [[],[]] [([],9),([],30)]) cY aY->Wq Tryz.prog Q (Fb) ac Exit.normal aY cY.w)->Wq Tryz.prog Q (a.k) ac a.x aX cX.w:=fun ho hs hK=>
 DN (unroll:=false) (n:=3000) (path:=[false,false,false,false]) (o:=⟨_,_,_,_,_,_,_⟩) I1 (by kernel_rfl) (by kernel_rfl) ho hs hK
def rS(l:List A0)(p v :Int)(i:Nat):St:=B0 19 [0,1,7,8] [(.ci (.sl (.gate l))),(.ci (.clo 41 [(16,0)])),(.ii (l.length:Int)),.v (.c (.int .i64 (i:Int)))] [16] [(B9 [(.sl (.gate l)),(.int .i64 p),(.int .i64 v)])] 560 [[],[]] [([],9),([],30)]
theorem C8a(l:List A0)(p v:Int):E2 AC Tryz.f15 false 3000 (rc0 l p v) [true,false,false] [] []=(some ([((decide ((l.length:Int) > (4096:Int)))=true)],((.ci (.lit false)),[]))):=by kernel_rfl
theorem C8b(l:List A0)(p v:Int):E2 AC Tryz.f15 false 3000 (rc0 l p v) [false,true,false] [] []=(some ([((decide ((l.length:Int) > (4096:Int)))=false),((decide (p<(0:Int)))=true)],((.ci (.lit false)),[]))):=by kernel_rfl
theorem C8c(l:List A0)(p v:Int):let a:Int:=l.length;E2 AC Tryz.f15 false 3000 (rc0 l p v) [false,false,true] [] []=(some ([((decide (a > (4096:Int)))=false),((decide (p<(0:Int)))=false),((decide (p > a))=true)],((.ci (.lit false)),[]))):=by intros;kernel_rfl
theorem C8d(l:List A0)(p v:Int):let a:Int:=l.length;E2 AC Tryz.f15 false 3000 (rc0 l p v) [false,false,false,true] [] []=(some ([((decide (a > (4096:Int)))=false),((decide (p<(0:Int)))=false),((decide (p > a))=false),((decide (v<(0:Int)))=true)],((.ci (.lit false)),[]))):=by intros;kernel_rfl
theorem D5k(l:List A0)(p v:Int)(i:Nat):E2 AC Tryz.f15 true 3000 (⟨B7 Fb,.normal,rS l p v i⟩) [false] [] []=(some ([((decide ((i:Int)<(l.length:Int)))=false)],((.ci (.bool (Bool.not (decide ((-1) >= (0:Int)))))),[]))):=by kernel_rfl
theorem C7u(l:List A0)(p v:Int)(i:Nat):let b:Int:=i;let c:Int:=0;let d:=b<(l.length:Int);E2 AC Tryz.f15 true 3000 (⟨B7 Fb,.normal,rS l p v i⟩) [true,true,true,true] [] []=(some ([((decide d)=true),(0<=b),d,((decide (0<(3:Int)))=true),(0<=c),(0<(3:Int)),((decide ((A0.a (List.getD l (b).toNat H7))<(-1)))=true),((decide (c >= c))=true)],((.ci (.bool (Bool.not (decide (b >= c))))),[]))):=by intros;kernel_rfl
theorem C7x(l:List A0)(p v:Int)(i:Nat):let c:Int:=i;let b:=A0.a (List.getD l (c).toNat H7);let d:Int:=0;let f:=c<(l.length:Int);E2 AC Tryz.f15 true 3000 (⟨B7 Fb,.normal,rS l p v i⟩) [true,true,false,true,true] [] []=(some ([((decide f)=true),(0<=c),f,((decide (0<(3:Int)))=true),(0<=d),(0<(3:Int)),((decide (b<(-1)))=false),((decide (b >= v))=true),((decide (d >= d))=true)],((.ci (.bool (Bool.not (decide (c >= d))))),[]))):=by intros;kernel_rfl
theorem C7v(l:List A0)(p v:Int)(i:Nat):let d:Int:=i;let c:=List.getD l (d).toNat H7;let f:Int:=3;let g:Int:=1;let h:=d<(l.length:Int);E2 AC Tryz.f15 true 3000 (⟨B7 Fb,.normal,rS l p v i⟩) [true,true,false,false,true,true,true] [] []=(some ([((decide h)=true),(0<=d),h,((decide (0<f))=true),(0<=(0:Int)),(0<f),((decide ((A0.a c)<(-1)))=false),((decide ((A0.a c) >= v))=false),((decide (g<f))=true),(0<=g),(g<f),((decide ((A0.b c)<(-1)))=true),((decide (g >= (0:Int)))=true)],((.ci (.bool (Bool.not (decide (d >= (0:Int)))))),[]))):=by intros;kernel_rfl
theorem C7y(l:List A0)(p v:Int)(i:Nat):let d:Int:=i;let c:=List.getD l (d).toNat H7;let f:Int:=3;let g:Int:=1;let h:=d<(l.length:Int);E2 AC Tryz.f15 true 3000 (⟨B7 Fb,.normal,rS l p v i⟩) [true,true,false,false,true,false,true,true] [] []=(some ([((decide h)=true),(0<=d),h,((decide (0<f))=true),(0<=(0:Int)),(0<f),((decide ((A0.a c)<(-1)))=false),((decide ((A0.a c) >= v))=false),((decide (g<f))=true),(0<=g),(g<f),((decide ((A0.b c)<(-1)))=false),((decide ((A0.b c) >= v))=true),((decide (g >= (0:Int)))=true)],((.ci (.bool (Bool.not (decide (d >= (0:Int)))))),[]))):=by intros;kernel_rfl
theorem C7w(l:List A0)(p v:Int)(i:Nat):let f:Int:=3;let g:Int:=i;let d:=List.getD l (g).toNat H7;let h:Int:=2;let j:=g<(l.length:Int);E2 AC Tryz.f15 true 3000 (⟨B7 Fb,.normal,rS l p v i⟩) [true,true,false,false,true,false,false,true,true,true] [] []=(some ([((decide j)=true),(0<=g),j,((decide (0<f))=true),(0<=(0:Int)),(0<f),((decide ((A0.a d)<(-1)))=false),((decide ((A0.a d) >= v))=false),((decide ((1:Int)<f))=true),(0<=(1:Int)),((1:Int)<f),((decide ((A0.b d)<(-1)))=false),((decide ((A0.b d) >= v))=false),((decide (h<f))=true),(0<=h),(h<f),((decide ((A0.c d)<(-1)))=true),((decide (h >= (0:Int)))=true)],((.ci (.bool (Bool.not (decide (g >= (0:Int)))))),[]))):=by intros;kernel_rfl
theorem C7z(l:List A0)(p v:Int)(i:Nat):let f:Int:=3;let g:Int:=i;let d:=List.getD l (g).toNat H7;let h:Int:=2;let j:=g<(l.length:Int);E2 AC Tryz.f15 true 3000 (⟨B7 Fb,.normal,rS l p v i⟩) [true,true,false,false,true,false,false,true,false,true,true] [] []=(some ([((decide j)=true),(0<=g),j,((decide (0<f))=true),(0<=(0:Int)),(0<f),((decide ((A0.a d)<(-1)))=false),((decide ((A0.a d) >= v))=false),((decide ((1:Int)<f))=true),(0<=(1:Int)),((1:Int)<f),((decide ((A0.b d)<(-1)))=false),((decide ((A0.b d) >= v))=false),((decide (h<f))=true),(0<=h),(h<f),((decide ((A0.c d)<(-1)))=false),((decide ((A0.c d) >= v))=true),((decide (h >= (0:Int)))=true)],((.ci (.bool (Bool.not (decide (g >= (0:Int)))))),[]))):=by intros;kernel_rfl
theorem rNx(l:List A0)(p v:Int)(i:Nat):let f:Int:=3;let g:Int:=l.length;let h:Int:=i;let d:=List.getD l (h).toNat H7;A5 [((decide (h<g))=true),(0<=h),(h<g),((decide (0<f))=true),(0<=(0:Int)),(0<f),((decide ((A0.a d)<(-1)))=false),((decide ((A0.a d) >= v))=false),((decide ((1:Int)<f))=true),(0<=(1:Int)),((1:Int)<f),((decide ((A0.b d)<(-1)))=false),((decide ((A0.b d) >= v))=false),((decide ((2:Int)<f))=true),(0<=(2:Int)),((2:Int)<f),((decide ((A0.c d)<(-1)))=false),((decide ((A0.c d) >= v))=false),((decide (f<f))=false),((decide ((-1) >= (0:Int)))=false)]->Sg Tryz.prog (rS l p v i) (B0 19 [0,1,7,8] [(.ci (.sl (.gate l))),(.ci (.clo 41 [(16,0)])),(.ii g),(.ii (wrap .i64 (h+1)))] [16] [(B9 [(.sl (.gate l)),(.int .i64 p),(.int .i64 v)])] 1952 [[],[]] [([],9),([],30)]) .normal (D4 Fb) (B7 Fb):=E4 true 235 [true,true,false,false,true,false,false,true,false,false,false,false] I1
end
end
set_option linter.unusedSimpArgs false
section
def Y4(v x:Int):Bool:=decide (-1<=x) && decide (x<v)
def XB(v:Int)(g:A0):Bool:=Y4 v g.a && Y4 v g.b && Y4 v g.c
def E9(l:List A0)(p v:Int):Bool:=decide (l.length<=4096) && decide (0<=p) && decide (p<=l.length) && decide (0<=v) && l.all (XB v)
theorem A9z(l:List A0)(p v:Int):K2 Tryz.prog 15 [W4 l p v] (.v (.c (.bool (E9 l p v)))) []:=by
 refine H2 (fn:=Tryz.f15) (c:=B5 Tryz.f15) Tryz.func15 rfl rfl fun x a hk hF hs=>?_
 by_cases h1:(l.length:Int) > 4096
 ·exact O4 I1 hk hF (C8a l p v) (by simp [A5];omega) (fun y w hd=>V0 (by simp [E9];omega) hd) hs
 by_cases h2:p<0
 ·exact O4 I1 hk hF (C8b l p v) (by simp [A5];omega) (fun y w hd=>V0 (by simp [E9];omega) hd) hs
 by_cases h3:p > (l.length:Int)
 ·exact O4 I1 hk hF (C8c l p v) (by simp [A5];omega) (fun y w hd=>V0 (by simp [E9];omega) hd) hs
 by_cases h4:v<0
 ·exact O4 I1 hk hF (C8d l p v) (by simp [A5];omega) (fun y w hd=>V0 (by simp [E9];omega) hd) hs
 refine rIn l p v (by simp [A5];omega) hs fun ac y b hs1=>?_
 have hb:E9 l p v=l.all (XB v):=by
  simp only[E9,show decide (l.length<=4096)=true from by simp;omega,show decide (0<=p)=true from by simp;omega,show decide (p<=(l.length:Int))=true from by simp;omega,show decide (0<=v)=true from by simp;omega,Bool.true_and]
 refine C5 (ι:={ i:Nat // i<=l.length∧E9 l p v=(l.drop i).all (XB v) }) (fun i=>rS l p v i.1) (fun i=>l.length-i.1) (c:=X5 Fb) (k:=X8 Fb) (by kernel_rfl) (fun i ih ac y b hs=>?_) ⟨0,Nat.zero_le _,by rw[hb];rfl⟩ hs1
 obtain ⟨i,hi,hall⟩:=i;simp only at ih hs
 by_cases h5:i<l.length
 ·rw[WO (XB v) H7 l i h5] at hall
  have hg:∃g,g=l.getD i H7:=⟨_,rfl⟩;obtain ⟨g,hg⟩:=hg;rw[<-hg] at hall;unfold XB at hall;clear hi;by_cases a1:g.a < -1
  ·have w:Y4 v g.a=false:=by simp only[Y4,Bool.and_eq_false_iff,decide_eq_false_iff_not];omega
   exact O4 I1 hk hF (C7u l p v i) (by simp only[A5,and_true,decide_eq_true_eq,decide_eq_false_iff_not,Int.toNat_natCast,IE,IF,IG,<-hg];omega) (fun y w' hd=>by
    rw[show E9 l p v = !(decide ((i:Int) >= 0)) from by rw[hall,w];simp];exact hd) hs
  by_cases c1:g.a >= v
  ·have w:Y4 v g.a=false:=by simp only[Y4,Bool.and_eq_false_iff,decide_eq_false_iff_not];omega
   exact O4 I1 hk hF (C7x l p v i) (by simp only[A5,and_true,decide_eq_true_eq,decide_eq_false_iff_not,Int.toNat_natCast,IE,IF,IG,<-hg];omega) (fun y w' hd=>by
    rw[show E9 l p v = !(decide ((i:Int) >= 0)) from by rw[hall,w];simp];exact hd) hs
  have w1:Y4 v g.a=true:=by simp only[Y4,Bool.and_eq_true,decide_eq_true_eq];omega
  by_cases a2:g.b < -1
  ·have w:Y4 v g.b=false:=by simp only[Y4,Bool.and_eq_false_iff,decide_eq_false_iff_not];omega
   exact O4 I1 hk hF (C7v l p v i) (by simp only[A5,and_true,decide_eq_true_eq,decide_eq_false_iff_not,Int.toNat_natCast,IE,IF,IG,<-hg];omega) (fun y w' hd=>by
    rw[show E9 l p v = !(decide ((i:Int) >= 0)) from by rw[hall,w];simp];exact hd) hs
  by_cases c2:g.b >= v
  ·have w:Y4 v g.b=false:=by simp only[Y4,Bool.and_eq_false_iff,decide_eq_false_iff_not];omega
   exact O4 I1 hk hF (C7y l p v i) (by simp only[A5,and_true,decide_eq_true_eq,decide_eq_false_iff_not,Int.toNat_natCast,IE,IF,IG,<-hg];omega) (fun y w' hd=>by
    rw[show E9 l p v = !(decide ((i:Int) >= 0)) from by rw[hall,w];simp];exact hd) hs
  have w2:Y4 v g.b=true:=by simp only[Y4,Bool.and_eq_true,decide_eq_true_eq];omega
  by_cases a3:g.c < -1
  ·have w:Y4 v g.c=false:=by simp only[Y4,Bool.and_eq_false_iff,decide_eq_false_iff_not];omega
   exact O4 I1 hk hF (C7w l p v i) (by simp only[A5,and_true,decide_eq_true_eq,decide_eq_false_iff_not,Int.toNat_natCast,IE,IF,IG,<-hg];omega) (fun y w' hd=>by
    rw[show E9 l p v = !(decide ((i:Int) >= 0)) from by rw[hall,w];simp];exact hd) hs
  by_cases c3:g.c >= v
  ·have w:Y4 v g.c=false:=by simp only[Y4,Bool.and_eq_false_iff,decide_eq_false_iff_not];omega
   exact O4 I1 hk hF (C7z l p v i) (by simp only[A5,and_true,decide_eq_true_eq,decide_eq_false_iff_not,Int.toNat_natCast,IE,IF,IG,<-hg];omega) (fun y w' hd=>by
    rw[show E9 l p v = !(decide ((i:Int) >= 0)) from by rw[hall,w];simp];exact hd) hs
  have w3:Y4 v g.c=true:=by simp only[Y4,Bool.and_eq_true,decide_eq_true_eq];omega
  refine rNx l p v i (by simp only[A5,and_true,decide_eq_true_eq,decide_eq_false_iff_not,Int.toNat_natCast,IE,IF,IG,<-hg];omega) hs fun ac y b hs2=>?_
  rw[A9 (by omega) (by omega)] at hs2
  exact ih ⟨i+1,h5,by rw[hall,w1,w2,w3];rfl⟩ (by show l.length-(i+1)<l.length-i;omega) ac y b (hs2.nx _)
 ·exact O4 I1 hk hF (D5k l p v i) (by simp [A5];omega) (fun y w hd=>by
   rw[show E9 l p v = !(decide (-(1:Int) >= 0)) from by rw[hall,List.drop_eq_nil_of_le (by omega)];rfl];exact hd) hs
end
section
section
variable {w0:World} {F0:Nat->Prop} {K:Kp} {ac:List Act} {Q:Exit->Act->World->Prop} {cX:C0} {aX:Act}
def Iu:B2
 | [.v (.a [.sl (.gate l),.int .i64 p,.int .i64 v])]=>some ([],.v (.c (.bool (E9 l p v))),[])
 | _=>none
def cvA:D6:=AC.set (E0 AC.fn 15 Iu)
theorem N4:A7 Tryz.prog cvA:=
 A8 I1 15 Iu (A2 Tryz.func15 rfl rfl) fun args o r es h _=>by
  unfold Iu at h;split at h
  ·cases h;exact A9z _ _ _
  ·cases h
def D6t(l:List A0)(p v:Int):G5:=⟨[.code (B5 Tryz.f4)],.normal,D2 Tryz.f4.ntmps [W4 l p v]⟩
theorem C8z(l:List A0)(p v:Int):E2 cvA Tryz.f4 false 3000 (D6t l p v) [true] [] []=(some ([((Bool.not (E9 l p v))=true)],((.t [(.c (.int .i64 0)),(.c (.int .i64 1))]),[]))):=by kernel_rfl
def Mc:List KI:=(run cvA false 3000 (D6t dF dF dF:G5) [false]).cfg.k
theorem E6q(l:List A0)(p v:Int):let a:=(D6t l p v:G5);(A5 [((Bool.not (E9 l p v))=false)])->(Sim w0 F0 K ac (a.σ) cX aX)->(∀ac cY aY,Sim w0 F0 K ac (B0 17 [1,4] [.pt 16 0,.ii 1] [16] [(B9 [(.sl (.gate l)),(.int .i64 p),(.int .i64 v)])] 128 [] []) cY aY->Wq Tryz.prog Q (Mc) ac Exit.normal aY cY.w)->Wq Tryz.prog Q (a.k) ac a.x aX cX.w:=fun ho hs hK=>
 DN (unroll:=false) (n:=3000) (path:=[false]) (o:=⟨_,_,_,_,_,_,_⟩) N4 (by kernel_rfl) (by kernel_rfl) ho hs hK
def szS(l:List A0)(p v :Int)(i:Nat):St:=B0 17 [1,4] [.pt 16 0,.v (.c (.int .i64 (i:Int)))] [16] [(B9 [(.sl (.gate l)),(.int .i64 p),(.int .i64 v)])] 128 [] []
theorem C9a(l:List A0)(p v:Int)(i:Nat):E2 cvA Tryz.f4 false 3000 (⟨B7 Mc,.normal,szS l p v i⟩) [false] [] []=(some ([(0<=(i:Int)),((decide ((wrap .i64 ((1:Int)*((2:Int) ^ (Min.min ((i:Int)).toNat 64))))<(l.length:Int)))=false)],((.t [(.c (.int .i64 (i:Int))),(.c (.int .i64 0))]),[]))):=by kernel_rfl
theorem szN(l:List A0)(p v:Int)(i:Nat):A5 [(0<=(i:Int)),((decide ((wrap .i64 ((1:Int)*((2:Int) ^ (Min.min ((i:Int)).toNat 64))))<(l.length:Int)))=true)]->Sg Tryz.prog (szS l p v i) (B0 17 [1,4] [.pt 16 0,(.ii (wrap .i64 ((i:Int)+1)))] [16] [(B9 [(.sl (.gate l)),(.int .i64 p),(.int .i64 v)])] 272 [] []) .normal (D4 Mc) (B7 Mc):=E4 false 3000 [true] N4
end
end
set_option linter.unusedSimpArgs false
section
def Az(n:Nat):Nat:=if n<=2 then 1 else if n<=4 then 2 else if n<=8 then 3 else if n<=16 then 4 else if n<=32 then 5 else if n<=64 then 6 else if n<=128 then 7 else if n<=256 then 8 else if n<=512 then 9 else if n<=1024 then 10 else if n<=2048 then 11 else 12
theorem D6j{i:Nat}(h:i<=62):wrap IntKind.i64 ((1:Int)*((2:Int) ^ (Min.min ((i:Nat):Int).toNat 64)))=((2 ^ i:Nat):Int):=by
 have h1:Min.min ((i:Nat):Int).toNat 64=i:=by
  rw[Int.toNat_natCast];show min i 64=i;omega
 rw[h1,Int.one_mul];have h2:((2:Int) ^ i)=((2 ^ i:Nat):Int):=by simp
 rw[h2];have h3:2 ^ i<=2 ^ 62:=Nat.pow_le_pow_right A4 h;generalize 2 ^ i=m at h3;exact A9 (by omega) (by omega)
theorem HH(n:Nat)(hn:n<=4096):1<=Az n∧Az n<=12∧n<=2 ^ Az n∧(Az n=1∨2 ^ (Az n-1)<n):=by
 unfold Az;repeat' split
 all_goals (refine ⟨A4,A4,?_,?_⟩<;>simp<;>omega)
theorem A0a{n i:Nat}(hn:n<=4096)(h1:1<=i)(h2:n<=2 ^ i)(h3:i=1∨2 ^ (i-1)<n):Az n=i:=by
 obtain ⟨a1,_,a2,a3⟩:=HH n hn;rcases Nat.lt_trichotomy (Az n) i with h | h | h
 ·have:2 ^ Az n<=2 ^ (i-1):=Nat.pow_le_pow_right A4 (by omega)
  omega
 ·exact h
 ·have:2 ^ i<=2 ^ (Az n-1):=Nat.pow_le_pow_right A4 (by omega)
  omega
def Ug(l:List A0)(p v:Int):SV:=if E9 l p v then .t [.c (.int .i64 (Az l.length:Int)),.c (.int .i64 0)] else .t [.c (.int .i64 0),.c (.int .i64 1)]
theorem YL(l:List A0)(p v:Int):K2 Tryz.prog 4 [W4 l p v] (Ug l p v) []:=by
 refine H2 (fn:=Tryz.f4) (c:=B5 Tryz.f4) Tryz.func4 rfl rfl fun x a hk hF hs=>?_
 by_cases hr:E9 l p v=true
 ·have hlen:l.length<=4096:=by simp [E9] at hr;omega
  have hR:Ug l p v = .t [.c (.int .i64 (Az l.length:Int)),.c (.int .i64 0)]:=by simp [Ug,hr]
  rw[hR];refine E6q l p v (by simp [A5,hr]) hs fun ac y b hs1=>?_
  refine C5 (ι:={ i:Nat // 1<=i∧i<13∧(i=1∨2 ^ (i-1)<l.length) }) (fun i=>szS l p v i.1) (fun i=>13-i.1) (c:=X5 Mc) (k:=X8 Mc) (by kernel_rfl) (fun i ih ac y b hs=>?_) ⟨1,A4,A4,.inl rfl⟩ hs1
  obtain ⟨i,hi1,hi2,hi3⟩:=i;simp only at ih hs
  have hsh:=D6j (i:=i) (by omega)
  by_cases h5:2 ^ i<l.length
  ·have hi4:i<12:=by
    rcases Nat.lt_or_ge i 12 with h | h
    ·exact h
    ·have:2 ^ 12<=2 ^ i:=Nat.pow_le_pow_right A4 h
     omega
   refine szN l p v i ⟨by omega,by rw[hsh];simpa using (by exact_mod_cast h5),C4⟩ hs fun ac y b hs2=>?_
   rw[A9 (by omega) (by omega)] at hs2
   exact ih ⟨i+1,by omega,by omega,.inr (by simpa using h5)⟩ (by show 13-(i+1)<13-i;omega) ac y b (hs2.nx _)
  ·refine O4 N4 hk hF (C9a l p v i) ⟨by omega,by rw[hsh];simp only[decide_eq_false_iff_not];intro h;exact h5 (by exact_mod_cast h),C4⟩ (fun y w hd=>?_) hs
   rw[A0a hlen hi1 (by omega) hi3]
   exact hd
 ·have hr' : E9 l p v=false:=by simpa using hr
  refine O4 N4 hk hF (C8z l p v) (by simp [A5,hr']) (fun y w hd=>?_) hs
  rw[Ug,hr'];exact hd
end
section
section
variable {w0:World} {F0:Nat->Prop} {K:Kp} {ac:List Act} {Q:Exit->Act->World->Prop} {cX:C0} {aX:Act}
def plO(l:Nat)(v:Value)(G:List A0)(P V w :Int):St:=B0 35 [0,1,7] [(.ci (.val (Value.func (Fn.yield l) (Array.mk ([]:List Value)) (Array.mk ([]:List Value))))),.pt 0 0,.v (.c (.int .i64 w))] [0] [(B9 [(It.vsl v (.gate G)),(.int .i64 P),(.int .i64 V)])] 32 [] []
def GW:List KI:=(run cvA false 3000 (⟨[.code (B5 Tryz.f103)],.normal,⟨Hm [.v (.c (.val (.func (.yield dF) #[] #[]))),.v (.c (.ptr 0 0))],one (.fl [.vsl dF (.gate dF),.int .i64 dF,.int .i64 dF]),Tryz.f103.ntmps,16,[]⟩⟩:G5) []).cfg.k
section
variable (l:Nat) (v:Value) (G:List A0) (P V:Int)
theorem pl:A5 []->Sg Tryz.prog (⟨Hm [.v (.c (.val (.func (.yield l) #[] #[]))),.v (.c (.ptr 0 0))],one (.fl [.vsl v (.gate G),.int .i64 P,.int .i64 V]),Tryz.f103.ntmps,16,[]⟩) (plO l v G P V (0:Int)) .normal (GW) ([.code (B5 Tryz.f103)]):=E4 false 3000 [] N4
def DD:List KI:=(run cvA false 3000 (⟨B7 GW,.normal,plO dF dF dF dF dF 0⟩:G5) [true]).cfg.k
theorem E4x:let a:=Array.mk ([]:List Value);let b:=It.vsl v (.gate G);A5 [((decide (0<(3:Int)))=true)]->Sg Tryz.prog (plO l v G P V 0) (B0 35 [0,1,3,7,11,12,13] [(.ci (.val (Value.func (Fn.yield l) a a))),.pt 0 0,.ii 0,.ii 0,(.ci b),(.ii (G.length:Int)),.ii 0] [0] [(B9 [b,(.int .i64 P),(.int .i64 V)])] 144 [] []) .normal (DD) (B7 GW):=E4 false 3000 [true] N4
def B8r(l:Nat)(v:Value)(G:List A0)(P V :Int)(i:Nat)(h0 :Int)(h1 :Int):St:=B0 35 [0,1,3,7,11,12,13] [(.ci (.val (Value.func (Fn.yield l) (Array.mk ([]:List Value)) (Array.mk ([]:List Value))))),.pt 0 0,.ii h0,.ii h1,(.ci (It.vsl v (.gate G))),(.ii (G.length:Int)),.v (.c (.int .i64 (i:Int)))] [0] [(B9 [(It.vsl v (.gate G)),(.int .i64 P),(.int .i64 V)])] 144 [] []
def A0w(l:Nat)(v:Value)(G:List A0)(P V:Int)(i:Nat):St:=B8r l v G P V i (0:Int) (0:Int)
def B8s:List KI:=(run cvA false 3000 (⟨B7 DD,.normal,A0w dF dF dF dF dF dF⟩:G5) [true,true]).cfg.k
end
section
variable (l:Nat) (v:Value) (G:List A0) (P V:Int) (i:Nat)
theorem E5k:let d:Int:=i;let c:=A0.a (List.getD G (d).toNat H7);let f:Int:=G.length;let g:Int:=0;let h:=Array.mk ([]:List Value);let b:=Value.func (Fn.yield l) h h;let j:=It.vsl v (.gate G);A5 [((decide (d<f))=true),(0<=d),(d<f),(0<=g),(0<(3:Int)),((decide (c >= g))=true)]->Sg Tryz.prog (A0w l v G P V i) (B0 35 [0,1,3,7,11,12,13,24,25,28,29] [(.ci (.val b)),.pt 0 0,.ii g,.ii g,(.ci j),(.ii f),(.ii d),(.ci (.lit true)),(.ci (.val b)),(.v (.a [(.int .i64 d),(.int .i64 g)])),(.ii c)] [0] [(B9 [j,(.int .i64 P),(.int .i64 V)])] 464 [] []) .normal (B8s) (B7 DD):=E4 false 3000 [true,true] N4
theorem E5e:let b:Int:=G.length;let c:Int:=i;let d:=Array.mk ([]:List Value);let f:=It.vsl v (.gate G);let g:Int:=0;A5 [((decide (c<b))=true),(0<=c),(c<b),(0<=g),(0<(3:Int)),((decide ((A0.a (List.getD G (c).toNat H7)) >= g))=false)]->Sg Tryz.prog (A0w l v G P V i) (B0 35 [0,1,3,7,11,12,13] [(.ci (.val (Value.func (Fn.yield l) d d))),.pt 0 0,.ii g,.ii g,(.ci f),(.ii b),(.ii (wrap .i64 (c+1)))] [0] [(B9 [f,(.int .i64 P),(.int .i64 V)])] 544 [] []) .normal (D4 DD) (B7 DD):=E4 false 3000 [true,false] N4
theorem E5h:A5 [((decide ((i:Int)<(G.length:Int)))=false)]->Sg Tryz.prog (A0w l v G P V i) (St.z (plO l v G P V (1:Int)) 192) .normal (D4 GW) (B7 DD):=E4 false 3000 [false] N4
def DF:List KI:=(run cvA false 3000 (⟨B7 GW,.normal,plO dF dF dF dF dF 1⟩:G5) [true]).cfg.k
end
theorem E4y(l:Nat)(v:Value)(G:List A0)(P V:Int):let a:=Array.mk ([]:List Value);let b:=It.vsl v (.gate G);A5 [((decide ((1:Int)<(3:Int)))=true)]->Sg Tryz.prog (plO l v G P V 1) (B0 35 [0,1,3,7,11,12,13] [(.ci (.val (Value.func (Fn.yield l) a a))),.pt 0 0,.ii 1,.ii 1,(.ci b),(.ii (G.length:Int)),.ii 0] [0] [(B9 [b,(.int .i64 P),(.int .i64 V)])] 144 [] []) .normal (DF) (B7 GW):=E4 false 3000 [true] N4
def A0x(l:Nat)(v:Value)(G:List A0)(P V:Int)(i:Nat):St:=B8r l v G P V i (1:Int) (1:Int)
def B8t:List KI:=(run cvA false 3000 (⟨B7 DF,.normal,A0x dF dF dF dF dF dF⟩:G5) [true,true]).cfg.k
section
variable (l:Nat) (v:Value) (G:List A0) (P V:Int) (i:Nat)
theorem E5l:let f:Int:=i;let d:=A0.b (List.getD G (f).toNat H7);let g:Int:=G.length;let h:Int:=1;let j:=Array.mk ([]:List Value);let c:=Value.func (Fn.yield l) j j;let k:=It.vsl v (.gate G);A5 [((decide (f<g))=true),(0<=f),(f<g),(0<=h),(h<(3:Int)),((decide (d >= (0:Int)))=true)]->Sg Tryz.prog (A0x l v G P V i) (B0 35 [0,1,3,7,11,12,13,24,25,28,29] [(.ci (.val c)),.pt 0 0,.ii h,.ii h,(.ci k),(.ii g),(.ii f),(.ci (.lit true)),(.ci (.val c)),(.v (.a [(.int .i64 f),(.int .i64 h)])),(.ii d)] [0] [(B9 [k,(.int .i64 P),(.int .i64 V)])] 464 [] []) .normal (B8t) (B7 DF):=E4 false 3000 [true,true] N4
theorem E5f:let a:Int:=G.length;let c:Int:=i;let d:=Array.mk ([]:List Value);let f:=It.vsl v (.gate G);let g:Int:=1;A5 [((decide (c<a))=true),(0<=c),(c<a),(0<=g),(g<(3:Int)),((decide ((A0.b (List.getD G (c).toNat H7)) >= (0:Int)))=false)]->Sg Tryz.prog (A0x l v G P V i) (B0 35 [0,1,3,7,11,12,13] [(.ci (.val (Value.func (Fn.yield l) d d))),.pt 0 0,.ii g,.ii g,(.ci f),(.ii a),(.ii (wrap .i64 (c+1)))] [0] [(B9 [f,(.int .i64 P),(.int .i64 V)])] 544 [] []) .normal (D4 DF) (B7 DF):=E4 false 3000 [true,false] N4
theorem E5i:A5 [((decide ((i:Int)<(G.length:Int)))=false)]->Sg Tryz.prog (A0x l v G P V i) (St.z (plO l v G P V (2:Int)) 192) .normal (D4 GW) (B7 DF):=E4 false 3000 [false] N4
def DG:List KI:=(run cvA false 3000 (⟨B7 GW,.normal,plO dF dF dF dF dF 2⟩:G5) [true]).cfg.k
end
theorem E4z(l:Nat)(v:Value)(G:List A0)(P V:Int):let a:=Array.mk ([]:List Value);let b:=It.vsl v (.gate G);A5 [((decide ((2:Int)<(3:Int)))=true)]->Sg Tryz.prog (plO l v G P V 2) (B0 35 [0,1,3,7,11,12,13] [(.ci (.val (Value.func (Fn.yield l) a a))),.pt 0 0,.ii 2,.ii 2,(.ci b),(.ii (G.length:Int)),.ii 0] [0] [(B9 [b,(.int .i64 P),(.int .i64 V)])] 144 [] []) .normal (DG) (B7 GW):=E4 false 3000 [true] N4
def A0y(l:Nat)(v:Value)(G:List A0)(P V:Int)(i:Nat):St:=B8r l v G P V i (2:Int) (2:Int)
def B8u:List KI:=(run cvA false 3000 (⟨B7 DG,.normal,A0y dF dF dF dF dF dF⟩:G5) [true,true]).cfg.k
section
variable (l:Nat) (v:Value) (G:List A0) (P V:Int) (i:Nat)
theorem E5m:let f:Int:=i;let d:=A0.c (List.getD G (f).toNat H7);let g:Int:=G.length;let h:Int:=2;let j:=Array.mk ([]:List Value);let b:=Value.func (Fn.yield l) j j;let k:=It.vsl v (.gate G);A5 [((decide (f<g))=true),(0<=f),(f<g),(0<=h),(h<(3:Int)),((decide (d >= (0:Int)))=true)]->Sg Tryz.prog (A0y l v G P V i) (B0 35 [0,1,3,7,11,12,13,24,25,28,29] [(.ci (.val b)),.pt 0 0,.ii h,.ii h,(.ci k),(.ii g),(.ii f),(.ci (.lit true)),(.ci (.val b)),(.v (.a [(.int .i64 f),(.int .i64 h)])),(.ii d)] [0] [(B9 [k,(.int .i64 P),(.int .i64 V)])] 464 [] []) .normal (B8u) (B7 DG):=E4 false 3000 [true,true] N4
theorem E5g:let a:Int:=G.length;let b:Int:=i;let d:=Array.mk ([]:List Value);let f:=It.vsl v (.gate G);let g:Int:=2;A5 [((decide (b<a))=true),(0<=b),(b<a),(0<=g),(g<(3:Int)),((decide ((A0.c (List.getD G (b).toNat H7)) >= (0:Int)))=false)]->Sg Tryz.prog (A0y l v G P V i) (B0 35 [0,1,3,7,11,12,13] [(.ci (.val (Value.func (Fn.yield l) d d))),.pt 0 0,.ii g,.ii g,(.ci f),(.ii a),(.ii (wrap .i64 (b+1)))] [0] [(B9 [f,(.int .i64 P),(.int .i64 V)])] 544 [] []) .normal (D4 DG) (B7 DG):=E4 false 3000 [true,false] N4
theorem E5j:A5 [((decide ((i:Int)<(G.length:Int)))=false)]->Sg Tryz.prog (A0y l v G P V i) (St.z (plO l v G P V (3:Int)) 192) .normal (D4 GW) (B7 DG):=E4 false 3000 [false] N4
theorem E5a:let a:=Array.mk ([]:List Value);let b:=It.vsl v (.gate G);A5 []->Sg Tryz.prog (⟨M7 (C7 .top [0,1,3,7,11,12,13,24,25,28,29] [.v (.c (.val (.func (.yield l) #[] #[]))),.v (.c (.ptr 0 0)),.v (.c (.int .i64 0)),.v (.c (.int .i64 0)),.v (.c (.vsl v (.gate G))),.v (.c (.int .i64 (G.length:Nat))),.v (.c (.int .i64 (i:Int))),.v (.c (.lit true)),.top,.top,.top]) 30 (.ci (.lit true)),one (.fl [.vsl v (.gate G),.int .i64 P,.int .i64 V]),35,480,[]⟩) (B0 35 [0,1,3,7,11,12,13] [(.ci (.val (Value.func (Fn.yield l) a a))),.pt 0 0,.ii 0,.ii 0,(.ci b),(.ii (G.length:Int)),(.ii (wrap .i64 ((i:Int)+1)))] [0] [(B9 [b,(.int .i64 P),(.int .i64 V)])] 544 [] []) .normal (D4 DD) (J4 B8s):=E4 false 3000 [] N4
theorem E5b:let a:=Array.mk ([]:List Value);let b:=It.vsl v (.gate G);A5 []->Sg Tryz.prog (⟨M7 (C7 .top [0,1,3,7,11,12,13,24,25,28,29] [.v (.c (.val (.func (.yield l) #[] #[]))),.v (.c (.ptr 0 0)),.v (.c (.int .i64 1)),.v (.c (.int .i64 1)),.v (.c (.vsl v (.gate G))),.v (.c (.int .i64 (G.length:Nat))),.v (.c (.int .i64 (i:Int))),.v (.c (.lit true)),.top,.top,.top]) 30 (.ci (.lit true)),one (.fl [.vsl v (.gate G),.int .i64 P,.int .i64 V]),35,480,[]⟩) (B0 35 [0,1,3,7,11,12,13] [(.ci (.val (Value.func (Fn.yield l) a a))),.pt 0 0,.ii 1,.ii 1,(.ci b),(.ii (G.length:Int)),(.ii (wrap .i64 ((i:Int)+1)))] [0] [(B9 [b,(.int .i64 P),(.int .i64 V)])] 544 [] []) .normal (D4 DF) (J4 B8t):=E4 false 3000 [] N4
theorem E5c:let a:=Array.mk ([]:List Value);let b:=It.vsl v (.gate G);A5 []->Sg Tryz.prog (⟨M7 (C7 .top [0,1,3,7,11,12,13,24,25,28,29] [.v (.c (.val (.func (.yield l) #[] #[]))),.v (.c (.ptr 0 0)),.v (.c (.int .i64 2)),.v (.c (.int .i64 2)),.v (.c (.vsl v (.gate G))),.v (.c (.int .i64 (G.length:Nat))),.v (.c (.int .i64 (i:Int))),.v (.c (.lit true)),.top,.top,.top]) 30 (.ci (.lit true)),one (.fl [.vsl v (.gate G),.int .i64 P,.int .i64 V]),35,480,[]⟩) (B0 35 [0,1,3,7,11,12,13] [(.ci (.val (Value.func (Fn.yield l) a a))),.pt 0 0,.ii 2,.ii 2,(.ci b),(.ii (G.length:Int)),(.ii (wrap .i64 ((i:Int)+1)))] [0] [(B9 [b,(.int .i64 P),(.int .i64 V)])] 544 [] []) .normal (D4 DG) (J4 B8u):=E4 false 3000 [] N4
end
theorem E5d(l:Nat)(v:Value)(G:List A0)(P V:Int):A5 [((decide ((3:Int)<(3:Int)))=false)]->Sg Tryz.prog (plO l v G P V 3) (B0 35 [] [] [0] [(B9 [(It.vsl v (.gate G)),(.int .i64 P),(.int .i64 V)])] 48 [] []) .normal ([]) (B7 GW):=E4 false 3000 [false] N4
end
end
end
end Go.Proofs.YtifiiigbedjceaaGreat
