/- Parts of a proof, one behind the other: WStim, PStim, WSrdc, PSrdc, WSprd, PSprd, PSprl, WSio, PSio, WSpls, PSpls, WSfr, Ji. No conditions. -/
import Derived.Test.YtefimjofjjdndaaGreatKsL
open Go.IntKind (wrap)
namespace Go.Proofs.YtefimjofjjdndaaGreat
noncomputable section
namespace S4
section
variable {w0:World} {F0:Nat->Prop} {K:Kp} {ac:List Act} {Q:Exit->Act->World->Prop} {cX:Ctx} {aX:Act}

def B5r:Env:=E4d.set (C7 E4d.fn 92 A6b)
theorem V2:A6 Tryz.prog B5r:=
 A4 B5w 92 A6b (A3 Tryz.func92 rfl rfl) fun args o r es h ho=>by
  unfold A6b at h;split at h
  ·cases h
   obtain ⟨h1,h2,h3,h4,h5,h6,h7,h8,h9,_⟩:=ho;exact D2u _ _ _ _ h1 h2 h3 h4 h5 h6 h7 h8 h9
  ·cases h

def tc0 (x y:Fr):Cfg:=⟨[.code (B7 Tryz.f47)],.normal,E4 Tryz.f47.ntmps [.v (.a [.ob (.s x)]),.v (.a [.ob (.s y)])]⟩

--@env B5r V2
def B0n:List KI:=(run B5r false 3000 ((fun (x y:Fr)=>(tc0 x y:Cfg)) default default) []).cfg.k
theorem tIn (x y:Fr) (ho:A7 []) (hs:Sim w0 F0 K ac (((tc0 x y:Cfg)).σ) cX aX) (hK:∀ac cY aY,Sim w0 F0 K ac (A8 208 [3,4,5,6,7,8,18,19] [.pt 32 0,.pt 48 0,.iu (0:Int),.iu (0:Int),.iu (0:Int),.iu (0:Int),(.v (.a [.ob (.s x)])),.ii (0:Int)] [32,48] [(eF_ [.ob (.s y)]),(eF_ [(.ob (.s (0:Fr)))])] 160 [] []) cY aY->Wq Tryz.prog Q (B0n) ac Exit.normal aY cY.w):Wq Tryz.prog Q (((tc0 x y:Cfg)).k) ac ((tc0 x y:Cfg)).x aX cX.w:=
 C0v (unroll:=false) (n:=3000) (path:=[]) (o:=⟨_,_,_,_,_,_,_⟩) V2 (by kernel_rfl) (by kernel_rfl) ho hs hK
def tS (x y:Fr) (i:Nat) (t0 t1 t2 t3:Int):St:=A8 208 [3,4,5,6,7,8,18,19] [.pt 32 0,.pt 48 0,.v (.c (.int .u64 t0)),.v (.c (.int .u64 t1)),.v (.c (.int .u64 t2)),.v (.c (.int .u64 t3)),(.v (.a [.ob (.s x)])),.v (.c (.int .i64 (i:Int)))] [32,48] [(eF_ [.ob (.s y)]),(eF_ [(.ob (.s (0:Fr)))])] 160 [] []
theorem H0b (x y:Fr) (i:Nat) (t0 t1 t2 t3:Int):I0 B5r Tryz.f47 false 3000 (⟨E7 B0n,.normal,tS x y i t0 t1 t2 t3⟩) [false] [] []=(some ([((decide ((i:Int)<(4:Int)))=false),(0<=t0),(t0<(18446744073709551616:Int)),(0<=t1),(t1<(18446744073709551616:Int)),(0<=t2),(t2<(18446744073709551616:Int)),(0<=t3),(t3<(18446744073709551616:Int)),((S4.D2 t0 t1 t2 t3)<(104871750350252380958895481016371931675381105001055275645207317399877162369026:Int))],((.v (.a [(.ob (.s (C2i ((S4.D2 t0 t1 t2 t3)).toNat)))])),[]))):=by kernel_rfl
def F3h:List KI:=(run B5r false 77 ((fun (x y:Fr) (i:Nat) (t0 t1 t2 t3:Int)=>(⟨E7 B0n,.normal,tS x y i t0 t1 t2 t3⟩:Cfg)) default default default default default default default) [true]).cfg.k
theorem tA (x y:Fr) (i:Nat) (t0 t1 t2 t3:Int) {w0:World} {F0:Nat->Prop} {K:Kp} {ac:List Act} {Q:Exit->Act->World->Prop} {cX:Ctx} {aX:Act} (ho:A7 [((decide ((i:Int)<(4:Int)))=true),(0<=(i:Int)),((i:Int)<(4:Int)),(0<=(0:Int)),(0<(4:Int)),(0<(Ob.k (.s y))),(0<=(A1 (Ob.n (.s x)) ((i:Int)).toNat)),((A1 (Ob.n (.s x)) ((i:Int)).toNat)<(18446744073709551616:Int)),(0<=(A1 (Ob.n (.s y)) 0)),((A1 (Ob.n (.s y)) 0)<(18446744073709551616:Int)),(0<=(((A1 (Ob.n (.s x)) ((i:Int)).toNat)*(A1 (Ob.n (.s y)) 0)) % (18446744073709551616:Int))),(0<=t0),(t0<(18446744073709551616:Int)),(0<=(0:Int)),(0<=(1:Int)),(0<=(wrap .u64 ((Prod.fst (A0 0 (((A1 (Ob.n (.s x)) ((i:Int)).toNat)*(A1 (Ob.n (.s y)) 0)) % (18446744073709551616:Int)) t0 (0:Int)))*(18446744069414584319:Int)))),((wrap .u64 ((Prod.fst (A0 0 (((A1 (Ob.n (.s x)) ((i:Int)).toNat)*(A1 (Ob.n (.s y)) 0)) % (18446744073709551616:Int)) t0 (0:Int)))*(18446744069414584319:Int)))<(18446744073709551616:Int)),(0<=(18446744069414584321:Int)),((18446744069414584321:Int)<(18446744073709551616:Int)),(0<=(((wrap .u64 ((Prod.fst (A0 0 (((A1 (Ob.n (.s x)) ((i:Int)).toNat)*(A1 (Ob.n (.s y)) 0)) % (18446744073709551616:Int)) t0 (0:Int)))*(18446744069414584319:Int)))*(18446744069414584321:Int)) % (18446744073709551616:Int))),(0<=(Prod.fst (A0 0 (((A1 (Ob.n (.s x)) ((i:Int)).toNat)*(A1 (Ob.n (.s y)) 0)) % (18446744073709551616:Int)) t0 (0:Int)))),((Prod.fst (A0 0 (((A1 (Ob.n (.s x)) ((i:Int)).toNat)*(A1 (Ob.n (.s y)) 0)) % (18446744073709551616:Int)) t0 (0:Int)))<(18446744073709551616:Int)),(0<=(0:Int)),(0<=(1:Int))]) (hs:Sim w0 F0 K ac (tS x y i t0 t1 t2 t3) cX aX) (hK:∀ac cY aY,Sim w0 F0 K ac (A8 208 [3,4,6,7,8,10,14,15,17,18,19] [.pt 32 0,.pt 48 0,.iu t1,.iu t2,.iu t3,(.iu (A1 (Ob.n (.s x)) ((i:Int)).toNat)),(.iu (wrap .u64 ((((A1 (Ob.n (.s x)) ((i:Int)).toNat)*(A1 (Ob.n (.s y)) 0)) / (18446744073709551616:Int))+(Prod.snd (A0 0 (((A1 (Ob.n (.s x)) ((i:Int)).toNat)*(A1 (Ob.n (.s y)) 0)) % (18446744073709551616:Int)) t0 (0:Int)))))),(.iu (wrap .u64 ((Prod.fst (A0 0 (((A1 (Ob.n (.s x)) ((i:Int)).toNat)*(A1 (Ob.n (.s y)) 0)) % (18446744073709551616:Int)) t0 (0:Int)))*(18446744069414584319:Int)))),(.iu (wrap .u64 ((((wrap .u64 ((Prod.fst (A0 0 (((A1 (Ob.n (.s x)) ((i:Int)).toNat)*(A1 (Ob.n (.s y)) 0)) % (18446744073709551616:Int)) t0 (0:Int)))*(18446744069414584319:Int)))*(18446744069414584321:Int)) / (18446744073709551616:Int))+(Prod.snd (A0 0 (((wrap .u64 ((Prod.fst (A0 0 (((A1 (Ob.n (.s x)) ((i:Int)).toNat)*(A1 (Ob.n (.s y)) 0)) % (18446744073709551616:Int)) t0 (0:Int)))*(18446744069414584319:Int)))*(18446744069414584321:Int)) % (18446744073709551616:Int)) (Prod.fst (A0 0 (((A1 (Ob.n (.s x)) ((i:Int)).toNat)*(A1 (Ob.n (.s y)) 0)) % (18446744073709551616:Int)) t0 (0:Int))) (0:Int)))))),(.v (.a [.ob (.s x)])),(.ii (i:Int))] [32,48] [(eF_ [.ob (.s y)]),(eF_ [(.ob (.s (0:Fr)))])] 880 [] []) cY aY->Wq Tryz.prog Q (F3h) ac Exit.normal aY cY.w):Wq Tryz.prog Q (E7 B0n) ac .normal aX cX.w:=
 A5 (unroll:=false) (n:=77) (path:=[true]) (o:=⟨_,_,_,_,_,_,_⟩) V2 (by kernel_rfl) (by kernel_rfl) ho hs hK
def tS1 (x y:Fr) (i:Nat) (t1 t2 t3 xi q up dn:Int):St:=A8 208 [3,4,6,7,8,10,14,15,17,18,19] [.pt 32 0,.pt 48 0,.iu t1,.iu t2,.iu t3,.v (.c (.int .u64 xi)),.v (.c (.int .u64 up)),.v (.c (.int .u64 q)),.v (.c (.int .u64 dn)),(.v (.a [.ob (.s x)])),(.ii (i:Int))] [32,48] [(eF_ [.ob (.s y)]),(eF_ [(.ob (.s (0:Fr)))])] 880 [] []
def F1s:List KI:=(run B5r false 94 ((fun (x y:Fr) (i:Nat) (t1 t2 t3 xi q up dn:Int)=>(⟨F3h,.normal,tS1 x y i t1 t2 t3 xi q up dn⟩:Cfg)) default default default default default default default default default default) []).cfg.k
theorem tB (x y:Fr) (i:Nat) (t1 t2 t3 xi q up dn:Int) (ho:A7 [(0<=(1:Int)),((1:Int)<(4:Int)),(1<(Ob.k (.s y))),(0<=xi),(xi<(18446744073709551616:Int)),(0<=(A1 (Ob.n (.s y)) 1)),((A1 (Ob.n (.s y)) 1)<(18446744073709551616:Int)),(0<=((xi*(A1 (Ob.n (.s y)) 1)) % (18446744073709551616:Int))),(0<=t1),(t1<(18446744073709551616:Int)),(0<=(0:Int)),(0<=(1:Int)),(0<=(Prod.fst (A0 0 ((xi*(A1 (Ob.n (.s y)) 1)) % (18446744073709551616:Int)) t1 (0:Int)))),(0<=up),(up<(18446744073709551616:Int)),(0<=(0:Int)),(0<=(1:Int)),(0<=q),(q<(18446744073709551616:Int)),(0<=(6034159408538082302:Int)),((6034159408538082302:Int)<(18446744073709551616:Int)),(0<=((q*(6034159408538082302:Int)) % (18446744073709551616:Int))),(0<=(Prod.fst (A0 0 (Prod.fst (A0 0 ((xi*(A1 (Ob.n (.s y)) 1)) % (18446744073709551616:Int)) t1 (0:Int))) up (0:Int)))),((Prod.fst (A0 0 (Prod.fst (A0 0 ((xi*(A1 (Ob.n (.s y)) 1)) % (18446744073709551616:Int)) t1 (0:Int))) up (0:Int)))<(18446744073709551616:Int)),(0<=(0:Int)),(0<=(1:Int)),(0<=(Prod.fst (A0 0 ((q*(6034159408538082302:Int)) % (18446744073709551616:Int)) (Prod.fst (A0 0 (Prod.fst (A0 0 ((xi*(A1 (Ob.n (.s y)) 1)) % (18446744073709551616:Int)) t1 (0:Int))) up (0:Int))) (0:Int)))),(0<=dn),(dn<(18446744073709551616:Int)),(0<=(0:Int)),(0<=(1:Int))]):Sg Tryz.prog (tS1 x y i t1 t2 t3 xi q up dn) (A8 208 [3,4,5,7,8,10,14,15,17,18,19] [.pt 32 0,.pt 48 0,(.iu (Prod.fst (A0 0 (Prod.fst (A0 0 ((q*(6034159408538082302:Int)) % (18446744073709551616:Int)) (Prod.fst (A0 0 (Prod.fst (A0 0 ((xi*(A1 (Ob.n (.s y)) 1)) % (18446744073709551616:Int)) t1 (0:Int))) up (0:Int))) (0:Int))) dn (0:Int)))),.iu t2,.iu t3,.iu xi,(.iu (wrap .u64 ((wrap .u64 (((xi*(A1 (Ob.n (.s y)) 1)) / (18446744073709551616:Int))+(Prod.snd (A0 0 ((xi*(A1 (Ob.n (.s y)) 1)) % (18446744073709551616:Int)) t1 (0:Int)))))+(Prod.snd (A0 0 (Prod.fst (A0 0 ((xi*(A1 (Ob.n (.s y)) 1)) % (18446744073709551616:Int)) t1 (0:Int))) up (0:Int)))))),.iu q,(.iu (wrap .u64 ((wrap .u64 (((q*(6034159408538082302:Int)) / (18446744073709551616:Int))+(Prod.snd (A0 0 ((q*(6034159408538082302:Int)) % (18446744073709551616:Int)) (Prod.fst (A0 0 (Prod.fst (A0 0 ((xi*(A1 (Ob.n (.s y)) 1)) % (18446744073709551616:Int)) t1 (0:Int))) up (0:Int))) (0:Int)))))+(Prod.snd (A0 0 (Prod.fst (A0 0 ((q*(6034159408538082302:Int)) % (18446744073709551616:Int)) (Prod.fst (A0 0 (Prod.fst (A0 0 ((xi*(A1 (Ob.n (.s y)) 1)) % (18446744073709551616:Int)) t1 (0:Int))) up (0:Int))) (0:Int))) dn (0:Int)))))),(.v (.a [.ob (.s x)])),(.ii (i:Int))] [32,48] [(eF_ [.ob (.s y)]),(eF_ [(.ob (.s (0:Fr)))])] 1904 [] []) .normal (F1s) (F3h):=fun hs hK=>
 A5 (unroll:=false) (n:=94) (path:=[]) (o:=⟨_,_,_,_,_,_,_⟩) V2 (by kernel_rfl) (by kernel_rfl) ho hs hK
def tS2 (x y:Fr) (i:Nat) (n0 t2 t3 xi q up dn:Int):St:=A8 208 [3,4,5,7,8,10,14,15,17,18,19] [.pt 32 0,.pt 48 0,.v (.c (.int .u64 n0)),.iu t2,.iu t3,.iu xi,.v (.c (.int .u64 up)),.iu q,.v (.c (.int .u64 dn)),(.v (.a [.ob (.s x)])),(.ii (i:Int))] [32,48] [(eF_ [.ob (.s y)]),(eF_ [(.ob (.s (0:Fr)))])] 1904 [] []
def F8n:List KI:=(run B5r false 94 ((fun (x y:Fr) (i:Nat) (n0 t2 t3 xi q up dn:Int)=>(⟨F1s,.normal,tS2 x y i n0 t2 t3 xi q up dn⟩:Cfg)) default default default default default default default default default default) []).cfg.k
theorem tC (x y:Fr) (i:Nat) (n0 t2 t3 xi q up dn:Int) (ho:A7 [(0<=(2:Int)),((2:Int)<(4:Int)),(2<(Ob.k (.s y))),(0<=xi),(xi<(18446744073709551616:Int)),(0<=(A1 (Ob.n (.s y)) 2)),((A1 (Ob.n (.s y)) 2)<(18446744073709551616:Int)),(0<=((xi*(A1 (Ob.n (.s y)) 2)) % (18446744073709551616:Int))),(0<=t2),(t2<(18446744073709551616:Int)),(0<=(0:Int)),(0<=(1:Int)),(0<=(Prod.fst (A0 0 ((xi*(A1 (Ob.n (.s y)) 2)) % (18446744073709551616:Int)) t2 (0:Int)))),(0<=up),(up<(18446744073709551616:Int)),(0<=(0:Int)),(0<=(1:Int)),(0<=q),(q<(18446744073709551616:Int)),(0<=(3691218898639771653:Int)),((3691218898639771653:Int)<(18446744073709551616:Int)),(0<=((q*(3691218898639771653:Int)) % (18446744073709551616:Int))),(0<=(Prod.fst (A0 0 (Prod.fst (A0 0 ((xi*(A1 (Ob.n (.s y)) 2)) % (18446744073709551616:Int)) t2 (0:Int))) up (0:Int)))),((Prod.fst (A0 0 (Prod.fst (A0 0 ((xi*(A1 (Ob.n (.s y)) 2)) % (18446744073709551616:Int)) t2 (0:Int))) up (0:Int)))<(18446744073709551616:Int)),(0<=(0:Int)),(0<=(1:Int)),(0<=(Prod.fst (A0 0 ((q*(3691218898639771653:Int)) % (18446744073709551616:Int)) (Prod.fst (A0 0 (Prod.fst (A0 0 ((xi*(A1 (Ob.n (.s y)) 2)) % (18446744073709551616:Int)) t2 (0:Int))) up (0:Int))) (0:Int)))),(0<=dn),(dn<(18446744073709551616:Int)),(0<=(0:Int)),(0<=(1:Int))]):Sg Tryz.prog (tS2 x y i n0 t2 t3 xi q up dn) (A8 208 [3,4,5,6,8,10,14,15,17,18,19] [.pt 32 0,.pt 48 0,.iu n0,(.iu (Prod.fst (A0 0 (Prod.fst (A0 0 ((q*(3691218898639771653:Int)) % (18446744073709551616:Int)) (Prod.fst (A0 0 (Prod.fst (A0 0 ((xi*(A1 (Ob.n (.s y)) 2)) % (18446744073709551616:Int)) t2 (0:Int))) up (0:Int))) (0:Int))) dn (0:Int)))),.iu t3,.iu xi,(.iu (wrap .u64 ((wrap .u64 (((xi*(A1 (Ob.n (.s y)) 2)) / (18446744073709551616:Int))+(Prod.snd (A0 0 ((xi*(A1 (Ob.n (.s y)) 2)) % (18446744073709551616:Int)) t2 (0:Int)))))+(Prod.snd (A0 0 (Prod.fst (A0 0 ((xi*(A1 (Ob.n (.s y)) 2)) % (18446744073709551616:Int)) t2 (0:Int))) up (0:Int)))))),.iu q,(.iu (wrap .u64 ((wrap .u64 (((q*(3691218898639771653:Int)) / (18446744073709551616:Int))+(Prod.snd (A0 0 ((q*(3691218898639771653:Int)) % (18446744073709551616:Int)) (Prod.fst (A0 0 (Prod.fst (A0 0 ((xi*(A1 (Ob.n (.s y)) 2)) % (18446744073709551616:Int)) t2 (0:Int))) up (0:Int))) (0:Int)))))+(Prod.snd (A0 0 (Prod.fst (A0 0 ((q*(3691218898639771653:Int)) % (18446744073709551616:Int)) (Prod.fst (A0 0 (Prod.fst (A0 0 ((xi*(A1 (Ob.n (.s y)) 2)) % (18446744073709551616:Int)) t2 (0:Int))) up (0:Int))) (0:Int))) dn (0:Int)))))),(.v (.a [.ob (.s x)])),(.ii (i:Int))] [32,48] [(eF_ [.ob (.s y)]),(eF_ [(.ob (.s (0:Fr)))])] 2928 [] []) .normal (F8n) (F1s):=fun hs hK=>
 A5 (unroll:=false) (n:=94) (path:=[]) (o:=⟨_,_,_,_,_,_,_⟩) V2 (by kernel_rfl) (by kernel_rfl) ho hs hK
def tS3 (x y:Fr) (i:Nat) (n0 n1 t3 xi q up dn:Int):St:=A8 208 [3,4,5,6,8,10,14,15,17,18,19] [.pt 32 0,.pt 48 0,.iu n0,.v (.c (.int .u64 n1)),.iu t3,.iu xi,.v (.c (.int .u64 up)),.iu q,.v (.c (.int .u64 dn)),(.v (.a [.ob (.s x)])),(.ii (i:Int))] [32,48] [(eF_ [.ob (.s y)]),(eF_ [(.ob (.s (0:Fr)))])] 2928 [] []
theorem tD (x y:Fr) (i:Nat) (n0 n1 t3 xi q up dn:Int) (ho:A7 [(0<=(3:Int)),((3:Int)<(4:Int)),(3<(Ob.k (.s y))),(0<=xi),(xi<(18446744073709551616:Int)),(0<=(A1 (Ob.n (.s y)) 3)),((A1 (Ob.n (.s y)) 3)<(18446744073709551616:Int)),(0<=((xi*(A1 (Ob.n (.s y)) 3)) % (18446744073709551616:Int))),(0<=t3),(t3<(18446744073709551616:Int)),(0<=(0:Int)),(0<=(1:Int)),(0<=(Prod.fst (A0 0 ((xi*(A1 (Ob.n (.s y)) 3)) % (18446744073709551616:Int)) t3 (0:Int)))),(0<=up),(up<(18446744073709551616:Int)),(0<=(0:Int)),(0<=(1:Int)),(0<=q),(q<(18446744073709551616:Int)),(0<=(8353516859464449352:Int)),((8353516859464449352:Int)<(18446744073709551616:Int)),(0<=((q*(8353516859464449352:Int)) % (18446744073709551616:Int))),(0<=(Prod.fst (A0 0 (Prod.fst (A0 0 ((xi*(A1 (Ob.n (.s y)) 3)) % (18446744073709551616:Int)) t3 (0:Int))) up (0:Int)))),((Prod.fst (A0 0 (Prod.fst (A0 0 ((xi*(A1 (Ob.n (.s y)) 3)) % (18446744073709551616:Int)) t3 (0:Int))) up (0:Int)))<(18446744073709551616:Int)),(0<=(0:Int)),(0<=(1:Int)),(0<=(Prod.fst (A0 0 ((q*(8353516859464449352:Int)) % (18446744073709551616:Int)) (Prod.fst (A0 0 (Prod.fst (A0 0 ((xi*(A1 (Ob.n (.s y)) 3)) % (18446744073709551616:Int)) t3 (0:Int))) up (0:Int))) (0:Int)))),(0<=dn),(dn<(18446744073709551616:Int)),(0<=(0:Int)),(0<=(1:Int))]):Sg Tryz.prog (tS3 x y i n0 n1 t3 xi q up dn) (A8 208 [3,4,5,6,7,8,18,19] [.pt 32 0,.pt 48 0,.iu n0,.iu n1,(.iu (Prod.fst (A0 0 (Prod.fst (A0 0 ((q*(8353516859464449352:Int)) % (18446744073709551616:Int)) (Prod.fst (A0 0 (Prod.fst (A0 0 ((xi*(A1 (Ob.n (.s y)) 3)) % (18446744073709551616:Int)) t3 (0:Int))) up (0:Int))) (0:Int))) dn (0:Int)))),(.iu (wrap .u64 ((wrap .u64 ((wrap .u64 (((q*(8353516859464449352:Int)) / (18446744073709551616:Int))+(Prod.snd (A0 0 ((q*(8353516859464449352:Int)) % (18446744073709551616:Int)) (Prod.fst (A0 0 (Prod.fst (A0 0 ((xi*(A1 (Ob.n (.s y)) 3)) % (18446744073709551616:Int)) t3 (0:Int))) up (0:Int))) (0:Int)))))+(Prod.snd (A0 0 (Prod.fst (A0 0 ((q*(8353516859464449352:Int)) % (18446744073709551616:Int)) (Prod.fst (A0 0 (Prod.fst (A0 0 ((xi*(A1 (Ob.n (.s y)) 3)) % (18446744073709551616:Int)) t3 (0:Int))) up (0:Int))) (0:Int))) dn (0:Int)))))+(wrap .u64 ((wrap .u64 (((xi*(A1 (Ob.n (.s y)) 3)) / (18446744073709551616:Int))+(Prod.snd (A0 0 ((xi*(A1 (Ob.n (.s y)) 3)) % (18446744073709551616:Int)) t3 (0:Int)))))+(Prod.snd (A0 0 (Prod.fst (A0 0 ((xi*(A1 (Ob.n (.s y)) 3)) % (18446744073709551616:Int)) t3 (0:Int))) up (0:Int)))))))),(.v (.a [.ob (.s x)])),(.ii (wrap .i64 ((i:Int)+1)))] [32,48] [(eF_ [.ob (.s y)]),(eF_ [(.ob (.s (0:Fr)))])] 4048 [] []) .normal (N8 B0n) (F8n):=fun hs hK=>
 A5 (unroll:=false) (n:=3000) (path:=[]) (o:=⟨_,_,_,_,_,_,_⟩) V2 (by kernel_rfl) (by kernel_rfl) ho hs hK
end
end S4

namespace S4

/-- Ahead of the i-th round. -/
structure H6d (x y:Fr) (i:Nat) (t0 t1 t2 t3:Int):Prop where
 i4:i<=4
 h0:0<=t0∧t0<18446744073709551616
 h1:0<=t1∧t1<18446744073709551616
 h2:0<=t2∧t2<18446744073709551616
 h3:0<=t3∧t3<18446744073709551616
 lt:D2 t0 t1 t2 t3<2*rN
 eq:∃Q:Nat,D2 t0 t1 t2 t3*((2 ^ (64*i):Nat):Int)=(((Ob.s x).n % 2 ^ (64*i):Nat):Int)*((Ob.s y).n:Int)+(Q:Int)*(rN:Int)

theorem B3p (x:Fr):(Ob.s x).n<rN:=Nat.mod_lt _ (by decide)

theorem E9j {x y:Fr} {i Q:Nat} {T T' q:Int} (hq:0<=q) (h:T*((2 ^ (64*i):Nat):Int)=(((Ob.s x).n % 2 ^ (64*i):Nat):Int)*((Ob.s y).n:Int)+(Q:Int)*(rN:Int))
  (h' : 18446744073709551616*T' = T+A1 (Ob.s x).n i*((Ob.s y).n:Int)+q*(rN:Int)) :
  ∃Q:Nat,T' * ((2 ^ (64*(i+1)):Nat):Int)=(((Ob.s x).n % 2 ^ (64*(i+1)):Nat):Int)*((Ob.s y).n:Int)+(Q:Int)*(rN:Int):=by
 obtain ⟨q,rfl⟩:=Int.eq_ofNat_of_zero_le hq;refine ⟨Q+q*2 ^ (64*i),?_⟩
 rw[B7o];have hp:(2:Nat) ^ (64*(i+1))=2 ^ (64*i)*18446744073709551616:=by rw[Nat.mul_add,Nat.pow_add]
 rw[hp];have hl:A1 (Ob.s x).n i=(((Ob.s x).n / 2 ^ (64*i) % 18446744073709551616:Nat):Int):=rfl;rw[hl] at h'
 generalize (Ob.s x).n / 2 ^ (64*i) % 18446744073709551616=xi at *;generalize (Ob.s x).n % 2 ^ (64*i)=X at *;generalize (Ob.s y).n=Y at *;generalize 2 ^ (64*i)=m at *;generalize rN=r at *;have e1:T' * ((m*18446744073709551616:Nat):Int)=(18446744073709551616*T')*(m:Int):=by
  rw[Int.natCast_mul,Int.mul_comm (m:Int),<-Int.mul_assoc,Int.mul_comm T'];rfl
 rw[e1,h',Int.add_mul,Int.add_mul,h];push_cast
 simp only[Int.add_mul,Int.mul_assoc];have e2:(xi:Int)*((Y:Int)*(m:Int))=(m:Int)*((xi:Int)*(Y:Int)):=by rw[<-Int.mul_assoc,Int.mul_comm]
 have e3:(q:Int)*((r:Int)*(m:Int))=(q:Int)*((m:Int)*(r:Int)):=by rw[Int.mul_comm (r:Int)]
 rw[e2,e3];omega

theorem D4n (z a b c d:Int):z*D2 a b c d=z*a+18446744073709551616*(z*b)+340282366920938463463374607431768211456*(z*c)+6277101735386680763835789423207666416102355444464034512896*(z*d):=by
 unfold D2;simp only[Int.mul_add,Int.mul_left_comm z]

def Lim (a:Int):Prop:=0<=a∧a<18446744073709551616

theorem B7u (n:Int):Lim (wrap IntKind.u64 n):=by
 unfold Lim;rw[B6p];omega

section
variable {w0:World} {F0:Nat->Prop} {K:Kp} {ac:List Act} {Q:Exit->Act->World->Prop} {cX:Ctx} {aX:Act}

theorem H0t (x y:Fr) (i:Nat) {t0 t1 t2 t3:Int} (hi:i<4) (h0:Lim t0) (hx:Lim (A1 (Ob.s x).n i)) (hy:Lim (A1 (Ob.s y).n 0)) (hs:Sim w0 F0 K ac (tS x y i t0 t1 t2 t3) cX aX)
  (k:∀lo up q dn:Int,A1 (Ob.s x).n i*A1 (Ob.s y).n 0+t0=lo+18446744073709551616*up->q*18446744069414584321+lo=18446744073709551616*dn->Lim lo->Lim up->Lim q->Lim dn ->
   ∀ac cY aY,Sim w0 F0 K ac (tS1 x y i t1 t2 t3 (A1 (Ob.s x).n i) q up dn) cY aY->Wq Tryz.prog Q F3h ac .normal aY cY.w):Wq Tryz.prog Q (E7 B0n) ac .normal aX cX.w:=by
 obtain ⟨a0,b0⟩:=h0;obtain ⟨x0,x1⟩:=hx;obtain ⟨y0,y1⟩:=hy;have e1:=E4o x0 x1 y0 y1 a0 b0;have sA:=@tA x y i t0 t1 t2 t3 w0 F0 K ac Q cX aX;rw[Int.toNat_natCast] at sA;generalize A1 (Ob.s x).n i=xi at *;obtain ⟨e1,l1,u1⟩:=e1;have hq:=B7u ((A0 0 ((xi*A1 (Ob.s y).n 0) % 18446744073709551616) t0 0).1*18446744069414584319);have e2:=E4o (b:=18446744069414584321) hq.1 hq.2 (by decide) (by decide) l1.1 l1.2
 have e3:=D0s (l:=(A0 0 ((xi*A1 (Ob.s y).n 0) % 18446744073709551616) t0 0).1) rfl;refine sA ?_ hs fun ac cY aY h=>?_
 ·refine ⟨by simp only[decide_eq_true_eq];omega,by omega,by omega,by decide,by decide,by show (0:Nat)<4;decide,x0,x1,y0,y1,by omega,a0,b0,by decide,by decide,hq.1,hq.2,by decide,by decide,by omega,l1.1,l1.2,by decide,by decide,trivial⟩
 ·refine k _ _ _ _ e1 ?_ l1 u1 hq e2.2.2 ac cY aY h
  have:=e2.1
  have:=e2.2.1
  omega

theorem G5q (x y:Fr) (i:Nat) {t1 t2 t3 xi q up dn:Int} (ht:Lim t1) (hx:Lim xi) (hq:Lim q) (hu:Lim up) (hd:Lim dn) (hy:Lim (A1 (Ob.s y).n 1)) (hs:Sim w0 F0 K ac (tS1 x y i t1 t2 t3 xi q up dn) cX aX)
  (k:∀lo up' n dn' : Int,xi*A1 (Ob.s y).n 1+t1+up=lo+18446744073709551616*up' -> q*6034159408538082302+lo+dn=n+18446744073709551616*dn' -> Lim lo->Lim up' -> Lim n->Lim dn' ->
   ∀ac cY aY,Sim w0 F0 K ac (tS2 x y i n t2 t3 xi q up' dn') cY aY->Wq Tryz.prog Q (F1s) ac .normal aY cY.w):Wq Tryz.prog Q F3h ac .normal aX cX.w:=by
 obtain ⟨e1,l1,u1,m1⟩:=mac hx.1 hx.2 hy.1 hy.2 ht.1 ht.2 hu.1 hu.2;obtain ⟨e2,l2,u2,m2⟩:=mac (b:=6034159408538082302) hq.1 hq.2 (by decide) (by decide) l1.1 l1.2 hd.1 hd.2
 refine tB x y i t1 t2 t3 xi q up dn ?_ hs fun ac cY aY h=>?_
 ·refine ⟨by decide,by decide,by show 1<4;decide,hx.1,hx.2,hy.1,hy.2,by omega,ht.1,ht.2,by decide,by decide,m1.1,hu.1,hu.2,by decide,by decide,hq.1,hq.2,by decide,by decide,by omega,l1.1,l1.2,by decide,by decide,m2.1,hd.1,hd.2,by decide,by decide,trivial⟩
 ·exact k _ _ _ _ e1 e2 l1 u1 l2 u2 ac cY aY h

theorem G7g (x y:Fr) (i:Nat) {n0 t2 t3 xi q up dn:Int} (ht:Lim t2) (hx:Lim xi) (hq:Lim q) (hu:Lim up) (hd:Lim dn) (hy:Lim (A1 (Ob.s y).n 2)) (hs:Sim w0 F0 K ac (tS2 x y i n0 t2 t3 xi q up dn) cX aX)
  (k:∀lo up' n dn' : Int,xi*A1 (Ob.s y).n 2+t2+up=lo+18446744073709551616*up' -> q*3691218898639771653+lo+dn=n+18446744073709551616*dn' -> Lim lo->Lim up' -> Lim n->Lim dn' ->
   ∀ac cY aY,Sim w0 F0 K ac (tS3 x y i n0 n t3 xi q up' dn') cY aY->Wq Tryz.prog Q (F8n) ac .normal aY cY.w):Wq Tryz.prog Q F1s ac .normal aX cX.w:=by
 obtain ⟨e1,l1,u1,m1⟩:=mac hx.1 hx.2 hy.1 hy.2 ht.1 ht.2 hu.1 hu.2;obtain ⟨e2,l2,u2,m2⟩:=mac (b:=3691218898639771653) hq.1 hq.2 (by decide) (by decide) l1.1 l1.2 hd.1 hd.2
 refine tC x y i n0 t2 t3 xi q up dn ?_ hs fun ac cY aY h=>?_
 ·refine ⟨by decide,by decide,by show 2<4;decide,hx.1,hx.2,hy.1,hy.2,by omega,ht.1,ht.2,by decide,by decide,m1.1,hu.1,hu.2,by decide,by decide,hq.1,hq.2,by decide,by decide,by omega,l1.1,l1.2,by decide,by decide,m2.1,hd.1,hd.2,by decide,by decide,trivial⟩
 ·exact k _ _ _ _ e1 e2 l1 u1 l2 u2 ac cY aY h

theorem G5o (x y:Fr) (i:Nat) (hi:i<4) {n0 n1 t3 xi q up dn:Int} (ht:Lim t3) (hx:Lim xi) (hq:Lim q) (hu:Lim up) (hd:Lim dn) (hy:Lim (A1 (Ob.s y).n 3)) (hs:Sim w0 F0 K ac (tS3 x y i n0 n1 t3 xi q up dn) cX aX)
  (k:∀lo up' n dn' : Int,xi*A1 (Ob.s y).n 3+t3+up=lo+18446744073709551616*up' -> q*8353516859464449352+lo+dn=n+18446744073709551616*dn' -> Lim lo->Lim up' -> Lim n->Lim dn' ->
   ∀ac cY aY,Sim w0 F0 K ac (tS x y (i+1) n0 n1 n (wrap IntKind.u64 (dn' + up'))) cY aY->Wq Tryz.prog Q (N8 B0n) ac .normal aY cY.w):Wq Tryz.prog Q F8n ac .normal aX cX.w:=by
 obtain ⟨e1,l1,u1,m1⟩:=mac hx.1 hx.2 hy.1 hy.2 ht.1 ht.2 hu.1 hu.2;obtain ⟨e2,l2,u2,m2⟩:=mac (b:=8353516859464449352) hq.1 hq.2 (by decide) (by decide) l1.1 l1.2 hd.1 hd.2
 refine tD x y i n0 n1 t3 xi q up dn ?_ hs fun ac cY aY h=>?_
 ·refine ⟨by decide,by decide,by show 3<4;decide,hx.1,hx.2,hy.1,hy.2,by omega,ht.1,ht.2,by decide,by decide,m1.1,hu.1,hu.2,by decide,by decide,hq.1,hq.2,by decide,by decide,by omega,l1.1,l1.2,by decide,by decide,m2.1,hd.1,hd.2,by decide,by decide,trivial⟩
 ·exact k _ _ _ _ e1 e2 l1 u1 l2 u2 ac cY aY ((by rw[B9 (by omega) (by omega)] at h;exact h.nx _))

end

theorem E2e {T:Int} (hT:0<=T) {b X Y Q r:Nat} (h:T*(b:Int)=(X:Int)*(Y:Int)+(Q:Int)*(r:Int)):T.toNat*b=X*Y+Q*r:=by
 rw[<-Int.toNat_of_nonneg hT] at h
 exact_mod_cast h

theorem E5p (x y:Fr):FnD Tryz.prog 47 [.v (.a [.ob (.s x)]),.v (.a [.ob (.s y)])] (.v (.a [.ob (.s (x*y))])) []:=by
 refine M9 (fn:=Tryz.f47) (c:=B7 Tryz.f47) Tryz.func47 rfl rfl fun cx ca hk hF hs=>?_
 refine tIn x y trivial hs fun ac cY aY hs1=>?_
 refine F4 (ι:={ p:Nat×Int×Int×Int×Int // H6d x y p.1 p.2.1 p.2.2.1 p.2.2.2.1 p.2.2.2.2 }) (fun p=>tS x y p.1.1 p.1.2.1 p.1.2.2.1 p.1.2.2.2.1 p.1.2.2.2.2) (fun p=>4-p.1.1) (c:=lpC B0n) (k:=lpR B0n) (by kernel_rfl) (fun p ih ac cY aY hs=>?_)
  ⟨(0,0,0,0,0),⟨by decide,by decide,by decide,by decide,by decide,by decide,0,by simp [D2,Nat.mod_one]⟩⟩ hs1
 obtain ⟨⟨i,t0,t1,t2,t3⟩,hI⟩:=p;simp only at ih hs hI
 obtain ⟨hi,⟨a0,b0⟩,⟨a1,b1⟩,⟨a2,b2⟩,⟨a3,b3⟩,hlt,Q,hQ⟩:=hI;obtain ⟨ey,y0,y0',y1,y1',y2,y2',y3,y3'⟩:=Y0 (Ob.s y).n (Nat.lt_trans (B3p y) (by decide))
 have hyr:((Ob.s y).n:Int)<(rN:Int):=by exact_mod_cast B3p y
 by_cases h5:i<4
 ·have hx0:0<=A1 (Ob.s x).n i:=Int.natCast_nonneg _
  have hx1:A1 (Ob.s x).n i<18446744073709551616:=by
   show (((Ob.s x).n / 2 ^ (64*i) % 18446744073709551616:Nat):Int)<18446744073709551616;omega
  have hround:=fun T' q hq=>E9j (x:=x) (y:=y) (i:=i) (Q:=Q) (T:=D2 t0 t1 t2 t3) (T' := T') (q:=q) hq hQ
  have hyn:((Ob.s y).n:Int)=D2 (A1 (Ob.s y).n 0) (A1 (Ob.s y).n 1) (A1 (Ob.s y).n 2) (A1 (Ob.s y).n 3):=ey;have hzz:A1 (Ob.s x).n i*((Ob.s y).n:Int)<=18446744073709551615*((Ob.s y).n:Int):=Int.mul_le_mul_of_nonneg_right (by omega) (by omega)
  have hz0:0<=A1 (Ob.s x).n i*((Ob.s y).n:Int):=Int.mul_nonneg hx0 (by omega)
  have hmul:=D4n (A1 (Ob.s x).n i) (A1 (Ob.s y).n 0) (A1 (Ob.s y).n 1) (A1 (Ob.s y).n 2) (A1 (Ob.s y).n 3);rw[<-hyn] at hmul;refine H0t x y i h5 ⟨a0,b0⟩ ⟨hx0,hx1⟩ ⟨y0,y0'⟩ hs fun lo0 up0 q dn0 eA eQ hlo0 hup0 hq hdn0 ac cY aY hs=>?_
  refine G5q x y i ⟨a1,b1⟩ ⟨hx0,hx1⟩ hq hup0 hdn0 ⟨y1,y1'⟩ hs fun lo1 up1 n0 dn1 eB eB' hlo1 hup1 hn0 hdn1 ac cY aY hs=>?_
  refine G7g x y i ⟨a2,b2⟩ ⟨hx0,hx1⟩ hq hup1 hdn1 ⟨y2,y2'⟩ hs fun lo2 up2 n1 dn2 eC eC' hlo2 hup2 hn1 hdn2 ac cY aY hs=>?_
  refine G5o x y i h5 ⟨a3,b3⟩ ⟨hx0,hx1⟩ hq hup2 hdn2 ⟨y3,y3'⟩ hs fun lo3 up3 n2 dn3 eD eD' hlo3 hup3 hn2 hdn3 ac cY aY hs=>?_
  have hall:18446744073709551616*D2 n0 n1 n2 (dn3+up3)=D2 t0 t1 t2 t3+A1 (Ob.s x).n i*((Ob.s y).n:Int)+q*(rN:Int):=by
   rw[hmul];clear hround hmul hzz hz0 hQ ih hyr hyn ey;unfold D2 rN;omega
  have hlt' : D2 n0 n1 n2 (dn3+up3)<2*rN:=by
   obtain ⟨q0,q1⟩:=hq;have:q*(rN:Int)<=18446744073709551615*(rN:Int):=Int.mul_le_mul_of_nonneg_right (by omega) (by omega)
   clear hround hmul hQ ih hyn ey;generalize A1 (Ob.s x).n i*((Ob.s y).n:Int)=z at *;generalize q*(rN:Int)=z' at *;omega
  have htop:wrap IntKind.u64 (dn3+up3)=dn3+up3:=by
   obtain ⟨_,_⟩:=hdn3;obtain ⟨_,_⟩:=hup3;obtain ⟨_,_⟩:=hn0;obtain ⟨_,_⟩:=hn1;obtain ⟨_,_⟩:=hn2;refine F5k (by omega) ?_
   unfold D2 rN at hlt';omega
  rw[htop] at hs;refine ih ⟨(i+1,n0,n1,n2,dn3+up3),⟨h5,hn0,hn1,hn2,?_,hlt',hround _ q hq.1 hall⟩⟩ (by show 4-(i+1)<4-i;omega) ac cY aY hs
  rw[<-htop];exact B7u _
 ·have hi4:i=4:=by omega
  subst hi4;refine C9v V2 hk hF (H0b x y 4 t0 t1 t2 t3) ?_ (fun z w hd=>?_) hs
  ·refine ⟨by decide,a0,b0,a1,b1,a2,b2,a3,b3,hlt,trivial⟩
  ·have hT:0<=D2 t0 t1 t2 t3:=by unfold D2;omega
   have:C2i (D2 t0 t1 t2 t3).toNat=x*y:=by
    refine F6i (Q:=Q) ?_
    have hX:(Ob.s x).n % 2 ^ (64*4)=(Ob.s x).n:=Nat.mod_eq_of_lt (Nat.lt_trans (B3p x) (by decide))
    rw[hX] at hQ;have h4:(2 ^ (64*4):Nat)=B4:=F1y;rw[h4] at hQ;exact E2e hT hQ
   rw[<-this];exact hd

end S4

namespace S4

def u4s (a b c d:Int):SV:=.v (.c (.sl (.u64 [a,b,c,d])))
def fl4 (a b c d:Int):En:=.fl [.int .u64 a,.int .u64 b,.int .u64 c,.int .u64 d]

def qd0 (o0 o1 o2 o3 a b c d more m0 m1 m2 m3:Int):Cfg:=⟨[.code (B7 Tryz.f125)],.normal,E5d Tryz.f125.ntmps 0 4 1 (fl4 o0 o1 o2 o3) [u4s a b c d,.v (.c (.int .u64 more)),u4s m0 m1 m2 m3]⟩

--@env B5r V2
--@unroll true
theorem rdX (o0 o1 o2 o3 a b c d more m0 m1 m2 m3:Int):B5a B5r Tryz.f125 true 3000 (qd0 o0 o1 o2 o3 a b c d more m0 m1 m2 m3) [true,true,true,true,false,true]=(some ([((decide (0<((4:Nat):Int)))=true),(0<=(0:Int)),(0<((4:Nat):Int)),(0<=(0:Int)),(0<((4:Nat):Int)),(0<=a),(0<=m0),(m0<(18446744073709551616:Int)),(0<=(0:Int)),(0<=(1:Int)),(0<=(0:Int)),(0<(8:Int)),((decide ((1:Int)<((4:Nat):Int)))=true),(0<=(1:Int)),((1:Int)<((4:Nat):Int)),(0<=(1:Int)),((1:Int)<((4:Nat):Int)),(0<=b),(0<=m1),(m1<(18446744073709551616:Int)),(0<=(Prod.snd (A0 1 a m0 (0:Int)))),((Prod.snd (A0 1 a m0 (0:Int)))<=(1:Int)),(0<=(1:Int)),((1:Int)<(8:Int)),((decide ((2:Int)<((4:Nat):Int)))=true),(0<=(2:Int)),((2:Int)<((4:Nat):Int)),(0<=(2:Int)),((2:Int)<((4:Nat):Int)),(0<=c),(0<=m2),(m2<(18446744073709551616:Int)),(0<=(Prod.snd (A0 1 b m1 (Prod.snd (A0 1 a m0 (0:Int)))))),((Prod.snd (A0 1 b m1 (Prod.snd (A0 1 a m0 (0:Int)))))<=(1:Int)),(0<=(2:Int)),((2:Int)<(8:Int)),((decide ((3:Int)<((4:Nat):Int)))=true),(0<=(3:Int)),((3:Int)<((4:Nat):Int)),(0<=(3:Int)),((3:Int)<((4:Nat):Int)),(0<=d),(0<=m3),(m3<(18446744073709551616:Int)),(0<=(Prod.snd (A0 1 c m2 (Prod.snd (A0 1 b m1 (Prod.snd (A0 1 a m0 (0:Int)))))))),((Prod.snd (A0 1 c m2 (Prod.snd (A0 1 b m1 (Prod.snd (A0 1 a m0 (0:Int)))))))<=(1:Int)),(0<=(3:Int)),((3:Int)<(8:Int)),((decide ((4:Int)<((4:Nat):Int)))=false),((decide (more >= (Prod.snd (A0 1 d m3 (Prod.snd (A0 1 c m2 (Prod.snd (A0 1 b m1 (Prod.snd (A0 1 a m0 (0:Int)))))))))))=true),(0<=((4:Nat):Int)),(((4:Nat):Int)<=(8:Int))],(.fl [(.int .u64 (Prod.fst (A0 1 a m0 (0:Int)))),(.int .u64 (Prod.fst (A0 1 b m1 (Prod.snd (A0 1 a m0 (0:Int)))))),(.int .u64 (Prod.fst (A0 1 c m2 (Prod.snd (A0 1 b m1 (Prod.snd (A0 1 a m0 (0:Int)))))))),(.int .u64 (Prod.fst (A0 1 d m3 (Prod.snd (A0 1 c m2 (Prod.snd (A0 1 b m1 (Prod.snd (A0 1 a m0 (0:Int))))))))))]))):=by kernel_rfl
theorem rdY (o0 o1 o2 o3 a b c d more m0 m1 m2 m3:Int):B5a B5r Tryz.f125 true 3000 (qd0 o0 o1 o2 o3 a b c d more m0 m1 m2 m3) [true,true,true,true,false,false]=(some ([((decide (0<((4:Nat):Int)))=true),(0<=(0:Int)),(0<((4:Nat):Int)),(0<=(0:Int)),(0<((4:Nat):Int)),(0<=a),(0<=m0),(m0<(18446744073709551616:Int)),(0<=(0:Int)),(0<=(1:Int)),(0<=(0:Int)),(0<(8:Int)),((decide ((1:Int)<((4:Nat):Int)))=true),(0<=(1:Int)),((1:Int)<((4:Nat):Int)),(0<=(1:Int)),((1:Int)<((4:Nat):Int)),(0<=b),(0<=m1),(m1<(18446744073709551616:Int)),(0<=(Prod.snd (A0 1 a m0 (0:Int)))),((Prod.snd (A0 1 a m0 (0:Int)))<=(1:Int)),(0<=(1:Int)),((1:Int)<(8:Int)),((decide ((2:Int)<((4:Nat):Int)))=true),(0<=(2:Int)),((2:Int)<((4:Nat):Int)),(0<=(2:Int)),((2:Int)<((4:Nat):Int)),(0<=c),(0<=m2),(m2<(18446744073709551616:Int)),(0<=(Prod.snd (A0 1 b m1 (Prod.snd (A0 1 a m0 (0:Int)))))),((Prod.snd (A0 1 b m1 (Prod.snd (A0 1 a m0 (0:Int)))))<=(1:Int)),(0<=(2:Int)),((2:Int)<(8:Int)),((decide ((3:Int)<((4:Nat):Int)))=true),(0<=(3:Int)),((3:Int)<((4:Nat):Int)),(0<=(3:Int)),((3:Int)<((4:Nat):Int)),(0<=d),(0<=m3),(m3<(18446744073709551616:Int)),(0<=(Prod.snd (A0 1 c m2 (Prod.snd (A0 1 b m1 (Prod.snd (A0 1 a m0 (0:Int)))))))),((Prod.snd (A0 1 c m2 (Prod.snd (A0 1 b m1 (Prod.snd (A0 1 a m0 (0:Int)))))))<=(1:Int)),(0<=(3:Int)),((3:Int)<(8:Int)),((decide ((4:Int)<((4:Nat):Int)))=false),((decide (more >= (Prod.snd (A0 1 d m3 (Prod.snd (A0 1 c m2 (Prod.snd (A0 1 b m1 (Prod.snd (A0 1 a m0 (0:Int)))))))))))=false)],(.fl [(.int .u64 a),(.int .u64 b),(.int .u64 c),(.int .u64 d)]))):=by kernel_rfl
end S4

namespace S4

theorem E7l {x:Ctx} {o:Ob} (hk:o.k=4) {a b c d:Int} (h:A1 o.n 0=a∧A1 o.n 1=b∧A1 o.n 2=c∧A1 o.n 3=d) {cs:List Value}
  (hc:C0 x.D [.int .u64 a,.int .u64 b,.int .u64 c,.int .u64 d] cs):C0 x.D [.ob o] cs:=by
 obtain ⟨cs',e,h'⟩:=B0d hk h (v:=.agg cs.toArray) ⟨cs,rfl,hc⟩;have e:cs=cs' := by simpa using e
 rw[e];exact h'

def A2l (n:Nat):U4:=Fin.ofNat B4 (n % rN)
theorem B2e (n:Nat):(A2l n).val=n % rN:=Nat.mod_eq_of_lt (Nat.lt_trans (Nat.mod_lt _ (by decide)) (by decide))

theorem E3o (o0 o1 o2 o3 a b c d:Int) (ha:Lim a) (hb:Lim b) (hc:Lim c) (hd:Lim d) (hn:D2 a b c d<2*rN) :
  MuC Tryz.prog 125 0 4 1 (fl4 o0 o1 o2 o3) [u4s a b c d,.v (.c (.int .u64 0)),u4s 18446744069414584321 6034159408538082302 3691218898639771653 8353516859464449352] (.fl [.ob (.fr (A2l (D2 a b c d).toNat))]):=by
 refine B1m (fn:=Tryz.f125) (c:=B7 Tryz.f125) Tryz.func125 rfl rfl fun x ac hk hm hs=>?_
 obtain ⟨ha,ha1⟩:=ha;obtain ⟨hb,hb1⟩:=hb;obtain ⟨hc,hc1⟩:=hc;obtain ⟨hd,hd1⟩:=hd;have r0:=rdX o0 o1 o2 o3 a b c d 0 18446744069414584321 6034159408538082302 3691218898639771653 8353516859464449352;have r1:=rdY o0 o1 o2 o3 a b c d 0 18446744069414584321 6034159408538082302 3691218898639771653 8353516859464449352;obtain ⟨e1,p1,p1',c1,c1'⟩:=E1 (y:=18446744069414584321) (c:=0) ha ha1 (by decide) (by decide) (by decide) (by decide)
 obtain ⟨e2,p2,p2',c2,c2'⟩:=E1 (y:=6034159408538082302) hb hb1 (by decide) (by decide) c1 c1'
 obtain ⟨e3,p3,p3',c3,c3'⟩:=E1 (y:=3691218898639771653) hc hc1 (by decide) (by decide) c2 c2'
 obtain ⟨e4,p4,p4',c4,c4'⟩:=E1 (y:=8353516859464449352) hd hd1 (by decide) (by decide) c3 c3'
 generalize hx1:A0 1 a 18446744069414584321 0=x1 at *;generalize hx2:A0 1 b 6034159408538082302 x1.2=x2 at *;generalize hx3:A0 1 c 3691218898639771653 x2.2=x3 at *;generalize hx4:A0 1 d 8353516859464449352 x3.2=x4 at *;clear hx1 hx2 hx3 hx4;unfold D2 rN at hn;have hnn:0<=D2 a b c d:=by unfold D2;omega
 have hN:((D2 a b c d).toNat:Int)=D2 a b c d:=Int.toNat_of_nonneg hnn;by_cases hz:x4.2=0
 ·refine B3m V2 hk hm r0 rfl ?_ (fun y cs hv=>E7l rfl ?_ hv) (.inl ⟨_,_,rfl,rfl⟩) hs
  ·simp only[A7,and_true,decide_eq_true_eq,decide_eq_false_iff_not];omega
  ·refine V7 p1 p1' p2 p2' p3 p3' p4 p4' ?_
   show ((A2l (D2 a b c d).toNat).val:Int)=_;have e:(A2l (D2 a b c d).toNat).val=(D2 a b c d).toNat-rN:=by
    rw[B2e];have h1:rN<=(D2 a b c d).toNat:=by unfold rN D2;omega
    have h2:(D2 a b c d).toNat<2*rN:=by unfold rN D2;omega
    rw[Nat.mod_eq_sub_mod h1,Nat.mod_eq_of_lt (by omega)]
   rw[e];unfold rN D2;omega
 ·refine B3m V2 hk hm r1 rfl ?_ (fun y cs hv=>E7l rfl ?_ hv) (.inl ⟨_,_,rfl,rfl⟩) hs
  ·simp only[A7,and_true,decide_eq_true_eq,decide_eq_false_iff_not];omega
  ·refine V7 ha ha1 hb hb1 hc hc1 hd hd1 ?_
   show ((A2l (D2 a b c d).toNat).val:Int)=_;have e:(A2l (D2 a b c d).toNat).val=(D2 a b c d).toNat:=by
    rw[B2e];exact Nat.mod_eq_of_lt (by unfold rN D2;omega)
   rw[e,hN];rfl

end S4

namespace S4
section
variable {w0:World} {F0:Nat->Prop} {K:Kp} {ac:List Act} {Q:Exit->Act->World->Prop} {cX:Ctx} {aX:Act}

def A9b:MuS:=fun off len es e rest=>
 match off,len,es,e,rest with
 | 0,4,1,.fl [.int .u64 _,.int .u64 _,.int .u64 _,.int .u64 _],[.v (.c (.sl (.u64 [a,b,c,d]))),.v (.c (.int .u64 more)),.v (.c (.sl (.u64 [m0,m1,m2,m3])))]=>
  some ([Lim a,Lim b,Lim c,Lim d,D2 a b c d<2*rN,more=0,m0=18446744069414584321,m1=6034159408538082302,m2=3691218898639771653,m3=8353516859464449352],.fl [.ob (.fr (A2l (D2 a b c d).toNat))])
 | _,_,_,_,_=>none

def A4b:Env:={ B5r with mu:=fun g=>if g=125 then some (mu1 A9b) else B5r.mu g }
theorem O7:A6 Tryz.prog A4b:=
 C7y V2 125 A9b (A3 Tryz.func125 rfl rfl) fun off len es e rest o e' h ho _ _=>by
  unfold A9b at h;split at h
  ·cases h
   obtain ⟨h1,h2,h3,h4,h5,h6,h7,h8,h9,h10,_⟩:=ho;subst h6 h7 h8 h9 h10;exact E3o _ _ _ _ _ _ _ _ h1 h2 h3 h4 h5
  ·cases h

def mR:SV:=u4s 18446744069414584321 6034159408538082302 3691218898639771653 8353516859464449352
def pd0 (o0 o1 o2 o3 a b c d y0 y1 y2 y3:Int):Cfg:=⟨[.code (B7 Tryz.f89)],.normal,E5d Tryz.f89.ntmps 0 4 1 (fl4 o0 o1 o2 o3) [u4s a b c d,u4s y0 y1 y2 y3,mR,.v (.c (.int .u64 18446744069414584319))]⟩

--@env A4b O7
def B0c:List KI:=(run A4b false 3000 ((fun (o0 o1 o2 o3 a b c d y0 y1 y2 y3:Int)=>(pd0 o0 o1 o2 o3 a b c d y0 y1 y2 y3:Cfg)) default default default default default default default default default default default default) []).cfg.k
theorem pIn (o0 o1 o2 o3 a b c d y0 y1 y2 y3:Int) {w0:World} {F0:Nat->Prop} {K:Kp} {ac:List Act} {Q:Exit->Act->World->Prop} {cX:Ctx} {aX:Act} (ho:A7 []) (hs:Sim w0 F0 K ac (((pd0 o0 o1 o2 o3 a b c d y0 y1 y2 y3:Cfg)).σ) cX aX) (hK:∀ac cY aY,Sim w0 F0 K ac (A8 176 [0,1,2,3,4,10,11,29,30] [(.ci (.slc 0 0 4 1)),(.ci (.sl (.u64 [a,b,c,d]))),(.ci (.sl (.u64 [y0,y1,y2,y3]))),(.ci (.sl (.u64 [(18446744069414584321:Int),(6034159408538082302:Int),(3691218898639771653:Int),(8353516859464449352:Int)]))),.iu (18446744069414584319:Int),.ii (4:Int),.pt 64 0,.ii (4:Int),.ii (0:Int)] [0,64] [(eF_ [(.int .u64 o0),(.int .u64 o1),(.int .u64 o2),(.int .u64 o3)]),(eF_ [(.int .u64 (0:Int)),(.int .u64 (0:Int)),(.int .u64 (0:Int)),(.int .u64 (0:Int)),(.int .u64 (0:Int)),(.int .u64 (0:Int)),(.int .u64 (0:Int)),(.int .u64 (0:Int)),(.int .u64 (0:Int)),(.int .u64 (0:Int))])] 112 [] []) cY aY->Wq Tryz.prog Q (B0c) ac Exit.normal aY cY.w):Wq Tryz.prog Q (((pd0 o0 o1 o2 o3 a b c d y0 y1 y2 y3:Cfg)).k) ac ((pd0 o0 o1 o2 o3 a b c d y0 y1 y2 y3:Cfg)).x aX cX.w:=
 C0v (unroll:=false) (n:=3000) (path:=[]) (o:=⟨_,_,_,_,_,_,_⟩) O7 (by kernel_rfl) (by kernel_rfl) ho hs hK
def pS (o0 o1 o2 o3 a b c d y0 y1 y2 y3:Int) (i:Nat) (r0 r1 r2 r3 r4 r5:Int):St:=A8 176 [0,1,2,3,4,10,11,29,30] [(.ci (.slc 0 0 4 1)),(.ci (.sl (.u64 [a,b,c,d]))),(.ci (.sl (.u64 [y0,y1,y2,y3]))),(.ci (.sl (.u64 [(18446744069414584321:Int),(6034159408538082302:Int),(3691218898639771653:Int),(8353516859464449352:Int)]))),.iu (18446744069414584319:Int),.ii (4:Int),.pt 64 0,.ii (4:Int),.v (.c (.int .i64 (i:Int)))] [0,64] [(eF_ [(.int .u64 o0),(.int .u64 o1),(.int .u64 o2),(.int .u64 o3)]),some (.fl [.int .u64 r0,.int .u64 r1,.int .u64 r2,.int .u64 r3,.int .u64 r4,.int .u64 r5,.int .u64 0,.int .u64 0,.int .u64 0,.int .u64 0])] 112 [] []
--@unroll true
def D5s:List KI:=(run A4b true 104 ((fun (o0 o1 o2 o3 a b c d y0 y1 y2 y3:Int) (i:Nat) (r0 r1 r2 r3 r4 r5:Int)=>(⟨E7 B0c,.normal,pS o0 o1 o2 o3 a b c d y0 y1 y2 y3 i r0 r1 r2 r3 r4 r5⟩:Cfg)) default default default default default default default default default default default default default default default default default default default) [true,true]).cfg.k
theorem pA (o0 o1 o2 o3 a b c d y0 y1 y2 y3:Int) (i:Nat) (r0 r1 r2 r3 r4 r5:Int) {w0:World} {F0:Nat->Prop} {K:Kp} {ac:List Act} {Q:Exit->Act->World->Prop} {cX:Ctx} {aX:Act} (ho:A7 [((decide ((i:Int)<(4:Int)))=true),(0<=(i:Int)),((i:Int)<((4:Nat):Int)),((decide (0<(4:Int)))=true),(0<=(0:Int)),(0<((4:Nat):Int)),(0<=(List.getD [a,b,c,d] ((i:Int)).toNat 0)),((List.getD [a,b,c,d] ((i:Int)).toNat 0)<(18446744073709551616:Int)),(0<=y0),(y0<(18446744073709551616:Int)),(0<=(0:Int)),(0<(10:Int)),(0<=(((List.getD [a,b,c,d] ((i:Int)).toNat 0)*y0) % (18446744073709551616:Int))),(0<=r0),(r0<(18446744073709551616:Int)),(0<=(0:Int)),(0<=(1:Int)),(0<=(Prod.fst (A0 0 (((List.getD [a,b,c,d] ((i:Int)).toNat 0)*y0) % (18446744073709551616:Int)) r0 (0:Int)))),(0<=(0:Int)),(0<(18446744073709551616:Int)),(0<=(0:Int)),(0<=(1:Int)),(0<=(0:Int)),(0<(10:Int))]) (hs:Sim w0 F0 K ac (pS o0 o1 o2 o3 a b c d y0 y1 y2 y3 i r0 r1 r2 r3 r4 r5) cX aX) (hK:∀ac cY aY,Sim w0 F0 K ac (A8 176 [0,1,2,3,4,10,11,13,14,29,30,37,38] [(.ci (.slc 0 0 4 1)),(.ci (.sl (.u64 [a,b,c,d]))),(.ci (.sl (.u64 [y0,y1,y2,y3]))),(.ci (.sl (.u64 [(18446744069414584321:Int),(6034159408538082302:Int),(3691218898639771653:Int),(8353516859464449352:Int)]))),.iu (18446744069414584319:Int),.ii (4:Int),.pt 64 0,(.iu (List.getD [a,b,c,d] ((i:Int)).toNat 0)),(.iu (wrap .u64 ((wrap .u64 ((((List.getD [a,b,c,d] ((i:Int)).toNat 0)*y0) / (18446744073709551616:Int))+(Prod.snd (A0 0 (((List.getD [a,b,c,d] ((i:Int)).toNat 0)*y0) % (18446744073709551616:Int)) r0 (0:Int)))))+(Prod.snd (A0 0 (Prod.fst (A0 0 (((List.getD [a,b,c,d] ((i:Int)).toNat 0)*y0) % (18446744073709551616:Int)) r0 (0:Int))) (0:Int) (0:Int)))))),.ii (4:Int),(.ii (i:Int)),.ii (4:Int),.ii (0:Int)] [0,64] [(eF_ [(.int .u64 o0),(.int .u64 o1),(.int .u64 o2),(.int .u64 o3)]),(eF_ [(.int .u64 (Prod.fst (A0 0 (Prod.fst (A0 0 (((List.getD [a,b,c,d] ((i:Int)).toNat 0)*y0) % (18446744073709551616:Int)) r0 (0:Int))) (0:Int) (0:Int)))),(.int .u64 r1),(.int .u64 r2),(.int .u64 r3),(.int .u64 r4),(.int .u64 r5),(.int .u64 (0:Int)),(.int .u64 (0:Int)),(.int .u64 (0:Int)),(.int .u64 (0:Int))])] 992 [] []) cY aY->Wq Tryz.prog Q (D5s) ac Exit.normal aY cY.w):Wq Tryz.prog Q (E7 B0c) ac .normal aX cX.w:=
 A5 (unroll:=true) (n:=104) (path:=[true,true]) (o:=⟨_,_,_,_,_,_,_⟩) O7 (by kernel_rfl) (by kernel_rfl) ho hs hK
theorem pX (o0 o1 o2 o3 a b c d y0 y1 y2 y3:Int) (i:Nat) (r0 r1 r2 r3 r4 r5:Int):B5a A4b Tryz.f89 true 3000 ⟨E7 B0c,.normal,pS o0 o1 o2 o3 a b c d y0 y1 y2 y3 i r0 r1 r2 r3 r4 r5⟩ [false]=(some ([((decide ((i:Int)<(4:Int)))=false),(0<=(4:Int)),((4:Int)<=(10:Int)),(0<=(4:Int)),((4:Int)<(10:Int)),(S4.Lim r0),(S4.Lim r1),(S4.Lim r2),(S4.Lim r3),((S4.D2 r0 r1 r2 r3)<(104871750350252380958895481016371931675381105001055275645207317399877162369026:Int)),(r4=(0:Int)),((18446744069414584321:Int)=(18446744069414584321:Int)),((6034159408538082302:Int)=(6034159408538082302:Int)),((3691218898639771653:Int)=(3691218898639771653:Int)),((8353516859464449352:Int)=(8353516859464449352:Int))],(.fl [(.ob (.fr (S4.A2l ((S4.D2 r0 r1 r2 r3)).toNat)))]))):=by kernel_rfl
def pS1 (o0 o1 o2 o3 a b c d y0 y1 y2 y3:Int) (i:Nat) (x cy r0 r1 r2 r3 r4 r5:Int):St:=A8 176 [0,1,2,3,4,10,11,13,14,29,30,37,38] [(.ci (.slc 0 0 4 1)),(.ci (.sl (.u64 [a,b,c,d]))),(.ci (.sl (.u64 [y0,y1,y2,y3]))),(.ci (.sl (.u64 [(18446744069414584321:Int),(6034159408538082302:Int),(3691218898639771653:Int),(8353516859464449352:Int)]))),.iu (18446744069414584319:Int),.ii (4:Int),.pt 64 0,.v (.c (.int .u64 x)),.v (.c (.int .u64 cy)),.ii (4:Int),(.ii (i:Int)),.ii (4:Int),.ii (0:Int)] [0,64] [(eF_ [(.int .u64 o0),(.int .u64 o1),(.int .u64 o2),(.int .u64 o3)]),some (.fl [.int .u64 r0,.int .u64 r1,.int .u64 r2,.int .u64 r3,.int .u64 r4,.int .u64 r5,.int .u64 0,.int .u64 0,.int .u64 0,.int .u64 0])] 992 [] []
def D5k:List KI:=(run A4b true 75 ((fun (o0 o1 o2 o3 a b c d y0 y1 y2 y3:Int) (i:Nat) (x cy r0 r1 r2 r3 r4 r5:Int)=>(⟨D5s,.normal,pS1 o0 o1 o2 o3 a b c d y0 y1 y2 y3 i x cy r0 r1 r2 r3 r4 r5⟩:Cfg)) default default default default default default default default default default default default default default default default default default default default default) [true]).cfg.k
theorem E6t (o0 o1 o2 o3 a b c d y0 y1 y2 y3:Int) (i:Nat) (x cy r0 r1 r2 r3 r4 r5:Int):A4k A4b true 75 ((⟨D5s,.normal,pS1 o0 o1 o2 o3 a b c d y0 y1 y2 y3 i x cy r0 r1 r2 r3 r4 r5⟩:Cfg)) [true] [0,1,2,3,4,10,11,13,14,29,30,37,38] [0,64] []=some ⟨[((decide ((1:Int)<(4:Int)))=true),((0:Int)<=(1:Int)),((1:Int)<((4:Nat):Int)),((0:Int)<=x),(x<(18446744073709551616:Int)),((0:Int)<=y1),(y1<(18446744073709551616:Int)),((0:Int)<=(1:Int)),((1:Int)<(10:Int)),((0:Int)<=((x*y1) % (18446744073709551616:Int))),((0:Int)<=r1),(r1<(18446744073709551616:Int)),((0:Int)<=(0:Int)),((0:Int)<=(1:Int)),((0:Int)<=(Prod.fst (A0 0 ((x*y1) % (18446744073709551616:Int)) r1 (0:Int)))),((0:Int)<=cy),(cy<(18446744073709551616:Int)),((0:Int)<=(0:Int)),((0:Int)<=(1:Int)),((0:Int)<=(1:Int)),((1:Int)<(10:Int))],Exit.normal,[(SV.v (V1.c (It.slc 0 0 4 1))),(SV.v (V1.c (It.sl (Sq.u64 [a,b,c,d])))),(SV.v (V1.c (It.sl (Sq.u64 [y0,y1,y2,y3])))),(SV.v (V1.c (It.sl (Sq.u64 [(18446744069414584321:Int),(6034159408538082302:Int),(3691218898639771653:Int),(8353516859464449352:Int)])))),(SV.v (V1.c (It.int IntKind.u64 (18446744069414584319:Int)))),(SV.v (V1.c (It.int IntKind.i64 (4:Int)))),(SV.v (V1.c (It.ptr 64 0))),(SV.v (V1.c (It.int IntKind.u64 x))),(SV.v (V1.c (It.int IntKind.u64 (wrap IntKind.u64 ((wrap IntKind.u64 (((x*y1) / (18446744073709551616:Int))+(Prod.snd (A0 0 ((x*y1) % (18446744073709551616:Int)) r1 (0:Int)))))+(Prod.snd (A0 0 (Prod.fst (A0 0 ((x*y1) % (18446744073709551616:Int)) r1 (0:Int))) cy (0:Int)))))))),(SV.v (V1.c (It.int IntKind.i64 (4:Int)))),(SV.v (V1.c (It.int IntKind.i64 ((i:Nat):Int)))),(SV.v (V1.c (It.int IntKind.i64 (4:Int)))),(SV.v (V1.c (It.int IntKind.i64 (1:Int))))],[(Option.some (En.fl [(It.int IntKind.u64 o0),(It.int IntKind.u64 o1),(It.int IntKind.u64 o2),(It.int IntKind.u64 o3)])),(Option.some (En.fl [(It.int IntKind.u64 r0),(It.int IntKind.u64 (Prod.fst (A0 0 (Prod.fst (A0 0 ((x*y1) % (18446744073709551616:Int)) r1 (0:Int))) cy (0:Int)))),(It.int IntKind.u64 r2),(It.int IntKind.u64 r3),(It.int IntKind.u64 r4),(It.int IntKind.u64 r5),(It.int IntKind.u64 (0:Int)),(It.int IntKind.u64 (0:Int)),(It.int IntKind.u64 (0:Int)),(It.int IntKind.u64 (0:Int))]))],176,1728,[]⟩:=by kernel_rfl
theorem F1g (o0 o1 o2 o3 a b c d y0 y1 y2 y3:Int) (i:Nat) (x cy r0 r1 r2 r3 r4 r5:Int):(run A4b true 75 ((⟨D5s,.normal,pS1 o0 o1 o2 o3 a b c d y0 y1 y2 y3 i x cy r0 r1 r2 r3 r4 r5⟩:Cfg)) [true]).cfg.k=D5k:=by kernel_rfl
theorem pB (o0 o1 o2 o3 a b c d y0 y1 y2 y3:Int) (i:Nat) (x cy r0 r1 r2 r3 r4 r5:Int) (ho:A7 [((decide ((1:Int)<(4:Int)))=true),(0<=(1:Int)),((1:Int)<((4:Nat):Int)),(0<=x),(x<(18446744073709551616:Int)),(0<=y1),(y1<(18446744073709551616:Int)),(0<=(1:Int)),((1:Int)<(10:Int)),(0<=((x*y1) % (18446744073709551616:Int))),(0<=r1),(r1<(18446744073709551616:Int)),(0<=(0:Int)),(0<=(1:Int)),(0<=(Prod.fst (A0 0 ((x*y1) % (18446744073709551616:Int)) r1 (0:Int)))),(0<=cy),(cy<(18446744073709551616:Int)),(0<=(0:Int)),(0<=(1:Int)),(0<=(1:Int)),((1:Int)<(10:Int))]):Sg Tryz.prog (pS1 o0 o1 o2 o3 a b c d y0 y1 y2 y3 i x cy r0 r1 r2 r3 r4 r5) (A8 176 [0,1,2,3,4,10,11,13,14,29,30,37,38] [(.ci (.slc 0 0 4 1)),(.ci (.sl (.u64 [a,b,c,d]))),(.ci (.sl (.u64 [y0,y1,y2,y3]))),(.ci (.sl (.u64 [(18446744069414584321:Int),(6034159408538082302:Int),(3691218898639771653:Int),(8353516859464449352:Int)]))),.iu (18446744069414584319:Int),.ii (4:Int),.pt 64 0,.iu x,(.iu (wrap .u64 ((wrap .u64 (((x*y1) / (18446744073709551616:Int))+(Prod.snd (A0 0 ((x*y1) % (18446744073709551616:Int)) r1 (0:Int)))))+(Prod.snd (A0 0 (Prod.fst (A0 0 ((x*y1) % (18446744073709551616:Int)) r1 (0:Int))) cy (0:Int)))))),.ii (4:Int),(.ii (i:Int)),.ii (4:Int),.ii (1:Int)] [0,64] [(eF_ [(.int .u64 o0),(.int .u64 o1),(.int .u64 o2),(.int .u64 o3)]),(eF_ [(.int .u64 r0),(.int .u64 (Prod.fst (A0 0 (Prod.fst (A0 0 ((x*y1) % (18446744073709551616:Int)) r1 (0:Int))) cy (0:Int)))),(.int .u64 r2),(.int .u64 r3),(.int .u64 r4),(.int .u64 r5),(.int .u64 (0:Int)),(.int .u64 (0:Int)),(.int .u64 (0:Int)),(.int .u64 (0:Int))])] 1728 [] []) .normal (D5k) (D5s):=fun hs hK=>
 A5 O7 (E6t o0 o1 o2 o3 a b c d y0 y1 y2 y3 i x cy r0 r1 r2 r3 r4 r5) (F1g o0 o1 o2 o3 a b c d y0 y1 y2 y3 i x cy r0 r1 r2 r3 r4 r5) ho hs hK
def pS2 (o0 o1 o2 o3 a b c d y0 y1 y2 y3:Int) (i:Nat) (x cy r0 r1 r2 r3 r4 r5:Int):St:=A8 176 [0,1,2,3,4,10,11,13,14,29,30,37,38] [(.ci (.slc 0 0 4 1)),(.ci (.sl (.u64 [a,b,c,d]))),(.ci (.sl (.u64 [y0,y1,y2,y3]))),(.ci (.sl (.u64 [(18446744069414584321:Int),(6034159408538082302:Int),(3691218898639771653:Int),(8353516859464449352:Int)]))),.iu (18446744069414584319:Int),.ii (4:Int),.pt 64 0,.v (.c (.int .u64 x)),.v (.c (.int .u64 cy)),.ii (4:Int),(.ii (i:Int)),.ii (4:Int),.ii (1:Int)] [0,64] [(eF_ [(.int .u64 o0),(.int .u64 o1),(.int .u64 o2),(.int .u64 o3)]),some (.fl [.int .u64 r0,.int .u64 r1,.int .u64 r2,.int .u64 r3,.int .u64 r4,.int .u64 r5,.int .u64 0,.int .u64 0,.int .u64 0,.int .u64 0])] 1728 [] []
def E3v:List KI:=(run A4b true 75 ((fun (o0 o1 o2 o3 a b c d y0 y1 y2 y3:Int) (i:Nat) (x cy r0 r1 r2 r3 r4 r5:Int)=>(⟨D5k,.normal,pS2 o0 o1 o2 o3 a b c d y0 y1 y2 y3 i x cy r0 r1 r2 r3 r4 r5⟩:Cfg)) default default default default default default default default default default default default default default default default default default default default default) [true]).cfg.k
theorem E7t (o0 o1 o2 o3 a b c d y0 y1 y2 y3:Int) (i:Nat) (x cy r0 r1 r2 r3 r4 r5:Int):A4k A4b true 75 ((⟨D5k,.normal,pS2 o0 o1 o2 o3 a b c d y0 y1 y2 y3 i x cy r0 r1 r2 r3 r4 r5⟩:Cfg)) [true] [0,1,2,3,4,10,11,13,14,29,30,37,38] [0,64] []=some ⟨[((decide ((2:Int)<(4:Int)))=true),((0:Int)<=(2:Int)),((2:Int)<((4:Nat):Int)),((0:Int)<=x),(x<(18446744073709551616:Int)),((0:Int)<=y2),(y2<(18446744073709551616:Int)),((0:Int)<=(2:Int)),((2:Int)<(10:Int)),((0:Int)<=((x*y2) % (18446744073709551616:Int))),((0:Int)<=r2),(r2<(18446744073709551616:Int)),((0:Int)<=(0:Int)),((0:Int)<=(1:Int)),((0:Int)<=(Prod.fst (A0 0 ((x*y2) % (18446744073709551616:Int)) r2 (0:Int)))),((0:Int)<=cy),(cy<(18446744073709551616:Int)),((0:Int)<=(0:Int)),((0:Int)<=(1:Int)),((0:Int)<=(2:Int)),((2:Int)<(10:Int))],Exit.normal,[(SV.v (V1.c (It.slc 0 0 4 1))),(SV.v (V1.c (It.sl (Sq.u64 [a,b,c,d])))),(SV.v (V1.c (It.sl (Sq.u64 [y0,y1,y2,y3])))),(SV.v (V1.c (It.sl (Sq.u64 [(18446744069414584321:Int),(6034159408538082302:Int),(3691218898639771653:Int),(8353516859464449352:Int)])))),(SV.v (V1.c (It.int IntKind.u64 (18446744069414584319:Int)))),(SV.v (V1.c (It.int IntKind.i64 (4:Int)))),(SV.v (V1.c (It.ptr 64 0))),(SV.v (V1.c (It.int IntKind.u64 x))),(SV.v (V1.c (It.int IntKind.u64 (wrap IntKind.u64 ((wrap IntKind.u64 (((x*y2) / (18446744073709551616:Int))+(Prod.snd (A0 0 ((x*y2) % (18446744073709551616:Int)) r2 (0:Int)))))+(Prod.snd (A0 0 (Prod.fst (A0 0 ((x*y2) % (18446744073709551616:Int)) r2 (0:Int))) cy (0:Int)))))))),(SV.v (V1.c (It.int IntKind.i64 (4:Int)))),(SV.v (V1.c (It.int IntKind.i64 ((i:Nat):Int)))),(SV.v (V1.c (It.int IntKind.i64 (4:Int)))),(SV.v (V1.c (It.int IntKind.i64 (2:Int))))],[(Option.some (En.fl [(It.int IntKind.u64 o0),(It.int IntKind.u64 o1),(It.int IntKind.u64 o2),(It.int IntKind.u64 o3)])),(Option.some (En.fl [(It.int IntKind.u64 r0),(It.int IntKind.u64 r1),(It.int IntKind.u64 (Prod.fst (A0 0 (Prod.fst (A0 0 ((x*y2) % (18446744073709551616:Int)) r2 (0:Int))) cy (0:Int)))),(It.int IntKind.u64 r3),(It.int IntKind.u64 r4),(It.int IntKind.u64 r5),(It.int IntKind.u64 (0:Int)),(It.int IntKind.u64 (0:Int)),(It.int IntKind.u64 (0:Int)),(It.int IntKind.u64 (0:Int))]))],176,2464,[]⟩:=by kernel_rfl
theorem F4h (o0 o1 o2 o3 a b c d y0 y1 y2 y3:Int) (i:Nat) (x cy r0 r1 r2 r3 r4 r5:Int):(run A4b true 75 ((⟨D5k,.normal,pS2 o0 o1 o2 o3 a b c d y0 y1 y2 y3 i x cy r0 r1 r2 r3 r4 r5⟩:Cfg)) [true]).cfg.k=E3v:=by kernel_rfl
section
variable (o0 o1 o2 o3 a b c d y0 y1 y2 y3:Int) (i:Nat) (x cy r0 r1 r2 r3 r4 r5:Int)
theorem pC (ho:A7 [((decide ((2:Int)<(4:Int)))=true),(0<=(2:Int)),((2:Int)<((4:Nat):Int)),(0<=x),(x<(18446744073709551616:Int)),(0<=y2),(y2<(18446744073709551616:Int)),(0<=(2:Int)),((2:Int)<(10:Int)),(0<=((x*y2) % (18446744073709551616:Int))),(0<=r2),(r2<(18446744073709551616:Int)),(0<=(0:Int)),(0<=(1:Int)),(0<=(Prod.fst (A0 0 ((x*y2) % (18446744073709551616:Int)) r2 (0:Int)))),(0<=cy),(cy<(18446744073709551616:Int)),(0<=(0:Int)),(0<=(1:Int)),(0<=(2:Int)),((2:Int)<(10:Int))]):Sg Tryz.prog (pS2 o0 o1 o2 o3 a b c d y0 y1 y2 y3 i x cy r0 r1 r2 r3 r4 r5) (A8 176 [0,1,2,3,4,10,11,13,14,29,30,37,38] [(.ci (.slc 0 0 4 1)),(.ci (.sl (.u64 [a,b,c,d]))),(.ci (.sl (.u64 [y0,y1,y2,y3]))),(.ci (.sl (.u64 [(18446744069414584321:Int),(6034159408538082302:Int),(3691218898639771653:Int),(8353516859464449352:Int)]))),.iu (18446744069414584319:Int),.ii (4:Int),.pt 64 0,.iu x,(.iu (wrap .u64 ((wrap .u64 (((x*y2) / (18446744073709551616:Int))+(Prod.snd (A0 0 ((x*y2) % (18446744073709551616:Int)) r2 (0:Int)))))+(Prod.snd (A0 0 (Prod.fst (A0 0 ((x*y2) % (18446744073709551616:Int)) r2 (0:Int))) cy (0:Int)))))),.ii (4:Int),(.ii (i:Int)),.ii (4:Int),.ii (2:Int)] [0,64] [(eF_ [(.int .u64 o0),(.int .u64 o1),(.int .u64 o2),(.int .u64 o3)]),(eF_ [(.int .u64 r0),(.int .u64 r1),(.int .u64 (Prod.fst (A0 0 (Prod.fst (A0 0 ((x*y2) % (18446744073709551616:Int)) r2 (0:Int))) cy (0:Int)))),(.int .u64 r3),(.int .u64 r4),(.int .u64 r5),(.int .u64 (0:Int)),(.int .u64 (0:Int)),(.int .u64 (0:Int)),(.int .u64 (0:Int))])] 2464 [] []) .normal (E3v) (D5k):=fun hs hK=>
 A5 O7 (E7t o0 o1 o2 o3 a b c d y0 y1 y2 y3 i x cy r0 r1 r2 r3 r4 r5) (F4h o0 o1 o2 o3 a b c d y0 y1 y2 y3 i x cy r0 r1 r2 r3 r4 r5) ho hs hK
def pS3 (o0 o1 o2 o3 a b c d y0 y1 y2 y3:Int) (i:Nat) (x cy r0 r1 r2 r3 r4 r5:Int):St:=A8 176 [0,1,2,3,4,10,11,13,14,29,30,37,38] [(.ci (.slc 0 0 4 1)),(.ci (.sl (.u64 [a,b,c,d]))),(.ci (.sl (.u64 [y0,y1,y2,y3]))),(.ci (.sl (.u64 [(18446744069414584321:Int),(6034159408538082302:Int),(3691218898639771653:Int),(8353516859464449352:Int)]))),.iu (18446744069414584319:Int),.ii (4:Int),.pt 64 0,.v (.c (.int .u64 x)),.v (.c (.int .u64 cy)),.ii (4:Int),(.ii (i:Int)),.ii (4:Int),.ii (2:Int)] [0,64] [(eF_ [(.int .u64 o0),(.int .u64 o1),(.int .u64 o2),(.int .u64 o3)]),some (.fl [.int .u64 r0,.int .u64 r1,.int .u64 r2,.int .u64 r3,.int .u64 r4,.int .u64 r5,.int .u64 0,.int .u64 0,.int .u64 0,.int .u64 0])] 2464 [] []
def F3a:List KI:=(run A4b true 75 ((fun (o0 o1 o2 o3 a b c d y0 y1 y2 y3:Int) (i:Nat) (x cy r0 r1 r2 r3 r4 r5:Int)=>(⟨E3v,.normal,pS3 o0 o1 o2 o3 a b c d y0 y1 y2 y3 i x cy r0 r1 r2 r3 r4 r5⟩:Cfg)) default default default default default default default default default default default default default default default default default default default default default) [true]).cfg.k
theorem pD (ho:A7 [((decide ((3:Int)<(4:Int)))=true),(0<=(3:Int)),((3:Int)<((4:Nat):Int)),(0<=x),(x<(18446744073709551616:Int)),(0<=y3),(y3<(18446744073709551616:Int)),(0<=(3:Int)),((3:Int)<(10:Int)),(0<=((x*y3) % (18446744073709551616:Int))),(0<=r3),(r3<(18446744073709551616:Int)),(0<=(0:Int)),(0<=(1:Int)),(0<=(Prod.fst (A0 0 ((x*y3) % (18446744073709551616:Int)) r3 (0:Int)))),(0<=cy),(cy<(18446744073709551616:Int)),(0<=(0:Int)),(0<=(1:Int)),(0<=(3:Int)),((3:Int)<(10:Int))]):Sg Tryz.prog (pS3 o0 o1 o2 o3 a b c d y0 y1 y2 y3 i x cy r0 r1 r2 r3 r4 r5) (A8 176 [0,1,2,3,4,10,11,13,14,29,30,37,38] [(.ci (.slc 0 0 4 1)),(.ci (.sl (.u64 [a,b,c,d]))),(.ci (.sl (.u64 [y0,y1,y2,y3]))),(.ci (.sl (.u64 [(18446744069414584321:Int),(6034159408538082302:Int),(3691218898639771653:Int),(8353516859464449352:Int)]))),.iu (18446744069414584319:Int),.ii (4:Int),.pt 64 0,.iu x,(.iu (wrap .u64 ((wrap .u64 (((x*y3) / (18446744073709551616:Int))+(Prod.snd (A0 0 ((x*y3) % (18446744073709551616:Int)) r3 (0:Int)))))+(Prod.snd (A0 0 (Prod.fst (A0 0 ((x*y3) % (18446744073709551616:Int)) r3 (0:Int))) cy (0:Int)))))),.ii (4:Int),(.ii (i:Int)),.ii (4:Int),.ii (3:Int)] [0,64] [(eF_ [(.int .u64 o0),(.int .u64 o1),(.int .u64 o2),(.int .u64 o3)]),(eF_ [(.int .u64 r0),(.int .u64 r1),(.int .u64 r2),(.int .u64 (Prod.fst (A0 0 (Prod.fst (A0 0 ((x*y3) % (18446744073709551616:Int)) r3 (0:Int))) cy (0:Int)))),(.int .u64 r4),(.int .u64 r5),(.int .u64 (0:Int)),(.int .u64 (0:Int)),(.int .u64 (0:Int)),(.int .u64 (0:Int))])] 3200 [] []) .normal (F3a) (E3v):=fun hs hK=>
 A5 (unroll:=true) (n:=75) (path:=[true]) (o:=⟨_,_,_,_,_,_,_⟩) O7 (by kernel_rfl) (by kernel_rfl) ho hs hK
def pS4 (o0 o1 o2 o3 a b c d y0 y1 y2 y3:Int) (i:Nat) (x cy r0 r1 r2 r3 r4 r5:Int):St:=A8 176 [0,1,2,3,4,10,11,13,14,29,30,37,38] [(.ci (.slc 0 0 4 1)),(.ci (.sl (.u64 [a,b,c,d]))),(.ci (.sl (.u64 [y0,y1,y2,y3]))),(.ci (.sl (.u64 [(18446744069414584321:Int),(6034159408538082302:Int),(3691218898639771653:Int),(8353516859464449352:Int)]))),.iu (18446744069414584319:Int),.ii (4:Int),.pt 64 0,.v (.c (.int .u64 x)),.v (.c (.int .u64 cy)),.ii (4:Int),(.ii (i:Int)),.ii (4:Int),.ii (3:Int)] [0,64] [(eF_ [(.int .u64 o0),(.int .u64 o1),(.int .u64 o2),(.int .u64 o3)]),some (.fl [.int .u64 r0,.int .u64 r1,.int .u64 r2,.int .u64 r3,.int .u64 r4,.int .u64 r5,.int .u64 0,.int .u64 0,.int .u64 0,.int .u64 0])] 3200 [] []
def F0l:List KI:=(run A4b true 88 ((fun (o0 o1 o2 o3 a b c d y0 y1 y2 y3:Int) (i:Nat) (x cy r0 r1 r2 r3 r4 r5:Int)=>(⟨F3a,.normal,pS4 o0 o1 o2 o3 a b c d y0 y1 y2 y3 i x cy r0 r1 r2 r3 r4 r5⟩:Cfg)) default default default default default default default default default default default default default default default default default default default default default) [false]).cfg.k
theorem pE (ho:A7 [((decide ((4:Int)<(4:Int)))=false),(0<=(4:Int)),((4:Int)<(10:Int)),(0<=r4),(0<=cy),(cy<(18446744073709551616:Int)),(0<=(0:Int)),(0<=(1:Int)),(0<=(4:Int)),((4:Int)<(10:Int)),(0<=(5:Int)),((5:Int)<(10:Int)),(0<=(0:Int)),(0<(10:Int)),(0<=(0:Int)),(0<(4:Int)),(0<=(wrap .u64 (r0*(18446744069414584319:Int)))),((wrap .u64 (r0*(18446744069414584319:Int)))<(18446744073709551616:Int)),(0<=(18446744069414584321:Int)),((18446744069414584321:Int)<(18446744073709551616:Int)),(0<=(0:Int)),(0<(10:Int)),(0<=(((wrap .u64 (r0*(18446744069414584319:Int)))*(18446744069414584321:Int)) % (18446744073709551616:Int))),(0<=r0),(r0<(18446744073709551616:Int)),(0<=(0:Int)),(0<=(1:Int))]):Sg Tryz.prog (pS4 o0 o1 o2 o3 a b c d y0 y1 y2 y3 i x cy r0 r1 r2 r3 r4 r5) (A8 176 [0,1,2,3,4,10,11,14,20,23,29,30] [(.ci (.slc 0 0 4 1)),(.ci (.sl (.u64 [a,b,c,d]))),(.ci (.sl (.u64 [y0,y1,y2,y3]))),(.ci (.sl (.u64 [(18446744069414584321:Int),(6034159408538082302:Int),(3691218898639771653:Int),(8353516859464449352:Int)]))),.iu (18446744069414584319:Int),.ii (4:Int),.pt 64 0,(.iu (wrap .u64 ((((wrap .u64 (r0*(18446744069414584319:Int)))*(18446744069414584321:Int)) / (18446744073709551616:Int))+(Prod.snd (A0 0 (((wrap .u64 (r0*(18446744069414584319:Int)))*(18446744069414584321:Int)) % (18446744073709551616:Int)) r0 (0:Int)))))),(.iu (wrap .u64 (r0*(18446744069414584319:Int)))),.ii (1:Int),.ii (4:Int),(.ii (i:Int))] [0,64] [(eF_ [(.int .u64 o0),(.int .u64 o1),(.int .u64 o2),(.int .u64 o3)]),(eF_ [(.int .u64 r0),(.int .u64 r1),(.int .u64 r2),(.int .u64 r3),(.int .u64 (Prod.fst (A0 0 r4 cy (0:Int)))),(.int .u64 (Prod.snd (A0 0 r4 cy (0:Int)))),(.int .u64 (0:Int)),(.int .u64 (0:Int)),(.int .u64 (0:Int)),(.int .u64 (0:Int))])] 3984 [] []) .normal (F0l) (F3a):=fun hs hK=>
 A5 (unroll:=true) (n:=88) (path:=[false]) (o:=⟨_,_,_,_,_,_,_⟩) O7 (by kernel_rfl) (by kernel_rfl) ho hs hK
def pT1 (o0 o1 o2 o3 a b c d y0 y1 y2 y3:Int) (i:Nat) (q cy r0 r1 r2 r3 r4 r5:Int):St:=A8 176 [0,1,2,3,4,10,11,14,20,23,29,30] [(.ci (.slc 0 0 4 1)),(.ci (.sl (.u64 [a,b,c,d]))),(.ci (.sl (.u64 [y0,y1,y2,y3]))),(.ci (.sl (.u64 [(18446744069414584321:Int),(6034159408538082302:Int),(3691218898639771653:Int),(8353516859464449352:Int)]))),.iu (18446744069414584319:Int),.ii (4:Int),.pt 64 0,.v (.c (.int .u64 cy)),.v (.c (.int .u64 q)),.ii (1:Int),.ii (4:Int),(.ii (i:Int))] [0,64] [(eF_ [(.int .u64 o0),(.int .u64 o1),(.int .u64 o2),(.int .u64 o3)]),some (.fl [.int .u64 r0,.int .u64 r1,.int .u64 r2,.int .u64 r3,.int .u64 r4,.int .u64 r5,.int .u64 0,.int .u64 0,.int .u64 0,.int .u64 0])] 3984 [] []
def F0m:List KI:=(run A4b true 68 ((fun (o0 o1 o2 o3 a b c d y0 y1 y2 y3:Int) (i:Nat) (q cy r0 r1 r2 r3 r4 r5:Int)=>(⟨F0l,.normal,pT1 o0 o1 o2 o3 a b c d y0 y1 y2 y3 i q cy r0 r1 r2 r3 r4 r5⟩:Cfg)) default default default default default default default default default default default default default default default default default default default default default) [true]).cfg.k
end
section
variable (o0 o1 o2 o3 a b c d y0 y1 y2 y3:Int) (i:Nat) (q cy r0 r1 r2 r3 r4 r5:Int)
theorem pF (ho:A7 [((decide ((1:Int)<(4:Int)))=true),(0<=(1:Int)),((1:Int)<(4:Int)),(0<=q),(q<(18446744073709551616:Int)),(0<=(6034159408538082302:Int)),((6034159408538082302:Int)<(18446744073709551616:Int)),(0<=(1:Int)),((1:Int)<(10:Int)),(0<=((q*(6034159408538082302:Int)) % (18446744073709551616:Int))),(0<=r1),(r1<(18446744073709551616:Int)),(0<=(0:Int)),(0<=(1:Int)),(0<=(Prod.fst (A0 0 ((q*(6034159408538082302:Int)) % (18446744073709551616:Int)) r1 (0:Int)))),(0<=cy),(cy<(18446744073709551616:Int)),(0<=(0:Int)),(0<=(1:Int)),(0<=(0:Int)),(0<(10:Int))]):Sg Tryz.prog (pT1 o0 o1 o2 o3 a b c d y0 y1 y2 y3 i q cy r0 r1 r2 r3 r4 r5) (A8 176 [0,1,2,3,4,10,11,14,20,23,29,30] [(.ci (.slc 0 0 4 1)),(.ci (.sl (.u64 [a,b,c,d]))),(.ci (.sl (.u64 [y0,y1,y2,y3]))),(.ci (.sl (.u64 [(18446744069414584321:Int),(6034159408538082302:Int),(3691218898639771653:Int),(8353516859464449352:Int)]))),.iu (18446744069414584319:Int),.ii (4:Int),.pt 64 0,(.iu (wrap .u64 ((wrap .u64 (((q*(6034159408538082302:Int)) / (18446744073709551616:Int))+(Prod.snd (A0 0 ((q*(6034159408538082302:Int)) % (18446744073709551616:Int)) r1 (0:Int)))))+(Prod.snd (A0 0 (Prod.fst (A0 0 ((q*(6034159408538082302:Int)) % (18446744073709551616:Int)) r1 (0:Int))) cy (0:Int)))))),.iu q,.ii (1:Int),.ii (4:Int),(.ii (i:Int))] [0,64] [(eF_ [(.int .u64 o0),(.int .u64 o1),(.int .u64 o2),(.int .u64 o3)]),(eF_ [(.int .u64 (Prod.fst (A0 0 (Prod.fst (A0 0 ((q*(6034159408538082302:Int)) % (18446744073709551616:Int)) r1 (0:Int))) cy (0:Int)))),(.int .u64 r1),(.int .u64 r2),(.int .u64 r3),(.int .u64 r4),(.int .u64 r5),(.int .u64 (0:Int)),(.int .u64 (0:Int)),(.int .u64 (0:Int)),(.int .u64 (0:Int))])] 4704 [] []) .normal (F0m) (F0l):=fun hs hK=>
 A5 (unroll:=true) (n:=68) (path:=[true]) (o:=⟨_,_,_,_,_,_,_⟩) O7 (by kernel_rfl) (by kernel_rfl) ho hs hK
def pT2 (o0 o1 o2 o3 a b c d y0 y1 y2 y3:Int) (i:Nat) (q cy r0 r1 r2 r3 r4 r5:Int):St:=A8 176 [0,1,2,3,4,10,11,14,20,23,29,30] [(.ci (.slc 0 0 4 1)),(.ci (.sl (.u64 [a,b,c,d]))),(.ci (.sl (.u64 [y0,y1,y2,y3]))),(.ci (.sl (.u64 [(18446744069414584321:Int),(6034159408538082302:Int),(3691218898639771653:Int),(8353516859464449352:Int)]))),.iu (18446744069414584319:Int),.ii (4:Int),.pt 64 0,.v (.c (.int .u64 cy)),.v (.c (.int .u64 q)),.ii (1:Int),.ii (4:Int),(.ii (i:Int))] [0,64] [(eF_ [(.int .u64 o0),(.int .u64 o1),(.int .u64 o2),(.int .u64 o3)]),some (.fl [.int .u64 r0,.int .u64 r1,.int .u64 r2,.int .u64 r3,.int .u64 r4,.int .u64 r5,.int .u64 0,.int .u64 0,.int .u64 0,.int .u64 0])] 4704 [] []
def E9r:List KI:=(run A4b true 74 ((fun (o0 o1 o2 o3 a b c d y0 y1 y2 y3:Int) (i:Nat) (q cy r0 r1 r2 r3 r4 r5:Int)=>(⟨F0m,.normal,pT2 o0 o1 o2 o3 a b c d y0 y1 y2 y3 i q cy r0 r1 r2 r3 r4 r5⟩:Cfg)) default default default default default default default default default default default default default default default default default default default default default) [true]).cfg.k
theorem pG (ho:A7 [((decide ((2:Int)<(4:Int)))=true),(0<=(2:Int)),((2:Int)<(4:Int)),(0<=q),(q<(18446744073709551616:Int)),(0<=(3691218898639771653:Int)),((3691218898639771653:Int)<(18446744073709551616:Int)),(0<=(2:Int)),((2:Int)<(10:Int)),(0<=((q*(3691218898639771653:Int)) % (18446744073709551616:Int))),(0<=r2),(r2<(18446744073709551616:Int)),(0<=(0:Int)),(0<=(1:Int)),(0<=(Prod.fst (A0 0 ((q*(3691218898639771653:Int)) % (18446744073709551616:Int)) r2 (0:Int)))),(0<=cy),(cy<(18446744073709551616:Int)),(0<=(0:Int)),(0<=(1:Int)),(0<=(1:Int)),((1:Int)<(10:Int))]):Sg Tryz.prog (pT2 o0 o1 o2 o3 a b c d y0 y1 y2 y3 i q cy r0 r1 r2 r3 r4 r5) (A8 176 [0,1,2,3,4,10,11,14,20,23,29,30] [(.ci (.slc 0 0 4 1)),(.ci (.sl (.u64 [a,b,c,d]))),(.ci (.sl (.u64 [y0,y1,y2,y3]))),(.ci (.sl (.u64 [(18446744069414584321:Int),(6034159408538082302:Int),(3691218898639771653:Int),(8353516859464449352:Int)]))),.iu (18446744069414584319:Int),.ii (4:Int),.pt 64 0,(.iu (wrap .u64 ((wrap .u64 (((q*(3691218898639771653:Int)) / (18446744073709551616:Int))+(Prod.snd (A0 0 ((q*(3691218898639771653:Int)) % (18446744073709551616:Int)) r2 (0:Int)))))+(Prod.snd (A0 0 (Prod.fst (A0 0 ((q*(3691218898639771653:Int)) % (18446744073709551616:Int)) r2 (0:Int))) cy (0:Int)))))),.iu q,.ii (2:Int),.ii (4:Int),(.ii (i:Int))] [0,64] [(eF_ [(.int .u64 o0),(.int .u64 o1),(.int .u64 o2),(.int .u64 o3)]),(eF_ [(.int .u64 r0),(.int .u64 (Prod.fst (A0 0 (Prod.fst (A0 0 ((q*(3691218898639771653:Int)) % (18446744073709551616:Int)) r2 (0:Int))) cy (0:Int)))),(.int .u64 r2),(.int .u64 r3),(.int .u64 r4),(.int .u64 r5),(.int .u64 (0:Int)),(.int .u64 (0:Int)),(.int .u64 (0:Int)),(.int .u64 (0:Int))])] 5472 [] []) .normal (E9r) (F0m):=fun hs hK=>
 A5 (unroll:=true) (n:=74) (path:=[true]) (o:=⟨_,_,_,_,_,_,_⟩) O7 (by kernel_rfl) (by kernel_rfl) ho hs hK
def pT3 (o0 o1 o2 o3 a b c d y0 y1 y2 y3:Int) (i:Nat) (q cy r0 r1 r2 r3 r4 r5:Int):St:=A8 176 [0,1,2,3,4,10,11,14,20,23,29,30] [(.ci (.slc 0 0 4 1)),(.ci (.sl (.u64 [a,b,c,d]))),(.ci (.sl (.u64 [y0,y1,y2,y3]))),(.ci (.sl (.u64 [(18446744069414584321:Int),(6034159408538082302:Int),(3691218898639771653:Int),(8353516859464449352:Int)]))),.iu (18446744069414584319:Int),.ii (4:Int),.pt 64 0,.v (.c (.int .u64 cy)),.v (.c (.int .u64 q)),.ii (2:Int),.ii (4:Int),(.ii (i:Int))] [0,64] [(eF_ [(.int .u64 o0),(.int .u64 o1),(.int .u64 o2),(.int .u64 o3)]),some (.fl [.int .u64 r0,.int .u64 r1,.int .u64 r2,.int .u64 r3,.int .u64 r4,.int .u64 r5,.int .u64 0,.int .u64 0,.int .u64 0,.int .u64 0])] 5472 [] []
def G2p:List KI:=(run A4b true 74 ((fun (o0 o1 o2 o3 a b c d y0 y1 y2 y3:Int) (i:Nat) (q cy r0 r1 r2 r3 r4 r5:Int)=>(⟨E9r,.normal,pT3 o0 o1 o2 o3 a b c d y0 y1 y2 y3 i q cy r0 r1 r2 r3 r4 r5⟩:Cfg)) default default default default default default default default default default default default default default default default default default default default default) [true]).cfg.k
theorem pH (ho:A7 [((decide ((3:Int)<(4:Int)))=true),(0<=(3:Int)),((3:Int)<(4:Int)),(0<=q),(q<(18446744073709551616:Int)),(0<=(8353516859464449352:Int)),((8353516859464449352:Int)<(18446744073709551616:Int)),(0<=(3:Int)),((3:Int)<(10:Int)),(0<=((q*(8353516859464449352:Int)) % (18446744073709551616:Int))),(0<=r3),(r3<(18446744073709551616:Int)),(0<=(0:Int)),(0<=(1:Int)),(0<=(Prod.fst (A0 0 ((q*(8353516859464449352:Int)) % (18446744073709551616:Int)) r3 (0:Int)))),(0<=cy),(cy<(18446744073709551616:Int)),(0<=(0:Int)),(0<=(1:Int)),(0<=(2:Int)),((2:Int)<(10:Int))]):Sg Tryz.prog (pT3 o0 o1 o2 o3 a b c d y0 y1 y2 y3 i q cy r0 r1 r2 r3 r4 r5) (A8 176 [0,1,2,3,4,10,11,14,20,23,29,30] [(.ci (.slc 0 0 4 1)),(.ci (.sl (.u64 [a,b,c,d]))),(.ci (.sl (.u64 [y0,y1,y2,y3]))),(.ci (.sl (.u64 [(18446744069414584321:Int),(6034159408538082302:Int),(3691218898639771653:Int),(8353516859464449352:Int)]))),.iu (18446744069414584319:Int),.ii (4:Int),.pt 64 0,(.iu (wrap .u64 ((wrap .u64 (((q*(8353516859464449352:Int)) / (18446744073709551616:Int))+(Prod.snd (A0 0 ((q*(8353516859464449352:Int)) % (18446744073709551616:Int)) r3 (0:Int)))))+(Prod.snd (A0 0 (Prod.fst (A0 0 ((q*(8353516859464449352:Int)) % (18446744073709551616:Int)) r3 (0:Int))) cy (0:Int)))))),.iu q,.ii (3:Int),.ii (4:Int),(.ii (i:Int))] [0,64] [(eF_ [(.int .u64 o0),(.int .u64 o1),(.int .u64 o2),(.int .u64 o3)]),(eF_ [(.int .u64 r0),(.int .u64 r1),(.int .u64 (Prod.fst (A0 0 (Prod.fst (A0 0 ((q*(8353516859464449352:Int)) % (18446744073709551616:Int)) r3 (0:Int))) cy (0:Int)))),(.int .u64 r3),(.int .u64 r4),(.int .u64 r5),(.int .u64 (0:Int)),(.int .u64 (0:Int)),(.int .u64 (0:Int)),(.int .u64 (0:Int))])] 6240 [] []) .normal (G2p) (E9r):=fun hs hK=>
 A5 (unroll:=true) (n:=74) (path:=[true]) (o:=⟨_,_,_,_,_,_,_⟩) O7 (by kernel_rfl) (by kernel_rfl) ho hs hK
def pT4 (o0 o1 o2 o3 a b c d y0 y1 y2 y3:Int) (i:Nat) (q cy r0 r1 r2 r3 r4 r5:Int):St:=A8 176 [0,1,2,3,4,10,11,14,20,23,29,30] [(.ci (.slc 0 0 4 1)),(.ci (.sl (.u64 [a,b,c,d]))),(.ci (.sl (.u64 [y0,y1,y2,y3]))),(.ci (.sl (.u64 [(18446744069414584321:Int),(6034159408538082302:Int),(3691218898639771653:Int),(8353516859464449352:Int)]))),.iu (18446744069414584319:Int),.ii (4:Int),.pt 64 0,.v (.c (.int .u64 cy)),.v (.c (.int .u64 q)),.ii (3:Int),.ii (4:Int),(.ii (i:Int))] [0,64] [(eF_ [(.int .u64 o0),(.int .u64 o1),(.int .u64 o2),(.int .u64 o3)]),some (.fl [.int .u64 r0,.int .u64 r1,.int .u64 r2,.int .u64 r3,.int .u64 r4,.int .u64 r5,.int .u64 0,.int .u64 0,.int .u64 0,.int .u64 0])] 6240 [] []
theorem pI (ho:A7 [((decide ((4:Int)<(4:Int)))=false),(0<=(4:Int)),((4:Int)<(10:Int)),(0<=r4),(0<=cy),(cy<(18446744073709551616:Int)),(0<=(0:Int)),(0<=(1:Int)),(0<=(3:Int)),((3:Int)<(10:Int)),(0<=(5:Int)),((5:Int)<(10:Int)),(0<=(4:Int)),((4:Int)<(10:Int))]):Sg Tryz.prog (pT4 o0 o1 o2 o3 a b c d y0 y1 y2 y3 i q cy r0 r1 r2 r3 r4 r5) (A8 176 [0,1,2,3,4,10,11,29,30] [(.ci (.slc 0 0 4 1)),(.ci (.sl (.u64 [a,b,c,d]))),(.ci (.sl (.u64 [y0,y1,y2,y3]))),(.ci (.sl (.u64 [(18446744069414584321:Int),(6034159408538082302:Int),(3691218898639771653:Int),(8353516859464449352:Int)]))),.iu (18446744069414584319:Int),.ii (4:Int),.pt 64 0,.ii (4:Int),(.ii (wrap .i64 ((i:Int)+1)))] [0,64] [(eF_ [(.int .u64 o0),(.int .u64 o1),(.int .u64 o2),(.int .u64 o3)]),(eF_ [(.int .u64 r0),(.int .u64 r1),(.int .u64 r2),(.int .u64 (Prod.fst (A0 0 r4 cy (0:Int)))),(.int .u64 (wrap .u64 (r5+(Prod.snd (A0 0 r4 cy (0:Int)))))),(.int .u64 r5),(.int .u64 (0:Int)),(.int .u64 (0:Int)),(.int .u64 (0:Int)),(.int .u64 (0:Int))])] 6720 [] []) .normal (N8 B0c) (G2p):=fun hs hK=>
 A5 (unroll:=true) (n:=50) (path:=[false]) (o:=⟨_,_,_,_,_,_,_⟩) O7 (by kernel_rfl) (by kernel_rfl) ho hs hK
end
end
end S4

namespace S4

section
variable {w0:World} {F0:Nat->Prop} {K:Kp} {ac:List Act} {Q:Exit->Act->World->Prop} {cX:Ctx} {aX:Act}

theorem sPA (o0 o1 o2 o3 a b c d y0 y1 y2 y3:Int) (i:Nat) {r0 r1 r2 r3 r4 r5 x:Int} (hi:i<4) (he:List.getD [a,b,c,d] i 0=x) (hx:Lim x) (hy:Lim y0) (hr:Lim r0) (hs:Sim w0 F0 K ac (pS o0 o1 o2 o3 a b c d y0 y1 y2 y3 i r0 r1 r2 r3 r4 r5) cX aX)
  (k:∀n cy:Int,x*y0+r0+0=n+18446744073709551616*cy->Lim n->Lim cy->∀ac cY aY,Sim w0 F0 K ac (pS1 o0 o1 o2 o3 a b c d y0 y1 y2 y3 i x cy n r1 r2 r3 r4 r5) cY aY->Wq Tryz.prog Q D5s ac .normal aY cY.w):Wq Tryz.prog Q (E7 B0c) ac .normal aX cX.w:=by
 obtain ⟨x0,x1⟩:=hx;obtain ⟨yy0,yy1⟩:=hy;obtain ⟨rr0,rr1⟩:=hr;have e:=mac x0 x1 yy0 yy1 rr0 rr1 (u:=0) (by decide) (by decide)
 have sA:=@pA o0 o1 o2 o3 a b c d y0 y1 y2 y3 i r0 r1 r2 r3 r4 r5 w0 F0 K ac Q cX aX;rw[Int.toNat_natCast,he] at sA;obtain ⟨e1,l1,u1,m1⟩:=e;refine sA ?_ hs fun ac cY aY h=>k _ _ e1 l1 u1 ac cY aY h
 simp only[A7,and_true,decide_eq_true_eq];omega

theorem sPB (o0 o1 o2 o3 a b c d y0 y1 y2 y3:Int) (i:Nat) {x cy r0 r1 r2 r3 r4 r5:Int} (hx:Lim x) (hy:Lim y1) (hr:Lim r1) (hc:Lim cy) (hs:Sim w0 F0 K ac (pS1 o0 o1 o2 o3 a b c d y0 y1 y2 y3 i x cy r0 r1 r2 r3 r4 r5) cX aX)
  (k:∀n cy' : Int,x*y1+r1+cy=n+18446744073709551616*cy' -> Lim n->Lim cy' -> ∀ac cY aY,Sim w0 F0 K ac (pS2 o0 o1 o2 o3 a b c d y0 y1 y2 y3 i x cy' r0 n r2 r3 r4 r5) cY aY->Wq Tryz.prog Q D5k ac .normal aY cY.w):Wq Tryz.prog Q D5s ac .normal aX cX.w:=by
 obtain ⟨x0,x1⟩:=hx;obtain ⟨yy0,yy1⟩:=hy;obtain ⟨rr0,rr1⟩:=hr;obtain ⟨cc0,cc1⟩:=hc;obtain ⟨e1,l1,u1,m1⟩:=mac x0 x1 yy0 yy1 rr0 rr1 cc0 cc1;refine pB o0 o1 o2 o3 a b c d y0 y1 y2 y3 i x cy r0 r1 r2 r3 r4 r5 ?_ hs fun ac cY aY h=>k _ _ e1 l1 u1 ac cY aY h
 simp only[A7,and_true,decide_eq_true_eq];omega

theorem sPC (o0 o1 o2 o3 a b c d y0 y1 y2 y3:Int) (i:Nat) {x cy r0 r1 r2 r3 r4 r5:Int} (hx:Lim x) (hy:Lim y2) (hr:Lim r2) (hc:Lim cy) (hs:Sim w0 F0 K ac (pS2 o0 o1 o2 o3 a b c d y0 y1 y2 y3 i x cy r0 r1 r2 r3 r4 r5) cX aX)
  (k:∀n cy' : Int,x*y2+r2+cy=n+18446744073709551616*cy' -> Lim n->Lim cy' -> ∀ac cY aY,Sim w0 F0 K ac (pS3 o0 o1 o2 o3 a b c d y0 y1 y2 y3 i x cy' r0 r1 n r3 r4 r5) cY aY->Wq Tryz.prog Q E3v ac .normal aY cY.w):Wq Tryz.prog Q D5k ac .normal aX cX.w:=by
 obtain ⟨x0,x1⟩:=hx;obtain ⟨yy0,yy1⟩:=hy;obtain ⟨rr0,rr1⟩:=hr;obtain ⟨cc0,cc1⟩:=hc;obtain ⟨e1,l1,u1,m1⟩:=mac x0 x1 yy0 yy1 rr0 rr1 cc0 cc1;refine pC o0 o1 o2 o3 a b c d y0 y1 y2 y3 i x cy r0 r1 r2 r3 r4 r5 ?_ hs fun ac cY aY h=>k _ _ e1 l1 u1 ac cY aY h
 simp only[A7,and_true,decide_eq_true_eq];omega

theorem sPD (o0 o1 o2 o3 a b c d y0 y1 y2 y3:Int) (i:Nat) {x cy r0 r1 r2 r3 r4 r5:Int} (hx:Lim x) (hy:Lim y3) (hr:Lim r3) (hc:Lim cy) (hs:Sim w0 F0 K ac (pS3 o0 o1 o2 o3 a b c d y0 y1 y2 y3 i x cy r0 r1 r2 r3 r4 r5) cX aX)
  (k:∀n cy' : Int,x*y3+r3+cy=n+18446744073709551616*cy' -> Lim n->Lim cy' -> ∀ac cY aY,Sim w0 F0 K ac (pS4 o0 o1 o2 o3 a b c d y0 y1 y2 y3 i x cy' r0 r1 r2 n r4 r5) cY aY->Wq Tryz.prog Q F3a ac .normal aY cY.w):Wq Tryz.prog Q E3v ac .normal aX cX.w:=by
 obtain ⟨x0,x1⟩:=hx;obtain ⟨yy0,yy1⟩:=hy;obtain ⟨rr0,rr1⟩:=hr;obtain ⟨cc0,cc1⟩:=hc;obtain ⟨e1,l1,u1,m1⟩:=mac x0 x1 yy0 yy1 rr0 rr1 cc0 cc1;refine pD o0 o1 o2 o3 a b c d y0 y1 y2 y3 i x cy r0 r1 r2 r3 r4 r5 ?_ hs fun ac cY aY h=>k _ _ e1 l1 u1 ac cY aY h
 simp only[A7,and_true,decide_eq_true_eq];omega

theorem sPE (o0 o1 o2 o3 a b c d y0 y1 y2 y3:Int) (i:Nat) {x cy r0 r1 r2 r3 r4 r5:Int} (hr0:Lim r0) (hr4:Lim r4) (hc:Lim cy) (hs:Sim w0 F0 K ac (pS4 o0 o1 o2 o3 a b c d y0 y1 y2 y3 i x cy r0 r1 r2 r3 r4 r5) cX aX)
  (k:∀q cy' n4 n5:Int,r4+cy+0=n4+18446744073709551616*n5->q*18446744069414584321+r0=18446744073709551616*cy' -> Lim n4->0<=n5->n5<=1->Lim q->Lim cy' -> ∀ac cY aY,Sim w0 F0 K ac (pT1 o0 o1 o2 o3 a b c d y0 y1 y2 y3 i q cy' r0 r1 r2 r3 n4 n5) cY aY->Wq Tryz.prog Q F0l ac .normal aY cY.w):Wq Tryz.prog Q F3a ac .normal aX cX.w:=by
 obtain ⟨rr0,rr1⟩:=hr0;obtain ⟨rr4,rr5⟩:=hr4;obtain ⟨cc0,cc1⟩:=hc;obtain ⟨e1,p1,p1',q1,q1'⟩:=E6 (c:=0) rr4 rr5 cc0 cc1 (by decide) (by decide)
 have hq:=B7u (r0*18446744069414584319);have e2:=E4o (b:=18446744069414584321) hq.1 hq.2 (by decide) (by decide) rr0 rr1
 have e3:=D0s (l:=r0) rfl;obtain ⟨hq0,hq1⟩:=hq;obtain ⟨e2,⟨f1,f2⟩,f3⟩:=e2;refine pE o0 o1 o2 o3 a b c d y0 y1 y2 y3 i x cy r0 r1 r2 r3 r4 r5 ?_ hs fun ac cY aY h=>k _ _ _ _ e1 ?_ ⟨p1,p1'⟩ q1 q1' ⟨hq0,hq1⟩ f3 ac cY aY h
 ·simp only[A7,and_true,decide_eq_false_iff_not]
  omega
 ·omega

theorem sPF (o0 o1 o2 o3 a b c d y0 y1 y2 y3:Int) (i:Nat) {q cy r0 r1 r2 r3 r4 r5:Int} (hq:Lim q) (hr:Lim r1) (hc:Lim cy) (hs:Sim w0 F0 K ac (pT1 o0 o1 o2 o3 a b c d y0 y1 y2 y3 i q cy r0 r1 r2 r3 r4 r5) cX aX)
  (k:∀n cy' : Int,q*6034159408538082302+r1+cy=n+18446744073709551616*cy' -> Lim n->Lim cy' -> ∀ac cY aY,Sim w0 F0 K ac (pT2 o0 o1 o2 o3 a b c d y0 y1 y2 y3 i q cy' n r1 r2 r3 r4 r5) cY aY->Wq Tryz.prog Q F0m ac .normal aY cY.w):Wq Tryz.prog Q F0l ac .normal aX cX.w:=by
 obtain ⟨x0,x1⟩:=hq;obtain ⟨rr0,rr1⟩:=hr;obtain ⟨cc0,cc1⟩:=hc;obtain ⟨e1,l1,u1,m1⟩:=mac (b:=6034159408538082302) x0 x1 (by decide) (by decide) rr0 rr1 cc0 cc1
 refine pF o0 o1 o2 o3 a b c d y0 y1 y2 y3 i q cy r0 r1 r2 r3 r4 r5 ?_ hs fun ac cY aY h=>k _ _ e1 l1 u1 ac cY aY h
 simp only[A7,and_true,decide_eq_true_eq];omega

theorem sPG (o0 o1 o2 o3 a b c d y0 y1 y2 y3:Int) (i:Nat) {q cy r0 r1 r2 r3 r4 r5:Int} (hq:Lim q) (hr:Lim r2) (hc:Lim cy) (hs:Sim w0 F0 K ac (pT2 o0 o1 o2 o3 a b c d y0 y1 y2 y3 i q cy r0 r1 r2 r3 r4 r5) cX aX)
  (k:∀n cy' : Int,q*3691218898639771653+r2+cy=n+18446744073709551616*cy' -> Lim n->Lim cy' -> ∀ac cY aY,Sim w0 F0 K ac (pT3 o0 o1 o2 o3 a b c d y0 y1 y2 y3 i q cy' r0 n r2 r3 r4 r5) cY aY->Wq Tryz.prog Q E9r ac .normal aY cY.w):Wq Tryz.prog Q F0m ac .normal aX cX.w:=by
 obtain ⟨x0,x1⟩:=hq;obtain ⟨rr0,rr1⟩:=hr;obtain ⟨cc0,cc1⟩:=hc;obtain ⟨e1,l1,u1,m1⟩:=mac (b:=3691218898639771653) x0 x1 (by decide) (by decide) rr0 rr1 cc0 cc1
 refine pG o0 o1 o2 o3 a b c d y0 y1 y2 y3 i q cy r0 r1 r2 r3 r4 r5 ?_ hs fun ac cY aY h=>k _ _ e1 l1 u1 ac cY aY h
 simp only[A7,and_true,decide_eq_true_eq];omega

theorem sPH (o0 o1 o2 o3 a b c d y0 y1 y2 y3:Int) (i:Nat) {q cy r0 r1 r2 r3 r4 r5:Int} (hq:Lim q) (hr:Lim r3) (hc:Lim cy) (hs:Sim w0 F0 K ac (pT3 o0 o1 o2 o3 a b c d y0 y1 y2 y3 i q cy r0 r1 r2 r3 r4 r5) cX aX)
  (k:∀n cy' : Int,q*8353516859464449352+r3+cy=n+18446744073709551616*cy' -> Lim n->Lim cy' -> ∀ac cY aY,Sim w0 F0 K ac (pT4 o0 o1 o2 o3 a b c d y0 y1 y2 y3 i q cy' r0 r1 n r3 r4 r5) cY aY->Wq Tryz.prog Q G2p ac .normal aY cY.w):Wq Tryz.prog Q E9r ac .normal aX cX.w:=by
 obtain ⟨x0,x1⟩:=hq;obtain ⟨rr0,rr1⟩:=hr;obtain ⟨cc0,cc1⟩:=hc;obtain ⟨e1,l1,u1,m1⟩:=mac (b:=8353516859464449352) x0 x1 (by decide) (by decide) rr0 rr1 cc0 cc1
 refine pH o0 o1 o2 o3 a b c d y0 y1 y2 y3 i q cy r0 r1 r2 r3 r4 r5 ?_ hs fun ac cY aY h=>k _ _ e1 l1 u1 ac cY aY h
 simp only[A7,and_true,decide_eq_true_eq];omega

theorem sPI (o0 o1 o2 o3 a b c d y0 y1 y2 y3:Int) (i:Nat) {q cy r0 r1 r2 r3 r4 r5:Int} (hi:i<4) (hr4:Lim r4) (hc:Lim cy) (hs:Sim w0 F0 K ac (pT4 o0 o1 o2 o3 a b c d y0 y1 y2 y3 i q cy r0 r1 r2 r3 r4 r5) cX aX)
  (k:∀n3 c4:Int,r4+cy+0=n3+18446744073709551616*c4->Lim n3->0<=c4->c4<=1->∀ac cY aY,Sim w0 F0 K ac (pS o0 o1 o2 o3 a b c d y0 y1 y2 y3 (i+1) r0 r1 r2 n3 (wrap IntKind.u64 (r5+c4)) r5) cY aY->Wq Tryz.prog Q (N8 B0c) ac .normal aY cY.w):Wq Tryz.prog Q G2p ac .normal aX cX.w:=by
 obtain ⟨rr4,rr5⟩:=hr4;obtain ⟨cc0,cc1⟩:=hc;obtain ⟨e1,p1,p1',q1,q1'⟩:=E6 (c:=0) rr4 rr5 cc0 cc1 (by decide) (by decide)
 refine pI o0 o1 o2 o3 a b c d y0 y1 y2 y3 i q cy r0 r1 r2 r3 r4 r5 ?_ hs fun ac cY aY h=>k _ _ e1 ⟨p1,p1'⟩ q1 q1' ac cY aY (by rw[B9 (by omega) (by omega)] at h;exact h.nx _)
 simp only[A7,and_true,decide_eq_false_iff_not];omega

end

end S4

namespace S4

structure H4u (A Y i:Nat) (r0 r1 r2 r3 r4:Int):Prop where
 i4:i<=4
 h0:Lim r0
 h1:Lim r1
 h2:Lim r2
 h3:Lim r3
 h4:r4=0
 lt:D2 r0 r1 r2 r3<2*rN
 eq:∃Q:Nat,D2 r0 r1 r2 r3*((2 ^ (64*i):Nat):Int)=((A % 2 ^ (64*i):Nat):Int)*(Y:Int)+(Q:Int)*(rN:Int)

theorem E3m {A Y r i Q:Nat} {T T' q:Int} (hq:0<=q) (h:T*((2 ^ (64*i):Nat):Int)=((A % 2 ^ (64*i):Nat):Int)*(Y:Int)+(Q:Int)*(r:Int))
  (h' : 18446744073709551616*T' = T+A1 A i*(Y:Int)+q*(r:Int)) :
  ∃Q:Nat,T' * ((2 ^ (64*(i+1)):Nat):Int)=((A % 2 ^ (64*(i+1)):Nat):Int)*(Y:Int)+(Q:Int)*(r:Int):=by
 obtain ⟨q,rfl⟩:=Int.eq_ofNat_of_zero_le hq;refine ⟨Q+q*2 ^ (64*i),?_⟩
 rw[B7o];have hp:(2:Nat) ^ (64*(i+1))=2 ^ (64*i)*18446744073709551616:=by rw[Nat.mul_add,Nat.pow_add]
 rw[hp];have hl:A1 A i=((A / 2 ^ (64*i) % 18446744073709551616:Nat):Int):=rfl;rw[hl] at h'
 generalize A / 2 ^ (64*i) % 18446744073709551616=xi at *;generalize A % 2 ^ (64*i)=X at *;generalize 2 ^ (64*i)=m at *;have e1:T' * ((m*18446744073709551616:Nat):Int)=(18446744073709551616*T')*(m:Int):=by
  rw[Int.natCast_mul,Int.mul_comm (m:Int),<-Int.mul_assoc,Int.mul_comm T'];rfl
 rw[e1,h',Int.add_mul,Int.add_mul,h];push_cast
 simp only[Int.add_mul,Int.mul_assoc];have e2:(xi:Int)*((Y:Int)*(m:Int))=(m:Int)*((xi:Int)*(Y:Int)):=by rw[<-Int.mul_assoc,Int.mul_comm]
 have e3:(q:Int)*((r:Int)*(m:Int))=(q:Int)*((m:Int)*(r:Int)):=by rw[Int.mul_comm (r:Int)]
 rw[e2,e3];omega

theorem F9f {r B v T X Q:Nat} (e:v*B % r=1 % r) (h:T*B=X+Q*r):T % r=X*v % r:=by
  have h2:∀a:Nat,a*(v*B) % r=a % r:=fun a=>by rw[<-Nat.mul_mod_mod,e,Nat.mul_mod_mod,Nat.mul_one]
  calc T % r=T*(v*B) % r:=(h2 _).symm
    _=(T*B)*v % r:=by congr 1;simp only[Nat.mul_comm,Nat.mul_left_comm]
    _=X*v % r:=by rw[h,Nat.add_mul,Nat.mul_assoc Q,Nat.mul_comm r,<-Nat.mul_assoc,Nat.add_mul_mod_self_right]

theorem D8v {a b:Nat} (h:a % rN=b % rN):A2l a=A2l b:=by unfold A2l;rw[h]

theorem D8q (o0 o1 o2 o3:Int) (A Y:Nat) (hA:A<B4) (hY:Y<rN) :
  MuC Tryz.prog 89 0 4 1 (fl4 o0 o1 o2 o3) [u4s (A1 A 0) (A1 A 1) (A1 A 2) (A1 A 3),u4s (A1 Y 0) (A1 Y 1) (A1 Y 2) (A1 Y 3),mR,.v (.c (.int .u64 18446744069414584319))] (.fl [.ob (.fr (A2l (A*Y*D0b)))]):=by
 refine B1m (fn:=Tryz.f89) (c:=B7 Tryz.f89) Tryz.func89 rfl rfl fun x0 a0 hk hm hs=>?_
 obtain ⟨ey,y0,y0',y1,y1',y2,y2',y3,y3'⟩:=Y0 Y (Nat.lt_trans hY (by decide))
 obtain ⟨ea,z0,z0',z1,z1',z2,z2',z3,z3'⟩:=Y0 A hA;have hyr:(Y:Int)<(rN:Int):=by exact_mod_cast hY
 have hin:=@pIn o0 o1 o2 o3 (A1 A 0) (A1 A 1) (A1 A 2) (A1 A 3) (A1 Y 0) (A1 Y 1) (A1 Y 2) (A1 Y 3);have hget:∀i,i<4->List.getD [A1 A 0,A1 A 1,A1 A 2,A1 A 3] i 0=A1 A i:=by
  intro i hi;have:i=0∨i=1∨i=2∨i=3:=by omega
  rcases this with rfl | rfl | rfl | rfl<;>rfl
 have hmul:=fun z=>D4n z (A1 Y 0) (A1 Y 1) (A1 Y 2) (A1 Y 3)
 have hyn:(Y:Int)=D2 (A1 Y 0) (A1 Y 1) (A1 Y 2) (A1 Y 3):=ey;rw[<-hyn] at hmul;have hx0:∀i,0<=A1 A i:=fun i=>Int.natCast_nonneg _
 have hx1:∀i,A1 A i<18446744073709551616:=fun i=>by
  show ((A / 2 ^ (64*i) % 18446744073709551616:Nat):Int)<18446744073709551616;omega
 have hlimY0:Lim (A1 Y 0):=⟨y0,y0'⟩;have hlimY1:Lim (A1 Y 1):=⟨y1,y1'⟩;have hlimY2:Lim (A1 Y 2):=⟨y2,y2'⟩;have hlimY3:Lim (A1 Y 3):=⟨y3,y3'⟩;clear ey ea y0 y0' y1 y1' y2 y2' y3 y3' z0 z0' z1 z1' z2 z2' z3 z3';have hT4:A % 2 ^ (64*4)=A:=Nat.mod_eq_of_lt (by rw[F1y];exact hA)
 generalize A1 A 0=a at *;generalize A1 A 1=b at *;generalize A1 A 2=c at *;generalize A1 A 3=d at *;generalize A1 Y 0=v0 at *;generalize A1 Y 1=v1 at *;generalize A1 Y 2=v2 at *;generalize A1 Y 3=v3 at *;refine hin trivial hs fun ac cY aY hs1=>?_
 refine F4 (ι:={ p:Nat×Int×Int×Int×Int×Int×Int // H4u A Y p.1 p.2.1 p.2.2.1 p.2.2.2.1 p.2.2.2.2.1 p.2.2.2.2.2.1 })
  (fun p=>pS o0 o1 o2 o3 a b c d v0 v1 v2 v3 p.1.1 p.1.2.1 p.1.2.2.1 p.1.2.2.2.1 p.1.2.2.2.2.1 p.1.2.2.2.2.2.1 p.1.2.2.2.2.2.2) (fun p=>4-p.1.1) (c:=lpC B0c) (k:=lpR B0c) (by kernel_rfl) (fun p ih ac cY aY hs=>?_)
  ⟨(0,0,0,0,0,0,0),⟨by decide,⟨by decide,by decide⟩,⟨by decide,by decide⟩,⟨by decide,by decide⟩,⟨by decide,by decide⟩,rfl,by decide,0,by simp [D2,Nat.mod_one]⟩⟩ hs1
 obtain ⟨⟨i,r0,r1,r2,r3,r4,r5⟩,hI⟩:=p;simp only at ih hs hI
 obtain ⟨hi,h0,h1,h2,h3,h4,hlt,Q,hQ⟩:=hI;subst h4;by_cases h5:i<4
 ·have hround:=fun T' q hq=>E3m (A:=A) (Y:=Y) (r:=rN) (i:=i) (Q:=Q) (T:=D2 r0 r1 r2 r3) (T' := T') (q:=q) hq hQ
  have hzz:A1 A i*(Y:Int)<=18446744073709551615*(Y:Int):=Int.mul_le_mul_of_nonneg_right (by have:=hx1 i;omega) (by omega)
  have hz0:0<=A1 A i*(Y:Int):=Int.mul_nonneg (hx0 i) (by omega)
  have hlx:Lim (A1 A i):=⟨hx0 i,hx1 i⟩;refine sPA o0 o1 o2 o3 a b c d v0 v1 v2 v3 i h5 (hget i h5) hlx hlimY0 h0 hs fun a0 c0 eA la0 lc0 ac cY aY hs=>?_
  refine sPB o0 o1 o2 o3 a b c d v0 v1 v2 v3 i hlx hlimY1 h1 lc0 hs fun a1 c1 eB la1 lc1 ac cY aY hs=>?_
  refine sPC o0 o1 o2 o3 a b c d v0 v1 v2 v3 i hlx hlimY2 h2 lc1 hs fun a2 c2 eC la2 lc2 ac cY aY hs=>?_
  refine sPD o0 o1 o2 o3 a b c d v0 v1 v2 v3 i hlx hlimY3 h3 lc2 hs fun a3 c3 eD la3 lc3 ac cY aY hs=>?_
  refine sPE o0 o1 o2 o3 a b c d v0 v1 v2 v3 i la0 ⟨by decide,by decide⟩ lc3 hs fun q d0 n4 n5 eE eQ ln4 n50 n51 lq ld0 ac cY aY hs=>?_
  refine sPF o0 o1 o2 o3 a b c d v0 v1 v2 v3 i lq la1 ld0 hs fun b0 d1 eF lb0 ld1 ac cY aY hs=>?_
  refine sPG o0 o1 o2 o3 a b c d v0 v1 v2 v3 i lq la2 ld1 hs fun b1 d2 eG lb1 ld2 ac cY aY hs=>?_
  refine sPH o0 o1 o2 o3 a b c d v0 v1 v2 v3 i lq la3 ld2 hs fun b2 d3 eH lb2 ld3 ac cY aY hs=>?_
  refine sPI o0 o1 o2 o3 a b c d v0 v1 v2 v3 i h5 ln4 ld3 hs fun b3 c4 eI lb3 c40 c41 ac cY aY hs=>?_
  have hall:18446744073709551616*(D2 b0 b1 b2 b3+115792089237316195423570985008687907853269984665640564039457584007913129639936*(n5+c4))=D2 r0 r1 r2 r3+A1 A i*(Y:Int)+q*(rN:Int):=by
   rw[hmul];clear hround hmul hzz hz0 hQ ih hyr hyn;unfold D2 rN;omega
  have hlt' : D2 b0 b1 b2 b3+115792089237316195423570985008687907853269984665640564039457584007913129639936*(n5+c4)<2*rN:=by
   obtain ⟨q0,q1⟩:=lq;have:q*(rN:Int)<=18446744073709551615*(rN:Int):=Int.mul_le_mul_of_nonneg_right (by omega) (by omega)
   clear hround hmul hQ ih hyn;generalize A1 A i*(Y:Int)=z at *;generalize q*(rN:Int)=z' at *;omega
  have htop:n5+c4=0:=by
   obtain ⟨_,_⟩:=lb0;obtain ⟨_,_⟩:=lb1;obtain ⟨_,_⟩:=lb2;obtain ⟨_,_⟩:=lb3;unfold D2 rN at hlt';omega
  rw[htop,Int.mul_zero,Int.add_zero] at hall hlt'
  rw[htop] at hs;exact ih ⟨(i+1,b0,b1,b2,b3,wrap IntKind.u64 0,n5),⟨h5,lb0,lb1,lb2,lb3,rfl,hlt',hround _ q lq.1 hall⟩⟩ (by show 4-(i+1)<4-i;omega) ac cY aY hs
 ·have hi4:i=4:=by omega
  subst hi4;have hT:0<=D2 r0 r1 r2 r3:=by
   obtain ⟨_,_⟩:=h0;obtain ⟨_,_⟩:=h1;obtain ⟨_,_⟩:=h2;obtain ⟨_,_⟩:=h3;unfold D2;omega
  rw[hT4] at hQ;have hb4:(2 ^ (64*4):Nat)=B4:=F1y;rw[hb4] at hQ;have hlast:=E2e hT hQ;have hred:A2l (D2 r0 r1 r2 r3).toNat=A2l (A*Y*D0b):=D8v (F9f B2g hlast);rw[<-hred];refine B3m O7 hk hm (pX o0 o1 o2 o3 a b c d v0 v1 v2 v3 4 r0 r1 r2 r3 0 r5) rfl ?_ (fun y cs h=>h) (.inl ⟨_,_,rfl,rfl⟩) hs
  refine ⟨by decide,by decide,by decide,by decide,by decide,h0,h1,h2,h3,hlt,rfl,rfl,rfl,rfl,rfl,trivial⟩

end S4

namespace S4

theorem MuC.pre {P:Program} {f off len es:Nat} {e1 e2 e' : En} {rest:List SV} (h:MuC P f off len es e2 rest e') (hl:∃l l',e1 = .fl l∧e2 = .fl l') (hd:∀x cs,C4 x e1 cs->C4 x e2 cs):MuC P f off len es e1 rest e' := by
 intro x vs hk hm hden;obtain ⟨l,l',rfl,rfl⟩:=hl;refine h x vs hk ⟨fun p=>?_,fun p r hp=>?_,fun p q hp hn=>?_,fun p e hp hr=>?_,hm.inj,hm.own,hm.fw⟩ hden
 ·rw[<-hm.dom p]
  by_cases h0:p=0<;>simp [one,h0]
 ·by_cases h0:p=0
  ·subst h0;exact hm.fl 0 l rfl
  ·simp [one,h0] at hp
 ·by_cases h0:p=0
  ·subst h0;simp [one] at hp
  ·simp [one,h0] at hp
 ·by_cases h0:p=0
  ·subst h0
   simp only[one,if_true,Option.some.injEq] at hp;subst hp;obtain ⟨cs,ty,hc,hdd⟩:=hm.ent 0 _ rfl hr;exact ⟨cs,ty,hc,hd _ _ hdd⟩
  ·simp [one,h0] at hp

theorem F9r {x:Ctx} {o:Ob} (hk:o.k=4) {cs:List Value} (h:C0 x.D [.ob o] cs):C0 x.D [.int .u64 (A1 o.n 0),.int .u64 (A1 o.n 1),.int .u64 (A1 o.n 2),.int .u64 (A1 o.n 3)] cs:=by
 obtain ⟨c1,c2,e,⟨d,h1⟩,h2⟩:=h;have h1:c1=o.cells:=by cases d<;>exact h1
 have h2:c2=[]:=h2;subst h2 h1 e;rw[List.append_nil];unfold Ob.cells;rw[hk];exact ⟨[_],_,rfl,⟨0,rfl⟩,[_],_,rfl,⟨0,rfl⟩,[_],_,rfl,⟨0,rfl⟩,[_],_,rfl,⟨0,rfl⟩,rfl⟩

def D9p (a b c d y0 y1 y2 y3:Int):En:=.fl [.ob (.fr (A2l ((D2 a b c d).toNat*(D2 y0 y1 y2 y3).toNat*D0b)))]
def C0b:MuS:=fun off len es e rest=>
 match off,len,es,e,rest with
 | 0,4,1,.fl [.ob (.s _)],[.v (.c (.sl (.u64 [a,b,c,d]))),.v (.c (.sl (.u64 [y0,y1,y2,y3]))),.v (.c (.sl (.u64 [m0,m1,m2,m3]))),.v (.c (.int .u64 neg))]=>
  some ([Lim a,Lim b,Lim c,Lim d,Lim y0,Lim y1,Lim y2,Lim y3,D2 y0 y1 y2 y3<rN,neg=18446744069414584319,m0=18446744069414584321,m1=6034159408538082302,m2=3691218898639771653,m3=8353516859464449352],D9p a b c d y0 y1 y2 y3)
 | 0,4,1,.fl [.ob (.fr _)],[.v (.c (.sl (.u64 [a,b,c,d]))),.v (.c (.sl (.u64 [y0,y1,y2,y3]))),.v (.c (.sl (.u64 [m0,m1,m2,m3]))),.v (.c (.int .u64 neg))]=>
  some ([Lim a,Lim b,Lim c,Lim d,Lim y0,Lim y1,Lim y2,Lim y3,D2 y0 y1 y2 y3<rN,neg=18446744069414584319,m0=18446744069414584321,m1=6034159408538082302,m2=3691218898639771653,m3=8353516859464449352],D9p a b c d y0 y1 y2 y3)
 | _,_,_,_,_=>none

theorem D3b {a b c d:Int} (ha:Lim a) (hb:Lim b) (hc:Lim c) (hd:Lim d):∃n:Nat,n<B4∧D2 a b c d=(n:Int)∧A1 n 0=a∧A1 n 1=b∧A1 n 2=c∧A1 n 3=d:=by
 obtain ⟨ha,ha1⟩:=ha;obtain ⟨hb,hb1⟩:=hb;obtain ⟨hc,hc1⟩:=hc;obtain ⟨hd,hd1⟩:=hd;have h0:0<=D2 a b c d:=by unfold D2;omega
 obtain ⟨n,hn⟩:=Int.eq_ofNat_of_zero_le h0;refine ⟨n,?_,hn,V7 ha ha1 hb hb1 hc hc1 hd hd1 (by rw[<-hn];rfl)⟩
 unfold D2 at hn;unfold B4;omega

theorem D4b {o:Ob} (hk:o.k=4) {a b c d y0 y1 y2 y3 neg m0 m1 m2 m3:Int}
  (ho:A7 [Lim a,Lim b,Lim c,Lim d,Lim y0,Lim y1,Lim y2,Lim y3,D2 y0 y1 y2 y3<rN,neg=18446744069414584319,m0=18446744069414584321,m1=6034159408538082302,m2=3691218898639771653,m3=8353516859464449352]) :
  MuC Tryz.prog 89 0 4 1 (.fl [.ob o]) [.v (.c (.sl (.u64 [a,b,c,d]))),.v (.c (.sl (.u64 [y0,y1,y2,y3]))),.v (.c (.sl (.u64 [m0,m1,m2,m3]))),.v (.c (.int .u64 neg))] (D9p a b c d y0 y1 y2 y3):=by
 obtain ⟨h1,h2,h3,h4,h5,h6,h7,h8,h9,rfl,rfl,rfl,rfl,rfl,_⟩:=ho;obtain ⟨A,hA,eA,rfl,rfl,rfl,rfl⟩:=D3b h1 h2 h3 h4;obtain ⟨Y,hY,eY,rfl,rfl,rfl,rfl⟩:=D3b h5 h6 h7 h8;refine MuC.pre (e2:=fl4 (A1 o.n 0) (A1 o.n 1) (A1 o.n 2) (A1 o.n 3)) ?_ ⟨_,_,rfl,rfl⟩ fun x cs h=>F9r hk h
 unfold D9p;rw[eA,eY,Int.toNat_natCast,Int.toNat_natCast];rw[eY] at h9;exact D8q _ _ _ _ A Y hA (by exact_mod_cast h9)

def C2j:Env:={ A4b with mu:=fun g=>if g=89 then some (mu1 C0b) else A4b.mu g }
theorem A1w:A6 Tryz.prog C2j:=
 C7y O7 89 C0b (A3 Tryz.func89 rfl rfl) fun off len es e rest o e' h ho _ _=>by
  unfold C0b at h;split at h
  ·cases h;exact D4b rfl ho
  ·cases h;exact D4b rfl ho
  ·cases h

--@env C2j A1w
theorem H5g (x:U4):B2 C2j Tryz.f46 3000 [.v (.a [.ob (.fr x)])] [] [] []=(some ([(S4.Lim (A1 (Ob.n (.fr x)) 0)),(S4.Lim (A1 (Ob.n (.fr x)) 1)),(S4.Lim (A1 (Ob.n (.fr x)) 2)),(S4.Lim (A1 (Ob.n (.fr x)) 3)),(S4.Lim (14526898881837571181:Int)),(S4.Lim (3129137299524312099:Int)),(S4.Lim (419701826671360399:Int)),(S4.Lim (524908885293268753:Int)),((3294906474794265442129797520630710739278575682199800681788903916070560242797:Int)<(52435875175126190479447740508185965837690552500527637822603658699938581184513:Int)),((18446744069414584319:Int)=(18446744069414584319:Int)),((18446744069414584321:Int)=(18446744069414584321:Int)),((6034159408538082302:Int)=(6034159408538082302:Int)),((3691218898639771653:Int)=(3691218898639771653:Int)),((8353516859464449352:Int)=(8353516859464449352:Int))],((.v (.a [(.ob (.fr (S4.A2l ((((S4.D2 (A1 (Ob.n (.fr x)) 0) (A1 (Ob.n (.fr x)) 1) (A1 (Ob.n (.fr x)) 2) (A1 (Ob.n (.fr x)) 3))).toNat*3294906474794265442129797520630710739278575682199800681788903916070560242797)*D0b))))])),[]))):=by kernel_rfl
theorem H3x (x:Fr):B2 C2j Tryz.f48 3000 [.v (.a [.ob (.s x)])] [] [] []=(some ([(S4.Lim (A1 (Ob.n (.s x)) 0)),(S4.Lim (A1 (Ob.n (.s x)) 1)),(S4.Lim (A1 (Ob.n (.s x)) 2)),(S4.Lim (A1 (Ob.n (.s x)) 3)),(S4.Lim (1:Int)),(S4.Lim (0:Int)),(S4.Lim (0:Int)),(S4.Lim (0:Int)),((1:Int)<(52435875175126190479447740508185965837690552500527637822603658699938581184513:Int)),((18446744069414584319:Int)=(18446744069414584319:Int)),((18446744069414584321:Int)=(18446744069414584321:Int)),((6034159408538082302:Int)=(6034159408538082302:Int)),((3691218898639771653:Int)=(3691218898639771653:Int)),((8353516859464449352:Int)=(8353516859464449352:Int))],((.v (.a [(.ob (.fr (S4.A2l ((((S4.D2 (A1 (Ob.n (.s x)) 0) (A1 (Ob.n (.s x)) 1) (A1 (Ob.n (.s x)) 2) (A1 (Ob.n (.s x)) 3))).toNat*1)*D0b))))])),[]))):=by kernel_rfl
end S4

namespace S4

/-- A number, taken modulo r; an element as a number. -/
def inF (a:U4):Fr:=Fin.ofNat rN a.val
def H8 (x:Fr):U4:=Fin.ofNat B4 x.val
theorem D3m (x:Fr):(H8 x).val=x.val:=Nat.mod_eq_of_lt (Nat.lt_trans x.isLt (by decide))

theorem E2g {n:Nat} (h:n<B4):Lim (A1 n 0)∧Lim (A1 n 1)∧Lim (A1 n 2)∧Lim (A1 n 3)∧(D2 (A1 n 0) (A1 n 1) (A1 n 2) (A1 n 3)).toNat=n:=by
 obtain ⟨e,a0,a1,b0,b1,c0,c1,d0,d1⟩:=Y0 n h;refine ⟨⟨a0,a1⟩,⟨b0,b1⟩,⟨c0,c1⟩,⟨d0,d1⟩,?_⟩
 unfold D2;rw[<-e];exact Int.toNat_natCast n

theorem G2e {r B v s a:Nat} (e:v*B % r=1 % r) (hs:s % r=B*B % r):a*s*v % r=(a % r)*B % r:=by
  have h2:∀a:Nat,a*(v*B) % r=a % r:=fun a=>by rw[<-Nat.mul_mod_mod,e,Nat.mul_mod_mod,Nat.mul_one]
  calc a*s*v % r=(a*v)*s % r:=by congr 1;simp only[Nat.mul_comm,Nat.mul_left_comm]
    _=(a*v)*(B*B) % r:=by rw[<-Nat.mul_mod_mod,hs,Nat.mul_mod_mod]
    _=(a*B)*(v*B) % r:=by congr 1;simp only[Nat.mul_comm,Nat.mul_left_comm]
    _=a*B % r:=h2 _
    _=(a % r)*B % r:=by rw[Nat.mod_mul_mod]

theorem H3u:3294906474794265442129797520630710739278575682199800681788903916070560242797 % rN=B4*B4 % rN:=by kernel_rfl

theorem F9m (a:U4):FnD Tryz.prog 46 [.v (.a [.ob (.fr a)])] (.v (.a [.ob (.s (inF a))])) []:=by
 obtain ⟨h0,h1,h2,h3,hn⟩:=E2g a.isLt;refine (A2 A1w Tryz.func46 (H5g a) ?_).conv (fun _ _ h=>h) fun y v hd=>?_
 ·exact ⟨h0,h1,h2,h3,⟨by decide,by decide⟩,⟨by decide,by decide⟩,⟨by decide,by decide⟩,⟨by decide,by decide⟩,by decide,rfl,rfl,rfl,rfl,rfl,trivial⟩
 ·refine E0a (o:=.fr (A2l _)) (o' := .s (inF a)) rfl ?_ hd
  show (A2l _).val=_;rw[B2e];have hn:(D2 (A1 (Ob.n (Ob.fr a)) 0) (A1 (Ob.n (Ob.fr a)) 1) (A1 (Ob.n (Ob.fr a)) 2) (A1 (Ob.n (Ob.fr a)) 3)).toNat=a.val:=hn;rw[hn];exact G2e B2g H3u

theorem E1b {r B v x:Nat} (e:v*B % r=1 % r):(x*B % r)*1*v % r=x % r:=by
 rw[Nat.mul_one,Nat.mod_mul_mod,Nat.mul_assoc,Nat.mul_comm B,<-Nat.mul_mod_mod,e,Nat.mul_mod_mod,Nat.mul_one]

theorem F2w (x:Fr):FnD Tryz.prog 48 [.v (.a [.ob (.s x)])] (.v (.a [.ob (.fr (H8 x))])) []:=by
 obtain ⟨h0,h1,h2,h3,hn⟩:=E2g (n:=(Ob.s x).n) (Nat.lt_trans (B3p x) (by decide))
 refine (A2 A1w Tryz.func48 (H3x x) ?_).conv (fun _ _ h=>h) fun y v hd=>?_
 ·exact ⟨h0,h1,h2,h3,⟨by decide,by decide⟩,⟨by decide,by decide⟩,⟨by decide,by decide⟩,⟨by decide,by decide⟩,by decide,rfl,rfl,rfl,rfl,rfl,trivial⟩
 ·refine E0a (o:=.fr (A2l _)) (o' := .fr (H8 x)) (Eq.refl 4) ?_ hd
  show (A2l _).val=(H8 x).val;rw[B2e,hn,D3m];have e:(Ob.s x).n=x.val*B4 % rN:=rfl;rw[e,E1b B2g];exact Nat.mod_eq_of_lt x.isLt

end S4

namespace S4

--@env C2j A1w
theorem H0z (x y:Fr):B2 C2j Tryz.f49 3000 [.v (.a [.ob (.s x)]),.v (.a [.ob (.s y)])] [] [] []=(some ([(0<=(0:Int)),(0<(4:Int)),(0<(Ob.k (.s x))),(0<=(0:Int)),(0<(4:Int)),(0<(Ob.k (.s y))),(0<=(A1 (Ob.n (.s x)) 0)),(0<=(A1 (Ob.n (.s y)) 0)),((A1 (Ob.n (.s y)) 0)<(18446744073709551616:Int)),(0<=(0:Int)),(0<=(1:Int)),(0<=(0:Int)),(0<(4:Int)),(0<=(1:Int)),((1:Int)<(4:Int)),(1<(Ob.k (.s x))),(0<=(1:Int)),((1:Int)<(4:Int)),(1<(Ob.k (.s y))),(0<=(A1 (Ob.n (.s x)) 1)),(0<=(A1 (Ob.n (.s y)) 1)),((A1 (Ob.n (.s y)) 1)<(18446744073709551616:Int)),(0<=(Prod.snd (A0 0 (A1 (Ob.n (.s x)) 0) (A1 (Ob.n (.s y)) 0) (0:Int)))),((Prod.snd (A0 0 (A1 (Ob.n (.s x)) 0) (A1 (Ob.n (.s y)) 0) (0:Int)))<=(1:Int)),(0<=(1:Int)),((1:Int)<(4:Int)),(0<=(2:Int)),((2:Int)<(4:Int)),(2<(Ob.k (.s x))),(0<=(2:Int)),((2:Int)<(4:Int)),(2<(Ob.k (.s y))),(0<=(A1 (Ob.n (.s x)) 2)),(0<=(A1 (Ob.n (.s y)) 2)),((A1 (Ob.n (.s y)) 2)<(18446744073709551616:Int)),(0<=(Prod.snd (A0 0 (A1 (Ob.n (.s x)) 1) (A1 (Ob.n (.s y)) 1) (Prod.snd (A0 0 (A1 (Ob.n (.s x)) 0) (A1 (Ob.n (.s y)) 0) (0:Int)))))),((Prod.snd (A0 0 (A1 (Ob.n (.s x)) 1) (A1 (Ob.n (.s y)) 1) (Prod.snd (A0 0 (A1 (Ob.n (.s x)) 0) (A1 (Ob.n (.s y)) 0) (0:Int)))))<=(1:Int)),(0<=(2:Int)),((2:Int)<(4:Int)),(0<=(3:Int)),((3:Int)<(4:Int)),(3<(Ob.k (.s x))),(0<=(3:Int)),((3:Int)<(4:Int)),(3<(Ob.k (.s y))),(0<=(A1 (Ob.n (.s x)) 3)),(0<=(A1 (Ob.n (.s y)) 3)),((A1 (Ob.n (.s y)) 3)<(18446744073709551616:Int)),(0<=(Prod.snd (A0 0 (A1 (Ob.n (.s x)) 2) (A1 (Ob.n (.s y)) 2) (Prod.snd (A0 0 (A1 (Ob.n (.s x)) 1) (A1 (Ob.n (.s y)) 1) (Prod.snd (A0 0 (A1 (Ob.n (.s x)) 0) (A1 (Ob.n (.s y)) 0) (0:Int)))))))),((Prod.snd (A0 0 (A1 (Ob.n (.s x)) 2) (A1 (Ob.n (.s y)) 2) (Prod.snd (A0 0 (A1 (Ob.n (.s x)) 1) (A1 (Ob.n (.s y)) 1) (Prod.snd (A0 0 (A1 (Ob.n (.s x)) 0) (A1 (Ob.n (.s y)) 0) (0:Int)))))))<=(1:Int)),(0<=(3:Int)),((3:Int)<(4:Int)),(0<=(Prod.fst (A0 0 (A1 (Ob.n (.s x)) 0) (A1 (Ob.n (.s y)) 0) (0:Int)))),((Prod.fst (A0 0 (A1 (Ob.n (.s x)) 0) (A1 (Ob.n (.s y)) 0) (0:Int)))<(18446744073709551616:Int)),(0<=(Prod.fst (A0 0 (A1 (Ob.n (.s x)) 1) (A1 (Ob.n (.s y)) 1) (Prod.snd (A0 0 (A1 (Ob.n (.s x)) 0) (A1 (Ob.n (.s y)) 0) (0:Int)))))),((Prod.fst (A0 0 (A1 (Ob.n (.s x)) 1) (A1 (Ob.n (.s y)) 1) (Prod.snd (A0 0 (A1 (Ob.n (.s x)) 0) (A1 (Ob.n (.s y)) 0) (0:Int)))))<(18446744073709551616:Int)),(0<=(Prod.fst (A0 0 (A1 (Ob.n (.s x)) 2) (A1 (Ob.n (.s y)) 2) (Prod.snd (A0 0 (A1 (Ob.n (.s x)) 1) (A1 (Ob.n (.s y)) 1) (Prod.snd (A0 0 (A1 (Ob.n (.s x)) 0) (A1 (Ob.n (.s y)) 0) (0:Int)))))))),((Prod.fst (A0 0 (A1 (Ob.n (.s x)) 2) (A1 (Ob.n (.s y)) 2) (Prod.snd (A0 0 (A1 (Ob.n (.s x)) 1) (A1 (Ob.n (.s y)) 1) (Prod.snd (A0 0 (A1 (Ob.n (.s x)) 0) (A1 (Ob.n (.s y)) 0) (0:Int)))))))<(18446744073709551616:Int)),(0<=(Prod.fst (A0 0 (A1 (Ob.n (.s x)) 3) (A1 (Ob.n (.s y)) 3) (Prod.snd (A0 0 (A1 (Ob.n (.s x)) 2) (A1 (Ob.n (.s y)) 2) (Prod.snd (A0 0 (A1 (Ob.n (.s x)) 1) (A1 (Ob.n (.s y)) 1) (Prod.snd (A0 0 (A1 (Ob.n (.s x)) 0) (A1 (Ob.n (.s y)) 0) (0:Int)))))))))),((Prod.fst (A0 0 (A1 (Ob.n (.s x)) 3) (A1 (Ob.n (.s y)) 3) (Prod.snd (A0 0 (A1 (Ob.n (.s x)) 2) (A1 (Ob.n (.s y)) 2) (Prod.snd (A0 0 (A1 (Ob.n (.s x)) 1) (A1 (Ob.n (.s y)) 1) (Prod.snd (A0 0 (A1 (Ob.n (.s x)) 0) (A1 (Ob.n (.s y)) 0) (0:Int)))))))))<(18446744073709551616:Int)),((S4.D2 (Prod.fst (A0 0 (A1 (Ob.n (.s x)) 0) (A1 (Ob.n (.s y)) 0) (0:Int))) (Prod.fst (A0 0 (A1 (Ob.n (.s x)) 1) (A1 (Ob.n (.s y)) 1) (Prod.snd (A0 0 (A1 (Ob.n (.s x)) 0) (A1 (Ob.n (.s y)) 0) (0:Int))))) (Prod.fst (A0 0 (A1 (Ob.n (.s x)) 2) (A1 (Ob.n (.s y)) 2) (Prod.snd (A0 0 (A1 (Ob.n (.s x)) 1) (A1 (Ob.n (.s y)) 1) (Prod.snd (A0 0 (A1 (Ob.n (.s x)) 0) (A1 (Ob.n (.s y)) 0) (0:Int))))))) (Prod.fst (A0 0 (A1 (Ob.n (.s x)) 3) (A1 (Ob.n (.s y)) 3) (Prod.snd (A0 0 (A1 (Ob.n (.s x)) 2) (A1 (Ob.n (.s y)) 2) (Prod.snd (A0 0 (A1 (Ob.n (.s x)) 1) (A1 (Ob.n (.s y)) 1) (Prod.snd (A0 0 (A1 (Ob.n (.s x)) 0) (A1 (Ob.n (.s y)) 0) (0:Int))))))))))<(104871750350252380958895481016371931675381105001055275645207317399877162369026:Int))],((.v (.a [(.ob (.s (C2i ((S4.D2 (Prod.fst (A0 0 (A1 (Ob.n (.s x)) 0) (A1 (Ob.n (.s y)) 0) (0:Int))) (Prod.fst (A0 0 (A1 (Ob.n (.s x)) 1) (A1 (Ob.n (.s y)) 1) (Prod.snd (A0 0 (A1 (Ob.n (.s x)) 0) (A1 (Ob.n (.s y)) 0) (0:Int))))) (Prod.fst (A0 0 (A1 (Ob.n (.s x)) 2) (A1 (Ob.n (.s y)) 2) (Prod.snd (A0 0 (A1 (Ob.n (.s x)) 1) (A1 (Ob.n (.s y)) 1) (Prod.snd (A0 0 (A1 (Ob.n (.s x)) 0) (A1 (Ob.n (.s y)) 0) (0:Int))))))) (Prod.fst (A0 0 (A1 (Ob.n (.s x)) 3) (A1 (Ob.n (.s y)) 3) (Prod.snd (A0 0 (A1 (Ob.n (.s x)) 2) (A1 (Ob.n (.s y)) 2) (Prod.snd (A0 0 (A1 (Ob.n (.s x)) 1) (A1 (Ob.n (.s y)) 1) (Prod.snd (A0 0 (A1 (Ob.n (.s x)) 0) (A1 (Ob.n (.s y)) 0) (0:Int))))))))))).toNat)))])),[]))):=by kernel_rfl
theorem F7c (x y:Fr):B2 C2j Tryz.f62 3000 [.v (.a [.ob (.s x)]),.v (.a [.ob (.s y)])] [true] [] []=(some ([(0<=(0:Int)),(0<(4:Int)),(0<(Ob.k (.s x))),(0<=(0:Int)),(0<(4:Int)),(0<(Ob.k (.s y))),(0<=(A1 (Ob.n (.s x)) 0)),(0<=(A1 (Ob.n (.s y)) 0)),((A1 (Ob.n (.s y)) 0)<(18446744073709551616:Int)),(0<=(0:Int)),(0<=(1:Int)),(0<=(0:Int)),(0<(4:Int)),(0<=(1:Int)),((1:Int)<(4:Int)),(1<(Ob.k (.s x))),(0<=(1:Int)),((1:Int)<(4:Int)),(1<(Ob.k (.s y))),(0<=(A1 (Ob.n (.s x)) 1)),(0<=(A1 (Ob.n (.s y)) 1)),((A1 (Ob.n (.s y)) 1)<(18446744073709551616:Int)),(0<=(Prod.snd (A0 1 (A1 (Ob.n (.s x)) 0) (A1 (Ob.n (.s y)) 0) (0:Int)))),((Prod.snd (A0 1 (A1 (Ob.n (.s x)) 0) (A1 (Ob.n (.s y)) 0) (0:Int)))<=(1:Int)),(0<=(1:Int)),((1:Int)<(4:Int)),(0<=(2:Int)),((2:Int)<(4:Int)),(2<(Ob.k (.s x))),(0<=(2:Int)),((2:Int)<(4:Int)),(2<(Ob.k (.s y))),(0<=(A1 (Ob.n (.s x)) 2)),(0<=(A1 (Ob.n (.s y)) 2)),((A1 (Ob.n (.s y)) 2)<(18446744073709551616:Int)),(0<=(Prod.snd (A0 1 (A1 (Ob.n (.s x)) 1) (A1 (Ob.n (.s y)) 1) (Prod.snd (A0 1 (A1 (Ob.n (.s x)) 0) (A1 (Ob.n (.s y)) 0) (0:Int)))))),((Prod.snd (A0 1 (A1 (Ob.n (.s x)) 1) (A1 (Ob.n (.s y)) 1) (Prod.snd (A0 1 (A1 (Ob.n (.s x)) 0) (A1 (Ob.n (.s y)) 0) (0:Int)))))<=(1:Int)),(0<=(2:Int)),((2:Int)<(4:Int)),(0<=(3:Int)),((3:Int)<(4:Int)),(3<(Ob.k (.s x))),(0<=(3:Int)),((3:Int)<(4:Int)),(3<(Ob.k (.s y))),(0<=(A1 (Ob.n (.s x)) 3)),(0<=(A1 (Ob.n (.s y)) 3)),((A1 (Ob.n (.s y)) 3)<(18446744073709551616:Int)),(0<=(Prod.snd (A0 1 (A1 (Ob.n (.s x)) 2) (A1 (Ob.n (.s y)) 2) (Prod.snd (A0 1 (A1 (Ob.n (.s x)) 1) (A1 (Ob.n (.s y)) 1) (Prod.snd (A0 1 (A1 (Ob.n (.s x)) 0) (A1 (Ob.n (.s y)) 0) (0:Int)))))))),((Prod.snd (A0 1 (A1 (Ob.n (.s x)) 2) (A1 (Ob.n (.s y)) 2) (Prod.snd (A0 1 (A1 (Ob.n (.s x)) 1) (A1 (Ob.n (.s y)) 1) (Prod.snd (A0 1 (A1 (Ob.n (.s x)) 0) (A1 (Ob.n (.s y)) 0) (0:Int)))))))<=(1:Int)),(0<=(3:Int)),((3:Int)<(4:Int)),(((Prod.snd (A0 1 (A1 (Ob.n (.s x)) 3) (A1 (Ob.n (.s y)) 3) (Prod.snd (A0 1 (A1 (Ob.n (.s x)) 2) (A1 (Ob.n (.s y)) 2) (Prod.snd (A0 1 (A1 (Ob.n (.s x)) 1) (A1 (Ob.n (.s y)) 1) (Prod.snd (A0 1 (A1 (Ob.n (.s x)) 0) (A1 (Ob.n (.s y)) 0) (0:Int))))))))) == (0:Int))=true)],((.v (.a [(.int .u64 (Prod.fst (A0 1 (A1 (Ob.n (.s x)) 0) (A1 (Ob.n (.s y)) 0) (0:Int)))),(.int .u64 (Prod.fst (A0 1 (A1 (Ob.n (.s x)) 1) (A1 (Ob.n (.s y)) 1) (Prod.snd (A0 1 (A1 (Ob.n (.s x)) 0) (A1 (Ob.n (.s y)) 0) (0:Int)))))),(.int .u64 (Prod.fst (A0 1 (A1 (Ob.n (.s x)) 2) (A1 (Ob.n (.s y)) 2) (Prod.snd (A0 1 (A1 (Ob.n (.s x)) 1) (A1 (Ob.n (.s y)) 1) (Prod.snd (A0 1 (A1 (Ob.n (.s x)) 0) (A1 (Ob.n (.s y)) 0) (0:Int)))))))),(.int .u64 (Prod.fst (A0 1 (A1 (Ob.n (.s x)) 3) (A1 (Ob.n (.s y)) 3) (Prod.snd (A0 1 (A1 (Ob.n (.s x)) 2) (A1 (Ob.n (.s y)) 2) (Prod.snd (A0 1 (A1 (Ob.n (.s x)) 1) (A1 (Ob.n (.s y)) 1) (Prod.snd (A0 1 (A1 (Ob.n (.s x)) 0) (A1 (Ob.n (.s y)) 0) (0:Int))))))))))])),[]))):=by kernel_rfl
theorem F8b (x y:Fr):B2 C2j Tryz.f62 3000 [.v (.a [.ob (.s x)]),.v (.a [.ob (.s y)])] [false] [] []=(some ([(0<=(0:Int)),(0<(4:Int)),(0<(Ob.k (.s x))),(0<=(0:Int)),(0<(4:Int)),(0<(Ob.k (.s y))),(0<=(A1 (Ob.n (.s x)) 0)),(0<=(A1 (Ob.n (.s y)) 0)),((A1 (Ob.n (.s y)) 0)<(18446744073709551616:Int)),(0<=(0:Int)),(0<=(1:Int)),(0<=(0:Int)),(0<(4:Int)),(0<=(1:Int)),((1:Int)<(4:Int)),(1<(Ob.k (.s x))),(0<=(1:Int)),((1:Int)<(4:Int)),(1<(Ob.k (.s y))),(0<=(A1 (Ob.n (.s x)) 1)),(0<=(A1 (Ob.n (.s y)) 1)),((A1 (Ob.n (.s y)) 1)<(18446744073709551616:Int)),(0<=(Prod.snd (A0 1 (A1 (Ob.n (.s x)) 0) (A1 (Ob.n (.s y)) 0) (0:Int)))),((Prod.snd (A0 1 (A1 (Ob.n (.s x)) 0) (A1 (Ob.n (.s y)) 0) (0:Int)))<=(1:Int)),(0<=(1:Int)),((1:Int)<(4:Int)),(0<=(2:Int)),((2:Int)<(4:Int)),(2<(Ob.k (.s x))),(0<=(2:Int)),((2:Int)<(4:Int)),(2<(Ob.k (.s y))),(0<=(A1 (Ob.n (.s x)) 2)),(0<=(A1 (Ob.n (.s y)) 2)),((A1 (Ob.n (.s y)) 2)<(18446744073709551616:Int)),(0<=(Prod.snd (A0 1 (A1 (Ob.n (.s x)) 1) (A1 (Ob.n (.s y)) 1) (Prod.snd (A0 1 (A1 (Ob.n (.s x)) 0) (A1 (Ob.n (.s y)) 0) (0:Int)))))),((Prod.snd (A0 1 (A1 (Ob.n (.s x)) 1) (A1 (Ob.n (.s y)) 1) (Prod.snd (A0 1 (A1 (Ob.n (.s x)) 0) (A1 (Ob.n (.s y)) 0) (0:Int)))))<=(1:Int)),(0<=(2:Int)),((2:Int)<(4:Int)),(0<=(3:Int)),((3:Int)<(4:Int)),(3<(Ob.k (.s x))),(0<=(3:Int)),((3:Int)<(4:Int)),(3<(Ob.k (.s y))),(0<=(A1 (Ob.n (.s x)) 3)),(0<=(A1 (Ob.n (.s y)) 3)),((A1 (Ob.n (.s y)) 3)<(18446744073709551616:Int)),(0<=(Prod.snd (A0 1 (A1 (Ob.n (.s x)) 2) (A1 (Ob.n (.s y)) 2) (Prod.snd (A0 1 (A1 (Ob.n (.s x)) 1) (A1 (Ob.n (.s y)) 1) (Prod.snd (A0 1 (A1 (Ob.n (.s x)) 0) (A1 (Ob.n (.s y)) 0) (0:Int)))))))),((Prod.snd (A0 1 (A1 (Ob.n (.s x)) 2) (A1 (Ob.n (.s y)) 2) (Prod.snd (A0 1 (A1 (Ob.n (.s x)) 1) (A1 (Ob.n (.s y)) 1) (Prod.snd (A0 1 (A1 (Ob.n (.s x)) 0) (A1 (Ob.n (.s y)) 0) (0:Int)))))))<=(1:Int)),(0<=(3:Int)),((3:Int)<(4:Int)),(((Prod.snd (A0 1 (A1 (Ob.n (.s x)) 3) (A1 (Ob.n (.s y)) 3) (Prod.snd (A0 1 (A1 (Ob.n (.s x)) 2) (A1 (Ob.n (.s y)) 2) (Prod.snd (A0 1 (A1 (Ob.n (.s x)) 1) (A1 (Ob.n (.s y)) 1) (Prod.snd (A0 1 (A1 (Ob.n (.s x)) 0) (A1 (Ob.n (.s y)) 0) (0:Int))))))))) == (0:Int))=false),(0<=(0:Int)),(0<(4:Int)),(0<=(0:Int)),(0<(4:Int)),(0<4),(0<=(Prod.fst (A0 1 (A1 (Ob.n (.s x)) 0) (A1 (Ob.n (.s y)) 0) (0:Int)))),(0<=(18446744069414584321:Int)),((18446744069414584321:Int)<(18446744073709551616:Int)),(0<=(0:Int)),(0<=(1:Int)),(0<=(0:Int)),(0<(4:Int)),(0<=(1:Int)),((1:Int)<(4:Int)),(0<=(1:Int)),((1:Int)<(4:Int)),(1<4),(0<=(Prod.fst (A0 1 (A1 (Ob.n (.s x)) 1) (A1 (Ob.n (.s y)) 1) (Prod.snd (A0 1 (A1 (Ob.n (.s x)) 0) (A1 (Ob.n (.s y)) 0) (0:Int)))))),(0<=(6034159408538082302:Int)),((6034159408538082302:Int)<(18446744073709551616:Int)),(0<=(Prod.snd (A0 0 (Prod.fst (A0 1 (A1 (Ob.n (.s x)) 0) (A1 (Ob.n (.s y)) 0) (0:Int))) (18446744069414584321:Int) (0:Int)))),((Prod.snd (A0 0 (Prod.fst (A0 1 (A1 (Ob.n (.s x)) 0) (A1 (Ob.n (.s y)) 0) (0:Int))) (18446744069414584321:Int) (0:Int)))<=(1:Int)),(0<=(1:Int)),((1:Int)<(4:Int)),(0<=(2:Int)),((2:Int)<(4:Int)),(0<=(2:Int)),((2:Int)<(4:Int)),(2<4),(0<=(Prod.fst (A0 1 (A1 (Ob.n (.s x)) 2) (A1 (Ob.n (.s y)) 2) (Prod.snd (A0 1 (A1 (Ob.n (.s x)) 1) (A1 (Ob.n (.s y)) 1) (Prod.snd (A0 1 (A1 (Ob.n (.s x)) 0) (A1 (Ob.n (.s y)) 0) (0:Int)))))))),(0<=(3691218898639771653:Int)),((3691218898639771653:Int)<(18446744073709551616:Int)),(0<=(Prod.snd (A0 0 (Prod.fst (A0 1 (A1 (Ob.n (.s x)) 1) (A1 (Ob.n (.s y)) 1) (Prod.snd (A0 1 (A1 (Ob.n (.s x)) 0) (A1 (Ob.n (.s y)) 0) (0:Int))))) (6034159408538082302:Int) (Prod.snd (A0 0 (Prod.fst (A0 1 (A1 (Ob.n (.s x)) 0) (A1 (Ob.n (.s y)) 0) (0:Int))) (18446744069414584321:Int) (0:Int)))))),((Prod.snd (A0 0 (Prod.fst (A0 1 (A1 (Ob.n (.s x)) 1) (A1 (Ob.n (.s y)) 1) (Prod.snd (A0 1 (A1 (Ob.n (.s x)) 0) (A1 (Ob.n (.s y)) 0) (0:Int))))) (6034159408538082302:Int) (Prod.snd (A0 0 (Prod.fst (A0 1 (A1 (Ob.n (.s x)) 0) (A1 (Ob.n (.s y)) 0) (0:Int))) (18446744069414584321:Int) (0:Int)))))<=(1:Int)),(0<=(2:Int)),((2:Int)<(4:Int)),(0<=(3:Int)),((3:Int)<(4:Int)),(0<=(3:Int)),((3:Int)<(4:Int)),(3<4),(0<=(Prod.fst (A0 1 (A1 (Ob.n (.s x)) 3) (A1 (Ob.n (.s y)) 3) (Prod.snd (A0 1 (A1 (Ob.n (.s x)) 2) (A1 (Ob.n (.s y)) 2) (Prod.snd (A0 1 (A1 (Ob.n (.s x)) 1) (A1 (Ob.n (.s y)) 1) (Prod.snd (A0 1 (A1 (Ob.n (.s x)) 0) (A1 (Ob.n (.s y)) 0) (0:Int)))))))))),(0<=(8353516859464449352:Int)),((8353516859464449352:Int)<(18446744073709551616:Int)),(0<=(Prod.snd (A0 0 (Prod.fst (A0 1 (A1 (Ob.n (.s x)) 2) (A1 (Ob.n (.s y)) 2) (Prod.snd (A0 1 (A1 (Ob.n (.s x)) 1) (A1 (Ob.n (.s y)) 1) (Prod.snd (A0 1 (A1 (Ob.n (.s x)) 0) (A1 (Ob.n (.s y)) 0) (0:Int))))))) (3691218898639771653:Int) (Prod.snd (A0 0 (Prod.fst (A0 1 (A1 (Ob.n (.s x)) 1) (A1 (Ob.n (.s y)) 1) (Prod.snd (A0 1 (A1 (Ob.n (.s x)) 0) (A1 (Ob.n (.s y)) 0) (0:Int))))) (6034159408538082302:Int) (Prod.snd (A0 0 (Prod.fst (A0 1 (A1 (Ob.n (.s x)) 0) (A1 (Ob.n (.s y)) 0) (0:Int))) (18446744069414584321:Int) (0:Int)))))))),((Prod.snd (A0 0 (Prod.fst (A0 1 (A1 (Ob.n (.s x)) 2) (A1 (Ob.n (.s y)) 2) (Prod.snd (A0 1 (A1 (Ob.n (.s x)) 1) (A1 (Ob.n (.s y)) 1) (Prod.snd (A0 1 (A1 (Ob.n (.s x)) 0) (A1 (Ob.n (.s y)) 0) (0:Int))))))) (3691218898639771653:Int) (Prod.snd (A0 0 (Prod.fst (A0 1 (A1 (Ob.n (.s x)) 1) (A1 (Ob.n (.s y)) 1) (Prod.snd (A0 1 (A1 (Ob.n (.s x)) 0) (A1 (Ob.n (.s y)) 0) (0:Int))))) (6034159408538082302:Int) (Prod.snd (A0 0 (Prod.fst (A0 1 (A1 (Ob.n (.s x)) 0) (A1 (Ob.n (.s y)) 0) (0:Int))) (18446744069414584321:Int) (0:Int)))))))<=(1:Int)),(0<=(3:Int)),((3:Int)<(4:Int))],((.v (.a [(.int .u64 (Prod.fst (A0 0 (Prod.fst (A0 1 (A1 (Ob.n (.s x)) 0) (A1 (Ob.n (.s y)) 0) (0:Int))) (18446744069414584321:Int) (0:Int)))),(.int .u64 (Prod.fst (A0 0 (Prod.fst (A0 1 (A1 (Ob.n (.s x)) 1) (A1 (Ob.n (.s y)) 1) (Prod.snd (A0 1 (A1 (Ob.n (.s x)) 0) (A1 (Ob.n (.s y)) 0) (0:Int))))) (6034159408538082302:Int) (Prod.snd (A0 0 (Prod.fst (A0 1 (A1 (Ob.n (.s x)) 0) (A1 (Ob.n (.s y)) 0) (0:Int))) (18446744069414584321:Int) (0:Int)))))),(.int .u64 (Prod.fst (A0 0 (Prod.fst (A0 1 (A1 (Ob.n (.s x)) 2) (A1 (Ob.n (.s y)) 2) (Prod.snd (A0 1 (A1 (Ob.n (.s x)) 1) (A1 (Ob.n (.s y)) 1) (Prod.snd (A0 1 (A1 (Ob.n (.s x)) 0) (A1 (Ob.n (.s y)) 0) (0:Int))))))) (3691218898639771653:Int) (Prod.snd (A0 0 (Prod.fst (A0 1 (A1 (Ob.n (.s x)) 1) (A1 (Ob.n (.s y)) 1) (Prod.snd (A0 1 (A1 (Ob.n (.s x)) 0) (A1 (Ob.n (.s y)) 0) (0:Int))))) (6034159408538082302:Int) (Prod.snd (A0 0 (Prod.fst (A0 1 (A1 (Ob.n (.s x)) 0) (A1 (Ob.n (.s y)) 0) (0:Int))) (18446744069414584321:Int) (0:Int)))))))),(.int .u64 (Prod.fst (A0 0 (Prod.fst (A0 1 (A1 (Ob.n (.s x)) 3) (A1 (Ob.n (.s y)) 3) (Prod.snd (A0 1 (A1 (Ob.n (.s x)) 2) (A1 (Ob.n (.s y)) 2) (Prod.snd (A0 1 (A1 (Ob.n (.s x)) 1) (A1 (Ob.n (.s y)) 1) (Prod.snd (A0 1 (A1 (Ob.n (.s x)) 0) (A1 (Ob.n (.s y)) 0) (0:Int))))))))) (8353516859464449352:Int) (Prod.snd (A0 0 (Prod.fst (A0 1 (A1 (Ob.n (.s x)) 2) (A1 (Ob.n (.s y)) 2) (Prod.snd (A0 1 (A1 (Ob.n (.s x)) 1) (A1 (Ob.n (.s y)) 1) (Prod.snd (A0 1 (A1 (Ob.n (.s x)) 0) (A1 (Ob.n (.s y)) 0) (0:Int))))))) (3691218898639771653:Int) (Prod.snd (A0 0 (Prod.fst (A0 1 (A1 (Ob.n (.s x)) 1) (A1 (Ob.n (.s y)) 1) (Prod.snd (A0 1 (A1 (Ob.n (.s x)) 0) (A1 (Ob.n (.s y)) 0) (0:Int))))) (6034159408538082302:Int) (Prod.snd (A0 0 (Prod.fst (A0 1 (A1 (Ob.n (.s x)) 0) (A1 (Ob.n (.s y)) 0) (0:Int))) (18446744069414584321:Int) (0:Int))))))))))])),[]))):=by kernel_rfl
end S4

namespace S4

theorem E3g {x y r B:Nat}:((x+y) % r)*B % r=(x*B % r+y*B % r) % r:=by
 rw[Nat.mod_mul_mod,Nat.add_mul,<-Nat.add_mod]

theorem G2s (x y:Fr):(Ob.s (x+y)).n=((Ob.s x).n+(Ob.s y).n) % rN:=by
 exact E3g

theorem D4a {n:Nat} (x y:Fin n):x-y+y=x:=by
 apply Fin.ext
 simp only[Fin.add_def,Fin.sub_def];have:=y.isLt
 rw[Nat.mod_add_mod,show n-y.val+x.val+y.val=x.val+n from by omega,Nat.add_mod_right,Nat.mod_eq_of_lt x.isLt]

theorem F9z (x y:Fr):((Ob.s (x-y)).n+(Ob.s y).n) % rN=(Ob.s x).n:=by
 rw[<-G2s,D4a]

theorem F6t {r B v x y:Nat} (e:v*B % r=1 % r):(x*B % r+y*B % r)*v % r=(x+y) % r:=by
 rw[<-Nat.mod_mul_mod,<-Nat.add_mod,Nat.mod_mul_mod,<-Nat.add_mul,Nat.mul_assoc,Nat.mul_comm B,<-Nat.mul_mod_mod,e,Nat.mul_mod_mod,Nat.mul_one]

theorem F0y (x y:Fr):C2i ((Ob.s x).n+(Ob.s y).n)=x+y:=by
 apply Fin.ext
 have e:(Ob.s x).n=x.val*B4 % rN:=rfl;have e' : (Ob.s y).n=y.val*B4 % rN:=rfl;rw[e,e'];exact F6t B2g

theorem F0n (x y:Fr):FnD Tryz.prog 49 [.v (.a [.ob (.s x)]),.v (.a [.ob (.s y)])] (.v (.a [.ob (.s (x+y))])) []:=by
 have r0:=H0z x y;have hX:=B3p x;have hY:=B3p y;have hadd:=F0y x y;obtain ⟨ex,x0,x0',x1,x1',x2,x2',x3,x3'⟩:=Y0 (Ob.s x).n (Nat.lt_trans (B3p x) (by decide))
 obtain ⟨ey,y0,y0',y1,y1',y2,y2',y3,y3'⟩:=Y0 (Ob.s y).n (Nat.lt_trans (B3p y) (by decide))
 generalize A1 (Ob.s x).n 0=a0 at *;generalize A1 (Ob.s x).n 1=a1 at *;generalize A1 (Ob.s x).n 2=a2 at *;generalize A1 (Ob.s x).n 3=a3 at *;generalize A1 (Ob.s y).n 0=b0 at *;generalize A1 (Ob.s y).n 1=b1 at *;generalize A1 (Ob.s y).n 2=b2 at *;generalize A1 (Ob.s y).n 3=b3 at *;obtain ⟨e0,p0,p0',c0,c0'⟩:=E6 (c:=0) x0 x0' y0 y0' (by decide) (by decide)
 obtain ⟨e1,p1,p1',c1,c1'⟩:=E6 x1 x1' y1 y1' c0 c0';obtain ⟨e2,p2,p2',c2,c2'⟩:=E6 x2 x2' y2 y2' c1 c1';obtain ⟨e3,p3,p3',c3,c3'⟩:=E6 x3 x3' y3 y3' c2 c2';generalize hq0:A0 0 a0 b0 0=q0 at *;generalize hq1:A0 0 a1 b1 q0.2=q1 at *;generalize hq2:A0 0 a2 b2 q1.2=q2 at *;generalize hq3:A0 0 a3 b3 q2.2=q3 at *;clear hq0 hq1 hq2 hq3;have hN:D2 q0.1 q1.1 q2.1 q3.1=((Ob.s x).n:Int)+((Ob.s y).n:Int):=by
  generalize (Ob.s x).n=X at *;generalize (Ob.s y).n=Y at *;unfold rN at hX hY;unfold D2;omega
 refine (A2 A1w Tryz.func49 r0 ?_).conv (fun _ _ h=>h) fun z v hd=>?_
 ·have hlt:D2 q0.1 q1.1 q2.1 q3.1<104871750350252380958895481016371931675381105001055275645207317399877162369026:=by
   unfold rN at hX hY;omega
  simp only[A7,and_true,Ob.k];clear hN hX hY ex ey hadd r0;and_intros<;>first | assumption | decide | omega
 ·have hN' : (D2 q0.1 q1.1 q2.1 q3.1).toNat=(Ob.s x).n+(Ob.s y).n:=by omega
  rw[hN',hadd] at hd;exact hd

theorem F7v {b:Int} (h0:0<=b) (h1:b<=1) (h:¬b=0):b=1:=by omega

theorem H5j {q0 q1 q2 q3 w0 w1 w2 w3 v0 v1 v2 v3:Int} (f0:q0+18446744069414584321+0=w0+18446744073709551616*v0) (f1:q1+6034159408538082302+v0=w1+18446744073709551616*v1)
  (f2:q2+3691218898639771653+v1=w2+18446744073709551616*v2) (f3:q3+8353516859464449352+v2=w3+18446744073709551616*v3) :
  D2 w0 w1 w2 w3+115792089237316195423570985008687907853269984665640564039457584007913129639936*v3=D2 q0 q1 q2 q3+rN:=by
 unfold D2 rN;omega

theorem E2f {a b c d:Int} (ha:Lim a) (hb:Lim b) (hc:Lim c) (hd:Lim d):0<=D2 a b c d∧D2 a b c d<115792089237316195423570985008687907853269984665640564039457584007913129639936:=by
 obtain ⟨_,_⟩:=ha;obtain ⟨_,_⟩:=hb;obtain ⟨_,_⟩:=hc;obtain ⟨_,_⟩:=hd;unfold D2;omega

theorem G1o {X Y Z:Nat} {N W v:Int} (hX:X<rN) (hY:Y<rN) (hcase:(Y<=X∧(Z:Int)=X-Y)∨(X<Y∧(Z:Int)=X+rN-Y))
  (hdiff:N-115792089237316195423570985008687907853269984665640564039457584007913129639936*1=(X:Int)-Y) (hN:0<=N∧N<115792089237316195423570985008687907853269984665640564039457584007913129639936)
  (hW:0<=W∧W<115792089237316195423570985008687907853269984665640564039457584007913129639936) (hv:0<=v∧v<=1)
  (hsum:W+115792089237316195423570985008687907853269984665640564039457584007913129639936*v=N+rN):(Z:Int)=W:=by
 obtain ⟨hN0,hN1⟩:=hN;obtain ⟨hW0,hW1⟩:=hW;obtain ⟨hv0,hv1⟩:=hv;unfold rN at *;have:v=0∨v=1:=by omega
 rcases hcase with ⟨h1,h2⟩ | ⟨h1,h2⟩
 ·exfalso;omega
 ·rcases this with rfl | rfl<;>omega

theorem E3q {X Y Z r:Nat} (_hX:X<r) (hY:Y<r) (hZ:Z<r) (h:(Z+Y) % r=X):(Y<=X∧(Z:Int)=X-Y)∨(X<Y∧(Z:Int)=X+r-Y):=by
 by_cases hl:Z+Y<r
 ·rw[Nat.mod_eq_of_lt hl] at h
  left;omega
 ·rw[Nat.mod_eq_sub_mod (by omega),Nat.mod_eq_of_lt (by omega)] at h
  right;omega

theorem E3r (x y:Fr):FnD Tryz.prog 62 [.v (.a [.ob (.s x)]),.v (.a [.ob (.s y)])] (.v (.a [.ob (.s (x-y))])) []:=by
 have r0:=F7c x y;have r1:=F8b x y;have hX:=B3p x;have hY:=B3p y;have hZ:=B3p (x-y);have hsub:=F9z x y;obtain ⟨ex,x0,x0',x1,x1',x2,x2',x3,x3'⟩:=Y0 (Ob.s x).n (Nat.lt_trans (B3p x) (by decide))
 obtain ⟨ey,y0,y0',y1,y1',y2,y2',y3,y3'⟩:=Y0 (Ob.s y).n (Nat.lt_trans (B3p y) (by decide))
 generalize A1 (Ob.s x).n 0=a0 at *;generalize A1 (Ob.s x).n 1=a1 at *;generalize A1 (Ob.s x).n 2=a2 at *;generalize A1 (Ob.s x).n 3=a3 at *;generalize A1 (Ob.s y).n 0=b0 at *;generalize A1 (Ob.s y).n 1=b1 at *;generalize A1 (Ob.s y).n 2=b2 at *;generalize A1 (Ob.s y).n 3=b3 at *;obtain ⟨e0,p0,p0',c0,c0'⟩:=E1 (c:=0) x0 x0' y0 y0' (by decide) (by decide)
 obtain ⟨e1,p1,p1',c1,c1'⟩:=E1 x1 x1' y1 y1' c0 c0';obtain ⟨e2,p2,p2',c2,c2'⟩:=E1 x2 x2' y2 y2' c1 c1';obtain ⟨e3,p3,p3',c3,c3'⟩:=E1 x3 x3' y3 y3' c2 c2';generalize hq0:A0 1 a0 b0 0=q0 at *;generalize hq1:A0 1 a1 b1 q0.2=q1 at *;generalize hq2:A0 1 a2 b2 q1.2=q2 at *;generalize hq3:A0 1 a3 b3 q2.2=q3 at *;clear hq0 hq1 hq2 hq3;have hcase:=E3q hX hY hZ hsub;have hdiff:D2 q0.1 q1.1 q2.1 q3.1-115792089237316195423570985008687907853269984665640564039457584007913129639936*q3.2=((Ob.s x).n:Int)-((Ob.s y).n:Int):=by
  rw[ex,ey];clear hsub hcase hX hY hZ ex ey;unfold D2;omega
 by_cases hz:q3.2=0
 ·refine (A2 A1w Tryz.func62 r0 ?_).conv (fun _ _ h=>h) fun z v hd=>B0d rfl (V7 p0 p0' p1 p1' p2 p2' p3 p3' ?_) hd
  ·simp only[A7,and_true,Ob.k,beq_iff_eq]
   clear hsub hX hY hZ ex ey r0 r1 hcase hdiff;and_intros<;>first | assumption | decide | omega
  ·rcases hcase with ⟨h1,h2⟩ | ⟨h1,h2⟩
   ·rw[h2,<-hdiff,hz];unfold D2;omega
   ·rw[hz] at hdiff;exfalso;unfold D2 at hdiff;clear ex ey hsub h2 e0 e1 e2 e3;omega
 ·obtain ⟨f0,s0,s0',d0,d0'⟩:=E6 (y:=18446744069414584321) (c:=0) p0 p0' (by decide) (by decide) (by decide) (by decide)
  obtain ⟨f1,s1,s1',d1,d1'⟩:=E6 (y:=6034159408538082302) p1 p1' (by decide) (by decide) d0 d0'
  obtain ⟨f2,s2,s2',d2,d2'⟩:=E6 (y:=3691218898639771653) p2 p2' (by decide) (by decide) d1 d1'
  obtain ⟨f3,s3,s3',d3,d3'⟩:=E6 (y:=8353516859464449352) p3 p3' (by decide) (by decide) d2 d2'
  generalize hw0:A0 0 q0.1 18446744069414584321 0=w0 at *;generalize hw1:A0 0 q1.1 6034159408538082302 w0.2=w1 at *;generalize hw2:A0 0 q2.1 3691218898639771653 w1.2=w2 at *;generalize hw3:A0 0 q3.1 8353516859464449352 w2.2=w3 at *;clear hw0 hw1 hw2 hw3;refine (A2 A1w Tryz.func62 r1 ?_).conv (fun _ _ h=>h) fun z v hd=>B0d rfl (V7 s0 s0' s1 s1' s2 s2' s3 s3' ?_) hd
  ·simp only[A7,and_true,Ob.k,beq_eq_false_iff_ne]
   clear hsub hX hY hZ ex ey r0 r1 hcase hdiff;and_intros<;>first | assumption | decide | omega
  ·have hz1:q3.2=1:=F7v c3 c3' hz
   rw[hz1] at hdiff;exact G1o hX hY hcase hdiff (E2f ⟨p0,p0'⟩ ⟨p1,p1'⟩ ⟨p2,p2'⟩ ⟨p3,p3'⟩) (E2f ⟨s0,s0'⟩ ⟨s1,s1'⟩ ⟨s2,s2'⟩ ⟨s3,s3'⟩) ⟨d3,d3'⟩ (H5j f0 f1 f2 f3)

end S4

namespace S4

def D7v:B1
 | [.v (.a [.ob (.fr a)])]=>some ([],.v (.a [.ob (.s (inF a))]),[])
 | _=>none
def gA:Env:=C2j.set (C7 C2j.fn 46 D7v)
theorem H3f:A6 Tryz.prog gA:=A4 A1w 46 D7v (A3 Tryz.func46 rfl rfl) fun args o r es h _=>by
 unfold D7v at h;split at h
 ·cases h;exact F9m _
 ·cases h
def C9z:B1
 | [.v (.a [.ob (.s x)])]=>some ([],.v (.a [.ob (.fr (H8 x))]),[])
 | _=>none
def gB:Env:=gA.set (C7 gA.fn 48 C9z)
theorem H2r:A6 Tryz.prog gB:=A4 H3f 48 C9z (A3 Tryz.func48 rfl rfl) fun args o r es h _=>by
 unfold C9z at h;split at h
 ·cases h;exact F2w _
 ·cases h
def B3g:B1
 | [.v (.a [.ob (.s x)]),.v (.a [.ob (.s y)])]=>some ([],.v (.a [.ob (.s (x*y))]),[])
 | _=>none
def gC:Env:=gB.set (C7 gB.fn 47 B3g)
theorem H3o:A6 Tryz.prog gC:=A4 H2r 47 B3g (A3 Tryz.func47 rfl rfl) fun args o r es h _=>by
 unfold B3g at h;split at h
 ·cases h;exact E5p _ _
 ·cases h
def B9k:B1
 | [.v (.a [.ob (.s x)]),.v (.a [.ob (.s y)])]=>some ([],.v (.a [.ob (.s (x+y))]),[])
 | _=>none
def gD:Env:=gC.set (C7 gC.fn 49 B9k)
theorem H1j:A6 Tryz.prog gD:=A4 H3o 49 B9k (A3 Tryz.func49 rfl rfl) fun args o r es h _=>by
 unfold B9k at h;split at h
 ·cases h;exact F0n _ _
 ·cases h
def B3b:B1
 | [.v (.a [.ob (.s x)]),.v (.a [.ob (.s y)])]=>some ([],.v (.a [.ob (.s (x-y))]),[])
 | _=>none
def gE:Env:=gD.set (C7 gD.fn 62 B3b)
theorem F5s:A6 Tryz.prog gE:=A4 H1j 62 B3b (A3 Tryz.func62 rfl rfl) fun args o r es h _=>by
 unfold B3b at h;split at h
 ·cases h;exact E3r _ _
 ·cases h
--@env gE F5s
theorem H4v (x:Fr):B2 gE Tryz.f53 3000 [.v (.a [.ob (.s x)])] [] [] []=(some ([],((.v (.a [(.ob (.s ((0:Fr)-x)))])),[]))):=by kernel_rfl
def C8a:B1
 | [.v (.a [.ob (.s x)])]=>some ([],.v (.a [.ob (.s (0-x))]),[])
 | _=>none
def gF:Env:=gE.set (C7 gE.fn 53 C8a)
theorem E1y:A6 Tryz.prog gF:=A4 F5s 53 C8a (A3 Tryz.func53 rfl rfl) fun args o r es h _=>by
 unfold C8a at h;split at h
 ·cases h;exact A2 F5s Tryz.func53 (H4v _) trivial
 ·cases h
--@env gF E1y
theorem frC (a:U4):B2 gF Tryz.f27 3000 [.v (.a [.ob (.fr a)])] [] [] []=(some ([],((.v (.a [(.ob (.fr (S4.H8 (S4.inF a))))])),[]))):=by kernel_rfl
theorem frM (a b:U4):B2 gF Tryz.f14 3000 [.v (.a [.ob (.fr a)]),.v (.a [.ob (.fr b)])] [] [] []=(some ([],((.v (.a [(.ob (.fr (S4.H8 ((S4.inF a)*(S4.inF b)))))])),[]))):=by kernel_rfl
def B2o:B1
 | [.v (.a [.ob (.fr a)])]=>some ([],.v (.a [.ob (.fr (H8 (inF a)))]),[])
 | _=>none
def gG:Env:=gF.set (C7 gF.fn 27 B2o)
theorem H1o:A6 Tryz.prog gG:=A4 E1y 27 B2o (A3 Tryz.func27 rfl rfl) fun args o r es h _=>by
 unfold B2o at h;split at h
 ·cases h;exact A2 E1y Tryz.func27 (frC _) trivial
 ·cases h
def gH:Env:=gG
theorem H2t:A6 Tryz.prog gH:=H1o
def C6n:B1
 | [.v (.a [.ob (.fr a)]),.v (.a [.ob (.fr b)])]=>some ([],.v (.a [.ob (.fr (H8 (inF a*inF b)))]),[])
 | _=>none
def gI:Env:=gH.set (C7 gH.fn 14 C6n)
theorem H2n:A6 Tryz.prog gI:=A4 H2t 14 C6n (A3 Tryz.func14 rfl rfl) fun args o r es h _=>by
 unfold C6n at h;split at h
 ·cases h;exact A2 E1y Tryz.func14 (frM _ _) trivial
 ·cases h
def gJ:Env:=gI
theorem H3m:A6 Tryz.prog gJ:=H2n
def gK:Env:=gJ
theorem E8m:A6 Tryz.prog gK:=H3m
end S4

section

section
variable {F:Type} [Fld F] [DecidableEq F] {b:F}
theorem D4r (hc:Cv b) {P:Pt F} {a:F×F×F} (hP:OnC b P) (h:Jc P a) (l:List Nat):decide ((jmn a l).2.2=0)=decide (G4 P (dgV l)=none):=by
 have hj:=G7y hc hP h l
 cases hn:G4 P (dgV l) with
 | none=>
  rw[hn] at hj;have hj:(jmn a l).2.2=0:=hj;rw[decide_eq_true hj,decide_eq_true rfl]
 | some q=>
  rw[hn] at hj;have hj:(jmn a l).2.2≠0:=hj.1;rw[decide_eq_false hj];exact (decide_eq_false (p:=(some q:Pt F)=none) (fun e=>by cases e)).symm
end

def rL:Nat:=52435875175126190479447740508185965837690552500527637822603658699938581184513
theorem H3d:rN=rL:=rfl
theorem H4d {n:Nat} (h:n<B4):dgV (dgT n 64)=n:=by
 have h2:B4=16 ^ 64:=by decide +kernel
 exact G0f (Eq.refl 64) (by rw[<-h2];exact h)
theorem E1h:dgV (dgT 52435875175126190479447740508185965837690552500527637822603658699938581184513 64)=rN:=(H4d (n:=52435875175126190479447740508185965837690552500527637822603658699938581184513) (by decide +kernel)).trans H3d.symm
end

end
end Go.Proofs.YtefimjofjjdndaaGreat
