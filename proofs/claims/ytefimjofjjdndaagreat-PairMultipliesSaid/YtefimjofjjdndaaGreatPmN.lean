/- Parts of a proof, one behind the other: WStim, PStim, WSrdc, PSrdc, WSprd, PSprd, PSprl, WSio, PSio, WSpls, PSpls, WSfr, Ji. No conditions. -/
import Derived.Test.YtefimjofjjdndaaGreatPmM
open Go.IntKind (wrap)
namespace Go.Proofs.YtefimjofjjdndaaGreat
noncomputable section
namespace S4
section
variable {w0:World} {F0:Nat→Prop} {K:Kp} {ac:List Act} {Q:Exit→Act→World→Prop} {cX:Ctx} {aX:Act}

def envC:Env:=envB.set (addT envB.fn 92 reducedSpec)
theorem envC_ok:EnvOk Tryz.prog envC:=
 env_add envB_ok 92 reducedSpec (enters_of Tryz.func92 rfl rfl) fun args o r es h ho=>by
  unfold reducedSpec at h
  split at h
  ·cases h
   obtain ⟨h1,h2,h3,h4,h5,h6,h7,h8,h9,_⟩:=ho
   exact reduced_fnd _ _ _ _ h1 h2 h3 h4 h5 h6 h7 h8 h9
  ·cases h

def tc0 (x y:Fr):Cfg:=⟨[.code (bodyOf Tryz.f47)],.normal,initSt Tryz.f47.ntmps [.v (.a [.ob (.s x)]),.v (.a [.ob (.s y)])]⟩

--@env envC envC_ok
def tIn_k:List KI:=(run envC false 3000 ((fun (x y:Fr)=>(tc0 x y:Cfg)) default default) []).cfg.k
theorem tIn (x y:Fr) (ho:AllP []) (hs:Sim w0 F0 K ac (((tc0 x y:Cfg)).σ) cX aX) (hK:∀ac cY aY,Sim w0 F0 K ac (mkSt 208 [3,4,5,6,7,8,18,19] [.pt 32 0,.pt 48 0,.iu (0:Int),.iu (0:Int),.iu (0:Int),.iu (0:Int),(.v (.a [.ob (.s x)])),.ii (0:Int)] [32,48] [(eF_ [.ob (.s y)]),(eF_ [(.ob (.s (0:Fr)))])] 160 [] []) cY aY→Wq Tryz.prog Q (tIn_k) ac Exit.normal aY cY.w):Wq Tryz.prog Q (((tc0 x y:Cfg)).k) ac ((tc0 x y:Cfg)).x aX cX.w:=
 run_at (unroll:=false) (n:=3000) (path:=[]) (o:=⟨_,_,_,_,_,_,_⟩) envC_ok (by kernel_rfl) (by kernel_rfl) ho hs hK
def tS (x y:Fr) (i:Nat) (t0 t1 t2 t3:Int):St:=mkSt 208 [3,4,5,6,7,8,18,19] [.pt 32 0,.pt 48 0,.v (.c (.int .u64 t0)),.v (.c (.int .u64 t1)),.v (.c (.int .u64 t2)),.v (.c (.int .u64 t3)),(.v (.a [.ob (.s x)])),.v (.c (.int .i64 (i:Int)))] [32,48] [(eF_ [.ob (.s y)]),(eF_ [(.ob (.s (0:Fr)))])] 160 [] []
theorem tX_end (x y:Fr) (i:Nat) (t0 t1 t2 t3:Int):runEnd envC Tryz.f47 false 3000 (⟨lpIn tIn_k,.normal,tS x y i t0 t1 t2 t3⟩) [false] [] []=(some ([((decide ((i:Int)<(4:Int)))=false),(0≤t0),(t0<(18446744073709551616:Int)),(0≤t1),(t1<(18446744073709551616:Int)),(0≤t2),(t2<(18446744073709551616:Int)),(0≤t3),(t3<(18446744073709551616:Int)),((S4.num4 t0 t1 t2 t3)<(104871750350252380958895481016371931675381105001055275645207317399877162369026:Int))],((.v (.a [(.ob (.s (redS ((S4.num4 t0 t1 t2 t3)).toNat)))])),[]))):=by kernel_rfl
def tA_k:List KI:=(run envC false 77 ((fun (x y:Fr) (i:Nat) (t0 t1 t2 t3:Int)=>(⟨lpIn tIn_k,.normal,tS x y i t0 t1 t2 t3⟩:Cfg)) default default default default default default default) [true]).cfg.k
theorem tA (x y:Fr) (i:Nat) (t0 t1 t2 t3:Int) {w0:World} {F0:Nat→Prop} {K:Kp} {ac:List Act} {Q:Exit→Act→World→Prop} {cX:Ctx} {aX:Act} (ho:AllP [((decide ((i:Int)<(4:Int)))=true),(0≤(i:Int)),((i:Int)<(4:Int)),(0≤(0:Int)),(0<(4:Int)),(0<(Ob.k (.s y))),(0≤(limb (Ob.n (.s x)) ((i:Int)).toNat)),((limb (Ob.n (.s x)) ((i:Int)).toNat)<(18446744073709551616:Int)),(0≤(limb (Ob.n (.s y)) 0)),((limb (Ob.n (.s y)) 0)<(18446744073709551616:Int)),(0≤(((limb (Ob.n (.s x)) ((i:Int)).toNat)*(limb (Ob.n (.s y)) 0)) % (18446744073709551616:Int))),(0≤t0),(t0<(18446744073709551616:Int)),(0≤(0:Int)),(0≤(1:Int)),(0≤(wrap .u64 ((Prod.fst (exOut 0 (((limb (Ob.n (.s x)) ((i:Int)).toNat)*(limb (Ob.n (.s y)) 0)) % (18446744073709551616:Int)) t0 (0:Int)))*(18446744069414584319:Int)))),((wrap .u64 ((Prod.fst (exOut 0 (((limb (Ob.n (.s x)) ((i:Int)).toNat)*(limb (Ob.n (.s y)) 0)) % (18446744073709551616:Int)) t0 (0:Int)))*(18446744069414584319:Int)))<(18446744073709551616:Int)),(0≤(18446744069414584321:Int)),((18446744069414584321:Int)<(18446744073709551616:Int)),(0≤(((wrap .u64 ((Prod.fst (exOut 0 (((limb (Ob.n (.s x)) ((i:Int)).toNat)*(limb (Ob.n (.s y)) 0)) % (18446744073709551616:Int)) t0 (0:Int)))*(18446744069414584319:Int)))*(18446744069414584321:Int)) % (18446744073709551616:Int))),(0≤(Prod.fst (exOut 0 (((limb (Ob.n (.s x)) ((i:Int)).toNat)*(limb (Ob.n (.s y)) 0)) % (18446744073709551616:Int)) t0 (0:Int)))),((Prod.fst (exOut 0 (((limb (Ob.n (.s x)) ((i:Int)).toNat)*(limb (Ob.n (.s y)) 0)) % (18446744073709551616:Int)) t0 (0:Int)))<(18446744073709551616:Int)),(0≤(0:Int)),(0≤(1:Int))]) (hs:Sim w0 F0 K ac (tS x y i t0 t1 t2 t3) cX aX) (hK:∀ac cY aY,Sim w0 F0 K ac (mkSt 208 [3,4,6,7,8,10,14,15,17,18,19] [.pt 32 0,.pt 48 0,.iu t1,.iu t2,.iu t3,(.iu (limb (Ob.n (.s x)) ((i:Int)).toNat)),(.iu (wrap .u64 ((((limb (Ob.n (.s x)) ((i:Int)).toNat)*(limb (Ob.n (.s y)) 0)) / (18446744073709551616:Int))+(Prod.snd (exOut 0 (((limb (Ob.n (.s x)) ((i:Int)).toNat)*(limb (Ob.n (.s y)) 0)) % (18446744073709551616:Int)) t0 (0:Int)))))),(.iu (wrap .u64 ((Prod.fst (exOut 0 (((limb (Ob.n (.s x)) ((i:Int)).toNat)*(limb (Ob.n (.s y)) 0)) % (18446744073709551616:Int)) t0 (0:Int)))*(18446744069414584319:Int)))),(.iu (wrap .u64 ((((wrap .u64 ((Prod.fst (exOut 0 (((limb (Ob.n (.s x)) ((i:Int)).toNat)*(limb (Ob.n (.s y)) 0)) % (18446744073709551616:Int)) t0 (0:Int)))*(18446744069414584319:Int)))*(18446744069414584321:Int)) / (18446744073709551616:Int))+(Prod.snd (exOut 0 (((wrap .u64 ((Prod.fst (exOut 0 (((limb (Ob.n (.s x)) ((i:Int)).toNat)*(limb (Ob.n (.s y)) 0)) % (18446744073709551616:Int)) t0 (0:Int)))*(18446744069414584319:Int)))*(18446744069414584321:Int)) % (18446744073709551616:Int)) (Prod.fst (exOut 0 (((limb (Ob.n (.s x)) ((i:Int)).toNat)*(limb (Ob.n (.s y)) 0)) % (18446744073709551616:Int)) t0 (0:Int))) (0:Int)))))),(.v (.a [.ob (.s x)])),(.ii (i:Int))] [32,48] [(eF_ [.ob (.s y)]),(eF_ [(.ob (.s (0:Fr)))])] 880 [] []) cY aY→Wq Tryz.prog Q (tA_k) ac Exit.normal aY cY.w):Wq Tryz.prog Q (lpIn tIn_k) ac .normal aX cX.w:=
 run_at2 (unroll:=false) (n:=77) (path:=[true]) (o:=⟨_,_,_,_,_,_,_⟩) envC_ok (by kernel_rfl) (by kernel_rfl) ho hs hK
def tS1 (x y:Fr) (i:Nat) (t1 t2 t3 xi q up dn:Int):St:=mkSt 208 [3,4,6,7,8,10,14,15,17,18,19] [.pt 32 0,.pt 48 0,.iu t1,.iu t2,.iu t3,.v (.c (.int .u64 xi)),.v (.c (.int .u64 up)),.v (.c (.int .u64 q)),.v (.c (.int .u64 dn)),(.v (.a [.ob (.s x)])),(.ii (i:Int))] [32,48] [(eF_ [.ob (.s y)]),(eF_ [(.ob (.s (0:Fr)))])] 880 [] []
def tB_k:List KI:=(run envC false 94 ((fun (x y:Fr) (i:Nat) (t1 t2 t3 xi q up dn:Int)=>(⟨tA_k,.normal,tS1 x y i t1 t2 t3 xi q up dn⟩:Cfg)) default default default default default default default default default default) []).cfg.k
theorem tB (x y:Fr) (i:Nat) (t1 t2 t3 xi q up dn:Int) (ho:AllP [(0≤(1:Int)),((1:Int)<(4:Int)),(1<(Ob.k (.s y))),(0≤xi),(xi<(18446744073709551616:Int)),(0≤(limb (Ob.n (.s y)) 1)),((limb (Ob.n (.s y)) 1)<(18446744073709551616:Int)),(0≤((xi*(limb (Ob.n (.s y)) 1)) % (18446744073709551616:Int))),(0≤t1),(t1<(18446744073709551616:Int)),(0≤(0:Int)),(0≤(1:Int)),(0≤(Prod.fst (exOut 0 ((xi*(limb (Ob.n (.s y)) 1)) % (18446744073709551616:Int)) t1 (0:Int)))),(0≤up),(up<(18446744073709551616:Int)),(0≤(0:Int)),(0≤(1:Int)),(0≤q),(q<(18446744073709551616:Int)),(0≤(6034159408538082302:Int)),((6034159408538082302:Int)<(18446744073709551616:Int)),(0≤((q*(6034159408538082302:Int)) % (18446744073709551616:Int))),(0≤(Prod.fst (exOut 0 (Prod.fst (exOut 0 ((xi*(limb (Ob.n (.s y)) 1)) % (18446744073709551616:Int)) t1 (0:Int))) up (0:Int)))),((Prod.fst (exOut 0 (Prod.fst (exOut 0 ((xi*(limb (Ob.n (.s y)) 1)) % (18446744073709551616:Int)) t1 (0:Int))) up (0:Int)))<(18446744073709551616:Int)),(0≤(0:Int)),(0≤(1:Int)),(0≤(Prod.fst (exOut 0 ((q*(6034159408538082302:Int)) % (18446744073709551616:Int)) (Prod.fst (exOut 0 (Prod.fst (exOut 0 ((xi*(limb (Ob.n (.s y)) 1)) % (18446744073709551616:Int)) t1 (0:Int))) up (0:Int))) (0:Int)))),(0≤dn),(dn<(18446744073709551616:Int)),(0≤(0:Int)),(0≤(1:Int))]):Sg Tryz.prog (tS1 x y i t1 t2 t3 xi q up dn) (mkSt 208 [3,4,5,7,8,10,14,15,17,18,19] [.pt 32 0,.pt 48 0,(.iu (Prod.fst (exOut 0 (Prod.fst (exOut 0 ((q*(6034159408538082302:Int)) % (18446744073709551616:Int)) (Prod.fst (exOut 0 (Prod.fst (exOut 0 ((xi*(limb (Ob.n (.s y)) 1)) % (18446744073709551616:Int)) t1 (0:Int))) up (0:Int))) (0:Int))) dn (0:Int)))),.iu t2,.iu t3,.iu xi,(.iu (wrap .u64 ((wrap .u64 (((xi*(limb (Ob.n (.s y)) 1)) / (18446744073709551616:Int))+(Prod.snd (exOut 0 ((xi*(limb (Ob.n (.s y)) 1)) % (18446744073709551616:Int)) t1 (0:Int)))))+(Prod.snd (exOut 0 (Prod.fst (exOut 0 ((xi*(limb (Ob.n (.s y)) 1)) % (18446744073709551616:Int)) t1 (0:Int))) up (0:Int)))))),.iu q,(.iu (wrap .u64 ((wrap .u64 (((q*(6034159408538082302:Int)) / (18446744073709551616:Int))+(Prod.snd (exOut 0 ((q*(6034159408538082302:Int)) % (18446744073709551616:Int)) (Prod.fst (exOut 0 (Prod.fst (exOut 0 ((xi*(limb (Ob.n (.s y)) 1)) % (18446744073709551616:Int)) t1 (0:Int))) up (0:Int))) (0:Int)))))+(Prod.snd (exOut 0 (Prod.fst (exOut 0 ((q*(6034159408538082302:Int)) % (18446744073709551616:Int)) (Prod.fst (exOut 0 (Prod.fst (exOut 0 ((xi*(limb (Ob.n (.s y)) 1)) % (18446744073709551616:Int)) t1 (0:Int))) up (0:Int))) (0:Int))) dn (0:Int)))))),(.v (.a [.ob (.s x)])),(.ii (i:Int))] [32,48] [(eF_ [.ob (.s y)]),(eF_ [(.ob (.s (0:Fr)))])] 1904 [] []) .normal (tB_k) (tA_k):=fun hs hK=>
 run_at2 (unroll:=false) (n:=94) (path:=[]) (o:=⟨_,_,_,_,_,_,_⟩) envC_ok (by kernel_rfl) (by kernel_rfl) ho hs hK
def tS2 (x y:Fr) (i:Nat) (n0 t2 t3 xi q up dn:Int):St:=mkSt 208 [3,4,5,7,8,10,14,15,17,18,19] [.pt 32 0,.pt 48 0,.v (.c (.int .u64 n0)),.iu t2,.iu t3,.iu xi,.v (.c (.int .u64 up)),.iu q,.v (.c (.int .u64 dn)),(.v (.a [.ob (.s x)])),(.ii (i:Int))] [32,48] [(eF_ [.ob (.s y)]),(eF_ [(.ob (.s (0:Fr)))])] 1904 [] []
def tC_k:List KI:=(run envC false 94 ((fun (x y:Fr) (i:Nat) (n0 t2 t3 xi q up dn:Int)=>(⟨tB_k,.normal,tS2 x y i n0 t2 t3 xi q up dn⟩:Cfg)) default default default default default default default default default default) []).cfg.k
theorem tC (x y:Fr) (i:Nat) (n0 t2 t3 xi q up dn:Int) (ho:AllP [(0≤(2:Int)),((2:Int)<(4:Int)),(2<(Ob.k (.s y))),(0≤xi),(xi<(18446744073709551616:Int)),(0≤(limb (Ob.n (.s y)) 2)),((limb (Ob.n (.s y)) 2)<(18446744073709551616:Int)),(0≤((xi*(limb (Ob.n (.s y)) 2)) % (18446744073709551616:Int))),(0≤t2),(t2<(18446744073709551616:Int)),(0≤(0:Int)),(0≤(1:Int)),(0≤(Prod.fst (exOut 0 ((xi*(limb (Ob.n (.s y)) 2)) % (18446744073709551616:Int)) t2 (0:Int)))),(0≤up),(up<(18446744073709551616:Int)),(0≤(0:Int)),(0≤(1:Int)),(0≤q),(q<(18446744073709551616:Int)),(0≤(3691218898639771653:Int)),((3691218898639771653:Int)<(18446744073709551616:Int)),(0≤((q*(3691218898639771653:Int)) % (18446744073709551616:Int))),(0≤(Prod.fst (exOut 0 (Prod.fst (exOut 0 ((xi*(limb (Ob.n (.s y)) 2)) % (18446744073709551616:Int)) t2 (0:Int))) up (0:Int)))),((Prod.fst (exOut 0 (Prod.fst (exOut 0 ((xi*(limb (Ob.n (.s y)) 2)) % (18446744073709551616:Int)) t2 (0:Int))) up (0:Int)))<(18446744073709551616:Int)),(0≤(0:Int)),(0≤(1:Int)),(0≤(Prod.fst (exOut 0 ((q*(3691218898639771653:Int)) % (18446744073709551616:Int)) (Prod.fst (exOut 0 (Prod.fst (exOut 0 ((xi*(limb (Ob.n (.s y)) 2)) % (18446744073709551616:Int)) t2 (0:Int))) up (0:Int))) (0:Int)))),(0≤dn),(dn<(18446744073709551616:Int)),(0≤(0:Int)),(0≤(1:Int))]):Sg Tryz.prog (tS2 x y i n0 t2 t3 xi q up dn) (mkSt 208 [3,4,5,6,8,10,14,15,17,18,19] [.pt 32 0,.pt 48 0,.iu n0,(.iu (Prod.fst (exOut 0 (Prod.fst (exOut 0 ((q*(3691218898639771653:Int)) % (18446744073709551616:Int)) (Prod.fst (exOut 0 (Prod.fst (exOut 0 ((xi*(limb (Ob.n (.s y)) 2)) % (18446744073709551616:Int)) t2 (0:Int))) up (0:Int))) (0:Int))) dn (0:Int)))),.iu t3,.iu xi,(.iu (wrap .u64 ((wrap .u64 (((xi*(limb (Ob.n (.s y)) 2)) / (18446744073709551616:Int))+(Prod.snd (exOut 0 ((xi*(limb (Ob.n (.s y)) 2)) % (18446744073709551616:Int)) t2 (0:Int)))))+(Prod.snd (exOut 0 (Prod.fst (exOut 0 ((xi*(limb (Ob.n (.s y)) 2)) % (18446744073709551616:Int)) t2 (0:Int))) up (0:Int)))))),.iu q,(.iu (wrap .u64 ((wrap .u64 (((q*(3691218898639771653:Int)) / (18446744073709551616:Int))+(Prod.snd (exOut 0 ((q*(3691218898639771653:Int)) % (18446744073709551616:Int)) (Prod.fst (exOut 0 (Prod.fst (exOut 0 ((xi*(limb (Ob.n (.s y)) 2)) % (18446744073709551616:Int)) t2 (0:Int))) up (0:Int))) (0:Int)))))+(Prod.snd (exOut 0 (Prod.fst (exOut 0 ((q*(3691218898639771653:Int)) % (18446744073709551616:Int)) (Prod.fst (exOut 0 (Prod.fst (exOut 0 ((xi*(limb (Ob.n (.s y)) 2)) % (18446744073709551616:Int)) t2 (0:Int))) up (0:Int))) (0:Int))) dn (0:Int)))))),(.v (.a [.ob (.s x)])),(.ii (i:Int))] [32,48] [(eF_ [.ob (.s y)]),(eF_ [(.ob (.s (0:Fr)))])] 2928 [] []) .normal (tC_k) (tB_k):=fun hs hK=>
 run_at2 (unroll:=false) (n:=94) (path:=[]) (o:=⟨_,_,_,_,_,_,_⟩) envC_ok (by kernel_rfl) (by kernel_rfl) ho hs hK
def tS3 (x y:Fr) (i:Nat) (n0 n1 t3 xi q up dn:Int):St:=mkSt 208 [3,4,5,6,8,10,14,15,17,18,19] [.pt 32 0,.pt 48 0,.iu n0,.v (.c (.int .u64 n1)),.iu t3,.iu xi,.v (.c (.int .u64 up)),.iu q,.v (.c (.int .u64 dn)),(.v (.a [.ob (.s x)])),(.ii (i:Int))] [32,48] [(eF_ [.ob (.s y)]),(eF_ [(.ob (.s (0:Fr)))])] 2928 [] []
theorem tD (x y:Fr) (i:Nat) (n0 n1 t3 xi q up dn:Int) (ho:AllP [(0≤(3:Int)),((3:Int)<(4:Int)),(3<(Ob.k (.s y))),(0≤xi),(xi<(18446744073709551616:Int)),(0≤(limb (Ob.n (.s y)) 3)),((limb (Ob.n (.s y)) 3)<(18446744073709551616:Int)),(0≤((xi*(limb (Ob.n (.s y)) 3)) % (18446744073709551616:Int))),(0≤t3),(t3<(18446744073709551616:Int)),(0≤(0:Int)),(0≤(1:Int)),(0≤(Prod.fst (exOut 0 ((xi*(limb (Ob.n (.s y)) 3)) % (18446744073709551616:Int)) t3 (0:Int)))),(0≤up),(up<(18446744073709551616:Int)),(0≤(0:Int)),(0≤(1:Int)),(0≤q),(q<(18446744073709551616:Int)),(0≤(8353516859464449352:Int)),((8353516859464449352:Int)<(18446744073709551616:Int)),(0≤((q*(8353516859464449352:Int)) % (18446744073709551616:Int))),(0≤(Prod.fst (exOut 0 (Prod.fst (exOut 0 ((xi*(limb (Ob.n (.s y)) 3)) % (18446744073709551616:Int)) t3 (0:Int))) up (0:Int)))),((Prod.fst (exOut 0 (Prod.fst (exOut 0 ((xi*(limb (Ob.n (.s y)) 3)) % (18446744073709551616:Int)) t3 (0:Int))) up (0:Int)))<(18446744073709551616:Int)),(0≤(0:Int)),(0≤(1:Int)),(0≤(Prod.fst (exOut 0 ((q*(8353516859464449352:Int)) % (18446744073709551616:Int)) (Prod.fst (exOut 0 (Prod.fst (exOut 0 ((xi*(limb (Ob.n (.s y)) 3)) % (18446744073709551616:Int)) t3 (0:Int))) up (0:Int))) (0:Int)))),(0≤dn),(dn<(18446744073709551616:Int)),(0≤(0:Int)),(0≤(1:Int))]):Sg Tryz.prog (tS3 x y i n0 n1 t3 xi q up dn) (mkSt 208 [3,4,5,6,7,8,18,19] [.pt 32 0,.pt 48 0,.iu n0,.iu n1,(.iu (Prod.fst (exOut 0 (Prod.fst (exOut 0 ((q*(8353516859464449352:Int)) % (18446744073709551616:Int)) (Prod.fst (exOut 0 (Prod.fst (exOut 0 ((xi*(limb (Ob.n (.s y)) 3)) % (18446744073709551616:Int)) t3 (0:Int))) up (0:Int))) (0:Int))) dn (0:Int)))),(.iu (wrap .u64 ((wrap .u64 ((wrap .u64 (((q*(8353516859464449352:Int)) / (18446744073709551616:Int))+(Prod.snd (exOut 0 ((q*(8353516859464449352:Int)) % (18446744073709551616:Int)) (Prod.fst (exOut 0 (Prod.fst (exOut 0 ((xi*(limb (Ob.n (.s y)) 3)) % (18446744073709551616:Int)) t3 (0:Int))) up (0:Int))) (0:Int)))))+(Prod.snd (exOut 0 (Prod.fst (exOut 0 ((q*(8353516859464449352:Int)) % (18446744073709551616:Int)) (Prod.fst (exOut 0 (Prod.fst (exOut 0 ((xi*(limb (Ob.n (.s y)) 3)) % (18446744073709551616:Int)) t3 (0:Int))) up (0:Int))) (0:Int))) dn (0:Int)))))+(wrap .u64 ((wrap .u64 (((xi*(limb (Ob.n (.s y)) 3)) / (18446744073709551616:Int))+(Prod.snd (exOut 0 ((xi*(limb (Ob.n (.s y)) 3)) % (18446744073709551616:Int)) t3 (0:Int)))))+(Prod.snd (exOut 0 (Prod.fst (exOut 0 ((xi*(limb (Ob.n (.s y)) 3)) % (18446744073709551616:Int)) t3 (0:Int))) up (0:Int)))))))),(.v (.a [.ob (.s x)])),(.ii (wrap .i64 ((i:Int)+1)))] [32,48] [(eF_ [.ob (.s y)]),(eF_ [(.ob (.s (0:Fr)))])] 4048 [] []) .normal (lpBk tIn_k) (tC_k):=fun hs hK=>
 run_at2 (unroll:=false) (n:=3000) (path:=[]) (o:=⟨_,_,_,_,_,_,_⟩) envC_ok (by kernel_rfl) (by kernel_rfl) ho hs hK
end
end S4

namespace S4

/-- Ahead of the i-th round. -/
structure TInv (x y:Fr) (i:Nat) (t0 t1 t2 t3:Int):Prop where
 i4:i≤4
 h0:0≤t0∧t0<18446744073709551616
 h1:0≤t1∧t1<18446744073709551616
 h2:0≤t2∧t2<18446744073709551616
 h3:0≤t3∧t3<18446744073709551616
 lt:num4 t0 t1 t2 t3<2*rN
 eq:∃Q:Nat,num4 t0 t1 t2 t3*((2 ^ (64*i):Nat):Int)=(((Ob.s x).n % 2 ^ (64*i):Nat):Int)*((Ob.s y).n:Int)+(Q:Int)*(rN:Int)

theorem s_lt (x:Fr):(Ob.s x).n<rN:=Nat.mod_lt _ (by decide)

theorem round_eq {x y:Fr} {i Q:Nat} {T T' q:Int} (hq:0≤q) (h:T*((2 ^ (64*i):Nat):Int)=(((Ob.s x).n % 2 ^ (64*i):Nat):Int)*((Ob.s y).n:Int)+(Q:Int)*(rN:Int))
  (h' : 18446744073709551616*T' = T+limb (Ob.s x).n i*((Ob.s y).n:Int)+q*(rN:Int)) :
  ∃Q:Nat,T' * ((2 ^ (64*(i+1)):Nat):Int)=(((Ob.s x).n % 2 ^ (64*(i+1)):Nat):Int)*((Ob.s y).n:Int)+(Q:Int)*(rN:Int):=by
 obtain ⟨q,rfl⟩:=Int.eq_ofNat_of_zero_le hq
 refine ⟨Q+q*2 ^ (64*i),?_⟩
 rw[mod_next]
 have hp:(2:Nat) ^ (64*(i+1))=2 ^ (64*i)*18446744073709551616:=by rw[Nat.mul_add,Nat.pow_add]
 rw[hp]
 have hl:limb (Ob.s x).n i=(((Ob.s x).n / 2 ^ (64*i) % 18446744073709551616:Nat):Int):=rfl
 rw[hl] at h'
 generalize (Ob.s x).n / 2 ^ (64*i) % 18446744073709551616=xi at *
 generalize (Ob.s x).n % 2 ^ (64*i)=X at *
 generalize (Ob.s y).n=Y at *
 generalize 2 ^ (64*i)=m at *
 generalize rN=r at *
 have e1:T' * ((m*18446744073709551616:Nat):Int)=(18446744073709551616*T')*(m:Int):=by
  rw[Int.natCast_mul,Int.mul_comm (m:Int),←Int.mul_assoc,Int.mul_comm T'];rfl
 rw[e1,h',Int.add_mul,Int.add_mul,h]
 push_cast
 simp only[Int.add_mul,Int.mul_assoc]
 have e2:(xi:Int)*((Y:Int)*(m:Int))=(m:Int)*((xi:Int)*(Y:Int)):=by rw[←Int.mul_assoc,Int.mul_comm]
 have e3:(q:Int)*((r:Int)*(m:Int))=(q:Int)*((m:Int)*(r:Int)):=by rw[Int.mul_comm (r:Int)]
 rw[e2,e3]
 omega

theorem num4_mul (z a b c d:Int):z*num4 a b c d=z*a+18446744073709551616*(z*b)+340282366920938463463374607431768211456*(z*c)+6277101735386680763835789423207666416102355444464034512896*(z*d):=by
 unfold num4
 simp only[Int.mul_add,Int.mul_left_comm z]

def Lim (a:Int):Prop:=0≤a∧a<18446744073709551616

theorem wrap_lim (n:Int):Lim (wrap IntKind.u64 n):=by
 unfold Lim
 rw[wrapU]
 omega

section
variable {w0:World} {F0:Nat→Prop} {K:Kp} {ac:List Act} {Q:Exit→Act→World→Prop} {cX:Ctx} {aX:Act}

theorem segA (x y:Fr) (i:Nat) {t0 t1 t2 t3:Int} (hi:i<4) (h0:Lim t0) (hx:Lim (limb (Ob.s x).n i)) (hy:Lim (limb (Ob.s y).n 0)) (hs:Sim w0 F0 K ac (tS x y i t0 t1 t2 t3) cX aX)
  (k:∀lo up q dn:Int,limb (Ob.s x).n i*limb (Ob.s y).n 0+t0=lo+18446744073709551616*up→q*18446744069414584321+lo=18446744073709551616*dn→Lim lo→Lim up→Lim q→Lim dn →
   ∀ac cY aY,Sim w0 F0 K ac (tS1 x y i t1 t2 t3 (limb (Ob.s x).n i) q up dn) cY aY→Wq Tryz.prog Q tA_k ac .normal aY cY.w):Wq Tryz.prog Q (lpIn tIn_k) ac .normal aX cX.w:=by
 obtain ⟨a0,b0⟩:=h0
 obtain ⟨x0,x1⟩:=hx
 obtain ⟨y0,y1⟩:=hy
 have e1:=mac1 x0 x1 y0 y1 a0 b0
 have sA:=@tA x y i t0 t1 t2 t3 w0 F0 K ac Q cX aX
 rw[Int.toNat_natCast] at sA
 generalize limb (Ob.s x).n i=xi at *
 obtain ⟨e1,l1,u1⟩:=e1
 have hq:=wrap_lim ((exOut 0 ((xi*limb (Ob.s y).n 0) % 18446744073709551616) t0 0).1*18446744069414584319)
 have e2:=mac1 (b:=18446744069414584321) hq.1 hq.2 (by decide) (by decide) l1.1 l1.2
 have e3:=negR_low (l:=(exOut 0 ((xi*limb (Ob.s y).n 0) % 18446744073709551616) t0 0).1) rfl
 refine sA ?_ hs fun ac cY aY h=>?_
 ·refine ⟨by simp only[decide_eq_true_eq];omega,by omega,by omega,by decide,by decide,by show (0:Nat)<4;decide,x0,x1,y0,y1,by omega,a0,b0,by decide,by decide,hq.1,hq.2,by decide,by decide,by omega,l1.1,l1.2,by decide,by decide,trivial⟩
 ·refine k _ _ _ _ e1 ?_ l1 u1 hq e2.2.2 ac cY aY h
  have:=e2.1
  have:=e2.2.1
  omega

theorem segB (x y:Fr) (i:Nat) {t1 t2 t3 xi q up dn:Int} (ht:Lim t1) (hx:Lim xi) (hq:Lim q) (hu:Lim up) (hd:Lim dn) (hy:Lim (limb (Ob.s y).n 1)) (hs:Sim w0 F0 K ac (tS1 x y i t1 t2 t3 xi q up dn) cX aX)
  (k:∀lo up' n dn' : Int,xi*limb (Ob.s y).n 1+t1+up=lo+18446744073709551616*up' → q*6034159408538082302+lo+dn=n+18446744073709551616*dn' → Lim lo→Lim up' → Lim n→Lim dn' →
   ∀ac cY aY,Sim w0 F0 K ac (tS2 x y i n t2 t3 xi q up' dn') cY aY→Wq Tryz.prog Q (tB_k) ac .normal aY cY.w):Wq Tryz.prog Q tA_k ac .normal aX cX.w:=by
 obtain ⟨e1,l1,u1,m1⟩:=mac hx.1 hx.2 hy.1 hy.2 ht.1 ht.2 hu.1 hu.2
 obtain ⟨e2,l2,u2,m2⟩:=mac (b:=6034159408538082302) hq.1 hq.2 (by decide) (by decide) l1.1 l1.2 hd.1 hd.2
 refine tB x y i t1 t2 t3 xi q up dn ?_ hs fun ac cY aY h=>?_
 ·refine ⟨by decide,by decide,by show 1<4;decide,hx.1,hx.2,hy.1,hy.2,by omega,ht.1,ht.2,by decide,by decide,m1.1,hu.1,hu.2,by decide,by decide,hq.1,hq.2,by decide,by decide,by omega,l1.1,l1.2,by decide,by decide,m2.1,hd.1,hd.2,by decide,by decide,trivial⟩
 ·exact k _ _ _ _ e1 e2 l1 u1 l2 u2 ac cY aY h

theorem segC (x y:Fr) (i:Nat) {n0 t2 t3 xi q up dn:Int} (ht:Lim t2) (hx:Lim xi) (hq:Lim q) (hu:Lim up) (hd:Lim dn) (hy:Lim (limb (Ob.s y).n 2)) (hs:Sim w0 F0 K ac (tS2 x y i n0 t2 t3 xi q up dn) cX aX)
  (k:∀lo up' n dn' : Int,xi*limb (Ob.s y).n 2+t2+up=lo+18446744073709551616*up' → q*3691218898639771653+lo+dn=n+18446744073709551616*dn' → Lim lo→Lim up' → Lim n→Lim dn' →
   ∀ac cY aY,Sim w0 F0 K ac (tS3 x y i n0 n t3 xi q up' dn') cY aY→Wq Tryz.prog Q (tC_k) ac .normal aY cY.w):Wq Tryz.prog Q tB_k ac .normal aX cX.w:=by
 obtain ⟨e1,l1,u1,m1⟩:=mac hx.1 hx.2 hy.1 hy.2 ht.1 ht.2 hu.1 hu.2
 obtain ⟨e2,l2,u2,m2⟩:=mac (b:=3691218898639771653) hq.1 hq.2 (by decide) (by decide) l1.1 l1.2 hd.1 hd.2
 refine tC x y i n0 t2 t3 xi q up dn ?_ hs fun ac cY aY h=>?_
 ·refine ⟨by decide,by decide,by show 2<4;decide,hx.1,hx.2,hy.1,hy.2,by omega,ht.1,ht.2,by decide,by decide,m1.1,hu.1,hu.2,by decide,by decide,hq.1,hq.2,by decide,by decide,by omega,l1.1,l1.2,by decide,by decide,m2.1,hd.1,hd.2,by decide,by decide,trivial⟩
 ·exact k _ _ _ _ e1 e2 l1 u1 l2 u2 ac cY aY h

theorem segD (x y:Fr) (i:Nat) (hi:i<4) {n0 n1 t3 xi q up dn:Int} (ht:Lim t3) (hx:Lim xi) (hq:Lim q) (hu:Lim up) (hd:Lim dn) (hy:Lim (limb (Ob.s y).n 3)) (hs:Sim w0 F0 K ac (tS3 x y i n0 n1 t3 xi q up dn) cX aX)
  (k:∀lo up' n dn' : Int,xi*limb (Ob.s y).n 3+t3+up=lo+18446744073709551616*up' → q*8353516859464449352+lo+dn=n+18446744073709551616*dn' → Lim lo→Lim up' → Lim n→Lim dn' →
   ∀ac cY aY,Sim w0 F0 K ac (tS x y (i+1) n0 n1 n (wrap IntKind.u64 (dn' + up'))) cY aY→Wq Tryz.prog Q (lpBk tIn_k) ac .normal aY cY.w):Wq Tryz.prog Q tC_k ac .normal aX cX.w:=by
 obtain ⟨e1,l1,u1,m1⟩:=mac hx.1 hx.2 hy.1 hy.2 ht.1 ht.2 hu.1 hu.2
 obtain ⟨e2,l2,u2,m2⟩:=mac (b:=8353516859464449352) hq.1 hq.2 (by decide) (by decide) l1.1 l1.2 hd.1 hd.2
 refine tD x y i n0 n1 t3 xi q up dn ?_ hs fun ac cY aY h=>?_
 ·refine ⟨by decide,by decide,by show 3<4;decide,hx.1,hx.2,hy.1,hy.2,by omega,ht.1,ht.2,by decide,by decide,m1.1,hu.1,hu.2,by decide,by decide,hq.1,hq.2,by decide,by decide,by omega,l1.1,l1.2,by decide,by decide,m2.1,hd.1,hd.2,by decide,by decide,trivial⟩
 ·exact k _ _ _ _ e1 e2 l1 u1 l2 u2 ac cY aY ((by rw[wrap_id (by omega) (by omega)] at h;exact h.nx _))

end

theorem last_eq {T:Int} (hT:0≤T) {b X Y Q r:Nat} (h:T*(b:Int)=(X:Int)*(Y:Int)+(Q:Int)*(r:Int)):T.toNat*b=X*Y+Q*r:=by
 rw[←Int.toNat_of_nonneg hT] at h
 exact_mod_cast h

theorem times_fnd (x y:Fr):FnD Tryz.prog 47 [.v (.a [.ob (.s x)]),.v (.a [.ob (.s y)])] (.v (.a [.ob (.s (x*y))])) []:=by
 refine fn_start (fn:=Tryz.f47) (c:=bodyOf Tryz.f47) Tryz.func47 rfl rfl fun cx ca hk hF hs=>?_
 refine tIn x y trivial hs fun ac cY aY hs1=>?_
 refine loop_rule (ι:={ p:Nat×Int×Int×Int×Int // TInv x y p.1 p.2.1 p.2.2.1 p.2.2.2.1 p.2.2.2.2 }) (fun p=>tS x y p.1.1 p.1.2.1 p.1.2.2.1 p.1.2.2.2.1 p.1.2.2.2.2) (fun p=>4-p.1.1) (c:=lpC tIn_k) (k:=lpR tIn_k) (by kernel_rfl) (fun p ih ac cY aY hs=>?_)
  ⟨(0,0,0,0,0),⟨by decide,by decide,by decide,by decide,by decide,by decide,0,by simp [num4,Nat.mod_one]⟩⟩ hs1
 obtain ⟨⟨i,t0,t1,t2,t3⟩,hI⟩:=p
 simp only at ih hs hI
 obtain ⟨hi,⟨a0,b0⟩,⟨a1,b1⟩,⟨a2,b2⟩,⟨a3,b3⟩,hlt,Q,hQ⟩:=hI
 obtain ⟨ey,y0,y0',y1,y1',y2,y2',y3,y3'⟩:=limbsOf4 (Ob.s y).n (Nat.lt_trans (s_lt y) (by decide))
 have hyr:((Ob.s y).n:Int)<(rN:Int):=by exact_mod_cast s_lt y
 by_cases h5:i<4
 ·have hx0:0≤limb (Ob.s x).n i:=Int.natCast_nonneg _
  have hx1:limb (Ob.s x).n i<18446744073709551616:=by
   show (((Ob.s x).n / 2 ^ (64*i) % 18446744073709551616:Nat):Int)<18446744073709551616
   omega
  have hround:=fun T' q hq=>round_eq (x:=x) (y:=y) (i:=i) (Q:=Q) (T:=num4 t0 t1 t2 t3) (T' := T') (q:=q) hq hQ
  have hyn:((Ob.s y).n:Int)=num4 (limb (Ob.s y).n 0) (limb (Ob.s y).n 1) (limb (Ob.s y).n 2) (limb (Ob.s y).n 3):=ey
  have hzz:limb (Ob.s x).n i*((Ob.s y).n:Int)≤18446744073709551615*((Ob.s y).n:Int):=Int.mul_le_mul_of_nonneg_right (by omega) (by omega)
  have hz0:0≤limb (Ob.s x).n i*((Ob.s y).n:Int):=Int.mul_nonneg hx0 (by omega)
  have hmul:=num4_mul (limb (Ob.s x).n i) (limb (Ob.s y).n 0) (limb (Ob.s y).n 1) (limb (Ob.s y).n 2) (limb (Ob.s y).n 3)
  rw[←hyn] at hmul
  refine segA x y i h5 ⟨a0,b0⟩ ⟨hx0,hx1⟩ ⟨y0,y0'⟩ hs fun lo0 up0 q dn0 eA eQ hlo0 hup0 hq hdn0 ac cY aY hs=>?_
  refine segB x y i ⟨a1,b1⟩ ⟨hx0,hx1⟩ hq hup0 hdn0 ⟨y1,y1'⟩ hs fun lo1 up1 n0 dn1 eB eB' hlo1 hup1 hn0 hdn1 ac cY aY hs=>?_
  refine segC x y i ⟨a2,b2⟩ ⟨hx0,hx1⟩ hq hup1 hdn1 ⟨y2,y2'⟩ hs fun lo2 up2 n1 dn2 eC eC' hlo2 hup2 hn1 hdn2 ac cY aY hs=>?_
  refine segD x y i h5 ⟨a3,b3⟩ ⟨hx0,hx1⟩ hq hup2 hdn2 ⟨y3,y3'⟩ hs fun lo3 up3 n2 dn3 eD eD' hlo3 hup3 hn2 hdn3 ac cY aY hs=>?_
  have hall:18446744073709551616*num4 n0 n1 n2 (dn3+up3)=num4 t0 t1 t2 t3+limb (Ob.s x).n i*((Ob.s y).n:Int)+q*(rN:Int):=by
   rw[hmul]
   clear hround hmul hzz hz0 hQ ih hyr hyn ey
   unfold num4 rN
   omega
  have hlt' : num4 n0 n1 n2 (dn3+up3)<2*rN:=by
   obtain ⟨q0,q1⟩:=hq
   have:q*(rN:Int)≤18446744073709551615*(rN:Int):=Int.mul_le_mul_of_nonneg_right (by omega) (by omega)
   clear hround hmul hQ ih hyn ey
   generalize limb (Ob.s x).n i*((Ob.s y).n:Int)=z at *
   generalize q*(rN:Int)=z' at *
   omega
  have htop:wrap IntKind.u64 (dn3+up3)=dn3+up3:=by
   obtain ⟨_,_⟩:=hdn3
   obtain ⟨_,_⟩:=hup3
   obtain ⟨_,_⟩:=hn0
   obtain ⟨_,_⟩:=hn1
   obtain ⟨_,_⟩:=hn2
   refine wrap_u (by omega) ?_
   unfold num4 rN at hlt'
   omega
  rw[htop] at hs
  refine ih ⟨(i+1,n0,n1,n2,dn3+up3),⟨h5,hn0,hn1,hn2,?_,hlt',hround _ q hq.1 hall⟩⟩ (by show 4-(i+1)<4-i;omega) ac cY aY hs
  rw[←htop]
  exact wrap_lim _
 ·have hi4:i=4:=by omega
  subst hi4
  refine run_end envC_ok hk hF (tX_end x y 4 t0 t1 t2 t3) ?_ (fun z w hd=>?_) hs
  ·refine ⟨by decide,a0,b0,a1,b1,a2,b2,a3,b3,hlt,trivial⟩
  ·have hT:0≤num4 t0 t1 t2 t3:=by unfold num4;omega
   have:redS (num4 t0 t1 t2 t3).toNat=x*y:=by
    refine mont_out (Q:=Q) ?_
    have hX:(Ob.s x).n % 2 ^ (64*4)=(Ob.s x).n:=Nat.mod_eq_of_lt (Nat.lt_trans (s_lt x) (by decide))
    rw[hX] at hQ
    have h4:(2 ^ (64*4):Nat)=B4:=pow4'
    rw[h4] at hQ
    exact last_eq hT hQ
   rw[←this]
   exact hd

end S4

namespace S4

def u4s (a b c d:Int):SV:=.v (.c (.sl (.u64 [a,b,c,d])))
def fl4 (a b c d:Int):En:=.fl [.int .u64 a,.int .u64 b,.int .u64 c,.int .u64 d]

def qd0 (o0 o1 o2 o3 a b c d more m0 m1 m2 m3:Int):Cfg:=⟨[.code (bodyOf Tryz.f125)],.normal,muSt Tryz.f125.ntmps 0 4 1 (fl4 o0 o1 o2 o3) [u4s a b c d,.v (.c (.int .u64 more)),u4s m0 m1 m2 m3]⟩

--@env envC envC_ok
--@unroll true
theorem rdX (o0 o1 o2 o3 a b c d more m0 m1 m2 m3:Int):muEnd envC Tryz.f125 true 3000 (qd0 o0 o1 o2 o3 a b c d more m0 m1 m2 m3) [true,true,true,true,false,true]=(some ([((decide (0<((4:Nat):Int)))=true),(0≤(0:Int)),(0<((4:Nat):Int)),(0≤(0:Int)),(0<((4:Nat):Int)),(0≤a),(0≤m0),(m0<(18446744073709551616:Int)),(0≤(0:Int)),(0≤(1:Int)),(0≤(0:Int)),(0<(8:Int)),((decide ((1:Int)<((4:Nat):Int)))=true),(0≤(1:Int)),((1:Int)<((4:Nat):Int)),(0≤(1:Int)),((1:Int)<((4:Nat):Int)),(0≤b),(0≤m1),(m1<(18446744073709551616:Int)),(0≤(Prod.snd (exOut 1 a m0 (0:Int)))),((Prod.snd (exOut 1 a m0 (0:Int)))≤(1:Int)),(0≤(1:Int)),((1:Int)<(8:Int)),((decide ((2:Int)<((4:Nat):Int)))=true),(0≤(2:Int)),((2:Int)<((4:Nat):Int)),(0≤(2:Int)),((2:Int)<((4:Nat):Int)),(0≤c),(0≤m2),(m2<(18446744073709551616:Int)),(0≤(Prod.snd (exOut 1 b m1 (Prod.snd (exOut 1 a m0 (0:Int)))))),((Prod.snd (exOut 1 b m1 (Prod.snd (exOut 1 a m0 (0:Int)))))≤(1:Int)),(0≤(2:Int)),((2:Int)<(8:Int)),((decide ((3:Int)<((4:Nat):Int)))=true),(0≤(3:Int)),((3:Int)<((4:Nat):Int)),(0≤(3:Int)),((3:Int)<((4:Nat):Int)),(0≤d),(0≤m3),(m3<(18446744073709551616:Int)),(0≤(Prod.snd (exOut 1 c m2 (Prod.snd (exOut 1 b m1 (Prod.snd (exOut 1 a m0 (0:Int)))))))),((Prod.snd (exOut 1 c m2 (Prod.snd (exOut 1 b m1 (Prod.snd (exOut 1 a m0 (0:Int)))))))≤(1:Int)),(0≤(3:Int)),((3:Int)<(8:Int)),((decide ((4:Int)<((4:Nat):Int)))=false),((decide (more ≥ (Prod.snd (exOut 1 d m3 (Prod.snd (exOut 1 c m2 (Prod.snd (exOut 1 b m1 (Prod.snd (exOut 1 a m0 (0:Int)))))))))))=true),(0≤((4:Nat):Int)),(((4:Nat):Int)≤(8:Int))],(.fl [(.int .u64 (Prod.fst (exOut 1 a m0 (0:Int)))),(.int .u64 (Prod.fst (exOut 1 b m1 (Prod.snd (exOut 1 a m0 (0:Int)))))),(.int .u64 (Prod.fst (exOut 1 c m2 (Prod.snd (exOut 1 b m1 (Prod.snd (exOut 1 a m0 (0:Int)))))))),(.int .u64 (Prod.fst (exOut 1 d m3 (Prod.snd (exOut 1 c m2 (Prod.snd (exOut 1 b m1 (Prod.snd (exOut 1 a m0 (0:Int))))))))))]))):=by kernel_rfl
theorem rdY (o0 o1 o2 o3 a b c d more m0 m1 m2 m3:Int):muEnd envC Tryz.f125 true 3000 (qd0 o0 o1 o2 o3 a b c d more m0 m1 m2 m3) [true,true,true,true,false,false]=(some ([((decide (0<((4:Nat):Int)))=true),(0≤(0:Int)),(0<((4:Nat):Int)),(0≤(0:Int)),(0<((4:Nat):Int)),(0≤a),(0≤m0),(m0<(18446744073709551616:Int)),(0≤(0:Int)),(0≤(1:Int)),(0≤(0:Int)),(0<(8:Int)),((decide ((1:Int)<((4:Nat):Int)))=true),(0≤(1:Int)),((1:Int)<((4:Nat):Int)),(0≤(1:Int)),((1:Int)<((4:Nat):Int)),(0≤b),(0≤m1),(m1<(18446744073709551616:Int)),(0≤(Prod.snd (exOut 1 a m0 (0:Int)))),((Prod.snd (exOut 1 a m0 (0:Int)))≤(1:Int)),(0≤(1:Int)),((1:Int)<(8:Int)),((decide ((2:Int)<((4:Nat):Int)))=true),(0≤(2:Int)),((2:Int)<((4:Nat):Int)),(0≤(2:Int)),((2:Int)<((4:Nat):Int)),(0≤c),(0≤m2),(m2<(18446744073709551616:Int)),(0≤(Prod.snd (exOut 1 b m1 (Prod.snd (exOut 1 a m0 (0:Int)))))),((Prod.snd (exOut 1 b m1 (Prod.snd (exOut 1 a m0 (0:Int)))))≤(1:Int)),(0≤(2:Int)),((2:Int)<(8:Int)),((decide ((3:Int)<((4:Nat):Int)))=true),(0≤(3:Int)),((3:Int)<((4:Nat):Int)),(0≤(3:Int)),((3:Int)<((4:Nat):Int)),(0≤d),(0≤m3),(m3<(18446744073709551616:Int)),(0≤(Prod.snd (exOut 1 c m2 (Prod.snd (exOut 1 b m1 (Prod.snd (exOut 1 a m0 (0:Int)))))))),((Prod.snd (exOut 1 c m2 (Prod.snd (exOut 1 b m1 (Prod.snd (exOut 1 a m0 (0:Int)))))))≤(1:Int)),(0≤(3:Int)),((3:Int)<(8:Int)),((decide ((4:Int)<((4:Nat):Int)))=false),((decide (more ≥ (Prod.snd (exOut 1 d m3 (Prod.snd (exOut 1 c m2 (Prod.snd (exOut 1 b m1 (Prod.snd (exOut 1 a m0 (0:Int)))))))))))=false)],(.fl [(.int .u64 a),(.int .u64 b),(.int .u64 c),(.int .u64 d)]))):=by kernel_rfl
end S4

namespace S4

theorem cat_ob {x:Ctx} {o:Ob} (hk:o.k=4) {a b c d:Int} (h:limb o.n 0=a∧limb o.n 1=b∧limb o.n 2=c∧limb o.n 3=d) {cs:List Value}
  (hc:catL x.D [.int .u64 a,.int .u64 b,.int .u64 c,.int .u64 d] cs):catL x.D [.ob o] cs:=by
 obtain ⟨cs',e,h'⟩:=ints_ob hk h (v:=.agg cs.toArray) ⟨cs,rfl,hc⟩
 have e:cs=cs' := by simpa using e
 rw[e]
 exact h'

def redU (n:Nat):U4:=Fin.ofNat B4 (n % rN)
theorem redU_val (n:Nat):(redU n).val=n % rN:=Nat.mod_eq_of_lt (Nat.lt_trans (Nat.mod_lt _ (by decide)) (by decide))

theorem reduce_mu (o0 o1 o2 o3 a b c d:Int) (ha:Lim a) (hb:Lim b) (hc:Lim c) (hd:Lim d) (hn:num4 a b c d<2*rN) :
  MuC Tryz.prog 125 0 4 1 (fl4 o0 o1 o2 o3) [u4s a b c d,.v (.c (.int .u64 0)),u4s 18446744069414584321 6034159408538082302 3691218898639771653 8353516859464449352] (.fl [.ob (.fr (redU (num4 a b c d).toNat))]):=by
 refine mu_start (fn:=Tryz.f125) (c:=bodyOf Tryz.f125) Tryz.func125 rfl rfl fun x ac hk hm hs=>?_
 obtain ⟨ha,ha1⟩:=ha
 obtain ⟨hb,hb1⟩:=hb
 obtain ⟨hc,hc1⟩:=hc
 obtain ⟨hd,hd1⟩:=hd
 have r0:=rdX o0 o1 o2 o3 a b c d 0 18446744069414584321 6034159408538082302 3691218898639771653 8353516859464449352
 have r1:=rdY o0 o1 o2 o3 a b c d 0 18446744069414584321 6034159408538082302 3691218898639771653 8353516859464449352
 obtain ⟨e1,p1,p1',c1,c1'⟩:=sub_step (y:=18446744069414584321) (c:=0) ha ha1 (by decide) (by decide) (by decide) (by decide)
 obtain ⟨e2,p2,p2',c2,c2'⟩:=sub_step (y:=6034159408538082302) hb hb1 (by decide) (by decide) c1 c1'
 obtain ⟨e3,p3,p3',c3,c3'⟩:=sub_step (y:=3691218898639771653) hc hc1 (by decide) (by decide) c2 c2'
 obtain ⟨e4,p4,p4',c4,c4'⟩:=sub_step (y:=8353516859464449352) hd hd1 (by decide) (by decide) c3 c3'
 generalize hx1:exOut 1 a 18446744069414584321 0=x1 at *
 generalize hx2:exOut 1 b 6034159408538082302 x1.2=x2 at *
 generalize hx3:exOut 1 c 3691218898639771653 x2.2=x3 at *
 generalize hx4:exOut 1 d 8353516859464449352 x3.2=x4 at *
 clear hx1 hx2 hx3 hx4
 unfold num4 rN at hn
 have hnn:0≤num4 a b c d:=by unfold num4;omega
 have hN:((num4 a b c d).toNat:Int)=num4 a b c d:=Int.toNat_of_nonneg hnn
 by_cases hz:x4.2=0
 ·refine mu_end envC_ok hk hm r0 rfl ?_ (fun y cs hv=>cat_ob rfl ?_ hv) (.inl ⟨_,_,rfl,rfl⟩) hs
  ·simp only[AllP,and_true,decide_eq_true_eq,decide_eq_false_iff_not];omega
  ·refine limbsAre4 p1 p1' p2 p2' p3 p3' p4 p4' ?_
   show ((redU (num4 a b c d).toNat).val:Int)=_
   have e:(redU (num4 a b c d).toNat).val=(num4 a b c d).toNat-rN:=by
    rw[redU_val]
    have h1:rN≤(num4 a b c d).toNat:=by unfold rN num4;omega
    have h2:(num4 a b c d).toNat<2*rN:=by unfold rN num4;omega
    rw[Nat.mod_eq_sub_mod h1,Nat.mod_eq_of_lt (by omega)]
   rw[e]
   unfold rN num4
   omega
 ·refine mu_end envC_ok hk hm r1 rfl ?_ (fun y cs hv=>cat_ob rfl ?_ hv) (.inl ⟨_,_,rfl,rfl⟩) hs
  ·simp only[AllP,and_true,decide_eq_true_eq,decide_eq_false_iff_not];omega
  ·refine limbsAre4 ha ha1 hb hb1 hc hc1 hd hd1 ?_
   show ((redU (num4 a b c d).toNat).val:Int)=_
   have e:(redU (num4 a b c d).toNat).val=(num4 a b c d).toNat:=by
    rw[redU_val]
    exact Nat.mod_eq_of_lt (by unfold rN num4;omega)
   rw[e,hN]
   rfl

end S4

namespace S4
section
variable {w0:World} {F0:Nat→Prop} {K:Kp} {ac:List Act} {Q:Exit→Act→World→Prop} {cX:Ctx} {aX:Act}

def reduceSpec:MuS:=fun off len es e rest=>
 match off,len,es,e,rest with
 | 0,4,1,.fl [.int .u64 _,.int .u64 _,.int .u64 _,.int .u64 _],[.v (.c (.sl (.u64 [a,b,c,d]))),.v (.c (.int .u64 more)),.v (.c (.sl (.u64 [m0,m1,m2,m3])))]=>
  some ([Lim a,Lim b,Lim c,Lim d,num4 a b c d<2*rN,more=0,m0=18446744069414584321,m1=6034159408538082302,m2=3691218898639771653,m3=8353516859464449352],.fl [.ob (.fr (redU (num4 a b c d).toNat))])
 | _,_,_,_,_=>none

def envE:Env:={ envC with mu:=fun g=>if g=125 then some (mu1 reduceSpec) else envC.mu g }
theorem envE_ok:EnvOk Tryz.prog envE:=
 env_mu envC_ok 125 reduceSpec (enters_of Tryz.func125 rfl rfl) fun off len es e rest o e' h ho _ _=>by
  unfold reduceSpec at h
  split at h
  ·cases h
   obtain ⟨h1,h2,h3,h4,h5,h6,h7,h8,h9,h10,_⟩:=ho
   subst h6 h7 h8 h9 h10
   exact reduce_mu _ _ _ _ _ _ _ _ h1 h2 h3 h4 h5
  ·cases h

def mR:SV:=u4s 18446744069414584321 6034159408538082302 3691218898639771653 8353516859464449352
def pd0 (o0 o1 o2 o3 a b c d y0 y1 y2 y3:Int):Cfg:=⟨[.code (bodyOf Tryz.f89)],.normal,muSt Tryz.f89.ntmps 0 4 1 (fl4 o0 o1 o2 o3) [u4s a b c d,u4s y0 y1 y2 y3,mR,.v (.c (.int .u64 18446744069414584319))]⟩

--@env envE envE_ok
def pIn_k:List KI:=(run envE false 3000 ((fun (o0 o1 o2 o3 a b c d y0 y1 y2 y3:Int)=>(pd0 o0 o1 o2 o3 a b c d y0 y1 y2 y3:Cfg)) default default default default default default default default default default default default) []).cfg.k
theorem pIn (o0 o1 o2 o3 a b c d y0 y1 y2 y3:Int) {w0:World} {F0:Nat→Prop} {K:Kp} {ac:List Act} {Q:Exit→Act→World→Prop} {cX:Ctx} {aX:Act} (ho:AllP []) (hs:Sim w0 F0 K ac (((pd0 o0 o1 o2 o3 a b c d y0 y1 y2 y3:Cfg)).σ) cX aX) (hK:∀ac cY aY,Sim w0 F0 K ac (mkSt 176 [0,1,2,3,4,10,11,29,30] [(.ci (.slc 0 0 4 1)),(.ci (.sl (.u64 [a,b,c,d]))),(.ci (.sl (.u64 [y0,y1,y2,y3]))),(.ci (.sl (.u64 [(18446744069414584321:Int),(6034159408538082302:Int),(3691218898639771653:Int),(8353516859464449352:Int)]))),.iu (18446744069414584319:Int),.ii (4:Int),.pt 64 0,.ii (4:Int),.ii (0:Int)] [0,64] [(eF_ [(.int .u64 o0),(.int .u64 o1),(.int .u64 o2),(.int .u64 o3)]),(eF_ [(.int .u64 (0:Int)),(.int .u64 (0:Int)),(.int .u64 (0:Int)),(.int .u64 (0:Int)),(.int .u64 (0:Int)),(.int .u64 (0:Int)),(.int .u64 (0:Int)),(.int .u64 (0:Int)),(.int .u64 (0:Int)),(.int .u64 (0:Int))])] 112 [] []) cY aY→Wq Tryz.prog Q (pIn_k) ac Exit.normal aY cY.w):Wq Tryz.prog Q (((pd0 o0 o1 o2 o3 a b c d y0 y1 y2 y3:Cfg)).k) ac ((pd0 o0 o1 o2 o3 a b c d y0 y1 y2 y3:Cfg)).x aX cX.w:=
 run_at (unroll:=false) (n:=3000) (path:=[]) (o:=⟨_,_,_,_,_,_,_⟩) envE_ok (by kernel_rfl) (by kernel_rfl) ho hs hK
def pS (o0 o1 o2 o3 a b c d y0 y1 y2 y3:Int) (i:Nat) (r0 r1 r2 r3 r4 r5:Int):St:=mkSt 176 [0,1,2,3,4,10,11,29,30] [(.ci (.slc 0 0 4 1)),(.ci (.sl (.u64 [a,b,c,d]))),(.ci (.sl (.u64 [y0,y1,y2,y3]))),(.ci (.sl (.u64 [(18446744069414584321:Int),(6034159408538082302:Int),(3691218898639771653:Int),(8353516859464449352:Int)]))),.iu (18446744069414584319:Int),.ii (4:Int),.pt 64 0,.ii (4:Int),.v (.c (.int .i64 (i:Int)))] [0,64] [(eF_ [(.int .u64 o0),(.int .u64 o1),(.int .u64 o2),(.int .u64 o3)]),some (.fl [.int .u64 r0,.int .u64 r1,.int .u64 r2,.int .u64 r3,.int .u64 r4,.int .u64 r5,.int .u64 0,.int .u64 0,.int .u64 0,.int .u64 0])] 112 [] []
--@unroll true
def pA_k:List KI:=(run envE true 104 ((fun (o0 o1 o2 o3 a b c d y0 y1 y2 y3:Int) (i:Nat) (r0 r1 r2 r3 r4 r5:Int)=>(⟨lpIn pIn_k,.normal,pS o0 o1 o2 o3 a b c d y0 y1 y2 y3 i r0 r1 r2 r3 r4 r5⟩:Cfg)) default default default default default default default default default default default default default default default default default default default) [true,true]).cfg.k
theorem pA (o0 o1 o2 o3 a b c d y0 y1 y2 y3:Int) (i:Nat) (r0 r1 r2 r3 r4 r5:Int) {w0:World} {F0:Nat→Prop} {K:Kp} {ac:List Act} {Q:Exit→Act→World→Prop} {cX:Ctx} {aX:Act} (ho:AllP [((decide ((i:Int)<(4:Int)))=true),(0≤(i:Int)),((i:Int)<((4:Nat):Int)),((decide (0<(4:Int)))=true),(0≤(0:Int)),(0<((4:Nat):Int)),(0≤(List.getD [a,b,c,d] ((i:Int)).toNat 0)),((List.getD [a,b,c,d] ((i:Int)).toNat 0)<(18446744073709551616:Int)),(0≤y0),(y0<(18446744073709551616:Int)),(0≤(0:Int)),(0<(10:Int)),(0≤(((List.getD [a,b,c,d] ((i:Int)).toNat 0)*y0) % (18446744073709551616:Int))),(0≤r0),(r0<(18446744073709551616:Int)),(0≤(0:Int)),(0≤(1:Int)),(0≤(Prod.fst (exOut 0 (((List.getD [a,b,c,d] ((i:Int)).toNat 0)*y0) % (18446744073709551616:Int)) r0 (0:Int)))),(0≤(0:Int)),(0<(18446744073709551616:Int)),(0≤(0:Int)),(0≤(1:Int)),(0≤(0:Int)),(0<(10:Int))]) (hs:Sim w0 F0 K ac (pS o0 o1 o2 o3 a b c d y0 y1 y2 y3 i r0 r1 r2 r3 r4 r5) cX aX) (hK:∀ac cY aY,Sim w0 F0 K ac (mkSt 176 [0,1,2,3,4,10,11,13,14,29,30,37,38] [(.ci (.slc 0 0 4 1)),(.ci (.sl (.u64 [a,b,c,d]))),(.ci (.sl (.u64 [y0,y1,y2,y3]))),(.ci (.sl (.u64 [(18446744069414584321:Int),(6034159408538082302:Int),(3691218898639771653:Int),(8353516859464449352:Int)]))),.iu (18446744069414584319:Int),.ii (4:Int),.pt 64 0,(.iu (List.getD [a,b,c,d] ((i:Int)).toNat 0)),(.iu (wrap .u64 ((wrap .u64 ((((List.getD [a,b,c,d] ((i:Int)).toNat 0)*y0) / (18446744073709551616:Int))+(Prod.snd (exOut 0 (((List.getD [a,b,c,d] ((i:Int)).toNat 0)*y0) % (18446744073709551616:Int)) r0 (0:Int)))))+(Prod.snd (exOut 0 (Prod.fst (exOut 0 (((List.getD [a,b,c,d] ((i:Int)).toNat 0)*y0) % (18446744073709551616:Int)) r0 (0:Int))) (0:Int) (0:Int)))))),.ii (4:Int),(.ii (i:Int)),.ii (4:Int),.ii (0:Int)] [0,64] [(eF_ [(.int .u64 o0),(.int .u64 o1),(.int .u64 o2),(.int .u64 o3)]),(eF_ [(.int .u64 (Prod.fst (exOut 0 (Prod.fst (exOut 0 (((List.getD [a,b,c,d] ((i:Int)).toNat 0)*y0) % (18446744073709551616:Int)) r0 (0:Int))) (0:Int) (0:Int)))),(.int .u64 r1),(.int .u64 r2),(.int .u64 r3),(.int .u64 r4),(.int .u64 r5),(.int .u64 (0:Int)),(.int .u64 (0:Int)),(.int .u64 (0:Int)),(.int .u64 (0:Int))])] 992 [] []) cY aY→Wq Tryz.prog Q (pA_k) ac Exit.normal aY cY.w):Wq Tryz.prog Q (lpIn pIn_k) ac .normal aX cX.w:=
 run_at2 (unroll:=true) (n:=104) (path:=[true,true]) (o:=⟨_,_,_,_,_,_,_⟩) envE_ok (by kernel_rfl) (by kernel_rfl) ho hs hK
theorem pX (o0 o1 o2 o3 a b c d y0 y1 y2 y3:Int) (i:Nat) (r0 r1 r2 r3 r4 r5:Int):muEnd envE Tryz.f89 true 3000 ⟨lpIn pIn_k,.normal,pS o0 o1 o2 o3 a b c d y0 y1 y2 y3 i r0 r1 r2 r3 r4 r5⟩ [false]=(some ([((decide ((i:Int)<(4:Int)))=false),(0≤(4:Int)),((4:Int)≤(10:Int)),(0≤(4:Int)),((4:Int)<(10:Int)),(S4.Lim r0),(S4.Lim r1),(S4.Lim r2),(S4.Lim r3),((S4.num4 r0 r1 r2 r3)<(104871750350252380958895481016371931675381105001055275645207317399877162369026:Int)),(r4=(0:Int)),((18446744069414584321:Int)=(18446744069414584321:Int)),((6034159408538082302:Int)=(6034159408538082302:Int)),((3691218898639771653:Int)=(3691218898639771653:Int)),((8353516859464449352:Int)=(8353516859464449352:Int))],(.fl [(.ob (.fr (S4.redU ((S4.num4 r0 r1 r2 r3)).toNat)))]))):=by kernel_rfl
def pS1 (o0 o1 o2 o3 a b c d y0 y1 y2 y3:Int) (i:Nat) (x cy r0 r1 r2 r3 r4 r5:Int):St:=mkSt 176 [0,1,2,3,4,10,11,13,14,29,30,37,38] [(.ci (.slc 0 0 4 1)),(.ci (.sl (.u64 [a,b,c,d]))),(.ci (.sl (.u64 [y0,y1,y2,y3]))),(.ci (.sl (.u64 [(18446744069414584321:Int),(6034159408538082302:Int),(3691218898639771653:Int),(8353516859464449352:Int)]))),.iu (18446744069414584319:Int),.ii (4:Int),.pt 64 0,.v (.c (.int .u64 x)),.v (.c (.int .u64 cy)),.ii (4:Int),(.ii (i:Int)),.ii (4:Int),.ii (0:Int)] [0,64] [(eF_ [(.int .u64 o0),(.int .u64 o1),(.int .u64 o2),(.int .u64 o3)]),some (.fl [.int .u64 r0,.int .u64 r1,.int .u64 r2,.int .u64 r3,.int .u64 r4,.int .u64 r5,.int .u64 0,.int .u64 0,.int .u64 0,.int .u64 0])] 992 [] []
def pB_k:List KI:=(run envE true 75 ((fun (o0 o1 o2 o3 a b c d y0 y1 y2 y3:Int) (i:Nat) (x cy r0 r1 r2 r3 r4 r5:Int)=>(⟨pA_k,.normal,pS1 o0 o1 o2 o3 a b c d y0 y1 y2 y3 i x cy r0 r1 r2 r3 r4 r5⟩:Cfg)) default default default default default default default default default default default default default default default default default default default default default) [true]).cfg.k
section
variable (o0 o1 o2 o3 a b c d y0 y1 y2 y3:Int) (i:Nat) (x cy r0 r1 r2 r3 r4 r5:Int)
theorem pB (ho:AllP [((decide ((1:Int)<(4:Int)))=true),(0≤(1:Int)),((1:Int)<((4:Nat):Int)),(0≤x),(x<(18446744073709551616:Int)),(0≤y1),(y1<(18446744073709551616:Int)),(0≤(1:Int)),((1:Int)<(10:Int)),(0≤((x*y1) % (18446744073709551616:Int))),(0≤r1),(r1<(18446744073709551616:Int)),(0≤(0:Int)),(0≤(1:Int)),(0≤(Prod.fst (exOut 0 ((x*y1) % (18446744073709551616:Int)) r1 (0:Int)))),(0≤cy),(cy<(18446744073709551616:Int)),(0≤(0:Int)),(0≤(1:Int)),(0≤(1:Int)),((1:Int)<(10:Int))]):Sg Tryz.prog (pS1 o0 o1 o2 o3 a b c d y0 y1 y2 y3 i x cy r0 r1 r2 r3 r4 r5) (mkSt 176 [0,1,2,3,4,10,11,13,14,29,30,37,38] [(.ci (.slc 0 0 4 1)),(.ci (.sl (.u64 [a,b,c,d]))),(.ci (.sl (.u64 [y0,y1,y2,y3]))),(.ci (.sl (.u64 [(18446744069414584321:Int),(6034159408538082302:Int),(3691218898639771653:Int),(8353516859464449352:Int)]))),.iu (18446744069414584319:Int),.ii (4:Int),.pt 64 0,.iu x,(.iu (wrap .u64 ((wrap .u64 (((x*y1) / (18446744073709551616:Int))+(Prod.snd (exOut 0 ((x*y1) % (18446744073709551616:Int)) r1 (0:Int)))))+(Prod.snd (exOut 0 (Prod.fst (exOut 0 ((x*y1) % (18446744073709551616:Int)) r1 (0:Int))) cy (0:Int)))))),.ii (4:Int),(.ii (i:Int)),.ii (4:Int),.ii (1:Int)] [0,64] [(eF_ [(.int .u64 o0),(.int .u64 o1),(.int .u64 o2),(.int .u64 o3)]),(eF_ [(.int .u64 r0),(.int .u64 (Prod.fst (exOut 0 (Prod.fst (exOut 0 ((x*y1) % (18446744073709551616:Int)) r1 (0:Int))) cy (0:Int)))),(.int .u64 r2),(.int .u64 r3),(.int .u64 r4),(.int .u64 r5),(.int .u64 (0:Int)),(.int .u64 (0:Int)),(.int .u64 (0:Int)),(.int .u64 (0:Int))])] 1728 [] []) .normal (pB_k) (pA_k):=fun hs hK=>
 run_at2 (unroll:=true) (n:=75) (path:=[true]) (o:=⟨_,_,_,_,_,_,_⟩) envE_ok (by kernel_rfl) (by kernel_rfl) ho hs hK
def pS2 (o0 o1 o2 o3 a b c d y0 y1 y2 y3:Int) (i:Nat) (x cy r0 r1 r2 r3 r4 r5:Int):St:=mkSt 176 [0,1,2,3,4,10,11,13,14,29,30,37,38] [(.ci (.slc 0 0 4 1)),(.ci (.sl (.u64 [a,b,c,d]))),(.ci (.sl (.u64 [y0,y1,y2,y3]))),(.ci (.sl (.u64 [(18446744069414584321:Int),(6034159408538082302:Int),(3691218898639771653:Int),(8353516859464449352:Int)]))),.iu (18446744069414584319:Int),.ii (4:Int),.pt 64 0,.v (.c (.int .u64 x)),.v (.c (.int .u64 cy)),.ii (4:Int),(.ii (i:Int)),.ii (4:Int),.ii (1:Int)] [0,64] [(eF_ [(.int .u64 o0),(.int .u64 o1),(.int .u64 o2),(.int .u64 o3)]),some (.fl [.int .u64 r0,.int .u64 r1,.int .u64 r2,.int .u64 r3,.int .u64 r4,.int .u64 r5,.int .u64 0,.int .u64 0,.int .u64 0,.int .u64 0])] 1728 [] []
def pC_k:List KI:=(run envE true 75 ((fun (o0 o1 o2 o3 a b c d y0 y1 y2 y3:Int) (i:Nat) (x cy r0 r1 r2 r3 r4 r5:Int)=>(⟨pB_k,.normal,pS2 o0 o1 o2 o3 a b c d y0 y1 y2 y3 i x cy r0 r1 r2 r3 r4 r5⟩:Cfg)) default default default default default default default default default default default default default default default default default default default default default) [true]).cfg.k
theorem pC (ho:AllP [((decide ((2:Int)<(4:Int)))=true),(0≤(2:Int)),((2:Int)<((4:Nat):Int)),(0≤x),(x<(18446744073709551616:Int)),(0≤y2),(y2<(18446744073709551616:Int)),(0≤(2:Int)),((2:Int)<(10:Int)),(0≤((x*y2) % (18446744073709551616:Int))),(0≤r2),(r2<(18446744073709551616:Int)),(0≤(0:Int)),(0≤(1:Int)),(0≤(Prod.fst (exOut 0 ((x*y2) % (18446744073709551616:Int)) r2 (0:Int)))),(0≤cy),(cy<(18446744073709551616:Int)),(0≤(0:Int)),(0≤(1:Int)),(0≤(2:Int)),((2:Int)<(10:Int))]):Sg Tryz.prog (pS2 o0 o1 o2 o3 a b c d y0 y1 y2 y3 i x cy r0 r1 r2 r3 r4 r5) (mkSt 176 [0,1,2,3,4,10,11,13,14,29,30,37,38] [(.ci (.slc 0 0 4 1)),(.ci (.sl (.u64 [a,b,c,d]))),(.ci (.sl (.u64 [y0,y1,y2,y3]))),(.ci (.sl (.u64 [(18446744069414584321:Int),(6034159408538082302:Int),(3691218898639771653:Int),(8353516859464449352:Int)]))),.iu (18446744069414584319:Int),.ii (4:Int),.pt 64 0,.iu x,(.iu (wrap .u64 ((wrap .u64 (((x*y2) / (18446744073709551616:Int))+(Prod.snd (exOut 0 ((x*y2) % (18446744073709551616:Int)) r2 (0:Int)))))+(Prod.snd (exOut 0 (Prod.fst (exOut 0 ((x*y2) % (18446744073709551616:Int)) r2 (0:Int))) cy (0:Int)))))),.ii (4:Int),(.ii (i:Int)),.ii (4:Int),.ii (2:Int)] [0,64] [(eF_ [(.int .u64 o0),(.int .u64 o1),(.int .u64 o2),(.int .u64 o3)]),(eF_ [(.int .u64 r0),(.int .u64 r1),(.int .u64 (Prod.fst (exOut 0 (Prod.fst (exOut 0 ((x*y2) % (18446744073709551616:Int)) r2 (0:Int))) cy (0:Int)))),(.int .u64 r3),(.int .u64 r4),(.int .u64 r5),(.int .u64 (0:Int)),(.int .u64 (0:Int)),(.int .u64 (0:Int)),(.int .u64 (0:Int))])] 2464 [] []) .normal (pC_k) (pB_k):=fun hs hK=>
 run_at2 (unroll:=true) (n:=75) (path:=[true]) (o:=⟨_,_,_,_,_,_,_⟩) envE_ok (by kernel_rfl) (by kernel_rfl) ho hs hK
def pS3 (o0 o1 o2 o3 a b c d y0 y1 y2 y3:Int) (i:Nat) (x cy r0 r1 r2 r3 r4 r5:Int):St:=mkSt 176 [0,1,2,3,4,10,11,13,14,29,30,37,38] [(.ci (.slc 0 0 4 1)),(.ci (.sl (.u64 [a,b,c,d]))),(.ci (.sl (.u64 [y0,y1,y2,y3]))),(.ci (.sl (.u64 [(18446744069414584321:Int),(6034159408538082302:Int),(3691218898639771653:Int),(8353516859464449352:Int)]))),.iu (18446744069414584319:Int),.ii (4:Int),.pt 64 0,.v (.c (.int .u64 x)),.v (.c (.int .u64 cy)),.ii (4:Int),(.ii (i:Int)),.ii (4:Int),.ii (2:Int)] [0,64] [(eF_ [(.int .u64 o0),(.int .u64 o1),(.int .u64 o2),(.int .u64 o3)]),some (.fl [.int .u64 r0,.int .u64 r1,.int .u64 r2,.int .u64 r3,.int .u64 r4,.int .u64 r5,.int .u64 0,.int .u64 0,.int .u64 0,.int .u64 0])] 2464 [] []
def pD_k:List KI:=(run envE true 75 ((fun (o0 o1 o2 o3 a b c d y0 y1 y2 y3:Int) (i:Nat) (x cy r0 r1 r2 r3 r4 r5:Int)=>(⟨pC_k,.normal,pS3 o0 o1 o2 o3 a b c d y0 y1 y2 y3 i x cy r0 r1 r2 r3 r4 r5⟩:Cfg)) default default default default default default default default default default default default default default default default default default default default default) [true]).cfg.k
theorem pD (ho:AllP [((decide ((3:Int)<(4:Int)))=true),(0≤(3:Int)),((3:Int)<((4:Nat):Int)),(0≤x),(x<(18446744073709551616:Int)),(0≤y3),(y3<(18446744073709551616:Int)),(0≤(3:Int)),((3:Int)<(10:Int)),(0≤((x*y3) % (18446744073709551616:Int))),(0≤r3),(r3<(18446744073709551616:Int)),(0≤(0:Int)),(0≤(1:Int)),(0≤(Prod.fst (exOut 0 ((x*y3) % (18446744073709551616:Int)) r3 (0:Int)))),(0≤cy),(cy<(18446744073709551616:Int)),(0≤(0:Int)),(0≤(1:Int)),(0≤(3:Int)),((3:Int)<(10:Int))]):Sg Tryz.prog (pS3 o0 o1 o2 o3 a b c d y0 y1 y2 y3 i x cy r0 r1 r2 r3 r4 r5) (mkSt 176 [0,1,2,3,4,10,11,13,14,29,30,37,38] [(.ci (.slc 0 0 4 1)),(.ci (.sl (.u64 [a,b,c,d]))),(.ci (.sl (.u64 [y0,y1,y2,y3]))),(.ci (.sl (.u64 [(18446744069414584321:Int),(6034159408538082302:Int),(3691218898639771653:Int),(8353516859464449352:Int)]))),.iu (18446744069414584319:Int),.ii (4:Int),.pt 64 0,.iu x,(.iu (wrap .u64 ((wrap .u64 (((x*y3) / (18446744073709551616:Int))+(Prod.snd (exOut 0 ((x*y3) % (18446744073709551616:Int)) r3 (0:Int)))))+(Prod.snd (exOut 0 (Prod.fst (exOut 0 ((x*y3) % (18446744073709551616:Int)) r3 (0:Int))) cy (0:Int)))))),.ii (4:Int),(.ii (i:Int)),.ii (4:Int),.ii (3:Int)] [0,64] [(eF_ [(.int .u64 o0),(.int .u64 o1),(.int .u64 o2),(.int .u64 o3)]),(eF_ [(.int .u64 r0),(.int .u64 r1),(.int .u64 r2),(.int .u64 (Prod.fst (exOut 0 (Prod.fst (exOut 0 ((x*y3) % (18446744073709551616:Int)) r3 (0:Int))) cy (0:Int)))),(.int .u64 r4),(.int .u64 r5),(.int .u64 (0:Int)),(.int .u64 (0:Int)),(.int .u64 (0:Int)),(.int .u64 (0:Int))])] 3200 [] []) .normal (pD_k) (pC_k):=fun hs hK=>
 run_at2 (unroll:=true) (n:=75) (path:=[true]) (o:=⟨_,_,_,_,_,_,_⟩) envE_ok (by kernel_rfl) (by kernel_rfl) ho hs hK
def pS4 (o0 o1 o2 o3 a b c d y0 y1 y2 y3:Int) (i:Nat) (x cy r0 r1 r2 r3 r4 r5:Int):St:=mkSt 176 [0,1,2,3,4,10,11,13,14,29,30,37,38] [(.ci (.slc 0 0 4 1)),(.ci (.sl (.u64 [a,b,c,d]))),(.ci (.sl (.u64 [y0,y1,y2,y3]))),(.ci (.sl (.u64 [(18446744069414584321:Int),(6034159408538082302:Int),(3691218898639771653:Int),(8353516859464449352:Int)]))),.iu (18446744069414584319:Int),.ii (4:Int),.pt 64 0,.v (.c (.int .u64 x)),.v (.c (.int .u64 cy)),.ii (4:Int),(.ii (i:Int)),.ii (4:Int),.ii (3:Int)] [0,64] [(eF_ [(.int .u64 o0),(.int .u64 o1),(.int .u64 o2),(.int .u64 o3)]),some (.fl [.int .u64 r0,.int .u64 r1,.int .u64 r2,.int .u64 r3,.int .u64 r4,.int .u64 r5,.int .u64 0,.int .u64 0,.int .u64 0,.int .u64 0])] 3200 [] []
def pE_k:List KI:=(run envE true 88 ((fun (o0 o1 o2 o3 a b c d y0 y1 y2 y3:Int) (i:Nat) (x cy r0 r1 r2 r3 r4 r5:Int)=>(⟨pD_k,.normal,pS4 o0 o1 o2 o3 a b c d y0 y1 y2 y3 i x cy r0 r1 r2 r3 r4 r5⟩:Cfg)) default default default default default default default default default default default default default default default default default default default default default) [false]).cfg.k
theorem pE (ho:AllP [((decide ((4:Int)<(4:Int)))=false),(0≤(4:Int)),((4:Int)<(10:Int)),(0≤r4),(0≤cy),(cy<(18446744073709551616:Int)),(0≤(0:Int)),(0≤(1:Int)),(0≤(4:Int)),((4:Int)<(10:Int)),(0≤(5:Int)),((5:Int)<(10:Int)),(0≤(0:Int)),(0<(10:Int)),(0≤(0:Int)),(0<(4:Int)),(0≤(wrap .u64 (r0*(18446744069414584319:Int)))),((wrap .u64 (r0*(18446744069414584319:Int)))<(18446744073709551616:Int)),(0≤(18446744069414584321:Int)),((18446744069414584321:Int)<(18446744073709551616:Int)),(0≤(0:Int)),(0<(10:Int)),(0≤(((wrap .u64 (r0*(18446744069414584319:Int)))*(18446744069414584321:Int)) % (18446744073709551616:Int))),(0≤r0),(r0<(18446744073709551616:Int)),(0≤(0:Int)),(0≤(1:Int))]):Sg Tryz.prog (pS4 o0 o1 o2 o3 a b c d y0 y1 y2 y3 i x cy r0 r1 r2 r3 r4 r5) (mkSt 176 [0,1,2,3,4,10,11,14,20,23,29,30] [(.ci (.slc 0 0 4 1)),(.ci (.sl (.u64 [a,b,c,d]))),(.ci (.sl (.u64 [y0,y1,y2,y3]))),(.ci (.sl (.u64 [(18446744069414584321:Int),(6034159408538082302:Int),(3691218898639771653:Int),(8353516859464449352:Int)]))),.iu (18446744069414584319:Int),.ii (4:Int),.pt 64 0,(.iu (wrap .u64 ((((wrap .u64 (r0*(18446744069414584319:Int)))*(18446744069414584321:Int)) / (18446744073709551616:Int))+(Prod.snd (exOut 0 (((wrap .u64 (r0*(18446744069414584319:Int)))*(18446744069414584321:Int)) % (18446744073709551616:Int)) r0 (0:Int)))))),(.iu (wrap .u64 (r0*(18446744069414584319:Int)))),.ii (1:Int),.ii (4:Int),(.ii (i:Int))] [0,64] [(eF_ [(.int .u64 o0),(.int .u64 o1),(.int .u64 o2),(.int .u64 o3)]),(eF_ [(.int .u64 r0),(.int .u64 r1),(.int .u64 r2),(.int .u64 r3),(.int .u64 (Prod.fst (exOut 0 r4 cy (0:Int)))),(.int .u64 (Prod.snd (exOut 0 r4 cy (0:Int)))),(.int .u64 (0:Int)),(.int .u64 (0:Int)),(.int .u64 (0:Int)),(.int .u64 (0:Int))])] 3984 [] []) .normal (pE_k) (pD_k):=fun hs hK=>
 run_at2 (unroll:=true) (n:=88) (path:=[false]) (o:=⟨_,_,_,_,_,_,_⟩) envE_ok (by kernel_rfl) (by kernel_rfl) ho hs hK
def pT1 (o0 o1 o2 o3 a b c d y0 y1 y2 y3:Int) (i:Nat) (q cy r0 r1 r2 r3 r4 r5:Int):St:=mkSt 176 [0,1,2,3,4,10,11,14,20,23,29,30] [(.ci (.slc 0 0 4 1)),(.ci (.sl (.u64 [a,b,c,d]))),(.ci (.sl (.u64 [y0,y1,y2,y3]))),(.ci (.sl (.u64 [(18446744069414584321:Int),(6034159408538082302:Int),(3691218898639771653:Int),(8353516859464449352:Int)]))),.iu (18446744069414584319:Int),.ii (4:Int),.pt 64 0,.v (.c (.int .u64 cy)),.v (.c (.int .u64 q)),.ii (1:Int),.ii (4:Int),(.ii (i:Int))] [0,64] [(eF_ [(.int .u64 o0),(.int .u64 o1),(.int .u64 o2),(.int .u64 o3)]),some (.fl [.int .u64 r0,.int .u64 r1,.int .u64 r2,.int .u64 r3,.int .u64 r4,.int .u64 r5,.int .u64 0,.int .u64 0,.int .u64 0,.int .u64 0])] 3984 [] []
def pF_k:List KI:=(run envE true 68 ((fun (o0 o1 o2 o3 a b c d y0 y1 y2 y3:Int) (i:Nat) (q cy r0 r1 r2 r3 r4 r5:Int)=>(⟨pE_k,.normal,pT1 o0 o1 o2 o3 a b c d y0 y1 y2 y3 i q cy r0 r1 r2 r3 r4 r5⟩:Cfg)) default default default default default default default default default default default default default default default default default default default default default) [true]).cfg.k
end
section
variable (o0 o1 o2 o3 a b c d y0 y1 y2 y3:Int) (i:Nat) (q cy r0 r1 r2 r3 r4 r5:Int)
theorem pF (ho:AllP [((decide ((1:Int)<(4:Int)))=true),(0≤(1:Int)),((1:Int)<(4:Int)),(0≤q),(q<(18446744073709551616:Int)),(0≤(6034159408538082302:Int)),((6034159408538082302:Int)<(18446744073709551616:Int)),(0≤(1:Int)),((1:Int)<(10:Int)),(0≤((q*(6034159408538082302:Int)) % (18446744073709551616:Int))),(0≤r1),(r1<(18446744073709551616:Int)),(0≤(0:Int)),(0≤(1:Int)),(0≤(Prod.fst (exOut 0 ((q*(6034159408538082302:Int)) % (18446744073709551616:Int)) r1 (0:Int)))),(0≤cy),(cy<(18446744073709551616:Int)),(0≤(0:Int)),(0≤(1:Int)),(0≤(0:Int)),(0<(10:Int))]):Sg Tryz.prog (pT1 o0 o1 o2 o3 a b c d y0 y1 y2 y3 i q cy r0 r1 r2 r3 r4 r5) (mkSt 176 [0,1,2,3,4,10,11,14,20,23,29,30] [(.ci (.slc 0 0 4 1)),(.ci (.sl (.u64 [a,b,c,d]))),(.ci (.sl (.u64 [y0,y1,y2,y3]))),(.ci (.sl (.u64 [(18446744069414584321:Int),(6034159408538082302:Int),(3691218898639771653:Int),(8353516859464449352:Int)]))),.iu (18446744069414584319:Int),.ii (4:Int),.pt 64 0,(.iu (wrap .u64 ((wrap .u64 (((q*(6034159408538082302:Int)) / (18446744073709551616:Int))+(Prod.snd (exOut 0 ((q*(6034159408538082302:Int)) % (18446744073709551616:Int)) r1 (0:Int)))))+(Prod.snd (exOut 0 (Prod.fst (exOut 0 ((q*(6034159408538082302:Int)) % (18446744073709551616:Int)) r1 (0:Int))) cy (0:Int)))))),.iu q,.ii (1:Int),.ii (4:Int),(.ii (i:Int))] [0,64] [(eF_ [(.int .u64 o0),(.int .u64 o1),(.int .u64 o2),(.int .u64 o3)]),(eF_ [(.int .u64 (Prod.fst (exOut 0 (Prod.fst (exOut 0 ((q*(6034159408538082302:Int)) % (18446744073709551616:Int)) r1 (0:Int))) cy (0:Int)))),(.int .u64 r1),(.int .u64 r2),(.int .u64 r3),(.int .u64 r4),(.int .u64 r5),(.int .u64 (0:Int)),(.int .u64 (0:Int)),(.int .u64 (0:Int)),(.int .u64 (0:Int))])] 4704 [] []) .normal (pF_k) (pE_k):=fun hs hK=>
 run_at2 (unroll:=true) (n:=68) (path:=[true]) (o:=⟨_,_,_,_,_,_,_⟩) envE_ok (by kernel_rfl) (by kernel_rfl) ho hs hK
def pT2 (o0 o1 o2 o3 a b c d y0 y1 y2 y3:Int) (i:Nat) (q cy r0 r1 r2 r3 r4 r5:Int):St:=mkSt 176 [0,1,2,3,4,10,11,14,20,23,29,30] [(.ci (.slc 0 0 4 1)),(.ci (.sl (.u64 [a,b,c,d]))),(.ci (.sl (.u64 [y0,y1,y2,y3]))),(.ci (.sl (.u64 [(18446744069414584321:Int),(6034159408538082302:Int),(3691218898639771653:Int),(8353516859464449352:Int)]))),.iu (18446744069414584319:Int),.ii (4:Int),.pt 64 0,.v (.c (.int .u64 cy)),.v (.c (.int .u64 q)),.ii (1:Int),.ii (4:Int),(.ii (i:Int))] [0,64] [(eF_ [(.int .u64 o0),(.int .u64 o1),(.int .u64 o2),(.int .u64 o3)]),some (.fl [.int .u64 r0,.int .u64 r1,.int .u64 r2,.int .u64 r3,.int .u64 r4,.int .u64 r5,.int .u64 0,.int .u64 0,.int .u64 0,.int .u64 0])] 4704 [] []
def pG_k:List KI:=(run envE true 74 ((fun (o0 o1 o2 o3 a b c d y0 y1 y2 y3:Int) (i:Nat) (q cy r0 r1 r2 r3 r4 r5:Int)=>(⟨pF_k,.normal,pT2 o0 o1 o2 o3 a b c d y0 y1 y2 y3 i q cy r0 r1 r2 r3 r4 r5⟩:Cfg)) default default default default default default default default default default default default default default default default default default default default default) [true]).cfg.k
theorem pG (ho:AllP [((decide ((2:Int)<(4:Int)))=true),(0≤(2:Int)),((2:Int)<(4:Int)),(0≤q),(q<(18446744073709551616:Int)),(0≤(3691218898639771653:Int)),((3691218898639771653:Int)<(18446744073709551616:Int)),(0≤(2:Int)),((2:Int)<(10:Int)),(0≤((q*(3691218898639771653:Int)) % (18446744073709551616:Int))),(0≤r2),(r2<(18446744073709551616:Int)),(0≤(0:Int)),(0≤(1:Int)),(0≤(Prod.fst (exOut 0 ((q*(3691218898639771653:Int)) % (18446744073709551616:Int)) r2 (0:Int)))),(0≤cy),(cy<(18446744073709551616:Int)),(0≤(0:Int)),(0≤(1:Int)),(0≤(1:Int)),((1:Int)<(10:Int))]):Sg Tryz.prog (pT2 o0 o1 o2 o3 a b c d y0 y1 y2 y3 i q cy r0 r1 r2 r3 r4 r5) (mkSt 176 [0,1,2,3,4,10,11,14,20,23,29,30] [(.ci (.slc 0 0 4 1)),(.ci (.sl (.u64 [a,b,c,d]))),(.ci (.sl (.u64 [y0,y1,y2,y3]))),(.ci (.sl (.u64 [(18446744069414584321:Int),(6034159408538082302:Int),(3691218898639771653:Int),(8353516859464449352:Int)]))),.iu (18446744069414584319:Int),.ii (4:Int),.pt 64 0,(.iu (wrap .u64 ((wrap .u64 (((q*(3691218898639771653:Int)) / (18446744073709551616:Int))+(Prod.snd (exOut 0 ((q*(3691218898639771653:Int)) % (18446744073709551616:Int)) r2 (0:Int)))))+(Prod.snd (exOut 0 (Prod.fst (exOut 0 ((q*(3691218898639771653:Int)) % (18446744073709551616:Int)) r2 (0:Int))) cy (0:Int)))))),.iu q,.ii (2:Int),.ii (4:Int),(.ii (i:Int))] [0,64] [(eF_ [(.int .u64 o0),(.int .u64 o1),(.int .u64 o2),(.int .u64 o3)]),(eF_ [(.int .u64 r0),(.int .u64 (Prod.fst (exOut 0 (Prod.fst (exOut 0 ((q*(3691218898639771653:Int)) % (18446744073709551616:Int)) r2 (0:Int))) cy (0:Int)))),(.int .u64 r2),(.int .u64 r3),(.int .u64 r4),(.int .u64 r5),(.int .u64 (0:Int)),(.int .u64 (0:Int)),(.int .u64 (0:Int)),(.int .u64 (0:Int))])] 5472 [] []) .normal (pG_k) (pF_k):=fun hs hK=>
 run_at2 (unroll:=true) (n:=74) (path:=[true]) (o:=⟨_,_,_,_,_,_,_⟩) envE_ok (by kernel_rfl) (by kernel_rfl) ho hs hK
def pT3 (o0 o1 o2 o3 a b c d y0 y1 y2 y3:Int) (i:Nat) (q cy r0 r1 r2 r3 r4 r5:Int):St:=mkSt 176 [0,1,2,3,4,10,11,14,20,23,29,30] [(.ci (.slc 0 0 4 1)),(.ci (.sl (.u64 [a,b,c,d]))),(.ci (.sl (.u64 [y0,y1,y2,y3]))),(.ci (.sl (.u64 [(18446744069414584321:Int),(6034159408538082302:Int),(3691218898639771653:Int),(8353516859464449352:Int)]))),.iu (18446744069414584319:Int),.ii (4:Int),.pt 64 0,.v (.c (.int .u64 cy)),.v (.c (.int .u64 q)),.ii (2:Int),.ii (4:Int),(.ii (i:Int))] [0,64] [(eF_ [(.int .u64 o0),(.int .u64 o1),(.int .u64 o2),(.int .u64 o3)]),some (.fl [.int .u64 r0,.int .u64 r1,.int .u64 r2,.int .u64 r3,.int .u64 r4,.int .u64 r5,.int .u64 0,.int .u64 0,.int .u64 0,.int .u64 0])] 5472 [] []
def pH_k:List KI:=(run envE true 74 ((fun (o0 o1 o2 o3 a b c d y0 y1 y2 y3:Int) (i:Nat) (q cy r0 r1 r2 r3 r4 r5:Int)=>(⟨pG_k,.normal,pT3 o0 o1 o2 o3 a b c d y0 y1 y2 y3 i q cy r0 r1 r2 r3 r4 r5⟩:Cfg)) default default default default default default default default default default default default default default default default default default default default default) [true]).cfg.k
theorem pH (ho:AllP [((decide ((3:Int)<(4:Int)))=true),(0≤(3:Int)),((3:Int)<(4:Int)),(0≤q),(q<(18446744073709551616:Int)),(0≤(8353516859464449352:Int)),((8353516859464449352:Int)<(18446744073709551616:Int)),(0≤(3:Int)),((3:Int)<(10:Int)),(0≤((q*(8353516859464449352:Int)) % (18446744073709551616:Int))),(0≤r3),(r3<(18446744073709551616:Int)),(0≤(0:Int)),(0≤(1:Int)),(0≤(Prod.fst (exOut 0 ((q*(8353516859464449352:Int)) % (18446744073709551616:Int)) r3 (0:Int)))),(0≤cy),(cy<(18446744073709551616:Int)),(0≤(0:Int)),(0≤(1:Int)),(0≤(2:Int)),((2:Int)<(10:Int))]):Sg Tryz.prog (pT3 o0 o1 o2 o3 a b c d y0 y1 y2 y3 i q cy r0 r1 r2 r3 r4 r5) (mkSt 176 [0,1,2,3,4,10,11,14,20,23,29,30] [(.ci (.slc 0 0 4 1)),(.ci (.sl (.u64 [a,b,c,d]))),(.ci (.sl (.u64 [y0,y1,y2,y3]))),(.ci (.sl (.u64 [(18446744069414584321:Int),(6034159408538082302:Int),(3691218898639771653:Int),(8353516859464449352:Int)]))),.iu (18446744069414584319:Int),.ii (4:Int),.pt 64 0,(.iu (wrap .u64 ((wrap .u64 (((q*(8353516859464449352:Int)) / (18446744073709551616:Int))+(Prod.snd (exOut 0 ((q*(8353516859464449352:Int)) % (18446744073709551616:Int)) r3 (0:Int)))))+(Prod.snd (exOut 0 (Prod.fst (exOut 0 ((q*(8353516859464449352:Int)) % (18446744073709551616:Int)) r3 (0:Int))) cy (0:Int)))))),.iu q,.ii (3:Int),.ii (4:Int),(.ii (i:Int))] [0,64] [(eF_ [(.int .u64 o0),(.int .u64 o1),(.int .u64 o2),(.int .u64 o3)]),(eF_ [(.int .u64 r0),(.int .u64 r1),(.int .u64 (Prod.fst (exOut 0 (Prod.fst (exOut 0 ((q*(8353516859464449352:Int)) % (18446744073709551616:Int)) r3 (0:Int))) cy (0:Int)))),(.int .u64 r3),(.int .u64 r4),(.int .u64 r5),(.int .u64 (0:Int)),(.int .u64 (0:Int)),(.int .u64 (0:Int)),(.int .u64 (0:Int))])] 6240 [] []) .normal (pH_k) (pG_k):=fun hs hK=>
 run_at2 (unroll:=true) (n:=74) (path:=[true]) (o:=⟨_,_,_,_,_,_,_⟩) envE_ok (by kernel_rfl) (by kernel_rfl) ho hs hK
def pT4 (o0 o1 o2 o3 a b c d y0 y1 y2 y3:Int) (i:Nat) (q cy r0 r1 r2 r3 r4 r5:Int):St:=mkSt 176 [0,1,2,3,4,10,11,14,20,23,29,30] [(.ci (.slc 0 0 4 1)),(.ci (.sl (.u64 [a,b,c,d]))),(.ci (.sl (.u64 [y0,y1,y2,y3]))),(.ci (.sl (.u64 [(18446744069414584321:Int),(6034159408538082302:Int),(3691218898639771653:Int),(8353516859464449352:Int)]))),.iu (18446744069414584319:Int),.ii (4:Int),.pt 64 0,.v (.c (.int .u64 cy)),.v (.c (.int .u64 q)),.ii (3:Int),.ii (4:Int),(.ii (i:Int))] [0,64] [(eF_ [(.int .u64 o0),(.int .u64 o1),(.int .u64 o2),(.int .u64 o3)]),some (.fl [.int .u64 r0,.int .u64 r1,.int .u64 r2,.int .u64 r3,.int .u64 r4,.int .u64 r5,.int .u64 0,.int .u64 0,.int .u64 0,.int .u64 0])] 6240 [] []
theorem pI (ho:AllP [((decide ((4:Int)<(4:Int)))=false),(0≤(4:Int)),((4:Int)<(10:Int)),(0≤r4),(0≤cy),(cy<(18446744073709551616:Int)),(0≤(0:Int)),(0≤(1:Int)),(0≤(3:Int)),((3:Int)<(10:Int)),(0≤(5:Int)),((5:Int)<(10:Int)),(0≤(4:Int)),((4:Int)<(10:Int))]):Sg Tryz.prog (pT4 o0 o1 o2 o3 a b c d y0 y1 y2 y3 i q cy r0 r1 r2 r3 r4 r5) (mkSt 176 [0,1,2,3,4,10,11,29,30] [(.ci (.slc 0 0 4 1)),(.ci (.sl (.u64 [a,b,c,d]))),(.ci (.sl (.u64 [y0,y1,y2,y3]))),(.ci (.sl (.u64 [(18446744069414584321:Int),(6034159408538082302:Int),(3691218898639771653:Int),(8353516859464449352:Int)]))),.iu (18446744069414584319:Int),.ii (4:Int),.pt 64 0,.ii (4:Int),(.ii (wrap .i64 ((i:Int)+1)))] [0,64] [(eF_ [(.int .u64 o0),(.int .u64 o1),(.int .u64 o2),(.int .u64 o3)]),(eF_ [(.int .u64 r0),(.int .u64 r1),(.int .u64 r2),(.int .u64 (Prod.fst (exOut 0 r4 cy (0:Int)))),(.int .u64 (wrap .u64 (r5+(Prod.snd (exOut 0 r4 cy (0:Int)))))),(.int .u64 r5),(.int .u64 (0:Int)),(.int .u64 (0:Int)),(.int .u64 (0:Int)),(.int .u64 (0:Int))])] 6720 [] []) .normal (lpBk pIn_k) (pH_k):=fun hs hK=>
 run_at2 (unroll:=true) (n:=50) (path:=[false]) (o:=⟨_,_,_,_,_,_,_⟩) envE_ok (by kernel_rfl) (by kernel_rfl) ho hs hK
end
end
end S4

namespace S4

section
variable {w0:World} {F0:Nat→Prop} {K:Kp} {ac:List Act} {Q:Exit→Act→World→Prop} {cX:Ctx} {aX:Act}

theorem sPA (o0 o1 o2 o3 a b c d y0 y1 y2 y3:Int) (i:Nat) {r0 r1 r2 r3 r4 r5 x:Int} (hi:i<4) (he:List.getD [a,b,c,d] i 0=x) (hx:Lim x) (hy:Lim y0) (hr:Lim r0) (hs:Sim w0 F0 K ac (pS o0 o1 o2 o3 a b c d y0 y1 y2 y3 i r0 r1 r2 r3 r4 r5) cX aX)
  (k:∀n cy:Int,x*y0+r0+0=n+18446744073709551616*cy→Lim n→Lim cy→∀ac cY aY,Sim w0 F0 K ac (pS1 o0 o1 o2 o3 a b c d y0 y1 y2 y3 i x cy n r1 r2 r3 r4 r5) cY aY→Wq Tryz.prog Q pA_k ac .normal aY cY.w):Wq Tryz.prog Q (lpIn pIn_k) ac .normal aX cX.w:=by
 obtain ⟨x0,x1⟩:=hx
 obtain ⟨yy0,yy1⟩:=hy
 obtain ⟨rr0,rr1⟩:=hr
 have e:=mac x0 x1 yy0 yy1 rr0 rr1 (u:=0) (by decide) (by decide)
 have sA:=@pA o0 o1 o2 o3 a b c d y0 y1 y2 y3 i r0 r1 r2 r3 r4 r5 w0 F0 K ac Q cX aX
 rw[Int.toNat_natCast,he] at sA
 obtain ⟨e1,l1,u1,m1⟩:=e
 refine sA ?_ hs fun ac cY aY h=>k _ _ e1 l1 u1 ac cY aY h
 simp only[AllP,and_true,decide_eq_true_eq]
 omega

theorem sPB (o0 o1 o2 o3 a b c d y0 y1 y2 y3:Int) (i:Nat) {x cy r0 r1 r2 r3 r4 r5:Int} (hx:Lim x) (hy:Lim y1) (hr:Lim r1) (hc:Lim cy) (hs:Sim w0 F0 K ac (pS1 o0 o1 o2 o3 a b c d y0 y1 y2 y3 i x cy r0 r1 r2 r3 r4 r5) cX aX)
  (k:∀n cy' : Int,x*y1+r1+cy=n+18446744073709551616*cy' → Lim n→Lim cy' → ∀ac cY aY,Sim w0 F0 K ac (pS2 o0 o1 o2 o3 a b c d y0 y1 y2 y3 i x cy' r0 n r2 r3 r4 r5) cY aY→Wq Tryz.prog Q pB_k ac .normal aY cY.w):Wq Tryz.prog Q pA_k ac .normal aX cX.w:=by
 obtain ⟨x0,x1⟩:=hx
 obtain ⟨yy0,yy1⟩:=hy
 obtain ⟨rr0,rr1⟩:=hr
 obtain ⟨cc0,cc1⟩:=hc
 obtain ⟨e1,l1,u1,m1⟩:=mac x0 x1 yy0 yy1 rr0 rr1 cc0 cc1
 refine pB o0 o1 o2 o3 a b c d y0 y1 y2 y3 i x cy r0 r1 r2 r3 r4 r5 ?_ hs fun ac cY aY h=>k _ _ e1 l1 u1 ac cY aY h
 simp only[AllP,and_true,decide_eq_true_eq]
 omega

theorem sPC (o0 o1 o2 o3 a b c d y0 y1 y2 y3:Int) (i:Nat) {x cy r0 r1 r2 r3 r4 r5:Int} (hx:Lim x) (hy:Lim y2) (hr:Lim r2) (hc:Lim cy) (hs:Sim w0 F0 K ac (pS2 o0 o1 o2 o3 a b c d y0 y1 y2 y3 i x cy r0 r1 r2 r3 r4 r5) cX aX)
  (k:∀n cy' : Int,x*y2+r2+cy=n+18446744073709551616*cy' → Lim n→Lim cy' → ∀ac cY aY,Sim w0 F0 K ac (pS3 o0 o1 o2 o3 a b c d y0 y1 y2 y3 i x cy' r0 r1 n r3 r4 r5) cY aY→Wq Tryz.prog Q pC_k ac .normal aY cY.w):Wq Tryz.prog Q pB_k ac .normal aX cX.w:=by
 obtain ⟨x0,x1⟩:=hx
 obtain ⟨yy0,yy1⟩:=hy
 obtain ⟨rr0,rr1⟩:=hr
 obtain ⟨cc0,cc1⟩:=hc
 obtain ⟨e1,l1,u1,m1⟩:=mac x0 x1 yy0 yy1 rr0 rr1 cc0 cc1
 refine pC o0 o1 o2 o3 a b c d y0 y1 y2 y3 i x cy r0 r1 r2 r3 r4 r5 ?_ hs fun ac cY aY h=>k _ _ e1 l1 u1 ac cY aY h
 simp only[AllP,and_true,decide_eq_true_eq]
 omega

theorem sPD (o0 o1 o2 o3 a b c d y0 y1 y2 y3:Int) (i:Nat) {x cy r0 r1 r2 r3 r4 r5:Int} (hx:Lim x) (hy:Lim y3) (hr:Lim r3) (hc:Lim cy) (hs:Sim w0 F0 K ac (pS3 o0 o1 o2 o3 a b c d y0 y1 y2 y3 i x cy r0 r1 r2 r3 r4 r5) cX aX)
  (k:∀n cy' : Int,x*y3+r3+cy=n+18446744073709551616*cy' → Lim n→Lim cy' → ∀ac cY aY,Sim w0 F0 K ac (pS4 o0 o1 o2 o3 a b c d y0 y1 y2 y3 i x cy' r0 r1 r2 n r4 r5) cY aY→Wq Tryz.prog Q pD_k ac .normal aY cY.w):Wq Tryz.prog Q pC_k ac .normal aX cX.w:=by
 obtain ⟨x0,x1⟩:=hx
 obtain ⟨yy0,yy1⟩:=hy
 obtain ⟨rr0,rr1⟩:=hr
 obtain ⟨cc0,cc1⟩:=hc
 obtain ⟨e1,l1,u1,m1⟩:=mac x0 x1 yy0 yy1 rr0 rr1 cc0 cc1
 refine pD o0 o1 o2 o3 a b c d y0 y1 y2 y3 i x cy r0 r1 r2 r3 r4 r5 ?_ hs fun ac cY aY h=>k _ _ e1 l1 u1 ac cY aY h
 simp only[AllP,and_true,decide_eq_true_eq]
 omega

theorem sPE (o0 o1 o2 o3 a b c d y0 y1 y2 y3:Int) (i:Nat) {x cy r0 r1 r2 r3 r4 r5:Int} (hr0:Lim r0) (hr4:Lim r4) (hc:Lim cy) (hs:Sim w0 F0 K ac (pS4 o0 o1 o2 o3 a b c d y0 y1 y2 y3 i x cy r0 r1 r2 r3 r4 r5) cX aX)
  (k:∀q cy' n4 n5:Int,r4+cy+0=n4+18446744073709551616*n5→q*18446744069414584321+r0=18446744073709551616*cy' → Lim n4→0≤n5→n5≤1→Lim q→Lim cy' → ∀ac cY aY,Sim w0 F0 K ac (pT1 o0 o1 o2 o3 a b c d y0 y1 y2 y3 i q cy' r0 r1 r2 r3 n4 n5) cY aY→Wq Tryz.prog Q pE_k ac .normal aY cY.w):Wq Tryz.prog Q pD_k ac .normal aX cX.w:=by
 obtain ⟨rr0,rr1⟩:=hr0
 obtain ⟨rr4,rr5⟩:=hr4
 obtain ⟨cc0,cc1⟩:=hc
 obtain ⟨e1,p1,p1',q1,q1'⟩:=add_step (c:=0) rr4 rr5 cc0 cc1 (by decide) (by decide)
 have hq:=wrap_lim (r0*18446744069414584319)
 have e2:=mac1 (b:=18446744069414584321) hq.1 hq.2 (by decide) (by decide) rr0 rr1
 have e3:=negR_low (l:=r0) rfl
 obtain ⟨hq0,hq1⟩:=hq
 obtain ⟨e2,⟨f1,f2⟩,f3⟩:=e2
 refine pE o0 o1 o2 o3 a b c d y0 y1 y2 y3 i x cy r0 r1 r2 r3 r4 r5 ?_ hs fun ac cY aY h=>k _ _ _ _ e1 ?_ ⟨p1,p1'⟩ q1 q1' ⟨hq0,hq1⟩ f3 ac cY aY h
 ·simp only[AllP,and_true,decide_eq_false_iff_not]
  omega
 ·omega

theorem sPF (o0 o1 o2 o3 a b c d y0 y1 y2 y3:Int) (i:Nat) {q cy r0 r1 r2 r3 r4 r5:Int} (hq:Lim q) (hr:Lim r1) (hc:Lim cy) (hs:Sim w0 F0 K ac (pT1 o0 o1 o2 o3 a b c d y0 y1 y2 y3 i q cy r0 r1 r2 r3 r4 r5) cX aX)
  (k:∀n cy' : Int,q*6034159408538082302+r1+cy=n+18446744073709551616*cy' → Lim n→Lim cy' → ∀ac cY aY,Sim w0 F0 K ac (pT2 o0 o1 o2 o3 a b c d y0 y1 y2 y3 i q cy' n r1 r2 r3 r4 r5) cY aY→Wq Tryz.prog Q pF_k ac .normal aY cY.w):Wq Tryz.prog Q pE_k ac .normal aX cX.w:=by
 obtain ⟨x0,x1⟩:=hq
 obtain ⟨rr0,rr1⟩:=hr
 obtain ⟨cc0,cc1⟩:=hc
 obtain ⟨e1,l1,u1,m1⟩:=mac (b:=6034159408538082302) x0 x1 (by decide) (by decide) rr0 rr1 cc0 cc1
 refine pF o0 o1 o2 o3 a b c d y0 y1 y2 y3 i q cy r0 r1 r2 r3 r4 r5 ?_ hs fun ac cY aY h=>k _ _ e1 l1 u1 ac cY aY h
 simp only[AllP,and_true,decide_eq_true_eq]
 omega

theorem sPG (o0 o1 o2 o3 a b c d y0 y1 y2 y3:Int) (i:Nat) {q cy r0 r1 r2 r3 r4 r5:Int} (hq:Lim q) (hr:Lim r2) (hc:Lim cy) (hs:Sim w0 F0 K ac (pT2 o0 o1 o2 o3 a b c d y0 y1 y2 y3 i q cy r0 r1 r2 r3 r4 r5) cX aX)
  (k:∀n cy' : Int,q*3691218898639771653+r2+cy=n+18446744073709551616*cy' → Lim n→Lim cy' → ∀ac cY aY,Sim w0 F0 K ac (pT3 o0 o1 o2 o3 a b c d y0 y1 y2 y3 i q cy' r0 n r2 r3 r4 r5) cY aY→Wq Tryz.prog Q pG_k ac .normal aY cY.w):Wq Tryz.prog Q pF_k ac .normal aX cX.w:=by
 obtain ⟨x0,x1⟩:=hq
 obtain ⟨rr0,rr1⟩:=hr
 obtain ⟨cc0,cc1⟩:=hc
 obtain ⟨e1,l1,u1,m1⟩:=mac (b:=3691218898639771653) x0 x1 (by decide) (by decide) rr0 rr1 cc0 cc1
 refine pG o0 o1 o2 o3 a b c d y0 y1 y2 y3 i q cy r0 r1 r2 r3 r4 r5 ?_ hs fun ac cY aY h=>k _ _ e1 l1 u1 ac cY aY h
 simp only[AllP,and_true,decide_eq_true_eq]
 omega

theorem sPH (o0 o1 o2 o3 a b c d y0 y1 y2 y3:Int) (i:Nat) {q cy r0 r1 r2 r3 r4 r5:Int} (hq:Lim q) (hr:Lim r3) (hc:Lim cy) (hs:Sim w0 F0 K ac (pT3 o0 o1 o2 o3 a b c d y0 y1 y2 y3 i q cy r0 r1 r2 r3 r4 r5) cX aX)
  (k:∀n cy' : Int,q*8353516859464449352+r3+cy=n+18446744073709551616*cy' → Lim n→Lim cy' → ∀ac cY aY,Sim w0 F0 K ac (pT4 o0 o1 o2 o3 a b c d y0 y1 y2 y3 i q cy' r0 r1 n r3 r4 r5) cY aY→Wq Tryz.prog Q pH_k ac .normal aY cY.w):Wq Tryz.prog Q pG_k ac .normal aX cX.w:=by
 obtain ⟨x0,x1⟩:=hq
 obtain ⟨rr0,rr1⟩:=hr
 obtain ⟨cc0,cc1⟩:=hc
 obtain ⟨e1,l1,u1,m1⟩:=mac (b:=8353516859464449352) x0 x1 (by decide) (by decide) rr0 rr1 cc0 cc1
 refine pH o0 o1 o2 o3 a b c d y0 y1 y2 y3 i q cy r0 r1 r2 r3 r4 r5 ?_ hs fun ac cY aY h=>k _ _ e1 l1 u1 ac cY aY h
 simp only[AllP,and_true,decide_eq_true_eq]
 omega

theorem sPI (o0 o1 o2 o3 a b c d y0 y1 y2 y3:Int) (i:Nat) {q cy r0 r1 r2 r3 r4 r5:Int} (hi:i<4) (hr4:Lim r4) (hc:Lim cy) (hs:Sim w0 F0 K ac (pT4 o0 o1 o2 o3 a b c d y0 y1 y2 y3 i q cy r0 r1 r2 r3 r4 r5) cX aX)
  (k:∀n3 c4:Int,r4+cy+0=n3+18446744073709551616*c4→Lim n3→0≤c4→c4≤1→∀ac cY aY,Sim w0 F0 K ac (pS o0 o1 o2 o3 a b c d y0 y1 y2 y3 (i+1) r0 r1 r2 n3 (wrap IntKind.u64 (r5+c4)) r5) cY aY→Wq Tryz.prog Q (lpBk pIn_k) ac .normal aY cY.w):Wq Tryz.prog Q pH_k ac .normal aX cX.w:=by
 obtain ⟨rr4,rr5⟩:=hr4
 obtain ⟨cc0,cc1⟩:=hc
 obtain ⟨e1,p1,p1',q1,q1'⟩:=add_step (c:=0) rr4 rr5 cc0 cc1 (by decide) (by decide)
 refine pI o0 o1 o2 o3 a b c d y0 y1 y2 y3 i q cy r0 r1 r2 r3 r4 r5 ?_ hs fun ac cY aY h=>k _ _ e1 ⟨p1,p1'⟩ q1 q1' ac cY aY (by rw[wrap_id (by omega) (by omega)] at h;exact h.nx _)
 simp only[AllP,and_true,decide_eq_false_iff_not]
 omega

end

end S4

namespace S4

structure PInv (A Y i:Nat) (r0 r1 r2 r3 r4:Int):Prop where
 i4:i≤4
 h0:Lim r0
 h1:Lim r1
 h2:Lim r2
 h3:Lim r3
 h4:r4=0
 lt:num4 r0 r1 r2 r3<2*rN
 eq:∃Q:Nat,num4 r0 r1 r2 r3*((2 ^ (64*i):Nat):Int)=((A % 2 ^ (64*i):Nat):Int)*(Y:Int)+(Q:Int)*(rN:Int)

theorem round_eqN {A Y r i Q:Nat} {T T' q:Int} (hq:0≤q) (h:T*((2 ^ (64*i):Nat):Int)=((A % 2 ^ (64*i):Nat):Int)*(Y:Int)+(Q:Int)*(r:Int))
  (h' : 18446744073709551616*T' = T+limb A i*(Y:Int)+q*(r:Int)) :
  ∃Q:Nat,T' * ((2 ^ (64*(i+1)):Nat):Int)=((A % 2 ^ (64*(i+1)):Nat):Int)*(Y:Int)+(Q:Int)*(r:Int):=by
 obtain ⟨q,rfl⟩:=Int.eq_ofNat_of_zero_le hq
 refine ⟨Q+q*2 ^ (64*i),?_⟩
 rw[mod_next]
 have hp:(2:Nat) ^ (64*(i+1))=2 ^ (64*i)*18446744073709551616:=by rw[Nat.mul_add,Nat.pow_add]
 rw[hp]
 have hl:limb A i=((A / 2 ^ (64*i) % 18446744073709551616:Nat):Int):=rfl
 rw[hl] at h'
 generalize A / 2 ^ (64*i) % 18446744073709551616=xi at *
 generalize A % 2 ^ (64*i)=X at *
 generalize 2 ^ (64*i)=m at *
 have e1:T' * ((m*18446744073709551616:Nat):Int)=(18446744073709551616*T')*(m:Int):=by
  rw[Int.natCast_mul,Int.mul_comm (m:Int),←Int.mul_assoc,Int.mul_comm T'];rfl
 rw[e1,h',Int.add_mul,Int.add_mul,h]
 push_cast
 simp only[Int.add_mul,Int.mul_assoc]
 have e2:(xi:Int)*((Y:Int)*(m:Int))=(m:Int)*((xi:Int)*(Y:Int)):=by rw[←Int.mul_assoc,Int.mul_comm]
 have e3:(q:Int)*((r:Int)*(m:Int))=(q:Int)*((m:Int)*(r:Int)):=by rw[Int.mul_comm (r:Int)]
 rw[e2,e3]
 omega

theorem out_abs {r B v T X Q:Nat} (e:v*B % r=1 % r) (h:T*B=X+Q*r):T % r=X*v % r:=by
  have h2:∀a:Nat,a*(v*B) % r=a % r:=fun a=>by rw[←Nat.mul_mod_mod,e,Nat.mul_mod_mod,Nat.mul_one]
  calc T % r=T*(v*B) % r:=(h2 _).symm
    _=(T*B)*v % r:=by congr 1;simp only[Nat.mul_comm,Nat.mul_left_comm]
    _=X*v % r:=by rw[h,Nat.add_mul,Nat.mul_assoc Q,Nat.mul_comm r,←Nat.mul_assoc,Nat.add_mul_mod_self_right]

theorem redU_congr {a b:Nat} (h:a % rN=b % rN):redU a=redU b:=by unfold redU;rw[h]

theorem product_mu (o0 o1 o2 o3:Int) (A Y:Nat) (hA:A<B4) (hY:Y<rN) :
  MuC Tryz.prog 89 0 4 1 (fl4 o0 o1 o2 o3) [u4s (limb A 0) (limb A 1) (limb A 2) (limb A 3),u4s (limb Y 0) (limb Y 1) (limb Y 2) (limb Y 3),mR,.v (.c (.int .u64 18446744069414584319))] (.fl [.ob (.fr (redU (A*Y*rinv)))]):=by
 refine mu_start (fn:=Tryz.f89) (c:=bodyOf Tryz.f89) Tryz.func89 rfl rfl fun x0 a0 hk hm hs=>?_
 obtain ⟨ey,y0,y0',y1,y1',y2,y2',y3,y3'⟩:=limbsOf4 Y (Nat.lt_trans hY (by decide))
 obtain ⟨ea,z0,z0',z1,z1',z2,z2',z3,z3'⟩:=limbsOf4 A hA
 have hyr:(Y:Int)<(rN:Int):=by exact_mod_cast hY
 have hin:=@pIn o0 o1 o2 o3 (limb A 0) (limb A 1) (limb A 2) (limb A 3) (limb Y 0) (limb Y 1) (limb Y 2) (limb Y 3)
 have hget:∀i,i<4→List.getD [limb A 0,limb A 1,limb A 2,limb A 3] i 0=limb A i:=by
  intro i hi
  have:i=0∨i=1∨i=2∨i=3:=by omega
  rcases this with rfl | rfl | rfl | rfl<;>rfl
 have hmul:=fun z=>num4_mul z (limb Y 0) (limb Y 1) (limb Y 2) (limb Y 3)
 have hyn:(Y:Int)=num4 (limb Y 0) (limb Y 1) (limb Y 2) (limb Y 3):=ey
 rw[←hyn] at hmul
 have hx0:∀i,0≤limb A i:=fun i=>Int.natCast_nonneg _
 have hx1:∀i,limb A i<18446744073709551616:=fun i=>by
  show ((A / 2 ^ (64*i) % 18446744073709551616:Nat):Int)<18446744073709551616
  omega
 have hlimY0:Lim (limb Y 0):=⟨y0,y0'⟩
 have hlimY1:Lim (limb Y 1):=⟨y1,y1'⟩
 have hlimY2:Lim (limb Y 2):=⟨y2,y2'⟩
 have hlimY3:Lim (limb Y 3):=⟨y3,y3'⟩
 clear ey ea y0 y0' y1 y1' y2 y2' y3 y3' z0 z0' z1 z1' z2 z2' z3 z3'
 have hT4:A % 2 ^ (64*4)=A:=Nat.mod_eq_of_lt (by rw[pow4'];exact hA)
 generalize limb A 0=a at *
 generalize limb A 1=b at *
 generalize limb A 2=c at *
 generalize limb A 3=d at *
 generalize limb Y 0=v0 at *
 generalize limb Y 1=v1 at *
 generalize limb Y 2=v2 at *
 generalize limb Y 3=v3 at *
 refine hin trivial hs fun ac cY aY hs1=>?_
 refine loop_rule (ι:={ p:Nat×Int×Int×Int×Int×Int×Int // PInv A Y p.1 p.2.1 p.2.2.1 p.2.2.2.1 p.2.2.2.2.1 p.2.2.2.2.2.1 })
  (fun p=>pS o0 o1 o2 o3 a b c d v0 v1 v2 v3 p.1.1 p.1.2.1 p.1.2.2.1 p.1.2.2.2.1 p.1.2.2.2.2.1 p.1.2.2.2.2.2.1 p.1.2.2.2.2.2.2) (fun p=>4-p.1.1) (c:=lpC pIn_k) (k:=lpR pIn_k) (by kernel_rfl) (fun p ih ac cY aY hs=>?_)
  ⟨(0,0,0,0,0,0,0),⟨by decide,⟨by decide,by decide⟩,⟨by decide,by decide⟩,⟨by decide,by decide⟩,⟨by decide,by decide⟩,rfl,by decide,0,by simp [num4,Nat.mod_one]⟩⟩ hs1
 obtain ⟨⟨i,r0,r1,r2,r3,r4,r5⟩,hI⟩:=p
 simp only at ih hs hI
 obtain ⟨hi,h0,h1,h2,h3,h4,hlt,Q,hQ⟩:=hI
 subst h4
 by_cases h5:i<4
 ·have hround:=fun T' q hq=>round_eqN (A:=A) (Y:=Y) (r:=rN) (i:=i) (Q:=Q) (T:=num4 r0 r1 r2 r3) (T' := T') (q:=q) hq hQ
  have hzz:limb A i*(Y:Int)≤18446744073709551615*(Y:Int):=Int.mul_le_mul_of_nonneg_right (by have:=hx1 i;omega) (by omega)
  have hz0:0≤limb A i*(Y:Int):=Int.mul_nonneg (hx0 i) (by omega)
  have hlx:Lim (limb A i):=⟨hx0 i,hx1 i⟩
  refine sPA o0 o1 o2 o3 a b c d v0 v1 v2 v3 i h5 (hget i h5) hlx hlimY0 h0 hs fun a0 c0 eA la0 lc0 ac cY aY hs=>?_
  refine sPB o0 o1 o2 o3 a b c d v0 v1 v2 v3 i hlx hlimY1 h1 lc0 hs fun a1 c1 eB la1 lc1 ac cY aY hs=>?_
  refine sPC o0 o1 o2 o3 a b c d v0 v1 v2 v3 i hlx hlimY2 h2 lc1 hs fun a2 c2 eC la2 lc2 ac cY aY hs=>?_
  refine sPD o0 o1 o2 o3 a b c d v0 v1 v2 v3 i hlx hlimY3 h3 lc2 hs fun a3 c3 eD la3 lc3 ac cY aY hs=>?_
  refine sPE o0 o1 o2 o3 a b c d v0 v1 v2 v3 i la0 ⟨by decide,by decide⟩ lc3 hs fun q d0 n4 n5 eE eQ ln4 n50 n51 lq ld0 ac cY aY hs=>?_
  refine sPF o0 o1 o2 o3 a b c d v0 v1 v2 v3 i lq la1 ld0 hs fun b0 d1 eF lb0 ld1 ac cY aY hs=>?_
  refine sPG o0 o1 o2 o3 a b c d v0 v1 v2 v3 i lq la2 ld1 hs fun b1 d2 eG lb1 ld2 ac cY aY hs=>?_
  refine sPH o0 o1 o2 o3 a b c d v0 v1 v2 v3 i lq la3 ld2 hs fun b2 d3 eH lb2 ld3 ac cY aY hs=>?_
  refine sPI o0 o1 o2 o3 a b c d v0 v1 v2 v3 i h5 ln4 ld3 hs fun b3 c4 eI lb3 c40 c41 ac cY aY hs=>?_
  have hall:18446744073709551616*(num4 b0 b1 b2 b3+115792089237316195423570985008687907853269984665640564039457584007913129639936*(n5+c4))=num4 r0 r1 r2 r3+limb A i*(Y:Int)+q*(rN:Int):=by
   rw[hmul]
   clear hround hmul hzz hz0 hQ ih hyr hyn
   unfold num4 rN
   omega
  have hlt' : num4 b0 b1 b2 b3+115792089237316195423570985008687907853269984665640564039457584007913129639936*(n5+c4)<2*rN:=by
   obtain ⟨q0,q1⟩:=lq
   have:q*(rN:Int)≤18446744073709551615*(rN:Int):=Int.mul_le_mul_of_nonneg_right (by omega) (by omega)
   clear hround hmul hQ ih hyn
   generalize limb A i*(Y:Int)=z at *
   generalize q*(rN:Int)=z' at *
   omega
  have htop:n5+c4=0:=by
   obtain ⟨_,_⟩:=lb0
   obtain ⟨_,_⟩:=lb1
   obtain ⟨_,_⟩:=lb2
   obtain ⟨_,_⟩:=lb3
   unfold num4 rN at hlt'
   omega
  rw[htop,Int.mul_zero,Int.add_zero] at hall hlt'
  rw[htop] at hs
  exact ih ⟨(i+1,b0,b1,b2,b3,wrap IntKind.u64 0,n5),⟨h5,lb0,lb1,lb2,lb3,rfl,hlt',hround _ q lq.1 hall⟩⟩ (by show 4-(i+1)<4-i;omega) ac cY aY hs
 ·have hi4:i=4:=by omega
  subst hi4
  have hT:0≤num4 r0 r1 r2 r3:=by
   obtain ⟨_,_⟩:=h0
   obtain ⟨_,_⟩:=h1
   obtain ⟨_,_⟩:=h2
   obtain ⟨_,_⟩:=h3
   unfold num4
   omega
  rw[hT4] at hQ
  have hb4:(2 ^ (64*4):Nat)=B4:=pow4'
  rw[hb4] at hQ
  have hlast:=last_eq hT hQ
  have hred:redU (num4 r0 r1 r2 r3).toNat=redU (A*Y*rinv):=redU_congr (out_abs rinv_B4 hlast)
  rw[←hred]
  refine mu_end envE_ok hk hm (pX o0 o1 o2 o3 a b c d v0 v1 v2 v3 4 r0 r1 r2 r3 0 r5) rfl ?_ (fun y cs h=>h) (.inl ⟨_,_,rfl,rfl⟩) hs
  refine ⟨by decide,by decide,by decide,by decide,by decide,h0,h1,h2,h3,hlt,rfl,rfl,rfl,rfl,rfl,trivial⟩

end S4

namespace S4

theorem MuC.pre {P:Program} {f off len es:Nat} {e1 e2 e' : En} {rest:List SV} (h:MuC P f off len es e2 rest e') (hl:∃l l',e1 = .fl l∧e2 = .fl l') (hd:∀x cs,denEn x e1 cs→denEn x e2 cs):MuC P f off len es e1 rest e' := by
 intro x vs hk hm hden
 obtain ⟨l,l',rfl,rfl⟩:=hl
 refine h x vs hk ⟨fun p=>?_,fun p r hp=>?_,fun p q hp hn=>?_,fun p e hp hr=>?_,hm.inj,hm.own,hm.fw⟩ hden
 ·rw[←hm.dom p]
  by_cases h0:p=0<;>simp [one,h0]
 ·by_cases h0:p=0
  ·subst h0;exact hm.fl 0 l rfl
  ·simp [one,h0] at hp
 ·by_cases h0:p=0
  ·subst h0;simp [one] at hp
  ·simp [one,h0] at hp
 ·by_cases h0:p=0
  ·subst h0
   simp only[one,if_true,Option.some.injEq] at hp
   subst hp
   obtain ⟨cs,ty,hc,hdd⟩:=hm.ent 0 _ rfl hr
   exact ⟨cs,ty,hc,hd _ _ hdd⟩
  ·simp [one,h0] at hp

theorem ob_ints {x:Ctx} {o:Ob} (hk:o.k=4) {cs:List Value} (h:catL x.D [.ob o] cs):catL x.D [.int .u64 (limb o.n 0),.int .u64 (limb o.n 1),.int .u64 (limb o.n 2),.int .u64 (limb o.n 3)] cs:=by
 obtain ⟨c1,c2,e,⟨d,h1⟩,h2⟩:=h
 have h1:c1=o.cells:=by cases d<;>exact h1
 have h2:c2=[]:=h2
 subst h2 h1 e
 rw[List.append_nil]
 unfold Ob.cells
 rw[hk]
 exact ⟨[_],_,rfl,⟨0,rfl⟩,[_],_,rfl,⟨0,rfl⟩,[_],_,rfl,⟨0,rfl⟩,[_],_,rfl,⟨0,rfl⟩,rfl⟩

def prodE (a b c d y0 y1 y2 y3:Int):En:=.fl [.ob (.fr (redU ((num4 a b c d).toNat*(num4 y0 y1 y2 y3).toNat*rinv)))]
def prodSpec:MuS:=fun off len es e rest=>
 match off,len,es,e,rest with
 | 0,4,1,.fl [.ob (.s _)],[.v (.c (.sl (.u64 [a,b,c,d]))),.v (.c (.sl (.u64 [y0,y1,y2,y3]))),.v (.c (.sl (.u64 [m0,m1,m2,m3]))),.v (.c (.int .u64 neg))]=>
  some ([Lim a,Lim b,Lim c,Lim d,Lim y0,Lim y1,Lim y2,Lim y3,num4 y0 y1 y2 y3<rN,neg=18446744069414584319,m0=18446744069414584321,m1=6034159408538082302,m2=3691218898639771653,m3=8353516859464449352],prodE a b c d y0 y1 y2 y3)
 | 0,4,1,.fl [.ob (.fr _)],[.v (.c (.sl (.u64 [a,b,c,d]))),.v (.c (.sl (.u64 [y0,y1,y2,y3]))),.v (.c (.sl (.u64 [m0,m1,m2,m3]))),.v (.c (.int .u64 neg))]=>
  some ([Lim a,Lim b,Lim c,Lim d,Lim y0,Lim y1,Lim y2,Lim y3,num4 y0 y1 y2 y3<rN,neg=18446744069414584319,m0=18446744069414584321,m1=6034159408538082302,m2=3691218898639771653,m3=8353516859464449352],prodE a b c d y0 y1 y2 y3)
 | _,_,_,_,_=>none

theorem num4_nat {a b c d:Int} (ha:Lim a) (hb:Lim b) (hc:Lim c) (hd:Lim d):∃n:Nat,n<B4∧num4 a b c d=(n:Int)∧limb n 0=a∧limb n 1=b∧limb n 2=c∧limb n 3=d:=by
 obtain ⟨ha,ha1⟩:=ha
 obtain ⟨hb,hb1⟩:=hb
 obtain ⟨hc,hc1⟩:=hc
 obtain ⟨hd,hd1⟩:=hd
 have h0:0≤num4 a b c d:=by unfold num4;omega
 obtain ⟨n,hn⟩:=Int.eq_ofNat_of_zero_le h0
 refine ⟨n,?_,hn,limbsAre4 ha ha1 hb hb1 hc hc1 hd hd1 (by rw[←hn];rfl)⟩
 unfold num4 at hn
 unfold B4
 omega

theorem prod_use {o:Ob} (hk:o.k=4) {a b c d y0 y1 y2 y3 neg m0 m1 m2 m3:Int}
  (ho:AllP [Lim a,Lim b,Lim c,Lim d,Lim y0,Lim y1,Lim y2,Lim y3,num4 y0 y1 y2 y3<rN,neg=18446744069414584319,m0=18446744069414584321,m1=6034159408538082302,m2=3691218898639771653,m3=8353516859464449352]) :
  MuC Tryz.prog 89 0 4 1 (.fl [.ob o]) [.v (.c (.sl (.u64 [a,b,c,d]))),.v (.c (.sl (.u64 [y0,y1,y2,y3]))),.v (.c (.sl (.u64 [m0,m1,m2,m3]))),.v (.c (.int .u64 neg))] (prodE a b c d y0 y1 y2 y3):=by
 obtain ⟨h1,h2,h3,h4,h5,h6,h7,h8,h9,rfl,rfl,rfl,rfl,rfl,_⟩:=ho
 obtain ⟨A,hA,eA,rfl,rfl,rfl,rfl⟩:=num4_nat h1 h2 h3 h4
 obtain ⟨Y,hY,eY,rfl,rfl,rfl,rfl⟩:=num4_nat h5 h6 h7 h8
 refine MuC.pre (e2:=fl4 (limb o.n 0) (limb o.n 1) (limb o.n 2) (limb o.n 3)) ?_ ⟨_,_,rfl,rfl⟩ fun x cs h=>ob_ints hk h
 unfold prodE
 rw[eA,eY,Int.toNat_natCast,Int.toNat_natCast]
 rw[eY] at h9
 exact product_mu _ _ _ _ A Y hA (by exact_mod_cast h9)

def envF:Env:={ envE with mu:=fun g=>if g=89 then some (mu1 prodSpec) else envE.mu g }
theorem envF_ok:EnvOk Tryz.prog envF:=
 env_mu envE_ok 89 prodSpec (enters_of Tryz.func89 rfl rfl) fun off len es e rest o e' h ho _ _=>by
  unfold prodSpec at h
  split at h
  ·cases h;exact prod_use rfl ho
  ·cases h;exact prod_use rfl ho
  ·cases h

--@env envF envF_ok
theorem inS0 (x:U4):fnRes envF Tryz.f46 3000 [.v (.a [.ob (.fr x)])] [] [] []=(some ([(S4.Lim (limb (Ob.n (.fr x)) 0)),(S4.Lim (limb (Ob.n (.fr x)) 1)),(S4.Lim (limb (Ob.n (.fr x)) 2)),(S4.Lim (limb (Ob.n (.fr x)) 3)),(S4.Lim (14526898881837571181:Int)),(S4.Lim (3129137299524312099:Int)),(S4.Lim (419701826671360399:Int)),(S4.Lim (524908885293268753:Int)),((3294906474794265442129797520630710739278575682199800681788903916070560242797:Int)<(52435875175126190479447740508185965837690552500527637822603658699938581184513:Int)),((18446744069414584319:Int)=(18446744069414584319:Int)),((18446744069414584321:Int)=(18446744069414584321:Int)),((6034159408538082302:Int)=(6034159408538082302:Int)),((3691218898639771653:Int)=(3691218898639771653:Int)),((8353516859464449352:Int)=(8353516859464449352:Int))],((.v (.a [(.ob (.fr (S4.redU ((((S4.num4 (limb (Ob.n (.fr x)) 0) (limb (Ob.n (.fr x)) 1) (limb (Ob.n (.fr x)) 2) (limb (Ob.n (.fr x)) 3))).toNat*3294906474794265442129797520630710739278575682199800681788903916070560242797)*rinv))))])),[]))):=by kernel_rfl
theorem outS0 (x:Fr):fnRes envF Tryz.f48 3000 [.v (.a [.ob (.s x)])] [] [] []=(some ([(S4.Lim (limb (Ob.n (.s x)) 0)),(S4.Lim (limb (Ob.n (.s x)) 1)),(S4.Lim (limb (Ob.n (.s x)) 2)),(S4.Lim (limb (Ob.n (.s x)) 3)),(S4.Lim (1:Int)),(S4.Lim (0:Int)),(S4.Lim (0:Int)),(S4.Lim (0:Int)),((1:Int)<(52435875175126190479447740508185965837690552500527637822603658699938581184513:Int)),((18446744069414584319:Int)=(18446744069414584319:Int)),((18446744069414584321:Int)=(18446744069414584321:Int)),((6034159408538082302:Int)=(6034159408538082302:Int)),((3691218898639771653:Int)=(3691218898639771653:Int)),((8353516859464449352:Int)=(8353516859464449352:Int))],((.v (.a [(.ob (.fr (S4.redU ((((S4.num4 (limb (Ob.n (.s x)) 0) (limb (Ob.n (.s x)) 1) (limb (Ob.n (.s x)) 2) (limb (Ob.n (.s x)) 3))).toNat*1)*rinv))))])),[]))):=by kernel_rfl
end S4

namespace S4

/-- A number, taken modulo r; an element as a number. -/
def inF (a:U4):Fr:=Fin.ofNat rN a.val
def outF (x:Fr):U4:=Fin.ofNat B4 x.val
theorem outF_val (x:Fr):(outF x).val=x.val:=Nat.mod_eq_of_lt (Nat.lt_trans x.isLt (by decide))

theorem lims_of {n:Nat} (h:n<B4):Lim (limb n 0)∧Lim (limb n 1)∧Lim (limb n 2)∧Lim (limb n 3)∧(num4 (limb n 0) (limb n 1) (limb n 2) (limb n 3)).toNat=n:=by
 obtain ⟨e,a0,a1,b0,b1,c0,c1,d0,d1⟩:=limbsOf4 n h
 refine ⟨⟨a0,a1⟩,⟨b0,b1⟩,⟨c0,c1⟩,⟨d0,d1⟩,?_⟩
 unfold num4
 rw[←e]
 exact Int.toNat_natCast n

theorem inS_abs {r B v s a:Nat} (e:v*B % r=1 % r) (hs:s % r=B*B % r):a*s*v % r=(a % r)*B % r:=by
  have h2:∀a:Nat,a*(v*B) % r=a % r:=fun a=>by rw[←Nat.mul_mod_mod,e,Nat.mul_mod_mod,Nat.mul_one]
  calc a*s*v % r=(a*v)*s % r:=by congr 1;simp only[Nat.mul_comm,Nat.mul_left_comm]
    _=(a*v)*(B*B) % r:=by rw[←Nat.mul_mod_mod,hs,Nat.mul_mod_mod]
    _=(a*B)*(v*B) % r:=by congr 1;simp only[Nat.mul_comm,Nat.mul_left_comm]
    _=a*B % r:=h2 _
    _=(a % r)*B % r:=by rw[Nat.mod_mul_mod]

theorem sq_B4:3294906474794265442129797520630710739278575682199800681788903916070560242797 % rN=B4*B4 % rN:=by kernel_rfl

theorem inS_fnd (a:U4):FnD Tryz.prog 46 [.v (.a [.ob (.fr a)])] (.v (.a [.ob (.s (inF a))])) []:=by
 obtain ⟨h0,h1,h2,h3,hn⟩:=lims_of a.isLt
 refine (fn_sound envF_ok Tryz.func46 (inS0 a) ?_).conv (fun _ _ h=>h) fun y v hd=>?_
 ·exact ⟨h0,h1,h2,h3,⟨by decide,by decide⟩,⟨by decide,by decide⟩,⟨by decide,by decide⟩,⟨by decide,by decide⟩,by decide,rfl,rfl,rfl,rfl,rfl,trivial⟩
 ·refine ob_ob (o:=.fr (redU _)) (o' := .s (inF a)) rfl ?_ hd
  show (redU _).val=_
  rw[redU_val]
  have hn:(num4 (limb (Ob.n (Ob.fr a)) 0) (limb (Ob.n (Ob.fr a)) 1) (limb (Ob.n (Ob.fr a)) 2) (limb (Ob.n (Ob.fr a)) 3)).toNat=a.val:=hn
  rw[hn]
  exact inS_abs rinv_B4 sq_B4

theorem out_one {r B v x:Nat} (e:v*B % r=1 % r):(x*B % r)*1*v % r=x % r:=by
 rw[Nat.mul_one,Nat.mod_mul_mod,Nat.mul_assoc,Nat.mul_comm B,←Nat.mul_mod_mod,e,Nat.mul_mod_mod,Nat.mul_one]

theorem outS_fnd (x:Fr):FnD Tryz.prog 48 [.v (.a [.ob (.s x)])] (.v (.a [.ob (.fr (outF x))])) []:=by
 obtain ⟨h0,h1,h2,h3,hn⟩:=lims_of (n:=(Ob.s x).n) (Nat.lt_trans (s_lt x) (by decide))
 refine (fn_sound envF_ok Tryz.func48 (outS0 x) ?_).conv (fun _ _ h=>h) fun y v hd=>?_
 ·exact ⟨h0,h1,h2,h3,⟨by decide,by decide⟩,⟨by decide,by decide⟩,⟨by decide,by decide⟩,⟨by decide,by decide⟩,by decide,rfl,rfl,rfl,rfl,rfl,trivial⟩
 ·refine ob_ob (o:=.fr (redU _)) (o' := .fr (outF x)) (Eq.refl 4) ?_ hd
  show (redU _).val=(outF x).val
  rw[redU_val,hn,outF_val]
  have e:(Ob.s x).n=x.val*B4 % rN:=rfl
  rw[e,out_one rinv_B4]
  exact Nat.mod_eq_of_lt x.isLt

end S4

namespace S4

--@env envF envF_ok
theorem plusS0 (x y:Fr):fnRes envF Tryz.f49 3000 [.v (.a [.ob (.s x)]),.v (.a [.ob (.s y)])] [] [] []=(some ([(0≤(0:Int)),(0<(4:Int)),(0<(Ob.k (.s x))),(0≤(0:Int)),(0<(4:Int)),(0<(Ob.k (.s y))),(0≤(limb (Ob.n (.s x)) 0)),(0≤(limb (Ob.n (.s y)) 0)),((limb (Ob.n (.s y)) 0)<(18446744073709551616:Int)),(0≤(0:Int)),(0≤(1:Int)),(0≤(0:Int)),(0<(4:Int)),(0≤(1:Int)),((1:Int)<(4:Int)),(1<(Ob.k (.s x))),(0≤(1:Int)),((1:Int)<(4:Int)),(1<(Ob.k (.s y))),(0≤(limb (Ob.n (.s x)) 1)),(0≤(limb (Ob.n (.s y)) 1)),((limb (Ob.n (.s y)) 1)<(18446744073709551616:Int)),(0≤(Prod.snd (exOut 0 (limb (Ob.n (.s x)) 0) (limb (Ob.n (.s y)) 0) (0:Int)))),((Prod.snd (exOut 0 (limb (Ob.n (.s x)) 0) (limb (Ob.n (.s y)) 0) (0:Int)))≤(1:Int)),(0≤(1:Int)),((1:Int)<(4:Int)),(0≤(2:Int)),((2:Int)<(4:Int)),(2<(Ob.k (.s x))),(0≤(2:Int)),((2:Int)<(4:Int)),(2<(Ob.k (.s y))),(0≤(limb (Ob.n (.s x)) 2)),(0≤(limb (Ob.n (.s y)) 2)),((limb (Ob.n (.s y)) 2)<(18446744073709551616:Int)),(0≤(Prod.snd (exOut 0 (limb (Ob.n (.s x)) 1) (limb (Ob.n (.s y)) 1) (Prod.snd (exOut 0 (limb (Ob.n (.s x)) 0) (limb (Ob.n (.s y)) 0) (0:Int)))))),((Prod.snd (exOut 0 (limb (Ob.n (.s x)) 1) (limb (Ob.n (.s y)) 1) (Prod.snd (exOut 0 (limb (Ob.n (.s x)) 0) (limb (Ob.n (.s y)) 0) (0:Int)))))≤(1:Int)),(0≤(2:Int)),((2:Int)<(4:Int)),(0≤(3:Int)),((3:Int)<(4:Int)),(3<(Ob.k (.s x))),(0≤(3:Int)),((3:Int)<(4:Int)),(3<(Ob.k (.s y))),(0≤(limb (Ob.n (.s x)) 3)),(0≤(limb (Ob.n (.s y)) 3)),((limb (Ob.n (.s y)) 3)<(18446744073709551616:Int)),(0≤(Prod.snd (exOut 0 (limb (Ob.n (.s x)) 2) (limb (Ob.n (.s y)) 2) (Prod.snd (exOut 0 (limb (Ob.n (.s x)) 1) (limb (Ob.n (.s y)) 1) (Prod.snd (exOut 0 (limb (Ob.n (.s x)) 0) (limb (Ob.n (.s y)) 0) (0:Int)))))))),((Prod.snd (exOut 0 (limb (Ob.n (.s x)) 2) (limb (Ob.n (.s y)) 2) (Prod.snd (exOut 0 (limb (Ob.n (.s x)) 1) (limb (Ob.n (.s y)) 1) (Prod.snd (exOut 0 (limb (Ob.n (.s x)) 0) (limb (Ob.n (.s y)) 0) (0:Int)))))))≤(1:Int)),(0≤(3:Int)),((3:Int)<(4:Int)),(0≤(Prod.fst (exOut 0 (limb (Ob.n (.s x)) 0) (limb (Ob.n (.s y)) 0) (0:Int)))),((Prod.fst (exOut 0 (limb (Ob.n (.s x)) 0) (limb (Ob.n (.s y)) 0) (0:Int)))<(18446744073709551616:Int)),(0≤(Prod.fst (exOut 0 (limb (Ob.n (.s x)) 1) (limb (Ob.n (.s y)) 1) (Prod.snd (exOut 0 (limb (Ob.n (.s x)) 0) (limb (Ob.n (.s y)) 0) (0:Int)))))),((Prod.fst (exOut 0 (limb (Ob.n (.s x)) 1) (limb (Ob.n (.s y)) 1) (Prod.snd (exOut 0 (limb (Ob.n (.s x)) 0) (limb (Ob.n (.s y)) 0) (0:Int)))))<(18446744073709551616:Int)),(0≤(Prod.fst (exOut 0 (limb (Ob.n (.s x)) 2) (limb (Ob.n (.s y)) 2) (Prod.snd (exOut 0 (limb (Ob.n (.s x)) 1) (limb (Ob.n (.s y)) 1) (Prod.snd (exOut 0 (limb (Ob.n (.s x)) 0) (limb (Ob.n (.s y)) 0) (0:Int)))))))),((Prod.fst (exOut 0 (limb (Ob.n (.s x)) 2) (limb (Ob.n (.s y)) 2) (Prod.snd (exOut 0 (limb (Ob.n (.s x)) 1) (limb (Ob.n (.s y)) 1) (Prod.snd (exOut 0 (limb (Ob.n (.s x)) 0) (limb (Ob.n (.s y)) 0) (0:Int)))))))<(18446744073709551616:Int)),(0≤(Prod.fst (exOut 0 (limb (Ob.n (.s x)) 3) (limb (Ob.n (.s y)) 3) (Prod.snd (exOut 0 (limb (Ob.n (.s x)) 2) (limb (Ob.n (.s y)) 2) (Prod.snd (exOut 0 (limb (Ob.n (.s x)) 1) (limb (Ob.n (.s y)) 1) (Prod.snd (exOut 0 (limb (Ob.n (.s x)) 0) (limb (Ob.n (.s y)) 0) (0:Int)))))))))),((Prod.fst (exOut 0 (limb (Ob.n (.s x)) 3) (limb (Ob.n (.s y)) 3) (Prod.snd (exOut 0 (limb (Ob.n (.s x)) 2) (limb (Ob.n (.s y)) 2) (Prod.snd (exOut 0 (limb (Ob.n (.s x)) 1) (limb (Ob.n (.s y)) 1) (Prod.snd (exOut 0 (limb (Ob.n (.s x)) 0) (limb (Ob.n (.s y)) 0) (0:Int)))))))))<(18446744073709551616:Int)),((S4.num4 (Prod.fst (exOut 0 (limb (Ob.n (.s x)) 0) (limb (Ob.n (.s y)) 0) (0:Int))) (Prod.fst (exOut 0 (limb (Ob.n (.s x)) 1) (limb (Ob.n (.s y)) 1) (Prod.snd (exOut 0 (limb (Ob.n (.s x)) 0) (limb (Ob.n (.s y)) 0) (0:Int))))) (Prod.fst (exOut 0 (limb (Ob.n (.s x)) 2) (limb (Ob.n (.s y)) 2) (Prod.snd (exOut 0 (limb (Ob.n (.s x)) 1) (limb (Ob.n (.s y)) 1) (Prod.snd (exOut 0 (limb (Ob.n (.s x)) 0) (limb (Ob.n (.s y)) 0) (0:Int))))))) (Prod.fst (exOut 0 (limb (Ob.n (.s x)) 3) (limb (Ob.n (.s y)) 3) (Prod.snd (exOut 0 (limb (Ob.n (.s x)) 2) (limb (Ob.n (.s y)) 2) (Prod.snd (exOut 0 (limb (Ob.n (.s x)) 1) (limb (Ob.n (.s y)) 1) (Prod.snd (exOut 0 (limb (Ob.n (.s x)) 0) (limb (Ob.n (.s y)) 0) (0:Int))))))))))<(104871750350252380958895481016371931675381105001055275645207317399877162369026:Int))],((.v (.a [(.ob (.s (redS ((S4.num4 (Prod.fst (exOut 0 (limb (Ob.n (.s x)) 0) (limb (Ob.n (.s y)) 0) (0:Int))) (Prod.fst (exOut 0 (limb (Ob.n (.s x)) 1) (limb (Ob.n (.s y)) 1) (Prod.snd (exOut 0 (limb (Ob.n (.s x)) 0) (limb (Ob.n (.s y)) 0) (0:Int))))) (Prod.fst (exOut 0 (limb (Ob.n (.s x)) 2) (limb (Ob.n (.s y)) 2) (Prod.snd (exOut 0 (limb (Ob.n (.s x)) 1) (limb (Ob.n (.s y)) 1) (Prod.snd (exOut 0 (limb (Ob.n (.s x)) 0) (limb (Ob.n (.s y)) 0) (0:Int))))))) (Prod.fst (exOut 0 (limb (Ob.n (.s x)) 3) (limb (Ob.n (.s y)) 3) (Prod.snd (exOut 0 (limb (Ob.n (.s x)) 2) (limb (Ob.n (.s y)) 2) (Prod.snd (exOut 0 (limb (Ob.n (.s x)) 1) (limb (Ob.n (.s y)) 1) (Prod.snd (exOut 0 (limb (Ob.n (.s x)) 0) (limb (Ob.n (.s y)) 0) (0:Int))))))))))).toNat)))])),[]))):=by kernel_rfl
theorem minusS0 (x y:Fr):fnRes envF Tryz.f62 3000 [.v (.a [.ob (.s x)]),.v (.a [.ob (.s y)])] [true] [] []=(some ([(0≤(0:Int)),(0<(4:Int)),(0<(Ob.k (.s x))),(0≤(0:Int)),(0<(4:Int)),(0<(Ob.k (.s y))),(0≤(limb (Ob.n (.s x)) 0)),(0≤(limb (Ob.n (.s y)) 0)),((limb (Ob.n (.s y)) 0)<(18446744073709551616:Int)),(0≤(0:Int)),(0≤(1:Int)),(0≤(0:Int)),(0<(4:Int)),(0≤(1:Int)),((1:Int)<(4:Int)),(1<(Ob.k (.s x))),(0≤(1:Int)),((1:Int)<(4:Int)),(1<(Ob.k (.s y))),(0≤(limb (Ob.n (.s x)) 1)),(0≤(limb (Ob.n (.s y)) 1)),((limb (Ob.n (.s y)) 1)<(18446744073709551616:Int)),(0≤(Prod.snd (exOut 1 (limb (Ob.n (.s x)) 0) (limb (Ob.n (.s y)) 0) (0:Int)))),((Prod.snd (exOut 1 (limb (Ob.n (.s x)) 0) (limb (Ob.n (.s y)) 0) (0:Int)))≤(1:Int)),(0≤(1:Int)),((1:Int)<(4:Int)),(0≤(2:Int)),((2:Int)<(4:Int)),(2<(Ob.k (.s x))),(0≤(2:Int)),((2:Int)<(4:Int)),(2<(Ob.k (.s y))),(0≤(limb (Ob.n (.s x)) 2)),(0≤(limb (Ob.n (.s y)) 2)),((limb (Ob.n (.s y)) 2)<(18446744073709551616:Int)),(0≤(Prod.snd (exOut 1 (limb (Ob.n (.s x)) 1) (limb (Ob.n (.s y)) 1) (Prod.snd (exOut 1 (limb (Ob.n (.s x)) 0) (limb (Ob.n (.s y)) 0) (0:Int)))))),((Prod.snd (exOut 1 (limb (Ob.n (.s x)) 1) (limb (Ob.n (.s y)) 1) (Prod.snd (exOut 1 (limb (Ob.n (.s x)) 0) (limb (Ob.n (.s y)) 0) (0:Int)))))≤(1:Int)),(0≤(2:Int)),((2:Int)<(4:Int)),(0≤(3:Int)),((3:Int)<(4:Int)),(3<(Ob.k (.s x))),(0≤(3:Int)),((3:Int)<(4:Int)),(3<(Ob.k (.s y))),(0≤(limb (Ob.n (.s x)) 3)),(0≤(limb (Ob.n (.s y)) 3)),((limb (Ob.n (.s y)) 3)<(18446744073709551616:Int)),(0≤(Prod.snd (exOut 1 (limb (Ob.n (.s x)) 2) (limb (Ob.n (.s y)) 2) (Prod.snd (exOut 1 (limb (Ob.n (.s x)) 1) (limb (Ob.n (.s y)) 1) (Prod.snd (exOut 1 (limb (Ob.n (.s x)) 0) (limb (Ob.n (.s y)) 0) (0:Int)))))))),((Prod.snd (exOut 1 (limb (Ob.n (.s x)) 2) (limb (Ob.n (.s y)) 2) (Prod.snd (exOut 1 (limb (Ob.n (.s x)) 1) (limb (Ob.n (.s y)) 1) (Prod.snd (exOut 1 (limb (Ob.n (.s x)) 0) (limb (Ob.n (.s y)) 0) (0:Int)))))))≤(1:Int)),(0≤(3:Int)),((3:Int)<(4:Int)),(((Prod.snd (exOut 1 (limb (Ob.n (.s x)) 3) (limb (Ob.n (.s y)) 3) (Prod.snd (exOut 1 (limb (Ob.n (.s x)) 2) (limb (Ob.n (.s y)) 2) (Prod.snd (exOut 1 (limb (Ob.n (.s x)) 1) (limb (Ob.n (.s y)) 1) (Prod.snd (exOut 1 (limb (Ob.n (.s x)) 0) (limb (Ob.n (.s y)) 0) (0:Int))))))))) == (0:Int))=true)],((.v (.a [(.int .u64 (Prod.fst (exOut 1 (limb (Ob.n (.s x)) 0) (limb (Ob.n (.s y)) 0) (0:Int)))),(.int .u64 (Prod.fst (exOut 1 (limb (Ob.n (.s x)) 1) (limb (Ob.n (.s y)) 1) (Prod.snd (exOut 1 (limb (Ob.n (.s x)) 0) (limb (Ob.n (.s y)) 0) (0:Int)))))),(.int .u64 (Prod.fst (exOut 1 (limb (Ob.n (.s x)) 2) (limb (Ob.n (.s y)) 2) (Prod.snd (exOut 1 (limb (Ob.n (.s x)) 1) (limb (Ob.n (.s y)) 1) (Prod.snd (exOut 1 (limb (Ob.n (.s x)) 0) (limb (Ob.n (.s y)) 0) (0:Int)))))))),(.int .u64 (Prod.fst (exOut 1 (limb (Ob.n (.s x)) 3) (limb (Ob.n (.s y)) 3) (Prod.snd (exOut 1 (limb (Ob.n (.s x)) 2) (limb (Ob.n (.s y)) 2) (Prod.snd (exOut 1 (limb (Ob.n (.s x)) 1) (limb (Ob.n (.s y)) 1) (Prod.snd (exOut 1 (limb (Ob.n (.s x)) 0) (limb (Ob.n (.s y)) 0) (0:Int))))))))))])),[]))):=by kernel_rfl
theorem minusS1 (x y:Fr):fnRes envF Tryz.f62 3000 [.v (.a [.ob (.s x)]),.v (.a [.ob (.s y)])] [false] [] []=(some ([(0≤(0:Int)),(0<(4:Int)),(0<(Ob.k (.s x))),(0≤(0:Int)),(0<(4:Int)),(0<(Ob.k (.s y))),(0≤(limb (Ob.n (.s x)) 0)),(0≤(limb (Ob.n (.s y)) 0)),((limb (Ob.n (.s y)) 0)<(18446744073709551616:Int)),(0≤(0:Int)),(0≤(1:Int)),(0≤(0:Int)),(0<(4:Int)),(0≤(1:Int)),((1:Int)<(4:Int)),(1<(Ob.k (.s x))),(0≤(1:Int)),((1:Int)<(4:Int)),(1<(Ob.k (.s y))),(0≤(limb (Ob.n (.s x)) 1)),(0≤(limb (Ob.n (.s y)) 1)),((limb (Ob.n (.s y)) 1)<(18446744073709551616:Int)),(0≤(Prod.snd (exOut 1 (limb (Ob.n (.s x)) 0) (limb (Ob.n (.s y)) 0) (0:Int)))),((Prod.snd (exOut 1 (limb (Ob.n (.s x)) 0) (limb (Ob.n (.s y)) 0) (0:Int)))≤(1:Int)),(0≤(1:Int)),((1:Int)<(4:Int)),(0≤(2:Int)),((2:Int)<(4:Int)),(2<(Ob.k (.s x))),(0≤(2:Int)),((2:Int)<(4:Int)),(2<(Ob.k (.s y))),(0≤(limb (Ob.n (.s x)) 2)),(0≤(limb (Ob.n (.s y)) 2)),((limb (Ob.n (.s y)) 2)<(18446744073709551616:Int)),(0≤(Prod.snd (exOut 1 (limb (Ob.n (.s x)) 1) (limb (Ob.n (.s y)) 1) (Prod.snd (exOut 1 (limb (Ob.n (.s x)) 0) (limb (Ob.n (.s y)) 0) (0:Int)))))),((Prod.snd (exOut 1 (limb (Ob.n (.s x)) 1) (limb (Ob.n (.s y)) 1) (Prod.snd (exOut 1 (limb (Ob.n (.s x)) 0) (limb (Ob.n (.s y)) 0) (0:Int)))))≤(1:Int)),(0≤(2:Int)),((2:Int)<(4:Int)),(0≤(3:Int)),((3:Int)<(4:Int)),(3<(Ob.k (.s x))),(0≤(3:Int)),((3:Int)<(4:Int)),(3<(Ob.k (.s y))),(0≤(limb (Ob.n (.s x)) 3)),(0≤(limb (Ob.n (.s y)) 3)),((limb (Ob.n (.s y)) 3)<(18446744073709551616:Int)),(0≤(Prod.snd (exOut 1 (limb (Ob.n (.s x)) 2) (limb (Ob.n (.s y)) 2) (Prod.snd (exOut 1 (limb (Ob.n (.s x)) 1) (limb (Ob.n (.s y)) 1) (Prod.snd (exOut 1 (limb (Ob.n (.s x)) 0) (limb (Ob.n (.s y)) 0) (0:Int)))))))),((Prod.snd (exOut 1 (limb (Ob.n (.s x)) 2) (limb (Ob.n (.s y)) 2) (Prod.snd (exOut 1 (limb (Ob.n (.s x)) 1) (limb (Ob.n (.s y)) 1) (Prod.snd (exOut 1 (limb (Ob.n (.s x)) 0) (limb (Ob.n (.s y)) 0) (0:Int)))))))≤(1:Int)),(0≤(3:Int)),((3:Int)<(4:Int)),(((Prod.snd (exOut 1 (limb (Ob.n (.s x)) 3) (limb (Ob.n (.s y)) 3) (Prod.snd (exOut 1 (limb (Ob.n (.s x)) 2) (limb (Ob.n (.s y)) 2) (Prod.snd (exOut 1 (limb (Ob.n (.s x)) 1) (limb (Ob.n (.s y)) 1) (Prod.snd (exOut 1 (limb (Ob.n (.s x)) 0) (limb (Ob.n (.s y)) 0) (0:Int))))))))) == (0:Int))=false),(0≤(0:Int)),(0<(4:Int)),(0≤(0:Int)),(0<(4:Int)),(0<4),(0≤(Prod.fst (exOut 1 (limb (Ob.n (.s x)) 0) (limb (Ob.n (.s y)) 0) (0:Int)))),(0≤(18446744069414584321:Int)),((18446744069414584321:Int)<(18446744073709551616:Int)),(0≤(0:Int)),(0≤(1:Int)),(0≤(0:Int)),(0<(4:Int)),(0≤(1:Int)),((1:Int)<(4:Int)),(0≤(1:Int)),((1:Int)<(4:Int)),(1<4),(0≤(Prod.fst (exOut 1 (limb (Ob.n (.s x)) 1) (limb (Ob.n (.s y)) 1) (Prod.snd (exOut 1 (limb (Ob.n (.s x)) 0) (limb (Ob.n (.s y)) 0) (0:Int)))))),(0≤(6034159408538082302:Int)),((6034159408538082302:Int)<(18446744073709551616:Int)),(0≤(Prod.snd (exOut 0 (Prod.fst (exOut 1 (limb (Ob.n (.s x)) 0) (limb (Ob.n (.s y)) 0) (0:Int))) (18446744069414584321:Int) (0:Int)))),((Prod.snd (exOut 0 (Prod.fst (exOut 1 (limb (Ob.n (.s x)) 0) (limb (Ob.n (.s y)) 0) (0:Int))) (18446744069414584321:Int) (0:Int)))≤(1:Int)),(0≤(1:Int)),((1:Int)<(4:Int)),(0≤(2:Int)),((2:Int)<(4:Int)),(0≤(2:Int)),((2:Int)<(4:Int)),(2<4),(0≤(Prod.fst (exOut 1 (limb (Ob.n (.s x)) 2) (limb (Ob.n (.s y)) 2) (Prod.snd (exOut 1 (limb (Ob.n (.s x)) 1) (limb (Ob.n (.s y)) 1) (Prod.snd (exOut 1 (limb (Ob.n (.s x)) 0) (limb (Ob.n (.s y)) 0) (0:Int)))))))),(0≤(3691218898639771653:Int)),((3691218898639771653:Int)<(18446744073709551616:Int)),(0≤(Prod.snd (exOut 0 (Prod.fst (exOut 1 (limb (Ob.n (.s x)) 1) (limb (Ob.n (.s y)) 1) (Prod.snd (exOut 1 (limb (Ob.n (.s x)) 0) (limb (Ob.n (.s y)) 0) (0:Int))))) (6034159408538082302:Int) (Prod.snd (exOut 0 (Prod.fst (exOut 1 (limb (Ob.n (.s x)) 0) (limb (Ob.n (.s y)) 0) (0:Int))) (18446744069414584321:Int) (0:Int)))))),((Prod.snd (exOut 0 (Prod.fst (exOut 1 (limb (Ob.n (.s x)) 1) (limb (Ob.n (.s y)) 1) (Prod.snd (exOut 1 (limb (Ob.n (.s x)) 0) (limb (Ob.n (.s y)) 0) (0:Int))))) (6034159408538082302:Int) (Prod.snd (exOut 0 (Prod.fst (exOut 1 (limb (Ob.n (.s x)) 0) (limb (Ob.n (.s y)) 0) (0:Int))) (18446744069414584321:Int) (0:Int)))))≤(1:Int)),(0≤(2:Int)),((2:Int)<(4:Int)),(0≤(3:Int)),((3:Int)<(4:Int)),(0≤(3:Int)),((3:Int)<(4:Int)),(3<4),(0≤(Prod.fst (exOut 1 (limb (Ob.n (.s x)) 3) (limb (Ob.n (.s y)) 3) (Prod.snd (exOut 1 (limb (Ob.n (.s x)) 2) (limb (Ob.n (.s y)) 2) (Prod.snd (exOut 1 (limb (Ob.n (.s x)) 1) (limb (Ob.n (.s y)) 1) (Prod.snd (exOut 1 (limb (Ob.n (.s x)) 0) (limb (Ob.n (.s y)) 0) (0:Int)))))))))),(0≤(8353516859464449352:Int)),((8353516859464449352:Int)<(18446744073709551616:Int)),(0≤(Prod.snd (exOut 0 (Prod.fst (exOut 1 (limb (Ob.n (.s x)) 2) (limb (Ob.n (.s y)) 2) (Prod.snd (exOut 1 (limb (Ob.n (.s x)) 1) (limb (Ob.n (.s y)) 1) (Prod.snd (exOut 1 (limb (Ob.n (.s x)) 0) (limb (Ob.n (.s y)) 0) (0:Int))))))) (3691218898639771653:Int) (Prod.snd (exOut 0 (Prod.fst (exOut 1 (limb (Ob.n (.s x)) 1) (limb (Ob.n (.s y)) 1) (Prod.snd (exOut 1 (limb (Ob.n (.s x)) 0) (limb (Ob.n (.s y)) 0) (0:Int))))) (6034159408538082302:Int) (Prod.snd (exOut 0 (Prod.fst (exOut 1 (limb (Ob.n (.s x)) 0) (limb (Ob.n (.s y)) 0) (0:Int))) (18446744069414584321:Int) (0:Int)))))))),((Prod.snd (exOut 0 (Prod.fst (exOut 1 (limb (Ob.n (.s x)) 2) (limb (Ob.n (.s y)) 2) (Prod.snd (exOut 1 (limb (Ob.n (.s x)) 1) (limb (Ob.n (.s y)) 1) (Prod.snd (exOut 1 (limb (Ob.n (.s x)) 0) (limb (Ob.n (.s y)) 0) (0:Int))))))) (3691218898639771653:Int) (Prod.snd (exOut 0 (Prod.fst (exOut 1 (limb (Ob.n (.s x)) 1) (limb (Ob.n (.s y)) 1) (Prod.snd (exOut 1 (limb (Ob.n (.s x)) 0) (limb (Ob.n (.s y)) 0) (0:Int))))) (6034159408538082302:Int) (Prod.snd (exOut 0 (Prod.fst (exOut 1 (limb (Ob.n (.s x)) 0) (limb (Ob.n (.s y)) 0) (0:Int))) (18446744069414584321:Int) (0:Int)))))))≤(1:Int)),(0≤(3:Int)),((3:Int)<(4:Int))],((.v (.a [(.int .u64 (Prod.fst (exOut 0 (Prod.fst (exOut 1 (limb (Ob.n (.s x)) 0) (limb (Ob.n (.s y)) 0) (0:Int))) (18446744069414584321:Int) (0:Int)))),(.int .u64 (Prod.fst (exOut 0 (Prod.fst (exOut 1 (limb (Ob.n (.s x)) 1) (limb (Ob.n (.s y)) 1) (Prod.snd (exOut 1 (limb (Ob.n (.s x)) 0) (limb (Ob.n (.s y)) 0) (0:Int))))) (6034159408538082302:Int) (Prod.snd (exOut 0 (Prod.fst (exOut 1 (limb (Ob.n (.s x)) 0) (limb (Ob.n (.s y)) 0) (0:Int))) (18446744069414584321:Int) (0:Int)))))),(.int .u64 (Prod.fst (exOut 0 (Prod.fst (exOut 1 (limb (Ob.n (.s x)) 2) (limb (Ob.n (.s y)) 2) (Prod.snd (exOut 1 (limb (Ob.n (.s x)) 1) (limb (Ob.n (.s y)) 1) (Prod.snd (exOut 1 (limb (Ob.n (.s x)) 0) (limb (Ob.n (.s y)) 0) (0:Int))))))) (3691218898639771653:Int) (Prod.snd (exOut 0 (Prod.fst (exOut 1 (limb (Ob.n (.s x)) 1) (limb (Ob.n (.s y)) 1) (Prod.snd (exOut 1 (limb (Ob.n (.s x)) 0) (limb (Ob.n (.s y)) 0) (0:Int))))) (6034159408538082302:Int) (Prod.snd (exOut 0 (Prod.fst (exOut 1 (limb (Ob.n (.s x)) 0) (limb (Ob.n (.s y)) 0) (0:Int))) (18446744069414584321:Int) (0:Int)))))))),(.int .u64 (Prod.fst (exOut 0 (Prod.fst (exOut 1 (limb (Ob.n (.s x)) 3) (limb (Ob.n (.s y)) 3) (Prod.snd (exOut 1 (limb (Ob.n (.s x)) 2) (limb (Ob.n (.s y)) 2) (Prod.snd (exOut 1 (limb (Ob.n (.s x)) 1) (limb (Ob.n (.s y)) 1) (Prod.snd (exOut 1 (limb (Ob.n (.s x)) 0) (limb (Ob.n (.s y)) 0) (0:Int))))))))) (8353516859464449352:Int) (Prod.snd (exOut 0 (Prod.fst (exOut 1 (limb (Ob.n (.s x)) 2) (limb (Ob.n (.s y)) 2) (Prod.snd (exOut 1 (limb (Ob.n (.s x)) 1) (limb (Ob.n (.s y)) 1) (Prod.snd (exOut 1 (limb (Ob.n (.s x)) 0) (limb (Ob.n (.s y)) 0) (0:Int))))))) (3691218898639771653:Int) (Prod.snd (exOut 0 (Prod.fst (exOut 1 (limb (Ob.n (.s x)) 1) (limb (Ob.n (.s y)) 1) (Prod.snd (exOut 1 (limb (Ob.n (.s x)) 0) (limb (Ob.n (.s y)) 0) (0:Int))))) (6034159408538082302:Int) (Prod.snd (exOut 0 (Prod.fst (exOut 1 (limb (Ob.n (.s x)) 0) (limb (Ob.n (.s y)) 0) (0:Int))) (18446744069414584321:Int) (0:Int))))))))))])),[]))):=by kernel_rfl
end S4

namespace S4

theorem s_add_abs {x y r B:Nat}:((x+y) % r)*B % r=(x*B % r+y*B % r) % r:=by
 rw[Nat.mod_mul_mod,Nat.add_mul,←Nat.add_mod]

theorem s_add_n (x y:Fr):(Ob.s (x+y)).n=((Ob.s x).n+(Ob.s y).n) % rN:=by
 exact s_add_abs

theorem fin_sub_add {n:Nat} (x y:Fin n):x-y+y=x:=by
 apply Fin.ext
 simp only[Fin.add_def,Fin.sub_def]
 have:=y.isLt
 rw[Nat.mod_add_mod,show n-y.val+x.val+y.val=x.val+n from by omega,Nat.add_mod_right,Nat.mod_eq_of_lt x.isLt]

theorem s_sub_n (x y:Fr):((Ob.s (x-y)).n+(Ob.s y).n) % rN=(Ob.s x).n:=by
 rw[←s_add_n,fin_sub_add]

theorem add_abs {r B v x y:Nat} (e:v*B % r=1 % r):(x*B % r+y*B % r)*v % r=(x+y) % r:=by
 rw[←Nat.mod_mul_mod,←Nat.add_mod,Nat.mod_mul_mod,←Nat.add_mul,Nat.mul_assoc,Nat.mul_comm B,←Nat.mul_mod_mod,e,Nat.mul_mod_mod,Nat.mul_one]

theorem redS_add (x y:Fr):redS ((Ob.s x).n+(Ob.s y).n)=x+y:=by
 apply Fin.ext
 have e:(Ob.s x).n=x.val*B4 % rN:=rfl
 have e' : (Ob.s y).n=y.val*B4 % rN:=rfl
 rw[e,e']
 exact add_abs rinv_B4

theorem plus_fnd (x y:Fr):FnD Tryz.prog 49 [.v (.a [.ob (.s x)]),.v (.a [.ob (.s y)])] (.v (.a [.ob (.s (x+y))])) []:=by
 have r0:=plusS0 x y
 have hX:=s_lt x
 have hY:=s_lt y
 have hadd:=redS_add x y
 obtain ⟨ex,x0,x0',x1,x1',x2,x2',x3,x3'⟩:=limbsOf4 (Ob.s x).n (Nat.lt_trans (s_lt x) (by decide))
 obtain ⟨ey,y0,y0',y1,y1',y2,y2',y3,y3'⟩:=limbsOf4 (Ob.s y).n (Nat.lt_trans (s_lt y) (by decide))
 generalize limb (Ob.s x).n 0=a0 at *
 generalize limb (Ob.s x).n 1=a1 at *
 generalize limb (Ob.s x).n 2=a2 at *
 generalize limb (Ob.s x).n 3=a3 at *
 generalize limb (Ob.s y).n 0=b0 at *
 generalize limb (Ob.s y).n 1=b1 at *
 generalize limb (Ob.s y).n 2=b2 at *
 generalize limb (Ob.s y).n 3=b3 at *
 obtain ⟨e0,p0,p0',c0,c0'⟩:=add_step (c:=0) x0 x0' y0 y0' (by decide) (by decide)
 obtain ⟨e1,p1,p1',c1,c1'⟩:=add_step x1 x1' y1 y1' c0 c0'
 obtain ⟨e2,p2,p2',c2,c2'⟩:=add_step x2 x2' y2 y2' c1 c1'
 obtain ⟨e3,p3,p3',c3,c3'⟩:=add_step x3 x3' y3 y3' c2 c2'
 generalize hq0:exOut 0 a0 b0 0=q0 at *
 generalize hq1:exOut 0 a1 b1 q0.2=q1 at *
 generalize hq2:exOut 0 a2 b2 q1.2=q2 at *
 generalize hq3:exOut 0 a3 b3 q2.2=q3 at *
 clear hq0 hq1 hq2 hq3
 have hN:num4 q0.1 q1.1 q2.1 q3.1=((Ob.s x).n:Int)+((Ob.s y).n:Int):=by
  generalize (Ob.s x).n=X at *
  generalize (Ob.s y).n=Y at *
  unfold rN at hX hY
  unfold num4
  omega
 refine (fn_sound envF_ok Tryz.func49 r0 ?_).conv (fun _ _ h=>h) fun z v hd=>?_
 ·have hlt:num4 q0.1 q1.1 q2.1 q3.1<104871750350252380958895481016371931675381105001055275645207317399877162369026:=by
   unfold rN at hX hY
   omega
  simp only[AllP,and_true,Ob.k]
  clear hN hX hY ex ey hadd r0
  and_intros<;>first | assumption | decide | omega
 ·have hN' : (num4 q0.1 q1.1 q2.1 q3.1).toNat=(Ob.s x).n+(Ob.s y).n:=by omega
  rw[hN',hadd] at hd
  exact hd

theorem bit_one {b:Int} (h0:0≤b) (h1:b≤1) (h:¬b=0):b=1:=by omega

theorem sum4 {q0 q1 q2 q3 w0 w1 w2 w3 v0 v1 v2 v3:Int} (f0:q0+18446744069414584321+0=w0+18446744073709551616*v0) (f1:q1+6034159408538082302+v0=w1+18446744073709551616*v1)
  (f2:q2+3691218898639771653+v1=w2+18446744073709551616*v2) (f3:q3+8353516859464449352+v2=w3+18446744073709551616*v3) :
  num4 w0 w1 w2 w3+115792089237316195423570985008687907853269984665640564039457584007913129639936*v3=num4 q0 q1 q2 q3+rN:=by
 unfold num4 rN
 omega

theorem num4_lt {a b c d:Int} (ha:Lim a) (hb:Lim b) (hc:Lim c) (hd:Lim d):0≤num4 a b c d∧num4 a b c d<115792089237316195423570985008687907853269984665640564039457584007913129639936:=by
 obtain ⟨_,_⟩:=ha
 obtain ⟨_,_⟩:=hb
 obtain ⟨_,_⟩:=hc
 obtain ⟨_,_⟩:=hd
 unfold num4
 omega

theorem sub_fin {X Y Z:Nat} {N W v:Int} (hX:X<rN) (hY:Y<rN) (hcase:(Y≤X∧(Z:Int)=X-Y)∨(X<Y∧(Z:Int)=X+rN-Y))
  (hdiff:N-115792089237316195423570985008687907853269984665640564039457584007913129639936*1=(X:Int)-Y) (hN:0≤N∧N<115792089237316195423570985008687907853269984665640564039457584007913129639936)
  (hW:0≤W∧W<115792089237316195423570985008687907853269984665640564039457584007913129639936) (hv:0≤v∧v≤1)
  (hsum:W+115792089237316195423570985008687907853269984665640564039457584007913129639936*v=N+rN):(Z:Int)=W:=by
 obtain ⟨hN0,hN1⟩:=hN
 obtain ⟨hW0,hW1⟩:=hW
 obtain ⟨hv0,hv1⟩:=hv
 unfold rN at *
 have:v=0∨v=1:=by omega
 rcases hcase with ⟨h1,h2⟩ | ⟨h1,h2⟩
 ·exfalso;omega
 ·rcases this with rfl | rfl<;>omega

theorem sub_cases {X Y Z r:Nat} (_hX:X<r) (hY:Y<r) (hZ:Z<r) (h:(Z+Y) % r=X):(Y≤X∧(Z:Int)=X-Y)∨(X<Y∧(Z:Int)=X+r-Y):=by
 by_cases hl:Z+Y<r
 ·rw[Nat.mod_eq_of_lt hl] at h
  left;omega
 ·rw[Nat.mod_eq_sub_mod (by omega),Nat.mod_eq_of_lt (by omega)] at h
  right;omega

theorem minus_fnd (x y:Fr):FnD Tryz.prog 62 [.v (.a [.ob (.s x)]),.v (.a [.ob (.s y)])] (.v (.a [.ob (.s (x-y))])) []:=by
 have r0:=minusS0 x y
 have r1:=minusS1 x y
 have hX:=s_lt x
 have hY:=s_lt y
 have hZ:=s_lt (x-y)
 have hsub:=s_sub_n x y
 obtain ⟨ex,x0,x0',x1,x1',x2,x2',x3,x3'⟩:=limbsOf4 (Ob.s x).n (Nat.lt_trans (s_lt x) (by decide))
 obtain ⟨ey,y0,y0',y1,y1',y2,y2',y3,y3'⟩:=limbsOf4 (Ob.s y).n (Nat.lt_trans (s_lt y) (by decide))
 generalize limb (Ob.s x).n 0=a0 at *
 generalize limb (Ob.s x).n 1=a1 at *
 generalize limb (Ob.s x).n 2=a2 at *
 generalize limb (Ob.s x).n 3=a3 at *
 generalize limb (Ob.s y).n 0=b0 at *
 generalize limb (Ob.s y).n 1=b1 at *
 generalize limb (Ob.s y).n 2=b2 at *
 generalize limb (Ob.s y).n 3=b3 at *
 obtain ⟨e0,p0,p0',c0,c0'⟩:=sub_step (c:=0) x0 x0' y0 y0' (by decide) (by decide)
 obtain ⟨e1,p1,p1',c1,c1'⟩:=sub_step x1 x1' y1 y1' c0 c0'
 obtain ⟨e2,p2,p2',c2,c2'⟩:=sub_step x2 x2' y2 y2' c1 c1'
 obtain ⟨e3,p3,p3',c3,c3'⟩:=sub_step x3 x3' y3 y3' c2 c2'
 generalize hq0:exOut 1 a0 b0 0=q0 at *
 generalize hq1:exOut 1 a1 b1 q0.2=q1 at *
 generalize hq2:exOut 1 a2 b2 q1.2=q2 at *
 generalize hq3:exOut 1 a3 b3 q2.2=q3 at *
 clear hq0 hq1 hq2 hq3
 have hcase:=sub_cases hX hY hZ hsub
 have hdiff:num4 q0.1 q1.1 q2.1 q3.1-115792089237316195423570985008687907853269984665640564039457584007913129639936*q3.2=((Ob.s x).n:Int)-((Ob.s y).n:Int):=by
  rw[ex,ey]
  clear hsub hcase hX hY hZ ex ey
  unfold num4
  omega
 by_cases hz:q3.2=0
 ·refine (fn_sound envF_ok Tryz.func62 r0 ?_).conv (fun _ _ h=>h) fun z v hd=>ints_ob rfl (limbsAre4 p0 p0' p1 p1' p2 p2' p3 p3' ?_) hd
  ·simp only[AllP,and_true,Ob.k,beq_iff_eq]
   clear hsub hX hY hZ ex ey r0 r1 hcase hdiff
   and_intros<;>first | assumption | decide | omega
  ·rcases hcase with ⟨h1,h2⟩ | ⟨h1,h2⟩
   ·rw[h2,←hdiff,hz];unfold num4;omega
   ·rw[hz] at hdiff;exfalso;unfold num4 at hdiff;clear ex ey hsub h2 e0 e1 e2 e3;omega
 ·obtain ⟨f0,s0,s0',d0,d0'⟩:=add_step (y:=18446744069414584321) (c:=0) p0 p0' (by decide) (by decide) (by decide) (by decide)
  obtain ⟨f1,s1,s1',d1,d1'⟩:=add_step (y:=6034159408538082302) p1 p1' (by decide) (by decide) d0 d0'
  obtain ⟨f2,s2,s2',d2,d2'⟩:=add_step (y:=3691218898639771653) p2 p2' (by decide) (by decide) d1 d1'
  obtain ⟨f3,s3,s3',d3,d3'⟩:=add_step (y:=8353516859464449352) p3 p3' (by decide) (by decide) d2 d2'
  generalize hw0:exOut 0 q0.1 18446744069414584321 0=w0 at *
  generalize hw1:exOut 0 q1.1 6034159408538082302 w0.2=w1 at *
  generalize hw2:exOut 0 q2.1 3691218898639771653 w1.2=w2 at *
  generalize hw3:exOut 0 q3.1 8353516859464449352 w2.2=w3 at *
  clear hw0 hw1 hw2 hw3
  refine (fn_sound envF_ok Tryz.func62 r1 ?_).conv (fun _ _ h=>h) fun z v hd=>ints_ob rfl (limbsAre4 s0 s0' s1 s1' s2 s2' s3 s3' ?_) hd
  ·simp only[AllP,and_true,Ob.k,beq_eq_false_iff_ne]
   clear hsub hX hY hZ ex ey r0 r1 hcase hdiff
   and_intros<;>first | assumption | decide | omega
  ·have hz1:q3.2=1:=bit_one c3 c3' hz
   rw[hz1] at hdiff
   exact sub_fin hX hY hcase hdiff (num4_lt ⟨p0,p0'⟩ ⟨p1,p1'⟩ ⟨p2,p2'⟩ ⟨p3,p3'⟩) (num4_lt ⟨s0,s0'⟩ ⟨s1,s1'⟩ ⟨s2,s2'⟩ ⟨s3,s3'⟩) ⟨d3,d3'⟩ (sum4 f0 f1 f2 f3)

end S4

namespace S4

def inSpec:FnSpec
 | [.v (.a [.ob (.fr a)])]=>some ([],.v (.a [.ob (.s (inF a))]),[])
 | _=>none
def gA:Env:=envF.set (addT envF.fn 46 inSpec)
theorem gA_ok:EnvOk Tryz.prog gA:=env_add envF_ok 46 inSpec (enters_of Tryz.func46 rfl rfl) fun args o r es h _=>by
 unfold inSpec at h
 split at h
 ·cases h;exact inS_fnd _
 ·cases h
def outSpec:FnSpec
 | [.v (.a [.ob (.s x)])]=>some ([],.v (.a [.ob (.fr (outF x))]),[])
 | _=>none
def gB:Env:=gA.set (addT gA.fn 48 outSpec)
theorem gB_ok:EnvOk Tryz.prog gB:=env_add gA_ok 48 outSpec (enters_of Tryz.func48 rfl rfl) fun args o r es h _=>by
 unfold outSpec at h
 split at h
 ·cases h;exact outS_fnd _
 ·cases h
def timesSpec:FnSpec
 | [.v (.a [.ob (.s x)]),.v (.a [.ob (.s y)])]=>some ([],.v (.a [.ob (.s (x*y))]),[])
 | _=>none
def gC:Env:=gB.set (addT gB.fn 47 timesSpec)
theorem gC_ok:EnvOk Tryz.prog gC:=env_add gB_ok 47 timesSpec (enters_of Tryz.func47 rfl rfl) fun args o r es h _=>by
 unfold timesSpec at h
 split at h
 ·cases h;exact times_fnd _ _
 ·cases h
def plusSpec:FnSpec
 | [.v (.a [.ob (.s x)]),.v (.a [.ob (.s y)])]=>some ([],.v (.a [.ob (.s (x+y))]),[])
 | _=>none
def gD:Env:=gC.set (addT gC.fn 49 plusSpec)
theorem gD_ok:EnvOk Tryz.prog gD:=env_add gC_ok 49 plusSpec (enters_of Tryz.func49 rfl rfl) fun args o r es h _=>by
 unfold plusSpec at h
 split at h
 ·cases h;exact plus_fnd _ _
 ·cases h
def minusSpec:FnSpec
 | [.v (.a [.ob (.s x)]),.v (.a [.ob (.s y)])]=>some ([],.v (.a [.ob (.s (x-y))]),[])
 | _=>none
def gE:Env:=gD.set (addT gD.fn 62 minusSpec)
theorem gE_ok:EnvOk Tryz.prog gE:=env_add gD_ok 62 minusSpec (enters_of Tryz.func62 rfl rfl) fun args o r es h _=>by
 unfold minusSpec at h
 split at h
 ·cases h;exact minus_fnd _ _
 ·cases h
--@env gE gE_ok
theorem negS (x:Fr):fnRes gE Tryz.f53 3000 [.v (.a [.ob (.s x)])] [] [] []=(some ([],((.v (.a [(.ob (.s ((0:Fr)-x)))])),[]))):=by kernel_rfl
def negSpec:FnSpec
 | [.v (.a [.ob (.s x)])]=>some ([],.v (.a [.ob (.s (0-x))]),[])
 | _=>none
def gF:Env:=gE.set (addT gE.fn 53 negSpec)
theorem gF_ok:EnvOk Tryz.prog gF:=env_add gE_ok 53 negSpec (enters_of Tryz.func53 rfl rfl) fun args o r es h _=>by
 unfold negSpec at h
 split at h
 ·cases h;exact fn_sound gE_ok Tryz.func53 (negS _) trivial
 ·cases h
--@env gF gF_ok
theorem frC (a:U4):fnRes gF Tryz.f27 3000 [.v (.a [.ob (.fr a)])] [] [] []=(some ([],((.v (.a [(.ob (.fr (S4.outF (S4.inF a))))])),[]))):=by kernel_rfl
theorem frM (a b:U4):fnRes gF Tryz.f14 3000 [.v (.a [.ob (.fr a)]),.v (.a [.ob (.fr b)])] [] [] []=(some ([],((.v (.a [(.ob (.fr (S4.outF ((S4.inF a)*(S4.inF b)))))])),[]))):=by kernel_rfl
def cleanSpec:FnSpec
 | [.v (.a [.ob (.fr a)])]=>some ([],.v (.a [.ob (.fr (outF (inF a)))]),[])
 | _=>none
def gG:Env:=gF.set (addT gF.fn 27 cleanSpec)
theorem gG_ok:EnvOk Tryz.prog gG:=env_add gF_ok 27 cleanSpec (enters_of Tryz.func27 rfl rfl) fun args o r es h _=>by
 unfold cleanSpec at h
 split at h
 ·cases h;exact fn_sound gF_ok Tryz.func27 (frC _) trivial
 ·cases h
def gH:Env:=gG
theorem gH_ok:EnvOk Tryz.prog gH:=gG_ok
def mulSpec:FnSpec
 | [.v (.a [.ob (.fr a)]),.v (.a [.ob (.fr b)])]=>some ([],.v (.a [.ob (.fr (outF (inF a*inF b)))]),[])
 | _=>none
def gI:Env:=gH.set (addT gH.fn 14 mulSpec)
theorem gI_ok:EnvOk Tryz.prog gI:=env_add gH_ok 14 mulSpec (enters_of Tryz.func14 rfl rfl) fun args o r es h _=>by
 unfold mulSpec at h
 split at h
 ·cases h;exact fn_sound gF_ok Tryz.func14 (frM _ _) trivial
 ·cases h
def gJ:Env:=gI
theorem gJ_ok:EnvOk Tryz.prog gJ:=gI_ok
def gK:Env:=gJ
theorem gK_ok:EnvOk Tryz.prog gK:=gJ_ok
end S4

section

section
variable {F:Type} [Fld F] [DecidableEq F] {b:F}
theorem jmn_zero (hc:Cv b) {P:Pt F} {a:F×F×F} (hP:OnC b P) (h:Jc P a) (l:List Nat):decide ((jmn a l).2.2=0)=decide (nmul P (dgV l)=none):=by
 have hj:=jmn_ok hc hP h l
 cases hn:nmul P (dgV l) with
 | none=>
  rw[hn] at hj
  have hj:(jmn a l).2.2=0:=hj
  rw[decide_eq_true hj,decide_eq_true rfl]
 | some q=>
  rw[hn] at hj
  have hj:(jmn a l).2.2≠0:=hj.1
  rw[decide_eq_false hj]
  exact (decide_eq_false (p:=(some q:Pt F)=none) (fun e=>by cases e)).symm
end

def rL:Nat:=52435875175126190479447740508185965837690552500527637822603658699938581184513
theorem rN_rL:rN=rL:=rfl
theorem dgV_r {n:Nat} (h:n<B4):dgV (dgT n 64)=n:=by
 have h2:B4=16 ^ 64:=by decide +kernel
 exact dgV_all (Eq.refl 64) (by rw[←h2];exact h)
theorem dgV_lit:dgV (dgT 52435875175126190479447740508185965837690552500527637822603658699938581184513 64)=rN:=(dgV_r (n:=52435875175126190479447740508185965837690552500527637822603658699938581184513) (by decide +kernel)).trans rN_rL.symm
end

end
end Go.Proofs.YtefimjofjjdndaaGreat
