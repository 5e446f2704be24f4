/- Parts of a proof, one behind the other: WStim, PStim, WSrdc, PSrdc, WSprd, PSprd, PSprl, WSio, PSio, WSpls, PSpls, WSfr, WLa, PLa, PLm, WLb, PLb. No conditions. -/
import Derived.Test.YtdeohachoeopdaaKbK
/- S.Times, walked. No conditions. -/
namespace Go.Proofs.Ytdeohachoeopdaa.S4
section
variable {w0:World} {F0:Nat→Prop} {K:Kp} {ac:List Act} {Q:Exit→Act→World→Prop} {cX:Ctx} {aX:Act}

noncomputable def envC:Env:=envB.set (addT envB.fn 59 reducedSpec)
theorem envC_ok:EnvOk Try.prog envC:=
  env_add envB_ok 59 reducedSpec (enters_of Try.func59 rfl rfl) fun args o r es h ho=>by
    unfold reducedSpec at h
    split at h
    · cases h
      obtain ⟨h1,h2,h3,h4,h5,h6,h7,h8,h9,_⟩:=ho
      exact reduced_fnd _ _ _ _ h1 h2 h3 h4 h5 h6 h7 h8 h9
    · cases h

noncomputable def tc0 (x y:Fr):Cfg:=⟨[.code (bodyOf Try.f33)],.normal,initSt Try.f33.ntmps [.v (.a [.ob (.s x)]),.v (.a [.ob (.s y)])]⟩

--@env envC envC_ok
noncomputable def tIn_k:List KI:=(run envC false 3000 ((fun (x y:Fr)=>(tc0 x y:Cfg)) default default) []).cfg.k
theorem tIn_hk (x y:Fr):(run envC false 3000 ((tc0 x y:Cfg)) []).cfg.k=tIn_k:=by kernel_rfl
theorem tIn (x y:Fr) (ho:AllP []) (hs:Sim w0 F0 K ac (((tc0 x y:Cfg)).σ) cX aX) (hK:∀ac cY aY,Sim w0 F0 K ac (mkSt 208 [3,4,5,6,7,8,18,19] [.pt 32 0,.pt 48 0,.iu (0:Int),.iu (0:Int),.iu (0:Int),.iu (0:Int),(.v (.a [.ob (.s x)])),.ii (0:Int)] [32,48] [(some (.fl [.ob (.s y)])),(some (.fl [(.ob (.s (0:Fr)))]))] 160 [] []) cY aY→Wq Try.prog Q (tIn_k) ac Exit.normal aY cY.w):Wq Try.prog Q (((tc0 x y:Cfg)).k) ac ((tc0 x y:Cfg)).x aX cX.w:=
  run_at (o:=⟨_,_,_,_,_,_,_⟩) envC_ok (by kernel_rfl) (tIn_hk x y) ho hs hK
noncomputable def tS (x y:Fr) (i:Nat) (t0 t1 t2 t3:Int):St:=mkSt 208 [3,4,5,6,7,8,18,19] [.pt 32 0,.pt 48 0,.v (.c (.int .u64 t0)),.v (.c (.int .u64 t1)),.v (.c (.int .u64 t2)),.v (.c (.int .u64 t3)),(.v (.a [.ob (.s x)])),.v (.c (.int .i64 (i:Int)))] [32,48] [(some (.fl [.ob (.s y)])),(some (.fl [(.ob (.s (0:Fr)))]))] 160 [] []
theorem tX_end (x y:Fr) (i:Nat) (t0 t1 t2 t3:Int):runEnd envC Try.f33 false 3000 (⟨lpIn tIn_k,.normal,tS x y i t0 t1 t2 t3⟩) [false] [] []=(some ([((decide ((i:Int)<(4:Int)))=false),((0:Int)≤t0),(t0<(18446744073709551616:Int)),((0:Int)≤t1),(t1<(18446744073709551616:Int)),((0:Int)≤t2),(t2<(18446744073709551616:Int)),((0:Int)≤t3),(t3<(18446744073709551616:Int)),((S4.num4 t0 t1 t2 t3)<(104871750350252380958895481016371931675381105001055275645207317399877162369026:Int))],((.v (.a [(.ob (.s (redS ((S4.num4 t0 t1 t2 t3)).toNat)))])),[]))):=by kernel_rfl
noncomputable def tA_k:List KI:=(run envC false 77 ((fun (x y:Fr) (i:Nat) (t0 t1 t2 t3:Int)=>(⟨lpIn tIn_k,.normal,tS x y i t0 t1 t2 t3⟩:Cfg)) default default default default default default default) [true]).cfg.k
theorem tA_hk (x y:Fr) (i:Nat) (t0 t1 t2 t3:Int):(run envC false 77 ((⟨lpIn tIn_k,.normal,tS x y i t0 t1 t2 t3⟩:Cfg)) [true]).cfg.k=tA_k:=by kernel_rfl
theorem tA (x y:Fr) (i:Nat) (t0 t1 t2 t3:Int) {w0:World} {F0:Nat→Prop} {K:Kp} {ac:List Act} {Q:Exit→Act→World→Prop} {cX:Ctx} {aX:Act} (ho:AllP [((decide ((i:Int)<(4:Int)))=true),((0:Int)≤(i:Int)),((i:Int)<(4:Int)),((0:Int)≤(0:Int)),((0:Int)<(4:Int)),(0<(Ob.k (.s y))),((0:Int)≤(limb (Ob.n (.s x)) ((i:Int)).toNat)),((limb (Ob.n (.s x)) ((i:Int)).toNat)<(18446744073709551616:Int)),((0:Int)≤(limb (Ob.n (.s y)) 0)),((limb (Ob.n (.s y)) 0)<(18446744073709551616:Int)),((0:Int)≤(((limb (Ob.n (.s x)) ((i:Int)).toNat)*(limb (Ob.n (.s y)) 0)) % (18446744073709551616:Int))),((0:Int)≤t0),(t0<(18446744073709551616:Int)),((0:Int)≤(0:Int)),((0:Int)≤(1:Int)),((0:Int)≤(IntKind.wrap .u64 ((Prod.fst (exOut 0 (((limb (Ob.n (.s x)) ((i:Int)).toNat)*(limb (Ob.n (.s y)) 0)) % (18446744073709551616:Int)) t0 (0:Int)))*(18446744069414584319:Int)))),((IntKind.wrap .u64 ((Prod.fst (exOut 0 (((limb (Ob.n (.s x)) ((i:Int)).toNat)*(limb (Ob.n (.s y)) 0)) % (18446744073709551616:Int)) t0 (0:Int)))*(18446744069414584319:Int)))<(18446744073709551616:Int)),((0:Int)≤(18446744069414584321:Int)),((18446744069414584321:Int)<(18446744073709551616:Int)),((0:Int)≤(((IntKind.wrap .u64 ((Prod.fst (exOut 0 (((limb (Ob.n (.s x)) ((i:Int)).toNat)*(limb (Ob.n (.s y)) 0)) % (18446744073709551616:Int)) t0 (0:Int)))*(18446744069414584319:Int)))*(18446744069414584321:Int)) % (18446744073709551616:Int))),((0:Int)≤(Prod.fst (exOut 0 (((limb (Ob.n (.s x)) ((i:Int)).toNat)*(limb (Ob.n (.s y)) 0)) % (18446744073709551616:Int)) t0 (0:Int)))),((Prod.fst (exOut 0 (((limb (Ob.n (.s x)) ((i:Int)).toNat)*(limb (Ob.n (.s y)) 0)) % (18446744073709551616:Int)) t0 (0:Int)))<(18446744073709551616:Int)),((0:Int)≤(0:Int)),((0:Int)≤(1:Int))]) (hs:Sim w0 F0 K ac (tS x y i t0 t1 t2 t3) cX aX) (hK:∀ac cY aY,Sim w0 F0 K ac (mkSt 208 [3,4,6,7,8,10,14,15,17,18,19] [.pt 32 0,.pt 48 0,.iu t1,.iu t2,.iu t3,(.iu (limb (Ob.n (.s x)) ((i:Int)).toNat)),(.iu (IntKind.wrap .u64 ((((limb (Ob.n (.s x)) ((i:Int)).toNat)*(limb (Ob.n (.s y)) 0)) / (18446744073709551616:Int))+(Prod.snd (exOut 0 (((limb (Ob.n (.s x)) ((i:Int)).toNat)*(limb (Ob.n (.s y)) 0)) % (18446744073709551616:Int)) t0 (0:Int)))))),(.iu (IntKind.wrap .u64 ((Prod.fst (exOut 0 (((limb (Ob.n (.s x)) ((i:Int)).toNat)*(limb (Ob.n (.s y)) 0)) % (18446744073709551616:Int)) t0 (0:Int)))*(18446744069414584319:Int)))),(.iu (IntKind.wrap .u64 ((((IntKind.wrap .u64 ((Prod.fst (exOut 0 (((limb (Ob.n (.s x)) ((i:Int)).toNat)*(limb (Ob.n (.s y)) 0)) % (18446744073709551616:Int)) t0 (0:Int)))*(18446744069414584319:Int)))*(18446744069414584321:Int)) / (18446744073709551616:Int))+(Prod.snd (exOut 0 (((IntKind.wrap .u64 ((Prod.fst (exOut 0 (((limb (Ob.n (.s x)) ((i:Int)).toNat)*(limb (Ob.n (.s y)) 0)) % (18446744073709551616:Int)) t0 (0:Int)))*(18446744069414584319:Int)))*(18446744069414584321:Int)) % (18446744073709551616:Int)) (Prod.fst (exOut 0 (((limb (Ob.n (.s x)) ((i:Int)).toNat)*(limb (Ob.n (.s y)) 0)) % (18446744073709551616:Int)) t0 (0:Int))) (0:Int)))))),(.v (.a [.ob (.s x)])),(.ii (i:Int))] [32,48] [(some (.fl [.ob (.s y)])),(some (.fl [(.ob (.s (0:Fr)))]))] 880 [] []) cY aY→Wq Try.prog Q (tA_k) ac Exit.normal aY cY.w):Wq Try.prog Q (lpIn tIn_k) ac .normal aX cX.w:=
  run_at2 (o:=⟨_,_,_,_,_,_,_⟩) envC_ok (by kernel_rfl) (tA_hk x y i t0 t1 t2 t3) ho hs hK
noncomputable def tS1 (x y:Fr) (i:Nat) (t1 t2 t3 xi q up dn:Int):St:=mkSt 208 [3,4,6,7,8,10,14,15,17,18,19] [.pt 32 0,.pt 48 0,.iu t1,.iu t2,.iu t3,.v (.c (.int .u64 xi)),.v (.c (.int .u64 up)),.v (.c (.int .u64 q)),.v (.c (.int .u64 dn)),(.v (.a [.ob (.s x)])),(.ii (i:Int))] [32,48] [(some (.fl [.ob (.s y)])),(some (.fl [(.ob (.s (0:Fr)))]))] 880 [] []
noncomputable def tB_k:List KI:=(run envC false 94 ((fun (x y:Fr) (i:Nat) (t1 t2 t3 xi q up dn:Int)=>(⟨tA_k,.normal,tS1 x y i t1 t2 t3 xi q up dn⟩:Cfg)) default default default default default default default default default default) []).cfg.k
theorem tB_hk (x y:Fr) (i:Nat) (t1 t2 t3 xi q up dn:Int):(run envC false 94 ((⟨tA_k,.normal,tS1 x y i t1 t2 t3 xi q up dn⟩:Cfg)) []).cfg.k=tB_k:=by kernel_rfl
theorem tB (x y:Fr) (i:Nat) (t1 t2 t3 xi q up dn:Int) (ho:AllP [((0:Int)≤(1:Int)),((1:Int)<(4:Int)),(1<(Ob.k (.s y))),((0:Int)≤xi),(xi<(18446744073709551616:Int)),((0:Int)≤(limb (Ob.n (.s y)) 1)),((limb (Ob.n (.s y)) 1)<(18446744073709551616:Int)),((0:Int)≤((xi*(limb (Ob.n (.s y)) 1)) % (18446744073709551616:Int))),((0:Int)≤t1),(t1<(18446744073709551616:Int)),((0:Int)≤(0:Int)),((0:Int)≤(1:Int)),((0:Int)≤(Prod.fst (exOut 0 ((xi*(limb (Ob.n (.s y)) 1)) % (18446744073709551616:Int)) t1 (0:Int)))),((0:Int)≤up),(up<(18446744073709551616:Int)),((0:Int)≤(0:Int)),((0:Int)≤(1:Int)),((0:Int)≤q),(q<(18446744073709551616:Int)),((0:Int)≤(6034159408538082302:Int)),((6034159408538082302:Int)<(18446744073709551616:Int)),((0:Int)≤((q*(6034159408538082302:Int)) % (18446744073709551616:Int))),((0:Int)≤(Prod.fst (exOut 0 (Prod.fst (exOut 0 ((xi*(limb (Ob.n (.s y)) 1)) % (18446744073709551616:Int)) t1 (0:Int))) up (0:Int)))),((Prod.fst (exOut 0 (Prod.fst (exOut 0 ((xi*(limb (Ob.n (.s y)) 1)) % (18446744073709551616:Int)) t1 (0:Int))) up (0:Int)))<(18446744073709551616:Int)),((0:Int)≤(0:Int)),((0:Int)≤(1:Int)),((0:Int)≤(Prod.fst (exOut 0 ((q*(6034159408538082302:Int)) % (18446744073709551616:Int)) (Prod.fst (exOut 0 (Prod.fst (exOut 0 ((xi*(limb (Ob.n (.s y)) 1)) % (18446744073709551616:Int)) t1 (0:Int))) up (0:Int))) (0:Int)))),((0:Int)≤dn),(dn<(18446744073709551616:Int)),((0:Int)≤(0:Int)),((0:Int)≤(1:Int))]) (hs:Sim w0 F0 K ac (tS1 x y i t1 t2 t3 xi q up dn) cX aX) (hK:∀ac cY aY,Sim w0 F0 K ac (mkSt 208 [3,4,5,7,8,10,14,15,17,18,19] [.pt 32 0,.pt 48 0,(.iu (Prod.fst (exOut 0 (Prod.fst (exOut 0 ((q*(6034159408538082302:Int)) % (18446744073709551616:Int)) (Prod.fst (exOut 0 (Prod.fst (exOut 0 ((xi*(limb (Ob.n (.s y)) 1)) % (18446744073709551616:Int)) t1 (0:Int))) up (0:Int))) (0:Int))) dn (0:Int)))),.iu t2,.iu t3,.iu xi,(.iu (IntKind.wrap .u64 ((IntKind.wrap .u64 (((xi*(limb (Ob.n (.s y)) 1)) / (18446744073709551616:Int))+(Prod.snd (exOut 0 ((xi*(limb (Ob.n (.s y)) 1)) % (18446744073709551616:Int)) t1 (0:Int)))))+(Prod.snd (exOut 0 (Prod.fst (exOut 0 ((xi*(limb (Ob.n (.s y)) 1)) % (18446744073709551616:Int)) t1 (0:Int))) up (0:Int)))))),.iu q,(.iu (IntKind.wrap .u64 ((IntKind.wrap .u64 (((q*(6034159408538082302:Int)) / (18446744073709551616:Int))+(Prod.snd (exOut 0 ((q*(6034159408538082302:Int)) % (18446744073709551616:Int)) (Prod.fst (exOut 0 (Prod.fst (exOut 0 ((xi*(limb (Ob.n (.s y)) 1)) % (18446744073709551616:Int)) t1 (0:Int))) up (0:Int))) (0:Int)))))+(Prod.snd (exOut 0 (Prod.fst (exOut 0 ((q*(6034159408538082302:Int)) % (18446744073709551616:Int)) (Prod.fst (exOut 0 (Prod.fst (exOut 0 ((xi*(limb (Ob.n (.s y)) 1)) % (18446744073709551616:Int)) t1 (0:Int))) up (0:Int))) (0:Int))) dn (0:Int)))))),(.v (.a [.ob (.s x)])),(.ii (i:Int))] [32,48] [(some (.fl [.ob (.s y)])),(some (.fl [(.ob (.s (0:Fr)))]))] 1904 [] []) cY aY→Wq Try.prog Q (tB_k) ac Exit.normal aY cY.w):Wq Try.prog Q (tA_k) ac .normal aX cX.w:=
  run_at2 (o:=⟨_,_,_,_,_,_,_⟩) envC_ok (by kernel_rfl) (tB_hk x y i t1 t2 t3 xi q up dn) ho hs hK
noncomputable def tS2 (x y:Fr) (i:Nat) (n0 t2 t3 xi q up dn:Int):St:=mkSt 208 [3,4,5,7,8,10,14,15,17,18,19] [.pt 32 0,.pt 48 0,.v (.c (.int .u64 n0)),.iu t2,.iu t3,.iu xi,.v (.c (.int .u64 up)),.iu q,.v (.c (.int .u64 dn)),(.v (.a [.ob (.s x)])),(.ii (i:Int))] [32,48] [(some (.fl [.ob (.s y)])),(some (.fl [(.ob (.s (0:Fr)))]))] 1904 [] []
noncomputable def tC_k:List KI:=(run envC false 94 ((fun (x y:Fr) (i:Nat) (n0 t2 t3 xi q up dn:Int)=>(⟨tB_k,.normal,tS2 x y i n0 t2 t3 xi q up dn⟩:Cfg)) default default default default default default default default default default) []).cfg.k
theorem tC_hk (x y:Fr) (i:Nat) (n0 t2 t3 xi q up dn:Int):(run envC false 94 ((⟨tB_k,.normal,tS2 x y i n0 t2 t3 xi q up dn⟩:Cfg)) []).cfg.k=tC_k:=by kernel_rfl
theorem tC (x y:Fr) (i:Nat) (n0 t2 t3 xi q up dn:Int) (ho:AllP [((0:Int)≤(2:Int)),((2:Int)<(4:Int)),(2<(Ob.k (.s y))),((0:Int)≤xi),(xi<(18446744073709551616:Int)),((0:Int)≤(limb (Ob.n (.s y)) 2)),((limb (Ob.n (.s y)) 2)<(18446744073709551616:Int)),((0:Int)≤((xi*(limb (Ob.n (.s y)) 2)) % (18446744073709551616:Int))),((0:Int)≤t2),(t2<(18446744073709551616:Int)),((0:Int)≤(0:Int)),((0:Int)≤(1:Int)),((0:Int)≤(Prod.fst (exOut 0 ((xi*(limb (Ob.n (.s y)) 2)) % (18446744073709551616:Int)) t2 (0:Int)))),((0:Int)≤up),(up<(18446744073709551616:Int)),((0:Int)≤(0:Int)),((0:Int)≤(1:Int)),((0:Int)≤q),(q<(18446744073709551616:Int)),((0:Int)≤(3691218898639771653:Int)),((3691218898639771653:Int)<(18446744073709551616:Int)),((0:Int)≤((q*(3691218898639771653:Int)) % (18446744073709551616:Int))),((0:Int)≤(Prod.fst (exOut 0 (Prod.fst (exOut 0 ((xi*(limb (Ob.n (.s y)) 2)) % (18446744073709551616:Int)) t2 (0:Int))) up (0:Int)))),((Prod.fst (exOut 0 (Prod.fst (exOut 0 ((xi*(limb (Ob.n (.s y)) 2)) % (18446744073709551616:Int)) t2 (0:Int))) up (0:Int)))<(18446744073709551616:Int)),((0:Int)≤(0:Int)),((0:Int)≤(1:Int)),((0:Int)≤(Prod.fst (exOut 0 ((q*(3691218898639771653:Int)) % (18446744073709551616:Int)) (Prod.fst (exOut 0 (Prod.fst (exOut 0 ((xi*(limb (Ob.n (.s y)) 2)) % (18446744073709551616:Int)) t2 (0:Int))) up (0:Int))) (0:Int)))),((0:Int)≤dn),(dn<(18446744073709551616:Int)),((0:Int)≤(0:Int)),((0:Int)≤(1:Int))]) (hs:Sim w0 F0 K ac (tS2 x y i n0 t2 t3 xi q up dn) cX aX) (hK:∀ac cY aY,Sim w0 F0 K ac (mkSt 208 [3,4,5,6,8,10,14,15,17,18,19] [.pt 32 0,.pt 48 0,.iu n0,(.iu (Prod.fst (exOut 0 (Prod.fst (exOut 0 ((q*(3691218898639771653:Int)) % (18446744073709551616:Int)) (Prod.fst (exOut 0 (Prod.fst (exOut 0 ((xi*(limb (Ob.n (.s y)) 2)) % (18446744073709551616:Int)) t2 (0:Int))) up (0:Int))) (0:Int))) dn (0:Int)))),.iu t3,.iu xi,(.iu (IntKind.wrap .u64 ((IntKind.wrap .u64 (((xi*(limb (Ob.n (.s y)) 2)) / (18446744073709551616:Int))+(Prod.snd (exOut 0 ((xi*(limb (Ob.n (.s y)) 2)) % (18446744073709551616:Int)) t2 (0:Int)))))+(Prod.snd (exOut 0 (Prod.fst (exOut 0 ((xi*(limb (Ob.n (.s y)) 2)) % (18446744073709551616:Int)) t2 (0:Int))) up (0:Int)))))),.iu q,(.iu (IntKind.wrap .u64 ((IntKind.wrap .u64 (((q*(3691218898639771653:Int)) / (18446744073709551616:Int))+(Prod.snd (exOut 0 ((q*(3691218898639771653:Int)) % (18446744073709551616:Int)) (Prod.fst (exOut 0 (Prod.fst (exOut 0 ((xi*(limb (Ob.n (.s y)) 2)) % (18446744073709551616:Int)) t2 (0:Int))) up (0:Int))) (0:Int)))))+(Prod.snd (exOut 0 (Prod.fst (exOut 0 ((q*(3691218898639771653:Int)) % (18446744073709551616:Int)) (Prod.fst (exOut 0 (Prod.fst (exOut 0 ((xi*(limb (Ob.n (.s y)) 2)) % (18446744073709551616:Int)) t2 (0:Int))) up (0:Int))) (0:Int))) dn (0:Int)))))),(.v (.a [.ob (.s x)])),(.ii (i:Int))] [32,48] [(some (.fl [.ob (.s y)])),(some (.fl [(.ob (.s (0:Fr)))]))] 2928 [] []) cY aY→Wq Try.prog Q (tC_k) ac Exit.normal aY cY.w):Wq Try.prog Q (tB_k) ac .normal aX cX.w:=
  run_at2 (o:=⟨_,_,_,_,_,_,_⟩) envC_ok (by kernel_rfl) (tC_hk x y i n0 t2 t3 xi q up dn) ho hs hK
noncomputable def tS3 (x y:Fr) (i:Nat) (n0 n1 t3 xi q up dn:Int):St:=mkSt 208 [3,4,5,6,8,10,14,15,17,18,19] [.pt 32 0,.pt 48 0,.iu n0,.v (.c (.int .u64 n1)),.iu t3,.iu xi,.v (.c (.int .u64 up)),.iu q,.v (.c (.int .u64 dn)),(.v (.a [.ob (.s x)])),(.ii (i:Int))] [32,48] [(some (.fl [.ob (.s y)])),(some (.fl [(.ob (.s (0:Fr)))]))] 2928 [] []
theorem tD_hk (x y:Fr) (i:Nat) (n0 n1 t3 xi q up dn:Int):(run envC false 3000 ((⟨tC_k,.normal,tS3 x y i n0 n1 t3 xi q up dn⟩:Cfg)) []).cfg.k=lpBk tIn_k:=by kernel_rfl
theorem tD (x y:Fr) (i:Nat) (n0 n1 t3 xi q up dn:Int) (ho:AllP [((0:Int)≤(3:Int)),((3:Int)<(4:Int)),(3<(Ob.k (.s y))),((0:Int)≤xi),(xi<(18446744073709551616:Int)),((0:Int)≤(limb (Ob.n (.s y)) 3)),((limb (Ob.n (.s y)) 3)<(18446744073709551616:Int)),((0:Int)≤((xi*(limb (Ob.n (.s y)) 3)) % (18446744073709551616:Int))),((0:Int)≤t3),(t3<(18446744073709551616:Int)),((0:Int)≤(0:Int)),((0:Int)≤(1:Int)),((0:Int)≤(Prod.fst (exOut 0 ((xi*(limb (Ob.n (.s y)) 3)) % (18446744073709551616:Int)) t3 (0:Int)))),((0:Int)≤up),(up<(18446744073709551616:Int)),((0:Int)≤(0:Int)),((0:Int)≤(1:Int)),((0:Int)≤q),(q<(18446744073709551616:Int)),((0:Int)≤(8353516859464449352:Int)),((8353516859464449352:Int)<(18446744073709551616:Int)),((0:Int)≤((q*(8353516859464449352:Int)) % (18446744073709551616:Int))),((0:Int)≤(Prod.fst (exOut 0 (Prod.fst (exOut 0 ((xi*(limb (Ob.n (.s y)) 3)) % (18446744073709551616:Int)) t3 (0:Int))) up (0:Int)))),((Prod.fst (exOut 0 (Prod.fst (exOut 0 ((xi*(limb (Ob.n (.s y)) 3)) % (18446744073709551616:Int)) t3 (0:Int))) up (0:Int)))<(18446744073709551616:Int)),((0:Int)≤(0:Int)),((0:Int)≤(1:Int)),((0:Int)≤(Prod.fst (exOut 0 ((q*(8353516859464449352:Int)) % (18446744073709551616:Int)) (Prod.fst (exOut 0 (Prod.fst (exOut 0 ((xi*(limb (Ob.n (.s y)) 3)) % (18446744073709551616:Int)) t3 (0:Int))) up (0:Int))) (0:Int)))),((0:Int)≤dn),(dn<(18446744073709551616:Int)),((0:Int)≤(0:Int)),((0:Int)≤(1:Int))]) (hs:Sim w0 F0 K ac (tS3 x y i n0 n1 t3 xi q up dn) cX aX) (hK:∀ac cY aY,Sim w0 F0 K ac (mkSt 208 [3,4,5,6,7,8,18,19] [.pt 32 0,.pt 48 0,.iu n0,.iu n1,(.iu (Prod.fst (exOut 0 (Prod.fst (exOut 0 ((q*(8353516859464449352:Int)) % (18446744073709551616:Int)) (Prod.fst (exOut 0 (Prod.fst (exOut 0 ((xi*(limb (Ob.n (.s y)) 3)) % (18446744073709551616:Int)) t3 (0:Int))) up (0:Int))) (0:Int))) dn (0:Int)))),(.iu (IntKind.wrap .u64 ((IntKind.wrap .u64 ((IntKind.wrap .u64 (((q*(8353516859464449352:Int)) / (18446744073709551616:Int))+(Prod.snd (exOut 0 ((q*(8353516859464449352:Int)) % (18446744073709551616:Int)) (Prod.fst (exOut 0 (Prod.fst (exOut 0 ((xi*(limb (Ob.n (.s y)) 3)) % (18446744073709551616:Int)) t3 (0:Int))) up (0:Int))) (0:Int)))))+(Prod.snd (exOut 0 (Prod.fst (exOut 0 ((q*(8353516859464449352:Int)) % (18446744073709551616:Int)) (Prod.fst (exOut 0 (Prod.fst (exOut 0 ((xi*(limb (Ob.n (.s y)) 3)) % (18446744073709551616:Int)) t3 (0:Int))) up (0:Int))) (0:Int))) dn (0:Int)))))+(IntKind.wrap .u64 ((IntKind.wrap .u64 (((xi*(limb (Ob.n (.s y)) 3)) / (18446744073709551616:Int))+(Prod.snd (exOut 0 ((xi*(limb (Ob.n (.s y)) 3)) % (18446744073709551616:Int)) t3 (0:Int)))))+(Prod.snd (exOut 0 (Prod.fst (exOut 0 ((xi*(limb (Ob.n (.s y)) 3)) % (18446744073709551616:Int)) t3 (0:Int))) up (0:Int)))))))),(.v (.a [.ob (.s x)])),(.ii (IntKind.wrap .i64 ((i:Int)+(1:Int))))] [32,48] [(some (.fl [.ob (.s y)])),(some (.fl [(.ob (.s (0:Fr)))]))] 4048 [] []) cY aY→Wq Try.prog Q (lpBk tIn_k) ac Exit.normal aY cY.w):Wq Try.prog Q (tC_k) ac .normal aX cX.w:=
  run_at2 (o:=⟨_,_,_,_,_,_,_⟩) envC_ok (by kernel_rfl) (tD_hk x y i n0 n1 t3 xi q up dn) ho hs hK
end
end Go.Proofs.Ytdeohachoeopdaa.S4

/- S.Times multiplies. No conditions. -/
namespace Go.Proofs.Ytdeohachoeopdaa.S4

/-- Ahead of the i-th round. -/
structure TInv (x y:Fr) (i:Nat) (t0 t1 t2 t3:Int):Prop where
  i4:i≤4
  h0:0≤t0∧t0<18446744073709551616
  h1:0≤t1∧t1<18446744073709551616
  h2:0≤t2∧t2<18446744073709551616
  h3:0≤t3∧t3<18446744073709551616
  lt:num4 t0 t1 t2 t3<2*rN
  eq:∃Q:Nat,num4 t0 t1 t2 t3*((2 ^ (64*i):Nat):Int)=(((Ob.s x).n % 2 ^ (64*i):Nat):Int)*((Ob.s y).n:Int)+(Q:Int)*(rN:Int)

theorem s_lt (x:Fr):(Ob.s x).n<rN:=Nat.mod_lt _ (by decide)

theorem round_eq {x y:Fr} {i Q:Nat} {T T' q:Int} (hq:0≤q) (h:T*((2 ^ (64*i):Nat):Int)=(((Ob.s x).n % 2 ^ (64*i):Nat):Int)*((Ob.s y).n:Int)+(Q:Int)*(rN:Int))
    (h' : 18446744073709551616*T' = T+limb (Ob.s x).n i*((Ob.s y).n:Int)+q*(rN:Int)) :
    ∃Q:Nat,T' * ((2 ^ (64*(i+1)):Nat):Int)=(((Ob.s x).n % 2 ^ (64*(i+1)):Nat):Int)*((Ob.s y).n:Int)+(Q:Int)*(rN:Int):=by
  obtain ⟨q,rfl⟩:=Int.eq_ofNat_of_zero_le hq
  refine ⟨Q+q*2 ^ (64*i),?_⟩
  rw[mod_next]
  have hp:(2:Nat) ^ (64*(i+1))=2 ^ (64*i)*18446744073709551616:=by rw[Nat.mul_add,Nat.pow_add]
  rw[hp]
  have hl:limb (Ob.s x).n i=(((Ob.s x).n / 2 ^ (64*i) % 18446744073709551616:Nat):Int):=rfl
  rw[hl] at h'
  generalize (Ob.s x).n / 2 ^ (64*i) % 18446744073709551616=xi at *
  generalize (Ob.s x).n % 2 ^ (64*i)=X at *
  generalize (Ob.s y).n=Y at *
  generalize 2 ^ (64*i)=m at *
  generalize rN=r at *
  have e1:T' * ((m*18446744073709551616:Nat):Int)=(18446744073709551616*T')*(m:Int):=by
    rw[Int.natCast_mul,Int.mul_comm (m:Int),←Int.mul_assoc,Int.mul_comm T'];rfl
  rw[e1,h',Int.add_mul,Int.add_mul,h]
  push_cast
  simp only[Int.add_mul,Int.mul_assoc]
  have e2:(xi:Int)*((Y:Int)*(m:Int))=(m:Int)*((xi:Int)*(Y:Int)):=by rw[←Int.mul_assoc,Int.mul_comm]
  have e3:(q:Int)*((r:Int)*(m:Int))=(q:Int)*((m:Int)*(r:Int)):=by rw[Int.mul_comm (r:Int)]
  rw[e2,e3]
  omega

theorem num4_mul (z a b c d:Int):z*num4 a b c d=z*a+18446744073709551616*(z*b)+340282366920938463463374607431768211456*(z*c)+6277101735386680763835789423207666416102355444464034512896*(z*d):=by
  unfold num4
  simp only[Int.mul_add,Int.mul_left_comm z]

def Lim (a:Int):Prop:=0≤a∧a<18446744073709551616

theorem wrap_lim (n:Int):Lim (IntKind.wrap IntKind.u64 n):=by
  unfold Lim
  rw[wrapU]
  omega

section
variable {w0:World} {F0:Nat→Prop} {K:Kp} {ac:List Act} {Q:Exit→Act→World→Prop} {cX:Ctx} {aX:Act}

theorem segA (x y:Fr) (i:Nat) {t0 t1 t2 t3:Int} (hi:i<4) (h0:Lim t0) (hx:Lim (limb (Ob.s x).n i)) (hy:Lim (limb (Ob.s y).n 0)) (hs:Sim w0 F0 K ac (tS x y i t0 t1 t2 t3) cX aX)
    (k:∀lo up q dn:Int,limb (Ob.s x).n i*limb (Ob.s y).n 0+t0=lo+18446744073709551616*up→q*18446744069414584321+lo=18446744073709551616*dn→Lim lo→Lim up→Lim q→Lim dn →
      ∀ac cY aY,Sim w0 F0 K ac (tS1 x y i t1 t2 t3 (limb (Ob.s x).n i) q up dn) cY aY→Wq Try.prog Q tA_k ac .normal aY cY.w):Wq Try.prog Q (lpIn tIn_k) ac .normal aX cX.w:=by
  obtain ⟨a0,b0⟩:=h0
  obtain ⟨x0,x1⟩:=hx
  obtain ⟨y0,y1⟩:=hy
  have e1:=mac1 x0 x1 y0 y1 a0 b0
  have sA:=@tA x y i t0 t1 t2 t3 w0 F0 K ac Q cX aX
  rw[Int.toNat_natCast] at sA
  generalize limb (Ob.s x).n i=xi at *
  obtain ⟨e1,l1,u1⟩:=e1
  have hq:=wrap_lim ((exOut 0 ((xi*limb (Ob.s y).n 0) % 18446744073709551616) t0 0).1*18446744069414584319)
  have e2:=mac1 (b:=18446744069414584321) hq.1 hq.2 (by decide) (by decide) l1.1 l1.2
  have e3:=negR_low (l:=(exOut 0 ((xi*limb (Ob.s y).n 0) % 18446744073709551616) t0 0).1) rfl
  refine sA ?_ hs fun ac cY aY h=>?_
  · refine ⟨by simp only[decide_eq_true_eq];omega,by omega,by omega,by decide,by decide,by show (0:Nat)<4;decide,x0,x1,y0,y1,by omega,a0,b0,by decide,by decide,hq.1,hq.2,by decide,by decide,by omega,l1.1,l1.2,by decide,by decide,trivial⟩
  · refine k _ _ _ _ e1 ?_ l1 u1 hq e2.2.2 ac cY aY h
    have:=e2.1
    have:=e2.2.1
    omega

theorem segB (x y:Fr) (i:Nat) {t1 t2 t3 xi q up dn:Int} (ht:Lim t1) (hx:Lim xi) (hq:Lim q) (hu:Lim up) (hd:Lim dn) (hy:Lim (limb (Ob.s y).n 1)) (hs:Sim w0 F0 K ac (tS1 x y i t1 t2 t3 xi q up dn) cX aX)
    (k:∀lo up' n dn' : Int,xi*limb (Ob.s y).n 1+t1+up=lo+18446744073709551616*up' → q*6034159408538082302+lo+dn=n+18446744073709551616*dn' → Lim lo→Lim up' → Lim n→Lim dn' →
      ∀ac cY aY,Sim w0 F0 K ac (tS2 x y i n t2 t3 xi q up' dn') cY aY→Wq Try.prog Q (tB_k) ac .normal aY cY.w):Wq Try.prog Q tA_k ac .normal aX cX.w:=by
  obtain ⟨e1,l1,u1,m1⟩:=mac hx.1 hx.2 hy.1 hy.2 ht.1 ht.2 hu.1 hu.2
  obtain ⟨e2,l2,u2,m2⟩:=mac (b:=6034159408538082302) hq.1 hq.2 (by decide) (by decide) l1.1 l1.2 hd.1 hd.2
  refine tB x y i t1 t2 t3 xi q up dn ?_ hs fun ac cY aY h=>?_
  · refine ⟨by decide,by decide,by show 1<4;decide,hx.1,hx.2,hy.1,hy.2,by omega,ht.1,ht.2,by decide,by decide,m1.1,hu.1,hu.2,by decide,by decide,hq.1,hq.2,by decide,by decide,by omega,l1.1,l1.2,by decide,by decide,m2.1,hd.1,hd.2,by decide,by decide,trivial⟩
  · exact k _ _ _ _ e1 e2 l1 u1 l2 u2 ac cY aY h

theorem segC (x y:Fr) (i:Nat) {n0 t2 t3 xi q up dn:Int} (ht:Lim t2) (hx:Lim xi) (hq:Lim q) (hu:Lim up) (hd:Lim dn) (hy:Lim (limb (Ob.s y).n 2)) (hs:Sim w0 F0 K ac (tS2 x y i n0 t2 t3 xi q up dn) cX aX)
    (k:∀lo up' n dn' : Int,xi*limb (Ob.s y).n 2+t2+up=lo+18446744073709551616*up' → q*3691218898639771653+lo+dn=n+18446744073709551616*dn' → Lim lo→Lim up' → Lim n→Lim dn' →
      ∀ac cY aY,Sim w0 F0 K ac (tS3 x y i n0 n t3 xi q up' dn') cY aY→Wq Try.prog Q (tC_k) ac .normal aY cY.w):Wq Try.prog Q tB_k ac .normal aX cX.w:=by
  obtain ⟨e1,l1,u1,m1⟩:=mac hx.1 hx.2 hy.1 hy.2 ht.1 ht.2 hu.1 hu.2
  obtain ⟨e2,l2,u2,m2⟩:=mac (b:=3691218898639771653) hq.1 hq.2 (by decide) (by decide) l1.1 l1.2 hd.1 hd.2
  refine tC x y i n0 t2 t3 xi q up dn ?_ hs fun ac cY aY h=>?_
  · refine ⟨by decide,by decide,by show 2<4;decide,hx.1,hx.2,hy.1,hy.2,by omega,ht.1,ht.2,by decide,by decide,m1.1,hu.1,hu.2,by decide,by decide,hq.1,hq.2,by decide,by decide,by omega,l1.1,l1.2,by decide,by decide,m2.1,hd.1,hd.2,by decide,by decide,trivial⟩
  · exact k _ _ _ _ e1 e2 l1 u1 l2 u2 ac cY aY h

theorem segD (x y:Fr) (i:Nat) (hi:i<4) {n0 n1 t3 xi q up dn:Int} (ht:Lim t3) (hx:Lim xi) (hq:Lim q) (hu:Lim up) (hd:Lim dn) (hy:Lim (limb (Ob.s y).n 3)) (hs:Sim w0 F0 K ac (tS3 x y i n0 n1 t3 xi q up dn) cX aX)
    (k:∀lo up' n dn' : Int,xi*limb (Ob.s y).n 3+t3+up=lo+18446744073709551616*up' → q*8353516859464449352+lo+dn=n+18446744073709551616*dn' → Lim lo→Lim up' → Lim n→Lim dn' →
      ∀ac cY aY,Sim w0 F0 K ac (tS x y (i+1) n0 n1 n (IntKind.wrap IntKind.u64 (dn' + up'))) cY aY→Wq Try.prog Q (lpBk tIn_k) ac .normal aY cY.w):Wq Try.prog Q tC_k ac .normal aX cX.w:=by
  obtain ⟨e1,l1,u1,m1⟩:=mac hx.1 hx.2 hy.1 hy.2 ht.1 ht.2 hu.1 hu.2
  obtain ⟨e2,l2,u2,m2⟩:=mac (b:=8353516859464449352) hq.1 hq.2 (by decide) (by decide) l1.1 l1.2 hd.1 hd.2
  refine tD x y i n0 n1 t3 xi q up dn ?_ hs fun ac cY aY h=>?_
  · refine ⟨by decide,by decide,by show 3<4;decide,hx.1,hx.2,hy.1,hy.2,by omega,ht.1,ht.2,by decide,by decide,m1.1,hu.1,hu.2,by decide,by decide,hq.1,hq.2,by decide,by decide,by omega,l1.1,l1.2,by decide,by decide,m2.1,hd.1,hd.2,by decide,by decide,trivial⟩
  · exact k _ _ _ _ e1 e2 l1 u1 l2 u2 ac cY aY ((by rw[wrap_id (by omega) (by omega)] at h;exact h.nx _))

end

theorem last_eq {T:Int} (hT:0≤T) {b X Y Q r:Nat} (h:T*(b:Int)=(X:Int)*(Y:Int)+(Q:Int)*(r:Int)):T.toNat*b=X*Y+Q*r:=by
  rw[←Int.toNat_of_nonneg hT] at h
  exact_mod_cast h

theorem times_fnd (x y:Fr):FnD Try.prog 33 [.v (.a [.ob (.s x)]),.v (.a [.ob (.s y)])] (.v (.a [.ob (.s (x*y))])) []:=by
  refine fn_start (fn:=Try.f33) (c:=bodyOf Try.f33) Try.func33 rfl rfl fun cx ca hk hF hs=>?_
  refine tIn x y trivial hs fun ac cY aY hs1=>?_
  refine loop_rule (ι:={ p:Nat×Int×Int×Int×Int // TInv x y p.1 p.2.1 p.2.2.1 p.2.2.2.1 p.2.2.2.2 }) (fun p=>tS x y p.1.1 p.1.2.1 p.1.2.2.1 p.1.2.2.2.1 p.1.2.2.2.2) (fun p=>4-p.1.1) (c:=lpC tIn_k) (k:=lpR tIn_k) (by kernel_rfl) (fun p ih ac cY aY hs=>?_)
    ⟨(0,0,0,0,0),⟨by decide,by decide,by decide,by decide,by decide,by decide,0,by simp [num4,Nat.mod_one]⟩⟩ hs1
  obtain ⟨⟨i,t0,t1,t2,t3⟩,hI⟩:=p
  simp only at ih hs hI
  obtain ⟨hi,⟨a0,b0⟩,⟨a1,b1⟩,⟨a2,b2⟩,⟨a3,b3⟩,hlt,Q,hQ⟩:=hI
  obtain ⟨ey,y0,y0',y1,y1',y2,y2',y3,y3'⟩:=limbsOf4 (Ob.s y).n (Nat.lt_trans (s_lt y) (by decide))
  have hyr:((Ob.s y).n:Int)<(rN:Int):=by exact_mod_cast s_lt y
  by_cases h5:i<4
  · have hx0:0≤limb (Ob.s x).n i:=Int.natCast_nonneg _
    have hx1:limb (Ob.s x).n i<18446744073709551616:=by
      show (((Ob.s x).n / 2 ^ (64*i) % 18446744073709551616:Nat):Int)<18446744073709551616
      omega
    have hround:=fun T' q hq=>round_eq (x:=x) (y:=y) (i:=i) (Q:=Q) (T:=num4 t0 t1 t2 t3) (T' := T') (q:=q) hq hQ
    have hyn:((Ob.s y).n:Int)=num4 (limb (Ob.s y).n 0) (limb (Ob.s y).n 1) (limb (Ob.s y).n 2) (limb (Ob.s y).n 3):=ey
    have hzz:limb (Ob.s x).n i*((Ob.s y).n:Int)≤18446744073709551615*((Ob.s y).n:Int):=Int.mul_le_mul_of_nonneg_right (by omega) (by omega)
    have hz0:0≤limb (Ob.s x).n i*((Ob.s y).n:Int):=Int.mul_nonneg hx0 (by omega)
    have hmul:=num4_mul (limb (Ob.s x).n i) (limb (Ob.s y).n 0) (limb (Ob.s y).n 1) (limb (Ob.s y).n 2) (limb (Ob.s y).n 3)
    rw[←hyn] at hmul
    refine segA x y i h5 ⟨a0,b0⟩ ⟨hx0,hx1⟩ ⟨y0,y0'⟩ hs fun lo0 up0 q dn0 eA eQ hlo0 hup0 hq hdn0 ac cY aY hs=>?_
    refine segB x y i ⟨a1,b1⟩ ⟨hx0,hx1⟩ hq hup0 hdn0 ⟨y1,y1'⟩ hs fun lo1 up1 n0 dn1 eB eB' hlo1 hup1 hn0 hdn1 ac cY aY hs=>?_
    refine segC x y i ⟨a2,b2⟩ ⟨hx0,hx1⟩ hq hup1 hdn1 ⟨y2,y2'⟩ hs fun lo2 up2 n1 dn2 eC eC' hlo2 hup2 hn1 hdn2 ac cY aY hs=>?_
    refine segD x y i h5 ⟨a3,b3⟩ ⟨hx0,hx1⟩ hq hup2 hdn2 ⟨y3,y3'⟩ hs fun lo3 up3 n2 dn3 eD eD' hlo3 hup3 hn2 hdn3 ac cY aY hs=>?_
    have hall:18446744073709551616*num4 n0 n1 n2 (dn3+up3)=num4 t0 t1 t2 t3+limb (Ob.s x).n i*((Ob.s y).n:Int)+q*(rN:Int):=by
      rw[hmul]
      clear hround hmul hzz hz0 hQ ih hyr hyn ey
      unfold num4 rN
      omega
    have hlt' : num4 n0 n1 n2 (dn3+up3)<2*rN:=by
      obtain ⟨q0,q1⟩:=hq
      have:q*(rN:Int)≤18446744073709551615*(rN:Int):=Int.mul_le_mul_of_nonneg_right (by omega) (by omega)
      clear hround hmul hQ ih hyn ey
      generalize limb (Ob.s x).n i*((Ob.s y).n:Int)=z at *
      generalize q*(rN:Int)=z' at *
      omega
    have htop:IntKind.wrap IntKind.u64 (dn3+up3)=dn3+up3:=by
      obtain ⟨_,_⟩:=hdn3
      obtain ⟨_,_⟩:=hup3
      obtain ⟨_,_⟩:=hn0
      obtain ⟨_,_⟩:=hn1
      obtain ⟨_,_⟩:=hn2
      refine wrap_u (by omega) ?_
      unfold num4 rN at hlt'
      omega
    rw[htop] at hs
    refine ih ⟨(i+1,n0,n1,n2,dn3+up3),⟨h5,hn0,hn1,hn2,?_,hlt',hround _ q hq.1 hall⟩⟩ (by show 4-(i+1)<4-i;omega) ac cY aY hs
    rw[←htop]
    exact wrap_lim _
  · have hi4:i=4:=by omega
    subst hi4
    refine run_end envC_ok hk hF (tX_end x y 4 t0 t1 t2 t3) ?_ (fun z w hd=>?_) hs
    · refine ⟨by decide,a0,b0,a1,b1,a2,b2,a3,b3,hlt,trivial⟩
    · have hT:0≤num4 t0 t1 t2 t3:=by unfold num4;omega
      have:redS (num4 t0 t1 t2 t3).toNat=x*y:=by
        refine mont_out (Q:=Q) ?_
        have hX:(Ob.s x).n % 2 ^ (64*4)=(Ob.s x).n:=Nat.mod_eq_of_lt (Nat.lt_trans (s_lt x) (by decide))
        rw[hX] at hQ
        have h4:(2 ^ (64*4):Nat)=B4:=pow4'
        rw[h4] at hQ
        exact last_eq hT hQ
      rw[←this]
      exact hd

end Go.Proofs.Ytdeohachoeopdaa.S4

/- mont.Reduce, for four limbs, walked. No conditions. -/
namespace Go.Proofs.Ytdeohachoeopdaa.S4

def u4s (a b c d:Int):SV:=.v (.c (.sl (.u64 [a,b,c,d])))
def fl4 (a b c d:Int):En:=.fl [.int .u64 a,.int .u64 b,.int .u64 c,.int .u64 d]

noncomputable def qd0 (o0 o1 o2 o3 a b c d more m0 m1 m2 m3:Int):Cfg:=⟨[.code (bodyOf Try.f74)],.normal,muSt Try.f74.ntmps 0 4 1 (fl4 o0 o1 o2 o3) [u4s a b c d,.v (.c (.int .u64 more)),u4s m0 m1 m2 m3]⟩

--@env envC envC_ok
--@unroll true
theorem rdX (o0 o1 o2 o3 a b c d more m0 m1 m2 m3:Int):muEnd envC Try.f74 true 3000 (qd0 o0 o1 o2 o3 a b c d more m0 m1 m2 m3) [true,true,true,true,false,true]=(some ([((decide ((0:Int)<((4:Nat):Int)))=true),((0:Int)≤(0:Int)),((0:Int)<((4:Nat):Int)),((0:Int)≤(0:Int)),((0:Int)<((4:Nat):Int)),((0:Int)≤a),((0:Int)≤m0),(m0<(18446744073709551616:Int)),((0:Int)≤(0:Int)),((0:Int)≤(1:Int)),((0:Int)≤(0:Int)),((0:Int)<(8:Int)),((decide ((1:Int)<((4:Nat):Int)))=true),((0:Int)≤(1:Int)),((1:Int)<((4:Nat):Int)),((0:Int)≤(1:Int)),((1:Int)<((4:Nat):Int)),((0:Int)≤b),((0:Int)≤m1),(m1<(18446744073709551616:Int)),((0:Int)≤(Prod.snd (exOut 1 a m0 (0:Int)))),((Prod.snd (exOut 1 a m0 (0:Int)))≤(1:Int)),((0:Int)≤(1:Int)),((1:Int)<(8:Int)),((decide ((2:Int)<((4:Nat):Int)))=true),((0:Int)≤(2:Int)),((2:Int)<((4:Nat):Int)),((0:Int)≤(2:Int)),((2:Int)<((4:Nat):Int)),((0:Int)≤c),((0:Int)≤m2),(m2<(18446744073709551616:Int)),((0:Int)≤(Prod.snd (exOut 1 b m1 (Prod.snd (exOut 1 a m0 (0:Int)))))),((Prod.snd (exOut 1 b m1 (Prod.snd (exOut 1 a m0 (0:Int)))))≤(1:Int)),((0:Int)≤(2:Int)),((2:Int)<(8:Int)),((decide ((3:Int)<((4:Nat):Int)))=true),((0:Int)≤(3:Int)),((3:Int)<((4:Nat):Int)),((0:Int)≤(3:Int)),((3:Int)<((4:Nat):Int)),((0:Int)≤d),((0:Int)≤m3),(m3<(18446744073709551616:Int)),((0:Int)≤(Prod.snd (exOut 1 c m2 (Prod.snd (exOut 1 b m1 (Prod.snd (exOut 1 a m0 (0:Int)))))))),((Prod.snd (exOut 1 c m2 (Prod.snd (exOut 1 b m1 (Prod.snd (exOut 1 a m0 (0:Int)))))))≤(1:Int)),((0:Int)≤(3:Int)),((3:Int)<(8:Int)),((decide ((4:Int)<((4:Nat):Int)))=false),((decide (more ≥ (Prod.snd (exOut 1 d m3 (Prod.snd (exOut 1 c m2 (Prod.snd (exOut 1 b m1 (Prod.snd (exOut 1 a m0 (0:Int)))))))))))=true),((0:Int)≤((4:Nat):Int)),(((4:Nat):Int)≤(8:Int))],(.fl [(.int .u64 (Prod.fst (exOut 1 a m0 (0:Int)))),(.int .u64 (Prod.fst (exOut 1 b m1 (Prod.snd (exOut 1 a m0 (0:Int)))))),(.int .u64 (Prod.fst (exOut 1 c m2 (Prod.snd (exOut 1 b m1 (Prod.snd (exOut 1 a m0 (0:Int)))))))),(.int .u64 (Prod.fst (exOut 1 d m3 (Prod.snd (exOut 1 c m2 (Prod.snd (exOut 1 b m1 (Prod.snd (exOut 1 a m0 (0:Int))))))))))]))):=by kernel_rfl
theorem rdY (o0 o1 o2 o3 a b c d more m0 m1 m2 m3:Int):muEnd envC Try.f74 true 3000 (qd0 o0 o1 o2 o3 a b c d more m0 m1 m2 m3) [true,true,true,true,false,false]=(some ([((decide ((0:Int)<((4:Nat):Int)))=true),((0:Int)≤(0:Int)),((0:Int)<((4:Nat):Int)),((0:Int)≤(0:Int)),((0:Int)<((4:Nat):Int)),((0:Int)≤a),((0:Int)≤m0),(m0<(18446744073709551616:Int)),((0:Int)≤(0:Int)),((0:Int)≤(1:Int)),((0:Int)≤(0:Int)),((0:Int)<(8:Int)),((decide ((1:Int)<((4:Nat):Int)))=true),((0:Int)≤(1:Int)),((1:Int)<((4:Nat):Int)),((0:Int)≤(1:Int)),((1:Int)<((4:Nat):Int)),((0:Int)≤b),((0:Int)≤m1),(m1<(18446744073709551616:Int)),((0:Int)≤(Prod.snd (exOut 1 a m0 (0:Int)))),((Prod.snd (exOut 1 a m0 (0:Int)))≤(1:Int)),((0:Int)≤(1:Int)),((1:Int)<(8:Int)),((decide ((2:Int)<((4:Nat):Int)))=true),((0:Int)≤(2:Int)),((2:Int)<((4:Nat):Int)),((0:Int)≤(2:Int)),((2:Int)<((4:Nat):Int)),((0:Int)≤c),((0:Int)≤m2),(m2<(18446744073709551616:Int)),((0:Int)≤(Prod.snd (exOut 1 b m1 (Prod.snd (exOut 1 a m0 (0:Int)))))),((Prod.snd (exOut 1 b m1 (Prod.snd (exOut 1 a m0 (0:Int)))))≤(1:Int)),((0:Int)≤(2:Int)),((2:Int)<(8:Int)),((decide ((3:Int)<((4:Nat):Int)))=true),((0:Int)≤(3:Int)),((3:Int)<((4:Nat):Int)),((0:Int)≤(3:Int)),((3:Int)<((4:Nat):Int)),((0:Int)≤d),((0:Int)≤m3),(m3<(18446744073709551616:Int)),((0:Int)≤(Prod.snd (exOut 1 c m2 (Prod.snd (exOut 1 b m1 (Prod.snd (exOut 1 a m0 (0:Int)))))))),((Prod.snd (exOut 1 c m2 (Prod.snd (exOut 1 b m1 (Prod.snd (exOut 1 a m0 (0:Int)))))))≤(1:Int)),((0:Int)≤(3:Int)),((3:Int)<(8:Int)),((decide ((4:Int)<((4:Nat):Int)))=false),((decide (more ≥ (Prod.snd (exOut 1 d m3 (Prod.snd (exOut 1 c m2 (Prod.snd (exOut 1 b m1 (Prod.snd (exOut 1 a m0 (0:Int)))))))))))=false)],(.fl [(.int .u64 a),(.int .u64 b),(.int .u64 c),(.int .u64 d)]))):=by kernel_rfl
end Go.Proofs.Ytdeohachoeopdaa.S4

/- mont.Reduce, for four limbs: less the modulus, if it is not below it. No conditions. -/
namespace Go.Proofs.Ytdeohachoeopdaa.S4

theorem cat_ob {x:Ctx} {o:Ob} (hk:o.k=4) {a b c d:Int} (h:limb o.n 0=a∧limb o.n 1=b∧limb o.n 2=c∧limb o.n 3=d) {cs:List Value}
    (hc:catL x.D [.int .u64 a,.int .u64 b,.int .u64 c,.int .u64 d] cs):catL x.D [.ob o] cs:=by
  obtain ⟨cs',e,h'⟩:=ints_ob hk h (v:=.agg cs.toArray) ⟨cs,rfl,hc⟩
  have e:cs=cs' := by simpa using e
  rw[e]
  exact h'

def redU (n:Nat):U4:=Fin.ofNat B4 (n % rN)
theorem redU_val (n:Nat):(redU n).val=n % rN:=Nat.mod_eq_of_lt (Nat.lt_trans (Nat.mod_lt _ (by decide)) (by decide))

theorem reduce_mu (o0 o1 o2 o3 a b c d:Int) (ha:Lim a) (hb:Lim b) (hc:Lim c) (hd:Lim d) (hn:num4 a b c d<2*rN) :
    MuC Try.prog 74 0 4 1 (fl4 o0 o1 o2 o3) [u4s a b c d,.v (.c (.int .u64 0)),u4s 18446744069414584321 6034159408538082302 3691218898639771653 8353516859464449352] (.fl [.ob (.fr (redU (num4 a b c d).toNat))]):=by
  refine mu_start (fn:=Try.f74) (c:=bodyOf Try.f74) Try.func74 rfl rfl fun x ac hk hm hs=>?_
  obtain ⟨ha,ha1⟩:=ha
  obtain ⟨hb,hb1⟩:=hb
  obtain ⟨hc,hc1⟩:=hc
  obtain ⟨hd,hd1⟩:=hd
  have r0:=rdX o0 o1 o2 o3 a b c d 0 18446744069414584321 6034159408538082302 3691218898639771653 8353516859464449352
  have r1:=rdY o0 o1 o2 o3 a b c d 0 18446744069414584321 6034159408538082302 3691218898639771653 8353516859464449352
  obtain ⟨e1,p1,p1',c1,c1'⟩:=sub_step (y:=18446744069414584321) (c:=0) ha ha1 (by decide) (by decide) (by decide) (by decide)
  obtain ⟨e2,p2,p2',c2,c2'⟩:=sub_step (y:=6034159408538082302) hb hb1 (by decide) (by decide) c1 c1'
  obtain ⟨e3,p3,p3',c3,c3'⟩:=sub_step (y:=3691218898639771653) hc hc1 (by decide) (by decide) c2 c2'
  obtain ⟨e4,p4,p4',c4,c4'⟩:=sub_step (y:=8353516859464449352) hd hd1 (by decide) (by decide) c3 c3'
  generalize hx1:exOut 1 a 18446744069414584321 0=x1 at *
  generalize hx2:exOut 1 b 6034159408538082302 x1.2=x2 at *
  generalize hx3:exOut 1 c 3691218898639771653 x2.2=x3 at *
  generalize hx4:exOut 1 d 8353516859464449352 x3.2=x4 at *
  clear hx1 hx2 hx3 hx4
  unfold num4 rN at hn
  have hnn:0≤num4 a b c d:=by unfold num4;omega
  have hN:((num4 a b c d).toNat:Int)=num4 a b c d:=Int.toNat_of_nonneg hnn
  by_cases hz:x4.2=0
  · refine mu_end envC_ok hk hm r0 rfl ?_ (fun y cs hv=>cat_ob rfl ?_ hv) (.inl ⟨_,_,rfl,rfl⟩) hs
    · simp only[AllP,and_true,decide_eq_true_eq,decide_eq_false_iff_not];omega
    · refine limbsAre4 p1 p1' p2 p2' p3 p3' p4 p4' ?_
      show ((redU (num4 a b c d).toNat).val:Int)=_
      have e:(redU (num4 a b c d).toNat).val=(num4 a b c d).toNat-rN:=by
        rw[redU_val]
        have h1:rN≤(num4 a b c d).toNat:=by unfold rN num4;omega
        have h2:(num4 a b c d).toNat<2*rN:=by unfold rN num4;omega
        rw[Nat.mod_eq_sub_mod h1,Nat.mod_eq_of_lt (by omega)]
      rw[e]
      unfold rN num4
      omega
  · refine mu_end envC_ok hk hm r1 rfl ?_ (fun y cs hv=>cat_ob rfl ?_ hv) (.inl ⟨_,_,rfl,rfl⟩) hs
    · simp only[AllP,and_true,decide_eq_true_eq,decide_eq_false_iff_not];omega
    · refine limbsAre4 ha ha1 hb hb1 hc hc1 hd hd1 ?_
      show ((redU (num4 a b c d).toNat).val:Int)=_
      have e:(redU (num4 a b c d).toNat).val=(num4 a b c d).toNat:=by
        rw[redU_val]
        exact Nat.mod_eq_of_lt (by unfold rN num4;omega)
      rw[e,hN]
      rfl

end Go.Proofs.Ytdeohachoeopdaa.S4

/- mont.Product, for four limbs, walked. No conditions. -/
namespace Go.Proofs.Ytdeohachoeopdaa.S4
section
variable {w0:World} {F0:Nat→Prop} {K:Kp} {ac:List Act} {Q:Exit→Act→World→Prop} {cX:Ctx} {aX:Act}

def reduceSpec:MuS:=fun off len es e rest=>
  match off,len,es,e,rest with
  | 0,4,1,.fl [.int .u64 _,.int .u64 _,.int .u64 _,.int .u64 _],[.v (.c (.sl (.u64 [a,b,c,d]))),.v (.c (.int .u64 more)),.v (.c (.sl (.u64 [m0,m1,m2,m3])))]=>
    some ([Lim a,Lim b,Lim c,Lim d,num4 a b c d<2*rN,more=0,m0=18446744069414584321,m1=6034159408538082302,m2=3691218898639771653,m3=8353516859464449352],.fl [.ob (.fr (redU (num4 a b c d).toNat))])
  | _,_,_,_,_=>none

noncomputable def envE:Env:={ envC with mu:=fun g=>if g=74 then some (mu1 reduceSpec) else envC.mu g }
theorem envE_ok:EnvOk Try.prog envE:=
  env_mu envC_ok 74 reduceSpec (enters_of Try.func74 rfl rfl) fun off len es e rest o e' h ho _ _=>by
    unfold reduceSpec at h
    split at h
    · cases h
      obtain ⟨h1,h2,h3,h4,h5,h6,h7,h8,h9,h10,_⟩:=ho
      subst h6 h7 h8 h9 h10
      exact reduce_mu _ _ _ _ _ _ _ _ h1 h2 h3 h4 h5
    · cases h

def mR:SV:=u4s 18446744069414584321 6034159408538082302 3691218898639771653 8353516859464449352
noncomputable def pd0 (o0 o1 o2 o3 a b c d y0 y1 y2 y3:Int):Cfg:=⟨[.code (bodyOf Try.f54)],.normal,muSt Try.f54.ntmps 0 4 1 (fl4 o0 o1 o2 o3) [u4s a b c d,u4s y0 y1 y2 y3,mR,.v (.c (.int .u64 18446744069414584319))]⟩

--@env envE envE_ok
noncomputable def pIn_k:List KI:=(run envE false 3000 ((fun (o0 o1 o2 o3 a b c d y0 y1 y2 y3:Int)=>(pd0 o0 o1 o2 o3 a b c d y0 y1 y2 y3:Cfg)) default default default default default default default default default default default default) []).cfg.k
theorem pIn_hk (o0 o1 o2 o3 a b c d y0 y1 y2 y3:Int):(run envE false 3000 ((pd0 o0 o1 o2 o3 a b c d y0 y1 y2 y3:Cfg)) []).cfg.k=pIn_k:=by kernel_rfl
theorem pIn (o0 o1 o2 o3 a b c d y0 y1 y2 y3:Int) {w0:World} {F0:Nat→Prop} {K:Kp} {ac:List Act} {Q:Exit→Act→World→Prop} {cX:Ctx} {aX:Act} (ho:AllP []) (hs:Sim w0 F0 K ac (((pd0 o0 o1 o2 o3 a b c d y0 y1 y2 y3:Cfg)).σ) cX aX) (hK:∀ac cY aY,Sim w0 F0 K ac (mkSt 176 [0,1,2,3,4,10,11,29,30] [(.v (.c (.slc 0 0 4 1))),(.v (.c (.sl (.u64 [a,b,c,d])))),(.v (.c (.sl (.u64 [y0,y1,y2,y3])))),(.v (.c (.sl (.u64 [(18446744069414584321:Int),(6034159408538082302:Int),(3691218898639771653:Int),(8353516859464449352:Int)])))),.iu (18446744069414584319:Int),.ii (4:Int),.pt 64 0,.ii (4:Int),.ii (0:Int)] [0,64] [(some (.fl [(.int .u64 o0),(.int .u64 o1),(.int .u64 o2),(.int .u64 o3)])),(some (.fl [(.int .u64 (0:Int)),(.int .u64 (0:Int)),(.int .u64 (0:Int)),(.int .u64 (0:Int)),(.int .u64 (0:Int)),(.int .u64 (0:Int)),(.int .u64 (0:Int)),(.int .u64 (0:Int)),(.int .u64 (0:Int)),(.int .u64 (0:Int))]))] 112 [] []) cY aY→Wq Try.prog Q (pIn_k) ac Exit.normal aY cY.w):Wq Try.prog Q (((pd0 o0 o1 o2 o3 a b c d y0 y1 y2 y3:Cfg)).k) ac ((pd0 o0 o1 o2 o3 a b c d y0 y1 y2 y3:Cfg)).x aX cX.w:=
  run_at (o:=⟨_,_,_,_,_,_,_⟩) envE_ok (by kernel_rfl) (pIn_hk o0 o1 o2 o3 a b c d y0 y1 y2 y3) ho hs hK
noncomputable def pS (o0 o1 o2 o3 a b c d y0 y1 y2 y3:Int) (i:Nat) (r0 r1 r2 r3 r4 r5:Int):St:=mkSt 176 [0,1,2,3,4,10,11,29,30] [(.v (.c (.slc 0 0 4 1))),(.v (.c (.sl (.u64 [a,b,c,d])))),(.v (.c (.sl (.u64 [y0,y1,y2,y3])))),(.v (.c (.sl (.u64 [(18446744069414584321:Int),(6034159408538082302:Int),(3691218898639771653:Int),(8353516859464449352:Int)])))),.iu (18446744069414584319:Int),.ii (4:Int),.pt 64 0,.ii (4:Int),.v (.c (.int .i64 (i:Int)))] [0,64] [(some (.fl [(.int .u64 o0),(.int .u64 o1),(.int .u64 o2),(.int .u64 o3)])),some (.fl [.int .u64 r0,.int .u64 r1,.int .u64 r2,.int .u64 r3,.int .u64 r4,.int .u64 r5,.int .u64 0,.int .u64 0,.int .u64 0,.int .u64 0])] 112 [] []
--@unroll true
noncomputable def pA_k:List KI:=(run envE true 104 ((fun (o0 o1 o2 o3 a b c d y0 y1 y2 y3:Int) (i:Nat) (r0 r1 r2 r3 r4 r5:Int)=>(⟨lpIn pIn_k,.normal,pS o0 o1 o2 o3 a b c d y0 y1 y2 y3 i r0 r1 r2 r3 r4 r5⟩:Cfg)) default default default default default default default default default default default default default default default default default default default) [true,true]).cfg.k
theorem pA_hk (o0 o1 o2 o3 a b c d y0 y1 y2 y3:Int) (i:Nat) (r0 r1 r2 r3 r4 r5:Int):(run envE true 104 ((⟨lpIn pIn_k,.normal,pS o0 o1 o2 o3 a b c d y0 y1 y2 y3 i r0 r1 r2 r3 r4 r5⟩:Cfg)) [true,true]).cfg.k=pA_k:=by kernel_rfl
theorem pA (o0 o1 o2 o3 a b c d y0 y1 y2 y3:Int) (i:Nat) (r0 r1 r2 r3 r4 r5:Int) {w0:World} {F0:Nat→Prop} {K:Kp} {ac:List Act} {Q:Exit→Act→World→Prop} {cX:Ctx} {aX:Act} (ho:AllP [((decide ((i:Int)<(4:Int)))=true),((0:Int)≤(i:Int)),((i:Int)<((4:Nat):Int)),((decide ((0:Int)<(4:Int)))=true),((0:Int)≤(0:Int)),((0:Int)<((4:Nat):Int)),((0:Int)≤(List.getD [a,b,c,d] ((i:Int)).toNat (0:Int))),((List.getD [a,b,c,d] ((i:Int)).toNat (0:Int))<(18446744073709551616:Int)),((0:Int)≤y0),(y0<(18446744073709551616:Int)),((0:Int)≤(0:Int)),((0:Int)<(10:Int)),((0:Int)≤(((List.getD [a,b,c,d] ((i:Int)).toNat (0:Int))*y0) % (18446744073709551616:Int))),((0:Int)≤r0),(r0<(18446744073709551616:Int)),((0:Int)≤(0:Int)),((0:Int)≤(1:Int)),((0:Int)≤(Prod.fst (exOut 0 (((List.getD [a,b,c,d] ((i:Int)).toNat (0:Int))*y0) % (18446744073709551616:Int)) r0 (0:Int)))),((0:Int)≤(0:Int)),((0:Int)<(18446744073709551616:Int)),((0:Int)≤(0:Int)),((0:Int)≤(1:Int)),((0:Int)≤(0:Int)),((0:Int)<(10:Int))]) (hs:Sim w0 F0 K ac (pS o0 o1 o2 o3 a b c d y0 y1 y2 y3 i r0 r1 r2 r3 r4 r5) cX aX) (hK:∀ac cY aY,Sim w0 F0 K ac (mkSt 176 [0,1,2,3,4,10,11,13,14,29,30,37,38] [(.v (.c (.slc 0 0 4 1))),(.v (.c (.sl (.u64 [a,b,c,d])))),(.v (.c (.sl (.u64 [y0,y1,y2,y3])))),(.v (.c (.sl (.u64 [(18446744069414584321:Int),(6034159408538082302:Int),(3691218898639771653:Int),(8353516859464449352:Int)])))),.iu (18446744069414584319:Int),.ii (4:Int),.pt 64 0,(.iu (List.getD [a,b,c,d] ((i:Int)).toNat (0:Int))),(.iu (IntKind.wrap .u64 ((IntKind.wrap .u64 ((((List.getD [a,b,c,d] ((i:Int)).toNat (0:Int))*y0) / (18446744073709551616:Int))+(Prod.snd (exOut 0 (((List.getD [a,b,c,d] ((i:Int)).toNat (0:Int))*y0) % (18446744073709551616:Int)) r0 (0:Int)))))+(Prod.snd (exOut 0 (Prod.fst (exOut 0 (((List.getD [a,b,c,d] ((i:Int)).toNat (0:Int))*y0) % (18446744073709551616:Int)) r0 (0:Int))) (0:Int) (0:Int)))))),.ii (4:Int),(.ii (i:Int)),.ii (4:Int),.ii (0:Int)] [0,64] [(some (.fl [(.int .u64 o0),(.int .u64 o1),(.int .u64 o2),(.int .u64 o3)])),(some (.fl [(.int .u64 (Prod.fst (exOut 0 (Prod.fst (exOut 0 (((List.getD [a,b,c,d] ((i:Int)).toNat (0:Int))*y0) % (18446744073709551616:Int)) r0 (0:Int))) (0:Int) (0:Int)))),(.int .u64 r1),(.int .u64 r2),(.int .u64 r3),(.int .u64 r4),(.int .u64 r5),(.int .u64 (0:Int)),(.int .u64 (0:Int)),(.int .u64 (0:Int)),(.int .u64 (0:Int))]))] 992 [] []) cY aY→Wq Try.prog Q (pA_k) ac Exit.normal aY cY.w):Wq Try.prog Q (lpIn pIn_k) ac .normal aX cX.w:=
  run_at2 (o:=⟨_,_,_,_,_,_,_⟩) envE_ok (by kernel_rfl) (pA_hk o0 o1 o2 o3 a b c d y0 y1 y2 y3 i r0 r1 r2 r3 r4 r5) ho hs hK
theorem pX (o0 o1 o2 o3 a b c d y0 y1 y2 y3:Int) (i:Nat) (r0 r1 r2 r3 r4 r5:Int):muEnd envE Try.f54 true 3000 ⟨lpIn pIn_k,.normal,pS o0 o1 o2 o3 a b c d y0 y1 y2 y3 i r0 r1 r2 r3 r4 r5⟩ [false]=(some ([((decide ((i:Int)<(4:Int)))=false),((0:Int)≤(4:Int)),((4:Int)≤(10:Int)),((0:Int)≤(4:Int)),((4:Int)<(10:Int)),(S4.Lim r0),(S4.Lim r1),(S4.Lim r2),(S4.Lim r3),((S4.num4 r0 r1 r2 r3)<(104871750350252380958895481016371931675381105001055275645207317399877162369026:Int)),(r4=(0:Int)),((18446744069414584321:Int)=(18446744069414584321:Int)),((6034159408538082302:Int)=(6034159408538082302:Int)),((3691218898639771653:Int)=(3691218898639771653:Int)),((8353516859464449352:Int)=(8353516859464449352:Int))],(.fl [(.ob (.fr (S4.redU ((S4.num4 r0 r1 r2 r3)).toNat)))]))):=by kernel_rfl
noncomputable def pS1 (o0 o1 o2 o3 a b c d y0 y1 y2 y3:Int) (i:Nat) (x cy r0 r1 r2 r3 r4 r5:Int):St:=mkSt 176 [0,1,2,3,4,10,11,13,14,29,30,37,38] [(.v (.c (.slc 0 0 4 1))),(.v (.c (.sl (.u64 [a,b,c,d])))),(.v (.c (.sl (.u64 [y0,y1,y2,y3])))),(.v (.c (.sl (.u64 [(18446744069414584321:Int),(6034159408538082302:Int),(3691218898639771653:Int),(8353516859464449352:Int)])))),.iu (18446744069414584319:Int),.ii (4:Int),.pt 64 0,.v (.c (.int .u64 x)),.v (.c (.int .u64 cy)),.ii (4:Int),(.ii (i:Int)),.ii (4:Int),.ii (0:Int)] [0,64] [(some (.fl [(.int .u64 o0),(.int .u64 o1),(.int .u64 o2),(.int .u64 o3)])),some (.fl [.int .u64 r0,.int .u64 r1,.int .u64 r2,.int .u64 r3,.int .u64 r4,.int .u64 r5,.int .u64 0,.int .u64 0,.int .u64 0,.int .u64 0])] 992 [] []
noncomputable def pB_k:List KI:=(run envE true 75 ((fun (o0 o1 o2 o3 a b c d y0 y1 y2 y3:Int) (i:Nat) (x cy r0 r1 r2 r3 r4 r5:Int)=>(⟨pA_k,.normal,pS1 o0 o1 o2 o3 a b c d y0 y1 y2 y3 i x cy r0 r1 r2 r3 r4 r5⟩:Cfg)) default default default default default default default default default default default default default default default default default default default default default) [true]).cfg.k
theorem pB_hk (o0 o1 o2 o3 a b c d y0 y1 y2 y3:Int) (i:Nat) (x cy r0 r1 r2 r3 r4 r5:Int):(run envE true 75 ((⟨pA_k,.normal,pS1 o0 o1 o2 o3 a b c d y0 y1 y2 y3 i x cy r0 r1 r2 r3 r4 r5⟩:Cfg)) [true]).cfg.k=pB_k:=by kernel_rfl
theorem pB (o0 o1 o2 o3 a b c d y0 y1 y2 y3:Int) (i:Nat) (x cy r0 r1 r2 r3 r4 r5:Int) (ho:AllP [((decide ((1:Int)<(4:Int)))=true),((0:Int)≤(1:Int)),((1:Int)<((4:Nat):Int)),((0:Int)≤x),(x<(18446744073709551616:Int)),((0:Int)≤y1),(y1<(18446744073709551616:Int)),((0:Int)≤(1:Int)),((1:Int)<(10:Int)),((0:Int)≤((x*y1) % (18446744073709551616:Int))),((0:Int)≤r1),(r1<(18446744073709551616:Int)),((0:Int)≤(0:Int)),((0:Int)≤(1:Int)),((0:Int)≤(Prod.fst (exOut 0 ((x*y1) % (18446744073709551616:Int)) r1 (0:Int)))),((0:Int)≤cy),(cy<(18446744073709551616:Int)),((0:Int)≤(0:Int)),((0:Int)≤(1:Int)),((0:Int)≤(1:Int)),((1:Int)<(10:Int))]) (hs:Sim w0 F0 K ac (pS1 o0 o1 o2 o3 a b c d y0 y1 y2 y3 i x cy r0 r1 r2 r3 r4 r5) cX aX) (hK:∀ac cY aY,Sim w0 F0 K ac (mkSt 176 [0,1,2,3,4,10,11,13,14,29,30,37,38] [(.v (.c (.slc 0 0 4 1))),(.v (.c (.sl (.u64 [a,b,c,d])))),(.v (.c (.sl (.u64 [y0,y1,y2,y3])))),(.v (.c (.sl (.u64 [(18446744069414584321:Int),(6034159408538082302:Int),(3691218898639771653:Int),(8353516859464449352:Int)])))),.iu (18446744069414584319:Int),.ii (4:Int),.pt 64 0,.iu x,(.iu (IntKind.wrap .u64 ((IntKind.wrap .u64 (((x*y1) / (18446744073709551616:Int))+(Prod.snd (exOut 0 ((x*y1) % (18446744073709551616:Int)) r1 (0:Int)))))+(Prod.snd (exOut 0 (Prod.fst (exOut 0 ((x*y1) % (18446744073709551616:Int)) r1 (0:Int))) cy (0:Int)))))),.ii (4:Int),(.ii (i:Int)),.ii (4:Int),.ii (1:Int)] [0,64] [(some (.fl [(.int .u64 o0),(.int .u64 o1),(.int .u64 o2),(.int .u64 o3)])),(some (.fl [(.int .u64 r0),(.int .u64 (Prod.fst (exOut 0 (Prod.fst (exOut 0 ((x*y1) % (18446744073709551616:Int)) r1 (0:Int))) cy (0:Int)))),(.int .u64 r2),(.int .u64 r3),(.int .u64 r4),(.int .u64 r5),(.int .u64 (0:Int)),(.int .u64 (0:Int)),(.int .u64 (0:Int)),(.int .u64 (0:Int))]))] 1728 [] []) cY aY→Wq Try.prog Q (pB_k) ac Exit.normal aY cY.w):Wq Try.prog Q (pA_k) ac .normal aX cX.w:=
  run_at2 (o:=⟨_,_,_,_,_,_,_⟩) envE_ok (by kernel_rfl) (pB_hk o0 o1 o2 o3 a b c d y0 y1 y2 y3 i x cy r0 r1 r2 r3 r4 r5) ho hs hK
noncomputable def pS2 (o0 o1 o2 o3 a b c d y0 y1 y2 y3:Int) (i:Nat) (x cy r0 r1 r2 r3 r4 r5:Int):St:=mkSt 176 [0,1,2,3,4,10,11,13,14,29,30,37,38] [(.v (.c (.slc 0 0 4 1))),(.v (.c (.sl (.u64 [a,b,c,d])))),(.v (.c (.sl (.u64 [y0,y1,y2,y3])))),(.v (.c (.sl (.u64 [(18446744069414584321:Int),(6034159408538082302:Int),(3691218898639771653:Int),(8353516859464449352:Int)])))),.iu (18446744069414584319:Int),.ii (4:Int),.pt 64 0,.v (.c (.int .u64 x)),.v (.c (.int .u64 cy)),.ii (4:Int),(.ii (i:Int)),.ii (4:Int),.ii (1:Int)] [0,64] [(some (.fl [(.int .u64 o0),(.int .u64 o1),(.int .u64 o2),(.int .u64 o3)])),some (.fl [.int .u64 r0,.int .u64 r1,.int .u64 r2,.int .u64 r3,.int .u64 r4,.int .u64 r5,.int .u64 0,.int .u64 0,.int .u64 0,.int .u64 0])] 1728 [] []
noncomputable def pC_k:List KI:=(run envE true 75 ((fun (o0 o1 o2 o3 a b c d y0 y1 y2 y3:Int) (i:Nat) (x cy r0 r1 r2 r3 r4 r5:Int)=>(⟨pB_k,.normal,pS2 o0 o1 o2 o3 a b c d y0 y1 y2 y3 i x cy r0 r1 r2 r3 r4 r5⟩:Cfg)) default default default default default default default default default default default default default default default default default default default default default) [true]).cfg.k
theorem pC_hk (o0 o1 o2 o3 a b c d y0 y1 y2 y3:Int) (i:Nat) (x cy r0 r1 r2 r3 r4 r5:Int):(run envE true 75 ((⟨pB_k,.normal,pS2 o0 o1 o2 o3 a b c d y0 y1 y2 y3 i x cy r0 r1 r2 r3 r4 r5⟩:Cfg)) [true]).cfg.k=pC_k:=by kernel_rfl
theorem pC (o0 o1 o2 o3 a b c d y0 y1 y2 y3:Int) (i:Nat) (x cy r0 r1 r2 r3 r4 r5:Int) (ho:AllP [((decide ((2:Int)<(4:Int)))=true),((0:Int)≤(2:Int)),((2:Int)<((4:Nat):Int)),((0:Int)≤x),(x<(18446744073709551616:Int)),((0:Int)≤y2),(y2<(18446744073709551616:Int)),((0:Int)≤(2:Int)),((2:Int)<(10:Int)),((0:Int)≤((x*y2) % (18446744073709551616:Int))),((0:Int)≤r2),(r2<(18446744073709551616:Int)),((0:Int)≤(0:Int)),((0:Int)≤(1:Int)),((0:Int)≤(Prod.fst (exOut 0 ((x*y2) % (18446744073709551616:Int)) r2 (0:Int)))),((0:Int)≤cy),(cy<(18446744073709551616:Int)),((0:Int)≤(0:Int)),((0:Int)≤(1:Int)),((0:Int)≤(2:Int)),((2:Int)<(10:Int))]) (hs:Sim w0 F0 K ac (pS2 o0 o1 o2 o3 a b c d y0 y1 y2 y3 i x cy r0 r1 r2 r3 r4 r5) cX aX) (hK:∀ac cY aY,Sim w0 F0 K ac (mkSt 176 [0,1,2,3,4,10,11,13,14,29,30,37,38] [(.v (.c (.slc 0 0 4 1))),(.v (.c (.sl (.u64 [a,b,c,d])))),(.v (.c (.sl (.u64 [y0,y1,y2,y3])))),(.v (.c (.sl (.u64 [(18446744069414584321:Int),(6034159408538082302:Int),(3691218898639771653:Int),(8353516859464449352:Int)])))),.iu (18446744069414584319:Int),.ii (4:Int),.pt 64 0,.iu x,(.iu (IntKind.wrap .u64 ((IntKind.wrap .u64 (((x*y2) / (18446744073709551616:Int))+(Prod.snd (exOut 0 ((x*y2) % (18446744073709551616:Int)) r2 (0:Int)))))+(Prod.snd (exOut 0 (Prod.fst (exOut 0 ((x*y2) % (18446744073709551616:Int)) r2 (0:Int))) cy (0:Int)))))),.ii (4:Int),(.ii (i:Int)),.ii (4:Int),.ii (2:Int)] [0,64] [(some (.fl [(.int .u64 o0),(.int .u64 o1),(.int .u64 o2),(.int .u64 o3)])),(some (.fl [(.int .u64 r0),(.int .u64 r1),(.int .u64 (Prod.fst (exOut 0 (Prod.fst (exOut 0 ((x*y2) % (18446744073709551616:Int)) r2 (0:Int))) cy (0:Int)))),(.int .u64 r3),(.int .u64 r4),(.int .u64 r5),(.int .u64 (0:Int)),(.int .u64 (0:Int)),(.int .u64 (0:Int)),(.int .u64 (0:Int))]))] 2464 [] []) cY aY→Wq Try.prog Q (pC_k) ac Exit.normal aY cY.w):Wq Try.prog Q (pB_k) ac .normal aX cX.w:=
  run_at2 (o:=⟨_,_,_,_,_,_,_⟩) envE_ok (by kernel_rfl) (pC_hk o0 o1 o2 o3 a b c d y0 y1 y2 y3 i x cy r0 r1 r2 r3 r4 r5) ho hs hK
noncomputable def pS3 (o0 o1 o2 o3 a b c d y0 y1 y2 y3:Int) (i:Nat) (x cy r0 r1 r2 r3 r4 r5:Int):St:=mkSt 176 [0,1,2,3,4,10,11,13,14,29,30,37,38] [(.v (.c (.slc 0 0 4 1))),(.v (.c (.sl (.u64 [a,b,c,d])))),(.v (.c (.sl (.u64 [y0,y1,y2,y3])))),(.v (.c (.sl (.u64 [(18446744069414584321:Int),(6034159408538082302:Int),(3691218898639771653:Int),(8353516859464449352:Int)])))),.iu (18446744069414584319:Int),.ii (4:Int),.pt 64 0,.v (.c (.int .u64 x)),.v (.c (.int .u64 cy)),.ii (4:Int),(.ii (i:Int)),.ii (4:Int),.ii (2:Int)] [0,64] [(some (.fl [(.int .u64 o0),(.int .u64 o1),(.int .u64 o2),(.int .u64 o3)])),some (.fl [.int .u64 r0,.int .u64 r1,.int .u64 r2,.int .u64 r3,.int .u64 r4,.int .u64 r5,.int .u64 0,.int .u64 0,.int .u64 0,.int .u64 0])] 2464 [] []
noncomputable def pD_k:List KI:=(run envE true 75 ((fun (o0 o1 o2 o3 a b c d y0 y1 y2 y3:Int) (i:Nat) (x cy r0 r1 r2 r3 r4 r5:Int)=>(⟨pC_k,.normal,pS3 o0 o1 o2 o3 a b c d y0 y1 y2 y3 i x cy r0 r1 r2 r3 r4 r5⟩:Cfg)) default default default default default default default default default default default default default default default default default default default default default) [true]).cfg.k
theorem pD_hk (o0 o1 o2 o3 a b c d y0 y1 y2 y3:Int) (i:Nat) (x cy r0 r1 r2 r3 r4 r5:Int):(run envE true 75 ((⟨pC_k,.normal,pS3 o0 o1 o2 o3 a b c d y0 y1 y2 y3 i x cy r0 r1 r2 r3 r4 r5⟩:Cfg)) [true]).cfg.k=pD_k:=by kernel_rfl
theorem pD (o0 o1 o2 o3 a b c d y0 y1 y2 y3:Int) (i:Nat) (x cy r0 r1 r2 r3 r4 r5:Int) (ho:AllP [((decide ((3:Int)<(4:Int)))=true),((0:Int)≤(3:Int)),((3:Int)<((4:Nat):Int)),((0:Int)≤x),(x<(18446744073709551616:Int)),((0:Int)≤y3),(y3<(18446744073709551616:Int)),((0:Int)≤(3:Int)),((3:Int)<(10:Int)),((0:Int)≤((x*y3) % (18446744073709551616:Int))),((0:Int)≤r3),(r3<(18446744073709551616:Int)),((0:Int)≤(0:Int)),((0:Int)≤(1:Int)),((0:Int)≤(Prod.fst (exOut 0 ((x*y3) % (18446744073709551616:Int)) r3 (0:Int)))),((0:Int)≤cy),(cy<(18446744073709551616:Int)),((0:Int)≤(0:Int)),((0:Int)≤(1:Int)),((0:Int)≤(3:Int)),((3:Int)<(10:Int))]) (hs:Sim w0 F0 K ac (pS3 o0 o1 o2 o3 a b c d y0 y1 y2 y3 i x cy r0 r1 r2 r3 r4 r5) cX aX) (hK:∀ac cY aY,Sim w0 F0 K ac (mkSt 176 [0,1,2,3,4,10,11,13,14,29,30,37,38] [(.v (.c (.slc 0 0 4 1))),(.v (.c (.sl (.u64 [a,b,c,d])))),(.v (.c (.sl (.u64 [y0,y1,y2,y3])))),(.v (.c (.sl (.u64 [(18446744069414584321:Int),(6034159408538082302:Int),(3691218898639771653:Int),(8353516859464449352:Int)])))),.iu (18446744069414584319:Int),.ii (4:Int),.pt 64 0,.iu x,(.iu (IntKind.wrap .u64 ((IntKind.wrap .u64 (((x*y3) / (18446744073709551616:Int))+(Prod.snd (exOut 0 ((x*y3) % (18446744073709551616:Int)) r3 (0:Int)))))+(Prod.snd (exOut 0 (Prod.fst (exOut 0 ((x*y3) % (18446744073709551616:Int)) r3 (0:Int))) cy (0:Int)))))),.ii (4:Int),(.ii (i:Int)),.ii (4:Int),.ii (3:Int)] [0,64] [(some (.fl [(.int .u64 o0),(.int .u64 o1),(.int .u64 o2),(.int .u64 o3)])),(some (.fl [(.int .u64 r0),(.int .u64 r1),(.int .u64 r2),(.int .u64 (Prod.fst (exOut 0 (Prod.fst (exOut 0 ((x*y3) % (18446744073709551616:Int)) r3 (0:Int))) cy (0:Int)))),(.int .u64 r4),(.int .u64 r5),(.int .u64 (0:Int)),(.int .u64 (0:Int)),(.int .u64 (0:Int)),(.int .u64 (0:Int))]))] 3200 [] []) cY aY→Wq Try.prog Q (pD_k) ac Exit.normal aY cY.w):Wq Try.prog Q (pC_k) ac .normal aX cX.w:=
  run_at2 (o:=⟨_,_,_,_,_,_,_⟩) envE_ok (by kernel_rfl) (pD_hk o0 o1 o2 o3 a b c d y0 y1 y2 y3 i x cy r0 r1 r2 r3 r4 r5) ho hs hK
noncomputable def pS4 (o0 o1 o2 o3 a b c d y0 y1 y2 y3:Int) (i:Nat) (x cy r0 r1 r2 r3 r4 r5:Int):St:=mkSt 176 [0,1,2,3,4,10,11,13,14,29,30,37,38] [(.v (.c (.slc 0 0 4 1))),(.v (.c (.sl (.u64 [a,b,c,d])))),(.v (.c (.sl (.u64 [y0,y1,y2,y3])))),(.v (.c (.sl (.u64 [(18446744069414584321:Int),(6034159408538082302:Int),(3691218898639771653:Int),(8353516859464449352:Int)])))),.iu (18446744069414584319:Int),.ii (4:Int),.pt 64 0,.v (.c (.int .u64 x)),.v (.c (.int .u64 cy)),.ii (4:Int),(.ii (i:Int)),.ii (4:Int),.ii (3:Int)] [0,64] [(some (.fl [(.int .u64 o0),(.int .u64 o1),(.int .u64 o2),(.int .u64 o3)])),some (.fl [.int .u64 r0,.int .u64 r1,.int .u64 r2,.int .u64 r3,.int .u64 r4,.int .u64 r5,.int .u64 0,.int .u64 0,.int .u64 0,.int .u64 0])] 3200 [] []
noncomputable def pE_k:List KI:=(run envE true 88 ((fun (o0 o1 o2 o3 a b c d y0 y1 y2 y3:Int) (i:Nat) (x cy r0 r1 r2 r3 r4 r5:Int)=>(⟨pD_k,.normal,pS4 o0 o1 o2 o3 a b c d y0 y1 y2 y3 i x cy r0 r1 r2 r3 r4 r5⟩:Cfg)) default default default default default default default default default default default default default default default default default default default default default) [false]).cfg.k
theorem pE_hk (o0 o1 o2 o3 a b c d y0 y1 y2 y3:Int) (i:Nat) (x cy r0 r1 r2 r3 r4 r5:Int):(run envE true 88 ((⟨pD_k,.normal,pS4 o0 o1 o2 o3 a b c d y0 y1 y2 y3 i x cy r0 r1 r2 r3 r4 r5⟩:Cfg)) [false]).cfg.k=pE_k:=by kernel_rfl
theorem pE (o0 o1 o2 o3 a b c d y0 y1 y2 y3:Int) (i:Nat) (x cy r0 r1 r2 r3 r4 r5:Int) (ho:AllP [((decide ((4:Int)<(4:Int)))=false),((0:Int)≤(4:Int)),((4:Int)<(10:Int)),((0:Int)≤r4),((0:Int)≤cy),(cy<(18446744073709551616:Int)),((0:Int)≤(0:Int)),((0:Int)≤(1:Int)),((0:Int)≤(4:Int)),((4:Int)<(10:Int)),((0:Int)≤(5:Int)),((5:Int)<(10:Int)),((0:Int)≤(0:Int)),((0:Int)<(10:Int)),((0:Int)≤(0:Int)),((0:Int)<(4:Int)),((0:Int)≤(IntKind.wrap .u64 (r0*(18446744069414584319:Int)))),((IntKind.wrap .u64 (r0*(18446744069414584319:Int)))<(18446744073709551616:Int)),((0:Int)≤(18446744069414584321:Int)),((18446744069414584321:Int)<(18446744073709551616:Int)),((0:Int)≤(0:Int)),((0:Int)<(10:Int)),((0:Int)≤(((IntKind.wrap .u64 (r0*(18446744069414584319:Int)))*(18446744069414584321:Int)) % (18446744073709551616:Int))),((0:Int)≤r0),(r0<(18446744073709551616:Int)),((0:Int)≤(0:Int)),((0:Int)≤(1:Int))]) (hs:Sim w0 F0 K ac (pS4 o0 o1 o2 o3 a b c d y0 y1 y2 y3 i x cy r0 r1 r2 r3 r4 r5) cX aX) (hK:∀ac cY aY,Sim w0 F0 K ac (mkSt 176 [0,1,2,3,4,10,11,14,20,23,29,30] [(.v (.c (.slc 0 0 4 1))),(.v (.c (.sl (.u64 [a,b,c,d])))),(.v (.c (.sl (.u64 [y0,y1,y2,y3])))),(.v (.c (.sl (.u64 [(18446744069414584321:Int),(6034159408538082302:Int),(3691218898639771653:Int),(8353516859464449352:Int)])))),.iu (18446744069414584319:Int),.ii (4:Int),.pt 64 0,(.iu (IntKind.wrap .u64 ((((IntKind.wrap .u64 (r0*(18446744069414584319:Int)))*(18446744069414584321:Int)) / (18446744073709551616:Int))+(Prod.snd (exOut 0 (((IntKind.wrap .u64 (r0*(18446744069414584319:Int)))*(18446744069414584321:Int)) % (18446744073709551616:Int)) r0 (0:Int)))))),(.iu (IntKind.wrap .u64 (r0*(18446744069414584319:Int)))),.ii (1:Int),.ii (4:Int),(.ii (i:Int))] [0,64] [(some (.fl [(.int .u64 o0),(.int .u64 o1),(.int .u64 o2),(.int .u64 o3)])),(some (.fl [(.int .u64 r0),(.int .u64 r1),(.int .u64 r2),(.int .u64 r3),(.int .u64 (Prod.fst (exOut 0 r4 cy (0:Int)))),(.int .u64 (Prod.snd (exOut 0 r4 cy (0:Int)))),(.int .u64 (0:Int)),(.int .u64 (0:Int)),(.int .u64 (0:Int)),(.int .u64 (0:Int))]))] 3984 [] []) cY aY→Wq Try.prog Q (pE_k) ac Exit.normal aY cY.w):Wq Try.prog Q (pD_k) ac .normal aX cX.w:=
  run_at2 (o:=⟨_,_,_,_,_,_,_⟩) envE_ok (by kernel_rfl) (pE_hk o0 o1 o2 o3 a b c d y0 y1 y2 y3 i x cy r0 r1 r2 r3 r4 r5) ho hs hK
noncomputable def pT1 (o0 o1 o2 o3 a b c d y0 y1 y2 y3:Int) (i:Nat) (q cy r0 r1 r2 r3 r4 r5:Int):St:=mkSt 176 [0,1,2,3,4,10,11,14,20,23,29,30] [(.v (.c (.slc 0 0 4 1))),(.v (.c (.sl (.u64 [a,b,c,d])))),(.v (.c (.sl (.u64 [y0,y1,y2,y3])))),(.v (.c (.sl (.u64 [(18446744069414584321:Int),(6034159408538082302:Int),(3691218898639771653:Int),(8353516859464449352:Int)])))),.iu (18446744069414584319:Int),.ii (4:Int),.pt 64 0,.v (.c (.int .u64 cy)),.v (.c (.int .u64 q)),.ii (1:Int),.ii (4:Int),(.ii (i:Int))] [0,64] [(some (.fl [(.int .u64 o0),(.int .u64 o1),(.int .u64 o2),(.int .u64 o3)])),some (.fl [.int .u64 r0,.int .u64 r1,.int .u64 r2,.int .u64 r3,.int .u64 r4,.int .u64 r5,.int .u64 0,.int .u64 0,.int .u64 0,.int .u64 0])] 3984 [] []
noncomputable def pF_k:List KI:=(run envE true 68 ((fun (o0 o1 o2 o3 a b c d y0 y1 y2 y3:Int) (i:Nat) (q cy r0 r1 r2 r3 r4 r5:Int)=>(⟨pE_k,.normal,pT1 o0 o1 o2 o3 a b c d y0 y1 y2 y3 i q cy r0 r1 r2 r3 r4 r5⟩:Cfg)) default default default default default default default default default default default default default default default default default default default default default) [true]).cfg.k
theorem pF_hk (o0 o1 o2 o3 a b c d y0 y1 y2 y3:Int) (i:Nat) (q cy r0 r1 r2 r3 r4 r5:Int):(run envE true 68 ((⟨pE_k,.normal,pT1 o0 o1 o2 o3 a b c d y0 y1 y2 y3 i q cy r0 r1 r2 r3 r4 r5⟩:Cfg)) [true]).cfg.k=pF_k:=by kernel_rfl
theorem pF (o0 o1 o2 o3 a b c d y0 y1 y2 y3:Int) (i:Nat) (q cy r0 r1 r2 r3 r4 r5:Int) (ho:AllP [((decide ((1:Int)<(4:Int)))=true),((0:Int)≤(1:Int)),((1:Int)<(4:Int)),((0:Int)≤q),(q<(18446744073709551616:Int)),((0:Int)≤(6034159408538082302:Int)),((6034159408538082302:Int)<(18446744073709551616:Int)),((0:Int)≤(1:Int)),((1:Int)<(10:Int)),((0:Int)≤((q*(6034159408538082302:Int)) % (18446744073709551616:Int))),((0:Int)≤r1),(r1<(18446744073709551616:Int)),((0:Int)≤(0:Int)),((0:Int)≤(1:Int)),((0:Int)≤(Prod.fst (exOut 0 ((q*(6034159408538082302:Int)) % (18446744073709551616:Int)) r1 (0:Int)))),((0:Int)≤cy),(cy<(18446744073709551616:Int)),((0:Int)≤(0:Int)),((0:Int)≤(1:Int)),((0:Int)≤(0:Int)),((0:Int)<(10:Int))]) (hs:Sim w0 F0 K ac (pT1 o0 o1 o2 o3 a b c d y0 y1 y2 y3 i q cy r0 r1 r2 r3 r4 r5) cX aX) (hK:∀ac cY aY,Sim w0 F0 K ac (mkSt 176 [0,1,2,3,4,10,11,14,20,23,29,30] [(.v (.c (.slc 0 0 4 1))),(.v (.c (.sl (.u64 [a,b,c,d])))),(.v (.c (.sl (.u64 [y0,y1,y2,y3])))),(.v (.c (.sl (.u64 [(18446744069414584321:Int),(6034159408538082302:Int),(3691218898639771653:Int),(8353516859464449352:Int)])))),.iu (18446744069414584319:Int),.ii (4:Int),.pt 64 0,(.iu (IntKind.wrap .u64 ((IntKind.wrap .u64 (((q*(6034159408538082302:Int)) / (18446744073709551616:Int))+(Prod.snd (exOut 0 ((q*(6034159408538082302:Int)) % (18446744073709551616:Int)) r1 (0:Int)))))+(Prod.snd (exOut 0 (Prod.fst (exOut 0 ((q*(6034159408538082302:Int)) % (18446744073709551616:Int)) r1 (0:Int))) cy (0:Int)))))),.iu q,.ii (1:Int),.ii (4:Int),(.ii (i:Int))] [0,64] [(some (.fl [(.int .u64 o0),(.int .u64 o1),(.int .u64 o2),(.int .u64 o3)])),(some (.fl [(.int .u64 (Prod.fst (exOut 0 (Prod.fst (exOut 0 ((q*(6034159408538082302:Int)) % (18446744073709551616:Int)) r1 (0:Int))) cy (0:Int)))),(.int .u64 r1),(.int .u64 r2),(.int .u64 r3),(.int .u64 r4),(.int .u64 r5),(.int .u64 (0:Int)),(.int .u64 (0:Int)),(.int .u64 (0:Int)),(.int .u64 (0:Int))]))] 4704 [] []) cY aY→Wq Try.prog Q (pF_k) ac Exit.normal aY cY.w):Wq Try.prog Q (pE_k) ac .normal aX cX.w:=
  run_at2 (o:=⟨_,_,_,_,_,_,_⟩) envE_ok (by kernel_rfl) (pF_hk o0 o1 o2 o3 a b c d y0 y1 y2 y3 i q cy r0 r1 r2 r3 r4 r5) ho hs hK
noncomputable def pT2 (o0 o1 o2 o3 a b c d y0 y1 y2 y3:Int) (i:Nat) (q cy r0 r1 r2 r3 r4 r5:Int):St:=mkSt 176 [0,1,2,3,4,10,11,14,20,23,29,30] [(.v (.c (.slc 0 0 4 1))),(.v (.c (.sl (.u64 [a,b,c,d])))),(.v (.c (.sl (.u64 [y0,y1,y2,y3])))),(.v (.c (.sl (.u64 [(18446744069414584321:Int),(6034159408538082302:Int),(3691218898639771653:Int),(8353516859464449352:Int)])))),.iu (18446744069414584319:Int),.ii (4:Int),.pt 64 0,.v (.c (.int .u64 cy)),.v (.c (.int .u64 q)),.ii (1:Int),.ii (4:Int),(.ii (i:Int))] [0,64] [(some (.fl [(.int .u64 o0),(.int .u64 o1),(.int .u64 o2),(.int .u64 o3)])),some (.fl [.int .u64 r0,.int .u64 r1,.int .u64 r2,.int .u64 r3,.int .u64 r4,.int .u64 r5,.int .u64 0,.int .u64 0,.int .u64 0,.int .u64 0])] 4704 [] []
noncomputable def pG_k:List KI:=(run envE true 74 ((fun (o0 o1 o2 o3 a b c d y0 y1 y2 y3:Int) (i:Nat) (q cy r0 r1 r2 r3 r4 r5:Int)=>(⟨pF_k,.normal,pT2 o0 o1 o2 o3 a b c d y0 y1 y2 y3 i q cy r0 r1 r2 r3 r4 r5⟩:Cfg)) default default default default default default default default default default default default default default default default default default default default default) [true]).cfg.k
theorem pG_hk (o0 o1 o2 o3 a b c d y0 y1 y2 y3:Int) (i:Nat) (q cy r0 r1 r2 r3 r4 r5:Int):(run envE true 74 ((⟨pF_k,.normal,pT2 o0 o1 o2 o3 a b c d y0 y1 y2 y3 i q cy r0 r1 r2 r3 r4 r5⟩:Cfg)) [true]).cfg.k=pG_k:=by kernel_rfl
theorem pG (o0 o1 o2 o3 a b c d y0 y1 y2 y3:Int) (i:Nat) (q cy r0 r1 r2 r3 r4 r5:Int) (ho:AllP [((decide ((2:Int)<(4:Int)))=true),((0:Int)≤(2:Int)),((2:Int)<(4:Int)),((0:Int)≤q),(q<(18446744073709551616:Int)),((0:Int)≤(3691218898639771653:Int)),((3691218898639771653:Int)<(18446744073709551616:Int)),((0:Int)≤(2:Int)),((2:Int)<(10:Int)),((0:Int)≤((q*(3691218898639771653:Int)) % (18446744073709551616:Int))),((0:Int)≤r2),(r2<(18446744073709551616:Int)),((0:Int)≤(0:Int)),((0:Int)≤(1:Int)),((0:Int)≤(Prod.fst (exOut 0 ((q*(3691218898639771653:Int)) % (18446744073709551616:Int)) r2 (0:Int)))),((0:Int)≤cy),(cy<(18446744073709551616:Int)),((0:Int)≤(0:Int)),((0:Int)≤(1:Int)),((0:Int)≤(1:Int)),((1:Int)<(10:Int))]) (hs:Sim w0 F0 K ac (pT2 o0 o1 o2 o3 a b c d y0 y1 y2 y3 i q cy r0 r1 r2 r3 r4 r5) cX aX) (hK:∀ac cY aY,Sim w0 F0 K ac (mkSt 176 [0,1,2,3,4,10,11,14,20,23,29,30] [(.v (.c (.slc 0 0 4 1))),(.v (.c (.sl (.u64 [a,b,c,d])))),(.v (.c (.sl (.u64 [y0,y1,y2,y3])))),(.v (.c (.sl (.u64 [(18446744069414584321:Int),(6034159408538082302:Int),(3691218898639771653:Int),(8353516859464449352:Int)])))),.iu (18446744069414584319:Int),.ii (4:Int),.pt 64 0,(.iu (IntKind.wrap .u64 ((IntKind.wrap .u64 (((q*(3691218898639771653:Int)) / (18446744073709551616:Int))+(Prod.snd (exOut 0 ((q*(3691218898639771653:Int)) % (18446744073709551616:Int)) r2 (0:Int)))))+(Prod.snd (exOut 0 (Prod.fst (exOut 0 ((q*(3691218898639771653:Int)) % (18446744073709551616:Int)) r2 (0:Int))) cy (0:Int)))))),.iu q,.ii (2:Int),.ii (4:Int),(.ii (i:Int))] [0,64] [(some (.fl [(.int .u64 o0),(.int .u64 o1),(.int .u64 o2),(.int .u64 o3)])),(some (.fl [(.int .u64 r0),(.int .u64 (Prod.fst (exOut 0 (Prod.fst (exOut 0 ((q*(3691218898639771653:Int)) % (18446744073709551616:Int)) r2 (0:Int))) cy (0:Int)))),(.int .u64 r2),(.int .u64 r3),(.int .u64 r4),(.int .u64 r5),(.int .u64 (0:Int)),(.int .u64 (0:Int)),(.int .u64 (0:Int)),(.int .u64 (0:Int))]))] 5472 [] []) cY aY→Wq Try.prog Q (pG_k) ac Exit.normal aY cY.w):Wq Try.prog Q (pF_k) ac .normal aX cX.w:=
  run_at2 (o:=⟨_,_,_,_,_,_,_⟩) envE_ok (by kernel_rfl) (pG_hk o0 o1 o2 o3 a b c d y0 y1 y2 y3 i q cy r0 r1 r2 r3 r4 r5) ho hs hK
noncomputable def pT3 (o0 o1 o2 o3 a b c d y0 y1 y2 y3:Int) (i:Nat) (q cy r0 r1 r2 r3 r4 r5:Int):St:=mkSt 176 [0,1,2,3,4,10,11,14,20,23,29,30] [(.v (.c (.slc 0 0 4 1))),(.v (.c (.sl (.u64 [a,b,c,d])))),(.v (.c (.sl (.u64 [y0,y1,y2,y3])))),(.v (.c (.sl (.u64 [(18446744069414584321:Int),(6034159408538082302:Int),(3691218898639771653:Int),(8353516859464449352:Int)])))),.iu (18446744069414584319:Int),.ii (4:Int),.pt 64 0,.v (.c (.int .u64 cy)),.v (.c (.int .u64 q)),.ii (2:Int),.ii (4:Int),(.ii (i:Int))] [0,64] [(some (.fl [(.int .u64 o0),(.int .u64 o1),(.int .u64 o2),(.int .u64 o3)])),some (.fl [.int .u64 r0,.int .u64 r1,.int .u64 r2,.int .u64 r3,.int .u64 r4,.int .u64 r5,.int .u64 0,.int .u64 0,.int .u64 0,.int .u64 0])] 5472 [] []
noncomputable def pH_k:List KI:=(run envE true 74 ((fun (o0 o1 o2 o3 a b c d y0 y1 y2 y3:Int) (i:Nat) (q cy r0 r1 r2 r3 r4 r5:Int)=>(⟨pG_k,.normal,pT3 o0 o1 o2 o3 a b c d y0 y1 y2 y3 i q cy r0 r1 r2 r3 r4 r5⟩:Cfg)) default default default default default default default default default default default default default default default default default default default default default) [true]).cfg.k
theorem pH_hk (o0 o1 o2 o3 a b c d y0 y1 y2 y3:Int) (i:Nat) (q cy r0 r1 r2 r3 r4 r5:Int):(run envE true 74 ((⟨pG_k,.normal,pT3 o0 o1 o2 o3 a b c d y0 y1 y2 y3 i q cy r0 r1 r2 r3 r4 r5⟩:Cfg)) [true]).cfg.k=pH_k:=by kernel_rfl
theorem pH (o0 o1 o2 o3 a b c d y0 y1 y2 y3:Int) (i:Nat) (q cy r0 r1 r2 r3 r4 r5:Int) (ho:AllP [((decide ((3:Int)<(4:Int)))=true),((0:Int)≤(3:Int)),((3:Int)<(4:Int)),((0:Int)≤q),(q<(18446744073709551616:Int)),((0:Int)≤(8353516859464449352:Int)),((8353516859464449352:Int)<(18446744073709551616:Int)),((0:Int)≤(3:Int)),((3:Int)<(10:Int)),((0:Int)≤((q*(8353516859464449352:Int)) % (18446744073709551616:Int))),((0:Int)≤r3),(r3<(18446744073709551616:Int)),((0:Int)≤(0:Int)),((0:Int)≤(1:Int)),((0:Int)≤(Prod.fst (exOut 0 ((q*(8353516859464449352:Int)) % (18446744073709551616:Int)) r3 (0:Int)))),((0:Int)≤cy),(cy<(18446744073709551616:Int)),((0:Int)≤(0:Int)),((0:Int)≤(1:Int)),((0:Int)≤(2:Int)),((2:Int)<(10:Int))]) (hs:Sim w0 F0 K ac (pT3 o0 o1 o2 o3 a b c d y0 y1 y2 y3 i q cy r0 r1 r2 r3 r4 r5) cX aX) (hK:∀ac cY aY,Sim w0 F0 K ac (mkSt 176 [0,1,2,3,4,10,11,14,20,23,29,30] [(.v (.c (.slc 0 0 4 1))),(.v (.c (.sl (.u64 [a,b,c,d])))),(.v (.c (.sl (.u64 [y0,y1,y2,y3])))),(.v (.c (.sl (.u64 [(18446744069414584321:Int),(6034159408538082302:Int),(3691218898639771653:Int),(8353516859464449352:Int)])))),.iu (18446744069414584319:Int),.ii (4:Int),.pt 64 0,(.iu (IntKind.wrap .u64 ((IntKind.wrap .u64 (((q*(8353516859464449352:Int)) / (18446744073709551616:Int))+(Prod.snd (exOut 0 ((q*(8353516859464449352:Int)) % (18446744073709551616:Int)) r3 (0:Int)))))+(Prod.snd (exOut 0 (Prod.fst (exOut 0 ((q*(8353516859464449352:Int)) % (18446744073709551616:Int)) r3 (0:Int))) cy (0:Int)))))),.iu q,.ii (3:Int),.ii (4:Int),(.ii (i:Int))] [0,64] [(some (.fl [(.int .u64 o0),(.int .u64 o1),(.int .u64 o2),(.int .u64 o3)])),(some (.fl [(.int .u64 r0),(.int .u64 r1),(.int .u64 (Prod.fst (exOut 0 (Prod.fst (exOut 0 ((q*(8353516859464449352:Int)) % (18446744073709551616:Int)) r3 (0:Int))) cy (0:Int)))),(.int .u64 r3),(.int .u64 r4),(.int .u64 r5),(.int .u64 (0:Int)),(.int .u64 (0:Int)),(.int .u64 (0:Int)),(.int .u64 (0:Int))]))] 6240 [] []) cY aY→Wq Try.prog Q (pH_k) ac Exit.normal aY cY.w):Wq Try.prog Q (pG_k) ac .normal aX cX.w:=
  run_at2 (o:=⟨_,_,_,_,_,_,_⟩) envE_ok (by kernel_rfl) (pH_hk o0 o1 o2 o3 a b c d y0 y1 y2 y3 i q cy r0 r1 r2 r3 r4 r5) ho hs hK
noncomputable def pT4 (o0 o1 o2 o3 a b c d y0 y1 y2 y3:Int) (i:Nat) (q cy r0 r1 r2 r3 r4 r5:Int):St:=mkSt 176 [0,1,2,3,4,10,11,14,20,23,29,30] [(.v (.c (.slc 0 0 4 1))),(.v (.c (.sl (.u64 [a,b,c,d])))),(.v (.c (.sl (.u64 [y0,y1,y2,y3])))),(.v (.c (.sl (.u64 [(18446744069414584321:Int),(6034159408538082302:Int),(3691218898639771653:Int),(8353516859464449352:Int)])))),.iu (18446744069414584319:Int),.ii (4:Int),.pt 64 0,.v (.c (.int .u64 cy)),.v (.c (.int .u64 q)),.ii (3:Int),.ii (4:Int),(.ii (i:Int))] [0,64] [(some (.fl [(.int .u64 o0),(.int .u64 o1),(.int .u64 o2),(.int .u64 o3)])),some (.fl [.int .u64 r0,.int .u64 r1,.int .u64 r2,.int .u64 r3,.int .u64 r4,.int .u64 r5,.int .u64 0,.int .u64 0,.int .u64 0,.int .u64 0])] 6240 [] []
theorem pI_hk (o0 o1 o2 o3 a b c d y0 y1 y2 y3:Int) (i:Nat) (q cy r0 r1 r2 r3 r4 r5:Int):(run envE true 50 ((⟨pH_k,.normal,pT4 o0 o1 o2 o3 a b c d y0 y1 y2 y3 i q cy r0 r1 r2 r3 r4 r5⟩:Cfg)) [false]).cfg.k=lpBk pIn_k:=by kernel_rfl
theorem pI (o0 o1 o2 o3 a b c d y0 y1 y2 y3:Int) (i:Nat) (q cy r0 r1 r2 r3 r4 r5:Int) (ho:AllP [((decide ((4:Int)<(4:Int)))=false),((0:Int)≤(4:Int)),((4:Int)<(10:Int)),((0:Int)≤r4),((0:Int)≤cy),(cy<(18446744073709551616:Int)),((0:Int)≤(0:Int)),((0:Int)≤(1:Int)),((0:Int)≤(3:Int)),((3:Int)<(10:Int)),((0:Int)≤(5:Int)),((5:Int)<(10:Int)),((0:Int)≤(4:Int)),((4:Int)<(10:Int))]) (hs:Sim w0 F0 K ac (pT4 o0 o1 o2 o3 a b c d y0 y1 y2 y3 i q cy r0 r1 r2 r3 r4 r5) cX aX) (hK:∀ac cY aY,Sim w0 F0 K ac (mkSt 176 [0,1,2,3,4,10,11,29,30] [(.v (.c (.slc 0 0 4 1))),(.v (.c (.sl (.u64 [a,b,c,d])))),(.v (.c (.sl (.u64 [y0,y1,y2,y3])))),(.v (.c (.sl (.u64 [(18446744069414584321:Int),(6034159408538082302:Int),(3691218898639771653:Int),(8353516859464449352:Int)])))),.iu (18446744069414584319:Int),.ii (4:Int),.pt 64 0,.ii (4:Int),(.ii (IntKind.wrap .i64 ((i:Int)+(1:Int))))] [0,64] [(some (.fl [(.int .u64 o0),(.int .u64 o1),(.int .u64 o2),(.int .u64 o3)])),(some (.fl [(.int .u64 r0),(.int .u64 r1),(.int .u64 r2),(.int .u64 (Prod.fst (exOut 0 r4 cy (0:Int)))),(.int .u64 (IntKind.wrap .u64 (r5+(Prod.snd (exOut 0 r4 cy (0:Int)))))),(.int .u64 r5),(.int .u64 (0:Int)),(.int .u64 (0:Int)),(.int .u64 (0:Int)),(.int .u64 (0:Int))]))] 6720 [] []) cY aY→Wq Try.prog Q (lpBk pIn_k) ac Exit.normal aY cY.w):Wq Try.prog Q (pH_k) ac .normal aX cX.w:=
  run_at2 (o:=⟨_,_,_,_,_,_,_⟩) envE_ok (by kernel_rfl) (pI_hk o0 o1 o2 o3 a b c d y0 y1 y2 y3 i q cy r0 r1 r2 r3 r4 r5) ho hs hK
end
end Go.Proofs.Ytdeohachoeopdaa.S4

/- mont.Product, for four limbs: a product, as it is reckoned. No conditions. -/
namespace Go.Proofs.Ytdeohachoeopdaa.S4

section
variable {w0:World} {F0:Nat→Prop} {K:Kp} {ac:List Act} {Q:Exit→Act→World→Prop} {cX:Ctx} {aX:Act}

theorem sPA (o0 o1 o2 o3 a b c d y0 y1 y2 y3:Int) (i:Nat) {r0 r1 r2 r3 r4 r5 x:Int} (hi:i<4) (he:List.getD [a,b,c,d] i 0=x) (hx:Lim x) (hy:Lim y0) (hr:Lim r0) (hs:Sim w0 F0 K ac (pS o0 o1 o2 o3 a b c d y0 y1 y2 y3 i r0 r1 r2 r3 r4 r5) cX aX)
    (k:∀n cy:Int,x*y0+r0+0=n+18446744073709551616*cy→Lim n→Lim cy→∀ac cY aY,Sim w0 F0 K ac (pS1 o0 o1 o2 o3 a b c d y0 y1 y2 y3 i x cy n r1 r2 r3 r4 r5) cY aY→Wq Try.prog Q pA_k ac .normal aY cY.w):Wq Try.prog Q (lpIn pIn_k) ac .normal aX cX.w:=by
  obtain ⟨x0,x1⟩:=hx
  obtain ⟨yy0,yy1⟩:=hy
  obtain ⟨rr0,rr1⟩:=hr
  have e:=mac x0 x1 yy0 yy1 rr0 rr1 (u:=0) (by decide) (by decide)
  have sA:=@pA o0 o1 o2 o3 a b c d y0 y1 y2 y3 i r0 r1 r2 r3 r4 r5 w0 F0 K ac Q cX aX
  rw[Int.toNat_natCast,he] at sA
  obtain ⟨e1,l1,u1,m1⟩:=e
  refine sA ?_ hs fun ac cY aY h=>k _ _ e1 l1 u1 ac cY aY h
  simp only[AllP,and_true,decide_eq_true_eq]
  omega

theorem sPB (o0 o1 o2 o3 a b c d y0 y1 y2 y3:Int) (i:Nat) {x cy r0 r1 r2 r3 r4 r5:Int} (hx:Lim x) (hy:Lim y1) (hr:Lim r1) (hc:Lim cy) (hs:Sim w0 F0 K ac (pS1 o0 o1 o2 o3 a b c d y0 y1 y2 y3 i x cy r0 r1 r2 r3 r4 r5) cX aX)
    (k:∀n cy' : Int,x*y1+r1+cy=n+18446744073709551616*cy' → Lim n→Lim cy' → ∀ac cY aY,Sim w0 F0 K ac (pS2 o0 o1 o2 o3 a b c d y0 y1 y2 y3 i x cy' r0 n r2 r3 r4 r5) cY aY→Wq Try.prog Q pB_k ac .normal aY cY.w):Wq Try.prog Q pA_k ac .normal aX cX.w:=by
  obtain ⟨x0,x1⟩:=hx
  obtain ⟨yy0,yy1⟩:=hy
  obtain ⟨rr0,rr1⟩:=hr
  obtain ⟨cc0,cc1⟩:=hc
  obtain ⟨e1,l1,u1,m1⟩:=mac x0 x1 yy0 yy1 rr0 rr1 cc0 cc1
  refine pB o0 o1 o2 o3 a b c d y0 y1 y2 y3 i x cy r0 r1 r2 r3 r4 r5 ?_ hs fun ac cY aY h=>k _ _ e1 l1 u1 ac cY aY h
  simp only[AllP,and_true,decide_eq_true_eq]
  omega

theorem sPC (o0 o1 o2 o3 a b c d y0 y1 y2 y3:Int) (i:Nat) {x cy r0 r1 r2 r3 r4 r5:Int} (hx:Lim x) (hy:Lim y2) (hr:Lim r2) (hc:Lim cy) (hs:Sim w0 F0 K ac (pS2 o0 o1 o2 o3 a b c d y0 y1 y2 y3 i x cy r0 r1 r2 r3 r4 r5) cX aX)
    (k:∀n cy' : Int,x*y2+r2+cy=n+18446744073709551616*cy' → Lim n→Lim cy' → ∀ac cY aY,Sim w0 F0 K ac (pS3 o0 o1 o2 o3 a b c d y0 y1 y2 y3 i x cy' r0 r1 n r3 r4 r5) cY aY→Wq Try.prog Q pC_k ac .normal aY cY.w):Wq Try.prog Q pB_k ac .normal aX cX.w:=by
  obtain ⟨x0,x1⟩:=hx
  obtain ⟨yy0,yy1⟩:=hy
  obtain ⟨rr0,rr1⟩:=hr
  obtain ⟨cc0,cc1⟩:=hc
  obtain ⟨e1,l1,u1,m1⟩:=mac x0 x1 yy0 yy1 rr0 rr1 cc0 cc1
  refine pC o0 o1 o2 o3 a b c d y0 y1 y2 y3 i x cy r0 r1 r2 r3 r4 r5 ?_ hs fun ac cY aY h=>k _ _ e1 l1 u1 ac cY aY h
  simp only[AllP,and_true,decide_eq_true_eq]
  omega

theorem sPD (o0 o1 o2 o3 a b c d y0 y1 y2 y3:Int) (i:Nat) {x cy r0 r1 r2 r3 r4 r5:Int} (hx:Lim x) (hy:Lim y3) (hr:Lim r3) (hc:Lim cy) (hs:Sim w0 F0 K ac (pS3 o0 o1 o2 o3 a b c d y0 y1 y2 y3 i x cy r0 r1 r2 r3 r4 r5) cX aX)
    (k:∀n cy' : Int,x*y3+r3+cy=n+18446744073709551616*cy' → Lim n→Lim cy' → ∀ac cY aY,Sim w0 F0 K ac (pS4 o0 o1 o2 o3 a b c d y0 y1 y2 y3 i x cy' r0 r1 r2 n r4 r5) cY aY→Wq Try.prog Q pD_k ac .normal aY cY.w):Wq Try.prog Q pC_k ac .normal aX cX.w:=by
  obtain ⟨x0,x1⟩:=hx
  obtain ⟨yy0,yy1⟩:=hy
  obtain ⟨rr0,rr1⟩:=hr
  obtain ⟨cc0,cc1⟩:=hc
  obtain ⟨e1,l1,u1,m1⟩:=mac x0 x1 yy0 yy1 rr0 rr1 cc0 cc1
  refine pD o0 o1 o2 o3 a b c d y0 y1 y2 y3 i x cy r0 r1 r2 r3 r4 r5 ?_ hs fun ac cY aY h=>k _ _ e1 l1 u1 ac cY aY h
  simp only[AllP,and_true,decide_eq_true_eq]
  omega

theorem sPE (o0 o1 o2 o3 a b c d y0 y1 y2 y3:Int) (i:Nat) {x cy r0 r1 r2 r3 r4 r5:Int} (hr0:Lim r0) (hr4:Lim r4) (hc:Lim cy) (hs:Sim w0 F0 K ac (pS4 o0 o1 o2 o3 a b c d y0 y1 y2 y3 i x cy r0 r1 r2 r3 r4 r5) cX aX)
    (k:∀q cy' n4 n5:Int,r4+cy+0=n4+18446744073709551616*n5→q*18446744069414584321+r0=18446744073709551616*cy' → Lim n4→0≤n5→n5≤1→Lim q→Lim cy' → ∀ac cY aY,Sim w0 F0 K ac (pT1 o0 o1 o2 o3 a b c d y0 y1 y2 y3 i q cy' r0 r1 r2 r3 n4 n5) cY aY→Wq Try.prog Q pE_k ac .normal aY cY.w):Wq Try.prog Q pD_k ac .normal aX cX.w:=by
  obtain ⟨rr0,rr1⟩:=hr0
  obtain ⟨rr4,rr5⟩:=hr4
  obtain ⟨cc0,cc1⟩:=hc
  obtain ⟨e1,p1,p1',q1,q1'⟩:=add_step (c:=0) rr4 rr5 cc0 cc1 (by decide) (by decide)
  have hq:=wrap_lim (r0*18446744069414584319)
  have e2:=mac1 (b:=18446744069414584321) hq.1 hq.2 (by decide) (by decide) rr0 rr1
  have e3:=negR_low (l:=r0) rfl
  obtain ⟨hq0,hq1⟩:=hq
  obtain ⟨e2,⟨f1,f2⟩,f3⟩:=e2
  refine pE o0 o1 o2 o3 a b c d y0 y1 y2 y3 i x cy r0 r1 r2 r3 r4 r5 ?_ hs fun ac cY aY h=>k _ _ _ _ e1 ?_ ⟨p1,p1'⟩ q1 q1' ⟨hq0,hq1⟩ f3 ac cY aY h
  · simp only[AllP,and_true,decide_eq_false_iff_not]
    omega
  · omega

theorem sPF (o0 o1 o2 o3 a b c d y0 y1 y2 y3:Int) (i:Nat) {q cy r0 r1 r2 r3 r4 r5:Int} (hq:Lim q) (hr:Lim r1) (hc:Lim cy) (hs:Sim w0 F0 K ac (pT1 o0 o1 o2 o3 a b c d y0 y1 y2 y3 i q cy r0 r1 r2 r3 r4 r5) cX aX)
    (k:∀n cy' : Int,q*6034159408538082302+r1+cy=n+18446744073709551616*cy' → Lim n→Lim cy' → ∀ac cY aY,Sim w0 F0 K ac (pT2 o0 o1 o2 o3 a b c d y0 y1 y2 y3 i q cy' n r1 r2 r3 r4 r5) cY aY→Wq Try.prog Q pF_k ac .normal aY cY.w):Wq Try.prog Q pE_k ac .normal aX cX.w:=by
  obtain ⟨x0,x1⟩:=hq
  obtain ⟨rr0,rr1⟩:=hr
  obtain ⟨cc0,cc1⟩:=hc
  obtain ⟨e1,l1,u1,m1⟩:=mac (b:=6034159408538082302) x0 x1 (by decide) (by decide) rr0 rr1 cc0 cc1
  refine pF o0 o1 o2 o3 a b c d y0 y1 y2 y3 i q cy r0 r1 r2 r3 r4 r5 ?_ hs fun ac cY aY h=>k _ _ e1 l1 u1 ac cY aY h
  simp only[AllP,and_true,decide_eq_true_eq]
  omega

theorem sPG (o0 o1 o2 o3 a b c d y0 y1 y2 y3:Int) (i:Nat) {q cy r0 r1 r2 r3 r4 r5:Int} (hq:Lim q) (hr:Lim r2) (hc:Lim cy) (hs:Sim w0 F0 K ac (pT2 o0 o1 o2 o3 a b c d y0 y1 y2 y3 i q cy r0 r1 r2 r3 r4 r5) cX aX)
    (k:∀n cy' : Int,q*3691218898639771653+r2+cy=n+18446744073709551616*cy' → Lim n→Lim cy' → ∀ac cY aY,Sim w0 F0 K ac (pT3 o0 o1 o2 o3 a b c d y0 y1 y2 y3 i q cy' r0 n r2 r3 r4 r5) cY aY→Wq Try.prog Q pG_k ac .normal aY cY.w):Wq Try.prog Q pF_k ac .normal aX cX.w:=by
  obtain ⟨x0,x1⟩:=hq
  obtain ⟨rr0,rr1⟩:=hr
  obtain ⟨cc0,cc1⟩:=hc
  obtain ⟨e1,l1,u1,m1⟩:=mac (b:=3691218898639771653) x0 x1 (by decide) (by decide) rr0 rr1 cc0 cc1
  refine pG o0 o1 o2 o3 a b c d y0 y1 y2 y3 i q cy r0 r1 r2 r3 r4 r5 ?_ hs fun ac cY aY h=>k _ _ e1 l1 u1 ac cY aY h
  simp only[AllP,and_true,decide_eq_true_eq]
  omega

theorem sPH (o0 o1 o2 o3 a b c d y0 y1 y2 y3:Int) (i:Nat) {q cy r0 r1 r2 r3 r4 r5:Int} (hq:Lim q) (hr:Lim r3) (hc:Lim cy) (hs:Sim w0 F0 K ac (pT3 o0 o1 o2 o3 a b c d y0 y1 y2 y3 i q cy r0 r1 r2 r3 r4 r5) cX aX)
    (k:∀n cy' : Int,q*8353516859464449352+r3+cy=n+18446744073709551616*cy' → Lim n→Lim cy' → ∀ac cY aY,Sim w0 F0 K ac (pT4 o0 o1 o2 o3 a b c d y0 y1 y2 y3 i q cy' r0 r1 n r3 r4 r5) cY aY→Wq Try.prog Q pH_k ac .normal aY cY.w):Wq Try.prog Q pG_k ac .normal aX cX.w:=by
  obtain ⟨x0,x1⟩:=hq
  obtain ⟨rr0,rr1⟩:=hr
  obtain ⟨cc0,cc1⟩:=hc
  obtain ⟨e1,l1,u1,m1⟩:=mac (b:=8353516859464449352) x0 x1 (by decide) (by decide) rr0 rr1 cc0 cc1
  refine pH o0 o1 o2 o3 a b c d y0 y1 y2 y3 i q cy r0 r1 r2 r3 r4 r5 ?_ hs fun ac cY aY h=>k _ _ e1 l1 u1 ac cY aY h
  simp only[AllP,and_true,decide_eq_true_eq]
  omega

theorem sPI (o0 o1 o2 o3 a b c d y0 y1 y2 y3:Int) (i:Nat) {q cy r0 r1 r2 r3 r4 r5:Int} (hi:i<4) (hr4:Lim r4) (hc:Lim cy) (hs:Sim w0 F0 K ac (pT4 o0 o1 o2 o3 a b c d y0 y1 y2 y3 i q cy r0 r1 r2 r3 r4 r5) cX aX)
    (k:∀n3 c4:Int,r4+cy+0=n3+18446744073709551616*c4→Lim n3→0≤c4→c4≤1→∀ac cY aY,Sim w0 F0 K ac (pS o0 o1 o2 o3 a b c d y0 y1 y2 y3 (i+1) r0 r1 r2 n3 (IntKind.wrap IntKind.u64 (r5+c4)) r5) cY aY→Wq Try.prog Q (lpBk pIn_k) ac .normal aY cY.w):Wq Try.prog Q pH_k ac .normal aX cX.w:=by
  obtain ⟨rr4,rr5⟩:=hr4
  obtain ⟨cc0,cc1⟩:=hc
  obtain ⟨e1,p1,p1',q1,q1'⟩:=add_step (c:=0) rr4 rr5 cc0 cc1 (by decide) (by decide)
  refine pI o0 o1 o2 o3 a b c d y0 y1 y2 y3 i q cy r0 r1 r2 r3 r4 r5 ?_ hs fun ac cY aY h=>k _ _ e1 ⟨p1,p1'⟩ q1 q1' ac cY aY (by rw[wrap_id (by omega) (by omega)] at h;exact h.nx _)
  simp only[AllP,and_true,decide_eq_false_iff_not]
  omega

end

end Go.Proofs.Ytdeohachoeopdaa.S4

/- mont.Product, for four limbs, whole: the product of two numbers, times 2 to the power of -256, modulo r. No conditions. -/
namespace Go.Proofs.Ytdeohachoeopdaa.S4

structure PInv (A Y i:Nat) (r0 r1 r2 r3 r4:Int):Prop where
  i4:i≤4
  h0:Lim r0
  h1:Lim r1
  h2:Lim r2
  h3:Lim r3
  h4:r4=0
  lt:num4 r0 r1 r2 r3<2*rN
  eq:∃Q:Nat,num4 r0 r1 r2 r3*((2 ^ (64*i):Nat):Int)=((A % 2 ^ (64*i):Nat):Int)*(Y:Int)+(Q:Int)*(rN:Int)

theorem round_eqN {A Y r i Q:Nat} {T T' q:Int} (hq:0≤q) (h:T*((2 ^ (64*i):Nat):Int)=((A % 2 ^ (64*i):Nat):Int)*(Y:Int)+(Q:Int)*(r:Int))
    (h' : 18446744073709551616*T' = T+limb A i*(Y:Int)+q*(r:Int)) :
    ∃Q:Nat,T' * ((2 ^ (64*(i+1)):Nat):Int)=((A % 2 ^ (64*(i+1)):Nat):Int)*(Y:Int)+(Q:Int)*(r:Int):=by
  obtain ⟨q,rfl⟩:=Int.eq_ofNat_of_zero_le hq
  refine ⟨Q+q*2 ^ (64*i),?_⟩
  rw[mod_next]
  have hp:(2:Nat) ^ (64*(i+1))=2 ^ (64*i)*18446744073709551616:=by rw[Nat.mul_add,Nat.pow_add]
  rw[hp]
  have hl:limb A i=((A / 2 ^ (64*i) % 18446744073709551616:Nat):Int):=rfl
  rw[hl] at h'
  generalize A / 2 ^ (64*i) % 18446744073709551616=xi at *
  generalize A % 2 ^ (64*i)=X at *
  generalize 2 ^ (64*i)=m at *
  have e1:T' * ((m*18446744073709551616:Nat):Int)=(18446744073709551616*T')*(m:Int):=by
    rw[Int.natCast_mul,Int.mul_comm (m:Int),←Int.mul_assoc,Int.mul_comm T'];rfl
  rw[e1,h',Int.add_mul,Int.add_mul,h]
  push_cast
  simp only[Int.add_mul,Int.mul_assoc]
  have e2:(xi:Int)*((Y:Int)*(m:Int))=(m:Int)*((xi:Int)*(Y:Int)):=by rw[←Int.mul_assoc,Int.mul_comm]
  have e3:(q:Int)*((r:Int)*(m:Int))=(q:Int)*((m:Int)*(r:Int)):=by rw[Int.mul_comm (r:Int)]
  rw[e2,e3]
  omega

theorem out_abs {r B v T X Q:Nat} (e:v*B % r=1 % r) (h:T*B=X+Q*r):T % r=X*v % r:=by
  have h2:∀a:Nat,a*(v*B) % r=a % r:=fun a=>by rw[←Nat.mul_mod_mod,e,Nat.mul_mod_mod,Nat.mul_one]
  calc T % r=T*(v*B) % r:=(h2 _).symm
    _=(T*B)*v % r:=by congr 1;simp only[Nat.mul_comm,Nat.mul_left_comm]
    _=X*v % r:=by rw[h,Nat.add_mul,Nat.mul_assoc Q,Nat.mul_comm r,←Nat.mul_assoc,Nat.add_mul_mod_self_right]

theorem redU_congr {a b:Nat} (h:a % rN=b % rN):redU a=redU b:=by unfold redU;rw[h]

theorem product_mu (o0 o1 o2 o3:Int) (A Y:Nat) (hA:A<B4) (hY:Y<rN) :
    MuC Try.prog 54 0 4 1 (fl4 o0 o1 o2 o3) [u4s (limb A 0) (limb A 1) (limb A 2) (limb A 3),u4s (limb Y 0) (limb Y 1) (limb Y 2) (limb Y 3),mR,.v (.c (.int .u64 18446744069414584319))] (.fl [.ob (.fr (redU (A*Y*rinv)))]):=by
  refine mu_start (fn:=Try.f54) (c:=bodyOf Try.f54) Try.func54 rfl rfl fun x0 a0 hk hm hs=>?_
  obtain ⟨ey,y0,y0',y1,y1',y2,y2',y3,y3'⟩:=limbsOf4 Y (Nat.lt_trans hY (by decide))
  obtain ⟨ea,z0,z0',z1,z1',z2,z2',z3,z3'⟩:=limbsOf4 A hA
  have hyr:(Y:Int)<(rN:Int):=by exact_mod_cast hY
  have hin:=@pIn o0 o1 o2 o3 (limb A 0) (limb A 1) (limb A 2) (limb A 3) (limb Y 0) (limb Y 1) (limb Y 2) (limb Y 3)
  have hget:∀i,i<4→List.getD [limb A 0,limb A 1,limb A 2,limb A 3] i 0=limb A i:=by
    intro i hi
    have:i=0∨i=1∨i=2∨i=3:=by omega
    rcases this with rfl | rfl | rfl | rfl<;>rfl
  have hmul:=fun z=>num4_mul z (limb Y 0) (limb Y 1) (limb Y 2) (limb Y 3)
  have hyn:(Y:Int)=num4 (limb Y 0) (limb Y 1) (limb Y 2) (limb Y 3):=ey
  rw[←hyn] at hmul
  have hx0:∀i,0≤limb A i:=fun i=>Int.natCast_nonneg _
  have hx1:∀i,limb A i<18446744073709551616:=fun i=>by
    show ((A / 2 ^ (64*i) % 18446744073709551616:Nat):Int)<18446744073709551616
    omega
  have hlimY0:Lim (limb Y 0):=⟨y0,y0'⟩
  have hlimY1:Lim (limb Y 1):=⟨y1,y1'⟩
  have hlimY2:Lim (limb Y 2):=⟨y2,y2'⟩
  have hlimY3:Lim (limb Y 3):=⟨y3,y3'⟩
  clear ey ea y0 y0' y1 y1' y2 y2' y3 y3' z0 z0' z1 z1' z2 z2' z3 z3'
  have hT4:A % 2 ^ (64*4)=A:=Nat.mod_eq_of_lt (by rw[pow4'];exact hA)
  generalize limb A 0=a at *
  generalize limb A 1=b at *
  generalize limb A 2=c at *
  generalize limb A 3=d at *
  generalize limb Y 0=v0 at *
  generalize limb Y 1=v1 at *
  generalize limb Y 2=v2 at *
  generalize limb Y 3=v3 at *
  refine hin trivial hs fun ac cY aY hs1=>?_
  refine loop_rule (ι:={ p:Nat×Int×Int×Int×Int×Int×Int // PInv A Y p.1 p.2.1 p.2.2.1 p.2.2.2.1 p.2.2.2.2.1 p.2.2.2.2.2.1 })
    (fun p=>pS o0 o1 o2 o3 a b c d v0 v1 v2 v3 p.1.1 p.1.2.1 p.1.2.2.1 p.1.2.2.2.1 p.1.2.2.2.2.1 p.1.2.2.2.2.2.1 p.1.2.2.2.2.2.2) (fun p=>4-p.1.1) (c:=lpC pIn_k) (k:=lpR pIn_k) (by kernel_rfl) (fun p ih ac cY aY hs=>?_)
    ⟨(0,0,0,0,0,0,0),⟨by decide,⟨by decide,by decide⟩,⟨by decide,by decide⟩,⟨by decide,by decide⟩,⟨by decide,by decide⟩,rfl,by decide,0,by simp [num4,Nat.mod_one]⟩⟩ hs1
  obtain ⟨⟨i,r0,r1,r2,r3,r4,r5⟩,hI⟩:=p
  simp only at ih hs hI
  obtain ⟨hi,h0,h1,h2,h3,h4,hlt,Q,hQ⟩:=hI
  subst h4
  by_cases h5:i<4
  · have hround:=fun T' q hq=>round_eqN (A:=A) (Y:=Y) (r:=rN) (i:=i) (Q:=Q) (T:=num4 r0 r1 r2 r3) (T' := T') (q:=q) hq hQ
    have hzz:limb A i*(Y:Int)≤18446744073709551615*(Y:Int):=Int.mul_le_mul_of_nonneg_right (by have:=hx1 i;omega) (by omega)
    have hz0:0≤limb A i*(Y:Int):=Int.mul_nonneg (hx0 i) (by omega)
    have hlx:Lim (limb A i):=⟨hx0 i,hx1 i⟩
    refine sPA o0 o1 o2 o3 a b c d v0 v1 v2 v3 i h5 (hget i h5) hlx hlimY0 h0 hs fun a0 c0 eA la0 lc0 ac cY aY hs=>?_
    refine sPB o0 o1 o2 o3 a b c d v0 v1 v2 v3 i hlx hlimY1 h1 lc0 hs fun a1 c1 eB la1 lc1 ac cY aY hs=>?_
    refine sPC o0 o1 o2 o3 a b c d v0 v1 v2 v3 i hlx hlimY2 h2 lc1 hs fun a2 c2 eC la2 lc2 ac cY aY hs=>?_
    refine sPD o0 o1 o2 o3 a b c d v0 v1 v2 v3 i hlx hlimY3 h3 lc2 hs fun a3 c3 eD la3 lc3 ac cY aY hs=>?_
    refine sPE o0 o1 o2 o3 a b c d v0 v1 v2 v3 i la0 ⟨by decide,by decide⟩ lc3 hs fun q d0 n4 n5 eE eQ ln4 n50 n51 lq ld0 ac cY aY hs=>?_
    refine sPF o0 o1 o2 o3 a b c d v0 v1 v2 v3 i lq la1 ld0 hs fun b0 d1 eF lb0 ld1 ac cY aY hs=>?_
    refine sPG o0 o1 o2 o3 a b c d v0 v1 v2 v3 i lq la2 ld1 hs fun b1 d2 eG lb1 ld2 ac cY aY hs=>?_
    refine sPH o0 o1 o2 o3 a b c d v0 v1 v2 v3 i lq la3 ld2 hs fun b2 d3 eH lb2 ld3 ac cY aY hs=>?_
    refine sPI o0 o1 o2 o3 a b c d v0 v1 v2 v3 i h5 ln4 ld3 hs fun b3 c4 eI lb3 c40 c41 ac cY aY hs=>?_
    have hall:18446744073709551616*(num4 b0 b1 b2 b3+115792089237316195423570985008687907853269984665640564039457584007913129639936*(n5+c4))=num4 r0 r1 r2 r3+limb A i*(Y:Int)+q*(rN:Int):=by
      rw[hmul]
      clear hround hmul hzz hz0 hQ ih hyr hyn
      unfold num4 rN
      omega
    have hlt' : num4 b0 b1 b2 b3+115792089237316195423570985008687907853269984665640564039457584007913129639936*(n5+c4)<2*rN:=by
      obtain ⟨q0,q1⟩:=lq
      have:q*(rN:Int)≤18446744073709551615*(rN:Int):=Int.mul_le_mul_of_nonneg_right (by omega) (by omega)
      clear hround hmul hQ ih hyn
      generalize limb A i*(Y:Int)=z at *
      generalize q*(rN:Int)=z' at *
      omega
    have htop:n5+c4=0:=by
      obtain ⟨_,_⟩:=lb0
      obtain ⟨_,_⟩:=lb1
      obtain ⟨_,_⟩:=lb2
      obtain ⟨_,_⟩:=lb3
      unfold num4 rN at hlt'
      omega
    rw[htop,Int.mul_zero,Int.add_zero] at hall hlt'
    rw[htop] at hs
    exact ih ⟨(i+1,b0,b1,b2,b3,IntKind.wrap IntKind.u64 0,n5),⟨h5,lb0,lb1,lb2,lb3,rfl,hlt',hround _ q lq.1 hall⟩⟩ (by show 4-(i+1)<4-i;omega) ac cY aY hs
  · have hi4:i=4:=by omega
    subst hi4
    have hT:0≤num4 r0 r1 r2 r3:=by
      obtain ⟨_,_⟩:=h0
      obtain ⟨_,_⟩:=h1
      obtain ⟨_,_⟩:=h2
      obtain ⟨_,_⟩:=h3
      unfold num4
      omega
    rw[hT4] at hQ
    have hb4:(2 ^ (64*4):Nat)=B4:=pow4'
    rw[hb4] at hQ
    have hlast:=last_eq hT hQ
    have hred:redU (num4 r0 r1 r2 r3).toNat=redU (A*Y*rinv):=redU_congr (out_abs rinv_B4 hlast)
    rw[←hred]
    refine mu_end envE_ok hk hm (pX o0 o1 o2 o3 a b c d v0 v1 v2 v3 4 r0 r1 r2 r3 0 r5) rfl ?_ (fun y cs h=>h) (.inl ⟨_,_,rfl,rfl⟩) hs
    refine ⟨by decide,by decide,by decide,by decide,by decide,h0,h1,h2,h3,hlt,rfl,rfl,rfl,rfl,rfl,trivial⟩

end Go.Proofs.Ytdeohachoeopdaa.S4

/- core.InS, S.Out, walked. No conditions. -/
namespace Go.Proofs.Ytdeohachoeopdaa.S4

theorem MuC.pre {P:Program} {f off len es:Nat} {e1 e2 e' : En} {rest:List SV} (h:MuC P f off len es e2 rest e') (hl:∃l l',e1 = .fl l∧e2 = .fl l') (hd:∀x cs,denEn x e1 cs→denEn x e2 cs):MuC P f off len es e1 rest e' := by
  intro x vs hk hm hden
  obtain ⟨l,l',rfl,rfl⟩:=hl
  refine h x vs hk ⟨fun p=>?_,fun p r hp=>?_,fun p q hp hn=>?_,fun p e hp hr=>?_,hm.inj,hm.own,hm.fw⟩ hden
  · rw[←hm.dom p]
    by_cases h0:p=0<;>simp [one,h0]
  · by_cases h0:p=0
    · subst h0;exact hm.fl 0 l rfl
    · simp [one,h0] at hp
  · by_cases h0:p=0
    · subst h0;simp [one] at hp
    · simp [one,h0] at hp
  · by_cases h0:p=0
    · subst h0
      simp only[one,if_true,Option.some.injEq] at hp
      subst hp
      obtain ⟨cs,ty,hc,hdd⟩:=hm.ent 0 _ rfl hr
      exact ⟨cs,ty,hc,hd _ _ hdd⟩
    · simp [one,h0] at hp

theorem ob_ints {x:Ctx} {o:Ob} (hk:o.k=4) {cs:List Value} (h:catL x.D [.ob o] cs):catL x.D [.int .u64 (limb o.n 0),.int .u64 (limb o.n 1),.int .u64 (limb o.n 2),.int .u64 (limb o.n 3)] cs:=by
  obtain ⟨c1,c2,e,⟨d,h1⟩,h2⟩:=h
  have h1:c1=o.cells:=by cases d<;>exact h1
  have h2:c2=[]:=h2
  subst h2 h1 e
  rw[List.append_nil]
  unfold Ob.cells
  rw[hk]
  exact ⟨[_],_,rfl,⟨0,rfl⟩,[_],_,rfl,⟨0,rfl⟩,[_],_,rfl,⟨0,rfl⟩,[_],_,rfl,⟨0,rfl⟩,rfl⟩

def prodE (a b c d y0 y1 y2 y3:Int):En:=.fl [.ob (.fr (redU ((num4 a b c d).toNat*(num4 y0 y1 y2 y3).toNat*rinv)))]
def prodSpec:MuS:=fun off len es e rest=>
  match off,len,es,e,rest with
  | 0,4,1,.fl [.ob (.s _)],[.v (.c (.sl (.u64 [a,b,c,d]))),.v (.c (.sl (.u64 [y0,y1,y2,y3]))),.v (.c (.sl (.u64 [m0,m1,m2,m3]))),.v (.c (.int .u64 neg))]=>
    some ([Lim a,Lim b,Lim c,Lim d,Lim y0,Lim y1,Lim y2,Lim y3,num4 y0 y1 y2 y3<rN,neg=18446744069414584319,m0=18446744069414584321,m1=6034159408538082302,m2=3691218898639771653,m3=8353516859464449352],prodE a b c d y0 y1 y2 y3)
  | 0,4,1,.fl [.ob (.fr _)],[.v (.c (.sl (.u64 [a,b,c,d]))),.v (.c (.sl (.u64 [y0,y1,y2,y3]))),.v (.c (.sl (.u64 [m0,m1,m2,m3]))),.v (.c (.int .u64 neg))]=>
    some ([Lim a,Lim b,Lim c,Lim d,Lim y0,Lim y1,Lim y2,Lim y3,num4 y0 y1 y2 y3<rN,neg=18446744069414584319,m0=18446744069414584321,m1=6034159408538082302,m2=3691218898639771653,m3=8353516859464449352],prodE a b c d y0 y1 y2 y3)
  | _,_,_,_,_=>none

theorem num4_nat {a b c d:Int} (ha:Lim a) (hb:Lim b) (hc:Lim c) (hd:Lim d):∃n:Nat,n<B4∧num4 a b c d=(n:Int)∧limb n 0=a∧limb n 1=b∧limb n 2=c∧limb n 3=d:=by
  obtain ⟨ha,ha1⟩:=ha
  obtain ⟨hb,hb1⟩:=hb
  obtain ⟨hc,hc1⟩:=hc
  obtain ⟨hd,hd1⟩:=hd
  have h0:0≤num4 a b c d:=by unfold num4;omega
  obtain ⟨n,hn⟩:=Int.eq_ofNat_of_zero_le h0
  refine ⟨n,?_,hn,limbsAre4 ha ha1 hb hb1 hc hc1 hd hd1 (by rw[←hn];rfl)⟩
  unfold num4 at hn
  unfold B4
  omega

theorem prod_use {o:Ob} (hk:o.k=4) {a b c d y0 y1 y2 y3 neg m0 m1 m2 m3:Int}
    (ho:AllP [Lim a,Lim b,Lim c,Lim d,Lim y0,Lim y1,Lim y2,Lim y3,num4 y0 y1 y2 y3<rN,neg=18446744069414584319,m0=18446744069414584321,m1=6034159408538082302,m2=3691218898639771653,m3=8353516859464449352]) :
    MuC Try.prog 54 0 4 1 (.fl [.ob o]) [.v (.c (.sl (.u64 [a,b,c,d]))),.v (.c (.sl (.u64 [y0,y1,y2,y3]))),.v (.c (.sl (.u64 [m0,m1,m2,m3]))),.v (.c (.int .u64 neg))] (prodE a b c d y0 y1 y2 y3):=by
  obtain ⟨h1,h2,h3,h4,h5,h6,h7,h8,h9,rfl,rfl,rfl,rfl,rfl,_⟩:=ho
  obtain ⟨A,hA,eA,rfl,rfl,rfl,rfl⟩:=num4_nat h1 h2 h3 h4
  obtain ⟨Y,hY,eY,rfl,rfl,rfl,rfl⟩:=num4_nat h5 h6 h7 h8
  refine MuC.pre (e2:=fl4 (limb o.n 0) (limb o.n 1) (limb o.n 2) (limb o.n 3)) ?_ ⟨_,_,rfl,rfl⟩ fun x cs h=>ob_ints hk h
  unfold prodE
  rw[eA,eY,Int.toNat_natCast,Int.toNat_natCast]
  rw[eY] at h9
  exact product_mu _ _ _ _ A Y hA (by exact_mod_cast h9)

noncomputable def envF:Env:={ envE with mu:=fun g=>if g=54 then some (mu1 prodSpec) else envE.mu g }
theorem envF_ok:EnvOk Try.prog envF:=
  env_mu envE_ok 54 prodSpec (enters_of Try.func54 rfl rfl) fun off len es e rest o e' h ho _ _=>by
    unfold prodSpec at h
    split at h
    · cases h;exact prod_use rfl ho
    · cases h;exact prod_use rfl ho
    · cases h

--@env envF envF_ok
theorem inS0 (x:U4):fnRes envF Try.f28 3000 [.v (.a [.ob (.fr x)])] [] [] []=(some ([(S4.Lim (limb (Ob.n (.fr x)) 0)),(S4.Lim (limb (Ob.n (.fr x)) 1)),(S4.Lim (limb (Ob.n (.fr x)) 2)),(S4.Lim (limb (Ob.n (.fr x)) 3)),(S4.Lim (14526898881837571181:Int)),(S4.Lim (3129137299524312099:Int)),(S4.Lim (419701826671360399:Int)),(S4.Lim (524908885293268753:Int)),((3294906474794265442129797520630710739278575682199800681788903916070560242797:Int)<(52435875175126190479447740508185965837690552500527637822603658699938581184513:Int)),((18446744069414584319:Int)=(18446744069414584319:Int)),((18446744069414584321:Int)=(18446744069414584321:Int)),((6034159408538082302:Int)=(6034159408538082302:Int)),((3691218898639771653:Int)=(3691218898639771653:Int)),((8353516859464449352:Int)=(8353516859464449352:Int))],((.v (.a [(.ob (.fr (S4.redU ((((S4.num4 (limb (Ob.n (.fr x)) 0) (limb (Ob.n (.fr x)) 1) (limb (Ob.n (.fr x)) 2) (limb (Ob.n (.fr x)) 3))).toNat*3294906474794265442129797520630710739278575682199800681788903916070560242797)*rinv))))])),[]))):=by kernel_rfl
theorem outS0 (x:Fr):fnRes envF Try.f29 3000 [.v (.a [.ob (.s x)])] [] [] []=(some ([(S4.Lim (limb (Ob.n (.s x)) 0)),(S4.Lim (limb (Ob.n (.s x)) 1)),(S4.Lim (limb (Ob.n (.s x)) 2)),(S4.Lim (limb (Ob.n (.s x)) 3)),(S4.Lim (1:Int)),(S4.Lim (0:Int)),(S4.Lim (0:Int)),(S4.Lim (0:Int)),((1:Int)<(52435875175126190479447740508185965837690552500527637822603658699938581184513:Int)),((18446744069414584319:Int)=(18446744069414584319:Int)),((18446744069414584321:Int)=(18446744069414584321:Int)),((6034159408538082302:Int)=(6034159408538082302:Int)),((3691218898639771653:Int)=(3691218898639771653:Int)),((8353516859464449352:Int)=(8353516859464449352:Int))],((.v (.a [(.ob (.fr (S4.redU ((((S4.num4 (limb (Ob.n (.s x)) 0) (limb (Ob.n (.s x)) 1) (limb (Ob.n (.s x)) 2) (limb (Ob.n (.s x)) 3))).toNat*1)*rinv))))])),[]))):=by kernel_rfl
end Go.Proofs.Ytdeohachoeopdaa.S4

/- core.InS takes a number modulo r; S.Out brings it back. No conditions. -/
namespace Go.Proofs.Ytdeohachoeopdaa.S4

/-- A number, taken modulo r; an element as a number. -/
def inF (a:U4):Fr:=Fin.ofNat rN a.val
def outF (x:Fr):U4:=Fin.ofNat B4 x.val
theorem outF_val (x:Fr):(outF x).val=x.val:=Nat.mod_eq_of_lt (Nat.lt_trans x.isLt (by decide))

theorem lims_of {n:Nat} (h:n<B4):Lim (limb n 0)∧Lim (limb n 1)∧Lim (limb n 2)∧Lim (limb n 3)∧(num4 (limb n 0) (limb n 1) (limb n 2) (limb n 3)).toNat=n:=by
  obtain ⟨e,a0,a1,b0,b1,c0,c1,d0,d1⟩:=limbsOf4 n h
  refine ⟨⟨a0,a1⟩,⟨b0,b1⟩,⟨c0,c1⟩,⟨d0,d1⟩,?_⟩
  unfold num4
  rw[←e]
  exact Int.toNat_natCast n

theorem inS_abs {r B v s a:Nat} (e:v*B % r=1 % r) (hs:s % r=B*B % r):a*s*v % r=(a % r)*B % r:=by
  have h2:∀a:Nat,a*(v*B) % r=a % r:=fun a=>by rw[←Nat.mul_mod_mod,e,Nat.mul_mod_mod,Nat.mul_one]
  calc a*s*v % r=(a*v)*s % r:=by congr 1;simp only[Nat.mul_comm,Nat.mul_left_comm]
    _=(a*v)*(B*B) % r:=by rw[←Nat.mul_mod_mod,hs,Nat.mul_mod_mod]
    _=(a*B)*(v*B) % r:=by congr 1;simp only[Nat.mul_comm,Nat.mul_left_comm]
    _=a*B % r:=h2 _
    _=(a % r)*B % r:=by rw[Nat.mod_mul_mod]

theorem sq_B4:3294906474794265442129797520630710739278575682199800681788903916070560242797 % rN=B4*B4 % rN:=by kernel_rfl

theorem inS_fnd (a:U4):FnD Try.prog 28 [.v (.a [.ob (.fr a)])] (.v (.a [.ob (.s (inF a))])) []:=by
  obtain ⟨h0,h1,h2,h3,hn⟩:=lims_of a.isLt
  refine (fn_sound envF_ok Try.func28 (inS0 a) ?_).conv (fun _ _ h=>h) fun y v hd=>?_
  · exact ⟨h0,h1,h2,h3,⟨by decide,by decide⟩,⟨by decide,by decide⟩,⟨by decide,by decide⟩,⟨by decide,by decide⟩,by decide,rfl,rfl,rfl,rfl,rfl,trivial⟩
  · refine ob_ob (o:=.fr (redU _)) (o' := .s (inF a)) rfl ?_ hd
    show (redU _).val=_
    rw[redU_val]
    have hn:(num4 (limb (Ob.n (Ob.fr a)) 0) (limb (Ob.n (Ob.fr a)) 1) (limb (Ob.n (Ob.fr a)) 2) (limb (Ob.n (Ob.fr a)) 3)).toNat=a.val:=hn
    rw[hn]
    exact inS_abs rinv_B4 sq_B4

theorem out_one {r B v x:Nat} (e:v*B % r=1 % r):(x*B % r)*1*v % r=x % r:=by
  rw[Nat.mul_one,Nat.mod_mul_mod,Nat.mul_assoc,Nat.mul_comm B,←Nat.mul_mod_mod,e,Nat.mul_mod_mod,Nat.mul_one]

theorem outS_fnd (x:Fr):FnD Try.prog 29 [.v (.a [.ob (.s x)])] (.v (.a [.ob (.fr (outF x))])) []:=by
  obtain ⟨h0,h1,h2,h3,hn⟩:=lims_of (n:=(Ob.s x).n) (Nat.lt_trans (s_lt x) (by decide))
  refine (fn_sound envF_ok Try.func29 (outS0 x) ?_).conv (fun _ _ h=>h) fun y v hd=>?_
  · exact ⟨h0,h1,h2,h3,⟨by decide,by decide⟩,⟨by decide,by decide⟩,⟨by decide,by decide⟩,⟨by decide,by decide⟩,by decide,rfl,rfl,rfl,rfl,rfl,trivial⟩
  · refine ob_ob (o:=.fr (redU _)) (o' := .fr (outF x)) (Eq.refl 4) ?_ hd
    show (redU _).val=(outF x).val
    rw[redU_val,hn,outF_val]
    have e:(Ob.s x).n=x.val*B4 % rN:=rfl
    rw[e,out_one rinv_B4]
    exact Nat.mod_eq_of_lt x.isLt

end Go.Proofs.Ytdeohachoeopdaa.S4

/- S.Plus, S.Minus, walked. No conditions. -/
namespace Go.Proofs.Ytdeohachoeopdaa.S4

--@env envF envF_ok
theorem plusS0 (x y:Fr):fnRes envF Try.f31 3000 [.v (.a [.ob (.s x)]),.v (.a [.ob (.s y)])] [] [] []=(some ([((0:Int)≤(0:Int)),((0:Int)<(4:Int)),(0<(Ob.k (.s x))),((0:Int)≤(0:Int)),((0:Int)<(4:Int)),(0<(Ob.k (.s y))),((0:Int)≤(limb (Ob.n (.s x)) 0)),((0:Int)≤(limb (Ob.n (.s y)) 0)),((limb (Ob.n (.s y)) 0)<(18446744073709551616:Int)),((0:Int)≤(0:Int)),((0:Int)≤(1:Int)),((0:Int)≤(0:Int)),((0:Int)<(4:Int)),((0:Int)≤(1:Int)),((1:Int)<(4:Int)),(1<(Ob.k (.s x))),((0:Int)≤(1:Int)),((1:Int)<(4:Int)),(1<(Ob.k (.s y))),((0:Int)≤(limb (Ob.n (.s x)) 1)),((0:Int)≤(limb (Ob.n (.s y)) 1)),((limb (Ob.n (.s y)) 1)<(18446744073709551616:Int)),((0:Int)≤(Prod.snd (exOut 0 (limb (Ob.n (.s x)) 0) (limb (Ob.n (.s y)) 0) (0:Int)))),((Prod.snd (exOut 0 (limb (Ob.n (.s x)) 0) (limb (Ob.n (.s y)) 0) (0:Int)))≤(1:Int)),((0:Int)≤(1:Int)),((1:Int)<(4:Int)),((0:Int)≤(2:Int)),((2:Int)<(4:Int)),(2<(Ob.k (.s x))),((0:Int)≤(2:Int)),((2:Int)<(4:Int)),(2<(Ob.k (.s y))),((0:Int)≤(limb (Ob.n (.s x)) 2)),((0:Int)≤(limb (Ob.n (.s y)) 2)),((limb (Ob.n (.s y)) 2)<(18446744073709551616:Int)),((0:Int)≤(Prod.snd (exOut 0 (limb (Ob.n (.s x)) 1) (limb (Ob.n (.s y)) 1) (Prod.snd (exOut 0 (limb (Ob.n (.s x)) 0) (limb (Ob.n (.s y)) 0) (0:Int)))))),((Prod.snd (exOut 0 (limb (Ob.n (.s x)) 1) (limb (Ob.n (.s y)) 1) (Prod.snd (exOut 0 (limb (Ob.n (.s x)) 0) (limb (Ob.n (.s y)) 0) (0:Int)))))≤(1:Int)),((0:Int)≤(2:Int)),((2:Int)<(4:Int)),((0:Int)≤(3:Int)),((3:Int)<(4:Int)),(3<(Ob.k (.s x))),((0:Int)≤(3:Int)),((3:Int)<(4:Int)),(3<(Ob.k (.s y))),((0:Int)≤(limb (Ob.n (.s x)) 3)),((0:Int)≤(limb (Ob.n (.s y)) 3)),((limb (Ob.n (.s y)) 3)<(18446744073709551616:Int)),((0:Int)≤(Prod.snd (exOut 0 (limb (Ob.n (.s x)) 2) (limb (Ob.n (.s y)) 2) (Prod.snd (exOut 0 (limb (Ob.n (.s x)) 1) (limb (Ob.n (.s y)) 1) (Prod.snd (exOut 0 (limb (Ob.n (.s x)) 0) (limb (Ob.n (.s y)) 0) (0:Int)))))))),((Prod.snd (exOut 0 (limb (Ob.n (.s x)) 2) (limb (Ob.n (.s y)) 2) (Prod.snd (exOut 0 (limb (Ob.n (.s x)) 1) (limb (Ob.n (.s y)) 1) (Prod.snd (exOut 0 (limb (Ob.n (.s x)) 0) (limb (Ob.n (.s y)) 0) (0:Int)))))))≤(1:Int)),((0:Int)≤(3:Int)),((3:Int)<(4:Int)),((0:Int)≤(Prod.fst (exOut 0 (limb (Ob.n (.s x)) 0) (limb (Ob.n (.s y)) 0) (0:Int)))),((Prod.fst (exOut 0 (limb (Ob.n (.s x)) 0) (limb (Ob.n (.s y)) 0) (0:Int)))<(18446744073709551616:Int)),((0:Int)≤(Prod.fst (exOut 0 (limb (Ob.n (.s x)) 1) (limb (Ob.n (.s y)) 1) (Prod.snd (exOut 0 (limb (Ob.n (.s x)) 0) (limb (Ob.n (.s y)) 0) (0:Int)))))),((Prod.fst (exOut 0 (limb (Ob.n (.s x)) 1) (limb (Ob.n (.s y)) 1) (Prod.snd (exOut 0 (limb (Ob.n (.s x)) 0) (limb (Ob.n (.s y)) 0) (0:Int)))))<(18446744073709551616:Int)),((0:Int)≤(Prod.fst (exOut 0 (limb (Ob.n (.s x)) 2) (limb (Ob.n (.s y)) 2) (Prod.snd (exOut 0 (limb (Ob.n (.s x)) 1) (limb (Ob.n (.s y)) 1) (Prod.snd (exOut 0 (limb (Ob.n (.s x)) 0) (limb (Ob.n (.s y)) 0) (0:Int)))))))),((Prod.fst (exOut 0 (limb (Ob.n (.s x)) 2) (limb (Ob.n (.s y)) 2) (Prod.snd (exOut 0 (limb (Ob.n (.s x)) 1) (limb (Ob.n (.s y)) 1) (Prod.snd (exOut 0 (limb (Ob.n (.s x)) 0) (limb (Ob.n (.s y)) 0) (0:Int)))))))<(18446744073709551616:Int)),((0:Int)≤(Prod.fst (exOut 0 (limb (Ob.n (.s x)) 3) (limb (Ob.n (.s y)) 3) (Prod.snd (exOut 0 (limb (Ob.n (.s x)) 2) (limb (Ob.n (.s y)) 2) (Prod.snd (exOut 0 (limb (Ob.n (.s x)) 1) (limb (Ob.n (.s y)) 1) (Prod.snd (exOut 0 (limb (Ob.n (.s x)) 0) (limb (Ob.n (.s y)) 0) (0:Int)))))))))),((Prod.fst (exOut 0 (limb (Ob.n (.s x)) 3) (limb (Ob.n (.s y)) 3) (Prod.snd (exOut 0 (limb (Ob.n (.s x)) 2) (limb (Ob.n (.s y)) 2) (Prod.snd (exOut 0 (limb (Ob.n (.s x)) 1) (limb (Ob.n (.s y)) 1) (Prod.snd (exOut 0 (limb (Ob.n (.s x)) 0) (limb (Ob.n (.s y)) 0) (0:Int)))))))))<(18446744073709551616:Int)),((S4.num4 (Prod.fst (exOut 0 (limb (Ob.n (.s x)) 0) (limb (Ob.n (.s y)) 0) (0:Int))) (Prod.fst (exOut 0 (limb (Ob.n (.s x)) 1) (limb (Ob.n (.s y)) 1) (Prod.snd (exOut 0 (limb (Ob.n (.s x)) 0) (limb (Ob.n (.s y)) 0) (0:Int))))) (Prod.fst (exOut 0 (limb (Ob.n (.s x)) 2) (limb (Ob.n (.s y)) 2) (Prod.snd (exOut 0 (limb (Ob.n (.s x)) 1) (limb (Ob.n (.s y)) 1) (Prod.snd (exOut 0 (limb (Ob.n (.s x)) 0) (limb (Ob.n (.s y)) 0) (0:Int))))))) (Prod.fst (exOut 0 (limb (Ob.n (.s x)) 3) (limb (Ob.n (.s y)) 3) (Prod.snd (exOut 0 (limb (Ob.n (.s x)) 2) (limb (Ob.n (.s y)) 2) (Prod.snd (exOut 0 (limb (Ob.n (.s x)) 1) (limb (Ob.n (.s y)) 1) (Prod.snd (exOut 0 (limb (Ob.n (.s x)) 0) (limb (Ob.n (.s y)) 0) (0:Int))))))))))<(104871750350252380958895481016371931675381105001055275645207317399877162369026:Int))],((.v (.a [(.ob (.s (redS ((S4.num4 (Prod.fst (exOut 0 (limb (Ob.n (.s x)) 0) (limb (Ob.n (.s y)) 0) (0:Int))) (Prod.fst (exOut 0 (limb (Ob.n (.s x)) 1) (limb (Ob.n (.s y)) 1) (Prod.snd (exOut 0 (limb (Ob.n (.s x)) 0) (limb (Ob.n (.s y)) 0) (0:Int))))) (Prod.fst (exOut 0 (limb (Ob.n (.s x)) 2) (limb (Ob.n (.s y)) 2) (Prod.snd (exOut 0 (limb (Ob.n (.s x)) 1) (limb (Ob.n (.s y)) 1) (Prod.snd (exOut 0 (limb (Ob.n (.s x)) 0) (limb (Ob.n (.s y)) 0) (0:Int))))))) (Prod.fst (exOut 0 (limb (Ob.n (.s x)) 3) (limb (Ob.n (.s y)) 3) (Prod.snd (exOut 0 (limb (Ob.n (.s x)) 2) (limb (Ob.n (.s y)) 2) (Prod.snd (exOut 0 (limb (Ob.n (.s x)) 1) (limb (Ob.n (.s y)) 1) (Prod.snd (exOut 0 (limb (Ob.n (.s x)) 0) (limb (Ob.n (.s y)) 0) (0:Int))))))))))).toNat)))])),[]))):=by kernel_rfl
theorem minusS0 (x y:Fr):fnRes envF Try.f70 3000 [.v (.a [.ob (.s x)]),.v (.a [.ob (.s y)])] [true] [] []=(some ([((0:Int)≤(0:Int)),((0:Int)<(4:Int)),(0<(Ob.k (.s x))),((0:Int)≤(0:Int)),((0:Int)<(4:Int)),(0<(Ob.k (.s y))),((0:Int)≤(limb (Ob.n (.s x)) 0)),((0:Int)≤(limb (Ob.n (.s y)) 0)),((limb (Ob.n (.s y)) 0)<(18446744073709551616:Int)),((0:Int)≤(0:Int)),((0:Int)≤(1:Int)),((0:Int)≤(0:Int)),((0:Int)<(4:Int)),((0:Int)≤(1:Int)),((1:Int)<(4:Int)),(1<(Ob.k (.s x))),((0:Int)≤(1:Int)),((1:Int)<(4:Int)),(1<(Ob.k (.s y))),((0:Int)≤(limb (Ob.n (.s x)) 1)),((0:Int)≤(limb (Ob.n (.s y)) 1)),((limb (Ob.n (.s y)) 1)<(18446744073709551616:Int)),((0:Int)≤(Prod.snd (exOut 1 (limb (Ob.n (.s x)) 0) (limb (Ob.n (.s y)) 0) (0:Int)))),((Prod.snd (exOut 1 (limb (Ob.n (.s x)) 0) (limb (Ob.n (.s y)) 0) (0:Int)))≤(1:Int)),((0:Int)≤(1:Int)),((1:Int)<(4:Int)),((0:Int)≤(2:Int)),((2:Int)<(4:Int)),(2<(Ob.k (.s x))),((0:Int)≤(2:Int)),((2:Int)<(4:Int)),(2<(Ob.k (.s y))),((0:Int)≤(limb (Ob.n (.s x)) 2)),((0:Int)≤(limb (Ob.n (.s y)) 2)),((limb (Ob.n (.s y)) 2)<(18446744073709551616:Int)),((0:Int)≤(Prod.snd (exOut 1 (limb (Ob.n (.s x)) 1) (limb (Ob.n (.s y)) 1) (Prod.snd (exOut 1 (limb (Ob.n (.s x)) 0) (limb (Ob.n (.s y)) 0) (0:Int)))))),((Prod.snd (exOut 1 (limb (Ob.n (.s x)) 1) (limb (Ob.n (.s y)) 1) (Prod.snd (exOut 1 (limb (Ob.n (.s x)) 0) (limb (Ob.n (.s y)) 0) (0:Int)))))≤(1:Int)),((0:Int)≤(2:Int)),((2:Int)<(4:Int)),((0:Int)≤(3:Int)),((3:Int)<(4:Int)),(3<(Ob.k (.s x))),((0:Int)≤(3:Int)),((3:Int)<(4:Int)),(3<(Ob.k (.s y))),((0:Int)≤(limb (Ob.n (.s x)) 3)),((0:Int)≤(limb (Ob.n (.s y)) 3)),((limb (Ob.n (.s y)) 3)<(18446744073709551616:Int)),((0:Int)≤(Prod.snd (exOut 1 (limb (Ob.n (.s x)) 2) (limb (Ob.n (.s y)) 2) (Prod.snd (exOut 1 (limb (Ob.n (.s x)) 1) (limb (Ob.n (.s y)) 1) (Prod.snd (exOut 1 (limb (Ob.n (.s x)) 0) (limb (Ob.n (.s y)) 0) (0:Int)))))))),((Prod.snd (exOut 1 (limb (Ob.n (.s x)) 2) (limb (Ob.n (.s y)) 2) (Prod.snd (exOut 1 (limb (Ob.n (.s x)) 1) (limb (Ob.n (.s y)) 1) (Prod.snd (exOut 1 (limb (Ob.n (.s x)) 0) (limb (Ob.n (.s y)) 0) (0:Int)))))))≤(1:Int)),((0:Int)≤(3:Int)),((3:Int)<(4:Int)),(((Prod.snd (exOut 1 (limb (Ob.n (.s x)) 3) (limb (Ob.n (.s y)) 3) (Prod.snd (exOut 1 (limb (Ob.n (.s x)) 2) (limb (Ob.n (.s y)) 2) (Prod.snd (exOut 1 (limb (Ob.n (.s x)) 1) (limb (Ob.n (.s y)) 1) (Prod.snd (exOut 1 (limb (Ob.n (.s x)) 0) (limb (Ob.n (.s y)) 0) (0:Int))))))))) == (0:Int))=true)],((.v (.a [(.int .u64 (Prod.fst (exOut 1 (limb (Ob.n (.s x)) 0) (limb (Ob.n (.s y)) 0) (0:Int)))),(.int .u64 (Prod.fst (exOut 1 (limb (Ob.n (.s x)) 1) (limb (Ob.n (.s y)) 1) (Prod.snd (exOut 1 (limb (Ob.n (.s x)) 0) (limb (Ob.n (.s y)) 0) (0:Int)))))),(.int .u64 (Prod.fst (exOut 1 (limb (Ob.n (.s x)) 2) (limb (Ob.n (.s y)) 2) (Prod.snd (exOut 1 (limb (Ob.n (.s x)) 1) (limb (Ob.n (.s y)) 1) (Prod.snd (exOut 1 (limb (Ob.n (.s x)) 0) (limb (Ob.n (.s y)) 0) (0:Int)))))))),(.int .u64 (Prod.fst (exOut 1 (limb (Ob.n (.s x)) 3) (limb (Ob.n (.s y)) 3) (Prod.snd (exOut 1 (limb (Ob.n (.s x)) 2) (limb (Ob.n (.s y)) 2) (Prod.snd (exOut 1 (limb (Ob.n (.s x)) 1) (limb (Ob.n (.s y)) 1) (Prod.snd (exOut 1 (limb (Ob.n (.s x)) 0) (limb (Ob.n (.s y)) 0) (0:Int))))))))))])),[]))):=by kernel_rfl
theorem minusS1 (x y:Fr):fnRes envF Try.f70 3000 [.v (.a [.ob (.s x)]),.v (.a [.ob (.s y)])] [false] [] []=(some ([((0:Int)≤(0:Int)),((0:Int)<(4:Int)),(0<(Ob.k (.s x))),((0:Int)≤(0:Int)),((0:Int)<(4:Int)),(0<(Ob.k (.s y))),((0:Int)≤(limb (Ob.n (.s x)) 0)),((0:Int)≤(limb (Ob.n (.s y)) 0)),((limb (Ob.n (.s y)) 0)<(18446744073709551616:Int)),((0:Int)≤(0:Int)),((0:Int)≤(1:Int)),((0:Int)≤(0:Int)),((0:Int)<(4:Int)),((0:Int)≤(1:Int)),((1:Int)<(4:Int)),(1<(Ob.k (.s x))),((0:Int)≤(1:Int)),((1:Int)<(4:Int)),(1<(Ob.k (.s y))),((0:Int)≤(limb (Ob.n (.s x)) 1)),((0:Int)≤(limb (Ob.n (.s y)) 1)),((limb (Ob.n (.s y)) 1)<(18446744073709551616:Int)),((0:Int)≤(Prod.snd (exOut 1 (limb (Ob.n (.s x)) 0) (limb (Ob.n (.s y)) 0) (0:Int)))),((Prod.snd (exOut 1 (limb (Ob.n (.s x)) 0) (limb (Ob.n (.s y)) 0) (0:Int)))≤(1:Int)),((0:Int)≤(1:Int)),((1:Int)<(4:Int)),((0:Int)≤(2:Int)),((2:Int)<(4:Int)),(2<(Ob.k (.s x))),((0:Int)≤(2:Int)),((2:Int)<(4:Int)),(2<(Ob.k (.s y))),((0:Int)≤(limb (Ob.n (.s x)) 2)),((0:Int)≤(limb (Ob.n (.s y)) 2)),((limb (Ob.n (.s y)) 2)<(18446744073709551616:Int)),((0:Int)≤(Prod.snd (exOut 1 (limb (Ob.n (.s x)) 1) (limb (Ob.n (.s y)) 1) (Prod.snd (exOut 1 (limb (Ob.n (.s x)) 0) (limb (Ob.n (.s y)) 0) (0:Int)))))),((Prod.snd (exOut 1 (limb (Ob.n (.s x)) 1) (limb (Ob.n (.s y)) 1) (Prod.snd (exOut 1 (limb (Ob.n (.s x)) 0) (limb (Ob.n (.s y)) 0) (0:Int)))))≤(1:Int)),((0:Int)≤(2:Int)),((2:Int)<(4:Int)),((0:Int)≤(3:Int)),((3:Int)<(4:Int)),(3<(Ob.k (.s x))),((0:Int)≤(3:Int)),((3:Int)<(4:Int)),(3<(Ob.k (.s y))),((0:Int)≤(limb (Ob.n (.s x)) 3)),((0:Int)≤(limb (Ob.n (.s y)) 3)),((limb (Ob.n (.s y)) 3)<(18446744073709551616:Int)),((0:Int)≤(Prod.snd (exOut 1 (limb (Ob.n (.s x)) 2) (limb (Ob.n (.s y)) 2) (Prod.snd (exOut 1 (limb (Ob.n (.s x)) 1) (limb (Ob.n (.s y)) 1) (Prod.snd (exOut 1 (limb (Ob.n (.s x)) 0) (limb (Ob.n (.s y)) 0) (0:Int)))))))),((Prod.snd (exOut 1 (limb (Ob.n (.s x)) 2) (limb (Ob.n (.s y)) 2) (Prod.snd (exOut 1 (limb (Ob.n (.s x)) 1) (limb (Ob.n (.s y)) 1) (Prod.snd (exOut 1 (limb (Ob.n (.s x)) 0) (limb (Ob.n (.s y)) 0) (0:Int)))))))≤(1:Int)),((0:Int)≤(3:Int)),((3:Int)<(4:Int)),(((Prod.snd (exOut 1 (limb (Ob.n (.s x)) 3) (limb (Ob.n (.s y)) 3) (Prod.snd (exOut 1 (limb (Ob.n (.s x)) 2) (limb (Ob.n (.s y)) 2) (Prod.snd (exOut 1 (limb (Ob.n (.s x)) 1) (limb (Ob.n (.s y)) 1) (Prod.snd (exOut 1 (limb (Ob.n (.s x)) 0) (limb (Ob.n (.s y)) 0) (0:Int))))))))) == (0:Int))=false),((0:Int)≤(0:Int)),((0:Int)<(4:Int)),((0:Int)≤(0:Int)),((0:Int)<(4:Int)),(0<4),((0:Int)≤(Prod.fst (exOut 1 (limb (Ob.n (.s x)) 0) (limb (Ob.n (.s y)) 0) (0:Int)))),((0:Int)≤(18446744069414584321:Int)),((18446744069414584321:Int)<(18446744073709551616:Int)),((0:Int)≤(0:Int)),((0:Int)≤(1:Int)),((0:Int)≤(0:Int)),((0:Int)<(4:Int)),((0:Int)≤(1:Int)),((1:Int)<(4:Int)),((0:Int)≤(1:Int)),((1:Int)<(4:Int)),(1<4),((0:Int)≤(Prod.fst (exOut 1 (limb (Ob.n (.s x)) 1) (limb (Ob.n (.s y)) 1) (Prod.snd (exOut 1 (limb (Ob.n (.s x)) 0) (limb (Ob.n (.s y)) 0) (0:Int)))))),((0:Int)≤(6034159408538082302:Int)),((6034159408538082302:Int)<(18446744073709551616:Int)),((0:Int)≤(Prod.snd (exOut 0 (Prod.fst (exOut 1 (limb (Ob.n (.s x)) 0) (limb (Ob.n (.s y)) 0) (0:Int))) (18446744069414584321:Int) (0:Int)))),((Prod.snd (exOut 0 (Prod.fst (exOut 1 (limb (Ob.n (.s x)) 0) (limb (Ob.n (.s y)) 0) (0:Int))) (18446744069414584321:Int) (0:Int)))≤(1:Int)),((0:Int)≤(1:Int)),((1:Int)<(4:Int)),((0:Int)≤(2:Int)),((2:Int)<(4:Int)),((0:Int)≤(2:Int)),((2:Int)<(4:Int)),(2<4),((0:Int)≤(Prod.fst (exOut 1 (limb (Ob.n (.s x)) 2) (limb (Ob.n (.s y)) 2) (Prod.snd (exOut 1 (limb (Ob.n (.s x)) 1) (limb (Ob.n (.s y)) 1) (Prod.snd (exOut 1 (limb (Ob.n (.s x)) 0) (limb (Ob.n (.s y)) 0) (0:Int)))))))),((0:Int)≤(3691218898639771653:Int)),((3691218898639771653:Int)<(18446744073709551616:Int)),((0:Int)≤(Prod.snd (exOut 0 (Prod.fst (exOut 1 (limb (Ob.n (.s x)) 1) (limb (Ob.n (.s y)) 1) (Prod.snd (exOut 1 (limb (Ob.n (.s x)) 0) (limb (Ob.n (.s y)) 0) (0:Int))))) (6034159408538082302:Int) (Prod.snd (exOut 0 (Prod.fst (exOut 1 (limb (Ob.n (.s x)) 0) (limb (Ob.n (.s y)) 0) (0:Int))) (18446744069414584321:Int) (0:Int)))))),((Prod.snd (exOut 0 (Prod.fst (exOut 1 (limb (Ob.n (.s x)) 1) (limb (Ob.n (.s y)) 1) (Prod.snd (exOut 1 (limb (Ob.n (.s x)) 0) (limb (Ob.n (.s y)) 0) (0:Int))))) (6034159408538082302:Int) (Prod.snd (exOut 0 (Prod.fst (exOut 1 (limb (Ob.n (.s x)) 0) (limb (Ob.n (.s y)) 0) (0:Int))) (18446744069414584321:Int) (0:Int)))))≤(1:Int)),((0:Int)≤(2:Int)),((2:Int)<(4:Int)),((0:Int)≤(3:Int)),((3:Int)<(4:Int)),((0:Int)≤(3:Int)),((3:Int)<(4:Int)),(3<4),((0:Int)≤(Prod.fst (exOut 1 (limb (Ob.n (.s x)) 3) (limb (Ob.n (.s y)) 3) (Prod.snd (exOut 1 (limb (Ob.n (.s x)) 2) (limb (Ob.n (.s y)) 2) (Prod.snd (exOut 1 (limb (Ob.n (.s x)) 1) (limb (Ob.n (.s y)) 1) (Prod.snd (exOut 1 (limb (Ob.n (.s x)) 0) (limb (Ob.n (.s y)) 0) (0:Int)))))))))),((0:Int)≤(8353516859464449352:Int)),((8353516859464449352:Int)<(18446744073709551616:Int)),((0:Int)≤(Prod.snd (exOut 0 (Prod.fst (exOut 1 (limb (Ob.n (.s x)) 2) (limb (Ob.n (.s y)) 2) (Prod.snd (exOut 1 (limb (Ob.n (.s x)) 1) (limb (Ob.n (.s y)) 1) (Prod.snd (exOut 1 (limb (Ob.n (.s x)) 0) (limb (Ob.n (.s y)) 0) (0:Int))))))) (3691218898639771653:Int) (Prod.snd (exOut 0 (Prod.fst (exOut 1 (limb (Ob.n (.s x)) 1) (limb (Ob.n (.s y)) 1) (Prod.snd (exOut 1 (limb (Ob.n (.s x)) 0) (limb (Ob.n (.s y)) 0) (0:Int))))) (6034159408538082302:Int) (Prod.snd (exOut 0 (Prod.fst (exOut 1 (limb (Ob.n (.s x)) 0) (limb (Ob.n (.s y)) 0) (0:Int))) (18446744069414584321:Int) (0:Int)))))))),((Prod.snd (exOut 0 (Prod.fst (exOut 1 (limb (Ob.n (.s x)) 2) (limb (Ob.n (.s y)) 2) (Prod.snd (exOut 1 (limb (Ob.n (.s x)) 1) (limb (Ob.n (.s y)) 1) (Prod.snd (exOut 1 (limb (Ob.n (.s x)) 0) (limb (Ob.n (.s y)) 0) (0:Int))))))) (3691218898639771653:Int) (Prod.snd (exOut 0 (Prod.fst (exOut 1 (limb (Ob.n (.s x)) 1) (limb (Ob.n (.s y)) 1) (Prod.snd (exOut 1 (limb (Ob.n (.s x)) 0) (limb (Ob.n (.s y)) 0) (0:Int))))) (6034159408538082302:Int) (Prod.snd (exOut 0 (Prod.fst (exOut 1 (limb (Ob.n (.s x)) 0) (limb (Ob.n (.s y)) 0) (0:Int))) (18446744069414584321:Int) (0:Int)))))))≤(1:Int)),((0:Int)≤(3:Int)),((3:Int)<(4:Int))],((.v (.a [(.int .u64 (Prod.fst (exOut 0 (Prod.fst (exOut 1 (limb (Ob.n (.s x)) 0) (limb (Ob.n (.s y)) 0) (0:Int))) (18446744069414584321:Int) (0:Int)))),(.int .u64 (Prod.fst (exOut 0 (Prod.fst (exOut 1 (limb (Ob.n (.s x)) 1) (limb (Ob.n (.s y)) 1) (Prod.snd (exOut 1 (limb (Ob.n (.s x)) 0) (limb (Ob.n (.s y)) 0) (0:Int))))) (6034159408538082302:Int) (Prod.snd (exOut 0 (Prod.fst (exOut 1 (limb (Ob.n (.s x)) 0) (limb (Ob.n (.s y)) 0) (0:Int))) (18446744069414584321:Int) (0:Int)))))),(.int .u64 (Prod.fst (exOut 0 (Prod.fst (exOut 1 (limb (Ob.n (.s x)) 2) (limb (Ob.n (.s y)) 2) (Prod.snd (exOut 1 (limb (Ob.n (.s x)) 1) (limb (Ob.n (.s y)) 1) (Prod.snd (exOut 1 (limb (Ob.n (.s x)) 0) (limb (Ob.n (.s y)) 0) (0:Int))))))) (3691218898639771653:Int) (Prod.snd (exOut 0 (Prod.fst (exOut 1 (limb (Ob.n (.s x)) 1) (limb (Ob.n (.s y)) 1) (Prod.snd (exOut 1 (limb (Ob.n (.s x)) 0) (limb (Ob.n (.s y)) 0) (0:Int))))) (6034159408538082302:Int) (Prod.snd (exOut 0 (Prod.fst (exOut 1 (limb (Ob.n (.s x)) 0) (limb (Ob.n (.s y)) 0) (0:Int))) (18446744069414584321:Int) (0:Int)))))))),(.int .u64 (Prod.fst (exOut 0 (Prod.fst (exOut 1 (limb (Ob.n (.s x)) 3) (limb (Ob.n (.s y)) 3) (Prod.snd (exOut 1 (limb (Ob.n (.s x)) 2) (limb (Ob.n (.s y)) 2) (Prod.snd (exOut 1 (limb (Ob.n (.s x)) 1) (limb (Ob.n (.s y)) 1) (Prod.snd (exOut 1 (limb (Ob.n (.s x)) 0) (limb (Ob.n (.s y)) 0) (0:Int))))))))) (8353516859464449352:Int) (Prod.snd (exOut 0 (Prod.fst (exOut 1 (limb (Ob.n (.s x)) 2) (limb (Ob.n (.s y)) 2) (Prod.snd (exOut 1 (limb (Ob.n (.s x)) 1) (limb (Ob.n (.s y)) 1) (Prod.snd (exOut 1 (limb (Ob.n (.s x)) 0) (limb (Ob.n (.s y)) 0) (0:Int))))))) (3691218898639771653:Int) (Prod.snd (exOut 0 (Prod.fst (exOut 1 (limb (Ob.n (.s x)) 1) (limb (Ob.n (.s y)) 1) (Prod.snd (exOut 1 (limb (Ob.n (.s x)) 0) (limb (Ob.n (.s y)) 0) (0:Int))))) (6034159408538082302:Int) (Prod.snd (exOut 0 (Prod.fst (exOut 1 (limb (Ob.n (.s x)) 0) (limb (Ob.n (.s y)) 0) (0:Int))) (18446744069414584321:Int) (0:Int))))))))))])),[]))):=by kernel_rfl
end Go.Proofs.Ytdeohachoeopdaa.S4

/- S.Plus, S.Minus: contracts. No conditions. -/
namespace Go.Proofs.Ytdeohachoeopdaa.S4

theorem s_add_abs {x y r B:Nat}:((x+y) % r)*B % r=(x*B % r+y*B % r) % r:=by
  rw[Nat.mod_mul_mod,Nat.add_mul,←Nat.add_mod]

theorem s_add_n (x y:Fr):(Ob.s (x+y)).n=((Ob.s x).n+(Ob.s y).n) % rN:=by
  exact s_add_abs

theorem fin_sub_add {n:Nat} (x y:Fin n):x-y+y=x:=by
  apply Fin.ext
  simp only[Fin.add_def,Fin.sub_def]
  have:=y.isLt
  rw[Nat.mod_add_mod,show n-y.val+x.val+y.val=x.val+n from by omega,Nat.add_mod_right,Nat.mod_eq_of_lt x.isLt]

theorem s_sub_n (x y:Fr):((Ob.s (x-y)).n+(Ob.s y).n) % rN=(Ob.s x).n:=by
  rw[←s_add_n,fin_sub_add]

theorem add_abs {r B v x y:Nat} (e:v*B % r=1 % r):(x*B % r+y*B % r)*v % r=(x+y) % r:=by
  rw[←Nat.mod_mul_mod,←Nat.add_mod,Nat.mod_mul_mod,←Nat.add_mul,Nat.mul_assoc,Nat.mul_comm B,←Nat.mul_mod_mod,e,Nat.mul_mod_mod,Nat.mul_one]

theorem redS_add (x y:Fr):redS ((Ob.s x).n+(Ob.s y).n)=x+y:=by
  apply Fin.ext
  have e:(Ob.s x).n=x.val*B4 % rN:=rfl
  have e' : (Ob.s y).n=y.val*B4 % rN:=rfl
  rw[e,e']
  exact add_abs rinv_B4

theorem plus_fnd (x y:Fr):FnD Try.prog 31 [.v (.a [.ob (.s x)]),.v (.a [.ob (.s y)])] (.v (.a [.ob (.s (x+y))])) []:=by
  have r0:=plusS0 x y
  have hX:=s_lt x
  have hY:=s_lt y
  have hadd:=redS_add x y
  obtain ⟨ex,x0,x0',x1,x1',x2,x2',x3,x3'⟩:=limbsOf4 (Ob.s x).n (Nat.lt_trans (s_lt x) (by decide))
  obtain ⟨ey,y0,y0',y1,y1',y2,y2',y3,y3'⟩:=limbsOf4 (Ob.s y).n (Nat.lt_trans (s_lt y) (by decide))
  generalize limb (Ob.s x).n 0=a0 at *
  generalize limb (Ob.s x).n 1=a1 at *
  generalize limb (Ob.s x).n 2=a2 at *
  generalize limb (Ob.s x).n 3=a3 at *
  generalize limb (Ob.s y).n 0=b0 at *
  generalize limb (Ob.s y).n 1=b1 at *
  generalize limb (Ob.s y).n 2=b2 at *
  generalize limb (Ob.s y).n 3=b3 at *
  obtain ⟨e0,p0,p0',c0,c0'⟩:=add_step (c:=0) x0 x0' y0 y0' (by decide) (by decide)
  obtain ⟨e1,p1,p1',c1,c1'⟩:=add_step x1 x1' y1 y1' c0 c0'
  obtain ⟨e2,p2,p2',c2,c2'⟩:=add_step x2 x2' y2 y2' c1 c1'
  obtain ⟨e3,p3,p3',c3,c3'⟩:=add_step x3 x3' y3 y3' c2 c2'
  generalize hq0:exOut 0 a0 b0 0=q0 at *
  generalize hq1:exOut 0 a1 b1 q0.2=q1 at *
  generalize hq2:exOut 0 a2 b2 q1.2=q2 at *
  generalize hq3:exOut 0 a3 b3 q2.2=q3 at *
  clear hq0 hq1 hq2 hq3
  have hN:num4 q0.1 q1.1 q2.1 q3.1=((Ob.s x).n:Int)+((Ob.s y).n:Int):=by
    generalize (Ob.s x).n=X at *
    generalize (Ob.s y).n=Y at *
    unfold rN at hX hY
    unfold num4
    omega
  refine (fn_sound envF_ok Try.func31 r0 ?_).conv (fun _ _ h=>h) fun z v hd=>?_
  · have hlt:num4 q0.1 q1.1 q2.1 q3.1<104871750350252380958895481016371931675381105001055275645207317399877162369026:=by
      unfold rN at hX hY
      omega
    simp only[AllP,and_true,Ob.k]
    clear hN hX hY ex ey hadd r0
    and_intros<;>first | assumption | decide | omega
  · have hN' : (num4 q0.1 q1.1 q2.1 q3.1).toNat=(Ob.s x).n+(Ob.s y).n:=by omega
    rw[hN',hadd] at hd
    exact hd

theorem bit_one {b:Int} (h0:0≤b) (h1:b≤1) (h:¬b=0):b=1:=by omega

theorem sum4 {q0 q1 q2 q3 w0 w1 w2 w3 v0 v1 v2 v3:Int} (f0:q0+18446744069414584321+0=w0+18446744073709551616*v0) (f1:q1+6034159408538082302+v0=w1+18446744073709551616*v1)
    (f2:q2+3691218898639771653+v1=w2+18446744073709551616*v2) (f3:q3+8353516859464449352+v2=w3+18446744073709551616*v3) :
    num4 w0 w1 w2 w3+115792089237316195423570985008687907853269984665640564039457584007913129639936*v3=num4 q0 q1 q2 q3+rN:=by
  unfold num4 rN
  omega

theorem num4_lt {a b c d:Int} (ha:Lim a) (hb:Lim b) (hc:Lim c) (hd:Lim d):0≤num4 a b c d∧num4 a b c d<115792089237316195423570985008687907853269984665640564039457584007913129639936:=by
  obtain ⟨_,_⟩:=ha
  obtain ⟨_,_⟩:=hb
  obtain ⟨_,_⟩:=hc
  obtain ⟨_,_⟩:=hd
  unfold num4
  omega

theorem sub_fin {X Y Z:Nat} {N W v:Int} (hX:X<rN) (hY:Y<rN) (hcase:(Y≤X∧(Z:Int)=X-Y)∨(X<Y∧(Z:Int)=X+rN-Y))
    (hdiff:N-115792089237316195423570985008687907853269984665640564039457584007913129639936*1=(X:Int)-Y) (hN:0≤N∧N<115792089237316195423570985008687907853269984665640564039457584007913129639936)
    (hW:0≤W∧W<115792089237316195423570985008687907853269984665640564039457584007913129639936) (hv:0≤v∧v≤1)
    (hsum:W+115792089237316195423570985008687907853269984665640564039457584007913129639936*v=N+rN):(Z:Int)=W:=by
  obtain ⟨hN0,hN1⟩:=hN
  obtain ⟨hW0,hW1⟩:=hW
  obtain ⟨hv0,hv1⟩:=hv
  unfold rN at *
  have:v=0∨v=1:=by omega
  rcases hcase with ⟨h1,h2⟩ | ⟨h1,h2⟩
  · exfalso;omega
  · rcases this with rfl | rfl<;>omega

theorem sub_cases {X Y Z r:Nat} (_hX:X<r) (hY:Y<r) (hZ:Z<r) (h:(Z+Y) % r=X):(Y≤X∧(Z:Int)=X-Y)∨(X<Y∧(Z:Int)=X+r-Y):=by
  by_cases hl:Z+Y<r
  · rw[Nat.mod_eq_of_lt hl] at h
    left;omega
  · rw[Nat.mod_eq_sub_mod (by omega),Nat.mod_eq_of_lt (by omega)] at h
    right;omega

theorem minus_fnd (x y:Fr):FnD Try.prog 70 [.v (.a [.ob (.s x)]),.v (.a [.ob (.s y)])] (.v (.a [.ob (.s (x-y))])) []:=by
  have r0:=minusS0 x y
  have r1:=minusS1 x y
  have hX:=s_lt x
  have hY:=s_lt y
  have hZ:=s_lt (x-y)
  have hsub:=s_sub_n x y
  obtain ⟨ex,x0,x0',x1,x1',x2,x2',x3,x3'⟩:=limbsOf4 (Ob.s x).n (Nat.lt_trans (s_lt x) (by decide))
  obtain ⟨ey,y0,y0',y1,y1',y2,y2',y3,y3'⟩:=limbsOf4 (Ob.s y).n (Nat.lt_trans (s_lt y) (by decide))
  generalize limb (Ob.s x).n 0=a0 at *
  generalize limb (Ob.s x).n 1=a1 at *
  generalize limb (Ob.s x).n 2=a2 at *
  generalize limb (Ob.s x).n 3=a3 at *
  generalize limb (Ob.s y).n 0=b0 at *
  generalize limb (Ob.s y).n 1=b1 at *
  generalize limb (Ob.s y).n 2=b2 at *
  generalize limb (Ob.s y).n 3=b3 at *
  obtain ⟨e0,p0,p0',c0,c0'⟩:=sub_step (c:=0) x0 x0' y0 y0' (by decide) (by decide)
  obtain ⟨e1,p1,p1',c1,c1'⟩:=sub_step x1 x1' y1 y1' c0 c0'
  obtain ⟨e2,p2,p2',c2,c2'⟩:=sub_step x2 x2' y2 y2' c1 c1'
  obtain ⟨e3,p3,p3',c3,c3'⟩:=sub_step x3 x3' y3 y3' c2 c2'
  generalize hq0:exOut 1 a0 b0 0=q0 at *
  generalize hq1:exOut 1 a1 b1 q0.2=q1 at *
  generalize hq2:exOut 1 a2 b2 q1.2=q2 at *
  generalize hq3:exOut 1 a3 b3 q2.2=q3 at *
  clear hq0 hq1 hq2 hq3
  have hcase:=sub_cases hX hY hZ hsub
  have hdiff:num4 q0.1 q1.1 q2.1 q3.1-115792089237316195423570985008687907853269984665640564039457584007913129639936*q3.2=((Ob.s x).n:Int)-((Ob.s y).n:Int):=by
    rw[ex,ey]
    clear hsub hcase hX hY hZ ex ey
    unfold num4
    omega
  by_cases hz:q3.2=0
  · refine (fn_sound envF_ok Try.func70 r0 ?_).conv (fun _ _ h=>h) fun z v hd=>ints_ob rfl (limbsAre4 p0 p0' p1 p1' p2 p2' p3 p3' ?_) hd
    · simp only[AllP,and_true,Ob.k,beq_iff_eq]
      clear hsub hX hY hZ ex ey r0 r1 hcase hdiff
      and_intros<;>first | assumption | decide | omega
    · rcases hcase with ⟨h1,h2⟩ | ⟨h1,h2⟩
      · rw[h2,←hdiff,hz];unfold num4;omega
      · rw[hz] at hdiff;exfalso;unfold num4 at hdiff;clear ex ey hsub h2 e0 e1 e2 e3;omega
  · obtain ⟨f0,s0,s0',d0,d0'⟩:=add_step (y:=18446744069414584321) (c:=0) p0 p0' (by decide) (by decide) (by decide) (by decide)
    obtain ⟨f1,s1,s1',d1,d1'⟩:=add_step (y:=6034159408538082302) p1 p1' (by decide) (by decide) d0 d0'
    obtain ⟨f2,s2,s2',d2,d2'⟩:=add_step (y:=3691218898639771653) p2 p2' (by decide) (by decide) d1 d1'
    obtain ⟨f3,s3,s3',d3,d3'⟩:=add_step (y:=8353516859464449352) p3 p3' (by decide) (by decide) d2 d2'
    generalize hw0:exOut 0 q0.1 18446744069414584321 0=w0 at *
    generalize hw1:exOut 0 q1.1 6034159408538082302 w0.2=w1 at *
    generalize hw2:exOut 0 q2.1 3691218898639771653 w1.2=w2 at *
    generalize hw3:exOut 0 q3.1 8353516859464449352 w2.2=w3 at *
    clear hw0 hw1 hw2 hw3
    refine (fn_sound envF_ok Try.func70 r1 ?_).conv (fun _ _ h=>h) fun z v hd=>ints_ob rfl (limbsAre4 s0 s0' s1 s1' s2 s2' s3 s3' ?_) hd
    · simp only[AllP,and_true,Ob.k,beq_eq_false_iff_ne]
      clear hsub hX hY hZ ex ey r0 r1 hcase hdiff
      and_intros<;>first | assumption | decide | omega
    · have hz1:q3.2=1:=bit_one c3 c3' hz
      rw[hz1] at hdiff
      exact sub_fin hX hY hcase hdiff (num4_lt ⟨p0,p0'⟩ ⟨p1,p1'⟩ ⟨p2,p2'⟩ ⟨p3,p3'⟩) (num4_lt ⟨s0,s0'⟩ ⟨s1,s1'⟩ ⟨s2,s2'⟩ ⟨s3,s3'⟩) ⟨d3,d3'⟩ (sum4 f0 f1 f2 f3)

end Go.Proofs.Ytdeohachoeopdaa.S4

/- Elements of the lesser field, inside and outside: the functions, walked. No conditions. -/
namespace Go.Proofs.Ytdeohachoeopdaa.S4

def inSpec:FnSpec
  | [.v (.a [.ob (.fr a)])]=>some ([],.v (.a [.ob (.s (inF a))]),[])
  | _=>none
noncomputable def gA:Env:=envF.set (addT envF.fn 28 inSpec)
theorem gA_ok:EnvOk Try.prog gA:=env_add envF_ok 28 inSpec (enters_of Try.func28 rfl rfl) fun args o r es h _=>by
  unfold inSpec at h
  split at h
  · cases h;exact inS_fnd _
  · cases h
def outSpec:FnSpec
  | [.v (.a [.ob (.s x)])]=>some ([],.v (.a [.ob (.fr (outF x))]),[])
  | _=>none
noncomputable def gB:Env:=gA.set (addT gA.fn 29 outSpec)
theorem gB_ok:EnvOk Try.prog gB:=env_add gA_ok 29 outSpec (enters_of Try.func29 rfl rfl) fun args o r es h _=>by
  unfold outSpec at h
  split at h
  · cases h;exact outS_fnd _
  · cases h
def timesSpec:FnSpec
  | [.v (.a [.ob (.s x)]),.v (.a [.ob (.s y)])]=>some ([],.v (.a [.ob (.s (x*y))]),[])
  | _=>none
noncomputable def gC:Env:=gB.set (addT gB.fn 33 timesSpec)
theorem gC_ok:EnvOk Try.prog gC:=env_add gB_ok 33 timesSpec (enters_of Try.func33 rfl rfl) fun args o r es h _=>by
  unfold timesSpec at h
  split at h
  · cases h;exact times_fnd _ _
  · cases h
def plusSpec:FnSpec
  | [.v (.a [.ob (.s x)]),.v (.a [.ob (.s y)])]=>some ([],.v (.a [.ob (.s (x+y))]),[])
  | _=>none
noncomputable def gD:Env:=gC.set (addT gC.fn 31 plusSpec)
theorem gD_ok:EnvOk Try.prog gD:=env_add gC_ok 31 plusSpec (enters_of Try.func31 rfl rfl) fun args o r es h _=>by
  unfold plusSpec at h
  split at h
  · cases h;exact plus_fnd _ _
  · cases h
def minusSpec:FnSpec
  | [.v (.a [.ob (.s x)]),.v (.a [.ob (.s y)])]=>some ([],.v (.a [.ob (.s (x-y))]),[])
  | _=>none
noncomputable def gE:Env:=gD.set (addT gD.fn 70 minusSpec)
theorem gE_ok:EnvOk Try.prog gE:=env_add gD_ok 70 minusSpec (enters_of Try.func70 rfl rfl) fun args o r es h _=>by
  unfold minusSpec at h
  split at h
  · cases h;exact minus_fnd _ _
  · cases h
--@env gE gE_ok
theorem negS (x:Fr):fnRes gE Try.f43 3000 [.v (.a [.ob (.s x)])] [] [] []=(some ([],((.v (.a [(.ob (.s ((0:Fr)-x)))])),[]))):=by kernel_rfl
def negSpec:FnSpec
  | [.v (.a [.ob (.s x)])]=>some ([],.v (.a [.ob (.s (0-x))]),[])
  | _=>none
noncomputable def gF:Env:=gE.set (addT gE.fn 43 negSpec)
theorem gF_ok:EnvOk Try.prog gF:=env_add gE_ok 43 negSpec (enters_of Try.func43 rfl rfl) fun args o r es h _=>by
  unfold negSpec at h
  split at h
  · cases h;exact fn_sound gE_ok Try.func43 (negS _) trivial
  · cases h
--@env gF gF_ok
theorem frC (a:U4):fnRes gF Try.f11 3000 [.v (.a [.ob (.fr a)])] [] [] []=(some ([],((.v (.a [(.ob (.fr (S4.outF (S4.inF a))))])),[]))):=by kernel_rfl
theorem frM (a b:U4):fnRes gF Try.f21 3000 [.v (.a [.ob (.fr a)]),.v (.a [.ob (.fr b)])] [] [] []=(some ([],((.v (.a [(.ob (.fr (S4.outF ((S4.inF a)*(S4.inF b)))))])),[]))):=by kernel_rfl
def cleanSpec:FnSpec
  | [.v (.a [.ob (.fr a)])]=>some ([],.v (.a [.ob (.fr (outF (inF a)))]),[])
  | _=>none
noncomputable def gG:Env:=gF.set (addT gF.fn 11 cleanSpec)
theorem gG_ok:EnvOk Try.prog gG:=env_add gF_ok 11 cleanSpec (enters_of Try.func11 rfl rfl) fun args o r es h _=>by
  unfold cleanSpec at h
  split at h
  · cases h;exact fn_sound gF_ok Try.func11 (frC _) trivial
  · cases h
noncomputable def gH:Env:=gG
theorem gH_ok:EnvOk Try.prog gH:=gG_ok
def mulSpec:FnSpec
  | [.v (.a [.ob (.fr a)]),.v (.a [.ob (.fr b)])]=>some ([],.v (.a [.ob (.fr (outF (inF a*inF b)))]),[])
  | _=>none
noncomputable def gI:Env:=gH.set (addT gH.fn 21 mulSpec)
theorem gI_ok:EnvOk Try.prog gI:=env_add gH_ok 21 mulSpec (enters_of Try.func21 rfl rfl) fun args o r es h _=>by
  unfold mulSpec at h
  split at h
  · cases h;exact fn_sound gF_ok Try.func21 (frM _ _) trivial
  · cases h
noncomputable def gJ:Env:=gI
theorem gJ_ok:EnvOk Try.prog gJ:=gI_ok
noncomputable def gK:Env:=gJ
theorem gK_ok:EnvOk Try.prog gK:=gJ_ok
end Go.Proofs.Ytdeohachoeopdaa.S4

/- Small functions of polynomials, walked. No conditions. -/
namespace Go.Proofs.Ytdeohachoeopdaa.S4
section
variable {w0:World} {F0:Nat→Prop} {K:Kp} {ac:List Act} {Q:Exit→Act→World→Prop} {cX:Ctx} {aX:Act}

--@env gK gK_ok
theorem zeR (x:Fr):fnRes gK Try.f75 3000 [.v (.a [.ob (.s x)])] [] [] []=(some ([],((.v (.c (.bool (ite (true=true) (decide (x=(0:Fr))) (Bool.not (decide (x=(0:Fr)))))))),[]))):=by kernel_rfl
theorem zeS_fnd (x:Fr):FnD Try.prog 75 [.v (.a [.ob (.s x)])] (.v (.c (.bool (decide (x=0))))) []:=by
  refine (fn_sound gK_ok Try.func75 (zeR x) trivial).conv (fun _ _ h=>h) fun y v hd=>?_
  rw[if_pos rfl] at hd
  exact hd
noncomputable def zeroSpec:FnSpec
  | [.v (.a [.ob (.s x)])]=>some ([],.v (.c (.bool (decide (x=0)))),[])
  | _=>none
noncomputable def gL:Env:=gK.set (addT gK.fn 75 zeroSpec)
theorem gL_ok:EnvOk Try.prog gL:=env_add gK_ok 75 zeroSpec (enters_of Try.func75 rfl rfl) fun args o r es h _=>by
  unfold zeroSpec at h
  split at h
  · cases h;exact zeS_fnd _
  · cases h
--@env gL gL_ok
noncomputable def lgIn_k:List KI:=(run gL false 3000 ((fun (ls:List (List U4))=>(⟨[.code (bodyOf Try.f55)],.normal,initSt Try.f55.ntmps [.v (.c (.sl (.frs ls)))]⟩:Cfg)) default) []).cfg.k
theorem lgIn_hk (ls:List (List U4)):(run gL false 3000 ((⟨[.code (bodyOf Try.f55)],.normal,initSt Try.f55.ntmps [.v (.c (.sl (.frs ls)))]⟩:Cfg)) []).cfg.k=lgIn_k:=by kernel_rfl
theorem lgIn (ls:List (List U4)) (ho:AllP []) (hs:Sim w0 F0 K ac (initSt Try.f55.ntmps [.v (.c (.sl (.frs ls)))]) cX aX) (hK:∀ac cY aY,Sim w0 F0 K ac (mkSt 15 [5,6,7] [(.v (.c (.sl (.frs ls)))),(.ii (((List.length ls):Nat):Int)),.ii (0:Int)] [] [] 80 [] []) cY aY→Wq Try.prog Q (lgIn_k) ac Exit.normal aY cY.w):Wq Try.prog Q ([.code (bodyOf Try.f55)]) ac .normal aX cX.w:=
  run_at2 (o:=⟨_,_,_,_,_,_,_⟩) gL_ok (by kernel_rfl) (lgIn_hk ls) ho hs hK
noncomputable def piIn_k:List KI:=(run gL false 3000 ((fun (a:List U4)=>(⟨[.code (bodyOf Try.f56)],.normal,initSt Try.f56.ntmps [.v (.c (.sl (.fr a)))]⟩:Cfg)) default) []).cfg.k
theorem piIn_hk (a:List U4):(run gL false 3000 ((⟨[.code (bodyOf Try.f56)],.normal,initSt Try.f56.ntmps [.v (.c (.sl (.fr a)))]⟩:Cfg)) []).cfg.k=piIn_k:=by kernel_rfl
theorem piIn (a:List U4) (ho:AllP [((0:Int)≤(((List.length a):Nat):Int)),((((List.length a):Nat):Int)=(((List.length a):Nat):Int)),(((32:Int)*(((List.length a):Nat):Int))≤(281474976710656:Int)),((((List.length a):Nat):Int)≤(9223372036854775807:Int))]) (hs:Sim w0 F0 K ac (initSt Try.f56.ntmps [.v (.c (.sl (.fr a)))]) cX aX) (hK:∀ac cY aY,Sim w0 F0 K ac (mkSt 23 [3,9,10,11] [(.v (.c (.slc 64 0 ((((List.length a):Nat):Int)).toNat 4))),(.v (.c (.sl (.fr a)))),(.ii (((List.length a):Nat):Int)),.ii (0:Int)] [64] [(some (.sq (.s (List.replicate ((((List.length a):Nat):Int)).toNat (0:Fr)))))] 144 [] []) cY aY→Wq Try.prog Q (piIn_k) ac Exit.normal aY cY.w):Wq Try.prog Q ([.code (bodyOf Try.f56)]) ac .normal aX cX.w:=
  run_at2 (o:=⟨_,_,_,_,_,_,_⟩) gL_ok (by kernel_rfl) (piIn_hk a) ho hs hK
noncomputable def pbIn_k:List KI:=(run gL false 3000 ((fun (a:List Fr)=>(⟨[.code (bodyOf Try.f57)],.normal,initSt Try.f57.ntmps [.v (.c (.sl (.s a)))]⟩:Cfg)) default) []).cfg.k
theorem pbIn_hk (a:List Fr):(run gL false 3000 ((⟨[.code (bodyOf Try.f57)],.normal,initSt Try.f57.ntmps [.v (.c (.sl (.s a)))]⟩:Cfg)) []).cfg.k=pbIn_k:=by kernel_rfl
theorem pbIn (a:List Fr) (ho:AllP []) (hs:Sim w0 F0 K ac (initSt Try.f57.ntmps [.v (.c (.sl (.s a)))]) cX aX) (hK:∀ac cY aY,Sim w0 F0 K ac (mkSt 37 [0,3] [(.v (.c (.sl (.s a)))),(.ii (((List.length a):Nat):Int))] [] [] 80 [] []) cY aY→Wq Try.prog Q (pbIn_k) ac Exit.normal aY cY.w):Wq Try.prog Q ([.code (bodyOf Try.f57)]) ac .normal aX cX.w:=
  run_at2 (o:=⟨_,_,_,_,_,_,_⟩) gL_ok (by kernel_rfl) (pbIn_hk a) ho hs hK
noncomputable def lgS (ls:List (List U4)) (N i:Nat):St:=mkSt 15 [5,6,7] [(.v (.c (.sl (.frs ls)))),.v (.c (.int .i64 (N:Int))),.v (.c (.int .i64 (i:Int)))] [] [] 80 [] []
theorem lgN_hk (ls:List (List U4)) (N i:Nat):(run gL false 3000 ((⟨lpIn lgIn_k,.normal,lgS ls N i⟩:Cfg)) [true,false]).cfg.k=lpBk lgIn_k:=by kernel_rfl
theorem lgN (ls:List (List U4)) (N i:Nat) (ho:AllP [((decide ((i:Int)<((N:Nat):Int)))=true),((0:Int)≤(i:Int)),((i:Int)<(((List.length ls):Nat):Int)),((decide ((((List.length (List.getD ls ((i:Int)).toNat ([]:List U4))):Nat):Int) > (262144:Int)))=false)]) (hs:Sim w0 F0 K ac (lgS ls N i) cX aX) (hK:∀ac cY aY,Sim w0 F0 K ac (mkSt 15 [5,6,7] [(.v (.c (.sl (.frs ls)))),(.ii ((N:Nat):Int)),(.ii (IntKind.wrap .i64 ((i:Int)+(1:Int))))] [] [] 224 [] []) cY aY→Wq Try.prog Q (lpBk lgIn_k) ac Exit.normal aY cY.w):Wq Try.prog Q (lpIn lgIn_k) ac .normal aX cX.w:=
  run_at2 (o:=⟨_,_,_,_,_,_,_⟩) gL_ok (by kernel_rfl) (lgN_hk ls N i) ho hs hK
theorem lgY_end (ls:List (List U4)) (N i:Nat):runEnd gL Try.f55 false 3000 (⟨lpIn lgIn_k,.normal,lgS ls N i⟩) [true,true] [] []=(some ([((decide ((i:Int)<((N:Nat):Int)))=true),((0:Int)≤(i:Int)),((i:Int)<(((List.length ls):Nat):Int)),((decide ((((List.length (List.getD ls ((i:Int)).toNat ([]:List U4))):Nat):Int) > (262144:Int)))=true)],((.v (.c (.lit true))),[]))):=by kernel_rfl
theorem lgX_end (ls:List (List U4)) (N i:Nat):runEnd gL Try.f55 false 3000 (⟨lpIn lgIn_k,.normal,lgS ls N i⟩) [false] [] []=(some ([((decide ((i:Int)<((N:Nat):Int)))=false)],((.v (.c (.lit false))),[]))):=by kernel_rfl
noncomputable def piS (a:List U4) (N:Nat) (L:List Fr) (i:Nat):St:=mkSt 23 [3,9,10,11] [.v (.c (.slc 64 0 N 4)),(.v (.c (.sl (.fr a)))),.v (.c (.int .i64 (N:Int))),.v (.c (.int .i64 (i:Int)))] [64] [some (.sq (.s L))] 144 [] []
theorem piN_hk (a:List U4) (N:Nat) (L:List Fr) (i:Nat):(run gL false 3000 ((⟨lpIn piIn_k,.normal,piS a N L i⟩:Cfg)) [true]).cfg.k=lpBk piIn_k:=by kernel_rfl
theorem piN (a:List U4) (N:Nat) (L:List Fr) (i:Nat) (ho:AllP [((decide ((i:Int)<((N:Nat):Int)))=true),((0:Int)≤(i:Int)),((i:Int)<(((List.length a):Nat):Int)),((0:Int)≤(i:Int)),((i:Int)<((N:Nat):Int)),(0=0),(((i:Int)).toNat<(List.length L))]) (hs:Sim w0 F0 K ac (piS a N L i) cX aX) (hK:∀ac cY aY,Sim w0 F0 K ac (mkSt 23 [3,9,10,11] [(.v (.c (.slc 64 0 N 4))),(.v (.c (.sl (.fr a)))),(.ii ((N:Nat):Int)),(.ii (IntKind.wrap .i64 ((i:Int)+(1:Int))))] [64] [(some (.sq (.s (List.set L ((i:Int)).toNat (S4.inF (List.getD a ((i:Int)).toNat (0:U4)))))))] 384 [] []) cY aY→Wq Try.prog Q (lpBk piIn_k) ac Exit.normal aY cY.w):Wq Try.prog Q (lpIn piIn_k) ac .normal aX cX.w:=
  run_at2 (o:=⟨_,_,_,_,_,_,_⟩) gL_ok (by kernel_rfl) (piN_hk a N L i) ho hs hK
theorem piX_end (a:List U4) (N:Nat) (L:List Fr) (i:Nat):runEnd gL Try.f56 false 3000 (⟨lpIn piIn_k,.normal,piS a N L i⟩) [false] [64] []=(some ([((decide ((i:Int)<((N:Nat):Int)))=false)],((.v (.c (.slc 0 0 N 4))),[(.sq (.s L))]))):=by kernel_rfl
noncomputable def pbS (a:List Fr) (n:Nat):St:=mkSt 37 [0,3] [(.v (.c (.sl (.s a)))),.v (.c (.int .i64 (n:Int)))] [] [] 80 [] []
theorem pbN_hk (a:List Fr) (n:Nat):(run gL false 3000 ((⟨lpIn pbIn_k,.normal,pbS a n⟩:Cfg)) [true,true]).cfg.k=lpBk pbIn_k:=by kernel_rfl
theorem pbN (a:List Fr) (n:Nat) (ho:AllP [((decide (((n:Nat):Int) > (0:Int)))=true),((0:Int)≤(IntKind.wrap .i64 (((n:Nat):Int)-(1:Int)))),((IntKind.wrap .i64 (((n:Nat):Int)-(1:Int)))<(((List.length a):Nat):Int)),((decide ((List.getD a ((IntKind.wrap .i64 (((n:Nat):Int)-(1:Int)))).toNat (0:Fr))=(0:Fr)))=true)]) (hs:Sim w0 F0 K ac (pbS a n) cX aX) (hK:∀ac cY aY,Sim w0 F0 K ac (mkSt 37 [0,3] [(.v (.c (.sl (.s a)))),(.ii (IntKind.wrap .i64 (((n:Nat):Int)-(1:Int))))] [] [] 288 [] []) cY aY→Wq Try.prog Q (lpBk pbIn_k) ac Exit.normal aY cY.w):Wq Try.prog Q (lpIn pbIn_k) ac .normal aX cX.w:=
  run_at2 (o:=⟨_,_,_,_,_,_,_⟩) gL_ok (by kernel_rfl) (pbN_hk a n) ho hs hK
noncomputable def pbB_k:List KI:=(run gL false 3000 ((fun (a:List Fr) (n:Nat)=>(⟨lpIn pbIn_k,.normal,pbS a n⟩:Cfg)) default default) [true,false]).cfg.k
theorem pbB_hk (a:List Fr) (n:Nat):(run gL false 3000 ((⟨lpIn pbIn_k,.normal,pbS a n⟩:Cfg)) [true,false]).cfg.k=pbB_k:=by kernel_rfl
theorem pbB (a:List Fr) (n:Nat) (ho:AllP [((decide (((n:Nat):Int) > (0:Int)))=true),((0:Int)≤(IntKind.wrap .i64 (((n:Nat):Int)-(1:Int)))),((IntKind.wrap .i64 (((n:Nat):Int)-(1:Int)))<(((List.length a):Nat):Int)),((decide ((List.getD a ((IntKind.wrap .i64 (((n:Nat):Int)-(1:Int)))).toNat (0:Fr))=(0:Fr)))=false),((0:Int)≤((n:Nat):Int)),(((n:Nat):Int)=((n:Nat):Int)),(((32:Int)*((n:Nat):Int))≤(281474976710656:Int)),(((n:Nat):Int)≤(9223372036854775807:Int))]) (hs:Sim w0 F0 K ac (pbS a n) cX aX) (hK:∀ac cY aY,Sim w0 F0 K ac (mkSt 37 [0,4,23,24] [(.v (.c (.sl (.s a)))),(.v (.c (.slc 256 0 (((n:Nat):Int)).toNat 4))),(.ii (((((n:Nat):Int)).toNat:Nat):Int)),.ii (0:Int)] [256] [(some (.sq (.fr (List.replicate (((n:Nat):Int)).toNat (0:U4)))))] 336 [] []) cY aY→Wq Try.prog Q (pbB_k) ac Exit.normal aY cY.w):Wq Try.prog Q (lpIn pbIn_k) ac .normal aX cX.w:=
  run_at2 (o:=⟨_,_,_,_,_,_,_⟩) gL_ok (by kernel_rfl) (pbB_hk a n) ho hs hK
theorem pbC_hk (a:List Fr) (n:Nat):(run gL false 3000 ((⟨lpIn pbIn_k,.normal,pbS a n⟩:Cfg)) [false]).cfg.k=pbB_k:=by kernel_rfl
theorem pbC (a:List Fr) (n:Nat) (ho:AllP [((decide (((n:Nat):Int) > (0:Int)))=false),((0:Int)≤((n:Nat):Int)),(((n:Nat):Int)=((n:Nat):Int)),(((32:Int)*((n:Nat):Int))≤(281474976710656:Int)),(((n:Nat):Int)≤(9223372036854775807:Int))]) (hs:Sim w0 F0 K ac (pbS a n) cX aX) (hK:∀ac cY aY,Sim w0 F0 K ac (mkSt 37 [0,4,23,24] [(.v (.c (.sl (.s a)))),(.v (.c (.slc 256 0 (((n:Nat):Int)).toNat 4))),(.ii (((((n:Nat):Int)).toNat:Nat):Int)),.ii (0:Int)] [256] [(some (.sq (.fr (List.replicate (((n:Nat):Int)).toNat (0:U4)))))] 336 [] []) cY aY→Wq Try.prog Q (pbB_k) ac Exit.normal aY cY.w):Wq Try.prog Q (lpIn pbIn_k) ac .normal aX cX.w:=
  run_at2 (o:=⟨_,_,_,_,_,_,_⟩) gL_ok (by kernel_rfl) (pbC_hk a n) ho hs hK
noncomputable def pbT (a:List Fr) (N:Nat) (L:List U4) (i:Nat):St:=mkSt 37 [0,4,23,24] [(.v (.c (.sl (.s a)))),.v (.c (.slc 256 0 N 4)),.v (.c (.int .i64 (N:Int))),.v (.c (.int .i64 (i:Int)))] [256] [some (.sq (.fr L))] 336 [] []
theorem pbM_hk (a:List Fr) (N:Nat) (L:List U4) (i:Nat):(run gL false 3000 ((⟨lpIn pbB_k,.normal,pbT a N L i⟩:Cfg)) [true]).cfg.k=lpBk pbB_k:=by kernel_rfl
theorem pbM (a:List Fr) (N:Nat) (L:List U4) (i:Nat) (ho:AllP [((decide ((i:Int)<((N:Nat):Int)))=true),((0:Int)≤(i:Int)),((i:Int)<(((List.length a):Nat):Int)),((0:Int)≤(i:Int)),((i:Int)<((N:Nat):Int)),(0=0),(((i:Int)).toNat<(List.length L))]) (hs:Sim w0 F0 K ac (pbT a N L i) cX aX) (hK:∀ac cY aY,Sim w0 F0 K ac (mkSt 37 [0,4,23,24] [(.v (.c (.sl (.s a)))),(.v (.c (.slc 256 0 N 4))),(.ii ((N:Nat):Int)),(.ii (IntKind.wrap .i64 ((i:Int)+(1:Int))))] [256] [(some (.sq (.fr (List.set L ((i:Int)).toNat (S4.outF (List.getD a ((i:Int)).toNat (0:Fr)))))))] 560 [] []) cY aY→Wq Try.prog Q (lpBk pbB_k) ac Exit.normal aY cY.w):Wq Try.prog Q (lpIn pbB_k) ac .normal aX cX.w:=
  run_at2 (o:=⟨_,_,_,_,_,_,_⟩) gL_ok (by kernel_rfl) (pbM_hk a N L i) ho hs hK
theorem pbX_end (a:List Fr) (N:Nat) (L:List U4) (i:Nat):runEnd gL Try.f57 false 3000 (⟨lpIn pbB_k,.normal,pbT a N L i⟩) [false] [256] []=(some ([((decide ((i:Int)<((N:Nat):Int)))=false)],((.v (.c (.slc 0 0 N 4))),[(.sq (.fr L))]))):=by kernel_rfl
end
end Go.Proofs.Ytdeohachoeopdaa.S4

/- Small functions of polynomials: contracts. No conditions. -/
namespace Go.Proofs.Ytdeohachoeopdaa.S4

/-- A row that is filled from its front. -/
theorem fill_set {α:Type} (f:Nat→α) (z:α) {i N:Nat} (h:i<N):((List.range i).map f++List.replicate (N-i) z).set i (f i)=(List.range (i+1)).map f++List.replicate (N-(i+1)) z:=by
  rw[List.set_append_right _ _ (by simp)]
  have e:N-i=(N-(i+1))+1:=by omega
  rw[e,List.replicate_succ]
  simp [List.range_succ]

theorem fill_len {α:Type} (f:Nat→α) (z:α) {i N:Nat} (h:i≤N):((List.range i).map f++List.replicate (N-i) z).length=N:=by
  simp
  omega

theorem range_getD {α β:Type} (g:α→β) (l:List α) (d:α):(List.range l.length).map (fun i=>g (l.getD i d))=l.map g:=by
  apply List.ext_getElem
  · simp
  · intro i h1 h2
    simp at h1
    simp [List.getD,h1]


/-- How many coefficients are left of the first n, what is 0 at the end left out. -/
def trimN (l:List Fr):Nat→Nat
  | 0=>0
  | n+1=>if l.getD n 0=0 then trimN l n else n+1
def trimF (l:List Fr):List Fr:=l.take (trimN l l.length)

theorem trimN_le (l:List Fr):∀n,trimN l n≤n
  | 0=>Nat.le_refl _
  | n+1=>by
    show (if l.getD n 0=0 then trimN l n else n+1)≤n+1
    split
    · exact Nat.le_succ_of_le (trimN_le l n)
    · exact Nat.le_refl _

theorem trimF_len (l:List Fr):(trimF l).length=trimN l l.length:=by
  have:=trimN_le l l.length
  unfold trimF
  rw[List.length_take]
  omega

theorem any_drop {α:Type} (f:α→Bool) (d:α) (l:List α) (i:Nat) (h:i<l.length):(l.drop i).any f=(f (l.getD i d) || (l.drop (i+1)).any f):=by
  rw[List.drop_eq_getElem_cons h,List.any_cons]
  simp [List.getD,h]

def longB (ls:List (List U4)):Bool:=ls.any fun l=>decide (262144<l.length)
theorem long_fnd (ls:List (List U4)):FnD Try.prog 55 [.v (.c (.sl (.frs ls)))] (.v (.c (.bool (longB ls)))) []:=by
  refine fn_start (fn:=Try.f55) (c:=bodyOf Try.f55) Try.func55 rfl rfl fun x a hk hF hs=>?_
  have hl:ls.length≤maxLen:=sl_len (q:=.frs ls) (hs.t 0)
  unfold maxLen at hl
  refine lgIn ls trivial hs fun ac cY aY hs1=>?_
  refine loop_rule (ι:={ i:Nat // i≤ls.length∧longB ls=longB (ls.drop i) }) (fun i=>lgS ls ls.length i.1) (fun i=>ls.length-i.1) (c:=lpC lgIn_k) (k:=lpR lgIn_k) (by kernel_rfl) (fun i ih ac cY aY hs=>?_) ⟨0,Nat.zero_le _,rfl⟩ hs1
  obtain ⟨i,hi,he⟩:=i
  simp only at ih hs
  by_cases h:i<ls.length
  · have hd:=any_drop (fun l:List U4=>decide (262144<l.length)) [] ls i h
    by_cases hg:262144<(ls.getD i []).length
    · refine run_end2 gL_ok hk hF (lgY_end ls ls.length i) ⟨by simp [h],by omega,by omega,by rw[Int.toNat_natCast,decide_eq_true_eq];omega,trivial⟩ (fun y v hd' => ?_) hs
      rw[he]
      unfold longB
      rw[hd,decide_eq_true hg,Bool.true_or]
      exact lit_bool rfl hd'
    · refine lgN ls ls.length i ⟨by simp [h],by omega,by omega,by rw[Int.toNat_natCast,decide_eq_false_iff_not];omega,trivial⟩ hs fun ac cY aY hs2=>?_
      rw[wrap_id (by omega) (by omega)] at hs2
      refine ih ⟨i+1,by omega,?_⟩ (by show ls.length-(i+1)<ls.length-i;omega) ac cY aY (hs2.nx _)
      rw[he]
      unfold longB
      rw[hd,decide_eq_false hg,Bool.false_or]
  · have e:i=ls.length:=by omega
    refine run_end2 gL_ok hk hF (lgX_end ls ls.length i) ⟨by simp [h],trivial⟩ (fun y v hd' => ?_) hs
    rw[he,e,List.drop_length]
    exact lit_bool rfl hd'

theorem in_fnd (a:List U4) (hl0:a.length≤8796093022208):FnD Try.prog 56 [.v (.c (.sl (.fr a)))] (.v (.c (.slc 0 0 a.length 4))) [.sq (.s (a.map inF))]:=by
  refine fn_start (fn:=Try.f56) (c:=bodyOf Try.f56) Try.func56 rfl rfl fun x a0 hk hF hs=>?_
  refine piIn a (by and_intros<;>first | trivial | decide | omega) hs fun ac cY aY hs1=>?_
  rw[Int.toNat_natCast] at hs1
  refine loop_rule (ι:={ i:Nat // i≤a.length }) (fun i=>piS a a.length ((List.range i.1).map (fun i=>inF (a.getD i 0))++List.replicate (a.length-i.1) 0) i.1) (fun i=>a.length-i.1) (c:=lpC piIn_k) (k:=lpR piIn_k) (by kernel_rfl) (fun i ih ac cY aY hs=>?_) ⟨0,Nat.zero_le _⟩ hs1
  obtain ⟨i,hi⟩:=i
  simp only at ih hs
  have hl:=fill_len (fun i=>inF (a.getD i 0)) 0 hi
  by_cases h:i<a.length
  · refine piN a a.length _ i ⟨by simp [h],by omega,by omega,by omega,by omega,rfl,by rw[hl];omega,trivial⟩ hs fun ac cY aY hs2=>?_
    rw[Int.toNat_natCast,fill_set (fun i=>inF (a.getD i 0)) _ h,wrap_id (by omega) (by omega)] at hs2
    exact ih ⟨i+1,by omega⟩ (by show a.length-(i+1)<a.length-i;omega) ac cY aY (hs2.nx _)
  · have e:i=a.length:=by omega
    rw[e,Nat.sub_self,List.replicate_zero,List.append_nil,range_getD] at hs
    exact run_end2 gL_ok hk hF (piX_end a a.length _ a.length) ⟨by simp,trivial⟩ (fun y v hd=>hd) hs

theorem range_take {α β:Type} (g:α→β) (l:List α) (d:α) {n:Nat} (h:n≤l.length):(List.range n).map (fun i=>g (l.getD i d))=(l.take n).map g:=by
  apply List.ext_getElem
  · simp;omega
  · intro i h1 h2
    simp at h1
    simp [List.getD,show i<l.length from by omega]

theorem back_fnd (a:List Fr) (hl0:a.length≤8796093022208):FnD Try.prog 57 [.v (.c (.sl (.s a)))] (.v (.c (.slc 0 0 (trimF a).length 4))) [.sq (.fr ((trimF a).map outF))]:=by
  rw[trimF_len]
  refine fn_start (fn:=Try.f57) (c:=bodyOf Try.f57) Try.func57 rfl rfl fun x a0 hk hF hs=>?_
  refine pbIn a trivial hs fun ac cY aY hs1=>?_
  refine loop_rule (ι:={ n:Nat // n≤a.length∧trimN a n=trimN a a.length }) (fun n=>pbS a n.1) (fun n=>n.1) (c:=lpC pbIn_k) (k:=lpR pbIn_k) (by kernel_rfl) (fun n ih ac cY aY hs=>?_) ⟨a.length,Nat.le_refl _,rfl⟩ hs1
  obtain ⟨n,hn,he⟩:=n
  simp only at ih hs
  -- from the second loop on
  have key:trimN a a.length=n→∀ac cY aY,Sim x.w x.F kAll ac (pbT a n (List.replicate n 0) 0) cY aY→Wq Try.prog (Post Try.prog Try.f57 x (.v (.c (.slc 0 0 (trimN a a.length) 4))) [.sq (.fr ((trimF a).map outF))]) pbB_k ac .normal aY cY.w:=by
    intro hN ac cY aY hs
    have hs:Sim x.w x.F kAll ac (pbT a n ((List.range 0).map (fun i=>outF (a.getD i 0))++List.replicate (n-0) 0) 0) cY aY:=hs
    refine loop_rule (ι:={ i:Nat // i≤n }) (fun i=>pbT a n ((List.range i.1).map (fun i=>outF (a.getD i 0))++List.replicate (n-i.1) 0) i.1) (fun i=>n-i.1) (c:=lpC pbB_k) (k:=lpR pbB_k) (by kernel_rfl) (fun i ih ac cY aY hs=>?_) ⟨0,Nat.zero_le _⟩ hs
    obtain ⟨i,hi⟩:=i
    simp only at ih hs
    have hl:=fill_len (fun i=>outF (a.getD i 0)) 0 hi
    by_cases h:i<n
    · refine pbM a n _ i ⟨by simp [h],by omega,by omega,by omega,by omega,rfl,by rw[hl];omega,trivial⟩ hs fun ac cY aY hs2=>?_
      rw[Int.toNat_natCast,fill_set (fun i=>outF (a.getD i 0)) _ h,wrap_id (by omega) (by omega)] at hs2
      exact ih ⟨i+1,by omega⟩ (by show n-(i+1)<n-i;omega) ac cY aY (hs2.nx _)
    · have e:i=n:=by omega
      unfold trimF
      rw[e,Nat.sub_self,List.replicate_zero,List.append_nil,range_take _ _ _ hn] at hs
      rw[hN]
      exact run_end2 gL_ok hk hF (pbX_end a n _ n) ⟨by simp,trivial⟩ (fun y v hd=>hd) hs
  by_cases h0:n=0
  · refine pbC a n (by and_intros<;>first | trivial | decide | omega | (simp only[decide_eq_false_iff_not];omega)) hs fun ac cY aY hs2=>?_
    rw[Int.toNat_natCast] at hs2
    exact key (by rw[←he,h0];rfl) ac cY aY (hs2.nx _)
  · obtain ⟨m,rfl⟩:∃m,n=m+1:=⟨n-1,by omega⟩
    have hw:IntKind.wrap IntKind.i64 (((m+1:Nat):Int)-1)=(m:Int):=by rw[wrap_id (by omega) (by omega)];omega
    have hT:trimN a (m+1)=if a.getD m 0=0 then trimN a m else m+1:=rfl
    by_cases hz:a.getD m 0=0
    · refine pbN a (m+1) (by rw[hw];exact ⟨by simp only[decide_eq_true_eq];omega,by omega,by omega,by rw[Int.toNat_natCast,decide_eq_true hz],trivial⟩) hs fun ac cY aY hs2=>?_
      rw[hw] at hs2
      exact ih ⟨m,by omega,by rw[←he,hT,if_pos hz]⟩ (Nat.lt_succ_self m) ac cY aY (hs2.nx _)
    · refine pbB a (m+1) (by rw[hw];exact ⟨by simp only[decide_eq_true_eq];omega,by omega,by omega,by rw[Int.toNat_natCast,decide_eq_false hz],by omega,rfl,by omega,by omega,trivial⟩) hs fun ac cY aY hs2=>?_
      rw[Int.toNat_natCast] at hs2
      exact key (by rw[←he,hT,if_neg hz]) ac cY aY (hs2.nx _)

end Go.Proofs.Ytdeohachoeopdaa.S4

/- Polynomials as rows of coefficients: trimming, sums, multiples, values. No conditions. -/
namespace Go.Proofs.Ytdeohachoeopdaa.S4

theorem fr_zero_mul (x:Fr):0*x=0:=Fin.zero_mul x
theorem fr_add_zero (x:Fr):x+0=x:=Fin.add_zero x
def cf (l:List Fr) (i:Nat):Fr:=l.getD i 0

theorem cf_out {l:List Fr} {i:Nat} (h:l.length≤i):cf l i=0:=by simp [cf,List.getD,h]

theorem trimN_zero (l:List Fr):∀n i,trimN l n≤i→i<n→cf l i=0
  | 0,i,_,h=>by omega
  | n+1,i,h1,h2=>by
    have e:trimN l (n+1)=if l.getD n 0=0 then trimN l n else n+1:=rfl
    rw[e] at h1
    split at h1
    · rename_i hz
      by_cases hi:i=n
      · subst hi;exact hz
      · exact trimN_zero l n i h1 (by omega)
    · omega

theorem trim_zero (l:List Fr) (i:Nat) (h:trimN l l.length≤i):cf l i=0:=by
  by_cases hi:i<l.length
  · exact trimN_zero l _ i h hi
  · exact cf_out (by omega)

theorem cf_take (l:List Fr) (k i:Nat):cf (l.take k) i=if i<k then cf l i else 0:=by
  unfold cf
  by_cases h:i<k
  · simp [List.getD,h]
  · simp [List.getD,List.getElem?_take,h]

theorem trim_cf (l:List Fr) (i:Nat):cf (trimF l) i=cf l i:=by
  unfold trimF
  rw[cf_take]
  split
  · rfl
  · rw[trim_zero l i (by omega)]

theorem cf_range (f:Nat→Fr) (n i:Nat) (h:∀j,n≤j→f j=0):cf ((List.range n).map f) i=f i:=by
  unfold cf
  by_cases hi:i<n
  · simp [List.getD,hi]
  · have:((List.range n).map f).length≤i:=by simp;omega
    simp [List.getD,hi,h i (by omega)]

def addL (a b:List Fr):List Fr:=(List.range (Nat.max a.length b.length)).map fun i=>cf a i+cf b i
def scaleL (a:List Fr) (k:Fr):List Fr:=(List.range a.length).map fun i=>cf a i*k
theorem addL_cf (a b:List Fr) (i:Nat):cf (addL a b) i=cf a i+cf b i:=by
  refine cf_range (fun i=>cf a i+cf b i) _ _ fun j hj=>?_
  have h1:=Nat.le_max_left a.length b.length
  have h2:=Nat.le_max_right a.length b.length
  have hj:max a.length b.length≤j:=hj
  rw[cf_out (l:=a) (by omega),cf_out (l:=b) (by omega),fr_add_zero]

theorem scaleL_cf (a:List Fr) (k:Fr) (i:Nat):cf (scaleL a k) i=cf a i*k:=by
  refine cf_range (fun i=>cf a i*k) _ _ fun j hj=>?_
  rw[cf_out (l:=a) hj,fr_zero_mul]

theorem max_int (m n:Nat):(if (n:Int) > (m:Int) then (n:Int) else (m:Int))=((max m n:Nat):Int):=by
  split<;>omega
theorem max_two (m n:Nat):m≤max m n∧n≤max m n∧(max m n=m∨max m n=n):=by omega

theorem long_two {a b:List U4} (ha:a.length≤262144) (hb:b.length≤262144):longB ([a]++[b])=false:=by
  show (decide (262144<a.length) || (decide (262144<b.length) || false))=false
  rw[decide_eq_false (by omega),decide_eq_false (by omega)]
  rfl


theorem max_zero (m:Nat):(if (0:Int) > (m:Int) then (0:Int) else (m:Int))=(m:Int):=if_neg (by omega)
theorem trim_le (l:List Fr):(trimF l).length≤l.length:=by rw[trimF_len];exact trimN_le _ _
theorem addL_len (a b:List Fr):(addL a b).length=max a.length b.length:=by unfold addL;rw[List.length_map,List.length_range]
theorem scaleL_len (a:List Fr) (k:Fr):(scaleL a k).length=a.length:=by unfold scaleL;rw[List.length_map,List.length_range]

/-- The first n coefficients' share of the value at a place, powers of which are told. -/
def evF (f g:Nat→Fr):Nat→Fr
  | 0=>0
  | n+1=>evF f g n+f n*g n
theorem ev_add0 {r:Nat} [NeZero r] (a b x y g:Fin r):a+b+(x+y)*g=a+x*g+(b+y*g):=by grind
theorem ev_mul0 {r:Nat} [NeZero r] (a x k g:Fin r):a*k+x*k*g=(a+x*g)*k:=by grind
theorem evF_congr {f f' g:Nat→Fr}:∀n,(∀i,i<n→f i=f' i)→evF f g n=evF f' g n
  | 0,_=>rfl
  | n+1,h=>by
    show evF f g n+f n*g n=evF f' g n+f' n*g n
    rw[evF_congr n fun i hi=>h i (by omega),h n (by omega)]
theorem evF_add (f f' g:Nat→Fr):∀n,evF (fun i=>f i+f' i) g n=evF f g n+evF f' g n
  | 0=>(fr_add_zero 0).symm
  | n+1=>by
    show evF (fun i=>f i+f' i) g n+(f n+f' n)*g n=(evF f g n+f n*g n)+(evF f' g n+f' n*g n)
    rw[evF_add f f' g n]
    exact ev_add0 _ _ _ _ _
theorem evF_mul (f g:Nat→Fr) (k:Fr):∀n,evF (fun i=>f i*k) g n=evF f g n*k
  | 0=>(fr_zero_mul k).symm
  | n+1=>by
    show evF (fun i=>f i*k) g n+f n*k*g n=(evF f g n+f n*g n)*k
    rw[evF_mul f g k n]
    exact ev_mul0 _ _ _ _
theorem evF_more (f g:Nat→Fr) {m:Nat} (h:∀i,m≤i→f i=0):∀n,m≤n→evF f g n=evF f g m
  | 0,hn=>by rw[Nat.le_zero.1 hn]
  | n+1,hn=>by
    by_cases e:m=n+1
    · rw[e]
    · show evF f g n+f n*g n=_
      rw[h n (by omega),fr_zero_mul,fr_add_zero]
      exact evF_more f g h n (by omega)
end Go.Proofs.Ytdeohachoeopdaa.S4

/- Trimming, sums and multiples of polynomials, walked. No conditions. -/
namespace Go.Proofs.Ytdeohachoeopdaa.S4
section
variable {w0:World} {F0:Nat→Prop} {K:Kp} {ac:List Act} {Q:Exit→Act→World→Prop} {cX:Ctx} {aX:Act}

theorem val_nil_sl {x:Ctx} {q:Sq} (hq:q.n=0) {v:Value} (h:denS x (.v (.c (.val (.slice none 0 0)))) v):denS x (.v (.c (.sl q))) v:=by
  have e:=(D_val h).1
  subst e
  exact ⟨rfl,1,.inl ⟨none,0,rfl,hq⟩⟩
noncomputable def longSpec:FnSpec
  | [.v (.c (.sl (.frs ls)))]=>some ([],.v (.c (.bool (longB ls))),[])
  | _=>none
noncomputable def hA:Env:=gL.set (addT gL.fn 55 longSpec)
theorem hA_ok:EnvOk Try.prog hA:=env_add gL_ok 55 longSpec (enters_of Try.func55 rfl rfl) fun args o r es h _=>by
  unfold longSpec at h
  split at h
  · cases h;exact long_fnd _
  · cases h
def in56S:FnSpec
  | [.v (.c (.sl (.fr a)))]=>some ([a.length≤8796093022208],.v (.c (.slc 0 0 a.length 4)),[.sq (.s (a.map inF))])
  | [.v (.c (.val (.slice none 0 0)))]=>some ([],.v (.c (.slc 0 0 0 4)),[.sq (.s [])])
  | _=>none
noncomputable def hB:Env:=hA.set (addT hA.fn 56 in56S)
theorem hB_ok:EnvOk Try.prog hB:=env_add hA_ok 56 in56S (enters_of Try.func56 rfl rfl) fun args o r es h ho=>by
  unfold in56S at h
  split at h
  · cases h;exact in_fnd _ ho.1
  · cases h
    refine (in_fnd [] (by decide)).conv (fun x vs hd=>?_) (fun _ _ h=>h)
    cases hd with | cons ha hd=>
    cases hd
    exact .cons (val_nil_sl rfl ha) .nil
  · cases h
noncomputable def backSpec:FnSpec
  | [.v (.c (.sl (.s a)))]=>some ([a.length≤8796093022208],.v (.c (.slc 0 0 (trimF a).length 4)),[.sq (.fr ((trimF a).map outF))])
  | _=>none
noncomputable def hC:Env:=hB.set (addT hB.fn 57 backSpec)
theorem hC_ok:EnvOk Try.prog hC:=env_add hB_ok 57 backSpec (enters_of Try.func57 rfl rfl) fun args o r es h ho=>by
  unfold backSpec at h
  split at h
  · cases h;exact back_fnd _ ho.1
  · cases h
--@env hC hC_ok
theorem trimR (a:List U4):fnRes hC Try.f34 3000 [.v (.c (.sl (.fr a)))] [] [64] []=(some ([((List.length a)≤8796093022208),(0=0),((List.length a)=(List.length (List.map S4.inF a))),(4=4),((List.length (List.map S4.inF a))≤8796093022208)],((.v (.c (.slc 0 0 (List.length (S4.trimF (List.map S4.inF a))) 4))),[(.sq (.fr (List.map S4.outF (S4.trimF (List.map S4.inF a)))))]))):=by kernel_rfl
noncomputable def jaIn_k:List KI:=(run hC false 3000 ((fun (a b:List U4)=>(⟨[.code (bodyOf Try.f30)],.normal,initSt Try.f30.ntmps [.v (.c (.sl (.fr a))),.v (.c (.sl (.fr b))),.v (.c (.clo 31 []))]⟩:Cfg)) default default) [false]).cfg.k
theorem jaIn_hk (a b:List U4):(run hC false 3000 ((⟨[.code (bodyOf Try.f30)],.normal,initSt Try.f30.ntmps [.v (.c (.sl (.fr a))),.v (.c (.sl (.fr b))),.v (.c (.clo 31 []))]⟩:Cfg)) [false]).cfg.k=jaIn_k:=by kernel_rfl
theorem jaIn (a b:List U4) (ho:AllP [(0=0),(2=(List.length ([a]++[b]))),(1=1),((S4.longB ([a]++[b]))=false),((List.length a)≤8796093022208),((List.length b)≤8796093022208),((0:Int)≤(ite ((((List.length b):Nat):Int) > (((List.length a):Nat):Int)) (((List.length b):Nat):Int) (((List.length a):Nat):Int))),((ite ((((List.length b):Nat):Int) > (((List.length a):Nat):Int)) (((List.length b):Nat):Int) (((List.length a):Nat):Int))=(ite ((((List.length b):Nat):Int) > (((List.length a):Nat):Int)) (((List.length b):Nat):Int) (((List.length a):Nat):Int))),(((32:Int)*(ite ((((List.length b):Nat):Int) > (((List.length a):Nat):Int)) (((List.length b):Nat):Int) (((List.length a):Nat):Int)))≤(281474976710656:Int)),((ite ((((List.length b):Nat):Int) > (((List.length a):Nat):Int)) (((List.length b):Nat):Int) (((List.length a):Nat):Int))≤(9223372036854775807:Int))]) (hs:Sim w0 F0 K ac (initSt Try.f30.ntmps [.v (.c (.sl (.fr a))),.v (.c (.sl (.fr b))),.v (.c (.clo 31 []))]) cX aX) (hK:∀ac cY aY,Sim w0 F0 K ac (mkSt 59 [2,8,9,10,29,30] [(.v (.c (.clo 31 ([]:List (Prod Nat Nat))))),(.v (.c (.slc 128 0 (List.length a) 4))),(.v (.c (.slc 160 0 (List.length b) 4))),(.v (.c (.slc 288 0 ((ite ((((List.length b):Nat):Int) > (((List.length a):Nat):Int)) (((List.length b):Nat):Int) (((List.length a):Nat):Int))).toNat 4))),(.ii ((((ite ((((List.length b):Nat):Int) > (((List.length a):Nat):Int)) (((List.length b):Nat):Int) (((List.length a):Nat):Int))).toNat:Nat):Int)),.ii (0:Int)] [128,160,288] [(some (.sq (.s (List.map S4.inF a)))),(some (.sq (.s (List.map S4.inF b)))),(some (.sq (.s (List.replicate ((ite ((((List.length b):Nat):Int) > (((List.length a):Nat):Int)) (((List.length b):Nat):Int) (((List.length a):Nat):Int))).toNat (0:Fr)))))] 368 [] []) cY aY→Wq Try.prog Q (jaIn_k) ac Exit.normal aY cY.w):Wq Try.prog Q ([.code (bodyOf Try.f30)]) ac .normal aX cX.w:=
  run_at2 (o:=⟨_,_,_,_,_,_,_⟩) hC_ok (by kernel_rfl) (jaIn_hk a b) ho hs hK
noncomputable def jaS (A B:List Fr) (la lb M:Nat) (L:List Fr) (i:Nat):St:=mkSt 59 [2,8,9,10,29,30] [(.v (.c (.clo 31 ([]:List (Prod Nat Nat))))),.v (.c (.slc 128 0 la 4)),.v (.c (.slc 160 0 lb 4)),.v (.c (.slc 288 0 M 4)),.v (.c (.int .i64 (M:Int))),.v (.c (.int .i64 (i:Int)))] [128,160,288] [some (.sq (.s A)),some (.sq (.s B)),some (.sq (.s L))] 368 [] []
theorem jaA_hk (A B:List Fr) (la lb M:Nat) (L:List Fr) (i:Nat):(run hC false 3000 ((⟨lpIn jaIn_k,.normal,jaS A B la lb M L i⟩:Cfg)) [true,true,true]).cfg.k=lpBk jaIn_k:=by kernel_rfl
theorem jaA (A B:List Fr) (la lb M:Nat) (L:List Fr) (i:Nat) (ho:AllP [((decide ((i:Int)<((M:Nat):Int)))=true),((decide ((i:Int)<((la:Nat):Int)))=true),((0:Int)≤(i:Int)),((i:Int)<((la:Nat):Int)),(0=0),(((i:Int)).toNat<(List.length A)),((decide ((i:Int)<((lb:Nat):Int)))=true),((0:Int)≤(i:Int)),((i:Int)<((lb:Nat):Int)),(0=0),(((i:Int)).toNat<(List.length B)),((0:Int)≤(i:Int)),((i:Int)<((M:Nat):Int)),(0=0),(((i:Int)).toNat<(List.length L))]) (hs:Sim w0 F0 K ac (jaS A B la lb M L i) cX aX) (hK:∀ac cY aY,Sim w0 F0 K ac (mkSt 59 [2,8,9,10,29,30] [(.v (.c (.clo 31 ([]:List (Prod Nat Nat))))),(.v (.c (.slc 128 0 la 4))),(.v (.c (.slc 160 0 lb 4))),(.v (.c (.slc 288 0 M 4))),(.ii ((M:Nat):Int)),(.ii (IntKind.wrap .i64 ((i:Int)+(1:Int))))] [128,160,288] [(some (.sq (.s A))),(some (.sq (.s B))),(some (.sq (.s (List.set L ((i:Int)).toNat ((List.getD A ((i:Int)).toNat (0:Fr))+(List.getD B ((i:Int)).toNat (0:Fr)))))))] 896 [] []) cY aY→Wq Try.prog Q (lpBk jaIn_k) ac Exit.normal aY cY.w):Wq Try.prog Q (lpIn jaIn_k) ac .normal aX cX.w:=
  run_at2 (o:=⟨_,_,_,_,_,_,_⟩) hC_ok (by kernel_rfl) (jaA_hk A B la lb M L i) ho hs hK
theorem jaB_hk (A B:List Fr) (la lb M:Nat) (L:List Fr) (i:Nat):(run hC false 3000 ((⟨lpIn jaIn_k,.normal,jaS A B la lb M L i⟩:Cfg)) [true,true,false]).cfg.k=lpBk jaIn_k:=by kernel_rfl
theorem jaB (A B:List Fr) (la lb M:Nat) (L:List Fr) (i:Nat) (ho:AllP [((decide ((i:Int)<((M:Nat):Int)))=true),((decide ((i:Int)<((la:Nat):Int)))=true),((0:Int)≤(i:Int)),((i:Int)<((la:Nat):Int)),(0=0),(((i:Int)).toNat<(List.length A)),((decide ((i:Int)<((lb:Nat):Int)))=false),((0:Int)≤(i:Int)),((i:Int)<((M:Nat):Int)),(0=0),(((i:Int)).toNat<(List.length L))]) (hs:Sim w0 F0 K ac (jaS A B la lb M L i) cX aX) (hK:∀ac cY aY,Sim w0 F0 K ac (mkSt 59 [2,8,9,10,29,30] [(.v (.c (.clo 31 ([]:List (Prod Nat Nat))))),(.v (.c (.slc 128 0 la 4))),(.v (.c (.slc 160 0 lb 4))),(.v (.c (.slc 288 0 M 4))),(.ii ((M:Nat):Int)),(.ii (IntKind.wrap .i64 ((i:Int)+(1:Int))))] [128,160,288] [(some (.sq (.s A))),(some (.sq (.s B))),(some (.sq (.s (List.set L ((i:Int)).toNat ((List.getD A ((i:Int)).toNat (0:Fr))+(0:Fr))))))] 816 [] []) cY aY→Wq Try.prog Q (lpBk jaIn_k) ac Exit.normal aY cY.w):Wq Try.prog Q (lpIn jaIn_k) ac .normal aX cX.w:=
  run_at2 (o:=⟨_,_,_,_,_,_,_⟩) hC_ok (by kernel_rfl) (jaB_hk A B la lb M L i) ho hs hK
theorem jaC_hk (A B:List Fr) (la lb M:Nat) (L:List Fr) (i:Nat):(run hC false 3000 ((⟨lpIn jaIn_k,.normal,jaS A B la lb M L i⟩:Cfg)) [true,false,true]).cfg.k=lpBk jaIn_k:=by kernel_rfl
theorem jaC (A B:List Fr) (la lb M:Nat) (L:List Fr) (i:Nat) (ho:AllP [((decide ((i:Int)<((M:Nat):Int)))=true),((decide ((i:Int)<((la:Nat):Int)))=false),((decide ((i:Int)<((lb:Nat):Int)))=true),((0:Int)≤(i:Int)),((i:Int)<((lb:Nat):Int)),(0=0),(((i:Int)).toNat<(List.length B)),((0:Int)≤(i:Int)),((i:Int)<((M:Nat):Int)),(0=0),(((i:Int)).toNat<(List.length L))]) (hs:Sim w0 F0 K ac (jaS A B la lb M L i) cX aX) (hK:∀ac cY aY,Sim w0 F0 K ac (mkSt 59 [2,8,9,10,29,30] [(.v (.c (.clo 31 ([]:List (Prod Nat Nat))))),(.v (.c (.slc 128 0 la 4))),(.v (.c (.slc 160 0 lb 4))),(.v (.c (.slc 288 0 M 4))),(.ii ((M:Nat):Int)),(.ii (IntKind.wrap .i64 ((i:Int)+(1:Int))))] [128,160,288] [(some (.sq (.s A))),(some (.sq (.s B))),(some (.sq (.s (List.set L ((i:Int)).toNat ((0:Fr)+(List.getD B ((i:Int)).toNat (0:Fr)))))))] 816 [] []) cY aY→Wq Try.prog Q (lpBk jaIn_k) ac Exit.normal aY cY.w):Wq Try.prog Q (lpIn jaIn_k) ac .normal aX cX.w:=
  run_at2 (o:=⟨_,_,_,_,_,_,_⟩) hC_ok (by kernel_rfl) (jaC_hk A B la lb M L i) ho hs hK
theorem jaX_end (A B:List Fr) (la lb M:Nat) (L:List Fr) (i:Nat):runEnd hC Try.f30 false 3000 (⟨lpIn jaIn_k,.normal,jaS A B la lb M L i⟩) [false] [400] []=(some ([((decide ((i:Int)<((M:Nat):Int)))=false),(0=0),(M=(List.length L)),(4=4),((List.length L)≤8796093022208)],((.t [(.c (.slc 0 0 (List.length (S4.trimF L)) 4)),(.c (.int .i64 (0:Int)))]),[(.sq (.fr (List.map S4.outF (S4.trimF L))))]))):=by kernel_rfl
/-- Stepped into besides: join, and what Scale hands it. -/
noncomputable def inlJ (T:Nat→Option Func) (f:Nat):Option Func:=if f=30 then some Try.f30 else if f=32 then some Try.f32 else T f
noncomputable def hJ:Env:={ hC with inl:=inlJ hC.inl }
theorem hJ_ok:EnvOk Try.prog hJ:=by
  refine ⟨hC_ok.ty,hC_ok.mixed,hC_ok.fn,hC_ok.mu,fun f fn h=>?_,hC_ok.ex,hC_ok.inv⟩
  have h:inlJ hC.inl f=some fn:=h
  unfold inlJ at h
  split at h
  · rename_i hf;cases h;subst hf;exact ⟨Try.func30,enters_of Try.func30 rfl rfl⟩
  split at h
  · rename_i hf;cases h;subst hf;exact ⟨Try.func32,enters_of Try.func32 rfl rfl⟩
  exact hC_ok.inl f fn h
--@env hJ hJ_ok
noncomputable def scIn_k:List KI:=(run hJ false 3000 ((fun (a:List U4) (k:U4)=>(⟨[.code (bodyOf Try.f13)],.normal,initSt Try.f13.ntmps [.v (.c (.sl (.fr a))),.v (.a [.ob (.fr k)])]⟩:Cfg)) default default) [false]).cfg.k
theorem scIn_hk (a:List U4) (k:U4):(run hJ false 3000 ((⟨[.code (bodyOf Try.f13)],.normal,initSt Try.f13.ntmps [.v (.c (.sl (.fr a))),.v (.a [.ob (.fr k)])]⟩:Cfg)) [false]).cfg.k=scIn_k:=by kernel_rfl
theorem scIn (a:List U4) (k:U4) (ho:AllP [(0=0),(2=(List.length ([a]++[[]]))),(1=1),((S4.longB ([a]++[[]]))=false),((List.length a)≤8796093022208),((0:Int)≤(ite ((0:Int) > (((List.length a):Nat):Int)) (0:Int) (((List.length a):Nat):Int))),((ite ((0:Int) > (((List.length a):Nat):Int)) (0:Int) (((List.length a):Nat):Int))=(ite ((0:Int) > (((List.length a):Nat):Int)) (0:Int) (((List.length a):Nat):Int))),(((32:Int)*(ite ((0:Int) > (((List.length a):Nat):Int)) (0:Int) (((List.length a):Nat):Int)))≤(281474976710656:Int)),((ite ((0:Int) > (((List.length a):Nat):Int)) (0:Int) (((List.length a):Nat):Int))≤(9223372036854775807:Int))]) (hs:Sim w0 F0 K ac (initSt Try.f13.ntmps [.v (.c (.sl (.fr a))),.v (.a [.ob (.fr k)])]) cX aX) (hK:∀ac cY aY,Sim w0 F0 K ac (mkSt 59 [2,8,9,10,29,30] [(.v (.c (.clo 32 [(96,0)]))),(.v (.c (.slc 272 0 (List.length a) 4))),(.v (.c (.slc 304 0 0 4))),(.v (.c (.slc 432 0 ((ite ((0:Int) > (((List.length a):Nat):Int)) (0:Int) (((List.length a):Nat):Int))).toNat 4))),(.ii ((((ite ((0:Int) > (((List.length a):Nat):Int)) (0:Int) (((List.length a):Nat):Int))).toNat:Nat):Int)),.ii (0:Int)] [96,272,304,432] [(some (.fl [(.ob (.s (S4.inF k)))])),(some (.sq (.s (List.map S4.inF a)))),(some (.sq (.s ([]:List Fr)))),(some (.sq (.s (List.replicate ((ite ((0:Int) > (((List.length a):Nat):Int)) (0:Int) (((List.length a):Nat):Int))).toNat (0:Fr)))))] 512 [[]] [([],14)]) cY aY→Wq Try.prog Q (scIn_k) ac Exit.normal aY cY.w):Wq Try.prog Q ([.code (bodyOf Try.f13)]) ac .normal aX cX.w:=
  run_at2 (o:=⟨_,_,_,_,_,_,_⟩) hJ_ok (by kernel_rfl) (scIn_hk a k) ho hs hK
noncomputable def scS (A:List Fr) (kk:Fr) (la M:Nat) (L:List Fr) (i:Nat):St:=mkSt 59 [2,8,9,10,29,30] [(.v (.c (.clo 32 [(96,0)]))),.v (.c (.slc 272 0 la 4)),(.v (.c (.slc 304 0 0 4))),.v (.c (.slc 432 0 M 4)),.v (.c (.int .i64 (M:Int))),.v (.c (.int .i64 (i:Int)))] [96,272,304,432] [some (.fl [.ob (.s kk)]),some (.sq (.s A)),(some (.sq (.s ([]:List Fr)))),some (.sq (.s L))] 512 [[]] [([],14)]
theorem scN_hk (A:List Fr) (kk:Fr) (la M:Nat) (L:List Fr) (i:Nat):(run hJ false 3000 ((⟨lpIn scIn_k,.normal,scS A kk la M L i⟩:Cfg)) [true,true,false]).cfg.k=lpBk scIn_k:=by kernel_rfl
theorem scN (A:List Fr) (kk:Fr) (la M:Nat) (L:List Fr) (i:Nat) (ho:AllP [((decide ((i:Int)<((M:Nat):Int)))=true),((decide ((i:Int)<((la:Nat):Int)))=true),((0:Int)≤(i:Int)),((i:Int)<((la:Nat):Int)),(0=0),(((i:Int)).toNat<(List.length A)),((decide ((i:Int)<(0:Int)))=false),((0:Int)≤(i:Int)),((i:Int)<((M:Nat):Int)),(0=0),(((i:Int)).toNat<(List.length L))]) (hs:Sim w0 F0 K ac (scS A kk la M L i) cX aX) (hK:∀ac cY aY,Sim w0 F0 K ac (mkSt 59 [2,8,9,10,29,30] [(.v (.c (.clo 32 [(96,0)]))),(.v (.c (.slc 272 0 la 4))),(.v (.c (.slc 304 0 0 4))),(.v (.c (.slc 432 0 M 4))),(.ii ((M:Nat):Int)),(.ii (IntKind.wrap .i64 ((i:Int)+(1:Int))))] [96,272,304,432] [(some (.fl [.ob (.s kk)])),(some (.sq (.s A))),(some (.sq (.s ([]:List Fr)))),(some (.sq (.s (List.set L ((i:Int)).toNat ((List.getD A ((i:Int)).toNat (0:Fr))*kk)))))] 1056 [[]] [([],14)]) cY aY→Wq Try.prog Q (lpBk scIn_k) ac Exit.normal aY cY.w):Wq Try.prog Q (lpIn scIn_k) ac .normal aX cX.w:=
  run_at2 (o:=⟨_,_,_,_,_,_,_⟩) hJ_ok (by kernel_rfl) (scN_hk A kk la M L i) ho hs hK
theorem scX_end (A:List Fr) (kk:Fr) (la M:Nat) (L:List Fr) (i:Nat):runEnd hJ Try.f13 false 3000 (⟨lpIn scIn_k,.normal,scS A kk la M L i⟩) [false] [544] []=(some ([((decide ((i:Int)<((M:Nat):Int)))=false),(0=0),(M=(List.length L)),(4=4),((List.length L)≤8796093022208)],((.t [(.c (.slc 0 0 (List.length (S4.trimF L)) 4)),(.c (.int .i64 (0:Int)))]),[(.sq (.fr (List.map S4.outF (S4.trimF L))))]))):=by kernel_rfl
end
end Go.Proofs.Ytdeohachoeopdaa.S4

/- Trimming, sums and multiples of polynomials: contracts. No conditions. -/
namespace Go.Proofs.Ytdeohachoeopdaa.S4

theorem trim_fnd (a:List U4) (h:a.length≤8796093022208):FnD Try.prog 34 [.v (.c (.sl (.fr a)))] (.v (.c (.slc 0 0 (trimF (a.map inF)).length 4))) [.sq (.fr ((trimF (a.map inF)).map outF))]:=
  fn_sound hC_ok Try.func34 (trimR a) ⟨h,rfl,by simp,rfl,by simpa using h,trivial⟩
theorem joinAdd_fnd (a b:List U4) (ha:a.length≤262144) (hb:b.length≤262144):FnD Try.prog 30 [.v (.c (.sl (.fr a))),.v (.c (.sl (.fr b))),.v (.c (.clo 31 []))]
    (.t [.c (.slc 0 0 (trimF (addL (a.map inF) (b.map inF))).length 4),.c (.int .i64 0)]) [.sq (.fr ((trimF (addL (a.map inF) (b.map inF))).map outF))]:=by
  refine fn_start (fn:=Try.f30) (c:=bodyOf Try.f30) Try.func30 rfl rfl fun x a0 hk hF hs=>?_
  have hM:=max_int a.length b.length
  have hM2:=max_two a.length b.length
  refine jaIn a b (by rw[hM];exact ⟨rfl,rfl,rfl,long_two ha hb,by omega,by omega,by omega,rfl,by omega,by omega,trivial⟩) hs fun ac cY aY hs1=>?_
  rw[hM,Int.toNat_natCast] at hs1
  have hR:addL (a.map inF) (b.map inF)=(List.range (max a.length b.length)).map fun i=>cf (a.map inF) i+cf (b.map inF) i:=by
    unfold addL
    rw[List.length_map,List.length_map]
  have hAl:(a.map inF).length=a.length:=List.length_map ..
  have hBl:(b.map inF).length=b.length:=List.length_map ..
  generalize a.map inF=A at *
  generalize b.map inF=B at *
  generalize max a.length b.length=M at *
  generalize a.length=la at *
  generalize b.length=lb at *
  clear hM hs
  refine loop_rule (ι:={ i:Nat // i≤M }) (fun i=>jaS A B la lb M ((List.range i.1).map (fun i=>cf A i+cf B i)++List.replicate (M-i.1) 0) i.1) (fun i=>M-i.1) (c:=lpC jaIn_k) (k:=lpR jaIn_k) (by kernel_rfl) (fun i ih ac cY aY hs=>?_) ⟨0,Nat.zero_le _⟩ hs1
  obtain ⟨i,hi⟩:=i
  simp only at ih hs
  have hl:=fill_len (fun i=>cf A i+cf B i) 0 hi
  by_cases h:i<M
  · have hw:IntKind.wrap IntKind.i64 ((i:Int)+1)=((i+1:Nat):Int):=by rw[wrap_id (by omega) (by omega)];omega
    have hset:=fill_set (fun i=>cf A i+cf B i) 0 h
    by_cases h1:i<la
    · by_cases h2:i<lb
      · refine jaA A B la lb M _ i ⟨by simp [h],by simp [h1],by omega,by omega,rfl,by omega,by simp [h2],by omega,by omega,rfl,by omega,by omega,by omega,rfl,by omega,trivial⟩ hs fun ac cY aY hs2=>?_
        rw[hw,Int.toNat_natCast] at hs2
        have hs2:=hs2
        rw[show A.getD i 0+B.getD i 0=cf A i+cf B i from rfl,hset] at hs2
        exact ih ⟨i+1,by omega⟩ (by show M-(i+1)<M-i;omega) ac cY aY (hs2.nx _)
      · refine jaB A B la lb M _ i ⟨by simp [h],by simp [h1],by omega,by omega,rfl,by omega,by simp [h2],by omega,by omega,rfl,by omega,trivial⟩ hs fun ac cY aY hs2=>?_
        rw[hw,Int.toNat_natCast] at hs2
        have e0:A.getD i 0+0=cf A i+cf B i:=by rw[cf_out (l:=B) (by omega)];rfl
        rw[e0,hset] at hs2
        exact ih ⟨i+1,by omega⟩ (by show M-(i+1)<M-i;omega) ac cY aY (hs2.nx _)
    · have h2:i<lb:=by omega
      refine jaC A B la lb M _ i ⟨by simp [h],by simp [h1],by simp [h2],by omega,by omega,rfl,by omega,by omega,by omega,rfl,by omega,trivial⟩ hs fun ac cY aY hs2=>?_
      rw[hw,Int.toNat_natCast] at hs2
      have e0:(0:Fr)+B.getD i 0=cf A i+cf B i:=by rw[cf_out (l:=A) (by omega)];rfl
      rw[e0,hset] at hs2
      exact ih ⟨i+1,by omega⟩ (by show M-(i+1)<M-i;omega) ac cY aY (hs2.nx _)
  · have e:i=M:=by omega
    rw[e,Nat.sub_self,List.replicate_zero,List.append_nil,←hR] at hs
    have hRl:(addL A B).length=M:=by rw[hR,List.length_map,List.length_range]
    exact run_end2 hC_ok hk hF (jaX_end A B la lb M _ M) ⟨by simp,rfl,hRl.symm,rfl,by omega,trivial⟩ (fun y v hd=>hd) hs

theorem scale_fnd (a:List U4) (k:U4) (ha:a.length≤262144):FnD Try.prog 13 [.v (.c (.sl (.fr a))),.v (.a [.ob (.fr k)])]
    (.t [.c (.slc 0 0 (trimF (scaleL (a.map inF) (inF k))).length 4),.c (.int .i64 0)]) [.sq (.fr ((trimF (scaleL (a.map inF) (inF k))).map outF))]:=by
  refine fn_start (fn:=Try.f13) (c:=bodyOf Try.f13) Try.func13 rfl rfl fun x a0 hk hF hs=>?_
  have hM:=max_zero a.length
  refine scIn a k (by rw[hM];exact ⟨rfl,rfl,rfl,long_two ha (Nat.zero_le _),by omega,by omega,rfl,by omega,by omega,trivial⟩) hs fun ac cY aY hs1=>?_
  rw[hM,Int.toNat_natCast] at hs1
  have hR:scaleL (a.map inF) (inF k)=(List.range a.length).map fun i=>cf (a.map inF) i*inF k:=by
    unfold scaleL
    rw[List.length_map]
  have hAl:(a.map inF).length=a.length:=List.length_map ..
  generalize a.map inF=A at *
  generalize inF k=K at *
  generalize a.length=M at *
  clear hM hs
  refine loop_rule (ι:={ i:Nat // i≤M }) (fun i=>scS A K M M ((List.range i.1).map (fun i=>cf A i*K)++List.replicate (M-i.1) 0) i.1) (fun i=>M-i.1) (c:=lpC scIn_k) (k:=lpR scIn_k) (by kernel_rfl) (fun i ih ac cY aY hs=>?_) ⟨0,Nat.zero_le _⟩ hs1
  obtain ⟨i,hi⟩:=i
  simp only at ih hs
  have hl:=fill_len (fun i=>cf A i*K) 0 hi
  by_cases h:i<M
  · have hw:IntKind.wrap IntKind.i64 ((i:Int)+1)=((i+1:Nat):Int):=by rw[wrap_id (by omega) (by omega)];omega
    have hset:=fill_set (fun i=>cf A i*K) 0 h
    refine scN A K M M _ i ⟨by simp [h],by simp [h],by omega,by omega,rfl,by omega,by simp only[decide_eq_false_iff_not];omega,by omega,by omega,rfl,by omega,trivial⟩ hs fun ac cY aY hs2=>?_
    rw[hw,Int.toNat_natCast,show A.getD i 0*K=cf A i*K from rfl,hset] at hs2
    exact ih ⟨i+1,by omega⟩ (by show M-(i+1)<M-i;omega) ac cY aY (hs2.nx _)
  · have e:i=M:=by omega
    rw[e,Nat.sub_self,List.replicate_zero,List.append_nil,←hR] at hs
    have hRl:(scaleL A K).length=M:=by rw[hR,List.length_map,List.length_range]
    exact run_end2 hJ_ok hk hF (scX_end A K M M _ M) ⟨by simp,rfl,hRl.symm,rfl,by omega,trivial⟩ (fun y v hd=>hd) hs

end Go.Proofs.Ytdeohachoeopdaa.S4
