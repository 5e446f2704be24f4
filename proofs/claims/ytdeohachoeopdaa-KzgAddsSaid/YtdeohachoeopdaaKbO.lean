/- Parts of a proof, one behind the other: WPd, PPd, WDa, WDb, PDb, WDc, PDc, WDd, PDd, WDe, Gb, WEa, WMw, PMw, WTj, WKm, PKm, WLc, WKn, PLc, WLd, PLd. No conditions. -/
import Derived.Test.YtdeohachoeopdaaKbN
/- A point as often as a number's powers say, walked. No conditions. -/
namespace Go.Proofs.Ytdeohachoeopdaa
section
variable {w0:World} {F0:Nat→Prop} {K:Kp} {ac:List Act} {Q:Exit→Act→World→Prop} {cX:Ctx} {aX:Act}

noncomputable def peA:Env:=pvD.or qtG
theorem peA_ok:EnvOk Try.prog peA:=env_or pvD_ok qtG_ok
/-- The whole table. -/
theorem tb64_ex (a:Fp×Fp×Fp):∃T,T=tbL a 64:=⟨_,rfl⟩
noncomputable def tb64 (a:Fp×Fp×Fp):List (List (Fp×Fp×Fp)):=Classical.choose (tb64_ex a)
theorem tb64_is (a:Fp×Fp×Fp):tb64 a=tbL a 64:=Classical.choose_spec (tb64_ex a)
theorem mult_fnd2 (a:Fp×Fp×Fp):FnD Try.prog 18 [.v (.a (ptIts a))] (.v (.c (.sl (.ptt (tb64 a))))) []:=by
  rw[tb64_is]
  exact mult_fnd a (Eq.refl 64)
noncomputable def multSpec:FnSpec
  | [.v (.a [.ob (.p a),.ob (.p b),.ob (.p c)])]=>some ([],.v (.c (.sl (.ptt (tb64 (a,b,c))))),[])
  | _=>none
noncomputable def peB:Env:=peA.set (addT peA.fn 18 multSpec)
theorem peB_ok:EnvOk Try.prog peB:=env_add peA_ok 18 multSpec (enters_of Try.func18 rfl rfl) fun args o r es h _=>by
  unfold multSpec at h
  split at h
  · cases h;exact mult_fnd2 (_,_,_)
  · cases h
/-- Each row has sixteen. -/
def rows16 (T:List (List (Fp×Fp×Fp))):Prop:=∀i,i<64→(T.getD i []).length=16
theorem pick_fnd2 (T:List (List (Fp×Fp×Fp))) (k:U4) (h:T.length=64∧rows16 T):FnD Try.prog 23 [.v (.c (.sl (.ptt T))),.v (.a [.ob (.fr k)])] (.v (.a (ptIts (pkL T k.val 64)))) []:=pick_fnd T k (Eq.refl 64) h.1 h.2
noncomputable def pickSpec:FnSpec
  | [.v (.c (.sl (.ptt T))),.v (.a [.ob (.fr k)])]=>some ([T.length=64,rows16 T],.v (.a (ptIts (pkL T k.val 64))),[])
  | _=>none
noncomputable def peC:Env:=peB.set (addT peB.fn 23 pickSpec)
theorem peC_ok:EnvOk Try.prog peC:=env_add peB_ok 23 pickSpec (enters_of Try.func23 rfl rfl) fun args o r es h ho=>by
  unfold pickSpec at h
  split at h
  · cases h;exact pick_fnd2 _ _ ⟨ho.1,ho.2.1⟩
  · cases h
noncomputable def smlSpec:FnSpec
  | [.v (.c (.int .i64 n))]=>some ([n=1],.v (.a [.ob (.fr (S4.outF 1))]),[])
  | _=>none
noncomputable def peD:Env:=peC.set (addT peC.fn 20 smlSpec)
theorem peD_ok:EnvOk Try.prog peD:=env_add peC_ok 20 smlSpec (enters_of Try.func20 rfl rfl) fun args o r es h ho=>by
  unfold smlSpec at h
  split at h
  · cases h;exact sml_fnd ho.1
  · cases h
noncomputable def peE:Env:=peD
theorem peE_ok:EnvOk Try.prog peE:=peD_ok
theorem pqA (a:G1D) (k:U4) (n:Int):fnRes peE Try.f7 3000 [.v (.a a.its),.v (.a [.ob (.fr k)]),.v (.c (.int .i64 n))] [true,true] [] []=(some ([((decide (n<(0:Int)))=true)],((.t [(.c (.val (Value.slice Option.none 0 0))),(.c (.int .i64 (1:Int)))]),[]))):=by kernel_rfl
theorem pqB (a:G1D) (k:U4) (n:Int):fnRes peE Try.f7 3000 [.v (.a a.its),.v (.a [.ob (.fr k)]),.v (.c (.int .i64 n))] [false,true] [] []=(some ([((decide (n<(0:Int)))=false),((decide (n > (4096:Int)))=true)],((.t [(.c (.val (Value.slice Option.none 0 0))),(.c (.int .i64 (1:Int)))]),[]))):=by kernel_rfl
theorem pqC (a:G1D) (k:U4) (n:Int):fnRes peE Try.f7 3000 [.v (.a a.its),.v (.a [.ob (.fr k)]),.v (.c (.int .i64 n))] [false,false,true] [] []=(some ([((decide (n<(0:Int)))=false),((decide (n > (4096:Int)))=false),((Bool.not (onG a))=true)],((.t [(.c (.val (Value.slice Option.none 0 0))),(.c (.int .i64 (30:Int)))]),[]))):=by kernel_rfl
noncomputable def pqD_k:List KI:=(run peE false 3000 ((fun (x y:U6) (j:Bool) (k:U4) (n:Int)=>(⟨[.code (bodyOf Try.f7)],.normal,initSt Try.f7.ntmps [.v (.a [.ob (.fp x),.ob (.fp y),.bool j]),.v (.a [.ob (.fr k)]),.v (.c (.int .i64 n))]⟩:Cfg)) default default default default default) [false,false,false]).cfg.k
theorem pqD_hk (x y:U6) (j:Bool) (k:U4) (n:Int):(run peE false 3000 ((⟨[.code (bodyOf Try.f7)],.normal,initSt Try.f7.ntmps [.v (.a [.ob (.fp x),.ob (.fp y),.bool j]),.v (.a [.ob (.fr k)]),.v (.c (.int .i64 n))]⟩:Cfg)) [false,false,false]).cfg.k=pqD_k:=by kernel_rfl
theorem pqD (x y:U6) (j:Bool) (k:U4) (n:Int) (ho:AllP [((decide (n<(0:Int)))=false),((decide (n > (4096:Int)))=false),((Bool.not (onG (G1D.mk x y j)))=false),((1:Int)=(1:Int))]) (hs:Sim w0 F0 K ac (initSt Try.f7.ntmps [.v (.a [.ob (.fp x),.ob (.fp y),.bool j]),.v (.a [.ob (.fr k)]),.v (.c (.int .i64 n))]) cX aX) (hK:∀ac cY aY,Sim w0 F0 K ac (mkSt 42 [2,4,8,9,10] [.ii n,.pt 32 0,(.v (.c (.sl (Sq.ptt (tb64 (inG (G1D.mk x y j))))))),(.v (.c (.val (Value.slice Option.none 0 0)))),.pt 352 0] [32,352] [(some (.fl [.ob (.fr k)])),(some (.fl [(.ob (.fr (S4.outF (1:Fr))))]))] 384 [] []) cY aY→Wq Try.prog Q (pqD_k) ac Exit.normal aY cY.w):Wq Try.prog Q ([.code (bodyOf Try.f7)]) ac .normal aX cX.w:=
  run_at2 (o:=⟨_,_,_,_,_,_,_⟩) peE_ok (by kernel_rfl) (pqD_hk x y j k n) ho hs hK
noncomputable def pqS (k:U4) (n:Int) (T:List (List (Fp×Fp×Fp))) (L:List G1D) (m:Nat) (q:U4):St:=mkSt 42 [2,4,8,9,10] [.ii n,.pt 32 0,.v (.c (.sl (.ptt T))),.v (.c (.slc 17 0 m 13)),.pt 352 0] [17,32,352] [some (.sq (.g1 L)),(some (.fl [.ob (.fr k)])),some (.fl [.ob (.fr q)])] 384 [] []
theorem pqE_hk (k:U4) (n:Int) (T:List (List (Fp×Fp×Fp))) (L:List G1D) (m:Nat) (q:U4):(run peE false 3000 ((⟨lpIn pqD_k,.normal,pqS k n T L m q⟩:Cfg)) [true]).cfg.k=lpBk pqD_k:=by kernel_rfl
theorem pqE (k:U4) (n:Int) (T:List (List (Fp×Fp×Fp))) (L:List G1D) (m:Nat) (q:U4) (ho:AllP [((decide (((m:Nat):Int)<n))=true),((List.length T)=64),(rows16 T),((((List.length L)+1)*104)≤140737488355328),(((List.length L)+1)≤maxLen),(m=(List.length L)),(1=1)]) (hs:Sim w0 F0 K ac (pqS k n T L m q) cX aX) (hK:∀ac cY aY,Sim w0 F0 K ac (mkSt 42 [2,4,8,9,10] [.ii n,.pt 32 0,(.v (.c (.sl (Sq.ptt T)))),(.v (.c (.slc 17 0 ((List.length L)+1) 13))),.pt 592 0] [17,32,592] [(some (.sq (Sq.g1 (L++[(outG (pkL T (Fin.val q) 64))])))),(some (.fl [.ob (.fr k)])),(some (.fl [(.ob (.fr (S4.outF ((S4.inF q)*(S4.inF k)))))]))] 688 [] []) cY aY→Wq Try.prog Q (lpBk pqD_k) ac Exit.normal aY cY.w):Wq Try.prog Q (lpIn pqD_k) ac .normal aX cX.w:=
  run_at2 (o:=⟨_,_,_,_,_,_,_⟩) peE_ok (by kernel_rfl) (pqE_hk k n T L m q) ho hs hK
theorem pqX_end (k:U4) (n:Int) (T:List (List (Fp×Fp×Fp))) (L:List G1D) (m:Nat) (q:U4):runEnd peE Try.f7 false 3000 (⟨lpIn pqD_k,.normal,pqS k n T L m q⟩) [false] [] [17]=(some ([((decide (((m:Nat):Int)<n))=false),(m=(List.length L))],((.t [(.c (.sl (Sq.g1 L))),(.c (.int .i64 (0:Int)))]),[]))):=by kernel_rfl
end
end Go.Proofs.Ytdeohachoeopdaa

/- A point as often as a number's powers say: contract. No conditions. -/
namespace Go.Proofs.Ytdeohachoeopdaa

/-- The powers of a number, one after the other; what is told of each. -/
def pwK (k:U4):Nat→U4
  | 0=>S4.outF 1
  | i+1=>S4.outF (S4.inF (pwK k i)*S4.inF k)
def pwE (T:List (List (Fp×Fp×Fp))) (q:U4):G1D:=outG (pkL T q.val 64)
def pwL (T:List (List (Fp×Fp×Fp))) (k:U4) (n:Nat):List G1D:=(List.range n).map fun i=>pwE T (pwK k i)
theorem pwL_len (T:List (List (Fp×Fp×Fp))) (k:U4) (n:Nat):(pwL T k n).length=n:=by
  unfold pwL
  rw[List.length_map,List.length_range]
theorem pwL_succ (T:List (List (Fp×Fp×Fp))) (k:U4) (n:Nat):pwL T k (n+1)=pwL T k n++[pwE T (pwK k n)]:=by
  unfold pwL
  rw[List.range_succ,List.map_append]
  rfl
theorem pwL_get (T:List (List (Fp×Fp×Fp))) (k:U4) {n i:Nat} (h:i<n):(pwL T k n).getD i g10=pwE T (pwK k i):=by
  unfold pwL
  rw[List.getD_eq_getElem?_getD,List.getElem?_map,List.getElem?_range h,Option.map_some,Option.getD_some]
theorem tb64_len (a:Fp×Fp×Fp):(tb64 a).length=64:=by rw[tb64_is,tbL_len]
theorem tb64_row (a:Fp×Fp×Fp):rows16 (tb64 a):=fun i hi=>by rw[tb64_is,tbL_get a hi,rwL_len]

/-- What Powers tells. -/
noncomputable def pwR (a:G1D) (k:U4) (n:Int):List G1D×Int:=if n<0∨n > 4096 then ([],1) else if onG a then (pwL (tb64 (inG a)) k n.toNat,0) else ([],30)
theorem pwR_arg {a:G1D} {k:U4} {n:Int} (h:n<0∨n > 4096):pwR a k n=([],1):=if_pos h
theorem pwR_off {a:G1D} {k:U4} {n:Int} (h:¬(n<0∨n > 4096)) (ha:onG a=false):pwR a k n=([],30):=by unfold pwR;rw[if_neg h,ha];rfl
theorem pwR_on {a:G1D} {k:U4} {n:Int} (h:¬(n<0∨n > 4096)) (ha:onG a=true):pwR a k n=(pwL (tb64 (inG a)) k n.toNat,0):=by unfold pwR;rw[if_neg h,ha];rfl
theorem nil_t {x:Ctx} {j:V1} {v:Value} (h:denS x (.t [.c (.val (.slice none 0 0)),j]) v):denS x (.t [.c (.sl (.g1 [])),j]) v:=by
  obtain ⟨vs,e,hc⟩:=h
  cases hc with
  | cons h1 h2=>exact ⟨_,e,.cons (nil_is (q:=.g1 []) rfl h1) h2⟩

theorem powers_on (x y:U6) (j:Bool) (k:U4) (n:Nat) (h:n≤4096) (ha:onG ⟨x,y,j⟩=true):FnD Try.prog 7 [.v (.a [.ob (.fp x),.ob (.fp y),.bool j]),.v (.a [.ob (.fr k)]),.v (.c (.int .i64 (n:Int)))] (.t [.c (.sl (.g1 (pwL (tb64 (inG ⟨x,y,j⟩)) k n))),.c (.int .i64 0)]) []:=by
  refine fn_start (fn:=Try.f7) (c:=bodyOf Try.f7) Try.func7 rfl rfl fun x0 a0 hk hF hs=>?_
  refine pqD x y j k n ⟨decide_eq_false (by omega),decide_eq_false (by omega),by rw[ha];rfl,rfl,trivial⟩ hs fun ac cY aY hs1=>?_
  have h64:=tb64_len (inG ⟨x,y,j⟩)
  have h16:=tb64_row (inG ⟨x,y,j⟩)
  have hmax:4097≤maxLen:=by decide
  generalize tb64 (inG ⟨x,y,j⟩)=T at hs1 h64 h16 ⊢
  have hs2:=hs1.nilRow (p:=17) (q:=.g1 []) rfl (by decide) rfl (ml' := [17,32,352]) (ens' := [some (.sq (.g1 [])),some (.fl [.ob (.fr k)]),some (.fl [.ob (.fr (S4.outF 1))])]) (fun r=>rfl)
    (svs' := [.v (.c (.int .i64 (n:Int))),.v (.c (.ptr 32 0)),.v (.c (.sl (.ptt T))),.v (.c (.slc 17 0 0 13)),.v (.c (.ptr 352 0))]) ⟨.inl rfl,.inl rfl,.inl rfl,.inr ⟨13,rfl,rfl⟩,.inl rfl,trivial⟩
  change Wq Try.prog _ _ _ _ _ (nilCtx cY 17).w
  refine loop_rule (ι:={ i:Nat // i≤n }) (fun i=>pqS k n T (pwL T k i.1) i.1 (pwK k i.1)) (fun i=>n-i.1) (c:=lpC pqD_k) (k:=lpR pqD_k) (by kernel_rfl) (fun i ih ac cY aY hs=>?_) ⟨0,Nat.zero_le _⟩ (hs2.nx _)
  obtain ⟨i,hi⟩:=i
  simp only at ih hs
  have hlen:=pwL_len T k i
  by_cases hin:i<n
  · have hnext:pwK k (i+1)=S4.outF (S4.inF (pwK k i)*S4.inF k):=rfl
    have hL:=pwL_succ T k i
    have ih2:=ih ⟨i+1,hin⟩ (by show n-(i+1)<n-i;omega)
    dsimp only at ih2
    rw[hnext,hL] at ih2
    clear ih hnext hL
    generalize pwK k i=q at hs ih2
    generalize pwL T k i=L at hs ih2 hlen
    refine pqE k n T L i q ⟨decide_eq_true (by omega),h64,h16,by omega,by omega,hlen.symm,rfl,trivial⟩ hs fun ac cU aU hs3=>?_
    rw[hlen] at hs3
    have ep:outG (pkL T q.val 64)=pwE T q:=rfl
    rw[ep] at hs3
    generalize pwE T q=e at hs3 ih2
    generalize S4.outF (S4.inF q*S4.inF k)=q2 at hs3 ih2
    have hs4:=hs3.move [17,32] 592 352 rfl ⟨_,rfl⟩ rfl rfl rfl rfl rfl (svs' := [.v (.c (.int .i64 (n:Int))),.v (.c (.ptr 32 0)),.v (.c (.sl (.ptt T))),.v (.c (.slc 17 0 (i+1) 13)),.v (.c (.ptr 352 0))])
      ⟨.inl ⟨rfl,rfl⟩,.inl ⟨rfl,rfl⟩,.inl ⟨rfl,rfl⟩,.inl ⟨rfl,rfl⟩,.inr ⟨0,rfl,rfl⟩,trivial⟩ (ml' := [17,32,352]) (ens' := [some (.sq (.g1 (L++[e]))),some (.fl [.ob (.fr k)]),some (.fl [.ob (.fr q2)])]) (fun q=>by
        simp only[look]
        by_cases h1:q=352<;>by_cases h2:q=592<;>by_cases h3:q=17<;>by_cases h4:q=32<;>simp_all)
    change Wq Try.prog _ _ _ _ _ (mvCtx cU [17,32] 592 352).w
    exact ih2 ac _ aU (hs4.nx _)
  · obtain rfl:i=n:=by omega
    generalize pwL T k i=L at hs hlen ⊢
    exact run_end2 peE_ok hk hF (pqX_end k i T L i _) ⟨decide_eq_false (by omega),hlen.symm,trivial⟩ (fun y v hd=>hd) hs

theorem powers_fnd (a:G1D) (k:U4) (n:Int):FnD Try.prog 7 [.v (.a a.its),.v (.a [.ob (.fr k)]),.v (.c (.int .i64 n))] (.t [.c (.sl (.g1 (pwR a k n).1)),.c (.int .i64 (pwR a k n).2)]) []:=by
  by_cases h:n<0∨n > 4096
  · rw[pwR_arg h]
    by_cases h1:n<0
    · exact (fn_sound peE_ok Try.func7 (pqA a k n) ⟨decide_eq_true h1,trivial⟩).conv (fun _ _ h=>h) fun y v hd=>nil_t hd
    · exact (fn_sound peE_ok Try.func7 (pqB a k n) ⟨decide_eq_false h1,decide_eq_true (by omega),trivial⟩).conv (fun _ _ h=>h) fun y v hd=>nil_t hd
  · cases ha:onG a with
    | false=>
      rw[pwR_off h ha]
      exact (fn_sound peE_ok Try.func7 (pqC a k n) ⟨decide_eq_false (by omega),decide_eq_false (by omega),by rw[ha];rfl,trivial⟩).conv (fun _ _ h=>h) fun y v hd=>nil_t hd
    | true=>
      rw[pwR_on h ha]
      obtain ⟨m,rfl⟩:∃m:Nat,n=(m:Int):=⟨n.toNat,by omega⟩
      rw[Int.toNat_natCast]
      exact powers_on a.x a.y a.inf k m (by omega) ha

end Go.Proofs.Ytdeohachoeopdaa

/- Pairs of elements of the greater field: the functions, walked. No conditions. -/
namespace Go.Proofs.Ytdeohachoeopdaa

abbrev F2:=Q2 pN
def f2I (x:F2):List It:=[.ob (.p x.1),.ob (.p x.2)]
section
variable {r:Nat} [NeZero r]
theorem kar_g (a b c d:Fin r):(a+b)*(c+d)-a*c-b*d=a*d+b*c:=by grind
end
--@env qeJ qeJ_ok
theorem t2A (a b c d:Fp):fnRes qeJ Try.f71 3000 [.v (.a [.ob (.p a),.ob (.p b)]),.v (.a [.ob (.p c),.ob (.p d)])] [] [] []=(some ([],((.v (.a [(.ob (.p ((a*c)-(b*d)))),(.ob (.p ((((a+b)*(c+d))-(a*c))-(b*d))))])),[]))):=by kernel_rfl
theorem p2A (a b c d:Fp):fnRes qeJ Try.f72 3000 [.v (.a [.ob (.p a),.ob (.p b)]),.v (.a [.ob (.p c),.ob (.p d)])] [] [] []=(some ([],((.v (.a [(.ob (.p (a+c))),(.ob (.p (b+d)))])),[]))):=by kernel_rfl
theorem m2A (a b c d:Fp):fnRes qeJ Try.f112 3000 [.v (.a [.ob (.p a),.ob (.p b)]),.v (.a [.ob (.p c),.ob (.p d)])] [] [] []=(some ([],((.v (.a [(.ob (.p (a-c))),(.ob (.p (b-d)))])),[]))):=by kernel_rfl
theorem n2A (a b:Fp):fnRes qeJ Try.f113 3000 [.v (.a [.ob (.p a),.ob (.p b)])] [] [] []=(some ([],((.v (.a [(.ob (.p ((0:Fp)-a))),(.ob (.p ((0:Fp)-b)))])),[]))):=by kernel_rfl
theorem z2A (a b:Fp):fnRes qeJ Try.f111 3000 [.v (.a [.ob (.p a),.ob (.p b)])] [] [] []=(some ([],((.v (.c (.bool (ite (true=true) (Bool.and (decide (a=(0:Fp))) (decide (b=(0:Fp)))) (Bool.not (Bool.and (decide (a=(0:Fp))) (decide (b=(0:Fp))))))))),[]))):=by kernel_rfl
theorem no2A (a b:Fp):fnRes qeJ Try.f114 3000 [.v (.a [.ob (.p a),.ob (.p b)])] [] [] []=(some ([],((.v (.a [(.ob (.p ((a*a)+(b*b))))])),[]))):=by kernel_rfl
theorem i2A (a b:U6):fnRes qeJ Try.f49 3000 [.v (.a [.ob (.fp a),.ob (.fp b)])] [] [] []=(some ([],((.v (.a [(.ob (.p (inP a))),(.ob (.p (inP b)))])),[]))):=by kernel_rfl
theorem o2A (a b:Fp):fnRes qeJ Try.f48 3000 [.v (.a [.ob (.p a),.ob (.p b)])] [] [] []=(some ([],((.v (.a [(.ob (.fp (outP a))),(.ob (.fp (outP b)))])),[]))):=by kernel_rfl
theorem times2_fnd (a b c d:Fp):FnD Try.prog 71 [.v (.a [.ob (.p a),.ob (.p b)]),.v (.a [.ob (.p c),.ob (.p d)])] (.v (.a (f2I ((a,b)*(c,d))))) []:=by
  have r:=t2A a b c d
  rw[kar_g] at r
  exact fn_sound qeJ_ok Try.func71 r trivial
theorem zero2_fnd (a b:Fp):FnD Try.prog 111 [.v (.a [.ob (.p a),.ob (.p b)])] (.v (.c (.bool (decide (((a,b):F2)=0))))) []:=by
  have r:=z2A a b
  rw[if_pos rfl] at r
  have e:decide (((a,b):F2)=0)=(decide (a=0) && decide (b=0)):=pair_dec a 0 b 0
  rw[e]
  exact fn_sound qeJ_ok Try.func111 r trivial
def inP2 (a b:U6):F2:=(inP a,inP b)
def times2Spec:FnSpec
  | [.v (.a [.ob (.p a),.ob (.p b)]),.v (.a [.ob (.p c),.ob (.p d)])]=>some ([],.v (.a (f2I ((a,b)*(c,d)))),[])
  | _=>none
noncomputable def qxA:Env:=qeJ.set (addT qeJ.fn 71 times2Spec)
theorem qxA_ok:EnvOk Try.prog qxA:=env_add qeJ_ok 71 times2Spec (enters_of Try.func71 rfl rfl) fun args o r es h _=>by
  unfold times2Spec at h
  split at h
  · cases h;exact times2_fnd _ _ _ _
  · cases h
def plus2Spec:FnSpec
  | [.v (.a [.ob (.p a),.ob (.p b)]),.v (.a [.ob (.p c),.ob (.p d)])]=>some ([],.v (.a (f2I ((a,b)+(c,d)))),[])
  | _=>none
noncomputable def qxB:Env:=qxA.set (addT qxA.fn 72 plus2Spec)
theorem qxB_ok:EnvOk Try.prog qxB:=env_add qxA_ok 72 plus2Spec (enters_of Try.func72 rfl rfl) fun args o r es h _=>by
  unfold plus2Spec at h
  split at h
  · cases h;exact fn_sound qeJ_ok Try.func72 (p2A _ _ _ _) trivial
  · cases h
def minus2Spec:FnSpec
  | [.v (.a [.ob (.p a),.ob (.p b)]),.v (.a [.ob (.p c),.ob (.p d)])]=>some ([],.v (.a (f2I ((a,b)-(c,d)))),[])
  | _=>none
noncomputable def qxC:Env:=qxB.set (addT qxB.fn 112 minus2Spec)
theorem qxC_ok:EnvOk Try.prog qxC:=env_add qxB_ok 112 minus2Spec (enters_of Try.func112 rfl rfl) fun args o r es h _=>by
  unfold minus2Spec at h
  split at h
  · cases h;exact fn_sound qeJ_ok Try.func112 (m2A _ _ _ _) trivial
  · cases h
def neg2Spec:FnSpec
  | [.v (.a [.ob (.p a),.ob (.p b)])]=>some ([],.v (.a (f2I (0-(a,b)))),[])
  | _=>none
noncomputable def qxD:Env:=qxC.set (addT qxC.fn 113 neg2Spec)
theorem qxD_ok:EnvOk Try.prog qxD:=env_add qxC_ok 113 neg2Spec (enters_of Try.func113 rfl rfl) fun args o r es h _=>by
  unfold neg2Spec at h
  split at h
  · cases h;exact fn_sound qeJ_ok Try.func113 (n2A _ _) trivial
  · cases h
def zero2Spec:FnSpec
  | [.v (.a [.ob (.p a),.ob (.p b)])]=>some ([],.v (.c (.bool (decide (((a,b):F2)=0)))),[])
  | _=>none
noncomputable def qxE:Env:=qxD.set (addT qxD.fn 111 zero2Spec)
theorem qxE_ok:EnvOk Try.prog qxE:=env_add qxD_ok 111 zero2Spec (enters_of Try.func111 rfl rfl) fun args o r es h _=>by
  unfold zero2Spec at h
  split at h
  · cases h;exact zero2_fnd _ _
  · cases h
def norm2Spec:FnSpec
  | [.v (.a [.ob (.p a),.ob (.p b)])]=>some ([],.v (.a [.ob (.p (nQ2 (a,b)))]),[])
  | _=>none
noncomputable def qxF:Env:=qxE.set (addT qxE.fn 114 norm2Spec)
theorem qxF_ok:EnvOk Try.prog qxF:=env_add qxE_ok 114 norm2Spec (enters_of Try.func114 rfl rfl) fun args o r es h _=>by
  unfold norm2Spec at h
  split at h
  · cases h;exact fn_sound qeJ_ok Try.func114 (no2A _ _) trivial
  · cases h
def in2Spec:FnSpec
  | [.v (.a [.ob (.fp a),.ob (.fp b)])]=>some ([],.v (.a (f2I (inP2 a b))),[])
  | _=>none
noncomputable def qxG:Env:=qxF.set (addT qxF.fn 49 in2Spec)
theorem qxG_ok:EnvOk Try.prog qxG:=env_add qxF_ok 49 in2Spec (enters_of Try.func49 rfl rfl) fun args o r es h _=>by
  unfold in2Spec at h
  split at h
  · cases h;exact fn_sound qeJ_ok Try.func49 (i2A _ _) trivial
  · cases h
def out2Spec:FnSpec
  | [.v (.a [.ob (.p a),.ob (.p b)])]=>some ([],.v (.a [.ob (.fp (outP a)),.ob (.fp (outP b))]),[])
  | _=>none
noncomputable def qxH:Env:=qxG.set (addT qxG.fn 48 out2Spec)
theorem qxH_ok:EnvOk Try.prog qxH:=env_add qxG_ok 48 out2Spec (enters_of Try.func48 rfl rfl) fun args o r es h _=>by
  unfold out2Spec at h
  split at h
  · cases h;exact fn_sound qeJ_ok Try.func48 (o2A _ _) trivial
  · cases h
--@env qxH qxH_ok
theorem v2A (a b:Fp):fnRes qxH Try.f110 3000 [.v (.a [.ob (.p a),.ob (.p b)])] [] [] []=(some ([],((.v (.a [(.ob (.p (a*(ivP (nQ2 (a,b)))))),(.ob (.p ((0:Fp)-(b*(ivP (nQ2 (a,b)))))))])),[]))):=by kernel_rfl
def inv2Spec:FnSpec
  | [.v (.a [.ob (.p a),.ob (.p b)])]=>some ([],.v (.a (f2I (ivQ2 ivP (a,b)))),[])
  | _=>none
noncomputable def qxI:Env:=qxH.set (addT qxH.fn 110 inv2Spec)
theorem qxI_ok:EnvOk Try.prog qxI:=env_add qxH_ok 110 inv2Spec (enters_of Try.func110 rfl rfl) fun args o r es h _=>by
  unfold inv2Spec at h
  split at h
  · cases h;exact fn_sound qxH_ok Try.func110 (v2A _ _) trivial
  · cases h
theorem meth72_Times (v : Value) (w : World) : (method (Try.prog.types.size + Made.depth) 72 v "Times").run Try.prog w = .ok (71, v) w := by kernel_rfl
theorem meth72_Plus (v : Value) (w : World) : (method (Try.prog.types.size + Made.depth) 72 v "Plus").run Try.prog w = .ok (72, v) w := by kernel_rfl
theorem meth72_Minus (v : Value) (w : World) : (method (Try.prog.types.size + Made.depth) 72 v "Minus").run Try.prog w = .ok (112, v) w := by kernel_rfl
theorem meth72_IsZero (v : Value) (w : World) : (method (Try.prog.types.size + Made.depth) 72 v "IsZero").run Try.prog w = .ok (111, v) w := by kernel_rfl
theorem meth72_Negative (v : Value) (w : World) : (method (Try.prog.types.size + Made.depth) 72 v "Negative").run Try.prog w = .ok (113, v) w := by kernel_rfl
theorem meth72_Inverse (v : Value) (w : World) : (method (Try.prog.types.size + Made.depth) 72 v "Inverse").run Try.prog w = .ok (110, v) w := by kernel_rfl
noncomputable def inv2T (T : Nat → Option (List (String × Nat))) (t : Nat) : Option (List (String × Nat)) := if t = 72 then some [("Times", 71), ("Plus", 72), ("Minus", 112), ("IsZero", 111), ("Negative", 113), ("Inverse", 110)] else T t
noncomputable def qxJ:Env:={ qxI with inv:=inv2T qxI.inv }
theorem qxJ_ok:EnvOk Try.prog qxJ:=by
  refine ⟨qxI_ok.ty,qxI_ok.mixed,qxI_ok.fn,qxI_ok.mu,qxI_ok.inl,qxI_ok.ex,fun t l h=>?_⟩
  have h:inv2T qxI.inv t=some l:=h
  unfold inv2T at h
  split at h
  · rename_i ht
    cases h
    subst ht
    refine ⟨by kernel_rfl,fun name g hg v args w=>?_⟩
    unfold lookM at hg
    split at hg
    · rename_i hn
      cases hg
      subst hn
      simp only[callMethod,Sem.run_bind,run_program,Result.andThen_ok,meth72_Times]
    unfold lookM at hg
    split at hg
    · rename_i hn
      cases hg
      subst hn
      simp only[callMethod,Sem.run_bind,run_program,Result.andThen_ok,meth72_Plus]
    unfold lookM at hg
    split at hg
    · rename_i hn
      cases hg
      subst hn
      simp only[callMethod,Sem.run_bind,run_program,Result.andThen_ok,meth72_Minus]
    unfold lookM at hg
    split at hg
    · rename_i hn
      cases hg
      subst hn
      simp only[callMethod,Sem.run_bind,run_program,Result.andThen_ok,meth72_IsZero]
    unfold lookM at hg
    split at hg
    · rename_i hn
      cases hg
      subst hn
      simp only[callMethod,Sem.run_bind,run_program,Result.andThen_ok,meth72_Negative]
    unfold lookM at hg
    split at hg
    · rename_i hn
      cases hg
      subst hn
      simp only[callMethod,Sem.run_bind,run_program,Result.andThen_ok,meth72_Inverse]
    cases hg
  · exact qxI_ok.inv t l h
--@env qxJ qxJ_ok
theorem tw2A (a b c d e f:Fp):fnRes qxJ Try.f52 3000 [.v (.a [.ob (.p a),.ob (.p b),.ob (.p c),.ob (.p d),.ob (.p e),.ob (.p f)])] [true] [] []=(some ([((decide ((e,f)=(0:(Prod (Fin pN) (Fin pN)))))=true)],((.v (.a [.ob (.p a),.ob (.p b),.ob (.p c),.ob (.p d),.ob (.p e),.ob (.p f)])),[]))):=by kernel_rfl
theorem tw2B (a b c d e f:Fp):fnRes qxJ Try.f52 3000 [.v (.a [.ob (.p a),.ob (.p b),.ob (.p c),.ob (.p d),.ob (.p e),.ob (.p f)])] [false] [] []=(some ([((decide ((e,f)=(0:(Prod (Fin pN) (Fin pN)))))=false)],((.v (.a [(.ob (.p (Prod.fst (((((((a,b)*(a,b))+((a,b)*(a,b)))+((a,b)*(a,b)))*((((a,b)*(a,b))+((a,b)*(a,b)))+((a,b)*(a,b))))-((((((a,b)+((c,d)*(c,d)))*((a,b)+((c,d)*(c,d))))-((a,b)*(a,b)))-(((c,d)*(c,d))*((c,d)*(c,d))))+(((((a,b)+((c,d)*(c,d)))*((a,b)+((c,d)*(c,d))))-((a,b)*(a,b)))-(((c,d)*(c,d))*((c,d)*(c,d))))))-((((((a,b)+((c,d)*(c,d)))*((a,b)+((c,d)*(c,d))))-((a,b)*(a,b)))-(((c,d)*(c,d))*((c,d)*(c,d))))+(((((a,b)+((c,d)*(c,d)))*((a,b)+((c,d)*(c,d))))-((a,b)*(a,b)))-(((c,d)*(c,d))*((c,d)*(c,d))))))))),(.ob (.p (Prod.snd (((((((a,b)*(a,b))+((a,b)*(a,b)))+((a,b)*(a,b)))*((((a,b)*(a,b))+((a,b)*(a,b)))+((a,b)*(a,b))))-((((((a,b)+((c,d)*(c,d)))*((a,b)+((c,d)*(c,d))))-((a,b)*(a,b)))-(((c,d)*(c,d))*((c,d)*(c,d))))+(((((a,b)+((c,d)*(c,d)))*((a,b)+((c,d)*(c,d))))-((a,b)*(a,b)))-(((c,d)*(c,d))*((c,d)*(c,d))))))-((((((a,b)+((c,d)*(c,d)))*((a,b)+((c,d)*(c,d))))-((a,b)*(a,b)))-(((c,d)*(c,d))*((c,d)*(c,d))))+(((((a,b)+((c,d)*(c,d)))*((a,b)+((c,d)*(c,d))))-((a,b)*(a,b)))-(((c,d)*(c,d))*((c,d)*(c,d))))))))),(.ob (.p (Prod.fst ((((((a,b)*(a,b))+((a,b)*(a,b)))+((a,b)*(a,b)))*(((((((a,b)+((c,d)*(c,d)))*((a,b)+((c,d)*(c,d))))-((a,b)*(a,b)))-(((c,d)*(c,d))*((c,d)*(c,d))))+(((((a,b)+((c,d)*(c,d)))*((a,b)+((c,d)*(c,d))))-((a,b)*(a,b)))-(((c,d)*(c,d))*((c,d)*(c,d)))))-(((((((a,b)*(a,b))+((a,b)*(a,b)))+((a,b)*(a,b)))*((((a,b)*(a,b))+((a,b)*(a,b)))+((a,b)*(a,b))))-((((((a,b)+((c,d)*(c,d)))*((a,b)+((c,d)*(c,d))))-((a,b)*(a,b)))-(((c,d)*(c,d))*((c,d)*(c,d))))+(((((a,b)+((c,d)*(c,d)))*((a,b)+((c,d)*(c,d))))-((a,b)*(a,b)))-(((c,d)*(c,d))*((c,d)*(c,d))))))-((((((a,b)+((c,d)*(c,d)))*((a,b)+((c,d)*(c,d))))-((a,b)*(a,b)))-(((c,d)*(c,d))*((c,d)*(c,d))))+(((((a,b)+((c,d)*(c,d)))*((a,b)+((c,d)*(c,d))))-((a,b)*(a,b)))-(((c,d)*(c,d))*((c,d)*(c,d))))))))-((((((c,d)*(c,d))*((c,d)*(c,d)))+(((c,d)*(c,d))*((c,d)*(c,d))))+((((c,d)*(c,d))*((c,d)*(c,d)))+(((c,d)*(c,d))*((c,d)*(c,d)))))+(((((c,d)*(c,d))*((c,d)*(c,d)))+(((c,d)*(c,d))*((c,d)*(c,d))))+((((c,d)*(c,d))*((c,d)*(c,d)))+(((c,d)*(c,d))*((c,d)*(c,d)))))))))),(.ob (.p (Prod.snd ((((((a,b)*(a,b))+((a,b)*(a,b)))+((a,b)*(a,b)))*(((((((a,b)+((c,d)*(c,d)))*((a,b)+((c,d)*(c,d))))-((a,b)*(a,b)))-(((c,d)*(c,d))*((c,d)*(c,d))))+(((((a,b)+((c,d)*(c,d)))*((a,b)+((c,d)*(c,d))))-((a,b)*(a,b)))-(((c,d)*(c,d))*((c,d)*(c,d)))))-(((((((a,b)*(a,b))+((a,b)*(a,b)))+((a,b)*(a,b)))*((((a,b)*(a,b))+((a,b)*(a,b)))+((a,b)*(a,b))))-((((((a,b)+((c,d)*(c,d)))*((a,b)+((c,d)*(c,d))))-((a,b)*(a,b)))-(((c,d)*(c,d))*((c,d)*(c,d))))+(((((a,b)+((c,d)*(c,d)))*((a,b)+((c,d)*(c,d))))-((a,b)*(a,b)))-(((c,d)*(c,d))*((c,d)*(c,d))))))-((((((a,b)+((c,d)*(c,d)))*((a,b)+((c,d)*(c,d))))-((a,b)*(a,b)))-(((c,d)*(c,d))*((c,d)*(c,d))))+(((((a,b)+((c,d)*(c,d)))*((a,b)+((c,d)*(c,d))))-((a,b)*(a,b)))-(((c,d)*(c,d))*((c,d)*(c,d))))))))-((((((c,d)*(c,d))*((c,d)*(c,d)))+(((c,d)*(c,d))*((c,d)*(c,d))))+((((c,d)*(c,d))*((c,d)*(c,d)))+(((c,d)*(c,d))*((c,d)*(c,d)))))+(((((c,d)*(c,d))*((c,d)*(c,d)))+(((c,d)*(c,d))*((c,d)*(c,d))))+((((c,d)*(c,d))*((c,d)*(c,d)))+(((c,d)*(c,d))*((c,d)*(c,d)))))))))),(.ob (.p (Prod.fst (((c,d)*(e,f))+((c,d)*(e,f)))))),(.ob (.p (Prod.snd (((c,d)*(e,f))+((c,d)*(e,f))))))])),[]))):=by kernel_rfl
theorem ng2P (a b c d e f:Fp):fnRes qxJ Try.f115 3000 [.v (.a [.ob (.p a),.ob (.p b),.ob (.p c),.ob (.p d),.ob (.p e),.ob (.p f)])] [] [] []=(some ([],((.v (.a [.ob (.p a),.ob (.p b),(.ob (.p (Prod.fst ((0:F2)-(c,d))))),(.ob (.p (Prod.snd ((0:F2)-(c,d))))),.ob (.p e),.ob (.p f)])),[]))):=by kernel_rfl
end Go.Proofs.Ytdeohachoeopdaa

/- Points of the second curve: twice, negative, sums, walked. No conditions. -/
namespace Go.Proofs.Ytdeohachoeopdaa

theorem twice2_fnd (a b c d e f:Fp):FnD Try.prog 52 [.v (.a [.ob (.p a),.ob (.p b),.ob (.p c),.ob (.p d),.ob (.p e),.ob (.p f)])] (.v (.a (pt2Its (jtw (F:=F2) ((a,b),(c,d),(e,f)))))) []:=by
  by_cases h:((e,f):F2)=0
  · have e0:jtw (F:=F2) ((a,b),(c,d),(e,f))=((a,b),(c,d),(e,f)):=if_pos h
    rw[e0]
    exact fn_sound qxJ_ok Try.func52 (tw2A a b c d e f) ⟨decide_eq_true h,trivial⟩
  · unfold jtw
    rw[if_neg h]
    exact fn_sound qxJ_ok Try.func52 (tw2B a b c d e f) ⟨decide_eq_false h,trivial⟩
def tw2Spec:FnSpec
  | [.v (.a [.ob (.p a),.ob (.p b),.ob (.p c),.ob (.p d),.ob (.p e),.ob (.p f)])]=>some ([],.v (.a (pt2Its (jtw (F:=F2) ((a,b),(c,d),(e,f))))),[])
  | _=>none
noncomputable def qyA:Env:=qxJ.set (addT qxJ.fn 52 tw2Spec)
theorem qyA_ok:EnvOk Try.prog qyA:=env_add qxJ_ok 52 tw2Spec (enters_of Try.func52 rfl rfl) fun args o r es h _=>by
  unfold tw2Spec at h
  split at h
  · cases h;exact twice2_fnd _ _ _ _ _ _
  · cases h
def ng2Spec:FnSpec
  | [.v (.a [.ob (.p a),.ob (.p b),.ob (.p c),.ob (.p d),.ob (.p e),.ob (.p f)])]=>some ([],.v (.a (pt2Its (jng (F:=F2) ((a,b),(c,d),(e,f))))),[])
  | _=>none
noncomputable def qyB:Env:=qyA.set (addT qyA.fn 115 ng2Spec)
theorem qyB_ok:EnvOk Try.prog qyB:=env_add qyA_ok 115 ng2Spec (enters_of Try.func115 rfl rfl) fun args o r es h _=>by
  unfold ng2Spec at h
  split at h
  · cases h;exact fn_sound qxJ_ok Try.func115 (ng2P _ _ _ _ _ _) trivial
  · cases h
--@env qyB qyB_ok
theorem pq2A (a b c d e f a' b' c' d' e' f' : Fp):fnRes qyB Try.f50 3000 [.v (.a [.ob (.p a),.ob (.p b),.ob (.p c),.ob (.p d),.ob (.p e),.ob (.p f)]),.v (.a [.ob (.p a'),.ob (.p b'),.ob (.p c'),.ob (.p d'),.ob (.p e'),.ob (.p f')])] [true] [] []=(some ([((decide ((e,f)=(0:(Prod (Fin pN) (Fin pN)))))=true)],((.v (.a [(.ob (.p a')),(.ob (.p b')),(.ob (.p c')),(.ob (.p d')),(.ob (.p e')),(.ob (.p f'))])),[]))):=by kernel_rfl
theorem pq2B (a b c d e f a' b' c' d' e' f' : Fp):fnRes qyB Try.f50 3000 [.v (.a [.ob (.p a),.ob (.p b),.ob (.p c),.ob (.p d),.ob (.p e),.ob (.p f)]),.v (.a [.ob (.p a'),.ob (.p b'),.ob (.p c'),.ob (.p d'),.ob (.p e'),.ob (.p f')])] [false,true] [] []=(some ([((decide ((e,f)=(0:(Prod (Fin pN) (Fin pN)))))=false),((decide ((e',f')=(0:(Prod (Fin pN) (Fin pN)))))=true)],((.v (.a [.ob (.p a),.ob (.p b),.ob (.p c),.ob (.p d),.ob (.p e),.ob (.p f)])),[]))):=by kernel_rfl
theorem pq2C (a b c d e f a' b' c' d' e' f' : Fp):fnRes qyB Try.f50 3000 [.v (.a [.ob (.p a),.ob (.p b),.ob (.p c),.ob (.p d),.ob (.p e),.ob (.p f)]),.v (.a [.ob (.p a'),.ob (.p b'),.ob (.p c'),.ob (.p d'),.ob (.p e'),.ob (.p f')])] [false,false,true,true] [] []=(some ([((decide ((e,f)=(0:(Prod (Fin pN) (Fin pN)))))=false),((decide ((e',f')=(0:(Prod (Fin pN) (Fin pN)))))=false),((decide ((((a',b')*((e,f)*(e,f)))-((a,b)*((e',f')*(e',f'))))=(0:(Prod (Fin pN) (Fin pN)))))=true),((decide (((((c',d')*((e,f)*(e,f)))*(e,f))-(((c,d)*((e',f')*(e',f')))*(e',f')))=(0:(Prod (Fin pN) (Fin pN)))))=true)],((.v (.a [(.ob (.p (Prod.fst (Prod.fst (jtw ((a,b),((c,d),(e,f)))))))),(.ob (.p (Prod.snd (Prod.fst (jtw ((a,b),((c,d),(e,f)))))))),(.ob (.p (Prod.fst (Prod.fst (Prod.snd (jtw ((a,b),((c,d),(e,f))))))))),(.ob (.p (Prod.snd (Prod.fst (Prod.snd (jtw ((a,b),((c,d),(e,f))))))))),(.ob (.p (Prod.fst (Prod.snd (Prod.snd (jtw ((a,b),((c,d),(e,f))))))))),(.ob (.p (Prod.snd (Prod.snd (Prod.snd (jtw ((a,b),((c,d),(e,f)))))))))])),[]))):=by kernel_rfl
theorem pq2D (a b c d e f a' b' c' d' e' f' : Fp):fnRes qyB Try.f50 3000 [.v (.a [.ob (.p a),.ob (.p b),.ob (.p c),.ob (.p d),.ob (.p e),.ob (.p f)]),.v (.a [.ob (.p a'),.ob (.p b'),.ob (.p c'),.ob (.p d'),.ob (.p e'),.ob (.p f')])] [false,false,true,false] [] []=(some ([((decide ((e,f)=(0:(Prod (Fin pN) (Fin pN)))))=false),((decide ((e',f')=(0:(Prod (Fin pN) (Fin pN)))))=false),((decide ((((a',b')*((e,f)*(e,f)))-((a,b)*((e',f')*(e',f'))))=(0:(Prod (Fin pN) (Fin pN)))))=true),((decide (((((c',d')*((e,f)*(e,f)))*(e,f))-(((c,d)*((e',f')*(e',f')))*(e',f')))=(0:(Prod (Fin pN) (Fin pN)))))=false)],((.v (.a [.ob (.p a),.ob (.p b),.ob (.p c),.ob (.p d),(.ob (.p (0:Fp))),(.ob (.p (0:Fp)))])),[]))):=by kernel_rfl
theorem pq2E (a b c d e f a' b' c' d' e' f' : Fp):fnRes qyB Try.f50 3000 [.v (.a [.ob (.p a),.ob (.p b),.ob (.p c),.ob (.p d),.ob (.p e),.ob (.p f)]),.v (.a [.ob (.p a'),.ob (.p b'),.ob (.p c'),.ob (.p d'),.ob (.p e'),.ob (.p f')])] [false,false,false] [] []=(some ([((decide ((e,f)=(0:(Prod (Fin pN) (Fin pN)))))=false),((decide ((e',f')=(0:(Prod (Fin pN) (Fin pN)))))=false),((decide ((((a',b')*((e,f)*(e,f)))-((a,b)*((e',f')*(e',f'))))=(0:(Prod (Fin pN) (Fin pN)))))=false)],((.v (.a [(.ob (.p (Prod.fst ((((((((c',d')*((e,f)*(e,f)))*(e,f))-(((c,d)*((e',f')*(e',f')))*(e',f')))*((((c',d')*((e,f)*(e,f)))*(e,f))-(((c,d)*((e',f')*(e',f')))*(e',f'))))-(((((a',b')*((e,f)*(e,f)))-((a,b)*((e',f')*(e',f'))))*(((a',b')*((e,f)*(e,f)))-((a,b)*((e',f')*(e',f')))))*(((a',b')*((e,f)*(e,f)))-((a,b)*((e',f')*(e',f'))))))-(((a,b)*((e',f')*(e',f')))*((((a',b')*((e,f)*(e,f)))-((a,b)*((e',f')*(e',f'))))*(((a',b')*((e,f)*(e,f)))-((a,b)*((e',f')*(e',f')))))))-(((a,b)*((e',f')*(e',f')))*((((a',b')*((e,f)*(e,f)))-((a,b)*((e',f')*(e',f'))))*(((a',b')*((e,f)*(e,f)))-((a,b)*((e',f')*(e',f')))))))))),(.ob (.p (Prod.snd ((((((((c',d')*((e,f)*(e,f)))*(e,f))-(((c,d)*((e',f')*(e',f')))*(e',f')))*((((c',d')*((e,f)*(e,f)))*(e,f))-(((c,d)*((e',f')*(e',f')))*(e',f'))))-(((((a',b')*((e,f)*(e,f)))-((a,b)*((e',f')*(e',f'))))*(((a',b')*((e,f)*(e,f)))-((a,b)*((e',f')*(e',f')))))*(((a',b')*((e,f)*(e,f)))-((a,b)*((e',f')*(e',f'))))))-(((a,b)*((e',f')*(e',f')))*((((a',b')*((e,f)*(e,f)))-((a,b)*((e',f')*(e',f'))))*(((a',b')*((e,f)*(e,f)))-((a,b)*((e',f')*(e',f')))))))-(((a,b)*((e',f')*(e',f')))*((((a',b')*((e,f)*(e,f)))-((a,b)*((e',f')*(e',f'))))*(((a',b')*((e,f)*(e,f)))-((a,b)*((e',f')*(e',f')))))))))),(.ob (.p (Prod.fst ((((((c',d')*((e,f)*(e,f)))*(e,f))-(((c,d)*((e',f')*(e',f')))*(e',f')))*((((a,b)*((e',f')*(e',f')))*((((a',b')*((e,f)*(e,f)))-((a,b)*((e',f')*(e',f'))))*(((a',b')*((e,f)*(e,f)))-((a,b)*((e',f')*(e',f'))))))-((((((((c',d')*((e,f)*(e,f)))*(e,f))-(((c,d)*((e',f')*(e',f')))*(e',f')))*((((c',d')*((e,f)*(e,f)))*(e,f))-(((c,d)*((e',f')*(e',f')))*(e',f'))))-(((((a',b')*((e,f)*(e,f)))-((a,b)*((e',f')*(e',f'))))*(((a',b')*((e,f)*(e,f)))-((a,b)*((e',f')*(e',f')))))*(((a',b')*((e,f)*(e,f)))-((a,b)*((e',f')*(e',f'))))))-(((a,b)*((e',f')*(e',f')))*((((a',b')*((e,f)*(e,f)))-((a,b)*((e',f')*(e',f'))))*(((a',b')*((e,f)*(e,f)))-((a,b)*((e',f')*(e',f')))))))-(((a,b)*((e',f')*(e',f')))*((((a',b')*((e,f)*(e,f)))-((a,b)*((e',f')*(e',f'))))*(((a',b')*((e,f)*(e,f)))-((a,b)*((e',f')*(e',f')))))))))-((((c,d)*((e',f')*(e',f')))*(e',f'))*(((((a',b')*((e,f)*(e,f)))-((a,b)*((e',f')*(e',f'))))*(((a',b')*((e,f)*(e,f)))-((a,b)*((e',f')*(e',f')))))*(((a',b')*((e,f)*(e,f)))-((a,b)*((e',f')*(e',f')))))))))),(.ob (.p (Prod.snd ((((((c',d')*((e,f)*(e,f)))*(e,f))-(((c,d)*((e',f')*(e',f')))*(e',f')))*((((a,b)*((e',f')*(e',f')))*((((a',b')*((e,f)*(e,f)))-((a,b)*((e',f')*(e',f'))))*(((a',b')*((e,f)*(e,f)))-((a,b)*((e',f')*(e',f'))))))-((((((((c',d')*((e,f)*(e,f)))*(e,f))-(((c,d)*((e',f')*(e',f')))*(e',f')))*((((c',d')*((e,f)*(e,f)))*(e,f))-(((c,d)*((e',f')*(e',f')))*(e',f'))))-(((((a',b')*((e,f)*(e,f)))-((a,b)*((e',f')*(e',f'))))*(((a',b')*((e,f)*(e,f)))-((a,b)*((e',f')*(e',f')))))*(((a',b')*((e,f)*(e,f)))-((a,b)*((e',f')*(e',f'))))))-(((a,b)*((e',f')*(e',f')))*((((a',b')*((e,f)*(e,f)))-((a,b)*((e',f')*(e',f'))))*(((a',b')*((e,f)*(e,f)))-((a,b)*((e',f')*(e',f')))))))-(((a,b)*((e',f')*(e',f')))*((((a',b')*((e,f)*(e,f)))-((a,b)*((e',f')*(e',f'))))*(((a',b')*((e,f)*(e,f)))-((a,b)*((e',f')*(e',f')))))))))-((((c,d)*((e',f')*(e',f')))*(e',f'))*(((((a',b')*((e,f)*(e,f)))-((a,b)*((e',f')*(e',f'))))*(((a',b')*((e,f)*(e,f)))-((a,b)*((e',f')*(e',f')))))*(((a',b')*((e,f)*(e,f)))-((a,b)*((e',f')*(e',f')))))))))),(.ob (.p (Prod.fst (((((a',b')*((e,f)*(e,f)))-((a,b)*((e',f')*(e',f'))))*(e,f))*(e',f'))))),(.ob (.p (Prod.snd (((((a',b')*((e,f)*(e,f)))-((a,b)*((e',f')*(e',f'))))*(e,f))*(e',f')))))])),[]))):=by kernel_rfl
end Go.Proofs.Ytdeohachoeopdaa

/- Points of the second curve: sums, contract. No conditions. -/
namespace Go.Proofs.Ytdeohachoeopdaa

theorem plusPt2_fnd (a b c d e f a' b' c' d' e' f' : Fp):FnD Try.prog 50 [.v (.a [.ob (.p a),.ob (.p b),.ob (.p c),.ob (.p d),.ob (.p e),.ob (.p f)]),.v (.a [.ob (.p a'),.ob (.p b'),.ob (.p c'),.ob (.p d'),.ob (.p e'),.ob (.p f')])] (.v (.a (pt2Its (jpl (F:=F2) ((a,b),(c,d),(e,f)) ((a',b'),(c',d'),(e',f')))))) []:=by
  by_cases h:((e,f):F2)=0
  · have e0:jpl (F:=F2) ((a,b),(c,d),(e,f)) ((a',b'),(c',d'),(e',f'))=((a',b'),(c',d'),(e',f')):=if_pos h
    rw[e0]
    exact fn_sound qyB_ok Try.func50 (pq2A a b c d e f a' b' c' d' e' f') ⟨decide_eq_true h,trivial⟩
  · by_cases h2:((e',f'):F2)=0
    · have e0:jpl (F:=F2) ((a,b),(c,d),(e,f)) ((a',b'),(c',d'),(e',f'))=((a,b),(c,d),(e,f)):=(if_neg h).trans (if_pos h2)
      rw[e0]
      exact fn_sound qyB_ok Try.func50 (pq2B a b c d e f a' b' c' d' e' f') ⟨decide_eq_false h,decide_eq_true h2,trivial⟩
    · unfold jpl
      rw[if_neg h,if_neg h2]
      dsimp only
      by_cases h3:((a',b'):F2)*(((e,f):F2)*((e,f):F2))-((a,b):F2)*(((e',f'):F2)*((e',f'):F2))=0
      · rw[if_pos h3]
        by_cases h4:((c',d'):F2)*(((e,f):F2)*((e,f):F2))*((e,f):F2)-((c,d):F2)*(((e',f'):F2)*((e',f'):F2))*((e',f'):F2)=0
        · rw[if_pos h4]
          exact fn_sound qyB_ok Try.func50 (pq2C a b c d e f a' b' c' d' e' f') ⟨decide_eq_false h,decide_eq_false h2,decide_eq_true h3,decide_eq_true h4,trivial⟩
        · rw[if_neg h4]
          exact fn_sound qyB_ok Try.func50 (pq2D a b c d e f a' b' c' d' e' f') ⟨decide_eq_false h,decide_eq_false h2,decide_eq_true h3,decide_eq_false h4,trivial⟩
      · rw[if_neg h3]
        exact fn_sound qyB_ok Try.func50 (pq2E a b c d e f a' b' c' d' e' f') ⟨decide_eq_false h,decide_eq_false h2,decide_eq_false h3,trivial⟩

end Go.Proofs.Ytdeohachoeopdaa

/- Points of the second curve, in and out, walked. No conditions. -/
namespace Go.Proofs.Ytdeohachoeopdaa

def pl2Spec:FnSpec
  | [.v (.a [.ob (.p a),.ob (.p b),.ob (.p c),.ob (.p d),.ob (.p e),.ob (.p f)]),.v (.a [.ob (.p a'),.ob (.p b'),.ob (.p c'),.ob (.p d'),.ob (.p e'),.ob (.p f')])]=>some ([],.v (.a (pt2Its (jpl (F:=F2) ((a,b),(c,d),(e,f)) ((a',b'),(c',d'),(e',f'))))),[])
  | _=>none
noncomputable def qyC:Env:=qyB.set (addT qyB.fn 50 pl2Spec)
theorem qyC_ok:EnvOk Try.prog qyC:=env_add qyB_ok 50 pl2Spec (enters_of Try.func50 rfl rfl) fun args o r es h _=>by
  unfold pl2Spec at h
  split at h
  · cases h;exact plusPt2_fnd _ _ _ _ _ _ _ _ _ _ _ _
  · cases h
noncomputable def inlAg (T:Nat→Option Func) (f:Nat):Option Func:=if f=47 then some Try.f47 else T f
noncomputable def qyD:Env:={ qyC with inl:=inlAg qyC.inl }
theorem qyD_ok:EnvOk Try.prog qyD:=by
  refine ⟨qyC_ok.ty,qyC_ok.mixed,qyC_ok.fn,qyC_ok.mu,fun f fn h=>?_,qyC_ok.ex,qyC_ok.inv⟩
  have h:inlAg qyC.inl f=some fn:=h
  unfold inlAg at h
  split at h
  · rename_i hf;cases h;subst hf;exact ⟨Try.func47,enters_of Try.func47 rfl rfl⟩
  exact qyC_ok.inl f fn h
--@env qyD qyD_ok
theorem ig2A (a b c d:U6) (i:Bool):fnRes qyD Try.f26 3000 [.v (.a [.ob (.fp a),.ob (.fp b),.ob (.fp c),.ob (.fp d),.bool i])] [true] [] []=(some ([((0:Int)≤(1:Int)),((1:Int)<(18446744073709551616:Int)),(i=true)],((.v (.a [(.ob (.p (Fin.ofNat pN 1))),(.ob (.p (0:Fp))),(.ob (.p (Fin.ofNat pN 1))),(.ob (.p (0:Fp))),(.ob (.p (0:Fp))),(.ob (.p (0:Fp)))])),[]))):=by kernel_rfl
theorem ig2B (a b c d:U6) (i:Bool):fnRes qyD Try.f26 3000 [.v (.a [.ob (.fp a),.ob (.fp b),.ob (.fp c),.ob (.fp d),.bool i])] [false] [] []=(some ([((0:Int)≤(1:Int)),((1:Int)<(18446744073709551616:Int)),(i=false)],((.v (.a [(.ob (.p (Prod.fst (inP2 a b)))),(.ob (.p (Prod.snd (inP2 a b)))),(.ob (.p (Prod.fst (inP2 c d)))),(.ob (.p (Prod.snd (inP2 c d)))),(.ob (.p (Fin.ofNat pN 1))),(.ob (.p (0:Fp)))])),[]))):=by kernel_rfl
theorem og2A (a b c d e f:Fp):fnRes qyD Try.f25 3000 [.v (.a [.ob (.p a),.ob (.p b),.ob (.p c),.ob (.p d),.ob (.p e),.ob (.p f)])] [true,true] [] []=(some ([((decide ((e,f)=(0:(Prod (Fin pN) (Fin pN)))))=true)],((.v (.a [(.ob (.fp (0:U6))),(.ob (.fp (0:U6))),(.ob (.fp (0:U6))),(.ob (.fp (0:U6))),(.lit true)])),[]))):=by kernel_rfl
theorem og2B (a b c d e f:Fp):fnRes qyD Try.f25 3000 [.v (.a [.ob (.p a),.ob (.p b),.ob (.p c),.ob (.p d),.ob (.p e),.ob (.p f)])] [false,false] [] []=(some ([((decide ((e,f)=(0:(Prod (Fin pN) (Fin pN)))))=false)],((.v (.a [(.ob (.fp (outP (Prod.fst ((a,b)*((ivQ2 ivP (e,f))*(ivQ2 ivP (e,f)))))))),(.ob (.fp (outP (Prod.snd ((a,b)*((ivQ2 ivP (e,f))*(ivQ2 ivP (e,f)))))))),(.ob (.fp (outP (Prod.fst (((c,d)*((ivQ2 ivP (e,f))*(ivQ2 ivP (e,f))))*(ivQ2 ivP (e,f))))))),(.ob (.fp (outP (Prod.snd (((c,d)*((ivQ2 ivP (e,f))*(ivQ2 ivP (e,f))))*(ivQ2 ivP (e,f))))))),(.lit false)])),[]))):=by kernel_rfl
theorem on2A (a b c d:U6) (i:Bool):fnRes qyD Try.f46 3000 [.v (.a [.ob (.fp a),.ob (.fp b),.ob (.fp c),.ob (.fp d),.bool i])] [true] [] []=(some ([(i=true)],((.v (.c (.bool (ite (true=true) (Bool.and (decide (a=(0:U6))) (Bool.and (decide (b=(0:U6))) (Bool.and (decide (c=(0:U6))) (Bool.and (decide (d=(0:U6))) (i == true))))) (Bool.not (Bool.and (decide (a=(0:U6))) (Bool.and (decide (b=(0:U6))) (Bool.and (decide (c=(0:U6))) (Bool.and (decide (d=(0:U6))) (i == true)))))))))),[]))):=by kernel_rfl
theorem on2B (a b c d:U6) (i:Bool):fnRes qyD Try.f46 3000 [.v (.a [.ob (.fp a),.ob (.fp b),.ob (.fp c),.ob (.fp d),.bool i])] [false,true,true] [] []=(some ([(i=false),((0:Int)≤(4:Int)),((4:Int)<(18446744073709551616:Int)),((0:Int)≤(4:Int)),((4:Int)<(18446744073709551616:Int)),((ite (true=true) (Bool.and (decide ((outP (Prod.fst (inP2 a b)))=a)) (decide ((outP (Prod.snd (inP2 a b)))=b))) (Bool.not (Bool.and (decide ((outP (Prod.fst (inP2 a b)))=a)) (decide ((outP (Prod.snd (inP2 a b)))=b)))))=true),((ite (true=true) (Bool.and (decide ((outP (Prod.fst (inP2 c d)))=c)) (decide ((outP (Prod.snd (inP2 c d)))=d))) (Bool.not (Bool.and (decide ((outP (Prod.fst (inP2 c d)))=c)) (decide ((outP (Prod.snd (inP2 c d)))=d)))))=true)],((.v (.c (.bool (ite (true=true) (Bool.and (decide ((Prod.fst ((inP2 c d)*(inP2 c d)))=(Prod.fst ((((inP2 a b)*(inP2 a b))*(inP2 a b))+((Fin.ofNat pN 4),(Fin.ofNat pN 4)))))) (decide ((Prod.snd ((inP2 c d)*(inP2 c d)))=(Prod.snd ((((inP2 a b)*(inP2 a b))*(inP2 a b))+((Fin.ofNat pN 4),(Fin.ofNat pN 4))))))) (Bool.not (Bool.and (decide ((Prod.fst ((inP2 c d)*(inP2 c d)))=(Prod.fst ((((inP2 a b)*(inP2 a b))*(inP2 a b))+((Fin.ofNat pN 4),(Fin.ofNat pN 4)))))) (decide ((Prod.snd ((inP2 c d)*(inP2 c d)))=(Prod.snd ((((inP2 a b)*(inP2 a b))*(inP2 a b))+((Fin.ofNat pN 4),(Fin.ofNat pN 4)))))))))))),[]))):=by kernel_rfl
theorem on2C (a b c d:U6) (i:Bool):fnRes qyD Try.f46 3000 [.v (.a [.ob (.fp a),.ob (.fp b),.ob (.fp c),.ob (.fp d),.bool i])] [false,true,false] [] []=(some ([(i=false),((0:Int)≤(4:Int)),((4:Int)<(18446744073709551616:Int)),((0:Int)≤(4:Int)),((4:Int)<(18446744073709551616:Int)),((ite (true=true) (Bool.and (decide ((outP (Prod.fst (inP2 a b)))=a)) (decide ((outP (Prod.snd (inP2 a b)))=b))) (Bool.not (Bool.and (decide ((outP (Prod.fst (inP2 a b)))=a)) (decide ((outP (Prod.snd (inP2 a b)))=b)))))=true),((ite (true=true) (Bool.and (decide ((outP (Prod.fst (inP2 c d)))=c)) (decide ((outP (Prod.snd (inP2 c d)))=d))) (Bool.not (Bool.and (decide ((outP (Prod.fst (inP2 c d)))=c)) (decide ((outP (Prod.snd (inP2 c d)))=d)))))=false)],((.v (.c (.lit false))),[]))):=by kernel_rfl
theorem on2D (a b c d:U6) (i:Bool):fnRes qyD Try.f46 3000 [.v (.a [.ob (.fp a),.ob (.fp b),.ob (.fp c),.ob (.fp d),.bool i])] [false,false,false] [] []=(some ([(i=false),((0:Int)≤(4:Int)),((4:Int)<(18446744073709551616:Int)),((0:Int)≤(4:Int)),((4:Int)<(18446744073709551616:Int)),((ite (true=true) (Bool.and (decide ((outP (Prod.fst (inP2 a b)))=a)) (decide ((outP (Prod.snd (inP2 a b)))=b))) (Bool.not (Bool.and (decide ((outP (Prod.fst (inP2 a b)))=a)) (decide ((outP (Prod.snd (inP2 a b)))=b)))))=false)],((.v (.c (.lit false))),[]))):=by kernel_rfl
end Go.Proofs.Ytdeohachoeopdaa

/- Points of the second curve, in and out; pairs outside: contracts. No conditions. -/
namespace Go.Proofs.Ytdeohachoeopdaa

def fq4:F2:=(fp4,fp4)
/-- Which points may be. -/
def onG2 (a:G2D):Bool:=
  if a.inf then decide (a.xa=0) && (decide (a.xb=0) && (decide (a.ya=0) && decide (a.yb=0)))
  else (decide (outP (inP a.xa)=a.xa) && decide (outP (inP a.xb)=a.xb)) && ((decide (outP (inP a.ya)=a.ya) && decide (outP (inP a.yb)=a.yb)) && decide (inP2 a.ya a.yb*inP2 a.ya a.yb=inP2 a.xa a.xb*inP2 a.xa a.xb*inP2 a.xa a.xb+fq4))
def inG2 (a:G2D):F2×F2×F2:=if a.inf then ((fp1,0),(fp1,0),(0,0)) else (inP2 a.xa a.xb,inP2 a.ya a.yb,(fp1,0))
def outG2 (t:F2×F2×F2):G2D:=
  if t.2.2=0 then ⟨0,0,0,0,true⟩ else
  ⟨outP (t.1*(ivQ2 ivP t.2.2*ivQ2 ivP t.2.2)).1,outP (t.1*(ivQ2 ivP t.2.2*ivQ2 ivP t.2.2)).2,outP (t.2.1*(ivQ2 ivP t.2.2*ivQ2 ivP t.2.2)*ivQ2 ivP t.2.2).1,outP (t.2.1*(ivQ2 ivP t.2.2*ivQ2 ivP t.2.2)*ivQ2 ivP t.2.2).2,false⟩
theorem lit_fifth {x:Ctx} {i j k l:It} {b:Bool} {v:Value} (h:denS x (.v (.a [i,j,k,l,.lit b])) v):denS x (.v (.a [i,j,k,l,.bool b])) v:=by
  obtain ⟨cs,e,c1,r1,e1,h1,c2,r2,e2,h2,c3,r3,e3,h3,c4,r4,e4,h4,c5,r5,e5,⟨d,h5⟩,h6⟩:=h
  refine ⟨cs,e,c1,r1,e1,h1,c2,r2,e2,h2,c3,r3,e3,h3,c4,r4,e4,h4,c5,r5,e5,⟨d,?_⟩,h6⟩
  cases d<;>exact h5
theorem lit_fifth_t {x:Ctx} {i j k l m:It} {b:Bool} {v:Value} (h:denS x (.t [.a [i,j,k,l,.lit b],.c m]) v):denS x (.t [.a [i,j,k,l,.bool b],.c m]) v:=by
  obtain ⟨vs,e,h1⟩:=h
  cases h1 with | cons d1 ds=>
  exact ⟨_,e,.cons (lit_fifth d1) ds⟩

theorem inG2_fnd (a b c d:U6) (i:Bool):FnD Try.prog 26 [.v (.a [.ob (.fp a),.ob (.fp b),.ob (.fp c),.ob (.fp d),.bool i])] (.v (.a (pt2Its (inG2 ⟨a,b,c,d,i⟩)))) []:=by
  cases i with
  | true=>exact fn_sound qyD_ok Try.func26 (ig2A a b c d true) ⟨by decide,by decide,rfl,trivial⟩
  | false=>exact fn_sound qyD_ok Try.func26 (ig2B a b c d false) ⟨by decide,by decide,rfl,trivial⟩

theorem outG2_fnd (a b c d e f:Fp):FnD Try.prog 25 [.v (.a [.ob (.p a),.ob (.p b),.ob (.p c),.ob (.p d),.ob (.p e),.ob (.p f)])] (.v (.a (outG2 ((a,b),(c,d),(e,f))).its)) []:=by
  by_cases h:((e,f):F2)=0
  · have e0:outG2 ((a,b),(c,d),(e,f))=⟨0,0,0,0,true⟩:=if_pos h
    rw[e0]
    exact (fn_sound qyD_ok Try.func25 (og2A a b c d e f) ⟨decide_eq_true h,trivial⟩).conv (fun _ _ h=>h) fun y v hd=>lit_fifth hd
  · unfold outG2
    rw[if_neg h]
    exact (fn_sound qyD_ok Try.func25 (og2B a b c d e f) ⟨decide_eq_false h,trivial⟩).conv (fun _ _ h=>h) fun y v hd=>lit_fifth hd

theorem onG2_fin (a b c d:U6):onG2 ⟨a,b,c,d,false⟩=((decide (outP (inP a)=a) && decide (outP (inP b)=b)) && ((decide (outP (inP c)=c) && decide (outP (inP d)=d)) && decide (inP2 c d*inP2 c d=inP2 a b*inP2 a b*inP2 a b+fq4))):=if_neg (fun h=>Bool.noConfusion h)
theorem onG2_inf (a b c d:U6):onG2 ⟨a,b,c,d,true⟩=(decide (a=0) && (decide (b=0) && (decide (c=0) && (decide (d=0) && (true == true))))):=by
  show (decide (a=0) && (decide (b=0) && (decide (c=0) && decide (d=0))))=_
  simp

theorem onG2_fnd (a b c d:U6) (i:Bool):FnD Try.prog 46 [.v (.a [.ob (.fp a),.ob (.fp b),.ob (.fp c),.ob (.fp d),.bool i])] (.v (.c (.bool (onG2 ⟨a,b,c,d,i⟩)))) []:=by
  cases i with
  | true=>
    have r:=on2A a b c d true
    rw[if_pos rfl] at r
    rw[onG2_inf]
    exact fn_sound qyD_ok Try.func46 r ⟨rfl,trivial⟩
  | false=>
    rw[onG2_fin]
    cases h1:(decide (outP (inP a)=a) && decide (outP (inP b)=b)) with
    | true=>
      rw[Bool.true_and]
      cases h2:(decide (outP (inP c)=c) && decide (outP (inP d)=d)) with
      | true=>
        rw[Bool.true_and]
        have r:=on2B a b c d false
        rw[if_pos rfl,if_pos rfl,if_pos rfl] at r
        have e:decide (inP2 c d*inP2 c d=inP2 a b*inP2 a b*inP2 a b+fq4)=_:=pair_dec (inP2 c d*inP2 c d).1 (inP2 a b*inP2 a b*inP2 a b+fq4).1 (inP2 c d*inP2 c d).2 (inP2 a b*inP2 a b*inP2 a b+fq4).2
        rw[e]
        exact fn_sound qyD_ok Try.func46 r ⟨rfl,by decide,by decide,by decide,by decide,h1,h2,trivial⟩
      | false=>
        rw[Bool.false_and]
        have r:=on2C a b c d false
        rw[if_pos rfl,if_pos rfl] at r
        exact (fn_sound qyD_ok Try.func46 r ⟨rfl,by decide,by decide,by decide,by decide,h1,h2,trivial⟩).conv (fun _ _ h=>h) fun y v hd=>lit_bool rfl hd
    | false=>
      rw[Bool.false_and]
      have r:=on2D a b c d false
      rw[if_pos rfl] at r
      exact (fn_sound qyD_ok Try.func46 r ⟨rfl,by decide,by decide,by decide,by decide,h1,trivial⟩).conv (fun _ _ h=>h) fun y v hd=>lit_bool rfl hd

/-! Pairs outside. -/
section
variable {r:Nat} [NeZero r]
end
end Go.Proofs.Ytdeohachoeopdaa

/- Points of the second curve outside, and the reference's, walked. No conditions. -/
namespace Go.Proofs.Ytdeohachoeopdaa

def inG2Spec:FnSpec
  | [.v (.a [.ob (.fp a),.ob (.fp b),.ob (.fp c),.ob (.fp d),.bool i])]=>some ([],.v (.a (pt2Its (inG2 ⟨a,b,c,d,i⟩))),[])
  | _=>none
noncomputable def qzA:Env:=qyD.set (addT qyD.fn 26 inG2Spec)
theorem qzA_ok:EnvOk Try.prog qzA:=env_add qyD_ok 26 inG2Spec (enters_of Try.func26 rfl rfl) fun args o r es h _=>by
  unfold inG2Spec at h
  split at h
  · cases h;exact inG2_fnd _ _ _ _ _
  · cases h
def outG2Spec:FnSpec
  | [.v (.a [.ob (.p a),.ob (.p b),.ob (.p c),.ob (.p d),.ob (.p e),.ob (.p f)])]=>some ([],.v (.a (outG2 ((a,b),(c,d),(e,f))).its),[])
  | _=>none
noncomputable def qzB:Env:=qzA.set (addT qzA.fn 25 outG2Spec)
theorem qzB_ok:EnvOk Try.prog qzB:=env_add qzA_ok 25 outG2Spec (enters_of Try.func25 rfl rfl) fun args o r es h _=>by
  unfold outG2Spec at h
  split at h
  · cases h;exact outG2_fnd _ _ _ _ _ _
  · cases h
def onG2Spec:FnSpec
  | [.v (.a [.ob (.fp a),.ob (.fp b),.ob (.fp c),.ob (.fp d),.bool i])]=>some ([],.v (.c (.bool (onG2 ⟨a,b,c,d,i⟩))),[])
  | _=>none
noncomputable def qzH:Env:=qzB.set (addT qzB.fn 46 onG2Spec)
theorem qzH_ok:EnvOk Try.prog qzH:=env_add qzB_ok 46 onG2Spec (enters_of Try.func46 rfl rfl) fun args o r es h _=>by
  unfold onG2Spec at h
  split at h
  · cases h;exact onG2_fnd _ _ _ _ _
  · cases h
--@env qzH qzH_ok
theorem ri2R (a b c d:U6) (i:Bool):fnRes qzH Try.f24 3000 [.v (.a [.ob (.fp a),.ob (.fp b),.ob (.fp c),.ob (.fp d),.bool i])] [] [] []=(some ([],((.v (.c (.bool (onG2 (G2D.mk a b c d i))))),[]))):=by kernel_rfl
theorem ge2R  : fnRes qzH Try.f10 3000 [] [] [] []=(some ([((0:Int)≤(15312334153293348280:Int)),((15312334153293348280:Int)<(18446744073709551616:Int)),((0:Int)≤(841050694974028783:Int)),((841050694974028783:Int)<(18446744073709551616:Int)),((0:Int)≤(12993178926126977399:Int)),((12993178926126977399:Int)<(18446744073709551616:Int)),((0:Int)≤(14331714969349929730:Int)),((14331714969349929730:Int)<(18446744073709551616:Int)),((0:Int)≤(2740446039084699729:Int)),((2740446039084699729:Int)<(18446744073709551616:Int)),((0:Int)≤(165123225776229009:Int)),((165123225776229009:Int)<(18446744073709551616:Int)),((0:Int)≤(16549740192668593022:Int)),((16549740192668593022:Int)<(18446744073709551616:Int)),((0:Int)≤(3696594454104530263:Int)),((3696594454104530263:Int)<(18446744073709551616:Int)),((0:Int)≤(13103893525273989193:Int)),((13103893525273989193:Int)<(18446744073709551616:Int)),((0:Int)≤(6443473286224459290:Int)),((6443473286224459290:Int)<(18446744073709551616:Int)),((0:Int)≤(9055845637167730533:Int)),((9055845637167730533:Int)<(18446744073709551616:Int)),((0:Int)≤(1432192374203850592:Int)),((1432192374203850592:Int)<(18446744073709551616:Int)),((0:Int)≤(16254428414758889473:Int)),((16254428414758889473:Int)<(18446744073709551616:Int)),((0:Int)≤(10536956157198377609:Int)),((10536956157198377609:Int)<(18446744073709551616:Int)),((0:Int)≤(7873024875724591404:Int)),((7873024875724591404:Int)<(18446744073709551616:Int)),((0:Int)≤(12537348094477325223:Int)),((12537348094477325223:Int)<(18446744073709551616:Int)),((0:Int)≤(10144865889576432922:Int)),((10144865889576432922:Int)<(18446744073709551616:Int)),((0:Int)≤(929383263523139089:Int)),((929383263523139089:Int)<(18446744073709551616:Int)),((0:Int)≤(12297368366147926462:Int)),((12297368366147926462:Int)<(18446744073709551616:Int)),((0:Int)≤(4555124010822409633:Int)),((4555124010822409633:Int)<(18446744073709551616:Int)),((0:Int)≤(2771000935339432363:Int)),((2771000935339432363:Int)<(18446744073709551616:Int)),((0:Int)≤(14645187562128761775:Int)),((14645187562128761775:Int)<(18446744073709551616:Int)),((0:Int)≤(3651525051980876697:Int)),((3651525051980876697:Int)<(18446744073709551616:Int)),((0:Int)≤(434250606344352972:Int)),((434250606344352972:Int)<(18446744073709551616:Int))],((.v (.a [(.ob (.fp (Fin.ofNat B6 352701069587466618187139116011060144890029952792775240219908644239793785735715026873347600343865175952761926303160))),(.ob (.fp (Fin.ofNat B6 3059144344244213709971259814753781636986470325476647558659373206291635324768958432433509563104347017837885763365758))),(.ob (.fp (Fin.ofNat B6 1985150602287291935568054521177171638300868978215655730859378665066344726373823718423869104263333984641494340347905))),(.ob (.fp (Fin.ofNat B6 927553665492332455747201965776037880757740193453592970025027978793976877002675564980949289727957565575433344219582))),(.lit false)])),[]))):=by kernel_rfl
end Go.Proofs.Ytdeohachoeopdaa

/- The reference's functions on points of the second curve: contracts. No conditions. -/
namespace Go.Proofs.Ytdeohachoeopdaa

def genG2:G2D:=⟨Fin.ofNat B6 352701069587466618187139116011060144890029952792775240219908644239793785735715026873347600343865175952761926303160,Fin.ofNat B6 3059144344244213709971259814753781636986470325476647558659373206291635324768958432433509563104347017837885763365758,Fin.ofNat B6 1985150602287291935568054521177171638300868978215655730859378665066344726373823718423869104263333984641494340347905,Fin.ofNat B6 927553665492332455747201965776037880757740193453592970025027978793976877002675564980949289727957565575433344219582,false⟩

theorem gen2_fnd:FnD Try.prog 10 [] (.v (.a genG2.its)) []:=
  (fn_sound qzH_ok Try.func10 ge2R (by simp [AllP])).conv (fun _ _ h=>h) fun y v hd=>lit_fifth hd
end Go.Proofs.Ytdeohachoeopdaa

/- Sums and negatives of points of the second curve outside, walked. No conditions. -/
namespace Go.Proofs.Ytdeohachoeopdaa

def right2Spec:FnSpec
  | [.v (.a [.ob (.fp a),.ob (.fp b),.ob (.fp c),.ob (.fp d),.bool i])]=>some ([],.v (.c (.bool (onG2 ⟨a,b,c,d,i⟩))),[])
  | _=>none
noncomputable def rtA:Env:=qzH.set (addT qzH.fn 24 right2Spec)
theorem rtA_ok:EnvOk Try.prog rtA:=env_add qzH_ok 24 right2Spec (enters_of Try.func24 rfl rfl) fun args o r es h _=>by
  unfold right2Spec at h
  split at h
  · cases h;exact fn_sound qzH_ok Try.func24 (ri2R _ _ _ _ _) trivial
  · cases h
def gen2Spec:FnSpec
  | []=>some ([],.v (.a genG2.its),[])
  | _=>none
noncomputable def rtC:Env:=rtA.set (addT rtA.fn 10 gen2Spec)
theorem rtC_ok:EnvOk Try.prog rtC:=env_add rtA_ok 10 gen2Spec (enters_of Try.func10 rfl rfl) fun args o r es h _=>by
  unfold gen2Spec at h
  split at h
  · cases h;exact gen2_fnd
  · cases h
noncomputable def rtG:Env:=rtC
theorem rtG_ok:EnvOk Try.prog rtG:=rtC_ok
end Go.Proofs.Ytdeohachoeopdaa

/- The second curve is a group: the plain law. No conditions. -/
namespace Go.Proofs.Ytdeohachoeopdaa

theorem neg1_p:(-1:Fp)=Fin.ofNat pN (pN-1):=by decide +kernel
theorem neg1_val:(Fin.ofNat pN (pN-1)).val=pN-1:=by decide +kernel
theorem halves_p:pN-1=(pN-1) / 2+(pN-1) / 2:=by decide +kernel
theorem neg1_pow:mpow pN (pN-1) 384 ((pN-1) / 2)≠1:=by decide +kernel
theorem half_lt:(pN-1) / 2<2 ^ 384:=by decide +kernel
theorem neg1_ne:(0:Fp)*0 ≠ -1:=by decide +kernel
theorem no_root (t:Fp):t*t ≠ -1:=by
  intro h
  by_cases ht:t=0
  · rw[ht] at h
    exact neg1_ne h
  · have e:=two_pw t ((pN-1) / 2)
    rw[←halves_p,fermat_p t ht,h,neg1_p] at e
    have:=congrArg Fin.val e
    rw[pw_mpow _ 384 _ half_lt,neg1_val,one_val_p] at this
    exact neg1_pow this

theorem one_ne_2:(1:F2)≠0:=by decide +kernel
instance fldQ:Fld F2:=
  { (ringQ2:CRing (Q2 pN)) with
    inv:=ivQ2 ivP
    mul_inv:=ivQ2_mul ivP ivP_mul (nQ2_zero ivP ivP_mul no_root)
    one_ne:=one_ne_2 }

end Go.Proofs.Ytdeohachoeopdaa

/- Sums and negatives of points of the second curve: contracts. No conditions. -/
namespace Go.Proofs.Ytdeohachoeopdaa

noncomputable def rtL:Env:=rtG
theorem rtL_ok:EnvOk Try.prog rtL:=rtG_ok
noncomputable def rtM:Env:=rtL
theorem rtM_ok:EnvOk Try.prog rtM:=rtL_ok
end Go.Proofs.Ytdeohachoeopdaa

/- A point of the second curve as often as a number says: walked. No conditions. -/
namespace Go.Proofs.Ytdeohachoeopdaa
section
variable {w0:World} {F0:Nat→Prop} {K:Kp} {ac:List Act} {Q:Exit→Act→World→Prop} {cX:Ctx} {aX:Act}

--@env rtM rtM_ok
noncomputable def ny_k:List KI:=(run rtM false 3000 ((fun (a b c d e f:Fp) (k:U4)=>(⟨[.code (bodyOf Try.f27)],.normal,initSt Try.f27.ntmps [.v (.a [.ob (.p a),.ob (.p b),.ob (.p c),.ob (.p d),.ob (.p e),.ob (.p f)]),.v (.a [.ob (.fr k)])]⟩:Cfg)) default default default default default default default) []).cfg.k
theorem ny_hk (a b c d e f:Fp) (k:U4):(run rtM false 3000 ((⟨[.code (bodyOf Try.f27)],.normal,initSt Try.f27.ntmps [.v (.a [.ob (.p a),.ob (.p b),.ob (.p c),.ob (.p d),.ob (.p e),.ob (.p f)]),.v (.a [.ob (.fr k)])]⟩:Cfg)) []).cfg.k=ny_k:=by kernel_rfl
theorem ny (a b c d e f:Fp) (k:U4) (ho:AllP [((0:Int)≤(0:Int)),((0:Int)<(16:Int))]) (hs:Sim w0 F0 K ac (initSt Try.f27.ntmps [.v (.a [.ob (.p a),.ob (.p b),.ob (.p c),.ob (.p d),.ob (.p e),.ob (.p f)]),.v (.a [.ob (.fr k)])]) cX aX) (hK:∀ac cY aY,Sim w0 F0 K ac (mkSt 43 [2,3,4,5,6] [.pt 16 0,.pt 32 0,.pt 48 0,.pt 64 0,.ii (1:Int)] [16,32,48,64] [(some (.fl [.ob (.p a),.ob (.p b),.ob (.p c),.ob (.p d),.ob (.p e),.ob (.p f)])),(some (.fl [.ob (.fr k)])),(some (.fl [(.ob (.p (0:Fp))),(.ob (.p (0:Fp))),(.ob (.p (0:Fp))),(.ob (.p (0:Fp))),(.ob (.p (0:Fp))),(.ob (.p (0:Fp)))])),(some (.fl [.ob (.p a),.ob (.p b),.ob (.p c),.ob (.p d),(.ob (.p (0:Fp))),(.ob (.p (0:Fp))),(.ob (.p (0:Fp))),(.ob (.p (0:Fp))),(.ob (.p (0:Fp))),(.ob (.p (0:Fp))),(.ob (.p (0:Fp))),(.ob (.p (0:Fp))),(.ob (.p (0:Fp))),(.ob (.p (0:Fp))),(.ob (.p (0:Fp))),(.ob (.p (0:Fp))),(.ob (.p (0:Fp))),(.ob (.p (0:Fp))),(.ob (.p (0:Fp))),(.ob (.p (0:Fp))),(.ob (.p (0:Fp))),(.ob (.p (0:Fp))),(.ob (.p (0:Fp))),(.ob (.p (0:Fp))),(.ob (.p (0:Fp))),(.ob (.p (0:Fp))),(.ob (.p (0:Fp))),(.ob (.p (0:Fp))),(.ob (.p (0:Fp))),(.ob (.p (0:Fp))),(.ob (.p (0:Fp))),(.ob (.p (0:Fp))),(.ob (.p (0:Fp))),(.ob (.p (0:Fp))),(.ob (.p (0:Fp))),(.ob (.p (0:Fp))),(.ob (.p (0:Fp))),(.ob (.p (0:Fp))),(.ob (.p (0:Fp))),(.ob (.p (0:Fp))),(.ob (.p (0:Fp))),(.ob (.p (0:Fp))),(.ob (.p (0:Fp))),(.ob (.p (0:Fp))),(.ob (.p (0:Fp))),(.ob (.p (0:Fp))),(.ob (.p (0:Fp))),(.ob (.p (0:Fp))),(.ob (.p (0:Fp))),(.ob (.p (0:Fp))),(.ob (.p (0:Fp))),(.ob (.p (0:Fp))),(.ob (.p (0:Fp))),(.ob (.p (0:Fp))),(.ob (.p (0:Fp))),(.ob (.p (0:Fp))),(.ob (.p (0:Fp))),(.ob (.p (0:Fp))),(.ob (.p (0:Fp))),(.ob (.p (0:Fp))),(.ob (.p (0:Fp))),(.ob (.p (0:Fp))),(.ob (.p (0:Fp))),(.ob (.p (0:Fp))),(.ob (.p (0:Fp))),(.ob (.p (0:Fp))),(.ob (.p (0:Fp))),(.ob (.p (0:Fp))),(.ob (.p (0:Fp))),(.ob (.p (0:Fp))),(.ob (.p (0:Fp))),(.ob (.p (0:Fp))),(.ob (.p (0:Fp))),(.ob (.p (0:Fp))),(.ob (.p (0:Fp))),(.ob (.p (0:Fp))),(.ob (.p (0:Fp))),(.ob (.p (0:Fp))),(.ob (.p (0:Fp))),(.ob (.p (0:Fp))),(.ob (.p (0:Fp))),(.ob (.p (0:Fp))),(.ob (.p (0:Fp))),(.ob (.p (0:Fp))),(.ob (.p (0:Fp))),(.ob (.p (0:Fp))),(.ob (.p (0:Fp))),(.ob (.p (0:Fp))),(.ob (.p (0:Fp))),(.ob (.p (0:Fp))),(.ob (.p (0:Fp))),(.ob (.p (0:Fp))),(.ob (.p (0:Fp))),(.ob (.p (0:Fp))),(.ob (.p (0:Fp))),(.ob (.p (0:Fp)))]))] 208 [] []) cY aY→Wq Try.prog Q (ny_k) ac Exit.normal aY cY.w):Wq Try.prog Q ([.code (bodyOf Try.f27)]) ac .normal aX cX.w:=
  run_at2 (o:=⟨_,_,_,_,_,_,_⟩) rtM_ok (by kernel_rfl) (ny_hk a b c d e f k) ho hs hK
noncomputable def nyS (a b c d e f:Fp) (k:U4) (L:List (F2×F2×F2)) (i:Int):St:=mkSt 43 [2,3,4,5,6] [.pt 16 0,.pt 32 0,.pt 48 0,.pt 64 0,.v (.c (.int .i64 i))] [16,32,48,64] [(some (.fl [.ob (.p a),.ob (.p b),.ob (.p c),.ob (.p d),.ob (.p e),.ob (.p f)])),(some (.fl [.ob (.fr k)])),(some (.fl [(.ob (.p (0:Fp))),(.ob (.p (0:Fp))),(.ob (.p (0:Fp))),(.ob (.p (0:Fp))),(.ob (.p (0:Fp))),(.ob (.p (0:Fp)))])),some (.sq (.pt2 L))] 208 [] []
theorem nyA_hk (a b c d e f:Fp) (k:U4) (L:List (F2×F2×F2)) (i:Int):(run rtM false 3000 ((⟨lpIn ny_k,.normal,nyS a b c d e f k L i⟩:Cfg)) [true]).cfg.k=lpBk ny_k:=by kernel_rfl
theorem nyA (a b c d e f:Fp) (k:U4) (L:List (F2×F2×F2)) (i:Int) (ho:AllP [((decide (i<(16:Int)))=true),((0:Int)≤(IntKind.wrap .i64 (i-(1:Int)))),((IntKind.wrap .i64 (i-(1:Int)))<(16:Int)),(0=0),(((IntKind.wrap .i64 (i-(1:Int)))).toNat<(List.length L)),((0:Int)≤i),(i<(16:Int)),(0=0),((i).toNat<(List.length L))]) (hs:Sim w0 F0 K ac (nyS a b c d e f k L i) cX aX) (hK:∀ac cY aY,Sim w0 F0 K ac (mkSt 43 [2,3,4,5,6] [.pt 16 0,.pt 32 0,.pt 48 0,.pt 64 0,(.ii (IntKind.wrap .i64 (i+(1:Int))))] [16,32,48,64] [(some (.fl [.ob (.p a),.ob (.p b),.ob (.p c),.ob (.p d),.ob (.p e),.ob (.p f)])),(some (.fl [.ob (.fr k)])),(some (.fl [(.ob (.p (0:Fp))),(.ob (.p (0:Fp))),(.ob (.p (0:Fp))),(.ob (.p (0:Fp))),(.ob (.p (0:Fp))),(.ob (.p (0:Fp)))])),(some (.sq (Sq.pt2 (List.set L (i).toNat (jpl (List.getD L ((IntKind.wrap .i64 (i-(1:Int)))).toNat pt20) ((a,b),((c,d),(e,f))))))))] 432 [] []) cY aY→Wq Try.prog Q (lpBk ny_k) ac Exit.normal aY cY.w):Wq Try.prog Q (lpIn ny_k) ac .normal aX cX.w:=
  run_at2 (o:=⟨_,_,_,_,_,_,_⟩) rtM_ok (by kernel_rfl) (nyA_hk a b c d e f k L i) ho hs hK
noncomputable def nyB_k:List KI:=(run rtM false 3000 ((fun (a b c d e f:Fp) (k:U4) (L:List (F2×F2×F2)) (i:Int)=>(⟨lpIn ny_k,.normal,nyS a b c d e f k L i⟩:Cfg)) default default default default default default default default default) [false]).cfg.k
theorem nyB_hk (a b c d e f:Fp) (k:U4) (L:List (F2×F2×F2)) (i:Int):(run rtM false 3000 ((⟨lpIn ny_k,.normal,nyS a b c d e f k L i⟩:Cfg)) [false]).cfg.k=nyB_k:=by kernel_rfl
theorem nyB (a b c d e f:Fp) (k:U4) (L:List (F2×F2×F2)) (i:Int) (ho:AllP [((decide (i<(16:Int)))=false),((0:Int)≤(0:Int)),((0:Int)<(16:Int)),(0=0),(0<(List.length L))]) (hs:Sim w0 F0 K ac (nyS a b c d e f k L i) cX aX) (hK:∀ac cY aY,Sim w0 F0 K ac (mkSt 43 [4,5,7,30] [.pt 48 0,.pt 64 0,.pt 272 0,(.v (.c (.clo 73 [(320,0)])))] [48,64,272,320] [(some (.fl [(.ob (.p (0:Fp))),(.ob (.p (0:Fp))),(.ob (.p (0:Fp))),(.ob (.p (0:Fp))),(.ob (.p (0:Fp))),(.ob (.p (0:Fp)))])),(some (.sq (Sq.pt2 L))),(some (.fl [(.ob (.p (Prod.fst (Prod.fst (List.getD L 0 pt20))))),(.ob (.p (Prod.snd (Prod.fst (List.getD L 0 pt20))))),(.ob (.p (Prod.fst (Prod.fst (Prod.snd (List.getD L 0 pt20)))))),(.ob (.p (Prod.snd (Prod.fst (Prod.snd (List.getD L 0 pt20)))))),(.ob (.p (Prod.fst (Prod.snd (Prod.snd (List.getD L 0 pt20)))))),(.ob (.p (Prod.snd (Prod.snd (Prod.snd (List.getD L 0 pt20))))))])),(some (.fl [.ob (.fr k)]))] 384 [] []) cY aY→Wq Try.prog Q (nyB_k) ac Exit.normal aY cY.w):Wq Try.prog Q (lpIn ny_k) ac .normal aX cX.w:=
  run_at2 (o:=⟨_,_,_,_,_,_,_⟩) rtM_ok (by kernel_rfl) (nyB_hk a b c d e f k L i) ho hs hK
noncomputable def nyR (k:U4) (L:List (F2×F2×F2)) (o:F2×F2×F2):St:=mkSt 43 [4,5,7,30] [.pt 48 0,.pt 64 0,.pt 272 0,(.v (.c (.clo 73 [(320,0)])))] [48,64,272,320] [(some (.fl [(.ob (.p (0:Fp))),(.ob (.p (0:Fp))),(.ob (.p (0:Fp))),(.ob (.p (0:Fp))),(.ob (.p (0:Fp))),(.ob (.p (0:Fp)))])),(some (.sq (Sq.pt2 L))),some (.fl [.ob (.p o.1.1),.ob (.p o.1.2),.ob (.p o.2.1.1),.ob (.p o.2.1.2),.ob (.p o.2.2.1),.ob (.p o.2.2.2)]),(some (.fl [.ob (.fr k)]))] 384 [] []
theorem nrA_hk (k:U4) (L:List (F2×F2×F2)) (o:F2×F2×F2) (d:Int):(run rtM false 3000 ((⟨[.code (rfA nyB_k)],.normal,roundSt (nyR k L o) [(31,.v (.c (.int .i64 d)))]⟩:Cfg)) []).cfg.k=[]:=by kernel_rfl
theorem nrA (k:U4) (L:List (F2×F2×F2)) (o:F2×F2×F2) (d:Int) {ρ:Option Nat} (ho:AllP []) (hs:Sim w0 F0 K ac (roundSt (nyR k L o) [(31,.v (.c (.int .i64 d)))]) cX aX) (hK:∀cY aY,Sim w0 F0 K ac (mkSt 43 [4,5,7,8] [.pt 48 0,.pt 64 0,.pt 272 0,.ii d] [48,64,272,320] [(some (.fl [(.ob (.p (0:Fp))),(.ob (.p (0:Fp))),(.ob (.p (0:Fp))),(.ob (.p (0:Fp))),(.ob (.p (0:Fp))),(.ob (.p (0:Fp)))])),(some (.sq (Sq.pt2 L))),(some (.fl [(.ob (.p (Prod.fst (Prod.fst o)))),(.ob (.p (Prod.snd (Prod.fst o)))),(.ob (.p (Prod.fst (Prod.fst (Prod.snd o))))),(.ob (.p (Prod.snd (Prod.fst (Prod.snd o))))),(.ob (.p (Prod.fst (Prod.snd (Prod.snd o))))),(.ob (.p (Prod.snd (Prod.snd (Prod.snd o)))))])),(some (.fl [.ob (.fr k)]))] 400 [[4,5,7,30]] [([.pt 48 0,.pt 64 0,.pt 272 0,(.v (.c (.clo 73 [(320,0)])))],43)]) cY aY→Wq Try.prog Q ([]) ac Exit.normal aY cY.w ρ):Wq Try.prog Q ([.code (rfA nyB_k)]) ac .normal aX cX.w ρ :=
  run_atT (o:=⟨_,_,_,_,_,_,_⟩) rtM_ok (by kernel_rfl) (nrA_hk k L o d) ho (by kernel_rfl) (by kernel_rfl) hs hK
noncomputable def nrB (k:U4) (L:List (F2×F2×F2)) (o:F2×F2×F2) (d:Int):St:=mkSt 43 [4,5,7,8] [.pt 48 0,.pt 64 0,.pt 272 0,.ii d] [48,64,272,320] [(some (.fl [(.ob (.p (0:Fp))),(.ob (.p (0:Fp))),(.ob (.p (0:Fp))),(.ob (.p (0:Fp))),(.ob (.p (0:Fp))),(.ob (.p (0:Fp)))])),(some (.sq (Sq.pt2 L))),some (.fl [.ob (.p o.1.1),.ob (.p o.1.2),.ob (.p o.2.1.1),.ob (.p o.2.1.2),.ob (.p o.2.2.1),.ob (.p o.2.2.2)]),(some (.fl [.ob (.fr k)]))] 400 [[4,5,7,30]] [([.pt 48 0,.pt 64 0,.pt 272 0,(.v (.c (.clo 73 [(320,0)])))],43)]
noncomputable def nrC_k:List KI:=(run rtM false 3000 ((fun (k:U4) (L:List (F2×F2×F2)) (o:F2×F2×F2) (d:Int)=>(⟨[.code (rfB nyB_k)],.normal,nrB k L o d⟩:Cfg)) default default default default) []).cfg.k
theorem nrC_hk (k:U4) (L:List (F2×F2×F2)) (o:F2×F2×F2) (d:Int):(run rtM false 3000 ((⟨[.code (rfB nyB_k)],.normal,nrB k L o d⟩:Cfg)) []).cfg.k=nrC_k:=by kernel_rfl
theorem nrC (k:U4) (L:List (F2×F2×F2)) (o:F2×F2×F2) (d:Int) {ρ:Option Nat} (ho:AllP []) (hs:Sim w0 F0 K ac (nrB k L o d) cX aX) (hK:∀cY aY,Sim w0 F0 K ac (mkSt 43 [4,5,7,8,32] [.pt 48 0,.pt 64 0,.pt 272 0,.ii d,.ii (0:Int)] [48,64,272,320] [(some (.fl [(.ob (.p (0:Fp))),(.ob (.p (0:Fp))),(.ob (.p (0:Fp))),(.ob (.p (0:Fp))),(.ob (.p (0:Fp))),(.ob (.p (0:Fp)))])),(some (.sq (Sq.pt2 L))),(some (.fl [(.ob (.p (Prod.fst (Prod.fst o)))),(.ob (.p (Prod.snd (Prod.fst o)))),(.ob (.p (Prod.fst (Prod.fst (Prod.snd o))))),(.ob (.p (Prod.snd (Prod.fst (Prod.snd o))))),(.ob (.p (Prod.fst (Prod.snd (Prod.snd o))))),(.ob (.p (Prod.snd (Prod.snd (Prod.snd o)))))])),(some (.fl [.ob (.fr k)]))] 416 [[4,5,7,30]] [([.pt 48 0,.pt 64 0,.pt 272 0,(.v (.c (.clo 73 [(320,0)])))],43)]) cY aY→Wq Try.prog Q (nrC_k) ac Exit.normal aY cY.w ρ):Wq Try.prog Q ([.code (rfB nyB_k)]) ac .normal aX cX.w ρ :=
  run_atT (o:=⟨_,_,_,_,_,_,_⟩) rtM_ok (by kernel_rfl) (nrC_hk k L o d) ho (by kernel_rfl) (by kernel_rfl) hs hK
noncomputable def nrS (k:U4) (L:List (F2×F2×F2)) (o:F2×F2×F2) (d j:Int):St:=mkSt 43 [4,5,7,8,32] [.pt 48 0,.pt 64 0,.pt 272 0,.ii d,.v (.c (.int .i64 j))] [48,64,272,320] [(some (.fl [(.ob (.p (0:Fp))),(.ob (.p (0:Fp))),(.ob (.p (0:Fp))),(.ob (.p (0:Fp))),(.ob (.p (0:Fp))),(.ob (.p (0:Fp)))])),(some (.sq (Sq.pt2 L))),some (.fl [.ob (.p o.1.1),.ob (.p o.1.2),.ob (.p o.2.1.1),.ob (.p o.2.1.2),.ob (.p o.2.2.1),.ob (.p o.2.2.2)]),(some (.fl [.ob (.fr k)]))] 416 [[4,5,7,30]] [([.pt 48 0,.pt 64 0,.pt 272 0,(.v (.c (.clo 73 [(320,0)])))],43)]
theorem nrD_hk (k:U4) (L:List (F2×F2×F2)) (o:F2×F2×F2) (d j:Int):(run rtM false 3000 ((⟨lpIn nrC_k,.normal,nrS k L o d j⟩:Cfg)) [true]).cfg.k=lpBk nrC_k:=by kernel_rfl
theorem nrD (k:U4) (L:List (F2×F2×F2)) (o:F2×F2×F2) (d j:Int) {ρ:Option Nat} (ho:AllP [((decide (j<(4:Int)))=true)]) (hs:Sim w0 F0 K ac (nrS k L o d j) cX aX) (hK:∀cY aY,Sim w0 F0 K ac (mkSt 43 [4,5,7,8,32] [.pt 48 0,.pt 64 0,.pt 272 0,.ii d,(.ii (IntKind.wrap .i64 (j+(1:Int))))] [48,64,272,320] [(some (.fl [(.ob (.p (0:Fp))),(.ob (.p (0:Fp))),(.ob (.p (0:Fp))),(.ob (.p (0:Fp))),(.ob (.p (0:Fp))),(.ob (.p (0:Fp)))])),(some (.sq (Sq.pt2 L))),(some (.fl [(.ob (.p (Prod.fst (Prod.fst (jtw o))))),(.ob (.p (Prod.snd (Prod.fst (jtw o))))),(.ob (.p (Prod.fst (Prod.fst (Prod.snd (jtw o)))))),(.ob (.p (Prod.snd (Prod.fst (Prod.snd (jtw o)))))),(.ob (.p (Prod.fst (Prod.snd (Prod.snd (jtw o)))))),(.ob (.p (Prod.snd (Prod.snd (Prod.snd (jtw o))))))])),(some (.fl [.ob (.fr k)]))] 512 [[4,5,7,30]] [([.pt 48 0,.pt 64 0,.pt 272 0,(.v (.c (.clo 73 [(320,0)])))],43)]) cY aY→Wq Try.prog Q (lpBk nrC_k) ac Exit.normal aY cY.w ρ):Wq Try.prog Q (lpIn nrC_k) ac .normal aX cX.w ρ :=
  run_atT (o:=⟨_,_,_,_,_,_,_⟩) rtM_ok (by kernel_rfl) (nrD_hk k L o d j) ho (by kernel_rfl) (by kernel_rfl) hs hK
theorem nrE_hk (k:U4) (L:List (F2×F2×F2)) (o:F2×F2×F2) (d j:Int):(run rtM false 3000 ((⟨lpIn nrC_k,.normal,nrS k L o d j⟩:Cfg)) [false]).cfg.k=[]:=by kernel_rfl
theorem nrE (k:U4) (L:List (F2×F2×F2)) (o:F2×F2×F2) (d j:Int) {ρ:Option Nat} (ho:AllP [((decide (j<(4:Int)))=false),((0:Int)≤d),(d<(16:Int)),(0=0),((d).toNat<(List.length L))]) (hs:Sim w0 F0 K ac (nrS k L o d j) cX aX) (hK:∀cY aY,Sim w0 F0 K ac (mkSt 43 [4] [.pt 48 0] [48,64,272,320] [(some (.fl [(.ob (.p (0:Fp))),(.ob (.p (0:Fp))),(.ob (.p (0:Fp))),(.ob (.p (0:Fp))),(.ob (.p (0:Fp))),(.ob (.p (0:Fp)))])),(some (.sq (Sq.pt2 L))),(some (.fl [(.ob (.p (Prod.fst (Prod.fst (jpl o (List.getD L (d).toNat pt20)))))),(.ob (.p (Prod.snd (Prod.fst (jpl o (List.getD L (d).toNat pt20)))))),(.ob (.p (Prod.fst (Prod.fst (Prod.snd (jpl o (List.getD L (d).toNat pt20))))))),(.ob (.p (Prod.snd (Prod.fst (Prod.snd (jpl o (List.getD L (d).toNat pt20))))))),(.ob (.p (Prod.fst (Prod.snd (Prod.snd (jpl o (List.getD L (d).toNat pt20))))))),(.ob (.p (Prod.snd (Prod.snd (Prod.snd (jpl o (List.getD L (d).toNat pt20)))))))])),(some (.fl [.ob (.fr k)]))] 528 [[4,5,7,30]] [([.pt 48 0,.pt 64 0,.pt 272 0,(.v (.c (.clo 73 [(320,0)])))],43)]) cY aY→Wq Try.prog Q ([]) ac Exit.normal aY cY.w ρ):Wq Try.prog Q (lpIn nrC_k) ac .normal aX cX.w ρ :=
  run_atT (o:=⟨_,_,_,_,_,_,_⟩) rtM_ok (by kernel_rfl) (nrE_hk k L o d j) ho (by kernel_rfl) (by kernel_rfl) hs hK
noncomputable def nrF (k:U4) (L:List (F2×F2×F2)) (o:F2×F2×F2):St:=mkSt 43 [4] [.pt 48 0] [48,64,272,320] [(some (.fl [(.ob (.p (0:Fp))),(.ob (.p (0:Fp))),(.ob (.p (0:Fp))),(.ob (.p (0:Fp))),(.ob (.p (0:Fp))),(.ob (.p (0:Fp)))])),(some (.sq (Sq.pt2 L))),some (.fl [.ob (.p o.1.1),.ob (.p o.1.2),.ob (.p o.2.1.1),.ob (.p o.2.1.2),.ob (.p o.2.2.1),.ob (.p o.2.2.2)]),(some (.fl [.ob (.fr k)]))] 528 [[4,5,7,30]] [([.pt 48 0,.pt 64 0,.pt 272 0,(.v (.c (.clo 73 [(320,0)])))],43)]
theorem nrX_hk (k:U4) (L:List (F2×F2×F2)) (o:F2×F2×F2):(run rtM false 3000 ((⟨rfR nyB_k,.normal,nyR k L o⟩:Cfg)) []).cfg.k=[]:=by kernel_rfl
theorem nrX (k:U4) (L:List (F2×F2×F2)) (o:F2×F2×F2) (ho:AllP []) (hs:Sim w0 F0 K ac (nyR k L o) cX aX) (hK:∀ac cY aY,Sim w0 F0 K ac (mkSt 43 [4] [.pt 48 0] [48] [(some (.fl [(.ob (.p (Prod.fst (Prod.fst o)))),(.ob (.p (Prod.snd (Prod.fst o)))),(.ob (.p (Prod.fst (Prod.fst (Prod.snd o))))),(.ob (.p (Prod.snd (Prod.fst (Prod.snd o))))),(.ob (.p (Prod.fst (Prod.snd (Prod.snd o))))),(.ob (.p (Prod.snd (Prod.snd (Prod.snd o)))))]))] 416 [] []) cY aY→Wq Try.prog Q ([]) ac Exit.ret aY cY.w):Wq Try.prog Q (rfR nyB_k) ac .normal aX cX.w:=
  run_at2 (o:=⟨_,_,_,_,_,_,_⟩) rtM_ok (by kernel_rfl) (nrX_hk k L o) ho hs hK
noncomputable def nrZ (o:F2×F2×F2):St:=mkSt 43 [4] [.pt 48 0] [48] [some (.fl [.ob (.p o.1.1),.ob (.p o.1.2),.ob (.p o.2.1.1),.ob (.p o.2.1.2),.ob (.p o.2.2.1),.ob (.p o.2.2.2)])] 416 [] []
theorem nrR_end (o:F2×F2×F2):runEnd rtM Try.f27 false 3000 (⟨[],.ret,nrZ o⟩) [] [] []=(some ([],((.v (.a [(.ob (.p (Prod.fst (Prod.fst o)))),(.ob (.p (Prod.snd (Prod.fst o)))),(.ob (.p (Prod.fst (Prod.fst (Prod.snd o))))),(.ob (.p (Prod.snd (Prod.fst (Prod.snd o))))),(.ob (.p (Prod.fst (Prod.snd (Prod.snd o))))),(.ob (.p (Prod.snd (Prod.snd (Prod.snd o)))))])),[]))):=by kernel_rfl
end
end Go.Proofs.Ytdeohachoeopdaa

/- A point of the second curve as often as a number says: contract. No conditions. -/
namespace Go.Proofs.Ytdeohachoeopdaa

/-- Sixteen points of the second curve, one behind the other. -/
def flatPt2 (l:List (F2×F2×F2)):Nat→Nat→List It
  | _,0=>[]
  | i,n+1=>.ob (.p (l.getD i pt20).1.1) :: .ob (.p (l.getD i pt20).1.2) :: .ob (.p (l.getD i pt20).2.1.1) :: .ob (.p (l.getD i pt20).2.1.2) :: .ob (.p (l.getD i pt20).2.2.1) :: .ob (.p (l.getD i pt20).2.2.2)::flatPt2 l (i+1) n

theorem cat_flat2 {x:Ctx} (L:List (F2×F2×F2)):∀(n i:Nat) (cs:List Value),catL x.D (flatPt2 L i n) cs→cs.length=n*36∧∀j,j<n→∃c,catL x.D (pt2Its (L.getD (i+j) pt20)) c∧∀(q:Nat) (v:Value),c[q]? = some v→cs[j*36+q]? = some v
  | 0,i,cs,h=>by
    have h:cs=[]:=h
    subst h
    exact ⟨rfl,fun j hj=>absurd hj (Nat.not_lt_zero _)⟩
  | n+1,i,cs,h=>by
    obtain ⟨c1,r1,e1,h1,c2,r2,e2,h2,c3,r3,e3,h3,c4,r4,e4,h4,c5,r5,e5,h5,c6,r6,e6,h6,h7⟩:=h
    obtain ⟨hl,hj⟩:=cat_flat2 L n (i+1) r6 h7
    have l1:c1.length=6:=D_len h1
    have l2:c2.length=6:=D_len h2
    have l3:c3.length=6:=D_len h3
    have l4:c4.length=6:=D_len h4
    have l5:c5.length=6:=D_len h5
    have l6:c6.length=6:=D_len h6
    subst e1 e2 e3 e4 e5 e6
    refine ⟨by simp only[List.length_append];omega,fun j hjn=>?_⟩
    have e:c1++(c2++(c3++(c4++(c5++(c6++r6)))))=(c1++(c2++(c3++(c4++(c5++c6)))))++r6:=by simp
    have hl36:(c1++(c2++(c3++(c4++(c5++c6))))).length=36:=by simp only[List.length_append];omega
    cases j with
    | zero=>
      refine ⟨c1++(c2++(c3++(c4++(c5++(c6++[]))))),⟨c1,_,rfl,h1,c2,_,rfl,h2,c3,_,rfl,h3,c4,_,rfl,h4,c5,_,rfl,h5,c6,_,rfl,h6,rfl⟩,fun q v hq=>?_⟩
      rw[List.append_nil] at hq
      have hlt:q<(c1++(c2++(c3++(c4++(c5++c6))))).length:=by
        rcases Nat.lt_or_ge q (c1++(c2++(c3++(c4++(c5++c6))))).length with h | h
        · exact h
        · rw[List.getElem?_eq_none h] at hq;cases hq
      rw[Nat.zero_mul,Nat.zero_add,←hq,e,List.getElem?_append_left hlt]
    | succ j=>
      obtain ⟨c,hc,hv⟩:=hj j (by omega)
      rw[show i+1+j=i+(j+1) from by omega] at hc
      refine ⟨c,hc,fun q v hq=>?_⟩
      rw[e,List.getElem?_append_right (by rw[hl36];omega),hl36,show (j+1)*36+q-36=j*36+q from by omega]
      exact hv q v hq

theorem tab_conv2 {x:Ctx} (L:List (F2×F2×F2)) (h:L.length=16) (cs:List Value) (hc:denEn x (.fl (flatPt2 L 0 16)) cs):denEn x (.sq (.pt2 L)) cs:=by
  obtain ⟨hl,hj⟩:=cat_flat2 L 16 0 cs hc
  refine ⟨?_,fun i hi=>?_⟩
  · show L.length*36≤cs.length
    rw[h,hl]
    exact Nat.le_refl _
  · have hi:i<L.length:=hi
    rw[h] at hi
    obtain ⟨c,h1,h2⟩:=hj i hi
    rw[Nat.zero_add] at h1
    exact ⟨c,h1,h2⟩

def tab02 (x y:F2):List (F2×F2×F2):=(x,y,0)::List.replicate 15 pt20

theorem many2_fnd (a b c d e f:Fp) (k:U4):FnD Try.prog 27 [.v (.a [.ob (.p a),.ob (.p b),.ob (.p c),.ob (.p d),.ob (.p e),.ob (.p f)]),.v (.a [.ob (.fr k)])] (.v (.a (pt2Its (jmn (F:=F2) ((a,b),(c,d),(e,f)) (dgT k.val 64))))) []:=by
  generalize hpa:(((a,b),(c,d),(e,f)):F2×F2×F2)=pa
  refine fn_start_m (fn:=Try.f27) (c:=bodyOf Try.f27) Try.func27 rfl rfl fun x0 a0 hk hF hs=>?_
  refine ny a b c d e f k ⟨by decide,by decide,trivial⟩ hs fun ac cY aY hs1=>?_
  have hs2:=hs1.blocks (ens' := [some (.fl [.ob (.p a),.ob (.p b),.ob (.p c),.ob (.p d),.ob (.p e),.ob (.p f)]),some (.fl [.ob (.fr k)]),some (.fl [.ob (.p 0),.ob (.p 0),.ob (.p 0),.ob (.p 0),.ob (.p 0),.ob (.p 0)]),some (.sq (.pt2 (tab02 (a,b) (c,d))))])
    ⟨.inl rfl,.inl rfl,.inl rfl,.inr ⟨_,_,_,rfl,rfl,rfl,fun cs h=>tab_conv2 _ rfl cs h⟩,trivial⟩
  refine loop_rule (ι:={ p:Nat×List (F2×F2×F2) // 1≤p.1∧p.1≤16∧p.2.length=16∧∀j,j<p.1→p.2.getD j pt20=jtab pa j }) (fun p=>nyS a b c d e f k p.1.2 (p.1.1:Int)) (fun p=>16-p.1.1) (c:=lpC ny_k) (k:=lpR ny_k) (by kernel_rfl) (fun p ih ac cY aY hs=>?_)
    ⟨(1,tab02 (a,b) (c,d)),Nat.le_refl 1,by show (1:Nat)≤16;omega,rfl,fun j hj=>by
      have:j=0:=by have hj:j<1:=hj;omega
      subst this;rw[←hpa];rfl⟩ (hs2.nx _)
  obtain ⟨⟨i,L⟩,h1,h16,hL,htab⟩:=p
  simp only at ih hs h1 h16 hL htab
  by_cases hi:i<16
  · have e1:IntKind.wrap IntKind.i64 ((i:Int)-1)=((i-1:Nat):Int):=by rw[wrap_id (by omega) (by omega)];omega
    have e2:IntKind.wrap IntKind.i64 ((i:Int)+1)=((i+1:Nat):Int):=by rw[wrap_id (by omega) (by omega)];omega
    refine nyA a b c d e f k L i ⟨decide_eq_true (by omega),by rw[e1];omega,by rw[e1];omega,rfl,by rw[e1,Int.toNat_natCast,hL];omega,by omega,by omega,rfl,by rw[Int.toNat_natCast,hL];exact hi,trivial⟩ hs fun ac cZ aZ hs3=>?_
    rw[e1,e2,Int.toNat_natCast,Int.toNat_natCast,htab (i-1) (by omega),hpa] at hs3
    have e3:jpl (jtab pa (i-1)) pa=jtab pa i:=by
      obtain ⟨m,rfl⟩:∃m,i=m+1:=⟨i-1,by omega⟩
      rfl
    rw[e3] at hs3
    refine ih ⟨(i+1,L.set i (jtab pa i)),by show 1≤i+1;omega,hi,by show (L.set i _).length=16;rw[List.length_set];exact hL,fun j hj=>?_⟩ (by show 16-(i+1)<16-i;omega) ac cZ aZ (hs3.nx _)
    have hj:j<i+1:=hj
    show (L.set i (jtab pa i)).getD j pt20=_
    by_cases e:j=i
    · subst e
      simp [List.getD,hL,hi]
    · have:(L.set i (jtab pa i)).getD j pt20=L.getD j pt20:=by
        simp [List.getD,List.getElem?_set_ne (Ne.symm e)]
      rw[this]
      exact htab j (by omega)
  · have:i=16:=by omega
    subst this
    refine nyB a b c d e f k L _ ⟨by decide,by decide,by decide,rfl,by rw[hL];decide,trivial⟩ hs fun ac cZ aZ hs3=>?_
    rw[htab 0 (by decide)] at hs3
    obtain ⟨e1,e2⟩:=isRf_eq (k:=nyB_k) (by kernel_rfl)
    rw[e1]
    have eP:(rfP nyB_k).toList=[31]:=by kernel_rfl
    have eG:rfG nyB_k = .tmp 30:=by kernel_rfl
    refine range_rule (ps:=rfP nyB_k) e2 hs3 (gf:=73) (caps:=[(320,0)]) (enters_of Try.func73 rfl rfl) (fun pre=>nyR k L (pre.foldl (jst pa) (jtab pa 0))) (fun s=>by rw[eG];rfl) ⟨_,rfl⟩ (dgT k.val 64) dgVals dgEnc
      (fun y z=>.cons ⟨rfl,0,rfl⟩ .nil) (fun z=>by rw[←Array.length_toList,eP];rfl) (fun pre p hp=>?_) (digits_iter fun s=>rfl) (fun pre d=>nrB k L (pre.foldl (jst pa) (jtab pa 0)) d)
      (fun pre d=>nrF k L ((pre++[d]).foldl (jst pa) (jtab pa 0))) (fun pre d=>⟨_,rfl⟩) (fun pre d hd w1 F1 K1 as1 Q1 l y1 b hs4 hQ=>?_) (fun pre d hd w1 F1 K1 as1 Q1 l y1 b hs4 hQ=>?_) fun D y1 hs4 hD hFD hd=>?_
    · rw[eP] at hp
      have h43:(nyR k L (pre.foldl (jst pa) (jtab pa 0))).nt=43:=rfl
      rw[h43]
      simp only[List.mem_cons,List.not_mem_nil,or_false] at hp
      subst hp
      decide
    · rw[eP] at hs4
      exact nrA k L _ d trivial hs4 fun cZ aZ hs5=>⟨hQ _ _ (hs5.nx _)⟩
    · have hd16:d<16:=by
        obtain ⟨r,hr⟩:=hd
        exact dgT_lt (n:=k.val) 64 d (by rw[hr];simp)
      rw[List.foldl_append] at hQ
      generalize pre.foldl (jst pa) (jtab pa 0)=o at hs4 hQ
      have hst:List.foldl (jst pa) o [d]=jpl (jtws 4 o) (L.getD d pt20):=by
        rw[htab d hd16,List.foldl_cons,List.foldl_nil]
        exact jst_tws pa o d
      rw[hst] at hQ
      refine nrC k L o d trivial hs4 fun cV aV hs5=>?_
      let I:{ j:Nat // j≤4 } → List Act→Act→World→Prop:=fun j ac a w=>ac=as1∧∃z,z.w=w∧Sim w1 F1 K1 as1 (nrS k L (jtws j.1 o) d (j.1:Int)) z a
      refine loop_inv (ρ:=some l) I (fun j=>4-j.1) (c:=lpC nrC_k) (k:=lpR nrC_k) (by kernel_rfl) (fun j ih ac aV w hI=>?_) ⟨0,Nat.zero_le _⟩ ⟨rfl,cV,rfl,hs5.nx _⟩
      obtain ⟨j,hj⟩:=j
      obtain ⟨rfl,cV,rfl,hs6⟩:=hI
      simp only at ih hs6
      by_cases hj4:j<4
      · have ej:jtw (jtws j o)=jtws (j+1) o:=(jtws_succ j o).symm
        generalize jtws j o=o1 at hs6 ej
        refine nrD k L _ d j ⟨decide_eq_true (by omega),trivial⟩ hs6 fun cU aU hs7=>?_
        rw[wrap_id (n:=(j:Int)+1) (by omega) (by omega),ej] at hs7
        exact ih ⟨j+1,hj4⟩ (by show 4-(j+1)<4-j;omega) _ aU _ ⟨rfl,cU,rfl,hs7.nx _⟩
      · have:j=4:=by omega
        subst this
        refine nrE k L _ d _ ⟨by decide,by omega,by omega,rfl,by rw[Int.toNat_natCast,hL];exact hd16,trivial⟩ hs6 fun cU aU hs7=>?_
        rw[Int.toNat_natCast] at hs7
        generalize jpl (jtws 4 o) (L.getD d pt20)=q at hQ hs7
        exact ⟨hQ _ _ (hs7.nx _)⟩
    · have hs5:=hs4.marked rfl rfl D
      show Wq _ _ _ _ _ _ _ _
      have ej:(dgT k.val 64).foldl (jst pa) (jtab pa 0)=jmn pa (dgT k.val 64):=rfl
      rw[ej] at hs4 hs5
      generalize jmn pa (dgT k.val 64)=o at hs4 hs5 ⊢
      refine nrX k L o trivial hs5 fun ac cV aV hs6=>⟨?_⟩
      have hs7:Sim y1.w y1.F (kOwn y1 kAll (markOf D)) ac (nrZ o) cV aV:=hs6
      exact fn_finish rtM_ok hk hF (nrR_end o) trivial (fun y v hd=>hd) hs4 hD hFD hd rfl hs7

end Go.Proofs.Ytdeohachoeopdaa

/- two.Mul, and TwoTimes' law, walked. No conditions. -/
namespace Go.Proofs.Ytdeohachoeopdaa

/-- A point outside as often as a number says. -/
def mulG2 (a:G2D) (k:U4):G2D:=outG2 (jmn (inG2 a) (dgT k.val 64))
def many2Spec1:FnSpec
  | [.v (.a [.ob (.p a),.ob (.p b),.ob (.p c),.ob (.p d),.ob (.p e),.ob (.p f)]),.v (.a [.ob (.fr k)])]=>some ([],.v (.a (pt2Its (jmn (F:=F2) ((a,b),(c,d),(e,f)) (dgT k.val 64)))),[])
  | _=>none
noncomputable def ruA:Env:=rtM.set (addT rtM.fn 27 many2Spec1)
theorem ruA_ok:EnvOk Try.prog ruA:=env_add rtM_ok 27 many2Spec1 (enters_of Try.func27 rfl rfl) fun args o r es h _=>by
  unfold many2Spec1 at h
  split at h
  · cases h;exact many2_fnd _ _ _ _ _ _ _
  · cases h
--@env ruA ruA_ok
theorem mu2A (a b c d:U6) (i:Bool) (k:U4):fnRes ruA Try.f9 3000 [.v (.a [.ob (.fp a),.ob (.fp b),.ob (.fp c),.ob (.fp d),.bool i]),.v (.a [.ob (.fr k)])] [true] [] []=(some ([((Bool.not (onG2 (G2D.mk a b c d i)))=true)],((.t [(.a [(.ob (.fp (0:U6))),(.ob (.fp (0:U6))),(.ob (.fp (0:U6))),(.ob (.fp (0:U6))),(.lit false)]),(.c (.int .i64 (30:Int)))]),[]))):=by kernel_rfl
theorem mu2B (a b c d:U6) (i:Bool) (k:U4):fnRes ruA Try.f9 3000 [.v (.a [.ob (.fp a),.ob (.fp b),.ob (.fp c),.ob (.fp d),.bool i]),.v (.a [.ob (.fr k)])] [false] [] []=(some ([((Bool.not (onG2 (G2D.mk a b c d i)))=false)],((.t [(.a [(.ob (.fp (G2D.xa (outG2 (jmn (inG2 (G2D.mk a b c d i)) (dgT (Fin.val k) 64)))))),(.ob (.fp (G2D.xb (outG2 (jmn (inG2 (G2D.mk a b c d i)) (dgT (Fin.val k) 64)))))),(.ob (.fp (G2D.ya (outG2 (jmn (inG2 (G2D.mk a b c d i)) (dgT (Fin.val k) 64)))))),(.ob (.fp (G2D.yb (outG2 (jmn (inG2 (G2D.mk a b c d i)) (dgT (Fin.val k) 64)))))),(.bool (G2D.inf (outG2 (jmn (inG2 (G2D.mk a b c d i)) (dgT (Fin.val k) 64)))))]),(.c (.int .i64 (0:Int)))]),[]))):=by kernel_rfl
/-- What Mul tells. -/
def muR2 (a:G2D) (k:U4):G2D×Int:=if onG2 a then (mulG2 a k,0) else (g20,30)
theorem muR2_on {a:G2D} (k:U4) (ha:onG2 a=true):muR2 a k=(mulG2 a k,0):=by unfold muR2;rw[ha];rfl
theorem muR2_off {a:G2D} (k:U4) (ha:onG2 a=false):muR2 a k=(g20,30):=by unfold muR2;rw[ha];rfl
theorem mul2_fnd (a b c d:U6) (i:Bool) (k:U4):FnD Try.prog 9 [.v (.a [.ob (.fp a),.ob (.fp b),.ob (.fp c),.ob (.fp d),.bool i]),.v (.a [.ob (.fr k)])] (.t [.a (muR2 ⟨a,b,c,d,i⟩ k).1.its,.c (.int .i64 (muR2 ⟨a,b,c,d,i⟩ k).2)]) []:=by
  by_cases h1:onG2 ⟨a,b,c,d,i⟩=true
  · rw[muR2_on k h1]
    exact fn_sound ruA_ok Try.func9 (mu2B a b c d i k) ⟨by rw[h1];rfl,trivial⟩
  · have h1:onG2 ⟨a,b,c,d,i⟩=false:=Bool.eq_false_iff.2 h1
    rw[muR2_off k h1]
    exact (fn_sound ruA_ok Try.func9 (mu2A a b c d i k) ⟨by rw[h1];rfl,trivial⟩).conv (fun _ _ h=>h) fun y v hd=>lit_fifth_t hd
def mulSpec3:FnSpec
  | [.v (.a [.ob (.fp a),.ob (.fp b),.ob (.fp c),.ob (.fp d),.bool i]),.v (.a [.ob (.fr k)])]=>some ([],.t [.a (muR2 ⟨a,b,c,d,i⟩ k).1.its,.c (.int .i64 (muR2 ⟨a,b,c,d,i⟩ k).2)],[])
  | _=>none
noncomputable def ruC:Env:=ruA.set (addT ruA.fn 9 mulSpec3)
theorem ruC_ok:EnvOk Try.prog ruC:=env_add ruA_ok 9 mulSpec3 (enters_of Try.func9 rfl rfl) fun args o r es h _=>by
  unfold mulSpec3 at h
  split at h
  · cases h;exact mul2_fnd _ _ _ _ _ _
  · cases h
--@env ruC ruC_ok
end Go.Proofs.Ytdeohachoeopdaa

/- kzg.Make, walked. No conditions. -/
namespace Go.Proofs.Ytdeohachoeopdaa

noncomputable def kmA:Env:=peE.or ruC
theorem kmA_ok:EnvOk Try.prog kmA:=env_or peE_ok ruC_ok
noncomputable def powersSpec:FnSpec
  | [.v (.a [.ob (.fp x),.ob (.fp y),.bool j]),.v (.a [.ob (.fr k)]),.v (.c (.int .i64 n))]=>some ([],.t [.c (.sl (.g1 (pwR ⟨x,y,j⟩ k n).1)),.c (.int .i64 (pwR ⟨x,y,j⟩ k n).2)],[])
  | _=>none
noncomputable def kmB:Env:=kmA.set (addT kmA.fn 7 powersSpec)
theorem kmB_ok:EnvOk Try.prog kmB:=env_add kmA_ok 7 powersSpec (enters_of Try.func7 rfl rfl) fun args o r es h _=>by
  unfold powersSpec at h
  split at h
  · cases h;exact powers_fnd ⟨_,_,_⟩ _ _
  · cases h
--@env kmB kmB_ok
theorem mkA (k:U4) (n:Int):fnRes kmB Try.f5 3000 [.v (.a [.ob (.fr k)]),.v (.c (.int .i64 n))] [true] [] []=(some ([((decide (n<(1:Int)))=true)],((.t [(.a [(.sl (Sq.g1 ([]:List G1D))),(.ob (.fp (0:U6))),(.ob (.fp (0:U6))),(.ob (.fp (0:U6))),(.ob (.fp (0:U6))),(.lit false)]),(.c (.int .i64 (1:Int)))]),[]))):=by kernel_rfl
theorem mkB (k:U4) (n:Int):fnRes kmB Try.f5 3000 [.v (.a [.ob (.fr k)]),.v (.c (.int .i64 n))] [false,true] [] []=(some ([((decide (n<(1:Int)))=false),((decide (n > (4096:Int)))=true)],((.t [(.a [(.sl (Sq.g1 ([]:List G1D))),(.ob (.fp (0:U6))),(.ob (.fp (0:U6))),(.ob (.fp (0:U6))),(.ob (.fp (0:U6))),(.lit false)]),(.c (.int .i64 (1:Int)))]),[]))):=by kernel_rfl
theorem mkC (k:U4) (n:Int):fnRes kmB Try.f5 3000 [.v (.a [.ob (.fr k)]),.v (.c (.int .i64 n))] [false,false,false,false] [] []=(some ([((decide (n<(1:Int)))=false),((decide (n > (4096:Int)))=false),(((Prod.snd (pwR genG k n)) != (0:Int))=false),(((Prod.snd (muR2 genG2 (S4.outF (S4.inF k)))) != (0:Int))=false)],((.t [(.a [(.sl (Sq.g1 (Prod.fst (pwR genG k n)))),(.ob (.fp (G2D.xa (Prod.fst (muR2 genG2 (S4.outF (S4.inF k))))))),(.ob (.fp (G2D.xb (Prod.fst (muR2 genG2 (S4.outF (S4.inF k))))))),(.ob (.fp (G2D.ya (Prod.fst (muR2 genG2 (S4.outF (S4.inF k))))))),(.ob (.fp (G2D.yb (Prod.fst (muR2 genG2 (S4.outF (S4.inF k))))))),(.bool (G2D.inf (Prod.fst (muR2 genG2 (S4.outF (S4.inF k))))))]),(.c (.int .i64 (0:Int)))]),[]))):=by kernel_rfl
end Go.Proofs.Ytdeohachoeopdaa

/- kzg.Make: contract. No conditions. -/
namespace Go.Proofs.Ytdeohachoeopdaa

theorem onGen:onG genG=true:=by decide +kernel
theorem onGen2:onG2 genG2=true:=by decide +kernel
/-- The parts of a key. -/
def keyIts (l:List G1D) (s:G2D):List It:=[.sl (.g1 l),.ob (.fp s.xa),.ob (.fp s.xb),.ob (.fp s.ya),.ob (.fp s.yb),.bool s.inf]
theorem lit_key {x:Ctx} {i1 i2 i3 i4 i5 k:It} {b:Bool} {v:Value} (h:denS x (.t [.a [i1,i2,i3,i4,i5,.lit b],.c k]) v):denS x (.t [.a [i1,i2,i3,i4,i5,.bool b],.c k]) v:=by
  obtain ⟨vs,e,hc⟩:=h
  cases hc with
  | cons h1 h2=>
    refine ⟨_,e,.cons ?_ h2⟩
    obtain ⟨cs,e0,c1,r1,e1,h1,c2,r2,e2,h2,c3,r3,e3,h3,c4,r4,e4,h4,c5,r5,e5,h5,c6,r6,e6,⟨d,h6⟩,h7⟩:=h1
    exact ⟨cs,e0,c1,r1,e1,h1,c2,r2,e2,h2,c3,r3,e3,h3,c4,r4,e4,h4,c5,r5,e5,h5,c6,r6,e6,⟨d,by cases d<;>exact h6⟩,h7⟩

/-- What Make tells. -/
theorem kzL_ex (k:U4) (n:Int):∃L,L=if n<1∨n > 4096 then [] else (pwR genG k n).1:=⟨_,rfl⟩
noncomputable def kzL (k:U4) (n:Int):List G1D:=Classical.choose (kzL_ex k n)
theorem kzL_is (k:U4) (n:Int):kzL k n=if n<1∨n > 4096 then [] else (pwR genG k n).1:=Classical.choose_spec (kzL_ex k n)
theorem kzS_ex (k:U4) (n:Int):∃s,s=if n<1∨n > 4096 then g20 else (muR2 genG2 (S4.outF (S4.inF k))).1:=⟨_,rfl⟩
noncomputable def kzS (k:U4) (n:Int):G2D:=Classical.choose (kzS_ex k n)
theorem kzS_is (k:U4) (n:Int):kzS k n=if n<1∨n > 4096 then g20 else (muR2 genG2 (S4.outF (S4.inF k))).1:=Classical.choose_spec (kzS_ex k n)
/-- What Powers tells, by name alone. -/
theorem pwZ_ex (a:G1D) (k:U4) (n:Int):∃r,r=pwR a k n:=⟨_,rfl⟩
noncomputable def pwZ (a:G1D) (k:U4) (n:Int):List G1D×Int:=Classical.choose (pwZ_ex a k n)
theorem pwZ_is (a:G1D) (k:U4) (n:Int):pwZ a k n=pwR a k n:=Classical.choose_spec (pwZ_ex a k n)
theorem powersZ_fnd (a:G1D) (k:U4) (n:Int):FnD Try.prog 7 [.v (.a a.its),.v (.a [.ob (.fr k)]),.v (.c (.int .i64 n))] (.t [.c (.sl (.g1 (pwZ a k n).1)),.c (.int .i64 (pwZ a k n).2)]) []:=by
  rw[pwZ_is]
  exact powers_fnd a k n
def kzE (n:Int):Int:=if n<1∨n > 4096 then 1 else 0
theorem make_fnd (k:U4) (n:Int):FnD Try.prog 5 [.v (.a [.ob (.fr k)]),.v (.c (.int .i64 n))] (.t [.a (keyIts (kzL k n) (kzS k n)),.c (.int .i64 (kzE n))]) []:=by
  by_cases h:n<1∨n > 4096
  · have e1:kzL k n=[]:=(kzL_is k n).trans (if_pos h)
    have e2:kzS k n=g20:=(kzS_is k n).trans (if_pos h)
    have e3:kzE n=1:=if_pos h
    rw[e1,e2,e3]
    by_cases h1:n<1
    · exact (fn_sound kmB_ok Try.func5 (mkA k n) ⟨decide_eq_true h1,trivial⟩).conv (fun _ _ h=>h) fun y v hd=>lit_key hd
    · exact (fn_sound kmB_ok Try.func5 (mkB k n) ⟨decide_eq_false h1,decide_eq_true (by omega),trivial⟩).conv (fun _ _ h=>h) fun y v hd=>lit_key hd
  · have e1:kzL k n=(pwR genG k n).1:=(kzL_is k n).trans (if_neg h)
    have e2:kzS k n=(muR2 genG2 (S4.outF (S4.inF k))).1:=(kzS_is k n).trans (if_neg h)
    have e3:kzE n=0:=if_neg h
    have f1:(pwR genG k n).2=0:=by rw[pwR_on (by omega) onGen]
    have f2:(muR2 genG2 (S4.outF (S4.inF k))).2=0:=by rw[muR2_on _ onGen2]
    rw[e1,e2,e3]
    exact fn_sound kmB_ok Try.func5 (mkC k n) ⟨decide_eq_false (by omega),decide_eq_false (by omega),by rw[f1];rfl,by rw[f2];rfl,trivial⟩

end Go.Proofs.Ytdeohachoeopdaa

/- kzg.Commit, walked. No conditions. -/
namespace Go.Proofs.Ytdeohachoeopdaa

noncomputable def trimSpec:FnSpec
  | [.v (.c (.sl (.fr a)))]=>some ([a.length≤8796093022208],.v (.c (.slc 0 0 (S4.trimF (a.map S4.inF)).length 4)),[.sq (.fr ((S4.trimF (a.map S4.inF)).map S4.outF))])
  | _=>none
noncomputable def laA:Env:=kmA.set (addT kmA.fn 34 trimSpec)
theorem laA_ok:EnvOk Try.prog laA:=env_add kmA_ok 34 trimSpec (enters_of Try.func34 rfl rfl) fun args o r es h ho=>by
  unfold trimSpec at h
  split at h
  · cases h;exact S4.trim_fnd _ ho.1
  · cases h
noncomputable def sum1Spec:FnSpec
  | [.v (.c (.sl (.g1 l))),.v (.c (.sl (.fr k)))]=>some ([],.t [.a (sum1 l k).1.its,.c (.int .i64 (sum1 l k).2)],[])
  | _=>none
noncomputable def laB:Env:=laA.set (addT laA.fn 35 sum1Spec)
theorem laB_ok:EnvOk Try.prog laB:=env_add laA_ok 35 sum1Spec (enters_of Try.func35 rfl rfl) fun args o r es h _=>by
  unfold sum1Spec at h
  split at h
  · cases h;exact sum1_fnd _ _
  · cases h
--@env laB laB_ok
theorem cmR (l:List G1D) (s:G2D) (a:List U4):fnRes laB Try.f14 3000 [.v (.a (keyIts l s)),.v (.c (.sl (.fr a)))] [false,false] [] []=(some ([((decide ((((List.length a):Nat):Int) > (262144:Int)))=false),((List.length a)≤8796093022208),((decide ((((List.length (S4.trimF (List.map S4.inF a))):Nat):Int) > (((List.length l):Nat):Int)))=false),((0:Int)≤(((List.length (S4.trimF (List.map S4.inF a))):Nat):Int)),((((List.length (S4.trimF (List.map S4.inF a))):Nat):Int)≤(((List.length l):Nat):Int)),(0=0),((List.length (S4.trimF (List.map S4.inF a)))=(List.length (List.map S4.outF (S4.trimF (List.map S4.inF a))))),(4=4)],((.t [(.a [(.ob (.fp (G1D.x (Prod.fst (sum1 (List.take ((((List.length (S4.trimF (List.map S4.inF a))):Nat):Int)).toNat (List.drop 0 l)) (List.map S4.outF (S4.trimF (List.map S4.inF a)))))))),(.ob (.fp (G1D.y (Prod.fst (sum1 (List.take ((((List.length (S4.trimF (List.map S4.inF a))):Nat):Int)).toNat (List.drop 0 l)) (List.map S4.outF (S4.trimF (List.map S4.inF a)))))))),(.bool (G1D.inf (Prod.fst (sum1 (List.take ((((List.length (S4.trimF (List.map S4.inF a))):Nat):Int)).toNat (List.drop 0 l)) (List.map S4.outF (S4.trimF (List.map S4.inF a)))))))]),(.c (.int .i64 (Prod.snd (sum1 (List.take ((((List.length (S4.trimF (List.map S4.inF a))):Nat):Int)).toNat (List.drop 0 l)) (List.map S4.outF (S4.trimF (List.map S4.inF a)))))))]),[]))):=by kernel_rfl
noncomputable def joinSpec:FnSpec
  | [.v (.c (.sl (.fr a))),.v (.c (.sl (.fr b))),.v (.c (.clo 31 []))]=>some ([a.length≤262144,b.length≤262144],.t [.c (.slc 0 0 (S4.trimF (S4.addL (a.map S4.inF) (b.map S4.inF))).length 4),.c (.int .i64 0)],[.sq (.fr ((S4.trimF (S4.addL (a.map S4.inF) (b.map S4.inF))).map S4.outF))])
  | _=>none
noncomputable def hK:Env:=S4.hC.set (addT S4.hC.fn 30 joinSpec)
theorem hK_ok:EnvOk Try.prog hK:=env_add S4.hC_ok 30 joinSpec (enters_of Try.func30 rfl rfl) fun args o r es h ho=>by
  unfold joinSpec at h
  split at h
  · cases h;exact S4.joinAdd_fnd _ _ ho.1 ho.2.1
  · cases h
--@env hK hK_ok
theorem ad12 (a b:List U4):fnRes hK Try.f12 3000 [.v (.c (.sl (.fr a))),.v (.c (.sl (.fr b)))] [] [80] []=(some ([((List.length a)≤262144),((List.length b)≤262144)],((.t [(.c (.slc 0 0 (List.length (S4.trimF (S4.addL (List.map S4.inF a) (List.map S4.inF b)))) 4)),(.c (.int .i64 (0:Int)))]),[(.sq (.fr (List.map S4.outF (S4.trimF (S4.addL (List.map S4.inF a) (List.map S4.inF b))))))]))):=by kernel_rfl
end Go.Proofs.Ytdeohachoeopdaa

/- KzgMakes' law, walked. No conditions. -/
namespace Go.Proofs.Ytdeohachoeopdaa
section
variable {w0:World} {F0:Nat→Prop} {K:Kp} {ac:List Act} {Q:Exit→Act→World→Prop} {cX:Ctx} {aX:Act}

noncomputable def powersZSpec:FnSpec
  | [.v (.a [.ob (.fp x),.ob (.fp y),.bool j]),.v (.a [.ob (.fr k)]),.v (.c (.int .i64 n))]=>some ([],.t [.c (.sl (.g1 (pwZ ⟨x,y,j⟩ k n).1)),.c (.int .i64 (pwZ ⟨x,y,j⟩ k n).2)],[])
  | _=>none
noncomputable def knA:Env:=kmA.set (addT kmA.fn 7 powersZSpec)
theorem knA_ok:EnvOk Try.prog knA:=env_add kmA_ok 7 powersZSpec (enters_of Try.func7 rfl rfl) fun args o r es h _=>by
  unfold powersZSpec at h
  split at h
  · cases h;exact powersZ_fnd ⟨_,_,_⟩ _ _
  · cases h
noncomputable def makeSpec:FnSpec
  | [.v (.a [.ob (.fr k)]),.v (.c (.int .i64 n))]=>some ([],.t [.a (keyIts (kzL k n) (kzS k n)),.c (.int .i64 (kzE n))],[])
  | _=>none
noncomputable def knB:Env:=knA.set (addT knA.fn 5 makeSpec)
theorem knB_ok:EnvOk Try.prog knB:=env_add knA_ok 5 makeSpec (enters_of Try.func5 rfl rfl) fun args o r es h _=>by
  unfold makeSpec at h
  split at h
  · cases h;exact make_fnd _ _
  · cases h
--@env knB knB_ok
theorem al17  : fnRes knB Try.f6 3000 [] [true,true] [] []=(some ([((0:Int)≤(5:Int)),((5:Int)<(18446744073709551616:Int)),((0:Int)≤(0:Int)),((0:Int)<(18446744073709551616:Int)),((0:Int)≤(0:Int)),((0:Int)<(18446744073709551616:Int)),((0:Int)≤(0:Int)),((0:Int)<(18446744073709551616:Int)),(((0:Int) == (0:Int))=true),(((((List.length (kzL (Fin.ofNat B4 5) (1:Int))):Nat):Int) == (1:Int))=true),((0:Int)≤(0:Int)),((0:Int)<(((List.length (kzL (Fin.ofNat B4 5) (1:Int))):Nat):Int))],((.v (.c (.bool (ite (true=true) (Bool.and (decide ((G1D.x (List.getD (kzL (Fin.ofNat B4 5) (1:Int)) 0 g10))=(G1D.x genG))) (Bool.and (decide ((G1D.y (List.getD (kzL (Fin.ofNat B4 5) (1:Int)) 0 g10))=(G1D.y genG))) ((G1D.inf (List.getD (kzL (Fin.ofNat B4 5) (1:Int)) 0 g10)) == (G1D.inf genG)))) (Bool.not (Bool.and (decide ((G1D.x (List.getD (kzL (Fin.ofNat B4 5) (1:Int)) 0 g10))=(G1D.x genG))) (Bool.and (decide ((G1D.y (List.getD (kzL (Fin.ofNat B4 5) (1:Int)) 0 g10))=(G1D.y genG))) ((G1D.inf (List.getD (kzL (Fin.ofNat B4 5) (1:Int)) 0 g10)) == (G1D.inf genG))))))))),[]))):=by kernel_rfl
theorem u4_lim (k:U4):k.val<2 ^ 256:=by
  have h:B4=2 ^ 256:=by decide +kernel
  rw[←h]
  exact k.isLt
theorem pwE_of (a:Fp×Fp×Fp) (q:U4) {n:Nat} (hn:n=64):pwE (tb64 a) q=outG (pkT pt0 a q.val n):=by
  unfold pwE
  rw[tb64_is,pkL_is a q.val 64 64 (Nat.le_refl _),hn]
theorem pwE_is {a:G1D} (ha:onG a=true) (q:U4):pwE (tb64 (inG a)) q=gP (nmul (pG a) q.val):=by
  obtain ⟨n,hn⟩:∃n:Nat,n=64:=⟨_,rfl⟩
  rw[pwE_of (inG a) q hn]
  exact outG_jc (pkT_all cv1 (z:=pt0) rfl (onG_is ha).2 (inG_jc a) hn (u4_lim q))
theorem kzL_in (k:U4) {n:Int} (h:¬(n<1∨n > 4096)):kzL k n=pwL (tb64 (inG genG)) k n.toNat:=by
  rw[kzL_is,if_neg h,pwR_on (by omega) onGen]
theorem one_val:(S4.outF (1:Fr)).val=1:=by rw[S4.outF_val];decide
theorem first_gen (k:U4) {n:Nat} (h:0<n):(pwL (tb64 (inG genG)) k n).getD 0 g10=genG:=by
  rw[pwL_get _ _ h]
  show pwE (tb64 (inG genG)) (S4.outF 1)=genG
  rw[pwE_is onGen,one_val,nmul_one]
  exact (onG_is onGen).1
theorem eq_bits0 {a b:G1D} (h:a=b):(decide (a.x=b.x) && (decide (a.y=b.y) && (a.inf == b.inf)))=true:=by
  subst h
  simp
theorem alive17_fnd:FnD Try.prog 6 [] (.v (.c (.bool true))) []:=by
  have hL:=kzL_in (Fin.ofNat B4 5) (n:=1) (by decide)
  have hlen:=pwL_len (tb64 (inG genG)) (Fin.ofNat B4 5) (1:Int).toNat
  have h0:=first_gen (Fin.ofNat B4 5) (n:=(1:Int).toNat) (by decide)
  rw[←hL] at hlen h0
  have r:=al17
  generalize kzL (Fin.ofNat B4 5) 1=L at hlen h0 r
  rw[if_pos rfl,eq_bits0 h0] at r
  have hlen:L.length=1:=hlen
  exact fn_sound knB_ok Try.func6 r ⟨by decide,by decide,by decide,by decide,by decide,by decide,by decide,by decide,rfl,by rw[hlen];rfl,by decide,by rw[hlen];decide,trivial⟩
noncomputable def alive17Spec:FnSpec
  | []=>some ([],.v (.c (.bool true)),[])
  | _=>none
noncomputable def knC:Env:=knB.set (addT knB.fn 6 alive17Spec)
theorem knC_ok:EnvOk Try.prog knC:=env_add knB_ok 6 alive17Spec (enters_of Try.func6 rfl rfl) fun args o r es h _=>by
  unfold alive17Spec at h
  split at h
  · cases h;exact alive17_fnd
  · cases h
--@env knC knC_ok
end
end Go.Proofs.Ytdeohachoeopdaa

/- kzg.Commit, and sums and multiples of polynomials: contracts. No conditions. -/
namespace Go.Proofs.Ytdeohachoeopdaa

/-- A polynomial, trimmed; a sum, a multiple. -/
def pTr (a:List U4):List U4:=(S4.trimF (a.map S4.inF)).map S4.outF
def pAd (a b:List U4):List U4:=(S4.trimF (S4.addL (a.map S4.inF) (b.map S4.inF))).map S4.outF
def pSc (a:List U4) (k:U4):List U4:=(S4.trimF (S4.scaleL (a.map S4.inF) (S4.inF k))).map S4.outF
/-- What Commit tells of a polynomial that fits. -/
def cmt (l:List G1D) (a:List U4):G1D×Int:=sum1 (l.take (pTr a).length) (pTr a)
theorem commit_fnd (l:List G1D) (s:G2D) (a:List U4) (h1:a.length≤262144) (h2:(pTr a).length≤l.length) :
    FnD Try.prog 14 [.v (.a (keyIts l s)),.v (.c (.sl (.fr a)))] (.t [.a (cmt l a).1.its,.c (.int .i64 (cmt l a).2)]) []:=by
  have r:=cmR l s a
  have e:(S4.trimF (a.map S4.inF)).length=(pTr a).length:=(List.length_map ..).symm
  rw[Int.toNat_natCast,List.drop_zero,e] at r
  exact fn_sound laB_ok Try.func14 r ⟨decide_eq_false (by omega),by omega,decide_eq_false (by omega),by omega,by omega,rfl,rfl,rfl,trivial⟩
theorem padd_fnd (a b:List U4) (h1:a.length≤262144) (h2:b.length≤262144):FnD Try.prog 12 [.v (.c (.sl (.fr a))),.v (.c (.sl (.fr b)))] (.t [.c (.slc 0 0 (pAd a b).length 4),.c (.int .i64 0)]) [.sq (.fr (pAd a b))]:=by
  have e:(pAd a b).length=(S4.trimF (S4.addL (a.map S4.inF) (b.map S4.inF))).length:=List.length_map ..
  rw[e]
  exact fn_sound hK_ok Try.func12 (ad12 a b) ⟨h1,h2,trivial⟩
theorem pscale_fnd (a:List U4) (k:U4) (h1:a.length≤262144):FnD Try.prog 13 [.v (.c (.sl (.fr a))),.v (.a [.ob (.fr k)])] (.t [.c (.slc 0 0 (pSc a k).length 4),.c (.int .i64 0)]) [.sq (.fr (pSc a k))]:=by
  have e:(pSc a k).length=(S4.trimF (S4.scaleL (a.map S4.inF) (S4.inF k))).length:=List.length_map ..
  rw[e]
  exact S4.scale_fnd a k h1

end Go.Proofs.Ytdeohachoeopdaa

/- KzgAdds' law, walked. No conditions. -/
namespace Go.Proofs.Ytdeohachoeopdaa
section
variable {w0:World} {F0:Nat→Prop} {K:Kp} {ac:List Act} {Q:Exit→Act→World→Prop} {cX:Ctx} {aX:Act}

noncomputable def lbA:Env:=knC.or uaB
theorem lbA_ok:EnvOk Try.prog lbA:=env_or knC_ok uaB_ok
noncomputable def addSpec12:FnSpec
  | [.v (.c (.sl (.fr a))),.v (.c (.sl (.fr b)))]=>some ([a.length≤262144,b.length≤262144],.t [.c (.slc 0 0 (pAd a b).length 4),.c (.int .i64 0)],[.sq (.fr (pAd a b))])
  | _=>none
noncomputable def lbB:Env:=lbA.set (addT lbA.fn 12 addSpec12)
theorem lbB_ok:EnvOk Try.prog lbB:=env_add lbA_ok 12 addSpec12 (enters_of Try.func12 rfl rfl) fun args o r es h ho=>by
  unfold addSpec12 at h
  split at h
  · cases h;exact padd_fnd _ _ ho.1 ho.2.1
  · cases h
noncomputable def scaleSpec13:FnSpec
  | [.v (.c (.sl (.fr a))),.v (.a [.ob (.fr k)])]=>some ([a.length≤262144],.t [.c (.slc 0 0 (pSc a k).length 4),.c (.int .i64 0)],[.sq (.fr (pSc a k))])
  | _=>none
noncomputable def lbC:Env:=lbB.set (addT lbB.fn 13 scaleSpec13)
theorem lbC_ok:EnvOk Try.prog lbC:=env_add lbB_ok 13 scaleSpec13 (enters_of Try.func13 rfl rfl) fun args o r es h ho=>by
  unfold scaleSpec13 at h
  split at h
  · cases h;exact pscale_fnd _ _ ho.1
  · cases h
noncomputable def commitSpec:FnSpec
  | [.v (.a [.sl (.g1 l),.ob (.fp x1),.ob (.fp x2),.ob (.fp y1),.ob (.fp y2),.bool j]),.v (.c (.sl (.fr a)))]=>some ([a.length≤262144,(pTr a).length≤l.length],.t [.a (cmt l a).1.its,.c (.int .i64 (cmt l a).2)],[])
  | _=>none
noncomputable def lbD:Env:=lbC.set (addT lbC.fn 14 commitSpec)
theorem lbD_ok:EnvOk Try.prog lbD:=env_add lbC_ok 14 commitSpec (enters_of Try.func14 rfl rfl) fun args o r es h ho=>by
  unfold commitSpec at h
  split at h
  · cases h;exact commit_fnd _ ⟨_,_,_,_,_⟩ _ ho.1 ho.2.1
  · cases h
/-- Rows of errors, too. -/
noncomputable def errT (T:Nat→Option TyI) (t:Nat):Option TyI:=if t=34 then tyGet [(34,⟨1,false,8,[.int .i64 0],[],none,none,(some .i64),(some (.int [])),[true]⟩)] 34 else T t
noncomputable def lbE:Env:={ lbD with ty:=errT lbD.ty }
theorem errOk:([(34,(⟨1,false,8,[.int .i64 0],[],none,none,(some .i64),(some (.int [])),[true]⟩:TyI))].all fun r=>tyCheck Try.prog r.1 r.2)=true:=by kernel_rfl
theorem lbE_ok:EnvOk Try.prog lbE:=by
  refine ⟨fun t i h=>?_,lbD_ok.mixed,lbD_ok.fn,lbD_ok.mu,lbD_ok.inl,lbD_ok.ex,lbD_ok.inv⟩
  have h:errT lbD.ty t=some i:=h
  unfold errT at h
  split at h
  · rename_i hf;subst hf;exact tyGet_ok _ errOk _ i h
  · exact lbD_ok.ty t i h
--@env lbE lbE_ok
noncomputable def la_k:List KI:=(run lbE false 8 ((fun (k q:U4) (a b:List U4)=>(⟨[.code (bodyOf Try.f4)],.normal,initSt Try.f4.ntmps [.v (.a [.ob (.fr k)]),.v (.c (.sl (.fr a))),.v (.c (.sl (.fr b))),.v (.a [.ob (.fr q)])]⟩:Cfg)) default default default default) []).cfg.k
theorem la_hk (k q:U4) (a b:List U4):(run lbE false 8 ((⟨[.code (bodyOf Try.f4)],.normal,initSt Try.f4.ntmps [.v (.a [.ob (.fr k)]),.v (.c (.sl (.fr a))),.v (.c (.sl (.fr b))),.v (.a [.ob (.fr q)])]⟩:Cfg)) []).cfg.k=la_k:=by kernel_rfl
theorem la (k q:U4) (a b:List U4) (ho:AllP [((0:Int)≤(ite ((8:Int)<(((List.length a):Nat):Int)) (8:Int) (((List.length a):Nat):Int))),((ite ((8:Int)<(((List.length a):Nat):Int)) (8:Int) (((List.length a):Nat):Int))≤(((List.length a):Nat):Int)),((0:Int)≤(ite ((8:Int)<(((List.length b):Nat):Int)) (8:Int) (((List.length b):Nat):Int))),((ite ((8:Int)<(((List.length b):Nat):Int)) (8:Int) (((List.length b):Nat):Int))≤(((List.length b):Nat):Int))]) (hs:Sim w0 F0 K ac (initSt Try.f4.ntmps [.v (.a [.ob (.fr k)]),.v (.c (.sl (.fr a))),.v (.c (.sl (.fr b))),.v (.a [.ob (.fr q)])]) cX aX) (hK:∀ac cY aY,Sim w0 F0 K ac (mkSt 122 [1,2,4,7] [(.v (.c (.sl (.fr (List.take ((ite ((8:Int)<(((List.length a):Nat):Int)) (8:Int) (((List.length a):Nat):Int))).toNat (List.drop 0 a)))))),(.v (.c (.sl (.fr (List.take ((ite ((8:Int)<(((List.length b):Nat):Int)) (8:Int) (((List.length b):Nat):Int))).toNat (List.drop 0 b)))))),.pt 16 0,.pt 32 0] [16,32] [(some (.fl [.ob (.fr k)])),(some (.fl [.ob (.fr q)]))] 256 [] []) cY aY→Wq Try.prog Q (la_k) ac Exit.normal aY cY.w):Wq Try.prog Q ([.code (bodyOf Try.f4)]) ac .normal aX cX.w:=
  run_at2 (o:=⟨_,_,_,_,_,_,_⟩) lbE_ok (by kernel_rfl) (la_hk k q a b) ho hs hK
noncomputable def laS (k q:U4) (a b:List U4):St:=mkSt 122 [1,2,4,7] [.v (.c (.sl (.fr a))),.v (.c (.sl (.fr b))),.pt 16 0,.pt 32 0] [16,32] [(some (.fl [.ob (.fr k)])),(some (.fl [.ob (.fr q)]))] 256 [] []
noncomputable def lb_k:List KI:=(run lbE false 3000 ((fun (k q:U4) (a b:List U4)=>(⟨la_k,.normal,laS k q a b⟩:Cfg)) default default default default) []).cfg.k
theorem lb_hk (k q:U4) (a b:List U4):(run lbE false 3000 ((⟨la_k,.normal,laS k q a b⟩:Cfg)) []).cfg.k=lb_k:=by kernel_rfl
theorem lb (k q:U4) (a b:List U4) (ho:AllP [((List.length a)≤262144),((List.length b)≤262144),((List.length a)≤262144),((List.length a)≤262144),((List.length (pTr a))≤(List.length (kzL k (8:Int)))),((List.length b)≤262144),((List.length (pTr b))≤(List.length (kzL k (8:Int)))),(0=0),((List.length (pAd a b))=(List.length (pAd a b))),(4=4),((List.length (pAd a b))≤262144),((List.length (pTr (pAd a b)))≤(List.length (kzL k (8:Int)))),(0=0),((List.length (pSc a q))=(List.length (pSc a q))),(4=4),((List.length (pSc a q))≤262144),((List.length (pTr (pSc a q)))≤(List.length (kzL k (8:Int))))]) (hs:Sim w0 F0 K ac (laS k q a b) cX aX) (hK:∀ac cY aY,Sim w0 F0 K ac (mkSt 122 [19,21,23,25,102,103,104] [.pt 1024 0,.pt 1168 0,.pt 1312 0,.pt 1472 0,(.v (.c (.slc 1664 0 9 1))),.ii (9:Int),.ii (0:Int)] [1024,1168,1312,1472,1664] [(some (.fl [(.ob (.fp (G1D.x (Prod.fst (cmt (kzL k (8:Int)) (pAd a b)))))),(.ob (.fp (G1D.y (Prod.fst (cmt (kzL k (8:Int)) (pAd a b)))))),(.bool (G1D.inf (Prod.fst (cmt (kzL k (8:Int)) (pAd a b)))))])),(some (.fl [(.ob (.fp (G1D.x (Prod.fst (cmt (kzL k (8:Int)) (pSc a q)))))),(.ob (.fp (G1D.y (Prod.fst (cmt (kzL k (8:Int)) (pSc a q)))))),(.bool (G1D.inf (Prod.fst (cmt (kzL k (8:Int)) (pSc a q)))))])),(some (.fl [(.ob (.fp (G1D.x (Prod.fst (adR (Prod.fst (cmt (kzL k (8:Int)) a)) (Prod.fst (cmt (kzL k (8:Int)) b))))))),(.ob (.fp (G1D.y (Prod.fst (adR (Prod.fst (cmt (kzL k (8:Int)) a)) (Prod.fst (cmt (kzL k (8:Int)) b))))))),(.bool (G1D.inf (Prod.fst (adR (Prod.fst (cmt (kzL k (8:Int)) a)) (Prod.fst (cmt (kzL k (8:Int)) b))))))])),(some (.fl [(.ob (.fp (G1D.x (Prod.fst (muR (Prod.fst (cmt (kzL k (8:Int)) a)) (S4.outF (S4.inF q))))))),(.ob (.fp (G1D.y (Prod.fst (muR (Prod.fst (cmt (kzL k (8:Int)) a)) (S4.outF (S4.inF q))))))),(.bool (G1D.inf (Prod.fst (muR (Prod.fst (cmt (kzL k (8:Int)) a)) (S4.outF (S4.inF q))))))])),(some (.sq (.int [(0:Int),(0:Int),(0:Int),(Prod.snd (cmt (kzL k (8:Int)) a)),(Prod.snd (cmt (kzL k (8:Int)) b)),(Prod.snd (cmt (kzL k (8:Int)) (pAd a b))),(Prod.snd (cmt (kzL k (8:Int)) (pSc a q))),(Prod.snd (adR (Prod.fst (cmt (kzL k (8:Int)) a)) (Prod.fst (cmt (kzL k (8:Int)) b)))),(Prod.snd (muR (Prod.fst (cmt (kzL k (8:Int)) a)) (S4.outF (S4.inF q))))])))] 1712 [] []) cY aY→Wq Try.prog Q (lb_k) ac Exit.normal aY cY.w):Wq Try.prog Q (la_k) ac .normal aX cX.w:=
  run_at2 (o:=⟨_,_,_,_,_,_,_⟩) lbE_ok (by kernel_rfl) (lb_hk k q a b) ho hs hK

noncomputable def lbS (p r s t:G1D) (E:List Int) (i:Int):St:=mkSt 122 [19,21,23,25,102,103,104] [.pt 1024 0,.pt 1168 0,.pt 1312 0,.pt 1472 0,(.v (.c (.slc 1664 0 9 1))),.v (.c (.int .i64 (9:Int))),.v (.c (.int .i64 i))] [1024,1168,1312,1472,1664] [some (.fl [.ob (.fp p.x),.ob (.fp p.y),.bool p.inf]),some (.fl [.ob (.fp r.x),.ob (.fp r.y),.bool r.inf]),some (.fl [.ob (.fp s.x),.ob (.fp s.y),.bool s.inf]),some (.fl [.ob (.fp t.x),.ob (.fp t.y),.bool t.inf]),some (.sq (.int E))] 1712 [] []
theorem lc_hk (p r s t:G1D) (E:List Int) (i:Int):(run lbE false 3000 ((⟨lpIn lb_k,.normal,lbS p r s t E i⟩:Cfg)) [true,false]).cfg.k=lpBk lb_k:=by kernel_rfl
theorem lc (p r s t:G1D) (E:List Int) (i:Int) (ho:AllP [((decide (i<(9:Int)))=true),((0:Int)≤i),(i<(9:Int)),(0=0),((i).toNat<(List.length E)),(((List.getD E (i).toNat (0:Int)) != (0:Int))=false)]) (hs:Sim w0 F0 K ac (lbS p r s t E i) cX aX) (hK:∀ac cY aY,Sim w0 F0 K ac (mkSt 122 [19,21,23,25,102,103,104] [.pt 1024 0,.pt 1168 0,.pt 1312 0,.pt 1472 0,(.v (.c (.slc 1664 0 9 1))),.ii (9:Int),(.ii (IntKind.wrap .i64 (i+(1:Int))))] [1024,1168,1312,1472,1664] [(some (.fl [(.ob (.fp (G1D.x p))),(.ob (.fp (G1D.y p))),(.bool (G1D.inf p))])),(some (.fl [(.ob (.fp (G1D.x r))),(.ob (.fp (G1D.y r))),(.bool (G1D.inf r))])),(some (.fl [(.ob (.fp (G1D.x s))),(.ob (.fp (G1D.y s))),(.bool (G1D.inf s))])),(some (.fl [(.ob (.fp (G1D.x t))),(.ob (.fp (G1D.y t))),(.bool (G1D.inf t))])),(some (.sq (.int E)))] 1840 [] []) cY aY→Wq Try.prog Q (lpBk lb_k) ac Exit.normal aY cY.w):Wq Try.prog Q (lpIn lb_k) ac .normal aX cX.w:=
  run_at2 (o:=⟨_,_,_,_,_,_,_⟩) lbE_ok (by kernel_rfl) (lc_hk p r s t E i) ho hs hK
theorem lx_end (p r s t:G1D) (E:List Int) (i:Int):runEnd lbE Try.f4 false 3000 (⟨lpIn lb_k,.normal,lbS p r s t E i⟩) [false,true,true] [] []=(some ([((decide (i<(9:Int)))=false),(true=true),((ite (true=true) (Bool.and (decide ((G1D.x p)=(G1D.x s))) (Bool.and (decide ((G1D.y p)=(G1D.y s))) ((G1D.inf p) == (G1D.inf s)))) (Bool.not (Bool.and (decide ((G1D.x p)=(G1D.x s))) (Bool.and (decide ((G1D.y p)=(G1D.y s))) ((G1D.inf p) == (G1D.inf s))))))=true)],((.v (.c (.bool (ite (true=true) (Bool.and (decide ((G1D.x r)=(G1D.x t))) (Bool.and (decide ((G1D.y r)=(G1D.y t))) ((G1D.inf r) == (G1D.inf t)))) (Bool.not (Bool.and (decide ((G1D.x r)=(G1D.x t))) (Bool.and (decide ((G1D.y r)=(G1D.y t))) ((G1D.inf r) == (G1D.inf t))))))))),[]))):=by kernel_rfl
end
end Go.Proofs.Ytdeohachoeopdaa

/- KzgAdds' law returns true. No conditions. -/
namespace Go.Proofs.Ytdeohachoeopdaa

theorem s4_in_out (x:Fr):S4.inF (S4.outF x)=x:=by
  apply Fin.ext
  show (S4.outF x).val % rN=x.val
  rw[S4.outF_val,Nat.mod_eq_of_lt x.isLt]
theorem s4_map_in_out (l:List Fr):(l.map S4.outF).map S4.inF=l:=by
  rw[List.map_map]
  exact (List.map_congr_left fun x _=>s4_in_out x).trans (List.map_id l)

section
variable {F:Type} [Fld F] [DecidableEq F] {b:F}
theorem nmul_mod (hc:Cv b) {P:Pt F} (h:OnC b P) {r:Nat} (hr:nmul P r=none) (n:Nat):nmul P n=nmul P (n % r):=by
  have e:nmul P (r*(n / r)+n % r)=nmul P (n % r):=by
    rw[nmul_add hc h,nmul_mul hc h,hr,nmul_none]
    rfl
  rw[Nat.div_add_mod] at e
  exact e
def jz (a:F×F×F) (l:List Nat):Bool:=decide ((jmn a l).2.2=0)
theorem jmn_none (hc:Cv b) {P:Pt F} {a:F×F×F} (hP:OnC b P) (h:Jc P a) (l:List Nat) (h0:jz a l=true):nmul P (dgV l)=none:=by
  have hj:=jmn_ok hc hP h l
  cases hn:nmul P (dgV l) with
  | none=>rfl
  | some q=>
    rw[hn] at hj
    have hj:(jmn a l).2.2≠0:=hj.1
    exact absurd (of_decide_eq_true h0) hj
end
def rD:List Nat:=dgT 52435875175126190479447740508185965837690552500527637822603658699938581184513 64
theorem gen_ord:jz (inG genG) rD=true:=by decide +kernel
theorem gen_on:OnC fp4 (pG genG):=(onG_is onGen).2
theorem r_lt:52435875175126190479447740508185965837690552500527637822603658699938581184513<16 ^ 64:=by decide +kernel
theorem gen_none:nmul (pG genG) rN=none:=by
  have h:=jmn_none cv1 gen_on (inG_jc genG) rD gen_ord
  have e:dgV rD=rN:=dgV_all (Eq.refl 64) r_lt
  rw[e] at h
  exact h

/-- As often as an element says. -/
def gF (v:Fr):G1D:=gP (nmul (pG genG) v.val)
theorem gF_on (v:Fr):onG (gF v)=true:=onG_gP (nmul_on cv1 gen_on _)
theorem gF_nat (n:Nat) (v:Fr) (h:n % rN=v.val):gP (nmul (pG genG) n)=gF v:=by
  rw[nmul_mod cv1 gen_on gen_none n,h]
  rfl
/-- The powers of the key's number, as elements. -/
def pwF (k:U4) (i:Nat):Fr:=S4.inF (pwK k i)
theorem pwF_val (k:U4) (i:Nat):(pwK k i).val % rN=(pwF k i).val:=rfl

theorem kz_len (k:U4) {n:Nat} (hn:n=8):(kzL k (n:Int)).length=n:=by
  rw[kzL_in k (by omega),pwL_len,Int.toNat_natCast]
theorem kz_get (k:U4) {n:Nat} (hn:n=8) {i:Nat} (h:i<n):(kzL k (n:Int)).getD i g10=gP (nmul (pG genG) (pwK k i).val):=by
  rw[kzL_in k (by omega),pwL_get _ _ (by rw[Int.toNat_natCast];exact h),pwE_is onGen]

/-- What the multiples add up to. -/
def sumN (u v:Nat→Nat):Nat→Nat
  | 0=>0
  | n+1=>sumN u v n+v n*u n
theorem gsl_gen {ks:List Nat} {Ps:List (Pt Fp)} {u v:Nat→Nat} (hu:∀i,i<Ps.length→ks.getD i 0=u i) (hv:∀i,i<Ps.length→Ps.getD i none=nmul (pG genG) (v i)):∀n,n≤Ps.length→gsl ks Ps n=nmul (pG genG) (sumN u v n)
  | 0,_=>rfl
  | n+1,h=>by
    show gadd (gsl ks Ps n) (nmul (Ps.getD n none) (ks.getD n 0))=nmul (pG genG) (sumN u v n+v n*u n)
    rw[gsl_gen hu hv n (by omega),hu n (by omega),hv n (by omega),nmul_add cv1 gen_on,nmul_mul cv1 gen_on]
theorem mod_step {r s e a x b y:Nat} (h1:s % r=e) (h2:a % r=x) (h3:b % r=y):(s+a*b) % r=(e+y*x % r) % r:=by
  subst h1 h2 h3
  rw[Nat.mul_comm a b,Nat.add_mod s (b*a),Nat.mul_mod b a]
theorem sumN_mod {u v:Nat→Nat} {f g:Nat→Fr} (hu:∀i,u i % rN=(f i).val) (hv:∀i,v i % rN=(g i).val):∀n,sumN u v n % rN=(S4.evF f g n).val
  | 0=>Nat.zero_mod _
  | n+1=>mod_step (sumN_mod hu hv n) (hv n) (hu n)

theorem take_get {α:Type} (l:List α) (d:α) {i n:Nat} (h:i<n):(l.take n).getD i d=l.getD i d:=by
  rw[List.getD_eq_getElem?_getD,List.getD_eq_getElem?_getD,List.getElem?_take_of_lt h]
theorem cf_val (A:List Fr) (i:Nat):(S4.cf A i).val % rN=(S4.cf A i).val:=Nat.mod_eq_of_lt (S4.cf A i).isLt

/-- A commitment is the generator, as often as the value says. -/
theorem cmt_is (k:U4) {n:Nat} (hn:n=8) (a:List U4) (h:a.length≤n):cmt (kzL k (n:Int)) a=(gF (S4.evF (S4.cf (a.map S4.inF)) (pwF k) n),0):=by
  have hl:=kz_len k hn
  have hg:=fun i=>kz_get k hn (i:=i)
  have hm:(pTr a).length=S4.trimN (a.map S4.inF) (a.map S4.inF).length:=by unfold pTr;rw[List.length_map,S4.trimF_len]
  have hm2:(pTr a).length≤n:=by
    have:=S4.trimN_le (a.map S4.inF) (a.map S4.inF).length
    rw[List.length_map] at this hm
    omega
  have hget:∀i,i<(pTr a).length→(pTr a).getD i 0=S4.outF (S4.cf (a.map S4.inF) i):=fun i hi=>by
    unfold pTr at hi ⊢
    rw[List.length_map] at hi
    rw[map_getD S4.outF _ 0 0 hi,←S4.trim_cf]
    rfl
  have hzero:∀i,(pTr a).length≤i→S4.cf (a.map S4.inF) i=0:=fun i hi=>S4.trim_zero _ _ (by omega)
  unfold cmt
  generalize kzL k (n:Int)=L at hl hg ⊢
  generalize hks:pTr a=ks at hm hm2 hget hzero ⊢
  generalize a.map S4.inF=A at hget hzero ⊢
  clear hm h
  have htl:(L.take ks.length).length=ks.length:=by rw[List.length_take];omega
  have hpt:∀i,i<ks.length→(L.take ks.length).getD i g10=gP (nmul (pG genG) (pwK k i).val):=fun i hi=>by rw[take_get _ _ hi];exact hg i (by omega)
  generalize L.take ks.length=Ls at htl hpt ⊢
  have hoff:Ls.any offG=false:=by
    rw[List.any_eq_false]
    intro x hx
    obtain ⟨i,hi,rfl⟩:=List.mem_iff_getElem.1 hx
    have e:=hpt i (by omega)
    rw[List.getD_eq_getElem?_getD,List.getElem?_eq_getElem hi] at e
    have e:Ls[i]=gP (nmul (pG genG) (pwK k i).val):=e
    rw[e]
    unfold offG
    rw[onG_gP (nmul_on cv1 gen_on _)]
    decide
  rw[sum1_ok (chk_ok (by omega) (by omega) hoff),smJ_gP (Eq.refl 52) htl.symm hoff]
  have hPl:(Ls.map pG).length=ks.length:=by rw[List.length_map,htl]
  have hPon:∀Q,Q∈Ls.map pG→OnC fp4 Q:=fun Q hQ=>by
    obtain ⟨x,hx,rfl⟩:=List.mem_map.1 hQ
    rw[List.any_eq_false] at hoff
    have:=hoff x hx
    unfold offG at this
    exact (onG_is (by simpa using this)).2
  have hs:=gsl_is (ks.map (·.val)) (Ls.map pG) (by rw[List.length_map,hPl]) hPon (Ls.map pG).length (Nat.le_refl _)
  rw[List.take_length,List.take_of_length_le (by rw[List.length_map,hPl];exact Nat.le_refl _)] at hs
  rw[←hs,gsl_gen (u:=fun i=>(S4.cf A i).val) (v:=fun i=>(pwK k i).val) (fun i hi=>by
      rw[hPl] at hi
      rw[map_getD (fun x:U4=>x.val) ks 0 0 hi,hget i hi,S4.outF_val]) (fun i hi=>by
      rw[hPl] at hi
      rw[map_getD pG Ls g10 none (by omega),hpt i hi,pG_gP]) _ (Nat.le_refl _),hPl]
  rw[gF_nat _ _ (sumN_mod (cf_val A) (pwF_val k) ks.length),S4.evF_more (S4.cf A) (pwF k) hzero n hm2]

theorem pTr_len (a:List U4):(pTr a).length≤a.length:=by
  have:=S4.trim_le (a.map S4.inF)
  unfold pTr
  rw[List.length_map] at this ⊢
  exact this
theorem pAd_len (a b:List U4) {n:Nat} (ha:a.length≤n) (hb:b.length≤n):(pAd a b).length≤n:=by
  have:=S4.trim_le (S4.addL (a.map S4.inF) (b.map S4.inF))
  rw[S4.addL_len,List.length_map,List.length_map] at this
  unfold pAd
  rw[List.length_map]
  omega
theorem pSc_len (a:List U4) (k:U4):(pSc a k).length≤a.length:=by
  have:=S4.trim_le (S4.scaleL (a.map S4.inF) (S4.inF k))
  rw[S4.scaleL_len,List.length_map] at this
  unfold pSc
  rw[List.length_map]
  exact this
theorem ev_pAd (a b:List U4) (g:Nat→Fr) (n:Nat):S4.evF (S4.cf ((pAd a b).map S4.inF)) g n=S4.evF (S4.cf (a.map S4.inF)) g n+S4.evF (S4.cf (b.map S4.inF)) g n:=by
  rw[←S4.evF_add]
  refine S4.evF_congr n fun i _=>?_
  unfold pAd
  rw[s4_map_in_out,S4.trim_cf,S4.addL_cf]
theorem ev_pSc (a:List U4) (k:U4) (g:Nat→Fr) (n:Nat):S4.evF (S4.cf ((pSc a k).map S4.inF)) g n=S4.evF (S4.cf (a.map S4.inF)) g n*S4.inF k:=by
  rw[←S4.evF_mul]
  refine S4.evF_congr n fun i _=>?_
  unfold pSc
  rw[s4_map_in_out,S4.trim_cf,S4.scaleL_cf]
theorem gF_add (x y:Fr):(adR (gF x) (gF y)).1=gF (x+y)∧(adR (gF x) (gF y)).2=0:=by
  have e:=adR_on (gF_on x) (gF_on y)
  refine ⟨?_,congrArg Prod.snd e⟩
  rw[congrArg Prod.fst e,addG_is]
  show gP (gadd (pG (gP _)) (pG (gP _)))=_
  rw[pG_gP,pG_gP,←nmul_add cv1 gen_on]
  exact gF_nat _ _ rfl
theorem gF_mul (x:Fr) (q:U4):(muR (gF x) (S4.outF (S4.inF q))).1=gF (x*S4.inF q)∧(muR (gF x) (S4.outF (S4.inF q))).2=0:=by
  have e:=muR_on (S4.outF (S4.inF q)) (gF_on x)
  refine ⟨?_,congrArg Prod.snd e⟩
  rw[congrArg Prod.fst e,mulG_is (gF_on x),S4.outF_val]
  show gP (nmul (pG (gP _)) _)=_
  rw[pG_gP,←nmul_mul cv1 gen_on]
  exact gF_nat _ _ rfl

theorem ld_loop (p r:G1D) (E:List Int) (hE:E.length=9) (h0:∀i,i<9→E.getD i 0=0) {x0:Ctx} (hk:∀p,x0.k p = .no) (hF:∀b,x0.F b→b<x0.w.heap.size) {ac:List Act} {cX:Ctx} {aX:Act}
    (hs:Sim x0.w x0.F kAll ac (lbS p r p r E 0) cX aX):Wq Try.prog (Post Try.prog Try.f4 x0 (.v (.c (.bool true))) []) lb_k ac .normal aX cX.w:=by
  refine loop_rule (ι:={ i:Nat // i≤9 }) (fun i=>lbS p r p r E (i.1:Int)) (fun i=>9-i.1) (c:=lpC lb_k) (k:=lpR lb_k) (by kernel_rfl) (fun i ih ac cY aY hs=>?_) ⟨0,Nat.zero_le _⟩ hs
  obtain ⟨i,hi⟩:=i
  simp only at ih hs
  by_cases hin:i<9
  · refine lc p r p r E i ⟨decide_eq_true (by omega),by omega,by omega,rfl,by rw[Int.toNat_natCast,hE];exact hin,by rw[Int.toNat_natCast,h0 i hin];rfl,trivial⟩ hs fun ac cU aU hs2=>?_
    rw[wrap_id (n:=(i:Int)+1) (by omega) (by omega)] at hs2
    exact ih ⟨i+1,hin⟩ (by show 9-(i+1)<9-i;omega) ac cU aU (hs2.nx _)
  · have l:=lx_end p r p r E i
    rw[if_pos rfl,if_pos rfl,eq_bits0 (a:=p) rfl,eq_bits0 (a:=r) rfl] at l
    exact run_end2 lbE_ok hk hF l ⟨decide_eq_false (by omega),rfl,rfl,trivial⟩ (fun y v hd=>hd) hs

theorem min8 (m:Nat):(ite ((8:Int)<(m:Int)) (8:Int) (m:Int))=((min 8 m:Nat):Int):=by split<;>omega

theorem kzgAdds_fnd (k q:U4) (a b:List U4):FnD Try.prog 4 [.v (.a [.ob (.fr k)]),.v (.c (.sl (.fr a))),.v (.c (.sl (.fr b))),.v (.a [.ob (.fr q)])] (.v (.c (.bool true))) []:=by
  refine fn_start (fn:=Try.f4) (c:=bodyOf Try.f4) Try.func4 rfl rfl fun x0 a0 hk hF hs=>?_
  refine la k q a b (by rw[min8,min8];exact ⟨by omega,by omega,by omega,by omega,trivial⟩) hs fun ac cY aY hs1=>?_
  rw[min8,min8,Int.toNat_natCast,Int.toNat_natCast,List.drop_zero,List.drop_zero] at hs1
  obtain ⟨n,hn⟩:∃n:Nat,n=8:=⟨_,rfl⟩
  have hA:(a.take (min 8 a.length)).length≤n:=by rw[List.length_take];omega
  have hB:(b.take (min 8 b.length)).length≤n:=by rw[List.length_take];omega
  generalize a.take (min 8 a.length)=A at hs1 hA
  generalize b.take (min 8 b.length)=B at hs1 hB
  have hL:(kzL k (8:Int)).length=n:=by
    have:=kz_len k hn
    rw[hn] at this ⊢
    exact this
  have hAB:=pAd_len A B hA hB
  have hSc:=Nat.le_trans (pSc_len A q) hA
  have cm:∀l:List U4,l.length≤n→cmt (kzL k (8:Int)) l=(gF (S4.evF (S4.cf (l.map S4.inF)) (pwF k) n),0):=fun l h=>by
    have:=cmt_is k hn l h
    rw[hn] at this ⊢
    exact this
  have c1:=cm A hA
  have c2:=cm B hB
  have c3:=cm (pAd A B) hAB
  have c4:=cm (pSc A q) hSc
  rw[ev_pAd] at c3
  rw[ev_pSc] at c4
  have t1:=pTr_len A
  have t2:=pTr_len B
  have t3:=pTr_len (pAd A B)
  have t4:=pTr_len (pSc A q)
  refine lb k q A B ⟨by omega,by omega,by omega,by omega,by omega,by omega,by omega,rfl,rfl,rfl,by omega,by omega,rfl,rfl,rfl,by omega,by omega,trivial⟩ (hs1.nx _) fun ac cZ aZ hs2=>?_
  generalize kzL k (8:Int)=L at hs2 c1 c2 c3 c4
  generalize S4.evF (S4.cf (A.map S4.inF)) (pwF k) n=x at c1 c3 c4
  generalize S4.evF (S4.cf (B.map S4.inF)) (pwF k) n=y at c2 c3
  rw[c1,c2,c3,c4] at hs2
  dsimp only at hs2
  obtain ⟨g1,g2⟩:=gF_add x y
  obtain ⟨g3,g4⟩:=gF_mul x q
  rw[g1,g2,g3,g4] at hs2
  exact ld_loop (gF (x+y)) (gF (x*S4.inF q)) [0,0,0,0,0,0,0,0,0] rfl (fun i hi=>by
    match i,hi with
    | 0,_=>rfl
    | 1,_=>rfl
    | 2,_=>rfl
    | 3,_=>rfl
    | 4,_=>rfl
    | 5,_=>rfl
    | 6,_=>rfl
    | 7,_=>rfl
    | 8,_=>rfl) hk hF (hs2.nx _)

end Go.Proofs.Ytdeohachoeopdaa
