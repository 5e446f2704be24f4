/- Parts of a proof, one behind the other: PSpw, WPc, PPc, WPd, PPd, WKm, PKm, WKn, WKa, WKe, WLc, WLo, PPm, PKe, PKf, PLo, PLp. No conditions. -/
import Derived.Test.YtefimjofjjdndaaGreatKoQ
open Go.IntKind (wrap)
namespace Go.Proofs.YtefimjofjjdndaaGreat
noncomputable section
section

theorem H0z (a:Fr) (l:List Bool) (z:Bool):pw a (pv (l++[z]))=if z=true then pw a (pv l)*pw a (pv l)*a else pw a (pv l)*pw a (pv l):=by
 rw[B8m,Nat.two_mul]
 cases z with
 | true=>
  rw[if_pos rfl,<-M5];rfl
 | false=>
  rw[if_neg (by decide),<-M5]
  rfl

theorem E2a (a:Fr) (e:List Int) (hl:e.length<=16) (hlim:A3s e) :
  FnD Tryz.prog 168 [.v (.a [.ob (.s a)]),.v (.a [.ob (.s 1)]),.v (.c (.sl (.u64 e)))] (.v (.a [.ob (.s (pw a (O4 e)))])) []:=by
 refine U2 (fn:=Tryz.f168) (c:=B9 Tryz.f168) Tryz.func168 rfl rfl fun x b hk hF hs=>?_
 refine pz a e trivial hs fun ac cY aY hs1=>?_
 obtain ⟨e1,e2⟩:=A2i (k:=D2h) (by kernel_rfl)
 rw[e1];have eP:(rfP D2h).toList=[12]:=by kernel_rfl
 have eG:rfG D2h = .tmp 11:=by kernel_rfl
 refine Z6 (ps:=rfP D2h) e2 hs1 (gf:=123) (caps:=[(128,0)]) (A4 Tryz.func123 rfl rfl) (fun pre=>pzS a e (pw a (pv pre))) (fun s=>by rw[eG];rfl) ⟨_,rfl⟩ (btL (O4 e) (M4 e e.length) (M4 e e.length)) C8s B9e
  (fun y z=>.cons ⟨rfl,0,rfl⟩ .nil) (fun z=>by rw[<-Array.length_toList,eP];rfl) (fun pre p hp=>?_) (A7c hl hlim fun s=>rfl) (fun pre z=>pzB a e (pw a (pv pre)) z)
  (fun pre z=>pzE a e (pw a (pv (pre++[z])))) (fun pre z=>⟨_,rfl⟩) (fun pre z hz w1 F1 K1 as1 Q1 l y b hs2 hQ=>?_) (fun pre z hz w1 F1 K1 as1 Q1 l y b hs2 hQ=>?_) fun D y hs2 hD hFD hd=>?_
 ·rw[eP] at hp
  have h23:(pzS a e (pw a (pv pre))).nt=23:=rfl;rw[h23];simp only[List.mem_cons,List.not_mem_nil,or_false] at hp;subst hp;decide
 ·rw[eP] at hs2
  exact pzA a e _ z trivial hs2 fun cZ aZ hs3=>⟨hQ _ _ (hs3.nx _)⟩
 ·rw[H0z] at hQ
  cases z with
  | true=>exact pzC a e _ true ⟨rfl,trivial⟩ hs2 fun cZ aZ hs3=>⟨hQ _ _ (hs3.nx _)⟩
  | false=>exact pzD a e _ false ⟨rfl,trivial⟩ hs2 fun cZ aZ hs3=>⟨hQ _ _ (hs3.nx _)⟩
 ·have hs3:=hs2.marked rfl rfl D
  have hN:O4 e<2 ^ M4 e e.length:=by
   have:=D1s hlim e.length (Nat.le_refl _)
   rwa [List.take_length] at this
  rw[B8l hN _ (Nat.le_refl _),Nat.sub_self,Nat.pow_zero,Nat.div_one] at hs2 hs3;generalize pw a (O4 e)=o at hs2 hs3 ⊢
  refine pzX a e o trivial hs3 fun ac cV aV hs6=>⟨?_⟩
  have hs7:Sim y.w y.F (U3 y V9 (I0 D)) ac (pzZ o) cV aV:=hs6;exact Y7 B0j hk hF (H1b o) trivial (fun y v hd=>hd) hs2 hD hFD hd rfl hs7

end

section

theorem D7r (a u:Fr) (e:List Int) (hu:u=1) (hl:e.length<=16) (hlim:A3s e) :
  FnD Tryz.prog 168 [.v (.a [.ob (.s a)]),.v (.a [.ob (.s u)]),.v (.c (.sl (.u64 e)))] (.v (.a [.ob (.s (pw a (O4 e)))])) []:=by
 subst hu;exact E2a a e hl hlim
def B0g:B2
 | [.v (.a [.ob (.s a)]),.v (.a [.ob (.s u)]),.v (.c (.sl (.u64 e)))]=>some ([u=1,e.length<=16,A3s e],.v (.a [.ob (.s (pw a (O4 e)))]),[])
 | _=>none
def pvC:Env:=pvB.set (C6 pvB.fn 168 B0g)
theorem G1o:A9 Tryz.prog pvC:=A8 B0j 168 B0g (A4 Tryz.func168 rfl rfl) fun args o r es h ho=>by
 unfold B0g at h;split at h
 ·cases h;exact D7r _ _ _ ho.1 ho.2.1 ho.2.2.1
 ·cases h
theorem sm1  : B5 pvC Tryz.f103 3000 [.v (.c (.int .u64 1))] [] [] []=(some ([(0<=(1:Int)),((1:Int)<(18446744073709551616:Int)),(0<=(0:Int)),(0<(18446744073709551616:Int)),(0<=(0:Int)),(0<(18446744073709551616:Int)),(0<=(0:Int)),(0<(18446744073709551616:Int))],((.v (.a [(.ob (.s (S4.inF (Fin.ofNat B4 1))))])),[]))):=by kernel_rfl
theorem E3a {n:Int} (h:n=1):FnD Tryz.prog 103 [.v (.c (.int .u64 n))] (.v (.a [.ob (.s 1)])) []:=by
 subst h;have r:=sm1;rw[show S4.inF (Fin.ofNat B4 1)=1 from by decide +kernel] at r
 exact A5 G1o Tryz.func103 r ⟨by decide,by decide,by decide,by decide,by decide,by decide,by decide,by decide,trivial⟩
def B0w:B2
 | [.v (.c (.int .u64 n))]=>some ([n=1],.v (.a [.ob (.s 1)]),[])
 | _=>none
def pvD:Env:=pvC.set (C6 pvC.fn 103 B0w)
theorem G1p:A9 Tryz.prog pvD:=A8 G1o 103 B0w (A4 Tryz.func103 rfl rfl) fun args o r es h ho=>by
 unfold B0w at h;split at h
 ·cases h;exact E3a ho.1
 ·cases h
theorem sml  : B5 pvD Tryz.f55 3000 [.v (.c (.int .i64 1))] [false] [] []=(some ([((decide ((1:Int)<(0:Int)))=false),((1:Int)=(1:Int))],((.v (.a [(.ob (.fr (S4.D5 (1:Fr))))])),[]))):=by kernel_rfl
end

section

theorem H2a {n:Int} (h:n=1):FnD Tryz.prog 55 [.v (.c (.int .i64 n))] (.v (.a [.ob (.fr (S4.D5 1))])) []:=by
 subst h;exact A5 G1p Tryz.func55 sml ⟨rfl,rfl,trivial⟩

end

section
section
variable {w0:World} {F0:Nat->Prop} {K:Kp} {ac:List Act} {Q:Exit->Act->World->Prop} {cX:Ctx} {aX:Act}

def peA:Env:=pvD.or qtG
theorem H8p:A9 Tryz.prog peA:=A5p G1p X4
/-- The whole table. -/
theorem E7j (a:Fp×Fp×Fp):∃T,T=tbL a 64:=⟨_,rfl⟩
def A8e (a:Fp×Fp×Fp):List (List (Fp×Fp×Fp)):=Classical.choose (E7j a)
theorem B8p (a:Fp×Fp×Fp):A8e a=tbL a 64:=Classical.choose_spec (E7j a)
theorem E9x (a:Fp×Fp×Fp):FnD Tryz.prog 110 [.v (.a (J6 a))] (.v (.c (.sl (.ptt (A8e a))))) []:=by
 rw[B8p];exact F9b a (Eq.refl 64)
def C2f:B2
 | [.v (.a [.ob (.p a),.ob (.p b),.ob (.p c)])]=>some ([],.v (.c (.sl (.ptt (A8e (a,b,c))))),[])
 | _=>none
def peB:Env:=peA.set (C6 peA.fn 110 C2f)
theorem H8q:A9 Tryz.prog peB:=A8 H8p 110 C2f (A4 Tryz.func110 rfl rfl) fun args o r es h _=>by
 unfold C2f at h;split at h
 ·cases h;exact E9x (_,_,_)
 ·cases h
/-- Each row has sixteen. -/
def D2o (T:List (List (Fp×Fp×Fp))):Prop:=∀i,i<64->(T.getD i []).length=16
theorem F0g (T:List (List (Fp×Fp×Fp))) (k:U4) (h:T.length=64∧D2o T):FnD Tryz.prog 111 [.v (.c (.sl (.ptt T))),.v (.a [.ob (.fr k)])] (.v (.a (J6 (pkL T k.val 64)))) []:=G0w T k (Eq.refl 64) h.1 h.2
def C3e:B2
 | [.v (.c (.sl (.ptt T))),.v (.a [.ob (.fr k)])]=>some ([T.length=64,D2o T],.v (.a (J6 (pkL T k.val 64))),[])
 | _=>none
def peC:Env:=peB.set (C6 peB.fn 111 C3e)
theorem H8r:A9 Tryz.prog peC:=A8 H8q 111 C3e (A4 Tryz.func111 rfl rfl) fun args o r es h ho=>by
 unfold C3e at h;split at h
 ·cases h;exact F0g _ _ ⟨ho.1,ho.2.1⟩
 ·cases h
def D3b:B2
 | [.v (.c (.int .i64 n))]=>some ([n=1],.v (.a [.ob (.fr (S4.D5 1))]),[])
 | _=>none
def peD:Env:=peC.set (C6 peC.fn 55 D3b)
theorem H8s:A9 Tryz.prog peD:=A8 H8r 55 D3b (A4 Tryz.func55 rfl rfl) fun args o r es h ho=>by
 unfold D3b at h;split at h
 ·cases h;exact H2a ho.1
 ·cases h
def peE:Env:=peD
theorem B0c:A9 Tryz.prog peE:=H8s
theorem zqA (a:G1D) (k:U4) (n:Int):B5 peE Tryz.f63 3000 [.v (.a a.its),.v (.a [.ob (.fr k)]),.v (.c (.int .i64 n))] [true,true] [] []=(some ([((decide (n<(0:Int)))=true)],((.t [(.c (.val (Value.slice Option.none 0 0))),(.c (.int .i64 (1:Int)))]),[]))):=by kernel_rfl
theorem zqB (a:G1D) (k:U4) (n:Int):B5 peE Tryz.f63 3000 [.v (.a a.its),.v (.a [.ob (.fr k)]),.v (.c (.int .i64 n))] [false,true] [] []=(some ([((decide (n<(0:Int)))=false),((decide (n > (4096:Int)))=true)],((.t [(.c (.val (Value.slice Option.none 0 0))),(.c (.int .i64 (1:Int)))]),[]))):=by kernel_rfl
theorem zqC (a:G1D) (k:U4) (n:Int):B5 peE Tryz.f63 3000 [.v (.a a.its),.v (.a [.ob (.fr k)]),.v (.c (.int .i64 n))] [false,false,true] [] []=(some ([((decide (n<(0:Int)))=false),((decide (n > (4096:Int)))=false),((Bool.not (onG a))=true)],((.t [(.c (.val (Value.slice Option.none 0 0))),(.c (.int .i64 (30:Int)))]),[]))):=by kernel_rfl
def C8i:List KI:=(run peE false 3000 (⟨[.code (B9 Tryz.f63)],.normal,D7 Tryz.f63.ntmps [.v (.a [.ob (.fp dF),.ob (.fp dF),.bool dF]),.v (.a [.ob (.fr dF)]),.v (.c (.int .i64 dF))]⟩:Cfg) [false,false,false]).cfg.k
theorem zqD (x y:U6) (j:Bool) (k:U4) (n:Int):let b:=G1D.mk x y j;B1 [((decide (n<(0:Int)))=false),((decide (n > (4096:Int)))=false),((Bool.not (onG b))=false),((1:Int)=(1:Int))]->Sg Tryz.prog (D7 Tryz.f63.ntmps [.v (.a [.ob (.fp x),.ob (.fp y),.bool j]),.v (.a [.ob (.fr k)]),.v (.c (.int .i64 n))]) (B0 42 [2,4,8,9,10] [.ii n,.pt 32 0,(.ci (.sl (Sq.ptt (A8e (inG b))))),(.ci (.val (Value.slice Option.none 0 0))),.pt 352 0] [32,352] [(eF_ [.ob (.fr k)]),(eF_ [(.ob (.fr (S4.D5 (1:Fr))))])] 384 [] []) .normal (C8i) ([.code (B9 Tryz.f63)]):=sgA false 3000 [false,false,false] B0c
def zqS (k:U4) (n:Int) (T:List (List (Fp×Fp×Fp))) (L:List G1D) (m:Nat) (q:U4):St:=B0 42 [2,4,8,9,10] [.ii n,.pt 32 0,.v (.c (.sl (.ptt T))),.v (.c (.slc 17 0 m 13)),.pt 352 0] [17,32,352] [some (.sq (.g1 L)),(eF_ [.ob (.fr k)]),some (.fl [.ob (.fr q)])] 384 [] []
theorem zqE (k:U4) (n:Int) (T:List (List (Fp×Fp×Fp))) (L:List G1D) (m:Nat) (q:U4):let a:=L.length+1;B1 [((decide (((m:Nat):Int)<n))=true),(T.length=64),(D2o T),((a*104)<=140737488355328),(a<=maxLen),(m=L.length),(1=1)]->Sg Tryz.prog (zqS k n T L m q) (B0 42 [2,4,8,9,10] [.ii n,.pt 32 0,(.ci (.sl (Sq.ptt T))),(.ci (.slc 17 0 a 13)),.pt 592 0] [17,32,592] [(eQ_ (Sq.g1 (L++[(A4o (pkL T (Fin.val q) 64))]))),(eF_ [.ob (.fr k)]),(eF_ [(.ob (.fr (S4.D5 ((S4.inF q)*(S4.inF k)))))])] 688 [] []) .normal (M7 C8i) (E8 C8i):=sgA false 3000 [true] B0c
theorem H0s (k:U4) (n:Int) (T:List (List (Fp×Fp×Fp))) (L:List G1D) (m:Nat) (q:U4):G5 peE Tryz.f63 false 3000 (⟨E8 C8i,.normal,zqS k n T L m q⟩) [false] [] [17]=(some ([((decide (((m:Nat):Int)<n))=false),(m=L.length)],((.t [(.c (.sl (Sq.g1 L))),(.c (.int .i64 (0:Int)))]),[]))):=by kernel_rfl
end
end

section

/-- The powers of a number, one after the other; what is told of each. -/
def pwK (k:U4):Nat->U4
 | 0=>S4.D5 1
 | i+1=>S4.D5 (S4.inF (pwK k i)*S4.inF k)
def pwE (T:List (List (Fp×Fp×Fp))) (q:U4):G1D:=A4o (pkL T q.val 64)
def pwL (T:List (List (Fp×Fp×Fp))) (k:U4) (n:Nat):List G1D:=(List.range n).map fun i=>pwE T (pwK k i)
theorem D2f (T:List (List (Fp×Fp×Fp))) (k:U4) (n:Nat):(pwL T k n).length=n:=by
 unfold pwL;rw[List.length_map,List.length_range]
theorem G1t (T:List (List (Fp×Fp×Fp))) (k:U4) (n:Nat):pwL T k (n+1)=pwL T k n++[pwE T (pwK k n)]:=by
 unfold pwL;rw[List.range_succ,List.map_append];rfl
theorem E7a (T:List (List (Fp×Fp×Fp))) (k:U4) {n i:Nat} (h:i<n):(pwL T k n).getD i g10=pwE T (pwK k i):=by
 unfold pwL;rw[List.getD_eq_getElem?_getD,List.getElem?_map,List.getElem?_range h,Option.map_some,Option.getD_some]
theorem G3c (a:Fp×Fp×Fp):(A8e a).length=64:=by rw[B8p,D3g]
theorem G3d (a:Fp×Fp×Fp):D2o (A8e a):=fun i hi=>by rw[B8p,E7k a hi,D2u]

/-- What Powers tells. -/
def pwR (a:G1D) (k:U4) (n:Int):List G1D×Int:=if n<0∨n > 4096 then ([],1) else if onG a then (pwL (A8e (inG a)) k n.toNat,0) else ([],30)
theorem H0x {a:G1D} {k:U4} {n:Int} (h:n<0∨n > 4096):pwR a k n=([],1):=if_pos h
theorem H0y {a:G1D} {k:U4} {n:Int} (h:¬(n<0∨n > 4096)) (ha:onG a=false):pwR a k n=([],30):=by unfold pwR;rw[if_neg h,ha];rfl
theorem E2d {a:G1D} {k:U4} {n:Int} (h:¬(n<0∨n > 4096)) (ha:onG a=true):pwR a k n=(pwL (A8e (inG a)) k n.toNat,0):=by unfold pwR;rw[if_neg h,ha];rfl
theorem F9k {x:Ctx} {j:V1} {v:Value} (h:B8 x (.t [.c (.val (.slice none 0 0)),j]) v):B8 x (.t [.c (.sl (.g1 [])),j]) v:=by
 obtain ⟨vs,e,hc⟩:=h
 cases hc with
 | cons h1 h2=>exact ⟨_,e,.cons (H7z (q:=.g1 []) rfl h1) h2⟩

theorem F0k (x y:U6) (j:Bool) (k:U4) (n:Nat) (h:n<=4096) (ha:onG ⟨x,y,j⟩=true):FnD Tryz.prog 63 [.v (.a [.ob (.fp x),.ob (.fp y),.bool j]),.v (.a [.ob (.fr k)]),.v (.c (.int .i64 (n:Int)))] (.t [.c (.sl (.g1 (pwL (A8e (inG ⟨x,y,j⟩)) k n))),.c (.int .i64 0)]) []:=by
 refine J3 (fn:=Tryz.f63) (c:=B9 Tryz.f63) Tryz.func63 rfl rfl fun x0 a0 hk hF hs=>?_
 refine zqD x y j k n ⟨decide_eq_false (by omega),decide_eq_false (by omega),by rw[ha];rfl,rfl,trivial⟩ hs fun ac cY aY hs1=>?_
 have h64:=G3c (inG ⟨x,y,j⟩);have h16:=G3d (inG ⟨x,y,j⟩);have hmax:4097<=maxLen:=by decide
 generalize A8e (inG ⟨x,y,j⟩)=T at hs1 h64 h16 ⊢
 have hs2:=hs1.nilRow (p:=17) (q:=.g1 []) rfl (by decide) rfl (ml' := [17,32,352]) (ens' := [some (.sq (.g1 [])),some (.fl [.ob (.fr k)]),some (.fl [.ob (.fr (S4.D5 1))])]) (fun r=>rfl)
  (svs' := [.v (.c (.int .i64 (n:Int))),.v (.c (.ptr 32 0)),.v (.c (.sl (.ptt T))),.v (.c (.slc 17 0 0 13)),.v (.c (.ptr 352 0))]) ⟨.inl rfl,.inl rfl,.inl rfl,.inr ⟨13,rfl,rfl⟩,.inl rfl,trivial⟩
 change Wq Tryz.prog _ _ _ _ _ (K7 cY 17).w
 refine E6 (ι:={ i:Nat // i<=n }) (fun i=>zqS k n T (pwL T k i.1) i.1 (pwK k i.1)) (fun i=>n-i.1) (c:=lpC C8i) (k:=lpR C8i) (by kernel_rfl) (fun i ih ac cY aY hs=>?_) ⟨0,Nat.zero_le _⟩ (hs2.nx _)
 obtain ⟨i,hi⟩:=i;simp only at ih hs
 have hlen:=D2f T k i;by_cases hin:i<n
 ·have hnext:pwK k (i+1)=S4.D5 (S4.inF (pwK k i)*S4.inF k):=rfl
  have hL:=G1t T k i;have ih2:=ih ⟨i+1,hin⟩ (by show n-(i+1)<n-i;omega)
  dsimp only at ih2;rw[hnext,hL] at ih2;clear ih hnext hL;generalize pwK k i=q at hs ih2;generalize pwL T k i=L at hs ih2 hlen;refine zqE k n T L i q ⟨decide_eq_true (by omega),h64,h16,by omega,by omega,hlen.symm,rfl,trivial⟩ hs fun ac cU aU hs3=>?_
  rw[hlen] at hs3;have ep:A4o (pkL T q.val 64)=pwE T q:=rfl;rw[ep] at hs3;generalize pwE T q=e at hs3 ih2;generalize S4.D5 (S4.inF q*S4.inF k)=q2 at hs3 ih2;have hs4:=hs3.move [17,32] 592 352 rfl ⟨_,rfl⟩ rfl rfl rfl rfl rfl (svs' := [.v (.c (.int .i64 (n:Int))),.v (.c (.ptr 32 0)),.v (.c (.sl (.ptt T))),.v (.c (.slc 17 0 (i+1) 13)),.v (.c (.ptr 352 0))])
   ⟨.inl ⟨rfl,rfl⟩,.inl ⟨rfl,rfl⟩,.inl ⟨rfl,rfl⟩,.inl ⟨rfl,rfl⟩,.inr ⟨0,rfl,rfl⟩,trivial⟩ (ml' := [17,32,352]) (ens' := [some (.sq (.g1 (L++[e]))),some (.fl [.ob (.fr k)]),some (.fl [.ob (.fr q2)])]) (fun q=>by
    simp only[D9];by_cases h1:q=352<;>by_cases h2:q=592<;>by_cases h3:q=17<;>by_cases h4:q=32<;>simp_all)
  change Wq Tryz.prog _ _ _ _ _ (A0p cU [17,32] 592 352).w
  exact ih2 ac _ aU (hs4.nx _)
 ·obtain rfl:i=n:=by omega
  generalize pwL T k i=L at hs hlen ⊢
  exact H2 B0c hk hF (H0s k i T L i _) ⟨decide_eq_false (by omega),hlen.symm,trivial⟩ (fun y v hd=>hd) hs

theorem C3i (a:G1D) (k:U4) (n:Int):FnD Tryz.prog 63 [.v (.a a.its),.v (.a [.ob (.fr k)]),.v (.c (.int .i64 n))] (.t [.c (.sl (.g1 (pwR a k n).1)),.c (.int .i64 (pwR a k n).2)]) []:=by
 by_cases h:n<0∨n > 4096
 ·rw[H0x h]
  by_cases h1:n<0
  ·exact (A5 B0c Tryz.func63 (zqA a k n) ⟨decide_eq_true h1,trivial⟩).conv (fun _ _ h=>h) fun y v hd=>F9k hd
  ·exact (A5 B0c Tryz.func63 (zqB a k n) ⟨decide_eq_false h1,decide_eq_true (by omega),trivial⟩).conv (fun _ _ h=>h) fun y v hd=>F9k hd
 ·cases ha:onG a with
  | false=>
   rw[H0y h ha];exact (A5 B0c Tryz.func63 (zqC a k n) ⟨decide_eq_false (by omega),decide_eq_false (by omega),by rw[ha];rfl,trivial⟩).conv (fun _ _ h=>h) fun y v hd=>F9k hd
  | true=>
   rw[E2d h ha];obtain ⟨m,rfl⟩:∃m:Nat,n=(m:Int):=⟨n.toNat,by omega⟩
   rw[Int.toNat_natCast];exact F0k a.x a.y a.inf k m (by omega) ha

end

section

def kmA:Env:=peE.or uzB
theorem F7c:A9 Tryz.prog kmA:=A5p B0c M3
def B0h:B2
 | [.v (.a [.ob (.fp x),.ob (.fp y),.bool j]),.v (.a [.ob (.fr k)]),.v (.c (.int .i64 n))]=>some ([],.t [.c (.sl (.g1 (pwR ⟨x,y,j⟩ k n).1)),.c (.int .i64 (pwR ⟨x,y,j⟩ k n).2)],[])
 | _=>none
def kmB:Env:=kmA.set (C6 kmA.fn 63 B0h)
theorem E0z:A9 Tryz.prog kmB:=A8 F7c 63 B0h (A4 Tryz.func63 rfl rfl) fun args o r es h _=>by
 unfold B0h at h;split at h
 ·cases h;exact C3i ⟨_,_,_⟩ _ _
 ·cases h
theorem mkA (k:U4) (n:Int):let b:U6:=0;B5 kmB Tryz.f29 3000 [.v (.a [.ob (.fr k)]),.v (.c (.int .i64 n))] [true] [] []=(some ([((decide (n<(1:Int)))=true)],((.t [(.a [(.sl (Sq.g1 ([]:List G1D))),(.ob (.fp b)),(.ob (.fp b)),(.ob (.fp b)),(.ob (.fp b)),(.lit false)]),(.c (.int .i64 (1:Int)))]),[]))):=by intros;kernel_rfl
theorem mkB (k:U4) (n:Int):let b:U6:=0;B5 kmB Tryz.f29 3000 [.v (.a [.ob (.fr k)]),.v (.c (.int .i64 n))] [false,true] [] []=(some ([((decide (n<(1:Int)))=false),((decide (n > (4096:Int)))=true)],((.t [(.a [(.sl (Sq.g1 ([]:List G1D))),(.ob (.fp b)),(.ob (.fp b)),(.ob (.fp b)),(.ob (.fp b)),(.lit false)]),(.c (.int .i64 (1:Int)))]),[]))):=by intros;kernel_rfl
theorem mkC (k:U4) (n:Int):let d:=B5d O0 (S4.D5 (S4.inF k));let b:=Prod.fst d;B5 kmB Tryz.f29 3000 [.v (.a [.ob (.fr k)]),.v (.c (.int .i64 n))] [false,false,false,false] [] []=(some ([((decide (n<(1:Int)))=false),((decide (n > (4096:Int)))=false),(((Prod.snd (pwR G7 k n)) != (0:Int))=false),(((Prod.snd d) != (0:Int))=false)],((.t [(.a [(.sl (Sq.g1 (Prod.fst (pwR G7 k n)))),(.ob (.fp (G2D.xa b))),(.ob (.fp (G2D.xb b))),(.ob (.fp (G2D.ya b))),(.ob (.fp (G2D.yb b))),(.bool (G2D.inf b))]),(.c (.int .i64 (0:Int)))]),[]))):=by intros;kernel_rfl
end

section

theorem E6r:onG G7=true:=by decide +kernel
theorem H8h:I6 O0=true:=by decide +kernel
/-- The parts of a key. -/
def A5x (l:List G1D) (s:G2D):List It:=[.sl (.g1 l),.ob (.fp s.xa),.ob (.fp s.xb),.ob (.fp s.ya),.ob (.fp s.yb),.bool s.inf]
theorem E6d {x:Ctx} {i1 i2 i3 i4 i5 k:It} {b:Bool} {v:Value} (h:B8 x (.t [.a [i1,i2,i3,i4,i5,.lit b],.c k]) v):B8 x (.t [.a [i1,i2,i3,i4,i5,.bool b],.c k]) v:=by
 obtain ⟨vs,e,hc⟩:=h
 cases hc with
 | cons h1 h2=>
  refine ⟨_,e,.cons ?_ h2⟩
  obtain ⟨cs,e0,c1,r1,e1,h1,c2,r2,e2,h2,c3,r3,e3,h3,c4,r4,e4,h4,c5,r5,e5,h5,c6,r6,e6,⟨d,h6⟩,h7⟩:=h1;exact ⟨cs,e0,c1,r1,e1,h1,c2,r2,e2,h2,c3,r3,e3,h3,c4,r4,e4,h4,c5,r5,e5,h5,c6,r6,e6,⟨d,by cases d<;>exact h6⟩,h7⟩

/-- What Make tells. -/
theorem F7e (k:U4) (n:Int):∃L,L=if n<1∨n > 4096 then [] else (pwR G7 k n).1:=⟨_,rfl⟩
def kzL (k:U4) (n:Int):List G1D:=Classical.choose (F7e k n)
theorem E1e (k:U4) (n:Int):kzL k n=if n<1∨n > 4096 then [] else (pwR G7 k n).1:=Classical.choose_spec (F7e k n)
theorem F7f (k:U4) (n:Int):∃s,s=if n<1∨n > 4096 then g20 else (B5d O0 (S4.D5 (S4.inF k))).1:=⟨_,rfl⟩
def kzS (k:U4) (n:Int):G2D:=Classical.choose (F7f k n)
theorem E1f (k:U4) (n:Int):kzS k n=if n<1∨n > 4096 then g20 else (B5d O0 (S4.D5 (S4.inF k))).1:=Classical.choose_spec (F7f k n)
/-- What Powers tells, by name alone. -/
theorem G1u (a:G1D) (k:U4) (n:Int):∃r,r=pwR a k n:=⟨_,rfl⟩
def pwZ (a:G1D) (k:U4) (n:Int):List G1D×Int:=Classical.choose (G1u a k n)
theorem H9c (a:G1D) (k:U4) (n:Int):pwZ a k n=pwR a k n:=Classical.choose_spec (G1u a k n)
theorem D7s (a:G1D) (k:U4) (n:Int):FnD Tryz.prog 63 [.v (.a a.its),.v (.a [.ob (.fr k)]),.v (.c (.int .i64 n))] (.t [.c (.sl (.g1 (pwZ a k n).1)),.c (.int .i64 (pwZ a k n).2)]) []:=by
 rw[H9c];exact C3i a k n
def kzE (n:Int):Int:=if n<1∨n > 4096 then 1 else 0
theorem F7x (k:U4) (n:Int):FnD Tryz.prog 29 [.v (.a [.ob (.fr k)]),.v (.c (.int .i64 n))] (.t [.a (A5x (kzL k n) (kzS k n)),.c (.int .i64 (kzE n))]) []:=by
 by_cases h:n<1∨n > 4096
 ·have e1:kzL k n=[]:=(E1e k n).trans (if_pos h)
  have e2:kzS k n=g20:=(E1f k n).trans (if_pos h);have e3:kzE n=1:=if_pos h;rw[e1,e2,e3];by_cases h1:n<1
  ·exact (A5 E0z Tryz.func29 (mkA k n) ⟨decide_eq_true h1,trivial⟩).conv (fun _ _ h=>h) fun y v hd=>E6d hd
  ·exact (A5 E0z Tryz.func29 (mkB k n) ⟨decide_eq_false h1,decide_eq_true (by omega),trivial⟩).conv (fun _ _ h=>h) fun y v hd=>E6d hd
 ·have e1:kzL k n=(pwR G7 k n).1:=(E1e k n).trans (if_neg h)
  have e2:kzS k n=(B5d O0 (S4.D5 (S4.inF k))).1:=(E1f k n).trans (if_neg h);have e3:kzE n=0:=if_neg h;have f1:(pwR G7 k n).2=0:=by rw[E2d (by omega) E6r]
  have f2:(B5d O0 (S4.D5 (S4.inF k))).2=0:=by rw[D1h _ H8h]
  rw[e1,e2,e3];exact A5 E0z Tryz.func29 (mkC k n) ⟨decide_eq_false (by omega),decide_eq_false (by omega),by rw[f1];rfl,by rw[f2];rfl,trivial⟩

end

section

def A6h:B2
 | [.v (.a [.ob (.fp x),.ob (.fp y),.bool j]),.v (.a [.ob (.fr k)]),.v (.c (.int .i64 n))]=>some ([],.t [.c (.sl (.g1 (pwZ ⟨x,y,j⟩ k n).1)),.c (.int .i64 (pwZ ⟨x,y,j⟩ k n).2)],[])
 | _=>none
def knA:Env:=kmA.set (C6 kmA.fn 63 A6h)
theorem H6v:A9 Tryz.prog knA:=A8 F7c 63 A6h (A4 Tryz.func63 rfl rfl) fun args o r es h _=>by
 unfold A6h at h;split at h
 ·cases h;exact D7s ⟨_,_,_⟩ _ _
 ·cases h
def C1w:B2
 | [.v (.a [.ob (.fr k)]),.v (.c (.int .i64 n))]=>some ([],.t [.a (A5x (kzL k n) (kzS k n)),.c (.int .i64 (kzE n))],[])
 | _=>none
def knB:Env:=knA.set (C6 knA.fn 29 C1w)
theorem F7d:A9 Tryz.prog knB:=A8 H6v 29 C1w (A4 Tryz.func29 rfl rfl) fun args o r es h _=>by
 unfold C1w at h;split at h
 ·cases h;exact F7x _ _
 ·cases h
theorem I8a  : B5 knB Tryz.f25 3000 [] [true,true] [] []=(some ([(0<=(5:Int)),((5:Int)<(18446744073709551616:Int)),(0<=(0:Int)),(0<(18446744073709551616:Int)),(0<=(0:Int)),(0<(18446744073709551616:Int)),(0<=(0:Int)),(0<(18446744073709551616:Int)),(((0:Int)==0)=true),(((((kzL (Fin.ofNat B4 5) (1:Int)).length:Nat):Int) == (1:Int))=true),(0<=(0:Int)),(0<(((kzL (Fin.ofNat B4 5) (1:Int)).length:Nat):Int))],((.ci (.bool (ite (true=true) (Bool.and (decide ((G1D.x (List.getD (kzL (Fin.ofNat B4 5) (1:Int)) 0 g10))=(G1D.x G7))) (Bool.and (decide ((G1D.y (List.getD (kzL (Fin.ofNat B4 5) (1:Int)) 0 g10))=(G1D.y G7))) ((G1D.inf (List.getD (kzL (Fin.ofNat B4 5) (1:Int)) 0 g10)) == (G1D.inf G7)))) (Bool.not (Bool.and (decide ((G1D.x (List.getD (kzL (Fin.ofNat B4 5) (1:Int)) 0 g10))=(G1D.x G7))) (Bool.and (decide ((G1D.y (List.getD (kzL (Fin.ofNat B4 5) (1:Int)) 0 g10))=(G1D.y G7))) ((G1D.inf (List.getD (kzL (Fin.ofNat B4 5) (1:Int)) 0 g10)) == (G1D.inf G7)))))))),[]))):=by kernel_rfl
theorem I1x (k:U4):k.val<2 ^ 256:=by
 have h:B4=2 ^ 256:=by decide +kernel
 rw[<-h];exact k.isLt
theorem H9b (a:Fp×Fp×Fp) (q:U4) {n:Nat} (hn:n=64):pwE (A8e a) q=A4o (pkT pt0 a q.val n):=by
 unfold pwE;rw[B8p,G0y a q.val 64 64 (Nat.le_refl _),hn]
theorem G1q {a:G1D} (ha:onG a=true) (q:U4):pwE (A8e (inG a)) q=gP (D6 (pG a) q.val):=by
 obtain ⟨n,hn⟩:∃n:Nat,n=64:=⟨_,rfl⟩
 rw[H9b (inG a) q hn];exact A7x (H0n cv1 (z:=pt0) rfl (R7 ha).2 (A9g a) hn (I1x q))
theorem E1d (k:U4) {n:Int} (h:¬(n<1∨n > 4096)):kzL k n=pwL (A8e (inG G7)) k n.toNat:=by
 rw[E1e,if_neg h,E2d (by omega) E6r]
theorem G9u:(S4.D5 (1:Fr)).val=1:=by rw[S4.Q7];decide
theorem E8y (k:U4) {n:Nat} (h:0<n):(pwL (A8e (inG G7)) k n).getD 0 g10=G7:=by
 rw[E7a _ _ h];show pwE (A8e (inG G7)) (S4.D5 1)=G7;rw[G1q E6r,G9u,D6y];exact (R7 E6r).1
theorem F4k {a b:G1D} (h:a=b):(decide (a.x=b.x) && (decide (a.y=b.y) && (a.inf == b.inf)))=true:=by
 subst h;simp
theorem D3w:FnD Tryz.prog 25 [] (.v (.c (.bool true))) []:=by
 have hL:=E1d (Fin.ofNat B4 5) (n:=1) (by decide)
 have hlen:=D2f (A8e (inG G7)) (Fin.ofNat B4 5) (1:Int).toNat;have h0:=E8y (Fin.ofNat B4 5) (n:=(1:Int).toNat) (by decide)
 rw[<-hL] at hlen h0;have r:=I8a;generalize kzL (Fin.ofNat B4 5) 1=L at hlen h0 r;rw[if_pos rfl,F4k h0] at r;have hlen:L.length=1:=hlen;exact A5 F7d Tryz.func25 r ⟨by decide,by decide,by decide,by decide,by decide,by decide,by decide,by decide,rfl,by rw[hlen];rfl,by decide,by rw[hlen];decide,trivial⟩
def A5d:B2
 | []=>some ([],.v (.c (.bool true)),[])
 | _=>none
def knC:Env:=knB.set (C6 knB.fn 25 A5d)
theorem H6w:A9 Tryz.prog knC:=A8 F7d 25 A5d (A4 Tryz.func25 rfl rfl) fun args o r es h _=>by
 unfold A5d at h;split at h
 ·cases h;exact D3w
 ·cases h
end

section

def kaA:Env:=uzH.or knC
theorem H6p:A9 Tryz.prog kaA:=A5p A6y H6w
def H3r (a b:G1D) (k l:U4):List It:=[.ob (.fp a.x),.ob (.fp a.y),.bool a.inf,.ob (.fr k),.ob (.fr l),.ob (.fp b.x),.ob (.fp b.y),.bool b.inf]
theorem D6a (a b c d:U6) (i:Bool) (k l:U4) (xa ya:U6) (j:Bool) (xb yb:U6) (h:Bool):FnD Tryz.prog 20 [.v (.a [.ob (.fp a),.ob (.fp b),.ob (.fp c),.ob (.fp d),.bool i]),.v (.a [.ob (.fp xa),.ob (.fp ya),.bool j,.ob (.fr k),.ob (.fr l),.ob (.fp xb),.ob (.fp yb),.bool h])] (.t [.c (.bool (kcR ⟨a,b,c,d,i⟩ ⟨xa,ya,j⟩ ⟨xb,yb,h⟩ k l).1),.c (.int .i64 (kcR ⟨a,b,c,d,i⟩ ⟨xa,ya,j⟩ ⟨xb,yb,h⟩ k l).2)]) []:=E0x ⟨a,b,c,d,i⟩ ⟨xa,ya,j⟩ ⟨xb,yb,h⟩ k l
def A9k:B2
 | [.v (.a [.ob (.fp a),.ob (.fp b),.ob (.fp c),.ob (.fp d),.bool i]),.v (.a [.ob (.fp xa),.ob (.fp ya),.bool j,.ob (.fr k),.ob (.fr l),.ob (.fp xb),.ob (.fp yb),.bool h])]=>some ([],.t [.c (.bool (kcR ⟨a,b,c,d,i⟩ ⟨xa,ya,j⟩ ⟨xb,yb,h⟩ k l).1),.c (.int .i64 (kcR ⟨a,b,c,d,i⟩ ⟨xa,ya,j⟩ ⟨xb,yb,h⟩ k l).2)],[])
 | _=>none
def kaB:Env:=kaA.set (C6 kaA.fn 20 A9k)
theorem D0n:A9 Tryz.prog kaB:=A8 H6p 20 A9k (A4 Tryz.func20 rfl rfl) fun args o r es h _=>by
 unfold A9k at h;split at h
 ·cases h;exact D6a _ _ _ _ _ _ _ _ _ _ _ _ _
 ·cases h
end

section

theorem I8h (a b:U4):B5 kaB Tryz.f17 3000 [.v (.a [.ob (.fr a)]),.v (.a [.ob (.fr b)])] [] [] []=(some ([],((.v (.a [(.ob (.fr (S4.D5 ((S4.inF a)+(S4.inF b)))))])),[]))):=by kernel_rfl
theorem I8i (a b:U4):B5 kaB Tryz.f26 3000 [.v (.a [.ob (.fr a)]),.v (.a [.ob (.fr b)])] [] [] []=(some ([],((.v (.a [(.ob (.fr (S4.D5 ((S4.inF a)-(S4.inF b)))))])),[]))):=by kernel_rfl
theorem I9g (a:U4):B5 kaB Tryz.f28 3000 [.v (.a [.ob (.fr a)])] [] [] []=(some ([],((.v (.a [(.ob (.fp (G1D.x (Prod.fst (muR G7 a))))),(.ob (.fp (G1D.y (Prod.fst (muR G7 a))))),(.bool (G1D.inf (Prod.fst (muR G7 a))))])),[]))):=by kernel_rfl
theorem G6m (a b:U4):FnD Tryz.prog 17 [.v (.a [.ob (.fr a)]),.v (.a [.ob (.fr b)])] (.v (.a [.ob (.fr (S4.D5 (S4.inF a+S4.inF b)))])) []:=A5 D0n Tryz.func17 (I8h a b) trivial
theorem G7a (a b:U4):FnD Tryz.prog 26 [.v (.a [.ob (.fr a)]),.v (.a [.ob (.fr b)])] (.v (.a [.ob (.fr (S4.D5 (S4.inF a-S4.inF b)))])) []:=A5 D0n Tryz.func26 (I8i a b) trivial
theorem G8q (a:U4):FnD Tryz.prog 28 [.v (.a [.ob (.fr a)])] (.v (.a (muR G7 a).1.its)) []:=A5 D0n Tryz.func28 (I9g a) trivial
def C9q:B2
 | [.v (.a [.ob (.fr a)]),.v (.a [.ob (.fr b)])]=>some ([],.v (.a [.ob (.fr (S4.D5 (S4.inF a+S4.inF b)))]),[])
 | _=>none
def kaC:Env:=kaB.set (C6 kaB.fn 17 C9q)
theorem H6q:A9 Tryz.prog kaC:=A8 D0n 17 C9q (A4 Tryz.func17 rfl rfl) fun args o r es h _=>by
 unfold C9q at h;split at h
 ·cases h;exact G6m _ _
 ·cases h
def C9x:B2
 | [.v (.a [.ob (.fr a)]),.v (.a [.ob (.fr b)])]=>some ([],.v (.a [.ob (.fr (S4.D5 (S4.inF a-S4.inF b)))]),[])
 | _=>none
def kaD:Env:=kaC.set (C6 kaC.fn 26 C9x)
theorem H6r:A9 Tryz.prog kaD:=A8 H6q 26 C9x (A4 Tryz.func26 rfl rfl) fun args o r es h _=>by
 unfold C9x at h;split at h
 ·cases h;exact G7a _ _
 ·cases h
def D0w:B2
 | [.v (.a [.ob (.fr a)])]=>some ([],.v (.a (muR G7 a).1.its),[])
 | _=>none
def kaE:Env:=kaD.set (C6 kaD.fn 28 D0w)
theorem H6s:A9 Tryz.prog kaE:=A8 H6r 28 D0w (A4 Tryz.func28 rfl rfl) fun args o r es h _=>by
 unfold D0w at h;split at h
 ·cases h;exact G8q _
 ·cases h
end

section

/-- A polynomial, trimmed; its value at a place; what it is, divided. -/
def pTr (a:List U4):List U4:=(S4.O8 (a.map S4.inF)).map S4.D5
def pVl (a:List U4) (z:U4):U4:=S4.D5 (S4.K5 (S4.inF z) (a.map S4.inF)).2
def pQt (a:List U4) (z:U4):List U4:=(S4.O8 (S4.K5 (S4.inF z) (a.map S4.inF)).1).map S4.D5
theorem H0u (a:List U4) (h:a.length<=8796093022208):FnD Tryz.prog 31 [.v (.c (.sl (.fr a)))] (.v (.c (.slc 0 0 (pTr a).length 4))) [.sq (.fr (pTr a))]:=by
 have e:(pTr a).length=(S4.O8 (a.map S4.inF)).length:=List.length_map ..;rw[e];exact S4.G3l a h
theorem H0t (a:List U4) (z:U4) (h:a.length<=262144):FnD Tryz.prog 65 [.v (.c (.sl (.fr a))),.v (.a [.ob (.fr z)])] (.t [.c (.slc 0 0 (pQt a z).length 4),.a [.ob (.fr (pVl a z))],.c (.int .i64 0)]) [.sq (.fr (pQt a z))]:=by
 have e:(pQt a z).length=(S4.O8 (S4.K5 (S4.inF z) (a.map S4.inF)).1).length:=List.length_map ..;rw[e];exact S4.C8u a z h
theorem H0v (a:List U4) (z:U4) (h:a.length<=262144):FnD Tryz.prog 32 [.v (.c (.sl (.fr a))),.v (.a [.ob (.fr z)])] (.t [.a [.ob (.fr (pVl a z))],.c (.int .i64 0)]) []:=S4.H4f a z (by simpa [S4.A3t] using h)
def C4j:B2
 | [.v (.c (.sl (.fr a)))]=>some ([a.length<=8796093022208],.v (.c (.slc 0 0 (pTr a).length 4)),[.sq (.fr (pTr a))])
 | _=>none
def koA:Env:=kaE.set (C6 kaE.fn 31 C4j)
theorem H6x:A9 Tryz.prog koA:=A8 H6s 31 C4j (A4 Tryz.func31 rfl rfl) fun args o r es h ho=>by
 unfold C4j at h;split at h
 ·cases h;exact H0u _ ho.1
 ·cases h
def D9p:B2
 | [.v (.c (.sl (.fr a))),.v (.a [.ob (.fr z)])]=>some ([a.length<=262144],.t [.a [.ob (.fr (pVl a z))],.c (.int .i64 0)],[])
 | _=>none
def koB:Env:=koA.set (C6 koA.fn 32 D9p)
theorem H6y:A9 Tryz.prog koB:=A8 H6x 32 D9p (A4 Tryz.func32 rfl rfl) fun args o r es h ho=>by
 unfold D9p at h;split at h
 ·cases h;exact H0v _ _ ho.1
 ·cases h
def B4c:B2
 | [.v (.c (.sl (.fr a))),.v (.a [.ob (.fr z)])]=>some ([a.length<=262144],.t [.c (.slc 0 0 (pQt a z).length 4),.a [.ob (.fr (pVl a z))],.c (.int .i64 0)],[.sq (.fr (pQt a z))])
 | _=>none
def koC:Env:=koB.set (C6 koB.fn 65 B4c)
theorem E1a:A9 Tryz.prog koC:=A8 H6y 65 B4c (A4 Tryz.func65 rfl rfl) fun args o r es h ho=>by
 unfold B4c at h;split at h
 ·cases h;exact H0t _ _ ho.1
 ·cases h
theorem cmR (l:List G1D) (s:G2D) (a:List U4):let g:=pTr a;let d:Int:=(g.length:Nat);let b:=B3t (List.take (d).toNat (List.drop 0 l)) g;let f:=Prod.fst b;let h:Int:=l.length;B5 koC Tryz.f33 3000 [.v (.a (A5x l s)),.v (.c (.sl (.fr a)))] [false,false] [] []=(some ([((decide ((a.length:Int) > (262144:Int)))=false),(a.length<=8796093022208),((decide (d > h))=false),(0<=d),(d<=h),(0=0),(g.length=g.length),(4=4)],((.t [(.a [(.ob (.fp (G1D.x f))),(.ob (.fp (G1D.y f))),(.bool (G1D.inf f))]),(.c (.int .i64 (Prod.snd b)))]),[]))):=by intros;kernel_rfl
theorem cmK (l:List G1D) (s:G2D) (a:List U4):B5 koC Tryz.f33 3000 [.v (.a (A5x l s)),.v (.c (.sl (.fr a)))] [false,true] [] []=(some ([((decide ((a.length:Int) > (262144:Int)))=false),(a.length<=8796093022208),((decide ((((pTr a).length:Nat):Int) > (l.length:Int)))=true)],((.t [(.a [(.ob (.fp (0:U6))),(.ob (.fp (0:U6))),(.lit false)]),(.c (.int .i64 (50:Int)))]),[]))):=by kernel_rfl
/-- What Commit tells. -/
def cmt (l:List G1D) (a:List U4):G1D×Int:=if l.length<(pTr a).length then (g10,50) else B3t (l.take (pTr a).length) (pTr a)
theorem D9w (l:List G1D) (s:G2D) (a:List U4) (h1:a.length<=262144):FnD Tryz.prog 33 [.v (.a (A5x l s)),.v (.c (.sl (.fr a)))] (.t [.a (cmt l a).1.its,.c (.int .i64 (cmt l a).2)]) []:=by
 by_cases h2:l.length<(pTr a).length
 ·have e:cmt l a=(g10,50):=if_pos h2
  rw[e];exact (A5 E1a Tryz.func33 (cmK l s a) ⟨decide_eq_false (by omega),by omega,decide_eq_true (by omega),trivial⟩).conv (fun _ _ h=>h) fun y v hd=>A2j hd
 ·have e:cmt l a=B3t (l.take (pTr a).length) (pTr a):=if_neg h2
  have r:=cmR l s a;dsimp only at r;rw[Int.toNat_natCast,List.drop_zero] at r;rw[e];exact A5 E1a Tryz.func33 r ⟨decide_eq_false (by omega),by omega,decide_eq_false (by omega),by omega,by omega,rfl,rfl,rfl,trivial⟩
end

section
section
variable {w0:World} {F0:Nat->Prop} {K:Kp} {ac:List Act} {Q:Exit->Act->World->Prop} {cX:Ctx} {aX:Act}

def A8w:B2
 | [.v (.a [.sl (.g1 l),.ob (.fp xa),.ob (.fp xb),.ob (.fp ya),.ob (.fp yb),.bool i]),.v (.c (.sl (.fr a)))]=>some ([a.length<=262144],.t [.a (cmt l a).1.its,.c (.int .i64 (cmt l a).2)],[])
 | _=>none
def koD:Env:=koC.set (C6 koC.fn 33 A8w)
theorem A9m:A9 Tryz.prog koD:=A8 E1a 33 A8w (A4 Tryz.func33 rfl rfl) fun args o r es h ho=>by
 unfold A8w at h;split at h
 ·cases h;exact D9w _ ⟨_,_,_,_,_⟩ _ ho.1
 ·cases h
def H6g (T:Nat->Option Func) (f:Nat):Option Func:=if f=64 then some Tryz.f64 else T f
def koE:Env:={ koD with inl:=H6g koD.inl }
theorem E1b:A9 Tryz.prog koE:=by
 refine ⟨A9m.ty,A9m.mixed,A9m.fn,A9m.mu,fun f fn h=>?_,A9m.ex,A9m.inv⟩
 have h:H6g koD.inl f=some fn:=h;unfold H6g at h;split at h
 ·rename_i hf;cases h;subst hf;exact ⟨Tryz.func64,A4 Tryz.func64 rfl rfl⟩
 exact A9m.inl f fn h
theorem opN (l:List G1D) (s:G2D) (a:List U4) (z:U4):let b:=Prod.snd (cmt l a);let d:=a.length<=262144;let f:=(b == (0:Int))=false;let g:U6:=0;B5 koE Tryz.f30 3000 [.v (.a (A5x l s)),.v (.c (.sl (.fr a))),.v (.a [.ob (.fr z)])] [true,false,false,true] [] []=(some ([d,(((0:Int)==0)=true),d,f,d,f,((b != (0:Int))=true)],((.t [(.a [(.ob (.fp g)),(.ob (.fp g)),(.lit false),(.ob (.fr (0:U4))),(.ob (.fr (0:U4))),(.ob (.fp g)),(.ob (.fp g)),(.lit false)]),(.c (.int .i64 b))]),[]))):=by intros;kernel_rfl
theorem opY (l:List G1D) (s:G2D) (a:List U4) (z:U4):let d:Int:=0;let f:=Prod.fst (cmt l a);let g:=pQt a z;let b:=Prod.fst (cmt l g);let h:=a.length<=262144;let i:=(d==0)=true;B5 koE Tryz.f30 3000 [.v (.a (A5x l s)),.v (.c (.sl (.fr a))),.v (.a [.ob (.fr z)])] [true,true,true,false,true,false] [] []=(some ([h,i,h,(((Prod.snd (cmt l a)) == d)=true),h,i,((d != d)=false),(0=0),(g.length=g.length),(4=4),(g.length<=262144),i,(((Prod.snd (cmt l g)) != d)=false)],((.t [(.a [(.ob (.fp (G1D.x f))),(.ob (.fp (G1D.y f))),(.bool (G1D.inf f)),(.ob (.fr (S4.D5 (S4.inF z)))),(.ob (.fr (pVl a z))),(.ob (.fp (G1D.x b))),(.ob (.fp (G1D.y b))),(.bool (G1D.inf b))]),(.c (.int .i64 d))]),[]))):=by intros;kernel_rfl
theorem H0g (a:List U4) (z:U4):(pQt a z).length<=a.length:=by
 have:=S4.H2n (S4.K5 (S4.inF z) (a.map S4.inF)).1
 rw[S4.C0a,List.length_map] at this;unfold pQt;rw[List.length_map];exact this
/-- What Open tells. -/
def opA (l:List G1D) (a:List U4):G1D:=if (cmt l a).2=0 then (cmt l a).1 else g10
def opB (l:List G1D) (a:List U4) (z:U4):G1D:=if (cmt l a).2=0 then (cmt l (pQt a z)).1 else g10
def opK (l:List G1D) (a:List U4) (z:U4):U4:=if (cmt l a).2=0 then S4.D5 (S4.inF z) else 0
def opV (l:List G1D) (a:List U4) (z:U4):U4:=if (cmt l a).2=0 then pVl a z else 0
def opP (l:List G1D) (a:List U4) (z:U4):Prop:=(cmt l a).2=0->(cmt l (pQt a z)).2=0
def opX (l:List G1D) (a:List U4):Int:=(cmt l a).2
theorem F7n {x:Ctx} {i j m n p q k:It} {b c:Bool} {v:Value} (h:B8 x (.t [.a [i,j,.lit b,m,n,p,q,.lit c],.c k]) v):B8 x (.t [.a [i,j,.bool b,m,n,p,q,.bool c],.c k]) v:=by
 obtain ⟨vs,e,hc⟩:=h
 cases hc with
 | cons h1 h2=>
  refine ⟨_,e,.cons ?_ h2⟩
  obtain ⟨cs,e0,c1,r1,e1,h1,c2,r2,e2,h2,c3,r3,e3,⟨d,h3⟩,c4,r4,e4,h4,c5,r5,e5,h5,c6,r6,e6,h6,c7,r7,e7,h7,c8,r8,e8,⟨d2,h8⟩,h9⟩:=h1;exact ⟨cs,e0,c1,r1,e1,h1,c2,r2,e2,h2,c3,r3,e3,⟨d,by cases d<;>exact h3⟩,c4,r4,e4,h4,c5,r5,e5,h5,c6,r6,e6,h6,c7,r7,e7,h7,c8,r8,e8,⟨d2,by cases d2<;>exact h8⟩,h9⟩
theorem G0d (l:List G1D) (s:G2D) (a:List U4) (z:U4) (h1:a.length<=262144) (h2:(cmt l a).2=0->(cmt l (pQt a z)).2=0):FnD Tryz.prog 30 [.v (.a (A5x l s)),.v (.c (.sl (.fr a))),.v (.a [.ob (.fr z)])] (.t [.a (H3r (opA l a) (opB l a z) (opK l a z) (opV l a z)),.c (.int .i64 (opX l a))]) []:=by
 have hq:=H0g a z;by_cases h:(cmt l a).2=0
 ·have eA:opA l a=(cmt l a).1:=if_pos h
  have eB:opB l a z=(cmt l (pQt a z)).1:=if_pos h;have eK:opK l a z=S4.D5 (S4.inF z):=if_pos h;have eV:opV l a z=pVl a z:=if_pos h;have eX:opX l a=0:=h;have hc:=h2 h;rw[eA,eB,eK,eV,eX];exact A5 E1b Tryz.func30 (opY l s a z) ⟨h1,rfl,h1,by rw[h];rfl,h1,rfl,rfl,rfl,rfl,rfl,by omega,rfl,by rw[hc];rfl,trivial⟩
 ·have eA:opA l a=g10:=if_neg h
  have eB:opB l a z=g10:=if_neg h;have eK:opK l a z=0:=if_neg h;have eV:opV l a z=0:=if_neg h;have eX:opX l a=(cmt l a).2:=rfl;have n1:((cmt l a).2 == 0)=false:=by simpa using h
  have n2:((cmt l a).2 != 0)=true:=by simpa using h
  rw[eA,eB,eK,eV,eX];exact (A5 E1b Tryz.func30 (opN l s a z) ⟨h1,rfl,h1,n1,h1,n1,n2,trivial⟩).conv (fun _ _ h=>h) fun y v hd=>F7n hd
def C2u:B2
 | [.v (.a [.sl (.g1 l),.ob (.fp xa),.ob (.fp xb),.ob (.fp ya),.ob (.fp yb),.bool i]),.v (.c (.sl (.fr a))),.v (.a [.ob (.fr z)])]=>some ([a.length<=262144,opP l a z],.t [.a (H3r (opA l a) (opB l a z) (opK l a z) (opV l a z)),.c (.int .i64 (opX l a))],[])
 | _=>none
def koF:Env:=koE.set (C6 koE.fn 30 C2u)
theorem E1c:A9 Tryz.prog koF:=A8 E1b 30 C2u (A4 Tryz.func30 rfl rfl) fun args o r es h ho=>by
 unfold C2u at h;split at h
 ·cases h;exact G0d _ ⟨_,_,_,_,_⟩ _ _ ho.1 ho.2.1
 ·cases h
def H7i:List KI:=(run koF false 23 (⟨[.code (B9 Tryz.f7)],.normal,D7 Tryz.f7.ntmps [.v (.a [.ob (.fr dF)]),.v (.c (.int .i64 dF)),.v (.c (.sl (.fr dF))),.v (.a [.ob (.fr dF)]),.v (.a [.ob (.fr dF)])]⟩:Cfg) []).cfg.k
theorem lw (t:U4) (n:Int) (a:List U4) (z y:U4):let d:=ite ((1:Int) > n) (1:Int) n;let f:Int:=a.length;let b:=ite ((12:Int)<f) (12:Int) f;B1 [(0<=b),(b<=f)]->Sg Tryz.prog (D7 Tryz.f7.ntmps [.v (.a [.ob (.fr t)]),.v (.c (.int .i64 n)),.v (.c (.sl (.fr a))),.v (.a [.ob (.fr z)]),.v (.a [.ob (.fr y)])]) (B0 142 [1,2,5,8,9] [(.ii (ite ((10:Int)<d) (10:Int) d)),(.ci (.sl (.fr (List.take (b).toNat (List.drop 0 a))))),.pt 16 0,.pt 32 0,.pt 48 0] [16,32,48] [(eF_ [.ob (.fr t)]),(eF_ [.ob (.fr z)]),(eF_ [.ob (.fr y)])] 240 [] []) .normal (H7i) ([.code (B9 Tryz.f7)]):=sgA false 23 [] E1c
def lwS (t:U4) (n :Int) (a:List U4) (z y:U4):St:=B0 142 [1,2,5,8,9] [.v (.c (.int .i64 n)),.v (.c (.sl (.fr a))),.pt 16 0,.pt 32 0,.pt 48 0] [16,32,48] [(eF_ [.ob (.fr t)]),(eF_ [.ob (.fr z)]),(eF_ [.ob (.fr y)])] 240 [] []
theorem G8n (t:U4) (n:Int) (a:List U4) (z y:U4):let c:=kzL t n;let d:=opB c a z;let f:=opA c a;let g:U6:=0;let b:=Bool.and (decide ((G1D.x f)=g)) (Bool.and (decide ((G1D.y f)=g)) (Bool.and ((G1D.inf f) == false) (Bool.and (decide ((opK c a z)=(0:U4))) (Bool.and (decide ((opV c a z)=(0:U4))) (Bool.and (decide ((G1D.x d)=g)) (Bool.and (decide ((G1D.y d)=g)) ((G1D.inf d) == false)))))));G5 koF Tryz.f7 false 3000 (⟨H7i,.normal,lwS t n a z y⟩) [false,true,true,true,true] [] []=(some ([(a.length<=262144),(opP c a z),(((kzE n) != (0:Int))=false),(a.length<=8796093022208),((decide ((((pTr a).length:Nat):Int) > n))=true),(true=true),(((opX c a) == (50:Int))=true)],((.ci (.bool (ite (true=true) b (Bool.not b)))),[]))):=by intros;kernel_rfl
theorem G8o (t:U4) (n:Int) (a:List U4) (z y:U4):let b:=kzL t n;let h:=true=true;let j:=decide ((S4.D5 (S4.inF y))=(pVl a z));let k:=Prod.fst (cmt b a);let l:=opA b a;let c:=Bool.and (decide ((G1D.x l)=(G1D.x k))) (Bool.and (decide ((G1D.y l)=(G1D.y k))) ((G1D.inf l) == (G1D.inf k)));let m:=a.length<=262144;let o:=decide ((opV b a z)=(pVl a z));let p:Int:=0;let q:=opK b a z;let f:=kcR (kzS t n) l (opB b a z) q (opV b a z);let g:=kcR (kzS t n) l (opB b a z) q y;let d:=(Prod.fst g) == (ite h j (Bool.not j));let i:=decide (q=(S4.D5 (S4.inF z)));G5 koF Tryz.f7 false 3000 (⟨H7i,.normal,lwS t n a z y⟩) [false,false,true,true,true,true,true,true,true,true,true,true,true] [] []=(some ([m,(opP b a z),(((kzE n) != p)=false),(a.length<=8796093022208),((decide ((((pTr a).length:Nat):Int) > n))=false),m,m,h,(((opX b a) == p)=true),((p==0)=true),(((Prod.snd (cmt b a)) == p)=true),(((Prod.snd f) == p)=true),(((Prod.snd g) == p)=true),((ite h o (Bool.not o))=true),((ite h c (Bool.not c))=true),((ite h i (Bool.not i))=true),((Prod.fst f)=true)],((.ci (.bool (ite h d (Bool.not d)))),[]))):=by intros;kernel_rfl
end
end

section

theorem G9m {P:Pt Fp} (hP:OnC fp4 P) (m n:Nat):D6 (D6 P m) n=D6 (D6 P n) m:=by rw[<-Q6 cv1 hP,<-Q6 cv1 hP,Nat.mul_comm]
theorem In1.mul {a:G1D} (h:In1 a) (k:U4):In1 (A0o a k):=⟨D1u h.o k,C1j (D1u h.o k) (by rw[G0t h.o,G9m h.c,h.r,Z4])⟩
section
variable {F:Type} [Fld F] [DecidableEq F] {b:F}
theorem H7n (hc:Cv b) {X Y:CP b} {n:Nat} (h:Y.1=D6 X.1 n):letI:=M8 hc;Y=mlt X n:=Subtype.ext (h.trans (A4l hc X n).symm)
end
section
variable {G:Type} [J7 G]
end
theorem E6z {b:G2D} (h:I6 b=true):(ptQ b h).1=pG2 b:=rfl
theorem G1l {b:G2D} (h:I6 b=true) (l:U4) (k:I6 (X9 b l)=true):ptQ (X9 b l) k=mlt (ptQ b h) l.val:=by
 have e:(ptQ (X9 b l) k).1=D6 (ptQ b h).1 l.val:=by
  rw[E6z,E6z];exact H0d h l
 generalize l.val=n at e ⊢
 exact H7n cv2 e
theorem In2.mul {b:G2D} (h:In2 b) (l:U4):In2 (X9 b l):=⟨E6t h.o l,B8d (E6t h.o l) (by rw[G1l h.o];exact F1t h.s l.val)⟩
end

section

theorem E5a:et (0:F12)=0:=by
 have e:cj (0:F12)=0:=E2.ext' rfl (by show -(0:F6)=0;grind)
 unfold et;rw[e];generalize A3q (0:F12)=i;grind
theorem G6e (u v:F12):et (u*v)=et u*et v:=by
 by_cases hu:u=0
 ·subst hu
  have e:(0:F12)*v=0:=by grind
  rw[e,E5a];generalize et v=i;grind
 ·by_cases hv:v=0
  ·subst hv
   have e:u*(0:F12)=0:=by grind
   rw[e,E5a];generalize et u=i;grind
  ·exact A1s H9 hu hv
theorem F5d (u v:F12):N7 (u*v)=N7 u*N7 v:=by rw[A3l,A3l,A3l,G6e,C0x]
/-- The generators' pairing. -/
def ge:F12:=prg (some gPt) ptH
theorem G7d (i j:Nat):prg (D6 (some gPt) i) (mlt ptH j)=A7 ge (i*j):=G1j i j
theorem D0a (i:Nat):prg (D6 (some gPt) i) ptH=A7 ge i:=B5t (P:=some gPt) D5l H_r i
theorem F5o (n:Nat):A7 ge n=1↔rN ∣ n:=H4x n
theorem C9z (m n:Nat):A7 ge (m+n)=A7 ge m*A7 ge n:=Z9 ge m n
theorem G7e {m n:Nat}:A7 ge m=A7 ge n↔m % rN=n % rN:=by
 have h1:A7 ge (m*rN)=1:=(F5o _).2 ⟨m,Nat.mul_comm _ _⟩;have h2:A7 ge (m*rN)=A7 ge m*A7 ge (m*(rN-1)):=by
  rw[<-C9z];congr 1
  rw[Nat.mul_sub,Nat.mul_one];have:m<=m*rN:=Nat.le_mul_of_pos_right m E7e
  omega
 have key:A7 ge m=A7 ge n↔A7 ge (n+m*(rN-1))=1:=by
  rw[C9z,<-h1,h2];constructor
  ·intro h
   rw[h]
  ·intro h
   have h3:A7 ge n*A7 ge (m*(rN-1))*A7 ge m=A7 ge m*A7 ge (m*(rN-1))*A7 ge m:=by rw[h]
   rw[h1] at h2;generalize A7 ge n=a at *;generalize A7 ge m=b at *;generalize A7 ge (m*(rN-1))=c at *;have e1:a*c*b=a*(b*c):=by clear h h3 h1 h2;grind
   rw[e1,<-h2] at h3;clear h h1 h2 e1;grind
 rw[key,F5o,Nat.dvd_iff_mod_eq_zero];have e:m+m*(rN-1)=m*rN:=by
  rw[Nat.mul_sub,Nat.mul_one];have:m<=m*rN:=Nat.le_mul_of_pos_right m E7e
  omega
 have e2:(m+m*(rN-1)) % rN=0:=by rw[e];exact Nat.mul_mod_left _ _
 generalize m*(rN-1)=q at *;have hr:=E7e;generalize rN=r at *;constructor
 ·intro h
  obtain ⟨a,ha⟩:=Nat.dvd_of_mod_eq_zero h;obtain ⟨b,hb⟩:=Nat.dvd_of_mod_eq_zero e2;have h5:m+r*a=n+r*b:=by omega
  rw[<-Nat.add_mul_mod_self_left m r a,h5,Nat.add_mul_mod_self_left]
 ·intro h
  rw[Nat.add_mod,<-h,<-Nat.add_mod,e2]
end

section

theorem H5y (c k1 k2 w k3:Nat):prg (C5 (D6 (D6 (some gPt) c) k1) (C5 (D6 (some gPt) k2) (C5 (D6 (D6 (some gPt) w) k3) none))) ptH=A7 ge (c*k1+(k2+w*k3)):=by
 have hG:OnC fp4 (some gPt):=D5l;have h1:=J0 cv1 (J0 cv1 hG c) k1;have h2:=J0 cv1 hG k2;have h3:=J0 cv1 (J0 cv1 hG w) k3;have h4:OnC fp4 (C5 (D6 (D6 (some gPt) w) k3) none):=J8 cv1 _ _ h3 (show OnC fp4 (none:Pt Fp) from True.intro)
 rw[B3h h1 (J8 cv1 _ _ h2 h4) H_r,B3h h2 h4 H_r,B3h h3 (show OnC fp4 (none:Pt Fp) from True.intro) H_r,A7y,<-Q6 cv1 hG,<-Q6 cv1 hG,D0a,D0a,D0a,C9z,C9z]
 generalize A7 ge (c*k1)=a1;generalize A7 ge k2=a2;generalize A7 ge (w*k3)=a3;grind
theorem H5q (c y z w:Fr):((c-y)+z*w).val=(c.val*1+((0-y).val+w.val*z.val)) % rN:=by
 have e:(c-y)+z*w=c+((0-y)+w*z):=by grind
 rw[e];show (c.val+((0-y).val+(w.val*z.val) % rN) % rN) % rN=_;rw[Nat.mul_one,Nat.add_mod_mod,<-Nat.add_assoc,Nat.add_mod_mod,Nat.add_assoc]
theorem G6z (t w:Fr):(t*w).val=(w.val*t.val) % rN:=by
 show (t.val*w.val) % rN=_;rw[Nat.mul_comm]
theorem C1d (k:U4):pG (A0o G7 k)=D6 (some gPt) k.val:=by rw[G0t A6d,E1u]
theorem D5m (k:U4) (h:I6 (X9 O0 k)=true):ptQ (X9 O0 k) h=mlt ptH k.val:=by rw[G1l A7v,D2e]
theorem G8b (c w z y:U4) (h:onG (kcL (A0o G7 c) (A0o G7 w) z y)=true):N7 (A4k (kcL (A0o G7 c) (A0o G7 w) z y) O0)=A7 ge (c.val*(S4.D5 (1:Fr)).val+((S4.D5 (0-S4.inF y)).val+w.val*(S4.D5 (S4.inF z)).val)):=by
 rw[F7q h A7v D5o,D2e,F6x z y (D1u A6d c) (D1u A6d w),C3b,<-H5y];show prg (C5 (D6 (pG (A0o G7 c)) _) (C5 (D6 (pG G7) _) (C5 (D6 (pG (A0o G7 w)) _) none))) ptH=_;rw[C1d,C1d,E1u]
theorem F7b (w t:U4) (h:onG (B7r (A0o G7 w))=true) (hs:In2 (X9 O0 t)):N7 (A4k (B7r (A0o G7 w)) (X9 O0 t))*A7 ge (w.val*t.val)=1:=by
 rw[F7q h hs.o hs.g,G0u,C1d,D5m,<-G7d];have hA:SQ (mlt ptH t.val):=by
  have:=hs.s
  rw[D5m] at this;exact this
 exact G1k (J0 cv1 (P:=some gPt) D5l w.val) hA
/-- What the numbers of an opening must be. -/
def G4c (t c z y w:U4):Bool:=decide (S4.D5 (S4.inF (S4.D5 (S4.inF c-S4.inF y))+S4.inF (S4.D5 (S4.inF z*S4.inF w)))=S4.D5 (S4.inF t*S4.inF w))
theorem M9 (x:Fr):S4.inF (S4.D5 x)=x:=by
 refine Fin.ext ?_
 show (S4.D5 x).val % rN=x.val;rw[S4.Q7,Nat.mod_eq_of_lt x.isLt]
theorem C3a {x y:Fr}:S4.D5 x=S4.D5 y↔x=y:=⟨fun h=>by rw[<-M9 x,h,M9],fun h=>by rw[h]⟩
theorem I5o (t c z y w:U4):kcR (X9 O0 (S4.D5 (S4.inF t))) (A0o G7 (S4.D5 (S4.inF c))) (A0o G7 (S4.D5 (S4.inF w))) z y=(G4c t c z y w,0):=by
 have ha:=A1f.mul (S4.D5 (S4.inF c));have hb:=A1f.mul (S4.D5 (S4.inF w));have hs:=E5w.mul (S4.D5 (S4.inF t));have e0:B6i (X9 O0 (S4.D5 (S4.inF t))) (A0o G7 (S4.D5 (S4.inF c))) (A0o G7 (S4.D5 (S4.inF w)))=0:=by unfold B6i;rw[ha.o,hb.o,hs.o,ha.g,hb.g,hs.g];rfl
 have hl:=H6t z y ha hb;unfold kcR;rw[if_pos e0,H0k hl hb.neg E5w hs];have hX:=G8b (S4.D5 (S4.inF c)) (S4.D5 (S4.inF w)) z y hl.o;have hY:=F7b (S4.D5 (S4.inF w)) (S4.D5 (S4.inF t)) hb.neg.o hs;generalize A4k (kcL (A0o G7 (S4.D5 (S4.inF c))) (A0o G7 (S4.D5 (S4.inF w))) z y) O0=L1 at hX ⊢
 generalize A4k (B7r (A0o G7 (S4.D5 (S4.inF w)))) (X9 O0 (S4.D5 (S4.inF t)))=L2 at hY ⊢
 refine congrArg (fun q=>(q,(0:Int))) ?_
 have e1:(1:F12)*L1*L2=L1*L2:=by clear hX hY;grind
 rw[Bool.eq_iff_iff,E8v,e1,F5d];have e2:N7 L1*N7 L2=1↔N7 L1=A7 ge ((S4.D5 (S4.inF w)).val*(S4.D5 (S4.inF t)).val):=by
  generalize A7 ge ((S4.D5 (S4.inF w)).val*(S4.D5 (S4.inF t)).val)=E at hY ⊢
  clear hX;generalize N7 L1=A at hY ⊢
  generalize N7 L2=B at hY ⊢
  constructor
  ·intro h
   have:A*B*E=E:=by rw[h];clear h hY;grind
   have e3:A*B*E=A*(B*E):=by clear this h hY;grind
   rw[e3,hY] at this;clear e3 h hY;grind
  ·intro h
   rw[h];clear h;grind
 rw[e2,hX,G7e,S4.Q7,S4.Q7,S4.Q7,S4.Q7,S4.Q7,S4.Q7];unfold G4c;rw[decide_eq_true_iff,M9,M9,C3a];have k1:=H5q (S4.inF c) (S4.inF y) (S4.inF z) (S4.inF w);have k2:=G6z (S4.inF t) (S4.inF w);have k3:((1:Fr).val)=1:=by decide +kernel
 rw[k3,<-k1,<-k2];exact ⟨fun h=>Fin.ext h,fun h=>by rw[h]⟩
end

section

section
variable {r:Nat} [NeZero r]
theorem H5i (E z t v q q' g:Fin r):E*(t-z)+v+q*(0-z)*g+(q' * (0-z)+q+0)*(g*t)=(E+q*g)*(t-z)+v+q' * (0-z)*(g*t):=by grind
theorem H5j (z t v q:Fin r):0+(q*(0-z)+0+v)*1=0*(t-z)+v+q*(0-z)*1:=by grind
theorem H4w (a z b:Fin r) (h:a*(0-z)+b+0=0) (k:a=0):b=0:=by grind
theorem H5h (E z t v g:Fin r):E*(t-z)+v+0*(0-z)*g=E*(t-z)+v:=by grind
theorem H8k (x v w z t:Fin r) (h:x=w*(t-z)+v):x-v+z*w=t*w:=by grind
theorem H8j (x v w z t y:Fin r) (h:x=w*(t-z)+v):(x-y+z*w=t*w)↔y=v:=by
 constructor
 ·intro k;grind
 ·intro k;grind
end
/-- The value of what is divided. -/
theorem F4p {Q A g:Nat->Fr} {z t v:Fr} (h:∀i,Q i*(0-z)+(if 1<=i then Q (i-1) else 0)+(if i=0 then v else 0)=A i) (g0:g 0=1) (gs:∀i,g (i+1)=g i*t):∀n,S4.evF A g (n+1)=S4.evF Q g n*(t-z)+v+Q n*(0-z)*g n
 | 0=>by
  show 0+A 0*g 0=0*(t-z)+v+Q 0*(0-z)*g 0;have h0:=h 0;rw[if_neg (by decide),if_pos rfl] at h0
  rw[<-h0,g0];exact H5j z t v (Q 0)
 | n+1=>by
  show S4.evF A g (n+1)+A (n+1)*g (n+1)=(S4.evF Q g n+Q n*g n)*(t-z)+v+Q (n+1)*(0-z)*g (n+1);have h1:=h (n+1);rw[if_pos (by omega),if_neg (by omega),Nat.add_sub_cancel] at h1
  rw[F4p h g0 gs n,<-h1,gs n];exact H5i _ z t v _ _ _
theorem E4y (z:Fr) {l:List Fr} {d:Nat} (h:∀i,d<i->S4.cf l i=0):∀k j,d<=j->(S4.K5 z l).1.length<=j+k->S4.cf (S4.K5 z l).1 j=0
 | 0,j,_,hk=>S4.F2w (by omega)
 | k+1,j,hj,hk=>by
  have ih:=E4y z h k (j+1) (by omega) (by omega)
  have hc:=S4.C9h z l (j+1);rw[if_pos (by omega),if_neg (by omega),Nat.add_sub_cancel,h (j+1) (by omega)] at hc
  exact H4w _ _ _ hc ih
theorem I7m {l:List Fr} {d:Nat} (h:∀i,d<=i->S4.cf l i=0):(S4.O8 l).length<=d:=by
 rw[S4.A4c];rcases S4.C4g l l.length with e | e
 ·omega
 ·by_cases k:S4.R2 l l.length<=d
  ·exact k
  ·exact absurd (h _ (by omega)) e
theorem H7k (l:List Fr):(l.map S4.D5).map S4.inF=l:=by
 rw[List.map_map];exact (List.map_congr_left fun x _=>M9 x).trans (List.map_id l)
theorem I1l {α:Type} (l:List α) (d:α) {i n:Nat} (h:i<n):(l.take n).getD i d=l.getD i d:=by
 rw[List.getD_eq_getElem?_getD,List.getD_eq_getElem?_getD,List.getElem?_take_of_lt h]
/-- As often as an element says. -/
def gFx (v:Fr):G1D:=gP (D6 (pG G7) v.val)
theorem G7b (n:Nat) (v:Fr) (h:n % rN=v.val):gP (D6 (pG G7) n)=gFx v:=by
 rw[F9m cv1 A1f.c A1f.r n,h];rfl
theorem F5n (v:Fr):gFx v=A0o G7 (S4.D5 v):=by
 unfold gFx;rw[D1i A6d,S4.Q7]
def pwF (k:U4) (i:Nat):Fr:=S4.inF (pwK k i)
theorem G1s (k:U4):pwF k 0=1:=M9 1
theorem G1r (k:U4) (i:Nat):pwF k (i+1)=pwF k i*S4.inF k:=M9 _
theorem H0w (k:U4) (i:Nat):(pwK k i).val % rN=(pwF k i).val:=rfl
def H2g (u v:Nat->Nat):Nat->Nat
 | 0=>0
 | n+1=>H2g u v n+v n*u n
theorem E5q {ks:List Nat} {Ps:List (Pt Fp)} {u v:Nat->Nat} (hu:∀i,i<Ps.length->ks.getD i 0=u i) (hv:∀i,i<Ps.length->Ps.getD i none=D6 (pG G7) (v i)):∀n,n<=Ps.length->gsl ks Ps n=D6 (pG G7) (H2g u v n)
 | 0,_=>rfl
 | n+1,h=>by
  show C5 (gsl ks Ps n) (D6 (Ps.getD n none) (ks.getD n 0))=D6 (pG G7) (H2g u v n+v n*u n);rw[E5q hu hv n (by omega),hu n (by omega),hv n (by omega),Q5 cv1 A1f.c,Q6 cv1 A1f.c]
theorem H7o {r s e a x b y:Nat} (h1:s % r=e) (h2:a % r=x) (h3:b % r=y):(s+a*b) % r=(e+y*x % r) % r:=by
 subst h1 h2 h3;rw[Nat.mul_comm a b,Nat.add_mod s (b*a),Nat.mul_mod b a]
theorem D8m {u v:Nat->Nat} {f g:Nat->Fr} (hu:∀i,u i % rN=(f i).val) (hv:∀i,v i % rN=(g i).val):∀n,H2g u v n % rN=(S4.evF f g n).val
 | 0=>Nat.zero_mod _
 | n+1=>H7o (D8m hu hv n) (hv n) (hu n)
theorem F7g (k:U4) {n:Nat} (h1:1<=n) (h2:n<=4096):(kzL k (n:Int)).length=n:=by
 rw[E1d k (by omega),D2f,Int.toNat_natCast]
theorem H7a (k:U4) {n:Nat} (h1:1<=n) (h2:n<=4096) {i:Nat} (h:i<n):(kzL k (n:Int)).getD i g10=gP (D6 (pG G7) (pwK k i).val):=by
 rw[E1d k (by omega),E7a _ _ (by rw[Int.toNat_natCast];exact h),G1q A6d]
/-- A commitment is the generator, as often as the value says. -/
theorem F3j (k:U4) {n:Nat} (h1:1<=n) (h4:n<=4096) (a:List U4) (h:(pTr a).length<=n):cmt (kzL k (n:Int)) a=(gFx (S4.evF (S4.cf (a.map S4.inF)) (pwF k) n),0):=by
 have hl:=F7g k h1 h4;have hg:=fun i=>H7a k h1 h4 (i:=i)
 have hm:(pTr a).length=S4.R2 (a.map S4.inF) (a.map S4.inF).length:=by unfold pTr;rw[List.length_map,S4.A4c]
 have hget:∀i,i<(pTr a).length->(pTr a).getD i 0=S4.D5 (S4.cf (a.map S4.inF) i):=fun i hi=>by
  unfold pTr at hi ⊢
  rw[List.length_map] at hi;rw[A3u S4.D5 _ 0 0 hi,<-S4.E7l];rfl
 have hzero:∀i,(pTr a).length<=i->S4.cf (a.map S4.inF) i=0:=fun i hi=>S4.B6g _ _ (by omega)
 unfold cmt;rw[if_neg (by omega)]
 generalize kzL k (n:Int)=L at hl hg ⊢
 generalize hks:pTr a=ks at hm h hget hzero ⊢
 generalize a.map S4.inF=A at hget hzero ⊢
 clear hm hks;have htl:(L.take ks.length).length=ks.length:=by rw[List.length_take];omega
 have hpt:∀i,i<ks.length->(L.take ks.length).getD i g10=gP (D6 (pG G7) (pwK k i).val):=fun i hi=>by rw[I1l _ _ hi];exact hg i (by omega)
 generalize L.take ks.length=Ls at htl hpt ⊢
 have hoff:Ls.any A0v=false:=by
  rw[List.any_eq_false];intro x hx;obtain ⟨i,hi,rfl⟩:=List.mem_iff_getElem.1 hx;have e:=hpt i (by omega)
  rw[List.getD_eq_getElem?_getD,List.getElem?_eq_getElem hi] at e;have e:Ls[i]=gP (D6 (pG G7) (pwK k i).val):=e;rw[e];unfold A0v;rw[A9y (J0 cv1 A1f.c _)];decide
 rw[D3e (E4d (by omega) (by omega) hoff),G2p (Eq.refl 52) htl.symm hoff]
 have hPl:(Ls.map pG).length=ks.length:=by rw[List.length_map,htl]
 have hPon:∀Q,Q∈Ls.map pG->OnC fp4 Q:=fun Q hQ=>by
  obtain ⟨x,hx,rfl⟩:=List.mem_map.1 hQ;rw[List.any_eq_false] at hoff;have:=hoff x hx
  unfold A0v at this;exact (R7 (by simpa using this)).2
 have hs:=F5y (ks.map (·.val)) (Ls.map pG) (by rw[List.length_map,hPl]) hPon (Ls.map pG).length (Nat.le_refl _)
 rw[List.take_length,List.take_of_length_le (by rw[List.length_map,hPl];exact Nat.le_refl _)] at hs
 rw[<-hs,E5q (u:=fun i=>(S4.cf A i).val) (v:=fun i=>(pwK k i).val) (fun i hi=>by
   rw[hPl] at hi;rw[A3u (fun x:U4=>x.val) ks 0 0 hi,hget i hi,S4.Q7]) (fun i hi=>by
   rw[hPl] at hi;rw[A3u pG Ls g10 none (by omega),hpt i hi,C3b]) _ (Nat.le_refl _),hPl]
 rw[G7b _ _ (D8m (fun i=>Nat.mod_eq_of_lt (S4.cf A i).isLt) (H0w k) ks.length),S4.C0f (S4.cf A) (pwF k) hzero n h]
theorem H8o (a:List U4) (z:U4):(pQt a z).map S4.inF=S4.O8 (S4.K5 (S4.inF z) (a.map S4.inF)).1:=H7k _
/-- What is committed and what its quotient is. -/
theorem G9v (k:U4) {n:Nat} (h1:1<=n) (h4:n<=4096) (a:List U4) (z:U4) (h:(pTr a).length<=n):∃x w:Fr,cmt (kzL k (n:Int)) a=(gFx x,0)∧cmt (kzL k (n:Int)) (pQt a z)=(gFx w,0)∧x=w*(S4.inF k-S4.inF z)+S4.inF (pVl a z):=by
 have hzero:∀i,n-1<i->S4.cf (a.map S4.inF) i=0:=fun i hi=>S4.B6g _ _ (by
  have hm:(pTr a).length=S4.R2 (a.map S4.inF) (a.map S4.inF).length:=by unfold pTr;rw[List.length_map,S4.A4c]
  omega)
 have hq:=fun j hj=>E4y (S4.inF z) hzero _ j hj (Nat.le_add_left (S4.K5 (S4.inF z) (a.map S4.inF)).1.length j)
 have hcf:S4.cf ((pQt a z).map S4.inF)=S4.cf (S4.K5 (S4.inF z) (a.map S4.inF)).1:=by
  rw[H8o];exact funext fun i=>S4.E7l _ i
 have hqt:(pTr (pQt a z)).length<=n:=by
  unfold pTr;rw[List.length_map];refine I7m fun i hi=>?_
  rw[hcf];exact hq i (by omega)
 refine ⟨_,_,F3j k h1 h4 a h,F3j k h1 h4 (pQt a z) hqt,?_⟩
 rw[hcf];have ev:=F4p (g:=pwF k) (t:=S4.inF k) (S4.C9h (S4.inF z) (a.map S4.inF)) (G1s k) (G1r k) (n-1);have hn:n-1+1=n:=by omega
 have hl:S4.evF (S4.cf (S4.K5 (S4.inF z) (a.map S4.inF)).1) (pwF k) n=S4.evF (S4.cf (S4.K5 (S4.inF z) (a.map S4.inF)).1) (pwF k) (n-1):=S4.C0f _ _ (fun i hi=>hq i hi) n (by omega)
 rw[hn,hq (n-1) (Nat.le_refl _)] at ev;rw[ev,hl];have e:S4.inF (pVl a z)=(S4.K5 (S4.inF z) (a.map S4.inF)).2:=M9 _;rw[e];generalize S4.evF (S4.cf (S4.K5 (S4.inF z) (a.map S4.inF)).1) (pwF k) (n-1)=E;generalize (S4.K5 (S4.inF z) (a.map S4.inF)).2=v;generalize pwF k (n-1)=g;generalize S4.inF z=b;generalize S4.inF k=c;exact H5h E b c v g
end

section

theorem H6z (t:U4) {n:Nat} (h1:1<=n) (h4:n<=4096):kzS t (n:Int)=X9 O0 (S4.D5 (S4.inF t)):=by
 rw[E1f,if_neg (by omega),D1h _ A7v]
/-- What Check tells of an opening whose points are multiples of the generator. -/
theorem F6z (t:U4) {n:Nat} (h1:1<=n) (h4:n<=4096) (x w:Fr) (z y:U4):kcR (kzS t (n:Int)) (gFx x) (gFx w) z y=(decide (x-S4.inF y+S4.inF z*w=S4.inF t*w),0):=by
 have e1:gFx x=A0o G7 (S4.D5 (S4.inF (S4.D5 x))):=by rw[M9,F5n]
 have e2:gFx w=A0o G7 (S4.D5 (S4.inF (S4.D5 w))):=by rw[M9,F5n]
 rw[H6z t h1 h4,e1,e2,I5o];unfold G4c;rw[M9,M9,M9,M9];refine congrArg (fun q=>(q,(0:Int))) ?_
 rw[Bool.eq_iff_iff,decide_eq_true_iff,decide_eq_true_iff,C3a]
theorem I0r {b q:Bool} (h:q=b):(if true=true then (b == (if true=true then q else !q)) else !(b == (if true=true then q else !q)))=true:=by subst h;cases q<;>rfl
theorem E2s {b:Bool} (h:b=true):(if true=true then b else !b)=true:=by subst h;rfl
theorem H2t:(decide (g10.x=0) && (decide (g10.y=0) && ((g10.inf == false) && (decide ((0:U4)=0) && (decide ((0:U4)=0) && (decide (g10.x=0) && (decide (g10.y=0) && (g10.inf == false))))))))=true:=by decide +kernel
theorem F4l {a b:G1D} (h:a=b):(decide (a.x=b.x) && (decide (a.y=b.y) && (a.inf == b.inf)))=true:=by
 subst h;simp
theorem I9f (n:Int):∃m:Nat,1<=m∧m<=10∧(ite ((10:Int)<(ite ((1:Int) > n) (1:Int) n)) (10:Int) (ite ((1:Int) > n) (1:Int) n))=(m:Int):=by
 refine ⟨(ite ((10:Int)<(ite ((1:Int) > n) (1:Int) n)) (10:Int) (ite ((1:Int) > n) (1:Int) n)).toNat,?_,?_,?_⟩<;>(split<;>split<;>omega)
theorem I5r (k:Nat):(ite ((12:Int)<(k:Int)) (12:Int) (k:Int))=((min 12 k:Nat):Int):=by split<;>omega
theorem D0q (t:U4) (n:Int) (a:List U4) (z y:U4):FnD Tryz.prog 7 [.v (.a [.ob (.fr t)]),.v (.c (.int .i64 n)),.v (.c (.sl (.fr a))),.v (.a [.ob (.fr z)]),.v (.a [.ob (.fr y)])] (.v (.c (.bool true))) []:=by
 refine J3 (fn:=Tryz.f7) (c:=B9 Tryz.f7) Tryz.func7 rfl rfl fun x0 a0 hk hF hs=>?_
 refine lw t n a z y (by rw[I5r];exact ⟨by omega,by omega,trivial⟩) hs fun ac cY aY hs1=>?_
 obtain ⟨m,m1,m10,em⟩:=I9f n;rw[em,I5r,Int.toNat_natCast,List.drop_zero] at hs1;have hA:(a.take (min 12 a.length)).length<=12:=by rw[List.length_take];omega
 generalize a.take (min 12 a.length)=A at hs1 hA;have hs1:Sim x0.w x0.F V9 ac (lwS t (m:Int) A z y) cY aY:=hs1;have hE:kzE (m:Int)=0:=if_neg (by omega)
 have hL:=F7g t m1 (show m<=4096 by omega)
 by_cases hl:m<(pTr A).length
 ·have hc:cmt (kzL t (m:Int)) A=(g10,50):=if_pos (by rw[hL];exact hl)
  have hne:¬(cmt (kzL t (m:Int)) A).2=0:=by rw[hc];decide
  have eA:opA (kzL t (m:Int)) A=g10:=if_neg hne;have eB:opB (kzL t (m:Int)) A z=g10:=if_neg hne;have eK:opK (kzL t (m:Int)) A z=0:=if_neg hne;have eV:opV (kzL t (m:Int)) A z=0:=if_neg hne;have eX:opX (kzL t (m:Int)) A=50:=congrArg Prod.snd hc;have hP:opP (kzL t (m:Int)) A z:=fun k=>absurd k hne
  have r:=G8n t (m:Int) A z y;dsimp only at r;rw[eA,eB,eK,eV,eX,if_pos rfl,H2t,hE] at r;exact H2 E1c hk hF r ⟨by omega,hP,rfl,by omega,decide_eq_true (by omega),rfl,rfl,trivial⟩ (fun y v hd=>hd) hs1
 ·obtain ⟨x,w,h1,h2,h3⟩:=G9v t m1 (show m<=4096 by omega) A z (by omega)
  have h0:(cmt (kzL t (m:Int)) A).2=0:=congrArg Prod.snd h1;have h10:(cmt (kzL t (m:Int)) A).1=gFx x:=congrArg Prod.fst h1;have eA:opA (kzL t (m:Int)) A=gFx x:=(if_pos h0).trans h10;have eB:opB (kzL t (m:Int)) A z=gFx w:=(if_pos h0).trans (congrArg Prod.fst h2);have eK:opK (kzL t (m:Int)) A z=S4.D5 (S4.inF z):=if_pos h0;have eV:opV (kzL t (m:Int)) A z=pVl A z:=if_pos h0;have eX:opX (kzL t (m:Int)) A=0:=h0;have hP:opP (kzL t (m:Int)) A z:=fun _=>congrArg Prod.snd h2
  have k1:=F6z t m1 (show m<=4096 by omega) x w (S4.D5 (S4.inF z)) (pVl A z)
  have k2:=F6z t m1 (show m<=4096 by omega) x w (S4.D5 (S4.inF z)) y
  rw[M9] at k1 k2;have d1:decide (x-S4.inF (pVl A z)+S4.inF z*w=S4.inF t*w)=true:=decide_eq_true (H8k _ _ _ _ _ h3);have d2:decide (x-S4.inF y+S4.inF z*w=S4.inF t*w)=decide (S4.D5 (S4.inF y)=pVl A z):=by
   rw[Bool.eq_iff_iff,decide_eq_true_iff,decide_eq_true_iff,H8j _ _ _ _ _ _ h3];have e:pVl A z=S4.D5 (S4.inF (pVl A z)):=by unfold pVl;rw[M9]
   constructor
   ·intro k
    rw[e,k]
   ·intro k
    exact C3a.1 (k.trans e)
  rw[d1] at k1;rw[d2] at k2;have r:=G8o t (m:Int) A z y;dsimp only at r;rw[eA,eB,eK,eV,eX,h0,h10,hE,k1,k2] at r;have r2:=r;dsimp only at r2;rw[I0r (b:=decide (S4.D5 (S4.inF y)=pVl A z)) rfl] at r2;refine H2 E1c hk hF r2 ⟨by omega,hP,rfl,by omega,decide_eq_false (by omega),by omega,by omega,rfl,rfl,rfl,rfl,rfl,rfl,E2s (decide_eq_true rfl),E2s (F4l rfl),E2s (decide_eq_true rfl),rfl,trivial⟩ (fun y v hd=>hd) hs1
end

end
end Go.Proofs.YtefimjofjjdndaaGreat
