/- Parts of a proof, one behind the other: PPb, WSpw, PSpw, WPc, PPc, WPd, PPd, WKm, PKm, WKn, WKa, PPm, PKe, WKe, PKf, PKg. No conditions. -/
import Derived.Test.YtefimjofjjdndaaGreatKcQ
open Go.IntKind (wrap)
namespace Go.Proofs.YtefimjofjjdndaaGreat
noncomputable section
section

theorem E7b (k:U4) {i:Nat} (hi:i<64):I0 BinOp.and IntKind.u64 (Int.fdiv (A0 (Ob.n (Ob.fr k)) (0+(((wrap IntKind.i64 (Int.tdiv (i:Int) (16:Int)))).toNat*1))) ((2:Int) ^ (Min.min ((wrap IntKind.i64 ((4:Int)*(Int.tmod (i:Int) (16:Int))))).toNat 64))) (15:Int)=((k.val / 16 ^ i % 16:Nat):Int):=by
 have e1:Int.tdiv (i:Int) (16:Int)=((i / 16:Nat):Int):=Int.tdiv_eq_ediv_of_nonneg (by omega)
 have e2:Int.tmod (i:Int) (16:Int)=((i % 16:Nat):Int):=Int.tmod_eq_emod_of_nonneg (by omega)
 rw[e1,e2,C4 (n:=((i / 16:Nat):Int)) (by omega) (by omega),C4 (n:=(4:Int)*((i % 16:Nat):Int)) (by omega) (by omega),Int.toNat_natCast]
 have e3:Min.min ((4:Int)*((i % 16:Nat):Int)).toNat 64=4*(i % 16):=by omega
 have e4:0+i / 16*1=i / 16:=by omega
 rw[e3,e4];have hl:A0 (Ob.n (Ob.fr k)) (i / 16)=((k.val / 2 ^ (64*(i / 16)) % 18446744073709551616:Nat):Int):=rfl;rw[hl,<-E3f k.val i];generalize k.val / 2 ^ (64*(i / 16)) % 18446744073709551616=m;have hp:((2:Int) ^ (4*(i % 16)))=((2 ^ (4*(i % 16)):Nat):Int):=by simp
 rw[hp,Int.fdiv_eq_ediv_of_nonneg _ (Int.natCast_nonneg _),<-Int.natCast_ediv,G9o]

/-- One of each row of any table, added up. -/
def pkL (T:List (List (Fp×Fp×Fp))) (v:Nat):Nat->Fp×Fp×Fp
 | 0=>pt0
 | i+1=>jpl (pkL T v i) ((T.getD i []).getD (v / 16 ^ i % 16) pt0)
theorem F8t (a:Fp×Fp×Fp) (v n:Nat):∀i,i<=n->pkL (tbL a n) v i=pkT pt0 a v i
 | 0,_=>rfl
 | i+1,h=>by
  show jpl (pkL (tbL a n) v i) (((tbL a n).getD i []).getD (v / 16 ^ i % 16) pt0)=jpl (pkT pt0 a v i) (B5i pt0 (baT pt0 a i) (v / 16 ^ i % 16));rw[F8t a v n i (by omega),E5v a (by omega),D1u _ (Nat.mod_lt _ (by decide))]
theorem F8r (T:List (List (Fp×Fp×Fp))) (k:U4) {N:Nat} (hN:N=64) (hlen:T.length=N) (h16:∀i,i<N->(T.getD i []).length=16):FnD Tryz.prog 111 [.v (.c (.sl (.ptt T))),.v (.a [.ob (.fr k)])] (.v (.a (J4 (pkL T k.val N)))) []:=by
 refine O4 (fn:=Tryz.f111) (c:=C0 Tryz.f111) Tryz.func111 rfl rfl fun x0 a0 hk hF hs=>?_
 refine pc T k trivial hs fun ac cY aY hs1=>?_
 refine G2 (ι:={ i:Nat // i<=N }) (fun i=>pcS T k (pkL T k.val i.1) (i.1:Int)) (fun i=>N-i.1) (c:=lpC E0n) (k:=lpR E0n) (by kernel_rfl) (fun i ih ac cY aY hs=>?_) ⟨0,Nat.zero_le _⟩ (hs1.nx _)
 obtain ⟨i,hi⟩:=i;simp only at ih hs
 by_cases h:i<N
 ·have hnext:pkL T k.val (i+1)=jpl (pkL T k.val i) ((T.getD i []).getD (k.val / 16 ^ i % 16) pt0):=rfl
  have hdl:k.val / 16 ^ i % 16<16:=Nat.mod_lt _ (by decide)
  have h16:=h16 i h;have hdig:=E7b k (i:=i) (by omega)
  have hpl:=C5e (i:=i) (by omega)
  have hsh:=C5f i;have ih2:=ih ⟨i+1,h⟩ (by show N-(i+1)<N-i;omega)
  dsimp only at ih2;rw[hnext] at ih2;clear ih hnext;generalize pkL T k.val i=o at hs ih2;refine pcA T k o i ⟨decide_eq_true (by omega),by omega,by omega,trivial⟩ hs fun ac cU aU hs3=>?_
  rw[Int.toNat_natCast] at hs3;generalize T.getD i []=L at ih2 h16 hs3;have hs4:=hs3.blocks (ens' := [some (.fl [.ob (.fr k)]),some (.fl (J4 pt0)),some (.fl (J4 o)),some (.sq (.pt L))])
   ⟨.inl rfl,.inl rfl,.inl rfl,.inr ⟨_,_,_,rfl,rfl,rfl,fun cs h=>H0m L h16 cs h⟩,trivial⟩
  refine pcB T k o i L ⟨by decide,by rw[hpl];omega,by rw[hpl];omega,by rw[hpl,Int.toNat_natCast];show 0+i / 16*1<4;omega,by decide,hsh,by rw[hdig];omega,by rw[hdig];omega,rfl,by rw[hdig,Int.toNat_natCast];omega,trivial⟩ hs4 fun ac cV aV hs5=>?_
  rw[hdig,Int.toNat_natCast,C4 (n:=(i:Int)+1) (by omega) (by omega)] at hs5
  exact ih2 ac cV aV (hs5.nx _)
 ·obtain rfl:i=N:=by omega
  generalize pkL T k.val i=o at hs ⊢
  exact M6 Q7 hk hF (G7m _ _ _ _) ⟨decide_eq_false (by omega),trivial⟩ (fun y v hd=>hd) hs

end

section
section
variable {w0:World} {F0:Nat->Prop} {K:Kp} {ac:List Act} {Q:Exit->Act->World->Prop} {cX:Ctx} {aX:Act}

def pvA:Env:=qeI.or S4.gK
theorem A9z:A9 Tryz.prog pvA:=A5k A4n S4.F3q
theorem D0b (v : Value) (w : World) : (method (Tryz.prog.types.size + Made.depth) 98 v "Times").run Tryz.prog w = .ok (47, v) w := by kernel_rfl
def H2u (T : Nat → Option (List (String × Nat))) (t : Nat) : Option (List (String × Nat)) := if t = 98 then some [("Times", 47)] else T t
def pvB:Env:={ pvA with inv:=H2u pvA.inv }
theorem A6c:A9 Tryz.prog pvB:=by
 refine ⟨A9z.ty,A9z.mixed,A9z.fn,A9z.mu,A9z.inl,A9z.ex,fun t l h=>?_⟩
 have h:H2u pvA.inv t=some l:=h;unfold H2u at h;split at h
 ·rename_i ht
  cases h
  subst ht;refine ⟨by kernel_rfl,fun name g hg v args w=>?_⟩
  unfold A0j at hg;split at hg
  ·rename_i hn
   cases hg
   subst hn;simp only[callMethod,Sem.run_bind,run_program,Result.andThen_ok,D0b]
  cases hg
 ·exact A9z.inv t l h
--@env pvB A6c
def D1d:List KI:=(run pvB false 3000 ((fun (a:Fr) (e:List Int)=>(⟨[.code (C0 Tryz.f168)],.normal,F4 Tryz.f168.ntmps [.v (.a [.ob (.s a)]),.v (.a [.ob (.s 1)]),.v (.c (.sl (.u64 e)))]⟩:Cfg)) default default) []).cfg.k
theorem pz (a:Fr) (e:List Int) (ho:B1 []):Sg Tryz.prog (F4 Tryz.f168.ntmps [.v (.a [.ob (.s a)]),.v (.a [.ob (.s 1)]),.v (.c (.sl (.u64 e)))]) (B2 23 [3,6,7,11] [.pt 16 0,.pt 48 0,.pt 80 0,(.ci (.clo 123 [(128,0)]))] [16,48,80,128] [(eF_ [.ob (.s a)]),(eF_ [(.ob (.s (0:Fr)))]),(eF_ [(.ob (.s (1:Fr)))]),(eF_ [.sl (.u64 e)])] 192 [] []) .normal (D1d) ([.code (C0 Tryz.f168)]):=fun hs hK=>
 B0 (unroll:=false) (n:=3000) (path:=[]) (o:=⟨_,_,_,_,_,_,_⟩) A6c (by kernel_rfl) (by kernel_rfl) ho hs hK
def pzS (a:Fr) (e:List Int) (o:Fr):St:=B2 23 [3,6,7,11] [.pt 16 0,.pt 48 0,.pt 80 0,(.ci (.clo 123 [(128,0)]))] [16,48,80,128] [(eF_ [.ob (.s a)]),(eF_ [(.ob (.s (0:Fr)))]),some (.fl [.ob (.s o)]),(eF_ [.sl (.u64 e)])] 192 [] []
theorem pzA (a:Fr) (e:List Int) (o:Fr) (z:Bool) {ρ:Option Nat} (ho:B1 []) (hs:Sim w0 F0 K ac (X4 (pzS a e o) [(12,.v (.c (.bool z)))]) cX aX) (hK:∀cY aY,Sim w0 F0 K ac (B2 23 [3,6,7,8] [.pt 16 0,.pt 48 0,.pt 80 0,(.ci (.bool z))] [16,48,80,128] [(eF_ [.ob (.s a)]),(eF_ [(.ob (.s (0:Fr)))]),(eF_ [.ob (.s o)]),(eF_ [.sl (.u64 e)])] 208 [[3,6,7,11]] [([.pt 16 0,.pt 48 0,.pt 80 0,(.ci (.clo 123 [(128,0)]))],23)]) cY aY->Wq Tryz.prog Q ([]) ac Exit.normal aY cY.w ρ):Wq Tryz.prog Q ([.code (rfA D1d)]) ac .normal aX cX.w ρ :=
 G7 (unroll:=false) (n:=3000) (path:=[]) (o:=⟨_,_,_,_,_,_,_⟩) A6c (by kernel_rfl) (by kernel_rfl) ho (by kernel_rfl) (by kernel_rfl) hs hK
def pzB (a:Fr) (e:List Int) (o:Fr) (z:Bool):St:=B2 23 [3,6,7,8] [.pt 16 0,.pt 48 0,.pt 80 0,(.ci (.bool z))] [16,48,80,128] [(eF_ [.ob (.s a)]),(eF_ [(.ob (.s (0:Fr)))]),some (.fl [.ob (.s o)]),(eF_ [.sl (.u64 e)])] 208 [[3,6,7,11]] [([.pt 16 0,.pt 48 0,.pt 80 0,(.ci (.clo 123 [(128,0)]))],23)]
theorem pzC (a:Fr) (e:List Int) (o:Fr) (z:Bool) {ρ:Option Nat} (ho:B1 [(z=true)]) (hs:Sim w0 F0 K ac (pzB a e o z) cX aX) (hK:∀cY aY,Sim w0 F0 K ac (B2 23 [6] [.pt 48 0] [16,48,80,128] [(eF_ [.ob (.s a)]),(eF_ [(.ob (.s (0:Fr)))]),(eF_ [(.ob (.s ((o*o)*a)))]),(eF_ [.sl (.u64 e)])] 384 [[3,6,7,11]] [([.pt 16 0,.pt 48 0,.pt 80 0,(.ci (.clo 123 [(128,0)]))],23)]) cY aY->Wq Tryz.prog Q ([]) ac Exit.normal aY cY.w ρ):Wq Tryz.prog Q ([.code (rfB D1d)]) ac .normal aX cX.w ρ :=
 G7 (unroll:=false) (n:=3000) (path:=[true]) (o:=⟨_,_,_,_,_,_,_⟩) A6c (by kernel_rfl) (by kernel_rfl) ho (by kernel_rfl) (by kernel_rfl) hs hK
theorem pzD (a:Fr) (e:List Int) (o:Fr) (z:Bool) {ρ:Option Nat} (ho:B1 [(z=false)]) (hs:Sim w0 F0 K ac (pzB a e o z) cX aX) (hK:∀cY aY,Sim w0 F0 K ac (B2 23 [6] [.pt 48 0] [16,48,80,128] [(eF_ [.ob (.s a)]),(eF_ [(.ob (.s (0:Fr)))]),(eF_ [(.ob (.s (o*o)))]),(eF_ [.sl (.u64 e)])] 304 [[3,6,7,11]] [([.pt 16 0,.pt 48 0,.pt 80 0,(.ci (.clo 123 [(128,0)]))],23)]) cY aY->Wq Tryz.prog Q ([]) ac Exit.normal aY cY.w ρ):Wq Tryz.prog Q ([.code (rfB D1d)]) ac .normal aX cX.w ρ :=
 G7 (unroll:=false) (n:=3000) (path:=[false]) (o:=⟨_,_,_,_,_,_,_⟩) A6c (by kernel_rfl) (by kernel_rfl) ho (by kernel_rfl) (by kernel_rfl) hs hK
theorem pzX (a:Fr) (e:List Int) (o:Fr) (ho:B1 []):Sg Tryz.prog (pzS a e o) (B2 23 [6] [.pt 48 0] [48] [(eF_ [.ob (.s o)])] 224 [] []) .ret ([]) (rfR D1d):=fun hs hK=>
 B0 (unroll:=false) (n:=3000) (path:=[]) (o:=⟨_,_,_,_,_,_,_⟩) A6c (by kernel_rfl) (by kernel_rfl) ho hs hK
def pzE (a:Fr) (e:List Int) (o:Fr):St:=B2 23 [6] [.pt 48 0] [16,48,80,128] [(eF_ [.ob (.s a)]),(eF_ [(.ob (.s (0:Fr)))]),some (.fl [.ob (.s o)]),(eF_ [.sl (.u64 e)])] 384 [[3,6,7,11]] [([.pt 16 0,.pt 48 0,.pt 80 0,(.ci (.clo 123 [(128,0)]))],23)]
def pzZ (o:Fr):St:=B2 23 [6] [.pt 48 0] [48] [some (.fl [.ob (.s o)])] 224 [] []
theorem G7y (o:Fr):I8 pvB Tryz.f168 false 3000 (⟨[],.ret,pzZ o⟩) [] [] []=(some ([],((.v (.a [.ob (.s o)])),[]))):=by kernel_rfl
end
end

section

theorem G7w (a:Fr) (l:List Bool) (z:Bool):pw a (pv (l++[z]))=if z=true then pw a (pv l)*pw a (pv l)*a else pw a (pv l)*pw a (pv l):=by
 rw[B7u,Nat.two_mul]
 cases z with
 | true=>
  rw[if_pos rfl,<-M5];rfl
 | false=>
  rw[if_neg (by decide),<-M5]
  rfl

theorem E0s (a:Fr) (e:List Int) (hl:e.length<=16) (hlim:A3r e) :
  FnD Tryz.prog 168 [.v (.a [.ob (.s a)]),.v (.a [.ob (.s 1)]),.v (.c (.sl (.u64 e)))] (.v (.a [.ob (.s (pw a (O1 e)))])) []:=by
 refine T0 (fn:=Tryz.f168) (c:=C0 Tryz.f168) Tryz.func168 rfl rfl fun x b hk hF hs=>?_
 refine pz a e trivial hs fun ac cY aY hs1=>?_
 obtain ⟨e1,e2⟩:=A2i (k:=D1d) (by kernel_rfl)
 rw[e1];have eP:(rfP D1d).toList=[12]:=by kernel_rfl
 have eG:rfG D1d = .tmp 11:=by kernel_rfl
 refine Z3 (ps:=rfP D1d) e2 hs1 (gf:=123) (caps:=[(128,0)]) (A4 Tryz.func123 rfl rfl) (fun pre=>pzS a e (pw a (pv pre))) (fun s=>by rw[eG];rfl) ⟨_,rfl⟩ (btL (O1 e) (M3 e e.length) (M3 e e.length)) C7t B8m
  (fun y z=>.cons ⟨rfl,0,rfl⟩ .nil) (fun z=>by rw[<-Array.length_toList,eP];rfl) (fun pre p hp=>?_) (A6x hl hlim fun s=>rfl) (fun pre z=>pzB a e (pw a (pv pre)) z)
  (fun pre z=>pzE a e (pw a (pv (pre++[z])))) (fun pre z=>⟨_,rfl⟩) (fun pre z hz w1 F1 K1 as1 Q1 l y b hs2 hQ=>?_) (fun pre z hz w1 F1 K1 as1 Q1 l y b hs2 hQ=>?_) fun D y hs2 hD hFD hd=>?_
 ·rw[eP] at hp
  have h23:(pzS a e (pw a (pv pre))).nt=23:=rfl;rw[h23];simp only[List.mem_cons,List.not_mem_nil,or_false] at hp;subst hp;decide
 ·rw[eP] at hs2
  exact pzA a e _ z trivial hs2 fun cZ aZ hs3=>⟨hQ _ _ (hs3.nx _)⟩
 ·rw[G7w] at hQ
  cases z with
  | true=>exact pzC a e _ true ⟨rfl,trivial⟩ hs2 fun cZ aZ hs3=>⟨hQ _ _ (hs3.nx _)⟩
  | false=>exact pzD a e _ false ⟨rfl,trivial⟩ hs2 fun cZ aZ hs3=>⟨hQ _ _ (hs3.nx _)⟩
 ·have hs3:=hs2.marked rfl rfl D
  have hN:O1 e<2 ^ M3 e e.length:=by
   have:=D0p hlim e.length (Nat.le_refl _)
   rwa [List.take_length] at this
  rw[B7t hN _ (Nat.le_refl _),Nat.sub_self,Nat.pow_zero,Nat.div_one] at hs2 hs3;generalize pw a (O1 e)=o at hs2 hs3 ⊢
  refine pzX a e o trivial hs3 fun ac cV aV hs6=>⟨?_⟩
  have hs7:Sim y.w y.F (T8 y Y5 (H9 D)) ac (pzZ o) cV aV:=hs6;exact Y4 A6c hk hF (G7y o) trivial (fun y v hd=>hd) hs2 hD hFD hd rfl hs7

end

section

theorem D6o (a u:Fr) (e:List Int) (hu:u=1) (hl:e.length<=16) (hlim:A3r e) :
  FnD Tryz.prog 168 [.v (.a [.ob (.s a)]),.v (.a [.ob (.s u)]),.v (.c (.sl (.u64 e)))] (.v (.a [.ob (.s (pw a (O1 e)))])) []:=by
 subst hu;exact E0s a e hl hlim
def A9x:B5
 | [.v (.a [.ob (.s a)]),.v (.a [.ob (.s u)]),.v (.c (.sl (.u64 e)))]=>some ([u=1,e.length<=16,A3r e],.v (.a [.ob (.s (pw a (O1 e)))]),[])
 | _=>none
def pvC:Env:=pvB.set (D5 pvB.fn 168 A9x)
theorem E0v:A9 Tryz.prog pvC:=A8 A6c 168 A9x (A4 Tryz.func168 rfl rfl) fun args o r es h ho=>by
 unfold A9x at h;split at h
 ·cases h;exact D6o _ _ _ ho.1 ho.2.1 ho.2.2.1
 ·cases h
--@env pvC E0v
theorem sm1  : B8 pvC Tryz.f103 3000 [.v (.c (.int .u64 1))] [] [] []=(some ([(0<=(1:Int)),((1:Int)<(18446744073709551616:Int)),(0<=(0:Int)),(0<(18446744073709551616:Int)),(0<=(0:Int)),(0<(18446744073709551616:Int)),(0<=(0:Int)),(0<(18446744073709551616:Int))],((.v (.a [(.ob (.s (S4.inF (Fin.ofNat B4 1))))])),[]))):=by kernel_rfl
theorem E1p {n:Int} (h:n=1):FnD Tryz.prog 103 [.v (.c (.int .u64 n))] (.v (.a [.ob (.s 1)])) []:=by
 subst h;have r:=sm1;rw[show S4.inF (Fin.ofNat B4 1)=1 from by decide +kernel] at r
 exact A5 E0v Tryz.func103 r ⟨by decide,by decide,by decide,by decide,by decide,by decide,by decide,by decide,trivial⟩
def B0o:B5
 | [.v (.c (.int .u64 n))]=>some ([n=1],.v (.a [.ob (.s 1)]),[])
 | _=>none
def pvD:Env:=pvC.set (D5 pvC.fn 103 B0o)
theorem E0w:A9 Tryz.prog pvD:=A8 E0v 103 B0o (A4 Tryz.func103 rfl rfl) fun args o r es h ho=>by
 unfold B0o at h;split at h
 ·cases h;exact E1p ho.1
 ·cases h
--@env pvD E0w
theorem sml  : B8 pvD Tryz.f55 3000 [.v (.c (.int .i64 1))] [false] [] []=(some ([((decide ((1:Int)<(0:Int)))=false),((1:Int)=(1:Int))],((.v (.a [(.ob (.fr (S4.D9 (1:Fr))))])),[]))):=by kernel_rfl
end

section

theorem G8v {n:Int} (h:n=1):FnD Tryz.prog 55 [.v (.c (.int .i64 n))] (.v (.a [.ob (.fr (S4.D9 1))])) []:=by
 subst h;exact A5 E0w Tryz.func55 sml ⟨rfl,rfl,trivial⟩

end

section
section
variable {w0:World} {F0:Nat->Prop} {K:Kp} {ac:List Act} {Q:Exit->Act->World->Prop} {cX:Ctx} {aX:Act}

def peA:Env:=pvD.or qtG
theorem H4o:A9 Tryz.prog peA:=A5k E0w Q7
/-- The whole table. -/
theorem E5u (a:Fp×Fp×Fp):∃T,T=tbL a 64:=⟨_,rfl⟩
def A7z (a:Fp×Fp×Fp):List (List (Fp×Fp×Fp)):=Classical.choose (E5u a)
theorem B7x (a:Fp×Fp×Fp):A7z a=tbL a 64:=Classical.choose_spec (E5u a)
theorem E8h (a:Fp×Fp×Fp):FnD Tryz.prog 110 [.v (.a (J4 a))] (.v (.c (.sl (.ptt (A7z a))))) []:=by
 rw[B7x];exact F6y a (Eq.refl 64)
def C1j:B5
 | [.v (.a [.ob (.p a),.ob (.p b),.ob (.p c)])]=>some ([],.v (.c (.sl (.ptt (A7z (a,b,c))))),[])
 | _=>none
def peB:Env:=peA.set (D5 peA.fn 110 C1j)
theorem H4p:A9 Tryz.prog peB:=A8 H4o 110 C1j (A4 Tryz.func110 rfl rfl) fun args o r es h _=>by
 unfold C1j at h;split at h
 ·cases h;exact E8h (_,_,_)
 ·cases h
/-- Each row has sixteen. -/
def D1o (T:List (List (Fp×Fp×Fp))):Prop:=∀i,i<64->(T.getD i []).length=16
theorem E8q (T:List (List (Fp×Fp×Fp))) (k:U4) (h:T.length=64∧D1o T):FnD Tryz.prog 111 [.v (.c (.sl (.ptt T))),.v (.a [.ob (.fr k)])] (.v (.a (J4 (pkL T k.val 64)))) []:=F8r T k (Eq.refl 64) h.1 h.2
def C2f:B5
 | [.v (.c (.sl (.ptt T))),.v (.a [.ob (.fr k)])]=>some ([T.length=64,D1o T],.v (.a (J4 (pkL T k.val 64))),[])
 | _=>none
def peC:Env:=peB.set (D5 peB.fn 111 C2f)
theorem H4q:A9 Tryz.prog peC:=A8 H4p 111 C2f (A4 Tryz.func111 rfl rfl) fun args o r es h ho=>by
 unfold C2f at h;split at h
 ·cases h;exact E8q _ _ ⟨ho.1,ho.2.1⟩
 ·cases h
def D2c:B5
 | [.v (.c (.int .i64 n))]=>some ([n=1],.v (.a [.ob (.fr (S4.D9 1))]),[])
 | _=>none
def peD:Env:=peC.set (D5 peC.fn 55 D2c)
theorem H4r:A9 Tryz.prog peD:=A8 H4q 55 D2c (A4 Tryz.func55 rfl rfl) fun args o r es h ho=>by
 unfold D2c at h;split at h
 ·cases h;exact G8v ho.1
 ·cases h
def peE:Env:=peD
theorem A9t:A9 Tryz.prog peE:=H4r
theorem zqA (a:G1D) (k:U4) (n:Int):B8 peE Tryz.f63 3000 [.v (.a a.its),.v (.a [.ob (.fr k)]),.v (.c (.int .i64 n))] [true,true] [] []=(some ([((decide (n<(0:Int)))=true)],((.t [(.c (.val (Value.slice Option.none 0 0))),(.c (.int .i64 (1:Int)))]),[]))):=by kernel_rfl
theorem zqB (a:G1D) (k:U4) (n:Int):B8 peE Tryz.f63 3000 [.v (.a a.its),.v (.a [.ob (.fr k)]),.v (.c (.int .i64 n))] [false,true] [] []=(some ([((decide (n<(0:Int)))=false),((decide (n > (4096:Int)))=true)],((.t [(.c (.val (Value.slice Option.none 0 0))),(.c (.int .i64 (1:Int)))]),[]))):=by kernel_rfl
theorem zqC (a:G1D) (k:U4) (n:Int):B8 peE Tryz.f63 3000 [.v (.a a.its),.v (.a [.ob (.fr k)]),.v (.c (.int .i64 n))] [false,false,true] [] []=(some ([((decide (n<(0:Int)))=false),((decide (n > (4096:Int)))=false),((Bool.not (onG a))=true)],((.t [(.c (.val (Value.slice Option.none 0 0))),(.c (.int .i64 (30:Int)))]),[]))):=by kernel_rfl
def C7j:List KI:=(run peE false 3000 ((fun (x y:U6) (j:Bool) (k:U4) (n:Int)=>(⟨[.code (C0 Tryz.f63)],.normal,F4 Tryz.f63.ntmps [.v (.a [.ob (.fp x),.ob (.fp y),.bool j]),.v (.a [.ob (.fr k)]),.v (.c (.int .i64 n))]⟩:Cfg)) default default default default default) [false,false,false]).cfg.k
theorem zqD (x y:U6) (j:Bool) (k:U4) (n:Int):let b:=G1D.mk x y j;B1 [((decide (n<(0:Int)))=false),((decide (n > (4096:Int)))=false),((Bool.not (onG b))=false),((1:Int)=(1:Int))]->Sg Tryz.prog (F4 Tryz.f63.ntmps [.v (.a [.ob (.fp x),.ob (.fp y),.bool j]),.v (.a [.ob (.fr k)]),.v (.c (.int .i64 n))]) (B2 42 [2,4,8,9,10] [.ii n,.pt 32 0,(.ci (.sl (Sq.ptt (A7z (inG b))))),(.ci (.val (Value.slice Option.none 0 0))),.pt 352 0] [32,352] [(eF_ [.ob (.fr k)]),(eF_ [(.ob (.fr (S4.D9 (1:Fr))))])] 384 [] []) .normal (C7j) ([.code (C0 Tryz.f63)]):=fun ho=>fun hs hK=>
 B0 (unroll:=false) (n:=3000) (path:=[false,false,false]) (o:=⟨_,_,_,_,_,_,_⟩) A9t (by kernel_rfl) (by kernel_rfl) ho hs hK
def zqS (k:U4) (n:Int) (T:List (List (Fp×Fp×Fp))) (L:List G1D) (m:Nat) (q:U4):St:=B2 42 [2,4,8,9,10] [.ii n,.pt 32 0,.v (.c (.sl (.ptt T))),.v (.c (.slc 17 0 m 13)),.pt 352 0] [17,32,352] [some (.sq (.g1 L)),(eF_ [.ob (.fr k)]),some (.fl [.ob (.fr q)])] 384 [] []
theorem zqE (k:U4) (n:Int) (T:List (List (Fp×Fp×Fp))) (L:List G1D) (m:Nat) (q:U4):let a:=L.length+1;B1 [((decide (((m:Nat):Int)<n))=true),(T.length=64),(D1o T),((a*104)<=140737488355328),(a<=maxLen),(m=L.length),(1=1)]->Sg Tryz.prog (zqS k n T L m q) (B2 42 [2,4,8,9,10] [.ii n,.pt 32 0,(.ci (.sl (Sq.ptt T))),(.ci (.slc 17 0 a 13)),.pt 592 0] [17,32,592] [(eQ_ (Sq.g1 (L++[(A4l (pkL T (Fin.val q) 64))]))),(eF_ [.ob (.fr k)]),(eF_ [(.ob (.fr (S4.D9 ((S4.inF q)*(S4.inF k)))))])] 688 [] []) .normal (P2 C7j) (F9 C7j):=fun ho=>fun hs hK=>
 B0 (unroll:=false) (n:=3000) (path:=[true]) (o:=⟨_,_,_,_,_,_,_⟩) A9t (by kernel_rfl) (by kernel_rfl) ho hs hK
theorem G7s (k:U4) (n:Int) (T:List (List (Fp×Fp×Fp))) (L:List G1D) (m:Nat) (q:U4):I8 peE Tryz.f63 false 3000 (⟨F9 C7j,.normal,zqS k n T L m q⟩) [false] [] [17]=(some ([((decide (((m:Nat):Int)<n))=false),(m=L.length)],((.t [(.c (.sl (Sq.g1 L))),(.c (.int .i64 (0:Int)))]),[]))):=by kernel_rfl
end
end

section

/-- The powers of a number, one after the other; what is told of each. -/
def pwK (k:U4):Nat->U4
 | 0=>S4.D9 1
 | i+1=>S4.D9 (S4.inF (pwK k i)*S4.inF k)
def pwE (T:List (List (Fp×Fp×Fp))) (q:U4):G1D:=A4l (pkL T q.val 64)
def pwL (T:List (List (Fp×Fp×Fp))) (k:U4) (n:Nat):List G1D:=(List.range n).map fun i=>pwE T (pwK k i)
theorem E5l (T:List (List (Fp×Fp×Fp))) (k:U4) (n:Nat):(pwL T k n).length=n:=by
 unfold pwL;rw[List.length_map,List.length_range]
theorem F9j (T:List (List (Fp×Fp×Fp))) (k:U4) (n:Nat):pwL T k (n+1)=pwL T k n++[pwE T (pwK k n)]:=by
 unfold pwL;rw[List.range_succ,List.map_append];rfl
theorem G7t (T:List (List (Fp×Fp×Fp))) (k:U4) {n i:Nat} (h:i<n):(pwL T k n).getD i g10=pwE T (pwK k i):=by
 unfold pwL;rw[List.getD_eq_getElem?_getD,List.getElem?_map,List.getElem?_range h,Option.map_some,Option.getD_some]
theorem G0t (a:Fp×Fp×Fp):(A7z a).length=64:=by rw[B7x,D2g]
theorem G0u (a:Fp×Fp×Fp):D1o (A7z a):=fun i hi=>by rw[B7x,E5v a hi,D1v]

/-- What Powers tells. -/
def pwR (a:G1D) (k:U4) (n:Int):List G1D×Int:=if n<0∨n > 4096 then ([],1) else if onG a then (pwL (A7z (inG a)) k n.toNat,0) else ([],30)
theorem G7u {a:G1D} {k:U4} {n:Int} (h:n<0∨n > 4096):pwR a k n=([],1):=if_pos h
theorem G7v {a:G1D} {k:U4} {n:Int} (h:¬(n<0∨n > 4096)) (ha:onG a=false):pwR a k n=([],30):=by unfold pwR;rw[if_neg h,ha];rfl
theorem E0x {a:G1D} {k:U4} {n:Int} (h:¬(n<0∨n > 4096)) (ha:onG a=true):pwR a k n=(pwL (A7z (inG a)) k n.toNat,0):=by unfold pwR;rw[if_neg h,ha];rfl
theorem F7h {x:Ctx} {j:V1} {v:Value} (h:B9 x (.t [.c (.val (.slice none 0 0)),j]) v):B9 x (.t [.c (.sl (.g1 [])),j]) v:=by
 obtain ⟨vs,e,hc⟩:=h
 cases hc with
 | cons h1 h2=>exact ⟨_,e,.cons (H4b (q:=.g1 []) rfl h1) h2⟩

theorem E8u (x y:U6) (j:Bool) (k:U4) (n:Nat) (h:n<=4096) (ha:onG ⟨x,y,j⟩=true):FnD Tryz.prog 63 [.v (.a [.ob (.fp x),.ob (.fp y),.bool j]),.v (.a [.ob (.fr k)]),.v (.c (.int .i64 (n:Int)))] (.t [.c (.sl (.g1 (pwL (A7z (inG ⟨x,y,j⟩)) k n))),.c (.int .i64 0)]) []:=by
 refine O4 (fn:=Tryz.f63) (c:=C0 Tryz.f63) Tryz.func63 rfl rfl fun x0 a0 hk hF hs=>?_
 refine zqD x y j k n ⟨decide_eq_false (by omega),decide_eq_false (by omega),by rw[ha];rfl,rfl,trivial⟩ hs fun ac cY aY hs1=>?_
 have h64:=G0t (inG ⟨x,y,j⟩);have h16:=G0u (inG ⟨x,y,j⟩);have hmax:4097<=maxLen:=by decide
 generalize A7z (inG ⟨x,y,j⟩)=T at hs1 h64 h16 ⊢
 have hs2:=hs1.nilRow (p:=17) (q:=.g1 []) rfl (by decide) rfl (ml' := [17,32,352]) (ens' := [some (.sq (.g1 [])),some (.fl [.ob (.fr k)]),some (.fl [.ob (.fr (S4.D9 1))])]) (fun r=>rfl)
  (svs' := [.v (.c (.int .i64 (n:Int))),.v (.c (.ptr 32 0)),.v (.c (.sl (.ptt T))),.v (.c (.slc 17 0 0 13)),.v (.c (.ptr 352 0))]) ⟨.inl rfl,.inl rfl,.inl rfl,.inr ⟨13,rfl,rfl⟩,.inl rfl,trivial⟩
 change Wq Tryz.prog _ _ _ _ _ (K6 cY 17).w
 refine G2 (ι:={ i:Nat // i<=n }) (fun i=>zqS k n T (pwL T k i.1) i.1 (pwK k i.1)) (fun i=>n-i.1) (c:=lpC C7j) (k:=lpR C7j) (by kernel_rfl) (fun i ih ac cY aY hs=>?_) ⟨0,Nat.zero_le _⟩ (hs2.nx _)
 obtain ⟨i,hi⟩:=i;simp only at ih hs
 have hlen:=E5l T k i;by_cases hin:i<n
 ·have hnext:pwK k (i+1)=S4.D9 (S4.inF (pwK k i)*S4.inF k):=rfl
  have hL:=F9j T k i;have ih2:=ih ⟨i+1,hin⟩ (by show n-(i+1)<n-i;omega)
  dsimp only at ih2;rw[hnext,hL] at ih2;clear ih hnext hL;generalize pwK k i=q at hs ih2;generalize pwL T k i=L at hs ih2 hlen;refine zqE k n T L i q ⟨decide_eq_true (by omega),h64,h16,by omega,by omega,hlen.symm,rfl,trivial⟩ hs fun ac cU aU hs3=>?_
  rw[hlen] at hs3;have ep:A4l (pkL T q.val 64)=pwE T q:=rfl;rw[ep] at hs3;generalize pwE T q=e at hs3 ih2;generalize S4.D9 (S4.inF q*S4.inF k)=q2 at hs3 ih2;have hs4:=hs3.move [17,32] 592 352 rfl ⟨_,rfl⟩ rfl rfl rfl rfl rfl (svs' := [.v (.c (.int .i64 (n:Int))),.v (.c (.ptr 32 0)),.v (.c (.sl (.ptt T))),.v (.c (.slc 17 0 (i+1) 13)),.v (.c (.ptr 352 0))])
   ⟨.inl ⟨rfl,rfl⟩,.inl ⟨rfl,rfl⟩,.inl ⟨rfl,rfl⟩,.inl ⟨rfl,rfl⟩,.inr ⟨0,rfl,rfl⟩,trivial⟩ (ml' := [17,32,352]) (ens' := [some (.sq (.g1 (L++[e]))),some (.fl [.ob (.fr k)]),some (.fl [.ob (.fr q2)])]) (fun q=>by
    simp only[D7];by_cases h1:q=352<;>by_cases h2:q=592<;>by_cases h3:q=17<;>by_cases h4:q=32<;>simp_all)
  change Wq Tryz.prog _ _ _ _ _ (A0m cU [17,32] 592 352).w
  exact ih2 ac _ aU (hs4.nx _)
 ·obtain rfl:i=n:=by omega
  generalize pwL T k i=L at hs hlen ⊢
  exact M6 A9t hk hF (G7s k i T L i _) ⟨decide_eq_false (by omega),hlen.symm,trivial⟩ (fun y v hd=>hd) hs

theorem C2j (a:G1D) (k:U4) (n:Int):FnD Tryz.prog 63 [.v (.a a.its),.v (.a [.ob (.fr k)]),.v (.c (.int .i64 n))] (.t [.c (.sl (.g1 (pwR a k n).1)),.c (.int .i64 (pwR a k n).2)]) []:=by
 by_cases h:n<0∨n > 4096
 ·rw[G7u h]
  by_cases h1:n<0
  ·exact (A5 A9t Tryz.func63 (zqA a k n) ⟨decide_eq_true h1,trivial⟩).conv (fun _ _ h=>h) fun y v hd=>F7h hd
  ·exact (A5 A9t Tryz.func63 (zqB a k n) ⟨decide_eq_false h1,decide_eq_true (by omega),trivial⟩).conv (fun _ _ h=>h) fun y v hd=>F7h hd
 ·cases ha:onG a with
  | false=>
   rw[G7v h ha];exact (A5 A9t Tryz.func63 (zqC a k n) ⟨decide_eq_false (by omega),decide_eq_false (by omega),by rw[ha];rfl,trivial⟩).conv (fun _ _ h=>h) fun y v hd=>F7h hd
  | true=>
   rw[E0x h ha];obtain ⟨m,rfl⟩:∃m:Nat,n=(m:Int):=⟨n.toNat,by omega⟩
   rw[Int.toNat_natCast];exact E8u a.x a.y a.inf k m (by omega) ha

end

section

def kmA:Env:=peE.or uzB
theorem F5c:A9 Tryz.prog kmA:=A5k A9t J9
def A9y:B5
 | [.v (.a [.ob (.fp x),.ob (.fp y),.bool j]),.v (.a [.ob (.fr k)]),.v (.c (.int .i64 n))]=>some ([],.t [.c (.sl (.g1 (pwR ⟨x,y,j⟩ k n).1)),.c (.int .i64 (pwR ⟨x,y,j⟩ k n).2)],[])
 | _=>none
def kmB:Env:=kmA.set (D5 kmA.fn 63 A9y)
theorem C9n:A9 Tryz.prog kmB:=A8 F5c 63 A9y (A4 Tryz.func63 rfl rfl) fun args o r es h _=>by
 unfold A9y at h;split at h
 ·cases h;exact C2j ⟨_,_,_⟩ _ _
 ·cases h
--@env kmB C9n
theorem mkA (k:U4) (n:Int):let b:U6:=0;B8 kmB Tryz.f29 3000 [.v (.a [.ob (.fr k)]),.v (.c (.int .i64 n))] [true] [] []=(some ([((decide (n<(1:Int)))=true)],((.t [(.a [(.sl (Sq.g1 ([]:List G1D))),(.ob (.fp b)),(.ob (.fp b)),(.ob (.fp b)),(.ob (.fp b)),(.lit false)]),(.c (.int .i64 (1:Int)))]),[]))):=by intros;kernel_rfl
theorem mkB (k:U4) (n:Int):let b:U6:=0;B8 kmB Tryz.f29 3000 [.v (.a [.ob (.fr k)]),.v (.c (.int .i64 n))] [false,true] [] []=(some ([((decide (n<(1:Int)))=false),((decide (n > (4096:Int)))=true)],((.t [(.a [(.sl (Sq.g1 ([]:List G1D))),(.ob (.fp b)),(.ob (.fp b)),(.ob (.fp b)),(.ob (.fp b)),(.lit false)]),(.c (.int .i64 (1:Int)))]),[]))):=by intros;kernel_rfl
theorem mkC (k:U4) (n:Int):let d:=A9k N7 (S4.D9 (S4.inF k));let b:=Prod.fst d;B8 kmB Tryz.f29 3000 [.v (.a [.ob (.fr k)]),.v (.c (.int .i64 n))] [false,false,false,false] [] []=(some ([((decide (n<(1:Int)))=false),((decide (n > (4096:Int)))=false),(((Prod.snd (pwR H7 k n)) != (0:Int))=false),(((Prod.snd d) != (0:Int))=false)],((.t [(.a [(.sl (Sq.g1 (Prod.fst (pwR H7 k n)))),(.ob (.fp (G2D.xa b))),(.ob (.fp (G2D.xb b))),(.ob (.fp (G2D.ya b))),(.ob (.fp (G2D.yb b))),(.bool (G2D.inf b))]),(.c (.int .i64 (0:Int)))]),[]))):=by intros;kernel_rfl
end

section

theorem E5c:onG H7=true:=by decide +kernel
theorem H4j:I5 N7=true:=by decide +kernel
/-- The parts of a key. -/
def F5a (l:List G1D) (s:G2D):List It:=[.sl (.g1 l),.ob (.fp s.xa),.ob (.fp s.xb),.ob (.fp s.ya),.ob (.fp s.yb),.bool s.inf]
theorem E4n {x:Ctx} {i1 i2 i3 i4 i5 k:It} {b:Bool} {v:Value} (h:B9 x (.t [.a [i1,i2,i3,i4,i5,.lit b],.c k]) v):B9 x (.t [.a [i1,i2,i3,i4,i5,.bool b],.c k]) v:=by
 obtain ⟨vs,e,hc⟩:=h
 cases hc with
 | cons h1 h2=>
  refine ⟨_,e,.cons ?_ h2⟩
  obtain ⟨cs,e0,c1,r1,e1,h1,c2,r2,e2,h2,c3,r3,e3,h3,c4,r4,e4,h4,c5,r5,e5,h5,c6,r6,e6,⟨d,h6⟩,h7⟩:=h1;exact ⟨cs,e0,c1,r1,e1,h1,c2,r2,e2,h2,c3,r3,e3,h3,c4,r4,e4,h4,c5,r5,e5,h5,c6,r6,e6,⟨d,by cases d<;>exact h6⟩,h7⟩

/-- What Make tells. -/
theorem F5d (k:U4) (n:Int):∃L,L=if n<1∨n > 4096 then [] else (pwR H7 k n).1:=⟨_,rfl⟩
def kzL (k:U4) (n:Int):List G1D:=Classical.choose (F5d k n)
theorem D9x (k:U4) (n:Int):kzL k n=if n<1∨n > 4096 then [] else (pwR H7 k n).1:=Classical.choose_spec (F5d k n)
theorem F5e (k:U4) (n:Int):∃s,s=if n<1∨n > 4096 then g20 else (A9k N7 (S4.D9 (S4.inF k))).1:=⟨_,rfl⟩
def kzS (k:U4) (n:Int):G2D:=Classical.choose (F5e k n)
theorem F5f (k:U4) (n:Int):kzS k n=if n<1∨n > 4096 then g20 else (A9k N7 (S4.D9 (S4.inF k))).1:=Classical.choose_spec (F5e k n)
/-- What Powers tells, by name alone. -/
theorem F9k (a:G1D) (k:U4) (n:Int):∃r,r=pwR a k n:=⟨_,rfl⟩
def pwZ (a:G1D) (k:U4) (n:Int):List G1D×Int:=Classical.choose (F9k a k n)
theorem H5c (a:G1D) (k:U4) (n:Int):pwZ a k n=pwR a k n:=Classical.choose_spec (F9k a k n)
theorem D6p (a:G1D) (k:U4) (n:Int):FnD Tryz.prog 63 [.v (.a a.its),.v (.a [.ob (.fr k)]),.v (.c (.int .i64 n))] (.t [.c (.sl (.g1 (pwZ a k n).1)),.c (.int .i64 (pwZ a k n).2)]) []:=by
 rw[H5c];exact C2j a k n
def kzE (n:Int):Int:=if n<1∨n > 4096 then 1 else 0
theorem F5u (k:U4) (n:Int):FnD Tryz.prog 29 [.v (.a [.ob (.fr k)]),.v (.c (.int .i64 n))] (.t [.a (F5a (kzL k n) (kzS k n)),.c (.int .i64 (kzE n))]) []:=by
 by_cases h:n<1∨n > 4096
 ·have e1:kzL k n=[]:=(D9x k n).trans (if_pos h)
  have e2:kzS k n=g20:=(F5f k n).trans (if_pos h);have e3:kzE n=1:=if_pos h;rw[e1,e2,e3];by_cases h1:n<1
  ·exact (A5 C9n Tryz.func29 (mkA k n) ⟨decide_eq_true h1,trivial⟩).conv (fun _ _ h=>h) fun y v hd=>E4n hd
  ·exact (A5 C9n Tryz.func29 (mkB k n) ⟨decide_eq_false h1,decide_eq_true (by omega),trivial⟩).conv (fun _ _ h=>h) fun y v hd=>E4n hd
 ·have e1:kzL k n=(pwR H7 k n).1:=(D9x k n).trans (if_neg h)
  have e2:kzS k n=(A9k N7 (S4.D9 (S4.inF k))).1:=(F5f k n).trans (if_neg h);have e3:kzE n=0:=if_neg h;have f1:(pwR H7 k n).2=0:=by rw[E0x (by omega) E5c]
  have f2:(A9k N7 (S4.D9 (S4.inF k))).2=0:=by rw[B7o _ H4j]
  rw[e1,e2,e3];exact A5 C9n Tryz.func29 (mkC k n) ⟨decide_eq_false (by omega),decide_eq_false (by omega),by rw[f1];rfl,by rw[f2];rfl,trivial⟩

end

section

def A6a:B5
 | [.v (.a [.ob (.fp x),.ob (.fp y),.bool j]),.v (.a [.ob (.fr k)]),.v (.c (.int .i64 n))]=>some ([],.t [.c (.sl (.g1 (pwZ ⟨x,y,j⟩ k n).1)),.c (.int .i64 (pwZ ⟨x,y,j⟩ k n).2)],[])
 | _=>none
def knA:Env:=kmA.set (D5 kmA.fn 63 A6a)
theorem H3e:A9 Tryz.prog knA:=A8 F5c 63 A6a (A4 Tryz.func63 rfl rfl) fun args o r es h _=>by
 unfold A6a at h;split at h
 ·cases h;exact D6p ⟨_,_,_⟩ _ _
 ·cases h
def C0z:B5
 | [.v (.a [.ob (.fr k)]),.v (.c (.int .i64 n))]=>some ([],.t [.a (F5a (kzL k n) (kzS k n)),.c (.int .i64 (kzE n))],[])
 | _=>none
def knB:Env:=knA.set (D5 knA.fn 29 C0z)
theorem D9w:A9 Tryz.prog knB:=A8 H3e 29 C0z (A4 Tryz.func29 rfl rfl) fun args o r es h _=>by
 unfold C0z at h;split at h
 ·cases h;exact F5u _ _
 ·cases h
--@env knB D9w
theorem I3n  : B8 knB Tryz.f25 3000 [] [true,true] [] []=(some ([(0<=(5:Int)),((5:Int)<(18446744073709551616:Int)),(0<=(0:Int)),(0<(18446744073709551616:Int)),(0<=(0:Int)),(0<(18446744073709551616:Int)),(0<=(0:Int)),(0<(18446744073709551616:Int)),(((0:Int)==0)=true),(((((kzL (Fin.ofNat B4 5) (1:Int)).length:Nat):Int) == (1:Int))=true),(0<=(0:Int)),(0<(((kzL (Fin.ofNat B4 5) (1:Int)).length:Nat):Int))],((.ci (.bool (ite (true=true) (Bool.and (decide ((G1D.x (List.getD (kzL (Fin.ofNat B4 5) (1:Int)) 0 g10))=(G1D.x H7))) (Bool.and (decide ((G1D.y (List.getD (kzL (Fin.ofNat B4 5) (1:Int)) 0 g10))=(G1D.y H7))) ((G1D.inf (List.getD (kzL (Fin.ofNat B4 5) (1:Int)) 0 g10)) == (G1D.inf H7)))) (Bool.not (Bool.and (decide ((G1D.x (List.getD (kzL (Fin.ofNat B4 5) (1:Int)) 0 g10))=(G1D.x H7))) (Bool.and (decide ((G1D.y (List.getD (kzL (Fin.ofNat B4 5) (1:Int)) 0 g10))=(G1D.y H7))) ((G1D.inf (List.getD (kzL (Fin.ofNat B4 5) (1:Int)) 0 g10)) == (G1D.inf H7)))))))),[]))):=by kernel_rfl
theorem H7v (k:U4):k.val<2 ^ 256:=by
 have h:B4=2 ^ 256:=by decide +kernel
 rw[<-h];exact k.isLt
theorem H5b (a:Fp×Fp×Fp) (q:U4) {n:Nat} (hn:n=64):pwE (A7z a) q=A4l (pkT pt0 a q.val n):=by
 unfold pwE;rw[B7x,F8t a q.val 64 64 (Nat.le_refl _),hn]
theorem H5a {a:G1D} (ha:onG a=true) (q:U4):pwE (A7z (inG a)) q=gP (E8 (pG a) q.val):=by
 obtain ⟨n,hn⟩:∃n:Nat,n=64:=⟨_,rfl⟩
 rw[H5b (inG a) q hn];exact A7q (G7n cv1 (z:=pt0) rfl (U0 ha).2 (A8z a) hn (H7v q))
theorem H3g (k:U4) {n:Int} (h:¬(n<1∨n > 4096)):kzL k n=pwL (A7z (inG H7)) k n.toNat:=by
 rw[D9x,if_neg h,E0x (by omega) E5c]
theorem G6y:(S4.D9 (1:Fr)).val=1:=by rw[S4.W7];decide
theorem E7i (k:U4) {n:Nat} (h:0<n):(pwL (A7z (inG H7)) k n).getD 0 g10=H7:=by
 rw[G7t _ _ h];show pwE (A7z (inG H7)) (S4.D9 1)=H7;rw[H5a E5c,G6y,D5u];exact (U0 E5c).1
theorem F2p {a b:G1D} (h:a=b):(decide (a.x=b.x) && (decide (a.y=b.y) && (a.inf == b.inf)))=true:=by
 subst h;simp
theorem D2w:FnD Tryz.prog 25 [] (.v (.c (.bool true))) []:=by
 have hL:=H3g (Fin.ofNat B4 5) (n:=1) (by decide)
 have hlen:=E5l (A7z (inG H7)) (Fin.ofNat B4 5) (1:Int).toNat;have h0:=E7i (Fin.ofNat B4 5) (n:=(1:Int).toNat) (by decide)
 rw[<-hL] at hlen h0;have r:=I3n;generalize kzL (Fin.ofNat B4 5) 1=L at hlen h0 r;rw[if_pos rfl,F2p h0] at r;have hlen:L.length=1:=hlen;exact A5 D9w Tryz.func25 r ⟨by decide,by decide,by decide,by decide,by decide,by decide,by decide,by decide,rfl,by rw[hlen];rfl,by decide,by rw[hlen];decide,trivial⟩
def A4z:B5
 | []=>some ([],.v (.c (.bool true)),[])
 | _=>none
def knC:Env:=knB.set (D5 knB.fn 25 A4z)
theorem H3f:A9 Tryz.prog knC:=A8 D9w 25 A4z (A4 Tryz.func25 rfl rfl) fun args o r es h _=>by
 unfold A4z at h;split at h
 ·cases h;exact D2w
 ·cases h
end

section

def kaA:Env:=uzH.or knC
theorem H2z:A9 Tryz.prog kaA:=A5k A4s H3f
theorem D4v (a b c d:U6) (i:Bool) (k l:U4) (xa ya:U6) (j:Bool) (xb yb:U6) (h:Bool):FnD Tryz.prog 20 [.v (.a [.ob (.fp a),.ob (.fp b),.ob (.fp c),.ob (.fp d),.bool i]),.v (.a [.ob (.fp xa),.ob (.fp ya),.bool j,.ob (.fr k),.ob (.fr l),.ob (.fp xb),.ob (.fp yb),.bool h])] (.t [.c (.bool (kcR ⟨a,b,c,d,i⟩ ⟨xa,ya,j⟩ ⟨xb,yb,h⟩ k l).1),.c (.int .i64 (kcR ⟨a,b,c,d,i⟩ ⟨xa,ya,j⟩ ⟨xb,yb,h⟩ k l).2)]) []:=D9u ⟨a,b,c,d,i⟩ ⟨xa,ya,j⟩ ⟨xb,yb,h⟩ k l
def A9d:B5
 | [.v (.a [.ob (.fp a),.ob (.fp b),.ob (.fp c),.ob (.fp d),.bool i]),.v (.a [.ob (.fp xa),.ob (.fp ya),.bool j,.ob (.fr k),.ob (.fr l),.ob (.fp xb),.ob (.fp yb),.bool h])]=>some ([],.t [.c (.bool (kcR ⟨a,b,c,d,i⟩ ⟨xa,ya,j⟩ ⟨xb,yb,h⟩ k l).1),.c (.int .i64 (kcR ⟨a,b,c,d,i⟩ ⟨xa,ya,j⟩ ⟨xb,yb,h⟩ k l).2)],[])
 | _=>none
def kaB:Env:=kaA.set (D5 kaA.fn 20 A9d)
theorem B4h:A9 Tryz.prog kaB:=A8 H2z 20 A9d (A4 Tryz.func20 rfl rfl) fun args o r es h _=>by
 unfold A9d at h;split at h
 ·cases h;exact D4v _ _ _ _ _ _ _ _ _ _ _ _ _
 ·cases h
--@env kaB B4h
end

section

theorem G6q {P:Pt Fp} (hP:OnC fp4 P) (m n:Nat):E8 (E8 P m) n=E8 (E8 P n) m:=by rw[<-W5 cv1 hP,<-W5 cv1 hP,Nat.mul_comm]
theorem In1.mul {a:G1D} (h:In1 a) (k:U4):In1 (A1q a k):=⟨D0r h.o k,C0o (D0r h.o k) (by rw[F8o h.o,G6q h.c,h.r,A1h])⟩
section
variable {F:Type} [Fld F] [DecidableEq F] {b:F}
theorem H3r (hc:Cv b) {X Y:CP b} {n:Nat} (h:Y.1=E8 X.1 n):letI:=M9 hc;Y=mlt X n:=Subtype.ext (h.trans (A4h hc X n).symm)
end
section
variable {G:Type} [J5 G]
end
theorem E5k {b:G2D} (h:I5 b=true):(ptQ b h).1=pG2 b:=rfl
theorem F9g {b:G2D} (h:I5 b=true) (l:U4) (k:I5 (A0l b l)=true):ptQ (A0l b l) k=mlt (ptQ b h) l.val:=by
 have e:(ptQ (A0l b l) k).1=E8 (ptQ b h).1 l.val:=by
  rw[E5k,E5k];exact G7g h l
 generalize l.val=n at e ⊢
 exact H3r cv2 e
theorem In2.mul {b:G2D} (h:In2 b) (l:U4):In2 (A0l b l):=⟨E5e h.o l,B7k (E5e h.o l) (by rw[F9g h.o];exact F0d h.s l.val)⟩
end

section

theorem E3k:et (0:F12)=0:=by
 have e:cj (0:F12)=0:=E2.ext' rfl (by show -(0:F6)=0;grind)
 unfold et;rw[e];generalize A3p (0:F12)=i;grind
theorem G3n (u v:F12):et (u*v)=et u*et v:=by
 by_cases hu:u=0
 ·subst hu
  have e:(0:F12)*v=0:=by grind
  rw[e,E3k];generalize et v=i;grind
 ·by_cases hv:v=0
  ·subst hv
   have e:u*(0:F12)=0:=by grind
   rw[e,E3k];generalize et u=i;grind
  ·exact A1o H8 hu hv
theorem F3g (u v:F12):N6 (u*v)=N6 u*N6 v:=by rw[A3k,A3k,A3k,G3n,C0c]
/-- The generators' pairing. -/
def ge:F12:=prg (some gPt) ptH
theorem G4m (i j:Nat):prg (E8 (some gPt) i) (mlt ptH j)=A7 ge (i*j):=F9e i j
theorem C8z (i:Nat):prg (E8 (some gPt) i) ptH=A7 ge i:=B5e (P:=some gPt) D4g H_r i
theorem F3r (n:Nat):A7 ge n=1↔rN ∣ n:=H1l n
theorem C8y (m n:Nat):A7 ge (m+n)=A7 ge m*A7 ge n:=Z6 ge m n
theorem G4n {m n:Nat}:A7 ge m=A7 ge n↔m % rN=n % rN:=by
 have h1:A7 ge (m*rN)=1:=(F3r _).2 ⟨m,Nat.mul_comm _ _⟩;have h2:A7 ge (m*rN)=A7 ge m*A7 ge (m*(rN-1)):=by
  rw[<-C8y];congr 1
  rw[Nat.mul_sub,Nat.mul_one];have:m<=m*rN:=Nat.le_mul_of_pos_right m E5n
  omega
 have key:A7 ge m=A7 ge n↔A7 ge (n+m*(rN-1))=1:=by
  rw[C8y,<-h1,h2];constructor
  ·intro h
   rw[h]
  ·intro h
   have h3:A7 ge n*A7 ge (m*(rN-1))*A7 ge m=A7 ge m*A7 ge (m*(rN-1))*A7 ge m:=by rw[h]
   rw[h1] at h2;generalize A7 ge n=a at *;generalize A7 ge m=b at *;generalize A7 ge (m*(rN-1))=c at *;have e1:a*c*b=a*(b*c):=by clear h h3 h1 h2;grind
   rw[e1,<-h2] at h3;clear h h1 h2 e1;grind
 rw[key,F3r,Nat.dvd_iff_mod_eq_zero];have e:m+m*(rN-1)=m*rN:=by
  rw[Nat.mul_sub,Nat.mul_one];have:m<=m*rN:=Nat.le_mul_of_pos_right m E5n
  omega
 have e2:(m+m*(rN-1)) % rN=0:=by rw[e];exact Nat.mul_mod_left _ _
 generalize m*(rN-1)=q at *;have hr:=E5n;generalize rN=r at *;constructor
 ·intro h
  obtain ⟨a,ha⟩:=Nat.dvd_of_mod_eq_zero h;obtain ⟨b,hb⟩:=Nat.dvd_of_mod_eq_zero e2;have h5:m+r*a=n+r*b:=by omega
  rw[<-Nat.add_mul_mod_self_left m r a,h5,Nat.add_mul_mod_self_left]
 ·intro h
  rw[Nat.add_mod,<-h,<-Nat.add_mod,e2]
end

section

--@env kaB B4h
theorem I3s (a b:U4):B8 kaB Tryz.f17 3000 [.v (.a [.ob (.fr a)]),.v (.a [.ob (.fr b)])] [] [] []=(some ([],((.v (.a [(.ob (.fr (S4.D9 ((S4.inF a)+(S4.inF b)))))])),[]))):=by kernel_rfl
theorem I3t (a b:U4):B8 kaB Tryz.f26 3000 [.v (.a [.ob (.fr a)]),.v (.a [.ob (.fr b)])] [] [] []=(some ([],((.v (.a [(.ob (.fr (S4.D9 ((S4.inF a)-(S4.inF b)))))])),[]))):=by kernel_rfl
theorem I4p (a:U4):B8 kaB Tryz.f28 3000 [.v (.a [.ob (.fr a)])] [] [] []=(some ([],((.v (.a [(.ob (.fp (G1D.x (Prod.fst (muR H7 a))))),(.ob (.fp (G1D.y (Prod.fst (muR H7 a))))),(.bool (G1D.inf (Prod.fst (muR H7 a))))])),[]))):=by kernel_rfl
theorem G3v (a b:U4):FnD Tryz.prog 17 [.v (.a [.ob (.fr a)]),.v (.a [.ob (.fr b)])] (.v (.a [.ob (.fr (S4.D9 (S4.inF a+S4.inF b)))])) []:=A5 B4h Tryz.func17 (I3s a b) trivial
theorem G4k (a b:U4):FnD Tryz.prog 26 [.v (.a [.ob (.fr a)]),.v (.a [.ob (.fr b)])] (.v (.a [.ob (.fr (S4.D9 (S4.inF a-S4.inF b)))])) []:=A5 B4h Tryz.func26 (I3t a b) trivial
theorem G5u (a:U4):FnD Tryz.prog 28 [.v (.a [.ob (.fr a)])] (.v (.a (muR H7 a).1.its)) []:=A5 B4h Tryz.func28 (I4p a) trivial
def C8p:B5
 | [.v (.a [.ob (.fr a)]),.v (.a [.ob (.fr b)])]=>some ([],.v (.a [.ob (.fr (S4.D9 (S4.inF a+S4.inF b)))]),[])
 | _=>none
def kaC:Env:=kaB.set (D5 kaB.fn 17 C8p)
theorem H3a:A9 Tryz.prog kaC:=A8 B4h 17 C8p (A4 Tryz.func17 rfl rfl) fun args o r es h _=>by
 unfold C8p at h;split at h
 ·cases h;exact G3v _ _
 ·cases h
def C8w:B5
 | [.v (.a [.ob (.fr a)]),.v (.a [.ob (.fr b)])]=>some ([],.v (.a [.ob (.fr (S4.D9 (S4.inF a-S4.inF b)))]),[])
 | _=>none
def kaD:Env:=kaC.set (D5 kaC.fn 26 C8w)
theorem H3b:A9 Tryz.prog kaD:=A8 H3a 26 C8w (A4 Tryz.func26 rfl rfl) fun args o r es h _=>by
 unfold C8w at h;split at h
 ·cases h;exact G4k _ _
 ·cases h
def C9v:B5
 | [.v (.a [.ob (.fr a)])]=>some ([],.v (.a (muR H7 a).1.its),[])
 | _=>none
def kaE:Env:=kaD.set (D5 kaD.fn 28 C9v)
theorem D9t:A9 Tryz.prog kaE:=A8 H3b 28 C9v (A4 Tryz.func28 rfl rfl) fun args o r es h _=>by
 unfold C9v at h;split at h
 ·cases h;exact G5u _
 ·cases h
--@env kaE D9t
theorem kfT (t c z y w:U4) (fit:Bool):let i:=S4.inF w;let j:=true=true;let k:=S4.inF t;let g:=S4.inF (S4.D9 ((S4.inF y)+(S4.inF (S4.D9 ((S4.inF (S4.D9 (k-(S4.inF z))))*i)))));let f:=decide ((S4.D9 ((S4.inF (S4.D9 (g-(S4.inF y))))+(S4.inF (S4.D9 ((S4.inF z)*i)))))=(S4.D9 (k*i)));let h:=A9k N7 (S4.D9 k);let d:=kcR (Prod.fst h) (Prod.fst (muR H7 (S4.D9 g))) (Prod.fst (muR H7 (S4.D9 i))) z y;let b:=(Prod.fst d) == (ite j f (Bool.not f));B8 kaE Tryz.f6 3000 [.v (.a [.ob (.fr t)]),.v (.a [.ob (.fr c)]),.v (.a [.ob (.fr z)]),.v (.a [.ob (.fr y)]),.v (.a [.ob (.fr w)]),.v (.c (.bool fit))] [true,true,true,true,false,true] [] []=(some ([(fit=true),j,(((Prod.snd h) == (0:Int))=true),(((Prod.snd d) == (0:Int))=true),((ite j b (Bool.not b))=true),((Bool.not fit)=false)],((.ci (.bool (Prod.fst d))),[]))):=by intros;kernel_rfl
theorem kfF (t c z y w:U4) (fit:Bool):let g:=A9k N7 (S4.D9 (S4.inF t));let h:=true=true;let i:=S4.inF w;let d:=decide ((S4.D9 ((S4.inF (S4.D9 ((S4.inF c)-(S4.inF y))))+(S4.inF (S4.D9 ((S4.inF z)*i)))))=(S4.D9 ((S4.inF t)*i)));let f:=kcR (Prod.fst g) (Prod.fst (muR H7 (S4.D9 (S4.inF c)))) (Prod.fst (muR H7 (S4.D9 i))) z y;let b:=(Prod.fst f) == (ite h d (Bool.not d));B8 kaE Tryz.f6 3000 [.v (.a [.ob (.fr t)]),.v (.a [.ob (.fr c)]),.v (.a [.ob (.fr z)]),.v (.a [.ob (.fr y)]),.v (.a [.ob (.fr w)]),.v (.c (.bool fit))] [false,true,true,true,true,true] [] []=(some ([(fit=false),h,(((Prod.snd g) == (0:Int))=true),(((Prod.snd f) == (0:Int))=true),((ite h b (Bool.not b))=true),((Bool.not fit)=true)],((.ci (.lit true)),[]))):=by intros;kernel_rfl
end

section

theorem H2j (c k1 k2 w k3:Nat):prg (D4 (E8 (E8 (some gPt) c) k1) (D4 (E8 (some gPt) k2) (D4 (E8 (E8 (some gPt) w) k3) none))) ptH=A7 ge (c*k1+(k2+w*k3)):=by
 have hG:OnC fp4 (some gPt):=D4g;have h1:=J8 cv1 (J8 cv1 hG c) k1;have h2:=J8 cv1 hG k2;have h3:=J8 cv1 (J8 cv1 hG w) k3;have h4:OnC fp4 (D4 (E8 (E8 (some gPt) w) k3) none):=J6 cv1 _ _ h3 (show OnC fp4 (none:Pt Fp) from True.intro)
 rw[B2y h1 (J6 cv1 _ _ h2 h4) H_r,B2y h2 h4 H_r,B2y h3 (show OnC fp4 (none:Pt Fp) from True.intro) H_r,A7r,<-W5 cv1 hG,<-W5 cv1 hG,C8z,C8z,C8z,C8y,C8y]
 generalize A7 ge (c*k1)=a1;generalize A7 ge k2=a2;generalize A7 ge (w*k3)=a3;grind
theorem H2b (c y z w:Fr):((c-y)+z*w).val=(c.val*1+((0-y).val+w.val*z.val)) % rN:=by
 have e:(c-y)+z*w=c+((0-y)+w*z):=by grind
 rw[e];show (c.val+((0-y).val+(w.val*z.val) % rN) % rN) % rN=_;rw[Nat.mul_one,Nat.add_mod_mod,<-Nat.add_assoc,Nat.add_mod_mod,Nat.add_assoc]
theorem G4j (t w:Fr):(t*w).val=(w.val*t.val) % rN:=by
 show (t.val*w.val) % rN=_;rw[Nat.mul_comm]
theorem C0i (k:U4):pG (A1q H7 k)=E8 (some gPt) k.val:=by rw[F8o A2z,E0m]
theorem D4h (k:U4) (h:I5 (A0l N7 k)=true):ptQ (A0l N7 k) h=mlt ptH k.val:=by rw[F9g A4j,D1b]
theorem G5j (c w z y:U4) (h:onG (kcL (A1q H7 c) (A1q H7 w) z y)=true):N6 (A4g (kcL (A1q H7 c) (A1q H7 w) z y) N7)=A7 ge (c.val*(S4.D9 (1:Fr)).val+((S4.D9 (0-S4.inF y)).val+w.val*(S4.D9 (S4.inF z)).val)):=by
 rw[F5n h A4j D4j,D1b,F4x z y (D0r A2z c) (D0r A2z w),C6k,<-H2j];show prg (D4 (E8 (pG (A1q H7 c)) _) (D4 (E8 (pG H7) _) (D4 (E8 (pG (A1q H7 w)) _) none))) ptH=_;rw[C0i,C0i,E0m]
theorem F5b (w t:U4) (h:onG (B6x (A1q H7 w))=true) (hs:In2 (A0l N7 t)):N6 (A4g (B6x (A1q H7 w)) (A0l N7 t))*A7 ge (w.val*t.val)=1:=by
 rw[F5n h hs.o hs.g,F8p,C0i,D4h,<-G4m];have hA:SQ (mlt ptH t.val):=by
  have:=hs.s
  rw[D4h] at this;exact this
 exact F9f (J8 cv1 (P:=some gPt) D4g w.val) hA
/-- What the numbers of an opening must be. -/
def C7g (t c z y w:U4):Bool:=decide (S4.D9 (S4.inF (S4.D9 (S4.inF c-S4.inF y))+S4.inF (S4.D9 (S4.inF z*S4.inF w)))=S4.D9 (S4.inF t*S4.inF w))
theorem A1a (x:Fr):S4.inF (S4.D9 x)=x:=by
 refine Fin.ext ?_
 show (S4.D9 x).val % rN=x.val;rw[S4.W7,Nat.mod_eq_of_lt x.isLt]
theorem D6f {x y:Fr}:S4.D9 x=S4.D9 y↔x=y:=⟨fun h=>by rw[<-A1a x,h,A1a],fun h=>by rw[h]⟩
theorem H0c (t c z y w:U4):kcR (A0l N7 (S4.D9 (S4.inF t))) (A1q H7 (S4.D9 (S4.inF c))) (A1q H7 (S4.D9 (S4.inF w))) z y=(C7g t c z y w,0):=by
 have ha:=B7l.mul (S4.D9 (S4.inF c));have hb:=B7l.mul (S4.D9 (S4.inF w));have hs:=E4g.mul (S4.D9 (S4.inF t));have e0:B5p (A0l N7 (S4.D9 (S4.inF t))) (A1q H7 (S4.D9 (S4.inF c))) (A1q H7 (S4.D9 (S4.inF w)))=0:=by unfold B5p;rw[ha.o,hb.o,hs.o,ha.g,hb.g,hs.g];rfl
 have hl:=H3c z y ha hb;unfold kcR;rw[if_pos e0,G7l hl hb.neg E4g hs];have hX:=G5j (S4.D9 (S4.inF c)) (S4.D9 (S4.inF w)) z y hl.o;have hY:=F5b (S4.D9 (S4.inF w)) (S4.D9 (S4.inF t)) hb.neg.o hs;generalize A4g (kcL (A1q H7 (S4.D9 (S4.inF c))) (A1q H7 (S4.D9 (S4.inF w))) z y) N7=L1 at hX ⊢
 generalize A4g (B6x (A1q H7 (S4.D9 (S4.inF w)))) (A0l N7 (S4.D9 (S4.inF t)))=L2 at hY ⊢
 refine congrArg (fun q=>(q,(0:Int))) ?_
 have e1:(1:F12)*L1*L2=L1*L2:=by clear hX hY;grind
 rw[Bool.eq_iff_iff,E7f,e1,F3g];have e2:N6 L1*N6 L2=1↔N6 L1=A7 ge ((S4.D9 (S4.inF w)).val*(S4.D9 (S4.inF t)).val):=by
  generalize A7 ge ((S4.D9 (S4.inF w)).val*(S4.D9 (S4.inF t)).val)=E at hY ⊢
  clear hX;generalize N6 L1=A at hY ⊢
  generalize N6 L2=B at hY ⊢
  constructor
  ·intro h
   have:A*B*E=E:=by rw[h];clear h hY;grind
   have e3:A*B*E=A*(B*E):=by clear this h hY;grind
   rw[e3,hY] at this;clear e3 h hY;grind
  ·intro h
   rw[h];clear h;grind
 rw[e2,hX,G4n,S4.W7,S4.W7,S4.W7,S4.W7,S4.W7,S4.W7];unfold C7g;rw[decide_eq_true_iff,A1a,A1a,D6f];have k1:=H2b (S4.inF c) (S4.inF y) (S4.inF z) (S4.inF w);have k2:=G4j (S4.inF t) (S4.inF w);have k3:((1:Fr).val)=1:=by decide +kernel
 rw[k3,<-k1,<-k2];exact ⟨fun h=>Fin.ext h,fun h=>by rw[h]⟩
end

section

theorem E5p (b:Bool):(if true=true then (b == (if true=true then b else !b)) else !(b == (if true=true then b else !b)))=true:=by cases b<;>rfl
theorem G0e {b q:Bool} (h:q=b):(if true=true then (b == (if true=true then q else !q)) else !(b == (if true=true then q else !q)))=true:=by subst h;exact E5p q
def G4g (t z y w:U4):U4:=S4.D9 (S4.inF y+S4.inF (S4.D9 (S4.inF (S4.D9 (S4.inF t-S4.inF z))*S4.inF w)))
theorem D7v (t z y w:U4):C7g t (G4g t z y w) z y w=true:=by
 unfold C7g G4g;rw[decide_eq_true_iff,A1a,A1a,A1a,A1a,A1a,D6f];generalize S4.inF t=a;generalize S4.inF z=b;generalize S4.inF y=c;generalize S4.inF w=d;grind
theorem C4e (t c z y w:U4) (fit:Bool):FnD Tryz.prog 6 [.v (.a [.ob (.fr t)]),.v (.a [.ob (.fr c)]),.v (.a [.ob (.fr z)]),.v (.a [.ob (.fr y)]),.v (.a [.ob (.fr w)]),.v (.c (.bool fit))] (.v (.c (.bool true))) []:=by
 cases fit with
 | false=>
  have r:=kfF t c z y w false;dsimp only at r;rw[B7o _ A4j,C1f _ A2z,C1f _ A2z] at r;dsimp only at r;rw[H0c] at r;refine (A5 D9t Tryz.func6 r ⟨rfl,rfl,rfl,rfl,E5p (C7g t c z y w),rfl,trivial⟩).conv (fun _ _ h=>h) fun y v hd=>S1 rfl hd
 | true=>
  have r:=kfT t c z y w true;dsimp only at r;have e:S4.D9 (S4.inF y+S4.inF (S4.D9 (S4.inF (S4.D9 (S4.inF t-S4.inF z))*S4.inF w)))=G4g t z y w:=rfl;rw[e,B7o _ A4j,C1f _ A2z,C1f _ A2z] at r;dsimp only at r;rw[H0c] at r;have r2:=r;dsimp only at r2;have h:B8 kaE Tryz.f6 3000 [.v (.a [.ob (.fr t)]),.v (.a [.ob (.fr c)]),.v (.a [.ob (.fr z)]),.v (.a [.ob (.fr y)]),.v (.a [.ob (.fr w)]),.v (.c (.bool true))] [true,true,true,true,false,true] [] []=some (_,.v (.c (.bool (C7g t (G4g t z y w) z y w))),[]):=r2;rw[D7v] at h;exact A5 D9t Tryz.func6 h ⟨rfl,rfl,rfl,rfl,G0e (D7v t z y w),rfl,trivial⟩
end

end
end Go.Proofs.YtefimjofjjdndaaGreat
