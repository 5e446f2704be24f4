/- Parts of a proof, one behind the other: PUb, WUc, PUc, WCk, PCk, WUd, PUd, WUe, PUe, WLc, DWo, DPo, DBl, DBs, DBp. No conditions. -/
import Derived.Test.YtifiiigbedjceaaGreatTuQ
open Go.IntKind (wrap)
namespace Go.Proofs.YtifiiigbedjceaaGreat
noncomputable section
section
theorem B0p{x:C0}{n:Nat}(L:List (Fp×Fp×Fp))(h:L.length=n)(cs:List Value)(hc:C9 x (.fl (J9 L 0 n)) cs):C9 x (.sq (.pt L)) cs:=by
 obtain ⟨hl,hj⟩:=FA L n 0 cs hc;refine ⟨?_,fun i hi=>?_⟩
 ·show L.length*18<=cs.length
  rw[h,hl];exact Nat.le_refl _
 ·have hi:i<L.length:=hi
  rw[h] at hi;obtain ⟨c,h1,h2⟩:=hj i hi;rw[Nat.zero_add] at h1;exact ⟨c,h1,h2⟩
theorem WQ(P:List (Fp×Fp×Fp))(D:List Int)(hl:D.length=P.length)(hp:P.length<=4611686018427387904)(hd:∀i,-16<=D.getD i 0∧D.getD i 0<=16) :
  K2 Tryz.prog 108 [.v (.c (.sl (.pt P))),.v (.c (.sl (.int D)))] (.v (.a (M5 (bkT E7 P D)))) []:=by
 refine H2 (fn:=Tryz.f108) (c:=B5 Tryz.f108) Tryz.func108 rfl rfl fun x0 a0 hk hF hs=>?_
 refine kb P D trivial hs fun ac cY aY hs1=>?_
 have hs2:=hs1.blocks (ens' := [some (.fl [.ob (.p 0),.ob (.p 0),.ob (.p 0)]),some (.sq (.pt (List.replicate 17 E7)))])
  ⟨.inl rfl,.inr ⟨_,_,_,rfl,rfl,rfl,fun cs h=>B0p (n:=17) _ rfl cs h⟩,C4⟩
 have hlen:∀i,(bkN E7 (List.replicate 17 E7) P D i).length=17:=fun i=>(Uy ..).trans List.length_replicate
 refine C5 (ι:={ i:Nat // i<=P.length }) (fun i=>kbS P D (bkN E7 (List.replicate 17 E7) P D i.1) (i.1:Int)) (fun i=>P.length-i.1) (c:=X5 Np) (k:=X8 Np) (by kernel_rfl) (fun i ih ac cY aY hs=>?_) ⟨0,Nat.zero_le _⟩ (hs2.nx _)
 obtain ⟨i,hi⟩:=i;simp only at ih hs
 have hS:=hlen i;by_cases h:i<P.length
 ·have hnext:bkN E7 (List.replicate 17 E7) P D (i+1)=bkS E7 (bkN E7 (List.replicate 17 E7) P D i) (P.getD i E7) (D.getD i 0):=rfl
  have ei:wrap IntKind.i64 ((i:Int)+1)=((i+1:Nat):Int):=by rw[A9 (by omega) (by omega)];rfl
  have hdi:=hd i;have go:∀(S' : List (Fp×Fp×Fp)) (n:Nat) (ac:List Act) (cU:C0) (aU:Act),S' = bkN E7 (List.replicate 17 E7) P D (i+1)->Sim x0.w x0.F AD ac (kbS P D S' ((i+1:Nat):Int)) cU aU->Wq Tryz.prog (NU Tryz.prog Tryz.f108 x0 (.v (.a (M5 (bkT E7 P D)))) []) (D4 Np) ac .normal aU cU.w:=by
   intro S' n ac cU aU e hs
   rw[e] at hs;exact ih ⟨i+1,h⟩ (by show P.length-(i+1)<P.length-i;omega) ac cU aU hs
  generalize bkN E7 (List.replicate 17 E7) P D i=S at hs hS hnext;generalize hd0:D.getD i 0=d at hdi hnext;by_cases hpos:d > 0
  ·refine kbA P D S i ⟨decide_eq_true (by omega),by omega,by omega,by omega,by omega,?_,?_,?_,rfl,?_,?_,?_,rfl,?_,C4⟩ hs fun ac cU aU hs3=>?_
   all_goals try rw[Int.toNat_natCast,hd0]
   ·exact decide_eq_true hpos
   ·omega
   ·omega
   ·omega
   ·omega
   ·omega
   ·omega
   ·rw[Int.toNat_natCast,hd0,ei] at hs3
    refine go _ 0 ac cU aU ?_ (hs3.nx _)
    rw[hnext];exact (if_pos hpos).symm
  ·by_cases hneg:d<0
   ·have ew:wrap IntKind.i64 ((0:Int)-d) = -d:=by rw[A9 (by omega) (by omega)];omega
    refine kbB P D S i ⟨decide_eq_true (by omega),by omega,by omega,by omega,by omega,?_,?_,?_,?_,rfl,?_,?_,?_,rfl,?_,C4⟩ hs fun ac cU aU hs3=>?_
    all_goals try rw[Int.toNat_natCast,hd0]
    ·exact decide_eq_false hpos
    ·exact decide_eq_true hneg
    all_goals try rw[ew]
    ·omega
    ·omega
    ·omega
    ·omega
    ·omega
    ·omega
    ·rw[Int.toNat_natCast,hd0,ew,ei] at hs3
     refine go _ 0 ac cU aU ?_ (hs3.nx _)
     rw[hnext];unfold bkS;rw[if_neg hpos,if_pos hneg]
   ·refine kbC P D S i ⟨decide_eq_true (by omega),by omega,by omega,by omega,by omega,?_,?_,C4⟩ hs fun ac cU aU hs3=>?_
    all_goals try rw[Int.toNat_natCast,hd0]
    ·exact decide_eq_false hpos
    ·exact decide_eq_false hneg
    ·rw[ei] at hs3
     refine go _ 0 ac cU aU ?_ (hs3.nx _)
     rw[hnext];unfold bkS;rw[if_neg hpos,if_neg hneg]
 ·obtain rfl:i=P.length:=by omega
  have hT:bkT E7 P D=toO E7 (bkN E7 (List.replicate 17 E7) P D P.length) 16:=rfl;rw[hT];generalize bkN E7 (List.replicate 17 E7) P D P.length=S at hs hS ⊢
  refine kbX P D S _ ⟨decide_eq_false (by omega),C4⟩ hs fun ac cU aU hs3=>?_
  refine C5 (ι:={ n:Nat // n<=16 }) (fun n=>kbT S (toR E7 S n.1) (toO E7 S n.1) ((16-n.1:Nat):Int)) (fun n=>16-n.1) (c:=X5 Tq) (k:=X8 Tq) (by kernel_rfl) (fun n ih2 ac cY aY hs=>?_) ⟨0,Nat.zero_le _⟩ (hs3.nx _)
  obtain ⟨n,hn⟩:=n;simp only at ih2 hs
  by_cases hn16:n<16
  ·refine kbU S _ _ _ ⟨decide_eq_true (by omega),by omega,by omega,rfl,by rw[Int.toNat_natCast,hS];omega,C4⟩ hs fun ac cV aV hs4=>?_
   have en:wrap IntKind.i64 (((16-n:Nat):Int)-1)=((16-(n+1):Nat):Int):=by rw[A9 (by omega) (by omega)];omega
   have e1:jpl (toR E7 S n) (S.getD (16-n) E7)=toR E7 S (n+1):=rfl;have e2:jpl (toO E7 S n) (toR E7 S (n+1))=toO E7 S (n+1):=rfl;rw[Int.toNat_natCast,en,e1,e2] at hs4;exact ih2 ⟨n+1,hn16⟩ (by show 16-(n+1)<16-n;omega) ac cV aV (hs4.nx _)
  ·obtain rfl:n=16:=by omega
   exact H4 Gn hk hF (C4j S _ _ _) ⟨A4,C4⟩ (fun y v hd=>hd) hs
end
section
section
variable {w0:World} {F0:Nat->Prop} {K:Kp} {ac:List Act} {Q:Exit->Act->World->Prop} {cX:C0} {aX:Act}
theorem UC(P:List (Fp×Fp×Fp))(D:List Int)(h:D.length=P.length∧P.length<=4611686018427387904∧C3j D):K2 Tryz.prog 108 [.v (.c (.sl (.pt P))),.v (.c (.sl (.int D)))] (.v (.a (M5 (bkT E7 P D)))) []:=WQ P D h.1 h.2.1 h.2.2
def Fv:B2
 | [.v (.c (.sl (.pt P))),.v (.c (.sl (.int D)))]=>some ([D.length=P.length,P.length<=4611686018427387904,C3j D],.v (.a (M5 (bkT E7 P D))),[])
 | _=>none
def ucC:D6:=ucB.set (E0 ucB.fn 108 Fv)
theorem DR:A7 Tryz.prog ucC:=A8 Gn 108 Fv (A2 Tryz.func108 rfl rfl) fun args o r es h ho=>by
 unfold Fv at h;split at h
 ·cases h;exact UC _ _ ⟨ho.1,ho.2.1,ho.2.2.1⟩
 ·cases h
def Zm:List KI:=(run ucC false 3000 (⟨[.code (B5 Tryz.f92)],.normal,D2 Tryz.f92.ntmps [.v (.c (.sl (.pt dF))),.v (.c (.sl (.fr dF)))]⟩:G5) []).cfg.k
theorem am(P:List (Fp×Fp×Fp))(k:List U4):A5 []->Sg Tryz.prog (D2 Tryz.f92.ntmps [.v (.c (.sl (.pt P))),.v (.c (.sl (.fr k)))]) (B0 72 [0,1,4,5,6,15,16,17] [(.ci (.sl (Sq.pt P))),(.ci (.sl (.fr k))),.pt 16 0,(.ci (.val (Value.slice Option.none 0 0))),.ii 0,(.ci (.sl (.fr k))),(.ii (k.length:Int)),.ii 0] [16] [(B9 [(.ob (.p (0:Fp))),(.ob (.p (0:Fp))),(.ob (.p (0:Fp)))])] 112 [] []) .normal (Zm) ([.code (B5 Tryz.f92)]):=E4 false 3000 [] DR
def amS(P:List (Fp×Fp×Fp))(k:List U4)(R:List (List Int))(n:Nat)(m i:Int):St:=B0 72 [0,1,4,5,6,15,16,17] [(.ci (.sl (Sq.pt P))),(.ci (.sl (.fr k))),.pt 16 0,.v (.c (.slc 17 0 n 1)),.v (.c (.int .i64 m)),(.ci (.sl (.fr k))),(.ii (k.length:Int)),.v (.c (.int .i64 i))] [16,17] [(B9 [(.ob (.p (0:Fp))),(.ob (.p (0:Fp))),(.ob (.p (0:Fp)))]),some (.sq (.ints R))] 112 [] []
theorem amA(P:List (Fp×Fp×Fp))(k:List U4)(R:List (List Int))(n:Nat)(m i:Int):let a:=Prod.fst (dgW (Fin.val (k.getD i.toNat 0)) 52);let b:=R.length+1;let c:Int:=(a.length:Nat);let d:=i<(k.length:Int);A5 [((decide d)=true),(0<=i),d,((b*24)<=140737488355328),(b<=maxLen),(n=R.length),(1=1)]->Sg Tryz.prog (amS P k R n m i) (St.z (amS P k (R++[a]) b (ite (c > m) c m) (wrap .i64 (i+1))) 432) .normal (D4 Zm) (B7 Zm):=E4 false 3000 [true] DR
def NW:List KI:=(run ucC false 3000 (⟨B7 Zm,.normal,amS dF dF dF dF dF dF⟩:G5) [false]).cfg.k
theorem amB(P:List (Fp×Fp×Fp))(k:List U4)(R:List (List Int))(n:Nat)(m i:Int):let a:Int:=k.length;let b:=B9 [(.ob (.p (0:Fp))),(.ob (.p (0:Fp))),(.ob (.p (0:Fp)))];A5 [((decide (i<a))=false),(0<=a),(a=a),(((8:Int)*a)<=(281474976710656:Int)),(a<=(9223372036854775807:Int))]->Sg Tryz.prog (amS P k R n m i) (B0 72 [0,4,5,10,11,12] [(.ci (.sl (Sq.pt P))),.pt 16 0,(.ci (.slc 17 0 n 1)),.pt 128 0,(.ci (.slc 176 0 (a).toNat 1)),(.ii (wrap .i64 (m-1)))] [16,17,128,176] [b,(D9 (.ints R)),b,(D9 (.int (List.replicate (a).toNat 0)))] 256 [] []) .normal (NW) (B7 Zm):=E4 false 3000 [false] DR
def amT(P:List (Fp×Fp×Fp))(R:List (List Int))(n q:Nat)(D:List Int)(o:Fp×Fp×Fp)(h:Int):St:=B0 72 [0,4,5,10,11,12] [(.ci (.sl (Sq.pt P))),.pt 16 0,(.ci (.slc 17 0 n 1)),.pt 128 0,.v (.c (.slc 176 0 q 1)),.v (.c (.int .i64 h))] [16,17,128,176] [(B9 [(.ob (.p (0:Fp))),(.ob (.p (0:Fp))),(.ob (.p (0:Fp)))]),(D9 (.ints R)),some (.fl [.ob (.p o.1),.ob (.p o.2.1),.ob (.p o.2.2)]),some (.sq (.int D))] 256 [] []
def amU(P:List (Fp×Fp×Fp))(R:List (List Int))(n q:Nat)(D:List Int)(o:Fp×Fp×Fp)(h j:Int):St:=B0 72 [0,4,5,10,11,12,41] [(.ci (.sl (Sq.pt P))),.pt 16 0,(.ci (.slc 17 0 n 1)),.pt 128 0,(.ci (.slc 176 0 q 1)),.ii h,.v (.c (.int .i64 j))] [16,17,128,176] [(B9 [(.ob (.p (0:Fp))),(.ob (.p (0:Fp))),(.ob (.p (0:Fp)))]),(D9 (.ints R)),(B9 [(.ob (.p (Prod.fst o))),(.ob (.p (Prod.fst (Prod.snd o)))),(.ob (.p (Prod.snd (Prod.snd o))))]),(D9 (.int D))] 304 [] []
def NX:List KI:=(run ucC false 3000 (⟨B7 NW,.normal,amT dF dF dF dF dF dF dF⟩:G5) [true]).cfg.k
theorem amC(P:List (Fp×Fp×Fp))(R:List (List Int))(n q:Nat)(D:List Int)(o:Fp×Fp×Fp)(h:Int):A5 [((decide (h >= (0:Int)))=true)]->Sg Tryz.prog (amT P R n q D o h) (amU P R n q D o h (0:Int)) .normal (NX) (B7 NW):=E4 false 3000 [true] DR
theorem amD(P:List (Fp×Fp×Fp))(R:List (List Int))(n q:Nat)(D:List Int)(o:Fp×Fp×Fp)(h j:Int):A5 [((decide (j<(5:Int)))=true)]->Sg Tryz.prog (amU P R n q D o h j) (St.z (amU P R n q D (jtw o) h (wrap .i64 (j+1))) 400) .normal (D4 NX) (B7 NX):=E4 false 3000 [true] DR
def amV(P:List (Fp×Fp×Fp))(R:List (List Int))(n q:Nat)(D:List Int)(o:Fp×Fp×Fp)(h i:Int):St:=B0 72 [0,4,5,10,11,12,47,48,49] [(.ci (.sl (Sq.pt P))),.pt 16 0,(.ci (.slc 17 0 n 1)),.pt 128 0,(.ci (.slc 176 0 q 1)),.ii h,(.ci (.slc 17 0 n 1)),(.ii ((n:Nat):Int)),.v (.c (.int .i64 i))] [16,17,128,176] [(B9 [(.ob (.p (0:Fp))),(.ob (.p (0:Fp))),(.ob (.p (0:Fp)))]),(D9 (.ints R)),(B9 [(.ob (.p (Prod.fst o))),(.ob (.p (Prod.fst (Prod.snd o)))),(.ob (.p (Prod.snd (Prod.snd o))))]),some (.sq (.int D))] 400 [] []
def Si:List KI:=(run ucC false 3000 (⟨B7 NX,.normal,amU dF dF dF dF dF dF dF dF⟩:G5) [false]).cfg.k
theorem amE(P:List (Fp×Fp×Fp))(R:List (List Int))(n q:Nat)(D:List Int)(o:Fp×Fp×Fp)(h j:Int):A5 [((decide (j<(5:Int)))=false),(q=D.length)]->Sg Tryz.prog (amU P R n q D o h j) (amV P R n q (List.replicate D.length (0:Int)) o h (0:Int)) .normal (Si) (B7 NX):=E4 false 3000 [false] DR
theorem amF(P:List (Fp×Fp×Fp))(R:List (List Int))(n q:Nat)(D:List Int)(o:Fp×Fp×Fp)(h i:Int):let a:=List.getD R (i).toNat ([]:List Int);let b:=h<((a.length:Nat):Int);let c:=i<((n:Nat):Int);A5 [((decide c)=true),(0<=i),c,(0=0),((i).toNat<R.length),((decide b)=true),(0<=h),b,(0<=i),(i<((q:Nat):Int)),(0=0),((i).toNat<D.length)]->Sg Tryz.prog (amV P R n q D o h i) (St.z (amV P R n q (List.set D (i).toNat (List.getD a (h).toNat 0)) o h (wrap .i64 (i+1))) 720) .normal (D4 Si) (B7 Si):=E4 false 3000 [true,true] DR
theorem amH(P:List (Fp×Fp×Fp))(R:List (List Int))(n q:Nat)(D:List Int)(o:Fp×Fp×Fp)(h i:Int):let a:=jpl o (bkT E7 P D);A5 [((decide (i<((n:Nat):Int)))=false),(0=0),(q=D.length),(1=1),(D.length=P.length),(P.length<=4611686018427387904),(C3j D)]->Sg Tryz.prog (amV P R n q D o h i) (B0 72 [0,4,5,10,11,12] [(.ci (.sl (Sq.pt P))),.pt 16 0,(.ci (.slc 17 0 n 1)),.pt 128 0,(.ci (.slc 176 0 q 1)),(.ii (wrap .i64 (h-1)))] [16,17,128,176] [(B9 [(.ob (.p (0:Fp))),(.ob (.p (0:Fp))),(.ob (.p (0:Fp)))]),(D9 (.ints R)),(B9 [(.ob (.p (Prod.fst a))),(.ob (.p (Prod.fst (Prod.snd a)))),(.ob (.p (Prod.snd (Prod.snd a))))]),(D9 (.int D))] 560 [] []) .normal (D4 NW) (B7 Si):=E4 false 3000 [false] DR
theorem C2j(P:List (Fp×Fp×Fp))(R:List (List Int))(n q:Nat)(D:List Int)(o:Fp×Fp×Fp)(h:Int):E2 ucC Tryz.f92 false 3000 (⟨B7 NW,.normal,amT P R n q D o h⟩) [false] [] []=(some ([((decide (h >= (0:Int)))=false)],((.v (.a [(.ob (.p (Prod.fst o))),(.ob (.p (Prod.fst (Prod.snd o)))),(.ob (.p (Prod.snd (Prod.snd o))))])),[]))):=by kernel_rfl
end
end
section
theorem C2i(P:List (Fp×Fp×Fp))(k:List U4)(hk0:k.length=P.length)(hp:P.length<=4096){N:Nat}(hN:N=52) :
  K2 Tryz.prog 92 [.v (.c (.sl (.pt P))),.v (.c (.sl (.fr k)))] (.v (.a (M5 (smJ N E7 P k)))) []:=by
 refine H2 (fn:=Tryz.f92) (c:=B5 Tryz.f92) Tryz.func92 rfl rfl fun x0 a0 hk hF hs=>?_
 refine am P k trivial hs fun ac cY aY hs1=>?_
 have hs2:=hs1.nilRow (p:=17) (q:=.ints []) rfl A4 rfl (ml' := [16,17]) (ens' := [some (.fl [.ob (.p 0),.ob (.p 0),.ob (.p 0)]),some (.sq (.ints []))]) (fun r=>UP A4)
  (svs' := [.v (.c (.sl (.pt P))),.v (.c (.sl (.fr k))),.v (.c (.ptr 16 0)),.v (.c (.slc 17 0 0 1)),.v (.c (.int .i64 0)),.v (.c (.sl (.fr k))),.v (.c (.int .i64 ((k.length:Nat):Int))),.v (.c (.int .i64 0))]) ⟨.inl rfl,.inl rfl,.inl rfl,.inr ⟨1,rfl,rfl⟩,.inl rfl,.inl rfl,.inl rfl,.inl rfl,C4⟩
 have hL:=A3j N k;have hrow:=@C3e N k;have hget:=UK N k;have hdig:=C3d N k;have hmax:4097<=maxLen:=by decide
 change Wq Tryz.prog _ _ _ _ _ (G4 cY 17).w
 refine C5 (ι:={ i:Nat // i<=k.length }) (fun i=>amS P k ((dgK N k).take i.1) i.1 (if i.1=0 then 0 else (N:Int)) (i.1:Int)) (fun i=>k.length-i.1) (c:=X5 Zm) (k:=X8 Zm) (by kernel_rfl) (fun i ih ac cY aY hs=>?_) ⟨0,Nat.zero_le _⟩ (hs2.nx _)
 obtain ⟨i,hi⟩:=i;simp only at ih hs
 have htl:((dgK N k).take i).length=i:=by rw[List.length_take,hL];omega
 by_cases h:i<k.length
 ·refine amA P k _ i _ i ⟨decide_eq_true (by omega),by omega,by omega,by rw[htl];omega,by rw[htl];omega,htl.symm,rfl,C4⟩ hs fun ac cU aU hs3=>?_
  have ei:wrap IntKind.i64 ((i:Int)+1)=((i+1:Nat):Int):=by rw[A9 (by omega) (by omega)];rfl
  have e52:(dgW (k.getD i 0).val 52).1=(dgK N k).getD i []:=by rw[hget i h,hN]
  rw[Int.toNat_natCast,ei,htl,e52,Md _ _ (by omega),hrow i h] at hs3
  have em:(if ((N:Nat):Int) > (if i=0 then 0 else (N:Int)) then ((N:Nat):Int) else (if i=0 then 0 else (N:Int)))=(if i+1=0 then 0 else (N:Int)):=by
   rw[if_neg (show ¬i+1=0 from by omega)]
   split<;>split<;>omega
  rw[em] at hs3;exact ih ⟨i+1,h⟩ (by show k.length-(i+1)<k.length-i;omega) ac cU aU (hs3.nx _)
 ·obtain rfl:i=k.length:=by omega
  have ht:(dgK N k).take k.length=dgK N k:=by rw[<-hL,List.take_length]
  rw[ht] at hs;have em:(if k.length=0 then 0 else (N:Int))=((mst N k:Nat):Int):=by
   cases k with
   | nil=>rfl
   | cons x l=>rfl
  rw[em] at hs;have hm52:mst N k<=52:=by
   cases k with
   | nil=>exact Nat.zero_le _
   | cons x l=>exact Nat.le_of_eq hN
  have hmN:0<k.length->mst N k=N:=by
   intro h
   cases k with
   | nil=>cases h
   | cons x l=>rfl
  refine amB P k _ k.length _ _ ⟨decide_eq_false (by omega),by omega,rfl,by omega,by omega,C4⟩ hs fun ac cU aU hs3=>?_
  rw[Int.toNat_natCast] at hs3;have hres:smJ N E7 P k=alN E7 P (dgK N k) (mst N k) (mst N k):=rfl;rw[hres];generalize dgK N k=L at hs3 hL hrow hdig ⊢
  generalize mst N k=m at hs3 hm52 hmN ⊢
  have eh:wrap IntKind.i64 ((m:Int)-1)=(m:Int)-1-((0:Nat):Int):=by rw[A9 (by omega) (by omega)];omega
  rw[eh] at hs3;refine C5 (ι:={ p:Nat×List Int // p.1<=m∧p.2.length=k.length }) (fun p=>amT P L k.length k.length p.1.2 (alN E7 P L m p.1.1) ((m:Int)-1-(p.1.1:Int))) (fun p=>m-p.1.1) (c:=X5 NW) (k:=X8 NW) (by kernel_rfl) (fun p ih2 ac cY aY hs=>?_) ⟨(0,List.replicate k.length 0),Nat.zero_le _,List.length_replicate⟩ (hs3.nx _)
  obtain ⟨⟨t,D⟩,ht1,hD⟩:=p;simp only at ih2 hs ht1 hD
  by_cases htm:t<m
  ·have hlt:m-(t+1)<m-t:=by omega
   obtain ⟨a,ha⟩:∃a:Nat,a=m-1-t:=⟨_,rfl⟩
   have ea:(m:Int)-1-(t:Int)=(a:Int):=by omega
   rw[ea] at hs;have hnext:alN E7 P L m (t+1)=jpl (Ef 5 (alN E7 P L m t)) (bkT E7 P (BE L a)):=by rw[ha];rfl
   generalize alN E7 P L m t=o at hs hnext;refine amC P L _ _ D o _ ⟨decide_eq_true (by omega),C4⟩ hs fun ac cZ aZ hs4=>?_
   refine C5 (ι:={ j:Nat // j<=5 }) (fun j=>amU P L k.length k.length D (Ef j.1 o) (a:Int) (j.1:Int)) (fun j=>5-j.1) (c:=X5 NX) (k:=X8 NX) (by kernel_rfl) (fun j ih3 ac cY aY hs=>?_) ⟨0,Nat.zero_le _⟩ (hs4.nx _)
   obtain ⟨j,hj⟩:=j;simp only at ih3 hs
   by_cases hj5:j<5
   ·have ej:jtw (Ef j o)=Ef (j+1) o:=(Tn j o).symm
    generalize Ef j o=o1 at hs ej;refine amD P L _ _ D _ _ _ ⟨decide_eq_true (by omega),C4⟩ hs fun ac cV aV hs5=>?_
    rw[A9 (n:=(j:Int)+1) (by omega) (by omega),ej] at hs5
    exact ih3 ⟨j+1,hj5⟩ (by show 5-(j+1)<5-j;omega) ac cV aV (hs5.nx _)
   ·obtain rfl:j=5:=by omega
    generalize Ef 5 o=o5 at hs hnext;refine amE P L _ _ D _ _ _ ⟨A4,hD.symm,C4⟩ hs fun ac cV aV hs5=>?_
    refine C5 (ι:={ p:Nat×List Int // p.1<=k.length∧p.2.length=k.length∧∀j,j<p.1->p.2.getD j 0=(L.getD j []).getD a 0 }) (fun p=>amV P L k.length k.length p.1.2 o5 (a:Int) (p.1.1:Int)) (fun p=>k.length-p.1.1) (c:=X5 Si) (k:=X8 Si) (by kernel_rfl) (fun p ih4 ac cY aY hs=>?_)
     ⟨(0,List.replicate D.length 0),Nat.zero_le _,List.length_replicate.trans hD,fun j hj=>absurd hj (Nat.not_lt_zero j)⟩ (hs5.nx _)
    obtain ⟨⟨i,E⟩,hi1,hE,hEg⟩:=p;simp only at ih4 hs hi1 hE hEg
    by_cases hik:i<k.length
    ·have hri:=hrow i hik
     have hmn:=hmN (by omega)
     refine amF P L _ _ E _ _ _ ⟨decide_eq_true (by omega),by omega,by omega,rfl,by rw[Int.toNat_natCast];omega,by rw[Int.toNat_natCast,hri];exact decide_eq_true (by omega),by omega,by rw[Int.toNat_natCast,hri];omega,by omega,by omega,rfl,by rw[Int.toNat_natCast];omega,C4⟩ hs fun ac cW aW hs6=>?_
     rw[Int.toNat_natCast,Int.toNat_natCast,A9 (n:=(i:Int)+1) (by omega) (by omega)] at hs6
     refine ih4 ⟨(i+1,E.set i ((L.getD i []).getD a 0)),hik,(List.length_set ..).trans hE,fun j hj=>?_⟩ (by show k.length-(i+1)<k.length-i;omega) ac cW aW (hs6.nx _)
     have hj:j<i+1:=hj;show (E.set i _).getD j 0=_;rw[Gg _ _ _ _ _ (by omega)]
     by_cases e:j=i
     ·subst e;rw[if_pos rfl]
     ·rw[if_neg e];exact hEg j (by omega)
    ·obtain rfl:i=k.length:=by omega
     have hrowE:E=BE L a:=C8h (by omega) fun j hj=>hEg j (by omega)
     subst hrowE;have hds:C3j (BE L a):=fun j=>by rw[Ua];exact hdig j a
     refine amH P L _ _ _ _ _ _ ⟨decide_eq_false (by omega),rfl,by omega,rfl,by omega,by omega,hds,C4⟩ hs fun ac cW aW hs6=>?_
     have e7:wrap IntKind.i64 ((a:Int)-1)=(m:Int)-1-((t+1:Nat):Int):=by rw[A9 (by omega) (by omega)];omega
     rw[e7,<-hnext] at hs6;have ih5:=ih2 ⟨(t+1,BE L a),htm,hE⟩ hlt;dsimp only at ih5;generalize alN E7 P L m (t+1)=oN at hs6 ih5;exact ih5 ac cW aW (hs6.nx _)
  ·obtain rfl:t=m:=by omega
   exact H4 DR hk hF (C2j P L _ _ D _ _) ⟨decide_eq_false (by omega),C4⟩ (fun y v hd=>hd) hs
end
section
theorem tkA(a b:Int)(w:Bool):C2 AC Tryz.f91 3000 [.v (.c (.int .i64 a)),.v (.c (.int .i64 b)),.v (.c (.bool w))] [true] [] []=(some ([((a != b)=true)],((.ii 3),[]))):=by kernel_rfl
theorem tkB(a b:Int)(w:Bool):C2 AC Tryz.f91 3000 [.v (.c (.int .i64 a)),.v (.c (.int .i64 b)),.v (.c (.bool w))] [false,true] [] []=(some ([((a != b)=false),((decide (a > (4096:Int)))=true)],((.ii 2),[]))):=by kernel_rfl
theorem tkC(a b:Int)(w:Bool):C2 AC Tryz.f91 3000 [.v (.c (.int .i64 a)),.v (.c (.int .i64 b)),.v (.c (.bool w))] [false,false,true] [] []=(some ([((a != b)=false),((decide (a > (4096:Int)))=false),(w=true)],((.ii 30),[]))):=by kernel_rfl
theorem tkD(a b:Int)(w:Bool):C2 AC Tryz.f91 3000 [.v (.c (.int .i64 a)),.v (.c (.int .i64 b)),.v (.c (.bool w))] [false,false,false] [] []=(some ([((a != b)=false),((decide (a > (4096:Int)))=false),(w=false)],((.ii 0),[]))):=by kernel_rfl
end
section
theorem A7j(a b:Int)(w:Bool):K2 Tryz.prog 91 [.v (.c (.int .i64 a)),.v (.c (.int .i64 b)),.v (.c (.bool w))] (.v (.c (.int .i64 (Fe a b w)))) []:=by
 by_cases h:a=b
 ·by_cases h2:a > 4096
  ·rw[B2f h h2]
   exact A6 I1 Tryz.func91 (tkB a b w) ⟨by simp [h],decide_eq_true h2,C4⟩
  ·cases w with
   | true=>rw[C9z h h2 rfl];exact A6 I1 Tryz.func91 (tkC a b true) ⟨by simp [h],decide_eq_false h2,rfl,C4⟩
   | false=>rw[B2h h h2 rfl];exact A6 I1 Tryz.func91 (tkD a b false) ⟨by simp [h],decide_eq_false h2,rfl,C4⟩
 ·rw[B2g h]
  exact A6 I1 Tryz.func91 (tkA a b w) ⟨by simp [h],C4⟩
end
section
section
variable {w0:World} {F0:Nat->Prop} {K:Kp} {ac:List Act} {Q:Exit->Act->World->Prop} {cX:C0} {aX:Act}
theorem B1j(P:List (Fp×Fp×Fp))(k:List U4)(h:k.length=P.length∧P.length<=4096):K2 Tryz.prog 92 [.v (.c (.sl (.pt P))),.v (.c (.sl (.fr k)))] (.v (.a (M5 (smJ 52 E7 P k)))) []:=C2i P k h.1 h.2 (Eq.refl 52)
def Ut:B2
 | [.v (.c (.sl (.pt P))),.v (.c (.sl (.fr k)))]=>some ([k.length=P.length,P.length<=4096],.v (.a (M5 (smJ 52 E7 P k))),[])
 | _=>none
def udA:D6:=ucC.set (E0 ucC.fn 92 Ut)
theorem Rt:A7 Tryz.prog udA:=A8 DR 92 Ut (A2 Tryz.func92 rfl rfl) fun args o r es h ho=>by
 unfold Ut at h;split at h
 ·cases h;exact B1j _ _ ⟨ho.1,ho.2.1⟩
 ·cases h
def A7r:List KI:=(run udA false 3000 (⟨[.code (B5 Tryz.f93)],.normal,D2 Tryz.f93.ntmps [.v (.c (.sl (.g1 dF))),.v (.c (.clo 38 []))]⟩:G5) []).cfg.k
theorem ea(l:List G0):let a:Int:=l.length;A5 [(0<=a),(a=a),(((144:Int)*a)<=(281474976710656:Int)),(a<=(9223372036854775807:Int))]->Sg Tryz.prog (D2 Tryz.f93.ntmps [.v (.c (.sl (.g1 l))),.v (.c (.clo 38 []))]) (B0 26 [1,5,11,12,13] [(.ci (.clo 38 ([]:List (Prod Nat Nat)))),(.ci (.slc 64 0 (a).toNat 18)),(.ci (.sl (Sq.g1 l))),(.ii a),.ii 0] [64] [(D9 (Sq.pt (List.replicate (a).toNat E7)))] 144 [] []) .normal (A7r) ([.code (B5 Tryz.f93)]):=E4 false 3000 [] Rt
def eaS(l:List G0)(L:List (Fp×Fp×Fp))(n:Nat)(i:Int):St:=B0 26 [1,5,11,12,13] [(.ci (.clo 38 ([]:List (Prod Nat Nat)))),.v (.c (.slc 64 0 n 18)),(.ci (.sl (Sq.g1 l))),(.ii (l.length:Int)),.v (.c (.int .i64 i))] [64] [some (.sq (.pt L))] 144 [] []
theorem eaA(l:List G0)(L:List (Fp×Fp×Fp))(n:Nat)(i:Int):let a:=i<(l.length:Int);A5 [((decide a)=true),(0<=i),a,(0<=i),(i<((n:Nat):Int)),(0=0),((i).toNat<L.length)]->Sg Tryz.prog (eaS l L n i) (St.z (eaS l (List.set L (i).toNat (inG (List.getD l (i).toNat g10))) n (wrap .i64 (i+1))) 400) .normal (D4 A7r) (B7 A7r):=E4 false 3000 [true] Rt
theorem C3k(l:List G0)(L:List (Fp×Fp×Fp))(n:Nat)(i:Int):E2 udA Tryz.f93 false 3000 (⟨B7 A7r,.normal,eaS l L n i⟩) [false] [] [64]=(some ([((decide (i<(l.length:Int)))=false),(n=L.length)],((.ci (.sl (Sq.pt L))),[]))):=by kernel_rfl
theorem E3z(a b:U6)(i:Bool):C2 udA Tryz.f90 3000 [.v (.a [.ob (.fp a),.ob (.fp b),.bool i])] [] [] []=(some ([],((.ci (.bool (Bool.not (onG (G0.mk a b i))))),[]))):=by kernel_rfl
def Ql:B2
 | [.v (.a [.ob (.fp a),.ob (.fp b),.bool i])]=>some ([],.v (.c (.bool (!(onG ⟨a,b,i⟩)))),[])
 | _=>none
def udB:D6:=udA.set (E0 udA.fn 90 Ql)
theorem Ru:A7 Tryz.prog udB:=A8 Rt 90 Ql (A2 Tryz.func90 rfl rfl) fun args o r es h _=>by
 unfold Ql at h;split at h
 ·cases h;exact A6 Rt Tryz.func90 (E3z _ _ _) trivial
 ·cases h
def iwS(l:List G0)(i :Int):St:=B0 19 [0,1,7,8] [(.ci (.sl (Sq.g1 l))),(.ci (.clo 90 ([]:List (Prod Nat Nat)))),(.ii (l.length:Int)),.v (.c (.int .i64 i))] [] [] 80 [] []
def ZT:List KI:=(run udB false 3000 (⟨[.code (B5 Tryz.f106)],.normal,D2 Tryz.f106.ntmps [.v (.c (.sl (.g1 dF))),.v (.c (.clo 90 []))]⟩:G5) []).cfg.k
theorem iw(l:List G0):A5 []->Sg Tryz.prog (D2 Tryz.f106.ntmps [.v (.c (.sl (.g1 l))),.v (.c (.clo 90 []))]) (iwS l (0:Int)) .normal (ZT) ([.code (B5 Tryz.f106)]):=E4 false 3000 [] Ru
theorem iwA(l:List G0)(i:Int):let a:=i<(l.length:Int);A5 [((decide a)=true),(0<=i),a,((Bool.not (onG (List.getD l (i).toNat g10)))=false)]->Sg Tryz.prog (iwS l i) (St.z (iwS l (wrap .i64 (i+1))) 256) .normal (D4 ZT) (B7 ZT):=E4 false 3000 [true,false] Ru
theorem C4h(l:List G0)(i:Int):let a:=i<(l.length:Int);E2 udB Tryz.f106 false 3000 (⟨B7 ZT,.normal,iwS l i⟩) [true,true] [] []=(some ([((decide a)=true),(0<=i),a,((Bool.not (onG (List.getD l (i).toNat g10)))=true)],((.ii i),[]))):=by intros;kernel_rfl
theorem C4g(l:List G0)(i:Int):E2 udB Tryz.f106 false 3000 (⟨B7 ZT,.normal,iwS l i⟩) [false] [] []=(some ([((decide (i<(l.length:Int)))=false)],((.ii (-1)),[]))):=by kernel_rfl
end
end
section
theorem B3d(l:List G0)(hl:l.length<=1048576):K2 Tryz.prog 93 [.v (.c (.sl (.g1 l))),.v (.c (.clo 38 []))] (.v (.c (.sl (.pt (l.map inG))))) []:=by
 refine H2 (fn:=Tryz.f93) (c:=B5 Tryz.f93) Tryz.func93 rfl rfl fun x0 a0 hk hF hs=>?_
 refine ea l ⟨by omega,rfl,by omega,by omega,C4⟩ hs fun ac cY aY hs1=>?_
 rw[Int.toNat_natCast] at hs1;refine C5 (ι:={ p:Nat×List (Fp×Fp×Fp) // p.1<=l.length∧p.2.length=l.length∧∀j,j<p.1->p.2.getD j E7=inG (l.getD j g10) }) (fun p=>eaS l p.1.2 l.length (p.1.1:Int)) (fun p=>l.length-p.1.1) (c:=X5 A7r) (k:=X8 A7r) (by kernel_rfl) (fun p ih ac cY aY hs=>?_)
  ⟨(0,List.replicate l.length E7),Nat.zero_le _,List.length_replicate,fun j hj=>absurd hj (Nat.not_lt_zero j)⟩ (hs1.nx _)
 obtain ⟨⟨i,L⟩,hi,hL,hg⟩:=p;simp only at ih hs hi hL hg
 by_cases h:i<l.length
 ·refine eaA l L l.length i ⟨decide_eq_true (by omega),by omega,by omega,by omega,by omega,rfl,by rw[Int.toNat_natCast];omega,C4⟩ hs fun ac cU aU hs2=>?_
  rw[Int.toNat_natCast,A9 (n:=(i:Int)+1) (by omega) (by omega)] at hs2
  refine ih ⟨(i+1,L.set i (inG (l.getD i g10))),h,(List.length_set ..).trans hL,fun j hj=>?_⟩ (by show l.length-(i+1)<l.length-i;omega) ac cU aU (hs2.nx _)
  have hj:j<i+1:=hj;show (L.set i _).getD j E7=_;rw[Gg _ _ _ _ _ (by omega)]
  by_cases e:j=i
  ·subst e;rw[if_pos rfl]
  ·rw[if_neg e];exact hg j (by omega)
 ·obtain rfl:i=l.length:=by omega
  have e:L=l.map inG:=by
   apply List.ext_getElem (by rw[hL,List.length_map])
   intro j h1 h2;have e:=hg j (by omega)
   rw[<-Cd inG l g10 E7 (by omega),List.getD_eq_getElem?_getD,List.getD_eq_getElem?_getD,List.getElem?_eq_getElem h1,List.getElem?_eq_getElem h2] at e
   exact e
  subst e;exact H4 Rt hk hF (C3k l _ _ _) ⟨decide_eq_false (by omega),hL.symm,C4⟩ (fun y v hd=>hd) hs
def Ha(p:G0->Bool):List G0->Nat->Int
 | [],_=>-1
 | a::l,i=>if p a then (i:Int) else Ha p l (i+1)
theorem SX(p:G0->Bool):∀(l:List G0) (i:Nat),decide (Ha p l i >= 0)=l.any p
 | [],_=>rfl
 | a::l,i=>by
  show decide ((if p a then (i:Int) else Ha p l (i+1)) >= 0)=(p a || l.any p)
  cases h:p a with
  | true=>rw[if_pos rfl,Bool.true_or];exact decide_eq_true (Int.natCast_nonneg i)
  | false=>rw[if_neg Bool.false_ne_true,Bool.false_or];exact SX p l (i+1)
def DC(a:G0):Bool:=!(onG a)
theorem ZL(p:G0->Bool)(l:List G0)(i:Nat)(h:i<l.length):Ha p (l.drop i) i=if p (l.getD i g10) then (i:Int) else Ha p (l.drop (i+1)) (i+1):=by
 rw[List.drop_eq_getElem_cons h,List.getD_eq_getElem?_getD,List.getElem?_eq_getElem h];rfl
theorem A7z(l:List G0):K2 Tryz.prog 106 [.v (.c (.sl (.g1 l))),.v (.c (.clo 90 []))] (.v (.c (.int .i64 (Ha DC l 0)))) []:=by
 refine H2 (fn:=Tryz.f106) (c:=B5 Tryz.f106) Tryz.func106 rfl rfl fun x0 a0 hk hF hs=>?_
 have hlen:l.length<=maxLen:=by
  have h0:=hs.t 0;exact D6k h0
 have hmax:maxLen<=9223372036854775807:=by decide
 refine iw l trivial hs fun ac cY aY hs1=>?_
 refine C5 (ι:={ i:Nat // i<=l.length∧Ha DC (l.drop i) i=Ha DC l 0 }) (fun i=>iwS l (i.1:Int)) (fun i=>l.length-i.1) (c:=X5 ZT) (k:=X8 ZT) (by kernel_rfl) (fun i ih ac cY aY hs=>?_) ⟨0,Nat.zero_le _,by rw[List.drop_zero]⟩ (hs1.nx _)
 obtain ⟨i,hi,he⟩:=i;simp only at ih hs
 by_cases h:i<l.length
 ·rw[ZL _ _ _ h] at he
  cases ho:DC (l.getD i g10) with
  | true=>
   rw[ho,if_pos rfl] at he;rw[<-he];exact H4 Ru hk hF (C4h l i) ⟨decide_eq_true (by omega),by omega,by omega,by rw[Int.toNat_natCast];exact ho,C4⟩ (fun y v hd=>hd) hs
  | false=>
   rw[ho,if_neg Bool.false_ne_true] at he;refine iwA l i ⟨decide_eq_true (by omega),by omega,by omega,by rw[Int.toNat_natCast];exact ho,C4⟩ hs fun ac cU aU hs2=>?_
   rw[A9 (n:=(i:Int)+1) (by omega) (by omega)] at hs2
   exact ih ⟨i+1,h,he⟩ (by show l.length-(i+1)<l.length-i;omega) ac cU aU (hs2.nx _)
 ·obtain rfl:i=l.length:=by omega
  rw[List.drop_length] at he;rw[<-he];exact H4 Ru hk hF (C4g l _) ⟨decide_eq_false (by omega),C4⟩ (fun y v hd=>hd) hs
end
section
def OH:B2
 | [.v (.c (.sl (.g1 l))),.v (.c (.clo 38 []))]=>some ([l.length<=1048576],.v (.c (.sl (.pt (l.map inG)))),[])
 | _=>none
def ueA:D6:=udB.set (E0 udB.fn 93 OH)
theorem D7m:A7 Tryz.prog ueA:=A8 Ru 93 OH (A2 Tryz.func93 rfl rfl) fun args o r es h ho=>by
 unfold OH at h;split at h
 ·cases h;exact B3d _ ho.1
 ·cases h
def KW:B2
 | [.v (.c (.sl (.g1 l))),.v (.c (.clo 90 []))]=>some ([],.v (.c (.int .i64 (Ha DC l 0))),[])
 | _=>none
def ueB:D6:=ueA.set (E0 ueA.fn 106 KW)
theorem D7n:A7 Tryz.prog ueB:=A8 D7m 106 KW (A2 Tryz.func106 rfl rfl) fun args o r es h _=>by
 unfold KW at h;split at h
 ·cases h;exact A7z _
 ·cases h
def KJ:B2
 | [.v (.c (.int .i64 a)),.v (.c (.int .i64 b)),.v (.c (.bool w))]=>some ([],.v (.c (.int .i64 (Fe a b w))),[])
 | _=>none
def ueC:D6:=ueB.set (E0 ueB.fn 91 KJ)
theorem D7o:A7 Tryz.prog ueC:=A8 D7n 91 KJ (A2 Tryz.func91 rfl rfl) fun args o r es h _=>by
 unfold KJ at h;split at h
 ·cases h;exact A7j _ _ _
 ·cases h
def ueD:D6:=ueC
theorem C1s:A7 Tryz.prog ueD:=D7o
theorem cfR(l:List G0):C2 ueD Tryz.f89 3000 [.v (.c (.sl (.g1 l))),.v (.c (.clo 90 []))] [] [] []=(some ([],((.ci (.bool (decide ((Ha DC l 0) >= (0:Int))))),[]))):=by kernel_rfl
theorem UG(l:List G0):K2 Tryz.prog 89 [.v (.c (.sl (.g1 l))),.v (.c (.clo 90 []))] (.v (.c (.bool (l.any DC)))) []:=by
 have r:=cfR l;rw[SX] at r;exact A6 C1s Tryz.func89 r trivial
def EC:B2
 | [.v (.c (.sl (.g1 l))),.v (.c (.clo 90 []))]=>some ([],.v (.c (.bool (l.any DC))),[])
 | _=>none
def ueE:D6:=ueD.set (E0 ueD.fn 89 EC)
theorem A2q:A7 Tryz.prog ueE:=A8 C1s 89 EC (A2 Tryz.func89 rfl rfl) fun args o r es h _=>by
 unfold EC at h;split at h
 ·cases h;exact UG _
 ·cases h
theorem s1A(l:List G0)(k:List U4):let b:=Fe (l.length:Int) (k.length:Int) (List.any l DC);C2 ueE Tryz.f57 3000 [.v (.c (.sl (.g1 l))),.v (.c (.sl (.fr k)))] [true] [] []=(some ([((b != (0:Int))=true)],((.t [(.a [(.ob (.fp (0:U6))),(.ob (.fp (0:U6))),(.lit false)]),(.c (.int .i64 b))]),[]))):=by intros;kernel_rfl
theorem s1B(l:List G0)(k:List U4):let d:=List.map inG l;let b:=GV (smJ 52 E7 d k);C2 ueE Tryz.f57 3000 [.v (.c (.sl (.g1 l))),.v (.c (.sl (.fr k)))] [false] [] []=(some ([(((Fe (l.length:Int) (k.length:Int) (List.any l DC)) != (0:Int))=false),(l.length<=1048576),(k.length=d.length),(d.length<=4096)],((.t [(.a [(.ob (.fp (G0.x b))),(.ob (.fp (G0.y b))),(.bool (G0.inf b))]),(.c (.int .i64 0))]),[]))):=by intros;kernel_rfl
end
section
def Ww(l:List G0)(k:List U4):G0×Int:=
 if Fe (l.length:Int) (k.length:Int) (l.any DC)=0 then (GV (smJ 52 E7 (l.map inG) k),0) else (g10,Fe (l.length:Int) (k.length:Int) (l.any DC))
theorem A6e{l:List G0}{k:List U4}(h:Fe (l.length:Int) (k.length:Int) (l.any DC)=0):Ww l k=(GV (smJ 52 E7 (l.map inG) k),0):=if_pos h
theorem C8v{l:List G0}{k:List U4}(h:¬Fe (l.length:Int) (k.length:Int) (l.any DC)=0):Ww l k=(g10,Fe (l.length:Int) (k.length:Int) (l.any DC)):=if_neg h
theorem C0n(l:List G0)(k:List U4):K2 Tryz.prog 57 [.v (.c (.sl (.g1 l))),.v (.c (.sl (.fr k)))] (.t [.a (Ww l k).1.its,.c (.int .i64 (Ww l k).2)]) []:=by
 by_cases h:Fe (l.length:Int) (k.length:Int) (l.any DC)=0
 ·rw[A6e h]
  obtain ⟨h1,h2,h3⟩:=B2i h;exact A6 A2q Tryz.func57 (s1B l k) ⟨by rw[h];rfl,by omega,by rw[List.length_map];omega,by rw[List.length_map];omega,C4⟩
 ·rw[C8v h]
  exact (A6 A2q Tryz.func57 (s1A l k) ⟨by simpa using h,C4⟩).conv (fun _ _ h=>h) fun y v hd=>FP hd
theorem D6n{N:Nat}(hN:N=52){l:List G0}{k:List U4}(hl:k.length=l.length)(ho:l.any DC=false):GV (smJ N E7 (l.map inG) k)=gP (PE (k.map (·.val)) (l.map pG)):=by
 have hon:∀a,a∈l->onG a=true:=fun a ha=>by
  rw[List.any_eq_false] at ho;have:=ho a ha
  unfold DC at this;simpa using this
 cases k with
 | nil=>
  have e:l=[]:=List.length_eq_zero_iff.1 hl.symm;subst e;exact NI (P:=none) (rfl:(0:Fp)=0)
 | cons x k=>
  have hm:smJ N E7 (l.map inG) (x::k)=alN E7 (l.map inG) (RI N ((x::k).map (·.val))) N N:=rfl;rw[hm];refine NI (B5k hN cv1 E7 rfl (by rw[List.length_map,List.length_map]) (fun P hP=>?_) (fun i hi=>?_) (by rw[List.length_map,List.length_map];exact hl) (fun v hv=>?_))
  ·obtain ⟨a,ha,rfl⟩:=List.mem_map.1 hP
   exact (Qr (hon a ha)).2
  ·rw[List.length_map] at hi
   rw[Cd pG l g10 none hi,Cd inG l g10 E7 hi];exact UW _
  ·obtain ⟨u,_,rfl⟩:=List.mem_map.1 hv
   exact C1r u
def gsl(ks:List Nat)(Ps:List (Pt Fp)):Nat->Pt Fp
 | 0=>none
 | i+1=>Q5 (gsl ks Ps i) (L9 (Ps.getD i none) (ks.getD i 0))
theorem Ta(k:Nat)(P:Pt Fp)(hP:OnC fp4 P):∀(ks:List Nat) (Ps:List (Pt Fp)),ks.length=Ps.length->(∀Q,Q∈Ps->OnC fp4 Q)->PE (ks++[k]) (Ps++[P])=Q5 (PE ks Ps) (L9 P k)
 | [],[],_,_=>by
  show Q5 (L9 P k) none=Q5 none (L9 P k);rw[BS];rfl
 | [],_::_,h,_=>by cases h
 | _::_,[],h,_=>by cases h
 | c::ks,Q::Ps,h,ho=>by
  show Q5 (L9 Q c) (PE (ks++[k]) (Ps++[P]))=Q5 (Q5 (L9 Q c) (PE ks Ps)) (L9 P k);rw[Ta k P hP ks Ps (Nat.succ.inj h) fun R hR=>ho R (List.mem_cons_of_mem _ hR),Hy cv1 _ _ _ (EH cv1 (ho Q (List.mem_cons_self ..)) c) (A4j cv1 ks Ps fun R hR=>ho R (List.mem_cons_of_mem _ hR)) (EH cv1 hP k)]
theorem B3v(ks:List Nat)(Ps:List (Pt Fp))(hl:ks.length=Ps.length)(ho:∀Q,Q∈Ps->OnC fp4 Q):∀i,i<=Ps.length->gsl ks Ps i=PE (ks.take i) (Ps.take i)
 | 0,_=>rfl
 | i+1,h=>by
  have e1:=Md ks 0 (i:=i) (by omega)
  have e2:=Md Ps none (i:=i) (by omega)
  have hm:Ps.getD i none∈Ps:=by
   rw[List.getD_eq_getElem?_getD,List.getElem?_eq_getElem (by omega)]
   exact List.getElem_mem _
  show Q5 (gsl ks Ps i) (L9 (Ps.getD i none) (ks.getD i 0))=_;rw[B3v ks Ps hl ho i (by omega),<-e1,<-e2,Ta _ _ (ho _ hm) _ _ (by rw[List.length_take,List.length_take,hl]) fun Q hQ=>ho Q (List.mem_of_mem_take hQ)]
end
section
def pTr(a:List U4):List U4:=(S4.Bi (a.map S4.E8)).map S4.E6
theorem C7e(a:List U4)(h:a.length<=8796093022208):K2 Tryz.prog 56 [.v (.c (.sl (.fr a)))] (.v (.c (.slc 0 0 (pTr a).length 4))) [.sq (.fr (pTr a))]:=by
 have e:(pTr a).length=(S4.Bi (a.map S4.E8)).length:=List.length_map ..;rw[e];exact S4.C1l a h
def D2m:D6:=ueE.or S4.hC
theorem C4l:A7 Tryz.prog D2m:=FD A2q S4.D0e
def Rr:B2
 | [.v (.c (.sl (.fr a)))]=>some ([a.length<=8796093022208],.v (.c (.slc 0 0 (pTr a).length 4)),[.sq (.fr (pTr a))])
 | _=>none
def koA:D6:=D2m.set (E0 D2m.fn 56 Rr)
theorem D2n:A7 Tryz.prog koA:=A8 C4l 56 Rr (A2 Tryz.func56 rfl rfl) fun args o r es h ho=>by
 unfold Rr at h;split at h
 ·cases h;exact C7e _ ho.1
 ·cases h
def QX:B2
 | [.v (.c (.sl (.g1 l))),.v (.c (.sl (.fr k)))]=>some ([],.t [.a (Ww l k).1.its,.c (.int .i64 (Ww l k).2)],[])
 | _=>none
def koB:D6:=koA.set (E0 koA.fn 57 QX)
theorem ZW:A7 Tryz.prog koB:=A8 D2n 57 QX (A2 Tryz.func57 rfl rfl) fun args o r es h _=>by
 unfold QX at h;split at h
 ·cases h;exact C0n _ _
 ·cases h
theorem cmR(l:List G0)(s:K5)(a:List U4):let g:=pTr a;let d:Int:=(g.length:Nat);let b:=Ww (List.take (d).toNat (List.drop 0 l)) g;let f:=Prod.fst b;let h:Int:=l.length;C2 koB Tryz.f25 3000 [.v (.a (Du l s)),.v (.c (.sl (.fr a)))] [false,false] [] []=(some ([((decide ((a.length:Int) > (262144:Int)))=false),(a.length<=8796093022208),((decide (d > h))=false),(0<=d),(d<=h),(0=0),(g.length=g.length),(4=4)],((.t [(.a [(.ob (.fp (G0.x f))),(.ob (.fp (G0.y f))),(.bool (G0.inf f))]),(.c (.int .i64 (Prod.snd b)))]),[]))):=by intros;kernel_rfl
theorem cmK(l:List G0)(s:K5)(a:List U4):C2 koB Tryz.f25 3000 [.v (.a (Du l s)),.v (.c (.sl (.fr a)))] [false,true] [] []=(some ([((decide ((a.length:Int) > (262144:Int)))=false),(a.length<=8796093022208),((decide ((((pTr a).length:Nat):Int) > (l.length:Int)))=true)],((.t [(.a [(.ob (.fp (0:U6))),(.ob (.fp (0:U6))),(.lit false)]),(.c (.int .i64 50))]),[]))):=by kernel_rfl
def cmt(l:List G0)(a:List U4):G0×Int:=if l.length<(pTr a).length then (g10,50) else Ww (l.take (pTr a).length) (pTr a)
theorem Zw(l:List G0)(s:K5)(a:List U4)(h1:a.length<=262144):K2 Tryz.prog 25 [.v (.a (Du l s)),.v (.c (.sl (.fr a)))] (.t [.a (cmt l a).1.its,.c (.int .i64 (cmt l a).2)]) []:=by
 by_cases h2:l.length<(pTr a).length
 ·have e:cmt l a=(g10,50):=if_pos h2
  rw[e];exact (A6 ZW Tryz.func25 (cmK l s a) ⟨decide_eq_false (by omega),by omega,decide_eq_true (by omega),C4⟩).conv (fun _ _ h=>h) fun y v hd=>FP hd
 ·have e:cmt l a=Ww (l.take (pTr a).length) (pTr a):=if_neg h2
  have r:=cmR l s a;dsimp only at r;rw[Int.toNat_natCast,List.drop_zero] at r;rw[e];exact A6 ZW Tryz.func25 r ⟨decide_eq_false (by omega),by omega,decide_eq_false (by omega),by omega,by omega,rfl,rfl,rfl,C4⟩
end
namespace S4
section
variable {w0:World} {F0:Nat->Prop} {K:Kp} {ac:List Act} {Q:Exit->Act->World->Prop} {cX:C0} {aX:Act}
def Jj(log:Int)(w:Fr):Prop:=0<log->G3 w (2 ^ (log.toNat-1)) = -1
def ntt(L:List Fr)(w:Fr)(n:Nat):List Fr:=D3l (fun q=>L.getD q 0) w n
def VB:MuS:=fun off len es e rest=>
 match off,es,e,rest with
 | 0,4,.sq (.s L),[.v (.c (.int .i64 log)),.v (.a [.ob (.s w)])]=>some ([0<=log,log<=16,len=2 ^ log.toNat,L.length=len,Jj log w],.sq (.s (ntt L w len)))
 | _,_,_,_=>none
theorem D3m{L:List Fr}{log:Int}{w:Fr}{len:Nat}(ho:A5 [0<=log,log<=16,len=2 ^ log.toNat,L.length=len,Jj log w]):MuC Tryz.prog 53 0 len 4 (.sq (.s L)) [.v (.c (.int .i64 log)),.v (.a [.ob (.s w)])] (.sq (.s (ntt L w len))):=by
 obtain ⟨h0,h1,h2,h3,h4,_⟩:=ho;obtain ⟨k,rfl⟩:=Int.eq_ofNat_of_zero_le h0;have h2:len=2 ^ k:=h2;subst h2;have e:L=tab (2 ^ k) (fun q=>L.getD q 0):=by rw[<-h3];exact C0u L
 have:=WC (fun q=>L.getD q 0) k w (by omega) (fun hk=>h4 (by omega))
 rw[<-e] at this;exact this
def dV:D6:={ dW with mu:=fun g=>if g=53 then some (mu1 VB) else dW.mu g }
theorem D8g:A7 Tryz.prog dV:=
 OK Ax 53 VB (A2 Tryz.func53 rfl rfl) fun off len es e rest o e' h ho _ _=>by
  unfold VB at h;split at h
  ·cases h
   exact D3m ho
  ·cases h
theorem Aq(x:Fr):∀n,pw x n=G3 x n
 | 0=>rfl
 | n+1=>by
  show pw x n*x=G3 x n*x;rw[Aq x n]
theorem A1e(a u:Fr)(e:List Int)(hu:u=1)(hl:e.length<=16)(hlim:Dy e):K2 Tryz.prog 32 [.v (.a [.ob (.s a)]),.v (.a [.ob (.s u)]),.v (.c (.sl (.u64 e)))] (.v (.a [.ob (.s (G3 a (V8 e)))])) []:=by
 subst hu;rw[<-Aq];exact QF a e hl hlim
def VP:B2
 | [.v (.a [.ob (.s a)]),.v (.a [.ob (.s u)]),.v (.c (.sl (.u64 e)))]=>some ([u=1,e.length<=16,Dy e],.v (.a [.ob (.s (G3 a (V8 e)))]),[])
 | _=>none
def dX1:D6:=dV.set (E0 dV.fn 32 VP)
theorem B2r:A7 Tryz.prog dX1:=A8 D8g 32 VP (A2 Tryz.func32 rfl rfl) fun args o r es h ho=>by
 unfold VP at h;split at h
 ·cases h;exact A1e _ _ _ ho.1 ho.2.1 ho.2.2.1
 ·cases h
theorem E2g(a:Fr):C2 dX1 Tryz.f34 3000 [.v (.a [.ob (.s a)])] [] [] []=(some ([(0<=(0:Int)),(0<(4:Int)),(0<4),(0<=(0:Int)),(0<(4:Int)),(0<=(1:Int)),((1:Int)<(18446744073709551616:Int)),((Fin.ofNat rN 1)=(1:Fr)),(4<=16),(Dy [(18446744069414584319:Int),(6034159408538082302:Int),(3691218898639771653:Int),(8353516859464449352:Int)])],((.v (.a [(.ob (.s (S4.G3 a 52435875175126190479447740508185965837690552500527637822603658699938581184511)))])),[]))):=by kernel_rfl
def P3(a:Fr):Fr:=G3 a (rN-2)
theorem C4f(a:Fr):K2 Tryz.prog 34 [.v (.a [.ob (.s a)])] (.v (.a [.ob (.s (P3 a))])) []:=by
 have e:52435875175126190479447740508185965837690552500527637822603658699938581184511=rN-2:=by decide +kernel
 have r:=E2g a;rw[e] at r;refine A6 B2r Tryz.func34 r ⟨A4,A4,A4,A4,A4,A4,A4,rfl,A4,?_,C4⟩
 intro x hx;simp only[List.mem_cons,List.not_mem_nil,or_false] at hx;rcases hx with rfl | rfl | rfl | rfl<;>decide
def KX:B2
 | [.v (.a [.ob (.s a)])]=>some ([],.v (.a [.ob (.s (P3 a))]),[])
 | _=>none
def dX:D6:=dX1.set (E0 dX1.fn 34 KX)
theorem IQ:A7 Tryz.prog dX:=A8 B2r 34 KX (A2 Tryz.func34 rfl rfl) fun args o r es h _=>by
 unfold KX at h;split at h
 ·cases h;exact C4f _
 ·cases h
def Hn:List KI:=(run dX false 3000 (⟨[.code (B5 Tryz.f23)],.normal,D2 Tryz.f23.ntmps [.v (.a [.int .i64 dF,.ob (.fr dF)]),.v (.a [.ob (.fr dF)]),.v (.c (.sl (.fr dF)))]⟩:G5) [false,false,false]).cfg.k
theorem E1w(log:Int)(w s:U4)(l:List U4):let b:Int:=l.length;A5 [((Bool.not (S4.G7 log w))=false),(0<=log),((b != (wrap .i64 ((1:Int)*((2:Int) ^ (Min.min (log).toNat 64)))))=false),((decide ((S4.E8 s)=(0:Fr)))=false),(0<=b),(b=b),(((32:Int)*b)<=(281474976710656:Int)),(b<=(9223372036854775807:Int))]->Sg Tryz.prog (D2 Tryz.f23.ntmps [.v (.a [.int .i64 log,.ob (.fr w)]),.v (.a [.ob (.fr s)]),.v (.c (.sl (.fr l)))]) (B0 82 [3,8,9,34,35,36] [.pt 16 0,.pt 112 0,(.ci (.slc 400 0 (b).toNat 4)),(.ci (.sl (.fr l))),(.ii b),.ii 0] [16,112,400] [(B9 [(.int .i64 log),.ob (.fr w)]),(B9 [(.ob (.s (S4.E8 s)))]),(D9 (.s (List.replicate (b).toNat 0)))] 480 [] []) .normal (Hn) ([.code (B5 Tryz.f23)]):=E4 false 3000 [false,false,false] IQ
def cfS(log :Int)(w s:U4)(l:List U4)(N:Nat)(L:List Fr)(i:Nat):St:=B0 82 [3,8,9,34,35,36] [.pt 16 0,.pt 112 0,.v (.c (.slc 400 0 N 4)),(.ci (.sl (.fr l))),.v (.c (.int .i64 (N:Int))),.v (.c (.int .i64 (i:Int)))] [16,112,400] [(B9 [(.int .i64 log),.ob (.fr w)]),(B9 [(.ob (.s (S4.E8 s)))]),some (.sq (.s L))] 480 [] []
section
variable (log:Int) (w s:U4) (l:List U4) (N:Nat) (L:List Fr) (i:Nat)
theorem cfN:let a:Int:=i;let b:Int:=(N:Nat);A5 [((decide (a<b))=true),(0<=a),(a<(l.length:Int)),(0<=a),(a<b),(0=0),((a).toNat<L.length)]->Sg Tryz.prog (cfS log w s l N L i) (B0 82 [3,8,9,34,35,36] [.pt 16 0,.pt 112 0,(.ci (.slc 400 0 N 4)),(.ci (.sl (.fr l))),(.ii b),(.ii (wrap .i64 (a+1)))] [16,112,400] [(B9 [(.int .i64 log),.ob (.fr w)]),(B9 [(.ob (.s (S4.E8 s)))]),(D9 (.s (List.set L (a).toNat (S4.E8 (List.getD l (a).toNat 0)))))] 720 [] []) .normal (D4 Hn) (B7 Hn):=E4 false 3000 [true] IQ
def KH:List KI:=(run dX false 3000 (⟨B7 Hn,.normal,cfS dF dF dF dF dF dF dF⟩:G5) [false]).cfg.k
theorem E1x:let a:Int:=(N:Nat);let b:=wrap .u64 a;let c:=S4.P3 (S4.E8 w);A5 [((decide ((i:Int)<a))=false),(0<=log),(log<=(16:Int)),(N=(2 ^ (log).toNat)),(L.length=N),(S4.Jj log c),(0<=b),(b<(18446744073709551616:Int))]->Sg Tryz.prog (cfS log w s l N L i) (B0 82 [9,12,13,63,64] [(.ci (.slc 400 0 N 4)),.pt 704 0,.pt 768 0,(.ii a),.ii 0] [400,704,768] [(D9 (.s (S4.ntt L c N))),(B9 [(.ob (.s (S4.P3 (Fin.ofNat rN (b).toNat))))]),(B9 [(.ob (.s (S4.P3 (S4.E8 s))))])] 848 [] []) .normal (KH) (B7 Hn):=E4 false 3000 [false] IQ
def chS(N:Nat)(L:List Fr)(x b:Fr)(i:Nat):St:=B0 82 [9,12,13,63,64] [.v (.c (.slc 400 0 N 4)),.pt 704 0,.pt 768 0,.v (.c (.int .i64 (N:Int))),.v (.c (.int .i64 (i:Int)))] [400,704,768] [some (.sq (.s L)),some (.fl [.ob (.s x)]),some (.fl [.ob (.s b)])] 848 [] []
end
theorem chN(N:Nat)(L:List Fr)(x b:Fr)(i:Nat):let a:Int:=i;let c:Int:=(N:Nat);let d:=(a).toNat<L.length;A5 [((decide (a<c))=true),(0<=a),(a<c),(0=0),d,(0<=a),(a<c),(0=0),d]->Sg Tryz.prog (chS N L x b i) (B0 82 [9,12,13,63,64] [(.ci (.slc 400 0 N 4)),.pt 704 0,.pt 768 0,(.ii c),(.ii (wrap .i64 (a+1)))] [400,704,768] [(D9 (.s (List.set L (a).toNat ((List.getD L (a).toNat 0)*x)))),(B9 [(.ob (.s (x*b)))]),(B9 [.ob (.s b)])] 1152 [] []) .normal (D4 KH) (B7 KH):=E4 false 3000 [true] IQ
theorem C2x(N:Nat)(L:List Fr)(x b:Fr)(i:Nat):E2 dX Tryz.f23 false 3000 (⟨B7 KH,.normal,chS N L x b i⟩) [false] [880] []=(some ([((decide ((i:Int)<((N:Nat):Int)))=false),(0=0),(N=L.length),(4=4),(L.length<=8796093022208)],((.t [(.c (.slc 0 0 L.length 4)),(.c (.int .i64 0))]),[(.sq (.fr (List.map S4.E6 L)))]))):=by kernel_rfl
end
end S4
namespace S4
def sqm(r w:Nat):Nat->Nat
 | 0=>w
 | n+1=>sqm r w n*sqm r w n % r
theorem Wt(w:Fr):∀n,(sqN w n).val=sqm rN w.val n
 | 0=>rfl
 | n+1=>by
  show ((sqN w n).val*(sqN w n).val) % rN=sqm rN w.val n*sqm rN w.val n % rN;rw[Wt w n]
theorem E1a:sqm rN 10238227357739495823651030575849232062558860180284477541189508159991286009131 32=1:=by kernel_rfl
theorem D5v:sqN Hi 32=1:=by
 apply Fin.ext
 rw[Wt];have hr:Hi.val=10238227357739495823651030575849232062558860180284477541189508159991286009131:=by kernel_rfl
 rw[hr];exact E1a
theorem D3a{r:Nat}[NeZero r](a b c d:Fin r):a*b*(c*d)=a*c*(b*d):=by grind
theorem D5u:sqN Hi 31 = -1:=by
 apply Fin.ext
 rw[Wt];decide +kernel
theorem LO(x:Fr)(q:Nat):∀n,G3 (G3 x q) n=G3 x (q*n)
 | 0=>rfl
 | n+1=>by
  show G3 (G3 x q) n*G3 x q=_;rw[LO x q n,Nat.mul_succ,JQ]
theorem Yp(x y:Fr):∀n,G3 (x*y) n=G3 x n*G3 y n
 | 0=>(Fin.mul_one _).symm
 | n+1=>by
  show G3 (x*y) n*(x*y)=G3 x n*x*(G3 y n*y);rw[Yp x y n];exact D3a _ _ _ _
theorem GQ(x:Fr):∀n,sqN x n=G3 x (2 ^ n)
 | 0=>(Fin.one_mul _).symm
 | n+1=>by
  show sqN x n*sqN x n=_;rw[GQ x n,Nat.pow_succ,Nat.mul_two,JQ]
theorem B2z{log:Int}{w:U4}(h:G7 log w=true):Jj log (E8 w):=by
 intro hp;obtain ⟨h0,h1,rfl⟩:=V7 h;rw[Z3,GQ,LO,<-Nat.pow_add,show (32-log).toNat+(log.toNat-1)=31 from by omega,<-GQ]
 exact D5u
theorem C8o{log:Int}(h0:0<=log)(h1:log<=16):wrap .i64 ((1:Int)*((2:Int) ^ (min (log).toNat 64)))=((2 ^ log.toNat:Nat):Int):=by
 obtain ⟨k,rfl⟩:=Int.eq_ofNat_of_zero_le h0;exact A5z (by omega)
theorem BZ{x:Fr}(h:x≠0):x*P3 x=1:=by
 have:=B8o x h
 unfold E0s at this;rw[Aq] at this;exact this
theorem CX(x y:Fr):x*y=y*x:=Z5 x y
theorem US(x y z:Fr):x*y*z=x*(y*z):=Dc x y z
theorem Po(x:Fr):1*x=x:=GM x
theorem SU:(1:Fr)≠0:=by decide
theorem Xf{log:Int}{w:U4}(h:G7 log w=true):G3 (E8 w) (2 ^ log.toNat)=1:=by
 obtain ⟨h0,h1,rfl⟩:=V7 h;rw[Z3,GQ,LO,<-Nat.pow_add,show (32-log).toNat+log.toNat=32 from by omega,<-GQ]
 exact D5v
theorem pow_zero:∀{n:Nat},0<n->G3 (0:Fr) n=0
 | n+1,_=>by
  show G3 0 n*0=0;exact Xz _
theorem ZH{log:Int}{w:U4}(h:G7 log w=true):E8 w≠0:=fun e=>by
 have h1:=Xf h;rw[e,pow_zero (Nat.two_pow_pos _)] at h1;exact SU h1.symm
theorem C5u{a b:Fr}(h:a*b=1)(hb:b = -1):a = -1:=A8z h hb
theorem B3w{log:Int}{w:U4}(h:G7 log w=true):Jj log (P3 (E8 w)):=by
 intro hp;have h1:=B2z h hp;have h2:=BZ (ZH h);have h3:G3 (P3 (E8 w)) (2 ^ (log.toNat-1))*G3 (E8 w) (2 ^ (log.toNat-1))=1:=by
  rw[<-Yp,CX,h2,<-Aq,Ap]
 exact C5u h3 h1
def EA(n:Nat)(w s:Fr)(V:List Fr):List Fr:=tab n (fun i=>sm (fun j=>V.getD j 0*G3 (P3 w) (i*j)) n*(P3 (Fin.ofNat rN n)*G3 (P3 s) i))
theorem EB(n:Nat)(w s:Fr)(V:List Fr):(EA n w s V).length=n:=NN _ _
theorem A7l(log:Int)(w s:U4)(l:List U4)(hd:G7 log w=true)(hl:l.length=2 ^ log.toNat)(hs0:E8 s≠0) :
  K2 Tryz.prog 23 [.v (.a [.int .i64 log,.ob (.fr w)]),.v (.a [.ob (.fr s)]),.v (.c (.sl (.fr l)))] (.t [.c (.slc 0 0 (2 ^ log.toNat) 4),.c (.int .i64 0)]) [.sq (.fr ((EA (2 ^ log.toNat) (E8 w) (E8 s) (l.map E8)).map E6))]:=by
 obtain ⟨h0,h1,_⟩:=V7 hd;have hhalf:=B3w hd;have hp2:2 ^ log.toNat<=2 ^ 16:=Nat.pow_le_pow_right A4 (by omega)
 have hsh:=C8o h0 h1;obtain ⟨N,hN⟩:∃N,N=2 ^ log.toNat:=⟨_,rfl⟩
 rw[<-hN] at hl hp2 hsh ⊢
 refine H2 (fn:=Tryz.f23) (c:=B5 Tryz.f23) Tryz.func23 rfl rfl fun x a hk hF hs=>?_
 refine E1w log w s l ⟨by rw[hd];rfl,h0,by rw[hsh,hl];simp,decide_eq_false hs0,by omega,rfl,by omega,by omega,C4⟩ hs fun ac cY aY hs1=>?_
 rw[Int.toNat_natCast,hl] at hs1;refine C5 (ι:={ i:Nat // i<=N }) (fun i=>cfS log w s l N ((List.range i.1).map (fun j=>E8 (l.getD j 0))++List.replicate (N-i.1) 0) i.1) (fun i=>N-i.1) (c:=X5 Hn) (k:=X8 Hn) (by kernel_rfl) (fun i ih ac cY aY hs=>?_) ⟨0,Nat.zero_le _⟩ hs1
 obtain ⟨i,hi⟩:=i;simp only at ih hs
 have hlen:=Ea (fun j=>E8 (l.getD j 0)) 0 hi
 by_cases h:i<N
 ·refine cfN log w s l N _ i ⟨by simp [h],by omega,by omega,by omega,by omega,rfl,by rw[hlen];omega,C4⟩ hs fun ac cZ aZ hs2=>?_
  rw[Int.toNat_natCast,Eb (fun j=>E8 (l.getD j 0)) _ h,A9 (by omega) (by omega)] at hs2
  exact ih ⟨i+1,by omega⟩ (by show N-(i+1)<N-i;omega) ac cZ aZ (hs2.nx _)
 ·have e:i=N:=by omega
  subst e;rw[Nat.sub_self,List.replicate_zero,List.append_nil] at hs;have hV:(List.range i).map (fun j=>E8 (l.getD j 0))=l.map E8:=by rw[<-hl];exact Ik E8 l 0
  rw[hV] at hs;have hVl:(l.map E8).length=i:=by rw[List.length_map,hl]
  refine E1x log w s l i _ i ⟨by simp,h0,h1,hN,hVl,hhalf,by rw[Av (by omega) (by omega)];omega,by rw[Av (by omega) (by omega)];omega,C4⟩ hs fun ac cZ aZ hs2=>?_
  rw[Av (by omega) (by omega),Int.toNat_natCast] at hs2
  let A:Nat->Fr:=fun q=>sm (fun j=>(l.map E8).getD j 0*G3 (P3 (E8 w)) (q*j)) i
  have hA:ntt (l.map E8) (P3 (E8 w)) i=tab i A:=rfl;rw[hA] at hs2;let X:Nat->Fr:=fun q=>P3 (Fin.ofNat rN i)*G3 (P3 (E8 s)) q
  have hX0:X 0=P3 (Fin.ofNat rN i):=Hw _;rw[<-hX0] at hs2;have e0:tab i (fun q=>if q<0 then A q*X q else A q)=tab i A:=O7 fun q _=>if_neg (Nat.not_lt_zero q)
  rw[<-e0] at hs2;refine C5 (ι:={ q:Nat // q<=i }) (fun k=>chS i (tab i (fun q=>if q<k.1 then A q*X q else A q)) (X k.1) (P3 (E8 s)) k.1) (fun k=>i-k.1) (c:=X5 KH) (k:=X8 KH) (by kernel_rfl) (fun k ih ac cY aY hs=>?_) ⟨0,Nat.zero_le _⟩ (hs2.nx _)
  ·obtain ⟨k,hk1⟩:=k
   simp only at ih hs
   have htl:(tab i (fun q=>if q<k then A q*X q else A q)).length=i:=NN _ _
   by_cases h2:k<i
   ·refine chN i _ _ _ k ⟨by simp [h2],by omega,by omega,rfl,by rw[htl];omega,by omega,by omega,rfl,by rw[htl];omega,C4⟩ hs fun ac cV aV hs3=>?_
    have hX:X k*P3 (E8 s)=X (k+1):=US _ _ _;have hset:tab i (fun q=>if q=k then (if k<k then A k*X k else A k)*X k else if q<k then A q*X q else A q)=tab i (fun q=>if q<k+1 then A q*X q else A q):=O7 fun q _=>by
     by_cases g1:q=k
     ·subst g1;simp
     ·by_cases g2:q<k
      ·rw[if_neg g1,if_pos g2,if_pos (by omega)]
      ·rw[if_neg g1,if_neg g2,if_neg (by omega)]
    rw[Int.toNat_natCast,EU h2,Ku,hX,hset,A9 (by omega) (by omega)] at hs3
    exact ih ⟨k+1,by omega⟩ (by show i-(k+1)<i-k;omega) ac cV aV (hs3.nx _)
   ·have e2:k=i:=by omega
    subst e2;have r:=C2x k (tab k (fun q=>if q<k then A q*X q else A q)) (X k) (P3 (E8 s)) k
    have hC:tab k (fun q=>if q<k then A q*X q else A q)=EA k (E8 w) (E8 s) (l.map E8):=O7 fun q hq=>if_pos hq
    rw[htl,hC] at r;rw[hC] at hs;exact H4 IQ hk hF r ⟨by simp,rfl,rfl,rfl,by omega,C4⟩ (fun y v hd=>hd) hs
section
variable {log:Int} {w:U4}
theorem D1m(h:G7 log w=true):pw (E8 w) (2 ^ log.toNat)=1:=by rw[Aq];exact Xf h
theorem D1l(h:G7 log w=true):pw (P3 (E8 w)) (2 ^ log.toNat)=1:=by
 have h1:=A5s (BZ (ZH h)) (2 ^ log.toNat);rw[D1m h,Po] at h1;exact h1
theorem C4s{n:Nat}(h0:0<n)(h:n<rN):sm (fun _=>(1:Fr)) n*P3 (Fin.ofNat rN n)=1:=by
 have e:sm (fun _=>(1:Fr)) n=Fin.ofNat rN n:=by
  apply Fin.ext
  rw[A3h h n (Nat.le_refl _)];exact (Nat.mod_eq_of_lt h).symm
 rw[e];refine BZ fun he=>?_
 have:=congrArg Fin.val he
 have h1:(Fin.ofNat rN n).val=n:=Nat.mod_eq_of_lt h;have h2:((0:Fr)).val=0:=rfl;rw[h1,h2] at this;omega
theorem B3a(h:G7 log w=true):2 ^ log.toNat<rN:=by
 obtain ⟨h0,h1,_⟩:=V7 h;have hp2:2 ^ log.toNat<=2 ^ 16:=Nat.pow_le_pow_right A4 (by omega)
 exact Nat.lt_of_le_of_lt hp2 A4
end
end S4
namespace S4
section
variable {r:Nat} [NeZero r]
theorem D0z{x e z G N iN iD T:Fin r}(h1:(x-e)*N*iD=1)(h2:N*iN=1)(h3:x=z*e)(h4:(z-1)*G=T):T*e*iD=iN*G:=by grind
theorem D8b{x e N iN:Fin r}(h2:N*iN=1)(h:(x-e)*N=0):x=e:=by grind
theorem D1a{x u w z:Fin r}(h:w*u=1)(hz:z=x*u):x=z*w:=by grind
theorem D8a{v k P U:Fin r}:k*(P*U)*v=P*(v*U*k):=by grind
end
def Aj(log:Nat)(w:Fr)(i:Nat)(x:Fr):Fr:=
 if x=G3 w i then 1 else (sqN x log-1)*G3 w i*P3 ((x-G3 w i)*Fin.ofNat rN (2 ^ log))
section
variable {log:Int} {w:U4}
theorem A3q(h:G7 log w=true):Fin.ofNat rN (2 ^ log.toNat)*P3 (Fin.ofNat rN (2 ^ log.toNat))=1:=by
 have hlt:=B3a h;have hpos:=Nat.two_pow_pos log.toNat;refine BZ fun he=>?_
 have:=congrArg Fin.val he
 have h1:(Fin.ofNat rN (2 ^ log.toNat)).val=2 ^ log.toNat:=Nat.mod_eq_of_lt hlt;have h2:((0:Fr)).val=0:=rfl;rw[h1,h2] at this;omega
theorem C3i(h:G7 log w=true){x e:Fr}(hx:x≠e):(x-e)*Fin.ofNat rN (2 ^ log.toNat)*P3 ((x-e)*Fin.ofNat rN (2 ^ log.toNat))=1:=
 BZ fun h0=>hx (D8b (A3q h) h0)
theorem A6s(h:G7 log w=true)(i:Nat)(x:Fr):Aj log.toNat (E8 w) i x=P3 (Fin.ofNat rN (2 ^ log.toNat))*sm (fun j=>G3 x j*pw (P3 (E8 w)) (i*j)) (2 ^ log.toNat):=by
 have hlt:=B3a h;have hpos:=Nat.two_pow_pos log.toNat;have hwu:=A5s (BZ (ZH h)) i;have hz:∀j,G3 x j*pw (P3 (E8 w)) (i*j)=pw (x*pw (P3 (E8 w)) i) j:=fun j=>by
  rw[NK,Bh,Aq x j]
 rw[Q0 _ fun j _=>hz j]
 unfold Aj;by_cases hx:x=G3 (E8 w) i
 ·rw[if_pos hx,hx,<-Aq,hwu]
  have e:sm (pw (1:Fr)) (2 ^ log.toNat)=sm (fun _=>1) (2 ^ log.toNat):=Q0 _ fun j _=>Ap j
  have:=C4s hpos hlt
  rw[CX] at this;show 1=P3 (Fin.ofNat rN (2 ^ log.toNat))*sm (fun j=>pw 1 j) (2 ^ log.toNat)
  have e2:sm (fun j=>pw (1:Fr) j) (2 ^ log.toNat)=sm (fun _=>1) (2 ^ log.toNat):=e
  rw[e2,this]
 ·rw[if_neg hx,GQ]
  have hg:=geo (x*pw (P3 (E8 w)) i) (2 ^ log.toNat);have hT:pw (x*pw (P3 (E8 w)) i) (2 ^ log.toNat)=G3 x (2 ^ log.toNat):=by
   rw[NK,<-Bh,Nat.mul_comm,Bh,D1l h,Ap,Aq];exact Hw _
  rw[hT] at hg;have hx2:x=x*pw (P3 (E8 w)) i*G3 (E8 w) i:=by
   rw[<-Aq];exact D1a hwu rfl
  exact D0z (C3i h hx) (A3q h) hx2 hg
theorem Zo(h:G7 log w=true)(x:Fr)(V:List Fr):sm (fun i=>Aj log.toNat (E8 w) i x*V.getD i 0) (2 ^ log.toNat)=sm (fun j=>(EA (2 ^ log.toNat) (E8 w) 1 V).getD j 0*G3 x j) (2 ^ log.toNat):=by
 have hb:=fun i=>A6s h i x
 have hc:∀j,j<2 ^ log.toNat->(EA (2 ^ log.toNat) (E8 w) 1 V).getD j 0=sm (fun i=>V.getD i 0*G3 (P3 (E8 w)) (j*i)) (2 ^ log.toNat)*P3 (Fin.ofNat rN (2 ^ log.toNat)):=fun j hj=>by
  have e1:G3 (P3 1) j=1:=by
   have h1:P3 1=1:=by
    have:=BZ SU
    rw[Po] at this;exact this
   rw[h1,<-Aq,Ap]
  unfold EA;rw[EU hj,e1];rw[Hw (P3 (Fin.ofNat rN (2 ^ log.toNat)))]
 generalize P3 (Fin.ofNat rN (2 ^ log.toNat))=k at *;generalize 2 ^ log.toNat=n at *;have e1:∀i,Aj log.toNat (E8 w) i x*V.getD i 0=sm (fun j=>G3 x j*(V.getD i 0*pw (P3 (E8 w)) (i*j)*k)) n:=fun i=>by
  rw[hb i,<-QV,<-A6a];exact Q0 n fun j _=>D8a
 rw[Q0 n fun i _=>e1 i,A6b (fun i j=>G3 x j*(V.getD i 0*pw (P3 (E8 w)) (i*j)*k))]
 refine Q0 n fun j hj=>?_
 rw[QV,A6a,hc j hj,CX];refine congrArg (fun z=>z*k*G3 x j) (Q0 n fun i _=>?_)
 rw[Aq,Nat.mul_comm]
end
end S4
namespace S4
section
variable {w0:World} {F0:Nat->Prop} {K:Kp} {ac:List Act} {Q:Exit->Act->World->Prop} {cX:C0} {aX:Act}
def KG:List KI:=(run dX false 3000 (⟨[.code (B5 Tryz.f10)],.normal,D2 Tryz.f10.ntmps [.v (.a [.int .i64 dF,.ob (.fr dF)]),.v (.c (.int .i64 dF)),.v (.a [.ob (.fr dF)])]⟩:G5) [false,false,false,false]).cfg.k
theorem E1v(log i:Int)(w x:U4):let b:=S4.G3 (S4.E8 w) (V8 [(wrap .u64 i)]);let d:=B9 [(.ob (.s (S4.E8 x)))];let f:=decide ((S4.E8 x)=b);let g:=Fin.ofNat rN 1;A5 [((Bool.not (S4.G7 log w))=false),((decide (i<(0:Int)))=false),(0<=log),((decide (i >= (wrap .i64 ((1:Int)*((2:Int) ^ (Min.min (log).toNat 64))))))=false),(0<=(1:Int)),((1:Int)<(18446744073709551616:Int)),(0=0),(1=1),(1=1),(g=(1:Fr)),(1<=16),(Dy [(wrap .u64 i)]),((ite (true=true) f (Bool.not f))=false)]->Sg Tryz.prog (D2 Tryz.f10.ntmps [.v (.a [.int .i64 log,.ob (.fr w)]),.v (.c (.int .i64 i)),.v (.a [.ob (.fr x)])]) (B0 71 [3,6,8,9,10,11,47,48] [.pt 16 0,.pt 48 0,.pt 352 0,.pt 368 0,.pt 544 0,.pt 640 0,.ii log,.ii 0] [16,48,352,368,544,640] [(B9 [(.int .i64 log),.ob (.fr w)]),(B9 [(.ob (.fr (0:U4)))]),(B9 [(.ob (.s g))]),d,(B9 [(.ob (.s b))]),d] 720 [] []) .normal (KG) ([.code (B5 Tryz.f10)]):=E4 false 3000 [false,false,false,false] IQ
theorem bsD(log i:Int)(w x:U4):let b:=decide ((S4.E8 x)=(S4.G3 (S4.E8 w) (V8 [(wrap .u64 i)])));let d:=Fin.ofNat rN 1;C2 dX Tryz.f10 3000 [.v (.a [.int .i64 log,.ob (.fr w)]),.v (.c (.int .i64 i)),.v (.a [.ob (.fr x)])] [false,false,false,true] [] []=(some ([((Bool.not (S4.G7 log w))=false),((decide (i<(0:Int)))=false),(0<=log),((decide (i >= (wrap .i64 ((1:Int)*((2:Int) ^ (Min.min (log).toNat 64))))))=false),(0<=(1:Int)),((1:Int)<(18446744073709551616:Int)),(0=0),(1=1),(1=1),(d=(1:Fr)),(1<=16),(Dy [(wrap .u64 i)]),((ite (true=true) b (Bool.not b))=true)],((.t [(.a [(.ob (.fr (S4.E6 d)))]),(.c (.int .i64 0))]),[]))):=by intros;kernel_rfl
def bsS(log :Int)(w x:U4)(e t:Fr)(k:Nat):St:=B0 71 [3,6,8,9,10,11,47,48] [.pt 16 0,.pt 48 0,.pt 352 0,.pt 368 0,.pt 544 0,.pt 640 0,.ii log,.v (.c (.int .i64 (k:Int)))] [16,48,352,368,544,640] [(B9 [(.int .i64 log),.ob (.fr w)]),(B9 [(.ob (.fr (0:U4)))]),(B9 [(.ob (.s (Fin.ofNat rN 1)))]),(B9 [(.ob (.s (S4.E8 x)))]),some (.fl [.ob (.s e)]),some (.fl [.ob (.s t)])] 720 [] []
theorem bsN(log:Int)(w x:U4)(e t:Fr)(k:Nat):A5 [((decide (((k:Nat):Int)<log))=true)]->Sg Tryz.prog (bsS log w x e t k) (B0 71 [3,6,8,9,10,11,47,48] [.pt 16 0,.pt 48 0,.pt 352 0,.pt 368 0,.pt 544 0,.pt 640 0,.ii log,(.ii (wrap .i64 (((k:Nat):Int)+1)))] [16,48,352,368,544,640] [(B9 [(.int .i64 log),.ob (.fr w)]),(B9 [(.ob (.fr (0:U4)))]),(B9 [(.ob (.s (Fin.ofNat rN 1)))]),(B9 [(.ob (.s (S4.E8 x)))]),(B9 [.ob (.s e)]),(B9 [(.ob (.s (t*t)))])] 832 [] []) .normal (D4 KG) (B7 KG):=E4 false 3000 [true] IQ
theorem C2p(log:Int)(w x:U4)(e t:Fr)(k:Nat):let b:=wrap .u64 ((1:Int)*((2:Int) ^ (Min.min (log).toNat 64)));E2 dX Tryz.f10 false 3000 (⟨B7 KG,.normal,bsS log w x e t k⟩) [false] [] []=(some ([((decide (((k:Nat):Int)<log))=false),(0<=log),(0<=b),(b<(18446744073709551616:Int))],((.t [(.a [(.ob (.fr (S4.E6 (((t-(Fin.ofNat rN 1))*e)*(S4.P3 (((S4.E8 x)-e)*(Fin.ofNat rN (b).toNat)))))))]),(.c (.int .i64 0))]),[]))):=by intros;kernel_rfl
end
end S4
namespace S4
theorem E6n{log:Int}(h0:0<=log)(h1:log<=16):wrap .u64 ((1:Int)*((2:Int) ^ (min (log).toNat 64)))=((2 ^ log.toNat:Nat):Int):=by
 obtain ⟨k,rfl⟩:=Int.eq_ofNat_of_zero_le h0;have hp:2 ^ k<=2 ^ 16:=Nat.pow_le_pow_right A4 (by omega)
 rw[Int.one_mul,Int.toNat_natCast,show min k 64=k from by omega]
 have e3:((2:Int) ^ k)=((2 ^ k:Nat):Int):=by simp
 rw[e3];generalize 2 ^ k=n at *;exact Av (by omega) (by omega)
theorem B7h{i:Nat}(h:i<9223372036854775808):V8 [wrap IntKind.u64 (i:Int)]=i:=by
 rw[Av (by omega) (by omega)]
 show (i:Int).toNat+18446744073709551616*0=i;omega
theorem B5c{i:Nat}(h:i<9223372036854775808):Dy [wrap IntKind.u64 (i:Int)]:=by
 rw[Av (by omega) (by omega)]
 intro x hx;simp only[List.mem_cons,List.not_mem_nil,or_false] at hx;omega
theorem C3a{p:Prop}[Decidable p](h:p):(if (true=true) then decide p else !(decide p))=true:=by rw[if_pos rfl,decide_eq_true h]
theorem B2s{p:Prop}[Decidable p](h:¬p):(if (true=true) then decide p else !(decide p))=false:=by rw[if_pos rfl,decide_eq_false h]
theorem C0i(x:Fr)(n:Nat):sqN x n*sqN x n=sqN x (n+1):=rfl
theorem A6r(log:Int)(k:Nat)(w x:U4)(hd:G7 log w=true)(hk:k<2 ^ log.toNat) :
  K2 Tryz.prog 10 [.v (.a [.int .i64 log,.ob (.fr w)]),.v (.c (.int .i64 (k:Int))),.v (.a [.ob (.fr x)])] (.t [.a [.ob (.fr (E6 (Aj log.toNat (E8 w) k (E8 x))))],.c (.int .i64 0)]) []:=by
 obtain ⟨h0,h1,_⟩:=V7 hd;have hsh:=C8o h0 h1;have hshu:=E6n h0 h1;have hp2:2 ^ log.toNat<=2 ^ 16:=Nat.pow_le_pow_right A4 (by omega)
 have hn:(!(G7 log w))=false:=by rw[hd];rfl
 have hk2:k<9223372036854775808:=by omega
 have hnum:=B7h hk2;have hlim:=B5c hk2;by_cases hx:E8 x=G3 (E8 w) k
 ·have r:=bsD log k w x
  dsimp only at r;rw[hsh] at r;have e:Aj log.toNat (E8 w) k (E8 x)=Fin.ofNat rN 1:=by unfold Aj;rw[if_pos hx];rfl
  rw[e];refine A6 IQ Tryz.func10 r ⟨hn,decide_eq_false (by omega),h0,decide_eq_false (by omega),A4,A4,rfl,rfl,rfl,rfl,A4,hlim,?_,C4⟩
  rw[hnum];exact C3a hx
 ·have e:Aj log.toNat (E8 w) k (E8 x)=(sqN (E8 x) log.toNat-1)*G3 (E8 w) k*P3 ((E8 x-G3 (E8 w) k)*Fin.ofNat rN (2 ^ log.toNat)):=by unfold Aj;rw[if_neg hx]
  rw[e];refine H2 (fn:=Tryz.f10) (c:=B5 Tryz.f10) Tryz.func10 rfl rfl fun c a hk0 hF hs=>?_
  refine E1v log k w x ?_ hs fun ac cY aY hs1=>?_
  ·rw[hsh]
   refine ⟨hn,decide_eq_false (by omega),h0,decide_eq_false (by omega),A4,A4,rfl,rfl,rfl,rfl,A4,hlim,?_,C4⟩
   rw[hnum];exact B2s hx
  rw[hnum] at hs1;obtain ⟨m,hm⟩:=Int.eq_ofNat_of_zero_le h0;refine C5 (ι:={ i:Nat // i<=m }) (fun i=>bsS log w x (G3 (E8 w) k) (sqN (E8 x) i.1) i.1) (fun i=>m-i.1) (c:=X5 KG) (k:=X8 KG) (by kernel_rfl) (fun i ih ac cY aY hs=>?_) ⟨0,Nat.zero_le _⟩ (hs1.nx _)
  obtain ⟨i,hi⟩:=i;simp only at ih hs
  by_cases h:i<m
  ·refine bsN log w x _ _ i ⟨decide_eq_true (by omega),C4⟩ hs fun ac cZ aZ hs2=>?_
   rw[C0i,A9 (by omega) (by omega)] at hs2
   exact ih ⟨i+1,by omega⟩ (by show m-(i+1)<m-i;omega) ac cZ aZ (hs2.nx _)
  ·have ei:i=log.toNat:=by omega
   have r:=C2p log w x (G3 (E8 w) k) (sqN (E8 x) i) i;dsimp only at r;rw[hshu,Int.toNat_natCast] at r;rw[ei] at r hs;exact H4 IQ hk0 hF r ⟨decide_eq_false (by omega),h0,by omega,by omega,C4⟩ (fun y v hd=>hd) hs
end S4
end
end Go.Proofs.YtifiiigbedjceaaGreat
