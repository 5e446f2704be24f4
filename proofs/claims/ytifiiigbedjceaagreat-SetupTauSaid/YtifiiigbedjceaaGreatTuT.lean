/- Parts of a proof, one behind the other: WKy, PKy, PLd, WTq, PTq, WTl, PTl. No conditions. -/
import Derived.Test.YtifiiigbedjceaaGreatTuS
open Go.IntKind (wrap)
namespace Go.Proofs.YtifiiigbedjceaaGreat
noncomputable section
section
section
variable {w0:World} {F0:Nat->Prop} {K:Kp} {ac:List Act} {Q:Exit->Act->World->Prop} {cX:C0} {aX:Act}
instance:Inhabited G0:=⟨⟨0,0,false⟩⟩
instance:Inhabited K5:=⟨⟨0,0,0,0,false⟩⟩
abbrev nlI:It:=.val (.slice none 0 0)
def Ld(pw : List G0)(s : K5) : List It := [.sl (.g1 pw), .ob (.fp (K5.xa s)), .ob (.fp (K5.xb s)), .ob (.fp (K5.ya s)), .ob (.fp (K5.yb s)), .bool (K5.inf s)] -- @lst
def pvZ  : List It := [.int .i64 0, .int .i64 0, .val (.slice none 0 0), .val (.slice none 0 0), .val (.slice none 0 0), .val (.slice none 0 0), .val (.slice none 0 0), .val (.slice none 0 0), .val (.slice none 0 0), .val (.slice none 0 0), .sl (.g1 []), .ob (.fp 0), .ob (.fp 0), .ob (.fp 0), .ob (.fp 0), .lit false, .int .i64 0, .int .i64 0, .ob (.fp 0), .ob (.fp 0), .lit false, .ob (.fp 0), .ob (.fp 0), .lit false, .ob (.fp 0), .ob (.fp 0), .lit false, .ob (.fp 0), .ob (.fp 0), .lit false, .ob (.fp 0), .ob (.fp 0), .lit false, .ob (.fp 0), .ob (.fp 0), .lit false, .ob (.fp 0), .ob (.fp 0), .lit false, .ob (.fp 0), .ob (.fp 0), .lit false, .ob (.fp 0), .ob (.fp 0), .ob (.fp 0), .ob (.fp 0), .lit false] -- @lst
def pvO(lg p : Int)(q0 q1 q2 q3 q4 : It)(pw : List G0)(s : K5) : List It := [.int .i64 lg, .int .i64 p, q0, q1, q2, q3, q4, .val (.slice none 0 0), .val (.slice none 0 0), .val (.slice none 0 0), .sl (.g1 pw), .ob (.fp (K5.xa s)), .ob (.fp (K5.xb s)), .ob (.fp (K5.ya s)), .ob (.fp (K5.yb s)), .bool (K5.inf s), .int .i64 lg, .int .i64 p, .ob (.fp 0), .ob (.fp 0), .lit false, .ob (.fp 0), .ob (.fp 0), .lit false, .ob (.fp 0), .ob (.fp 0), .lit false, .ob (.fp 0), .ob (.fp 0), .lit false, .ob (.fp 0), .ob (.fp 0), .lit false, .ob (.fp 0), .ob (.fp 0), .lit false, .ob (.fp 0), .ob (.fp 0), .lit false, .ob (.fp 0), .ob (.fp 0), .lit false, .ob (.fp (K5.xa s)), .ob (.fp (K5.xb s)), .ob (.fp (K5.ya s)), .ob (.fp (K5.yb s)), .bool (K5.inf s)] -- @lst
def pvF(lg p : Int)(q0 q1 q2 q3 q4 s0 s1 s2 : It)(pw : List G0)(s : K5)(g0 g1 g2 g3 g4 g5 g6 g7 : G0) : List It := [.int .i64 lg, .int .i64 p, q0, q1, q2, q3, q4, s0, s1, s2, .sl (.g1 pw), .ob (.fp (K5.xa s)), .ob (.fp (K5.xb s)), .ob (.fp (K5.ya s)), .ob (.fp (K5.yb s)), .bool (K5.inf s), .int .i64 lg, .int .i64 p, .ob (.fp (G0.x g0)), .ob (.fp (G0.y g0)), .bool (G0.inf g0), .ob (.fp (G0.x g1)), .ob (.fp (G0.y g1)), .bool (G0.inf g1), .ob (.fp (G0.x g2)), .ob (.fp (G0.y g2)), .bool (G0.inf g2), .ob (.fp (G0.x g3)), .ob (.fp (G0.y g3)), .bool (G0.inf g3), .ob (.fp (G0.x g4)), .ob (.fp (G0.y g4)), .bool (G0.inf g4), .ob (.fp (G0.x g5)), .ob (.fp (G0.y g5)), .bool (G0.inf g5), .ob (.fp (G0.x g6)), .ob (.fp (G0.y g6)), .bool (G0.inf g6), .ob (.fp (G0.x g7)), .ob (.fp (G0.y g7)), .bool (G0.inf g7), .ob (.fp (K5.xa s)), .ob (.fp (K5.xb s)), .ob (.fp (K5.ya s)), .ob (.fp (K5.yb s)), .bool (K5.inf s)] -- @lst
def K7(l:List A0):Int:=(Az l.length:Int)
def cfV(log:Int)(w s:U4)(l:List U4):List U4:=(S4.EA (2 ^ log.toNat) (S4.E8 w) (S4.E8 s) (l.map S4.E8)).map S4.E6
abbrev kyV(l:List A0)(R:List U4):List U4:=cfV (K7 l) (S4.I4 (K7 l)) (S4.smF 1) R
abbrev O9(pw:List G0)(l:List A0)(R:List U4):G0×Int:=cmt pw (kyV l R)
theorem C2v(log:Int)(w s:U4)(l:List U4)(hd:S4.G7 log w=true)(hl:l.length=2 ^ log.toNat)(hs0:S4.E8 s≠0):K2 Tryz.prog 23 [.v (.a [.int .i64 log,.ob (.fr w)]),.v (.a [.ob (.fr s)]),.v (.c (.sl (.fr l)))] (.t [.c (.slc 0 0 (cfV log w s l).length 4),.c (.int .i64 0)]) [.sq (.fr (cfV log w s l))]:=by
 unfold cfV;rw[List.length_map,S4.EB];exact S4.A7l log w s l hd hl hs0
theorem Uh(l:List A0)(p v:Int)(h:E9 l p v=true):K2 Tryz.prog 4 [W4 l p v] (.t [.c (.int .i64 (K7 l)),.c (.int .i64 0)]) []:=by
 have r:=YL l p v;unfold Ug at r;rw[if_pos h] at r;exact r
theorem B0g(l:List A0)(p v:Int)(h:E9 l p v=false):K2 Tryz.prog 4 [W4 l p v] (.t [.c (.int .i64 0),.c (.int .i64 1)]) []:=by
 have r:=YL l p v;unfold Ug at r;rw[if_neg (by rw[h];decide)] at r
 exact r
theorem B6v(log:Int)(h:S4.O6 log=true):K2 Tryz.prog 8 [.v (.c (.int .i64 log))] (.t [.a [.int .i64 log,.ob (.fr (S4.I4 log))],.c (.int .i64 0)]) []:=by
 have r:=S4.A4y log;unfold S4.A9a at r;rw[if_pos h,if_pos h] at r;exact r
def keA:D6:=S4.vB.or koB
theorem D2f:A7 Tryz.prog keA:=FD S4.W6 ZW
def B4q:B2
 | [.v (.c (.int .i64 log))]=>some ([S4.O6 log=true],.t [.a [.int .i64 log,.ob (.fr (S4.I4 log))],.c (.int .i64 0)],[])
 | _=>none
def keB:D6:=keA.set (E0 keA.fn 8 B4q)
theorem D2g:A7 Tryz.prog keB:=A8 D2f 8 B4q (A2 Tryz.func8 rfl rfl) fun args o r es h ho=>by
 unfold B4q at h;split at h
 ·cases h;exact B6v _ ho.1
 ·cases h
def D2o:B2
 | [.v (.a [.int .i64 log,.ob (.fr w)]),.v (.a [.ob (.fr s)]),.v (.c (.sl (.fr l)))]=>some ([S4.G7 log w=true,l.length=2 ^ log.toNat,S4.E8 s≠0],.t [.c (.slc 0 0 (cfV log w s l).length 4),.c (.int .i64 0)],[.sq (.fr (cfV log w s l))])
 | _=>none
def keC:D6:=keB.set (E0 keB.fn 23 D2o)
theorem D2h:A7 Tryz.prog keC:=A8 D2g 23 D2o (A2 Tryz.func23 rfl rfl) fun args o r es h ho=>by
 unfold D2o at h;split at h
 ·cases h;exact C2v _ _ _ _ ho.1 ho.2.1 ho.2.2.1
 ·cases h
def D2p:B2
 | [.v (.a [.sl (.g1 l),.ob (.fp _),.ob (.fp _),.ob (.fp _),.ob (.fp _),.bool _]),.v (.c (.sl (.fr a)))]=>some ([a.length<=262144],.t [.a (cmt l a).1.its,.c (.int .i64 (cmt l a).2)],[])
 | _=>none
def keD:D6:=keC.set (E0 keC.fn 25 D2p)
theorem D2i:A7 Tryz.prog keD:=A8 D2h 25 D2p (A2 Tryz.func25 rfl rfl) fun args o r es h ho=>by
 unfold D2p at h;split at h
 ·cases h;exact Zw _ ⟨_,_,_,_,_⟩ _ ho.1
 ·cases h
def D2r:B2
 | [.v (.a [.sl (.gate l),.int .i64 p,.int .i64 v]),.v (.c (.int .i64 log))]=>some ([E9 l p v=true,S4.O6 log=true,l.length<=S4.vlN log,l.length<=4096],.t [.a [.slc 0 0 (S4.vaR l log 0).length 4,.slc 1 0 (S4.vaR l log 1).length 4,.slc 2 0 (S4.vaR l log 2).length 4],.c (.int .i64 0)],[.sq (.fr (S4.vaR l log 0)),.sq (.fr (S4.vaR l log 1)),.sq (.fr (S4.vaR l log 2))])
 | _=>none
def keE:D6:=keD.set (E0 keD.fn 21 D2r)
theorem ZU:A7 Tryz.prog keE:=A8 D2i 21 D2r (A2 Tryz.func21 rfl rfl) fun args o r es h ho=>by
 unfold D2r at h;split at h
 ·cases h;exact (by rw[S4.Y7,S4.Y7,S4.Y7];exact S4.A2s _ _ _ _ ho.1 ho.2.1 ho.2.2.1 ho.2.2.2.1)
 ·cases h
theorem D9e(a b c d e:U4)(x y z:Int):C2 keE Tryz.f20 3000 [.v (.a [.ob (.fr a),.ob (.fr b),.ob (.fr c),.ob (.fr d),.ob (.fr e),.int .i64 x,.int .i64 y,.int .i64 z])] [] [] []=(some ([],((.v (.a [.ob (.fr a),.ob (.fr b),.ob (.fr c),.ob (.fr d),.ob (.fr e)])),[]))):=by kernel_rfl
def D2q:B2
 | [.v (.a [.ob (.fr a),.ob (.fr b),.ob (.fr c),.ob (.fr d),.ob (.fr e),.int .i64 _,.int .i64 _,.int .i64 _])]=>some ([],.v (.a [.ob (.fr a),.ob (.fr b),.ob (.fr c),.ob (.fr d),.ob (.fr e)]),[])
 | _=>none
def keG:D6:=keE.set (E0 keE.fn 20 D2q)
theorem D2j:A7 Tryz.prog keG:=A8 ZU 20 D2q (A2 Tryz.func20 rfl rfl) fun args o r es h _=>by
 unfold D2q at h;split at h
 ·cases h;exact A6 ZU Tryz.func20 (D9e _ _ _ _ _ _ _ _) trivial
 ·cases h
def keH:D6:=keG.join 22 Tryz.f22
theorem D2k:A7 Tryz.prog keH:=B3f D2j Tryz.func22 (A2 Tryz.func22 rfl rfl)
def B4s:B2
 | [.v (.a [.sl (.gate l),.int .i64 p,.int .i64 v])]=>some ([E9 l p v=true],.t [.c (.int .i64 (K7 l)),.c (.int .i64 0)],[])
 | _=>none
def keT:D6:=keH.set (E0 keH.fn 4 B4s)
theorem Q7:A7 Tryz.prog keT:=A8 D2k 4 B4s (A2 Tryz.func4 rfl rfl) fun args o r es h ho=>by
 unfold B4s at h;split at h
 ·cases h;exact Uh _ _ _ ho.1
 ·cases h
def AE:List KI:=(run keT false 3000 (⟨[.code (B5 Tryz.f7)],.normal,D2 Tryz.f7.ntmps [W4 dF dF dF,.v (.a (Du dF dF))]⟩:G5) [false,false]).cfg.k
theorem ky(l:List A0)(p v:Int)(pw:List G0)(s:K5):let c:=K7 l;let b:=wrap .i64 ((1:Int)*((2:Int) ^ (Min.min (c).toNat 64)));let d:Int:=0;A5 [((E9 l p v)=true),((d != d)=false),(0<=c),((decide ((wrap .i64 (b+(6:Int))) > (pw.length:Int)))=false)]->Sg Tryz.prog (D2 Tryz.f7.ntmps [W4 l p v,.v (.a (Du pw s))]) (B0 127 [2,3,4,6,7,8,9,48] [.pt 16 0,.pt 32 0,.pt 48 0,.ii c,.pt 160 0,(.ii b),.pt 560 0,.ii d] [16,32,48,160,560] [(B9 [(.sl (.gate l)),(.int .i64 p),(.int .i64 v)]),(B9 (Ld pw s)),(B9 (pvZ)),(B9 [(.int .i64 d)]),(B9 (pvO c p nlI nlI nlI nlI nlI pw s))] 608 [] []) .normal (AE) ([.code (B5 Tryz.f7)]):=E4 false 3000 [false,false] Q7
def pvP(lg p : Int)(q0 q1 q2 q3 q4 s0 s1 s2 : It)(pw : List G0)(s : K5) : List It := [.int .i64 lg, .int .i64 p, q0, q1, q2, q3, q4, s0, s1, s2, .sl (.g1 pw), .ob (.fp (K5.xa s)), .ob (.fp (K5.xb s)), .ob (.fp (K5.ya s)), .ob (.fp (K5.yb s)), .bool (K5.inf s), .int .i64 lg, .int .i64 p, .ob (.fp 0), .ob (.fp 0), .lit false, .ob (.fp 0), .ob (.fp 0), .lit false, .ob (.fp 0), .ob (.fp 0), .lit false, .ob (.fp 0), .ob (.fp 0), .lit false, .ob (.fp 0), .ob (.fp 0), .lit false, .ob (.fp 0), .ob (.fp 0), .lit false, .ob (.fp 0), .ob (.fp 0), .lit false, .ob (.fp 0), .ob (.fp 0), .lit false, .ob (.fp (K5.xa s)), .ob (.fp (K5.xb s)), .ob (.fp (K5.ya s)), .ob (.fp (K5.yb s)), .bool (K5.inf s)] -- @lst
def B4r(l:List A0)(p v :Int)(pw:List G0)(s:K5)(N:Nat):St:=B0 127 [2,3,4,6,7,8,9,48] [.pt 16 0,.pt 32 0,.pt 48 0,.ii (K7 l),.pt 160 0,.v (.c (.int .i64 (N:Int))),.pt 560 0,.ii 0] [16,32,48,160,560] [(B9 [(.sl (.gate l)),(.int .i64 p),(.int .i64 v)]),(B9 (Ld pw s)),(B9 (pvZ)),(B9 [(.int .i64 0)]),(B9 (pvO (K7 l) p nlI nlI nlI nlI nlI pw s))] 608 [] []
def A8b(l:List A0)(p v :Int)(pw:List G0)(s:K5)(N:Nat)(R:List U4)(i :Int):St:=B0 127 [2,3,4,6,7,8,9,10,48,57,58,59] [.pt 16 0,.pt 32 0,.pt 48 0,.ii (K7 l),.pt 160 0,(.ii ((N:Nat):Int)),.pt 560 0,.ii 0,.ii 0,(.ci (.sl (.gate l))),(.ii (l.length:Int)),.v (.c (.int .i64 i))] [16,32,48,160,560,688] [(B9 [(.sl (.gate l)),(.int .i64 p),(.int .i64 v)]),(B9 (Ld pw s)),(B9 (pvZ)),(B9 [(.int .i64 0)]),some (.fl (pvO (K7 l) p (.slc 688 0 N 4) nlI nlI nlI nlI pw s)),some (.sq (.fr R))] 816 [] []
def HC:List KI:=(run keT false 3000 (⟨B7 AE,.normal,B4r dF dF dF dF dF dF⟩:G5) [true]).cfg.k
theorem E2r(l:List A0)(p v:Int)(pw:List G0)(s:K5)(N:Nat):let a:Int:=(N:Nat);A5 [((decide (0<(5:Int)))=true),(0<=a),(a=a),(((32:Int)*a)<=(281474976710656:Int)),(a<=(9223372036854775807:Int)),(0<=(0:Int)),(0<(5:Int))]->Sg Tryz.prog (B4r l p v pw s N) (A8b l p v pw s N (List.replicate N (0:U4)) (0:Int)) .normal (HC) (B7 AE):=E4 false 3000 [true] Q7
section
variable (l:List A0) (p v:Int) (pw:List G0) (s:K5) (N:Nat) (R:List U4) (i:Int)
theorem E2w:let a:=i<(l.length:Int);A5 [((decide a)=true),(0<=i),a,(0<=(0:Int)),(0<(5:Int)),(0<=(0:Int)),(0<(5:Int)),(0<=i),(i<((N:Nat):Int)),(0=0),((i).toNat<R.length)]->Sg Tryz.prog (A8b l p v pw s N R i) (St.z (A8b l p v pw s N (List.set R (i).toNat (S4.E6 (S4.E8 (A0.qm (List.getD l (i).toNat H7))))) (wrap .i64 (i+1))) 1152) .normal (D4 HC) (B7 HC):=E4 false 3000 [true] Q7
def A8g(l:List A0)(p v :Int)(pw:List G0)(s:K5)(N:Nat)(R0:List U4):St:=B0 127 [2,3,4,6,7,8,9,48] [.pt 16 0,.pt 32 0,.pt 48 0,.ii (K7 l),.pt 160 0,(.ii ((N:Nat):Int)),.pt 560 0,.ii 1] [16,32,48,160,560,688] [(B9 [(.sl (.gate l)),(.int .i64 p),(.int .i64 v)]),(B9 (Ld pw s)),(B9 (pvZ)),(B9 [(.int .i64 0)]),some (.fl (pvO (K7 l) p (.slc 688 0 N 4) nlI nlI nlI nlI pw s)),some (.sq (.fr R0))] 864 [] []
theorem E3b:A5 [((decide (i<(l.length:Int)))=false)]->Sg Tryz.prog (A8b l p v pw s N R i) (A8g l p v pw s N R) .normal (D4 AE) (B7 HC):=E4 false 3000 [false] Q7
def A8c(l:List A0)(p v :Int)(pw:List G0)(s:K5)(N:Nat)(R0:List U4)(R:List U4)(i :Int):St:=B0 127 [2,3,4,6,7,8,9,10,48,57,58,59] [.pt 16 0,.pt 32 0,.pt 48 0,.ii (K7 l),.pt 160 0,(.ii ((N:Nat):Int)),.pt 560 0,.ii 1,.ii 1,(.ci (.sl (.gate l))),(.ii (l.length:Int)),.v (.c (.int .i64 i))] [16,32,48,160,560,688,944] [(B9 [(.sl (.gate l)),(.int .i64 p),(.int .i64 v)]),(B9 (Ld pw s)),(B9 (pvZ)),(B9 [(.int .i64 0)]),some (.fl (pvO (K7 l) p (.slc 688 0 N 4) (.slc 944 0 N 4) nlI nlI nlI pw s)),(D9 (.fr R0)),some (.sq (.fr R))] 1072 [] []
def HD:List KI:=(run keT false 3000 (⟨B7 AE,.normal,A8g dF dF dF dF dF dF dF⟩:G5) [true]).cfg.k
end
theorem E2s(l:List A0)(p v:Int)(pw:List G0)(s:K5)(N:Nat)(R0:List U4):let a:Int:=(N:Nat);let b:=(1:Int)<(5:Int);A5 [((decide b)=true),(0<=a),(a=a),(((32:Int)*a)<=(281474976710656:Int)),(a<=(9223372036854775807:Int)),(0<=(1:Int)),b]->Sg Tryz.prog (A8g l p v pw s N R0) (A8c l p v pw s N R0 (List.replicate N (0:U4)) (0:Int)) .normal (HD) (B7 AE):=E4 false 3000 [true] Q7
section
variable (l:List A0) (p v:Int) (pw:List G0) (s:K5) (N:Nat) (R0:List U4) (R:List U4) (i:Int)
theorem E2x:let a:Int:=1;let b:=i<(l.length:Int);A5 [((decide b)=true),(0<=i),b,(0<=a),(a<(5:Int)),(0<=a),(a<(5:Int)),(0<=i),(i<((N:Nat):Int)),(0=0),((i).toNat<R.length)]->Sg Tryz.prog (A8c l p v pw s N R0 R i) (St.z (A8c l p v pw s N R0 (List.set R (i).toNat (S4.E6 (S4.E8 (A0.ql (List.getD l (i).toNat H7))))) (wrap .i64 (i+1))) 1408) .normal (D4 HD) (B7 HD):=E4 false 3000 [true] Q7
def A8h(l:List A0)(p v :Int)(pw:List G0)(s:K5)(N:Nat)(R0 R1:List U4):St:=B0 127 [2,3,4,6,7,8,9,48] [.pt 16 0,.pt 32 0,.pt 48 0,.ii (K7 l),.pt 160 0,(.ii ((N:Nat):Int)),.pt 560 0,.ii 2] [16,32,48,160,560,688,944] [(B9 [(.sl (.gate l)),(.int .i64 p),(.int .i64 v)]),(B9 (Ld pw s)),(B9 (pvZ)),(B9 [(.int .i64 0)]),some (.fl (pvO (K7 l) p (.slc 688 0 N 4) (.slc 944 0 N 4) nlI nlI nlI pw s)),(D9 (.fr R0)),some (.sq (.fr R1))] 1120 [] []
theorem E3c:A5 [((decide (i<(l.length:Int)))=false)]->Sg Tryz.prog (A8c l p v pw s N R0 R i) (A8h l p v pw s N R0 R) .normal (D4 AE) (B7 HD):=E4 false 3000 [false] Q7
def A8d(l:List A0)(p v :Int)(pw:List G0)(s:K5)(N:Nat)(R0 R1:List U4)(R:List U4)(i :Int):St:=B0 127 [2,3,4,6,7,8,9,10,48,57,58,59] [.pt 16 0,.pt 32 0,.pt 48 0,.ii (K7 l),.pt 160 0,(.ii ((N:Nat):Int)),.pt 560 0,.ii 2,.ii 2,(.ci (.sl (.gate l))),(.ii (l.length:Int)),.v (.c (.int .i64 i))] [16,32,48,160,560,688,944,1200] [(B9 [(.sl (.gate l)),(.int .i64 p),(.int .i64 v)]),(B9 (Ld pw s)),(B9 (pvZ)),(B9 [(.int .i64 0)]),some (.fl (pvO (K7 l) p (.slc 688 0 N 4) (.slc 944 0 N 4) (.slc 1200 0 N 4) nlI nlI pw s)),(D9 (.fr R0)),(D9 (.fr R1)),some (.sq (.fr R))] 1328 [] []
def HE:List KI:=(run keT false 3000 (⟨B7 AE,.normal,A8h dF dF dF dF dF dF dF dF⟩:G5) [true]).cfg.k
end
theorem E2t(l:List A0)(p v:Int)(pw:List G0)(s:K5)(N:Nat)(R0 R1:List U4):let a:Int:=(N:Nat);let b:=(2:Int)<(5:Int);A5 [((decide b)=true),(0<=a),(a=a),(((32:Int)*a)<=(281474976710656:Int)),(a<=(9223372036854775807:Int)),(0<=(2:Int)),b]->Sg Tryz.prog (A8h l p v pw s N R0 R1) (A8d l p v pw s N R0 R1 (List.replicate N (0:U4)) (0:Int)) .normal (HE) (B7 AE):=E4 false 3000 [true] Q7
section
variable (l:List A0) (p v:Int) (pw:List G0) (s:K5) (N:Nat) (R0 R1:List U4) (R:List U4) (i:Int)
theorem E2y:let a:Int:=2;let b:=i<(l.length:Int);A5 [((decide b)=true),(0<=i),b,(0<=a),(a<(5:Int)),(0<=a),(a<(5:Int)),(0<=i),(i<((N:Nat):Int)),(0=0),((i).toNat<R.length)]->Sg Tryz.prog (A8d l p v pw s N R0 R1 R i) (St.z (A8d l p v pw s N R0 R1 (List.set R (i).toNat (S4.E6 (S4.E8 (A0.qr (List.getD l (i).toNat H7))))) (wrap .i64 (i+1))) 1664) .normal (D4 HE) (B7 HE):=E4 false 3000 [true] Q7
def A8i(l:List A0)(p v :Int)(pw:List G0)(s:K5)(N:Nat)(R0 R1 R2:List U4):St:=B0 127 [2,3,4,6,7,8,9,48] [.pt 16 0,.pt 32 0,.pt 48 0,.ii (K7 l),.pt 160 0,(.ii ((N:Nat):Int)),.pt 560 0,.ii 3] [16,32,48,160,560,688,944,1200] [(B9 [(.sl (.gate l)),(.int .i64 p),(.int .i64 v)]),(B9 (Ld pw s)),(B9 (pvZ)),(B9 [(.int .i64 0)]),some (.fl (pvO (K7 l) p (.slc 688 0 N 4) (.slc 944 0 N 4) (.slc 1200 0 N 4) nlI nlI pw s)),(D9 (.fr R0)),(D9 (.fr R1)),some (.sq (.fr R2))] 1376 [] []
theorem E3d:A5 [((decide (i<(l.length:Int)))=false)]->Sg Tryz.prog (A8d l p v pw s N R0 R1 R i) (A8i l p v pw s N R0 R1 R) .normal (D4 AE) (B7 HE):=E4 false 3000 [false] Q7
def A8e(l:List A0)(p v :Int)(pw:List G0)(s:K5)(N:Nat)(R0 R1 R2:List U4)(R:List U4)(i :Int):St:=B0 127 [2,3,4,6,7,8,9,10,48,57,58,59] [.pt 16 0,.pt 32 0,.pt 48 0,.ii (K7 l),.pt 160 0,(.ii ((N:Nat):Int)),.pt 560 0,.ii 3,.ii 3,(.ci (.sl (.gate l))),(.ii (l.length:Int)),.v (.c (.int .i64 i))] [16,32,48,160,560,688,944,1200,1456] [(B9 [(.sl (.gate l)),(.int .i64 p),(.int .i64 v)]),(B9 (Ld pw s)),(B9 (pvZ)),(B9 [(.int .i64 0)]),some (.fl (pvO (K7 l) p (.slc 688 0 N 4) (.slc 944 0 N 4) (.slc 1200 0 N 4) (.slc 1456 0 N 4) nlI pw s)),(D9 (.fr R0)),(D9 (.fr R1)),(D9 (.fr R2)),some (.sq (.fr R))] 1584 [] []
def HF:List KI:=(run keT false 3000 (⟨B7 AE,.normal,A8i dF dF dF dF dF dF dF dF dF⟩:G5) [true]).cfg.k
end
theorem E2u(l:List A0)(p v:Int)(pw:List G0)(s:K5)(N:Nat)(R0 R1 R2:List U4):let a:Int:=(N:Nat);let b:=(3:Int)<(5:Int);A5 [((decide b)=true),(0<=a),(a=a),(((32:Int)*a)<=(281474976710656:Int)),(a<=(9223372036854775807:Int)),(0<=(3:Int)),b]->Sg Tryz.prog (A8i l p v pw s N R0 R1 R2) (A8e l p v pw s N R0 R1 R2 (List.replicate N (0:U4)) (0:Int)) .normal (HF) (B7 AE):=E4 false 3000 [true] Q7
section
variable (l:List A0) (p v:Int) (pw:List G0) (s:K5) (N:Nat) (R0 R1 R2:List U4) (R:List U4) (i:Int)
theorem E2z:let a:Int:=3;let b:=i<(l.length:Int);A5 [((decide b)=true),(0<=i),b,(0<=a),(a<(5:Int)),(0<=a),(a<(5:Int)),(0<=i),(i<((N:Nat):Int)),(0=0),((i).toNat<R.length)]->Sg Tryz.prog (A8e l p v pw s N R0 R1 R2 R i) (St.z (A8e l p v pw s N R0 R1 R2 (List.set R (i).toNat (S4.E6 (S4.E8 (A0.qo (List.getD l (i).toNat H7))))) (wrap .i64 (i+1))) 1920) .normal (D4 HF) (B7 HF):=E4 false 3000 [true] Q7
def A8j(l:List A0)(p v :Int)(pw:List G0)(s:K5)(N:Nat)(R0 R1 R2 R3:List U4):St:=B0 127 [2,3,4,6,7,8,9,48] [.pt 16 0,.pt 32 0,.pt 48 0,.ii (K7 l),.pt 160 0,(.ii ((N:Nat):Int)),.pt 560 0,.ii 4] [16,32,48,160,560,688,944,1200,1456] [(B9 [(.sl (.gate l)),(.int .i64 p),(.int .i64 v)]),(B9 (Ld pw s)),(B9 (pvZ)),(B9 [(.int .i64 0)]),some (.fl (pvO (K7 l) p (.slc 688 0 N 4) (.slc 944 0 N 4) (.slc 1200 0 N 4) (.slc 1456 0 N 4) nlI pw s)),(D9 (.fr R0)),(D9 (.fr R1)),(D9 (.fr R2)),some (.sq (.fr R3))] 1632 [] []
theorem E3e:A5 [((decide (i<(l.length:Int)))=false)]->Sg Tryz.prog (A8e l p v pw s N R0 R1 R2 R i) (A8j l p v pw s N R0 R1 R2 R) .normal (D4 AE) (B7 HF):=E4 false 3000 [false] Q7
def A8f(l:List A0)(p v :Int)(pw:List G0)(s:K5)(N:Nat)(R0 R1 R2 R3:List U4)(R:List U4)(i :Int):St:=B0 127 [2,3,4,6,7,8,9,10,48,57,58,59] [.pt 16 0,.pt 32 0,.pt 48 0,.ii (K7 l),.pt 160 0,(.ii ((N:Nat):Int)),.pt 560 0,.ii 4,.ii 4,(.ci (.sl (.gate l))),(.ii (l.length:Int)),.v (.c (.int .i64 i))] [16,32,48,160,560,688,944,1200,1456,1712] [(B9 [(.sl (.gate l)),(.int .i64 p),(.int .i64 v)]),(B9 (Ld pw s)),(B9 (pvZ)),(B9 [(.int .i64 0)]),some (.fl (pvO (K7 l) p (.slc 688 0 N 4) (.slc 944 0 N 4) (.slc 1200 0 N 4) (.slc 1456 0 N 4) (.slc 1712 0 N 4) pw s)),(D9 (.fr R0)),(D9 (.fr R1)),(D9 (.fr R2)),(D9 (.fr R3)),some (.sq (.fr R))] 1840 [] []
def HG:List KI:=(run keT false 3000 (⟨B7 AE,.normal,A8j dF dF dF dF dF dF dF dF dF dF⟩:G5) [true]).cfg.k
end
theorem E2v(l:List A0)(p v:Int)(pw:List G0)(s:K5)(N:Nat)(R0 R1 R2 R3:List U4):let a:Int:=(N:Nat);let b:=(4:Int)<(5:Int);A5 [((decide b)=true),(0<=a),(a=a),(((32:Int)*a)<=(281474976710656:Int)),(a<=(9223372036854775807:Int)),(0<=(4:Int)),b]->Sg Tryz.prog (A8j l p v pw s N R0 R1 R2 R3) (A8f l p v pw s N R0 R1 R2 R3 (List.replicate N (0:U4)) (0:Int)) .normal (HG) (B7 AE):=E4 false 3000 [true] Q7
section
variable (l:List A0) (p v:Int) (pw:List G0) (s:K5) (N:Nat) (R0 R1 R2 R3:List U4) (R:List U4) (i:Int)
theorem E3a:let a:Int:=4;let b:=i<(l.length:Int);A5 [((decide b)=true),(0<=i),b,(0<=a),(a<(5:Int)),(0<=a),(a<(5:Int)),(0<=i),(i<((N:Nat):Int)),(0=0),((i).toNat<R.length)]->Sg Tryz.prog (A8f l p v pw s N R0 R1 R2 R3 R i) (St.z (A8f l p v pw s N R0 R1 R2 R3 (List.set R (i).toNat (S4.E6 (S4.E8 (A0.qc (List.getD l (i).toNat H7))))) (wrap .i64 (i+1))) 2176) .normal (D4 HG) (B7 HG):=E4 false 3000 [true] Q7
def A8k(l:List A0)(p v :Int)(pw:List G0)(s:K5)(N:Nat)(R0 R1 R2 R3 R4:List U4):St:=B0 127 [2,3,4,6,7,8,9,48] [.pt 16 0,.pt 32 0,.pt 48 0,.ii (K7 l),.pt 160 0,(.ii ((N:Nat):Int)),.pt 560 0,.ii 5] [16,32,48,160,560,688,944,1200,1456,1712] [(B9 [(.sl (.gate l)),(.int .i64 p),(.int .i64 v)]),(B9 (Ld pw s)),(B9 (pvZ)),(B9 [(.int .i64 0)]),some (.fl (pvO (K7 l) p (.slc 688 0 N 4) (.slc 944 0 N 4) (.slc 1200 0 N 4) (.slc 1456 0 N 4) (.slc 1712 0 N 4) pw s)),(D9 (.fr R0)),(D9 (.fr R1)),(D9 (.fr R2)),(D9 (.fr R3)),some (.sq (.fr R4))] 1888 [] []
theorem E3f:A5 [((decide (i<(l.length:Int)))=false)]->Sg Tryz.prog (A8f l p v pw s N R0 R1 R2 R3 R i) (A8k l p v pw s N R0 R1 R2 R3 R) .normal (D4 AE) (B7 HG):=E4 false 3000 [false] Q7
def kyP(l:List A0)(p v :Int)(pw:List G0)(s:K5)(N:Nat)(R0 R1 R2 R3 R4 Y0 Y1 Y2:List U4)(n0 n1 n2:Nat):St:=B0 127 [4,7,9,14,95,96] [.pt 48 0,.pt 160 0,.pt 560 0,(.ci (.clo 22 [(160,0),(2160,0),(32,0)])),(.v (.a [(.slc 688 0 N 4),(.slc 944 0 N 4),(.slc 1200 0 N 4),(.slc 1456 0 N 4),(.slc 1712 0 N 4)])),.ii 0] [32,48,160,560,688,944,1200,1456,1712,1936,1937,1938,2160] [(B9 (Ld pw s)),(B9 (pvZ)),(B9 [(.int .i64 0)]),some (.fl (pvP (K7 l) p (.slc 688 0 N 4) (.slc 944 0 N 4) (.slc 1200 0 N 4) (.slc 1456 0 N 4) (.slc 1712 0 N 4) (.slc 1936 0 n0 4) (.slc 1937 0 n1 4) (.slc 1938 0 n2 4) pw s)),(D9 (.fr R0)),(D9 (.fr R1)),(D9 (.fr R2)),(D9 (.fr R3)),(D9 (.fr R4)),some (.sq (.fr Y0)),some (.sq (.fr Y1)),some (.sq (.fr Y2)),(B9 [(.int .i64 (K7 l)),(.ob (.fr (S4.I4 (K7 l))))])] 2288 [] []
def A4p:List KI:=(run keT false 3000 (⟨B7 AE,.normal,A8k dF dF dF dF dF dF dF dF dF dF dF⟩:G5) [false,false]).cfg.k
end
theorem kyD(l:List A0)(p v:Int)(pw:List G0)(s:K5)(N:Nat)(R0 R1 R2 R3 R4:List U4):let a:=K7 l;let b:=(S4.O6 a)=true;let c:=S4.vaR l a 0;let d:=S4.vaR l a 1;let f:=S4.vaR l a 2;A5 [((decide ((5:Int)<(5:Int)))=false),((E9 l p v)=true),b,(l.length<=(S4.vlN a)),(l.length<=4096),(((0:Int) != (0:Int))=false),b]->Sg Tryz.prog (A8k l p v pw s N R0 R1 R2 R3 R4) (kyP l p v pw s N R0 R1 R2 R3 R4 c d f c.length d.length f.length) .normal (A4p) (B7 AE):=E4 false 3000 [false,false] Q7
theorem B4t(l:List A0)(p v:Int)(pw:List G0)(s:K5)(N:Nat)(R0 R1 R2 R3 R4 Y0 Y1 Y2:List U4)(n0 n1 n2:Nat):let h:Int:=1;let d:=h<(9223372036854775808:Int);let f:=(S4.E8 (S4.smF h))≠(0:Fr);let i:Int:=5;let j:Int:=3;let k:Int:=0;let g:=(k != k)=false;let m:=K7 l;let b:=(S4.G7 m (S4.I4 m))=true;let n:Int:=2;let o:Int:=4;let q:=kyV l R0;let r:=kyV l R1;let u:=kyV l R2;let w:=kyV l R3;let x:=kyV l R4;let y:=kyV l Y0;let z:=kyV l Y1;let A:=kyV l Y2;E2 keT Tryz.f7 true 3000 (⟨A4p,.normal,kyP l p v pw s N R0 R1 R2 R3 R4 Y0 Y1 Y2 n0 n1 n2⟩) [true,false,false,true,false,false,true,false,false,true,false,false,true,false,false,false,true,false,false,true,false,false,true,false,false,false,false] [688,944,1200,1456,1712,1936,1937,1938] []=(some ([((decide (0<i))=true),(0<=k),(0<i),g,(0<=h),d,(0=0),(N=R0.length),(4=4),b,(R0.length=(2 ^ (m).toNat)),f,g,(0=0),(q.length=q.length),(4=4),(q.length<=262144),(0<=k),(0<i),((decide (h<i))=true),(0<=h),(h<i),(((Prod.snd (O9 pw l R0)) != k)=false),(0<=h),d,(0=0),(N=R1.length),(4=4),b,(R1.length=(2 ^ (m).toNat)),f,g,(0=0),(r.length=r.length),(4=4),(r.length<=262144),(0<=h),(h<i),((decide (n<i))=true),(0<=n),(n<i),(((Prod.snd (O9 pw l R1)) != k)=false),(0<=h),d,(0=0),(N=R2.length),(4=4),b,(R2.length=(2 ^ (m).toNat)),f,g,(0=0),(u.length=u.length),(4=4),(u.length<=262144),(0<=n),(n<i),((decide (j<i))=true),(0<=j),(j<i),(((Prod.snd (O9 pw l R2)) != k)=false),(0<=h),d,(0=0),(N=R3.length),(4=4),b,(R3.length=(2 ^ (m).toNat)),f,g,(0=0),(w.length=w.length),(4=4),(w.length<=262144),(0<=j),(j<i),((decide (o<i))=true),(0<=o),(o<i),(((Prod.snd (O9 pw l R3)) != k)=false),(0<=h),d,(0=0),(N=R4.length),(4=4),b,(R4.length=(2 ^ (m).toNat)),f,g,(0=0),(x.length=x.length),(4=4),(x.length<=262144),(0<=o),(o<i),((decide (i<i))=false),((decide (0<j))=true),(0<=k),(0<j),(((Prod.snd (O9 pw l R4)) != k)=false),(0<=h),d,(0=0),(n0=Y0.length),(4=4),b,(Y0.length=(2 ^ (m).toNat)),f,g,(0=0),(y.length=y.length),(4=4),(y.length<=262144),(0<=k),(0<j),((decide (h<j))=true),(0<=h),(h<j),(((Prod.snd (O9 pw l Y0)) != k)=false),(0<=h),d,(0=0),(n1=Y1.length),(4=4),b,(Y1.length=(2 ^ (m).toNat)),f,g,(0=0),(z.length=z.length),(4=4),(z.length<=262144),(0<=h),(h<j),((decide (n<j))=true),(0<=n),(n<j),(((Prod.snd (O9 pw l Y1)) != k)=false),(0<=h),d,(0=0),(n2=Y2.length),(4=4),b,(Y2.length=(2 ^ (m).toNat)),f,g,(0=0),(A.length=A.length),(4=4),(A.length<=262144),(0<=n),(n<j),((decide (j<j))=false),(((Prod.snd (O9 pw l Y2)) != k)=false)],((.t [(.a (pvF m p (.slc 0 0 N 4) (.slc 1 0 N 4) (.slc 2 0 N 4) (.slc 3 0 N 4) (.slc 4 0 N 4) (.slc 5 0 n0 4) (.slc 6 0 n1 4) (.slc 7 0 n2 4) pw s (Prod.fst (O9 pw l R0)) (Prod.fst (O9 pw l R1)) (Prod.fst (O9 pw l R2)) (Prod.fst (O9 pw l R3)) (Prod.fst (O9 pw l R4)) (Prod.fst (O9 pw l Y0)) (Prod.fst (O9 pw l Y1)) (Prod.fst (O9 pw l Y2)))),(.c (.int .i64 k))]),[(.sq (.fr R0)),(.sq (.fr R1)),(.sq (.fr R2)),(.sq (.fr R3)),(.sq (.fr R4)),(.sq (.fr Y0)),(.sq (.fr Y1)),(.sq (.fr Y2))]))):=by intros;kernel_rfl
end
end
section
def U3(q:A0->U4)(l:List A0)(N i:Nat):List U4:=(List.range i).map (fun j=>S4.E6 (S4.E8 (q (l.getD j H7))))++List.replicate (N-i) 0
def F9(q:A0->U4)(l:List A0)(N:Nat):List U4:=U3 q l N l.length
theorem L8(q:A0->U4)(l:List A0){N i:Nat}(h:i<=N):(U3 q l N i).length=N:=S4.Ea _ _ h
theorem DZ(q:A0->U4)(l:List A0){N i:Nat}(h:i<N):(U3 q l N i).set i (S4.E6 (S4.E8 (q (l.getD i H7))))=U3 q l N (i+1):=S4.Eb (fun j=>S4.E6 (S4.E8 (q (l.getD j H7)))) 0 h
theorem C4m{w0:World}{F0:Nat->Prop}{K:Kp}{Q:Exit->Act->World->Prop}(l:List A0)(p v:Int)(pw:List G0)(s:K5)(N:Nat)(h1:l.length<=N)(h6:N<=65536)
  (next:∀ac a y,Sim w0 F0 K ac (A8g l p v pw s N (F9 A0.qm l N)) y a->Wq Tryz.prog Q (D4 AE) ac .normal a y.w)
  {ac:List Act} {a:Act} {y:C0} (h0:Sim w0 F0 K ac (A8b l p v pw s N (U3 A0.qm l N 0) ((0:Nat):Int)) y a):Wq Tryz.prog Q HC ac .normal a y.w:=by
 refine C5 (ι:={ i:Nat // i<=l.length }) (fun i=>A8b l p v pw s N (U3 A0.qm l N i.1) i.1) (fun i=>l.length-i.1) (c:=X5 HC) (k:=X8 HC) (by kernel_rfl) (fun i ih ac y b hs=>?_) ⟨0,Nat.zero_le _⟩ h0
 obtain ⟨i,hi⟩:=i;simp only at hs ih
 by_cases h:i<l.length
 ·refine E2w l p v pw s N (U3 A0.qm l N i) i ⟨decide_eq_true (by omega),by omega,by omega,A4,A4,A4,A4,by omega,by omega,rfl,by rw[L8 _ _ (by omega)];omega,C4⟩ hs fun ac cZ aZ hs2=>?_
  have hw:wrap IntKind.i64 ((i:Int)+1)=((i+1:Nat):Int):=by rw[A9 (by omega) (by omega)];omega
  rw[hw,Int.toNat_natCast,DZ _ _ (by omega)] at hs2
  exact ih ⟨i+1,by omega⟩ (by show l.length-(i+1)<l.length-i;omega) ac cZ aZ (hs2.nx 816)
 ·have e' : i=l.length:=by omega
  subst e'
  exact E3b l p v pw s N (U3 A0.qm l N l.length) _ ⟨decide_eq_false (by omega),C4⟩ hs fun ac cZ aZ hs2=>next ac aZ cZ hs2
theorem C4n{w0:World}{F0:Nat->Prop}{K:Kp}{Q:Exit->Act->World->Prop}(l:List A0)(p v:Int)(pw:List G0)(s:K5)(N:Nat)(R0:List U4)(h1:l.length<=N)(h6:N<=65536)
  (next:∀ac a y,Sim w0 F0 K ac (A8h l p v pw s N R0 (F9 A0.ql l N)) y a->Wq Tryz.prog Q (D4 AE) ac .normal a y.w)
  {ac:List Act} {a:Act} {y:C0} (h0:Sim w0 F0 K ac (A8c l p v pw s N R0 (U3 A0.ql l N 0) ((0:Nat):Int)) y a):Wq Tryz.prog Q HD ac .normal a y.w:=by
 refine C5 (ι:={ i:Nat // i<=l.length }) (fun i=>A8c l p v pw s N R0 (U3 A0.ql l N i.1) i.1) (fun i=>l.length-i.1) (c:=X5 HD) (k:=X8 HD) (by kernel_rfl) (fun i ih ac y b hs=>?_) ⟨0,Nat.zero_le _⟩ h0
 obtain ⟨i,hi⟩:=i;simp only at hs ih
 by_cases h:i<l.length
 ·refine E2x l p v pw s N R0 (U3 A0.ql l N i) i ⟨decide_eq_true (by omega),by omega,by omega,A4,A4,A4,A4,by omega,by omega,rfl,by rw[L8 _ _ (by omega)];omega,C4⟩ hs fun ac cZ aZ hs2=>?_
  have hw:wrap IntKind.i64 ((i:Int)+1)=((i+1:Nat):Int):=by rw[A9 (by omega) (by omega)];omega
  rw[hw,Int.toNat_natCast,DZ _ _ (by omega)] at hs2
  exact ih ⟨i+1,by omega⟩ (by show l.length-(i+1)<l.length-i;omega) ac cZ aZ (hs2.nx 1072)
 ·have e' : i=l.length:=by omega
  subst e'
  exact E3c l p v pw s N R0 (U3 A0.ql l N l.length) _ ⟨decide_eq_false (by omega),C4⟩ hs fun ac cZ aZ hs2=>next ac aZ cZ hs2
theorem C4o{w0:World}{F0:Nat->Prop}{K:Kp}{Q:Exit->Act->World->Prop}(l:List A0)(p v:Int)(pw:List G0)(s:K5)(N:Nat)(R0 R1:List U4)(h1:l.length<=N)(h6:N<=65536)
  (next:∀ac a y,Sim w0 F0 K ac (A8i l p v pw s N R0 R1 (F9 A0.qr l N)) y a->Wq Tryz.prog Q (D4 AE) ac .normal a y.w)
  {ac:List Act} {a:Act} {y:C0} (h0:Sim w0 F0 K ac (A8d l p v pw s N R0 R1 (U3 A0.qr l N 0) ((0:Nat):Int)) y a):Wq Tryz.prog Q HE ac .normal a y.w:=by
 refine C5 (ι:={ i:Nat // i<=l.length }) (fun i=>A8d l p v pw s N R0 R1 (U3 A0.qr l N i.1) i.1) (fun i=>l.length-i.1) (c:=X5 HE) (k:=X8 HE) (by kernel_rfl) (fun i ih ac y b hs=>?_) ⟨0,Nat.zero_le _⟩ h0
 obtain ⟨i,hi⟩:=i;simp only at hs ih
 by_cases h:i<l.length
 ·refine E2y l p v pw s N R0 R1 (U3 A0.qr l N i) i ⟨decide_eq_true (by omega),by omega,by omega,A4,A4,A4,A4,by omega,by omega,rfl,by rw[L8 _ _ (by omega)];omega,C4⟩ hs fun ac cZ aZ hs2=>?_
  have hw:wrap IntKind.i64 ((i:Int)+1)=((i+1:Nat):Int):=by rw[A9 (by omega) (by omega)];omega
  rw[hw,Int.toNat_natCast,DZ _ _ (by omega)] at hs2
  exact ih ⟨i+1,by omega⟩ (by show l.length-(i+1)<l.length-i;omega) ac cZ aZ (hs2.nx 1328)
 ·have e' : i=l.length:=by omega
  subst e'
  exact E3d l p v pw s N R0 R1 (U3 A0.qr l N l.length) _ ⟨decide_eq_false (by omega),C4⟩ hs fun ac cZ aZ hs2=>next ac aZ cZ hs2
theorem C4p{w0:World}{F0:Nat->Prop}{K:Kp}{Q:Exit->Act->World->Prop}(l:List A0)(p v:Int)(pw:List G0)(s:K5)(N:Nat)(R0 R1 R2:List U4)(h1:l.length<=N)(h6:N<=65536)
  (next:∀ac a y,Sim w0 F0 K ac (A8j l p v pw s N R0 R1 R2 (F9 A0.qo l N)) y a->Wq Tryz.prog Q (D4 AE) ac .normal a y.w)
  {ac:List Act} {a:Act} {y:C0} (h0:Sim w0 F0 K ac (A8e l p v pw s N R0 R1 R2 (U3 A0.qo l N 0) ((0:Nat):Int)) y a):Wq Tryz.prog Q HF ac .normal a y.w:=by
 refine C5 (ι:={ i:Nat // i<=l.length }) (fun i=>A8e l p v pw s N R0 R1 R2 (U3 A0.qo l N i.1) i.1) (fun i=>l.length-i.1) (c:=X5 HF) (k:=X8 HF) (by kernel_rfl) (fun i ih ac y b hs=>?_) ⟨0,Nat.zero_le _⟩ h0
 obtain ⟨i,hi⟩:=i;simp only at hs ih
 by_cases h:i<l.length
 ·refine E2z l p v pw s N R0 R1 R2 (U3 A0.qo l N i) i ⟨decide_eq_true (by omega),by omega,by omega,A4,A4,A4,A4,by omega,by omega,rfl,by rw[L8 _ _ (by omega)];omega,C4⟩ hs fun ac cZ aZ hs2=>?_
  have hw:wrap IntKind.i64 ((i:Int)+1)=((i+1:Nat):Int):=by rw[A9 (by omega) (by omega)];omega
  rw[hw,Int.toNat_natCast,DZ _ _ (by omega)] at hs2
  exact ih ⟨i+1,by omega⟩ (by show l.length-(i+1)<l.length-i;omega) ac cZ aZ (hs2.nx 1584)
 ·have e' : i=l.length:=by omega
  subst e'
  exact E3e l p v pw s N R0 R1 R2 (U3 A0.qo l N l.length) _ ⟨decide_eq_false (by omega),C4⟩ hs fun ac cZ aZ hs2=>next ac aZ cZ hs2
theorem C4q{w0:World}{F0:Nat->Prop}{K:Kp}{Q:Exit->Act->World->Prop}(l:List A0)(p v:Int)(pw:List G0)(s:K5)(N:Nat)(R0 R1 R2 R3:List U4)(h1:l.length<=N)(h6:N<=65536)
  (next:∀ac a y,Sim w0 F0 K ac (A8k l p v pw s N R0 R1 R2 R3 (F9 A0.qc l N)) y a->Wq Tryz.prog Q (D4 AE) ac .normal a y.w)
  {ac:List Act} {a:Act} {y:C0} (h0:Sim w0 F0 K ac (A8f l p v pw s N R0 R1 R2 R3 (U3 A0.qc l N 0) ((0:Nat):Int)) y a):Wq Tryz.prog Q HG ac .normal a y.w:=by
 refine C5 (ι:={ i:Nat // i<=l.length }) (fun i=>A8f l p v pw s N R0 R1 R2 R3 (U3 A0.qc l N i.1) i.1) (fun i=>l.length-i.1) (c:=X5 HG) (k:=X8 HG) (by kernel_rfl) (fun i ih ac y b hs=>?_) ⟨0,Nat.zero_le _⟩ h0
 obtain ⟨i,hi⟩:=i;simp only at hs ih
 by_cases h:i<l.length
 ·refine E3a l p v pw s N R0 R1 R2 R3 (U3 A0.qc l N i) i ⟨decide_eq_true (by omega),by omega,by omega,A4,A4,A4,A4,by omega,by omega,rfl,by rw[L8 _ _ (by omega)];omega,C4⟩ hs fun ac cZ aZ hs2=>?_
  have hw:wrap IntKind.i64 ((i:Int)+1)=((i+1:Nat):Int):=by rw[A9 (by omega) (by omega)];omega
  rw[hw,Int.toNat_natCast,DZ _ _ (by omega)] at hs2
  exact ih ⟨i+1,by omega⟩ (by show l.length-(i+1)<l.length-i;omega) ac cZ aZ (hs2.nx 1840)
 ·have e' : i=l.length:=by omega
  subst e'
  exact E3f l p v pw s N R0 R1 R2 R3 (U3 A0.qc l N l.length) _ ⟨decide_eq_false (by omega),C4⟩ hs fun ac cZ aZ hs2=>next ac aZ cZ hs2
theorem C4r{w0:World}{F0:Nat->Prop}{K:Kp}{Q:Exit->Act->World->Prop}(l:List A0)(p v:Int)(pw:List G0)(s:K5)(N:Nat)(h1:l.length<=N)(h6:N<=65536)
  (next:∀ac a y,Sim w0 F0 K ac (A8k l p v pw s N (F9 A0.qm l N) (F9 A0.ql l N) (F9 A0.qr l N) (F9 A0.qo l N) (F9 A0.qc l N)) y a->Wq Tryz.prog Q (B7 AE) ac .normal a y.w)
  {ac:List Act} {a:Act} {y:C0} (hs:Sim w0 F0 K ac (B4r l p v pw s N) y a):Wq Tryz.prog Q AE ac .normal a y.w:=by
 let I:{ w:Nat // w<=5 } -> List Act->Act->World->Prop:=fun w ac a W=>∃y,W=y.w∧Sim w0 F0 K ac (match w.1 with
  | 0=>B4r l p v pw s N
  | 1=>A8g l p v pw s N (F9 A0.qm l N)
  | 2=>A8h l p v pw s N (F9 A0.qm l N) (F9 A0.ql l N)
  | 3=>A8i l p v pw s N (F9 A0.qm l N) (F9 A0.ql l N) (F9 A0.qr l N)
  | 4=>A8j l p v pw s N (F9 A0.qm l N) (F9 A0.ql l N) (F9 A0.qr l N) (F9 A0.qo l N)
  | _=>A8k l p v pw s N (F9 A0.qm l N) (F9 A0.ql l N) (F9 A0.qr l N) (F9 A0.qo l N) (F9 A0.qc l N)) y a
 have l0:(0:Nat)<=5:=by decide
 refine I5 I (fun w=>5-w.1) (c:=X5 AE) (k:=X8 AE) (by kernel_rfl) (fun w ih ac b W hI=>?_) ⟨0,l0⟩ (show I ⟨0,l0⟩ ac a y.w from ⟨y,rfl,hs⟩)
 obtain ⟨w,hw5⟩:=w;obtain ⟨y,rfl,hs⟩:=hI;match w,hw5 with
 | 0,_=>
  have hs:Sim w0 F0 K ac (B4r l p v pw s N) y b:=hs;refine E2r l p v pw s N ⟨decide_eq_true A4,by omega,rfl,by omega,by omega,A4,A4,C4⟩ hs fun ac cZ aZ hs2=>?_
  exact C4m l p v pw s N h1 h6 (fun ac a y h=>ih ⟨1,A4⟩ (by show 5-1<5-0;decide) ac a _ ⟨y,rfl,h⟩) hs2
 | 1,_=>
  have hs:Sim w0 F0 K ac (A8g l p v pw s N (F9 A0.qm l N)) y b:=hs;refine E2s l p v pw s N (F9 A0.qm l N) ⟨decide_eq_true A4,by omega,rfl,by omega,by omega,A4,A4,C4⟩ hs fun ac cZ aZ hs2=>?_
  exact C4n l p v pw s N (F9 A0.qm l N) h1 h6 (fun ac a y h=>ih ⟨2,A4⟩ (by show 5-2<5-1;decide) ac a _ ⟨y,rfl,h⟩) hs2
 | 2,_=>
  have hs:Sim w0 F0 K ac (A8h l p v pw s N (F9 A0.qm l N) (F9 A0.ql l N)) y b:=hs;refine E2t l p v pw s N (F9 A0.qm l N) (F9 A0.ql l N) ⟨decide_eq_true A4,by omega,rfl,by omega,by omega,A4,A4,C4⟩ hs fun ac cZ aZ hs2=>?_
  exact C4o l p v pw s N (F9 A0.qm l N) (F9 A0.ql l N) h1 h6 (fun ac a y h=>ih ⟨3,A4⟩ (by show 5-3<5-2;decide) ac a _ ⟨y,rfl,h⟩) hs2
 | 3,_=>
  have hs:Sim w0 F0 K ac (A8i l p v pw s N (F9 A0.qm l N) (F9 A0.ql l N) (F9 A0.qr l N)) y b:=hs;refine E2u l p v pw s N (F9 A0.qm l N) (F9 A0.ql l N) (F9 A0.qr l N) ⟨decide_eq_true A4,by omega,rfl,by omega,by omega,A4,A4,C4⟩ hs fun ac cZ aZ hs2=>?_
  exact C4p l p v pw s N (F9 A0.qm l N) (F9 A0.ql l N) (F9 A0.qr l N) h1 h6 (fun ac a y h=>ih ⟨4,A4⟩ (by show 5-4<5-3;decide) ac a _ ⟨y,rfl,h⟩) hs2
 | 4,_=>
  have hs:Sim w0 F0 K ac (A8j l p v pw s N (F9 A0.qm l N) (F9 A0.ql l N) (F9 A0.qr l N) (F9 A0.qo l N)) y b:=hs;refine E2v l p v pw s N (F9 A0.qm l N) (F9 A0.ql l N) (F9 A0.qr l N) (F9 A0.qo l N) ⟨decide_eq_true A4,by omega,rfl,by omega,by omega,A4,A4,C4⟩ hs fun ac cZ aZ hs2=>?_
  exact C4q l p v pw s N (F9 A0.qm l N) (F9 A0.ql l N) (F9 A0.qr l N) (F9 A0.qo l N) h1 h6 (fun ac a y h=>ih ⟨5,A4⟩ (by show 5-5<5-4;decide) ac a _ ⟨y,rfl,h⟩) hs2
 | 5,_=>exact next ac b y hs
theorem D6m:S4.E8 (S4.smF 1)≠0:=by unfold S4.smF;rw[S4.Z3];decide
theorem Db(l:List A0)(R:List U4):(kyV l R).length=2 ^ (K7 l).toNat:=by
 show (cfV (K7 l) (S4.I4 (K7 l)) (S4.smF 1) R).length=_;unfold cfV;rw[List.length_map,S4.EB]
theorem MS{e:Int}(h:e=0):(e != 0)=false:=by simp [h]
section
variable {x:C0} (l:List A0) (p v:Int) (pw:List G0) (s:K5) (N:Nat) (R0 R1 R2 R3 R4 Y0 Y1 Y2:List U4) (hk:∀p,x.k p = .no) (hF:∀b,x.F b->b<x.w.heap.size) (hd:S4.G7 (K7 l) (S4.I4 (K7 l))=true) (hN:N=2 ^ (K7 l).toNat) (h6:N<=65536)
 (g0:R0.length=N) (g1:R1.length=N) (g2:R2.length=N) (g3:R3.length=N) (g4:R4.length=N) (g5:Y0.length=N) (g6:Y1.length=N) (g7:Y2.length=N) {ac:List Act} {a:Act} {y:C0} (hs:Sim x.w x.F AD ac (kyP l p v pw s N R0 R1 R2 R3 R4 Y0 Y1 Y2 N N N) y a)
include hk hF hd hN h6 g0 g1 g2 g3 g4 g5 g6 g7 hs in
theorem D2s(e0:((O9 pw l R0).2 != 0)=false)(e1:((O9 pw l R1).2 != 0)=false)(e2:((O9 pw l R2).2 != 0)=false)(e3:((O9 pw l R3).2 != 0)=false)(e4:((O9 pw l R4).2 != 0)=false)(e5:((O9 pw l Y0).2 != 0)=false)(e6:((O9 pw l Y1).2 != 0)=false)(e7:((O9 pw l Y2).2 != 0)=false):Wq Tryz.prog (NU Tryz.prog Tryz.f7 x (.t [.a (pvF (K7 l) p (.slc 0 0 N 4) (.slc 1 0 N 4) (.slc 2 0 N 4) (.slc 3 0 N 4) (.slc 4 0 N 4) (.slc 5 0 N 4) (.slc 6 0 N 4) (.slc 7 0 N 4) pw s (O9 pw l R0).1 (O9 pw l R1).1 (O9 pw l R2).1 (O9 pw l R3).1 (O9 pw l R4).1 (O9 pw l Y0).1 (O9 pw l Y1).1 (O9 pw l Y2).1),.c (.int .i64 0)]) [.sq (.fr R0),.sq (.fr R1),.sq (.fr R2),.sq (.fr R3),.sq (.fr R4),.sq (.fr Y0),.sq (.fr Y1),.sq (.fr Y2)]) A4p ac .normal a y.w:=by
 have m0:R0.length=2 ^ (K7 l).toNat:=g0.trans hN;have m1:R1.length=2 ^ (K7 l).toNat:=g1.trans hN;have m2:R2.length=2 ^ (K7 l).toNat:=g2.trans hN;have m3:R3.length=2 ^ (K7 l).toNat:=g3.trans hN;have m4:R4.length=2 ^ (K7 l).toNat:=g4.trans hN;have m5:Y0.length=2 ^ (K7 l).toNat:=g5.trans hN;have m6:Y1.length=2 ^ (K7 l).toNat:=g6.trans hN;have m7:Y2.length=2 ^ (K7 l).toNat:=g7.trans hN;have k0:(kyV l R0).length<=262144:=by rw[Db,<-hN];omega
 have k1:(kyV l R1).length<=262144:=by rw[Db,<-hN];omega
 have k2:(kyV l R2).length<=262144:=by rw[Db,<-hN];omega
 have k3:(kyV l R3).length<=262144:=by rw[Db,<-hN];omega
 have k4:(kyV l R4).length<=262144:=by rw[Db,<-hN];omega
 have k5:(kyV l Y0).length<=262144:=by rw[Db,<-hN];omega
 have k6:(kyV l Y1).length<=262144:=by rw[Db,<-hN];omega
 have k7:(kyV l Y2).length<=262144:=by rw[Db,<-hN];omega
 have u0:N=R0.length:=g0.symm;have u1:N=R1.length:=g1.symm;have u2:N=R2.length:=g2.symm;have u3:N=R3.length:=g3.symm;have u4:N=R4.length:=g4.symm;have u5:N=Y0.length:=g5.symm;have u6:N=Y1.length:=g6.symm;have u7:N=Y2.length:=g7.symm;have hsm:=D6m;exact H4 Q7 hk hF (B4t l p v pw s N R0 R1 R2 R3 R4 Y0 Y1 Y2 N N N) (by simp only[A5];and_intros<;>first | with_reducible assumption | with_reducible exact rfl | exact trivial | decide) (fun y v hd=>hd) hs
include hk hF hd hN h6 g0 g1 g2 g3 g4 g5 g6 g7 hs in
end
def kyN(l:List A0):Nat:=2 ^ (K7 l).toNat
theorem B4u{x:C0}{r:SV}{es:List En}(l:List A0)(p v:Int)(pw:List G0)(s:K5)(N:Nat)(hr:E9 l p v=true)(hN:N=2 ^ (K7 l).toNat)(hp:N+6<=pw.length)
  (next:∀ac a y,Sim x.w x.F AD ac (kyP l p v pw s N (F9 A0.qm l N) (F9 A0.ql l N) (F9 A0.qr l N) (F9 A0.qo l N) (F9 A0.qc l N) (S4.vaR l (K7 l) 0) (S4.vaR l (K7 l) 1) (S4.vaR l (K7 l) 2) N N N) y a->S4.G7 (K7 l) (S4.I4 (K7 l))=true->N<=65536->l.length<=N->Wq Tryz.prog (NU Tryz.prog Tryz.f7 x r es) A4p ac .normal a y.w)
  {a:Act} (hs:Sim x.w x.F AD [] (D2 Tryz.f7.ntmps [W4 l p v,.v (.a (Du pw s))]) x a):Wq Tryz.prog (NU Tryz.prog Tryz.f7 x r es) [.code (B5 Tryz.f7)] [] .normal a x.w:=by
 have hlim:l.length<=4096:=by simp [E9] at hr;omega
 obtain ⟨a1,a2,a3,_⟩:=HH l.length hlim;have hlg:(K7 l).toNat=Az l.length:=rfl;have hok:S4.O6 (K7 l)=true:=by unfold S4.O6 K7;rw[decide_eq_true (Int.natCast_nonneg _),decide_eq_true (by omega)];rfl
 have hd:S4.G7 (K7 l) (S4.I4 (K7 l))=true:=by simp [S4.G7,hok]
 have h6:N<=65536:=by rw[hN,hlg];exact Nat.le_trans (Nat.pow_le_pow_right A4 a2) A4
 have h1:l.length<=N:=by rw[hN,hlg];exact a3
 have hb1:-9223372036854775808<=(N:Int)+6:=by clear hN;omega
 have hb2:(N:Int)+6<9223372036854775808:=by clear hN;omega
 have hw:wrap .i64 ((1:Int)*((2:Int) ^ (min (K7 l).toNat 64)))=(N:Int):=by
  rw[hN];exact S4.C8o (Int.natCast_nonneg _) (by unfold K7;omega)
 have hV:S4.vlN (K7 l)=N:=hN.symm;refine ky l p v pw s ⟨hr,rfl,Int.natCast_nonneg _,by rw[hw,A9 hb1 hb2];exact decide_eq_false (by clear hN;omega),C4⟩ hs fun ac cY aY hs1=>?_
 rw[hw] at hs1;refine C4r l p v pw s N h1 h6 (fun ac aZ cZ hs2=>?_) hs1
 refine kyD l p v pw s N (F9 A0.qm l N) (F9 A0.ql l N) (F9 A0.qr l N) (F9 A0.qo l N) (F9 A0.qc l N) ⟨decide_eq_false A4,hr,hok,by rw[hV];exact h1,hlim,rfl,hok,C4⟩ hs2 fun ac cD aD hs3=>?_
 rw[S4.Y7,S4.Y7,S4.Y7,hV] at hs3;exact next ac aD cD hs3 hd h6 h1
theorem C4k(l:List A0)(p v:Int)(pw:List G0)(s:K5)(N:Nat)(hr:E9 l p v=true)(hN:N=2 ^ (K7 l).toNat)(hp:N+6<=pw.length)
  (e0:(O9 pw l (F9 A0.qm l N)).2=0) (e1:(O9 pw l (F9 A0.ql l N)).2=0) (e2:(O9 pw l (F9 A0.qr l N)).2=0) (e3:(O9 pw l (F9 A0.qo l N)).2=0) (e4:(O9 pw l (F9 A0.qc l N)).2=0) (e5:(O9 pw l (S4.vaR l (K7 l) 0)).2=0) (e6:(O9 pw l (S4.vaR l (K7 l) 1)).2=0) (e7:(O9 pw l (S4.vaR l (K7 l) 2)).2=0) :
  K2 Tryz.prog 7 [W4 l p v,.v (.a (Du pw s))] (.t [.a (pvF (K7 l) p (.slc 0 0 N 4) (.slc 1 0 N 4) (.slc 2 0 N 4) (.slc 3 0 N 4) (.slc 4 0 N 4) (.slc 5 0 N 4) (.slc 6 0 N 4) (.slc 7 0 N 4) pw s (O9 pw l (F9 A0.qm l N)).1 (O9 pw l (F9 A0.ql l N)).1 (O9 pw l (F9 A0.qr l N)).1 (O9 pw l (F9 A0.qo l N)).1 (O9 pw l (F9 A0.qc l N)).1 (O9 pw l (S4.vaR l (K7 l) 0)).1 (O9 pw l (S4.vaR l (K7 l) 1)).1 (O9 pw l (S4.vaR l (K7 l) 2)).1),.c (.int .i64 0)]) [.sq (.fr (F9 A0.qm l N)),.sq (.fr (F9 A0.ql l N)),.sq (.fr (F9 A0.qr l N)),.sq (.fr (F9 A0.qo l N)),.sq (.fr (F9 A0.qc l N)),.sq (.fr (S4.vaR l (K7 l) 0)),.sq (.fr (S4.vaR l (K7 l) 1)),.sq (.fr (S4.vaR l (K7 l) 2))]:=by
 refine H2 (fn:=Tryz.f7) (c:=B5 Tryz.f7) Tryz.func7 rfl rfl fun x b hk hF hs=>?_
 refine B4u l p v pw s N hr hN hp (fun ac aD cD hs3 hd h6 h1=>?_) hs
 have hV:S4.vlN (K7 l)=N:=hN.symm;exact D2s l p v pw s N (F9 A0.qm l N) (F9 A0.ql l N) (F9 A0.qr l N) (F9 A0.qo l N) (F9 A0.qc l N) (S4.vaR l (K7 l) 0) (S4.vaR l (K7 l) 1) (S4.vaR l (K7 l) 2) hk hF hd hN h6 (L8 _ _ h1) (L8 _ _ h1) (L8 _ _ h1) (L8 _ _ h1) (L8 _ _ h1) ((S4.Y7 ..).trans hV) ((S4.Y7 ..).trans hV) ((S4.Y7 ..).trans hV) hs3 (MS e0) (MS e1) (MS e2) (MS e3) (MS e4) (MS e5) (MS e6) (MS e7)
end
section
section
variable {F:Type} [Fld F] [DecidableEq F] {b:F}
theorem B7c(hc:Cv b){P:Pt F}(h:OnC b P){r:Nat}(hr:L9 P r=none)(n:Nat):L9 P n=L9 P (n % r):=by
 have e:L9 P (r*(n / r)+n % r)=L9 P (n % r):=by
  rw[X9 hc h,FS hc h,hr,TF];rfl
 rw[Nat.div_add_mod] at e;exact e
def jz(a:F×F×F)(l:List Nat):Bool:=decide ((jmn a l).2.2=0)
theorem B4l(hc:Cv b){P:Pt F}{a:F×F×F}(hP:OnC b P)(h:Jc P a)(l:List Nat)(h0:jz a l=true):L9 P (dgV l)=none:=by
 have hj:=B4m hc hP h l
 cases hn:L9 P (dgV l) with
 | none=>rfl
 | some q=>
  rw[hn] at hj;have hj:(jmn a l).2.2≠0:=hj.1;exact absurd (of_decide_eq_true h0) hj
end
def rD:List Nat:=Am 52435875175126190479447740508185965837690552500527637822603658699938581184513 64
theorem C3t:jz (inG BK) rD=true:=by decide +kernel
theorem Px:OnC fp4 (pG BK):=(Qr TL).2
theorem E5u:52435875175126190479447740508185965837690552500527637822603658699938581184513<16 ^ 64:=by decide +kernel
theorem B3r:L9 (pG BK) rN=none:=by
 have h:=B4l cv1 Px (UW BK) rD C3t;have e:dgV rD=rN:=A3l (Eq.refl 64) E5u;rw[e] at h;exact h
theorem D7j(k:U4):k.val<2 ^ 256:=by
 have h:B4=2 ^ 256:=by decide +kernel
 rw[<-h];exact k.isLt
theorem D4l(a:Fp×Fp×Fp)(q:U4){n:Nat}(hn:n=64):pwE (Me a) q=GV (pkT E7 a q.val n):=by
 unfold pwE;rw[NP,B8p a q.val 64 64 (Nat.le_refl _),hn]
theorem D4k{a:G0}(ha:onG a=true)(q:U4):pwE (Me (inG a)) q=gP (L9 (pG a) q.val):=by
 obtain ⟨n,hn⟩:∃n:Nat,n=64:=⟨_,rfl⟩
 rw[D4l (inG a) q hn];exact NI (C7a cv1 (z:=E7) rfl (Qr ha).2 (UW a) hn (D7j q))
theorem B4w(k:U4){n:Int}(h:¬(n<1∨n > 4096)):kzL k n=pwL (Me (inG BK)) k n.toNat:=by
 rw[ZX,if_neg h,A1g (by omega) TL]
def gF(v:Fr):G0:=gP (L9 (pG BK) v.val)
theorem D1s(n:Nat)(v:Fr)(h:n % rN=v.val):gP (L9 (pG BK) n)=gF v:=by
 rw[B7c cv1 Px B3r n,h];rfl
def pwF(k:U4)(i:Nat):Fr:=S4.E8 (pwK k i)
theorem C7f(k:U4)(i:Nat):(pwK k i).val % rN=(pwF k i).val:=rfl
theorem B4z(k:U4){n:Nat}(h1:1<=n)(h2:n<=4096):(kzL k (n:Int)).length=n:=by
 rw[B4w k (by omega),A5r,Int.toNat_natCast]
theorem D2t(k:U4){n:Nat}(h1:1<=n)(h2:n<=4096){i:Nat}(h:i<n):(kzL k (n:Int)).getD i g10=gP (L9 (pG BK) (pwK k i).val):=by
 rw[B4w k (by omega),C7g _ _ (by rw[Int.toNat_natCast];exact h),D4k TL]
def C8w(u v:Nat->Nat):Nat->Nat
 | 0=>0
 | n+1=>C8w u v n+v n*u n
theorem A4i{ks:List Nat}{Ps:List (Pt Fp)}{u v:Nat->Nat}(hu:∀i,i<Ps.length->ks.getD i 0=u i)(hv:∀i,i<Ps.length->Ps.getD i none=L9 (pG BK) (v i)):∀n,n<=Ps.length->gsl ks Ps n=L9 (pG BK) (C8w u v n)
 | 0,_=>rfl
 | n+1,h=>by
  show Q5 (gsl ks Ps n) (L9 (Ps.getD n none) (ks.getD n 0))=L9 (pG BK) (C8w u v n+v n*u n);rw[A4i hu hv n (by omega),hu n (by omega),hv n (by omega),X9 cv1 Px,FS cv1 Px]
theorem B6b{r s e a x b y:Nat}(h1:s % r=e)(h2:a % r=x)(h3:b % r=y):(s+a*b) % r=(e+y*x % r) % r:=by
 subst h1 h2 h3;rw[Nat.mul_comm a b,Nat.add_mod s (b*a),Nat.mul_mod b a]
theorem YO{u v:Nat->Nat}{f g:Nat->Fr}(hu:∀i,u i % rN=(f i).val)(hv:∀i,v i % rN=(g i).val):∀n,C8w u v n % rN=(S4.evF f g n).val
 | 0=>Nat.zero_mod _
 | n+1=>B6b (YO hu hv n) (hv n) (hu n)
theorem C0v{α:Type}(l:List α)(d:α){i n:Nat}(h:i<n):(l.take n).getD i d=l.getD i d:=by
 rw[List.getD_eq_getElem?_getD,List.getD_eq_getElem?_getD,List.getElem?_take_of_lt h]
theorem D1d(A:List Fr)(i:Nat):(S4.cf A i).val % rN=(S4.cf A i).val:=Nat.mod_eq_of_lt (S4.cf A i).isLt
theorem D1e(k:U4){n:Nat}(h1:1<=n)(h4:n<=4096)(a:List U4)(h:(pTr a).length<=n):cmt (kzL k (n:Int)) a=(gF (S4.evF (S4.cf (a.map S4.E8)) (pwF k) n),0):=by
 have hl:=B4z k h1 h4;have hg:=fun i=>D2t k h1 h4 (i:=i)
 have hm:(pTr a).length=S4.BF (a.map S4.E8) (a.map S4.E8).length:=by unfold pTr;rw[List.length_map,S4.MB]
 have hget:∀i,i<(pTr a).length->(pTr a).getD i 0=S4.E6 (S4.cf (a.map S4.E8) i):=fun i hi=>by
  unfold pTr at hi ⊢
  rw[List.length_map] at hi;rw[Cd S4.E6 _ 0 0 hi,<-S4.C9j];rfl
 have hzero:∀i,(pTr a).length<=i->S4.cf (a.map S4.E8) i=0:=fun i hi=>S4.Uk _ _ (by omega)
 unfold cmt;rw[if_neg (by omega)]
 generalize kzL k (n:Int)=L at hl hg ⊢
 generalize hks:pTr a=ks at hm h hget hzero ⊢
 generalize a.map S4.E8=A at hget hzero ⊢
 clear hm hks;have htl:(L.take ks.length).length=ks.length:=by rw[List.length_take];omega
 have hpt:∀i,i<ks.length->(L.take ks.length).getD i g10=gP (L9 (pG BK) (pwK k i).val):=fun i hi=>by rw[C0v _ _ hi];exact hg i (by omega)
 generalize L.take ks.length=Ls at htl hpt ⊢
 have hoff:Ls.any DC=false:=by
  rw[List.any_eq_false];intro x hx;obtain ⟨i,hi,rfl⟩:=List.mem_iff_getElem.1 hx;have e:=hpt i (by omega)
  rw[List.getD_eq_getElem?_getD,List.getElem?_eq_getElem hi] at e;have e:Ls[i]=gP (L9 (pG BK) (pwK k i).val):=e;rw[e];unfold DC;rw[D3w (EH cv1 Px _)];decide
 rw[A6e (B2h (by omega) (by omega) hoff),D6n (Eq.refl 52) htl.symm hoff]
 have hPl:(Ls.map pG).length=ks.length:=by rw[List.length_map,htl]
 have hPon:∀Q,Q∈Ls.map pG->OnC fp4 Q:=fun Q hQ=>by
  obtain ⟨x,hx,rfl⟩:=List.mem_map.1 hQ;rw[List.any_eq_false] at hoff;have:=hoff x hx
  unfold DC at this;exact (Qr (by simpa using this)).2
 have hs:=B3v (ks.map (·.val)) (Ls.map pG) (by rw[List.length_map,hPl]) hPon (Ls.map pG).length (Nat.le_refl _)
 rw[List.take_length,List.take_of_length_le (by rw[List.length_map,hPl];exact Nat.le_refl _)] at hs
 rw[<-hs,A4i (u:=fun i=>(S4.cf A i).val) (v:=fun i=>(pwK k i).val) (fun i hi=>by
   rw[hPl] at hi;rw[Cd (fun x:U4=>x.val) ks 0 0 hi,hget i hi,S4.JJ]) (fun i hi=>by
   rw[hPl] at hi;rw[Cd pG Ls g10 none (by omega),hpt i hi,E0p]) _ (Nat.le_refl _),hPl]
 rw[D1s _ _ (YO (D1d A) (C7f k) ks.length),S4.ON (S4.cf A) (pwF k) hzero n h]
theorem B9e(k:U4):∀i,pwF k i=S4.G3 (S4.E8 k) i
 | 0=>S4.Z3 _
 | i+1=>by
  show S4.E8 (S4.E6 (S4.E8 (pwK k i)*S4.E8 k))=S4.G3 (S4.E8 k) i*S4.E8 k;rw[S4.Z3,<-B9e k i];rfl
theorem B3i(f g:Nat->Fr):∀n,S4.evF f g n=S4.sm (fun i=>f i*g i) n
 | 0=>rfl
 | n+1=>by
  show S4.evF f g n+f n*g n=S4.sm (fun i=>f i*g i) n+f n*g n
  rw[B3i f g n]
def UB(log:Int)(w k:U4)(R:List U4)(n:Nat):Fr:=S4.sm (fun i=>S4.E8 (R.getD i 0)*S4.Aj log.toNat (S4.E8 w) i (S4.E8 k)) n
theorem Gm(k:U4){log:Int}{w:U4}(hd:S4.G7 log w=true)(R:List U4)(hR:R.length=2 ^ log.toNat){n:Nat}(hn:2 ^ log.toNat<=n)(h4:n<=4096):cmt (kzL k (n:Int)) (cfV log w (S4.smF 1) R)=(gF (UB log w k R (2 ^ log.toNat)),0):=by
 have hpos:=Nat.two_pow_pos log.toNat;have hin:(cfV log w (S4.smF 1) R).map S4.E8=S4.EA (2 ^ log.toNat) (S4.E8 w) 1 (R.map S4.E8):=by
  unfold cfV;rw[List.map_map];have e:S4.E8 (S4.smF 1)=1:=S4.Z3 _;rw[e];exact (List.map_congr_left fun x _=>S4.Z3 x).trans (List.map_id _)
 have hl:(cfV log w (S4.smF 1) R).length=2 ^ log.toNat:=by unfold cfV;rw[List.length_map,S4.EB]
 have hp:(pTr (cfV log w (S4.smF 1) R)).length<=n:=by
  have:=S4.C9k ((cfV log w (S4.smF 1) R).map S4.E8)
  unfold pTr;rw[List.length_map,hl] at this;rw[List.length_map];omega
 rw[D1e k (by omega) h4 _ hp,hin,S4.ON _ (pwF k) (m:=2 ^ log.toNat) (fun i hi=>S4.B2e (by rw[S4.EB];exact hi)) n hn,B3i]
 refine congrArg (fun z=>(gF z,(0:Int))) ?_
 unfold UB;rw[S4.Q0 _ (g:=fun j=>(S4.EA (2 ^ log.toNat) (S4.E8 w) 1 (R.map S4.E8)).getD j 0*S4.G3 (S4.E8 k) j) fun j _=>by rw[B9e];rfl,<-S4.Zo hd]
 refine S4.Q0 _ fun i hi=>?_
 rw[Cd S4.E8 R 0 0 (by omega)]
 exact S4.CX _ _
theorem D8o(v:Fr):(muR BK (S4.E6 v)).1=gF v:=by
 rw[congrArg Prod.fst (B6g (S4.E6 v) TL),C5l TL,S4.JJ];rfl
end
section
section
variable {w0:World} {F0:Nat->Prop} {K:Kp} {ac:List Act} {Q:Exit->Act->World->Prop} {cX:C0} {aX:Act}
theorem Zn(log i:Int)(w x:U4)(hd:S4.G7 log w=true)(h0:0<=i)(h1:i.toNat<2 ^ log.toNat):K2 Tryz.prog 10 [.v (.a [.int .i64 log,.ob (.fr w)]),.v (.c (.int .i64 i)),.v (.a [.ob (.fr x)])] (.t [.a [.ob (.fr (S4.E6 (S4.Aj log.toNat (S4.E8 w) i.toNat (S4.E8 x))))],.c (.int .i64 0)]) []:=by
 have h:=S4.A6r log i.toNat w x hd h1;rw[Int.toNat_of_nonneg h0] at h;exact h
def tqB:D6:=keE.or (kmB.or qwC)
theorem D7f:A7 Tryz.prog tqB:=FD ZU (FD Ve B9j)
def D7g:B2
 | [.v (.a [.int .i64 log,.ob (.fr w)]),.v (.c (.int .i64 i)),.v (.a [.ob (.fr x)])]=>some ([S4.G7 log w=true,0<=i,i.toNat<2 ^ log.toNat],.t [.a [.ob (.fr (S4.E6 (S4.Aj log.toNat (S4.E8 w) i.toNat (S4.E8 x))))],.c (.int .i64 0)],[])
 | _=>none
def tqC:D6:=tqB.set (E0 tqB.fn 10 D7g)
theorem A2m:A7 Tryz.prog tqC:=A8 D7f 10 D7g (A2 Tryz.func10 rfl rfl) fun args o r es h ho=>by
 unfold D7g at h;split at h
 ·cases h;exact Zn _ _ _ _ ho.1 ho.2.1 ho.2.2.1
 ·cases h
theorem tqA(a b:U4):C2 tqC Tryz.f11 3000 [.v (.a [.ob (.fr a)]),.v (.a [.ob (.fr b)])] [] [] []=(some ([],((.v (.a [(.ob (.fr (S4.E6 ((S4.E8 a)+(S4.E8 b)))))])),[]))):=by kernel_rfl
theorem tqM(a b:U4):C2 tqC Tryz.f12 3000 [.v (.a [.ob (.fr a)]),.v (.a [.ob (.fr b)])] [] [] []=(some ([],((.v (.a [(.ob (.fr (S4.E6 ((S4.E8 a)*(S4.E8 b)))))])),[]))):=by kernel_rfl
theorem C9g(a b:U4):K2 Tryz.prog 11 [.v (.a [.ob (.fr a)]),.v (.a [.ob (.fr b)])] (.v (.a [.ob (.fr (S4.E6 (S4.E8 a+S4.E8 b)))])) []:=A6 A2m Tryz.func11 (tqA a b) trivial
theorem C9h(a b:U4):K2 Tryz.prog 12 [.v (.a [.ob (.fr a)]),.v (.a [.ob (.fr b)])] (.v (.a [.ob (.fr (S4.E6 (S4.E8 a*S4.E8 b)))])) []:=A6 A2m Tryz.func12 (tqM a b) trivial
def D7e:B2
 | [.v (.a [.ob (.fr a)]),.v (.a [.ob (.fr b)])]=>some ([],.v (.a [.ob (.fr (S4.E6 (S4.E8 a+S4.E8 b)))]),[])
 | _=>none
def tqD:D6:=tqC.set (E0 tqC.fn 11 D7e)
theorem D7h:A7 Tryz.prog tqD:=A8 A2m 11 D7e (A2 Tryz.func11 rfl rfl) fun args o r es h _=>by
 unfold D7e at h;split at h
 ·cases h;exact C9g _ _
 ·cases h
def D7i:B2
 | [.v (.a [.ob (.fr a)]),.v (.a [.ob (.fr b)])]=>some ([],.v (.a [.ob (.fr (S4.E6 (S4.E8 a*S4.E8 b)))]),[])
 | _=>none
def tqE:D6:=tqD.set (E0 tqD.fn 12 D7i)
theorem WB:A7 Tryz.prog tqE:=A8 D7h 12 D7i (A2 Tryz.func12 rfl rfl) fun args o r es h _=>by
 unfold D7i at h;split at h
 ·cases h;exact C9h _ _
 ·cases h
def tqS(l:List U4)(log :Int)(w k s:U4)(i :Int):St:=B0 40 [1,2,4,5,13,14,15] [(.ci (.rp (Sq.dm [(log,w)]) 0 0)),(.ci (.rp (.fr [k]) 0 0)),.pt 16 0,.pt 48 0,(.ci (.sl (.fr l))),(.ii (l.length:Int)),.v (.c (.int .i64 i))] [16,48] [(B9 [(.ob (.fp (0:U6))),(.ob (.fp (0:U6))),(.lit false)]),some (.fl [.ob (.fr s)])] 128 [] []
def B0u:List KI:=(run tqE false 3000 (⟨[.code (B5 Tryz.f9)],.normal,D2 Tryz.f9.ntmps [.v (.c (.sl (.fr dF))),.v (.c (.rp (.dm [(dF,dF)]) 0 0)),.v (.c (.rp (.fr [dF]) 0 0))]⟩:G5) []).cfg.k
theorem tq(l:List U4)(log:Int)(w k:U4):A5 []->Sg Tryz.prog (D2 Tryz.f9.ntmps [.v (.c (.sl (.fr l))),.v (.c (.rp (.dm [(log,w)]) 0 0)),.v (.c (.rp (.fr [k]) 0 0))]) (tqS l log w k (0:U4) (0:Int)) .normal (B0u) ([.code (B5 Tryz.f9)]):=E4 false 3000 [] WB
theorem tqN(l:List U4)(log:Int)(w k s:U4)(i:Int):let a:=i<(l.length:Int);A5 [((decide a)=true),(0<=i),a,((S4.G7 log w)=true),(0<=i),((i).toNat<(2 ^ (log).toNat))]->Sg Tryz.prog (tqS l log w k s i) (St.z (tqS l log w k (S4.E6 ((S4.E8 s)+(S4.E8 (S4.E6 ((S4.E8 (l.getD i.toNat 0))*(S4.E8 (S4.E6 (S4.Aj (log).toNat (S4.E8 w) (i).toNat (S4.E8 k))))))))) (wrap .i64 (i+1))) 528) .normal (D4 B0u) (B7 B0u):=E4 false 3000 [true] WB
theorem C9i(l:List U4)(log:Int)(w k s:U4)(i:Int):let b:=Prod.fst (muR BK s);E2 tqE Tryz.f9 false 3000 (⟨B7 B0u,.normal,tqS l log w k s i⟩) [false] [] []=(some ([((decide (i<(l.length:Int)))=false)],((.v (.a [(.ob (.fp (G0.x b))),(.ob (.fp (G0.y b))),(.bool (G0.inf b))])),[]))):=by intros;kernel_rfl
end
end
section
theorem A6w(log:Int)(w k:U4)(R:List U4)(n:Nat):S4.E6 (S4.E8 (S4.E6 (UB log w k R n))+S4.E8 (S4.E6 (S4.E8 (R.getD n 0)*S4.E8 (S4.E6 (S4.Aj log.toNat (S4.E8 w) n (S4.E8 k))))))=S4.E6 (UB log w k R (n+1)):=by
 rw[S4.Z3,S4.Z3,S4.Z3];rfl
theorem D0x(l:List U4)(log:Int)(w k:U4)(hd:S4.G7 log w=true)(hl:l.length=2 ^ log.toNat) :
  K2 Tryz.prog 9 [.v (.c (.sl (.fr l))),.v (.c (.rp (.dm [(log,w)]) 0 0)),.v (.c (.rp (.fr [k]) 0 0))] (.v (.a (gF (UB log w k l (2 ^ log.toNat))).its)) []:=by
 obtain ⟨h0,h1,_⟩:=S4.V7 hd;have hp2:2 ^ log.toNat<=2 ^ 16:=Nat.pow_le_pow_right A4 (by omega)
 rw[<-hl] at hp2 ⊢
 refine H2 (fn:=Tryz.f9) (c:=B5 Tryz.f9) Tryz.func9 rfl rfl fun x a0 hk hF hs=>?_
 refine tq l log w k trivial hs fun ac cY aY hs1=>?_
 refine C5 (ι:={ i:Nat // i<=l.length }) (fun i=>tqS l log w k (S4.E6 (UB log w k l i.1)) i.1) (fun i=>l.length-i.1) (c:=X5 B0u) (k:=X8 B0u) (by kernel_rfl) (fun i ih ac y b hs=>?_) ⟨0,Nat.zero_le _⟩ hs1
 obtain ⟨i,hi⟩:=i;simp only at hs ih
 by_cases h:i<l.length
 ·refine tqN l log w k _ i ⟨decide_eq_true (by omega),by omega,by omega,hd,by omega,by rw[<-hl];omega,C4⟩ hs fun ac cZ aZ hs2=>?_
  have hw:wrap IntKind.i64 ((i:Int)+1)=((i+1:Nat):Int):=by rw[A9 (by omega) (by omega)];omega
  rw[hw,Int.toNat_natCast,A6w] at hs2;exact ih ⟨i+1,by omega⟩ (by show l.length-(i+1)<l.length-i;omega) ac cZ aZ (hs2.nx 128)
 ·have e:i=l.length:=by omega
  subst e;have r:=C9i l log w k (S4.E6 (UB log w k l l.length)) l.length;dsimp only at r;rw[D8o] at r;exact H4 WB hk hF r ⟨decide_eq_false (by omega),C4⟩ (fun y v hd=>hd) hs
end
section
section
variable {w0:World} {F0:Nat->Prop} {K:Kp} {ac:List Act} {Q:Exit->Act->World->Prop} {cX:C0} {aX:Act}
theorem E6r  : C2 keT Tryz.f5 3000 [] [true] [] []=(some ([((E9 ([]:List A0) (0:Int) (0:Int))=true),(((0:Int)==0)=true)],((.ci (.bool ((1:Int)==1))),[]))):=by kernel_rfl
theorem A6o:K2 Tryz.prog 5 [] (.v (.c (.bool true))) []:=A6 Q7 Tryz.func5 E6r ⟨A4,A4,C4⟩
abbrev S9(q:A0->U4)(l:List A0):List U4:=F9 q l (kyN l)
abbrev kyW(l:List A0)(i:Nat):List U4:=S4.vaR l (K7 l) i
abbrev tlG(k:U4)(l:List A0)(R:List U4):G0:=gF (UB (K7 l) (S4.I4 (K7 l)) k R (2 ^ (K7 l).toNat))
abbrev tlN(l:List A0):Int:=wrap .i64 (wrap .i64 (1*2 ^ min (K7 l).toNat 64)+6)
def neG(a b:G0):Bool:=ite (false=true) (Bool.and (decide (a.x=b.x)) (Bool.and (decide (a.y=b.y)) (a.inf == b.inf))) (Bool.not (Bool.and (decide (a.x=b.x)) (Bool.and (decide (a.y=b.y)) (a.inf == b.inf))))
theorem Bf(a:G0):neG a a=false:=by simp [neG]
def B4p(pw:List G0)(l:List A0):Prop:=(O9 pw l (S9 A0.qm l)).2=0∧(O9 pw l (S9 A0.ql l)).2=0∧(O9 pw l (S9 A0.qr l)).2=0∧(O9 pw l (S9 A0.qo l)).2=0∧(O9 pw l (S9 A0.qc l)).2=0∧(O9 pw l (kyW l 0)).2=0∧(O9 pw l (kyW l 1)).2=0∧(O9 pw l (kyW l 2)).2=0
theorem B4o(l:List A0)(p v:Int)(pw:List G0)(s:K5)(hr:E9 l p v=true)(hp:kyN l+6<=pw.length)(h:B4p pw l) :
  K2 Tryz.prog 7 [W4 l p v,.v (.a (Du pw s))] (.t [.a (pvF (K7 l) p (.slc 0 0 (kyN l) 4) (.slc 1 0 (kyN l) 4) (.slc 2 0 (kyN l) 4) (.slc 3 0 (kyN l) 4) (.slc 4 0 (kyN l) 4) (.slc 5 0 (kyN l) 4) (.slc 6 0 (kyN l) 4) (.slc 7 0 (kyN l) 4) pw s (O9 pw l (S9 A0.qm l)).1 (O9 pw l (S9 A0.ql l)).1 (O9 pw l (S9 A0.qr l)).1 (O9 pw l (S9 A0.qo l)).1 (O9 pw l (S9 A0.qc l)).1 (O9 pw l (kyW l 0)).1 (O9 pw l (kyW l 1)).1 (O9 pw l (kyW l 2)).1),.c (.int .i64 0)]) [.sq (.fr (S9 A0.qm l)),.sq (.fr (S9 A0.ql l)),.sq (.fr (S9 A0.qr l)),.sq (.fr (S9 A0.qo l)),.sq (.fr (S9 A0.qc l)),.sq (.fr (kyW l 0)),.sq (.fr (kyW l 1)),.sq (.fr (kyW l 2))]:=by
 obtain ⟨e0,e1,e2,e3,e4,e5,e6,e7⟩:=h;exact C4k l p v pw s (kyN l) hr rfl hp e0 e1 e2 e3 e4 e5 e6 e7
def D6w:B2
 | []=>some ([],.v (.c (.bool true)),[])
 | _=>none
def tlA:D6:=tqE.set (E0 tqE.fn 5 D6w)
theorem A2l:A7 Tryz.prog tlA:=A8 WB 5 D6w (A2 Tryz.func5 rfl rfl) fun args o r es h _=>by
 unfold D6w at h;split at h
 ·cases h;exact A6o
 ·cases h
def D7d:B2
 | [.v (.a [.ob (.fr k)]),.v (.c (.int .i64 n))]=>some ([],.t [.a (Du (kzL k n) (kzS k n)),.c (.int .i64 (kzE n))],[])
 | _=>none
def tlB:D6:=tlA.set (E0 tlA.fn 6 D7d)
theorem D6y:A7 Tryz.prog tlB:=A8 A2l 6 D7d (A2 Tryz.func6 rfl rfl) fun args o r es h _=>by
 unfold D7d at h;split at h
 ·cases h;exact B5i _ _
 ·cases h
def D7c:B2
 | [.v (.a [.sl (.gate l),.int .i64 p,.int .i64 v]),.v (.a [.sl (.g1 pw),.ob (.fp xa),.ob (.fp xb),.ob (.fp ya),.ob (.fp yb),.bool i])]=>some ([E9 l p v=true,kyN l+6<=pw.length,B4p pw l],.t [.a (pvF (K7 l) p (.slc 0 0 (kyN l) 4) (.slc 1 0 (kyN l) 4) (.slc 2 0 (kyN l) 4) (.slc 3 0 (kyN l) 4) (.slc 4 0 (kyN l) 4) (.slc 5 0 (kyN l) 4) (.slc 6 0 (kyN l) 4) (.slc 7 0 (kyN l) 4) pw ⟨xa,xb,ya,yb,i⟩ (O9 pw l (S9 A0.qm l)).1 (O9 pw l (S9 A0.ql l)).1 (O9 pw l (S9 A0.qr l)).1 (O9 pw l (S9 A0.qo l)).1 (O9 pw l (S9 A0.qc l)).1 (O9 pw l (kyW l 0)).1 (O9 pw l (kyW l 1)).1 (O9 pw l (kyW l 2)).1),.c (.int .i64 0)],[.sq (.fr (S9 A0.qm l)),.sq (.fr (S9 A0.ql l)),.sq (.fr (S9 A0.qr l)),.sq (.fr (S9 A0.qo l)),.sq (.fr (S9 A0.qc l)),.sq (.fr (kyW l 0)),.sq (.fr (kyW l 1)),.sq (.fr (kyW l 2))])
 | _=>none
def tlC:D6:=tlB.set (E0 tlB.fn 7 D7c)
theorem D6z:A7 Tryz.prog tlC:=A8 D6y 7 D7c (A2 Tryz.func7 rfl rfl) fun args o r es h ho=>by
 unfold D7c at h;split at h
 ·cases h;exact B4o _ _ _ _ ⟨_,_,_,_,_⟩ ho.1 ho.2.1 ho.2.2.1
 ·cases h
def D6x:B2
 | [.v (.c (.sl (.fr l))),.v (.c (.rp (.dm [(log,w)]) 0 0)),.v (.c (.rp (.fr [k]) 0 0))]=>some ([S4.G7 log w=true,l.length=2 ^ log.toNat],.v (.a (gF (UB log w k l (2 ^ log.toNat))).its),[])
 | _=>none
def tlD:D6:=tlC.set (E0 tlC.fn 9 D6x)
theorem D7a:A7 Tryz.prog tlD:=A8 D6z 9 D6x (A2 Tryz.func9 rfl rfl) fun args o r es h ho=>by
 unfold D6x at h;split at h
 ·cases h;exact D0x _ _ _ _ ho.1 ho.2.1
 ·cases h
def C1f:B2
 | [.v (.a [.sl (.gate l),.int .i64 p,.int .i64 v])]=>some ([E9 l p v=false],.t [.c (.int .i64 0),.c (.int .i64 1)],[])
 | _=>none
def tlF:D6:=tlA.set (E0 tlA.fn 4 C1f)
theorem D7b:A7 Tryz.prog tlF:=A8 A2l 4 C1f (A2 Tryz.func4 rfl rfl) fun args o r es h ho=>by
 unfold C1f at h;split at h
 ·cases h;exact B0g _ _ _ ho.1
 ·cases h
def C1g:B2
 | [.v (.a [.sl (.gate l),.int .i64 p,.int .i64 v])]=>some ([E9 l p v=true],.t [.c (.int .i64 (K7 l)),.c (.int .i64 0)],[])
 | _=>none
def tlT:D6:=tlD.set (E0 tlD.fn 4 C1g)
theorem C1i:A7 Tryz.prog tlT:=A8 D7a 4 C1g (A2 Tryz.func4 rfl rfl) fun args o r es h ho=>by
 unfold C1g at h;split at h
 ·cases h;exact Uh _ _ _ ho.1
 ·cases h
def tlS(l:List A0)(p v :Int)(k:U4):St:=B0 115 [2,3] [.pt 16 0,.pt 32 0] [16,32] [some (.fl [.sl (.gate l),.int .i64 p,.int .i64 v]),(B9 [.ob (.fr k)])] 208 [] []
def A6h:List KI:=(run tlA false 18 (⟨[.code (B5 Tryz.f3)],.normal,D2 Tryz.f3.ntmps [W4 dF dF dF,.v (.a [.ob (.fr dF)])]⟩:G5) []).cfg.k
theorem tl0(l:List A0)(p v:Int)(k:U4):let c:Int:=l.length;let b:=ite ((8:Int)<c) (8:Int) c;A5 [(0<=b),(b<=c)]->Sg Tryz.prog (D2 Tryz.f3.ntmps [W4 l p v,.v (.a [.ob (.fr k)])]) (tlS (List.take (b).toNat (List.drop 0 l)) p v k) .normal (A6h) ([.code (B5 Tryz.f3)]):=E4 false 18 [] A2l
theorem C1e(l:List A0)(p v:Int)(k:U4):E2 tlF Tryz.f3 false 3000 (⟨A6h,.normal,tlS l p v k⟩) [true] [] []=(some ([((E9 l p v)=false),(((1:Int) != (0:Int))=true)],((.ci (.bool true)),[]))):=by kernel_rfl
def C1h:List KI:=(run tlT false 64 (⟨A6h,.normal,tlS dF dF dF dF⟩:G5) [false,false,false,false]).cfg.k
theorem E6s(l:List A0)(p v:Int)(k:U4):let a:=kzL k (tlN l);let b:=((0:Int) != (0:Int))=false;let c:=kyN l;let d:=K7 l;let f:=(E9 l p v)=true;let g:=S9 A0.qm l;let h:=S9 A0.ql l;let i:=S9 A0.qr l;let j:=S9 A0.qo l;let m:=S9 A0.qc l;A5 [f,b,(0<=d),f,((c+6)<=a.length),(B4p a l),((S4.O6 d)=true),(((kzE (tlN l)) != (0:Int))=false),b,b]->Sg Tryz.prog (tlS l p v k) (B0 115 [5,9,13] [.ii d,.pt 624 0,(.ci (.clo 9 [(752,0),(32,0)]))] [32,560,561,562,563,564,565,566,567,624,752] [(B9 [.ob (.fr k)]),(D9 (.fr g)),(D9 (.fr h)),(D9 (.fr i)),(D9 (.fr j)),(D9 (.fr m)),(D9 (.fr (kyW l 0))),(D9 (.fr (kyW l 1))),(D9 (.fr (kyW l 2))),(B9 (pvF d p (.slc 560 0 c 4) (.slc 561 0 c 4) (.slc 562 0 c 4) (.slc 563 0 c 4) (.slc 564 0 c 4) (.slc 565 0 c 4) (.slc 566 0 c 4) (.slc 567 0 c 4) a (kzS k (tlN l)) (Prod.fst (O9 a l g)) (Prod.fst (O9 a l h)) (Prod.fst (O9 a l i)) (Prod.fst (O9 a l j)) (Prod.fst (O9 a l m)) (Prod.fst (O9 a l (kyW l 0))) (Prod.fst (O9 a l (kyW l 1))) (Prod.fst (O9 a l (kyW l 2))))),(B9 [(.int .i64 d),(.ob (.fr (S4.I4 d)))])] 992 [] []) .normal (C1h) (A6h):=E4 false 64 [false,false,false,false] C1i
def tlP(l:List A0)(p :Int)(k:U4)(pw:List G0)(s:K5):St:=B0 115 [5,9,13] [.ii (K7 l),.pt 624 0,(.ci (.clo 9 [(752,0),(32,0)]))] [32,560,561,562,563,564,565,566,567,624,752] [(B9 [.ob (.fr k)]),(D9 (.fr (S9 A0.qm l))),(D9 (.fr (S9 A0.ql l))),(D9 (.fr (S9 A0.qr l))),(D9 (.fr (S9 A0.qo l))),(D9 (.fr (S9 A0.qc l))),(D9 (.fr (kyW l 0))),(D9 (.fr (kyW l 1))),(D9 (.fr (kyW l 2))),some (.fl (pvF (K7 l) p (.slc 560 0 (kyN l) 4) (.slc 561 0 (kyN l) 4) (.slc 562 0 (kyN l) 4) (.slc 563 0 (kyN l) 4) (.slc 564 0 (kyN l) 4) (.slc 565 0 (kyN l) 4) (.slc 566 0 (kyN l) 4) (.slc 567 0 (kyN l) 4) pw s (tlG k l (S9 A0.qm l)) (tlG k l (S9 A0.ql l)) (tlG k l (S9 A0.qr l)) (tlG k l (S9 A0.qo l)) (tlG k l (S9 A0.qc l)) (tlG k l (kyW l 0)) (tlG k l (kyW l 1)) (tlG k l (kyW l 2)))),(B9 [(.int .i64 (K7 l)),(.ob (.fr (S4.I4 (K7 l))))])] 992 [] []
theorem C9f(l:List A0)(p:Int)(k:U4)(pw:List G0)(s:K5):let c:Int:=5;let d:Int:=3;let f:=K7 l;let b:=(S4.G7 f (S4.I4 f))=true;let g:Int:=1;let h:Int:=2;let i:=0<=(0:Int);let j:=kyN l;let a:=(((j:Nat):Int) != (wrap .i64 (g*(h ^ (Min.min (f).toNat 64)))))=false;let m:=S9 A0.qm l;let n:=S9 A0.ql l;let o:=S9 A0.qr l;let q:=S9 A0.qo l;let r:=S9 A0.qc l;let t:Int:=4;let u:=kyW l 0;let v:=kyW l 1;let w:=kyW l 2;E2 tlT Tryz.f3 true 3000 (⟨C1h,.normal,tlP l p k pw s⟩) [true,false,false,true,false,false,true,false,false,true,false,false,true,false,false,false,true,false,false,true,false,false,true,false,false,false] [] []=(some ([((decide (0<c))=true),i,(0<c),(0<=f),a,i,(0<c),i,(0<c),(0=0),(j=m.length),(4=4),b,(m.length=(2 ^ (f).toNat)),((neG (tlG k l m) (tlG k l m))=false),((decide (g<c))=true),(0<=g),(g<c),(0<=f),a,(0<=g),(g<c),(0<=g),(g<c),(0=0),(j=n.length),(4=4),b,(n.length=(2 ^ (f).toNat)),((neG (tlG k l n) (tlG k l n))=false),((decide (h<c))=true),(0<=h),(h<c),(0<=f),a,(0<=h),(h<c),(0<=h),(h<c),(0=0),(j=o.length),(4=4),b,(o.length=(2 ^ (f).toNat)),((neG (tlG k l o) (tlG k l o))=false),((decide (d<c))=true),(0<=d),(d<c),(0<=f),a,(0<=d),(d<c),(0<=d),(d<c),(0=0),(j=q.length),(4=4),b,(q.length=(2 ^ (f).toNat)),((neG (tlG k l q) (tlG k l q))=false),((decide (t<c))=true),(0<=t),(t<c),(0<=f),a,(0<=t),(t<c),(0<=t),(t<c),(0=0),(j=r.length),(4=4),b,(r.length=(2 ^ (f).toNat)),((neG (tlG k l r) (tlG k l r))=false),((decide (c<c))=false),((decide (0<d))=true),i,(0<d),(0<=f),a,i,(0<d),i,(0<d),(0=0),(j=u.length),(4=4),b,(u.length=(2 ^ (f).toNat)),((neG (tlG k l u) (tlG k l u))=false),((decide (g<d))=true),(0<=g),(g<d),(0<=f),a,(0<=g),(g<d),(0<=g),(g<d),(0=0),(j=v.length),(4=4),b,(v.length=(2 ^ (f).toNat)),((neG (tlG k l v) (tlG k l v))=false),((decide (h<d))=true),(0<=h),(h<d),(0<=f),a,(0<=h),(h<d),(0<=h),(h<d),(0=0),(j=w.length),(4=4),b,(w.length=(2 ^ (f).toNat)),((neG (tlG k l w) (tlG k l w))=false),((decide (d<d))=false)],((.ci (.bool true)),[]))):=by intros;kernel_rfl
end
end
section
theorem C9e(l:List A0)(p v:Int)(hr:E9 l p v=true)(h8:l.length<=8):l.length<=4096∧0<=K7 l∧wrap .i64 ((1:Int)*((2:Int) ^ (min (K7 l).toNat 64)))=(kyN l:Int)∧tlN l=((kyN l+6:Nat):Int)∧S4.O6 (K7 l)=true∧S4.G7 (K7 l) (S4.I4 (K7 l))=true∧kyN l<=8∧l.length<=kyN l:=by
 have hlim:l.length<=4096:=by omega
 obtain ⟨a1,a2,a3,a4⟩:=HH l.length hlim;have hlg:(K7 l).toNat=Az l.length:=rfl;have a5:Az l.length<=3:=by
  rcases a4 with a4 | a4
  ·omega
  ·by_cases h:Az l.length<=3
   ·exact h
   ·have:2 ^ 3<=2 ^ (Az l.length-1):=Nat.pow_le_pow_right A4 (by omega)
    omega
 have hok:S4.O6 (K7 l)=true:=by unfold S4.O6 K7;rw[decide_eq_true (Int.natCast_nonneg _),decide_eq_true (by omega)];rfl
 have h6:kyN l<=8:=by unfold kyN;rw[hlg];exact Nat.le_trans (Nat.pow_le_pow_right A4 a5) A4
 have h1:l.length<=kyN l:=by unfold kyN;rw[hlg];exact a3
 have hw:wrap .i64 ((1:Int)*((2:Int) ^ (min (K7 l).toNat 64)))=(kyN l:Int):=S4.C8o (Int.natCast_nonneg _) (by unfold K7;omega)
 refine ⟨hlim,Int.natCast_nonneg _,hw,?_,hok,by simp [S4.G7,hok],h6,h1⟩
 show wrap .i64 (wrap .i64 (1*2 ^ min (K7 l).toNat 64)+6)=_;rw[hw,A9 (by omega) (by omega)]
 omega
set_option maxRecDepth 100000 in
theorem Wm(l:List A0)(p v:Int)(k:U4):K2 Tryz.prog 3 [W4 l p v,.v (.a [.ob (.fr k)])] (.v (.c (.bool true))) []:=by
 refine H2 (fn:=Tryz.f3) (c:=B5 Tryz.f3) Tryz.func3 rfl rfl fun x b hk hF hs=>?_
 refine tl0 l p v k ⟨by split<;>omega,by split<;>omega,C4⟩ hs fun ac cY aY hs1=>?_
 have h8:(List.take (ite ((8:Int)<(l.length:Int)) (8:Int) (l.length:Int)).toNat (List.drop 0 l)).length<=8:=by
  rw[List.length_take];refine Nat.le_trans (Nat.min_le_left _ _) ?_
  split<;>omega
 generalize List.take (ite ((8:Int)<(l.length:Int)) (8:Int) (l.length:Int)).toNat (List.drop 0 l)=l' at hs1 h8;clear hs;have hs1:Sim x.w x.F AD ac (tlS l' p v k) cY aY:=hs1
 cases hr:E9 l' p v with
 | false=>exact H4 D7b hk hF (C1e l' p v k) ⟨hr,rfl,C4⟩ (fun y v hd=>hd) hs1
 | true=>
  obtain ⟨a1,a2,a3,a4,a5,a6,a7,a8⟩:=C9e l' p v hr h8;have hN:kyN l' = 2 ^ (K7 l').toNat:=rfl;have m0:(S9 A0.qm l').length=2 ^ (K7 l').toNat:=L8 _ _ a8;have g0:kyN l' = (S9 A0.qm l').length:=m0.symm;have c0:O9 (kzL k (tlN l')) l' (S9 A0.qm l')=(tlG k l' (S9 A0.qm l'),0):=by rw[a4];exact Gm k a6 (S9 A0.qm l') m0 (n:=kyN l' + 6) (by omega) (by omega)
  have n0:=Bf (tlG k l' (S9 A0.qm l'));have m1:(S9 A0.ql l').length=2 ^ (K7 l').toNat:=L8 _ _ a8;have g1:kyN l' = (S9 A0.ql l').length:=m1.symm;have c1:O9 (kzL k (tlN l')) l' (S9 A0.ql l')=(tlG k l' (S9 A0.ql l'),0):=by rw[a4];exact Gm k a6 (S9 A0.ql l') m1 (n:=kyN l' + 6) (by omega) (by omega)
  have n1:=Bf (tlG k l' (S9 A0.ql l'));have m2:(S9 A0.qr l').length=2 ^ (K7 l').toNat:=L8 _ _ a8;have g2:kyN l' = (S9 A0.qr l').length:=m2.symm;have c2:O9 (kzL k (tlN l')) l' (S9 A0.qr l')=(tlG k l' (S9 A0.qr l'),0):=by rw[a4];exact Gm k a6 (S9 A0.qr l') m2 (n:=kyN l' + 6) (by omega) (by omega)
  have n2:=Bf (tlG k l' (S9 A0.qr l'));have m3:(S9 A0.qo l').length=2 ^ (K7 l').toNat:=L8 _ _ a8;have g3:kyN l' = (S9 A0.qo l').length:=m3.symm;have c3:O9 (kzL k (tlN l')) l' (S9 A0.qo l')=(tlG k l' (S9 A0.qo l'),0):=by rw[a4];exact Gm k a6 (S9 A0.qo l') m3 (n:=kyN l' + 6) (by omega) (by omega)
  have n3:=Bf (tlG k l' (S9 A0.qo l'));have m4:(S9 A0.qc l').length=2 ^ (K7 l').toNat:=L8 _ _ a8;have g4:kyN l' = (S9 A0.qc l').length:=m4.symm;have c4:O9 (kzL k (tlN l')) l' (S9 A0.qc l')=(tlG k l' (S9 A0.qc l'),0):=by rw[a4];exact Gm k a6 (S9 A0.qc l') m4 (n:=kyN l' + 6) (by omega) (by omega)
  have n4:=Bf (tlG k l' (S9 A0.qc l'));have m5:(kyW l' 0).length=2 ^ (K7 l').toNat:=S4.Y7 ..;have g5:kyN l' = (kyW l' 0).length:=m5.symm;have c5:O9 (kzL k (tlN l')) l' (kyW l' 0)=(tlG k l' (kyW l' 0),0):=by rw[a4];exact Gm k a6 (kyW l' 0) m5 (n:=kyN l' + 6) (by omega) (by omega)
  have n5:=Bf (tlG k l' (kyW l' 0));have m6:(kyW l' 1).length=2 ^ (K7 l').toNat:=S4.Y7 ..;have g6:kyN l' = (kyW l' 1).length:=m6.symm;have c6:O9 (kzL k (tlN l')) l' (kyW l' 1)=(tlG k l' (kyW l' 1),0):=by rw[a4];exact Gm k a6 (kyW l' 1) m6 (n:=kyN l' + 6) (by omega) (by omega)
  have n6:=Bf (tlG k l' (kyW l' 1));have m7:(kyW l' 2).length=2 ^ (K7 l').toNat:=S4.Y7 ..;have g7:kyN l' = (kyW l' 2).length:=m7.symm;have c7:O9 (kzL k (tlN l')) l' (kyW l' 2)=(tlG k l' (kyW l' 2),0):=by rw[a4];exact Gm k a6 (kyW l' 2) m7 (n:=kyN l' + 6) (by omega) (by omega)
  have n7:=Bf (tlG k l' (kyW l' 2));have hE:(kzE (tlN l') != 0)=false:=by rw[a4];unfold kzE;rw[if_neg (by omega)];rfl
  have hL:kyN l' + 6<=(kzL k (tlN l')).length:=by rw[a4,B4z k (by omega) (by omega)];exact Nat.le_refl _
  have hne:(((kyN l' : Nat):Int) != wrap .i64 ((1:Int)*((2:Int) ^ (min (K7 l').toNat 64))))=false:=by rw[a3];simp
  refine E6s l' p v k ⟨hr,rfl,a2,hr,hL,⟨congrArg Prod.snd c0,congrArg Prod.snd c1,congrArg Prod.snd c2,congrArg Prod.snd c3,congrArg Prod.snd c4,congrArg Prod.snd c5,congrArg Prod.snd c6,congrArg Prod.snd c7⟩,a5,hE,rfl,rfl,C4⟩ hs1 fun ac cZ aZ hs2=>?_
  rw[c0,c1,c2,c3,c4,c5,c6,c7] at hs2;have hs3:Sim x.w x.F AD ac (tlP l' p k (kzL k (tlN l')) (kzS k (tlN l'))) cZ aZ:=hs2;exact H4 C1i hk hF (C9f l' p k _ _) (by simp only[A5];and_intros<;>first | with_reducible assumption | with_reducible exact rfl | exact trivial | decide) (fun y v hd=>hd) hs3
end
end
end Go.Proofs.YtifiiigbedjceaaGreat
