/- Parts of a proof, one behind the other: WKy, PKy, WCl, PCl, WLw, PLw. No conditions. -/
import Derived.Test.YtifiiigbedjceaaSkR
open Go.IntKind (wrap)
namespace Go.Proofs.Ytifiiigbedjceaa
noncomputable section
section
section
variable {w0:World} {F0:Nat->Prop} {K:Kp} {ac:List Act} {Q:Exit->Act->World->Prop} {cX:Ctx} {aX:Act}

/-- The parts of what a verifier needs, of what a prover needs. -/
instance:Inhabited G1D:=⟨⟨0,0,false⟩⟩
instance:Inhabited G2D:=⟨⟨0,0,0,0,false⟩⟩
abbrev nlI:It:=.val (.slice none 0 0)
def B2u (pw : List G1D) (s : G2D) : List It := [.sl (.g1 pw), .ob (.fp (G2D.xa s)), .ob (.fp (G2D.xb s)), .ob (.fp (G2D.ya s)), .ob (.fp (G2D.yb s)), .bool (G2D.inf s)] -- @lst
def pvZ  : List It := [.int .i64 0, .int .i64 0, .val (.slice none 0 0), .val (.slice none 0 0), .val (.slice none 0 0), .val (.slice none 0 0), .val (.slice none 0 0), .val (.slice none 0 0), .val (.slice none 0 0), .val (.slice none 0 0), .sl (.g1 []), .ob (.fp 0), .ob (.fp 0), .ob (.fp 0), .ob (.fp 0), .lit false, .int .i64 0, .int .i64 0, .ob (.fp 0), .ob (.fp 0), .lit false, .ob (.fp 0), .ob (.fp 0), .lit false, .ob (.fp 0), .ob (.fp 0), .lit false, .ob (.fp 0), .ob (.fp 0), .lit false, .ob (.fp 0), .ob (.fp 0), .lit false, .ob (.fp 0), .ob (.fp 0), .lit false, .ob (.fp 0), .ob (.fp 0), .lit false, .ob (.fp 0), .ob (.fp 0), .lit false, .ob (.fp 0), .ob (.fp 0), .ob (.fp 0), .ob (.fp 0), .lit false] -- @lst
def pvO (lg p : Int) (q0 q1 q2 q3 q4 : It) (pw : List G1D) (s : G2D) : List It := [.int .i64 lg, .int .i64 p, q0, q1, q2, q3, q4, .val (.slice none 0 0), .val (.slice none 0 0), .val (.slice none 0 0), .sl (.g1 pw), .ob (.fp (G2D.xa s)), .ob (.fp (G2D.xb s)), .ob (.fp (G2D.ya s)), .ob (.fp (G2D.yb s)), .bool (G2D.inf s), .int .i64 lg, .int .i64 p, .ob (.fp 0), .ob (.fp 0), .lit false, .ob (.fp 0), .ob (.fp 0), .lit false, .ob (.fp 0), .ob (.fp 0), .lit false, .ob (.fp 0), .ob (.fp 0), .lit false, .ob (.fp 0), .ob (.fp 0), .lit false, .ob (.fp 0), .ob (.fp 0), .lit false, .ob (.fp 0), .ob (.fp 0), .lit false, .ob (.fp 0), .ob (.fp 0), .lit false, .ob (.fp (G2D.xa s)), .ob (.fp (G2D.xb s)), .ob (.fp (G2D.ya s)), .ob (.fp (G2D.yb s)), .bool (G2D.inf s)] -- @lst
def pvF (lg p : Int) (q0 q1 q2 q3 q4 s0 s1 s2 : It) (pw : List G1D) (s : G2D) (g0 g1 g2 g3 g4 g5 g6 g7 : G1D) : List It := [.int .i64 lg, .int .i64 p, q0, q1, q2, q3, q4, s0, s1, s2, .sl (.g1 pw), .ob (.fp (G2D.xa s)), .ob (.fp (G2D.xb s)), .ob (.fp (G2D.ya s)), .ob (.fp (G2D.yb s)), .bool (G2D.inf s), .int .i64 lg, .int .i64 p, .ob (.fp (G1D.x g0)), .ob (.fp (G1D.y g0)), .bool (G1D.inf g0), .ob (.fp (G1D.x g1)), .ob (.fp (G1D.y g1)), .bool (G1D.inf g1), .ob (.fp (G1D.x g2)), .ob (.fp (G1D.y g2)), .bool (G1D.inf g2), .ob (.fp (G1D.x g3)), .ob (.fp (G1D.y g3)), .bool (G1D.inf g3), .ob (.fp (G1D.x g4)), .ob (.fp (G1D.y g4)), .bool (G1D.inf g4), .ob (.fp (G1D.x g5)), .ob (.fp (G1D.y g5)), .bool (G1D.inf g5), .ob (.fp (G1D.x g6)), .ob (.fp (G1D.y g6)), .bool (G1D.inf g6), .ob (.fp (G1D.x g7)), .ob (.fp (G1D.y g7)), .bool (G1D.inf g7), .ob (.fp (G2D.xa s)), .ob (.fp (G2D.xb s)), .ob (.fp (G2D.ya s)), .ob (.fp (G2D.yb s)), .bool (G2D.inf s)] -- @lst
def lgI (l:List A1):Int:=(A0h l.length:Int)
def cfV (log:Int) (w s:U4) (l:List U4):List U4:=(S4.C4r (2 ^ log.toNat) (S4.inF w) (S4.inF s) (l.map S4.inF)).map S4.I8
abbrev kyV (l:List A1) (R:List U4):List U4:=cfV (lgI l) (S4.D2 (lgI l)) (S4.smF 1) R
abbrev kyC (pw:List G1D) (l:List A1) (R:List U4):G1D×Int:=cmt pw (kyV l R)
theorem D6m (log:Int) (w s:U4) (l:List U4) (hd:S4.E9 log w=true) (hl:l.length=2 ^ log.toNat) (hs0:S4.inF s≠0):FnD Try.prog 10 [.v (.a [.int .i64 log,.ob (.fr w)]),.v (.a [.ob (.fr s)]),.v (.c (.sl (.fr l)))] (.t [.c (.slc 0 0 (cfV log w s l).length 4),.c (.int .i64 0)]) [.sq (.fr (cfV log w s l))]:=by
 unfold cfV;rw[List.length_map,S4.B7c];exact S4.D9m log w s l hd hl hs0
theorem C3w (l:List A1) (p v:Int) (h:C6 l p v=true):FnD Try.prog 6 [J2 l p v] (.t [.c (.int .i64 (lgI l)),.c (.int .i64 0)]) []:=by
 have r:=D1n l p v;unfold C3u at r;rw[if_pos h] at r;exact r
theorem C3v (l:List A1) (p v:Int) (h:C6 l p v=false):FnD Try.prog 6 [J2 l p v] (.t [.c (.int .i64 0),.c (.int .i64 1)]) []:=by
 have r:=D1n l p v;unfold C3u at r;rw[if_neg (by rw[h];decide)] at r
 exact r
theorem E7z (log:Int) (h:S4.K0 log=true):FnD Try.prog 8 [.v (.c (.int .i64 log))] (.t [.a [.int .i64 log,.ob (.fr (S4.D2 log))],.c (.int .i64 0)]) []:=by
 have r:=S4.D7l log;unfold S4.E1a at r;rw[if_pos h,if_pos h] at r;exact r
def keA:Env:=S4.vB.or koB
theorem F9t:A6 Try.prog keA:=C4x S4.Q7 D3w
def E5n:B7
 | [.v (.c (.int .i64 log))]=>some ([S4.K0 log=true],.t [.a [.int .i64 log,.ob (.fr (S4.D2 log))],.c (.int .i64 0)],[])
 | _=>none
def keB:Env:=keA.set (E8 keA.fn 8 E5n)
theorem F9u:A6 Try.prog keB:=A9 F9t 8 E5n (A4 Try.func8 rfl rfl) fun args o r es h ho=>by
 unfold E5n at h;split at h
 ·cases h;exact E7z _ ho.1
 ·cases h
def G0b:B7
 | [.v (.a [.int .i64 log,.ob (.fr w)]),.v (.a [.ob (.fr s)]),.v (.c (.sl (.fr l)))]=>some ([S4.E9 log w=true,l.length=2 ^ log.toNat,S4.inF s≠0],.t [.c (.slc 0 0 (cfV log w s l).length 4),.c (.int .i64 0)],[.sq (.fr (cfV log w s l))])
 | _=>none
def keC:Env:=keB.set (E8 keB.fn 10 G0b)
theorem F9v:A6 Try.prog keC:=A9 F9u 10 G0b (A4 Try.func10 rfl rfl) fun args o r es h ho=>by
 unfold G0b at h;split at h
 ·cases h;exact D6m _ _ _ _ ho.1 ho.2.1 ho.2.2.1
 ·cases h
def G0c:B7
 | [.v (.a [.sl (.g1 l),.ob (.fp xa),.ob (.fp xb),.ob (.fp ya),.ob (.fp yb),.bool i]),.v (.c (.sl (.fr a)))]=>some ([a.length<=262144],.t [.a (cmt l a).1.its,.c (.int .i64 (cmt l a).2)],[])
 | _=>none
def keD:Env:=keC.set (E8 keC.fn 11 G0c)
theorem F9w:A6 Try.prog keD:=A9 F9v 11 G0c (A4 Try.func11 rfl rfl) fun args o r es h ho=>by
 unfold G0c at h;split at h
 ·cases h;exact D2v _ ⟨_,_,_,_,_⟩ _ ho.1
 ·cases h
def G0e:B7
 | [.v (.a [.sl (.gate l),.int .i64 p,.int .i64 v]),.v (.c (.int .i64 log))]=>some ([C6 l p v=true,S4.K0 log=true,l.length<=S4.vlN log,l.length<=4096],.t [.a [.slc 0 0 (S4.vaR l log 0).length 4,.slc 1 0 (S4.vaR l log 1).length 4,.slc 2 0 (S4.vaR l log 2).length 4],.c (.int .i64 0)],[.sq (.fr (S4.vaR l log 0)),.sq (.fr (S4.vaR l log 1)),.sq (.fr (S4.vaR l log 2))])
 | _=>none
def keE:Env:=keD.set (E8 keD.fn 12 G0e)
theorem D3v:A6 Try.prog keE:=A9 F9w 12 G0e (A4 Try.func12 rfl rfl) fun args o r es h ho=>by
 unfold G0e at h;split at h
 ·cases h;exact (by rw[S4.H8,S4.H8,S4.H8];exact S4.D6a _ _ _ _ ho.1 ho.2.1 ho.2.2.1 ho.2.2.2.1)
 ·cases h
theorem G5j (a b c d e:U4) (x y z:Int):C9 keE Try.f16 3000 [.v (.a [.ob (.fr a),.ob (.fr b),.ob (.fr c),.ob (.fr d),.ob (.fr e),.int .i64 x,.int .i64 y,.int .i64 z])] [] [] []=(some ([],((.v (.a [.ob (.fr a),.ob (.fr b),.ob (.fr c),.ob (.fr d),.ob (.fr e)])),[]))):=by kernel_rfl
def G0d:B7
 | [.v (.a [.ob (.fr a),.ob (.fr b),.ob (.fr c),.ob (.fr d),.ob (.fr e),.int .i64 x,.int .i64 y,.int .i64 z])]=>some ([],.v (.a [.ob (.fr a),.ob (.fr b),.ob (.fr c),.ob (.fr d),.ob (.fr e)]),[])
 | _=>none
def keG:Env:=keE.set (E8 keE.fn 16 G0d)
theorem F9y:A6 Try.prog keG:=A9 D3v 16 G0d (A4 Try.func16 rfl rfl) fun args o r es h _=>by
 unfold G0d at h;split at h
 ·cases h;exact A7 D3v Try.func16 (G5j _ _ _ _ _ _ _ _) trivial
 ·cases h
def keH:Env:=keG.join 17 Try.f17
theorem E5g:A6 Try.prog keH:=C8t F9y Try.func17 (A4 Try.func17 rfl rfl)
def E5p:B7
 | [.v (.a [.sl (.gate l),.int .i64 p,.int .i64 v])]=>some ([C6 l p v=false],.t [.c (.int .i64 0),.c (.int .i64 1)],[])
 | _=>none
def keF:Env:=keH.set (E8 keH.fn 6 E5p)
theorem F9x:A6 Try.prog keF:=A9 E5g 6 E5p (A4 Try.func6 rfl rfl) fun args o r es h ho=>by
 unfold E5p at h;split at h
 ·cases h;exact C3v _ _ _ ho.1
 ·cases h
def E5q:B7
 | [.v (.a [.sl (.gate l),.int .i64 p,.int .i64 v])]=>some ([C6 l p v=true],.t [.c (.int .i64 (lgI l)),.c (.int .i64 0)],[])
 | _=>none
def keT:Env:=keH.set (E8 keH.fn 6 E5q)
theorem I6:A6 Try.prog keT:=A9 E5g 6 E5q (A4 Try.func6 rfl rfl) fun args o r es h ho=>by
 unfold E5q at h;split at h
 ·cases h;exact C3w _ _ _ ho.1
 ·cases h
theorem G9d (l:List A1) (p v:Int) (pw:List G1D) (s:G2D):C9 keF Try.f5 3000 [J2 l p v,.v (.a (P6 pw s))] [true] [] []=(some ([((C6 l p v)=false),(((1:Int) != (0:Int))=true)],((.t [(.a (pvZ)),(.c (.int .i64 (1:Int)))]),[]))):=by kernel_rfl
theorem G9e (l:List A1) (p v:Int) (pw:List G1D) (s:G2D):C9 keT Try.f5 3000 [J2 l p v,.v (.a (P6 pw s))] [false,true] [] []=(some ([((C6 l p v)=true),(((0:Int) != (0:Int))=false),(0<=(lgI l)),((decide ((wrap .i64 ((wrap .i64 ((1:Int)*((2:Int) ^ (Min.min ((lgI l)).toNat 64))))+(6:Int))) > (pw.length:Int)))=true)],((.t [(.a (pvZ)),(.c (.int .i64 (50:Int)))]),[]))):=by kernel_rfl
def X4:List KI:=(run keT false 3000 (⟨[.code (B2 Try.f5)],.normal,D6 Try.f5.ntmps [J2 dF dF dF,.v (.a (P6 dF dF))]⟩:Cfg) [false,false]).cfg.k
theorem ky (l:List A1) (p v:Int) (pw:List G1D) (s:G2D):let c:=lgI l;let b:=wrap .i64 ((1:Int)*((2:Int) ^ (Min.min (c).toNat 64)));let d:Int:=0;A3 [((C6 l p v)=true),((d != d)=false),(0<=c),((decide ((wrap .i64 (b+(6:Int))) > (pw.length:Int)))=false)]->Sg Try.prog (D6 Try.f5.ntmps [J2 l p v,.v (.a (P6 pw s))]) (A5 127 [2,3,4,6,7,8,9,48] [.pt 16 0,.pt 32 0,.pt 48 0,.ii c,.pt 160 0,(.ii b),.pt 560 0,.ii d] [16,32,48,160,560] [(eF_ [(.sl (.gate l)),(.int .i64 p),(.int .i64 v)]),(eF_ (B2u pw s)),(eF_ (pvZ)),(eF_ [(.int .i64 d)]),(eF_ (pvO c p nlI nlI nlI nlI nlI pw s))] 608 [] []) .normal (X4) ([.code (B2 Try.f5)]):=sgA false 3000 [false,false] I6
def pvP (lg p : Int) (q0 q1 q2 q3 q4 s0 s1 s2 : It) (pw : List G1D) (s : G2D) : List It := [.int .i64 lg, .int .i64 p, q0, q1, q2, q3, q4, s0, s1, s2, .sl (.g1 pw), .ob (.fp (G2D.xa s)), .ob (.fp (G2D.xb s)), .ob (.fp (G2D.ya s)), .ob (.fp (G2D.yb s)), .bool (G2D.inf s), .int .i64 lg, .int .i64 p, .ob (.fp 0), .ob (.fp 0), .lit false, .ob (.fp 0), .ob (.fp 0), .lit false, .ob (.fp 0), .ob (.fp 0), .lit false, .ob (.fp 0), .ob (.fp 0), .lit false, .ob (.fp 0), .ob (.fp 0), .lit false, .ob (.fp 0), .ob (.fp 0), .lit false, .ob (.fp 0), .ob (.fp 0), .lit false, .ob (.fp 0), .ob (.fp 0), .lit false, .ob (.fp (G2D.xa s)), .ob (.fp (G2D.xb s)), .ob (.fp (G2D.ya s)), .ob (.fp (G2D.yb s)), .bool (G2D.inf s)] -- @lst
def E5o (l:List A1) (p v :Int) (pw:List G1D) (s:G2D) (N:Nat):St:=A5 127 [2,3,4,6,7,8,9,48] [.pt 16 0,.pt 32 0,.pt 48 0,.ii (lgI l),.pt 160 0,.v (.c (.int .i64 (N:Int))),.pt 560 0,.ii (0:Int)] [16,32,48,160,560] [(eF_ [(.sl (.gate l)),(.int .i64 p),(.int .i64 v)]),(eF_ (B2u pw s)),(eF_ (pvZ)),(eF_ [(.int .i64 (0:Int))]),(eF_ (pvO (lgI l) p nlI nlI nlI nlI nlI pw s))] 608 [] []
def E0c (l:List A1) (p v :Int) (pw:List G1D) (s:G2D) (N:Nat) (R:List U4) (i :Int):St:=A5 127 [2,3,4,6,7,8,9,10,48,57,58,59] [.pt 16 0,.pt 32 0,.pt 48 0,.ii (lgI l),.pt 160 0,(.ii ((N:Nat):Int)),.pt 560 0,.ii (0:Int),.ii (0:Int),(.ci (.sl (.gate l))),(.ii (l.length:Int)),.v (.c (.int .i64 i))] [16,32,48,160,560,688] [(eF_ [(.sl (.gate l)),(.int .i64 p),(.int .i64 v)]),(eF_ (B2u pw s)),(eF_ (pvZ)),(eF_ [(.int .i64 (0:Int))]),some (.fl (pvO (lgI l) p (.slc 688 0 N 4) nlI nlI nlI nlI pw s)),some (.sq (.fr R))] 816 [] []
def A8e:List KI:=(run keT false 3000 (⟨B5 X4,.normal,E5o dF dF dF dF dF dF⟩:Cfg) [true]).cfg.k
theorem G8o (l:List A1) (p v:Int) (pw:List G1D) (s:G2D) (N:Nat):let a:Int:=(N:Nat);A3 [((decide (0<(5:Int)))=true),(0<=a),(a=a),(((32:Int)*a)<=(281474976710656:Int)),(a<=(9223372036854775807:Int)),(0<=(0:Int)),(0<(5:Int))]->Sg Try.prog (E5o l p v pw s N) (E0c l p v pw s N (List.replicate N (0:U4)) (0:Int)) .normal (A8e) (B5 X4):=sgA false 3000 [true] I6
section
variable (l:List A1) (p v:Int) (pw:List G1D) (s:G2D) (N:Nat) (R:List U4) (i:Int)
theorem G8t:let a:=i<(l.length:Int);A3 [((decide a)=true),(0<=i),a,(0<=(0:Int)),(0<(5:Int)),(0<=(0:Int)),(0<(5:Int)),(0<=i),(i<((N:Nat):Int)),(0=0),((i).toNat<R.length)]->Sg Try.prog (E0c l p v pw s N R i) (St.z (E0c l p v pw s N (List.set R (i).toNat (S4.I8 (S4.inF (A1.qm (List.getD l (i).toNat F6))))) (wrap .i64 (i+1))) 1152) .normal (D5 A8e) (B5 A8e):=sgA false 3000 [true] I6
def E0h (l:List A1) (p v :Int) (pw:List G1D) (s:G2D) (N:Nat) (R0:List U4):St:=A5 127 [2,3,4,6,7,8,9,48] [.pt 16 0,.pt 32 0,.pt 48 0,.ii (lgI l),.pt 160 0,(.ii ((N:Nat):Int)),.pt 560 0,.ii (1:Int)] [16,32,48,160,560,688] [(eF_ [(.sl (.gate l)),(.int .i64 p),(.int .i64 v)]),(eF_ (B2u pw s)),(eF_ (pvZ)),(eF_ [(.int .i64 (0:Int))]),some (.fl (pvO (lgI l) p (.slc 688 0 N 4) nlI nlI nlI nlI pw s)),some (.sq (.fr R0))] 864 [] []
theorem G8y:A3 [((decide (i<(l.length:Int)))=false)]->Sg Try.prog (E0c l p v pw s N R i) (E0h l p v pw s N R) .normal (D5 X4) (B5 A8e):=sgA false 3000 [false] I6
def E0d (l:List A1) (p v :Int) (pw:List G1D) (s:G2D) (N:Nat) (R0:List U4) (R:List U4) (i :Int):St:=A5 127 [2,3,4,6,7,8,9,10,48,57,58,59] [.pt 16 0,.pt 32 0,.pt 48 0,.ii (lgI l),.pt 160 0,(.ii ((N:Nat):Int)),.pt 560 0,.ii (1:Int),.ii (1:Int),(.ci (.sl (.gate l))),(.ii (l.length:Int)),.v (.c (.int .i64 i))] [16,32,48,160,560,688,944] [(eF_ [(.sl (.gate l)),(.int .i64 p),(.int .i64 v)]),(eF_ (B2u pw s)),(eF_ (pvZ)),(eF_ [(.int .i64 (0:Int))]),some (.fl (pvO (lgI l) p (.slc 688 0 N 4) (.slc 944 0 N 4) nlI nlI nlI pw s)),(eQ_ (.fr R0)),some (.sq (.fr R))] 1072 [] []
def A8f:List KI:=(run keT false 3000 (⟨B5 X4,.normal,E0h dF dF dF dF dF dF dF⟩:Cfg) [true]).cfg.k
end
theorem G8p (l:List A1) (p v:Int) (pw:List G1D) (s:G2D) (N:Nat) (R0:List U4):let a:Int:=(N:Nat);let b:=(1:Int)<(5:Int);A3 [((decide b)=true),(0<=a),(a=a),(((32:Int)*a)<=(281474976710656:Int)),(a<=(9223372036854775807:Int)),(0<=(1:Int)),b]->Sg Try.prog (E0h l p v pw s N R0) (E0d l p v pw s N R0 (List.replicate N (0:U4)) (0:Int)) .normal (A8f) (B5 X4):=sgA false 3000 [true] I6
section
variable (l:List A1) (p v:Int) (pw:List G1D) (s:G2D) (N:Nat) (R0:List U4) (R:List U4) (i:Int)
theorem G8u:let a:Int:=1;let b:=i<(l.length:Int);A3 [((decide b)=true),(0<=i),b,(0<=a),(a<(5:Int)),(0<=a),(a<(5:Int)),(0<=i),(i<((N:Nat):Int)),(0=0),((i).toNat<R.length)]->Sg Try.prog (E0d l p v pw s N R0 R i) (St.z (E0d l p v pw s N R0 (List.set R (i).toNat (S4.I8 (S4.inF (A1.ql (List.getD l (i).toNat F6))))) (wrap .i64 (i+1))) 1408) .normal (D5 A8f) (B5 A8f):=sgA false 3000 [true] I6
def E0i (l:List A1) (p v :Int) (pw:List G1D) (s:G2D) (N:Nat) (R0 R1:List U4):St:=A5 127 [2,3,4,6,7,8,9,48] [.pt 16 0,.pt 32 0,.pt 48 0,.ii (lgI l),.pt 160 0,(.ii ((N:Nat):Int)),.pt 560 0,.ii (2:Int)] [16,32,48,160,560,688,944] [(eF_ [(.sl (.gate l)),(.int .i64 p),(.int .i64 v)]),(eF_ (B2u pw s)),(eF_ (pvZ)),(eF_ [(.int .i64 (0:Int))]),some (.fl (pvO (lgI l) p (.slc 688 0 N 4) (.slc 944 0 N 4) nlI nlI nlI pw s)),(eQ_ (.fr R0)),some (.sq (.fr R1))] 1120 [] []
theorem G8z:A3 [((decide (i<(l.length:Int)))=false)]->Sg Try.prog (E0d l p v pw s N R0 R i) (E0i l p v pw s N R0 R) .normal (D5 X4) (B5 A8f):=sgA false 3000 [false] I6
def E0e (l:List A1) (p v :Int) (pw:List G1D) (s:G2D) (N:Nat) (R0 R1:List U4) (R:List U4) (i :Int):St:=A5 127 [2,3,4,6,7,8,9,10,48,57,58,59] [.pt 16 0,.pt 32 0,.pt 48 0,.ii (lgI l),.pt 160 0,(.ii ((N:Nat):Int)),.pt 560 0,.ii (2:Int),.ii (2:Int),(.ci (.sl (.gate l))),(.ii (l.length:Int)),.v (.c (.int .i64 i))] [16,32,48,160,560,688,944,1200] [(eF_ [(.sl (.gate l)),(.int .i64 p),(.int .i64 v)]),(eF_ (B2u pw s)),(eF_ (pvZ)),(eF_ [(.int .i64 (0:Int))]),some (.fl (pvO (lgI l) p (.slc 688 0 N 4) (.slc 944 0 N 4) (.slc 1200 0 N 4) nlI nlI pw s)),(eQ_ (.fr R0)),(eQ_ (.fr R1)),some (.sq (.fr R))] 1328 [] []
def A8g:List KI:=(run keT false 3000 (⟨B5 X4,.normal,E0i dF dF dF dF dF dF dF dF⟩:Cfg) [true]).cfg.k
end
theorem G8q (l:List A1) (p v:Int) (pw:List G1D) (s:G2D) (N:Nat) (R0 R1:List U4):let a:Int:=(N:Nat);let b:=(2:Int)<(5:Int);A3 [((decide b)=true),(0<=a),(a=a),(((32:Int)*a)<=(281474976710656:Int)),(a<=(9223372036854775807:Int)),(0<=(2:Int)),b]->Sg Try.prog (E0i l p v pw s N R0 R1) (E0e l p v pw s N R0 R1 (List.replicate N (0:U4)) (0:Int)) .normal (A8g) (B5 X4):=sgA false 3000 [true] I6
section
variable (l:List A1) (p v:Int) (pw:List G1D) (s:G2D) (N:Nat) (R0 R1:List U4) (R:List U4) (i:Int)
theorem G8v:let a:Int:=2;let b:=i<(l.length:Int);A3 [((decide b)=true),(0<=i),b,(0<=a),(a<(5:Int)),(0<=a),(a<(5:Int)),(0<=i),(i<((N:Nat):Int)),(0=0),((i).toNat<R.length)]->Sg Try.prog (E0e l p v pw s N R0 R1 R i) (St.z (E0e l p v pw s N R0 R1 (List.set R (i).toNat (S4.I8 (S4.inF (A1.qr (List.getD l (i).toNat F6))))) (wrap .i64 (i+1))) 1664) .normal (D5 A8g) (B5 A8g):=sgA false 3000 [true] I6
def E0j (l:List A1) (p v :Int) (pw:List G1D) (s:G2D) (N:Nat) (R0 R1 R2:List U4):St:=A5 127 [2,3,4,6,7,8,9,48] [.pt 16 0,.pt 32 0,.pt 48 0,.ii (lgI l),.pt 160 0,(.ii ((N:Nat):Int)),.pt 560 0,.ii (3:Int)] [16,32,48,160,560,688,944,1200] [(eF_ [(.sl (.gate l)),(.int .i64 p),(.int .i64 v)]),(eF_ (B2u pw s)),(eF_ (pvZ)),(eF_ [(.int .i64 (0:Int))]),some (.fl (pvO (lgI l) p (.slc 688 0 N 4) (.slc 944 0 N 4) (.slc 1200 0 N 4) nlI nlI pw s)),(eQ_ (.fr R0)),(eQ_ (.fr R1)),some (.sq (.fr R2))] 1376 [] []
theorem G9a:A3 [((decide (i<(l.length:Int)))=false)]->Sg Try.prog (E0e l p v pw s N R0 R1 R i) (E0j l p v pw s N R0 R1 R) .normal (D5 X4) (B5 A8g):=sgA false 3000 [false] I6
def E0f (l:List A1) (p v :Int) (pw:List G1D) (s:G2D) (N:Nat) (R0 R1 R2:List U4) (R:List U4) (i :Int):St:=A5 127 [2,3,4,6,7,8,9,10,48,57,58,59] [.pt 16 0,.pt 32 0,.pt 48 0,.ii (lgI l),.pt 160 0,(.ii ((N:Nat):Int)),.pt 560 0,.ii (3:Int),.ii (3:Int),(.ci (.sl (.gate l))),(.ii (l.length:Int)),.v (.c (.int .i64 i))] [16,32,48,160,560,688,944,1200,1456] [(eF_ [(.sl (.gate l)),(.int .i64 p),(.int .i64 v)]),(eF_ (B2u pw s)),(eF_ (pvZ)),(eF_ [(.int .i64 (0:Int))]),some (.fl (pvO (lgI l) p (.slc 688 0 N 4) (.slc 944 0 N 4) (.slc 1200 0 N 4) (.slc 1456 0 N 4) nlI pw s)),(eQ_ (.fr R0)),(eQ_ (.fr R1)),(eQ_ (.fr R2)),some (.sq (.fr R))] 1584 [] []
def A8h:List KI:=(run keT false 3000 (⟨B5 X4,.normal,E0j dF dF dF dF dF dF dF dF dF⟩:Cfg) [true]).cfg.k
end
theorem G8r (l:List A1) (p v:Int) (pw:List G1D) (s:G2D) (N:Nat) (R0 R1 R2:List U4):let a:Int:=(N:Nat);let b:=(3:Int)<(5:Int);A3 [((decide b)=true),(0<=a),(a=a),(((32:Int)*a)<=(281474976710656:Int)),(a<=(9223372036854775807:Int)),(0<=(3:Int)),b]->Sg Try.prog (E0j l p v pw s N R0 R1 R2) (E0f l p v pw s N R0 R1 R2 (List.replicate N (0:U4)) (0:Int)) .normal (A8h) (B5 X4):=sgA false 3000 [true] I6
section
variable (l:List A1) (p v:Int) (pw:List G1D) (s:G2D) (N:Nat) (R0 R1 R2:List U4) (R:List U4) (i:Int)
theorem G8w:let a:Int:=3;let b:=i<(l.length:Int);A3 [((decide b)=true),(0<=i),b,(0<=a),(a<(5:Int)),(0<=a),(a<(5:Int)),(0<=i),(i<((N:Nat):Int)),(0=0),((i).toNat<R.length)]->Sg Try.prog (E0f l p v pw s N R0 R1 R2 R i) (St.z (E0f l p v pw s N R0 R1 R2 (List.set R (i).toNat (S4.I8 (S4.inF (A1.qo (List.getD l (i).toNat F6))))) (wrap .i64 (i+1))) 1920) .normal (D5 A8h) (B5 A8h):=sgA false 3000 [true] I6
def E0k (l:List A1) (p v :Int) (pw:List G1D) (s:G2D) (N:Nat) (R0 R1 R2 R3:List U4):St:=A5 127 [2,3,4,6,7,8,9,48] [.pt 16 0,.pt 32 0,.pt 48 0,.ii (lgI l),.pt 160 0,(.ii ((N:Nat):Int)),.pt 560 0,.ii (4:Int)] [16,32,48,160,560,688,944,1200,1456] [(eF_ [(.sl (.gate l)),(.int .i64 p),(.int .i64 v)]),(eF_ (B2u pw s)),(eF_ (pvZ)),(eF_ [(.int .i64 (0:Int))]),some (.fl (pvO (lgI l) p (.slc 688 0 N 4) (.slc 944 0 N 4) (.slc 1200 0 N 4) (.slc 1456 0 N 4) nlI pw s)),(eQ_ (.fr R0)),(eQ_ (.fr R1)),(eQ_ (.fr R2)),some (.sq (.fr R3))] 1632 [] []
theorem G9b:A3 [((decide (i<(l.length:Int)))=false)]->Sg Try.prog (E0f l p v pw s N R0 R1 R2 R i) (E0k l p v pw s N R0 R1 R2 R) .normal (D5 X4) (B5 A8h):=sgA false 3000 [false] I6
def E0g (l:List A1) (p v :Int) (pw:List G1D) (s:G2D) (N:Nat) (R0 R1 R2 R3:List U4) (R:List U4) (i :Int):St:=A5 127 [2,3,4,6,7,8,9,10,48,57,58,59] [.pt 16 0,.pt 32 0,.pt 48 0,.ii (lgI l),.pt 160 0,(.ii ((N:Nat):Int)),.pt 560 0,.ii (4:Int),.ii (4:Int),(.ci (.sl (.gate l))),(.ii (l.length:Int)),.v (.c (.int .i64 i))] [16,32,48,160,560,688,944,1200,1456,1712] [(eF_ [(.sl (.gate l)),(.int .i64 p),(.int .i64 v)]),(eF_ (B2u pw s)),(eF_ (pvZ)),(eF_ [(.int .i64 (0:Int))]),some (.fl (pvO (lgI l) p (.slc 688 0 N 4) (.slc 944 0 N 4) (.slc 1200 0 N 4) (.slc 1456 0 N 4) (.slc 1712 0 N 4) pw s)),(eQ_ (.fr R0)),(eQ_ (.fr R1)),(eQ_ (.fr R2)),(eQ_ (.fr R3)),some (.sq (.fr R))] 1840 [] []
def A8i:List KI:=(run keT false 3000 (⟨B5 X4,.normal,E0k dF dF dF dF dF dF dF dF dF dF⟩:Cfg) [true]).cfg.k
end
theorem G8s (l:List A1) (p v:Int) (pw:List G1D) (s:G2D) (N:Nat) (R0 R1 R2 R3:List U4):let a:Int:=(N:Nat);let b:=(4:Int)<(5:Int);A3 [((decide b)=true),(0<=a),(a=a),(((32:Int)*a)<=(281474976710656:Int)),(a<=(9223372036854775807:Int)),(0<=(4:Int)),b]->Sg Try.prog (E0k l p v pw s N R0 R1 R2 R3) (E0g l p v pw s N R0 R1 R2 R3 (List.replicate N (0:U4)) (0:Int)) .normal (A8i) (B5 X4):=sgA false 3000 [true] I6
section
variable (l:List A1) (p v:Int) (pw:List G1D) (s:G2D) (N:Nat) (R0 R1 R2 R3:List U4) (R:List U4) (i:Int)
theorem G8x:let a:Int:=4;let b:=i<(l.length:Int);A3 [((decide b)=true),(0<=i),b,(0<=a),(a<(5:Int)),(0<=a),(a<(5:Int)),(0<=i),(i<((N:Nat):Int)),(0=0),((i).toNat<R.length)]->Sg Try.prog (E0g l p v pw s N R0 R1 R2 R3 R i) (St.z (E0g l p v pw s N R0 R1 R2 R3 (List.set R (i).toNat (S4.I8 (S4.inF (A1.qc (List.getD l (i).toNat F6))))) (wrap .i64 (i+1))) 2176) .normal (D5 A8i) (B5 A8i):=sgA false 3000 [true] I6
def E0l (l:List A1) (p v :Int) (pw:List G1D) (s:G2D) (N:Nat) (R0 R1 R2 R3 R4:List U4):St:=A5 127 [2,3,4,6,7,8,9,48] [.pt 16 0,.pt 32 0,.pt 48 0,.ii (lgI l),.pt 160 0,(.ii ((N:Nat):Int)),.pt 560 0,.ii (5:Int)] [16,32,48,160,560,688,944,1200,1456,1712] [(eF_ [(.sl (.gate l)),(.int .i64 p),(.int .i64 v)]),(eF_ (B2u pw s)),(eF_ (pvZ)),(eF_ [(.int .i64 (0:Int))]),some (.fl (pvO (lgI l) p (.slc 688 0 N 4) (.slc 944 0 N 4) (.slc 1200 0 N 4) (.slc 1456 0 N 4) (.slc 1712 0 N 4) pw s)),(eQ_ (.fr R0)),(eQ_ (.fr R1)),(eQ_ (.fr R2)),(eQ_ (.fr R3)),some (.sq (.fr R4))] 1888 [] []
theorem G9c:A3 [((decide (i<(l.length:Int)))=false)]->Sg Try.prog (E0g l p v pw s N R0 R1 R2 R3 R i) (E0l l p v pw s N R0 R1 R2 R3 R) .normal (D5 X4) (B5 A8i):=sgA false 3000 [false] I6
def kyP (l:List A1) (p v :Int) (pw:List G1D) (s:G2D) (N:Nat) (R0 R1 R2 R3 R4 Y0 Y1 Y2:List U4) (n0 n1 n2:Nat):St:=A5 127 [4,7,9,14,95,96] [.pt 48 0,.pt 160 0,.pt 560 0,(.ci (.clo 17 [(160,0),(2160,0),(32,0)])),(.v (.a [(.slc 688 0 N 4),(.slc 944 0 N 4),(.slc 1200 0 N 4),(.slc 1456 0 N 4),(.slc 1712 0 N 4)])),.ii (0:Int)] [32,48,160,560,688,944,1200,1456,1712,1936,1937,1938,2160] [(eF_ (B2u pw s)),(eF_ (pvZ)),(eF_ [(.int .i64 (0:Int))]),some (.fl (pvP (lgI l) p (.slc 688 0 N 4) (.slc 944 0 N 4) (.slc 1200 0 N 4) (.slc 1456 0 N 4) (.slc 1712 0 N 4) (.slc 1936 0 n0 4) (.slc 1937 0 n1 4) (.slc 1938 0 n2 4) pw s)),(eQ_ (.fr R0)),(eQ_ (.fr R1)),(eQ_ (.fr R2)),(eQ_ (.fr R3)),(eQ_ (.fr R4)),some (.sq (.fr Y0)),some (.sq (.fr Y1)),some (.sq (.fr Y2)),(eF_ [(.int .i64 (lgI l)),(.ob (.fr (S4.D2 (lgI l))))])] 2288 [] []
def A3o:List KI:=(run keT false 3000 (⟨B5 X4,.normal,E0l dF dF dF dF dF dF dF dF dF dF dF⟩:Cfg) [false,false]).cfg.k
end
theorem kyD (l:List A1) (p v:Int) (pw:List G1D) (s:G2D) (N:Nat) (R0 R1 R2 R3 R4:List U4):let a:=lgI l;let b:=(S4.K0 a)=true;let c:=S4.vaR l a 0;let d:=S4.vaR l a 1;let f:=S4.vaR l a 2;A3 [((decide ((5:Int)<(5:Int)))=false),((C6 l p v)=true),b,(l.length<=(S4.vlN a)),(l.length<=4096),(((0:Int) != (0:Int))=false),b]->Sg Try.prog (E0l l p v pw s N R0 R1 R2 R3 R4) (kyP l p v pw s N R0 R1 R2 R3 R4 c d f c.length d.length f.length) .normal (A3o) (B5 X4):=sgA false 3000 [false,false] I6
theorem E5r (l:List A1) (p v:Int) (pw:List G1D) (s:G2D) (N:Nat) (R0 R1 R2 R3 R4 Y0 Y1 Y2:List U4) (n0 n1 n2:Nat):let d:Int:=5;let f:Int:=3;let g:Int:=1;let h:Int:=2;let i:Int:=0;let j:Int:=4;let k:=Prod.snd (kyC pw l R0);let b:=(k != i)=true;let m:=kyV l R0;let n:=(i != i)=false;C2 keT Try.f5 true 3000 (⟨A3o,.normal,kyP l p v pw s N R0 R1 R2 R3 R4 Y0 Y1 Y2 n0 n1 n2⟩) [true,false,false,true,true,true,true,true,true,true,true,false,true,true,true,true,true,true,false,true] [] []=(some ([((decide (0<d))=true),(0<=i),(0<d),n,(0<=g),(g<(9223372036854775808:Int)),(0=0),(N=R0.length),(4=4),((S4.E9 (lgI l) (S4.D2 (lgI l)))=true),(R0.length=(2 ^ ((lgI l)).toNat)),((S4.inF (S4.smF g))≠(0:Fr)),n,(0=0),(m.length=m.length),(4=4),(m.length<=262144),(0<=i),(0<d),((decide (g<d))=true),(0<=g),(g<d),b,(0<=g),(g<d),((decide (h<d))=true),(0<=h),(h<d),b,(0<=h),(h<d),((decide (f<d))=true),(0<=f),(f<d),b,(0<=f),(f<d),((decide (j<d))=true),(0<=j),(j<d),b,(0<=j),(j<d),((decide (d<d))=false),((decide (0<f))=true),(0<=i),(0<f),b,(0<=i),(0<f),((decide (g<f))=true),(0<=g),(g<f),b,(0<=g),(g<f),((decide (h<f))=true),(0<=h),(h<f),b,(0<=h),(h<f),((decide (f<f))=false),b],((.t [(.a (pvZ)),(.c (.int .i64 k))]),[]))):=by intros;kernel_rfl
theorem E5s (l:List A1) (p v:Int) (pw:List G1D) (s:G2D) (N:Nat) (R0 R1 R2 R3 R4 Y0 Y1 Y2:List U4) (n0 n1 n2:Nat):let d:Int:=5;let f:Int:=1;let g:Int:=3;let h:Int:=0;let i:Int:=2;let k:=(h != h)=false;let m:=f<(9223372036854775808:Int);let n:=(S4.inF (S4.smF f))≠(0:Fr);let o:Int:=4;let q:=Prod.snd (kyC pw l R1);let b:=(q != h)=true;let r:=lgI l;let j:=(S4.E9 r (S4.D2 r))=true;let u:=kyV l R0;let w:=kyV l R1;C2 keT Try.f5 true 3000 (⟨A3o,.normal,kyP l p v pw s N R0 R1 R2 R3 R4 Y0 Y1 Y2 n0 n1 n2⟩) [true,false,false,true,false,false,true,true,true,true,true,true,false,true,true,true,true,true,true,false,true] [] []=(some ([((decide (0<d))=true),(0<=h),(0<d),k,(0<=f),m,(0=0),(N=R0.length),(4=4),j,(R0.length=(2 ^ (r).toNat)),n,k,(0=0),(u.length=u.length),(4=4),(u.length<=262144),(0<=h),(0<d),((decide (f<d))=true),(0<=f),(f<d),(((Prod.snd (kyC pw l R0)) != h)=false),(0<=f),m,(0=0),(N=R1.length),(4=4),j,(R1.length=(2 ^ (r).toNat)),n,k,(0=0),(w.length=w.length),(4=4),(w.length<=262144),(0<=f),(f<d),((decide (i<d))=true),(0<=i),(i<d),b,(0<=i),(i<d),((decide (g<d))=true),(0<=g),(g<d),b,(0<=g),(g<d),((decide (o<d))=true),(0<=o),(o<d),b,(0<=o),(o<d),((decide (d<d))=false),((decide (0<g))=true),(0<=h),(0<g),b,(0<=h),(0<g),((decide (f<g))=true),(0<=f),(f<g),b,(0<=f),(f<g),((decide (i<g))=true),(0<=i),(i<g),b,(0<=i),(i<g),((decide (g<g))=false),b],((.t [(.a (pvZ)),(.c (.int .i64 q))]),[]))):=by intros;kernel_rfl
theorem E5t (l:List A1) (p v:Int) (pw:List G1D) (s:G2D) (N:Nat) (R0 R1 R2 R3 R4 Y0 Y1 Y2:List U4) (n0 n1 n2:Nat):let d:Int:=1;let f:Int:=5;let h:Int:=3;let i:Int:=0;let j:=d<(9223372036854775808:Int);let k:=(S4.inF (S4.smF d))≠(0:Fr);let m:Int:=2;let n:=(i != i)=false;let o:=lgI l;let g:=(S4.E9 o (S4.D2 o))=true;let q:Int:=4;let r:=Prod.snd (kyC pw l R2);let b:=(r != i)=true;let u:=kyV l R0;let w:=kyV l R1;let x:=kyV l R2;C2 keT Try.f5 true 3000 (⟨A3o,.normal,kyP l p v pw s N R0 R1 R2 R3 R4 Y0 Y1 Y2 n0 n1 n2⟩) [true,false,false,true,false,false,true,false,false,true,true,true,true,false,true,true,true,true,true,true,false,true] [] []=(some ([((decide (0<f))=true),(0<=i),(0<f),n,(0<=d),j,(0=0),(N=R0.length),(4=4),g,(R0.length=(2 ^ (o).toNat)),k,n,(0=0),(u.length=u.length),(4=4),(u.length<=262144),(0<=i),(0<f),((decide (d<f))=true),(0<=d),(d<f),(((Prod.snd (kyC pw l R0)) != i)=false),(0<=d),j,(0=0),(N=R1.length),(4=4),g,(R1.length=(2 ^ (o).toNat)),k,n,(0=0),(w.length=w.length),(4=4),(w.length<=262144),(0<=d),(d<f),((decide (m<f))=true),(0<=m),(m<f),(((Prod.snd (kyC pw l R1)) != i)=false),(0<=d),j,(0=0),(N=R2.length),(4=4),g,(R2.length=(2 ^ (o).toNat)),k,n,(0=0),(x.length=x.length),(4=4),(x.length<=262144),(0<=m),(m<f),((decide (h<f))=true),(0<=h),(h<f),b,(0<=h),(h<f),((decide (q<f))=true),(0<=q),(q<f),b,(0<=q),(q<f),((decide (f<f))=false),((decide (0<h))=true),(0<=i),(0<h),b,(0<=i),(0<h),((decide (d<h))=true),(0<=d),(d<h),b,(0<=d),(d<h),((decide (m<h))=true),(0<=m),(m<h),b,(0<=m),(m<h),((decide (h<h))=false),b],((.t [(.a (pvZ)),(.c (.int .i64 r))]),[]))):=by intros;kernel_rfl
theorem E5u (l:List A1) (p v:Int) (pw:List G1D) (s:G2D) (N:Nat) (R0 R1 R2 R3 R4 Y0 Y1 Y2:List U4) (n0 n1 n2:Nat):let f:Int:=1;let h:Int:=5;let i:Int:=3;let j:=f<(9223372036854775808:Int);let k:=(S4.inF (S4.smF f))≠(0:Fr);let m:Int:=0;let g:=(m != m)=false;let n:Int:=2;let o:=lgI l;let d:=(S4.E9 o (S4.D2 o))=true;let q:Int:=4;let r:=Prod.snd (kyC pw l R3);let b:=(r != m)=true;let u:=kyV l R0;let w:=kyV l R1;let x:=kyV l R2;let y:=kyV l R3;C2 keT Try.f5 true 3000 (⟨A3o,.normal,kyP l p v pw s N R0 R1 R2 R3 R4 Y0 Y1 Y2 n0 n1 n2⟩) [true,false,false,true,false,false,true,false,false,true,false,false,true,true,false,true,true,true,true,true,true,false,true] [] []=(some ([((decide (0<h))=true),(0<=m),(0<h),g,(0<=f),j,(0=0),(N=R0.length),(4=4),d,(R0.length=(2 ^ (o).toNat)),k,g,(0=0),(u.length=u.length),(4=4),(u.length<=262144),(0<=m),(0<h),((decide (f<h))=true),(0<=f),(f<h),(((Prod.snd (kyC pw l R0)) != m)=false),(0<=f),j,(0=0),(N=R1.length),(4=4),d,(R1.length=(2 ^ (o).toNat)),k,g,(0=0),(w.length=w.length),(4=4),(w.length<=262144),(0<=f),(f<h),((decide (n<h))=true),(0<=n),(n<h),(((Prod.snd (kyC pw l R1)) != m)=false),(0<=f),j,(0=0),(N=R2.length),(4=4),d,(R2.length=(2 ^ (o).toNat)),k,g,(0=0),(x.length=x.length),(4=4),(x.length<=262144),(0<=n),(n<h),((decide (i<h))=true),(0<=i),(i<h),(((Prod.snd (kyC pw l R2)) != m)=false),(0<=f),j,(0=0),(N=R3.length),(4=4),d,(R3.length=(2 ^ (o).toNat)),k,g,(0=0),(y.length=y.length),(4=4),(y.length<=262144),(0<=i),(i<h),((decide (q<h))=true),(0<=q),(q<h),b,(0<=q),(q<h),((decide (h<h))=false),((decide (0<i))=true),(0<=m),(0<i),b,(0<=m),(0<i),((decide (f<i))=true),(0<=f),(f<i),b,(0<=f),(f<i),((decide (n<i))=true),(0<=n),(n<i),b,(0<=n),(n<i),((decide (i<i))=false),b],((.t [(.a (pvZ)),(.c (.int .i64 r))]),[]))):=by intros;kernel_rfl
theorem E5v (l:List A1) (p v:Int) (pw:List G1D) (s:G2D) (N:Nat) (R0 R1 R2 R3 R4 Y0 Y1 Y2:List U4) (n0 n1 n2:Nat):let d:Int:=1;let f:Int:=0;let g:=d<(9223372036854775808:Int);let i:=(S4.inF (S4.smF d))≠(0:Fr);let j:Int:=5;let k:Int:=3;let m:=(f != f)=false;let n:Int:=2;let o:=lgI l;let b:=(S4.E9 o (S4.D2 o))=true;let q:Int:=4;let r:=Prod.snd (kyC pw l R4);let h:=(r != f)=true;let u:=kyV l R0;let w:=kyV l R1;let x:=kyV l R2;let y:=kyV l R3;let z:=kyV l R4;C2 keT Try.f5 true 3000 (⟨A3o,.normal,kyP l p v pw s N R0 R1 R2 R3 R4 Y0 Y1 Y2 n0 n1 n2⟩) [true,false,false,true,false,false,true,false,false,true,false,false,true,false,false,false,true,true,true,true,true,true,false,true] [] []=(some ([((decide (0<j))=true),(0<=f),(0<j),m,(0<=d),g,(0=0),(N=R0.length),(4=4),b,(R0.length=(2 ^ (o).toNat)),i,m,(0=0),(u.length=u.length),(4=4),(u.length<=262144),(0<=f),(0<j),((decide (d<j))=true),(0<=d),(d<j),(((Prod.snd (kyC pw l R0)) != f)=false),(0<=d),g,(0=0),(N=R1.length),(4=4),b,(R1.length=(2 ^ (o).toNat)),i,m,(0=0),(w.length=w.length),(4=4),(w.length<=262144),(0<=d),(d<j),((decide (n<j))=true),(0<=n),(n<j),(((Prod.snd (kyC pw l R1)) != f)=false),(0<=d),g,(0=0),(N=R2.length),(4=4),b,(R2.length=(2 ^ (o).toNat)),i,m,(0=0),(x.length=x.length),(4=4),(x.length<=262144),(0<=n),(n<j),((decide (k<j))=true),(0<=k),(k<j),(((Prod.snd (kyC pw l R2)) != f)=false),(0<=d),g,(0=0),(N=R3.length),(4=4),b,(R3.length=(2 ^ (o).toNat)),i,m,(0=0),(y.length=y.length),(4=4),(y.length<=262144),(0<=k),(k<j),((decide (q<j))=true),(0<=q),(q<j),(((Prod.snd (kyC pw l R3)) != f)=false),(0<=d),g,(0=0),(N=R4.length),(4=4),b,(R4.length=(2 ^ (o).toNat)),i,m,(0=0),(z.length=z.length),(4=4),(z.length<=262144),(0<=q),(q<j),((decide (j<j))=false),((decide (0<k))=true),(0<=f),(0<k),h,(0<=f),(0<k),((decide (d<k))=true),(0<=d),(d<k),h,(0<=d),(d<k),((decide (n<k))=true),(0<=n),(n<k),h,(0<=n),(n<k),((decide (k<k))=false),h],((.t [(.a (pvZ)),(.c (.int .i64 r))]),[]))):=by intros;kernel_rfl
theorem E5w (l:List A1) (p v:Int) (pw:List G1D) (s:G2D) (N:Nat) (R0 R1 R2 R3 R4 Y0 Y1 Y2:List U4) (n0 n1 n2:Nat):let h:Int:=1;let d:=h<(9223372036854775808:Int);let f:=(S4.inF (S4.smF h))≠(0:Fr);let i:Int:=5;let j:Int:=3;let m:Int:=0;let g:=(m != m)=false;let n:Int:=2;let o:=lgI l;let b:=(S4.E9 o (S4.D2 o))=true;let q:Int:=4;let r:=Prod.snd (kyC pw l Y0);let k:=(r != m)=true;let u:=kyV l R0;let w:=kyV l R1;let x:=kyV l R2;let y:=kyV l R3;let z:=kyV l R4;let A:=kyV l Y0;C2 keT Try.f5 true 3000 (⟨A3o,.normal,kyP l p v pw s N R0 R1 R2 R3 R4 Y0 Y1 Y2 n0 n1 n2⟩) [true,false,false,true,false,false,true,false,false,true,false,false,true,false,false,false,true,false,false,true,true,true,true,false,true] [] []=(some ([((decide (0<i))=true),(0<=m),(0<i),g,(0<=h),d,(0=0),(N=R0.length),(4=4),b,(R0.length=(2 ^ (o).toNat)),f,g,(0=0),(u.length=u.length),(4=4),(u.length<=262144),(0<=m),(0<i),((decide (h<i))=true),(0<=h),(h<i),(((Prod.snd (kyC pw l R0)) != m)=false),(0<=h),d,(0=0),(N=R1.length),(4=4),b,(R1.length=(2 ^ (o).toNat)),f,g,(0=0),(w.length=w.length),(4=4),(w.length<=262144),(0<=h),(h<i),((decide (n<i))=true),(0<=n),(n<i),(((Prod.snd (kyC pw l R1)) != m)=false),(0<=h),d,(0=0),(N=R2.length),(4=4),b,(R2.length=(2 ^ (o).toNat)),f,g,(0=0),(x.length=x.length),(4=4),(x.length<=262144),(0<=n),(n<i),((decide (j<i))=true),(0<=j),(j<i),(((Prod.snd (kyC pw l R2)) != m)=false),(0<=h),d,(0=0),(N=R3.length),(4=4),b,(R3.length=(2 ^ (o).toNat)),f,g,(0=0),(y.length=y.length),(4=4),(y.length<=262144),(0<=j),(j<i),((decide (q<i))=true),(0<=q),(q<i),(((Prod.snd (kyC pw l R3)) != m)=false),(0<=h),d,(0=0),(N=R4.length),(4=4),b,(R4.length=(2 ^ (o).toNat)),f,g,(0=0),(z.length=z.length),(4=4),(z.length<=262144),(0<=q),(q<i),((decide (i<i))=false),((decide (0<j))=true),(0<=m),(0<j),(((Prod.snd (kyC pw l R4)) != m)=false),(0<=h),d,(0=0),(n0=Y0.length),(4=4),b,(Y0.length=(2 ^ (o).toNat)),f,g,(0=0),(A.length=A.length),(4=4),(A.length<=262144),(0<=m),(0<j),((decide (h<j))=true),(0<=h),(h<j),k,(0<=h),(h<j),((decide (n<j))=true),(0<=n),(n<j),k,(0<=n),(n<j),((decide (j<j))=false),k],((.t [(.a (pvZ)),(.c (.int .i64 r))]),[]))):=by intros;kernel_rfl
theorem E5x (l:List A1) (p v:Int) (pw:List G1D) (s:G2D) (N:Nat) (R0 R1 R2 R3 R4 Y0 Y1 Y2:List U4) (n0 n1 n2:Nat):let h:Int:=1;let d:=h<(9223372036854775808:Int);let f:=(S4.inF (S4.smF h))≠(0:Fr);let i:Int:=5;let j:Int:=3;let k:Int:=0;let g:=(k != k)=false;let m:Int:=2;let n:=lgI l;let b:=(S4.E9 n (S4.D2 n))=true;let o:=Prod.snd (kyC pw l Y1);let q:Int:=4;let r:=kyV l R0;let u:=kyV l R1;let w:=kyV l R2;let x:=kyV l R3;let y:=kyV l R4;let z:=kyV l Y0;let A:=kyV l Y1;let B:=(o != k)=true;C2 keT Try.f5 true 3000 (⟨A3o,.normal,kyP l p v pw s N R0 R1 R2 R3 R4 Y0 Y1 Y2 n0 n1 n2⟩) [true,false,false,true,false,false,true,false,false,true,false,false,true,false,false,false,true,false,false,true,false,false,true,true,false,true] [] []=(some ([((decide (0<i))=true),(0<=k),(0<i),g,(0<=h),d,(0=0),(N=R0.length),(4=4),b,(R0.length=(2 ^ (n).toNat)),f,g,(0=0),(r.length=r.length),(4=4),(r.length<=262144),(0<=k),(0<i),((decide (h<i))=true),(0<=h),(h<i),(((Prod.snd (kyC pw l R0)) != k)=false),(0<=h),d,(0=0),(N=R1.length),(4=4),b,(R1.length=(2 ^ (n).toNat)),f,g,(0=0),(u.length=u.length),(4=4),(u.length<=262144),(0<=h),(h<i),((decide (m<i))=true),(0<=m),(m<i),(((Prod.snd (kyC pw l R1)) != k)=false),(0<=h),d,(0=0),(N=R2.length),(4=4),b,(R2.length=(2 ^ (n).toNat)),f,g,(0=0),(w.length=w.length),(4=4),(w.length<=262144),(0<=m),(m<i),((decide (j<i))=true),(0<=j),(j<i),(((Prod.snd (kyC pw l R2)) != k)=false),(0<=h),d,(0=0),(N=R3.length),(4=4),b,(R3.length=(2 ^ (n).toNat)),f,g,(0=0),(x.length=x.length),(4=4),(x.length<=262144),(0<=j),(j<i),((decide (q<i))=true),(0<=q),(q<i),(((Prod.snd (kyC pw l R3)) != k)=false),(0<=h),d,(0=0),(N=R4.length),(4=4),b,(R4.length=(2 ^ (n).toNat)),f,g,(0=0),(y.length=y.length),(4=4),(y.length<=262144),(0<=q),(q<i),((decide (i<i))=false),((decide (0<j))=true),(0<=k),(0<j),(((Prod.snd (kyC pw l R4)) != k)=false),(0<=h),d,(0=0),(n0=Y0.length),(4=4),b,(Y0.length=(2 ^ (n).toNat)),f,g,(0=0),(z.length=z.length),(4=4),(z.length<=262144),(0<=k),(0<j),((decide (h<j))=true),(0<=h),(h<j),(((Prod.snd (kyC pw l Y0)) != k)=false),(0<=h),d,(0=0),(n1=Y1.length),(4=4),b,(Y1.length=(2 ^ (n).toNat)),f,g,(0=0),(A.length=A.length),(4=4),(A.length<=262144),(0<=h),(h<j),((decide (m<j))=true),(0<=m),(m<j),B,(0<=m),(m<j),((decide (j<j))=false),B],((.t [(.a (pvZ)),(.c (.int .i64 o))]),[]))):=by intros;kernel_rfl
theorem E5y (l:List A1) (p v:Int) (pw:List G1D) (s:G2D) (N:Nat) (R0 R1 R2 R3 R4 Y0 Y1 Y2:List U4) (n0 n1 n2:Nat):let b:=(S4.E9 (lgI l) (S4.D2 (lgI l)))=true;let h:Int:=1;let d:=h<(9223372036854775808:Int);let f:=(S4.inF (S4.smF h))≠(0:Fr);let i:Int:=5;let j:Int:=3;let k:Int:=0;let g:=(k != k)=false;let m:=(lgI l);let n:Int:=2;let o:Int:=4;let q:=Prod.snd (kyC pw l Y2);let r:=kyV l R0;let u:=kyV l R1;let w:=kyV l R2;let x:=kyV l R3;let y:=kyV l R4;let z:=kyV l Y0;let A:=kyV l Y1;let B:=kyV l Y2;C2 keT Try.f5 true 3000 (⟨A3o,.normal,kyP l p v pw s N R0 R1 R2 R3 R4 Y0 Y1 Y2 n0 n1 n2⟩) [true,false,false,true,false,false,true,false,false,true,false,false,true,false,false,false,true,false,false,true,false,false,true,false,false,false,true] [] []=(some ([((decide (0<i))=true),(0<=k),(0<i),g,(0<=h),d,(0=0),(N=R0.length),(4=4),b,(R0.length=(2 ^ m.toNat)),f,g,(0=0),(r.length=r.length),(4=4),(r.length<=262144),(0<=k),(0<i),((decide (h<i))=true),(0<=h),(h<i),(((Prod.snd (kyC pw l R0)) != k)=false),(0<=h),d,(0=0),(N=R1.length),(4=4),b,(R1.length=(2 ^ m.toNat)),f,g,(0=0),(u.length=u.length),(4=4),(u.length<=262144),(0<=h),(h<i),((decide (n<i))=true),(0<=n),(n<i),(((Prod.snd (kyC pw l R1)) != k)=false),(0<=h),d,(0=0),(N=R2.length),(4=4),b,(R2.length=(2 ^ m.toNat)),f,g,(0=0),(w.length=w.length),(4=4),(w.length<=262144),(0<=n),(n<i),((decide (j<i))=true),(0<=j),(j<i),(((Prod.snd (kyC pw l R2)) != k)=false),(0<=h),d,(0=0),(N=R3.length),(4=4),b,(R3.length=(2 ^ m.toNat)),f,g,(0=0),(x.length=x.length),(4=4),(x.length<=262144),(0<=j),(j<i),((decide (o<i))=true),(0<=o),(o<i),(((Prod.snd (kyC pw l R3)) != k)=false),(0<=h),d,(0=0),(N=R4.length),(4=4),b,(R4.length=(2 ^ m.toNat)),f,g,(0=0),(y.length=y.length),(4=4),(y.length<=262144),(0<=o),(o<i),((decide (i<i))=false),((decide (0<j))=true),(0<=k),(0<j),(((Prod.snd (kyC pw l R4)) != k)=false),(0<=h),d,(0=0),(n0=Y0.length),(4=4),b,(Y0.length=(2 ^ m.toNat)),f,g,(0=0),(z.length=z.length),(4=4),(z.length<=262144),(0<=k),(0<j),((decide (h<j))=true),(0<=h),(h<j),(((Prod.snd (kyC pw l Y0)) != k)=false),(0<=h),d,(0=0),(n1=Y1.length),(4=4),b,(Y1.length=(2 ^ m.toNat)),f,g,(0=0),(A.length=A.length),(4=4),(A.length<=262144),(0<=h),(h<j),((decide (n<j))=true),(0<=n),(n<j),(((Prod.snd (kyC pw l Y1)) != k)=false),(0<=h),d,(0=0),(n2=Y2.length),(4=4),b,(Y2.length=(2 ^ m.toNat)),f,g,(0=0),(B.length=B.length),(4=4),(B.length<=262144),(0<=n),(n<j),((decide (j<j))=false),((q != k)=true)],((.t [(.a (pvZ)),(.c (.int .i64 q))]),[]))):=by intros;kernel_rfl
theorem E5z (l:List A1) (p v:Int) (pw:List G1D) (s:G2D) (N:Nat) (R0 R1 R2 R3 R4 Y0 Y1 Y2:List U4) (n0 n1 n2:Nat):let h:Int:=1;let d:=h<(9223372036854775808:Int);let f:=(S4.inF (S4.smF h))≠(0:Fr);let i:Int:=5;let j:Int:=3;let k:Int:=0;let g:=(k != k)=false;let m:=lgI l;let b:=(S4.E9 m (S4.D2 m))=true;let n:Int:=2;let o:Int:=4;let q:=kyV l R0;let r:=kyV l R1;let u:=kyV l R2;let w:=kyV l R3;let x:=kyV l R4;let y:=kyV l Y0;let z:=kyV l Y1;let A:=kyV l Y2;C2 keT Try.f5 true 3000 (⟨A3o,.normal,kyP l p v pw s N R0 R1 R2 R3 R4 Y0 Y1 Y2 n0 n1 n2⟩) [true,false,false,true,false,false,true,false,false,true,false,false,true,false,false,false,true,false,false,true,false,false,true,false,false,false,false] [688,944,1200,1456,1712,1936,1937,1938] []=(some ([((decide (0<i))=true),(0<=k),(0<i),g,(0<=h),d,(0=0),(N=R0.length),(4=4),b,(R0.length=(2 ^ (m).toNat)),f,g,(0=0),(q.length=q.length),(4=4),(q.length<=262144),(0<=k),(0<i),((decide (h<i))=true),(0<=h),(h<i),(((Prod.snd (kyC pw l R0)) != k)=false),(0<=h),d,(0=0),(N=R1.length),(4=4),b,(R1.length=(2 ^ (m).toNat)),f,g,(0=0),(r.length=r.length),(4=4),(r.length<=262144),(0<=h),(h<i),((decide (n<i))=true),(0<=n),(n<i),(((Prod.snd (kyC pw l R1)) != k)=false),(0<=h),d,(0=0),(N=R2.length),(4=4),b,(R2.length=(2 ^ (m).toNat)),f,g,(0=0),(u.length=u.length),(4=4),(u.length<=262144),(0<=n),(n<i),((decide (j<i))=true),(0<=j),(j<i),(((Prod.snd (kyC pw l R2)) != k)=false),(0<=h),d,(0=0),(N=R3.length),(4=4),b,(R3.length=(2 ^ (m).toNat)),f,g,(0=0),(w.length=w.length),(4=4),(w.length<=262144),(0<=j),(j<i),((decide (o<i))=true),(0<=o),(o<i),(((Prod.snd (kyC pw l R3)) != k)=false),(0<=h),d,(0=0),(N=R4.length),(4=4),b,(R4.length=(2 ^ (m).toNat)),f,g,(0=0),(x.length=x.length),(4=4),(x.length<=262144),(0<=o),(o<i),((decide (i<i))=false),((decide (0<j))=true),(0<=k),(0<j),(((Prod.snd (kyC pw l R4)) != k)=false),(0<=h),d,(0=0),(n0=Y0.length),(4=4),b,(Y0.length=(2 ^ (m).toNat)),f,g,(0=0),(y.length=y.length),(4=4),(y.length<=262144),(0<=k),(0<j),((decide (h<j))=true),(0<=h),(h<j),(((Prod.snd (kyC pw l Y0)) != k)=false),(0<=h),d,(0=0),(n1=Y1.length),(4=4),b,(Y1.length=(2 ^ (m).toNat)),f,g,(0=0),(z.length=z.length),(4=4),(z.length<=262144),(0<=h),(h<j),((decide (n<j))=true),(0<=n),(n<j),(((Prod.snd (kyC pw l Y1)) != k)=false),(0<=h),d,(0=0),(n2=Y2.length),(4=4),b,(Y2.length=(2 ^ (m).toNat)),f,g,(0=0),(A.length=A.length),(4=4),(A.length<=262144),(0<=n),(n<j),((decide (j<j))=false),(((Prod.snd (kyC pw l Y2)) != k)=false)],((.t [(.a (pvF m p (.slc 0 0 N 4) (.slc 1 0 N 4) (.slc 2 0 N 4) (.slc 3 0 N 4) (.slc 4 0 N 4) (.slc 5 0 n0 4) (.slc 6 0 n1 4) (.slc 7 0 n2 4) pw s (Prod.fst (kyC pw l R0)) (Prod.fst (kyC pw l R1)) (Prod.fst (kyC pw l R2)) (Prod.fst (kyC pw l R3)) (Prod.fst (kyC pw l R4)) (Prod.fst (kyC pw l Y0)) (Prod.fst (kyC pw l Y1)) (Prod.fst (kyC pw l Y2)))),(.c (.int .i64 k))]),[(.sq (.fr R0)),(.sq (.fr R1)),(.sq (.fr R2)),(.sq (.fr R3)),(.sq (.fr R4)),(.sq (.fr Y0)),(.sq (.fr Y1)),(.sq (.fr Y2))]))):=by intros;kernel_rfl
end
end

section

/-- A selector's values on all rows. -/
def N6 (q:A1->U4) (l:List A1) (N i:Nat):List U4:=(List.range i).map (fun j=>S4.I8 (S4.inF (q (l.getD j F6))))++List.replicate (N-i) 0
def B9 (q:A1->U4) (l:List A1) (N:Nat):List U4:=N6 q l N l.length
theorem C5 (q:A1->U4) (l:List A1) {N i:Nat} (h:i<=N):(N6 q l N i).length=N:=S4.A3k _ _ h
theorem A0x (q:A1->U4) (l:List A1) {N i:Nat} (h:i<N):(N6 q l N i).set i (S4.I8 (S4.inF (q (l.getD i F6))))=N6 q l N (i+1):=S4.A3l (fun j=>S4.I8 (S4.inF (q (l.getD j F6)))) 0 h
theorem F3q {w0:World} {F0:Nat->Prop} {K:Kp} {Q:Exit->Act->World->Prop} (l:List A1) (p v:Int) (pw:List G1D) (s:G2D) (N:Nat) (h1:l.length<=N) (h6:N<=65536)
    (next:∀ac a y,Sim w0 F0 K ac (E0h l p v pw s N (B9 A1.qm l N)) y a->Wq Try.prog Q (D5 X4) ac .normal a y.w)
    {ac:List Act} {a:Act} {y:Ctx} (h0:Sim w0 F0 K ac (E0c l p v pw s N (N6 A1.qm l N 0) ((0:Nat):Int)) y a):Wq Try.prog Q A8e ac .normal a y.w:=by
  refine C0 (ι:={ i:Nat // i<=l.length }) (fun i=>E0c l p v pw s N (N6 A1.qm l N i.1) i.1) (fun i=>l.length-i.1) (c:=lpC A8e) (k:=lpR A8e) (by kernel_rfl) (fun i ih ac y b hs=>?_) ⟨0,Nat.zero_le _⟩ h0
  obtain ⟨i,hi⟩:=i;simp only at hs ih
  by_cases h:i<l.length
  · refine G8t l p v pw s N (N6 A1.qm l N i) i ⟨decide_eq_true (by omega),by omega,by omega,by decide,by decide,by decide,by decide,by omega,by omega,rfl,by rw[C5 _ _ (by omega)];omega,trivial⟩ hs fun ac cZ aZ hs2=>?_
    have hw:wrap IntKind.i64 ((i:Int)+1)=((i+1:Nat):Int):=by rw[B0 (by omega) (by omega)];omega
    rw[hw,Int.toNat_natCast,A0x _ _ (by omega)] at hs2
    exact ih ⟨i+1,by omega⟩ (by show l.length-(i+1)<l.length-i;omega) ac cZ aZ (hs2.nx 816)
  · have e' : i=l.length:=by omega
    subst e'
    exact G8y l p v pw s N (N6 A1.qm l N l.length) _ ⟨decide_eq_false (by omega),trivial⟩ hs fun ac cZ aZ hs2=>next ac aZ cZ hs2
theorem F3r {w0:World} {F0:Nat->Prop} {K:Kp} {Q:Exit->Act->World->Prop} (l:List A1) (p v:Int) (pw:List G1D) (s:G2D) (N:Nat) (R0:List U4) (h1:l.length<=N) (h6:N<=65536)
    (next:∀ac a y,Sim w0 F0 K ac (E0i l p v pw s N R0 (B9 A1.ql l N)) y a->Wq Try.prog Q (D5 X4) ac .normal a y.w)
    {ac:List Act} {a:Act} {y:Ctx} (h0:Sim w0 F0 K ac (E0d l p v pw s N R0 (N6 A1.ql l N 0) ((0:Nat):Int)) y a):Wq Try.prog Q A8f ac .normal a y.w:=by
  refine C0 (ι:={ i:Nat // i<=l.length }) (fun i=>E0d l p v pw s N R0 (N6 A1.ql l N i.1) i.1) (fun i=>l.length-i.1) (c:=lpC A8f) (k:=lpR A8f) (by kernel_rfl) (fun i ih ac y b hs=>?_) ⟨0,Nat.zero_le _⟩ h0
  obtain ⟨i,hi⟩:=i;simp only at hs ih
  by_cases h:i<l.length
  · refine G8u l p v pw s N R0 (N6 A1.ql l N i) i ⟨decide_eq_true (by omega),by omega,by omega,by decide,by decide,by decide,by decide,by omega,by omega,rfl,by rw[C5 _ _ (by omega)];omega,trivial⟩ hs fun ac cZ aZ hs2=>?_
    have hw:wrap IntKind.i64 ((i:Int)+1)=((i+1:Nat):Int):=by rw[B0 (by omega) (by omega)];omega
    rw[hw,Int.toNat_natCast,A0x _ _ (by omega)] at hs2
    exact ih ⟨i+1,by omega⟩ (by show l.length-(i+1)<l.length-i;omega) ac cZ aZ (hs2.nx 1072)
  · have e' : i=l.length:=by omega
    subst e'
    exact G8z l p v pw s N R0 (N6 A1.ql l N l.length) _ ⟨decide_eq_false (by omega),trivial⟩ hs fun ac cZ aZ hs2=>next ac aZ cZ hs2
theorem F3s {w0:World} {F0:Nat->Prop} {K:Kp} {Q:Exit->Act->World->Prop} (l:List A1) (p v:Int) (pw:List G1D) (s:G2D) (N:Nat) (R0 R1:List U4) (h1:l.length<=N) (h6:N<=65536)
    (next:∀ac a y,Sim w0 F0 K ac (E0j l p v pw s N R0 R1 (B9 A1.qr l N)) y a->Wq Try.prog Q (D5 X4) ac .normal a y.w)
    {ac:List Act} {a:Act} {y:Ctx} (h0:Sim w0 F0 K ac (E0e l p v pw s N R0 R1 (N6 A1.qr l N 0) ((0:Nat):Int)) y a):Wq Try.prog Q A8g ac .normal a y.w:=by
  refine C0 (ι:={ i:Nat // i<=l.length }) (fun i=>E0e l p v pw s N R0 R1 (N6 A1.qr l N i.1) i.1) (fun i=>l.length-i.1) (c:=lpC A8g) (k:=lpR A8g) (by kernel_rfl) (fun i ih ac y b hs=>?_) ⟨0,Nat.zero_le _⟩ h0
  obtain ⟨i,hi⟩:=i;simp only at hs ih
  by_cases h:i<l.length
  · refine G8v l p v pw s N R0 R1 (N6 A1.qr l N i) i ⟨decide_eq_true (by omega),by omega,by omega,by decide,by decide,by decide,by decide,by omega,by omega,rfl,by rw[C5 _ _ (by omega)];omega,trivial⟩ hs fun ac cZ aZ hs2=>?_
    have hw:wrap IntKind.i64 ((i:Int)+1)=((i+1:Nat):Int):=by rw[B0 (by omega) (by omega)];omega
    rw[hw,Int.toNat_natCast,A0x _ _ (by omega)] at hs2
    exact ih ⟨i+1,by omega⟩ (by show l.length-(i+1)<l.length-i;omega) ac cZ aZ (hs2.nx 1328)
  · have e' : i=l.length:=by omega
    subst e'
    exact G9a l p v pw s N R0 R1 (N6 A1.qr l N l.length) _ ⟨decide_eq_false (by omega),trivial⟩ hs fun ac cZ aZ hs2=>next ac aZ cZ hs2
theorem F3t {w0:World} {F0:Nat->Prop} {K:Kp} {Q:Exit->Act->World->Prop} (l:List A1) (p v:Int) (pw:List G1D) (s:G2D) (N:Nat) (R0 R1 R2:List U4) (h1:l.length<=N) (h6:N<=65536)
    (next:∀ac a y,Sim w0 F0 K ac (E0k l p v pw s N R0 R1 R2 (B9 A1.qo l N)) y a->Wq Try.prog Q (D5 X4) ac .normal a y.w)
    {ac:List Act} {a:Act} {y:Ctx} (h0:Sim w0 F0 K ac (E0f l p v pw s N R0 R1 R2 (N6 A1.qo l N 0) ((0:Nat):Int)) y a):Wq Try.prog Q A8h ac .normal a y.w:=by
  refine C0 (ι:={ i:Nat // i<=l.length }) (fun i=>E0f l p v pw s N R0 R1 R2 (N6 A1.qo l N i.1) i.1) (fun i=>l.length-i.1) (c:=lpC A8h) (k:=lpR A8h) (by kernel_rfl) (fun i ih ac y b hs=>?_) ⟨0,Nat.zero_le _⟩ h0
  obtain ⟨i,hi⟩:=i;simp only at hs ih
  by_cases h:i<l.length
  · refine G8w l p v pw s N R0 R1 R2 (N6 A1.qo l N i) i ⟨decide_eq_true (by omega),by omega,by omega,by decide,by decide,by decide,by decide,by omega,by omega,rfl,by rw[C5 _ _ (by omega)];omega,trivial⟩ hs fun ac cZ aZ hs2=>?_
    have hw:wrap IntKind.i64 ((i:Int)+1)=((i+1:Nat):Int):=by rw[B0 (by omega) (by omega)];omega
    rw[hw,Int.toNat_natCast,A0x _ _ (by omega)] at hs2
    exact ih ⟨i+1,by omega⟩ (by show l.length-(i+1)<l.length-i;omega) ac cZ aZ (hs2.nx 1584)
  · have e' : i=l.length:=by omega
    subst e'
    exact G9b l p v pw s N R0 R1 R2 (N6 A1.qo l N l.length) _ ⟨decide_eq_false (by omega),trivial⟩ hs fun ac cZ aZ hs2=>next ac aZ cZ hs2
theorem F3u {w0:World} {F0:Nat->Prop} {K:Kp} {Q:Exit->Act->World->Prop} (l:List A1) (p v:Int) (pw:List G1D) (s:G2D) (N:Nat) (R0 R1 R2 R3:List U4) (h1:l.length<=N) (h6:N<=65536)
    (next:∀ac a y,Sim w0 F0 K ac (E0l l p v pw s N R0 R1 R2 R3 (B9 A1.qc l N)) y a->Wq Try.prog Q (D5 X4) ac .normal a y.w)
    {ac:List Act} {a:Act} {y:Ctx} (h0:Sim w0 F0 K ac (E0g l p v pw s N R0 R1 R2 R3 (N6 A1.qc l N 0) ((0:Nat):Int)) y a):Wq Try.prog Q A8i ac .normal a y.w:=by
  refine C0 (ι:={ i:Nat // i<=l.length }) (fun i=>E0g l p v pw s N R0 R1 R2 R3 (N6 A1.qc l N i.1) i.1) (fun i=>l.length-i.1) (c:=lpC A8i) (k:=lpR A8i) (by kernel_rfl) (fun i ih ac y b hs=>?_) ⟨0,Nat.zero_le _⟩ h0
  obtain ⟨i,hi⟩:=i;simp only at hs ih
  by_cases h:i<l.length
  · refine G8x l p v pw s N R0 R1 R2 R3 (N6 A1.qc l N i) i ⟨decide_eq_true (by omega),by omega,by omega,by decide,by decide,by decide,by decide,by omega,by omega,rfl,by rw[C5 _ _ (by omega)];omega,trivial⟩ hs fun ac cZ aZ hs2=>?_
    have hw:wrap IntKind.i64 ((i:Int)+1)=((i+1:Nat):Int):=by rw[B0 (by omega) (by omega)];omega
    rw[hw,Int.toNat_natCast,A0x _ _ (by omega)] at hs2
    exact ih ⟨i+1,by omega⟩ (by show l.length-(i+1)<l.length-i;omega) ac cZ aZ (hs2.nx 1840)
  · have e' : i=l.length:=by omega
    subst e'
    exact G9c l p v pw s N R0 R1 R2 R3 (N6 A1.qc l N l.length) _ ⟨decide_eq_false (by omega),trivial⟩ hs fun ac cZ aZ hs2=>next ac aZ cZ hs2
theorem F3v {w0:World} {F0:Nat->Prop} {K:Kp} {Q:Exit->Act->World->Prop} (l:List A1) (p v:Int) (pw:List G1D) (s:G2D) (N:Nat) (h1:l.length<=N) (h6:N<=65536)
    (next:∀ac a y,Sim w0 F0 K ac (E0l l p v pw s N (B9 A1.qm l N) (B9 A1.ql l N) (B9 A1.qr l N) (B9 A1.qo l N) (B9 A1.qc l N)) y a->Wq Try.prog Q (B5 X4) ac .normal a y.w)
    {ac:List Act} {a:Act} {y:Ctx} (hs:Sim w0 F0 K ac (E5o l p v pw s N) y a):Wq Try.prog Q X4 ac .normal a y.w:=by
  let I:{ w:Nat // w<=5 } -> List Act->Act->World->Prop:=fun w ac a W=>∃y,W=y.w∧Sim w0 F0 K ac (match w.1 with
    | 0=>E5o l p v pw s N
    | 1=>E0h l p v pw s N (B9 A1.qm l N)
    | 2=>E0i l p v pw s N (B9 A1.qm l N) (B9 A1.ql l N)
    | 3=>E0j l p v pw s N (B9 A1.qm l N) (B9 A1.ql l N) (B9 A1.qr l N)
    | 4=>E0k l p v pw s N (B9 A1.qm l N) (B9 A1.ql l N) (B9 A1.qr l N) (B9 A1.qo l N)
    | _=>E0l l p v pw s N (B9 A1.qm l N) (B9 A1.ql l N) (B9 A1.qr l N) (B9 A1.qo l N) (B9 A1.qc l N)) y a
  have l0:(0:Nat)<=5:=by decide
  refine I2 I (fun w=>5-w.1) (c:=lpC X4) (k:=lpR X4) (by kernel_rfl) (fun w ih ac b W hI=>?_) ⟨0,l0⟩ (show I ⟨0,l0⟩ ac a y.w from ⟨y,rfl,hs⟩)
  obtain ⟨w,hw5⟩:=w;obtain ⟨y,rfl,hs⟩:=hI;match w,hw5 with
  | 0,_=>
    have hs:Sim w0 F0 K ac (E5o l p v pw s N) y b:=hs;refine G8o l p v pw s N ⟨decide_eq_true (by decide),by omega,rfl,by omega,by omega,by decide,by decide,trivial⟩ hs fun ac cZ aZ hs2=>?_
    exact F3q l p v pw s N h1 h6 (fun ac a y h=>ih ⟨1,by decide⟩ (by show 5-1<5-0;decide) ac a _ ⟨y,rfl,h⟩) hs2
  | 1,_=>
    have hs:Sim w0 F0 K ac (E0h l p v pw s N (B9 A1.qm l N)) y b:=hs;refine G8p l p v pw s N (B9 A1.qm l N) ⟨decide_eq_true (by decide),by omega,rfl,by omega,by omega,by decide,by decide,trivial⟩ hs fun ac cZ aZ hs2=>?_
    exact F3r l p v pw s N (B9 A1.qm l N) h1 h6 (fun ac a y h=>ih ⟨2,by decide⟩ (by show 5-2<5-1;decide) ac a _ ⟨y,rfl,h⟩) hs2
  | 2,_=>
    have hs:Sim w0 F0 K ac (E0i l p v pw s N (B9 A1.qm l N) (B9 A1.ql l N)) y b:=hs;refine G8q l p v pw s N (B9 A1.qm l N) (B9 A1.ql l N) ⟨decide_eq_true (by decide),by omega,rfl,by omega,by omega,by decide,by decide,trivial⟩ hs fun ac cZ aZ hs2=>?_
    exact F3s l p v pw s N (B9 A1.qm l N) (B9 A1.ql l N) h1 h6 (fun ac a y h=>ih ⟨3,by decide⟩ (by show 5-3<5-2;decide) ac a _ ⟨y,rfl,h⟩) hs2
  | 3,_=>
    have hs:Sim w0 F0 K ac (E0j l p v pw s N (B9 A1.qm l N) (B9 A1.ql l N) (B9 A1.qr l N)) y b:=hs;refine G8r l p v pw s N (B9 A1.qm l N) (B9 A1.ql l N) (B9 A1.qr l N) ⟨decide_eq_true (by decide),by omega,rfl,by omega,by omega,by decide,by decide,trivial⟩ hs fun ac cZ aZ hs2=>?_
    exact F3t l p v pw s N (B9 A1.qm l N) (B9 A1.ql l N) (B9 A1.qr l N) h1 h6 (fun ac a y h=>ih ⟨4,by decide⟩ (by show 5-4<5-3;decide) ac a _ ⟨y,rfl,h⟩) hs2
  | 4,_=>
    have hs:Sim w0 F0 K ac (E0k l p v pw s N (B9 A1.qm l N) (B9 A1.ql l N) (B9 A1.qr l N) (B9 A1.qo l N)) y b:=hs;refine G8s l p v pw s N (B9 A1.qm l N) (B9 A1.ql l N) (B9 A1.qr l N) (B9 A1.qo l N) ⟨decide_eq_true (by decide),by omega,rfl,by omega,by omega,by decide,by decide,trivial⟩ hs fun ac cZ aZ hs2=>?_
    exact F3u l p v pw s N (B9 A1.qm l N) (B9 A1.ql l N) (B9 A1.qr l N) (B9 A1.qo l N) h1 h6 (fun ac a y h=>ih ⟨5,by decide⟩ (by show 5-5<5-4;decide) ac a _ ⟨y,rfl,h⟩) hs2
  | 5,_=>exact next ac b y hs
/-- The first number of a list that is not 0. -/
def M6:List Int->Int
 | []=>0
 | e::l=>if e=0 then M6 l else e
theorem F0s:S4.inF (S4.smF 1)≠0:=by unfold S4.smF;rw[S4.B8i];decide
theorem F4 (l:List A1) (R:List U4):(kyV l R).length=2 ^ (lgI l).toNat:=by
 show (cfV (lgI l) (S4.D2 (lgI l)) (S4.smF 1) R).length=_;unfold cfV;rw[List.length_map,S4.B7c]
def kyE (pw:List G1D) (l:List A1) (R0 R1 R2 R3 R4 Y0 Y1 Y2:List U4):Int:=M6 [(kyC pw l R0).2,(kyC pw l R1).2,(kyC pw l R2).2,(kyC pw l R3).2,(kyC pw l R4).2,(kyC pw l Y0).2,(kyC pw l Y1).2,(kyC pw l Y2).2]
theorem A0i {e:Int} (h:¬e=0):(e != 0)=true:=by simp [h]
theorem D7 {e:Int} (h:e=0):(e != 0)=false:=by simp [h]
section
variable {x:Ctx} (l:List A1) (p v:Int) (pw:List G1D) (s:G2D) (N:Nat) (R0 R1 R2 R3 R4 Y0 Y1 Y2:List U4) (hk:∀p,x.k p = .no) (hF:∀b,x.F b->b<x.w.heap.size) (hd:S4.E9 (lgI l) (S4.D2 (lgI l))=true) (hN:N=2 ^ (lgI l).toNat) (h6:N<=65536)
 (g0:R0.length=N) (g1:R1.length=N) (g2:R2.length=N) (g3:R3.length=N) (g4:R4.length=N) (g5:Y0.length=N) (g6:Y1.length=N) (g7:Y2.length=N) {ac:List Act} {a:Act} {y:Ctx} (hs:Sim x.w x.F Z8 ac (kyP l p v pw s N R0 R1 R2 R3 R4 Y0 Y1 Y2 N N N) y a)
include hk hF hd hN h6 g0 g1 g2 g3 g4 g5 g6 g7 hs in
theorem G0f (e0:((kyC pw l R0).2 != 0)=false) (e1:((kyC pw l R1).2 != 0)=false) (e2:((kyC pw l R2).2 != 0)=false) (e3:((kyC pw l R3).2 != 0)=false) (e4:((kyC pw l R4).2 != 0)=false) (e5:((kyC pw l Y0).2 != 0)=false) (e6:((kyC pw l Y1).2 != 0)=false) (e7:((kyC pw l Y2).2 != 0)=false):Wq Try.prog (A9r Try.prog Try.f5 x (.t [.a (pvF (lgI l) p (.slc 0 0 N 4) (.slc 1 0 N 4) (.slc 2 0 N 4) (.slc 3 0 N 4) (.slc 4 0 N 4) (.slc 5 0 N 4) (.slc 6 0 N 4) (.slc 7 0 N 4) pw s (kyC pw l R0).1 (kyC pw l R1).1 (kyC pw l R2).1 (kyC pw l R3).1 (kyC pw l R4).1 (kyC pw l Y0).1 (kyC pw l Y1).1 (kyC pw l Y2).1),.c (.int .i64 0)]) [.sq (.fr R0),.sq (.fr R1),.sq (.fr R2),.sq (.fr R3),.sq (.fr R4),.sq (.fr Y0),.sq (.fr Y1),.sq (.fr Y2)]) A3o ac .normal a y.w:=by
 have m0:R0.length=2 ^ (lgI l).toNat:=g0.trans hN;have m1:R1.length=2 ^ (lgI l).toNat:=g1.trans hN;have m2:R2.length=2 ^ (lgI l).toNat:=g2.trans hN;have m3:R3.length=2 ^ (lgI l).toNat:=g3.trans hN;have m4:R4.length=2 ^ (lgI l).toNat:=g4.trans hN;have m5:Y0.length=2 ^ (lgI l).toNat:=g5.trans hN;have m6:Y1.length=2 ^ (lgI l).toNat:=g6.trans hN;have m7:Y2.length=2 ^ (lgI l).toNat:=g7.trans hN;have k0:(kyV l R0).length<=262144:=by rw[F4,<-hN];omega
 have k1:(kyV l R1).length<=262144:=by rw[F4,<-hN];omega
 have k2:(kyV l R2).length<=262144:=by rw[F4,<-hN];omega
 have k3:(kyV l R3).length<=262144:=by rw[F4,<-hN];omega
 have k4:(kyV l R4).length<=262144:=by rw[F4,<-hN];omega
 have k5:(kyV l Y0).length<=262144:=by rw[F4,<-hN];omega
 have k6:(kyV l Y1).length<=262144:=by rw[F4,<-hN];omega
 have k7:(kyV l Y2).length<=262144:=by rw[F4,<-hN];omega
 have u0:N=R0.length:=g0.symm;have u1:N=R1.length:=g1.symm;have u2:N=R2.length:=g2.symm;have u3:N=R3.length:=g3.symm;have u4:N=R4.length:=g4.symm;have u5:N=Y0.length:=g5.symm;have u6:N=Y1.length:=g6.symm;have u7:N=Y2.length:=g7.symm;have hsm:=F0s;exact C7 I6 hk hF (E5z l p v pw s N R0 R1 R2 R3 R4 Y0 Y1 Y2 N N N) (by simp only[A3];and_intros<;>first | with_reducible assumption | with_reducible exact rfl | exact trivial | decide) (fun y v hd=>hd) hs
include hk hF hd hN h6 g0 g1 g2 g3 g4 g5 g6 g7 hs in
theorem F3p (h:kyE pw l R0 R1 R2 R3 R4 Y0 Y1 Y2≠0):Wq Try.prog (A9r Try.prog Try.f5 x (.t [.a pvZ,.c (.int .i64 (kyE pw l R0 R1 R2 R3 R4 Y0 Y1 Y2))]) []) A3o ac .normal a y.w:=by
 have m0:R0.length=2 ^ (lgI l).toNat:=g0.trans hN;have m1:R1.length=2 ^ (lgI l).toNat:=g1.trans hN;have m2:R2.length=2 ^ (lgI l).toNat:=g2.trans hN;have m3:R3.length=2 ^ (lgI l).toNat:=g3.trans hN;have m4:R4.length=2 ^ (lgI l).toNat:=g4.trans hN;have m5:Y0.length=2 ^ (lgI l).toNat:=g5.trans hN;have m6:Y1.length=2 ^ (lgI l).toNat:=g6.trans hN;have m7:Y2.length=2 ^ (lgI l).toNat:=g7.trans hN;have k0:(kyV l R0).length<=262144:=by rw[F4,<-hN];omega
 have k1:(kyV l R1).length<=262144:=by rw[F4,<-hN];omega
 have k2:(kyV l R2).length<=262144:=by rw[F4,<-hN];omega
 have k3:(kyV l R3).length<=262144:=by rw[F4,<-hN];omega
 have k4:(kyV l R4).length<=262144:=by rw[F4,<-hN];omega
 have k5:(kyV l Y0).length<=262144:=by rw[F4,<-hN];omega
 have k6:(kyV l Y1).length<=262144:=by rw[F4,<-hN];omega
 have k7:(kyV l Y2).length<=262144:=by rw[F4,<-hN];omega
 have u0:N=R0.length:=g0.symm;have u1:N=R1.length:=g1.symm;have u2:N=R2.length:=g2.symm;have u3:N=R3.length:=g3.symm;have u4:N=R4.length:=g4.symm;have u5:N=Y0.length:=g5.symm;have u6:N=Y1.length:=g6.symm;have u7:N=Y2.length:=g7.symm;have hsm:=F0s;by_cases c0:(kyC pw l R0).2=0
 case neg=>
  have hE:kyE pw l R0 R1 R2 R3 R4 Y0 Y1 Y2=(kyC pw l R0).2:=by unfold kyE;simp only[M6,c0,if_false]
  have e0:=A0i c0;rw[hE];exact C7 I6 hk hF (E5r l p v pw s N R0 R1 R2 R3 R4 Y0 Y1 Y2 N N N) (by simp only[A3];and_intros<;>first | with_reducible assumption | with_reducible exact rfl | exact trivial | decide) (fun y v hd=>hd) hs
 by_cases c1:(kyC pw l R1).2=0
 case neg=>
  have hE:kyE pw l R0 R1 R2 R3 R4 Y0 Y1 Y2=(kyC pw l R1).2:=by unfold kyE;simp only[M6,c0,c1,if_true,if_false]
  have e0:=D7 c0;have e1:=A0i c1;rw[hE];exact C7 I6 hk hF (E5s l p v pw s N R0 R1 R2 R3 R4 Y0 Y1 Y2 N N N) (by simp only[A3];and_intros<;>first | with_reducible assumption | with_reducible exact rfl | exact trivial | decide) (fun y v hd=>hd) hs
 by_cases c2:(kyC pw l R2).2=0
 case neg=>
  have hE:kyE pw l R0 R1 R2 R3 R4 Y0 Y1 Y2=(kyC pw l R2).2:=by unfold kyE;simp only[M6,c0,c1,c2,if_true,if_false]
  have e0:=D7 c0;have e1:=D7 c1;have e2:=A0i c2;rw[hE];exact C7 I6 hk hF (E5t l p v pw s N R0 R1 R2 R3 R4 Y0 Y1 Y2 N N N) (by simp only[A3];and_intros<;>first | with_reducible assumption | with_reducible exact rfl | exact trivial | decide) (fun y v hd=>hd) hs
 by_cases c3:(kyC pw l R3).2=0
 case neg=>
  have hE:kyE pw l R0 R1 R2 R3 R4 Y0 Y1 Y2=(kyC pw l R3).2:=by unfold kyE;simp only[M6,c0,c1,c2,c3,if_true,if_false]
  have e0:=D7 c0;have e1:=D7 c1;have e2:=D7 c2;have e3:=A0i c3;rw[hE];exact C7 I6 hk hF (E5u l p v pw s N R0 R1 R2 R3 R4 Y0 Y1 Y2 N N N) (by simp only[A3];and_intros<;>first | with_reducible assumption | with_reducible exact rfl | exact trivial | decide) (fun y v hd=>hd) hs
 by_cases c4:(kyC pw l R4).2=0
 case neg=>
  have hE:kyE pw l R0 R1 R2 R3 R4 Y0 Y1 Y2=(kyC pw l R4).2:=by unfold kyE;simp only[M6,c0,c1,c2,c3,c4,if_true,if_false]
  have e0:=D7 c0;have e1:=D7 c1;have e2:=D7 c2;have e3:=D7 c3;have e4:=A0i c4;rw[hE];exact C7 I6 hk hF (E5v l p v pw s N R0 R1 R2 R3 R4 Y0 Y1 Y2 N N N) (by simp only[A3];and_intros<;>first | with_reducible assumption | with_reducible exact rfl | exact trivial | decide) (fun y v hd=>hd) hs
 by_cases c5:(kyC pw l Y0).2=0
 case neg=>
  have hE:kyE pw l R0 R1 R2 R3 R4 Y0 Y1 Y2=(kyC pw l Y0).2:=by unfold kyE;simp only[M6,c0,c1,c2,c3,c4,c5,if_true,if_false]
  have e0:=D7 c0;have e1:=D7 c1;have e2:=D7 c2;have e3:=D7 c3;have e4:=D7 c4;have e5:=A0i c5;rw[hE];exact C7 I6 hk hF (E5w l p v pw s N R0 R1 R2 R3 R4 Y0 Y1 Y2 N N N) (by simp only[A3];and_intros<;>first | with_reducible assumption | with_reducible exact rfl | exact trivial | decide) (fun y v hd=>hd) hs
 by_cases c6:(kyC pw l Y1).2=0
 case neg=>
  have hE:kyE pw l R0 R1 R2 R3 R4 Y0 Y1 Y2=(kyC pw l Y1).2:=by unfold kyE;simp only[M6,c0,c1,c2,c3,c4,c5,c6,if_true,if_false]
  have e0:=D7 c0;have e1:=D7 c1;have e2:=D7 c2;have e3:=D7 c3;have e4:=D7 c4;have e5:=D7 c5;have e6:=A0i c6;rw[hE];exact C7 I6 hk hF (E5x l p v pw s N R0 R1 R2 R3 R4 Y0 Y1 Y2 N N N) (by simp only[A3];and_intros<;>first | with_reducible assumption | with_reducible exact rfl | exact trivial | decide) (fun y v hd=>hd) hs
 by_cases c7:(kyC pw l Y2).2=0
 case neg=>
  have hE:kyE pw l R0 R1 R2 R3 R4 Y0 Y1 Y2=(kyC pw l Y2).2:=by unfold kyE;simp only[M6,c0,c1,c2,c3,c4,c5,c6,c7,if_true,if_false]
  have e0:=D7 c0;have e1:=D7 c1;have e2:=D7 c2;have e3:=D7 c3;have e4:=D7 c4;have e5:=D7 c5;have e6:=D7 c6;have e7:=A0i c7;rw[hE];exact C7 I6 hk hF (E5y l p v pw s N R0 R1 R2 R3 R4 Y0 Y1 Y2 N N N) (by simp only[A3];and_intros<;>first | with_reducible assumption | with_reducible exact rfl | exact trivial | decide) (fun y v hd=>hd) hs
 exact absurd (by unfold kyE;simp only[M6,c0,c1,c2,c3,c4,c5,c6,c7,if_true]) h
end
/-- The rows' number. -/
def kyN (l:List A1):Nat:=2 ^ (lgI l).toNat
theorem C9s {x:Ctx} {r:SV} {es:List En} (l:List A1) (p v:Int) (pw:List G1D) (s:G2D) (N:Nat) (hr:C6 l p v=true) (hN:N=2 ^ (lgI l).toNat) (hp:N+6<=pw.length)
    (next:∀ac a y,Sim x.w x.F Z8 ac (kyP l p v pw s N (B9 A1.qm l N) (B9 A1.ql l N) (B9 A1.qr l N) (B9 A1.qo l N) (B9 A1.qc l N) (S4.vaR l (lgI l) 0) (S4.vaR l (lgI l) 1) (S4.vaR l (lgI l) 2) N N N) y a->S4.E9 (lgI l) (S4.D2 (lgI l))=true->N<=65536->l.length<=N->Wq Try.prog (A9r Try.prog Try.f5 x r es) A3o ac .normal a y.w)
    {a:Act} (hs:Sim x.w x.F Z8 [] (D6 Try.f5.ntmps [J2 l p v,.v (.a (P6 pw s))]) x a):Wq Try.prog (A9r Try.prog Try.f5 x r es) [.code (B2 Try.f5)] [] .normal a x.w:=by
  have hlim:l.length<=4096:=by simp [C6] at hr;omega
  obtain ⟨a1,a2,a3,_⟩:=A4g l.length hlim;have hlg:(lgI l).toNat=A0h l.length:=rfl;have hok:S4.K0 (lgI l)=true:=by unfold S4.K0 lgI;rw[decide_eq_true (Int.natCast_nonneg _),decide_eq_true (by omega)];rfl
  have hd:S4.E9 (lgI l) (S4.D2 (lgI l))=true:=by simp [S4.E9,hok]
  have h6:N<=65536:=by rw[hN,hlg];exact Nat.le_trans (Nat.pow_le_pow_right (by decide) a2) (by decide)
  have h1:l.length<=N:=by rw[hN,hlg];exact a3
  have hb1:-9223372036854775808<=(N:Int)+6:=by clear hN;omega
  have hb2:(N:Int)+6<9223372036854775808:=by clear hN;omega
  have hw:wrap .i64 ((1:Int)*((2:Int) ^ (min (lgI l).toNat 64)))=(N:Int):=by
    rw[hN];exact S4.F7d (Int.natCast_nonneg _) (by unfold lgI;omega)
  have hV:S4.vlN (lgI l)=N:=hN.symm;refine ky l p v pw s ⟨hr,rfl,Int.natCast_nonneg _,by rw[hw,B0 hb1 hb2];exact decide_eq_false (by clear hN;omega),trivial⟩ hs fun ac cY aY hs1=>?_
  rw[hw] at hs1;refine F3v l p v pw s N h1 h6 (fun ac aZ cZ hs2=>?_) hs1
  refine kyD l p v pw s N (B9 A1.qm l N) (B9 A1.ql l N) (B9 A1.qr l N) (B9 A1.qo l N) (B9 A1.qc l N) ⟨decide_eq_false (by decide),hr,hok,by rw[hV];exact h1,hlim,rfl,hok,trivial⟩ hs2 fun ac cD aD hs3=>?_
  rw[S4.H8,S4.H8,S4.H8,hV] at hs3;exact next ac aD cD hs3 hd h6 h1
theorem F3n (l:List A1) (p v:Int) (pw:List G1D) (s:G2D) (N:Nat) (hr:C6 l p v=true) (hN:N=2 ^ (lgI l).toNat) (hp:N+6<=pw.length)
  (e0:(kyC pw l (B9 A1.qm l N)).2=0) (e1:(kyC pw l (B9 A1.ql l N)).2=0) (e2:(kyC pw l (B9 A1.qr l N)).2=0) (e3:(kyC pw l (B9 A1.qo l N)).2=0) (e4:(kyC pw l (B9 A1.qc l N)).2=0) (e5:(kyC pw l (S4.vaR l (lgI l) 0)).2=0) (e6:(kyC pw l (S4.vaR l (lgI l) 1)).2=0) (e7:(kyC pw l (S4.vaR l (lgI l) 2)).2=0) :
  FnD Try.prog 5 [J2 l p v,.v (.a (P6 pw s))] (.t [.a (pvF (lgI l) p (.slc 0 0 N 4) (.slc 1 0 N 4) (.slc 2 0 N 4) (.slc 3 0 N 4) (.slc 4 0 N 4) (.slc 5 0 N 4) (.slc 6 0 N 4) (.slc 7 0 N 4) pw s (kyC pw l (B9 A1.qm l N)).1 (kyC pw l (B9 A1.ql l N)).1 (kyC pw l (B9 A1.qr l N)).1 (kyC pw l (B9 A1.qo l N)).1 (kyC pw l (B9 A1.qc l N)).1 (kyC pw l (S4.vaR l (lgI l) 0)).1 (kyC pw l (S4.vaR l (lgI l) 1)).1 (kyC pw l (S4.vaR l (lgI l) 2)).1),.c (.int .i64 0)]) [.sq (.fr (B9 A1.qm l N)),.sq (.fr (B9 A1.ql l N)),.sq (.fr (B9 A1.qr l N)),.sq (.fr (B9 A1.qo l N)),.sq (.fr (B9 A1.qc l N)),.sq (.fr (S4.vaR l (lgI l) 0)),.sq (.fr (S4.vaR l (lgI l) 1)),.sq (.fr (S4.vaR l (lgI l) 2))]:=by
 refine F5 (fn:=Try.f5) (c:=B2 Try.f5) Try.func5 rfl rfl fun x b hk hF hs=>?_
 refine C9s l p v pw s N hr hN hp (fun ac aD cD hs3 hd h6 h1=>?_) hs
 have hV:S4.vlN (lgI l)=N:=hN.symm;exact G0f l p v pw s N (B9 A1.qm l N) (B9 A1.ql l N) (B9 A1.qr l N) (B9 A1.qo l N) (B9 A1.qc l N) (S4.vaR l (lgI l) 0) (S4.vaR l (lgI l) 1) (S4.vaR l (lgI l) 2) hk hF hd hN h6 (C5 _ _ h1) (C5 _ _ h1) (C5 _ _ h1) (C5 _ _ h1) (C5 _ _ h1) ((S4.H8 ..).trans hV) ((S4.H8 ..).trans hV) ((S4.H8 ..).trans hV) hs3 (D7 e0) (D7 e1) (D7 e2) (D7 e3) (D7 e4) (D7 e5) (D7 e6) (D7 e7)
theorem E5k (l:List A1) (p v:Int) (pw:List G1D) (s:G2D) (N:Nat) (hr:C6 l p v=true) (hN:N=2 ^ (lgI l).toNat) (hp:N+6<=pw.length) (h:kyE pw l (B9 A1.qm l N) (B9 A1.ql l N) (B9 A1.qr l N) (B9 A1.qo l N) (B9 A1.qc l N) (S4.vaR l (lgI l) 0) (S4.vaR l (lgI l) 1) (S4.vaR l (lgI l) 2)≠0) :
  FnD Try.prog 5 [J2 l p v,.v (.a (P6 pw s))] (.t [.a pvZ,.c (.int .i64 (kyE pw l (B9 A1.qm l N) (B9 A1.ql l N) (B9 A1.qr l N) (B9 A1.qo l N) (B9 A1.qc l N) (S4.vaR l (lgI l) 0) (S4.vaR l (lgI l) 1) (S4.vaR l (lgI l) 2)))]) []:=by
 refine F5 (fn:=Try.f5) (c:=B2 Try.f5) Try.func5 rfl rfl fun x b hk hF hs=>?_
 refine C9s l p v pw s N hr hN hp (fun ac aD cD hs3 hd h6 h1=>?_) hs
 have hV:S4.vlN (lgI l)=N:=hN.symm;exact F3p l p v pw s N (B9 A1.qm l N) (B9 A1.ql l N) (B9 A1.qr l N) (B9 A1.qo l N) (B9 A1.qc l N) (S4.vaR l (lgI l) 0) (S4.vaR l (lgI l) 1) (S4.vaR l (lgI l) 2) hk hF hd hN h6 (C5 _ _ h1) (C5 _ _ h1) (C5 _ _ h1) (C5 _ _ h1) (C5 _ _ h1) ((S4.H8 ..).trans hV) ((S4.H8 ..).trans hV) ((S4.H8 ..).trans hV) hs3 h
theorem E5l (l:List A1) (p v:Int) (pw:List G1D) (s:G2D) (N:Nat) (hr:C6 l p v=true) (hN:N=2 ^ (lgI l).toNat) (hp:pw.length<N+6) :
  FnD Try.prog 5 [J2 l p v,.v (.a (P6 pw s))] (.t [.a pvZ,.c (.int .i64 50)]) []:=by
 have hlim:l.length<=4096:=by simp [C6] at hr;omega
 obtain ⟨a1,a2,a3,_⟩:=A4g l.length hlim;have hlg:(lgI l).toNat=A0h l.length:=rfl;have hok:S4.K0 (lgI l)=true:=by unfold S4.K0 lgI;rw[decide_eq_true (Int.natCast_nonneg _),decide_eq_true (by omega)];rfl
 have hd:S4.E9 (lgI l) (S4.D2 (lgI l))=true:=by simp [S4.E9,hok]
 have h6:N<=65536:=by rw[hN,hlg];exact Nat.le_trans (Nat.pow_le_pow_right (by decide) a2) (by decide)
 have h1:l.length<=N:=by rw[hN,hlg];exact a3
 have hb1:-9223372036854775808<=(N:Int)+6:=by clear hN;omega
 have hb2:(N:Int)+6<9223372036854775808:=by clear hN;omega
 have hw:wrap .i64 ((1:Int)*((2:Int) ^ (min (lgI l).toNat 64)))=(N:Int):=by
  rw[hN];exact S4.F7d (Int.natCast_nonneg _) (by unfold lgI;omega)
 have hV:S4.vlN (lgI l)=N:=hN.symm;exact A7 I6 Try.func5 (G9e l p v pw s) ⟨hr,rfl,Int.natCast_nonneg _,by rw[hw,B0 hb1 hb2];exact decide_eq_true (by clear hN;omega),trivial⟩
theorem E5m (l:List A1) (p v:Int) (pw:List G1D) (s:G2D) (hr:C6 l p v=false) :
  FnD Try.prog 5 [J2 l p v,.v (.a (P6 pw s))] (.t [.a pvZ,.c (.int .i64 1)]) []:=
 A7 F9x Try.func5 (G9d l p v pw s) ⟨hr,rfl,trivial⟩
end

section
section
variable {w0:World} {F0:Nat->Prop} {K:Kp} {ac:List Act} {Q:Exit->Act->World->Prop} {cX:Ctx} {aX:Act}

def C4q:B7
 | [.v (.a [.ob (.fr a)])]=>some ([],.v (.a [.ob (.fr (S4.A3y a))]),[])
 | _=>none
def clA:Env:=keT.set (E8 keT.fn 34 C4q)
theorem A2q:A6 Try.prog clA:=A9 I6 34 C4q (A4 Try.func34 rfl rfl) fun args o r es h _=>by
 unfold C4q at h;split at h
 ·cases h;exact S4.D9k _
 ·cases h
def D9l:List KI:=(run clA false 3000 (⟨[.code (B2 Try.f13)],.normal,D6 Try.f13.ntmps [J2 dF dF dF,.v (.c (.int .i64 dF)),.v (.c (.int .i64 dF))]⟩:Cfg) []).cfg.k
theorem co (l:List A1) (p v i n:Int):A3 [(0<=n),(n=n),(((32:Int)*n)<=(281474976710656:Int)),(n<=(9223372036854775807:Int))]->Sg Try.prog (D6 Try.f13.ntmps [J2 l p v,.v (.c (.int .i64 i)),.v (.c (.int .i64 n))]) (A5 40 [1,7,13,14,15] [.ii i,(.ci (.slc 64 0 (n).toNat 4)),(.ci (.sl (.gate l))),(.ii (l.length:Int)),.ii (0:Int)] [64] [(eQ_ (.fr (List.replicate (n).toNat 0)))] 160 [] []) .normal (D9l) ([.code (B2 Try.f13)]):=sgA false 3000 [] A2q
def coS (l:List A1) (i :Int) (N:Nat) (R:List U4) (j :Int):St:=A5 40 [1,7,13,14,15] [.ii i,.v (.c (.slc 64 0 N 4)),(.ci (.sl (.gate l))),(.ii (l.length:Int)),.v (.c (.int .i64 j))] [64] [some (.sq (.fr R))] 160 [] []
theorem coN (l:List A1) (i:Int) (N:Nat) (R:List U4) (j:Int):let a:=List.getD l (j).toNat F6;let b:=((([(A1.qm a)]++[(A1.ql a)])++[(A1.qr a)])++[(A1.qo a)])++[(A1.qc a)];let c:=j<(l.length:Int);A3 [((decide c)=true),(0<=j),c,(0<=i),(i<(5:Int)),(0=0),((i).toNat<b.length),(0<=j),(j<((N:Nat):Int)),(0=0),((j).toNat<R.length)]->Sg Try.prog (coS l i N R j) (St.z (coS l i N (List.set R (j).toNat (S4.A3y (List.getD b (i).toNat 0))) (wrap .i64 (j+1))) 608) .normal (D5 D9l) (B5 D9l):=sgA false 3000 [true] A2q
theorem F2l (l:List A1) (i:Int) (N:Nat) (R:List U4) (j:Int):C2 clA Try.f13 false 3000 (⟨B5 D9l,.normal,coS l i N R j⟩) [false] [64] []=(some ([((decide (j<(l.length:Int)))=false)],((.ci (.slc 0 0 N 4)),[(.sq (.fr R))]))):=by kernel_rfl
def lkS (a:List U4) (i :Int):St:=A5 26 [0,1,12,13] [(.ci (.sl (.fr a))),(.ci (.sl (.fr a))),(.ii (a.length:Int)),.v (.c (.int .i64 i))] [] [] 160 [] []
def C2s:List KI:=(run clA false 3000 (⟨[.code (B2 Try.f14)],.normal,D6 Try.f14.ntmps [.v (.c (.sl (.fr dF))),.v (.c (.sl (.fr dF)))]⟩:Cfg) [false]).cfg.k
theorem lkI (a:List U4):A3 [(((a.length:Int) != (a.length:Int))=false)]->Sg Try.prog (D6 Try.f14.ntmps [.v (.c (.sl (.fr a))),.v (.c (.sl (.fr a)))]) (lkS a (0:Int)) .normal (C2s) ([.code (B2 Try.f14)]):=sgA false 3000 [false] A2q
theorem lkN (a:List U4) (i:Int):let b:=a.getD i.toNat 0;let c:=i<(a.length:Int);let d:=decide (b=b);A3 [((decide c)=true),(0<=i),c,(0<=i),c,((ite (false=true) d (Bool.not d))=false)]->Sg Try.prog (lkS a i) (St.z (lkS a (wrap .i64 (i+1))) 384) .normal (D5 C2s) (B5 C2s):=sgA false 3000 [true,false] A2q
theorem F3x (a:List U4) (i:Int):C2 clA Try.f14 false 3000 (⟨B5 C2s,.normal,lkS a i⟩) [false] [] []=(some ([((decide (i<(a.length:Int)))=false)],((.ci (.lit true)),[]))):=by kernel_rfl
theorem fwA (l:List A1) (p v:Int):let b:Int:=l.length;let c:Int:=20;C9 clA Try.f4 3000 [J2 l p v] [true,true] [] []=(some ([((decide (b > c))=true),((decide (b<=(4096:Int)))=true),(0<=c),(c<=b)],((.v (.a [(.sl (.gate (List.take 20 (List.drop 0 l)))),(.int .i64 p),(.int .i64 v)])),[]))):=by intros;kernel_rfl
theorem fwB (l:List A1) (p v:Int):let b:Int:=l.length;C9 clA Try.f4 3000 [J2 l p v] [true,false] [] []=(some ([((decide (b > (20:Int)))=true),((decide (b<=(4096:Int)))=false)],((.v (.a [(.sl (.gate l)),(.int .i64 p),(.int .i64 v)])),[]))):=by intros;kernel_rfl
theorem fwC (l:List A1) (p v:Int):C9 clA Try.f4 3000 [J2 l p v] [false] [] []=(some ([((decide ((l.length:Int) > (20:Int)))=false)],((.v (.a [(.sl (.gate l)),(.int .i64 p),(.int .i64 v)])),[]))):=by kernel_rfl
theorem G7v  : C9 clA Try.f7 3000 [] [true] [] []=(some ([((C6 ([]:List A1) (0:Int) (0:Int))=true),(((0:Int)==0)=true)],((.ci (.bool ((1:Int)==1))),[]))):=by kernel_rfl
end
end

section

theorem D9j (a:U4):S4.A3y a=S4.I8 (S4.inF a):=by
 apply Fin.ext
 rw[S4.A3z];exact (Nat.mod_eq_of_lt (Nat.lt_trans (Nat.mod_lt _ (by decide)) (by decide))).symm
/-- A selector by its number. -/
def qOf (i:Int):A1->U4:=match i.toNat with
 | 0=>A1.qm
 | 1=>A1.ql
 | 2=>A1.qr
 | 3=>A1.qo
 | _=>A1.qc
theorem G2a (g:A1) {i:Int} (h0:0<=i) (h5:i<5):List.getD (((([g.qm]++[g.ql])++[g.qr])++[g.qo])++[g.qc]) i.toNat 0=qOf i g:=by
 have h:i=0∨i=1∨i=2∨i=3∨i=4:=by omega
 rcases h with rfl | rfl | rfl | rfl | rfl<;>rfl
theorem D2u (l:List A1) (p v i:Int) (N:Nat) (h0:0<=i) (h5:i<5) (h1:l.length<=N) (h6:N<=65536):FnD Try.prog 13 [J2 l p v,.v (.c (.int .i64 i)),.v (.c (.int .i64 (N:Int)))] (.v (.c (.slc 0 0 N 4))) [.sq (.fr (B9 (qOf i) l N))]:=by
 refine F5 (fn:=Try.f13) (c:=B2 Try.f13) Try.func13 rfl rfl fun x a0 hk hF hs=>?_
 refine co l p v i N ⟨by omega,rfl,by omega,by omega,trivial⟩ hs fun ac cY aY hs1=>?_
 rw[Int.toNat_natCast] at hs1;refine C0 (ι:={ j:Nat // j<=l.length }) (fun j=>coS l i N (N6 (qOf i) l N j.1) j.1) (fun j=>l.length-j.1) (c:=lpC D9l) (k:=lpR D9l) (by kernel_rfl) (fun j ih ac y b hs=>?_) ⟨0,Nat.zero_le _⟩ hs1
 obtain ⟨j,hj⟩:=j;simp only at hs ih
 by_cases h:j<l.length
 ·refine coN l i N (N6 (qOf i) l N j) j ⟨decide_eq_true (by omega),by omega,by omega,h0,h5,rfl,by simp only[List.length_append,List.length_singleton];omega,by omega,by omega,rfl,by rw[C5 _ _ (by omega)];omega,trivial⟩ hs fun ac cZ aZ hs2=>?_
  have hw:wrap IntKind.i64 ((j:Int)+1)=((j+1:Nat):Int):=by rw[B0 (by omega) (by omega)];omega
  rw[hw,Int.toNat_natCast,G2a _ h0 h5,D9j,A0x _ _ (by omega)] at hs2
  exact ih ⟨j+1,by omega⟩ (by show l.length-(j+1)<l.length-j;omega) ac cZ aZ (hs2.nx 160)
 ·have e' : j=l.length:=by omega
  subst e'
  exact C7 A2q hk hF (F2l l i N (N6 (qOf i) l N l.length) _) ⟨decide_eq_false (by omega),trivial⟩ (fun y v hd=>hd) hs
theorem E6d (a:List U4):FnD Try.prog 14 [.v (.c (.sl (.fr a))),.v (.c (.sl (.fr a)))] (.v (.c (.lit true))) []:=by
 refine F5 (fn:=Try.f14) (c:=B2 Try.f14) Try.func14 rfl rfl fun x a0 hk hF hs=>?_
 have hla:a.length<=maxLen:=F0q (q:=.fr a) (hs.t 0);unfold maxLen at hla;refine lkI a ⟨by simp,trivial⟩ hs fun ac cY aY hs1=>?_
 refine C0 (ι:={ j:Nat // j<=a.length }) (fun j=>lkS a j.1) (fun j=>a.length-j.1) (c:=lpC C2s) (k:=lpR C2s) (by kernel_rfl) (fun j ih ac y b hs=>?_) ⟨0,Nat.zero_le _⟩ hs1
 obtain ⟨j,hj⟩:=j;simp only at hs ih
 by_cases h:j<a.length
 ·refine lkN a j ⟨decide_eq_true (by omega),by omega,by omega,by omega,by omega,by rw[decide_eq_true rfl];rfl,trivial⟩ hs fun ac cZ aZ hs2=>?_
  have hw:wrap IntKind.i64 ((j:Int)+1)=((j+1:Nat):Int):=by rw[B0 (by omega) (by omega)];omega
  rw[hw] at hs2;exact ih ⟨j+1,by omega⟩ (by show a.length-(j+1)<a.length-j;omega) ac cZ aZ (hs2.nx 160)
 ·exact C7 A2q hk hF (F3x a j) ⟨decide_eq_false (by omega),trivial⟩ (fun y v hd=>hd) hs
/-- A circuit of few gates. -/
def D3i (l:List A1):List A1:=if 20<l.length∧l.length<=4096 then l.take 20 else l
theorem F3a (l:List A1) (p v:Int):FnD Try.prog 4 [J2 l p v] (J2 (D3i l) p v) []:=by
 by_cases h:20<l.length
 ·by_cases g:l.length<=4096
  ·have e:D3i l=l.take 20:=if_pos ⟨h,g⟩
   rw[e];exact A7 A2q Try.func4 (fwA l p v) ⟨decide_eq_true (by omega),decide_eq_true (by omega),by decide,by omega,trivial⟩
  ·have e:D3i l=l:=if_neg fun q=>g q.2
   rw[e];exact A7 A2q Try.func4 (fwB l p v) ⟨decide_eq_true (by omega),decide_eq_false (by omega),trivial⟩
 ·have e:D3i l=l:=if_neg fun q=>h q.1
  rw[e];exact A7 A2q Try.func4 (fwC l p v) ⟨decide_eq_false (by omega),trivial⟩
theorem D8o:FnD Try.prog 7 [] (.v (.c (.bool true))) []:=
 A7 A2q Try.func7 G7v ⟨by decide,by decide,trivial⟩
end

section
section
variable {w0:World} {F0:Nat->Prop} {K:Kp} {ac:List Act} {Q:Exit->Act->World->Prop} {cX:Ctx} {aX:Act}

def vkZ  : List It := [.int .i64 0, .int .i64 0, .ob (.fp 0), .ob (.fp 0), .lit false, .ob (.fp 0), .ob (.fp 0), .lit false, .ob (.fp 0), .ob (.fp 0), .lit false, .ob (.fp 0), .ob (.fp 0), .lit false, .ob (.fp 0), .ob (.fp 0), .lit false, .ob (.fp 0), .ob (.fp 0), .lit false, .ob (.fp 0), .ob (.fp 0), .lit false, .ob (.fp 0), .ob (.fp 0), .lit false, .ob (.fp 0), .ob (.fp 0), .ob (.fp 0), .ob (.fp 0), .lit false] -- @lst
abbrev kyR (l:List A1) (i:Int):List U4:=B9 (qOf i) l (kyN l)
abbrev kyW (l:List A1) (i:Nat):List U4:=S4.vaR l (lgI l) i
/-- What Keys tells when a commitment fails. -/
def U2 (pw:List G1D) (l:List A1):Int:=kyE pw l (B9 A1.qm l (kyN l)) (B9 A1.ql l (kyN l)) (B9 A1.qr l (kyN l)) (B9 A1.qo l (kyN l)) (B9 A1.qc l (kyN l)) (S4.vaR l (lgI l) 0) (S4.vaR l (lgI l) 1) (S4.vaR l (lgI l) 2)
theorem F2h (log:Int) (w s:U4) (l:List U4) (h:S4.inF s=1):cfV log w s l=cfV log w (S4.smF 1) l:=by
 have e:S4.inF (S4.smF 1)=1:=S4.B8i _;unfold cfV;rw[h,e]
theorem E3q (log:Int) (w s:U4) (l:List U4) (hd:S4.E9 log w=true) (hl:l.length=2 ^ log.toNat) (h:S4.inF s=1):FnD Try.prog 10 [.v (.a [.int .i64 log,.ob (.fr w)]),.v (.a [.ob (.fr s)]),.v (.c (.sl (.fr l)))] (.t [.c (.slc 0 0 (cfV log w (S4.smF 1) l).length 4),.c (.int .i64 0)]) [.sq (.fr (cfV log w (S4.smF 1) l))]:=by
 rw[<-F2h log w s l h];exact D6m log w s l hd hl (by rw[h];decide)
theorem C8h (l:List A1) (p v i n:Int) (h0:0<=i) (h5:i<5) (hn:0<=n) (h1:l.length<=n.toNat) (h6:n<=65536):FnD Try.prog 13 [J2 l p v,.v (.c (.int .i64 i)),.v (.c (.int .i64 n))] (.v (.c (.slc 0 0 n.toNat 4))) [.sq (.fr (B9 (qOf i) l n.toNat))]:=by
 have h:=D2u l p v i n.toNat h0 h5 h1 (by omega)
 rw[Int.toNat_of_nonneg hn] at h;exact h
theorem E0o (a b:List U4) (h:a=b):FnD Try.prog 14 [.v (.c (.sl (.fr a))),.v (.c (.sl (.fr b)))] (.v (.c (.lit true))) []:=by
 rw[h];exact E6d b
def E6f:B7
 | [.v (.a [.sl (.gate l),.int .i64 p,.int .i64 v])]=>some ([],.v (.a [.sl (.gate (D3i l)),.int .i64 p,.int .i64 v]),[])
 | _=>none
def G0i:Env:=keE.set (E8 keE.fn 4 E6f)
theorem F3y:A6 Try.prog G0i:=A9 D3v 4 E6f (A4 Try.func4 rfl rfl) fun args o r es h _=>by
 unfold E6f at h;split at h
 ·cases h;exact F3a _ _ _
 ·cases h
def G0m:B7
 | []=>some ([],.v (.c (.bool true)),[])
 | _=>none
def G0j:Env:=G0i.set (E8 G0i.fn 7 G0m)
theorem F3z:A6 Try.prog G0j:=A9 F3y 7 G0m (A4 Try.func7 rfl rfl) fun args o r es h _=>by
 unfold G0m at h;split at h
 ·cases h;exact D8o
 ·cases h
def G0n:B7
 | [.v (.a [.int .i64 log,.ob (.fr w)]),.v (.a [.ob (.fr s)]),.v (.c (.sl (.fr l)))]=>some ([S4.E9 log w=true,l.length=2 ^ log.toNat,S4.inF s=1],.t [.c (.slc 0 0 (cfV log w (S4.smF 1) l).length 4),.c (.int .i64 0)],[.sq (.fr (cfV log w (S4.smF 1) l))])
 | _=>none
def G0k:Env:=G0j.set (E8 G0j.fn 10 G0n)
theorem F4a:A6 Try.prog G0k:=A9 F3z 10 G0n (A4 Try.func10 rfl rfl) fun args o r es h ho=>by
 unfold G0n at h;split at h
 ·cases h;exact E3q _ _ _ _ ho.1 ho.2.1 ho.2.2.1
 ·cases h
def G0o:B7
 | [.v (.a [.sl (.gate l),.int .i64 p,.int .i64 v]),.v (.c (.int .i64 i)),.v (.c (.int .i64 n))]=>some ([0<=i,i<5,0<=n,l.length<=n.toNat,n<=65536],.v (.c (.slc 0 0 n.toNat 4)),[.sq (.fr (B9 (qOf i) l n.toNat))])
 | _=>none
def G0l:Env:=G0k.set (E8 G0k.fn 13 G0o)
theorem F4b:A6 Try.prog G0l:=A9 F4a 13 G0o (A4 Try.func13 rfl rfl) fun args o r es h ho=>by
 unfold G0o at h;split at h
 ·cases h;exact C8h _ _ _ _ _ ho.1 ho.2.1 ho.2.2.1 ho.2.2.2.1 ho.2.2.2.2.1
 ·cases h
def G0u:B7
 | [.v (.c (.sl (.fr a))),.v (.c (.sl (.fr b)))]=>some ([a=b],.v (.c (.lit true)),[])
 | _=>none
def G5l:Env:=G0l.set (E8 G0l.fn 14 G0u)
theorem F4c:A6 Try.prog G5l:=A9 F4b 14 G0u (A4 Try.func14 rfl rfl) fun args o r es h ho=>by
 unfold G0u at h;split at h
 ·cases h;exact E0o _ _ ho.1
 ·cases h
def lwA:Env:=G5l.join 9 Try.f9
theorem D4b:A6 Try.prog lwA:=C8t F4c Try.func9 (A4 Try.func9 rfl rfl)
def E6w:B7
 | [.v (.a [.sl (.gate l),.int .i64 p,.int .i64 v])]=>some ([C6 l p v=false],.t [.c (.int .i64 0),.c (.int .i64 1)],[])
 | _=>none
def G0p:Env:=lwA.set (E8 lwA.fn 6 E6w)
theorem F4d:A6 Try.prog G0p:=A9 D4b 6 E6w (A4 Try.func6 rfl rfl) fun args o r es h ho=>by
 unfold E6w at h;split at h
 ·cases h;exact C3v _ _ _ ho.1
 ·cases h
def E6s:B7
 | [.v (.a [.sl (.gate l),.int .i64 p,.int .i64 v]),.v (.a [.sl (.g1 pw),.ob (.fp xa),.ob (.fp xb),.ob (.fp ya),.ob (.fp yb),.bool i])]=>some ([C6 l p v=false],.t [.a pvZ,.c (.int .i64 1)],[])
 | _=>none
def lwF:Env:=G0p.set (E8 G0p.fn 5 E6s)
theorem G0q:A6 Try.prog lwF:=A9 F4d 5 E6s (A4 Try.func5 rfl rfl) fun args o r es h ho=>by
 unfold E6s at h;split at h
 ·cases h;exact E5m _ _ _ _ ⟨_,_,_,_,_⟩ ho.1
 ·cases h
def E6x:B7
 | [.v (.a [.sl (.gate l),.int .i64 p,.int .i64 v])]=>some ([C6 l p v=true],.t [.c (.int .i64 (lgI l)),.c (.int .i64 0)],[])
 | _=>none
def lwT:Env:=lwA.set (E8 lwA.fn 6 E6x)
theorem D4d:A6 Try.prog lwT:=A9 D4b 6 E6x (A4 Try.func6 rfl rfl) fun args o r es h ho=>by
 unfold E6x at h;split at h
 ·cases h;exact C3w _ _ _ ho.1
 ·cases h
def E6t:B7
 | [.v (.a [.sl (.gate l),.int .i64 p,.int .i64 v]),.v (.a [.sl (.g1 pw),.ob (.fp xa),.ob (.fp xb),.ob (.fp ya),.ob (.fp yb),.bool i])]=>some ([C6 l p v=true,pw.length<kyN l+6],.t [.a pvZ,.c (.int .i64 50)],[])
 | _=>none
def lwG:Env:=lwT.set (E8 lwT.fn 5 E6t)
theorem G0r:A6 Try.prog lwG:=A9 D4d 5 E6t (A4 Try.func5 rfl rfl) fun args o r es h ho=>by
 unfold E6t at h;split at h
 ·cases h;exact E5l _ _ _ _ ⟨_,_,_,_,_⟩ _ ho.1 rfl ho.2.1
 ·cases h
def E6u:B7
 | [.v (.a [.sl (.gate l),.int .i64 p,.int .i64 v]),.v (.a [.sl (.g1 pw),.ob (.fp xa),.ob (.fp xb),.ob (.fp ya),.ob (.fp yb),.bool i])]=>some ([C6 l p v=true,kyN l+6<=pw.length,U2 pw l≠0],.t [.a pvZ,.c (.int .i64 (U2 pw l))],[])
 | _=>none
def lwH:Env:=lwT.set (E8 lwT.fn 5 E6u)
theorem A4h:A6 Try.prog lwH:=A9 D4d 5 E6u (A4 Try.func5 rfl rfl) fun args o r es h ho=>by
 unfold E6u at h;split at h
 ·cases h;exact E5k _ _ _ _ ⟨_,_,_,_,_⟩ _ ho.1 rfl ho.2.1 ho.2.2.1
 ·cases h
/-- All commitments are made. -/
def B8s (pw:List G1D) (l:List A1):Prop:=(kyC pw l (B9 A1.qm l (kyN l))).2=0∧(kyC pw l (B9 A1.ql l (kyN l))).2=0∧(kyC pw l (B9 A1.qr l (kyN l))).2=0∧(kyC pw l (B9 A1.qo l (kyN l))).2=0∧(kyC pw l (B9 A1.qc l (kyN l))).2=0∧(kyC pw l (S4.vaR l (lgI l) 0)).2=0∧(kyC pw l (S4.vaR l (lgI l) 1)).2=0∧(kyC pw l (S4.vaR l (lgI l) 2)).2=0
theorem E5j (l:List A1) (p v:Int) (pw:List G1D) (s:G2D) (hr:C6 l p v=true) (hp:kyN l+6<=pw.length) (h:B8s pw l) :
  FnD Try.prog 5 [J2 l p v,.v (.a (P6 pw s))] (.t [.a (pvF (lgI l) p (.slc 0 0 (kyN l) 4) (.slc 1 0 (kyN l) 4) (.slc 2 0 (kyN l) 4) (.slc 3 0 (kyN l) 4) (.slc 4 0 (kyN l) 4) (.slc 5 0 (kyN l) 4) (.slc 6 0 (kyN l) 4) (.slc 7 0 (kyN l) 4) pw s (kyC pw l (B9 A1.qm l (kyN l))).1 (kyC pw l (B9 A1.ql l (kyN l))).1 (kyC pw l (B9 A1.qr l (kyN l))).1 (kyC pw l (B9 A1.qo l (kyN l))).1 (kyC pw l (B9 A1.qc l (kyN l))).1 (kyC pw l (S4.vaR l (lgI l) 0)).1 (kyC pw l (S4.vaR l (lgI l) 1)).1 (kyC pw l (S4.vaR l (lgI l) 2)).1),.c (.int .i64 0)]) [.sq (.fr (B9 A1.qm l (kyN l))),.sq (.fr (B9 A1.ql l (kyN l))),.sq (.fr (B9 A1.qr l (kyN l))),.sq (.fr (B9 A1.qo l (kyN l))),.sq (.fr (B9 A1.qc l (kyN l))),.sq (.fr (S4.vaR l (lgI l) 0)),.sq (.fr (S4.vaR l (lgI l) 1)),.sq (.fr (S4.vaR l (lgI l) 2))]:=by
 obtain ⟨e0,e1,e2,e3,e4,e5,e6,e7⟩:=h;exact F3n l p v pw s (kyN l) hr rfl hp e0 e1 e2 e3 e4 e5 e6 e7
def E6v:B7
 | [.v (.a [.sl (.gate l),.int .i64 p,.int .i64 v]),.v (.a [.sl (.g1 pw),.ob (.fp xa),.ob (.fp xb),.ob (.fp ya),.ob (.fp yb),.bool i])]=>some ([C6 l p v=true,kyN l+6<=pw.length,B8s pw l],.t [.a (pvF (lgI l) p (.slc 0 0 (kyN l) 4) (.slc 1 0 (kyN l) 4) (.slc 2 0 (kyN l) 4) (.slc 3 0 (kyN l) 4) (.slc 4 0 (kyN l) 4) (.slc 5 0 (kyN l) 4) (.slc 6 0 (kyN l) 4) (.slc 7 0 (kyN l) 4) pw ⟨xa,xb,ya,yb,i⟩ (kyC pw l (B9 A1.qm l (kyN l))).1 (kyC pw l (B9 A1.ql l (kyN l))).1 (kyC pw l (B9 A1.qr l (kyN l))).1 (kyC pw l (B9 A1.qo l (kyN l))).1 (kyC pw l (B9 A1.qc l (kyN l))).1 (kyC pw l (S4.vaR l (lgI l) 0)).1 (kyC pw l (S4.vaR l (lgI l) 1)).1 (kyC pw l (S4.vaR l (lgI l) 2)).1),.c (.int .i64 0)],[.sq (.fr (B9 A1.qm l (kyN l))),.sq (.fr (B9 A1.ql l (kyN l))),.sq (.fr (B9 A1.qr l (kyN l))),.sq (.fr (B9 A1.qo l (kyN l))),.sq (.fr (B9 A1.qc l (kyN l))),.sq (.fr (S4.vaR l (lgI l) 0)),.sq (.fr (S4.vaR l (lgI l) 1)),.sq (.fr (S4.vaR l (lgI l) 2))])
 | _=>none
def lwK:Env:=lwT.set (E8 lwT.fn 5 E6v)
theorem B8z:A6 Try.prog lwK:=A9 D4d 5 E6v (A4 Try.func5 rfl rfl) fun args o r es h ho=>by
 unfold E6v at h;split at h
 ·cases h;exact E5j _ _ _ _ ⟨_,_,_,_,_⟩ ho.1 ho.2.1 ho.2.2.1
 ·cases h
def B8y:List KI:=(run lwA false 24 (⟨[.code (B2 Try.f3)],.normal,D6 Try.f3.ntmps [J2 dF dF dF,.v (.a (P6 dF dF))]⟩:Cfg) []).cfg.k
theorem lw0 (l:List A1) (p v:Int) (pw:List G1D) (s:G2D):let c:Int:=pw.length;let b:=ite ((50:Int)<c) (50:Int) c;A3 [(0<=b),(b<=c)]->Sg Try.prog (D6 Try.f3.ntmps [J2 l p v,.v (.a (P6 pw s))]) (A5 261 [2,3] [.pt 16 0,.pt 32 0] [16,32] [(eF_ [(.sl (.gate (D3i l))),(.int .i64 p),(.int .i64 v)]),(eF_ [(.sl (Sq.g1 (List.take (b).toNat (List.drop 0 pw)))),(.ob (.fp (G2D.xa s))),(.ob (.fp (G2D.xb s))),(.ob (.fp (G2D.ya s))),(.ob (.fp (G2D.yb s))),(.bool (G2D.inf s))])] 256 [] []) .normal (B8y) ([.code (B2 Try.f3)]):=sgA false 24 [] D4b
def lwS (l:List A1) (p v :Int) (pw:List G1D) (s:G2D):St:=A5 261 [2,3] [.pt 16 0,.pt 32 0] [16,32] [some (.fl [.sl (.gate l),.int .i64 p,.int .i64 v]),some (.fl (P6 pw s))] 256 [] []
theorem E6g (l:List A1) (p v:Int) (pw:List G1D) (s:G2D):let a:=(C6 l p v)=false;C2 lwF Try.f3 false 3000 (⟨B8y,.normal,lwS l p v pw s⟩) [true,true,true] [] []=(some ([a,a,(((1:Int) != (0:Int))=true),(true=true),(((1:Int)==1)=true),(0<=(0:Int)),(0<(5:Int))],((.ci (.bool ((0:Int)==0))),[]))):=by intros;kernel_rfl
theorem E6h (l:List A1) (p v:Int) (pw:List G1D) (s:G2D):let a:=wrap .i64 ((1:Int)*((2:Int) ^ (Min.min ((lgI l)).toNat 64)));let b:Int:=0;let c:=(C6 l p v)=true;C2 lwG Try.f3 false 3000 (⟨B8y,.normal,lwS l p v pw s⟩) [false,false,false,true,true,true] [] []=(some ([c,(pw.length<((kyN l)+6)),c,((b != b)=false),(0<=(lgI l)),((decide ((lgI l)<(1:Int)))=false),((decide (a<(l.length:Int)))=false),((decide ((wrap .i64 (a+(6:Int))) > (pw.length:Int)))=true),(true=true),(((50:Int)==50)=true),(0<=b),(0<(5:Int))],((.ci (.bool (b==0))),[]))):=by intros;kernel_rfl
def A2v:List KI:=(run lwH false 103 (⟨B8y,.normal,lwS dF dF dF dF dF⟩:Cfg) [false,false,false,false,false]).cfg.k
theorem G9f (l:List A1) (p v:Int) (pw:List G1D) (s:G2D):let a:=Value.slice Option.none 0 0;let c:U6:=0;let d:=lgI l;let b:=wrap .i64 ((1:Int)*((2:Int) ^ (Min.min (d).toNat 64)));let f:Int:=0;let g:=(C6 l p v)=true;let h:=(S4.K0 d)=true;let i:=(f != f)=false;A3 [g,(((kyN l)+6)<=pw.length),((U2 pw l)≠f),g,i,(0<=d),((decide (d<(1:Int)))=false),((decide (b<(l.length:Int)))=false),((decide ((wrap .i64 (b+(6:Int))) > (pw.length:Int)))=false),h,g,h,(l.length<=(S4.vlN d)),(l.length<=4096),i]->Sg Try.prog (lwS l p v pw s) (A5 261 [2,3,5,6,7,9,12,13,14] [.pt 16 0,.pt 32 0,.pt 352 0,.ii (U2 pw l),.ii d,(.ii b),.pt 960 0,(.ci (.clo 9 [(912,0),(32,0)])),.pt 1104 0] [16,32,352,912,960,1040,1041,1042,1104] [(eF_ [(.sl (.gate l)),(.int .i64 p),(.int .i64 v)]),(eF_ [(.sl (Sq.g1 pw)),(.ob (.fp (G2D.xa s))),(.ob (.fp (G2D.xb s))),(.ob (.fp (G2D.ya s))),(.ob (.fp (G2D.yb s))),(.bool (G2D.inf s))]),(eF_ [(.int .i64 f),(.int .i64 f),(.val a),(.val a),(.val a),(.val a),(.val a),(.val a),(.val a),(.val a),(.sl (Sq.g1 ([]:List G1D))),(.ob (.fp c)),(.ob (.fp c)),(.ob (.fp c)),(.ob (.fp c)),(.lit false),(.int .i64 f),(.int .i64 f),(.ob (.fp c)),(.ob (.fp c)),(.lit false),(.ob (.fp c)),(.ob (.fp c)),(.lit false),(.ob (.fp c)),(.ob (.fp c)),(.lit false),(.ob (.fp c)),(.ob (.fp c)),(.lit false),(.ob (.fp c)),(.ob (.fp c)),(.lit false),(.ob (.fp c)),(.ob (.fp c)),(.lit false),(.ob (.fp c)),(.ob (.fp c)),(.lit false),(.ob (.fp c)),(.ob (.fp c)),(.lit false),(.ob (.fp c)),(.ob (.fp c)),(.ob (.fp c)),(.ob (.fp c)),(.lit false)]),(eF_ [(.int .i64 d),(.ob (.fr (S4.D2 d)))]),(eF_ (vkZ)),(eQ_ (.fr (kyW l 0))),(eQ_ (.fr (kyW l 1))),(eQ_ (.fr (kyW l 2))),(eF_ [(.slc 1040 0 (kyW l 0).length 4),(.slc 1041 0 (kyW l 1).length 4),(.slc 1042 0 (kyW l 2).length 4)])] 1184 [] []) .normal (A2v) (B8y):=sgA false 103 [false,false,false,false,false] A4h
def C5q:List KI:=(run lwK false 103 (⟨B8y,.normal,lwS dF dF dF dF dF⟩:Cfg) [false,false,false,false,false]).cfg.k
theorem G9g (l:List A1) (p v:Int) (pw:List G1D) (s:G2D):let b:=lgI l;let a:=wrap .i64 ((1:Int)*((2:Int) ^ (Min.min (b).toNat 64)));let c:=Prod.fst (kyC pw l (kyR l 0));let d:=Prod.fst (kyC pw l (kyR l 1));let f:=Prod.fst (kyC pw l (kyR l 2));let g:=Prod.fst (kyC pw l (kyR l 3));let h:=Prod.fst (kyC pw l (kyR l 4));let m:=kyN l;let n:=(C6 l p v)=true;let o:=((0:Int) != (0:Int))=false;let q:=kyW l 0;let i:=Prod.fst (kyC pw l q);let r:=kyW l 1;let j:=Prod.fst (kyC pw l r);let t:=kyW l 2;let k:=Prod.fst (kyC pw l t);let u:=G2D.inf s;let w:=(S4.K0 b)=true;let z:=G2D.xa s;let A:=G2D.xb s;let B:=G2D.ya s;let C:=G2D.yb s;A3 [n,((m+6)<=pw.length),(B8s pw l),n,o,(0<=b),((decide (b<(1:Int)))=false),((decide (a<(l.length:Int)))=false),((decide ((wrap .i64 (a+(6:Int))) > (pw.length:Int)))=false),w,n,w,(l.length<=(S4.vlN b)),(l.length<=4096),o]->Sg Try.prog (lwS l p v pw s) (A5 261 [2,3,5,6,7,9,12,13,14] [.pt 16 0,.pt 32 0,.pt 352 0,.ii (0:Int),.ii b,(.ii a),.pt 960 0,(.ci (.clo 9 [(912,0),(32,0)])),.pt 1104 0] [16,32,288,289,290,291,292,293,294,295,352,912,960,1040,1041,1042,1104] [(eF_ [(.sl (.gate l)),(.int .i64 p),(.int .i64 v)]),(eF_ [(.sl (Sq.g1 pw)),(.ob (.fp z)),(.ob (.fp A)),(.ob (.fp B)),(.ob (.fp C)),(.bool u)]),(eQ_ (.fr (kyR l 0))),(eQ_ (.fr (kyR l 1))),(eQ_ (.fr (kyR l 2))),(eQ_ (.fr (kyR l 3))),(eQ_ (.fr (kyR l 4))),(eQ_ (.fr q)),(eQ_ (.fr r)),(eQ_ (.fr t)),(eF_ [(.int .i64 b),(.int .i64 p),(.slc 288 0 m 4),(.slc 289 0 m 4),(.slc 290 0 m 4),(.slc 291 0 m 4),(.slc 292 0 m 4),(.slc 293 0 m 4),(.slc 294 0 m 4),(.slc 295 0 m 4),(.sl (Sq.g1 pw)),(.ob (.fp z)),(.ob (.fp A)),(.ob (.fp B)),(.ob (.fp C)),(.bool u),(.int .i64 b),(.int .i64 p),(.ob (.fp (G1D.x c))),(.ob (.fp (G1D.y c))),(.bool (G1D.inf c)),(.ob (.fp (G1D.x d))),(.ob (.fp (G1D.y d))),(.bool (G1D.inf d)),(.ob (.fp (G1D.x f))),(.ob (.fp (G1D.y f))),(.bool (G1D.inf f)),(.ob (.fp (G1D.x g))),(.ob (.fp (G1D.y g))),(.bool (G1D.inf g)),(.ob (.fp (G1D.x h))),(.ob (.fp (G1D.y h))),(.bool (G1D.inf h)),(.ob (.fp (G1D.x i))),(.ob (.fp (G1D.y i))),(.bool (G1D.inf i)),(.ob (.fp (G1D.x j))),(.ob (.fp (G1D.y j))),(.bool (G1D.inf j)),(.ob (.fp (G1D.x k))),(.ob (.fp (G1D.y k))),(.bool (G1D.inf k)),(.ob (.fp z)),(.ob (.fp A)),(.ob (.fp B)),(.ob (.fp C)),(.bool u)]),(eF_ [(.int .i64 b),(.ob (.fr (S4.D2 b)))]),(eF_ (vkZ)),(eQ_ (.fr q)),(eQ_ (.fr r)),(eQ_ (.fr t)),(eF_ [(.slc 1040 0 q.length 4),(.slc 1041 0 r.length 4),(.slc 1042 0 t.length 4)])] 1184 [] []) .normal (C5q) (B8y):=sgA false 103 [false,false,false,false,false] B8z
def C5p (l:List A1) (p v :Int) (pw:List G1D) (s:G2D):St:=A5 261 [2,3,5,6,7,9,12,13,14] [.pt 16 0,.pt 32 0,.pt 352 0,.ii (U2 pw l),.ii (lgI l),.v (.c (.int .i64 ((kyN l:Nat):Int))),.pt 960 0,(.ci (.clo 9 [(912,0),(32,0)])),.pt 1104 0] [16,32,352,912,960,1040,1041,1042,1104] [(eF_ [(.sl (.gate l)),(.int .i64 p),(.int .i64 v)]),(eF_ [(.sl (Sq.g1 pw)),(.ob (.fp (G2D.xa s))),(.ob (.fp (G2D.xb s))),(.ob (.fp (G2D.ya s))),(.ob (.fp (G2D.yb s))),(.bool (G2D.inf s))]),(eF_ [(.int .i64 (0:Int)),(.int .i64 (0:Int)),(.val (Value.slice Option.none 0 0)),(.val (Value.slice Option.none 0 0)),(.val (Value.slice Option.none 0 0)),(.val (Value.slice Option.none 0 0)),(.val (Value.slice Option.none 0 0)),(.val (Value.slice Option.none 0 0)),(.val (Value.slice Option.none 0 0)),(.val (Value.slice Option.none 0 0)),(.sl (Sq.g1 ([]:List G1D))),(.ob (.fp (0:U6))),(.ob (.fp (0:U6))),(.ob (.fp (0:U6))),(.ob (.fp (0:U6))),(.lit false),(.int .i64 (0:Int)),(.int .i64 (0:Int)),(.ob (.fp (0:U6))),(.ob (.fp (0:U6))),(.lit false),(.ob (.fp (0:U6))),(.ob (.fp (0:U6))),(.lit false),(.ob (.fp (0:U6))),(.ob (.fp (0:U6))),(.lit false),(.ob (.fp (0:U6))),(.ob (.fp (0:U6))),(.lit false),(.ob (.fp (0:U6))),(.ob (.fp (0:U6))),(.lit false),(.ob (.fp (0:U6))),(.ob (.fp (0:U6))),(.lit false),(.ob (.fp (0:U6))),(.ob (.fp (0:U6))),(.lit false),(.ob (.fp (0:U6))),(.ob (.fp (0:U6))),(.lit false),(.ob (.fp (0:U6))),(.ob (.fp (0:U6))),(.ob (.fp (0:U6))),(.ob (.fp (0:U6))),(.lit false)]),(eF_ [(.int .i64 (lgI l)),(.ob (.fr (S4.D2 (lgI l))))]),(eF_ (vkZ)),(eQ_ (.fr (kyW l 0))),(eQ_ (.fr (kyW l 1))),(eQ_ (.fr (kyW l 2))),(eF_ [(.slc 1040 0 (kyW l 0).length 4),(.slc 1041 0 (kyW l 1).length 4),(.slc 1042 0 (kyW l 2).length 4)])] 1184 [] []
def G0s (l:List A1) (p v :Int) (pw:List G1D) (s:G2D):St:=A5 261 [2,3,5,6,7,9,12,13,14] [.pt 16 0,.pt 32 0,.pt 352 0,.ii (0:Int),.ii (lgI l),.v (.c (.int .i64 ((kyN l:Nat):Int))),.pt 960 0,(.ci (.clo 9 [(912,0),(32,0)])),.pt 1104 0] [16,32,288,289,290,291,292,293,294,295,352,912,960,1040,1041,1042,1104] [(eF_ [(.sl (.gate l)),(.int .i64 p),(.int .i64 v)]),(eF_ [(.sl (Sq.g1 pw)),(.ob (.fp (G2D.xa s))),(.ob (.fp (G2D.xb s))),(.ob (.fp (G2D.ya s))),(.ob (.fp (G2D.yb s))),(.bool (G2D.inf s))]),(eQ_ (.fr (kyR l 0))),(eQ_ (.fr (kyR l 1))),(eQ_ (.fr (kyR l 2))),(eQ_ (.fr (kyR l 3))),(eQ_ (.fr (kyR l 4))),(eQ_ (.fr (kyW l 0))),(eQ_ (.fr (kyW l 1))),(eQ_ (.fr (kyW l 2))),(eF_ [(.int .i64 (lgI l)),(.int .i64 p),(.slc 288 0 (kyN l) 4),(.slc 289 0 (kyN l) 4),(.slc 290 0 (kyN l) 4),(.slc 291 0 (kyN l) 4),(.slc 292 0 (kyN l) 4),(.slc 293 0 (kyN l) 4),(.slc 294 0 (kyN l) 4),(.slc 295 0 (kyN l) 4),(.sl (Sq.g1 pw)),(.ob (.fp (G2D.xa s))),(.ob (.fp (G2D.xb s))),(.ob (.fp (G2D.ya s))),(.ob (.fp (G2D.yb s))),(.bool (G2D.inf s)),(.int .i64 (lgI l)),(.int .i64 p),(.ob (.fp (G1D.x (Prod.fst (kyC pw l (kyR l 0)))))),(.ob (.fp (G1D.y (Prod.fst (kyC pw l (kyR l 0)))))),(.bool (G1D.inf (Prod.fst (kyC pw l (kyR l 0))))),(.ob (.fp (G1D.x (Prod.fst (kyC pw l (kyR l 1)))))),(.ob (.fp (G1D.y (Prod.fst (kyC pw l (kyR l 1)))))),(.bool (G1D.inf (Prod.fst (kyC pw l (kyR l 1))))),(.ob (.fp (G1D.x (Prod.fst (kyC pw l (kyR l 2)))))),(.ob (.fp (G1D.y (Prod.fst (kyC pw l (kyR l 2)))))),(.bool (G1D.inf (Prod.fst (kyC pw l (kyR l 2))))),(.ob (.fp (G1D.x (Prod.fst (kyC pw l (kyR l 3)))))),(.ob (.fp (G1D.y (Prod.fst (kyC pw l (kyR l 3)))))),(.bool (G1D.inf (Prod.fst (kyC pw l (kyR l 3))))),(.ob (.fp (G1D.x (Prod.fst (kyC pw l (kyR l 4)))))),(.ob (.fp (G1D.y (Prod.fst (kyC pw l (kyR l 4)))))),(.bool (G1D.inf (Prod.fst (kyC pw l (kyR l 4))))),(.ob (.fp (G1D.x (Prod.fst (kyC pw l (kyW l 0)))))),(.ob (.fp (G1D.y (Prod.fst (kyC pw l (kyW l 0)))))),(.bool (G1D.inf (Prod.fst (kyC pw l (kyW l 0))))),(.ob (.fp (G1D.x (Prod.fst (kyC pw l (kyW l 1)))))),(.ob (.fp (G1D.y (Prod.fst (kyC pw l (kyW l 1)))))),(.bool (G1D.inf (Prod.fst (kyC pw l (kyW l 1))))),(.ob (.fp (G1D.x (Prod.fst (kyC pw l (kyW l 2)))))),(.ob (.fp (G1D.y (Prod.fst (kyC pw l (kyW l 2)))))),(.bool (G1D.inf (Prod.fst (kyC pw l (kyW l 2))))),(.ob (.fp (G2D.xa s))),(.ob (.fp (G2D.xb s))),(.ob (.fp (G2D.ya s))),(.ob (.fp (G2D.yb s))),(.bool (G2D.inf s))]),(eF_ [(.int .i64 (lgI l)),(.ob (.fr (S4.D2 (lgI l))))]),(eF_ (vkZ)),(eQ_ (.fr (kyW l 0))),(eQ_ (.fr (kyW l 1))),(eQ_ (.fr (kyW l 2))),(eF_ [(.slc 1040 0 (kyW l 0).length 4),(.slc 1041 0 (kyW l 1).length 4),(.slc 1042 0 (kyW l 2).length 4)])] 1184 [] []
theorem E6i (l:List A1) (p v:Int) (pw:List G1D) (s:G2D):let a:Int:=18446744073709551616;let b:=kyR l 0;let c:=0<=(0:Int);let d:=Prod.snd (kyC pw l b);let f:=0<(5:Int);let g:=kyN l;let h:=kyV l b;C2 lwH Try.f3 true 3000 (⟨A2v,.normal,C5p l p v pw s⟩) [true,true,true,true,true] [] []=(some ([((decide f)=true),c,f,(0<=((g:Nat):Int)),(l.length<=g),(((g:Nat):Int)<=(65536:Int)),(0<=(1:Int)),((1:Int)<a),c,(0<a),c,(0<a),c,(0<a),(0=0),(g=b.length),(4=4),((S4.E9 (lgI l) (S4.D2 (lgI l)))=true),(b.length=(2 ^ ((lgI l)).toNat)),((S4.inF (Fin.ofNat B4 1))=(1:Fr)),(0=0),(h.length=h.length),(4=4),(h.length<=262144),((d != (0:Int))=true),(true=true),(((U2 pw l) == d)=true),c,f],((.ci (.bool ((0:Int)==0))),[]))):=by intros;kernel_rfl
theorem E6j (l:List A1) (p v:Int) (pw:List G1D) (s:G2D):let a:Int:=18446744073709551616;let d:=kyR l 1;let g:=kyR l 0;let h:Int:=1;let i:=(S4.inF (Fin.ofNat B4 1))=(1:Fr);let j:Int:=5;let k:=kyN l;let c:Int:=(k:Nat);let m:=Prod.snd (kyC pw l d);let n:Int:=0;let b:=0<=n;let o:=lgI l;let f:=(S4.E9 o (S4.D2 o))=true;let q:=kyV l g;let r:=kyV l d;let t:=c<=(65536:Int);C2 lwH Try.f3 true 3000 (⟨A2v,.normal,C5p l p v pw s⟩) [true,false,true,true,true,true,true] [] []=(some ([((decide (0<j))=true),b,(0<j),(0<=c),(l.length<=k),t,(0<=h),(h<a),b,(0<a),b,(0<a),b,(0<a),(0=0),(k=g.length),(4=4),f,(g.length=(2 ^ (o).toNat)),i,(0=0),(q.length=q.length),(4=4),(q.length<=262144),(((Prod.snd (kyC pw l g)) != n)=false),b,(0<j),((decide (h<j))=true),(0<=h),(h<j),(0<=c),(l.length<=k),t,(0<=h),(h<a),b,(0<a),b,(0<a),b,(0<a),(0=0),(k=d.length),(4=4),f,(d.length=(2 ^ (o).toNat)),i,(0=0),(r.length=r.length),(4=4),(r.length<=262144),((m != n)=true),(true=true),(((U2 pw l) == m)=true),b,(0<j)],((.ci (.bool (n==0))),[]))):=by intros;kernel_rfl
theorem E6k (l:List A1) (p v:Int) (pw:List G1D) (s:G2D):let a:Int:=18446744073709551616;let f:=(S4.inF (Fin.ofNat B4 1))=(1:Fr);let g:Int:=1;let h:Int:=5;let i:=kyR l 2;let j:=kyR l 0;let k:=kyR l 1;let m:=kyN l;let c:Int:=(m:Nat);let n:=c<=(65536:Int);let o:Int:=0;let b:=0<=o;let q:=lgI l;let d:=(S4.E9 q (S4.D2 q))=true;let r:=l.length<=m;let t:=Prod.snd (kyC pw l i);let u:=kyV l j;let w:=kyV l k;let x:=kyV l i;C2 lwH Try.f3 true 3000 (⟨A2v,.normal,C5p l p v pw s⟩) [true,false,true,false,true,true,true,true,true] [] []=(some ([((decide (0<h))=true),b,(0<h),(0<=c),r,n,(0<=g),(g<a),b,(0<a),b,(0<a),b,(0<a),(0=0),(m=j.length),(4=4),d,(j.length=(2 ^ (q).toNat)),f,(0=0),(u.length=u.length),(4=4),(u.length<=262144),(((Prod.snd (kyC pw l j)) != o)=false),b,(0<h),((decide (g<h))=true),(0<=g),(g<h),(0<=c),r,n,(0<=g),(g<a),b,(0<a),b,(0<a),b,(0<a),(0=0),(m=k.length),(4=4),d,(k.length=(2 ^ (q).toNat)),f,(0=0),(w.length=w.length),(4=4),(w.length<=262144),(((Prod.snd (kyC pw l k)) != o)=false),(0<=g),(g<h),((decide ((2:Int)<h))=true),(0<=(2:Int)),((2:Int)<h),(0<=c),r,n,(0<=g),(g<a),b,(0<a),b,(0<a),b,(0<a),(0=0),(m=i.length),(4=4),d,(i.length=(2 ^ (q).toNat)),f,(0=0),(x.length=x.length),(4=4),(x.length<=262144),((t != o)=true),(true=true),(((U2 pw l) == t)=true),b,(0<h)],((.ci (.bool (o==0))),[]))):=by intros;kernel_rfl
theorem E6l (l:List A1) (p v:Int) (pw:List G1D) (s:G2D):let a:Int:=18446744073709551616;let f:=(S4.inF (Fin.ofNat B4 1))=(1:Fr);let g:Int:=1;let h:Int:=5;let j:=kyR l 3;let m:=kyR l 0;let n:=kyR l 1;let o:=kyR l 2;let q:Int:=0;let b:=0<=q;let r:=lgI l;let c:=(S4.E9 r (S4.D2 r))=true;let t:=kyN l;let d:Int:=(t:Nat);let i:=l.length<=t;let k:=d<=(65536:Int);let u:Int:=2;let w:=Prod.snd (kyC pw l j);let x:=kyV l m;let y:=kyV l n;let z:=kyV l o;let A:=kyV l j;C2 lwH Try.f3 true 3000 (⟨A2v,.normal,C5p l p v pw s⟩) [true,false,true,false,true,false,true,true,true,true,true] [] []=(some ([((decide (0<h))=true),b,(0<h),(0<=d),i,k,(0<=g),(g<a),b,(0<a),b,(0<a),b,(0<a),(0=0),(t=m.length),(4=4),c,(m.length=(2 ^ (r).toNat)),f,(0=0),(x.length=x.length),(4=4),(x.length<=262144),(((Prod.snd (kyC pw l m)) != q)=false),b,(0<h),((decide (g<h))=true),(0<=g),(g<h),(0<=d),i,k,(0<=g),(g<a),b,(0<a),b,(0<a),b,(0<a),(0=0),(t=n.length),(4=4),c,(n.length=(2 ^ (r).toNat)),f,(0=0),(y.length=y.length),(4=4),(y.length<=262144),(((Prod.snd (kyC pw l n)) != q)=false),(0<=g),(g<h),((decide (u<h))=true),(0<=u),(u<h),(0<=d),i,k,(0<=g),(g<a),b,(0<a),b,(0<a),b,(0<a),(0=0),(t=o.length),(4=4),c,(o.length=(2 ^ (r).toNat)),f,(0=0),(z.length=z.length),(4=4),(z.length<=262144),(((Prod.snd (kyC pw l o)) != q)=false),(0<=u),(u<h),((decide ((3:Int)<h))=true),(0<=(3:Int)),((3:Int)<h),(0<=d),i,k,(0<=g),(g<a),b,(0<a),b,(0<a),b,(0<a),(0=0),(t=j.length),(4=4),c,(j.length=(2 ^ (r).toNat)),f,(0=0),(A.length=A.length),(4=4),(A.length<=262144),((w != q)=true),(true=true),(((U2 pw l) == w)=true),b,(0<h)],((.ci (.bool (q==0))),[]))):=by intros;kernel_rfl
theorem E6m (l:List A1) (p v:Int) (pw:List G1D) (s:G2D):let a:Int:=18446744073709551616;let f:=(S4.inF (Fin.ofNat B4 1))=(1:Fr);let g:Int:=5;let h:Int:=1;let k:=kyR l 4;let m:=kyR l 0;let n:=kyR l 1;let o:=kyR l 2;let q:=kyR l 3;let r:=lgI l;let b:=(S4.E9 r (S4.D2 r))=true;let t:Int:=0;let c:=0<=t;let u:=kyN l;let d:Int:=(u:Nat);let i:=l.length<=u;let j:=d<=(65536:Int);let w:Int:=2;let x:Int:=3;let y:=Prod.snd (kyC pw l k);let z:=kyV l m;let A:=kyV l n;let B:=kyV l o;let C:=kyV l q;let D:=kyV l k;C2 lwH Try.f3 true 3000 (⟨A2v,.normal,C5p l p v pw s⟩) [true,false,true,false,true,false,true,false,true,true,true,true,true] [] []=(some ([((decide (0<g))=true),c,(0<g),(0<=d),i,j,(0<=h),(h<a),c,(0<a),c,(0<a),c,(0<a),(0=0),(u=m.length),(4=4),b,(m.length=(2 ^ (r).toNat)),f,(0=0),(z.length=z.length),(4=4),(z.length<=262144),(((Prod.snd (kyC pw l m)) != t)=false),c,(0<g),((decide (h<g))=true),(0<=h),(h<g),(0<=d),i,j,(0<=h),(h<a),c,(0<a),c,(0<a),c,(0<a),(0=0),(u=n.length),(4=4),b,(n.length=(2 ^ (r).toNat)),f,(0=0),(A.length=A.length),(4=4),(A.length<=262144),(((Prod.snd (kyC pw l n)) != t)=false),(0<=h),(h<g),((decide (w<g))=true),(0<=w),(w<g),(0<=d),i,j,(0<=h),(h<a),c,(0<a),c,(0<a),c,(0<a),(0=0),(u=o.length),(4=4),b,(o.length=(2 ^ (r).toNat)),f,(0=0),(B.length=B.length),(4=4),(B.length<=262144),(((Prod.snd (kyC pw l o)) != t)=false),(0<=w),(w<g),((decide (x<g))=true),(0<=x),(x<g),(0<=d),i,j,(0<=h),(h<a),c,(0<a),c,(0<a),c,(0<a),(0=0),(u=q.length),(4=4),b,(q.length=(2 ^ (r).toNat)),f,(0=0),(C.length=C.length),(4=4),(C.length<=262144),(((Prod.snd (kyC pw l q)) != t)=false),(0<=x),(x<g),((decide ((4:Int)<g))=true),(0<=(4:Int)),((4:Int)<g),(0<=d),i,j,(0<=h),(h<a),c,(0<a),c,(0<a),c,(0<a),(0=0),(u=k.length),(4=4),b,(k.length=(2 ^ (r).toNat)),f,(0=0),(D.length=D.length),(4=4),(D.length<=262144),((y != t)=true),(true=true),(((U2 pw l) == y)=true),c,(0<g)],((.ci (.bool (t==0))),[]))):=by intros;kernel_rfl
theorem E6n (l:List A1) (p v:Int) (pw:List G1D) (s:G2D):let a:Int:=18446744073709551616;let d:=(S4.inF (Fin.ofNat B4 1))=(1:Fr);let g:Int:=5;let h:Int:=1;let k:=kyW l 0;let m:=lgI l;let b:=(S4.E9 m (S4.D2 m))=true;let n:Int:=0;let c:=0<=n;let o:=kyR l 0;let q:=kyR l 1;let r:=kyR l 2;let t:=kyR l 3;let u:=kyR l 4;let w:=kyN l;let f:Int:=(w:Nat);let i:=l.length<=w;let j:=f<=(65536:Int);let x:Int:=3;let y:Int:=2;let z:Int:=4;let A:=Prod.snd (kyC pw l k);let B:=kyV l o;let C:=kyV l q;let D:=kyV l r;let F:=kyV l t;let G:=kyV l u;let H:=kyV l k;C2 lwH Try.f3 true 3000 (⟨A2v,.normal,C5p l p v pw s⟩) [true,false,true,false,true,false,true,false,true,false,false,true,true,true,true,true] [] []=(some ([((decide (0<g))=true),c,(0<g),(0<=f),i,j,(0<=h),(h<a),c,(0<a),c,(0<a),c,(0<a),(0=0),(w=o.length),(4=4),b,(o.length=(2 ^ (m).toNat)),d,(0=0),(B.length=B.length),(4=4),(B.length<=262144),(((Prod.snd (kyC pw l o)) != n)=false),c,(0<g),((decide (h<g))=true),(0<=h),(h<g),(0<=f),i,j,(0<=h),(h<a),c,(0<a),c,(0<a),c,(0<a),(0=0),(w=q.length),(4=4),b,(q.length=(2 ^ (m).toNat)),d,(0=0),(C.length=C.length),(4=4),(C.length<=262144),(((Prod.snd (kyC pw l q)) != n)=false),(0<=h),(h<g),((decide (y<g))=true),(0<=y),(y<g),(0<=f),i,j,(0<=h),(h<a),c,(0<a),c,(0<a),c,(0<a),(0=0),(w=r.length),(4=4),b,(r.length=(2 ^ (m).toNat)),d,(0=0),(D.length=D.length),(4=4),(D.length<=262144),(((Prod.snd (kyC pw l r)) != n)=false),(0<=y),(y<g),((decide (x<g))=true),(0<=x),(x<g),(0<=f),i,j,(0<=h),(h<a),c,(0<a),c,(0<a),c,(0<a),(0=0),(w=t.length),(4=4),b,(t.length=(2 ^ (m).toNat)),d,(0=0),(F.length=F.length),(4=4),(F.length<=262144),(((Prod.snd (kyC pw l t)) != n)=false),(0<=x),(x<g),((decide (z<g))=true),(0<=z),(z<g),(0<=f),i,j,(0<=h),(h<a),c,(0<a),c,(0<a),c,(0<a),(0=0),(w=u.length),(4=4),b,(u.length=(2 ^ (m).toNat)),d,(0=0),(G.length=G.length),(4=4),(G.length<=262144),(((Prod.snd (kyC pw l u)) != n)=false),(0<=z),(z<g),((decide (g<g))=false),((decide (0<x))=true),c,(0<x),(0<=h),(h<a),c,(0<a),c,(0<a),c,(0<a),(0=0),(k.length=k.length),(4=4),b,(k.length=(2 ^ (m).toNat)),d,(0=0),(H.length=H.length),(4=4),(H.length<=262144),((A != n)=true),(true=true),(((U2 pw l) == A)=true),c,(0<g)],((.ci (.bool (n==0))),[]))):=by intros;kernel_rfl
theorem E6o (l:List A1) (p v:Int) (pw:List G1D) (s:G2D):let a:Int:=18446744073709551616;let d:=(S4.inF (Fin.ofNat B4 1))=(1:Fr);let g:Int:=1;let h:Int:=5;let k:=kyW l 1;let m:Int:=3;let n:=lgI l;let b:=(S4.E9 n (S4.D2 n))=true;let o:Int:=0;let c:=0<=o;let q:=kyW l 0;let r:=kyR l 0;let t:=kyR l 1;let u:=kyR l 2;let w:=kyR l 3;let x:=kyR l 4;let y:=kyN l;let f:Int:=(y:Nat);let i:=l.length<=y;let j:=f<=(65536:Int);let z:Int:=2;let A:Int:=4;let B:=Prod.snd (kyC pw l k);let C:=kyV l r;let D:=kyV l t;let F:=kyV l u;let G:=kyV l w;let H:=kyV l x;let I:=kyV l q;let J:=kyV l k;C2 lwH Try.f3 true 3000 (⟨A2v,.normal,C5p l p v pw s⟩) [true,false,true,false,true,false,true,false,true,false,false,true,false,true,true,true,true,true] [] []=(some ([((decide (0<h))=true),c,(0<h),(0<=f),i,j,(0<=g),(g<a),c,(0<a),c,(0<a),c,(0<a),(0=0),(y=r.length),(4=4),b,(r.length=(2 ^ (n).toNat)),d,(0=0),(C.length=C.length),(4=4),(C.length<=262144),(((Prod.snd (kyC pw l r)) != o)=false),c,(0<h),((decide (g<h))=true),(0<=g),(g<h),(0<=f),i,j,(0<=g),(g<a),c,(0<a),c,(0<a),c,(0<a),(0=0),(y=t.length),(4=4),b,(t.length=(2 ^ (n).toNat)),d,(0=0),(D.length=D.length),(4=4),(D.length<=262144),(((Prod.snd (kyC pw l t)) != o)=false),(0<=g),(g<h),((decide (z<h))=true),(0<=z),(z<h),(0<=f),i,j,(0<=g),(g<a),c,(0<a),c,(0<a),c,(0<a),(0=0),(y=u.length),(4=4),b,(u.length=(2 ^ (n).toNat)),d,(0=0),(F.length=F.length),(4=4),(F.length<=262144),(((Prod.snd (kyC pw l u)) != o)=false),(0<=z),(z<h),((decide (m<h))=true),(0<=m),(m<h),(0<=f),i,j,(0<=g),(g<a),c,(0<a),c,(0<a),c,(0<a),(0=0),(y=w.length),(4=4),b,(w.length=(2 ^ (n).toNat)),d,(0=0),(G.length=G.length),(4=4),(G.length<=262144),(((Prod.snd (kyC pw l w)) != o)=false),(0<=m),(m<h),((decide (A<h))=true),(0<=A),(A<h),(0<=f),i,j,(0<=g),(g<a),c,(0<a),c,(0<a),c,(0<a),(0=0),(y=x.length),(4=4),b,(x.length=(2 ^ (n).toNat)),d,(0=0),(H.length=H.length),(4=4),(H.length<=262144),(((Prod.snd (kyC pw l x)) != o)=false),(0<=A),(A<h),((decide (h<h))=false),((decide (0<m))=true),c,(0<m),(0<=g),(g<a),c,(0<a),c,(0<a),c,(0<a),(0=0),(q.length=q.length),(4=4),b,(q.length=(2 ^ (n).toNat)),d,(0=0),(I.length=I.length),(4=4),(I.length<=262144),(((Prod.snd (kyC pw l q)) != o)=false),c,(0<m),((decide (g<m))=true),(0<=g),(g<m),(0<=g),(g<a),c,(0<a),c,(0<a),c,(0<a),(0=0),(k.length=k.length),(4=4),b,(k.length=(2 ^ (n).toNat)),d,(0=0),(J.length=J.length),(4=4),(J.length<=262144),((B != o)=true),(true=true),(((U2 pw l) == B)=true),c,(0<h)],((.ci (.bool (o==0))),[]))):=by intros;kernel_rfl
theorem E6p (l:List A1) (p v:Int) (pw:List G1D) (s:G2D):let a:Int:=18446744073709551616;let b:=(S4.E9 (lgI l) (S4.D2 (lgI l)))=true;let d:=(S4.inF (Fin.ofNat B4 1))=(1:Fr);let g:Int:=1;let h:Int:=5;let i:Int:=3;let m:=(lgI l);let n:=kyW l 2;let o:Int:=0;let c:=0<=o;let q:=kyW l 0;let r:=kyW l 1;let t:Int:=2;let u:=kyR l 0;let w:=kyR l 1;let x:=kyR l 2;let y:=kyR l 3;let z:=kyR l 4;let A:=kyN l;let f:Int:=(A:Nat);let j:=l.length<=A;let k:=f<=(65536:Int);let B:Int:=4;let C:=Prod.snd (kyC pw l n);let D:=kyV l u;let F:=kyV l w;let G:=kyV l x;let H:=kyV l y;let I:=kyV l z;let J:=kyV l q;let K:=kyV l r;let L:=kyV l n;C2 lwH Try.f3 true 3000 (⟨A2v,.normal,C5p l p v pw s⟩) [true,false,true,false,true,false,true,false,true,false,false,true,false,true,false,true,true,true,true,true] [] []=(some ([((decide (0<h))=true),c,(0<h),(0<=f),j,k,(0<=g),(g<a),c,(0<a),c,(0<a),c,(0<a),(0=0),(A=u.length),(4=4),b,(u.length=(2 ^ m.toNat)),d,(0=0),(D.length=D.length),(4=4),(D.length<=262144),(((Prod.snd (kyC pw l u)) != o)=false),c,(0<h),((decide (g<h))=true),(0<=g),(g<h),(0<=f),j,k,(0<=g),(g<a),c,(0<a),c,(0<a),c,(0<a),(0=0),(A=w.length),(4=4),b,(w.length=(2 ^ m.toNat)),d,(0=0),(F.length=F.length),(4=4),(F.length<=262144),(((Prod.snd (kyC pw l w)) != o)=false),(0<=g),(g<h),((decide (t<h))=true),(0<=t),(t<h),(0<=f),j,k,(0<=g),(g<a),c,(0<a),c,(0<a),c,(0<a),(0=0),(A=x.length),(4=4),b,(x.length=(2 ^ m.toNat)),d,(0=0),(G.length=G.length),(4=4),(G.length<=262144),(((Prod.snd (kyC pw l x)) != o)=false),(0<=t),(t<h),((decide (i<h))=true),(0<=i),(i<h),(0<=f),j,k,(0<=g),(g<a),c,(0<a),c,(0<a),c,(0<a),(0=0),(A=y.length),(4=4),b,(y.length=(2 ^ m.toNat)),d,(0=0),(H.length=H.length),(4=4),(H.length<=262144),(((Prod.snd (kyC pw l y)) != o)=false),(0<=i),(i<h),((decide (B<h))=true),(0<=B),(B<h),(0<=f),j,k,(0<=g),(g<a),c,(0<a),c,(0<a),c,(0<a),(0=0),(A=z.length),(4=4),b,(z.length=(2 ^ m.toNat)),d,(0=0),(I.length=I.length),(4=4),(I.length<=262144),(((Prod.snd (kyC pw l z)) != o)=false),(0<=B),(B<h),((decide (h<h))=false),((decide (0<i))=true),c,(0<i),(0<=g),(g<a),c,(0<a),c,(0<a),c,(0<a),(0=0),(q.length=q.length),(4=4),b,(q.length=(2 ^ m.toNat)),d,(0=0),(J.length=J.length),(4=4),(J.length<=262144),(((Prod.snd (kyC pw l q)) != o)=false),c,(0<i),((decide (g<i))=true),(0<=g),(g<i),(0<=g),(g<a),c,(0<a),c,(0<a),c,(0<a),(0=0),(r.length=r.length),(4=4),b,(r.length=(2 ^ m.toNat)),d,(0=0),(K.length=K.length),(4=4),(K.length<=262144),(((Prod.snd (kyC pw l r)) != o)=false),(0<=g),(g<i),((decide (t<i))=true),(0<=t),(t<i),(0<=g),(g<a),c,(0<a),c,(0<a),c,(0<a),(0=0),(n.length=n.length),(4=4),b,(n.length=(2 ^ m.toNat)),d,(0=0),(L.length=L.length),(4=4),(L.length<=262144),((C != o)=true),(true=true),(((U2 pw l) == C)=true),c,(0<h)],((.ci (.bool (o==0))),[]))):=by intros;kernel_rfl
def G0t (l:List A1) (p _v :Int) (pw:List G1D) (s:G2D):St:=A5 261 [3,5] [.pt 32 0,.pt 352 0] [32,288,289,290,291,292,293,294,295,352] [(eF_ [(.sl (Sq.g1 pw)),(.ob (.fp (G2D.xa s))),(.ob (.fp (G2D.xb s))),(.ob (.fp (G2D.ya s))),(.ob (.fp (G2D.yb s))),(.bool (G2D.inf s))]),(eQ_ (.fr (kyR l 0))),(eQ_ (.fr (kyR l 1))),(eQ_ (.fr (kyR l 2))),(eQ_ (.fr (kyR l 3))),(eQ_ (.fr (kyR l 4))),(eQ_ (.fr (kyW l 0))),(eQ_ (.fr (kyW l 1))),(eQ_ (.fr (kyW l 2))),(eF_ [(.int .i64 (lgI l)),(.int .i64 p),(.slc 288 0 (kyN l) 4),(.slc 289 0 (kyN l) 4),(.slc 290 0 (kyN l) 4),(.slc 291 0 (kyN l) 4),(.slc 292 0 (kyN l) 4),(.slc 293 0 (kyN l) 4),(.slc 294 0 (kyN l) 4),(.slc 295 0 (kyN l) 4),(.sl (Sq.g1 pw)),(.ob (.fp (G2D.xa s))),(.ob (.fp (G2D.xb s))),(.ob (.fp (G2D.ya s))),(.ob (.fp (G2D.yb s))),(.bool (G2D.inf s)),(.int .i64 (lgI l)),(.int .i64 p),(.ob (.fp (G1D.x (Prod.fst (kyC pw l (kyR l 0)))))),(.ob (.fp (G1D.y (Prod.fst (kyC pw l (kyR l 0)))))),(.bool (G1D.inf (Prod.fst (kyC pw l (kyR l 0))))),(.ob (.fp (G1D.x (Prod.fst (kyC pw l (kyR l 1)))))),(.ob (.fp (G1D.y (Prod.fst (kyC pw l (kyR l 1)))))),(.bool (G1D.inf (Prod.fst (kyC pw l (kyR l 1))))),(.ob (.fp (G1D.x (Prod.fst (kyC pw l (kyR l 2)))))),(.ob (.fp (G1D.y (Prod.fst (kyC pw l (kyR l 2)))))),(.bool (G1D.inf (Prod.fst (kyC pw l (kyR l 2))))),(.ob (.fp (G1D.x (Prod.fst (kyC pw l (kyR l 3)))))),(.ob (.fp (G1D.y (Prod.fst (kyC pw l (kyR l 3)))))),(.bool (G1D.inf (Prod.fst (kyC pw l (kyR l 3))))),(.ob (.fp (G1D.x (Prod.fst (kyC pw l (kyR l 4)))))),(.ob (.fp (G1D.y (Prod.fst (kyC pw l (kyR l 4)))))),(.bool (G1D.inf (Prod.fst (kyC pw l (kyR l 4))))),(.ob (.fp (G1D.x (Prod.fst (kyC pw l (kyW l 0)))))),(.ob (.fp (G1D.y (Prod.fst (kyC pw l (kyW l 0)))))),(.bool (G1D.inf (Prod.fst (kyC pw l (kyW l 0))))),(.ob (.fp (G1D.x (Prod.fst (kyC pw l (kyW l 1)))))),(.ob (.fp (G1D.y (Prod.fst (kyC pw l (kyW l 1)))))),(.bool (G1D.inf (Prod.fst (kyC pw l (kyW l 1))))),(.ob (.fp (G1D.x (Prod.fst (kyC pw l (kyW l 2)))))),(.ob (.fp (G1D.y (Prod.fst (kyC pw l (kyW l 2)))))),(.bool (G1D.inf (Prod.fst (kyC pw l (kyW l 2))))),(.ob (.fp (G2D.xa s))),(.ob (.fp (G2D.xb s))),(.ob (.fp (G2D.ya s))),(.ob (.fp (G2D.yb s))),(.bool (G2D.inf s))])] 9184 [] []
def D4c:List KI:=(run lwK true 936 (⟨C5q,.normal,G0s dF dF dF dF dF⟩:Cfg) [true,false,true,false,true,false,true,false,true,false,false,true,false,true,false,true,false,false,false,false,false,false,false,false,true,true,true,true,true,false,true,true,true,false]).cfg.k
theorem G9h (l:List A1) (p v:Int) (pw:List G1D) (s:G2D):let b:Int:=18446744073709551616;let c:=Bool.and (decide ((G2D.xa s)=(G2D.xa s))) (Bool.and (decide ((G2D.xb s)=(G2D.xb s))) (Bool.and (decide ((G2D.ya s)=(G2D.ya s))) (Bool.and (decide ((G2D.yb s)=(G2D.yb s))) ((G2D.inf s) == (G2D.inf s)))));let h:=(S4.inF (Fin.ofNat B4 1))=(1:Fr);let i:Int:=1;let j:Int:=5;let k:Int:=3;let m:=kyN l;let d:Int:=(m:Nat);let A:=d<=(65536:Int);let B:Int:=2;let C:=l.length<=m;let D:=kyW l 0;let u:=Prod.fst (kyC pw l D);let F:=kyW l 1;let w:=Prod.fst (kyC pw l F);let G:=kyW l 2;let z:=Prod.fst (kyC pw l G);let H:=kyR l 0;let n:=Prod.fst (kyC pw l H);let I:=kyR l 1;let o:=Prod.fst (kyC pw l I);let J:=kyR l 2;let q:=Prod.fst (kyC pw l J);let K:=kyR l 3;let r:=Prod.fst (kyC pw l K);let L:=kyR l 4;let t:=Prod.fst (kyC pw l L);let M:=lgI l;let a:=Bool.and (M == M) (Bool.and (p == p) (Bool.and (decide ((G1D.x n)=(G1D.x n))) (Bool.and (decide ((G1D.y n)=(G1D.y n))) (Bool.and ((G1D.inf n) == (G1D.inf n)) (Bool.and (decide ((G1D.x o)=(G1D.x o))) (Bool.and (decide ((G1D.y o)=(G1D.y o))) (Bool.and ((G1D.inf o) == (G1D.inf o)) (Bool.and (decide ((G1D.x q)=(G1D.x q))) (Bool.and (decide ((G1D.y q)=(G1D.y q))) (Bool.and ((G1D.inf q) == (G1D.inf q)) (Bool.and (decide ((G1D.x r)=(G1D.x r))) (Bool.and (decide ((G1D.y r)=(G1D.y r))) (Bool.and ((G1D.inf r) == (G1D.inf r)) (Bool.and (decide ((G1D.x t)=(G1D.x t))) (Bool.and (decide ((G1D.y t)=(G1D.y t))) (Bool.and ((G1D.inf t) == (G1D.inf t)) (Bool.and (decide ((G1D.x u)=(G1D.x u))) (Bool.and (decide ((G1D.y u)=(G1D.y u))) (Bool.and ((G1D.inf u) == (G1D.inf u)) (Bool.and (decide ((G1D.x w)=(G1D.x w))) (Bool.and (decide ((G1D.y w)=(G1D.y w))) (Bool.and ((G1D.inf w) == (G1D.inf w)) (Bool.and (decide ((G1D.x z)=(G1D.x z))) (Bool.and (decide ((G1D.y z)=(G1D.y z))) (Bool.and ((G1D.inf z) == (G1D.inf z)) c)))))))))))))))))))))))));let f:=(S4.E9 M (S4.D2 M))=true;let N:Int:=0;let g:=0<=N;let O:Int:=4;let P:=m=H.length;let Q:=m=I.length;let R:=m=J.length;let S:=m=K.length;let T:=m=L.length;let U:=(decide (j<j))=false;let V:=(decide (k<k))=false;let W:=(decide (0<j))=true;let X:=(decide (i<j))=true;let Y:=(decide (B<j))=true;let Z:=(decide (k<j))=true;let aa:=(decide (O<j))=true;let ab:=(decide (0<k))=true;let ac:=(decide (i<k))=true;let ad:=(decide (B<k))=true;let ae:=D.length=D.length;let af:=F.length=F.length;let ag:=G.length=G.length;A3 [W,g,(0<j),(0<=d),C,A,(0<=i),(i<b),g,(0<b),g,(0<b),g,(0<b),(0=0),P,(4=4),f,(H.length=(2 ^ (M).toNat)),h,(0=0),((kyV l H).length=(kyV l H).length),(4=4),((kyV l H).length<=262144),(((Prod.snd (kyC pw l H)) != N)=false),g,(0<j),X,(0<=i),(i<j),(0<=d),C,A,(0<=i),(i<b),g,(0<b),g,(0<b),g,(0<b),(0=0),Q,(4=4),f,(I.length=(2 ^ (M).toNat)),h,(0=0),((kyV l I).length=(kyV l I).length),(4=4),((kyV l I).length<=262144),(((Prod.snd (kyC pw l I)) != N)=false),(0<=i),(i<j),Y,(0<=B),(B<j),(0<=d),C,A,(0<=i),(i<b),g,(0<b),g,(0<b),g,(0<b),(0=0),R,(4=4),f,(J.length=(2 ^ (M).toNat)),h,(0=0),((kyV l J).length=(kyV l J).length),(4=4),((kyV l J).length<=262144),(((Prod.snd (kyC pw l J)) != N)=false),(0<=B),(B<j),Z,(0<=k),(k<j),(0<=d),C,A,(0<=i),(i<b),g,(0<b),g,(0<b),g,(0<b),(0=0),S,(4=4),f,(K.length=(2 ^ (M).toNat)),h,(0=0),((kyV l K).length=(kyV l K).length),(4=4),((kyV l K).length<=262144),(((Prod.snd (kyC pw l K)) != N)=false),(0<=k),(k<j),aa,(0<=O),(O<j),(0<=d),C,A,(0<=i),(i<b),g,(0<b),g,(0<b),g,(0<b),(0=0),T,(4=4),f,(L.length=(2 ^ (M).toNat)),h,(0=0),((kyV l L).length=(kyV l L).length),(4=4),((kyV l L).length<=262144),(((Prod.snd (kyC pw l L)) != N)=false),(0<=O),(O<j),U,ab,g,(0<k),(0<=i),(i<b),g,(0<b),g,(0<b),g,(0<b),(0=0),ae,(4=4),f,(D.length=(2 ^ (M).toNat)),h,(0=0),((kyV l D).length=(kyV l D).length),(4=4),((kyV l D).length<=262144),(((Prod.snd (kyC pw l D)) != N)=false),g,(0<k),ac,(0<=i),(i<k),(0<=i),(i<b),g,(0<b),g,(0<b),g,(0<b),(0=0),af,(4=4),f,(F.length=(2 ^ (M).toNat)),h,(0=0),((kyV l F).length=(kyV l F).length),(4=4),((kyV l F).length<=262144),(((Prod.snd (kyC pw l F)) != N)=false),(0<=i),(i<k),ad,(0<=B),(B<k),(0<=i),(i<b),g,(0<b),g,(0<b),g,(0<b),(0=0),ag,(4=4),f,(G.length=(2 ^ (M).toNat)),h,(0=0),((kyV l G).length=(kyV l G).length),(4=4),((kyV l G).length<=262144),(((Prod.snd (kyC pw l G)) != N)=false),(0<=B),(B<k),V,((N != N)=false),((ite (false=true) a (Bool.not a))=false),((M != M)=false),((p != p)=false),(((pw.length:Int) != (pw.length:Int))=false),((ite (false=true) c (Bool.not c))=false),W,g,(0<j),g,(0<j),(0<=d),C,A,(0=0),P,(4=4),(0=0),P,(4=4),(H=H),X,(0<=i),(i<j),(0<=i),(i<j),(0<=d),C,A,(0=0),Q,(4=4),(0=0),Q,(4=4),(I=I),Y,(0<=B),(B<j),(0<=B),(B<j),(0<=d),C,A,(0=0),R,(4=4),(0=0),R,(4=4),(J=J),Z,(0<=k),(k<j),(0<=k),(k<j),(0<=d),C,A,(0=0),S,(4=4),(0=0),S,(4=4),(K=K),aa,(0<=O),(O<j),(0<=O),(O<j),(0<=d),C,A,(0=0),T,(4=4),(0=0),T,(4=4),(L=L),U,ab,g,(0<k),g,(0<k),(0=0),(m=D.length),(4=4),(0=0),ae,(4=4),(D=D),ac,(0<=i),(i<k),(0<=i),(i<k),(0=0),(m=F.length),(4=4),(0=0),af,(4=4),(F=F),ad,(0<=B),(B<k),(0<=B),(B<k),(0=0),(m=G.length),(4=4),(0=0),ag,(4=4),(G=G),V]->Sg Try.prog (G0s l p v pw s) (G0t l p v pw s) .normal (D4c) (C5q):=sgA true 936 [true,false,true,false,true,false,true,false,true,false,false,true,false,true,false,true,false,false,false,false,false,false,false,false,true,true,true,true,true,false,true,true,true,false] B8z
def E6q (l:List A1) (p v :Int) (pw:List G1D) (s:G2D) (i :Int):St:=A5 261 [3,5,243,244] [.pt 32 0,.pt 352 0,(.ii (pw.length:Int)),.v (.c (.int .i64 i))] [32,288,289,290,291,292,293,294,295,352] [(eF_ [(.sl (Sq.g1 pw)),(.ob (.fp (G2D.xa s))),(.ob (.fp (G2D.xb s))),(.ob (.fp (G2D.ya s))),(.ob (.fp (G2D.yb s))),(.bool (G2D.inf s))]),(eQ_ (.fr (kyR l 0))),(eQ_ (.fr (kyR l 1))),(eQ_ (.fr (kyR l 2))),(eQ_ (.fr (kyR l 3))),(eQ_ (.fr (kyR l 4))),(eQ_ (.fr (kyW l 0))),(eQ_ (.fr (kyW l 1))),(eQ_ (.fr (kyW l 2))),(eF_ [(.int .i64 (lgI l)),(.int .i64 p),(.slc 288 0 (kyN l) 4),(.slc 289 0 (kyN l) 4),(.slc 290 0 (kyN l) 4),(.slc 291 0 (kyN l) 4),(.slc 292 0 (kyN l) 4),(.slc 293 0 (kyN l) 4),(.slc 294 0 (kyN l) 4),(.slc 295 0 (kyN l) 4),(.sl (Sq.g1 pw)),(.ob (.fp (G2D.xa s))),(.ob (.fp (G2D.xb s))),(.ob (.fp (G2D.ya s))),(.ob (.fp (G2D.yb s))),(.bool (G2D.inf s)),(.int .i64 (lgI l)),(.int .i64 p),(.ob (.fp (G1D.x (Prod.fst (kyC pw l (kyR l 0)))))),(.ob (.fp (G1D.y (Prod.fst (kyC pw l (kyR l 0)))))),(.bool (G1D.inf (Prod.fst (kyC pw l (kyR l 0))))),(.ob (.fp (G1D.x (Prod.fst (kyC pw l (kyR l 1)))))),(.ob (.fp (G1D.y (Prod.fst (kyC pw l (kyR l 1)))))),(.bool (G1D.inf (Prod.fst (kyC pw l (kyR l 1))))),(.ob (.fp (G1D.x (Prod.fst (kyC pw l (kyR l 2)))))),(.ob (.fp (G1D.y (Prod.fst (kyC pw l (kyR l 2)))))),(.bool (G1D.inf (Prod.fst (kyC pw l (kyR l 2))))),(.ob (.fp (G1D.x (Prod.fst (kyC pw l (kyR l 3)))))),(.ob (.fp (G1D.y (Prod.fst (kyC pw l (kyR l 3)))))),(.bool (G1D.inf (Prod.fst (kyC pw l (kyR l 3))))),(.ob (.fp (G1D.x (Prod.fst (kyC pw l (kyR l 4)))))),(.ob (.fp (G1D.y (Prod.fst (kyC pw l (kyR l 4)))))),(.bool (G1D.inf (Prod.fst (kyC pw l (kyR l 4))))),(.ob (.fp (G1D.x (Prod.fst (kyC pw l (kyW l 0)))))),(.ob (.fp (G1D.y (Prod.fst (kyC pw l (kyW l 0)))))),(.bool (G1D.inf (Prod.fst (kyC pw l (kyW l 0))))),(.ob (.fp (G1D.x (Prod.fst (kyC pw l (kyW l 1)))))),(.ob (.fp (G1D.y (Prod.fst (kyC pw l (kyW l 1)))))),(.bool (G1D.inf (Prod.fst (kyC pw l (kyW l 1))))),(.ob (.fp (G1D.x (Prod.fst (kyC pw l (kyW l 2)))))),(.ob (.fp (G1D.y (Prod.fst (kyC pw l (kyW l 2)))))),(.bool (G1D.inf (Prod.fst (kyC pw l (kyW l 2))))),(.ob (.fp (G2D.xa s))),(.ob (.fp (G2D.xb s))),(.ob (.fp (G2D.ya s))),(.ob (.fp (G2D.yb s))),(.bool (G2D.inf s))])] 9248 [] []
def B2y:List KI:=(run lwK false 3000 (⟨D4c,.normal,G0t dF dF dF dF dF⟩:Cfg) []).cfg.k
theorem G9i (l:List A1) (p v:Int) (pw:List G1D) (s:G2D):A3 []->Sg Try.prog (G0t l p v pw s) (E6q l p v pw s (0:Int)) .normal (B2y) (D4c):=sgA false 3000 [] B8z
theorem G9j (l:List A1) (p v:Int) (pw:List G1D) (s:G2D) (i:Int):let a:=List.getD pw (i).toNat g10;let b:=Bool.and (decide ((G1D.x a)=(G1D.x a))) (Bool.and (decide ((G1D.y a)=(G1D.y a))) ((G1D.inf a) == (G1D.inf a)));let c:=i<(pw.length:Int);A3 [((decide c)=true),(0<=i),c,(0<=i),c,((ite (false=true) b (Bool.not b))=false)]->Sg Try.prog (E6q l p v pw s i) (St.z (E6q l p v pw s (wrap .i64 (i+1))) 9520) .normal (D5 B2y) (B5 B2y):=sgA false 3000 [true,false] B8z
theorem E6r (l:List A1) (p v:Int) (pw:List G1D) (s:G2D) (i:Int):C2 lwK Try.f3 false 3000 (⟨B5 B2y,.normal,E6q l p v pw s i⟩) [false] [] []=(some ([((decide (i<(pw.length:Int)))=false)],((.ci (.bool true)),[]))):=by kernel_rfl
end
end

section

structure LwH (l:List A1) (p v:Int) (pw:List G1D):Prop where
 hr:C6 l p v=true
 hp:kyN l+6<=pw.length
 lim:l.length<=4096
 l0:0<=lgI l
 l1:decide (lgI l<1)=false
 hw:wrap .i64 ((1:Int)*((2:Int) ^ (min (lgI l).toNat 64)))=(kyN l:Int)
 hw6:wrap .i64 ((kyN l:Int)+6)=(kyN l:Int)+6
 ok:S4.K0 (lgI l)=true
 hd:S4.E9 (lgI l) (S4.D2 (lgI l))=true
 h6:kyN l<=65536
 h6i:(kyN l:Int)<=65536
 hn0:0<=(kyN l:Int)
 h1:l.length<=kyN l
 h1v:l.length<=S4.vlN (lgI l)
theorem D7i (l:List A1) (p v:Int) (hr:C6 l p v=true):l.length<=4096∧0<=lgI l∧decide (lgI l<1)=false∧wrap .i64 ((1:Int)*((2:Int) ^ (min (lgI l).toNat 64)))=(kyN l:Int)∧wrap .i64 ((kyN l:Int)+6)=(kyN l:Int)+6∧S4.K0 (lgI l)=true∧S4.E9 (lgI l) (S4.D2 (lgI l))=true∧kyN l<=65536∧l.length<=kyN l:=by
 have hlim:l.length<=4096:=by simp [C6] at hr;omega
 obtain ⟨a1,a2,a3,_⟩:=A4g l.length hlim;have hlg:(lgI l).toNat=A0h l.length:=rfl;have hok:S4.K0 (lgI l)=true:=by unfold S4.K0 lgI;rw[decide_eq_true (Int.natCast_nonneg _),decide_eq_true (by omega)];rfl
 have h6:kyN l<=65536:=by unfold kyN;rw[hlg];exact Nat.le_trans (Nat.pow_le_pow_right (by decide) a2) (by decide)
 have h1:l.length<=kyN l:=by unfold kyN;rw[hlg];exact a3
 refine ⟨hlim,Int.natCast_nonneg _,decide_eq_false (by unfold lgI;omega),?_,B0 (by omega) (by omega),hok,by simp [S4.E9,hok],h6,h1⟩
 exact S4.F7d (Int.natCast_nonneg _) (by unfold lgI;omega)
theorem G9k (l:List A1) (p v:Int) (pw:List G1D) (hr:C6 l p v=true) (hp:kyN l+6<=pw.length):LwH l p v pw:=by
 obtain ⟨a,b,c,d,e,f,g,h,i⟩:=D7i l p v hr;exact ⟨hr,hp,a,b,c,d,e,f,g,h,by omega,Int.natCast_nonneg _,i,i⟩
theorem O0 {e:Int} {l:List Int} (h:M6 (e::l)=0):e=0∧M6 l=0:=by
 unfold M6 at h;split at h
 ·rename_i e0;exact ⟨e0,h⟩
 ·rename_i e0;exact absurd h e0
theorem C9d {pw:List G1D} {l:List A1} (h:U2 pw l=0):B8s pw l:=by
 obtain ⟨c0,h⟩:=O0 h;obtain ⟨c1,h⟩:=O0 h;obtain ⟨c2,h⟩:=O0 h;obtain ⟨c3,h⟩:=O0 h;obtain ⟨c4,h⟩:=O0 h;obtain ⟨c5,h⟩:=O0 h;obtain ⟨c6,h⟩:=O0 h;exact ⟨c0,c1,c2,c3,c4,c5,c6,(O0 h).1⟩
theorem F8o:S4.inF (Fin.ofNat B4 1)=1:=by decide
section
variable {l:List A1} {p v:Int} {pw:List G1D} {s:G2D} {x:Ctx} (hk:∀p,x.k p = .no) (hF:∀b,x.F b->b<x.w.heap.size) (H:LwH l p v pw) {ac:List Act} {a:Act} {y:Ctx}
set_option maxRecDepth 100000 in
include hk hF H in
theorem G0v (hs:Sim x.w x.F Z8 ac (C5p l p v pw s) y a) (h:¬B8s pw l):Wq Try.prog (A9r Try.prog Try.f3 x (.v (.c (.bool true))) []) A2v ac .normal a y.w:=by
 have g0:kyN l=(kyR l 0).length:=(C5 _ _ H.h1).symm;have m0:(kyR l 0).length=2 ^ (lgI l).toNat:=C5 _ _ H.h1;have g1:kyN l=(kyR l 1).length:=(C5 _ _ H.h1).symm;have m1:(kyR l 1).length=2 ^ (lgI l).toNat:=C5 _ _ H.h1;have g2:kyN l=(kyR l 2).length:=(C5 _ _ H.h1).symm;have m2:(kyR l 2).length=2 ^ (lgI l).toNat:=C5 _ _ H.h1;have g3:kyN l=(kyR l 3).length:=(C5 _ _ H.h1).symm;have m3:(kyR l 3).length=2 ^ (lgI l).toNat:=C5 _ _ H.h1;have g4:kyN l=(kyR l 4).length:=(C5 _ _ H.h1).symm;have m4:(kyR l 4).length=2 ^ (lgI l).toNat:=C5 _ _ H.h1;have g5:kyN l=(kyW l 0).length:=(S4.H8 ..).symm;have m5:(kyW l 0).length=2 ^ (lgI l).toNat:=S4.H8 ..;have g6:kyN l=(kyW l 1).length:=(S4.H8 ..).symm;have m6:(kyW l 1).length=2 ^ (lgI l).toNat:=S4.H8 ..;have g7:kyN l=(kyW l 2).length:=(S4.H8 ..).symm;have m7:(kyW l 2).length=2 ^ (lgI l).toNat:=S4.H8 ..;have k0:(kyV l (kyR l 0)).length<=262144:=by rw[F4];exact Nat.le_trans H.h6 (by decide)
 have k1:(kyV l (kyR l 1)).length<=262144:=by rw[F4];exact Nat.le_trans H.h6 (by decide)
 have k2:(kyV l (kyR l 2)).length<=262144:=by rw[F4];exact Nat.le_trans H.h6 (by decide)
 have k3:(kyV l (kyR l 3)).length<=262144:=by rw[F4];exact Nat.le_trans H.h6 (by decide)
 have k4:(kyV l (kyR l 4)).length<=262144:=by rw[F4];exact Nat.le_trans H.h6 (by decide)
 have k5:(kyV l (kyW l 0)).length<=262144:=by rw[F4];exact Nat.le_trans H.h6 (by decide)
 have k6:(kyV l (kyW l 1)).length<=262144:=by rw[F4];exact Nat.le_trans H.h6 (by decide)
 have k7:(kyV l (kyW l 2)).length<=262144:=by rw[F4];exact Nat.le_trans H.h6 (by decide)
 have hd:=H.hd;have hin:=F8o;have q1:=H.h1;have q6:=H.h6i;have q0:=H.hn0;by_cases c0:(kyC pw l (kyR l 0)).2=0
 case neg=>
  have hE:U2 pw l=(kyC pw l (kyR l 0)).2:=by
   show M6 [(kyC pw l (kyR l 0)).2,(kyC pw l (kyR l 1)).2,(kyC pw l (kyR l 2)).2,(kyC pw l (kyR l 3)).2,(kyC pw l (kyR l 4)).2,(kyC pw l (kyW l 0)).2,(kyC pw l (kyW l 1)).2,(kyC pw l (kyW l 2)).2]=_;exact if_neg c0
  have e0:=A0i c0;have t:(U2 pw l == (kyC pw l (kyR l 0)).2)=true:=by rw[hE];exact beq_self_eq_true _
  exact C7 A4h hk hF (E6i l p v pw s) (by simp only[A3];and_intros<;>first | with_reducible assumption | with_reducible exact rfl | exact trivial | decide) (fun y v hd=>hd) hs
 by_cases c1:(kyC pw l (kyR l 1)).2=0
 case neg=>
  have hE:U2 pw l=(kyC pw l (kyR l 1)).2:=by
   show M6 [(kyC pw l (kyR l 0)).2,(kyC pw l (kyR l 1)).2,(kyC pw l (kyR l 2)).2,(kyC pw l (kyR l 3)).2,(kyC pw l (kyR l 4)).2,(kyC pw l (kyW l 0)).2,(kyC pw l (kyW l 1)).2,(kyC pw l (kyW l 2)).2]=_;exact (if_pos c0).trans (if_neg c1)
  have e0:=D7 c0;have e1:=A0i c1;have t:(U2 pw l == (kyC pw l (kyR l 1)).2)=true:=by rw[hE];exact beq_self_eq_true _
  exact C7 A4h hk hF (E6j l p v pw s) (by simp only[A3];and_intros<;>first | with_reducible assumption | with_reducible exact rfl | exact trivial | decide) (fun y v hd=>hd) hs
 by_cases c2:(kyC pw l (kyR l 2)).2=0
 case neg=>
  have hE:U2 pw l=(kyC pw l (kyR l 2)).2:=by
   show M6 [(kyC pw l (kyR l 0)).2,(kyC pw l (kyR l 1)).2,(kyC pw l (kyR l 2)).2,(kyC pw l (kyR l 3)).2,(kyC pw l (kyR l 4)).2,(kyC pw l (kyW l 0)).2,(kyC pw l (kyW l 1)).2,(kyC pw l (kyW l 2)).2]=_;exact (if_pos c0).trans ((if_pos c1).trans (if_neg c2))
  have e0:=D7 c0;have e1:=D7 c1;have e2:=A0i c2;have t:(U2 pw l == (kyC pw l (kyR l 2)).2)=true:=by rw[hE];exact beq_self_eq_true _
  exact C7 A4h hk hF (E6k l p v pw s) (by simp only[A3];and_intros<;>first | with_reducible assumption | with_reducible exact rfl | exact trivial | decide) (fun y v hd=>hd) hs
 by_cases c3:(kyC pw l (kyR l 3)).2=0
 case neg=>
  have hE:U2 pw l=(kyC pw l (kyR l 3)).2:=by
   show M6 [(kyC pw l (kyR l 0)).2,(kyC pw l (kyR l 1)).2,(kyC pw l (kyR l 2)).2,(kyC pw l (kyR l 3)).2,(kyC pw l (kyR l 4)).2,(kyC pw l (kyW l 0)).2,(kyC pw l (kyW l 1)).2,(kyC pw l (kyW l 2)).2]=_;exact (if_pos c0).trans ((if_pos c1).trans ((if_pos c2).trans (if_neg c3)))
  have e0:=D7 c0;have e1:=D7 c1;have e2:=D7 c2;have e3:=A0i c3;have t:(U2 pw l == (kyC pw l (kyR l 3)).2)=true:=by rw[hE];exact beq_self_eq_true _
  exact C7 A4h hk hF (E6l l p v pw s) (by simp only[A3];and_intros<;>first | with_reducible assumption | with_reducible exact rfl | exact trivial | decide) (fun y v hd=>hd) hs
 by_cases c4:(kyC pw l (kyR l 4)).2=0
 case neg=>
  have hE:U2 pw l=(kyC pw l (kyR l 4)).2:=by
   show M6 [(kyC pw l (kyR l 0)).2,(kyC pw l (kyR l 1)).2,(kyC pw l (kyR l 2)).2,(kyC pw l (kyR l 3)).2,(kyC pw l (kyR l 4)).2,(kyC pw l (kyW l 0)).2,(kyC pw l (kyW l 1)).2,(kyC pw l (kyW l 2)).2]=_;exact (if_pos c0).trans ((if_pos c1).trans ((if_pos c2).trans ((if_pos c3).trans (if_neg c4))))
  have e0:=D7 c0;have e1:=D7 c1;have e2:=D7 c2;have e3:=D7 c3;have e4:=A0i c4;have t:(U2 pw l == (kyC pw l (kyR l 4)).2)=true:=by rw[hE];exact beq_self_eq_true _
  exact C7 A4h hk hF (E6m l p v pw s) (by simp only[A3];and_intros<;>first | with_reducible assumption | with_reducible exact rfl | exact trivial | decide) (fun y v hd=>hd) hs
 by_cases c5:(kyC pw l (kyW l 0)).2=0
 case neg=>
  have hE:U2 pw l=(kyC pw l (kyW l 0)).2:=by
   show M6 [(kyC pw l (kyR l 0)).2,(kyC pw l (kyR l 1)).2,(kyC pw l (kyR l 2)).2,(kyC pw l (kyR l 3)).2,(kyC pw l (kyR l 4)).2,(kyC pw l (kyW l 0)).2,(kyC pw l (kyW l 1)).2,(kyC pw l (kyW l 2)).2]=_;exact (if_pos c0).trans ((if_pos c1).trans ((if_pos c2).trans ((if_pos c3).trans ((if_pos c4).trans (if_neg c5)))))
  have e0:=D7 c0;have e1:=D7 c1;have e2:=D7 c2;have e3:=D7 c3;have e4:=D7 c4;have e5:=A0i c5;have t:(U2 pw l == (kyC pw l (kyW l 0)).2)=true:=by rw[hE];exact beq_self_eq_true _
  exact C7 A4h hk hF (E6n l p v pw s) (by simp only[A3];and_intros<;>first | with_reducible assumption | with_reducible exact rfl | exact trivial | decide) (fun y v hd=>hd) hs
 by_cases c6:(kyC pw l (kyW l 1)).2=0
 case neg=>
  have hE:U2 pw l=(kyC pw l (kyW l 1)).2:=by
   show M6 [(kyC pw l (kyR l 0)).2,(kyC pw l (kyR l 1)).2,(kyC pw l (kyR l 2)).2,(kyC pw l (kyR l 3)).2,(kyC pw l (kyR l 4)).2,(kyC pw l (kyW l 0)).2,(kyC pw l (kyW l 1)).2,(kyC pw l (kyW l 2)).2]=_;exact (if_pos c0).trans ((if_pos c1).trans ((if_pos c2).trans ((if_pos c3).trans ((if_pos c4).trans ((if_pos c5).trans (if_neg c6))))))
  have e0:=D7 c0;have e1:=D7 c1;have e2:=D7 c2;have e3:=D7 c3;have e4:=D7 c4;have e5:=D7 c5;have e6:=A0i c6;have t:(U2 pw l == (kyC pw l (kyW l 1)).2)=true:=by rw[hE];exact beq_self_eq_true _
  exact C7 A4h hk hF (E6o l p v pw s) (by simp only[A3];and_intros<;>first | with_reducible assumption | with_reducible exact rfl | exact trivial | decide) (fun y v hd=>hd) hs
 by_cases c7:(kyC pw l (kyW l 2)).2=0
 case neg=>
  have hE:U2 pw l=(kyC pw l (kyW l 2)).2:=by
   show M6 [(kyC pw l (kyR l 0)).2,(kyC pw l (kyR l 1)).2,(kyC pw l (kyR l 2)).2,(kyC pw l (kyR l 3)).2,(kyC pw l (kyR l 4)).2,(kyC pw l (kyW l 0)).2,(kyC pw l (kyW l 1)).2,(kyC pw l (kyW l 2)).2]=_;exact (if_pos c0).trans ((if_pos c1).trans ((if_pos c2).trans ((if_pos c3).trans ((if_pos c4).trans ((if_pos c5).trans ((if_pos c6).trans (if_neg c7)))))))
  have e0:=D7 c0;have e1:=D7 c1;have e2:=D7 c2;have e3:=D7 c3;have e4:=D7 c4;have e5:=D7 c5;have e6:=D7 c6;have e7:=A0i c7;have t:(U2 pw l == (kyC pw l (kyW l 2)).2)=true:=by rw[hE];exact beq_self_eq_true _
  exact C7 A4h hk hF (E6p l p v pw s) (by simp only[A3];and_intros<;>first | with_reducible assumption | with_reducible exact rfl | exact trivial | decide) (fun y v hd=>hd) hs
 exact absurd ⟨c0,c1,c2,c3,c4,c5,c6,c7⟩ h
set_option maxRecDepth 100000 in
include hk hF H in
theorem G5m (hs:Sim x.w x.F Z8 ac (G0s l p v pw s) y a) (hl:pw.length<=maxLen) (h:B8s pw l):Wq Try.prog (A9r Try.prog Try.f3 x (.v (.c (.bool true))) []) C5q ac .normal a y.w:=by
 have g0:kyN l=(kyR l 0).length:=(C5 _ _ H.h1).symm;have m0:(kyR l 0).length=2 ^ (lgI l).toNat:=C5 _ _ H.h1;have g1:kyN l=(kyR l 1).length:=(C5 _ _ H.h1).symm;have m1:(kyR l 1).length=2 ^ (lgI l).toNat:=C5 _ _ H.h1;have g2:kyN l=(kyR l 2).length:=(C5 _ _ H.h1).symm;have m2:(kyR l 2).length=2 ^ (lgI l).toNat:=C5 _ _ H.h1;have g3:kyN l=(kyR l 3).length:=(C5 _ _ H.h1).symm;have m3:(kyR l 3).length=2 ^ (lgI l).toNat:=C5 _ _ H.h1;have g4:kyN l=(kyR l 4).length:=(C5 _ _ H.h1).symm;have m4:(kyR l 4).length=2 ^ (lgI l).toNat:=C5 _ _ H.h1;have g5:kyN l=(kyW l 0).length:=(S4.H8 ..).symm;have m5:(kyW l 0).length=2 ^ (lgI l).toNat:=S4.H8 ..;have g6:kyN l=(kyW l 1).length:=(S4.H8 ..).symm;have m6:(kyW l 1).length=2 ^ (lgI l).toNat:=S4.H8 ..;have g7:kyN l=(kyW l 2).length:=(S4.H8 ..).symm;have m7:(kyW l 2).length=2 ^ (lgI l).toNat:=S4.H8 ..;have k0:(kyV l (kyR l 0)).length<=262144:=by rw[F4];exact Nat.le_trans H.h6 (by decide)
 have k1:(kyV l (kyR l 1)).length<=262144:=by rw[F4];exact Nat.le_trans H.h6 (by decide)
 have k2:(kyV l (kyR l 2)).length<=262144:=by rw[F4];exact Nat.le_trans H.h6 (by decide)
 have k3:(kyV l (kyR l 3)).length<=262144:=by rw[F4];exact Nat.le_trans H.h6 (by decide)
 have k4:(kyV l (kyR l 4)).length<=262144:=by rw[F4];exact Nat.le_trans H.h6 (by decide)
 have k5:(kyV l (kyW l 0)).length<=262144:=by rw[F4];exact Nat.le_trans H.h6 (by decide)
 have k6:(kyV l (kyW l 1)).length<=262144:=by rw[F4];exact Nat.le_trans H.h6 (by decide)
 have k7:(kyV l (kyW l 2)).length<=262144:=by rw[F4];exact Nat.le_trans H.h6 (by decide)
 have hd:=H.hd;have hin:=F8o;have q1:=H.h1;have q6:=H.h6i;have q0:=H.hn0;obtain ⟨c0,c1,c2,c3,c4,c5,c6,c7⟩:=h;have e0:((kyC pw l (kyR l 0)).2 != 0)=false:=D7 c0;have e1:((kyC pw l (kyR l 1)).2 != 0)=false:=D7 c1;have e2:((kyC pw l (kyR l 2)).2 != 0)=false:=D7 c2;have e3:((kyC pw l (kyR l 3)).2 != 0)=false:=D7 c3;have e4:((kyC pw l (kyR l 4)).2 != 0)=false:=D7 c4;have e5:((kyC pw l (kyW l 0)).2 != 0)=false:=D7 c5;have e6:((kyC pw l (kyW l 1)).2 != 0)=false:=D7 c6;have e7:((kyC pw l (kyW l 2)).2 != 0)=false:=D7 c7;refine G9h l p v pw s (by simp only[A3];and_intros<;>first | with_reducible assumption | with_reducible exact rfl | exact trivial | decide | simp) hs fun ac cY aY hs1=>?_
 refine G9i l p v pw s trivial hs1 fun ac cZ aZ hs2=>?_
 unfold maxLen at hl;refine C0 (ι:={ i:Nat // i<=pw.length }) (fun i=>E6q l p v pw s i.1) (fun i=>pw.length-i.1) (c:=lpC B2y) (k:=lpR B2y) (by kernel_rfl) (fun i ih ac y b hs=>?_) ⟨0,Nat.zero_le _⟩ hs2
 obtain ⟨i,hi⟩:=i;simp only at hs ih
 by_cases hlt:i<pw.length
 ·refine G9j l p v pw s i (by simp only[A3];and_intros<;>first | exact decide_eq_true (by omega) | omega | exact trivial | simp) hs fun ac cV aV hs3=>?_
  have hw:wrap IntKind.i64 ((i:Int)+1)=((i+1:Nat):Int):=by rw[B0 (by omega) (by omega)];omega
  rw[hw] at hs3;exact ih ⟨i+1,by omega⟩ (by show pw.length-(i+1)<pw.length-i;omega) ac cV aV (hs3.nx 9248)
 ·exact C7 B8z hk hF (E6r l p v pw s i) ⟨decide_eq_false (by omega),trivial⟩ (fun y v hd=>hd) hs
end
theorem C1n (l:List A1) (p v:Int) (pw:List G1D) (s:G2D) (hl:pw.length<=maxLen):FnD Try.prog 3 [J2 l p v,.v (.a (P6 pw s))] (.v (.c (.bool true))) []:=by
 refine F5 (fn:=Try.f3) (c:=B2 Try.f3) Try.func3 rfl rfl fun x b hk hF hs=>?_
 refine lw0 l p v pw s ⟨by split<;>omega,by split<;>omega,trivial⟩ hs fun ac cY aY hs1=>?_
 generalize hpw:List.take (ite ((50:Int)<(pw.length:Int)) (50:Int) (pw.length:Int)).toNat (List.drop 0 pw)=pw' at hs1;have hl' : pw'.length<=maxLen:=by
  rw[<-hpw,List.drop_zero];rw[List.length_take];exact Nat.le_trans (Nat.min_le_right _ _) hl
 generalize D3i l=l' at hs1;clear hpw hl hs;have hs1:Sim x.w x.F Z8 ac (lwS l' p v pw' s) cY aY:=hs1
 cases hr:C6 l' p v with
 | false=>exact C7 G0q hk hF (E6g l' p v pw' s) ⟨hr,hr,rfl,rfl,rfl,by decide,by decide,trivial⟩ (fun y v hd=>hd) hs1
 | true=>
  obtain ⟨a1,a2,a3,a4,a5,a6,a7,a8,a9⟩:=D7i l' p v hr;by_cases hp:kyN l' + 6<=pw'.length
  ·have H:=G9k l' p v pw' hr hp
   have g1:decide (wrap .i64 ((1:Int)*((2:Int) ^ (min (lgI l').toNat 64)))<(l'.length:Int))=false:=by rw[a4];exact decide_eq_false (by omega)
   have g2:decide (wrap .i64 (wrap .i64 ((1:Int)*((2:Int) ^ (min (lgI l').toNat 64)))+6) > (pw'.length:Int))=false:=by rw[a4,a5];exact decide_eq_false (by omega)
   by_cases hA:B8s pw' l'
   ·refine G9g l' p v pw' s ⟨hr,hp,hA,hr,rfl,a2,a3,g1,g2,a6,hr,a6,a9,a1,rfl,trivial⟩ hs1 fun ac cZ aZ hs2=>?_
    rw[a4] at hs2;exact G5m hk hF H hs2 hl' hA
   ·have hE:U2 pw' l' ≠ 0:=fun h=>hA (C9d h)
    refine G9f l' p v pw' s ⟨hr,hp,hE,hr,rfl,a2,a3,g1,g2,a6,hr,a6,a9,a1,rfl,trivial⟩ hs1 fun ac cZ aZ hs2=>?_
    rw[a4] at hs2;exact G0v hk hF H hs2 hA
  ·exact C7 G0r hk hF (E6h l' p v pw' s) ⟨hr,by omega,hr,rfl,a2,a3,by rw[a4];exact decide_eq_false (by omega),by rw[a4,a5];exact decide_eq_true (by omega),rfl,rfl,by decide,by decide,trivial⟩ (fun y v hd=>hd) hs1
end

end
end Go.Proofs.Ytifiiigbedjceaa
