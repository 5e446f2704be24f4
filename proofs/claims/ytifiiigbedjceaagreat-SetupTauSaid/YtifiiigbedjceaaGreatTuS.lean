/- Parts of a proof, one behind the other: WNb, WNc, PNs, PNu, PNt, PNv, PNw, PNx, WNd, PNy, PNz, PVp, WVc, PVc. No conditions. -/
import Derived.Test.YtifiiigbedjceaaGreatTuR
open Go.IntKind (wrap)
namespace Go.Proofs.YtifiiigbedjceaaGreat
noncomputable section
section
section
variable {w0:World} {F0:Nat->Prop} {K:Kp} {ac:List Act} {Q:Exit->Act->World->Prop} {cX:C0} {aX:Act}
def ltS(σ:St)(d:Nat)(s:SV):St:={ σ with t:=M7 σ.t d s }
def BC:List KI:=(run nxA false 3000 (⟨J4 (J4 Yf),.normal,⟨M7 (M7 (C7 .top [2,4,6] [.v (.c (.ptr 16 0)),.v (.c (.ptr 32 0)),.v (.c (.ptr 64 0))]) 43 (.v (.c (.val (.map (some dF)))))) 44 (.v (.c (.val (.map (some dF))))),C7 none [16,32,64,65,66,67] [some (.fl [.vsl dF (.gate dF),.int .i64 dF,.int .i64 dF]),some (.fl [.val (.slice none 0 0),.val (.slice none 0 0),.val (.slice none 0 0)]),some (.fl [.slc 65 0 dF 2,.slc 66 0 dF 2,.slc 67 0 dF 2]),some (.sq (.place dF)),some (.sq (.place dF)),some (.sq (.place dF))],81,240,[]⟩⟩:G5) []).cfg.k
theorem nxE(u:Value)(l:List A0)(p v:Int)(b1 b2:Nat)(m0 m1 m2:Nat)(L0 L1 L2:List (Int×Int)):let a:=Value.slice Option.none 0 0;A5 []->Sg Tryz.prog (⟨M7 (M7 (C7 .top [2,4,6] [.v (.c (.ptr 16 0)),.v (.c (.ptr 32 0)),.v (.c (.ptr 64 0))]) 43 (.ci (.val (.map (some b1))))) 44 (.ci (.val (.map (some b2)))),C7 none [16,32,64,65,66,67] [some (.fl [.vsl u (.gate l),.int .i64 p,.int .i64 v]),some (.fl [.val (.slice none 0 0),.val (.slice none 0 0),.val (.slice none 0 0)]),some (.fl [.slc 65 0 m0 2,.slc 66 0 m1 2,.slc 67 0 m2 2]),some (.sq (.place L0)),some (.sq (.place L1)),some (.sq (.place L2))],81,240,[]⟩) (B0 81 [4,6,10,11,46] [.pt 32 0,.pt 64 0,.pt 240 0,.pt 256 0,(.ci (.clo 103 [(320,0)]))] [32,64,65,66,67,240,256,320] [(B9 [(.val a),(.val a),(.val a)]),(B9 [(.slc 65 0 m0 2),(.slc 66 0 m1 2),(.slc 67 0 m2 2)]),(D9 (Sq.place L0)),(D9 (Sq.place L1)),(D9 (Sq.place L2)),(B9 [(.val (Value.map (some b1)))]),(B9 [(.val (Value.map (some b2)))]),(B9 [(It.vsl u (.gate l)),(.int .i64 p),(.int .i64 v)])] 384 [] []) .normal (BC) (J4 (J4 Yf)):=E4 false 3000 [] M4
def nxS(u:Value)(l:List A0)(p v:Int)(b1 b2:Nat)(N:Nat)(L0 L1 L2:List (Int×Int)):St:=B0 81 [4,6,10,11,46] [.pt 32 0,.pt 64 0,.pt 240 0,.pt 256 0,(.ci (.clo 103 [(320,0)]))] [32,64,65,66,67,240,256,320] [(B9 [(.val (Value.slice Option.none 0 0)),(.val (Value.slice Option.none 0 0)),(.val (Value.slice Option.none 0 0))]),some (.fl [.slc 65 0 N 2,.slc 66 0 N 2,.slc 67 0 N 2]),some (.sq (.place L0)),some (.sq (.place L1)),some (.sq (.place L2)),(B9 [(.val (Value.map (some b1)))]),(B9 [(.val (Value.map (some b2)))]),(B9 [(It.vsl u (.gate l)),(.int .i64 p),(.int .i64 v)])] 384 [] []
def nxM(u:Value)(l:List A0)(p v:Int)(b1 b2:Nat)(N:Nat)(L0 L1 L2:List (Int×Int))(r w k:Int):St:=B0 81 [4,6,10,11,12,13] [.pt 32 0,.pt 64 0,.pt 240 0,.pt 256 0,.pt 384 0,.ii k] [32,64,65,66,67,240,256,320,384] [(B9 [(.val (Value.slice Option.none 0 0)),(.val (Value.slice Option.none 0 0)),(.val (Value.slice Option.none 0 0))]),(B9 [(.slc 65 0 N 2),(.slc 66 0 N 2),(.slc 67 0 N 2)]),(D9 (Sq.place L0)),(D9 (Sq.place L1)),(D9 (Sq.place L2)),(B9 [(.val (Value.map (some b1)))]),(B9 [(.val (Value.map (some b2)))]),(B9 [(It.vsl u (.gate l)),(.int .i64 p),(.int .i64 v)]),(B9 [(.int .i64 r),(.int .i64 w)])] 432 [[4,6,10,11,46]] [([.pt 32 0,.pt 64 0,.pt 240 0,.pt 256 0,(.ci (.clo 103 [(320,0)]))],81)]
theorem nxF(u:Value)(l:List A0)(p v:Int)(b1 b2:Nat)(N:Nat)(L0 L1 L2:List (Int×Int))(r w k:Int){ρ:Option Nat}(ho:A5 [])(hs:Sim w0 F0 K ac (Y6 (nxS u l p v b1 b2 N L0 L1 L2) [(47,.v (.a [.int .i64 r,.int .i64 w])),(48,.v (.c (.int .i64 k)))]) cX aX)(hK:∀cY aY,Sim w0 F0 K ac (nxM u l p v b1 b2 N L0 L1 L2 r w k) cY aY->Wq Tryz.prog Q ([]) ac Exit.normal aY cY.w ρ):Wq Tryz.prog Q ([.code (rfA BC)]) ac .normal aX cX.w ρ :=
 J5 (unroll:=false) (n:=3000) (path:=[]) (o:=⟨_,_,_,_,_,_,_⟩) M4 (by kernel_rfl) (by kernel_rfl) ho (by kernel_rfl) (by kernel_rfl) hs hK
def LC(u:Value)(l:List A0)(p v:Int)(b1 b2:Nat)(N:Nat)(L0 L1 L2:List (Int×Int))(r w k:Int):St:=B0 81 [4,6,10,11,12,13,50,51] [.pt 32 0,.pt 64 0,.pt 240 0,.pt 256 0,.pt 384 0,.ii k,(.ci (.val (Value.map (some b2)))),.ii k] [32,64,65,66,67,240,256,320,384] [(B9 [(.val (Value.slice Option.none 0 0)),(.val (Value.slice Option.none 0 0)),(.val (Value.slice Option.none 0 0))]),(B9 [(.slc 65 0 N 2),(.slc 66 0 N 2),(.slc 67 0 N 2)]),(D9 (Sq.place L0)),(D9 (Sq.place L1)),(D9 (Sq.place L2)),(B9 [(.val (Value.map (some b1)))]),(B9 [(.val (Value.map (some b2)))]),(B9 [(It.vsl u (.gate l)),(.int .i64 p),(.int .i64 v)]),(B9 [(.int .i64 r),(.int .i64 w)])] 464 [[4,6,10,11,46]] [([.pt 32 0,.pt 64 0,.pt 240 0,.pt 256 0,(.ci (.clo 103 [(320,0)]))],81)]
def JD:List KI:=(run nxA false 3000 (⟨[.code (rfB BC)],.normal,nxM dF dF dF dF dF dF dF dF dF dF dF dF dF⟩:G5) []).cfg.k
theorem nxG(u:Value)(l:List A0)(p v:Int)(b1 b2:Nat)(N:Nat)(L0 L1 L2:List (Int×Int))(r w k:Int){ρ:Option Nat}(ho:A5 [])(hs:Sim w0 F0 K ac (nxM u l p v b1 b2 N L0 L1 L2 r w k) cX aX)(hK:∀cY aY,Sim w0 F0 K ac (LC u l p v b1 b2 N L0 L1 L2 r w k) cY aY->Wq Tryz.prog Q (JD) ac Exit.normal aY cY.w ρ):Wq Tryz.prog Q ([.code (rfB BC)]) ac .normal aX cX.w ρ :=
 J5 (unroll:=false) (n:=3000) (path:=[]) (o:=⟨_,_,_,_,_,_,_⟩) M4 (by kernel_rfl) (by kernel_rfl) ho (by kernel_rfl) (by kernel_rfl) hs hK
def nxU(u:Value)(l:List A0)(p v:Int)(b1 b2:Nat)(N:Nat)(L0 L1 L2:List (Int×Int))(r w k:Int):St:=B0 81 [4,6,10,12,13,67,68,69] [.pt 32 0,.pt 64 0,.pt 240 0,.pt 384 0,.ii k,(.ci (.val (Value.map (some b2)))),.ii k,(.v (.a [(.int .i64 r),(.int .i64 w)]))] [32,64,65,66,67,240,256,320,384] [(B9 [(.val (Value.slice Option.none 0 0)),(.val (Value.slice Option.none 0 0)),(.val (Value.slice Option.none 0 0))]),(B9 [(.slc 65 0 N 2),(.slc 66 0 N 2),(.slc 67 0 N 2)]),(D9 (Sq.place L0)),(D9 (Sq.place L1)),(D9 (Sq.place L2)),(B9 [(.val (Value.map (some b1)))]),(B9 [(.val (Value.map (some b2)))]),(B9 [(It.vsl u (.gate l)),(.int .i64 p),(.int .i64 v)]),(B9 [(.int .i64 r),(.int .i64 w)])] 672 [[4,6,10,11,46]] [([.pt 32 0,.pt 64 0,.pt 240 0,.pt 256 0,(.ci (.clo 103 [(320,0)]))],81)]
def AN:List KI:=(run nxA false 3000 (⟨J4 JD,.normal,ltS (LC dF dF dF dF dF dF dF dF dF dF dF dF dF) 52 (.t [.a [.int .i64 dF,.int .i64 0],.c (.lit true)])⟩:G5) []).cfg.k
theorem E4l(u:Value)(l:List A0)(p v:Int)(b1 b2:Nat)(N:Nat)(L0 L1 L2:List (Int×Int))(r w k q:Int){ρ:Option Nat}(ho:A5 [(0<=(0:Int)),(0<(3:Int)),(0<=q),(q<((N:Nat):Int)),(0=0),((q).toNat<L0.length)])(hs:Sim w0 F0 K ac (ltS (LC u l p v b1 b2 N L0 L1 L2 r w k) 52 (.t [.a [.int .i64 q,.int .i64 0],.c (.lit true)])) cX aX)(hK:∀cY aY,Sim w0 F0 K ac (St.z (nxU u l p v b1 b2 N (List.set L0 (q).toNat (r,w)) L1 L2 r w k) 768) cY aY->Wq Tryz.prog Q (AN) ac Exit.normal aY cY.w ρ):Wq Tryz.prog Q (J4 JD) ac .normal aX cX.w ρ :=
 J5 (unroll:=false) (n:=3000) (path:=[]) (o:=⟨_,_,_,_,_,_,_⟩) M4 (by kernel_rfl) (by kernel_rfl) ho (by kernel_rfl) (by kernel_rfl) hs hK
theorem E4m(u:Value)(l:List A0)(p v:Int)(b1 b2:Nat)(N:Nat)(L0 L1 L2:List (Int×Int))(r w k q:Int){ρ:Option Nat}(ho:A5 [(0<=(1:Int)),((1:Int)<(3:Int)),(0<=q),(q<((N:Nat):Int)),(0=0),((q).toNat<L1.length)])(hs:Sim w0 F0 K ac (ltS (LC u l p v b1 b2 N L0 L1 L2 r w k) 52 (.t [.a [.int .i64 q,.int .i64 1],.c (.lit true)])) cX aX)(hK:∀cY aY,Sim w0 F0 K ac (St.z (nxU u l p v b1 b2 N L0 (List.set L1 (q).toNat (r,w)) L2 r w k) 768) cY aY->Wq Tryz.prog Q (AN) ac Exit.normal aY cY.w ρ):Wq Tryz.prog Q (J4 JD) ac .normal aX cX.w ρ :=
 J5 (unroll:=false) (n:=3000) (path:=[]) (o:=⟨_,_,_,_,_,_,_⟩) M4 (by kernel_rfl) (by kernel_rfl) ho (by kernel_rfl) (by kernel_rfl) hs hK
theorem E4n(u:Value)(l:List A0)(p v:Int)(b1 b2:Nat)(N:Nat)(L0 L1 L2:List (Int×Int))(r w k q:Int){ρ:Option Nat}(ho:A5 [(0<=(2:Int)),((2:Int)<(3:Int)),(0<=q),(q<((N:Nat):Int)),(0=0),((q).toNat<L2.length)])(hs:Sim w0 F0 K ac (ltS (LC u l p v b1 b2 N L0 L1 L2 r w k) 52 (.t [.a [.int .i64 q,.int .i64 2],.c (.lit true)])) cX aX)(hK:∀cY aY,Sim w0 F0 K ac (St.z (nxU u l p v b1 b2 N L0 L1 (List.set L2 (q).toNat (r,w)) r w k) 768) cY aY->Wq Tryz.prog Q (AN) ac Exit.normal aY cY.w ρ):Wq Tryz.prog Q (J4 JD) ac .normal aX cX.w ρ :=
 J5 (unroll:=false) (n:=3000) (path:=[]) (o:=⟨_,_,_,_,_,_,_⟩) M4 (by kernel_rfl) (by kernel_rfl) ho (by kernel_rfl) (by kernel_rfl) hs hK
def C6g(u:Value)(l:List A0)(p v:Int)(b1 b2:Nat)(N:Nat)(L0 L1 L2:List (Int×Int))(r w k:Int):St:=B0 81 [4,6,10,11,12,13,64,65,66] [.pt 32 0,.pt 64 0,.pt 240 0,.pt 256 0,.pt 384 0,.ii k,(.ci (.val (Value.map (some b1)))),.ii k,(.v (.a [(.int .i64 r),(.int .i64 w)]))] [32,64,65,66,67,240,256,320,384] [(B9 [(.val (Value.slice Option.none 0 0)),(.val (Value.slice Option.none 0 0)),(.val (Value.slice Option.none 0 0))]),(B9 [(.slc 65 0 N 2),(.slc 66 0 N 2),(.slc 67 0 N 2)]),(D9 (Sq.place L0)),(D9 (Sq.place L1)),(D9 (Sq.place L2)),(B9 [(.val (Value.map (some b1)))]),(B9 [(.val (Value.map (some b2)))]),(B9 [(It.vsl u (.gate l)),(.int .i64 p),(.int .i64 v)]),(B9 [(.int .i64 r),(.int .i64 w)])] 624 [[4,6,10,11,46]] [([.pt 32 0,.pt 64 0,.pt 240 0,.pt 256 0,(.ci (.clo 103 [(320,0)]))],81)]
def B7l:List KI:=(run nxA false 3000 (⟨J4 JD,.normal,ltS (LC dF dF dF dF dF dF dF dF dF dF dF dF dF) 52 (.t [.a [.int .i64 0,.int .i64 0],.c (.lit false)])⟩:G5) []).cfg.k
theorem nxN(u:Value)(l:List A0)(p v:Int)(b1 b2:Nat)(N:Nat)(L0 L1 L2:List (Int×Int))(r w k:Int){ρ:Option Nat}(ho:A5 [])(hs:Sim w0 F0 K ac (ltS (LC u l p v b1 b2 N L0 L1 L2 r w k) 52 (.t [.a [.int .i64 0,.int .i64 0],.c (.lit false)])) cX aX)(hK:∀cY aY,Sim w0 F0 K ac (C6g u l p v b1 b2 N L0 L1 L2 r w k) cY aY->Wq Tryz.prog Q (B7l) ac Exit.normal aY cY.w ρ):Wq Tryz.prog Q (J4 JD) ac .normal aX cX.w ρ :=
 J5 (unroll:=false) (n:=3000) (path:=[]) (o:=⟨_,_,_,_,_,_,_⟩) M4 (by kernel_rfl) (by kernel_rfl) ho (by kernel_rfl) (by kernel_rfl) hs hK
theorem nxP(u:Value)(l:List A0)(p v:Int)(b1 b2:Nat)(N:Nat)(L0 L1 L2:List (Int×Int))(r w k:Int){ρ:Option Nat}(ho:A5 [])(hs:Sim w0 F0 K ac (C6g u l p v b1 b2 N L0 L1 L2 r w k) cX aX)(hK:∀cY aY,Sim w0 F0 K ac (nxU u l p v b1 b2 N L0 L1 L2 r w k) cY aY->Wq Tryz.prog Q (AN) ac Exit.normal aY cY.w ρ):Wq Tryz.prog Q (J4 B7l) ac .normal aX cX.w ρ :=
 J5 (unroll:=false) (n:=3000) (path:=[]) (o:=⟨_,_,_,_,_,_,_⟩) M4 (by kernel_rfl) (by kernel_rfl) ho (by kernel_rfl) (by kernel_rfl) hs hK
def T8(u:Value)(l:List A0)(p v:Int)(b1 b2:Nat)(N:Nat)(L0 L1 L2:List (Int×Int))(r w k:Int):St:=B0 81 [4,6,10,12,13] [.pt 32 0,.pt 64 0,.pt 240 0,.pt 384 0,.ii k] [32,64,65,66,67,240,256,320,384] [(B9 [(.val (Value.slice Option.none 0 0)),(.val (Value.slice Option.none 0 0)),(.val (Value.slice Option.none 0 0))]),(B9 [(.slc 65 0 N 2),(.slc 66 0 N 2),(.slc 67 0 N 2)]),(D9 (Sq.place L0)),(D9 (Sq.place L1)),(D9 (Sq.place L2)),(B9 [(.val (Value.map (some b1)))]),(B9 [(.val (Value.map (some b2)))]),(B9 [(It.vsl u (.gate l)),(.int .i64 p),(.int .i64 v)]),(B9 [(.int .i64 r),(.int .i64 w)])] 672 [[4,6,10,11,46]] [([.pt 32 0,.pt 64 0,.pt 240 0,.pt 256 0,(.ci (.clo 103 [(320,0)]))],81)]
def BD:List KI:=(run nxA false 3000 (⟨J4 AN,.normal,nxU dF dF dF dF dF dF dF dF dF dF dF dF dF⟩:G5) []).cfg.k
theorem nxV(u:Value)(l:List A0)(p v:Int)(b1 b2:Nat)(N:Nat)(L0 L1 L2:List (Int×Int))(r w k:Int){ρ:Option Nat}(ho:A5 [])(hs:Sim w0 F0 K ac (nxU u l p v b1 b2 N L0 L1 L2 r w k) cX aX)(hK:∀cY aY,Sim w0 F0 K ac (T8 u l p v b1 b2 N L0 L1 L2 r w k) cY aY->Wq Tryz.prog Q (BD) ac Exit.normal aY cY.w ρ):Wq Tryz.prog Q (J4 AN) ac .normal aX cX.w ρ :=
 J5 (unroll:=false) (n:=3000) (path:=[]) (o:=⟨_,_,_,_,_,_,_⟩) M4 (by kernel_rfl) (by kernel_rfl) ho (by kernel_rfl) (by kernel_rfl) hs hK
end
end
section
section
variable {w0:World} {F0:Nat->Prop} {K:Kp} {ac:List Act} {Q:Exit->Act->World->Prop} {cX:C0} {aX:Act}
def H5:List (List Nat×List Nat):=[([6,7],[0,1,2,3,4,5,9,10]),([4,6,7],[0,1,2,3,5,9,10]),([4,5,6,7],[0,1,2,3,9,10]),([0,6,7],[1,2,3,4,5,9,10]),([0,4,6,7],[1,2,3,5,9,10]),([0,4,5,6,7],[1,2,3,9,10]),([0,1,6,7],[2,3,4,5,9,10]),([0,1,4,6,7],[2,3,5,9,10]),([0,1,4,5,6,7],[2,3,9,10]),([0,1,2,6,7],[3,4,5,9,10]),([0,1,2,4,6,7],[3,5,9,10]),([0,1,2,4,5,6,7],[3,9,10]),([0,1,2,3,6,7],[4,5,9,10]),([0,1,2,3,4,6,7],[5,9,10]),([0,1,2,3,4,5,6,7],[9,10])]
def opN:Array Oper:=D0w BD
def nkC(u:Value)(l:List A0)(p v:Int)(b1 b2:Nat)(N:Nat)(L0 L1 L2:List (Int×Int))(r w k q q' : Int)(D R:List Nat):G5:=⟨J4 (.ops (opN.extract 0 9) 8 [] :: .any opN 8 (Ae opN R)::CS BD),.normal,ltS (K9 nxA opN D (T8 u l p v b1 b2 N L0 L1 L2 r w k)) 78 (.v (.a [.int .i64 q,.int .i64 q']))⟩
def C6h(u:Value)(l:List A0)(p v:Int)(b1 b2:Nat)(N:Nat)(L0 L1 L2:List (Int×Int))(r k q q':Int):St:=B0 81 [4] [.pt 32 0] [32,64,65,66,67,240,256,320] [(B9 [(.val (Value.slice Option.none 0 0)),(.val (Value.slice Option.none 0 0)),(.val (Value.slice Option.none 0 0))]),(B9 [(.slc 65 0 N 2),(.slc 66 0 N 2),(.slc 67 0 N 2)]),(D9 (Sq.place (List.set L0 (r).toNat (q,q')))),(D9 (Sq.place L1)),(D9 (Sq.place L2)),(B9 [(.val (Value.map (some b1)))]),(B9 [(.val (Value.map (some b2)))]),(B9 [(It.vsl u (.gate l)),(.int .i64 p),(.int .i64 v)])] 848 [[4,6,10,11,46]] [([.pt 32 0,.pt 64 0,.pt 240 0,.pt 256 0,(.ci (.clo 103 [(320,0)]))],81)]
def C6i(u:Value)(l:List A0)(p v:Int)(b1 b2:Nat)(N:Nat)(L0 L1 L2:List (Int×Int))(r k q q':Int):St:=B0 81 [4] [.pt 32 0] [32,64,65,66,67,240,256,320] [(B9 [(.val (Value.slice Option.none 0 0)),(.val (Value.slice Option.none 0 0)),(.val (Value.slice Option.none 0 0))]),(B9 [(.slc 65 0 N 2),(.slc 66 0 N 2),(.slc 67 0 N 2)]),(D9 (Sq.place L0)),(D9 (Sq.place (List.set L1 (r).toNat (q,q')))),(D9 (Sq.place L2)),(B9 [(.val (Value.map (some b1)))]),(B9 [(.val (Value.map (some b2)))]),(B9 [(It.vsl u (.gate l)),(.int .i64 p),(.int .i64 v)])] 848 [[4,6,10,11,46]] [([.pt 32 0,.pt 64 0,.pt 240 0,.pt 256 0,(.ci (.clo 103 [(320,0)]))],81)]
def C6j(u:Value)(l:List A0)(p v:Int)(b1 b2:Nat)(N:Nat)(L0 L1 L2:List (Int×Int))(r k q q':Int):St:=B0 81 [4] [.pt 32 0] [32,64,65,66,67,240,256,320] [(B9 [(.val (Value.slice Option.none 0 0)),(.val (Value.slice Option.none 0 0)),(.val (Value.slice Option.none 0 0))]),(B9 [(.slc 65 0 N 2),(.slc 66 0 N 2),(.slc 67 0 N 2)]),(D9 (Sq.place L0)),(D9 (Sq.place L1)),(D9 (Sq.place (List.set L2 (r).toNat (q,q')))),(B9 [(.val (Value.map (some b1)))]),(B9 [(.val (Value.map (some b2)))]),(B9 [(It.vsl u (.gate l)),(.int .i64 p),(.int .i64 v)])] 848 [[4,6,10,11,46]] [([.pt 32 0,.pt 64 0,.pt 240 0,.pt 256 0,(.ci (.clo 103 [(320,0)]))],81)]
end
end
section
def C2k:List Nat:=[0,1,3,7,0,16,0,0,192,511,1023]
theorem E1y:∀b0 b1 b2 b3 b4 b5:Bool,(b1=true->b0=true)->(b2=true->b1=true)->(b3=true->b2=true)->(b5=true->b4=true)->∃r∈H5,∀i:Fin 11,(([b0,b1,b2,b3,b4,b5,true,true,false,false,false].getD i.val false=true)↔i.val∈r.1):=by decide +kernel
theorem A2b{P:Program}{w0:World}{F0:Nat->Prop}{K:Kp}{aq:List Act}{env:D6}{ops:Array Oper}{Q:Exit->Act->World->Prop}{x:C0}{a:Act}{ρ:Option Nat}(hE:A7 P env){id:Nat}{oc:Oper}{σ:St}{k:List KI}(hs:Sim w0 F0 K aq σ x a)
  (hn:ops.size=11) (hA:AA ops.toList []=C2k) (hok:CV env ops (AA ops.toList []) 8 ops.toList 0=true) (hcc:ops[8]? = some oc) (hg:oc.guard=none) {ob2:List Prop} (hob:A5 ob2)
  (hrun:(H5.map fun r=>(I7 env [] ops.toList (AA ops.toList []) [] [] σ.nx (Ae ops r.1) σ).map (·.1))=H5.map fun r=>some (if r.1.contains 2 then ob2 else []))
  (h:∀r∈H5,∀y a',Sim w0 F0 K aq (K9 env ops r.1 σ) y a' -> Wq P Q (.ops (ops.extract 0 9) 8 [] :: .any ops 8 (Ae ops r.2)::k) aq .normal a' y.w ρ) :
  Wq P Q (.code (.region id ops true)::k) aq .normal a x.w ρ:=by
 refine Wq.split (runs:=H5.map fun r=>(Ae ops r.1,Ae ops r.2,K9 env ops r.1 σ)) hE hs hok hcc hg ?_ ?_ ?_ ?_ ?_
 ·intro r hr
  obtain ⟨q,hq,rfl⟩:=List.mem_map.1 hr;refine A2c ?_ ?_ ?_ ?_
  ·exact (by decide +kernel:∀q∈H5,q.1.Pairwise fun a b=>a<b) q hq
  ·exact (by decide +kernel:∀q∈H5,q.2.Pairwise fun a b=>a<b) q hq
  ·exact (by decide +kernel:∀q∈H5,8 ∉ q.1∧8 ∉ q.2) q hq
  ·rw[hn]
   exact (by decide +kernel:∀q∈H5,∀i,i<11->i≠8->(i∈q.2↔i ∉ q.1)) q hq
 ·intro b h1 h2 h3
  rw[hA,hn] at h1;rw[hA] at h3;rw[hn];have b6:=h3 6 A4;have b7:=h3 7 A4;have nb (i:Nat) (hi:i<11) (hj:(C2k.getD i 0).testBit 8=true):b i=false:=by
   cases hh:b i with
   | false=>rfl
   | true=>have:=h1 i hi hh 8 hj;rw[h2] at this;cases this
  have b9:=nb 9 A4 A4;have b10:=nb 10 A4 A4;obtain ⟨r,hr,hb⟩:=E1y (b 0) (b 1) (b 2) (b 3) (b 4) (b 5) (fun h=>h1 1 A4 h 0 A4) (fun h=>h1 2 A4 h 1 A4) (fun h=>h1 3 A4 h 2 A4) (fun h=>h1 5 A4 h 4 A4)
  refine ⟨_,List.mem_map.2 ⟨r,hr,rfl⟩,fun i hi=>?_⟩
  have e:=hb ⟨i,hi⟩;rw[VJ (by omega),<-e]
  match i,hi with
  | 0,_=>exact Iff.rfl
  | 1,_=>exact Iff.rfl
  | 2,_=>exact Iff.rfl
  | 3,_=>exact Iff.rfl
  | 4,_=>exact Iff.rfl
  | 5,_=>exact Iff.rfl
  | 6,_=>rw[b6];exact Iff.rfl
  | 7,_=>rw[b7];exact Iff.rfl
  | 8,_=>rw[h2];exact Iff.rfl
  | 9,_=>rw[b9];exact Iff.rfl
  | 10,_=>rw[b10];exact Iff.rfl
 ·rw[hA]
  refine ⟨_,List.mem_map.2 ⟨([0,1,2,3,4,5,6,7],[9,10]),by decide +kernel,rfl⟩,fun i o hi hne hb=>?_⟩
  refine Bg.2 ⟨?_,hi⟩
  have hlt:i<11:=by have:=(Array.getElem?_eq_some_iff.1 hi).1;omega
  exact (by decide +kernel:∀i,i<11->i≠8->(C2k.getD i 0).testBit 8=false->i∈[0,1,2,3,4,5,6,7]) i hlt hne hb
 ·intro r hr
  obtain ⟨q,hq,rfl⟩:=List.mem_map.1 hr;have key:∀(l:List (List Nat×List Nat)) (f g:List Nat×List Nat->Option (List Prop)),l.map f=l.map g->∀q∈l,f q=g q:=by
   intro l f g h q hq;induction l with
   | nil=>cases hq
   | cons z l ih=>
    simp only[List.map_cons,List.cons.injEq] at h;rcases List.mem_cons.1 hq with rfl | hq
    ·exact h.1
    ·exact ih h.2 hq
  have h1:=key _ _ _ hrun q hq;have h2:∃ob,I7 env [] ops.toList (AA ops.toList []) [] [] σ.nx (Ae ops q.1) σ=some (ob,K9 env ops q.1 σ)∧ob=if q.1.contains 2 then ob2 else []:=by
   unfold K9
   cases hh:I7 env [] ops.toList (AA ops.toList []) [] [] σ.nx (Ae ops q.1) σ with
   | none=>rw[hh] at h1;cases h1
   | some r=>
    rw[hh] at h1;exact ⟨r.1,rfl,by simpa using h1⟩
  obtain ⟨ob,h3,h4⟩:=h2;refine ⟨ob,h3,?_⟩
  rw[h4];split
  ·exact hob
  ·exact trivial
 ·intro r hr y a' hs'
  obtain ⟨q,hq,rfl⟩:=List.mem_map.1 hr;exact h q hq y a' hs'
theorem nkk:BD = .code (.region 23 opN true)::CS BD:=by kernel_rfl
theorem Vy:opN.size=11:=by kernel_rfl
theorem B6z:AA opN.toList []=C2k:=by kernel_rfl
theorem D3f:CV nxA opN (AA opN.toList []) 8 opN.toList 0=true:=by kernel_rfl
theorem nkg:(opN[8]?.bind (·.guard)).isNone=true:=by kernel_rfl
theorem B7a:∃oc,opN[8]? = some oc∧oc.guard=none:=by
 have h:=nkg
 cases hh:opN[8]? with
 | none=>have:=Vy;rw[Array.getElem?_eq_none_iff] at hh;omega
 | some oc=>
  rw[hh] at h;exact ⟨oc,rfl,by simpa using h⟩
end
section
theorem V9{α β:Type}{f g:α->β}:∀{l:List α},l.map f=l.map g->∀{q:α},q∈l->f q=g q
 | [],_,_,hq=>by cases hq
 | z::l,h,q,hq=>by
  simp only[List.map_cons,List.cons.injEq] at h;rcases List.mem_cons.1 hq with rfl | hq
  ·exact h.1
  ·exact V9 h.2 hq
def QG(z:List Nat×List Nat)(j:Int):List Prop:=if z.1.contains 2 then [] else [(0:Int)<=j,j<3]
theorem QH(z:List Nat×List Nat){j:Int}(h0:0<=j)(h1:j<3){o:List Prop}(ho:A5 o):A5 (QG z j++o):=by
 unfold QG;split
 ·exact ho
 ·exact ⟨h0,h1,ho⟩
theorem D3g(D R:List Nat)(σ:St):Qv (.ops (opN.extract 0 9) 8 [] :: .any opN 8 (Ae opN R)::CS BD) (K9 nxA opN D σ).t=Qv (.ops (opN.extract 0 9) 8 [] :: .any opN 8 []::CS BD) (fun _=>.top):=by kernel_rfl
theorem B7b:Qv (.ops (opN.extract 0 9) 8 [] :: .any opN 8 []::CS BD) (fun _=>.top)=some (some 78,.lookup 160 (.tmp 76) (.tmp 77) false,127):=by kernel_rfl
def ckK(c:G5):List KI:=(run nxA false 3000 c []).cfg.k
theorem ckT{w0:World}{F0:Nat->Prop}{K:Kp}{ac:List Act}{Q:Exit->Act->World->Prop}{cX:C0}{aX:Act}{ρ:Option Nat}(c:G5){tl ml:List Nat}{ftl:List (List Nat)}(o:At)(X:St)(k0:List KI)(σ0:St)(k1:List KI)(ek:c.k=k0)(ex:c.x = .normal)(es:c.σ=σ0)(h:CE nxA false 3000 c [] tl ml ftl=some o)(hk:ckK c=k1)(ho:A5 o.obl)(hs:Sim w0 F0 K ac σ0 cX aX)(hf:nfr k0=0)(hf1:nfr k1=0)(hX:B0 o.nt tl o.svs ml o.ens o.nx ftl o.fsv=X)(hx:o.x = .normal)
  (hK:∀y a',Sim w0 F0 K ac X y a' -> Wq Tryz.prog Q k1 ac .normal a' y.w ρ):Wq Tryz.prog Q k0 ac .normal aX cX.w ρ:=by
 subst ek es hX;rw[<-ex];rw[<-hx] at hK;exact ⟨YE M4 h hk ho hs hf hf1 fun y a' hs' => (hK y a' hs').wp⟩
theorem D3h(u:Value)(l:List A0)(p v:Int)(b1 b2:Nat)(N:Nat)(L0 L1 L2:List (Int×Int))(r k:Int):(H5.map fun q=>(I7 nxA [] opN.toList (AA opN.toList []) [] [] (T8 u l p v b1 b2 N L0 L1 L2 r 0 k).nx (Ae opN q.1) (T8 u l p v b1 b2 N L0 L1 L2 r 0 k)).map (·.1))=H5.map fun q=>some (if q.1.contains 2 then [(0:Int)<=0,(0:Int)<3] else []):=by kernel_rfl
theorem E0d(u:Value)(l:List A0)(p v:Int)(b1 b2:Nat)(N:Nat)(L0 L1 L2:List (Int×Int))(r k:Int):(H5.map fun z=>((K9 nxA opN z.1 (T8 u l p v b1 b2 N L0 L1 L2 r 0 k)).t 76,(K9 nxA opN z.1 (T8 u l p v b1 b2 N L0 L1 L2 r 0 k)).t 77,(K9 nxA opN z.1 (T8 u l p v b1 b2 N L0 L1 L2 r 0 k)).nt))=H5.map fun _=>(.v (.c (.val (.map (some b1)))),.v (.c (.int .i64 k)),81):=by kernel_rfl
theorem D9l(u:Value)(l:List A0)(p v:Int)(b1 b2:Nat)(N:Nat)(L0 L1 L2:List (Int×Int))(r k q q' : Int):(H5.map fun z=>CE nxA false 3000 (nkC u l p v b1 b2 N L0 L1 L2 r 0 k q q' z.1 z.2) [] [4] [32,64,65,66,67,240,256,320] [[4,6,10,11,46]])=H5.map fun z=>some ⟨QG z 0++[((0:Int)<=r),(r<((N:Nat):Int)),(0=0),((r).toNat<L0.length)],Exit.normal,[(SV.v (V1.c (It.ptr 32 0)))],[(Option.some (En.fl [(It.val (Value.slice Option.none 0 0)),(It.val (Value.slice Option.none 0 0)),(It.val (Value.slice Option.none 0 0))])),(Option.some (En.fl [(It.slc 65 0 N 2),(It.slc 66 0 N 2),(It.slc 67 0 N 2)])),(Option.some (En.sq (Sq.place (List.set L0 (r).toNat (q,q'))))),(Option.some (En.sq (Sq.place L1))),(Option.some (En.sq (Sq.place L2))),(Option.some (En.fl [(It.val (Value.map (Option.some b1)))])),(Option.some (En.fl [(It.val (Value.map (Option.some b2)))])),(Option.some (En.fl [(It.vsl u (.gate l)),(It.int IntKind.i64 p),(It.int IntKind.i64 v)]))],81,848,[([(SV.v (V1.c (It.ptr 32 0))),(SV.v (V1.c (It.ptr 64 0))),(SV.v (V1.c (It.ptr 240 0))),(SV.v (V1.c (It.ptr 256 0))),(SV.v (V1.c (It.clo 103 [(320,0)])))],81)]⟩:=by kernel_rfl
theorem D9r(u:Value)(l:List A0)(p v:Int)(b1 b2:Nat)(N:Nat)(L0 L1 L2:List (Int×Int))(r k q q' : Int):(H5.map fun z=>ckK (nkC u l p v b1 b2 N L0 L1 L2 r 0 k q q' z.1 z.2))=H5.map fun _=>[]:=by kernel_rfl
theorem D9x(u:Value)(l:List A0)(p v:Int)(b1 b2:Nat)(N:Nat)(L0 L1 L2:List (Int×Int))(r k q q' : Int):(H5.map fun z=>nfr (nkC u l p v b1 b2 N L0 L1 L2 r 0 k q q' z.1 z.2).k)=H5.map fun _=>0:=by kernel_rfl
theorem D9o(u:Value)(l:List A0)(p v:Int)(b1 b2:Nat)(N:Nat)(L0 L1 L2:List (Int×Int))(r k q q' : Int){z:List Nat×List Nat}(hz:z∈H5):CE nxA false 3000 (nkC u l p v b1 b2 N L0 L1 L2 r 0 k q q' z.1 z.2) [] [4] [32,64,65,66,67,240,256,320] [[4,6,10,11,46]]=some ⟨QG z 0++[((0:Int)<=r),(r<((N:Nat):Int)),(0=0),((r).toNat<(List.length L0))],Exit.normal,[(SV.v (V1.c (It.ptr 32 0)))],[(Option.some (En.fl [(It.val (Value.slice Option.none 0 0)),(It.val (Value.slice Option.none 0 0)),(It.val (Value.slice Option.none 0 0))])),(Option.some (En.fl [(It.slc 65 0 N 2),(It.slc 66 0 N 2),(It.slc 67 0 N 2)])),(Option.some (En.sq (Sq.place (List.set L0 (r).toNat (q,q'))))),(Option.some (En.sq (Sq.place L1))),(Option.some (En.sq (Sq.place L2))),(Option.some (En.fl [(It.val (Value.map (Option.some b1)))])),(Option.some (En.fl [(It.val (Value.map (Option.some b2)))])),(Option.some (En.fl [(It.vsl u (Sq.gate l)),(It.int IntKind.i64 p),(It.int IntKind.i64 v)]))],81,848,[([(SV.v (V1.c (It.ptr 32 0))),(SV.v (V1.c (It.ptr 64 0))),(SV.v (V1.c (It.ptr 240 0))),(SV.v (V1.c (It.ptr 256 0))),(SV.v (V1.c (It.clo 103 [(320,0)])))],81)]⟩:=by
 have h:=D9l u l p v b1 b2 N L0 L1 L2 r k q q';have e:=V9 h hz;exact e
theorem D9u(u:Value)(l:List A0)(p v:Int)(b1 b2:Nat)(N:Nat)(L0 L1 L2:List (Int×Int))(r k q q' : Int){z:List Nat×List Nat}(hz:z∈H5):ckK (nkC u l p v b1 b2 N L0 L1 L2 r 0 k q q' z.1 z.2)=[]:=by
 have h:=D9r u l p v b1 b2 N L0 L1 L2 r k q q';have e:=V9 h hz;exact e
theorem E0a(u:Value)(l:List A0)(p v:Int)(b1 b2:Nat)(N:Nat)(L0 L1 L2:List (Int×Int))(r k q q' : Int){z:List Nat×List Nat}(hz:z∈H5):nfr (nkC u l p v b1 b2 N L0 L1 L2 r 0 k q q' z.1 z.2).k=0:=by
 have h:=D9x u l p v b1 b2 N L0 L1 L2 r k q q';have e:=V9 h hz;exact e
theorem D3i(u:Value)(l:List A0)(p v:Int)(b1 b2:Nat)(N:Nat)(L0 L1 L2:List (Int×Int))(r k:Int):(H5.map fun q=>(I7 nxA [] opN.toList (AA opN.toList []) [] [] (T8 u l p v b1 b2 N L0 L1 L2 r 1 k).nx (Ae opN q.1) (T8 u l p v b1 b2 N L0 L1 L2 r 1 k)).map (·.1))=H5.map fun q=>some (if q.1.contains 2 then [(0:Int)<=1,(1:Int)<3] else []):=by kernel_rfl
theorem E0e(u:Value)(l:List A0)(p v:Int)(b1 b2:Nat)(N:Nat)(L0 L1 L2:List (Int×Int))(r k:Int):(H5.map fun z=>((K9 nxA opN z.1 (T8 u l p v b1 b2 N L0 L1 L2 r 1 k)).t 76,(K9 nxA opN z.1 (T8 u l p v b1 b2 N L0 L1 L2 r 1 k)).t 77,(K9 nxA opN z.1 (T8 u l p v b1 b2 N L0 L1 L2 r 1 k)).nt))=H5.map fun _=>(.v (.c (.val (.map (some b1)))),.v (.c (.int .i64 k)),81):=by kernel_rfl
theorem D9m(u:Value)(l:List A0)(p v:Int)(b1 b2:Nat)(N:Nat)(L0 L1 L2:List (Int×Int))(r k q q' : Int):(H5.map fun z=>CE nxA false 3000 (nkC u l p v b1 b2 N L0 L1 L2 r 1 k q q' z.1 z.2) [] [4] [32,64,65,66,67,240,256,320] [[4,6,10,11,46]])=H5.map fun z=>some ⟨QG z 1++[((0:Int)<=r),(r<((N:Nat):Int)),(0=0),((r).toNat<L1.length)],Exit.normal,[(SV.v (V1.c (It.ptr 32 0)))],[(Option.some (En.fl [(It.val (Value.slice Option.none 0 0)),(It.val (Value.slice Option.none 0 0)),(It.val (Value.slice Option.none 0 0))])),(Option.some (En.fl [(It.slc 65 0 N 2),(It.slc 66 0 N 2),(It.slc 67 0 N 2)])),(Option.some (En.sq (Sq.place L0))),(Option.some (En.sq (Sq.place (List.set L1 (r).toNat (q,q'))))),(Option.some (En.sq (Sq.place L2))),(Option.some (En.fl [(It.val (Value.map (Option.some b1)))])),(Option.some (En.fl [(It.val (Value.map (Option.some b2)))])),(Option.some (En.fl [(It.vsl u (.gate l)),(It.int IntKind.i64 p),(It.int IntKind.i64 v)]))],81,848,[([(SV.v (V1.c (It.ptr 32 0))),(SV.v (V1.c (It.ptr 64 0))),(SV.v (V1.c (It.ptr 240 0))),(SV.v (V1.c (It.ptr 256 0))),(SV.v (V1.c (It.clo 103 [(320,0)])))],81)]⟩:=by kernel_rfl
theorem D9s(u:Value)(l:List A0)(p v:Int)(b1 b2:Nat)(N:Nat)(L0 L1 L2:List (Int×Int))(r k q q' : Int):(H5.map fun z=>ckK (nkC u l p v b1 b2 N L0 L1 L2 r 1 k q q' z.1 z.2))=H5.map fun _=>[]:=by kernel_rfl
theorem D9y(u:Value)(l:List A0)(p v:Int)(b1 b2:Nat)(N:Nat)(L0 L1 L2:List (Int×Int))(r k q q' : Int):(H5.map fun z=>nfr (nkC u l p v b1 b2 N L0 L1 L2 r 1 k q q' z.1 z.2).k)=H5.map fun _=>0:=by kernel_rfl
theorem D9p(u:Value)(l:List A0)(p v:Int)(b1 b2:Nat)(N:Nat)(L0 L1 L2:List (Int×Int))(r k q q' : Int){z:List Nat×List Nat}(hz:z∈H5):CE nxA false 3000 (nkC u l p v b1 b2 N L0 L1 L2 r 1 k q q' z.1 z.2) [] [4] [32,64,65,66,67,240,256,320] [[4,6,10,11,46]]=some ⟨QG z 1++[((0:Int)<=r),(r<((N:Nat):Int)),(0=0),((r).toNat<(List.length L1))],Exit.normal,[(SV.v (V1.c (It.ptr 32 0)))],[(Option.some (En.fl [(It.val (Value.slice Option.none 0 0)),(It.val (Value.slice Option.none 0 0)),(It.val (Value.slice Option.none 0 0))])),(Option.some (En.fl [(It.slc 65 0 N 2),(It.slc 66 0 N 2),(It.slc 67 0 N 2)])),(Option.some (En.sq (Sq.place L0))),(Option.some (En.sq (Sq.place (List.set L1 (r).toNat (q,q'))))),(Option.some (En.sq (Sq.place L2))),(Option.some (En.fl [(It.val (Value.map (Option.some b1)))])),(Option.some (En.fl [(It.val (Value.map (Option.some b2)))])),(Option.some (En.fl [(It.vsl u (Sq.gate l)),(It.int IntKind.i64 p),(It.int IntKind.i64 v)]))],81,848,[([(SV.v (V1.c (It.ptr 32 0))),(SV.v (V1.c (It.ptr 64 0))),(SV.v (V1.c (It.ptr 240 0))),(SV.v (V1.c (It.ptr 256 0))),(SV.v (V1.c (It.clo 103 [(320,0)])))],81)]⟩:=by
 have h:=D9m u l p v b1 b2 N L0 L1 L2 r k q q';have e:=V9 h hz;exact e
theorem D9v(u:Value)(l:List A0)(p v:Int)(b1 b2:Nat)(N:Nat)(L0 L1 L2:List (Int×Int))(r k q q' : Int){z:List Nat×List Nat}(hz:z∈H5):ckK (nkC u l p v b1 b2 N L0 L1 L2 r 1 k q q' z.1 z.2)=[]:=by
 have h:=D9s u l p v b1 b2 N L0 L1 L2 r k q q';have e:=V9 h hz;exact e
theorem E0b(u:Value)(l:List A0)(p v:Int)(b1 b2:Nat)(N:Nat)(L0 L1 L2:List (Int×Int))(r k q q' : Int){z:List Nat×List Nat}(hz:z∈H5):nfr (nkC u l p v b1 b2 N L0 L1 L2 r 1 k q q' z.1 z.2).k=0:=by
 have h:=D9y u l p v b1 b2 N L0 L1 L2 r k q q';have e:=V9 h hz;exact e
theorem D3j(u:Value)(l:List A0)(p v:Int)(b1 b2:Nat)(N:Nat)(L0 L1 L2:List (Int×Int))(r k:Int):(H5.map fun q=>(I7 nxA [] opN.toList (AA opN.toList []) [] [] (T8 u l p v b1 b2 N L0 L1 L2 r 2 k).nx (Ae opN q.1) (T8 u l p v b1 b2 N L0 L1 L2 r 2 k)).map (·.1))=H5.map fun q=>some (if q.1.contains 2 then [(0:Int)<=2,(2:Int)<3] else []):=by kernel_rfl
theorem E0f(u:Value)(l:List A0)(p v:Int)(b1 b2:Nat)(N:Nat)(L0 L1 L2:List (Int×Int))(r k:Int):(H5.map fun z=>((K9 nxA opN z.1 (T8 u l p v b1 b2 N L0 L1 L2 r 2 k)).t 76,(K9 nxA opN z.1 (T8 u l p v b1 b2 N L0 L1 L2 r 2 k)).t 77,(K9 nxA opN z.1 (T8 u l p v b1 b2 N L0 L1 L2 r 2 k)).nt))=H5.map fun _=>(.v (.c (.val (.map (some b1)))),.v (.c (.int .i64 k)),81):=by kernel_rfl
theorem D9n(u:Value)(l:List A0)(p v:Int)(b1 b2:Nat)(N:Nat)(L0 L1 L2:List (Int×Int))(r k q q' : Int):(H5.map fun z=>CE nxA false 3000 (nkC u l p v b1 b2 N L0 L1 L2 r 2 k q q' z.1 z.2) [] [4] [32,64,65,66,67,240,256,320] [[4,6,10,11,46]])=H5.map fun z=>some ⟨QG z 2++[((0:Int)<=r),(r<((N:Nat):Int)),(0=0),((r).toNat<L2.length)],Exit.normal,[(SV.v (V1.c (It.ptr 32 0)))],[(Option.some (En.fl [(It.val (Value.slice Option.none 0 0)),(It.val (Value.slice Option.none 0 0)),(It.val (Value.slice Option.none 0 0))])),(Option.some (En.fl [(It.slc 65 0 N 2),(It.slc 66 0 N 2),(It.slc 67 0 N 2)])),(Option.some (En.sq (Sq.place L0))),(Option.some (En.sq (Sq.place L1))),(Option.some (En.sq (Sq.place (List.set L2 (r).toNat (q,q'))))),(Option.some (En.fl [(It.val (Value.map (Option.some b1)))])),(Option.some (En.fl [(It.val (Value.map (Option.some b2)))])),(Option.some (En.fl [(It.vsl u (.gate l)),(It.int IntKind.i64 p),(It.int IntKind.i64 v)]))],81,848,[([(SV.v (V1.c (It.ptr 32 0))),(SV.v (V1.c (It.ptr 64 0))),(SV.v (V1.c (It.ptr 240 0))),(SV.v (V1.c (It.ptr 256 0))),(SV.v (V1.c (It.clo 103 [(320,0)])))],81)]⟩:=by kernel_rfl
theorem D9t(u:Value)(l:List A0)(p v:Int)(b1 b2:Nat)(N:Nat)(L0 L1 L2:List (Int×Int))(r k q q' : Int):(H5.map fun z=>ckK (nkC u l p v b1 b2 N L0 L1 L2 r 2 k q q' z.1 z.2))=H5.map fun _=>[]:=by kernel_rfl
theorem D9z(u:Value)(l:List A0)(p v:Int)(b1 b2:Nat)(N:Nat)(L0 L1 L2:List (Int×Int))(r k q q' : Int):(H5.map fun z=>nfr (nkC u l p v b1 b2 N L0 L1 L2 r 2 k q q' z.1 z.2).k)=H5.map fun _=>0:=by kernel_rfl
theorem D9q(u:Value)(l:List A0)(p v:Int)(b1 b2:Nat)(N:Nat)(L0 L1 L2:List (Int×Int))(r k q q' : Int){z:List Nat×List Nat}(hz:z∈H5):CE nxA false 3000 (nkC u l p v b1 b2 N L0 L1 L2 r 2 k q q' z.1 z.2) [] [4] [32,64,65,66,67,240,256,320] [[4,6,10,11,46]]=some ⟨QG z 2++[((0:Int)<=r),(r<((N:Nat):Int)),(0=0),((r).toNat<(List.length L2))],Exit.normal,[(SV.v (V1.c (It.ptr 32 0)))],[(Option.some (En.fl [(It.val (Value.slice Option.none 0 0)),(It.val (Value.slice Option.none 0 0)),(It.val (Value.slice Option.none 0 0))])),(Option.some (En.fl [(It.slc 65 0 N 2),(It.slc 66 0 N 2),(It.slc 67 0 N 2)])),(Option.some (En.sq (Sq.place L0))),(Option.some (En.sq (Sq.place L1))),(Option.some (En.sq (Sq.place (List.set L2 (r).toNat (q,q'))))),(Option.some (En.fl [(It.val (Value.map (Option.some b1)))])),(Option.some (En.fl [(It.val (Value.map (Option.some b2)))])),(Option.some (En.fl [(It.vsl u (Sq.gate l)),(It.int IntKind.i64 p),(It.int IntKind.i64 v)]))],81,848,[([(SV.v (V1.c (It.ptr 32 0))),(SV.v (V1.c (It.ptr 64 0))),(SV.v (V1.c (It.ptr 240 0))),(SV.v (V1.c (It.ptr 256 0))),(SV.v (V1.c (It.clo 103 [(320,0)])))],81)]⟩:=by
 have h:=D9n u l p v b1 b2 N L0 L1 L2 r k q q';have e:=V9 h hz;exact e
theorem D9w(u:Value)(l:List A0)(p v:Int)(b1 b2:Nat)(N:Nat)(L0 L1 L2:List (Int×Int))(r k q q' : Int){z:List Nat×List Nat}(hz:z∈H5):ckK (nkC u l p v b1 b2 N L0 L1 L2 r 2 k q q' z.1 z.2)=[]:=by
 have h:=D9t u l p v b1 b2 N L0 L1 L2 r k q q';have e:=V9 h hz;exact e
theorem E0c(u:Value)(l:List A0)(p v:Int)(b1 b2:Nat)(N:Nat)(L0 L1 L2:List (Int×Int))(r k q q' : Int){z:List Nat×List Nat}(hz:z∈H5):nfr (nkC u l p v b1 b2 N L0 L1 L2 r 2 k q q' z.1 z.2).k=0:=by
 have h:=D9z u l p v b1 b2 N L0 L1 L2 r k q q';have e:=V9 h hz;exact e
end
section
theorem E3v{w0:World}{F0:Nat->Prop}{K:Kp}{ac:List Act}{Q:Exit->Act->World->Prop}{cX:C0}{aX:Act}{ρ:Option Nat}(u:Value)(l:List A0)(p v:Int)(b1 b2:Nat)(N:Nat)(L0 L1 L2:List (Int×Int))(r k q q' : Int){z:List Nat×List Nat}(hz:z∈H5)(ho:A5 [((0:Int)<=r),(r<((N:Nat):Int)),(0=0),((r).toNat<(List.length L0))])(hs:Sim w0 F0 K ac (nkC u l p v b1 b2 N L0 L1 L2 r 0 k q q' z.1 z.2).σ cX aX)
  (hK:∀cY aY,Sim w0 F0 K ac (C6h u l p v b1 b2 N L0 L1 L2 r k q q') cY aY->Wq Tryz.prog Q [] ac .normal aY cY.w ρ):Wq Tryz.prog Q (nkC u l p v b1 b2 N L0 L1 L2 r 0 k q q' z.1 z.2).k ac .normal aX cX.w ρ :=
 ckT (nkC u l p v b1 b2 N L0 L1 L2 r 0 k q q' z.1 z.2) ⟨QG z 0++[((0:Int)<=r),(r<((N:Nat):Int)),(0=0),((r).toNat<(List.length L0))],Exit.normal,[(SV.v (V1.c (It.ptr 32 0)))],[(Option.some (En.fl [(It.val (Value.slice Option.none 0 0)),(It.val (Value.slice Option.none 0 0)),(It.val (Value.slice Option.none 0 0))])),(Option.some (En.fl [(It.slc 65 0 N 2),(It.slc 66 0 N 2),(It.slc 67 0 N 2)])),(Option.some (En.sq (Sq.place (List.set L0 (r).toNat (q,q'))))),(Option.some (En.sq (Sq.place L1))),(Option.some (En.sq (Sq.place L2))),(Option.some (En.fl [(It.val (Value.map (Option.some b1)))])),(Option.some (En.fl [(It.val (Value.map (Option.some b2)))])),(Option.some (En.fl [(It.vsl u (Sq.gate l)),(It.int IntKind.i64 p),(It.int IntKind.i64 v)]))],81,848,[([(SV.v (V1.c (It.ptr 32 0))),(SV.v (V1.c (It.ptr 64 0))),(SV.v (V1.c (It.ptr 240 0))),(SV.v (V1.c (It.ptr 256 0))),(SV.v (V1.c (It.clo 103 [(320,0)])))],81)]⟩ (C6h u l p v b1 b2 N L0 L1 L2 r k q q') _ _ [] rfl rfl rfl (D9o u l p v b1 b2 N L0 L1 L2 r k q q' hz) (D9u u l p v b1 b2 N L0 L1 L2 r k q q' hz) (QH z A4 A4 ho) hs (E0a u l p v b1 b2 N L0 L1 L2 r k q q' hz) rfl rfl rfl hK
theorem B7n{w0:World}{F0:Nat->Prop}{K:Kp}{ac:List Act}{a:Act}{Q:Exit->Act->World->Prop}{ρ:Option Nat}{objs:List (Nat×Obj)}{y:C0}{m1:MiL×Nat}(u:Value)(l:List A0)(p v:Int)(b1 b2:Nat)(N:Nat)(L0 L1 L2:List (Int×Int))(r k q q' : Int)(hms:Ms w0 F0 K ac a objs (T8 u l p v b1 b2 N L0 L1 L2 r 0 k) y)(hobj:(b1,K4 m1)∈objs)(hfind:H9 m1.1 k=some (N7 q q'))
  (ho:A5 [((0:Int)<=r),(r<((N:Nat):Int)),(0=0),((r).toNat<(List.length L0))]) (hK:∀y' b',Ms w0 F0 K ac b' objs (C6h u l p v b1 b2 N L0 L1 L2 r k q q') y' -> Wq Tryz.prog Q [] ac .normal b' y'.w ρ):Wq Tryz.prog Q BD ac .normal a y.w ρ:=by
 obtain ⟨oc,ho1,ho2⟩:=B7a;rw[nkk];refine A2b (ops:=opN) (σ:=T8 u l p v b1 b2 N L0 L1 L2 r 0 k) (id:=23) (k:=CS BD) M4 hms.sim.own Vy B6z D3f ho1 ho2 (ob2:=[(0:Int)<=0,(0:Int)<3]) ⟨A4,A4,C4⟩ (D3h u l p v b1 b2 N L0 L1 L2 r k) ?_
 intro z hz y1 a1 hs1;have hms1:=hms.step hs1;have h0:=E0d u l p v b1 b2 N L0 L1 L2 r k;have e1:=V9 h0 hz;have s76:(K9 nxA opN z.1 (T8 u l p v b1 b2 N L0 L1 L2 r 0 k)).t 76 = .v (.c (.val (.map (some b1)))):=congrArg (·.1) e1;have s77:(K9 nxA opN z.1 (T8 u l p v b1 b2 N L0 L1 L2 r 0 k)).t 77 = .v (.c (.int .i64 k)):=congrArg (·.2.1) e1;have snt:(K9 nxA opN z.1 (T8 u l p v b1 b2 N L0 L1 L2 r 0 k)).nt=81:=congrArg (·.2.2) e1;have v76:a1.tmps.getD 76 undef = .map (some b1):=by
  have h:=hms1.sim.t 76;rw[s76] at h;exact (U0 h).1
 have v77:a1.tmps.getD 77 undef = .int .i64 k:=by
  have h:=hms1.sim.t 77;rw[s77] at h;exact M9 h
 refine Ce (σ:=K9 nxA opN z.1 (T8 u l p v b1 b2 N L0 L1 L2 r 0 k)) (v:=N7 q q') (w' := y1.w) ((D3g z.1 z.2 _).trans B7b) hms1.sim.t (fun c h=>by cases h) (fun o h1 h2=>.inl ?_) ?_
 ·exact VH Tryz.underlying160 Tryz.underlying3 (Bj EW A2p 127 _ rfl) h1 v76 v77 (hms1.obj _ hobj) hfind
 ·have hms2:=hms1.put_slot (d:=78) (s:=.v (.a [.int .i64 q,.int .i64 q'])) (v:=N7 q q') (by rw[snt];decide) ⟨_,rfl,_,_,rfl,⟨0,rfl⟩,_,_,rfl,⟨0,rfl⟩,rfl⟩
  have hs2:Sim y1.w y1.F (BM y1 K K.ds) ac (nkC u l p v b1 b2 N L0 L1 L2 r 0 k q q' z.1 z.2).σ y1 (a1.put (some 78) (N7 q q')):=hms2.sim.own;exact E3v u l p v b1 b2 N L0 L1 L2 r k q q' hz ho hs2 fun cY aY hs3=>hK _ _ (hms2.step hs3)
theorem E3w{w0:World}{F0:Nat->Prop}{K:Kp}{ac:List Act}{Q:Exit->Act->World->Prop}{cX:C0}{aX:Act}{ρ:Option Nat}(u:Value)(l:List A0)(p v:Int)(b1 b2:Nat)(N:Nat)(L0 L1 L2:List (Int×Int))(r k q q' : Int){z:List Nat×List Nat}(hz:z∈H5)(ho:A5 [((0:Int)<=r),(r<((N:Nat):Int)),(0=0),((r).toNat<(List.length L1))])(hs:Sim w0 F0 K ac (nkC u l p v b1 b2 N L0 L1 L2 r 1 k q q' z.1 z.2).σ cX aX)
  (hK:∀cY aY,Sim w0 F0 K ac (C6i u l p v b1 b2 N L0 L1 L2 r k q q') cY aY->Wq Tryz.prog Q [] ac .normal aY cY.w ρ):Wq Tryz.prog Q (nkC u l p v b1 b2 N L0 L1 L2 r 1 k q q' z.1 z.2).k ac .normal aX cX.w ρ :=
 ckT (nkC u l p v b1 b2 N L0 L1 L2 r 1 k q q' z.1 z.2) ⟨QG z 1++[((0:Int)<=r),(r<((N:Nat):Int)),(0=0),((r).toNat<(List.length L1))],Exit.normal,[(SV.v (V1.c (It.ptr 32 0)))],[(Option.some (En.fl [(It.val (Value.slice Option.none 0 0)),(It.val (Value.slice Option.none 0 0)),(It.val (Value.slice Option.none 0 0))])),(Option.some (En.fl [(It.slc 65 0 N 2),(It.slc 66 0 N 2),(It.slc 67 0 N 2)])),(Option.some (En.sq (Sq.place L0))),(Option.some (En.sq (Sq.place (List.set L1 (r).toNat (q,q'))))),(Option.some (En.sq (Sq.place L2))),(Option.some (En.fl [(It.val (Value.map (Option.some b1)))])),(Option.some (En.fl [(It.val (Value.map (Option.some b2)))])),(Option.some (En.fl [(It.vsl u (Sq.gate l)),(It.int IntKind.i64 p),(It.int IntKind.i64 v)]))],81,848,[([(SV.v (V1.c (It.ptr 32 0))),(SV.v (V1.c (It.ptr 64 0))),(SV.v (V1.c (It.ptr 240 0))),(SV.v (V1.c (It.ptr 256 0))),(SV.v (V1.c (It.clo 103 [(320,0)])))],81)]⟩ (C6i u l p v b1 b2 N L0 L1 L2 r k q q') _ _ [] rfl rfl rfl (D9p u l p v b1 b2 N L0 L1 L2 r k q q' hz) (D9v u l p v b1 b2 N L0 L1 L2 r k q q' hz) (QH z A4 A4 ho) hs (E0b u l p v b1 b2 N L0 L1 L2 r k q q' hz) rfl rfl rfl hK
theorem B7o{w0:World}{F0:Nat->Prop}{K:Kp}{ac:List Act}{a:Act}{Q:Exit->Act->World->Prop}{ρ:Option Nat}{objs:List (Nat×Obj)}{y:C0}{m1:MiL×Nat}(u:Value)(l:List A0)(p v:Int)(b1 b2:Nat)(N:Nat)(L0 L1 L2:List (Int×Int))(r k q q' : Int)(hms:Ms w0 F0 K ac a objs (T8 u l p v b1 b2 N L0 L1 L2 r 1 k) y)(hobj:(b1,K4 m1)∈objs)(hfind:H9 m1.1 k=some (N7 q q'))
  (ho:A5 [((0:Int)<=r),(r<((N:Nat):Int)),(0=0),((r).toNat<(List.length L1))]) (hK:∀y' b',Ms w0 F0 K ac b' objs (C6i u l p v b1 b2 N L0 L1 L2 r k q q') y' -> Wq Tryz.prog Q [] ac .normal b' y'.w ρ):Wq Tryz.prog Q BD ac .normal a y.w ρ:=by
 obtain ⟨oc,ho1,ho2⟩:=B7a;rw[nkk];refine A2b (ops:=opN) (σ:=T8 u l p v b1 b2 N L0 L1 L2 r 1 k) (id:=23) (k:=CS BD) M4 hms.sim.own Vy B6z D3f ho1 ho2 (ob2:=[(0:Int)<=1,(1:Int)<3]) ⟨A4,A4,C4⟩ (D3i u l p v b1 b2 N L0 L1 L2 r k) ?_
 intro z hz y1 a1 hs1;have hms1:=hms.step hs1;have h0:=E0e u l p v b1 b2 N L0 L1 L2 r k;have e1:=V9 h0 hz;have s76:(K9 nxA opN z.1 (T8 u l p v b1 b2 N L0 L1 L2 r 1 k)).t 76 = .v (.c (.val (.map (some b1)))):=congrArg (·.1) e1;have s77:(K9 nxA opN z.1 (T8 u l p v b1 b2 N L0 L1 L2 r 1 k)).t 77 = .v (.c (.int .i64 k)):=congrArg (·.2.1) e1;have snt:(K9 nxA opN z.1 (T8 u l p v b1 b2 N L0 L1 L2 r 1 k)).nt=81:=congrArg (·.2.2) e1;have v76:a1.tmps.getD 76 undef = .map (some b1):=by
  have h:=hms1.sim.t 76;rw[s76] at h;exact (U0 h).1
 have v77:a1.tmps.getD 77 undef = .int .i64 k:=by
  have h:=hms1.sim.t 77;rw[s77] at h;exact M9 h
 refine Ce (σ:=K9 nxA opN z.1 (T8 u l p v b1 b2 N L0 L1 L2 r 1 k)) (v:=N7 q q') (w' := y1.w) ((D3g z.1 z.2 _).trans B7b) hms1.sim.t (fun c h=>by cases h) (fun o h1 h2=>.inl ?_) ?_
 ·exact VH Tryz.underlying160 Tryz.underlying3 (Bj EW A2p 127 _ rfl) h1 v76 v77 (hms1.obj _ hobj) hfind
 ·have hms2:=hms1.put_slot (d:=78) (s:=.v (.a [.int .i64 q,.int .i64 q'])) (v:=N7 q q') (by rw[snt];decide) ⟨_,rfl,_,_,rfl,⟨0,rfl⟩,_,_,rfl,⟨0,rfl⟩,rfl⟩
  have hs2:Sim y1.w y1.F (BM y1 K K.ds) ac (nkC u l p v b1 b2 N L0 L1 L2 r 1 k q q' z.1 z.2).σ y1 (a1.put (some 78) (N7 q q')):=hms2.sim.own;exact E3w u l p v b1 b2 N L0 L1 L2 r k q q' hz ho hs2 fun cY aY hs3=>hK _ _ (hms2.step hs3)
theorem E3x{w0:World}{F0:Nat->Prop}{K:Kp}{ac:List Act}{Q:Exit->Act->World->Prop}{cX:C0}{aX:Act}{ρ:Option Nat}(u:Value)(l:List A0)(p v:Int)(b1 b2:Nat)(N:Nat)(L0 L1 L2:List (Int×Int))(r k q q' : Int){z:List Nat×List Nat}(hz:z∈H5)(ho:A5 [((0:Int)<=r),(r<((N:Nat):Int)),(0=0),((r).toNat<(List.length L2))])(hs:Sim w0 F0 K ac (nkC u l p v b1 b2 N L0 L1 L2 r 2 k q q' z.1 z.2).σ cX aX)
  (hK:∀cY aY,Sim w0 F0 K ac (C6j u l p v b1 b2 N L0 L1 L2 r k q q') cY aY->Wq Tryz.prog Q [] ac .normal aY cY.w ρ):Wq Tryz.prog Q (nkC u l p v b1 b2 N L0 L1 L2 r 2 k q q' z.1 z.2).k ac .normal aX cX.w ρ :=
 ckT (nkC u l p v b1 b2 N L0 L1 L2 r 2 k q q' z.1 z.2) ⟨QG z 2++[((0:Int)<=r),(r<((N:Nat):Int)),(0=0),((r).toNat<(List.length L2))],Exit.normal,[(SV.v (V1.c (It.ptr 32 0)))],[(Option.some (En.fl [(It.val (Value.slice Option.none 0 0)),(It.val (Value.slice Option.none 0 0)),(It.val (Value.slice Option.none 0 0))])),(Option.some (En.fl [(It.slc 65 0 N 2),(It.slc 66 0 N 2),(It.slc 67 0 N 2)])),(Option.some (En.sq (Sq.place L0))),(Option.some (En.sq (Sq.place L1))),(Option.some (En.sq (Sq.place (List.set L2 (r).toNat (q,q'))))),(Option.some (En.fl [(It.val (Value.map (Option.some b1)))])),(Option.some (En.fl [(It.val (Value.map (Option.some b2)))])),(Option.some (En.fl [(It.vsl u (Sq.gate l)),(It.int IntKind.i64 p),(It.int IntKind.i64 v)]))],81,848,[([(SV.v (V1.c (It.ptr 32 0))),(SV.v (V1.c (It.ptr 64 0))),(SV.v (V1.c (It.ptr 240 0))),(SV.v (V1.c (It.ptr 256 0))),(SV.v (V1.c (It.clo 103 [(320,0)])))],81)]⟩ (C6j u l p v b1 b2 N L0 L1 L2 r k q q') _ _ [] rfl rfl rfl (D9q u l p v b1 b2 N L0 L1 L2 r k q q' hz) (D9w u l p v b1 b2 N L0 L1 L2 r k q q' hz) (QH z A4 A4 ho) hs (E0c u l p v b1 b2 N L0 L1 L2 r k q q' hz) rfl rfl rfl hK
theorem B7p{w0:World}{F0:Nat->Prop}{K:Kp}{ac:List Act}{a:Act}{Q:Exit->Act->World->Prop}{ρ:Option Nat}{objs:List (Nat×Obj)}{y:C0}{m1:MiL×Nat}(u:Value)(l:List A0)(p v:Int)(b1 b2:Nat)(N:Nat)(L0 L1 L2:List (Int×Int))(r k q q' : Int)(hms:Ms w0 F0 K ac a objs (T8 u l p v b1 b2 N L0 L1 L2 r 2 k) y)(hobj:(b1,K4 m1)∈objs)(hfind:H9 m1.1 k=some (N7 q q'))
  (ho:A5 [((0:Int)<=r),(r<((N:Nat):Int)),(0=0),((r).toNat<(List.length L2))]) (hK:∀y' b',Ms w0 F0 K ac b' objs (C6j u l p v b1 b2 N L0 L1 L2 r k q q') y' -> Wq Tryz.prog Q [] ac .normal b' y'.w ρ):Wq Tryz.prog Q BD ac .normal a y.w ρ:=by
 obtain ⟨oc,ho1,ho2⟩:=B7a;rw[nkk];refine A2b (ops:=opN) (σ:=T8 u l p v b1 b2 N L0 L1 L2 r 2 k) (id:=23) (k:=CS BD) M4 hms.sim.own Vy B6z D3f ho1 ho2 (ob2:=[(0:Int)<=2,(2:Int)<3]) ⟨A4,A4,C4⟩ (D3j u l p v b1 b2 N L0 L1 L2 r k) ?_
 intro z hz y1 a1 hs1;have hms1:=hms.step hs1;have h0:=E0f u l p v b1 b2 N L0 L1 L2 r k;have e1:=V9 h0 hz;have s76:(K9 nxA opN z.1 (T8 u l p v b1 b2 N L0 L1 L2 r 2 k)).t 76 = .v (.c (.val (.map (some b1)))):=congrArg (·.1) e1;have s77:(K9 nxA opN z.1 (T8 u l p v b1 b2 N L0 L1 L2 r 2 k)).t 77 = .v (.c (.int .i64 k)):=congrArg (·.2.1) e1;have snt:(K9 nxA opN z.1 (T8 u l p v b1 b2 N L0 L1 L2 r 2 k)).nt=81:=congrArg (·.2.2) e1;have v76:a1.tmps.getD 76 undef = .map (some b1):=by
  have h:=hms1.sim.t 76;rw[s76] at h;exact (U0 h).1
 have v77:a1.tmps.getD 77 undef = .int .i64 k:=by
  have h:=hms1.sim.t 77;rw[s77] at h;exact M9 h
 refine Ce (σ:=K9 nxA opN z.1 (T8 u l p v b1 b2 N L0 L1 L2 r 2 k)) (v:=N7 q q') (w' := y1.w) ((D3g z.1 z.2 _).trans B7b) hms1.sim.t (fun c h=>by cases h) (fun o h1 h2=>.inl ?_) ?_
 ·exact VH Tryz.underlying160 Tryz.underlying3 (Bj EW A2p 127 _ rfl) h1 v76 v77 (hms1.obj _ hobj) hfind
 ·have hms2:=hms1.put_slot (d:=78) (s:=.v (.a [.int .i64 q,.int .i64 q'])) (v:=N7 q q') (by rw[snt];decide) ⟨_,rfl,_,_,rfl,⟨0,rfl⟩,_,_,rfl,⟨0,rfl⟩,rfl⟩
  have hs2:Sim y1.w y1.F (BM y1 K K.ds) ac (nkC u l p v b1 b2 N L0 L1 L2 r 2 k q q' z.1 z.2).σ y1 (a1.put (some 78) (N7 q q')):=hms2.sim.own;exact E3x u l p v b1 b2 N L0 L1 L2 r k q q' hz ho hs2 fun cY aY hs3=>hK _ _ (hms2.step hs3)
end
section
abbrev Rw3:=List (Int×Int)×List (Int×Int)×List (Int×Int)
structure NxT where
 f:MiL×Nat
 z:MiL×Nat
 t:Rw3
def unP:Value->Int×Int
 | .agg cs=>match cs.toList with
  | [.int _ a,.int _ b]=>(a,b)
  | _=>(0,0)
 | _=>(0,0)
def V4(t:Rw3)(w i:Int)(x:Int×Int):Rw3:=
 if w=0 then (t.1.set i.toNat x,t.2.1,t.2.2) else if w=1 then (t.1,t.2.1.set i.toNat x,t.2.2) else (t.1,t.2.1,t.2.2.set i.toNat x)
def Bn(s:NxT)(z:Plc):NxT:=
 match H9 s.z.1 z.2 with
 | some x=>{ s with t:=V4 s.t (unP x).2 (unP x).1 z.1 }
 | none=>{ s with f:=CO s.f z.2 (N7 z.1.1 z.1.2) }
def E0h(s:NxT)(z:Plc):NxT:={ s with z:=CO s.z z.2 (N7 z.1.1 z.1.2) }
def E4a(s:NxT)(z:Plc):NxT:={ s with t:=V4 s.t z.1.2 z.1.1 (unP ((H9 s.f.1 z.2).getD undef)) }
def BN(s:NxT)(z:Plc):NxT:=E4a (E0h (Bn s z) z) z
def WOk(w:Int):Prop:=w=0∨w=1∨w=2
def BG(N:Nat)(z:Int×Int):Prop:=0<=z.1∧z.1<N∧WOk z.2
def MOk(N:Nat)(m:MiL):Prop:=∀k x,H9 m k=some x->∃r w,x=N7 r w∧BG N (r,w)
structure NOk(N:Nat)(s:NxT):Prop where
 f:MOk N s.f.1
 z:MOk N s.z.1
 zf:∀k x,H9 s.z.1 k=some x->∃x',H9 s.f.1 k=some x'
 l0:s.t.1.length=N
 l1:s.t.2.1.length=N
 l2:s.t.2.2.length=N
theorem Xt(v:Int)(x:Value):∀(m:MiL) (k:Int) (y:Value),H9 m v=some y->H9 (RU v x m) k=if k=v then some x else H9 m k
 | [],_,_,h=>by cases h
 | e::m,k,y,h=>by
  have h:(if e.1=v then some e.2.1 else H9 m v)=some y:=h
  show H9 (if e.1=v then (v,x,e.2.2)::m else e::RU v x m) k=if k=v then some x else if e.1=k then some e.2.1 else H9 m k
  by_cases he:e.1=v
  ·rw[if_pos he]
   show (if v=k then some x else H9 m k)=_
   by_cases hk:k=v
   ·rw[if_pos hk,if_pos hk.symm]
   ·rw[if_neg hk,if_neg (fun h=>hk h.symm),if_neg (fun h=>hk (h.symm.trans he))]
  ·rw[if_neg he] at h ⊢
   show (if e.1=k then some e.2.1 else H9 (RU v x m) k)=_
   by_cases hk:e.1=k
   ·rw[if_pos hk,if_neg (fun h=>he (hk.trans h)),if_pos hk]
   ·rw[if_neg hk,Xt v x m k y h,if_neg hk]
theorem Xr(v:Int)(x:Value)(n:Nat):∀(m:MiL) (k:Int),H9 m v=none->H9 (m++[(v,x,n)]) k=if k=v then some x else H9 m k
 | [],k,_=>by
  show (if v=k then some x else none)=if k=v then some x else none
  by_cases hk:k=v
  ·rw[if_pos hk,if_pos hk.symm]
  ·rw[if_neg hk,if_neg (fun h=>hk h.symm)]
 | e::m,k,h=>by
  have h:(if e.1=v then some e.2.1 else H9 m v)=none:=h
  by_cases he:e.1=v
  ·rw[if_pos he] at h;cases h
  ·rw[if_neg he] at h
   show (if e.1=k then some e.2.1 else H9 (m++[(v,x,n)]) k)=if k=v then some x else if e.1=k then some e.2.1 else H9 m k
   by_cases hk:e.1=k
   ·rw[if_pos hk,if_neg (fun h=>he (hk.trans h)),if_pos hk]
   ·rw[if_neg hk,Xr v x n m k h,if_neg hk]
theorem Jf(m:MiL×Nat)(v:Int)(x:Value)(k:Int):H9 (CO m v x).1 k=if k=v then some x else H9 m.1 k:=by
 unfold CO
 cases h:H9 m.1 v with
 | none=>exact Xr v x _ _ _ h
 | some y=>exact Xt v x _ _ y h
theorem MOk.put{N:Nat}{m:MiL×Nat}(h:MOk N m.1){v r w:Int}(hz:BG N (r,w)):MOk N (CO m v (N7 r w)).1:=fun k x hx=>by
 rw[Jf] at hx;split at hx
 ·cases hx;exact ⟨r,w,rfl,hz⟩
 ·exact h k x hx
theorem A1u{N:Nat}{t:Rw3}(h:t.1.length=N∧t.2.1.length=N∧t.2.2.length=N)(w i:Int)(x:Int×Int):(V4 t w i x).1.length=N∧(V4 t w i x).2.1.length=N∧(V4 t w i x).2.2.length=N:=by
 unfold V4;split
 ·exact ⟨by simpa using h.1,h.2.1,h.2.2⟩
 ·split
  ·exact ⟨h.1,by simpa using h.2.1,h.2.2⟩
  ·exact ⟨h.1,h.2.1,by simpa using h.2.2⟩
theorem NOk.rows{N:Nat}{s:NxT}(h:NOk N s)(w i:Int)(x:Int×Int):NOk N { s with t:=V4 s.t w i x }:=
 have e:=A1u ⟨h.l0,h.l1,h.l2⟩ w i x
 ⟨h.f,h.z,h.zf,e.1,e.2.1,e.2.2⟩
theorem VA{N:Nat}{s:NxT}(h:NOk N s){z:Plc}(hz:BG N z.1):NOk N (Bn s z)∧∃x,H9 (Bn s z).f.1 z.2=some x:=by
 unfold Bn
 cases hf:H9 s.z.1 z.2 with
 | some x=>exact ⟨h.rows _ _ _,h.zf _ _ hf⟩
 | none=>
  refine ⟨⟨h.f.put hz,h.z,fun k x hx=>?_,h.l0,h.l1,h.l2⟩,_,by show H9 (CO s.f z.2 _).1 z.2=_;rw[Jf,if_pos rfl]⟩
  show ∃x',H9 (CO s.f z.2 _).1 k=some x';rw[Jf];split
  ·exact ⟨_,rfl⟩
  ·exact h.zf k x hx
theorem A5d{N:Nat}{s:NxT}(h:NOk N s){z:Plc}(hz:BG N z.1):NOk N (BN s z):=by
 obtain ⟨h1,x,hx⟩:=VA h hz;refine NOk.rows (s:=E0h (Bn s z) z) ⟨h1.f,h1.z.put hz,fun k y hy=>?_,h1.l0,h1.l1,h1.l2⟩ _ _ _
 have hy:H9 (CO (Bn s z).z z.2 _).1 k=some y:=hy;rw[Jf] at hy;split at hy
 ·rename_i e;rw[e];exact ⟨x,hx⟩
 ·exact h1.zf k y hy
theorem Ms.nx{w0:World}{F0:Nat->Prop}{K:Kp}{ac:List Act}{a:Act}{l:List (Nat×Obj)}{σ:St}{y:C0}(h:Ms w0 F0 K ac a l σ y)(n:Nat):Ms w0 F0 K ac a l { σ with nx:=n } y:=⟨h.sim.nx n,h.obj,h.oc,h.nf⟩
theorem C5v(w:World):(zeroValue 127).run Tryz.prog w = .ok (N7 0 0) w:=by kernel_rfl
def nvT:Nat:=((Qv JD (LC (.int .i64 0) [] 0 0 0 0 0 [] [] [] 0 0 0).t).map (·.2.2)).getD 0
theorem VD(u:Value)(l:List A0)(p v:Int)(b1 b2:Nat)(N:Nat)(L0 L1 L2:List (Int×Int))(r w k:Int):Qv JD (LC u l p v b1 b2 N L0 L1 L2 r w k).t=some (some 52,.lookup 160 (.tmp 50) (.tmp 51) true,nvT):=by kernel_rfl
theorem D3q(u:Value)(l:List A0)(p v:Int)(b1 b2:Nat)(N:Nat)(L0 L1 L2:List (Int×Int))(r w k:Int):Qv B7l (C6g u l p v b1 b2 N L0 L1 L2 r w k).t=some (none,.mapUpdate 160 (.tmp 64) (.tmp 65) (.tmp 66),0):=by kernel_rfl
theorem D3r(u:Value)(l:List A0)(p v:Int)(b1 b2:Nat)(N:Nat)(L0 L1 L2:List (Int×Int))(r w k:Int):Qv AN (nxU u l p v b1 b2 N L0 L1 L2 r w k).t=some (none,.mapUpdate 160 (.tmp 67) (.tmp 68) (.tmp 69),0):=by kernel_rfl
theorem C6a{w0:World}{F0:Nat->Prop}{K:Kp}{ac:List Act}{a:Act}{Q:Exit->Act->World->Prop}{ρ:Option Nat}{y:C0}{ob:List (Nat×Obj)}(u:Value)(l:List A0)(p v:Int)(b1 b2:Nat)(N:Nat)(L0 L1 L2:List (Int×Int))(r w k q:Int){m:MiL×Nat}(hms:Ms w0 F0 K ac a ob (nxM u l p v b1 b2 N L0 L1 L2 r w k) y)(hobj:(b2,K4 m)∈ob)(hf:H9 m.1 k=some (N7 q 0))(h0:0<=q)(hN:q<N)(hl:L0.length=N)
  (hK:∀y' b',Ms w0 F0 K ac b' ob (nxU u l p v b1 b2 N (L0.set q.toNat (r,w)) L1 L2 r w k) y' -> Wq Tryz.prog Q AN ac .normal b' y'.w ρ):Wq Tryz.prog Q [.code (rfB BC)] ac .normal a y.w ρ:=by
 refine nxG u l p v b1 b2 N L0 L1 L2 r w k trivial hms.sim.own fun cY aY hs=>?_
 have h1:Ms w0 F0 K ac aY ob (LC u l p v b1 b2 N L0 L1 L2 r w k) cY:=hms.step hs;have h50:=(U0 (h1.sim.t 50)).1;have h51:=M9 (h1.sim.t 51);refine Ce (v:=.tuple #[N7 q 0,.bool true]) (w' := cY.w) (VD u l p v b1 b2 N L0 L1 L2 r w k) h1.sim.t (fun c h=>by cases h) (fun o e1 e2=>.inl (Qu Tryz.underlying160 Tryz.underlying3 (Bj EW A2p 127 _ rfl) e1 h50 h51 (h1.obj _ hobj) hf)) ?_
 have h2:=h1.put_slot (d:=52) (s:=.t [.a [.int .i64 q,.int .i64 0],.c (.lit true)]) (v:=.tuple #[N7 q 0,.bool true]) (show 52<81 by decide) ⟨[N7 q 0,.bool true],rfl,.cons ⟨_,rfl,_,_,rfl,⟨0,rfl⟩,_,_,rfl,⟨0,rfl⟩,rfl⟩ (.cons ⟨rfl,0,rfl⟩ .nil)⟩
 refine E4l u l p v b1 b2 N L0 L1 L2 r w k q ⟨A4,A4,h0,hN,rfl,by omega,C4⟩ h2.sim.own fun cZ aZ hs3=>?_
 exact hK _ _ ((h2.step hs3).nx 672)
theorem C6b{w0:World}{F0:Nat->Prop}{K:Kp}{ac:List Act}{a:Act}{Q:Exit->Act->World->Prop}{ρ:Option Nat}{y:C0}{ob:List (Nat×Obj)}(u:Value)(l:List A0)(p v:Int)(b1 b2:Nat)(N:Nat)(L0 L1 L2:List (Int×Int))(r w k q:Int){m:MiL×Nat}(hms:Ms w0 F0 K ac a ob (nxM u l p v b1 b2 N L0 L1 L2 r w k) y)(hobj:(b2,K4 m)∈ob)(hf:H9 m.1 k=some (N7 q 1))(h0:0<=q)(hN:q<N)(hl:L1.length=N)
  (hK:∀y' b',Ms w0 F0 K ac b' ob (nxU u l p v b1 b2 N L0 (L1.set q.toNat (r,w)) L2 r w k) y' -> Wq Tryz.prog Q AN ac .normal b' y'.w ρ):Wq Tryz.prog Q [.code (rfB BC)] ac .normal a y.w ρ:=by
 refine nxG u l p v b1 b2 N L0 L1 L2 r w k trivial hms.sim.own fun cY aY hs=>?_
 have h1:Ms w0 F0 K ac aY ob (LC u l p v b1 b2 N L0 L1 L2 r w k) cY:=hms.step hs;have h50:=(U0 (h1.sim.t 50)).1;have h51:=M9 (h1.sim.t 51);refine Ce (v:=.tuple #[N7 q 1,.bool true]) (w' := cY.w) (VD u l p v b1 b2 N L0 L1 L2 r w k) h1.sim.t (fun c h=>by cases h) (fun o e1 e2=>.inl (Qu Tryz.underlying160 Tryz.underlying3 (Bj EW A2p 127 _ rfl) e1 h50 h51 (h1.obj _ hobj) hf)) ?_
 have h2:=h1.put_slot (d:=52) (s:=.t [.a [.int .i64 q,.int .i64 1],.c (.lit true)]) (v:=.tuple #[N7 q 1,.bool true]) (show 52<81 by decide) ⟨[N7 q 1,.bool true],rfl,.cons ⟨_,rfl,_,_,rfl,⟨0,rfl⟩,_,_,rfl,⟨0,rfl⟩,rfl⟩ (.cons ⟨rfl,0,rfl⟩ .nil)⟩
 refine E4m u l p v b1 b2 N L0 L1 L2 r w k q ⟨A4,A4,h0,hN,rfl,by omega,C4⟩ h2.sim.own fun cZ aZ hs3=>?_
 exact hK _ _ ((h2.step hs3).nx 672)
theorem C6c{w0:World}{F0:Nat->Prop}{K:Kp}{ac:List Act}{a:Act}{Q:Exit->Act->World->Prop}{ρ:Option Nat}{y:C0}{ob:List (Nat×Obj)}(u:Value)(l:List A0)(p v:Int)(b1 b2:Nat)(N:Nat)(L0 L1 L2:List (Int×Int))(r w k q:Int){m:MiL×Nat}(hms:Ms w0 F0 K ac a ob (nxM u l p v b1 b2 N L0 L1 L2 r w k) y)(hobj:(b2,K4 m)∈ob)(hf:H9 m.1 k=some (N7 q 2))(h0:0<=q)(hN:q<N)(hl:L2.length=N)
  (hK:∀y' b',Ms w0 F0 K ac b' ob (nxU u l p v b1 b2 N L0 L1 (L2.set q.toNat (r,w)) r w k) y' -> Wq Tryz.prog Q AN ac .normal b' y'.w ρ):Wq Tryz.prog Q [.code (rfB BC)] ac .normal a y.w ρ:=by
 refine nxG u l p v b1 b2 N L0 L1 L2 r w k trivial hms.sim.own fun cY aY hs=>?_
 have h1:Ms w0 F0 K ac aY ob (LC u l p v b1 b2 N L0 L1 L2 r w k) cY:=hms.step hs;have h50:=(U0 (h1.sim.t 50)).1;have h51:=M9 (h1.sim.t 51);refine Ce (v:=.tuple #[N7 q 2,.bool true]) (w' := cY.w) (VD u l p v b1 b2 N L0 L1 L2 r w k) h1.sim.t (fun c h=>by cases h) (fun o e1 e2=>.inl (Qu Tryz.underlying160 Tryz.underlying3 (Bj EW A2p 127 _ rfl) e1 h50 h51 (h1.obj _ hobj) hf)) ?_
 have h2:=h1.put_slot (d:=52) (s:=.t [.a [.int .i64 q,.int .i64 2],.c (.lit true)]) (v:=.tuple #[N7 q 2,.bool true]) (show 52<81 by decide) ⟨[N7 q 2,.bool true],rfl,.cons ⟨_,rfl,_,_,rfl,⟨0,rfl⟩,_,_,rfl,⟨0,rfl⟩,rfl⟩ (.cons ⟨rfl,0,rfl⟩ .nil)⟩
 refine E4n u l p v b1 b2 N L0 L1 L2 r w k q ⟨A4,A4,h0,hN,rfl,by omega,C4⟩ h2.sim.own fun cZ aZ hs3=>?_
 exact hK _ _ ((h2.step hs3).nx 672)
theorem D3p{w0:World}{F0:Nat->Prop}{K:Kp}{ac:List Act}{a:Act}{Q:Exit->Act->World->Prop}{ρ:Option Nat}{y:C0}(u:Value)(l:List A0)(p v:Int)(b1 b2:Nat)(N:Nat)(L0 L1 L2:List (Int×Int))(r w k:Int){f m:MiL×Nat}{ex:List (Nat×Obj)}(hb1:w0.heap.size<=b1)(hne:b1≠b2)(hex:∀e∈ex,e.1≠b1)(hms:Ms w0 F0 K ac a ((b1,K4 f)::(b2,K4 m)::ex) (nxM u l p v b1 b2 N L0 L1 L2 r w k) y)(hf:H9 m.1 k=none)
  (hK:∀y' b',Ms w0 F0 K ac b' ((b1,K4 (CO f k (N7 r w)))::(b2,K4 m)::ex) (nxU u l p v b1 b2 N L0 L1 L2 r w k) y' -> Wq Tryz.prog Q AN ac .normal b' y'.w ρ):Wq Tryz.prog Q [.code (rfB BC)] ac .normal a y.w ρ:=by
 refine nxG u l p v b1 b2 N L0 L1 L2 r w k trivial hms.sim.own fun cY aY hs=>?_
 have h1:Ms w0 F0 K ac aY ((b1,K4 f)::(b2,K4 m)::ex) (LC u l p v b1 b2 N L0 L1 L2 r w k) cY:=hms.step hs;have h50:=(U0 (h1.sim.t 50)).1;have h51:=M9 (h1.sim.t 51);refine Ce (v:=.tuple #[N7 0 0,.bool false]) (w' := cY.w) (VD u l p v b1 b2 N L0 L1 L2 r w k) h1.sim.t (fun c h=>by cases h) (fun o e1 e2=>.inl (B7y Tryz.underlying160 Tryz.underlying3 (C5v _) e1 h50 h51 (h1.obj _ (List.mem_cons_of_mem _ List.mem_cons_self)) hf)) ?_
 have h2:=h1.put_slot (d:=52) (s:=.t [.a [.int .i64 0,.int .i64 0],.c (.lit false)]) (v:=.tuple #[N7 0 0,.bool false]) (show 52<81 by decide) ⟨[N7 0 0,.bool false],rfl,.cons ⟨_,rfl,_,_,rfl,⟨0,rfl⟩,_,_,rfl,⟨0,rfl⟩,rfl⟩ (.cons ⟨rfl,0,rfl⟩ .nil)⟩
 refine nxN u l p v b1 b2 N L0 L1 L2 r w k trivial h2.sim.own fun cZ aZ hs3=>?_
 have h3:Ms w0 F0 K ac aZ ((b1,K4 f)::(b2,K4 m)::ex) (C6g u l p v b1 b2 N L0 L1 L2 r w k) cZ:=h2.step hs3;have h64:=(U0 (h3.sim.t 64)).1;have h65:=M9 (h3.sim.t 65);have h66:=JP (h3.sim.t 66);refine Ce (v:=undef) (w' := cZ.w.putObj b1 (K4 (CO f k (N7 r w)))) (D3q u l p v b1 b2 N L0 L1 L2 r w k) h3.sim.t (fun c h=>by cases h) (fun o e1 e2=>.inr ⟨B7z Tryz.underlying160 Tryz.underlying3 e1 h64 h65 h66 (h3.obj _ List.mem_cons_self),rfl⟩) ?_
 have h4:=h3.put (l' := (b1,K4 (CO f k (N7 r w)))::(b2,K4 m)::ex) List.mem_cons_self hb1 (o' := K4 (CO f k (N7 r w))) rfl (fun e he=>by
  rcases List.mem_cons.1 he with rfl | he
  ·exact .inl rfl
  rcases List.mem_cons.1 he with rfl | he
  ·exact .inr ⟨List.mem_cons_of_mem _ List.mem_cons_self,fun h=>hne h.symm⟩
  ·exact .inr ⟨List.mem_cons_of_mem _ (List.mem_cons_of_mem _ he),hex e he⟩)
 refine nxP u l p v b1 b2 N L0 L1 L2 r w k trivial h4.sim.own fun cV aV hs5=>?_
 exact hK _ _ (h4.step hs5)
theorem D3s{w0:World}{F0:Nat->Prop}{K:Kp}{ac:List Act}{a:Act}{Q:Exit->Act->World->Prop}{ρ:Option Nat}{y:C0}(u:Value)(l:List A0)(p v:Int)(b1 b2:Nat)(N:Nat)(L0 L1 L2:List (Int×Int))(r w k:Int){f m:MiL×Nat}{ex:List (Nat×Obj)}(hb2:w0.heap.size<=b2)(hne:b1≠b2)(hex:∀e∈ex,e.1≠b2)(hms:Ms w0 F0 K ac a ((b1,K4 f)::(b2,K4 m)::ex) (nxU u l p v b1 b2 N L0 L1 L2 r w k) y)
  (hK:∀y' b',Ms w0 F0 K ac b' ((b1,K4 f)::(b2,K4 (CO m k (N7 r w)))::ex) (T8 u l p v b1 b2 N L0 L1 L2 r w k) y' -> Wq Tryz.prog Q BD ac .normal b' y'.w ρ):Wq Tryz.prog Q AN ac .normal a y.w ρ:=by
 have h67:=(U0 (hms.sim.t 67)).1;have h68:=M9 (hms.sim.t 68);have h69:=JP (hms.sim.t 69);refine Ce (v:=undef) (w' := y.w.putObj b2 (K4 (CO m k (N7 r w)))) (D3r u l p v b1 b2 N L0 L1 L2 r w k) hms.sim.t (fun c h=>by cases h) (fun o e1 e2=>.inr ⟨B7z Tryz.underlying160 Tryz.underlying3 e1 h67 h68 h69 (hms.obj _ (List.mem_cons_of_mem _ List.mem_cons_self)),rfl⟩) ?_
 have h4:=hms.put (l' := (b1,K4 f)::(b2,K4 (CO m k (N7 r w)))::ex) (List.mem_cons_of_mem _ List.mem_cons_self) hb2 (o' := K4 (CO m k (N7 r w))) rfl (fun e he=>by
  rcases List.mem_cons.1 he with rfl | he
  ·exact .inr ⟨List.mem_cons_self,hne⟩
  rcases List.mem_cons.1 he with rfl | he
  ·exact .inl rfl
  ·exact .inr ⟨List.mem_cons_of_mem _ (List.mem_cons_of_mem _ he),hex e he⟩)
 refine nxV u l p v b1 b2 N L0 L1 L2 r w k trivial h4.sim.own fun cV aV hs5=>?_
 exact hK _ _ (h4.step hs5)
end
section
def nxZ(u:Value)(l:List A0)(p v :Int)(b1 b2:Nat)(N:Nat)(t:Rw3):St:=B0 81 [4] [.pt 32 0] [32,64,65,66,67,240,256,320] [(B9 [(.val (Value.slice Option.none 0 0)),(.val (Value.slice Option.none 0 0)),(.val (Value.slice Option.none 0 0))]),(B9 [(.slc 65 0 N 2),(.slc 66 0 N 2),(.slc 67 0 N 2)]),(D9 (Sq.place t.1)),(D9 (Sq.place t.2.1)),(D9 (Sq.place t.2.2)),(B9 [(.val (Value.map (some b1)))]),(B9 [(.val (Value.map (some b2)))]),(B9 [(It.vsl u (.gate l)),(.int .i64 p),(.int .i64 v)])] 848 [[4,6,10,11,46]] [([.pt 32 0,.pt 64 0,.pt 240 0,.pt 256 0,(.ci (.clo 103 [(320,0)]))],81)]
theorem E0i(u:Value)(l:List A0)(p v:Int)(b1 b2:Nat)(N:Nat)(t:Rw3)(r k q q' : Int):C6h u l p v b1 b2 N t.1 t.2.1 t.2.2 r k q q' = nxZ u l p v b1 b2 N (V4 t 0 r (q,q')):=rfl
theorem E0j(u:Value)(l:List A0)(p v:Int)(b1 b2:Nat)(N:Nat)(t:Rw3)(r k q q' : Int):C6i u l p v b1 b2 N t.1 t.2.1 t.2.2 r k q q' = nxZ u l p v b1 b2 N (V4 t 1 r (q,q')):=rfl
theorem E0k(u:Value)(l:List A0)(p v:Int)(b1 b2:Nat)(N:Nat)(t:Rw3)(r k q q' : Int):C6j u l p v b1 b2 N t.1 t.2.1 t.2.2 r k q q' = nxZ u l p v b1 b2 N (V4 t 2 r (q,q')):=rfl
theorem C5z{w0:World}{F0:Nat->Prop}{K:Kp}{ac:List Act}{a:Act}{Q:Exit->Act->World->Prop}{ρ:Option Nat}{y:C0}{ob:List (Nat×Obj)}(u:Value)(l:List A0)(p v:Int)(b1 b2:Nat)(N:Nat)(t:Rw3)(r w k q q' : Int){m:MiL×Nat}(hw:WOk w)(h0:0<=r)(hN:r<N)(hl:t.1.length=N∧t.2.1.length=N∧t.2.2.length=N)(hms:Ms w0 F0 K ac a ob (T8 u l p v b1 b2 N t.1 t.2.1 t.2.2 r w k) y)(hobj:(b1,K4 m)∈ob)(hf:H9 m.1 k=some (N7 q q'))
  (hK:∀y' b',Ms w0 F0 K ac b' ob (nxZ u l p v b1 b2 N (V4 t w r (q,q'))) y' -> Wq Tryz.prog Q [] ac .normal b' y'.w ρ):Wq Tryz.prog Q BD ac .normal a y.w ρ:=by
 rcases hw with rfl | rfl | rfl
 ·refine B7n u l p v b1 b2 N t.1 t.2.1 t.2.2 r k q q' hms hobj hf ⟨h0,hN,rfl,by have:=hl.1;omega,C4⟩ fun y' b' h=>?_
  rw[E0i] at h;exact hK _ _ h
 ·refine B7o u l p v b1 b2 N t.1 t.2.1 t.2.2 r k q q' hms hobj hf ⟨h0,hN,rfl,by have:=hl.2.1;omega,C4⟩ fun y' b' h=>?_
  rw[E0j] at h;exact hK _ _ h
 ·refine B7p u l p v b1 b2 N t.1 t.2.1 t.2.2 r k q q' hms hobj hf ⟨h0,hN,rfl,by have:=hl.2.2;omega,C4⟩ fun y' b' h=>?_
  rw[E0k] at h;exact hK _ _ h
theorem D3k(s:NxT)(z:Plc):(Bn s z).z=s.z:=by
 unfold Bn
 cases H9 s.z.1 z.2<;>rfl
theorem B7j{w0:World}{F0:Nat->Prop}{K:Kp}{ac:List Act}{a:Act}{Q:Exit->Act->World->Prop}{ρ:Option Nat}{y:C0}{ex:List (Nat×Obj)}(u:Value)(l:List A0)(p v:Int)(b1 b2:Nat)(N:Nat)(s:NxT)(z:Plc)(hn:NOk N s)(hb1:w0.heap.size<=b1)(hne:b1≠b2)(hex:∀e∈ex,e.1≠b1)(hms:Ms w0 F0 K ac a ((b1,K4 s.f)::(b2,K4 s.z)::ex) (nxM u l p v b1 b2 N s.t.1 s.t.2.1 s.t.2.2 z.1.1 z.1.2 z.2) y)
  (hK:∀y' b',Ms w0 F0 K ac b' ((b1,K4 (Bn s z).f)::(b2,K4 s.z)::ex) (nxU u l p v b1 b2 N (Bn s z).t.1 (Bn s z).t.2.1 (Bn s z).t.2.2 z.1.1 z.1.2 z.2) y' -> Wq Tryz.prog Q AN ac .normal b' y'.w ρ):Wq Tryz.prog Q [.code (rfB BC)] ac .normal a y.w ρ:=by
 cases hf:H9 s.z.1 z.2 with
 | none=>
  have e:Bn s z = { s with f:=CO s.f z.2 (N7 z.1.1 z.1.2) }:=by unfold Bn;rw[hf]
  rw[e] at hK;exact D3p u l p v b1 b2 N s.t.1 s.t.2.1 s.t.2.2 z.1.1 z.1.2 z.2 hb1 hne hex hms hf hK
 | some x=>
  have e:Bn s z = { s with t:=V4 s.t (unP x).2 (unP x).1 z.1 }:=by unfold Bn;rw[hf]
  rw[e] at hK;obtain ⟨q,j,rfl,⟨h0,h1,h2⟩⟩:=hn.z _ _ hf;have h0:0<=q:=h0;have h1:q<N:=h1;have h2:WOk j:=h2;rcases h2 with rfl | rfl | rfl
  ·exact C6a u l p v b1 b2 N s.t.1 s.t.2.1 s.t.2.2 z.1.1 z.1.2 z.2 q hms (List.mem_cons_of_mem _ List.mem_cons_self) hf h0 h1 hn.l0 hK
  ·exact C6b u l p v b1 b2 N s.t.1 s.t.2.1 s.t.2.2 z.1.1 z.1.2 z.2 q hms (List.mem_cons_of_mem _ List.mem_cons_self) hf h0 h1 hn.l1 hK
  ·exact C6c u l p v b1 b2 N s.t.1 s.t.2.1 s.t.2.2 z.1.1 z.1.2 z.2 q hms (List.mem_cons_of_mem _ List.mem_cons_self) hf h0 h1 hn.l2 hK
theorem B7q{w0:World}{F0:Nat->Prop}{K:Kp}{ac:List Act}{a:Act}{Q:Exit->Act->World->Prop}{ρ:Option Nat}{y:C0}{ex:List (Nat×Obj)}(u:Value)(l:List A0)(p v:Int)(b1 b2:Nat)(N:Nat)(s:NxT)(z:Plc)(hn:NOk N s)(hz:BG N z.1)(hb1:w0.heap.size<=b1)(hb2:w0.heap.size<=b2)(hne:b1≠b2)(hex:∀e∈ex,e.1≠b1∧e.1≠b2)(hms:Ms w0 F0 K ac a ((b1,K4 s.f)::(b2,K4 s.z)::ex) (nxM u l p v b1 b2 N s.t.1 s.t.2.1 s.t.2.2 z.1.1 z.1.2 z.2) y)
  (hK:∀y' b',Ms w0 F0 K ac b' ((b1,K4 (BN s z).f)::(b2,K4 (BN s z).z)::ex) (nxZ u l p v b1 b2 N (BN s z).t) y' -> Wq Tryz.prog Q [] ac .normal b' y'.w ρ):Wq Tryz.prog Q [.code (rfB BC)] ac .normal a y.w ρ:=by
 obtain ⟨h1,x,hx⟩:=VA hn hz;obtain ⟨q,j,rfl,-⟩:=h1.f _ _ hx;refine B7j u l p v b1 b2 N s z hn hb1 hne (fun e he=>(hex e he).1) hms fun y1 a1 hm1=>?_
 refine D3s u l p v b1 b2 N _ _ _ z.1.1 z.1.2 z.2 hb2 hne (fun e he=>(hex e he).2) hm1 fun y2 a2 hm2=>?_
 refine C5z u l p v b1 b2 N (Bn s z).t z.1.1 z.1.2 z.2 q j hz.2.2 hz.1 hz.2.1 ⟨h1.l0,h1.l1,h1.l2⟩ hm2 List.mem_cons_self hx fun y3 a3 hm3=>hK _ _ ?_
 have e:(BN s z).t=V4 (Bn s z).t z.1.2 z.1.1 (q,j):=by
  show V4 (Bn s z).t z.1.2 z.1.1 (unP ((H9 (Bn s z).f.1 z.2).getD undef))=_;rw[hx];rfl
 have e2:(BN s z).z=CO s.z z.2 (N7 z.1.1 z.1.2):=by
  show CO (Bn s z).z z.2 _=_;rw[D3k]
 rw[e,e2];exact hm3
end
section
def R7(n w:Nat):List (Int×Int):=(List.range n).map fun (i:Nat)=>((i:Int),(w:Int))
theorem Q6(n w:Nat):(R7 n w).length=n:=by simp [R7]
theorem PH(w:Nat):R7 0 w=[]:=rfl
theorem PG(n w:Nat):R7 (n+1) w=R7 n w++[((n:Int),(w:Int))]:=by
 unfold R7;rw[List.range_succ,List.map_append];rfl
theorem C6k{w0:World}{F0:Nat->Prop}{K:Kp}{Q:Exit->Act->World->Prop}(l:List A0)(p v log:Int)(m1 m2:Nat)(L1 L2:List (Int×Int))(N:Nat)(hN:N<=65536)(next:∀ac a y,Sim w0 F0 K ac (nxO l p v log 1 N m1 m2 (R7 N 0) L1 L2) y a->Wq Tryz.prog Q (D4 EJ) ac .normal a y.w)
  {ac:List Act} {a:Act} {y:C0} (h0:Sim w0 F0 K ac (A0o l p v log 0 m1 m2 (R7 0 0) L1 L2 N ((0:Nat):Int)) y a):Wq Tryz.prog Q HS ac .normal a y.w:=by
 refine I5 (fun i:{ i:Nat // i<=N }=>fun ac a W=>∃y,W=y.w∧Sim w0 F0 K ac (A0o l p v log i.1 m1 m2 (R7 i.1 0) L1 L2 N i.1) y a) (fun i=>N-i.1) (c:=X5 HS) (k:=X8 HS) (by kernel_rfl) (fun i ih ac b w hI=>?_) ⟨0,Nat.zero_le _⟩ ⟨y,rfl,h0⟩
 obtain ⟨i,hi⟩:=i;obtain ⟨y,rfl,hs⟩:=hI;simp only at hs ih
 by_cases h:i<N
 ·refine E4f l p v log i m1 m2 (R7 i 0) L1 L2 N i ⟨decide_eq_true (by omega),A4,A4,by rw[Q6];omega,by rw[Q6];exact Nat.le_trans (by omega:i+1<=65536) A4,(Q6 i 0).symm,rfl,A4,A4,C4⟩ hs fun ac cZ aZ hs2=>?_
  have hw:wrap IntKind.i64 ((i:Int)+1)=((i+1:Nat):Int):=by rw[A9 (by omega) (by omega)];omega
  rw[hw,Q6] at hs2;refine ih ⟨i+1,by omega⟩ (by show N-(i+1)<N-i;omega) ac aZ _ ⟨cZ,rfl,?_⟩
  show Sim w0 F0 K ac (A0o l p v log (i+1) m1 m2 (R7 (i+1) 0) L1 L2 N ((i+1:Nat):Int)) cZ aZ;rw[PG];exact hs2.nx _
 ·have e:i=N:=by omega
  subst e;refine E4i l p v log i m1 m2 (R7 i 0) L1 L2 i i ⟨decide_eq_false (by omega),C4⟩ hs fun ac cZ aZ hs2=>?_
  exact next ac aZ cZ (hs2.nx _)
theorem C6l{w0:World}{F0:Nat->Prop}{K:Kp}{Q:Exit->Act->World->Prop}(l:List A0)(p v log:Int)(m0 m2:Nat)(L0 L2:List (Int×Int))(N:Nat)(hN:N<=65536)(next:∀ac a y,Sim w0 F0 K ac (nxO l p v log 2 m0 N m2 L0 (R7 N 1) L2) y a->Wq Tryz.prog Q (D4 EJ) ac .normal a y.w)
  {ac:List Act} {a:Act} {y:C0} (h0:Sim w0 F0 K ac (A0p l p v log m0 0 m2 L0 (R7 0 1) L2 N ((0:Nat):Int)) y a):Wq Tryz.prog Q HT ac .normal a y.w:=by
 refine I5 (fun i:{ i:Nat // i<=N }=>fun ac a W=>∃y,W=y.w∧Sim w0 F0 K ac (A0p l p v log m0 i.1 m2 L0 (R7 i.1 1) L2 N i.1) y a) (fun i=>N-i.1) (c:=X5 HT) (k:=X8 HT) (by kernel_rfl) (fun i ih ac b w hI=>?_) ⟨0,Nat.zero_le _⟩ ⟨y,rfl,h0⟩
 obtain ⟨i,hi⟩:=i;obtain ⟨y,rfl,hs⟩:=hI;simp only at hs ih
 by_cases h:i<N
 ·refine E4g l p v log m0 i m2 L0 (R7 i 1) L2 N i ⟨decide_eq_true (by omega),A4,A4,by rw[Q6];omega,by rw[Q6];exact Nat.le_trans (by omega:i+1<=65536) A4,(Q6 i 1).symm,rfl,A4,A4,C4⟩ hs fun ac cZ aZ hs2=>?_
  have hw:wrap IntKind.i64 ((i:Int)+1)=((i+1:Nat):Int):=by rw[A9 (by omega) (by omega)];omega
  rw[hw,Q6] at hs2;refine ih ⟨i+1,by omega⟩ (by show N-(i+1)<N-i;omega) ac aZ _ ⟨cZ,rfl,?_⟩
  show Sim w0 F0 K ac (A0p l p v log m0 (i+1) m2 L0 (R7 (i+1) 1) L2 N ((i+1:Nat):Int)) cZ aZ;rw[PG];exact hs2.nx _
 ·have e:i=N:=by omega
  subst e;refine E4j l p v log m0 i m2 L0 (R7 i 1) L2 i i ⟨decide_eq_false (by omega),C4⟩ hs fun ac cZ aZ hs2=>?_
  exact next ac aZ cZ (hs2.nx _)
theorem C6m{w0:World}{F0:Nat->Prop}{K:Kp}{Q:Exit->Act->World->Prop}(l:List A0)(p v log:Int)(m0 m1:Nat)(L0 L1:List (Int×Int))(N:Nat)(hN:N<=65536)(next:∀ac a y,Sim w0 F0 K ac (nxO l p v log 3 m0 m1 N L0 L1 (R7 N 2)) y a->Wq Tryz.prog Q (D4 EJ) ac .normal a y.w)
  {ac:List Act} {a:Act} {y:C0} (h0:Sim w0 F0 K ac (A0q l p v log m0 m1 0 L0 L1 (R7 0 2) N ((0:Nat):Int)) y a):Wq Tryz.prog Q HU ac .normal a y.w:=by
 refine I5 (fun i:{ i:Nat // i<=N }=>fun ac a W=>∃y,W=y.w∧Sim w0 F0 K ac (A0q l p v log m0 m1 i.1 L0 L1 (R7 i.1 2) N i.1) y a) (fun i=>N-i.1) (c:=X5 HU) (k:=X8 HU) (by kernel_rfl) (fun i ih ac b w hI=>?_) ⟨0,Nat.zero_le _⟩ ⟨y,rfl,h0⟩
 obtain ⟨i,hi⟩:=i;obtain ⟨y,rfl,hs⟩:=hI;simp only at hs ih
 by_cases h:i<N
 ·refine E4h l p v log m0 m1 i L0 L1 (R7 i 2) N i ⟨decide_eq_true (by omega),A4,A4,by rw[Q6];omega,by rw[Q6];exact Nat.le_trans (by omega:i+1<=65536) A4,(Q6 i 2).symm,rfl,A4,A4,C4⟩ hs fun ac cZ aZ hs2=>?_
  have hw:wrap IntKind.i64 ((i:Int)+1)=((i+1:Nat):Int):=by rw[A9 (by omega) (by omega)];omega
  rw[hw,Q6] at hs2;refine ih ⟨i+1,by omega⟩ (by show N-(i+1)<N-i;omega) ac aZ _ ⟨cZ,rfl,?_⟩
  show Sim w0 F0 K ac (A0q l p v log m0 m1 (i+1) L0 L1 (R7 (i+1) 2) N ((i+1:Nat):Int)) cZ aZ;rw[PG];exact hs2.nx _
 ·have e:i=N:=by omega
  subst e;refine E4k l p v log m0 m1 i L0 L1 (R7 i 2) i i ⟨decide_eq_false (by omega),C4⟩ hs fun ac cZ aZ hs2=>?_
  exact next ac aZ cZ (hs2.nx _)
theorem C6n{w0:World}{F0:Nat->Prop}{K:Kp}{Q:Exit->Act->World->Prop}(l:List A0)(p v log:Int)(N:Nat)(hN:N<=65536)(h0:0<=log)(hw:wrap IntKind.i64 (1*2 ^ min log.toNat 64)=(N:Int))(next:∀ac a y,Sim w0 F0 K ac (nxO l p v log 3 N N N (R7 N 0) (R7 N 1) (R7 N 2)) y a->Wq Tryz.prog Q (B7 EJ) ac .normal a y.w)
  {ac:List Act} {a:Act} {y:C0} (hs:Sim w0 F0 K ac (nxO l p v log 0 0 0 0 [] [] []) y a):Wq Tryz.prog Q EJ ac .normal a y.w:=by
 let I:{ w:Nat // w<=3 } -> List Act->Act->World->Prop:=fun w ac a W=>∃y,W=y.w∧Sim w0 F0 K ac (match w.1 with
  | 0=>nxO l p v log 0 0 0 0 [] [] []
  | 1=>nxO l p v log 1 N 0 0 (R7 N 0) [] []
  | 2=>nxO l p v log 2 N N 0 (R7 N 0) (R7 N 1) []
  | _=>nxO l p v log 3 N N N (R7 N 0) (R7 N 1) (R7 N 2)) y a
 have l0:(0:Nat)<=3:=by decide
 refine I5 I (fun w=>3-w.1) (c:=X5 EJ) (k:=X8 EJ) (by kernel_rfl) (fun w ih ac b W hI=>?_) ⟨0,l0⟩ (show I ⟨0,l0⟩ ac a y.w from ⟨y,rfl,hs⟩)
 obtain ⟨w,hw3⟩:=w;obtain ⟨y,rfl,hs⟩:=hI;match w,hw3 with
 | 0,_=>
  have hs:Sim w0 F0 K ac (nxO l p v log 0 0 0 0 [] [] []) y b:=hs;refine E4c l p v log 0 0 0 [] [] [] ⟨decide_eq_true A4,h0,C4⟩ hs fun ac cZ aZ hs2=>?_
  rw[hw] at hs2;have hs2:=hs2.nx 288;refine C6k l p v log 0 0 [] [] N hN (fun ac a y h=>ih ⟨1,A4⟩ (by show 3-1<3-0;decide) ac a _ ⟨y,rfl,h⟩) ?_
  rw[PH,show ((0:Nat):Int)=0 from rfl]
  exact hs2
 | 1,_=>
  have hs:Sim w0 F0 K ac (nxO l p v log 1 N 0 0 (R7 N 0) [] []) y b:=hs;refine E4d l p v log N 0 0 (R7 N 0) [] [] ⟨decide_eq_true A4,h0,C4⟩ hs fun ac cZ aZ hs2=>?_
  rw[hw] at hs2;have hs2:=hs2.nx 288;refine C6l l p v log N 0 (R7 N 0) [] N hN (fun ac a y h=>ih ⟨2,A4⟩ (by show 3-2<3-1;decide) ac a _ ⟨y,rfl,h⟩) ?_
  rw[PH,show ((0:Nat):Int)=0 from rfl]
  exact hs2
 | 2,_=>
  have hs:Sim w0 F0 K ac (nxO l p v log 2 N N 0 (R7 N 0) (R7 N 1) []) y b:=hs;refine E4e l p v log N N 0 (R7 N 0) (R7 N 1) [] ⟨decide_eq_true A4,h0,C4⟩ hs fun ac cZ aZ hs2=>?_
  rw[hw] at hs2;have hs2:=hs2.nx 288;refine C6m l p v log N N (R7 N 0) (R7 N 1) N hN (fun ac a y h=>ih ⟨3,A4⟩ (by show 3-3<3-2;decide) ac a _ ⟨y,rfl,h⟩) ?_
  rw[PH,show ((0:Nat):Int)=0 from rfl]
  exact hs2
 | 3,_=>exact next ac b y hs
end
section
section
variable {w0:World} {F0:Nat->Prop} {K:Kp} {ac:List Act} {Q:Exit->Act->World->Prop} {cX:C0} {aX:Act}
def nxQ(N:Nat)(L0 L1 L2:List (Int×Int)):St:=B0 81 [4,5] [.pt 32 0,.ii 0] [32,65,66,67] [(B9 [(.slc 65 0 N 2),(.slc 66 0 N 2),(.slc 67 0 N 2)]),(D9 (Sq.place L0)),(D9 (Sq.place L1)),(D9 (Sq.place L2))] 432 [] []
theorem nxR(u:Value)(l:List A0)(p v:Int)(b1 b2:Nat)(N:Nat)(L0 L1 L2:List (Int×Int)):A5 []->Sg Tryz.prog (nxS u l p v b1 b2 N L0 L1 L2) (nxQ N L0 L1 L2) .ret ([]) (rfR BC):=E4 false 3000 [] M4
theorem B7m(N:Nat)(L0 L1 L2:List (Int×Int)):E2 nxA Tryz.f50 false 3000 (⟨[],.ret,nxQ N L0 L1 L2⟩) [] [65,66,67] []=(some ([],((.t [(.a [(.slc 0 0 N 2),(.slc 1 0 N 2),(.slc 2 0 N 2)]),(.c (.int .i64 0))]),[(.sq (Sq.place L0)),(.sq (Sq.place L1)),(.sq (Sq.place L2))]))):=by kernel_rfl
end
end
section
def nx0(N:Nat):NxT:=⟨([],0),([],0),R7 N 0,R7 N 1,R7 N 2⟩
def U5(l:List A0)(N:Nat):NxT:=(plT l 3).foldl BN (nx0 N)
theorem Qn{N:Nat}:∀(pre:List Plc) {s:NxT},NOk N s->(∀z∈pre,BG N z.1)->NOk N (pre.foldl BN s)
 | [],_,h,_=>h
 | z::pre,_,h,hz=>Qn pre (A5d h (hz z List.mem_cons_self)) fun q hq=>hz q (List.mem_cons_of_mem _ hq)
theorem A0n(N:Nat):NOk N (nx0 N):=⟨fun _ _ h=>(by cases h),fun _ _ h=>(by cases h),fun _ _ h=>(by cases h),Q6 _ _,Q6 _ _,Q6 _ _⟩
theorem VO{G:List A0}{N w:Nat}(hw:WOk w):∀{n:Nat},n<=N->∀z∈plW G w n,BG N z.1
 | 0,_,z,hz=>by cases hz
 | n+1,h,z,hz=>by
  have hz:z∈plW G w n++_:=hz;rcases List.mem_append.1 hz with hz | hz
  ·exact VO hw (by omega) z hz
  ·split at hz
   ·rw[List.mem_singleton] at hz
    subst hz;exact ⟨by show (0:Int)<=(n:Int);omega,by show (n:Int)<N;omega,hw⟩
   ·cases hz
theorem A1a{G:List A0}{N:Nat}(h:G.length<=N):∀z∈plT G 3,BG N z.1:=fun z hz=>by
 have hz:z∈(([]++plW G 0 G.length)++plW G 1 G.length)++plW G 2 G.length:=hz;rcases List.mem_append.1 hz with hz | hz
 ·rcases List.mem_append.1 hz with hz | hz
  ·exact VO (.inl rfl) h z hz
  ·exact VO (.inr (.inl rfl)) h z hz
 ·exact VO (.inr (.inr rfl)) h z hz
def A9b(u:Value)(l:List A0)(p v:Int)(N:Nat)(L0 L1 L2:List (Int×Int)):St:=B0 81 [2,4,6] [.v (.c (.ptr 16 0)),.v (.c (.ptr 32 0)),.v (.c (.ptr 64 0))] [16,32,64,65,66,67] [some (.fl [.vsl u (.gate l),.int .i64 p,.int .i64 v]),some (.fl [.val (.slice none 0 0),.val (.slice none 0 0),.val (.slice none 0 0)]),some (.fl [.slc 65 0 N 2,.slc 66 0 N 2,.slc 67 0 N 2]),some (.sq (.place L0)),some (.sq (.place L1)),some (.sq (.place L2))] 208 [] []
theorem D3n(u:Value)(l:List A0)(p v:Int)(N:Nat)(L0 L1 L2:List (Int×Int)):Qv Yf (A9b u l p v N L0 L1 L2).t=some (some 43,.makeMap 160 none,160):=by kernel_rfl
theorem D3o(u:Value)(l:List A0)(p v:Int)(N:Nat)(L0 L1 L2:List (Int×Int))(b1:Nat):Qv (J4 Yf) (M7 (A9b u l p v N L0 L1 L2).t 43 (.v (.c (.val (.map (some b1))))))=some (some 44,.makeMap 160 none,160):=by kernel_rfl
theorem size_alloc(w:World)(o:Obj):(w.alloc o).heap.size=w.heap.size+1:=by
 first
  | (unfold World.alloc;simp only[Array.size_push];done)
  | (show (w.heap.push o).size=_;exact Array.size_push _)
  | (rw[World.alloc_eq];exact Array.size_push _)
theorem A9c{x:C0}(hk:∀p,x.k p = .no)(hF:∀b,x.F b->b<x.w.heap.size)(u:Value)(l:List A0)(p v:Int)(b1 b2 N:Nat)(hlim:l.length<=4096)(hN:l.length<=N)(hb1:x.w.heap.size<=b1)(hb2:x.w.heap.size<=b2)(hne:b1≠b2){ac:List Act}{a:Act}{y:C0}
  (hms:Ms x.w x.F AD ac a [(b1,K4 ([],0)),(b2,K4 ([],0))] (nxS u l p v b1 b2 N (R7 N 0) (R7 N 1) (R7 N 2)) y) :
  Wq Tryz.prog (bodyPostM Fence.wide 0 Tryz.prog Tryz.f50 (RF x (.t [.a [.slc 0 0 N 2,.slc 1 0 N 2,.slc 2 0 N 2],.c (.int .i64 0)]) [.sq (.place (U5 l N).t.1),.sq (.place (U5 l N).t.2.1),.sq (.place (U5 l N).t.2.2)])) BC ac .normal a y.w:=by
 obtain ⟨e1,e2⟩:=GG (k:=BC) (by kernel_rfl)
 rw[e1];have eP:(rfP BC).toList=[47,48]:=by kernel_rfl
 have eG:rfG BC = .tmp 46:=by kernel_rfl
 have hok:∀pre z,(∃t,plT l 3=pre++z::t)->NOk N (pre.foldl BN (nx0 N))∧BG N z.1:=fun pre z ⟨t,ht⟩=>
  have h:=A1a hN
  ⟨Qn pre (A0n N) fun q hq=>h q (by rw[ht];exact List.mem_append_left _ hq),h z (by rw[ht];exact List.mem_append_right _ List.mem_cons_self)⟩
 have hlt1:b1<y.w.heap.size:=(Array.getElem?_eq_some_iff.1 (hms.obj _ List.mem_cons_self)).1;have hlt2:b2<y.w.heap.size:=(Array.getElem?_eq_some_iff.1 (hms.obj _ (List.mem_cons_of_mem _ List.mem_cons_self))).1;refine Yv (ps:=rfP BC) e2 hms.sim (gf:=103) (caps:=[(320,0)]) (A2 Tryz.func103 rfl rfl) (fun pre=>nxS u l p v b1 b2 N (pre.foldl BN (nx0 N)).t.1 (pre.foldl BN (nx0 N)).t.2.1 (pre.foldl BN (nx0 N)).t.2.2) (fun s=>by rw[eG];rfl) ⟨_,rfl⟩ (plT l 3)
  (fun z=>[.v (.a [.int .i64 z.1.1,.int .i64 z.1.2]),.v (.c (.int .i64 z.2))]) FU (fun y z=>.cons ⟨_,rfl,_,_,rfl,⟨0,rfl⟩,_,_,rfl,⟨0,rfl⟩,rfl⟩ (.cons ⟨rfl,0,rfl⟩ .nil)) (fun z=>by rw[<-Array.length_toList,eP];rfl) (fun pre q hq=>?_) (Yn (v:=u) hlim fun s=>rfl)
  (fun pre=>[(b1,K4 (pre.foldl BN (nx0 N)).f),(b2,K4 (pre.foldl BN (nx0 N)).z)]) (fun s e he=>?_) hms
  (fun pre z=>nxM u l p v b1 b2 N (pre.foldl BN (nx0 N)).t.1 (pre.foldl BN (nx0 N)).t.2.1 (pre.foldl BN (nx0 N)).t.2.2 z.1.1 z.1.2 z.2) (fun pre z=>nxZ u l p v b1 b2 N ((pre++[z]).foldl BN (nx0 N)).t) (fun pre z _=>⟨_,rfl⟩)
  (fun pre z hz w1 F1 K1 as1 Q1 n y b hs2 hQ=>?_) (fun pre z hz ex as1 Q1 n y b hex hm2 hQ=>?_) fun D y hm2 hD hFD hd=>?_
 ·rw[eP] at hq
  show q<81;simp only[List.mem_cons,List.not_mem_nil,or_false] at hq;rcases hq with rfl | rfl<;>decide
 ·simp only[List.mem_cons,List.not_mem_nil,or_false] at he
  rcases he with rfl | rfl
  ·exact hlt1
  ·exact hlt2
 ·rw[eP] at hs2
  exact nxF u l p v b1 b2 N _ _ _ z.1.1 z.1.2 z.2 trivial hs2 fun cZ aZ hs3=>⟨hQ _ _ (hs3.nx _)⟩
 ·obtain ⟨h1,h2⟩:=hok pre z hz
  refine B7q u l p v b1 b2 N (pre.foldl BN (nx0 N)) z h1 h2 hb1 hb2 hne (fun e he=>⟨fun h=>?_,fun h=>?_⟩) hm2 fun y' b' h=>⟨hQ _ _ ?_⟩
  ·have:=hex e he;omega
  ·have:=hex e he;omega
  ·have e:(pre++[z]).foldl BN (nx0 N)=BN (pre.foldl BN (nx0 N)) z:=by rw[List.foldl_append];rfl
   rw[e];exact h
 ·have hs3:=hm2.sim.marked rfl rfl D
  refine nxR u l p v b1 b2 N _ _ _ trivial hs3 fun ac cV aV hs6=>⟨?_⟩
  have hs7:Sim y.w y.F (BM y AD (AK D)) ac (nxQ N (U5 l N).t.1 (U5 l N).t.2.1 (U5 l N).t.2.2) cV aV:=hs6;exact Ec M4 hk hF (B7m N _ _ _) trivial (fun y v hd=>hd) hm2.sim hD hFD hd rfl hs7
end
section
theorem B6w(l:List A0)(p v log:Int)(N:Nat)(hr:E9 l p v=true)(h0:0<=log)(h1:log<=16)(hN:N=2 ^ log.toNat)(h2:l.length<=N)(hlim:l.length<=4096) :
  K2 Tryz.prog 50 [W4 l p v,.v (.c (.int .i64 log))] (.t [.a [.slc 0 0 N 2,.slc 1 0 N 2,.slc 2 0 N 2],.c (.int .i64 0)]) [.sq (.place (U5 l N).t.1),.sq (.place (U5 l N).t.2.1),.sq (.place (U5 l N).t.2.2)]:=by
 refine BY (fn:=Tryz.f50) (c:=B5 Tryz.f50) Tryz.func50 rfl rfl fun x b hk hF hs=>?_
 refine nx l p v log ⟨hr,h0,h1,by rw[<-hN];exact h2,rfl,C4⟩ hs fun ac cY aY hs1=>?_
 have n1:=hs1.nilB 65 2 (q:=.place []) (l' := [.slc 65 0 0 2,.val (.slice none 0 0),.val (.slice none 0 0)]) rfl rfl A4 A4 A4 rfl rfl ⟨.inr (.inl ⟨2,rfl,rfl⟩),.inl rfl,.inl rfl,C4⟩;have n2:=n1.nilB 66 2 (q:=.place []) (l' := [.slc 65 0 0 2,.slc 66 0 0 2,.val (.slice none 0 0)]) rfl rfl A4 A4 A4 rfl rfl ⟨.inl rfl,.inr (.inl ⟨2,rfl,rfl⟩),.inl rfl,C4⟩;have n3:=n2.nilB 67 2 (q:=.place []) (l' := [.slc 65 0 0 2,.slc 66 0 0 2,.slc 67 0 0 2]) rfl rfl A4 A4 A4 rfl rfl ⟨.inl rfl,.inl rfl,.inr (.inl ⟨2,rfl,rfl⟩),C4⟩;change Wq Tryz.prog _ _ _ _ _ (G4 (G4 (G4 cY 65) 66) 67).w
 have hp:2 ^ log.toNat<=2 ^ 16:=Nat.pow_le_pow_right A4 (by omega)
 have hN6:N<=65536:=by rw[hN];exact hp
 have hw:wrap IntKind.i64 (1*2 ^ min log.toNat 64)=(N:Int):=by
  obtain ⟨e1,_⟩:=S4.D6i h0 (by omega)
  rw[hN];exact e1
 refine C6n l p v log N hN6 h0 hw (fun ac aZ cZ hs2=>?_) (n3.nx 192)
 refine nxD l p v log N N N (R7 N 0) (R7 N 1) (R7 N 2) ⟨decide_eq_false A4,C4⟩ hs2 fun ac cD aD hs3=>?_
 obtain ⟨u,hu⟩:=hs3.vslBlk (z:=16) (q:=.gate l) (l:=[.int .i64 p,.int .i64 v]) rfl;have hs4:Sim x.w x.F AD ac (A9b u l p v N (R7 N 0) (R7 N 1) (R7 N 2)) cD aD:=hu [some (.fl [.vsl u (.gate l),.int .i64 p,.int .i64 v]),some (.fl [.val (.slice none 0 0),.val (.slice none 0 0),.val (.slice none 0 0)]),some (.fl [.slc 65 0 N 2,.slc 66 0 N 2,.slc 67 0 N 2]),some (.sq (.place (R7 N 0))),some (.sq (.place (R7 N 1))),some (.sq (.place (R7 N 2)))] (fun r=>by
   simp only[C7];by_cases h0:r=16
   ·subst h0;rfl
   by_cases h1:r=32
   ·subst h1;rfl
   by_cases h2:r=64
   ·subst h2;rfl
   by_cases h3:r=65
   ·subst h3;rfl
   by_cases h4:r=66
   ·subst h4;rfl
   by_cases h5:r=67
   ·subst h5;rfl
   simp only[beq_iff_eq,h0,h1,h2,h3,h4,h5,if_false])
 have m0:Ms x.w x.F AD ac aD [] (A9b u l p v N (R7 N 0) (R7 N 1) (R7 N 2)) cD:=⟨hs4,fun _ h=>(by cases h),fun _ h=>(by cases h),fun _ h=>(by cases h)⟩
 have hbD:x.w.heap.size<=cD.w.heap.size:=hs4.base.size;refine Ce (D3n u l p v N (R7 N 0) (R7 N 1) (R7 N 2)) hs4.t (by intro c h;cases h) (w' := cD.w.alloc (.map #[] 0)) (v:=.map (some cD.w.heap.size)) (fun o h1 h2=>.inl (by unfold execOp;rw[h1];rfl)) ?_
 have m1:=m0.made (d:=43) (show 43<81 by decide)
 refine Ce (σ:={ A9b u l p v N (R7 N 0) (R7 N 1) (R7 N 2) with t:=M7 (A9b u l p v N (R7 N 0) (R7 N 1) (R7 N 2)).t 43 (.v (.c (.val (.map (some cD.w.heap.size))))) }) (D3o u l p v N (R7 N 0) (R7 N 1) (R7 N 2) cD.w.heap.size) m1.sim.t (by intro c h;cases h) (w' := (cD.w.alloc (.map #[] 0)).alloc (.map #[] 0)) (v:=.map (some (cD.w.alloc (.map #[] 0)).heap.size)) (fun o h1 h2=>.inl (by unfold execOp;rw[h1];rfl)) ?_
 have m2:=m1.made (d:=44) (show 44<81 by decide)
 have hsz:=size_alloc cD.w (.map #[] 0);refine nxE u l p v cD.w.heap.size (cD.w.alloc (.map #[] 0)).heap.size N N N (R7 N 0) (R7 N 1) (R7 N 2) trivial (m2.nx 240).sim.own fun ac cE aE hs5=>?_
 have m3:=(m2.step hs5).sub (l' := [(cD.w.heap.size,K4 ([],0)),((cD.w.alloc (.map #[] 0)).heap.size,K4 ([],0))]) (fun e he=>by
  simp only[List.mem_cons,List.not_mem_nil,or_false] at he;rcases he with rfl | rfl
  ·exact List.mem_cons_of_mem _ List.mem_cons_self
  ·exact List.mem_cons_self)
 exact A9c hk hF u l p v cD.w.heap.size (cD.w.alloc (.map #[] 0)).heap.size N hlim h2 hbD (by omega) (by omega) (m3.nx 384)
end
section
def ROk(N:Nat)(t:Rw3):Prop:=(∀z∈t.1,BG N z)∧(∀z∈t.2.1,BG N z)∧∀z∈t.2.2,BG N z
theorem QS{N:Nat}{L:List (Int×Int)}(h:∀z∈L,BG N z){x:Int×Int}(hx:BG N x)(i:Nat):∀z∈L.set i x,BG N z:=fun z hz=>
 (List.mem_or_eq_of_mem_set hz).elim (h z) (fun e=>e ▸ hx)
theorem Ub{N:Nat}{t:Rw3}(h:ROk N t)(w i:Int){x:Int×Int}(hx:BG N x):ROk N (V4 t w i x):=by
 unfold V4;split
 ·exact ⟨QS h.1 hx _,h.2.1,h.2.2⟩
 ·split
  ·exact ⟨h.1,QS h.2.1 hx _,h.2.2⟩
  ·exact ⟨h.1,h.2.1,QS h.2.2 hx _⟩
theorem B7g{N:Nat}{s:NxT}(h:NOk N s)(hr:ROk N s.t){z:Plc}(hz:BG N z.1):ROk N (BN s z).t:=by
 obtain ⟨h1,x,hx⟩:=VA h hz;obtain ⟨r,w,rfl,hp⟩:=h1.f _ _ hx;have h2:ROk N (Bn s z).t:=by
  unfold Bn;split
  ·exact Ub hr _ _ hz
  ·exact hr
 show ROk N (V4 (Bn s z).t z.1.2 z.1.1 (unP ((H9 (Bn s z).f.1 z.2).getD undef)));rw[hx];exact Ub h2 _ _ hp
theorem A5e{N:Nat}:∀(pre:List Plc) {s:NxT},NOk N s->ROk N s.t->(∀z∈pre,BG N z.1)->ROk N (pre.foldl BN s).t
 | [],_,_,h,_=>h
 | z::pre,_,h,hr,hz=>A5e pre (A5d h (hz z List.mem_cons_self)) (B7g h hr (hz z List.mem_cons_self)) fun q hq=>hz q (List.mem_cons_of_mem _ hq)
theorem ZP{N w:Nat}(hw:WOk w):∀z∈R7 N w,BG N z:=fun z hz=>by
 unfold R7 at hz;obtain ⟨i,hi,rfl⟩:=List.mem_map.1 hz;have hi:=List.mem_range.1 hi;exact ⟨by show (0:Int)<=(i:Int);omega,by show (i:Int)<N;omega,hw⟩
theorem D3u{l:List A0}{N:Nat}(h:l.length<=N):ROk N (U5 l N).t:=
 A5e _ (A0n N) ⟨ZP (.inl rfl),ZP (.inr (.inl rfl)),ZP (.inr (.inr rfl))⟩ (A1a h)
theorem D3t{l:List A0}{N:Nat}(h:l.length<=N):(U5 l N).t.1.length=N∧(U5 l N).t.2.1.length=N∧(U5 l N).t.2.2.length=N:=
 have e:=Qn (plT l 3) (A0n N) (A1a h)
 ⟨e.l0,e.l1,e.l2⟩
theorem QB{N:Nat}{L:List (Int×Int)}(h:∀z∈L,BG N z){i:Nat}(hi:i<L.length):BG N (L.getD i (0,0)):=by
 rw[List.getD,List.getElem?_eq_getElem hi];exact h _ (List.getElem_mem hi)
end
namespace S4
section
variable {w0:World} {F0:Nat->Prop} {K:Kp} {ac:List Act} {Q:Exit->Act->World->Prop} {cX:C0} {aX:Act}
def vlE(log:Int):List U4:=DW log (I4 log)
def vlN(log:Int):Nat:=2 ^ log.toNat
def VC:B2
 | [.v (.c (.int .i64 log))]=>some ([O6 log=true],.t [.a [.slc 0 0 (vlE log).length 4,.slc 1 0 (vlE log).length 4,.slc 2 0 (vlE log).length 4],.c (.int .i64 0)],[.sq (.s (J1 (vlE log) 0 (vlE log).length)),.sq (.s (J1 (vlE log) 1 (vlE log).length)),.sq (.s (J1 (vlE log) 2 (vlE log).length))])
 | _=>none
def vA:D6:=dT.set (E0 dT.fn 51 VC)
theorem E1f:A7 Tryz.prog vA:=A8 DU 51 VC (A2 Tryz.func51 rfl rfl) fun args o r es h ho=>by
 unfold VC at h;split at h
 ·cases h;exact Ye _ ho.1 _ rfl
 ·cases h
def VE:B2
 | [.v (.a [.sl (.gate l),.int .i64 p,.int .i64 v]),.v (.c (.int .i64 log))]=>some ([E9 l p v=true,0<=log,log<=16,l.length<=vlN log,l.length<=4096],.t [.a [.slc 0 0 (vlN log) 2,.slc 1 0 (vlN log) 2,.slc 2 0 (vlN log) 2],.c (.int .i64 0)],[.sq (.place (U5 l (vlN log)).t.1),.sq (.place (U5 l (vlN log)).t.2.1),.sq (.place (U5 l (vlN log)).t.2.2)])
 | _=>none
def vB:D6:=vA.set (E0 vA.fn 50 VE)
theorem W6:A7 Tryz.prog vB:=A8 E1f 50 VE (A2 Tryz.func50 rfl rfl) fun args o r es h ho=>by
 unfold VE at h;split at h
 ·cases h;exact B6w _ _ _ _ _ ho.1 ho.2.1 ho.2.2.1 rfl ho.2.2.2.1 ho.2.2.2.2.1
 ·cases h
def Fj:List KI:=(run vB false 3000 (⟨[.code (B5 Tryz.f21)],.normal,D2 Tryz.f21.ntmps [W4 dF dF dF,.v (.c (.int .i64 dF))]⟩:G5) [false,false]).cfg.k
theorem vl(l:List A0)(p v log:Int):let b:=Value.slice Option.none 0 0;let d:=S4.vlE log;let f:=S4.vlN log;let g:=B9 [(.val b),(.val b),(.val b)];let h:=NxT.t (U5 l f);let i:Int:=0;let j:=(i != i)=false;A5 [((E9 l p v)=true),(0<=log),(log<=(16:Int)),(l.length<=f),(l.length<=4096),j,((S4.O6 log)=true),j]->Sg Tryz.prog (D2 Tryz.f21.ntmps [W4 l p v,.v (.c (.int .i64 log))]) (B0 63 [4,6,9,33,34] [.pt 32 0,.pt 64 0,.pt 336 0,(.v (.a [(.slc 112 0 f 2),(.slc 113 0 f 2),(.slc 114 0 f 2)])),.ii i] [32,64,112,113,114,272,273,274,336] [g,g,(D9 (Sq.place (Prod.fst h))),(D9 (Sq.place (Prod.fst (Prod.snd h)))),(D9 (Sq.place (Prod.snd (Prod.snd h)))),(D9 (.s (S4.J1 d i d.length))),(D9 (.s (S4.J1 d (1:Int) d.length))),(D9 (.s (S4.J1 d (2:Int) d.length))),(B9 [(.slc 272 0 d.length 4),(.slc 273 0 d.length 4),(.slc 274 0 d.length 4)])] 448 [] []) .normal (Fj) ([.code (B5 Tryz.f21)]):=E4 false 3000 [false,false] W6
def vlO(n N:Nat)(T0 T1 T2:List (Int×Int))(S0 S1 S2:List Fr)(m0 m1 m2:Nat)(L0 L1 L2:List U4)(w:Int):St:=B0 63 [4,6,9,33,34] [.pt 32 0,.pt 64 0,.pt 336 0,.v (.a [.slc 112 0 n 2,.slc 113 0 n 2,.slc 114 0 n 2]),.v (.c (.int .i64 w))] [32,64,112,113,114,272,273,274,336,337,338,339] [(B9 [(.val (Value.slice Option.none 0 0)),(.val (Value.slice Option.none 0 0)),(.val (Value.slice Option.none 0 0))]),some (.fl [.slc 337 0 m0 4,.slc 338 0 m1 4,.slc 339 0 m2 4]),some (.sq (.place T0)),some (.sq (.place T1)),some (.sq (.place T2)),some (.sq (.s S0)),some (.sq (.s S1)),some (.sq (.s S2)),some (.fl [.slc 272 0 N 4,.slc 273 0 N 4,.slc 274 0 N 4]),some (.sq (.fr L0)),some (.sq (.fr L1)),some (.sq (.fr L2))] 448 [] []
def RV(n N:Nat)(T0 T1 T2:List (Int×Int))(S0 S1 S2:List Fr)(m0 m1 m2:Nat)(L0 L1 L2:List U4)(i:Int):St:=B0 63 [4,6,9,10,33,34,38,39,40] [.pt 32 0,.pt 64 0,.pt 336 0,.ii 0,(.v (.a [(.slc 112 0 n 2),(.slc 113 0 n 2),(.slc 114 0 n 2)])),.ii 0,(.ci (.slc 112 0 n 2)),(.ii ((n:Nat):Int)),.v (.c (.int .i64 i))] [32,64,112,113,114,272,273,274,336,337,338,339] [(B9 [(.val (Value.slice Option.none 0 0)),(.val (Value.slice Option.none 0 0)),(.val (Value.slice Option.none 0 0))]),(B9 [(.slc 337 0 m0 4),(.slc 338 0 m1 4),(.slc 339 0 m2 4)]),(D9 (Sq.place T0)),(D9 (Sq.place T1)),(D9 (Sq.place T2)),(D9 (.s S0)),(D9 (.s S1)),(D9 (.s S2)),(B9 [(.slc 272 0 N 4),(.slc 273 0 N 4),(.slc 274 0 N 4)]),(D9 (.fr L0)),(D9 (.fr L1)),(D9 (.fr L2))] 576 [] []
def CH:List KI:=(run vB false 3000 (⟨B7 Fj,.normal,vlO dF dF dF dF dF dF dF dF dF dF dF dF dF dF 0⟩:G5) [true]).cfg.k
theorem E6x(n N:Nat)(T0 T1 T2:List (Int×Int))(S0 S1 S2:List Fr)(m0 m1 m2:Nat)(L0 L1 L2:List U4):A5 [((decide (0<(3:Int)))=true),(0<=(0:Int)),(0<(3:Int))]->Sg Tryz.prog (vlO n N T0 T1 T2 S0 S1 S2 m0 m1 m2 L0 L1 L2 0) (RV n N T0 T1 T2 S0 S1 S2 m0 m1 m2 L0 L1 L2 (0:Int)) .normal (CH) (B7 Fj):=E4 false 3000 [true] W6
def RX(n N:Nat)(T0 T1 T2:List (Int×Int))(S0 S1 S2:List Fr)(m0 m1 m2:Nat)(L0 L1 L2:List U4)(i:Int):St:=B0 63 [4,6,9,10,33,34,38,39,40] [.pt 32 0,.pt 64 0,.pt 336 0,.ii 1,(.v (.a [(.slc 112 0 n 2),(.slc 113 0 n 2),(.slc 114 0 n 2)])),.ii 1,(.ci (.slc 113 0 n 2)),(.ii ((n:Nat):Int)),.v (.c (.int .i64 i))] [32,64,112,113,114,272,273,274,336,337,338,339] [(B9 [(.val (Value.slice Option.none 0 0)),(.val (Value.slice Option.none 0 0)),(.val (Value.slice Option.none 0 0))]),(B9 [(.slc 337 0 m0 4),(.slc 338 0 m1 4),(.slc 339 0 m2 4)]),(D9 (Sq.place T0)),(D9 (Sq.place T1)),(D9 (Sq.place T2)),(D9 (.s S0)),(D9 (.s S1)),(D9 (.s S2)),(B9 [(.slc 272 0 N 4),(.slc 273 0 N 4),(.slc 274 0 N 4)]),(D9 (.fr L0)),(D9 (.fr L1)),(D9 (.fr L2))] 576 [] []
def CJ:List KI:=(run vB false 3000 (⟨B7 Fj,.normal,vlO dF dF dF dF dF dF dF dF dF dF dF dF dF dF 1⟩:G5) [true]).cfg.k
theorem E6y(n N:Nat)(T0 T1 T2:List (Int×Int))(S0 S1 S2:List Fr)(m0 m1 m2:Nat)(L0 L1 L2:List U4):let a:=(1:Int)<(3:Int);A5 [((decide a)=true),(0<=(1:Int)),a]->Sg Tryz.prog (vlO n N T0 T1 T2 S0 S1 S2 m0 m1 m2 L0 L1 L2 1) (RX n N T0 T1 T2 S0 S1 S2 m0 m1 m2 L0 L1 L2 (0:Int)) .normal (CJ) (B7 Fj):=E4 false 3000 [true] W6
def RY(n N:Nat)(T0 T1 T2:List (Int×Int))(S0 S1 S2:List Fr)(m0 m1 m2:Nat)(L0 L1 L2:List U4)(i:Int):St:=B0 63 [4,6,9,10,33,34,38,39,40] [.pt 32 0,.pt 64 0,.pt 336 0,.ii 2,(.v (.a [(.slc 112 0 n 2),(.slc 113 0 n 2),(.slc 114 0 n 2)])),.ii 2,(.ci (.slc 114 0 n 2)),(.ii ((n:Nat):Int)),.v (.c (.int .i64 i))] [32,64,112,113,114,272,273,274,336,337,338,339] [(B9 [(.val (Value.slice Option.none 0 0)),(.val (Value.slice Option.none 0 0)),(.val (Value.slice Option.none 0 0))]),(B9 [(.slc 337 0 m0 4),(.slc 338 0 m1 4),(.slc 339 0 m2 4)]),(D9 (Sq.place T0)),(D9 (Sq.place T1)),(D9 (Sq.place T2)),(D9 (.s S0)),(D9 (.s S1)),(D9 (.s S2)),(B9 [(.slc 272 0 N 4),(.slc 273 0 N 4),(.slc 274 0 N 4)]),(D9 (.fr L0)),(D9 (.fr L1)),(D9 (.fr L2))] 576 [] []
def CL:List KI:=(run vB false 3000 (⟨B7 Fj,.normal,vlO dF dF dF dF dF dF dF dF dF dF dF dF dF dF 2⟩:G5) [true]).cfg.k
theorem E6z(n N:Nat)(T0 T1 T2:List (Int×Int))(S0 S1 S2:List Fr)(m0 m1 m2:Nat)(L0 L1 L2:List U4):let a:=(2:Int)<(3:Int);A5 [((decide a)=true),(0<=(2:Int)),a]->Sg Tryz.prog (vlO n N T0 T1 T2 S0 S1 S2 m0 m1 m2 L0 L1 L2 2) (RY n N T0 T1 T2 S0 S1 S2 m0 m1 m2 L0 L1 L2 (0:Int)) .normal (CL) (B7 Fj):=E4 false 3000 [true] W6
def vlQ(n N:Nat)(T0 T1 T2:List (Int×Int))(S0 S1 S2:List Fr)(m0 m1 m2:Nat)(L0 L1 L2:List U4):St:=B0 63 [4,5] [.pt 32 0,.ii 0] [32,337,338,339] [(B9 [(.slc 337 0 m0 4),(.slc 338 0 m1 4),(.slc 339 0 m2 4)]),(D9 (.fr L0)),(D9 (.fr L1)),(D9 (.fr L2))] 512 [] []
theorem vlD(n N:Nat)(T0 T1 T2:List (Int×Int))(S0 S1 S2:List Fr)(m0 m1 m2:Nat)(L0 L1 L2:List U4):A5 [((decide ((3:Int)<(3:Int)))=false)]->Sg Tryz.prog (vlO n N T0 T1 T2 S0 S1 S2 m0 m1 m2 L0 L1 L2 3) (vlQ n N T0 T1 T2 S0 S1 S2 m0 m1 m2 L0 L1 L2) .ret ([]) (B7 Fj):=E4 false 3000 [false] W6
def C1t(n N:Nat)(T0 T1 T2:List (Int×Int))(S0 S1 S2:List Fr)(m0 m1 m2:Nat)(L0 L1 L2:List U4)(i r q:Int):St:=B0 63 [4,6,9,10,13,33,34,38,39,40] [.pt 32 0,.pt 64 0,.pt 336 0,.ii 0,.pt 624 0,(.v (.a [(.slc 112 0 n 2),(.slc 113 0 n 2),(.slc 114 0 n 2)])),.ii 0,(.ci (.slc 112 0 n 2)),(.ii ((n:Nat):Int)),.ii i] [32,64,112,113,114,272,273,274,336,337,338,339,624] [(B9 [(.val (Value.slice Option.none 0 0)),(.val (Value.slice Option.none 0 0)),(.val (Value.slice Option.none 0 0))]),(B9 [(.slc 337 0 m0 4),(.slc 338 0 m1 4),(.slc 339 0 m2 4)]),(D9 (Sq.place T0)),(D9 (Sq.place T1)),(D9 (Sq.place T2)),(D9 (.s S0)),(D9 (.s S1)),(D9 (.s S2)),(B9 [(.slc 272 0 N 4),(.slc 273 0 N 4),(.slc 274 0 N 4)]),(D9 (.fr L0)),(D9 (.fr L1)),(D9 (.fr L2)),some (.fl [.int .i64 r,.int .i64 q])] 656 [] []
def WH:List KI:=(run vB false 16 (⟨B7 CH,.normal,RV dF dF dF dF dF dF dF dF dF dF dF dF dF dF dF⟩:G5) [true]).cfg.k
theorem E7a(n N:Nat)(T0 T1 T2:List (Int×Int))(S0 S1 S2:List Fr)(m0 m1 m2:Nat)(L0 L1 L2:List U4)(i:Int):let a:=List.getD T0 (i).toNat ((0:Int),(0:Int));let b:=i<((n:Nat):Int);A5 [((decide b)=true),(0<=i),b,(0=0),((i).toNat<T0.length)]->Sg Tryz.prog (RV n N T0 T1 T2 S0 S1 S2 m0 m1 m2 L0 L1 L2 i) (C1t n N T0 T1 T2 S0 S1 S2 m0 m1 m2 L0 L1 L2 i (Prod.fst a) (Prod.snd a)) .normal (WH) (B7 CH):=E4 false 16 [true] W6
theorem E7d(n N:Nat)(T0 T1 T2:List (Int×Int))(S0 S1 S2:List Fr)(m0 m1 m2:Nat)(L0 L1 L2:List U4)(i:Int):A5 [((decide (i<((n:Nat):Int)))=false)]->Sg Tryz.prog (RV n N T0 T1 T2 S0 S1 S2 m0 m1 m2 L0 L1 L2 i) (St.z (vlO n N T0 T1 T2 S0 S1 S2 m0 m1 m2 L0 L1 L2 (1:Int)) 624) .normal (D4 Fj) (B7 CH):=E4 false 3000 [false] W6
def C1u(n N:Nat)(T0 T1 T2:List (Int×Int))(S0 S1 S2:List Fr)(m0 m1 m2:Nat)(L0 L1 L2:List U4)(i r q:Int):St:=B0 63 [4,6,9,10,13,33,34,38,39,40] [.pt 32 0,.pt 64 0,.pt 336 0,.ii 1,.pt 624 0,(.v (.a [(.slc 112 0 n 2),(.slc 113 0 n 2),(.slc 114 0 n 2)])),.ii 1,(.ci (.slc 113 0 n 2)),(.ii ((n:Nat):Int)),.ii i] [32,64,112,113,114,272,273,274,336,337,338,339,624] [(B9 [(.val (Value.slice Option.none 0 0)),(.val (Value.slice Option.none 0 0)),(.val (Value.slice Option.none 0 0))]),(B9 [(.slc 337 0 m0 4),(.slc 338 0 m1 4),(.slc 339 0 m2 4)]),(D9 (Sq.place T0)),(D9 (Sq.place T1)),(D9 (Sq.place T2)),(D9 (.s S0)),(D9 (.s S1)),(D9 (.s S2)),(B9 [(.slc 272 0 N 4),(.slc 273 0 N 4),(.slc 274 0 N 4)]),(D9 (.fr L0)),(D9 (.fr L1)),(D9 (.fr L2)),some (.fl [.int .i64 r,.int .i64 q])] 656 [] []
def WI:List KI:=(run vB false 16 (⟨B7 CJ,.normal,RX dF dF dF dF dF dF dF dF dF dF dF dF dF dF dF⟩:G5) [true]).cfg.k
theorem E7b(n N:Nat)(T0 T1 T2:List (Int×Int))(S0 S1 S2:List Fr)(m0 m1 m2:Nat)(L0 L1 L2:List U4)(i:Int):let a:=List.getD T1 (i).toNat ((0:Int),(0:Int));let b:=i<((n:Nat):Int);A5 [((decide b)=true),(0<=i),b,(0=0),((i).toNat<T1.length)]->Sg Tryz.prog (RX n N T0 T1 T2 S0 S1 S2 m0 m1 m2 L0 L1 L2 i) (C1u n N T0 T1 T2 S0 S1 S2 m0 m1 m2 L0 L1 L2 i (Prod.fst a) (Prod.snd a)) .normal (WI) (B7 CJ):=E4 false 16 [true] W6
theorem E7e(n N:Nat)(T0 T1 T2:List (Int×Int))(S0 S1 S2:List Fr)(m0 m1 m2:Nat)(L0 L1 L2:List U4)(i:Int):A5 [((decide (i<((n:Nat):Int)))=false)]->Sg Tryz.prog (RX n N T0 T1 T2 S0 S1 S2 m0 m1 m2 L0 L1 L2 i) (St.z (vlO n N T0 T1 T2 S0 S1 S2 m0 m1 m2 L0 L1 L2 (2:Int)) 624) .normal (D4 Fj) (B7 CJ):=E4 false 3000 [false] W6
def C1v(n N:Nat)(T0 T1 T2:List (Int×Int))(S0 S1 S2:List Fr)(m0 m1 m2:Nat)(L0 L1 L2:List U4)(i r q:Int):St:=B0 63 [4,6,9,10,13,33,34,38,39,40] [.pt 32 0,.pt 64 0,.pt 336 0,.ii 2,.pt 624 0,(.v (.a [(.slc 112 0 n 2),(.slc 113 0 n 2),(.slc 114 0 n 2)])),.ii 2,(.ci (.slc 114 0 n 2)),(.ii ((n:Nat):Int)),.ii i] [32,64,112,113,114,272,273,274,336,337,338,339,624] [(B9 [(.val (Value.slice Option.none 0 0)),(.val (Value.slice Option.none 0 0)),(.val (Value.slice Option.none 0 0))]),(B9 [(.slc 337 0 m0 4),(.slc 338 0 m1 4),(.slc 339 0 m2 4)]),(D9 (Sq.place T0)),(D9 (Sq.place T1)),(D9 (Sq.place T2)),(D9 (.s S0)),(D9 (.s S1)),(D9 (.s S2)),(B9 [(.slc 272 0 N 4),(.slc 273 0 N 4),(.slc 274 0 N 4)]),(D9 (.fr L0)),(D9 (.fr L1)),(D9 (.fr L2)),some (.fl [.int .i64 r,.int .i64 q])] 656 [] []
def WJ:List KI:=(run vB false 16 (⟨B7 CL,.normal,RY dF dF dF dF dF dF dF dF dF dF dF dF dF dF dF⟩:G5) [true]).cfg.k
theorem E7c(n N:Nat)(T0 T1 T2:List (Int×Int))(S0 S1 S2:List Fr)(m0 m1 m2:Nat)(L0 L1 L2:List U4)(i:Int):let a:=List.getD T2 (i).toNat ((0:Int),(0:Int));let b:=i<((n:Nat):Int);A5 [((decide b)=true),(0<=i),b,(0=0),((i).toNat<T2.length)]->Sg Tryz.prog (RY n N T0 T1 T2 S0 S1 S2 m0 m1 m2 L0 L1 L2 i) (C1v n N T0 T1 T2 S0 S1 S2 m0 m1 m2 L0 L1 L2 i (Prod.fst a) (Prod.snd a)) .normal (WJ) (B7 CL):=E4 false 16 [true] W6
theorem E7f(n N:Nat)(T0 T1 T2:List (Int×Int))(S0 S1 S2:List Fr)(m0 m1 m2:Nat)(L0 L1 L2:List U4)(i:Int):A5 [((decide (i<((n:Nat):Int)))=false)]->Sg Tryz.prog (RY n N T0 T1 T2 S0 S1 S2 m0 m1 m2 L0 L1 L2 i) (St.z (vlO n N T0 T1 T2 S0 S1 S2 m0 m1 m2 L0 L1 L2 (3:Int)) 624) .normal (D4 Fj) (B7 CL):=E4 false 3000 [false] W6
theorem E1g(n N:Nat)(T0 T1 T2:List (Int×Int))(S0 S1 S2:List Fr)(m0 m1 m2:Nat)(L0 L1 L2:List U4)(i r:Int):let a:=L0.length+1;let b:=0<=(0:Int);let c:=0<(3:Int);A5 [b,c,b,c,(0<=r),(r<((N:Nat):Int)),(0=0),((r).toNat<S0.length),((a*32)<=140737488355328),(a<=maxLen),(m0=L0.length),(1=1),b,c]->Sg Tryz.prog (C1t n N T0 T1 T2 S0 S1 S2 m0 m1 m2 L0 L1 L2 i r 0) (St.z (RV n N T0 T1 T2 S0 S1 S2 a m1 m2 (L0++[(S4.E6 (S0.getD r.toNat 0))]) L1 L2 (wrap .i64 (i+1))) 960) .normal (D4 CH) (WH):=E4 false 3000 [] W6
theorem E1h(n N:Nat)(T0 T1 T2:List (Int×Int))(S0 S1 S2:List Fr)(m0 m1 m2:Nat)(L0 L1 L2:List U4)(i r:Int):let a:=L0.length+1;A5 [(0<=(0:Int)),(0<(3:Int)),(0<=(1:Int)),((1:Int)<(3:Int)),(0<=r),(r<((N:Nat):Int)),(0=0),((r).toNat<S1.length),((a*32)<=140737488355328),(a<=maxLen),(m0=L0.length),(1=1),(0<=(0:Int)),(0<(3:Int))]->Sg Tryz.prog (C1t n N T0 T1 T2 S0 S1 S2 m0 m1 m2 L0 L1 L2 i r 1) (St.z (RV n N T0 T1 T2 S0 S1 S2 a m1 m2 (L0++[(S4.E6 (S1.getD r.toNat 0))]) L1 L2 (wrap .i64 (i+1))) 960) .normal (D4 CH) (WH):=E4 false 3000 [] W6
theorem E1i(n N:Nat)(T0 T1 T2:List (Int×Int))(S0 S1 S2:List Fr)(m0 m1 m2:Nat)(L0 L1 L2:List U4)(i r:Int):let a:=L0.length+1;A5 [(0<=(0:Int)),(0<(3:Int)),(0<=(2:Int)),((2:Int)<(3:Int)),(0<=r),(r<((N:Nat):Int)),(0=0),((r).toNat<S2.length),((a*32)<=140737488355328),(a<=maxLen),(m0=L0.length),(1=1),(0<=(0:Int)),(0<(3:Int))]->Sg Tryz.prog (C1t n N T0 T1 T2 S0 S1 S2 m0 m1 m2 L0 L1 L2 i r 2) (St.z (RV n N T0 T1 T2 S0 S1 S2 a m1 m2 (L0++[(S4.E6 (S2.getD r.toNat 0))]) L1 L2 (wrap .i64 (i+1))) 960) .normal (D4 CH) (WH):=E4 false 3000 [] W6
theorem E1j(n N:Nat)(T0 T1 T2:List (Int×Int))(S0 S1 S2:List Fr)(m0 m1 m2:Nat)(L0 L1 L2:List U4)(i r:Int):let a:=L1.length+1;let b:Int:=1;A5 [(0<=b),(b<(3:Int)),(0<=(0:Int)),(0<(3:Int)),(0<=r),(r<((N:Nat):Int)),(0=0),((r).toNat<S0.length),((a*32)<=140737488355328),(a<=maxLen),(m1=L1.length),(1=1),(0<=b),(b<(3:Int))]->Sg Tryz.prog (C1u n N T0 T1 T2 S0 S1 S2 m0 m1 m2 L0 L1 L2 i r 0) (St.z (RX n N T0 T1 T2 S0 S1 S2 m0 a m2 L0 (L1++[(S4.E6 (S0.getD r.toNat 0))]) L2 (wrap .i64 (i+1))) 960) .normal (D4 CJ) (WI):=E4 false 3000 [] W6
theorem E1k(n N:Nat)(T0 T1 T2:List (Int×Int))(S0 S1 S2:List Fr)(m0 m1 m2:Nat)(L0 L1 L2:List U4)(i r:Int):let a:=(1:Int)<(3:Int);let b:=L1.length+1;let c:=0<=(1:Int);A5 [c,a,c,a,(0<=r),(r<((N:Nat):Int)),(0=0),((r).toNat<S1.length),((b*32)<=140737488355328),(b<=maxLen),(m1=L1.length),(1=1),c,a]->Sg Tryz.prog (C1u n N T0 T1 T2 S0 S1 S2 m0 m1 m2 L0 L1 L2 i r 1) (St.z (RX n N T0 T1 T2 S0 S1 S2 m0 b m2 L0 (L1++[(S4.E6 (S1.getD r.toNat 0))]) L2 (wrap .i64 (i+1))) 960) .normal (D4 CJ) (WI):=E4 false 3000 [] W6
theorem E1l(n N:Nat)(T0 T1 T2:List (Int×Int))(S0 S1 S2:List Fr)(m0 m1 m2:Nat)(L0 L1 L2:List U4)(i r:Int):let a:=L1.length+1;let b:Int:=1;A5 [(0<=b),(b<(3:Int)),(0<=(2:Int)),((2:Int)<(3:Int)),(0<=r),(r<((N:Nat):Int)),(0=0),((r).toNat<S2.length),((a*32)<=140737488355328),(a<=maxLen),(m1=L1.length),(1=1),(0<=b),(b<(3:Int))]->Sg Tryz.prog (C1u n N T0 T1 T2 S0 S1 S2 m0 m1 m2 L0 L1 L2 i r 2) (St.z (RX n N T0 T1 T2 S0 S1 S2 m0 a m2 L0 (L1++[(S4.E6 (S2.getD r.toNat 0))]) L2 (wrap .i64 (i+1))) 960) .normal (D4 CJ) (WI):=E4 false 3000 [] W6
theorem E1m(n N:Nat)(T0 T1 T2:List (Int×Int))(S0 S1 S2:List Fr)(m0 m1 m2:Nat)(L0 L1 L2:List U4)(i r:Int):let a:=L2.length+1;let b:Int:=2;A5 [(0<=b),(b<(3:Int)),(0<=(0:Int)),(0<(3:Int)),(0<=r),(r<((N:Nat):Int)),(0=0),((r).toNat<S0.length),((a*32)<=140737488355328),(a<=maxLen),(m2=L2.length),(1=1),(0<=b),(b<(3:Int))]->Sg Tryz.prog (C1v n N T0 T1 T2 S0 S1 S2 m0 m1 m2 L0 L1 L2 i r 0) (St.z (RY n N T0 T1 T2 S0 S1 S2 m0 m1 a L0 L1 (L2++[(S4.E6 (S0.getD r.toNat 0))]) (wrap .i64 (i+1))) 960) .normal (D4 CL) (WJ):=E4 false 3000 [] W6
theorem E1n(n N:Nat)(T0 T1 T2:List (Int×Int))(S0 S1 S2:List Fr)(m0 m1 m2:Nat)(L0 L1 L2:List U4)(i r:Int):let a:=L2.length+1;let b:Int:=2;A5 [(0<=b),(b<(3:Int)),(0<=(1:Int)),((1:Int)<(3:Int)),(0<=r),(r<((N:Nat):Int)),(0=0),((r).toNat<S1.length),((a*32)<=140737488355328),(a<=maxLen),(m2=L2.length),(1=1),(0<=b),(b<(3:Int))]->Sg Tryz.prog (C1v n N T0 T1 T2 S0 S1 S2 m0 m1 m2 L0 L1 L2 i r 1) (St.z (RY n N T0 T1 T2 S0 S1 S2 m0 m1 a L0 L1 (L2++[(S4.E6 (S1.getD r.toNat 0))]) (wrap .i64 (i+1))) 960) .normal (D4 CL) (WJ):=E4 false 3000 [] W6
theorem E1o(n N:Nat)(T0 T1 T2:List (Int×Int))(S0 S1 S2:List Fr)(m0 m1 m2:Nat)(L0 L1 L2:List U4)(i r:Int):let a:=(2:Int)<(3:Int);let b:=L2.length+1;let c:=0<=(2:Int);A5 [c,a,c,a,(0<=r),(r<((N:Nat):Int)),(0=0),((r).toNat<S2.length),((b*32)<=140737488355328),(b<=maxLen),(m2=L2.length),(1=1),c,a]->Sg Tryz.prog (C1v n N T0 T1 T2 S0 S1 S2 m0 m1 m2 L0 L1 L2 i r 2) (St.z (RY n N T0 T1 T2 S0 S1 S2 m0 m1 b L0 L1 (L2++[(S4.E6 (S2.getD r.toNat 0))]) (wrap .i64 (i+1))) 960) .normal (D4 CL) (WJ):=E4 false 3000 [] W6
theorem C1w(n N:Nat)(T0 T1 T2:List (Int×Int))(S0 S1 S2:List Fr)(m0 m1 m2:Nat)(L0 L1 L2:List U4):E2 vB Tryz.f21 false 3000 (⟨[],.ret,vlQ n N T0 T1 T2 S0 S1 S2 m0 m1 m2 L0 L1 L2⟩) [] [337,338,339] []=(some ([],((.t [(.a [(.slc 0 0 m0 4),(.slc 1 0 m1 4),(.slc 2 0 m2 4)]),(.c (.int .i64 0))]),[(.sq (.fr L0)),(.sq (.fr L1)),(.sq (.fr L2))]))):=by kernel_rfl
end
end S4
namespace S4
def D0n(S0 S1 S2:List Fr)(w:Int):List Fr:=if w=0 then S0 else if w=1 then S1 else S2
def K6(S0 S1 S2:List Fr)(T:List (Int×Int))(n:Nat):List U4:=(List.range n).map fun (i:Nat)=>E6 ((D0n S0 S1 S2 (T.getD i (0,0)).2).getD (T.getD i (0,0)).1.toNat 0)
theorem Kw(S0 S1 S2:List Fr)(T:List (Int×Int))(n:Nat):(K6 S0 S1 S2 T n).length=n:=by simp [K6]
theorem MD(S0 S1 S2:List Fr)(T:List (Int×Int)):K6 S0 S1 S2 T 0=[]:=rfl
theorem MC(S0 S1 S2:List Fr)(T:List (Int×Int))(n:Nat){r q:Int}(h:T.getD n (0,0)=(r,q)):K6 S0 S1 S2 T (n+1)=K6 S0 S1 S2 T n++[E6 ((D0n S0 S1 S2 q).getD r.toNat 0)]:=by
 unfold K6;rw[List.range_succ,List.map_append,List.map_cons,List.map_nil,h]
theorem C9n{w0:World}{F0:Nat->Prop}{K:Kp}{Q:Exit->Act->World->Prop}(n N:Nat)(T0 T1 T2:List (Int×Int))(S0 S1 S2:List Fr)(m1 m2:Nat)(L1 L2:List U4)(hn:n<=65536)(hT:T0.length=n)(hP:∀z∈T0,BG N z)(h0:S0.length=N)(h1:S1.length=N)(h2:S2.length=N)
  (next:∀ac a y,Sim w0 F0 K ac (vlO n N T0 T1 T2 S0 S1 S2 n m1 m2 (K6 S0 S1 S2 T0 n) L1 L2 1) y a->Wq Tryz.prog Q (D4 Fj) ac .normal a y.w)
  {ac:List Act} {a:Act} {y:C0} (hs0:Sim w0 F0 K ac (RV n N T0 T1 T2 S0 S1 S2 0 m1 m2 (K6 S0 S1 S2 T0 0) L1 L2 ((0:Nat):Int)) y a):Wq Tryz.prog Q CH ac .normal a y.w:=by
 refine I5 (fun i:{ i:Nat // i<=n }=>fun ac a W=>∃y,W=y.w∧Sim w0 F0 K ac (RV n N T0 T1 T2 S0 S1 S2 i.1 m1 m2 (K6 S0 S1 S2 T0 i.1) L1 L2 i.1) y a) (fun i=>n-i.1) (c:=X5 CH) (k:=X8 CH) (by kernel_rfl) (fun i ih ac b w hI=>?_) ⟨0,Nat.zero_le _⟩ ⟨y,rfl,hs0⟩
 obtain ⟨i,hi⟩:=i;obtain ⟨y,rfl,hs⟩:=hI;simp only at hs ih
 by_cases h:i<n
 ·refine E7a n N T0 T1 T2 S0 S1 S2 i m1 m2 (K6 S0 S1 S2 T0 i) L1 L2 i ⟨decide_eq_true (by omega),by omega,by omega,rfl,by omega,C4⟩ hs fun ac cY aY hs1=>?_
  obtain ⟨⟨r,q⟩,hz⟩:∃z,T0.getD i (0,0)=z:=⟨_,rfl⟩
  have hp:=QB hP (i:=i) (by omega)
  rw[Int.toNat_natCast,hz] at hs1;rw[hz] at hp;obtain ⟨hr0,hr1,hq⟩:=hp;simp only at hr0 hr1 hq
  have hs1:Sim w0 F0 K ac (C1t n N T0 T1 T2 S0 S1 S2 i m1 m2 (K6 S0 S1 S2 T0 i) L1 L2 i r q) cY aY:=hs1;have hw:wrap IntKind.i64 ((i:Int)+1)=((i+1:Nat):Int):=by rw[A9 (by omega) (by omega)];omega
  have hl:=Kw S0 S1 S2 T0 i;have key:∀ac cZ aZ,Sim w0 F0 K ac (St.z (RV n N T0 T1 T2 S0 S1 S2 (i+1) m1 m2 (K6 S0 S1 S2 T0 (i+1)) L1 L2 ((i+1:Nat):Int)) 960) cZ aZ->Wq Tryz.prog Q (D4 CH) ac .normal aZ cZ.w:=fun ac cZ aZ hs2=>
   ih ⟨i+1,by omega⟩ (by show n-(i+1)<n-i;omega) ac aZ _ ⟨cZ,rfl,hs2.nx 576⟩
  rw[MC S0 S1 S2 T0 i hz] at key;have hc:i+1<=maxLen:=Nat.le_trans (by omega:i+1<=65536) A4
  rcases hq with rfl | rfl | rfl
  ·refine E1g n N T0 T1 T2 S0 S1 S2 i m1 m2 (K6 S0 S1 S2 T0 i) L1 L2 i r ⟨A4,A4,A4,A4,hr0,hr1,rfl,by omega,by rw[hl];omega,by rw[hl];exact hc,hl.symm,rfl,A4,A4,C4⟩ hs1 fun ac cZ aZ hs2=>?_
   rw[hw,hl] at hs2;exact key ac cZ aZ hs2
  ·refine E1h n N T0 T1 T2 S0 S1 S2 i m1 m2 (K6 S0 S1 S2 T0 i) L1 L2 i r ⟨A4,A4,A4,A4,hr0,hr1,rfl,by omega,by rw[hl];omega,by rw[hl];exact hc,hl.symm,rfl,A4,A4,C4⟩ hs1 fun ac cZ aZ hs2=>?_
   rw[hw,hl] at hs2;exact key ac cZ aZ hs2
  ·refine E1i n N T0 T1 T2 S0 S1 S2 i m1 m2 (K6 S0 S1 S2 T0 i) L1 L2 i r ⟨A4,A4,A4,A4,hr0,hr1,rfl,by omega,by rw[hl];omega,by rw[hl];exact hc,hl.symm,rfl,A4,A4,C4⟩ hs1 fun ac cZ aZ hs2=>?_
   rw[hw,hl] at hs2;exact key ac cZ aZ hs2
 ·have e' : i=n:=by omega
  subst e'
  refine E7d i N T0 T1 T2 S0 S1 S2 i m1 m2 (K6 S0 S1 S2 T0 i) L1 L2 i ⟨decide_eq_false (by omega),C4⟩ hs fun ac cZ aZ hs2=>?_
  exact next ac aZ cZ (hs2.nx 448)
theorem C9o{w0:World}{F0:Nat->Prop}{K:Kp}{Q:Exit->Act->World->Prop}(n N:Nat)(T0 T1 T2:List (Int×Int))(S0 S1 S2:List Fr)(m0 m2:Nat)(L0 L2:List U4)(hn:n<=65536)(hT:T1.length=n)(hP:∀z∈T1,BG N z)(h0:S0.length=N)(h1:S1.length=N)(h2:S2.length=N)
  (next:∀ac a y,Sim w0 F0 K ac (vlO n N T0 T1 T2 S0 S1 S2 m0 n m2 L0 (K6 S0 S1 S2 T1 n) L2 2) y a->Wq Tryz.prog Q (D4 Fj) ac .normal a y.w)
  {ac:List Act} {a:Act} {y:C0} (hs0:Sim w0 F0 K ac (RX n N T0 T1 T2 S0 S1 S2 m0 0 m2 L0 (K6 S0 S1 S2 T1 0) L2 ((0:Nat):Int)) y a):Wq Tryz.prog Q CJ ac .normal a y.w:=by
 refine I5 (fun i:{ i:Nat // i<=n }=>fun ac a W=>∃y,W=y.w∧Sim w0 F0 K ac (RX n N T0 T1 T2 S0 S1 S2 m0 i.1 m2 L0 (K6 S0 S1 S2 T1 i.1) L2 i.1) y a) (fun i=>n-i.1) (c:=X5 CJ) (k:=X8 CJ) (by kernel_rfl) (fun i ih ac b w hI=>?_) ⟨0,Nat.zero_le _⟩ ⟨y,rfl,hs0⟩
 obtain ⟨i,hi⟩:=i;obtain ⟨y,rfl,hs⟩:=hI;simp only at hs ih
 by_cases h:i<n
 ·refine E7b n N T0 T1 T2 S0 S1 S2 m0 i m2 L0 (K6 S0 S1 S2 T1 i) L2 i ⟨decide_eq_true (by omega),by omega,by omega,rfl,by omega,C4⟩ hs fun ac cY aY hs1=>?_
  obtain ⟨⟨r,q⟩,hz⟩:∃z,T1.getD i (0,0)=z:=⟨_,rfl⟩
  have hp:=QB hP (i:=i) (by omega)
  rw[Int.toNat_natCast,hz] at hs1;rw[hz] at hp;obtain ⟨hr0,hr1,hq⟩:=hp;simp only at hr0 hr1 hq
  have hs1:Sim w0 F0 K ac (C1u n N T0 T1 T2 S0 S1 S2 m0 i m2 L0 (K6 S0 S1 S2 T1 i) L2 i r q) cY aY:=hs1;have hw:wrap IntKind.i64 ((i:Int)+1)=((i+1:Nat):Int):=by rw[A9 (by omega) (by omega)];omega
  have hl:=Kw S0 S1 S2 T1 i;have key:∀ac cZ aZ,Sim w0 F0 K ac (St.z (RX n N T0 T1 T2 S0 S1 S2 m0 (i+1) m2 L0 (K6 S0 S1 S2 T1 (i+1)) L2 ((i+1:Nat):Int)) 960) cZ aZ->Wq Tryz.prog Q (D4 CJ) ac .normal aZ cZ.w:=fun ac cZ aZ hs2=>
   ih ⟨i+1,by omega⟩ (by show n-(i+1)<n-i;omega) ac aZ _ ⟨cZ,rfl,hs2.nx 576⟩
  rw[MC S0 S1 S2 T1 i hz] at key;have hc:i+1<=maxLen:=Nat.le_trans (by omega:i+1<=65536) A4
  rcases hq with rfl | rfl | rfl
  ·refine E1j n N T0 T1 T2 S0 S1 S2 m0 i m2 L0 (K6 S0 S1 S2 T1 i) L2 i r ⟨A4,A4,A4,A4,hr0,hr1,rfl,by omega,by rw[hl];omega,by rw[hl];exact hc,hl.symm,rfl,A4,A4,C4⟩ hs1 fun ac cZ aZ hs2=>?_
   rw[hw,hl] at hs2;exact key ac cZ aZ hs2
  ·refine E1k n N T0 T1 T2 S0 S1 S2 m0 i m2 L0 (K6 S0 S1 S2 T1 i) L2 i r ⟨A4,A4,A4,A4,hr0,hr1,rfl,by omega,by rw[hl];omega,by rw[hl];exact hc,hl.symm,rfl,A4,A4,C4⟩ hs1 fun ac cZ aZ hs2=>?_
   rw[hw,hl] at hs2;exact key ac cZ aZ hs2
  ·refine E1l n N T0 T1 T2 S0 S1 S2 m0 i m2 L0 (K6 S0 S1 S2 T1 i) L2 i r ⟨A4,A4,A4,A4,hr0,hr1,rfl,by omega,by rw[hl];omega,by rw[hl];exact hc,hl.symm,rfl,A4,A4,C4⟩ hs1 fun ac cZ aZ hs2=>?_
   rw[hw,hl] at hs2;exact key ac cZ aZ hs2
 ·have e' : i=n:=by omega
  subst e'
  refine E7e i N T0 T1 T2 S0 S1 S2 m0 i m2 L0 (K6 S0 S1 S2 T1 i) L2 i ⟨decide_eq_false (by omega),C4⟩ hs fun ac cZ aZ hs2=>?_
  exact next ac aZ cZ (hs2.nx 448)
theorem C9p{w0:World}{F0:Nat->Prop}{K:Kp}{Q:Exit->Act->World->Prop}(n N:Nat)(T0 T1 T2:List (Int×Int))(S0 S1 S2:List Fr)(m0 m1:Nat)(L0 L1:List U4)(hn:n<=65536)(hT:T2.length=n)(hP:∀z∈T2,BG N z)(h0:S0.length=N)(h1:S1.length=N)(h2:S2.length=N)
  (next:∀ac a y,Sim w0 F0 K ac (vlO n N T0 T1 T2 S0 S1 S2 m0 m1 n L0 L1 (K6 S0 S1 S2 T2 n) 3) y a->Wq Tryz.prog Q (D4 Fj) ac .normal a y.w)
  {ac:List Act} {a:Act} {y:C0} (hs0:Sim w0 F0 K ac (RY n N T0 T1 T2 S0 S1 S2 m0 m1 0 L0 L1 (K6 S0 S1 S2 T2 0) ((0:Nat):Int)) y a):Wq Tryz.prog Q CL ac .normal a y.w:=by
 refine I5 (fun i:{ i:Nat // i<=n }=>fun ac a W=>∃y,W=y.w∧Sim w0 F0 K ac (RY n N T0 T1 T2 S0 S1 S2 m0 m1 i.1 L0 L1 (K6 S0 S1 S2 T2 i.1) i.1) y a) (fun i=>n-i.1) (c:=X5 CL) (k:=X8 CL) (by kernel_rfl) (fun i ih ac b w hI=>?_) ⟨0,Nat.zero_le _⟩ ⟨y,rfl,hs0⟩
 obtain ⟨i,hi⟩:=i;obtain ⟨y,rfl,hs⟩:=hI;simp only at hs ih
 by_cases h:i<n
 ·refine E7c n N T0 T1 T2 S0 S1 S2 m0 m1 i L0 L1 (K6 S0 S1 S2 T2 i) i ⟨decide_eq_true (by omega),by omega,by omega,rfl,by omega,C4⟩ hs fun ac cY aY hs1=>?_
  obtain ⟨⟨r,q⟩,hz⟩:∃z,T2.getD i (0,0)=z:=⟨_,rfl⟩
  have hp:=QB hP (i:=i) (by omega)
  rw[Int.toNat_natCast,hz] at hs1;rw[hz] at hp;obtain ⟨hr0,hr1,hq⟩:=hp;simp only at hr0 hr1 hq
  have hs1:Sim w0 F0 K ac (C1v n N T0 T1 T2 S0 S1 S2 m0 m1 i L0 L1 (K6 S0 S1 S2 T2 i) i r q) cY aY:=hs1;have hw:wrap IntKind.i64 ((i:Int)+1)=((i+1:Nat):Int):=by rw[A9 (by omega) (by omega)];omega
  have hl:=Kw S0 S1 S2 T2 i;have key:∀ac cZ aZ,Sim w0 F0 K ac (St.z (RY n N T0 T1 T2 S0 S1 S2 m0 m1 (i+1) L0 L1 (K6 S0 S1 S2 T2 (i+1)) ((i+1:Nat):Int)) 960) cZ aZ->Wq Tryz.prog Q (D4 CL) ac .normal aZ cZ.w:=fun ac cZ aZ hs2=>
   ih ⟨i+1,by omega⟩ (by show n-(i+1)<n-i;omega) ac aZ _ ⟨cZ,rfl,hs2.nx 576⟩
  rw[MC S0 S1 S2 T2 i hz] at key;have hc:i+1<=maxLen:=Nat.le_trans (by omega:i+1<=65536) A4
  rcases hq with rfl | rfl | rfl
  ·refine E1m n N T0 T1 T2 S0 S1 S2 m0 m1 i L0 L1 (K6 S0 S1 S2 T2 i) i r ⟨A4,A4,A4,A4,hr0,hr1,rfl,by omega,by rw[hl];omega,by rw[hl];exact hc,hl.symm,rfl,A4,A4,C4⟩ hs1 fun ac cZ aZ hs2=>?_
   rw[hw,hl] at hs2;exact key ac cZ aZ hs2
  ·refine E1n n N T0 T1 T2 S0 S1 S2 m0 m1 i L0 L1 (K6 S0 S1 S2 T2 i) i r ⟨A4,A4,A4,A4,hr0,hr1,rfl,by omega,by rw[hl];omega,by rw[hl];exact hc,hl.symm,rfl,A4,A4,C4⟩ hs1 fun ac cZ aZ hs2=>?_
   rw[hw,hl] at hs2;exact key ac cZ aZ hs2
  ·refine E1o n N T0 T1 T2 S0 S1 S2 m0 m1 i L0 L1 (K6 S0 S1 S2 T2 i) i r ⟨A4,A4,A4,A4,hr0,hr1,rfl,by omega,by rw[hl];omega,by rw[hl];exact hc,hl.symm,rfl,A4,A4,C4⟩ hs1 fun ac cZ aZ hs2=>?_
   rw[hw,hl] at hs2;exact key ac cZ aZ hs2
 ·have e' : i=n:=by omega
  subst e'
  refine E7f i N T0 T1 T2 S0 S1 S2 m0 m1 i L0 L1 (K6 S0 S1 S2 T2 i) i ⟨decide_eq_false (by omega),C4⟩ hs fun ac cZ aZ hs2=>?_
  exact next ac aZ cZ (hs2.nx 448)
theorem C9q{w0:World}{F0:Nat->Prop}{K:Kp}{Q:Exit->Act->World->Prop}(n N:Nat)(T0 T1 T2:List (Int×Int))(S0 S1 S2:List Fr)(hn:n<=65536)(hT0:T0.length=n)(hT1:T1.length=n)(hT2:T2.length=n)(hP:ROk N (T0,T1,T2))(h0:S0.length=N)(h1:S1.length=N)(h2:S2.length=N)
  (next:∀ac a y,Sim w0 F0 K ac (vlO n N T0 T1 T2 S0 S1 S2 n n n (K6 S0 S1 S2 T0 n) (K6 S0 S1 S2 T1 n) (K6 S0 S1 S2 T2 n) 3) y a->Wq Tryz.prog Q (B7 Fj) ac .normal a y.w)
  {ac:List Act} {a:Act} {y:C0} (hs:Sim w0 F0 K ac (vlO n N T0 T1 T2 S0 S1 S2 0 0 0 [] [] [] 0) y a):Wq Tryz.prog Q Fj ac .normal a y.w:=by
 let I:{ w:Nat // w<=3 } -> List Act->Act->World->Prop:=fun w ac a W=>∃y,W=y.w∧Sim w0 F0 K ac (match w.1 with
  | 0=>vlO n N T0 T1 T2 S0 S1 S2 0 0 0 [] [] [] 0
  | 1=>vlO n N T0 T1 T2 S0 S1 S2 n 0 0 (K6 S0 S1 S2 T0 n) [] [] 1
  | 2=>vlO n N T0 T1 T2 S0 S1 S2 n n 0 (K6 S0 S1 S2 T0 n) (K6 S0 S1 S2 T1 n) [] 2
  | _=>vlO n N T0 T1 T2 S0 S1 S2 n n n (K6 S0 S1 S2 T0 n) (K6 S0 S1 S2 T1 n) (K6 S0 S1 S2 T2 n) 3) y a
 have l0:(0:Nat)<=3:=by decide
 refine I5 I (fun w=>3-w.1) (c:=X5 Fj) (k:=X8 Fj) (by kernel_rfl) (fun w ih ac b W hI=>?_) ⟨0,l0⟩ (show I ⟨0,l0⟩ ac a y.w from ⟨y,rfl,hs⟩)
 obtain ⟨w,hw3⟩:=w;obtain ⟨y,rfl,hs⟩:=hI;match w,hw3 with
 | 0,_=>
  have hs:Sim w0 F0 K ac (vlO n N T0 T1 T2 S0 S1 S2 0 0 0 [] [] [] 0) y b:=hs;refine E6x n N T0 T1 T2 S0 S1 S2 0 0 0 [] [] [] ⟨decide_eq_true A4,A4,A4,C4⟩ hs fun ac cZ aZ hs2=>?_
  have hs2:=hs2.nx 576;refine C9n n N T0 T1 T2 S0 S1 S2 0 0 [] [] hn hT0 hP.1 h0 h1 h2 (fun ac a y h=>ih ⟨1,A4⟩ (by show 3-1<3-0;decide) ac a _ ⟨y,rfl,h⟩) ?_
  rw[MD,show ((0:Nat):Int)=0 from rfl]
  exact hs2
 | 1,_=>
  have hs:Sim w0 F0 K ac (vlO n N T0 T1 T2 S0 S1 S2 n 0 0 (K6 S0 S1 S2 T0 n) [] [] 1) y b:=hs;refine E6y n N T0 T1 T2 S0 S1 S2 n 0 0 (K6 S0 S1 S2 T0 n) [] [] ⟨decide_eq_true A4,A4,A4,C4⟩ hs fun ac cZ aZ hs2=>?_
  have hs2:=hs2.nx 576;refine C9o n N T0 T1 T2 S0 S1 S2 n 0 (K6 S0 S1 S2 T0 n) [] hn hT1 hP.2.1 h0 h1 h2 (fun ac a y h=>ih ⟨2,A4⟩ (by show 3-2<3-1;decide) ac a _ ⟨y,rfl,h⟩) ?_
  rw[MD,show ((0:Nat):Int)=0 from rfl]
  exact hs2
 | 2,_=>
  have hs:Sim w0 F0 K ac (vlO n N T0 T1 T2 S0 S1 S2 n n 0 (K6 S0 S1 S2 T0 n) (K6 S0 S1 S2 T1 n) [] 2) y b:=hs;refine E6z n N T0 T1 T2 S0 S1 S2 n n 0 (K6 S0 S1 S2 T0 n) (K6 S0 S1 S2 T1 n) [] ⟨decide_eq_true A4,A4,A4,C4⟩ hs fun ac cZ aZ hs2=>?_
  have hs2:=hs2.nx 576;refine C9p n N T0 T1 T2 S0 S1 S2 n n (K6 S0 S1 S2 T0 n) (K6 S0 S1 S2 T1 n) hn hT2 hP.2.2 h0 h1 h2 (fun ac a y h=>ih ⟨3,A4⟩ (by show 3-3<3-2;decide) ac a _ ⟨y,rfl,h⟩) ?_
  rw[MD,show ((0:Nat):Int)=0 from rfl]
  exact hs2
 | 3,_=>exact next ac b y hs
def vaR(l:List A0)(log:Int)(w:Nat):List U4:=
 let S:=fun k:Int=>J1 (vlE log) k (vlE log).length
 let t:=(U5 l (vlN log)).t
 K6 (S 0) (S 1) (S 2) (if w=0 then t.1 else if w=1 then t.2.1 else t.2.2) (vlN log)
theorem Y7(l:List A0)(log:Int)(w:Nat):(vaR l log w).length=vlN log:=Kw ..
theorem C9m{log:Int}(h:O6 log=true):(vlE log).length=vlN log:=by
 have hd:G7 log (I4 log)=true:=by simp [G7,h]
 unfold vlE DW;rw[if_pos hd,List.length_map,FV];rfl
theorem A2s(l:List A0)(p v log:Int)(hr:E9 l p v=true)(h:O6 log=true)(h2:l.length<=vlN log)(hlim:l.length<=4096) :
  K2 Tryz.prog 21 [W4 l p v,.v (.c (.int .i64 log))] (.t [.a [.slc 0 0 (vlN log) 4,.slc 1 0 (vlN log) 4,.slc 2 0 (vlN log) 4],.c (.int .i64 0)]) [.sq (.fr (vaR l log 0)),.sq (.fr (vaR l log 1)),.sq (.fr (vaR l log 2))]:=by
 have hd:G7 log (I4 log)=true:=by simp [G7,h]
 obtain ⟨hl0,hl1,_⟩:=V7 hd;have hE:=C9m h;have hN6:vlN log<=65536:=Nat.pow_le_pow_right A4 (by omega:log.toNat<=16)
 obtain ⟨e0,e1,e2⟩:=D3t h2;refine H2 (fn:=Tryz.f21) (c:=B5 Tryz.f21) Tryz.func21 rfl rfl fun x b hk hF hs=>?_
 refine vl l p v log ⟨hr,hl0,by omega,h2,hlim,rfl,h,rfl,C4⟩ hs fun ac cY aY hs1=>?_
 rw[hE] at hs1;have n1:=hs1.nilB 337 1 (q:=.fr []) (l' := [.slc 337 0 0 4,.val (.slice none 0 0),.val (.slice none 0 0)]) rfl rfl A4 A4 A4 rfl rfl ⟨.inr (.inl ⟨4,rfl,rfl⟩),.inl rfl,.inl rfl,C4⟩;have n2:=n1.nilB 338 1 (q:=.fr []) (l' := [.slc 337 0 0 4,.slc 338 0 0 4,.val (.slice none 0 0)]) rfl rfl A4 A4 A4 rfl rfl ⟨.inl rfl,.inr (.inl ⟨4,rfl,rfl⟩),.inl rfl,C4⟩;have n3:=n2.nilB 339 1 (q:=.fr []) (l' := [.slc 337 0 0 4,.slc 338 0 0 4,.slc 339 0 0 4]) rfl rfl A4 A4 A4 rfl rfl ⟨.inl rfl,.inl rfl,.inr (.inl ⟨4,rfl,rfl⟩),C4⟩;change Wq Tryz.prog _ _ _ _ _ (G4 (G4 (G4 cY 337) 338) 339).w
 have l0:∀w:Int,(J1 (vlE log) w (vlN log)).length=vlN log:=fun w=>P7 ..
 refine C9q (vlN log) (vlN log) (U5 l (vlN log)).t.1 (U5 l (vlN log)).t.2.1 (U5 l (vlN log)).t.2.2 (J1 (vlE log) 0 (vlN log)) (J1 (vlE log) 1 (vlN log)) (J1 (vlE log) 2 (vlN log)) hN6 e0 e1 e2 (D3u h2) (l0 0) (l0 1) (l0 2) (fun ac aZ cZ hs2=>?_) (n3.nx 448)
 refine vlD _ _ _ _ _ _ _ _ _ _ _ _ _ _ ⟨decide_eq_false A4,C4⟩ hs2 fun ac cD aD hs3=>?_
 have q0:∀w,vaR l log w=K6 (J1 (vlE log) 0 (vlN log)) (J1 (vlE log) 1 (vlN log)) (J1 (vlE log) 2 (vlN log)) (if w=0 then (U5 l (vlN log)).t.1 else if w=1 then (U5 l (vlN log)).t.2.1 else (U5 l (vlN log)).t.2.2) (vlN log):=fun w=>by unfold vaR;rw[hE]
 rw[q0 0,q0 1,q0 2];exact H4 W6 hk hF (C1w _ _ _ _ _ _ _ _ _ _ _ _ _ _) trivial (fun y v hd=>hd) hs3
end S4
end
end Go.Proofs.YtifiiigbedjceaaGreat
