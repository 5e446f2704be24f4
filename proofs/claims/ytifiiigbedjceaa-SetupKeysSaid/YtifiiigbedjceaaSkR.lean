/- Parts of a proof, one behind the other: WNb, WNc, PNs, PNu, PNt, PNv, PNw, PNx, WNd, PNy, PNz, PVp, WVc, PVc. No conditions. -/
import Derived.Test.YtifiiigbedjceaaSkQ
open Go.IntKind (wrap)
namespace Go.Proofs.Ytifiiigbedjceaa
noncomputable section
section
section
variable {w0:World} {F0:Nat->Prop} {K:Kp} {ac:List Act} {Q:Exit->Act->World->Prop} {cX:Ctx} {aX:Act}

def ltS (σ:St) (d:Nat) (s:SV):St:={ σ with t:=J7 σ.t d s }
def A0j:List KI:=(run nxA false 3000 ((fun (u:Value) (l:List A1) (p v:Int) (b1 b2:Nat) (m0 m1 m2:Nat) (L0 L1 L2:List (Int×Int))=>(⟨I3 (I3 D0l),.normal,⟨J7 (J7 (E1 .top [2,4,6] [.v (.c (.ptr 16 0)),.v (.c (.ptr 32 0)),.v (.c (.ptr 64 0))]) 43 (.v (.c (.val (.map (some b1)))))) 44 (.v (.c (.val (.map (some b2))))),E1 none [16,32,64,65,66,67] [some (.fl [.vsl u (.gate l),.int .i64 p,.int .i64 v]),some (.fl [.val (.slice none 0 0),.val (.slice none 0 0),.val (.slice none 0 0)]),some (.fl [.slc 65 0 m0 2,.slc 66 0 m1 2,.slc 67 0 m2 2]),some (.sq (.place L0)),some (.sq (.place L1)),some (.sq (.place L2))],81,240,[]⟩⟩:Cfg)) default default default default default default default default default default default default) []).cfg.k
theorem nxE (u:Value) (l:List A1) (p v:Int) (b1 b2:Nat) (m0 m1 m2:Nat) (L0 L1 L2:List (Int×Int)):let a:=Value.slice Option.none 0 0;A3 []->Sg Try.prog (⟨J7 (J7 (E1 .top [2,4,6] [.v (.c (.ptr 16 0)),.v (.c (.ptr 32 0)),.v (.c (.ptr 64 0))]) 43 (.ci (.val (.map (some b1))))) 44 (.ci (.val (.map (some b2)))),E1 none [16,32,64,65,66,67] [some (.fl [.vsl u (.gate l),.int .i64 p,.int .i64 v]),some (.fl [.val (.slice none 0 0),.val (.slice none 0 0),.val (.slice none 0 0)]),some (.fl [.slc 65 0 m0 2,.slc 66 0 m1 2,.slc 67 0 m2 2]),some (.sq (.place L0)),some (.sq (.place L1)),some (.sq (.place L2))],81,240,[]⟩) (A5 81 [4,6,10,11,46] [.pt 32 0,.pt 64 0,.pt 240 0,.pt 256 0,(.ci (.clo 84 [(320,0)]))] [32,64,65,66,67,240,256,320] [(eF_ [(.val a),(.val a),(.val a)]),(eF_ [(.slc 65 0 m0 2),(.slc 66 0 m1 2),(.slc 67 0 m2 2)]),(eQ_ (Sq.place L0)),(eQ_ (Sq.place L1)),(eQ_ (Sq.place L2)),(eF_ [(.val (Value.map (some b1)))]),(eF_ [(.val (Value.map (some b2)))]),(eF_ [(It.vsl u (.gate l)),(.int .i64 p),(.int .i64 v)])] 384 [] []) .normal (A0j) (I3 (I3 D0l)):=sgA false 3000 [] J5
def nxS (u:Value) (l:List A1) (p v:Int) (b1 b2:Nat) (N:Nat) (L0 L1 L2:List (Int×Int)):St:=A5 81 [4,6,10,11,46] [.pt 32 0,.pt 64 0,.pt 240 0,.pt 256 0,(.ci (.clo 84 [(320,0)]))] [32,64,65,66,67,240,256,320] [(eF_ [(.val (Value.slice Option.none 0 0)),(.val (Value.slice Option.none 0 0)),(.val (Value.slice Option.none 0 0))]),some (.fl [.slc 65 0 N 2,.slc 66 0 N 2,.slc 67 0 N 2]),some (.sq (.place L0)),some (.sq (.place L1)),some (.sq (.place L2)),(eF_ [(.val (Value.map (some b1)))]),(eF_ [(.val (Value.map (some b2)))]),(eF_ [(It.vsl u (.gate l)),(.int .i64 p),(.int .i64 v)])] 384 [] []
theorem nxF (u:Value) (l:List A1) (p v:Int) (b1 b2:Nat) (N:Nat) (L0 L1 L2:List (Int×Int)) (r w k:Int) {ρ:Option Nat}:let b:=Value.slice Option.none 0 0;(A3 [])->(Sim w0 F0 K ac (Y8 (nxS u l p v b1 b2 N L0 L1 L2) [(47,.v (.a [.int .i64 r,.int .i64 w])),(48,.v (.c (.int .i64 k)))]) cX aX)->(∀cY aY,Sim w0 F0 K ac (A5 81 [4,6,10,11,12,13] [.pt 32 0,.pt 64 0,.pt 240 0,.pt 256 0,.pt 384 0,.ii k] [32,64,65,66,67,240,256,320,384] [(eF_ [(.val b),(.val b),(.val b)]),(eF_ [(.slc 65 0 N 2),(.slc 66 0 N 2),(.slc 67 0 N 2)]),(eQ_ (Sq.place L0)),(eQ_ (Sq.place L1)),(eQ_ (Sq.place L2)),(eF_ [(.val (Value.map (some b1)))]),(eF_ [(.val (Value.map (some b2)))]),(eF_ [(It.vsl u (.gate l)),(.int .i64 p),(.int .i64 v)]),(eF_ [(.int .i64 r),(.int .i64 w)])] 432 [[4,6,10,11,46]] [([.pt 32 0,.pt 64 0,.pt 240 0,.pt 256 0,(.ci (.clo 84 [(320,0)]))],81)]) cY aY->Wq Try.prog Q ([]) ac Exit.normal aY cY.w ρ)->Wq Try.prog Q ([.code (rfA A0j)]) ac .normal aX cX.w ρ :=fun ho hs hK=>
 N1 (unroll:=false) (n:=3000) (path:=[]) (o:=⟨_,_,_,_,_,_,_⟩) J5 (by kernel_rfl) (by kernel_rfl) ho (by kernel_rfl) (by kernel_rfl) hs hK
def nxM (u:Value) (l:List A1) (p v:Int) (b1 b2:Nat) (N:Nat) (L0 L1 L2:List (Int×Int)) (r w k:Int):St:=A5 81 [4,6,10,11,12,13] [.pt 32 0,.pt 64 0,.pt 240 0,.pt 256 0,.pt 384 0,.ii k] [32,64,65,66,67,240,256,320,384] [(eF_ [(.val (Value.slice Option.none 0 0)),(.val (Value.slice Option.none 0 0)),(.val (Value.slice Option.none 0 0))]),(eF_ [(.slc 65 0 N 2),(.slc 66 0 N 2),(.slc 67 0 N 2)]),(eQ_ (Sq.place L0)),(eQ_ (Sq.place L1)),(eQ_ (Sq.place L2)),(eF_ [(.val (Value.map (some b1)))]),(eF_ [(.val (Value.map (some b2)))]),(eF_ [(It.vsl u (.gate l)),(.int .i64 p),(.int .i64 v)]),(eF_ [(.int .i64 r),(.int .i64 w)])] 432 [[4,6,10,11,46]] [([.pt 32 0,.pt 64 0,.pt 240 0,.pt 256 0,(.ci (.clo 84 [(320,0)]))],81)]
def B0w:List KI:=(run nxA false 3000 ((fun (u:Value) (l:List A1) (p v:Int) (b1 b2:Nat) (N:Nat) (L0 L1 L2:List (Int×Int)) (r w k:Int)=>(⟨[.code (rfB A0j)],.normal,nxM u l p v b1 b2 N L0 L1 L2 r w k⟩:Cfg)) default default default default default default default default default default default default default) []).cfg.k
theorem nxG (u:Value) (l:List A1) (p v:Int) (b1 b2:Nat) (N:Nat) (L0 L1 L2:List (Int×Int)) (r w k:Int) {ρ:Option Nat}:let a:=Value.slice Option.none 0 0;let b:=Value.map (some b2);(A3 [])->(Sim w0 F0 K ac (nxM u l p v b1 b2 N L0 L1 L2 r w k) cX aX)->(∀cY aY,Sim w0 F0 K ac (A5 81 [4,6,10,11,12,13,50,51] [.pt 32 0,.pt 64 0,.pt 240 0,.pt 256 0,.pt 384 0,.ii k,(.ci (.val b)),.ii k] [32,64,65,66,67,240,256,320,384] [(eF_ [(.val a),(.val a),(.val a)]),(eF_ [(.slc 65 0 N 2),(.slc 66 0 N 2),(.slc 67 0 N 2)]),(eQ_ (Sq.place L0)),(eQ_ (Sq.place L1)),(eQ_ (Sq.place L2)),(eF_ [(.val (Value.map (some b1)))]),(eF_ [(.val b)]),(eF_ [(It.vsl u (.gate l)),(.int .i64 p),(.int .i64 v)]),(eF_ [(.int .i64 r),(.int .i64 w)])] 464 [[4,6,10,11,46]] [([.pt 32 0,.pt 64 0,.pt 240 0,.pt 256 0,(.ci (.clo 84 [(320,0)]))],81)]) cY aY->Wq Try.prog Q (B0w) ac Exit.normal aY cY.w ρ)->Wq Try.prog Q ([.code (rfB A0j)]) ac .normal aX cX.w ρ :=fun ho hs hK=>
 N1 (unroll:=false) (n:=3000) (path:=[]) (o:=⟨_,_,_,_,_,_,_⟩) J5 (by kernel_rfl) (by kernel_rfl) ho (by kernel_rfl) (by kernel_rfl) hs hK
def B5g (u:Value) (l:List A1) (p v:Int) (b1 b2:Nat) (N:Nat) (L0 L1 L2:List (Int×Int)) (r w k:Int):St:=A5 81 [4,6,10,11,12,13,50,51] [.pt 32 0,.pt 64 0,.pt 240 0,.pt 256 0,.pt 384 0,.ii k,(.ci (.val (Value.map (some b2)))),.ii k] [32,64,65,66,67,240,256,320,384] [(eF_ [(.val (Value.slice Option.none 0 0)),(.val (Value.slice Option.none 0 0)),(.val (Value.slice Option.none 0 0))]),(eF_ [(.slc 65 0 N 2),(.slc 66 0 N 2),(.slc 67 0 N 2)]),(eQ_ (Sq.place L0)),(eQ_ (Sq.place L1)),(eQ_ (Sq.place L2)),(eF_ [(.val (Value.map (some b1)))]),(eF_ [(.val (Value.map (some b2)))]),(eF_ [(It.vsl u (.gate l)),(.int .i64 p),(.int .i64 v)]),(eF_ [(.int .i64 r),(.int .i64 w)])] 464 [[4,6,10,11,46]] [([.pt 32 0,.pt 64 0,.pt 240 0,.pt 256 0,(.ci (.clo 84 [(320,0)]))],81)]
def X7:List KI:=(run nxA false 3000 ((fun (u:Value) (l:List A1) (p v:Int) (b1 b2:Nat) (N:Nat) (L0 L1 L2:List (Int×Int)) (r w k q:Int)=>(⟨I3 B0w,.normal,ltS (B5g u l p v b1 b2 N L0 L1 L2 r w k) 52 (.t [.a [.int .i64 q,.int .i64 0],.c (.lit true)])⟩:Cfg)) default default default default default default default default default default default default default default) []).cfg.k
theorem H0m (u:Value) (l:List A1) (p v:Int) (b1 b2:Nat) (N:Nat) (L0 L1 L2:List (Int×Int)) (r w k q:Int) {ρ:Option Nat}:let b:=Value.slice Option.none 0 0;let d:=Value.map (some b2);(A3 [(0<=(0:Int)),(0<(3:Int)),(0<=q),(q<((N:Nat):Int)),(0=0),((q).toNat<L0.length)])->(Sim w0 F0 K ac (ltS (B5g u l p v b1 b2 N L0 L1 L2 r w k) 52 (.t [.a [.int .i64 q,.int .i64 0],.c (.lit true)])) cX aX)->(∀cY aY,Sim w0 F0 K ac (A5 81 [4,6,10,12,13,67,68,69] [.pt 32 0,.pt 64 0,.pt 240 0,.pt 384 0,.ii k,(.ci (.val d)),.ii k,(.v (.a [(.int .i64 r),(.int .i64 w)]))] [32,64,65,66,67,240,256,320,384] [(eF_ [(.val b),(.val b),(.val b)]),(eF_ [(.slc 65 0 N 2),(.slc 66 0 N 2),(.slc 67 0 N 2)]),(eQ_ (Sq.place (List.set L0 (q).toNat (r,w)))),(eQ_ (Sq.place L1)),(eQ_ (Sq.place L2)),(eF_ [(.val (Value.map (some b1)))]),(eF_ [(.val d)]),(eF_ [(It.vsl u (.gate l)),(.int .i64 p),(.int .i64 v)]),(eF_ [(.int .i64 r),(.int .i64 w)])] 768 [[4,6,10,11,46]] [([.pt 32 0,.pt 64 0,.pt 240 0,.pt 256 0,(.ci (.clo 84 [(320,0)]))],81)]) cY aY->Wq Try.prog Q (X7) ac Exit.normal aY cY.w ρ)->Wq Try.prog Q (I3 B0w) ac .normal aX cX.w ρ :=fun ho hs hK=>
 N1 (unroll:=false) (n:=3000) (path:=[]) (o:=⟨_,_,_,_,_,_,_⟩) J5 (by kernel_rfl) (by kernel_rfl) ho (by kernel_rfl) (by kernel_rfl) hs hK
theorem H0n (u:Value) (l:List A1) (p v:Int) (b1 b2:Nat) (N:Nat) (L0 L1 L2:List (Int×Int)) (r w k q:Int) {ρ:Option Nat}:let b:=Value.slice Option.none 0 0;let d:=Value.map (some b2);(A3 [(0<=(1:Int)),((1:Int)<(3:Int)),(0<=q),(q<((N:Nat):Int)),(0=0),((q).toNat<L1.length)])->(Sim w0 F0 K ac (ltS (B5g u l p v b1 b2 N L0 L1 L2 r w k) 52 (.t [.a [.int .i64 q,.int .i64 1],.c (.lit true)])) cX aX)->(∀cY aY,Sim w0 F0 K ac (A5 81 [4,6,10,12,13,67,68,69] [.pt 32 0,.pt 64 0,.pt 240 0,.pt 384 0,.ii k,(.ci (.val d)),.ii k,(.v (.a [(.int .i64 r),(.int .i64 w)]))] [32,64,65,66,67,240,256,320,384] [(eF_ [(.val b),(.val b),(.val b)]),(eF_ [(.slc 65 0 N 2),(.slc 66 0 N 2),(.slc 67 0 N 2)]),(eQ_ (Sq.place L0)),(eQ_ (Sq.place (List.set L1 (q).toNat (r,w)))),(eQ_ (Sq.place L2)),(eF_ [(.val (Value.map (some b1)))]),(eF_ [(.val d)]),(eF_ [(It.vsl u (.gate l)),(.int .i64 p),(.int .i64 v)]),(eF_ [(.int .i64 r),(.int .i64 w)])] 768 [[4,6,10,11,46]] [([.pt 32 0,.pt 64 0,.pt 240 0,.pt 256 0,(.ci (.clo 84 [(320,0)]))],81)]) cY aY->Wq Try.prog Q (X7) ac Exit.normal aY cY.w ρ)->Wq Try.prog Q (I3 B0w) ac .normal aX cX.w ρ :=fun ho hs hK=>
 N1 (unroll:=false) (n:=3000) (path:=[]) (o:=⟨_,_,_,_,_,_,_⟩) J5 (by kernel_rfl) (by kernel_rfl) ho (by kernel_rfl) (by kernel_rfl) hs hK
theorem H0o (u:Value) (l:List A1) (p v:Int) (b1 b2:Nat) (N:Nat) (L0 L1 L2:List (Int×Int)) (r w k q:Int) {ρ:Option Nat}:let b:=Value.slice Option.none 0 0;let d:=Value.map (some b2);(A3 [(0<=(2:Int)),((2:Int)<(3:Int)),(0<=q),(q<((N:Nat):Int)),(0=0),((q).toNat<L2.length)])->(Sim w0 F0 K ac (ltS (B5g u l p v b1 b2 N L0 L1 L2 r w k) 52 (.t [.a [.int .i64 q,.int .i64 2],.c (.lit true)])) cX aX)->(∀cY aY,Sim w0 F0 K ac (A5 81 [4,6,10,12,13,67,68,69] [.pt 32 0,.pt 64 0,.pt 240 0,.pt 384 0,.ii k,(.ci (.val d)),.ii k,(.v (.a [(.int .i64 r),(.int .i64 w)]))] [32,64,65,66,67,240,256,320,384] [(eF_ [(.val b),(.val b),(.val b)]),(eF_ [(.slc 65 0 N 2),(.slc 66 0 N 2),(.slc 67 0 N 2)]),(eQ_ (Sq.place L0)),(eQ_ (Sq.place L1)),(eQ_ (Sq.place (List.set L2 (q).toNat (r,w)))),(eF_ [(.val (Value.map (some b1)))]),(eF_ [(.val d)]),(eF_ [(It.vsl u (.gate l)),(.int .i64 p),(.int .i64 v)]),(eF_ [(.int .i64 r),(.int .i64 w)])] 768 [[4,6,10,11,46]] [([.pt 32 0,.pt 64 0,.pt 240 0,.pt 256 0,(.ci (.clo 84 [(320,0)]))],81)]) cY aY->Wq Try.prog Q (X7) ac Exit.normal aY cY.w ρ)->Wq Try.prog Q (I3 B0w) ac .normal aX cX.w ρ :=fun ho hs hK=>
 N1 (unroll:=false) (n:=3000) (path:=[]) (o:=⟨_,_,_,_,_,_,_⟩) J5 (by kernel_rfl) (by kernel_rfl) ho (by kernel_rfl) (by kernel_rfl) hs hK
def E8l:List KI:=(run nxA false 3000 ((fun (u:Value) (l:List A1) (p v:Int) (b1 b2:Nat) (N:Nat) (L0 L1 L2:List (Int×Int)) (r w k:Int)=>(⟨I3 B0w,.normal,ltS (B5g u l p v b1 b2 N L0 L1 L2 r w k) 52 (.t [.a [.int .i64 0,.int .i64 0],.c (.lit false)])⟩:Cfg)) default default default default default default default default default default default default default) []).cfg.k
theorem nxN (u:Value) (l:List A1) (p v:Int) (b1 b2:Nat) (N:Nat) (L0 L1 L2:List (Int×Int)) (r w k:Int) {ρ:Option Nat}:let b:=Value.slice Option.none 0 0;let d:=Value.map (some b1);(A3 [])->(Sim w0 F0 K ac (ltS (B5g u l p v b1 b2 N L0 L1 L2 r w k) 52 (.t [.a [.int .i64 0,.int .i64 0],.c (.lit false)])) cX aX)->(∀cY aY,Sim w0 F0 K ac (A5 81 [4,6,10,11,12,13,64,65,66] [.pt 32 0,.pt 64 0,.pt 240 0,.pt 256 0,.pt 384 0,.ii k,(.ci (.val d)),.ii k,(.v (.a [(.int .i64 r),(.int .i64 w)]))] [32,64,65,66,67,240,256,320,384] [(eF_ [(.val b),(.val b),(.val b)]),(eF_ [(.slc 65 0 N 2),(.slc 66 0 N 2),(.slc 67 0 N 2)]),(eQ_ (Sq.place L0)),(eQ_ (Sq.place L1)),(eQ_ (Sq.place L2)),(eF_ [(.val d)]),(eF_ [(.val (Value.map (some b2)))]),(eF_ [(It.vsl u (.gate l)),(.int .i64 p),(.int .i64 v)]),(eF_ [(.int .i64 r),(.int .i64 w)])] 624 [[4,6,10,11,46]] [([.pt 32 0,.pt 64 0,.pt 240 0,.pt 256 0,(.ci (.clo 84 [(320,0)]))],81)]) cY aY->Wq Try.prog Q (E8l) ac Exit.normal aY cY.w ρ)->Wq Try.prog Q (I3 B0w) ac .normal aX cX.w ρ :=fun ho hs hK=>
 N1 (unroll:=false) (n:=3000) (path:=[]) (o:=⟨_,_,_,_,_,_,_⟩) J5 (by kernel_rfl) (by kernel_rfl) ho (by kernel_rfl) (by kernel_rfl) hs hK
def G1p (u:Value) (l:List A1) (p v:Int) (b1 b2:Nat) (N:Nat) (L0 L1 L2:List (Int×Int)) (r w k:Int):St:=A5 81 [4,6,10,11,12,13,64,65,66] [.pt 32 0,.pt 64 0,.pt 240 0,.pt 256 0,.pt 384 0,.ii k,(.ci (.val (Value.map (some b1)))),.ii k,(.v (.a [(.int .i64 r),(.int .i64 w)]))] [32,64,65,66,67,240,256,320,384] [(eF_ [(.val (Value.slice Option.none 0 0)),(.val (Value.slice Option.none 0 0)),(.val (Value.slice Option.none 0 0))]),(eF_ [(.slc 65 0 N 2),(.slc 66 0 N 2),(.slc 67 0 N 2)]),(eQ_ (Sq.place L0)),(eQ_ (Sq.place L1)),(eQ_ (Sq.place L2)),(eF_ [(.val (Value.map (some b1)))]),(eF_ [(.val (Value.map (some b2)))]),(eF_ [(It.vsl u (.gate l)),(.int .i64 p),(.int .i64 v)]),(eF_ [(.int .i64 r),(.int .i64 w)])] 624 [[4,6,10,11,46]] [([.pt 32 0,.pt 64 0,.pt 240 0,.pt 256 0,(.ci (.clo 84 [(320,0)]))],81)]
theorem nxP (u:Value) (l:List A1) (p v:Int) (b1 b2:Nat) (N:Nat) (L0 L1 L2:List (Int×Int)) (r w k:Int) {ρ:Option Nat}:let b:=Value.slice Option.none 0 0;let c:=Value.map (some b2);(A3 [])->(Sim w0 F0 K ac (G1p u l p v b1 b2 N L0 L1 L2 r w k) cX aX)->(∀cY aY,Sim w0 F0 K ac (A5 81 [4,6,10,12,13,67,68,69] [.pt 32 0,.pt 64 0,.pt 240 0,.pt 384 0,.ii k,(.ci (.val c)),.ii k,(.v (.a [(.int .i64 r),(.int .i64 w)]))] [32,64,65,66,67,240,256,320,384] [(eF_ [(.val b),(.val b),(.val b)]),(eF_ [(.slc 65 0 N 2),(.slc 66 0 N 2),(.slc 67 0 N 2)]),(eQ_ (Sq.place L0)),(eQ_ (Sq.place L1)),(eQ_ (Sq.place L2)),(eF_ [(.val (Value.map (some b1)))]),(eF_ [(.val c)]),(eF_ [(It.vsl u (.gate l)),(.int .i64 p),(.int .i64 v)]),(eF_ [(.int .i64 r),(.int .i64 w)])] 672 [[4,6,10,11,46]] [([.pt 32 0,.pt 64 0,.pt 240 0,.pt 256 0,(.ci (.clo 84 [(320,0)]))],81)]) cY aY->Wq Try.prog Q (X7) ac Exit.normal aY cY.w ρ)->Wq Try.prog Q (I3 E8l) ac .normal aX cX.w ρ :=fun ho hs hK=>
 N1 (unroll:=false) (n:=3000) (path:=[]) (o:=⟨_,_,_,_,_,_,_⟩) J5 (by kernel_rfl) (by kernel_rfl) ho (by kernel_rfl) (by kernel_rfl) hs hK
def nxU (u:Value) (l:List A1) (p v:Int) (b1 b2:Nat) (N:Nat) (L0 L1 L2:List (Int×Int)) (r w k:Int):St:=A5 81 [4,6,10,12,13,67,68,69] [.pt 32 0,.pt 64 0,.pt 240 0,.pt 384 0,.ii k,(.ci (.val (Value.map (some b2)))),.ii k,(.v (.a [(.int .i64 r),(.int .i64 w)]))] [32,64,65,66,67,240,256,320,384] [(eF_ [(.val (Value.slice Option.none 0 0)),(.val (Value.slice Option.none 0 0)),(.val (Value.slice Option.none 0 0))]),(eF_ [(.slc 65 0 N 2),(.slc 66 0 N 2),(.slc 67 0 N 2)]),(eQ_ (Sq.place L0)),(eQ_ (Sq.place L1)),(eQ_ (Sq.place L2)),(eF_ [(.val (Value.map (some b1)))]),(eF_ [(.val (Value.map (some b2)))]),(eF_ [(It.vsl u (.gate l)),(.int .i64 p),(.int .i64 v)]),(eF_ [(.int .i64 r),(.int .i64 w)])] 672 [[4,6,10,11,46]] [([.pt 32 0,.pt 64 0,.pt 240 0,.pt 256 0,(.ci (.clo 84 [(320,0)]))],81)]
def A0k:List KI:=(run nxA false 3000 ((fun (u:Value) (l:List A1) (p v:Int) (b1 b2:Nat) (N:Nat) (L0 L1 L2:List (Int×Int)) (r w k:Int)=>(⟨I3 X7,.normal,nxU u l p v b1 b2 N L0 L1 L2 r w k⟩:Cfg)) default default default default default default default default default default default default default) []).cfg.k
theorem nxV (u:Value) (l:List A1) (p v:Int) (b1 b2:Nat) (N:Nat) (L0 L1 L2:List (Int×Int)) (r w k:Int) {ρ:Option Nat}:let a:=Value.slice Option.none 0 0;(A3 [])->(Sim w0 F0 K ac (nxU u l p v b1 b2 N L0 L1 L2 r w k) cX aX)->(∀cY aY,Sim w0 F0 K ac (A5 81 [4,6,10,12,13] [.pt 32 0,.pt 64 0,.pt 240 0,.pt 384 0,.ii k] [32,64,65,66,67,240,256,320,384] [(eF_ [(.val a),(.val a),(.val a)]),(eF_ [(.slc 65 0 N 2),(.slc 66 0 N 2),(.slc 67 0 N 2)]),(eQ_ (Sq.place L0)),(eQ_ (Sq.place L1)),(eQ_ (Sq.place L2)),(eF_ [(.val (Value.map (some b1)))]),(eF_ [(.val (Value.map (some b2)))]),(eF_ [(It.vsl u (.gate l)),(.int .i64 p),(.int .i64 v)]),(eF_ [(.int .i64 r),(.int .i64 w)])] 672 [[4,6,10,11,46]] [([.pt 32 0,.pt 64 0,.pt 240 0,.pt 256 0,(.ci (.clo 84 [(320,0)]))],81)]) cY aY->Wq Try.prog Q (A0k) ac Exit.normal aY cY.w ρ)->Wq Try.prog Q (I3 X7) ac .normal aX cX.w ρ :=fun ho hs hK=>
 N1 (unroll:=false) (n:=3000) (path:=[]) (o:=⟨_,_,_,_,_,_,_⟩) J5 (by kernel_rfl) (by kernel_rfl) ho (by kernel_rfl) (by kernel_rfl) hs hK
def P3 (u:Value) (l:List A1) (p v:Int) (b1 b2:Nat) (N:Nat) (L0 L1 L2:List (Int×Int)) (r w k:Int):St:=A5 81 [4,6,10,12,13] [.pt 32 0,.pt 64 0,.pt 240 0,.pt 384 0,.ii k] [32,64,65,66,67,240,256,320,384] [(eF_ [(.val (Value.slice Option.none 0 0)),(.val (Value.slice Option.none 0 0)),(.val (Value.slice Option.none 0 0))]),(eF_ [(.slc 65 0 N 2),(.slc 66 0 N 2),(.slc 67 0 N 2)]),(eQ_ (Sq.place L0)),(eQ_ (Sq.place L1)),(eQ_ (Sq.place L2)),(eF_ [(.val (Value.map (some b1)))]),(eF_ [(.val (Value.map (some b2)))]),(eF_ [(It.vsl u (.gate l)),(.int .i64 p),(.int .i64 v)]),(eF_ [(.int .i64 r),(.int .i64 w)])] 672 [[4,6,10,11,46]] [([.pt 32 0,.pt 64 0,.pt 240 0,.pt 256 0,(.ci (.clo 84 [(320,0)]))],81)]
end
end

section
section
variable {w0:World} {F0:Nat->Prop} {K:Kp} {ac:List Act} {Q:Exit->Act->World->Prop} {cX:Ctx} {aX:Act}

def F7:List (List Nat×List Nat):=[([6,7],[0,1,2,3,4,5,9,10]),([4,6,7],[0,1,2,3,5,9,10]),([4,5,6,7],[0,1,2,3,9,10]),([0,6,7],[1,2,3,4,5,9,10]),([0,4,6,7],[1,2,3,5,9,10]),([0,4,5,6,7],[1,2,3,9,10]),([0,1,6,7],[2,3,4,5,9,10]),([0,1,4,6,7],[2,3,5,9,10]),([0,1,4,5,6,7],[2,3,9,10]),([0,1,2,6,7],[3,4,5,9,10]),([0,1,2,4,6,7],[3,5,9,10]),([0,1,2,4,5,6,7],[3,9,10]),([0,1,2,3,6,7],[4,5,9,10]),([0,1,2,3,4,6,7],[5,9,10]),([0,1,2,3,4,5,6,7],[9,10])]
def opN:Array Oper:=F8y A0k
def nkC (u:Value) (l:List A1) (p v:Int) (b1 b2:Nat) (N:Nat) (L0 L1 L2:List (Int×Int)) (r w k q q' : Int) (D R:List Nat):Cfg:=⟨I3 (.ops (opN.extract 0 9) 8 [] :: .any opN 8 (V6 opN R)::A2c A0k),.normal,ltS (J0 nxA opN D (P3 u l p v b1 b2 N L0 L1 L2 r w k)) 78 (.v (.a [.int .i64 q,.int .i64 q']))⟩
def F5e (u:Value) (l:List A1) (p v:Int) (b1 b2:Nat) (N:Nat) (L0 L1 L2:List (Int×Int)) (r k q q':Int):St:=A5 81 [4] [.pt 32 0] [32,64,65,66,67,240,256,320] [(eF_ [(.val (Value.slice Option.none 0 0)),(.val (Value.slice Option.none 0 0)),(.val (Value.slice Option.none 0 0))]),(eF_ [(.slc 65 0 N 2),(.slc 66 0 N 2),(.slc 67 0 N 2)]),(eQ_ (Sq.place (List.set L0 (r).toNat (q,q')))),(eQ_ (Sq.place L1)),(eQ_ (Sq.place L2)),(eF_ [(.val (Value.map (some b1)))]),(eF_ [(.val (Value.map (some b2)))]),(eF_ [(It.vsl u (.gate l)),(.int .i64 p),(.int .i64 v)])] 848 [[4,6,10,11,46]] [([.pt 32 0,.pt 64 0,.pt 240 0,.pt 256 0,(.ci (.clo 84 [(320,0)]))],81)]
def F5f (u:Value) (l:List A1) (p v:Int) (b1 b2:Nat) (N:Nat) (L0 L1 L2:List (Int×Int)) (r k q q':Int):St:=A5 81 [4] [.pt 32 0] [32,64,65,66,67,240,256,320] [(eF_ [(.val (Value.slice Option.none 0 0)),(.val (Value.slice Option.none 0 0)),(.val (Value.slice Option.none 0 0))]),(eF_ [(.slc 65 0 N 2),(.slc 66 0 N 2),(.slc 67 0 N 2)]),(eQ_ (Sq.place L0)),(eQ_ (Sq.place (List.set L1 (r).toNat (q,q')))),(eQ_ (Sq.place L2)),(eF_ [(.val (Value.map (some b1)))]),(eF_ [(.val (Value.map (some b2)))]),(eF_ [(It.vsl u (.gate l)),(.int .i64 p),(.int .i64 v)])] 848 [[4,6,10,11,46]] [([.pt 32 0,.pt 64 0,.pt 240 0,.pt 256 0,(.ci (.clo 84 [(320,0)]))],81)]
def F5g (u:Value) (l:List A1) (p v:Int) (b1 b2:Nat) (N:Nat) (L0 L1 L2:List (Int×Int)) (r k q q':Int):St:=A5 81 [4] [.pt 32 0] [32,64,65,66,67,240,256,320] [(eF_ [(.val (Value.slice Option.none 0 0)),(.val (Value.slice Option.none 0 0)),(.val (Value.slice Option.none 0 0))]),(eF_ [(.slc 65 0 N 2),(.slc 66 0 N 2),(.slc 67 0 N 2)]),(eQ_ (Sq.place L0)),(eQ_ (Sq.place L1)),(eQ_ (Sq.place (List.set L2 (r).toNat (q,q')))),(eF_ [(.val (Value.map (some b1)))]),(eF_ [(.val (Value.map (some b2)))]),(eF_ [(It.vsl u (.gate l)),(.int .i64 p),(.int .i64 v)])] 848 [[4,6,10,11,46]] [([.pt 32 0,.pt 64 0,.pt 240 0,.pt 256 0,(.ci (.clo 84 [(320,0)]))],81)]
end
end

section

/-- What binds the operations of such a region. -/
def F1y:List Nat:=[0,1,3,7,0,16,0,0,192,511,1023]
theorem G8a:∀b0 b1 b2 b3 b4 b5:Bool,(b1=true->b0=true)->(b2=true->b1=true)->(b3=true->b2=true)->(b5=true->b4=true)->∃r∈F7,∀i:Fin 11,(([b0,b1,b2,b3,b4,b5,true,true,false,false,false].getD i.val false=true)↔i.val∈r.1):=by decide +kernel
theorem D5o {P:Program} {w0:World} {F0:Nat->Prop} {K:Kp} {aq:List Act} {env:Env} {ops:Array Oper} {Q:Exit->Act->World->Prop} {x:Ctx} {a:Act} {ρ:Option Nat} (hE:A6 P env) {id:Nat} {oc:Oper} {σ:St} {k:List KI} (hs:Sim w0 F0 K aq σ x a)
  (hn:ops.size=11) (hA:X1 ops.toList []=F1y) (hok:A2f env ops (X1 ops.toList []) 8 ops.toList 0=true) (hcc:ops[8]? = some oc) (hg:oc.guard=none) {ob2:List Prop} (hob:A3 ob2)
  (hrun:(F7.map fun r=>(G9 env [] ops.toList (X1 ops.toList []) [] [] σ.nx (V6 ops r.1) σ).map (·.1))=F7.map fun r=>some (if r.1.contains 2 then ob2 else []))
  (h:∀r∈F7,∀y a',Sim w0 F0 K aq (J0 env ops r.1 σ) y a' -> Wq P Q (.ops (ops.extract 0 9) 8 [] :: .any ops 8 (V6 ops r.2)::k) aq .normal a' y.w ρ) :
  Wq P Q (.code (.region id ops true)::k) aq .normal a x.w ρ:=by
 refine Wq.split (runs:=F7.map fun r=>(V6 ops r.1,V6 ops r.2,J0 env ops r.1 σ)) hE hs hok hcc hg ?_ ?_ ?_ ?_ ?_
 ·intro r hr
  obtain ⟨q,hq,rfl⟩:=List.mem_map.1 hr;refine D5p ?_ ?_ ?_ ?_
  ·exact (by decide +kernel:∀q∈F7,q.1.Pairwise fun a b=>a<b) q hq
  ·exact (by decide +kernel:∀q∈F7,q.2.Pairwise fun a b=>a<b) q hq
  ·exact (by decide +kernel:∀q∈F7,8 ∉ q.1∧8 ∉ q.2) q hq
  ·rw[hn]
   exact (by decide +kernel:∀q∈F7,∀i,i<11->i≠8->(i∈q.2↔i ∉ q.1)) q hq
 ·intro b h1 h2 h3
  rw[hA,hn] at h1;rw[hA] at h3;rw[hn];have b6:=h3 6 (by decide)
  have b7:=h3 7 (by decide)
  have nb (i:Nat) (hi:i<11) (hj:(F1y.getD i 0).testBit 8=true):b i=false:=by
   cases hh:b i with
   | false=>rfl
   | true=>have:=h1 i hi hh 8 hj;rw[h2] at this;cases this
  have b9:=nb 9 (by decide) (by decide)
  have b10:=nb 10 (by decide) (by decide)
  obtain ⟨r,hr,hb⟩:=G8a (b 0) (b 1) (b 2) (b 3) (b 4) (b 5) (fun h=>h1 1 (by decide) h 0 (by decide)) (fun h=>h1 2 (by decide) h 1 (by decide)) (fun h=>h1 3 (by decide) h 2 (by decide)) (fun h=>h1 5 (by decide) h 4 (by decide))
  refine ⟨_,List.mem_map.2 ⟨r,hr,rfl⟩,fun i hi=>?_⟩
  have e:=hb ⟨i,hi⟩;rw[C6k (by omega),<-e]
  match i,hi with
  | 0,_=>exact Iff.rfl
  | 1,_=>exact Iff.rfl
  | 2,_=>exact Iff.rfl
  | 3,_=>exact Iff.rfl
  | 4,_=>exact Iff.rfl
  | 5,_=>exact Iff.rfl
  | 6,_=>rw[b6];exact Iff.rfl
  | 7,_=>rw[b7];exact Iff.rfl
  | 8,_=>rw[h2];exact Iff.rfl
  | 9,_=>rw[b9];exact Iff.rfl
  | 10,_=>rw[b10];exact Iff.rfl
 ·rw[hA]
  refine ⟨_,List.mem_map.2 ⟨([0,1,2,3,4,5,6,7],[9,10]),by decide +kernel,rfl⟩,fun i o hi hne hb=>?_⟩
  refine Z3.2 ⟨?_,hi⟩
  have hlt:i<11:=by have:=(Array.getElem?_eq_some_iff.1 hi).1;omega
  exact (by decide +kernel:∀i,i<11->i≠8->(F1y.getD i 0).testBit 8=false->i∈[0,1,2,3,4,5,6,7]) i hlt hne hb
 ·intro r hr
  obtain ⟨q,hq,rfl⟩:=List.mem_map.1 hr;have key:∀(l:List (List Nat×List Nat)) (f g:List Nat×List Nat->Option (List Prop)),l.map f=l.map g->∀q∈l,f q=g q:=by
   intro l f g h q hq;induction l with
   | nil=>cases hq
   | cons z l ih=>
    simp only[List.map_cons,List.cons.injEq] at h;rcases List.mem_cons.1 hq with rfl | hq
    ·exact h.1
    ·exact ih h.2 hq
  have h1:=key _ _ _ hrun q hq;have h2:∃ob,G9 env [] ops.toList (X1 ops.toList []) [] [] σ.nx (V6 ops q.1) σ=some (ob,J0 env ops q.1 σ)∧ob=if q.1.contains 2 then ob2 else []:=by
   unfold J0
   cases hh:G9 env [] ops.toList (X1 ops.toList []) [] [] σ.nx (V6 ops q.1) σ with
   | none=>rw[hh] at h1;cases h1
   | some r=>
    rw[hh] at h1;exact ⟨r.1,rfl,by simpa using h1⟩
  obtain ⟨ob,h3,h4⟩:=h2;refine ⟨ob,h3,?_⟩
  rw[h4];split
  ·exact hob
  ·exact trivial
 ·intro r hr y a' hs'
  obtain ⟨q,hq,rfl⟩:=List.mem_map.1 hr;exact h q hq y a' hs'
theorem nkk:A0k = .code (.region 23 opN true)::A2c A0k:=by kernel_rfl
theorem C5y:opN.size=11:=by kernel_rfl
theorem E8c:X1 opN.toList []=F1y:=by kernel_rfl
theorem G1b:A2f nxA opN (X1 opN.toList []) 8 opN.toList 0=true:=by kernel_rfl
theorem nkg:(opN[8]?.bind (·.guard)).isNone=true:=by kernel_rfl
theorem E8d:∃oc,opN[8]? = some oc∧oc.guard=none:=by
 have h:=nkg
 cases hh:opN[8]? with
 | none=>have:=C5y;rw[Array.getElem?_eq_none_iff] at hh;omega
 | some oc=>
  rw[hh] at h;exact ⟨oc,rfl,by simpa using h⟩
end

section

theorem Q3 {α β:Type} {f g:α->β}:∀{l:List α},l.map f=l.map g->∀{q:α},q∈l->f q=g q
 | [],_,_,hq=>by cases hq
 | z::l,h,q,hq=>by
  simp only[List.map_cons,List.cons.injEq] at h;rcases List.mem_cons.1 hq with rfl | hq
  ·exact h.1
  ·exact Q3 h.2 hq
def B9v (z:List Nat×List Nat) (j:Int):List Prop:=if z.1.contains 2 then [] else [(0:Int)<=j,j<3]
theorem B9w (z:List Nat×List Nat) {j:Int} (h0:0<=j) (h1:j<3) {o:List Prop} (ho:A3 o):A3 (B9v z j++o):=by
 unfold B9v;split
 ·exact ho
 ·exact ⟨h0,h1,ho⟩
theorem G1c (D R:List Nat) (σ:St):B9o (.ops (opN.extract 0 9) 8 [] :: .any opN 8 (V6 opN R)::A2c A0k) (J0 nxA opN D σ).t=B9o (.ops (opN.extract 0 9) 8 [] :: .any opN 8 []::A2c A0k) (fun _=>.top):=by kernel_rfl
theorem E8e:B9o (.ops (opN.extract 0 9) 8 [] :: .any opN 8 []::A2c A0k) (fun _=>.top)=some (some 78,.lookup 127 (.tmp 76) (.tmp 77) false,98):=by kernel_rfl
def ckK (c:Cfg):List KI:=(run nxA false 3000 c []).cfg.k
theorem ckT {w0:World} {F0:Nat->Prop} {K:Kp} {ac:List Act} {Q:Exit->Act->World->Prop} {cX:Ctx} {aX:Act} {ρ:Option Nat} (c:Cfg) {tl ml:List Nat} {ftl:List (List Nat)} (o:At) (X:St) (k0:List KI) (σ0:St) (k1:List KI) (ek:c.k=k0) (ex:c.x = .normal) (es:c.σ=σ0) (h:A1q nxA false 3000 c [] tl ml ftl=some o) (hk:ckK c=k1) (ho:A3 o.obl) (hs:Sim w0 F0 K ac σ0 cX aX) (hf:nfr k0=0) (hf1:nfr k1=0) (hX:A5 o.nt tl o.svs ml o.ens o.nx ftl o.fsv=X) (hx:o.x = .normal)
  (hK:∀y a',Sim w0 F0 K ac X y a' -> Wq Try.prog Q k1 ac .normal a' y.w ρ):Wq Try.prog Q k0 ac .normal aX cX.w ρ:=by
 subst ek es hX;rw[<-ex];rw[<-hx] at hK;exact ⟨D1f J5 h hk ho hs hf hf1 fun y a' hs' => (hK y a' hs').wp⟩
theorem G1d (u:Value) (l:List A1) (p v:Int) (b1 b2:Nat) (N:Nat) (L0 L1 L2:List (Int×Int)) (r k:Int):(F7.map fun q=>(G9 nxA [] opN.toList (X1 opN.toList []) [] [] (P3 u l p v b1 b2 N L0 L1 L2 r 0 k).nx (V6 opN q.1) (P3 u l p v b1 b2 N L0 L1 L2 r 0 k)).map (·.1))=F7.map fun q=>some (if q.1.contains 2 then [(0:Int)<=0,(0:Int)<3] else []):=by kernel_rfl
theorem G6j (u:Value) (l:List A1) (p v:Int) (b1 b2:Nat) (N:Nat) (L0 L1 L2:List (Int×Int)) (r k:Int):(F7.map fun z=>((J0 nxA opN z.1 (P3 u l p v b1 b2 N L0 L1 L2 r 0 k)).t 76,(J0 nxA opN z.1 (P3 u l p v b1 b2 N L0 L1 L2 r 0 k)).t 77,(J0 nxA opN z.1 (P3 u l p v b1 b2 N L0 L1 L2 r 0 k)).nt))=F7.map fun _=>(.v (.c (.val (.map (some b1)))),.v (.c (.int .i64 k)),81):=by kernel_rfl
theorem G5r (u:Value) (l:List A1) (p v:Int) (b1 b2:Nat) (N:Nat) (L0 L1 L2:List (Int×Int)) (r k q q' : Int):(F7.map fun z=>A1q nxA false 3000 (nkC u l p v b1 b2 N L0 L1 L2 r 0 k q q' z.1 z.2) [] [4] [32,64,65,66,67,240,256,320] [[4,6,10,11,46]])=F7.map fun z=>some ⟨B9v z 0++[((0:Int)<=r),(r<((N:Nat):Int)),(0=0),((r).toNat<L0.length)],Exit.normal,[(SV.v (V1.c (It.ptr 32 0)))],[(Option.some (En.fl [(It.val (Value.slice Option.none 0 0)),(It.val (Value.slice Option.none 0 0)),(It.val (Value.slice Option.none 0 0))])),(Option.some (En.fl [(It.slc 65 0 N 2),(It.slc 66 0 N 2),(It.slc 67 0 N 2)])),(Option.some (En.sq (Sq.place (List.set L0 (r).toNat (q,q'))))),(Option.some (En.sq (Sq.place L1))),(Option.some (En.sq (Sq.place L2))),(Option.some (En.fl [(It.val (Value.map (Option.some b1)))])),(Option.some (En.fl [(It.val (Value.map (Option.some b2)))])),(Option.some (En.fl [(It.vsl u (.gate l)),(It.int IntKind.i64 p),(It.int IntKind.i64 v)]))],81,848,[([(SV.v (V1.c (It.ptr 32 0))),(SV.v (V1.c (It.ptr 64 0))),(SV.v (V1.c (It.ptr 240 0))),(SV.v (V1.c (It.ptr 256 0))),(SV.v (V1.c (It.clo 84 [(320,0)])))],81)]⟩:=by kernel_rfl
theorem G5x (u:Value) (l:List A1) (p v:Int) (b1 b2:Nat) (N:Nat) (L0 L1 L2:List (Int×Int)) (r k q q' : Int):(F7.map fun z=>ckK (nkC u l p v b1 b2 N L0 L1 L2 r 0 k q q' z.1 z.2))=F7.map fun _=>[]:=by kernel_rfl
theorem G6d (u:Value) (l:List A1) (p v:Int) (b1 b2:Nat) (N:Nat) (L0 L1 L2:List (Int×Int)) (r k q q' : Int):(F7.map fun z=>nfr (nkC u l p v b1 b2 N L0 L1 L2 r 0 k q q' z.1 z.2).k)=F7.map fun _=>0:=by kernel_rfl
theorem G5u (u:Value) (l:List A1) (p v:Int) (b1 b2:Nat) (N:Nat) (L0 L1 L2:List (Int×Int)) (r k q q' : Int) {z:List Nat×List Nat} (hz:z∈F7):A1q nxA false 3000 (nkC u l p v b1 b2 N L0 L1 L2 r 0 k q q' z.1 z.2) [] [4] [32,64,65,66,67,240,256,320] [[4,6,10,11,46]]=some ⟨B9v z 0++[((0:Int)<=r),(r<((N:Nat):Int)),(0=0),((r).toNat<(List.length L0))],Exit.normal,[(SV.v (V1.c (It.ptr 32 0)))],[(Option.some (En.fl [(It.val (Value.slice Option.none 0 0)),(It.val (Value.slice Option.none 0 0)),(It.val (Value.slice Option.none 0 0))])),(Option.some (En.fl [(It.slc 65 0 N 2),(It.slc 66 0 N 2),(It.slc 67 0 N 2)])),(Option.some (En.sq (Sq.place (List.set L0 (r).toNat (q,q'))))),(Option.some (En.sq (Sq.place L1))),(Option.some (En.sq (Sq.place L2))),(Option.some (En.fl [(It.val (Value.map (Option.some b1)))])),(Option.some (En.fl [(It.val (Value.map (Option.some b2)))])),(Option.some (En.fl [(It.vsl u (Sq.gate l)),(It.int IntKind.i64 p),(It.int IntKind.i64 v)]))],81,848,[([(SV.v (V1.c (It.ptr 32 0))),(SV.v (V1.c (It.ptr 64 0))),(SV.v (V1.c (It.ptr 240 0))),(SV.v (V1.c (It.ptr 256 0))),(SV.v (V1.c (It.clo 84 [(320,0)])))],81)]⟩:=by
 have h:=G5r u l p v b1 b2 N L0 L1 L2 r k q q';have e:=Q3 h hz;exact e
theorem G6a (u:Value) (l:List A1) (p v:Int) (b1 b2:Nat) (N:Nat) (L0 L1 L2:List (Int×Int)) (r k q q' : Int) {z:List Nat×List Nat} (hz:z∈F7):ckK (nkC u l p v b1 b2 N L0 L1 L2 r 0 k q q' z.1 z.2)=[]:=by
 have h:=G5x u l p v b1 b2 N L0 L1 L2 r k q q';have e:=Q3 h hz;exact e
theorem G6g (u:Value) (l:List A1) (p v:Int) (b1 b2:Nat) (N:Nat) (L0 L1 L2:List (Int×Int)) (r k q q' : Int) {z:List Nat×List Nat} (hz:z∈F7):nfr (nkC u l p v b1 b2 N L0 L1 L2 r 0 k q q' z.1 z.2).k=0:=by
 have h:=G6d u l p v b1 b2 N L0 L1 L2 r k q q';have e:=Q3 h hz;exact e
theorem G1e (u:Value) (l:List A1) (p v:Int) (b1 b2:Nat) (N:Nat) (L0 L1 L2:List (Int×Int)) (r k:Int):(F7.map fun q=>(G9 nxA [] opN.toList (X1 opN.toList []) [] [] (P3 u l p v b1 b2 N L0 L1 L2 r 1 k).nx (V6 opN q.1) (P3 u l p v b1 b2 N L0 L1 L2 r 1 k)).map (·.1))=F7.map fun q=>some (if q.1.contains 2 then [(0:Int)<=1,(1:Int)<3] else []):=by kernel_rfl
theorem G6k (u:Value) (l:List A1) (p v:Int) (b1 b2:Nat) (N:Nat) (L0 L1 L2:List (Int×Int)) (r k:Int):(F7.map fun z=>((J0 nxA opN z.1 (P3 u l p v b1 b2 N L0 L1 L2 r 1 k)).t 76,(J0 nxA opN z.1 (P3 u l p v b1 b2 N L0 L1 L2 r 1 k)).t 77,(J0 nxA opN z.1 (P3 u l p v b1 b2 N L0 L1 L2 r 1 k)).nt))=F7.map fun _=>(.v (.c (.val (.map (some b1)))),.v (.c (.int .i64 k)),81):=by kernel_rfl
theorem G5s (u:Value) (l:List A1) (p v:Int) (b1 b2:Nat) (N:Nat) (L0 L1 L2:List (Int×Int)) (r k q q' : Int):(F7.map fun z=>A1q nxA false 3000 (nkC u l p v b1 b2 N L0 L1 L2 r 1 k q q' z.1 z.2) [] [4] [32,64,65,66,67,240,256,320] [[4,6,10,11,46]])=F7.map fun z=>some ⟨B9v z 1++[((0:Int)<=r),(r<((N:Nat):Int)),(0=0),((r).toNat<L1.length)],Exit.normal,[(SV.v (V1.c (It.ptr 32 0)))],[(Option.some (En.fl [(It.val (Value.slice Option.none 0 0)),(It.val (Value.slice Option.none 0 0)),(It.val (Value.slice Option.none 0 0))])),(Option.some (En.fl [(It.slc 65 0 N 2),(It.slc 66 0 N 2),(It.slc 67 0 N 2)])),(Option.some (En.sq (Sq.place L0))),(Option.some (En.sq (Sq.place (List.set L1 (r).toNat (q,q'))))),(Option.some (En.sq (Sq.place L2))),(Option.some (En.fl [(It.val (Value.map (Option.some b1)))])),(Option.some (En.fl [(It.val (Value.map (Option.some b2)))])),(Option.some (En.fl [(It.vsl u (.gate l)),(It.int IntKind.i64 p),(It.int IntKind.i64 v)]))],81,848,[([(SV.v (V1.c (It.ptr 32 0))),(SV.v (V1.c (It.ptr 64 0))),(SV.v (V1.c (It.ptr 240 0))),(SV.v (V1.c (It.ptr 256 0))),(SV.v (V1.c (It.clo 84 [(320,0)])))],81)]⟩:=by kernel_rfl
theorem G5y (u:Value) (l:List A1) (p v:Int) (b1 b2:Nat) (N:Nat) (L0 L1 L2:List (Int×Int)) (r k q q' : Int):(F7.map fun z=>ckK (nkC u l p v b1 b2 N L0 L1 L2 r 1 k q q' z.1 z.2))=F7.map fun _=>[]:=by kernel_rfl
theorem G6e (u:Value) (l:List A1) (p v:Int) (b1 b2:Nat) (N:Nat) (L0 L1 L2:List (Int×Int)) (r k q q' : Int):(F7.map fun z=>nfr (nkC u l p v b1 b2 N L0 L1 L2 r 1 k q q' z.1 z.2).k)=F7.map fun _=>0:=by kernel_rfl
theorem G5v (u:Value) (l:List A1) (p v:Int) (b1 b2:Nat) (N:Nat) (L0 L1 L2:List (Int×Int)) (r k q q' : Int) {z:List Nat×List Nat} (hz:z∈F7):A1q nxA false 3000 (nkC u l p v b1 b2 N L0 L1 L2 r 1 k q q' z.1 z.2) [] [4] [32,64,65,66,67,240,256,320] [[4,6,10,11,46]]=some ⟨B9v z 1++[((0:Int)<=r),(r<((N:Nat):Int)),(0=0),((r).toNat<(List.length L1))],Exit.normal,[(SV.v (V1.c (It.ptr 32 0)))],[(Option.some (En.fl [(It.val (Value.slice Option.none 0 0)),(It.val (Value.slice Option.none 0 0)),(It.val (Value.slice Option.none 0 0))])),(Option.some (En.fl [(It.slc 65 0 N 2),(It.slc 66 0 N 2),(It.slc 67 0 N 2)])),(Option.some (En.sq (Sq.place L0))),(Option.some (En.sq (Sq.place (List.set L1 (r).toNat (q,q'))))),(Option.some (En.sq (Sq.place L2))),(Option.some (En.fl [(It.val (Value.map (Option.some b1)))])),(Option.some (En.fl [(It.val (Value.map (Option.some b2)))])),(Option.some (En.fl [(It.vsl u (Sq.gate l)),(It.int IntKind.i64 p),(It.int IntKind.i64 v)]))],81,848,[([(SV.v (V1.c (It.ptr 32 0))),(SV.v (V1.c (It.ptr 64 0))),(SV.v (V1.c (It.ptr 240 0))),(SV.v (V1.c (It.ptr 256 0))),(SV.v (V1.c (It.clo 84 [(320,0)])))],81)]⟩:=by
 have h:=G5s u l p v b1 b2 N L0 L1 L2 r k q q';have e:=Q3 h hz;exact e
theorem G6b (u:Value) (l:List A1) (p v:Int) (b1 b2:Nat) (N:Nat) (L0 L1 L2:List (Int×Int)) (r k q q' : Int) {z:List Nat×List Nat} (hz:z∈F7):ckK (nkC u l p v b1 b2 N L0 L1 L2 r 1 k q q' z.1 z.2)=[]:=by
 have h:=G5y u l p v b1 b2 N L0 L1 L2 r k q q';have e:=Q3 h hz;exact e
theorem G6h (u:Value) (l:List A1) (p v:Int) (b1 b2:Nat) (N:Nat) (L0 L1 L2:List (Int×Int)) (r k q q' : Int) {z:List Nat×List Nat} (hz:z∈F7):nfr (nkC u l p v b1 b2 N L0 L1 L2 r 1 k q q' z.1 z.2).k=0:=by
 have h:=G6e u l p v b1 b2 N L0 L1 L2 r k q q';have e:=Q3 h hz;exact e
theorem G1f (u:Value) (l:List A1) (p v:Int) (b1 b2:Nat) (N:Nat) (L0 L1 L2:List (Int×Int)) (r k:Int):(F7.map fun q=>(G9 nxA [] opN.toList (X1 opN.toList []) [] [] (P3 u l p v b1 b2 N L0 L1 L2 r 2 k).nx (V6 opN q.1) (P3 u l p v b1 b2 N L0 L1 L2 r 2 k)).map (·.1))=F7.map fun q=>some (if q.1.contains 2 then [(0:Int)<=2,(2:Int)<3] else []):=by kernel_rfl
theorem G6l (u:Value) (l:List A1) (p v:Int) (b1 b2:Nat) (N:Nat) (L0 L1 L2:List (Int×Int)) (r k:Int):(F7.map fun z=>((J0 nxA opN z.1 (P3 u l p v b1 b2 N L0 L1 L2 r 2 k)).t 76,(J0 nxA opN z.1 (P3 u l p v b1 b2 N L0 L1 L2 r 2 k)).t 77,(J0 nxA opN z.1 (P3 u l p v b1 b2 N L0 L1 L2 r 2 k)).nt))=F7.map fun _=>(.v (.c (.val (.map (some b1)))),.v (.c (.int .i64 k)),81):=by kernel_rfl
theorem G5t (u:Value) (l:List A1) (p v:Int) (b1 b2:Nat) (N:Nat) (L0 L1 L2:List (Int×Int)) (r k q q' : Int):(F7.map fun z=>A1q nxA false 3000 (nkC u l p v b1 b2 N L0 L1 L2 r 2 k q q' z.1 z.2) [] [4] [32,64,65,66,67,240,256,320] [[4,6,10,11,46]])=F7.map fun z=>some ⟨B9v z 2++[((0:Int)<=r),(r<((N:Nat):Int)),(0=0),((r).toNat<L2.length)],Exit.normal,[(SV.v (V1.c (It.ptr 32 0)))],[(Option.some (En.fl [(It.val (Value.slice Option.none 0 0)),(It.val (Value.slice Option.none 0 0)),(It.val (Value.slice Option.none 0 0))])),(Option.some (En.fl [(It.slc 65 0 N 2),(It.slc 66 0 N 2),(It.slc 67 0 N 2)])),(Option.some (En.sq (Sq.place L0))),(Option.some (En.sq (Sq.place L1))),(Option.some (En.sq (Sq.place (List.set L2 (r).toNat (q,q'))))),(Option.some (En.fl [(It.val (Value.map (Option.some b1)))])),(Option.some (En.fl [(It.val (Value.map (Option.some b2)))])),(Option.some (En.fl [(It.vsl u (.gate l)),(It.int IntKind.i64 p),(It.int IntKind.i64 v)]))],81,848,[([(SV.v (V1.c (It.ptr 32 0))),(SV.v (V1.c (It.ptr 64 0))),(SV.v (V1.c (It.ptr 240 0))),(SV.v (V1.c (It.ptr 256 0))),(SV.v (V1.c (It.clo 84 [(320,0)])))],81)]⟩:=by kernel_rfl
theorem G5z (u:Value) (l:List A1) (p v:Int) (b1 b2:Nat) (N:Nat) (L0 L1 L2:List (Int×Int)) (r k q q' : Int):(F7.map fun z=>ckK (nkC u l p v b1 b2 N L0 L1 L2 r 2 k q q' z.1 z.2))=F7.map fun _=>[]:=by kernel_rfl
theorem G6f (u:Value) (l:List A1) (p v:Int) (b1 b2:Nat) (N:Nat) (L0 L1 L2:List (Int×Int)) (r k q q' : Int):(F7.map fun z=>nfr (nkC u l p v b1 b2 N L0 L1 L2 r 2 k q q' z.1 z.2).k)=F7.map fun _=>0:=by kernel_rfl
theorem G5w (u:Value) (l:List A1) (p v:Int) (b1 b2:Nat) (N:Nat) (L0 L1 L2:List (Int×Int)) (r k q q' : Int) {z:List Nat×List Nat} (hz:z∈F7):A1q nxA false 3000 (nkC u l p v b1 b2 N L0 L1 L2 r 2 k q q' z.1 z.2) [] [4] [32,64,65,66,67,240,256,320] [[4,6,10,11,46]]=some ⟨B9v z 2++[((0:Int)<=r),(r<((N:Nat):Int)),(0=0),((r).toNat<(List.length L2))],Exit.normal,[(SV.v (V1.c (It.ptr 32 0)))],[(Option.some (En.fl [(It.val (Value.slice Option.none 0 0)),(It.val (Value.slice Option.none 0 0)),(It.val (Value.slice Option.none 0 0))])),(Option.some (En.fl [(It.slc 65 0 N 2),(It.slc 66 0 N 2),(It.slc 67 0 N 2)])),(Option.some (En.sq (Sq.place L0))),(Option.some (En.sq (Sq.place L1))),(Option.some (En.sq (Sq.place (List.set L2 (r).toNat (q,q'))))),(Option.some (En.fl [(It.val (Value.map (Option.some b1)))])),(Option.some (En.fl [(It.val (Value.map (Option.some b2)))])),(Option.some (En.fl [(It.vsl u (Sq.gate l)),(It.int IntKind.i64 p),(It.int IntKind.i64 v)]))],81,848,[([(SV.v (V1.c (It.ptr 32 0))),(SV.v (V1.c (It.ptr 64 0))),(SV.v (V1.c (It.ptr 240 0))),(SV.v (V1.c (It.ptr 256 0))),(SV.v (V1.c (It.clo 84 [(320,0)])))],81)]⟩:=by
 have h:=G5t u l p v b1 b2 N L0 L1 L2 r k q q';have e:=Q3 h hz;exact e
theorem G6c (u:Value) (l:List A1) (p v:Int) (b1 b2:Nat) (N:Nat) (L0 L1 L2:List (Int×Int)) (r k q q' : Int) {z:List Nat×List Nat} (hz:z∈F7):ckK (nkC u l p v b1 b2 N L0 L1 L2 r 2 k q q' z.1 z.2)=[]:=by
 have h:=G5z u l p v b1 b2 N L0 L1 L2 r k q q';have e:=Q3 h hz;exact e
theorem G6i (u:Value) (l:List A1) (p v:Int) (b1 b2:Nat) (N:Nat) (L0 L1 L2:List (Int×Int)) (r k q q' : Int) {z:List Nat×List Nat} (hz:z∈F7):nfr (nkC u l p v b1 b2 N L0 L1 L2 r 2 k q q' z.1 z.2).k=0:=by
 have h:=G6f u l p v b1 b2 N L0 L1 L2 r k q q';have e:=Q3 h hz;exact e
end

section

theorem G9x {w0:World} {F0:Nat->Prop} {K:Kp} {ac:List Act} {Q:Exit->Act->World->Prop} {cX:Ctx} {aX:Act} {ρ:Option Nat} (u:Value) (l:List A1) (p v:Int) (b1 b2:Nat) (N:Nat) (L0 L1 L2:List (Int×Int)) (r k q q' : Int) {z:List Nat×List Nat} (hz:z∈F7) (ho:A3 [((0:Int)<=r),(r<((N:Nat):Int)),(0=0),((r).toNat<(List.length L0))]) (hs:Sim w0 F0 K ac (nkC u l p v b1 b2 N L0 L1 L2 r 0 k q q' z.1 z.2).σ cX aX)
  (hK:∀cY aY,Sim w0 F0 K ac (F5e u l p v b1 b2 N L0 L1 L2 r k q q') cY aY->Wq Try.prog Q [] ac .normal aY cY.w ρ):Wq Try.prog Q (nkC u l p v b1 b2 N L0 L1 L2 r 0 k q q' z.1 z.2).k ac .normal aX cX.w ρ :=
 ckT (nkC u l p v b1 b2 N L0 L1 L2 r 0 k q q' z.1 z.2) ⟨B9v z 0++[((0:Int)<=r),(r<((N:Nat):Int)),(0=0),((r).toNat<(List.length L0))],Exit.normal,[(SV.v (V1.c (It.ptr 32 0)))],[(Option.some (En.fl [(It.val (Value.slice Option.none 0 0)),(It.val (Value.slice Option.none 0 0)),(It.val (Value.slice Option.none 0 0))])),(Option.some (En.fl [(It.slc 65 0 N 2),(It.slc 66 0 N 2),(It.slc 67 0 N 2)])),(Option.some (En.sq (Sq.place (List.set L0 (r).toNat (q,q'))))),(Option.some (En.sq (Sq.place L1))),(Option.some (En.sq (Sq.place L2))),(Option.some (En.fl [(It.val (Value.map (Option.some b1)))])),(Option.some (En.fl [(It.val (Value.map (Option.some b2)))])),(Option.some (En.fl [(It.vsl u (Sq.gate l)),(It.int IntKind.i64 p),(It.int IntKind.i64 v)]))],81,848,[([(SV.v (V1.c (It.ptr 32 0))),(SV.v (V1.c (It.ptr 64 0))),(SV.v (V1.c (It.ptr 240 0))),(SV.v (V1.c (It.ptr 256 0))),(SV.v (V1.c (It.clo 84 [(320,0)])))],81)]⟩ (F5e u l p v b1 b2 N L0 L1 L2 r k q q') _ _ [] rfl rfl rfl (G5u u l p v b1 b2 N L0 L1 L2 r k q q' hz) (G6a u l p v b1 b2 N L0 L1 L2 r k q q' hz) (B9w z (by decide) (by decide) ho) hs (G6g u l p v b1 b2 N L0 L1 L2 r k q q' hz) rfl rfl rfl hK
theorem E8n {w0:World} {F0:Nat->Prop} {K:Kp} {ac:List Act} {a:Act} {Q:Exit->Act->World->Prop} {ρ:Option Nat} {objs:List (Nat×Obj)} {y:Ctx} {m1:MiL×Nat} (u:Value) (l:List A1) (p v:Int) (b1 b2:Nat) (N:Nat) (L0 L1 L2:List (Int×Int)) (r k q q' : Int) (hms:Ms w0 F0 K ac a objs (P3 u l p v b1 b2 N L0 L1 L2 r 0 k) y) (hobj:(b1,I7 m1)∈objs) (hfind:G1 m1.1 k=some (K6 q q'))
  (ho:A3 [((0:Int)<=r),(r<((N:Nat):Int)),(0=0),((r).toNat<(List.length L0))]) (hK:∀y' b',Ms w0 F0 K ac b' objs (F5e u l p v b1 b2 N L0 L1 L2 r k q q') y' -> Wq Try.prog Q [] ac .normal b' y'.w ρ):Wq Try.prog Q A0k ac .normal a y.w ρ:=by
 obtain ⟨oc,ho1,ho2⟩:=E8d;rw[nkk];refine D5o (ops:=opN) (σ:=P3 u l p v b1 b2 N L0 L1 L2 r 0 k) (id:=23) (k:=A2c A0k) J5 hms.sim.own C5y E8c G1b ho1 ho2 (ob2:=[(0:Int)<=0,(0:Int)<3]) ⟨by decide,by decide,trivial⟩ (G1d u l p v b1 b2 N L0 L1 L2 r k) ?_
 intro z hz y1 a1 hs1;have hms1:=hms.step hs1;have h0:=G6j u l p v b1 b2 N L0 L1 L2 r k;have e1:=Q3 h0 hz;have s76:(J0 nxA opN z.1 (P3 u l p v b1 b2 N L0 L1 L2 r 0 k)).t 76 = .v (.c (.val (.map (some b1)))):=congrArg (·.1) e1;have s77:(J0 nxA opN z.1 (P3 u l p v b1 b2 N L0 L1 L2 r 0 k)).t 77 = .v (.c (.int .i64 k)):=congrArg (·.2.1) e1;have snt:(J0 nxA opN z.1 (P3 u l p v b1 b2 N L0 L1 L2 r 0 k)).nt=81:=congrArg (·.2.2) e1;have v76:a1.tmps.getD 76 undef = .map (some b1):=by
  have h:=hms1.sim.t 76;rw[s76] at h;exact (O9 h).1
 have v77:a1.tmps.getD 77 undef = .int .i64 k:=by
  have h:=hms1.sim.t 77;rw[s77] at h;exact K3 h
 refine A1j (σ:=J0 nxA opN z.1 (P3 u l p v b1 b2 N L0 L1 L2 r 0 k)) (v:=K6 q q') (w' := y1.w) ((G1c z.1 z.2 _).trans E8e) hms1.sim.t (fun c h=>by cases h) (fun o h1 h2=>.inl ?_) ?_
 ·exact C6i Try.underlying127 Try.underlying3 (Z5 A4q D5x 98 _ rfl) h1 v76 v77 (hms1.obj _ hobj) hfind
 ·have hms2:=hms1.put_slot (d:=78) (s:=.v (.a [.int .i64 q,.int .i64 q'])) (v:=K6 q q') (by rw[snt];decide) ⟨_,rfl,_,_,rfl,⟨0,rfl⟩,_,_,rfl,⟨0,rfl⟩,rfl⟩
  have hs2:Sim y1.w y1.F (A1z y1 K K.ds) ac (nkC u l p v b1 b2 N L0 L1 L2 r 0 k q q' z.1 z.2).σ y1 (a1.put (some 78) (K6 q q')):=hms2.sim.own;exact G9x u l p v b1 b2 N L0 L1 L2 r k q q' hz ho hs2 fun cY aY hs3=>hK _ _ (hms2.step hs3)
theorem G9y {w0:World} {F0:Nat->Prop} {K:Kp} {ac:List Act} {Q:Exit->Act->World->Prop} {cX:Ctx} {aX:Act} {ρ:Option Nat} (u:Value) (l:List A1) (p v:Int) (b1 b2:Nat) (N:Nat) (L0 L1 L2:List (Int×Int)) (r k q q' : Int) {z:List Nat×List Nat} (hz:z∈F7) (ho:A3 [((0:Int)<=r),(r<((N:Nat):Int)),(0=0),((r).toNat<(List.length L1))]) (hs:Sim w0 F0 K ac (nkC u l p v b1 b2 N L0 L1 L2 r 1 k q q' z.1 z.2).σ cX aX)
  (hK:∀cY aY,Sim w0 F0 K ac (F5f u l p v b1 b2 N L0 L1 L2 r k q q') cY aY->Wq Try.prog Q [] ac .normal aY cY.w ρ):Wq Try.prog Q (nkC u l p v b1 b2 N L0 L1 L2 r 1 k q q' z.1 z.2).k ac .normal aX cX.w ρ :=
 ckT (nkC u l p v b1 b2 N L0 L1 L2 r 1 k q q' z.1 z.2) ⟨B9v z 1++[((0:Int)<=r),(r<((N:Nat):Int)),(0=0),((r).toNat<(List.length L1))],Exit.normal,[(SV.v (V1.c (It.ptr 32 0)))],[(Option.some (En.fl [(It.val (Value.slice Option.none 0 0)),(It.val (Value.slice Option.none 0 0)),(It.val (Value.slice Option.none 0 0))])),(Option.some (En.fl [(It.slc 65 0 N 2),(It.slc 66 0 N 2),(It.slc 67 0 N 2)])),(Option.some (En.sq (Sq.place L0))),(Option.some (En.sq (Sq.place (List.set L1 (r).toNat (q,q'))))),(Option.some (En.sq (Sq.place L2))),(Option.some (En.fl [(It.val (Value.map (Option.some b1)))])),(Option.some (En.fl [(It.val (Value.map (Option.some b2)))])),(Option.some (En.fl [(It.vsl u (Sq.gate l)),(It.int IntKind.i64 p),(It.int IntKind.i64 v)]))],81,848,[([(SV.v (V1.c (It.ptr 32 0))),(SV.v (V1.c (It.ptr 64 0))),(SV.v (V1.c (It.ptr 240 0))),(SV.v (V1.c (It.ptr 256 0))),(SV.v (V1.c (It.clo 84 [(320,0)])))],81)]⟩ (F5f u l p v b1 b2 N L0 L1 L2 r k q q') _ _ [] rfl rfl rfl (G5v u l p v b1 b2 N L0 L1 L2 r k q q' hz) (G6b u l p v b1 b2 N L0 L1 L2 r k q q' hz) (B9w z (by decide) (by decide) ho) hs (G6h u l p v b1 b2 N L0 L1 L2 r k q q' hz) rfl rfl rfl hK
theorem E8o {w0:World} {F0:Nat->Prop} {K:Kp} {ac:List Act} {a:Act} {Q:Exit->Act->World->Prop} {ρ:Option Nat} {objs:List (Nat×Obj)} {y:Ctx} {m1:MiL×Nat} (u:Value) (l:List A1) (p v:Int) (b1 b2:Nat) (N:Nat) (L0 L1 L2:List (Int×Int)) (r k q q' : Int) (hms:Ms w0 F0 K ac a objs (P3 u l p v b1 b2 N L0 L1 L2 r 1 k) y) (hobj:(b1,I7 m1)∈objs) (hfind:G1 m1.1 k=some (K6 q q'))
  (ho:A3 [((0:Int)<=r),(r<((N:Nat):Int)),(0=0),((r).toNat<(List.length L1))]) (hK:∀y' b',Ms w0 F0 K ac b' objs (F5f u l p v b1 b2 N L0 L1 L2 r k q q') y' -> Wq Try.prog Q [] ac .normal b' y'.w ρ):Wq Try.prog Q A0k ac .normal a y.w ρ:=by
 obtain ⟨oc,ho1,ho2⟩:=E8d;rw[nkk];refine D5o (ops:=opN) (σ:=P3 u l p v b1 b2 N L0 L1 L2 r 1 k) (id:=23) (k:=A2c A0k) J5 hms.sim.own C5y E8c G1b ho1 ho2 (ob2:=[(0:Int)<=1,(1:Int)<3]) ⟨by decide,by decide,trivial⟩ (G1e u l p v b1 b2 N L0 L1 L2 r k) ?_
 intro z hz y1 a1 hs1;have hms1:=hms.step hs1;have h0:=G6k u l p v b1 b2 N L0 L1 L2 r k;have e1:=Q3 h0 hz;have s76:(J0 nxA opN z.1 (P3 u l p v b1 b2 N L0 L1 L2 r 1 k)).t 76 = .v (.c (.val (.map (some b1)))):=congrArg (·.1) e1;have s77:(J0 nxA opN z.1 (P3 u l p v b1 b2 N L0 L1 L2 r 1 k)).t 77 = .v (.c (.int .i64 k)):=congrArg (·.2.1) e1;have snt:(J0 nxA opN z.1 (P3 u l p v b1 b2 N L0 L1 L2 r 1 k)).nt=81:=congrArg (·.2.2) e1;have v76:a1.tmps.getD 76 undef = .map (some b1):=by
  have h:=hms1.sim.t 76;rw[s76] at h;exact (O9 h).1
 have v77:a1.tmps.getD 77 undef = .int .i64 k:=by
  have h:=hms1.sim.t 77;rw[s77] at h;exact K3 h
 refine A1j (σ:=J0 nxA opN z.1 (P3 u l p v b1 b2 N L0 L1 L2 r 1 k)) (v:=K6 q q') (w' := y1.w) ((G1c z.1 z.2 _).trans E8e) hms1.sim.t (fun c h=>by cases h) (fun o h1 h2=>.inl ?_) ?_
 ·exact C6i Try.underlying127 Try.underlying3 (Z5 A4q D5x 98 _ rfl) h1 v76 v77 (hms1.obj _ hobj) hfind
 ·have hms2:=hms1.put_slot (d:=78) (s:=.v (.a [.int .i64 q,.int .i64 q'])) (v:=K6 q q') (by rw[snt];decide) ⟨_,rfl,_,_,rfl,⟨0,rfl⟩,_,_,rfl,⟨0,rfl⟩,rfl⟩
  have hs2:Sim y1.w y1.F (A1z y1 K K.ds) ac (nkC u l p v b1 b2 N L0 L1 L2 r 1 k q q' z.1 z.2).σ y1 (a1.put (some 78) (K6 q q')):=hms2.sim.own;exact G9y u l p v b1 b2 N L0 L1 L2 r k q q' hz ho hs2 fun cY aY hs3=>hK _ _ (hms2.step hs3)
theorem G9z {w0:World} {F0:Nat->Prop} {K:Kp} {ac:List Act} {Q:Exit->Act->World->Prop} {cX:Ctx} {aX:Act} {ρ:Option Nat} (u:Value) (l:List A1) (p v:Int) (b1 b2:Nat) (N:Nat) (L0 L1 L2:List (Int×Int)) (r k q q' : Int) {z:List Nat×List Nat} (hz:z∈F7) (ho:A3 [((0:Int)<=r),(r<((N:Nat):Int)),(0=0),((r).toNat<(List.length L2))]) (hs:Sim w0 F0 K ac (nkC u l p v b1 b2 N L0 L1 L2 r 2 k q q' z.1 z.2).σ cX aX)
  (hK:∀cY aY,Sim w0 F0 K ac (F5g u l p v b1 b2 N L0 L1 L2 r k q q') cY aY->Wq Try.prog Q [] ac .normal aY cY.w ρ):Wq Try.prog Q (nkC u l p v b1 b2 N L0 L1 L2 r 2 k q q' z.1 z.2).k ac .normal aX cX.w ρ :=
 ckT (nkC u l p v b1 b2 N L0 L1 L2 r 2 k q q' z.1 z.2) ⟨B9v z 2++[((0:Int)<=r),(r<((N:Nat):Int)),(0=0),((r).toNat<(List.length L2))],Exit.normal,[(SV.v (V1.c (It.ptr 32 0)))],[(Option.some (En.fl [(It.val (Value.slice Option.none 0 0)),(It.val (Value.slice Option.none 0 0)),(It.val (Value.slice Option.none 0 0))])),(Option.some (En.fl [(It.slc 65 0 N 2),(It.slc 66 0 N 2),(It.slc 67 0 N 2)])),(Option.some (En.sq (Sq.place L0))),(Option.some (En.sq (Sq.place L1))),(Option.some (En.sq (Sq.place (List.set L2 (r).toNat (q,q'))))),(Option.some (En.fl [(It.val (Value.map (Option.some b1)))])),(Option.some (En.fl [(It.val (Value.map (Option.some b2)))])),(Option.some (En.fl [(It.vsl u (Sq.gate l)),(It.int IntKind.i64 p),(It.int IntKind.i64 v)]))],81,848,[([(SV.v (V1.c (It.ptr 32 0))),(SV.v (V1.c (It.ptr 64 0))),(SV.v (V1.c (It.ptr 240 0))),(SV.v (V1.c (It.ptr 256 0))),(SV.v (V1.c (It.clo 84 [(320,0)])))],81)]⟩ (F5g u l p v b1 b2 N L0 L1 L2 r k q q') _ _ [] rfl rfl rfl (G5w u l p v b1 b2 N L0 L1 L2 r k q q' hz) (G6c u l p v b1 b2 N L0 L1 L2 r k q q' hz) (B9w z (by decide) (by decide) ho) hs (G6i u l p v b1 b2 N L0 L1 L2 r k q q' hz) rfl rfl rfl hK
theorem E8p {w0:World} {F0:Nat->Prop} {K:Kp} {ac:List Act} {a:Act} {Q:Exit->Act->World->Prop} {ρ:Option Nat} {objs:List (Nat×Obj)} {y:Ctx} {m1:MiL×Nat} (u:Value) (l:List A1) (p v:Int) (b1 b2:Nat) (N:Nat) (L0 L1 L2:List (Int×Int)) (r k q q' : Int) (hms:Ms w0 F0 K ac a objs (P3 u l p v b1 b2 N L0 L1 L2 r 2 k) y) (hobj:(b1,I7 m1)∈objs) (hfind:G1 m1.1 k=some (K6 q q'))
  (ho:A3 [((0:Int)<=r),(r<((N:Nat):Int)),(0=0),((r).toNat<(List.length L2))]) (hK:∀y' b',Ms w0 F0 K ac b' objs (F5g u l p v b1 b2 N L0 L1 L2 r k q q') y' -> Wq Try.prog Q [] ac .normal b' y'.w ρ):Wq Try.prog Q A0k ac .normal a y.w ρ:=by
 obtain ⟨oc,ho1,ho2⟩:=E8d;rw[nkk];refine D5o (ops:=opN) (σ:=P3 u l p v b1 b2 N L0 L1 L2 r 2 k) (id:=23) (k:=A2c A0k) J5 hms.sim.own C5y E8c G1b ho1 ho2 (ob2:=[(0:Int)<=2,(2:Int)<3]) ⟨by decide,by decide,trivial⟩ (G1f u l p v b1 b2 N L0 L1 L2 r k) ?_
 intro z hz y1 a1 hs1;have hms1:=hms.step hs1;have h0:=G6l u l p v b1 b2 N L0 L1 L2 r k;have e1:=Q3 h0 hz;have s76:(J0 nxA opN z.1 (P3 u l p v b1 b2 N L0 L1 L2 r 2 k)).t 76 = .v (.c (.val (.map (some b1)))):=congrArg (·.1) e1;have s77:(J0 nxA opN z.1 (P3 u l p v b1 b2 N L0 L1 L2 r 2 k)).t 77 = .v (.c (.int .i64 k)):=congrArg (·.2.1) e1;have snt:(J0 nxA opN z.1 (P3 u l p v b1 b2 N L0 L1 L2 r 2 k)).nt=81:=congrArg (·.2.2) e1;have v76:a1.tmps.getD 76 undef = .map (some b1):=by
  have h:=hms1.sim.t 76;rw[s76] at h;exact (O9 h).1
 have v77:a1.tmps.getD 77 undef = .int .i64 k:=by
  have h:=hms1.sim.t 77;rw[s77] at h;exact K3 h
 refine A1j (σ:=J0 nxA opN z.1 (P3 u l p v b1 b2 N L0 L1 L2 r 2 k)) (v:=K6 q q') (w' := y1.w) ((G1c z.1 z.2 _).trans E8e) hms1.sim.t (fun c h=>by cases h) (fun o h1 h2=>.inl ?_) ?_
 ·exact C6i Try.underlying127 Try.underlying3 (Z5 A4q D5x 98 _ rfl) h1 v76 v77 (hms1.obj _ hobj) hfind
 ·have hms2:=hms1.put_slot (d:=78) (s:=.v (.a [.int .i64 q,.int .i64 q'])) (v:=K6 q q') (by rw[snt];decide) ⟨_,rfl,_,_,rfl,⟨0,rfl⟩,_,_,rfl,⟨0,rfl⟩,rfl⟩
  have hs2:Sim y1.w y1.F (A1z y1 K K.ds) ac (nkC u l p v b1 b2 N L0 L1 L2 r 2 k q q' z.1 z.2).σ y1 (a1.put (some 78) (K6 q q')):=hms2.sim.own;exact G9z u l p v b1 b2 N L0 L1 L2 r k q q' hz ho hs2 fun cY aY hs3=>hK _ _ (hms2.step hs3)
end

section

/-- What the rounds keep: two maps, three rows. -/
abbrev Rw3:=List (Int×Int)×List (Int×Int)×List (Int×Int)
structure NxT where
 f:MiL×Nat
 z:MiL×Nat
 t:Rw3
def unP:Value->Int×Int
 | .agg cs=>match cs.toList with
  | [.int _ a,.int _ b]=>(a,b)
  | _=>(0,0)
 | _=>(0,0)
def P9 (t:Rw3) (w i:Int) (x:Int×Int):Rw3:=
 if w=0 then (t.1.set i.toNat x,t.2.1,t.2.2) else if w=1 then (t.1,t.2.1.set i.toNat x,t.2.2) else (t.1,t.2.1,t.2.2.set i.toNat x)
def Z9 (s:NxT) (z:Plc):NxT:=
 match G1 s.z.1 z.2 with
 | some x=>{ s with t:=P9 s.t (unP x).2 (unP x).1 z.1 }
 | none=>{ s with f:=A2a s.f z.2 (K6 z.1.1 z.1.2) }
def G6m (s:NxT) (z:Plc):NxT:={ s with z:=A2a s.z z.2 (K6 z.1.1 z.1.2) }
def H0b (s:NxT) (z:Plc):NxT:={ s with t:=P9 s.t z.1.2 z.1.1 (unP ((G1 s.f.1 z.2).getD undef)) }
def A0q (s:NxT) (z:Plc):NxT:=H0b (G6m (Z9 s z) z) z
def WOk (w:Int):Prop:=w=0∨w=1∨w=2
def A0l (N:Nat) (z:Int×Int):Prop:=0<=z.1∧z.1<N∧WOk z.2
def MOk (N:Nat) (m:MiL):Prop:=∀k x,G1 m k=some x->∃r w,x=K6 r w∧A0l N (r,w)
structure NOk (N:Nat) (s:NxT):Prop where
 f:MOk N s.f.1
 z:MOk N s.z.1
 zf:∀k x,G1 s.z.1 k=some x->∃x',G1 s.f.1 k=some x'
 l0:s.t.1.length=N
 l1:s.t.2.1.length=N
 l2:s.t.2.2.length=N
theorem C9c (v:Int) (x:Value):∀(m:MiL) (k:Int) (y:Value),G1 m v=some y->G1 (C1m v x m) k=if k=v then some x else G1 m k
 | [],_,_,h=>by cases h
 | e::m,k,y,h=>by
  have h:(if e.1=v then some e.2.1 else G1 m v)=some y:=h
  show G1 (if e.1=v then (v,x,e.2.2)::m else e::C1m v x m) k=if k=v then some x else if e.1=k then some e.2.1 else G1 m k
  by_cases he:e.1=v
  ·rw[if_pos he]
   show (if v=k then some x else G1 m k)=_
   by_cases hk:k=v
   ·rw[if_pos hk,if_pos hk.symm]
   ·rw[if_neg hk,if_neg (fun h=>hk h.symm),if_neg (fun h=>hk (h.symm.trans he))]
  ·rw[if_neg he] at h ⊢
   show (if e.1=k then some e.2.1 else G1 (C1m v x m) k)=_
   by_cases hk:e.1=k
   ·rw[if_pos hk,if_neg (fun h=>he (hk.trans h)),if_pos hk]
   ·rw[if_neg hk,C9c v x m k y h,if_neg hk]
theorem C9a (v:Int) (x:Value) (n:Nat):∀(m:MiL) (k:Int),G1 m v=none->G1 (m++[(v,x,n)]) k=if k=v then some x else G1 m k
 | [],k,_=>by
  show (if v=k then some x else none)=if k=v then some x else none
  by_cases hk:k=v
  ·rw[if_pos hk,if_pos hk.symm]
  ·rw[if_neg hk,if_neg (fun h=>hk h.symm)]
 | e::m,k,h=>by
  have h:(if e.1=v then some e.2.1 else G1 m v)=none:=h
  by_cases he:e.1=v
  ·rw[if_pos he] at h;cases h
  ·rw[if_neg he] at h
   show (if e.1=k then some e.2.1 else G1 (m++[(v,x,n)]) k)=if k=v then some x else if e.1=k then some e.2.1 else G1 m k
   by_cases hk:e.1=k
   ·rw[if_pos hk,if_neg (fun h=>he (hk.trans h)),if_pos hk]
   ·rw[if_neg hk,C9a v x n m k h,if_neg hk]
theorem B0h (m:MiL×Nat) (v:Int) (x:Value) (k:Int):G1 (A2a m v x).1 k=if k=v then some x else G1 m.1 k:=by
 unfold A2a
 cases h:G1 m.1 v with
 | none=>exact C9a v x _ _ _ h
 | some y=>exact C9c v x _ _ y h
theorem MOk.put {N:Nat} {m:MiL×Nat} (h:MOk N m.1) {v r w:Int} (hz:A0l N (r,w)):MOk N (A2a m v (K6 r w)).1:=fun k x hx=>by
 rw[B0h] at hx;split at hx
 ·cases hx;exact ⟨r,w,rfl,hz⟩
 ·exact h k x hx
theorem D5j {N:Nat} {t:Rw3} (h:t.1.length=N∧t.2.1.length=N∧t.2.2.length=N) (w i:Int) (x:Int×Int):(P9 t w i x).1.length=N∧(P9 t w i x).2.1.length=N∧(P9 t w i x).2.2.length=N:=by
 unfold P9;split
 ·exact ⟨by simpa using h.1,h.2.1,h.2.2⟩
 ·split
  ·exact ⟨h.1,by simpa using h.2.1,h.2.2⟩
  ·exact ⟨h.1,h.2.1,by simpa using h.2.2⟩
theorem NOk.rows {N:Nat} {s:NxT} (h:NOk N s) (w i:Int) (x:Int×Int):NOk N { s with t:=P9 s.t w i x }:=
 have e:=D5j ⟨h.l0,h.l1,h.l2⟩ w i x
 ⟨h.f,h.z,h.zf,e.1,e.2.1,e.2.2⟩
/-- Behind the first half, the wire's first place is known. -/
theorem C6a {N:Nat} {s:NxT} (h:NOk N s) {z:Plc} (hz:A0l N z.1):NOk N (Z9 s z)∧∃x,G1 (Z9 s z).f.1 z.2=some x:=by
 unfold Z9
 cases hf:G1 s.z.1 z.2 with
 | some x=>exact ⟨h.rows _ _ _,h.zf _ _ hf⟩
 | none=>
  refine ⟨⟨h.f.put hz,h.z,fun k x hx=>?_,h.l0,h.l1,h.l2⟩,_,by show G1 (A2a s.f z.2 _).1 z.2=_;rw[B0h,if_pos rfl]⟩
  show ∃x',G1 (A2a s.f z.2 _).1 k=some x';rw[B0h];split
  ·exact ⟨_,rfl⟩
  ·exact h.zf k x hx
theorem D7q {N:Nat} {s:NxT} (h:NOk N s) {z:Plc} (hz:A0l N z.1):NOk N (A0q s z):=by
 obtain ⟨h1,x,hx⟩:=C6a h hz;refine NOk.rows (s:=G6m (Z9 s z) z) ⟨h1.f,h1.z.put hz,fun k y hy=>?_,h1.l0,h1.l1,h1.l2⟩ _ _ _
 have hy:G1 (A2a (Z9 s z).z z.2 _).1 k=some y:=hy;rw[B0h] at hy;split at hy
 ·rename_i e;rw[e];exact ⟨x,hx⟩
 ·exact h1.zf k y hy
theorem Ms.nx {w0:World} {F0:Nat->Prop} {K:Kp} {ac:List Act} {a:Act} {l:List (Nat×Obj)} {σ:St} {y:Ctx} (h:Ms w0 F0 K ac a l σ y) (n:Nat):Ms w0 F0 K ac a l { σ with nx:=n } y:=⟨h.sim.nx n,h.obj,h.oc,h.nf⟩
theorem F4w (w:World):(zeroValue 98).run Try.prog w = .ok (K6 0 0) w:=by kernel_rfl
def nvT:Nat:=((B9o B0w (B5g (.int .i64 0) [] 0 0 0 0 0 [] [] [] 0 0 0).t).map (·.2.2)).getD 0
theorem C6e (u:Value) (l:List A1) (p v:Int) (b1 b2:Nat) (N:Nat) (L0 L1 L2:List (Int×Int)) (r w k:Int):B9o B0w (B5g u l p v b1 b2 N L0 L1 L2 r w k).t=some (some 52,.lookup 127 (.tmp 50) (.tmp 51) true,nvT):=by kernel_rfl
theorem G1m (u:Value) (l:List A1) (p v:Int) (b1 b2:Nat) (N:Nat) (L0 L1 L2:List (Int×Int)) (r w k:Int):B9o E8l (G1p u l p v b1 b2 N L0 L1 L2 r w k).t=some (none,.mapUpdate 127 (.tmp 64) (.tmp 65) (.tmp 66),0):=by kernel_rfl
theorem G1n (u:Value) (l:List A1) (p v:Int) (b1 b2:Nat) (N:Nat) (L0 L1 L2:List (Int×Int)) (r w k:Int):B9o X7 (nxU u l p v b1 b2 N L0 L1 L2 r w k).t=some (none,.mapUpdate 127 (.tmp 67) (.tmp 68) (.tmp 69),0):=by kernel_rfl
theorem F4y {w0:World} {F0:Nat->Prop} {K:Kp} {ac:List Act} {a:Act} {Q:Exit->Act->World->Prop} {ρ:Option Nat} {y:Ctx} {ob:List (Nat×Obj)} (u:Value) (l:List A1) (p v:Int) (b1 b2:Nat) (N:Nat) (L0 L1 L2:List (Int×Int)) (r w k q:Int) {m:MiL×Nat} (hms:Ms w0 F0 K ac a ob (nxM u l p v b1 b2 N L0 L1 L2 r w k) y) (hobj:(b2,I7 m)∈ob) (hf:G1 m.1 k=some (K6 q 0)) (h0:0<=q) (hN:q<N) (hl:L0.length=N)
  (hK:∀y' b',Ms w0 F0 K ac b' ob (nxU u l p v b1 b2 N (L0.set q.toNat (r,w)) L1 L2 r w k) y' -> Wq Try.prog Q X7 ac .normal b' y'.w ρ):Wq Try.prog Q [.code (rfB A0j)] ac .normal a y.w ρ:=by
 refine nxG u l p v b1 b2 N L0 L1 L2 r w k trivial hms.sim.own fun cY aY hs=>?_
 have h1:Ms w0 F0 K ac aY ob (B5g u l p v b1 b2 N L0 L1 L2 r w k) cY:=hms.step hs;have h50:=(O9 (h1.sim.t 50)).1;have h51:=K3 (h1.sim.t 51);refine A1j (v:=.tuple #[K6 q 0,.bool true]) (w' := cY.w) (C6e u l p v b1 b2 N L0 L1 L2 r w k) h1.sim.t (fun c h=>by cases h) (fun o e1 e2=>.inl (B9n Try.underlying127 Try.underlying3 (Z5 A4q D5x 98 _ rfl) e1 h50 h51 (h1.obj _ hobj) hf)) ?_
 have h2:=h1.put_slot (d:=52) (s:=.t [.a [.int .i64 q,.int .i64 0],.c (.lit true)]) (v:=.tuple #[K6 q 0,.bool true]) (show 52<81 by decide) ⟨[K6 q 0,.bool true],rfl,.cons ⟨_,rfl,_,_,rfl,⟨0,rfl⟩,_,_,rfl,⟨0,rfl⟩,rfl⟩ (.cons ⟨rfl,0,rfl⟩ .nil)⟩
 refine H0m u l p v b1 b2 N L0 L1 L2 r w k q ⟨by decide,by decide,h0,hN,rfl,by omega,trivial⟩ h2.sim.own fun cZ aZ hs3=>?_
 exact hK _ _ ((h2.step hs3).nx 672)
theorem F4z {w0:World} {F0:Nat->Prop} {K:Kp} {ac:List Act} {a:Act} {Q:Exit->Act->World->Prop} {ρ:Option Nat} {y:Ctx} {ob:List (Nat×Obj)} (u:Value) (l:List A1) (p v:Int) (b1 b2:Nat) (N:Nat) (L0 L1 L2:List (Int×Int)) (r w k q:Int) {m:MiL×Nat} (hms:Ms w0 F0 K ac a ob (nxM u l p v b1 b2 N L0 L1 L2 r w k) y) (hobj:(b2,I7 m)∈ob) (hf:G1 m.1 k=some (K6 q 1)) (h0:0<=q) (hN:q<N) (hl:L1.length=N)
  (hK:∀y' b',Ms w0 F0 K ac b' ob (nxU u l p v b1 b2 N L0 (L1.set q.toNat (r,w)) L2 r w k) y' -> Wq Try.prog Q X7 ac .normal b' y'.w ρ):Wq Try.prog Q [.code (rfB A0j)] ac .normal a y.w ρ:=by
 refine nxG u l p v b1 b2 N L0 L1 L2 r w k trivial hms.sim.own fun cY aY hs=>?_
 have h1:Ms w0 F0 K ac aY ob (B5g u l p v b1 b2 N L0 L1 L2 r w k) cY:=hms.step hs;have h50:=(O9 (h1.sim.t 50)).1;have h51:=K3 (h1.sim.t 51);refine A1j (v:=.tuple #[K6 q 1,.bool true]) (w' := cY.w) (C6e u l p v b1 b2 N L0 L1 L2 r w k) h1.sim.t (fun c h=>by cases h) (fun o e1 e2=>.inl (B9n Try.underlying127 Try.underlying3 (Z5 A4q D5x 98 _ rfl) e1 h50 h51 (h1.obj _ hobj) hf)) ?_
 have h2:=h1.put_slot (d:=52) (s:=.t [.a [.int .i64 q,.int .i64 1],.c (.lit true)]) (v:=.tuple #[K6 q 1,.bool true]) (show 52<81 by decide) ⟨[K6 q 1,.bool true],rfl,.cons ⟨_,rfl,_,_,rfl,⟨0,rfl⟩,_,_,rfl,⟨0,rfl⟩,rfl⟩ (.cons ⟨rfl,0,rfl⟩ .nil)⟩
 refine H0n u l p v b1 b2 N L0 L1 L2 r w k q ⟨by decide,by decide,h0,hN,rfl,by omega,trivial⟩ h2.sim.own fun cZ aZ hs3=>?_
 exact hK _ _ ((h2.step hs3).nx 672)
theorem F5a {w0:World} {F0:Nat->Prop} {K:Kp} {ac:List Act} {a:Act} {Q:Exit->Act->World->Prop} {ρ:Option Nat} {y:Ctx} {ob:List (Nat×Obj)} (u:Value) (l:List A1) (p v:Int) (b1 b2:Nat) (N:Nat) (L0 L1 L2:List (Int×Int)) (r w k q:Int) {m:MiL×Nat} (hms:Ms w0 F0 K ac a ob (nxM u l p v b1 b2 N L0 L1 L2 r w k) y) (hobj:(b2,I7 m)∈ob) (hf:G1 m.1 k=some (K6 q 2)) (h0:0<=q) (hN:q<N) (hl:L2.length=N)
  (hK:∀y' b',Ms w0 F0 K ac b' ob (nxU u l p v b1 b2 N L0 L1 (L2.set q.toNat (r,w)) r w k) y' -> Wq Try.prog Q X7 ac .normal b' y'.w ρ):Wq Try.prog Q [.code (rfB A0j)] ac .normal a y.w ρ:=by
 refine nxG u l p v b1 b2 N L0 L1 L2 r w k trivial hms.sim.own fun cY aY hs=>?_
 have h1:Ms w0 F0 K ac aY ob (B5g u l p v b1 b2 N L0 L1 L2 r w k) cY:=hms.step hs;have h50:=(O9 (h1.sim.t 50)).1;have h51:=K3 (h1.sim.t 51);refine A1j (v:=.tuple #[K6 q 2,.bool true]) (w' := cY.w) (C6e u l p v b1 b2 N L0 L1 L2 r w k) h1.sim.t (fun c h=>by cases h) (fun o e1 e2=>.inl (B9n Try.underlying127 Try.underlying3 (Z5 A4q D5x 98 _ rfl) e1 h50 h51 (h1.obj _ hobj) hf)) ?_
 have h2:=h1.put_slot (d:=52) (s:=.t [.a [.int .i64 q,.int .i64 2],.c (.lit true)]) (v:=.tuple #[K6 q 2,.bool true]) (show 52<81 by decide) ⟨[K6 q 2,.bool true],rfl,.cons ⟨_,rfl,_,_,rfl,⟨0,rfl⟩,_,_,rfl,⟨0,rfl⟩,rfl⟩ (.cons ⟨rfl,0,rfl⟩ .nil)⟩
 refine H0o u l p v b1 b2 N L0 L1 L2 r w k q ⟨by decide,by decide,h0,hN,rfl,by omega,trivial⟩ h2.sim.own fun cZ aZ hs3=>?_
 exact hK _ _ ((h2.step hs3).nx 672)
theorem G1l {w0:World} {F0:Nat->Prop} {K:Kp} {ac:List Act} {a:Act} {Q:Exit->Act->World->Prop} {ρ:Option Nat} {y:Ctx} (u:Value) (l:List A1) (p v:Int) (b1 b2:Nat) (N:Nat) (L0 L1 L2:List (Int×Int)) (r w k:Int) {f m:MiL×Nat} {ex:List (Nat×Obj)} (hb1:w0.heap.size<=b1) (hne:b1≠b2) (hex:∀e∈ex,e.1≠b1) (hms:Ms w0 F0 K ac a ((b1,I7 f)::(b2,I7 m)::ex) (nxM u l p v b1 b2 N L0 L1 L2 r w k) y) (hf:G1 m.1 k=none)
  (hK:∀y' b',Ms w0 F0 K ac b' ((b1,I7 (A2a f k (K6 r w)))::(b2,I7 m)::ex) (nxU u l p v b1 b2 N L0 L1 L2 r w k) y' -> Wq Try.prog Q X7 ac .normal b' y'.w ρ):Wq Try.prog Q [.code (rfB A0j)] ac .normal a y.w ρ:=by
 refine nxG u l p v b1 b2 N L0 L1 L2 r w k trivial hms.sim.own fun cY aY hs=>?_
 have h1:Ms w0 F0 K ac aY ((b1,I7 f)::(b2,I7 m)::ex) (B5g u l p v b1 b2 N L0 L1 L2 r w k) cY:=hms.step hs;have h50:=(O9 (h1.sim.t 50)).1;have h51:=K3 (h1.sim.t 51);refine A1j (v:=.tuple #[K6 0 0,.bool false]) (w' := cY.w) (C6e u l p v b1 b2 N L0 L1 L2 r w k) h1.sim.t (fun c h=>by cases h) (fun o e1 e2=>.inl (E8u Try.underlying127 Try.underlying3 (F4w _) e1 h50 h51 (h1.obj _ (List.mem_cons_of_mem _ List.mem_cons_self)) hf)) ?_
 have h2:=h1.put_slot (d:=52) (s:=.t [.a [.int .i64 0,.int .i64 0],.c (.lit false)]) (v:=.tuple #[K6 0 0,.bool false]) (show 52<81 by decide) ⟨[K6 0 0,.bool false],rfl,.cons ⟨_,rfl,_,_,rfl,⟨0,rfl⟩,_,_,rfl,⟨0,rfl⟩,rfl⟩ (.cons ⟨rfl,0,rfl⟩ .nil)⟩
 refine nxN u l p v b1 b2 N L0 L1 L2 r w k trivial h2.sim.own fun cZ aZ hs3=>?_
 have h3:Ms w0 F0 K ac aZ ((b1,I7 f)::(b2,I7 m)::ex) (G1p u l p v b1 b2 N L0 L1 L2 r w k) cZ:=h2.step hs3;have h64:=(O9 (h3.sim.t 64)).1;have h65:=K3 (h3.sim.t 65);have h66:=B1e (h3.sim.t 66);refine A1j (v:=undef) (w' := cZ.w.putObj b1 (I7 (A2a f k (K6 r w)))) (G1m u l p v b1 b2 N L0 L1 L2 r w k) h3.sim.t (fun c h=>by cases h) (fun o e1 e2=>.inr ⟨E8v Try.underlying127 Try.underlying3 e1 h64 h65 h66 (h3.obj _ List.mem_cons_self),rfl⟩) ?_
 have h4:=h3.put (l' := (b1,I7 (A2a f k (K6 r w)))::(b2,I7 m)::ex) List.mem_cons_self hb1 (o' := I7 (A2a f k (K6 r w))) rfl (fun e he=>by
  rcases List.mem_cons.1 he with rfl | he
  ·exact .inl rfl
  rcases List.mem_cons.1 he with rfl | he
  ·exact .inr ⟨List.mem_cons_of_mem _ List.mem_cons_self,fun h=>hne h.symm⟩
  ·exact .inr ⟨List.mem_cons_of_mem _ (List.mem_cons_of_mem _ he),hex e he⟩)
 refine nxP u l p v b1 b2 N L0 L1 L2 r w k trivial h4.sim.own fun cV aV hs5=>?_
 exact hK _ _ (h4.step hs5)
theorem G1o {w0:World} {F0:Nat->Prop} {K:Kp} {ac:List Act} {a:Act} {Q:Exit->Act->World->Prop} {ρ:Option Nat} {y:Ctx} (u:Value) (l:List A1) (p v:Int) (b1 b2:Nat) (N:Nat) (L0 L1 L2:List (Int×Int)) (r w k:Int) {f m:MiL×Nat} {ex:List (Nat×Obj)} (hb2:w0.heap.size<=b2) (hne:b1≠b2) (hex:∀e∈ex,e.1≠b2) (hms:Ms w0 F0 K ac a ((b1,I7 f)::(b2,I7 m)::ex) (nxU u l p v b1 b2 N L0 L1 L2 r w k) y)
  (hK:∀y' b',Ms w0 F0 K ac b' ((b1,I7 f)::(b2,I7 (A2a m k (K6 r w)))::ex) (P3 u l p v b1 b2 N L0 L1 L2 r w k) y' -> Wq Try.prog Q A0k ac .normal b' y'.w ρ):Wq Try.prog Q X7 ac .normal a y.w ρ:=by
 have h67:=(O9 (hms.sim.t 67)).1;have h68:=K3 (hms.sim.t 68);have h69:=B1e (hms.sim.t 69);refine A1j (v:=undef) (w' := y.w.putObj b2 (I7 (A2a m k (K6 r w)))) (G1n u l p v b1 b2 N L0 L1 L2 r w k) hms.sim.t (fun c h=>by cases h) (fun o e1 e2=>.inr ⟨E8v Try.underlying127 Try.underlying3 e1 h67 h68 h69 (hms.obj _ (List.mem_cons_of_mem _ List.mem_cons_self)),rfl⟩) ?_
 have h4:=hms.put (l' := (b1,I7 f)::(b2,I7 (A2a m k (K6 r w)))::ex) (List.mem_cons_of_mem _ List.mem_cons_self) hb2 (o' := I7 (A2a m k (K6 r w))) rfl (fun e he=>by
  rcases List.mem_cons.1 he with rfl | he
  ·exact .inr ⟨List.mem_cons_self,hne⟩
  rcases List.mem_cons.1 he with rfl | he
  ·exact .inl rfl
  ·exact .inr ⟨List.mem_cons_of_mem _ (List.mem_cons_of_mem _ he),hex e he⟩)
 refine nxV u l p v b1 b2 N L0 L1 L2 r w k trivial h4.sim.own fun cV aV hs5=>?_
 exact hK _ _ (h4.step hs5)
end

section

/-- Behind a round. -/
def nxZ (u:Value) (l:List A1) (p v :Int) (b1 b2:Nat) (N:Nat) (t:Rw3):St:=A5 81 [4] [.pt 32 0] [32,64,65,66,67,240,256,320] [(eF_ [(.val (Value.slice Option.none 0 0)),(.val (Value.slice Option.none 0 0)),(.val (Value.slice Option.none 0 0))]),(eF_ [(.slc 65 0 N 2),(.slc 66 0 N 2),(.slc 67 0 N 2)]),(eQ_ (Sq.place t.1)),(eQ_ (Sq.place t.2.1)),(eQ_ (Sq.place t.2.2)),(eF_ [(.val (Value.map (some b1)))]),(eF_ [(.val (Value.map (some b2)))]),(eF_ [(It.vsl u (.gate l)),(.int .i64 p),(.int .i64 v)])] 848 [[4,6,10,11,46]] [([.pt 32 0,.pt 64 0,.pt 240 0,.pt 256 0,(.ci (.clo 84 [(320,0)]))],81)]
theorem G6n (u:Value) (l:List A1) (p v:Int) (b1 b2:Nat) (N:Nat) (t:Rw3) (r k q q' : Int):F5e u l p v b1 b2 N t.1 t.2.1 t.2.2 r k q q' = nxZ u l p v b1 b2 N (P9 t 0 r (q,q')):=rfl
theorem G6o (u:Value) (l:List A1) (p v:Int) (b1 b2:Nat) (N:Nat) (t:Rw3) (r k q q' : Int):F5f u l p v b1 b2 N t.1 t.2.1 t.2.2 r k q q' = nxZ u l p v b1 b2 N (P9 t 1 r (q,q')):=rfl
theorem G6p (u:Value) (l:List A1) (p v:Int) (b1 b2:Nat) (N:Nat) (t:Rw3) (r k q q' : Int):F5g u l p v b1 b2 N t.1 t.2.1 t.2.2 r k q q' = nxZ u l p v b1 b2 N (P9 t 2 r (q,q')):=rfl
theorem F4x {w0:World} {F0:Nat->Prop} {K:Kp} {ac:List Act} {a:Act} {Q:Exit->Act->World->Prop} {ρ:Option Nat} {y:Ctx} {ob:List (Nat×Obj)} (u:Value) (l:List A1) (p v:Int) (b1 b2:Nat) (N:Nat) (t:Rw3) (r w k q q' : Int) {m:MiL×Nat} (hw:WOk w) (h0:0<=r) (hN:r<N) (hl:t.1.length=N∧t.2.1.length=N∧t.2.2.length=N) (hms:Ms w0 F0 K ac a ob (P3 u l p v b1 b2 N t.1 t.2.1 t.2.2 r w k) y) (hobj:(b1,I7 m)∈ob) (hf:G1 m.1 k=some (K6 q q'))
  (hK:∀y' b',Ms w0 F0 K ac b' ob (nxZ u l p v b1 b2 N (P9 t w r (q,q'))) y' -> Wq Try.prog Q [] ac .normal b' y'.w ρ):Wq Try.prog Q A0k ac .normal a y.w ρ:=by
 rcases hw with rfl | rfl | rfl
 ·refine E8n u l p v b1 b2 N t.1 t.2.1 t.2.2 r k q q' hms hobj hf ⟨h0,hN,rfl,by have:=hl.1;omega,trivial⟩ fun y' b' h=>?_
  rw[G6n] at h;exact hK _ _ h
 ·refine E8o u l p v b1 b2 N t.1 t.2.1 t.2.2 r k q q' hms hobj hf ⟨h0,hN,rfl,by have:=hl.2.1;omega,trivial⟩ fun y' b' h=>?_
  rw[G6o] at h;exact hK _ _ h
 ·refine E8p u l p v b1 b2 N t.1 t.2.1 t.2.2 r k q q' hms hobj hf ⟨h0,hN,rfl,by have:=hl.2.2;omega,trivial⟩ fun y' b' h=>?_
  rw[G6p] at h;exact hK _ _ h
theorem G1g (s:NxT) (z:Plc):(Z9 s z).z=s.z:=by
 unfold Z9
 cases G1 s.z.1 z.2<;>rfl
theorem E8h {w0:World} {F0:Nat->Prop} {K:Kp} {ac:List Act} {a:Act} {Q:Exit->Act->World->Prop} {ρ:Option Nat} {y:Ctx} {ex:List (Nat×Obj)} (u:Value) (l:List A1) (p v:Int) (b1 b2:Nat) (N:Nat) (s:NxT) (z:Plc) (hn:NOk N s) (hb1:w0.heap.size<=b1) (hne:b1≠b2) (hex:∀e∈ex,e.1≠b1) (hms:Ms w0 F0 K ac a ((b1,I7 s.f)::(b2,I7 s.z)::ex) (nxM u l p v b1 b2 N s.t.1 s.t.2.1 s.t.2.2 z.1.1 z.1.2 z.2) y)
  (hK:∀y' b',Ms w0 F0 K ac b' ((b1,I7 (Z9 s z).f)::(b2,I7 s.z)::ex) (nxU u l p v b1 b2 N (Z9 s z).t.1 (Z9 s z).t.2.1 (Z9 s z).t.2.2 z.1.1 z.1.2 z.2) y' -> Wq Try.prog Q X7 ac .normal b' y'.w ρ):Wq Try.prog Q [.code (rfB A0j)] ac .normal a y.w ρ:=by
 cases hf:G1 s.z.1 z.2 with
 | none=>
  have e:Z9 s z = { s with f:=A2a s.f z.2 (K6 z.1.1 z.1.2) }:=by unfold Z9;rw[hf]
  rw[e] at hK;exact G1l u l p v b1 b2 N s.t.1 s.t.2.1 s.t.2.2 z.1.1 z.1.2 z.2 hb1 hne hex hms hf hK
 | some x=>
  have e:Z9 s z = { s with t:=P9 s.t (unP x).2 (unP x).1 z.1 }:=by unfold Z9;rw[hf]
  rw[e] at hK;obtain ⟨q,j,rfl,⟨h0,h1,h2⟩⟩:=hn.z _ _ hf;have h0:0<=q:=h0;have h1:q<N:=h1;have h2:WOk j:=h2;rcases h2 with rfl | rfl | rfl
  ·exact F4y u l p v b1 b2 N s.t.1 s.t.2.1 s.t.2.2 z.1.1 z.1.2 z.2 q hms (List.mem_cons_of_mem _ List.mem_cons_self) hf h0 h1 hn.l0 hK
  ·exact F4z u l p v b1 b2 N s.t.1 s.t.2.1 s.t.2.2 z.1.1 z.1.2 z.2 q hms (List.mem_cons_of_mem _ List.mem_cons_self) hf h0 h1 hn.l1 hK
  ·exact F5a u l p v b1 b2 N s.t.1 s.t.2.1 s.t.2.2 z.1.1 z.1.2 z.2 q hms (List.mem_cons_of_mem _ List.mem_cons_self) hf h0 h1 hn.l2 hK
theorem E8q {w0:World} {F0:Nat->Prop} {K:Kp} {ac:List Act} {a:Act} {Q:Exit->Act->World->Prop} {ρ:Option Nat} {y:Ctx} {ex:List (Nat×Obj)} (u:Value) (l:List A1) (p v:Int) (b1 b2:Nat) (N:Nat) (s:NxT) (z:Plc) (hn:NOk N s) (hz:A0l N z.1) (hb1:w0.heap.size<=b1) (hb2:w0.heap.size<=b2) (hne:b1≠b2) (hex:∀e∈ex,e.1≠b1∧e.1≠b2) (hms:Ms w0 F0 K ac a ((b1,I7 s.f)::(b2,I7 s.z)::ex) (nxM u l p v b1 b2 N s.t.1 s.t.2.1 s.t.2.2 z.1.1 z.1.2 z.2) y)
  (hK:∀y' b',Ms w0 F0 K ac b' ((b1,I7 (A0q s z).f)::(b2,I7 (A0q s z).z)::ex) (nxZ u l p v b1 b2 N (A0q s z).t) y' -> Wq Try.prog Q [] ac .normal b' y'.w ρ):Wq Try.prog Q [.code (rfB A0j)] ac .normal a y.w ρ:=by
 obtain ⟨h1,x,hx⟩:=C6a hn hz;obtain ⟨q,j,rfl,-⟩:=h1.f _ _ hx;refine E8h u l p v b1 b2 N s z hn hb1 hne (fun e he=>(hex e he).1) hms fun y1 a1 hm1=>?_
 refine G1o u l p v b1 b2 N _ _ _ z.1.1 z.1.2 z.2 hb2 hne (fun e he=>(hex e he).2) hm1 fun y2 a2 hm2=>?_
 refine F4x u l p v b1 b2 N (Z9 s z).t z.1.1 z.1.2 z.2 q j hz.2.2 hz.1 hz.2.1 ⟨h1.l0,h1.l1,h1.l2⟩ hm2 List.mem_cons_self hx fun y3 a3 hm3=>hK _ _ ?_
 have e:(A0q s z).t=P9 (Z9 s z).t z.1.2 z.1.1 (q,j):=by
  show P9 (Z9 s z).t z.1.2 z.1.1 (unP ((G1 (Z9 s z).f.1 z.2).getD undef))=_;rw[hx];rfl
 have e2:(A0q s z).z=A2a s.z z.2 (K6 z.1.1 z.1.2):=by
  show A2a (Z9 s z).z z.2 _=_;rw[G1g]
 rw[e,e2];exact hm3
end

section

/-- Row w as it begins: each place itself. -/
def idL (n w:Nat):List (Int×Int):=(List.range n).map fun (i:Nat)=>((i:Int),(w:Int))
theorem O2 (n w:Nat):(idL n w).length=n:=by simp [idL]
theorem B8h (w:Nat):idL 0 w=[]:=rfl
theorem B8g (n w:Nat):idL (n+1) w=idL n w++[((n:Int),(w:Int))]:=by
 unfold idL;rw[List.range_succ,List.map_append];rfl
theorem F5h {w0:World} {F0:Nat->Prop} {K:Kp} {Q:Exit->Act->World->Prop} (l:List A1) (p v log:Int) (m1 m2:Nat) (L1 L2:List (Int×Int)) (N:Nat) (hN:N<=65536) (next:∀ac a y,Sim w0 F0 K ac (nxO l p v log 1 N m1 m2 (idL N 0) L1 L2) y a->Wq Try.prog Q (D5 A4i) ac .normal a y.w)
    {ac:List Act} {a:Act} {y:Ctx} (h0:Sim w0 F0 K ac (E8i l p v log 0 m1 m2 (idL 0 0) L1 L2 N ((0:Nat):Int)) y a):Wq Try.prog Q A8q ac .normal a y.w:=by
  refine I2 (fun i:{ i:Nat // i<=N }=>fun ac a W=>∃y,W=y.w∧Sim w0 F0 K ac (E8i l p v log i.1 m1 m2 (idL i.1 0) L1 L2 N i.1) y a) (fun i=>N-i.1) (c:=lpC A8q) (k:=lpR A8q) (by kernel_rfl) (fun i ih ac b w hI=>?_) ⟨0,Nat.zero_le _⟩ ⟨y,rfl,h0⟩
  obtain ⟨i,hi⟩:=i;obtain ⟨y,rfl,hs⟩:=hI;simp only at hs ih
  by_cases h:i<N
  · refine H0g l p v log i m1 m2 (idL i 0) L1 L2 N i ⟨decide_eq_true (by omega),by decide,by decide,by rw[O2];omega,by rw[O2];exact Nat.le_trans (by omega:i+1<=65536) (by decide),(O2 i 0).symm,rfl,by decide,by decide,trivial⟩ hs fun ac cZ aZ hs2=>?_
    have hw:wrap IntKind.i64 ((i:Int)+1)=((i+1:Nat):Int):=by rw[B0 (by omega) (by omega)];omega
    rw[hw,O2] at hs2;refine ih ⟨i+1,by omega⟩ (by show N-(i+1)<N-i;omega) ac aZ _ ⟨cZ,rfl,?_⟩
    show Sim w0 F0 K ac (E8i l p v log (i+1) m1 m2 (idL (i+1) 0) L1 L2 N ((i+1:Nat):Int)) cZ aZ;rw[B8g];exact hs2.nx _
  · have e:i=N:=by omega
    subst e;refine H0j l p v log i m1 m2 (idL i 0) L1 L2 i i ⟨decide_eq_false (by omega),trivial⟩ hs fun ac cZ aZ hs2=>?_
    exact next ac aZ cZ (hs2.nx _)
theorem F5i {w0:World} {F0:Nat->Prop} {K:Kp} {Q:Exit->Act->World->Prop} (l:List A1) (p v log:Int) (m0 m2:Nat) (L0 L2:List (Int×Int)) (N:Nat) (hN:N<=65536) (next:∀ac a y,Sim w0 F0 K ac (nxO l p v log 2 m0 N m2 L0 (idL N 1) L2) y a->Wq Try.prog Q (D5 A4i) ac .normal a y.w)
    {ac:List Act} {a:Act} {y:Ctx} (h0:Sim w0 F0 K ac (E8j l p v log m0 0 m2 L0 (idL 0 1) L2 N ((0:Nat):Int)) y a):Wq Try.prog Q A8r ac .normal a y.w:=by
  refine I2 (fun i:{ i:Nat // i<=N }=>fun ac a W=>∃y,W=y.w∧Sim w0 F0 K ac (E8j l p v log m0 i.1 m2 L0 (idL i.1 1) L2 N i.1) y a) (fun i=>N-i.1) (c:=lpC A8r) (k:=lpR A8r) (by kernel_rfl) (fun i ih ac b w hI=>?_) ⟨0,Nat.zero_le _⟩ ⟨y,rfl,h0⟩
  obtain ⟨i,hi⟩:=i;obtain ⟨y,rfl,hs⟩:=hI;simp only at hs ih
  by_cases h:i<N
  · refine H0h l p v log m0 i m2 L0 (idL i 1) L2 N i ⟨decide_eq_true (by omega),by decide,by decide,by rw[O2];omega,by rw[O2];exact Nat.le_trans (by omega:i+1<=65536) (by decide),(O2 i 1).symm,rfl,by decide,by decide,trivial⟩ hs fun ac cZ aZ hs2=>?_
    have hw:wrap IntKind.i64 ((i:Int)+1)=((i+1:Nat):Int):=by rw[B0 (by omega) (by omega)];omega
    rw[hw,O2] at hs2;refine ih ⟨i+1,by omega⟩ (by show N-(i+1)<N-i;omega) ac aZ _ ⟨cZ,rfl,?_⟩
    show Sim w0 F0 K ac (E8j l p v log m0 (i+1) m2 L0 (idL (i+1) 1) L2 N ((i+1:Nat):Int)) cZ aZ;rw[B8g];exact hs2.nx _
  · have e:i=N:=by omega
    subst e;refine H0k l p v log m0 i m2 L0 (idL i 1) L2 i i ⟨decide_eq_false (by omega),trivial⟩ hs fun ac cZ aZ hs2=>?_
    exact next ac aZ cZ (hs2.nx _)
theorem F5j {w0:World} {F0:Nat->Prop} {K:Kp} {Q:Exit->Act->World->Prop} (l:List A1) (p v log:Int) (m0 m1:Nat) (L0 L1:List (Int×Int)) (N:Nat) (hN:N<=65536) (next:∀ac a y,Sim w0 F0 K ac (nxO l p v log 3 m0 m1 N L0 L1 (idL N 2)) y a->Wq Try.prog Q (D5 A4i) ac .normal a y.w)
    {ac:List Act} {a:Act} {y:Ctx} (h0:Sim w0 F0 K ac (E8k l p v log m0 m1 0 L0 L1 (idL 0 2) N ((0:Nat):Int)) y a):Wq Try.prog Q A8s ac .normal a y.w:=by
  refine I2 (fun i:{ i:Nat // i<=N }=>fun ac a W=>∃y,W=y.w∧Sim w0 F0 K ac (E8k l p v log m0 m1 i.1 L0 L1 (idL i.1 2) N i.1) y a) (fun i=>N-i.1) (c:=lpC A8s) (k:=lpR A8s) (by kernel_rfl) (fun i ih ac b w hI=>?_) ⟨0,Nat.zero_le _⟩ ⟨y,rfl,h0⟩
  obtain ⟨i,hi⟩:=i;obtain ⟨y,rfl,hs⟩:=hI;simp only at hs ih
  by_cases h:i<N
  · refine H0i l p v log m0 m1 i L0 L1 (idL i 2) N i ⟨decide_eq_true (by omega),by decide,by decide,by rw[O2];omega,by rw[O2];exact Nat.le_trans (by omega:i+1<=65536) (by decide),(O2 i 2).symm,rfl,by decide,by decide,trivial⟩ hs fun ac cZ aZ hs2=>?_
    have hw:wrap IntKind.i64 ((i:Int)+1)=((i+1:Nat):Int):=by rw[B0 (by omega) (by omega)];omega
    rw[hw,O2] at hs2;refine ih ⟨i+1,by omega⟩ (by show N-(i+1)<N-i;omega) ac aZ _ ⟨cZ,rfl,?_⟩
    show Sim w0 F0 K ac (E8k l p v log m0 m1 (i+1) L0 L1 (idL (i+1) 2) N ((i+1:Nat):Int)) cZ aZ;rw[B8g];exact hs2.nx _
  · have e:i=N:=by omega
    subst e;refine H0l l p v log m0 m1 i L0 L1 (idL i 2) i i ⟨decide_eq_false (by omega),trivial⟩ hs fun ac cZ aZ hs2=>?_
    exact next ac aZ cZ (hs2.nx _)
/-- Its rows are laid: each place stands at itself. -/
theorem F5k {w0:World} {F0:Nat->Prop} {K:Kp} {Q:Exit->Act->World->Prop} (l:List A1) (p v log:Int) (N:Nat) (hN:N<=65536) (h0:0<=log) (hw:wrap IntKind.i64 (1*2 ^ min log.toNat 64)=(N:Int)) (next:∀ac a y,Sim w0 F0 K ac (nxO l p v log 3 N N N (idL N 0) (idL N 1) (idL N 2)) y a->Wq Try.prog Q (B5 A4i) ac .normal a y.w)
    {ac:List Act} {a:Act} {y:Ctx} (hs:Sim w0 F0 K ac (nxO l p v log 0 0 0 0 [] [] []) y a):Wq Try.prog Q A4i ac .normal a y.w:=by
  let I:{ w:Nat // w<=3 } -> List Act->Act->World->Prop:=fun w ac a W=>∃y,W=y.w∧Sim w0 F0 K ac (match w.1 with
    | 0=>nxO l p v log 0 0 0 0 [] [] []
    | 1=>nxO l p v log 1 N 0 0 (idL N 0) [] []
    | 2=>nxO l p v log 2 N N 0 (idL N 0) (idL N 1) []
    | _=>nxO l p v log 3 N N N (idL N 0) (idL N 1) (idL N 2)) y a
  have l0:(0:Nat)<=3:=by decide
  refine I2 I (fun w=>3-w.1) (c:=lpC A4i) (k:=lpR A4i) (by kernel_rfl) (fun w ih ac b W hI=>?_) ⟨0,l0⟩ (show I ⟨0,l0⟩ ac a y.w from ⟨y,rfl,hs⟩)
  obtain ⟨w,hw3⟩:=w;obtain ⟨y,rfl,hs⟩:=hI;match w,hw3 with
  | 0,_=>
    have hs:Sim w0 F0 K ac (nxO l p v log 0 0 0 0 [] [] []) y b:=hs;refine H0d l p v log 0 0 0 [] [] [] ⟨decide_eq_true (by decide),h0,trivial⟩ hs fun ac cZ aZ hs2=>?_
    rw[hw] at hs2;have hs2:=hs2.nx 288;refine F5h l p v log 0 0 [] [] N hN (fun ac a y h=>ih ⟨1,by decide⟩ (by show 3-1<3-0;decide) ac a _ ⟨y,rfl,h⟩) ?_
    rw[B8h,show ((0:Nat):Int)=0 from rfl]
    exact hs2
  | 1,_=>
    have hs:Sim w0 F0 K ac (nxO l p v log 1 N 0 0 (idL N 0) [] []) y b:=hs;refine H0e l p v log N 0 0 (idL N 0) [] [] ⟨decide_eq_true (by decide),h0,trivial⟩ hs fun ac cZ aZ hs2=>?_
    rw[hw] at hs2;have hs2:=hs2.nx 288;refine F5i l p v log N 0 (idL N 0) [] N hN (fun ac a y h=>ih ⟨2,by decide⟩ (by show 3-2<3-1;decide) ac a _ ⟨y,rfl,h⟩) ?_
    rw[B8h,show ((0:Nat):Int)=0 from rfl]
    exact hs2
  | 2,_=>
    have hs:Sim w0 F0 K ac (nxO l p v log 2 N N 0 (idL N 0) (idL N 1) []) y b:=hs;refine H0f l p v log N N 0 (idL N 0) (idL N 1) [] ⟨decide_eq_true (by decide),h0,trivial⟩ hs fun ac cZ aZ hs2=>?_
    rw[hw] at hs2;have hs2:=hs2.nx 288;refine F5j l p v log N N (idL N 0) (idL N 1) N hN (fun ac a y h=>ih ⟨3,by decide⟩ (by show 3-3<3-2;decide) ac a _ ⟨y,rfl,h⟩) ?_
    rw[B8h,show ((0:Nat):Int)=0 from rfl]
    exact hs2
  | 3,_=>exact next ac b y hs
end

section
section
variable {w0:World} {F0:Nat->Prop} {K:Kp} {ac:List Act} {Q:Exit->Act->World->Prop} {cX:Ctx} {aX:Act}

theorem nxR (u:Value) (l:List A1) (p v:Int) (b1 b2:Nat) (N:Nat) (L0 L1 L2:List (Int×Int)):A3 []->Sg Try.prog (nxS u l p v b1 b2 N L0 L1 L2) (A5 81 [4,5] [.pt 32 0,.ii (0:Int)] [32,65,66,67] [(eF_ [(.slc 65 0 N 2),(.slc 66 0 N 2),(.slc 67 0 N 2)]),(eQ_ (Sq.place L0)),(eQ_ (Sq.place L1)),(eQ_ (Sq.place L2))] 432 [] []) .ret ([]) (rfR A0j):=sgA false 3000 [] J5
def nxQ (N:Nat) (L0 L1 L2:List (Int×Int)):St:=A5 81 [4,5] [.pt 32 0,.ii (0:Int)] [32,65,66,67] [(eF_ [(.slc 65 0 N 2),(.slc 66 0 N 2),(.slc 67 0 N 2)]),(eQ_ (Sq.place L0)),(eQ_ (Sq.place L1)),(eQ_ (Sq.place L2))] 432 [] []
theorem E8m (N:Nat) (L0 L1 L2:List (Int×Int)):C2 nxA Try.f32 false 3000 (⟨[],.ret,nxQ N L0 L1 L2⟩) [] [65,66,67] []=(some ([],((.t [(.a [(.slc 0 0 N 2),(.slc 1 0 N 2),(.slc 2 0 N 2)]),(.c (.int .i64 (0:Int)))]),[(.sq (Sq.place L0)),(.sq (Sq.place L1)),(.sq (Sq.place L2))]))):=by kernel_rfl
end
end

section

/-- What Next tells. -/
def nx0 (N:Nat):NxT:=⟨([],0),([],0),idL N 0,idL N 1,idL N 2⟩
def K4 (l:List A1) (N:Nat):NxT:=(plT l 3).foldl A0q (nx0 N)
theorem B9k {N:Nat}:∀(pre:List Plc) {s:NxT},NOk N s->(∀z∈pre,A0l N z.1)->NOk N (pre.foldl A0q s)
 | [],_,h,_=>h
 | z::pre,_,h,hz=>B9k pre (D7q h (hz z List.mem_cons_self)) fun q hq=>hz q (List.mem_cons_of_mem _ hq)
theorem D4i (N:Nat):NOk N (nx0 N):=⟨fun _ _ h=>(by cases h),fun _ _ h=>(by cases h),fun _ _ h=>(by cases h),O2 _ _,O2 _ _,O2 _ _⟩
theorem C6o {G:List A1} {N w:Nat} (hw:WOk w):∀{n:Nat},n<=N->∀z∈plW G w n,A0l N z.1
 | 0,_,z,hz=>by cases hz
 | n+1,h,z,hz=>by
  have hz:z∈plW G w n++_:=hz;rcases List.mem_append.1 hz with hz | hz
  ·exact C6o hw (by omega) z hz
  ·split at hz
   ·rw[List.mem_singleton] at hz
    subst hz;exact ⟨by show (0:Int)<=(n:Int);omega,by show (n:Int)<N;omega,hw⟩
   ·cases hz
theorem D4q {G:List A1} {N:Nat} (h:G.length<=N):∀z∈plT G 3,A0l N z.1:=fun z hz=>by
 have hz:z∈(([]++plW G 0 G.length)++plW G 1 G.length)++plW G 2 G.length:=hz;rcases List.mem_append.1 hz with hz | hz
 ·rcases List.mem_append.1 hz with hz | hz
  ·exact C6o (.inl rfl) h z hz
  ·exact C6o (.inr (.inl rfl)) h z hz
 ·exact C6o (.inr (.inr rfl)) h z hz
def E1b (u:Value) (l:List A1) (p v:Int) (N:Nat) (L0 L1 L2:List (Int×Int)):St:=A5 81 [2,4,6] [.v (.c (.ptr 16 0)),.v (.c (.ptr 32 0)),.v (.c (.ptr 64 0))] [16,32,64,65,66,67] [some (.fl [.vsl u (.gate l),.int .i64 p,.int .i64 v]),some (.fl [.val (.slice none 0 0),.val (.slice none 0 0),.val (.slice none 0 0)]),some (.fl [.slc 65 0 N 2,.slc 66 0 N 2,.slc 67 0 N 2]),some (.sq (.place L0)),some (.sq (.place L1)),some (.sq (.place L2))] 208 [] []
theorem G1j (u:Value) (l:List A1) (p v:Int) (N:Nat) (L0 L1 L2:List (Int×Int)):B9o D0l (E1b u l p v N L0 L1 L2).t=some (some 43,.makeMap 127 none,127):=by kernel_rfl
theorem G1k (u:Value) (l:List A1) (p v:Int) (N:Nat) (L0 L1 L2:List (Int×Int)) (b1:Nat):B9o (I3 D0l) (J7 (E1b u l p v N L0 L1 L2).t 43 (.v (.c (.val (.map (some b1))))))=some (some 44,.makeMap 127 none,127):=by kernel_rfl
theorem size_alloc (w:World) (o:Obj):(w.alloc o).heap.size=w.heap.size+1:=by
 first
  | (unfold World.alloc;simp only[Array.size_push];done)
  | (show (w.heap.push o).size=_;exact Array.size_push _)
  | (rw[World.alloc_eq];exact Array.size_push _)
/-- The rounds. -/
theorem E1c {x:Ctx} (hk:∀p,x.k p = .no) (hF:∀b,x.F b->b<x.w.heap.size) (u:Value) (l:List A1) (p v:Int) (b1 b2 N:Nat) (hlim:l.length<=4096) (hN:l.length<=N) (hb1:x.w.heap.size<=b1) (hb2:x.w.heap.size<=b2) (hne:b1≠b2) {ac:List Act} {a:Act} {y:Ctx}
  (hms:Ms x.w x.F Z8 ac a [(b1,I7 ([],0)),(b2,I7 ([],0))] (nxS u l p v b1 b2 N (idL N 0) (idL N 1) (idL N 2)) y) :
  Wq Try.prog (bodyPostM Fence.wide 0 Try.prog Try.f32 (RF x (.t [.a [.slc 0 0 N 2,.slc 1 0 N 2,.slc 2 0 N 2],.c (.int .i64 0)]) [.sq (.place (K4 l N).t.1),.sq (.place (K4 l N).t.2.1),.sq (.place (K4 l N).t.2.2)])) A0j ac .normal a y.w:=by
 obtain ⟨e1,e2⟩:=B5r (k:=A0j) (by kernel_rfl)
 rw[e1];have eP:(rfP A0j).toList=[47,48]:=by kernel_rfl
 have eG:rfG A0j = .tmp 46:=by kernel_rfl
 have hok:∀pre z,(∃t,plT l 3=pre++z::t)->NOk N (pre.foldl A0q (nx0 N))∧A0l N z.1:=fun pre z ⟨t,ht⟩=>
  have h:=D4q hN
  ⟨B9k pre (D4i N) fun q hq=>h q (by rw[ht];exact List.mem_append_left _ hq),h z (by rw[ht];exact List.mem_append_right _ List.mem_cons_self)⟩
 have hlt1:b1<y.w.heap.size:=(Array.getElem?_eq_some_iff.1 (hms.obj _ List.mem_cons_self)).1;have hlt2:b2<y.w.heap.size:=(Array.getElem?_eq_some_iff.1 (hms.obj _ (List.mem_cons_of_mem _ List.mem_cons_self))).1;refine D0y (ps:=rfP A0j) e2 hms.sim (gf:=84) (caps:=[(320,0)]) (A4 Try.func84 rfl rfl) (fun pre=>nxS u l p v b1 b2 N (pre.foldl A0q (nx0 N)).t.1 (pre.foldl A0q (nx0 N)).t.2.1 (pre.foldl A0q (nx0 N)).t.2.2) (fun s=>by rw[eG];rfl) ⟨_,rfl⟩ (plT l 3)
  (fun z=>[.v (.a [.int .i64 z.1.1,.int .i64 z.1.2]),.v (.c (.int .i64 z.2))]) A5s (fun y z=>.cons ⟨_,rfl,_,_,rfl,⟨0,rfl⟩,_,_,rfl,⟨0,rfl⟩,rfl⟩ (.cons ⟨rfl,0,rfl⟩ .nil)) (fun z=>by rw[<-Array.length_toList,eP];rfl) (fun pre q hq=>?_) (D0s (v:=u) hlim fun s=>rfl)
  (fun pre=>[(b1,I7 (pre.foldl A0q (nx0 N)).f),(b2,I7 (pre.foldl A0q (nx0 N)).z)]) (fun s e he=>?_) hms
  (fun pre z=>nxM u l p v b1 b2 N (pre.foldl A0q (nx0 N)).t.1 (pre.foldl A0q (nx0 N)).t.2.1 (pre.foldl A0q (nx0 N)).t.2.2 z.1.1 z.1.2 z.2) (fun pre z=>nxZ u l p v b1 b2 N ((pre++[z]).foldl A0q (nx0 N)).t) (fun pre z _=>⟨_,rfl⟩)
  (fun pre z hz w1 F1 K1 as1 Q1 n y b hs2 hQ=>?_) (fun pre z hz ex as1 Q1 n y b hex hm2 hQ=>?_) fun D y hm2 hD hFD hd=>?_
 ·rw[eP] at hq
  show q<81;simp only[List.mem_cons,List.not_mem_nil,or_false] at hq;rcases hq with rfl | rfl<;>decide
 ·simp only[List.mem_cons,List.not_mem_nil,or_false] at he
  rcases he with rfl | rfl
  ·exact hlt1
  ·exact hlt2
 ·rw[eP] at hs2
  exact nxF u l p v b1 b2 N _ _ _ z.1.1 z.1.2 z.2 trivial hs2 fun cZ aZ hs3=>⟨hQ _ _ (hs3.nx _)⟩
 ·obtain ⟨h1,h2⟩:=hok pre z hz
  refine E8q u l p v b1 b2 N (pre.foldl A0q (nx0 N)) z h1 h2 hb1 hb2 hne (fun e he=>⟨fun h=>?_,fun h=>?_⟩) hm2 fun y' b' h=>⟨hQ _ _ ?_⟩
  ·have:=hex e he;omega
  ·have:=hex e he;omega
  ·have e:(pre++[z]).foldl A0q (nx0 N)=A0q (pre.foldl A0q (nx0 N)) z:=by rw[List.foldl_append];rfl
   rw[e];exact h
 ·have hs3:=hm2.sim.marked rfl rfl D
  refine nxR u l p v b1 b2 N _ _ _ trivial hs3 fun ac cV aV hs6=>⟨?_⟩
  have hs7:Sim y.w y.F (A1z y Z8 (A1h D)) ac (nxQ N (K4 l N).t.1 (K4 l N).t.2.1 (K4 l N).t.2.2) cV aV:=hs6;exact B2p J5 hk hF (E8m N _ _ _) trivial (fun y v hd=>hd) hm2.sim hD hFD hd rfl hs7
end

section

theorem E8a (l:List A1) (p v log:Int) (N:Nat) (hr:C6 l p v=true) (h0:0<=log) (h1:log<=16) (hN:N=2 ^ log.toNat) (h2:l.length<=N) (hlim:l.length<=4096) :
  FnD Try.prog 32 [J2 l p v,.v (.c (.int .i64 log))] (.t [.a [.slc 0 0 N 2,.slc 1 0 N 2,.slc 2 0 N 2],.c (.int .i64 0)]) [.sq (.place (K4 l N).t.1),.sq (.place (K4 l N).t.2.1),.sq (.place (K4 l N).t.2.2)]:=by
 refine A8b (fn:=Try.f32) (c:=B2 Try.f32) Try.func32 rfl rfl fun x b hk hF hs=>?_
 refine nx l p v log ⟨hr,h0,h1,by rw[<-hN];exact h2,rfl,trivial⟩ hs fun ac cY aY hs1=>?_
 have n1:=hs1.nilBlk (p:=65) (z:=64) (l' := [.slc 65 0 0 2,.val (.slice none 0 0),.val (.slice none 0 0)]) (ml' := [16,32,64,65]) (ens' := [some (.fl [.sl (.gate l),.int .i64 p,.int .i64 v]),some (.fl [.val (.slice none 0 0),.val (.slice none 0 0),.val (.slice none 0 0)]),some (.fl [.slc 65 0 0 2,.val (.slice none 0 0),.val (.slice none 0 0)]),some (.sq (.place []))]) (q:=.place []) rfl (by decide) rfl rfl
  ⟨.inr (.inl ⟨2,rfl,rfl⟩),.inl rfl,.inl rfl,trivial⟩
  (fun r=>by
   simp only[E1];by_cases h0:r=16
   ·subst h0;rfl
   by_cases h1:r=32
   ·subst h1;rfl
   by_cases h2:r=64
   ·subst h2;rfl
   by_cases h3:r=65
   ·subst h3;rfl
   simp only[beq_iff_eq,h0,h1,h2,h3,if_false])
 have n2:=n1.nilBlk (p:=66) (z:=64) (l' := [.slc 65 0 0 2,.slc 66 0 0 2,.val (.slice none 0 0)]) (ml' := [16,32,64,65,66]) (ens' := [some (.fl [.sl (.gate l),.int .i64 p,.int .i64 v]),some (.fl [.val (.slice none 0 0),.val (.slice none 0 0),.val (.slice none 0 0)]),some (.fl [.slc 65 0 0 2,.slc 66 0 0 2,.val (.slice none 0 0)]),some (.sq (.place [])),some (.sq (.place []))]) (q:=.place []) rfl (by decide) rfl rfl
  ⟨.inl rfl,.inr (.inl ⟨2,rfl,rfl⟩),.inl rfl,trivial⟩
  (fun r=>by
   simp only[E1];by_cases h0:r=16
   ·subst h0;rfl
   by_cases h1:r=32
   ·subst h1;rfl
   by_cases h2:r=64
   ·subst h2;rfl
   by_cases h3:r=65
   ·subst h3;rfl
   by_cases h4:r=66
   ·subst h4;rfl
   simp only[beq_iff_eq,h0,h1,h2,h3,h4,if_false])
 have n3:=n2.nilBlk (p:=67) (z:=64) (l' := [.slc 65 0 0 2,.slc 66 0 0 2,.slc 67 0 0 2]) (ml' := [16,32,64,65,66,67]) (ens' := [some (.fl [.sl (.gate l),.int .i64 p,.int .i64 v]),some (.fl [.val (.slice none 0 0),.val (.slice none 0 0),.val (.slice none 0 0)]),some (.fl [.slc 65 0 0 2,.slc 66 0 0 2,.slc 67 0 0 2]),some (.sq (.place [])),some (.sq (.place [])),some (.sq (.place []))]) (q:=.place []) rfl (by decide) rfl rfl
  ⟨.inl rfl,.inl rfl,.inr (.inl ⟨2,rfl,rfl⟩),trivial⟩
  (fun r=>by
   simp only[E1];by_cases h0:r=16
   ·subst h0;rfl
   by_cases h1:r=32
   ·subst h1;rfl
   by_cases h2:r=64
   ·subst h2;rfl
   by_cases h3:r=65
   ·subst h3;rfl
   by_cases h4:r=66
   ·subst h4;rfl
   by_cases h5:r=67
   ·subst h5;rfl
   simp only[beq_iff_eq,h0,h1,h2,h3,h4,h5,if_false])
 change Wq Try.prog _ _ _ _ _ (F9 (F9 (F9 cY 65) 66) 67).w
 have hp:2 ^ log.toNat<=2 ^ 16:=Nat.pow_le_pow_right (by decide) (by omega)
 have hN6:N<=65536:=by rw[hN];exact hp
 have hw:wrap IntKind.i64 (1*2 ^ min log.toNat 64)=(N:Int):=by
  obtain ⟨e1,_⟩:=S4.G3m h0 (by omega)
  rw[hN];exact e1
 refine F5k l p v log N hN6 h0 hw (fun ac aZ cZ hs2=>?_) (n3.nx 192)
 refine nxD l p v log N N N (idL N 0) (idL N 1) (idL N 2) ⟨decide_eq_false (by decide),trivial⟩ hs2 fun ac cD aD hs3=>?_
 obtain ⟨u,hu⟩:=hs3.vslBlk (z:=16) (q:=.gate l) (l:=[.int .i64 p,.int .i64 v]) rfl;have hs4:Sim x.w x.F Z8 ac (E1b u l p v N (idL N 0) (idL N 1) (idL N 2)) cD aD:=hu [some (.fl [.vsl u (.gate l),.int .i64 p,.int .i64 v]),some (.fl [.val (.slice none 0 0),.val (.slice none 0 0),.val (.slice none 0 0)]),some (.fl [.slc 65 0 N 2,.slc 66 0 N 2,.slc 67 0 N 2]),some (.sq (.place (idL N 0))),some (.sq (.place (idL N 1))),some (.sq (.place (idL N 2)))] (fun r=>by
   simp only[E1];by_cases h0:r=16
   ·subst h0;rfl
   by_cases h1:r=32
   ·subst h1;rfl
   by_cases h2:r=64
   ·subst h2;rfl
   by_cases h3:r=65
   ·subst h3;rfl
   by_cases h4:r=66
   ·subst h4;rfl
   by_cases h5:r=67
   ·subst h5;rfl
   simp only[beq_iff_eq,h0,h1,h2,h3,h4,h5,if_false])
 have m0:Ms x.w x.F Z8 ac aD [] (E1b u l p v N (idL N 0) (idL N 1) (idL N 2)) cD:=⟨hs4,fun _ h=>(by cases h),fun _ h=>(by cases h),fun _ h=>(by cases h)⟩
 have hbD:x.w.heap.size<=cD.w.heap.size:=hs4.base.size;refine A1j (G1j u l p v N (idL N 0) (idL N 1) (idL N 2)) hs4.t (by intro c h;cases h) (w' := cD.w.alloc (.map #[] 0)) (v:=.map (some cD.w.heap.size)) (fun o h1 h2=>.inl (by unfold execOp;rw[h1];rfl)) ?_
 have m1:=m0.made (d:=43) (show 43<81 by decide)
 refine A1j (σ:={ E1b u l p v N (idL N 0) (idL N 1) (idL N 2) with t:=J7 (E1b u l p v N (idL N 0) (idL N 1) (idL N 2)).t 43 (.v (.c (.val (.map (some cD.w.heap.size))))) }) (G1k u l p v N (idL N 0) (idL N 1) (idL N 2) cD.w.heap.size) m1.sim.t (by intro c h;cases h) (w' := (cD.w.alloc (.map #[] 0)).alloc (.map #[] 0)) (v:=.map (some (cD.w.alloc (.map #[] 0)).heap.size)) (fun o h1 h2=>.inl (by unfold execOp;rw[h1];rfl)) ?_
 have m2:=m1.made (d:=44) (show 44<81 by decide)
 have hsz:=size_alloc cD.w (.map #[] 0);refine nxE u l p v cD.w.heap.size (cD.w.alloc (.map #[] 0)).heap.size N N N (idL N 0) (idL N 1) (idL N 2) trivial (m2.nx 240).sim.own fun ac cE aE hs5=>?_
 have m3:=(m2.step hs5).sub (l' := [(cD.w.heap.size,I7 ([],0)),((cD.w.alloc (.map #[] 0)).heap.size,I7 ([],0))]) (fun e he=>by
  simp only[List.mem_cons,List.not_mem_nil,or_false] at he;rcases he with rfl | rfl
  ·exact List.mem_cons_of_mem _ List.mem_cons_self
  ·exact List.mem_cons_self)
 exact E1c hk hF u l p v cD.w.heap.size (cD.w.alloc (.map #[] 0)).heap.size N hlim h2 hbD (by omega) (by omega) (m3.nx 384)
end

section

def ROk (N:Nat) (t:Rw3):Prop:=(∀z∈t.1,A0l N z)∧(∀z∈t.2.1,A0l N z)∧∀z∈t.2.2,A0l N z
theorem C0k {N:Nat} {L:List (Int×Int)} (h:∀z∈L,A0l N z) {x:Int×Int} (hx:A0l N x) (i:Nat):∀z∈L.set i x,A0l N z:=fun z hz=>
 (List.mem_or_eq_of_mem_set hz).elim (h z) (fun e=>e ▸ hx)
theorem C3p {N:Nat} {t:Rw3} (h:ROk N t) (w i:Int) {x:Int×Int} (hx:A0l N x):ROk N (P9 t w i x):=by
 unfold P9;split
 ·exact ⟨C0k h.1 hx _,h.2.1,h.2.2⟩
 ·split
  ·exact ⟨h.1,C0k h.2.1 hx _,h.2.2⟩
  ·exact ⟨h.1,h.2.1,C0k h.2.2 hx _⟩
theorem E8g {N:Nat} {s:NxT} (h:NOk N s) (hr:ROk N s.t) {z:Plc} (hz:A0l N z.1):ROk N (A0q s z).t:=by
 obtain ⟨h1,x,hx⟩:=C6a h hz;obtain ⟨r,w,rfl,hp⟩:=h1.f _ _ hx;have h2:ROk N (Z9 s z).t:=by
  unfold Z9;split
  ·exact C3p hr _ _ hz
  ·exact hr
 show ROk N (P9 (Z9 s z).t z.1.2 z.1.1 (unP ((G1 (Z9 s z).f.1 z.2).getD undef)));rw[hx];exact C3p h2 _ _ hp
theorem D7r {N:Nat}:∀(pre:List Plc) {s:NxT},NOk N s->ROk N s.t->(∀z∈pre,A0l N z.1)->ROk N (pre.foldl A0q s).t
 | [],_,_,h,_=>h
 | z::pre,_,h,hr,hz=>D7r pre (D7q h (hz z List.mem_cons_self)) (E8g h hr (hz z List.mem_cons_self)) fun q hq=>hz q (List.mem_cons_of_mem _ hq)
theorem D3p {N w:Nat} (hw:WOk w):∀z∈idL N w,A0l N z:=fun z hz=>by
 unfold idL at hz;obtain ⟨i,hi,rfl⟩:=List.mem_map.1 hz;have hi:=List.mem_range.1 hi;exact ⟨by show (0:Int)<=(i:Int);omega,by show (i:Int)<N;omega,hw⟩
theorem G1r {l:List A1} {N:Nat} (h:l.length<=N):ROk N (K4 l N).t:=
 D7r _ (D4i N) ⟨D3p (.inl rfl),D3p (.inr (.inl rfl)),D3p (.inr (.inr rfl))⟩ (D4q h)
theorem G1q {l:List A1} {N:Nat} (h:l.length<=N):(K4 l N).t.1.length=N∧(K4 l N).t.2.1.length=N∧(K4 l N).t.2.2.length=N:=
 have e:=B9k (plT l 3) (D4i N) (D4q h)
 ⟨e.l0,e.l1,e.l2⟩
theorem B9s {N:Nat} {L:List (Int×Int)} (h:∀z∈L,A0l N z) {i:Nat} (hi:i<L.length):A0l N (L.getD i (0,0)):=by
 rw[List.getD,List.getElem?_eq_getElem hi];exact h _ (List.getElem_mem hi)
end

namespace S4
section
variable {w0:World} {F0:Nat->Prop} {K:Kp} {ac:List Act} {Q:Exit->Act->World->Prop} {cX:Ctx} {aX:Act}

def vlE (log:Int):List U4:=A3h log (D2 log)
def vlN (log:Int):Nat:=2 ^ log.toNat
def C6d:B7
 | [.v (.c (.int .i64 log))]=>some ([K0 log=true],.t [.a [.slc 0 0 (vlE log).length 4,.slc 1 0 (vlE log).length 4,.slc 2 0 (vlE log).length 4],.c (.int .i64 0)],[.sq (.s (G2 (vlE log) 0 (vlE log).length)),.sq (.s (G2 (vlE log) 1 (vlE log).length)),.sq (.s (G2 (vlE log) 2 (vlE log).length))])
 | _=>none
def vA:Env:=dT.set (E8 dT.fn 33 C6d)
theorem G7h:A6 Try.prog vA:=A9 A3f 33 C6d (A4 Try.func33 rfl rfl) fun args o r es h ho=>by
 unfold C6d at h;split at h
 ·cases h;exact D0k _ ho.1 _ rfl
 ·cases h
def C6f:B7
 | [.v (.a [.sl (.gate l),.int .i64 p,.int .i64 v]),.v (.c (.int .i64 log))]=>some ([C6 l p v=true,0<=log,log<=16,l.length<=vlN log,l.length<=4096],.t [.a [.slc 0 0 (vlN log) 2,.slc 1 0 (vlN log) 2,.slc 2 0 (vlN log) 2],.c (.int .i64 0)],[.sq (.place (K4 l (vlN log)).t.1),.sq (.place (K4 l (vlN log)).t.2.1),.sq (.place (K4 l (vlN log)).t.2.2)])
 | _=>none
def vB:Env:=vA.set (E8 vA.fn 32 C6f)
theorem Q7:A6 Try.prog vB:=A9 G7h 32 C6f (A4 Try.func32 rfl rfl) fun args o r es h ho=>by
 unfold C6f at h;split at h
 ·cases h;exact E8a _ _ _ _ _ ho.1 ho.2.1 ho.2.2.1 rfl ho.2.2.2.1 ho.2.2.2.2.1
 ·cases h
def A4y:List KI:=(run vB false 3000 (⟨[.code (B2 Try.f12)],.normal,D6 Try.f12.ntmps [J2 dF dF dF,.v (.c (.int .i64 dF))]⟩:Cfg) [false,false]).cfg.k
theorem vl (l:List A1) (p v log:Int):let b:=Value.slice Option.none 0 0;let d:=S4.vlE log;let f:=S4.vlN log;let g:=eF_ [(.val b),(.val b),(.val b)];let h:=NxT.t (K4 l f);let i:Int:=0;let j:=(i != i)=false;A3 [((C6 l p v)=true),(0<=log),(log<=(16:Int)),(l.length<=f),(l.length<=4096),j,((S4.K0 log)=true),j]->Sg Try.prog (D6 Try.f12.ntmps [J2 l p v,.v (.c (.int .i64 log))]) (A5 63 [4,6,9,33,34] [.pt 32 0,.pt 64 0,.pt 336 0,(.v (.a [(.slc 112 0 f 2),(.slc 113 0 f 2),(.slc 114 0 f 2)])),.ii i] [32,64,112,113,114,272,273,274,336] [g,g,(eQ_ (Sq.place (Prod.fst h))),(eQ_ (Sq.place (Prod.fst (Prod.snd h)))),(eQ_ (Sq.place (Prod.snd (Prod.snd h)))),(eQ_ (.s (S4.G2 d i d.length))),(eQ_ (.s (S4.G2 d (1:Int) d.length))),(eQ_ (.s (S4.G2 d (2:Int) d.length))),(eF_ [(.slc 272 0 d.length 4),(.slc 273 0 d.length 4),(.slc 274 0 d.length 4)])] 448 [] []) .normal (A4y) ([.code (B2 Try.f12)]):=sgA false 3000 [false,false] Q7
def vlO (n N:Nat) (T0 T1 T2:List (Int×Int)) (S0 S1 S2:List Fr) (m0 m1 m2:Nat) (L0 L1 L2:List U4) (w:Int):St:=A5 63 [4,6,9,33,34] [.pt 32 0,.pt 64 0,.pt 336 0,.v (.a [.slc 112 0 n 2,.slc 113 0 n 2,.slc 114 0 n 2]),.v (.c (.int .i64 w))] [32,64,112,113,114,272,273,274,336,337,338,339] [(eF_ [(.val (Value.slice Option.none 0 0)),(.val (Value.slice Option.none 0 0)),(.val (Value.slice Option.none 0 0))]),some (.fl [.slc 337 0 m0 4,.slc 338 0 m1 4,.slc 339 0 m2 4]),some (.sq (.place T0)),some (.sq (.place T1)),some (.sq (.place T2)),some (.sq (.s S0)),some (.sq (.s S1)),some (.sq (.s S2)),some (.fl [.slc 272 0 N 4,.slc 273 0 N 4,.slc 274 0 N 4]),some (.sq (.fr L0)),some (.sq (.fr L1)),some (.sq (.fr L2))] 448 [] []
def C1o (n N:Nat) (T0 T1 T2:List (Int×Int)) (S0 S1 S2:List Fr) (m0 m1 m2:Nat) (L0 L1 L2:List U4) (i:Int):St:=A5 63 [4,6,9,10,33,34,38,39,40] [.pt 32 0,.pt 64 0,.pt 336 0,.ii (0:Int),(.v (.a [(.slc 112 0 n 2),(.slc 113 0 n 2),(.slc 114 0 n 2)])),.ii (0:Int),(.ci (.slc 112 0 n 2)),(.ii ((n:Nat):Int)),.v (.c (.int .i64 i))] [32,64,112,113,114,272,273,274,336,337,338,339] [(eF_ [(.val (Value.slice Option.none 0 0)),(.val (Value.slice Option.none 0 0)),(.val (Value.slice Option.none 0 0))]),(eF_ [(.slc 337 0 m0 4),(.slc 338 0 m1 4),(.slc 339 0 m2 4)]),(eQ_ (Sq.place T0)),(eQ_ (Sq.place T1)),(eQ_ (Sq.place T2)),(eQ_ (.s S0)),(eQ_ (.s S1)),(eQ_ (.s S2)),(eF_ [(.slc 272 0 N 4),(.slc 273 0 N 4),(.slc 274 0 N 4)]),(eQ_ (.fr L0)),(eQ_ (.fr L1)),(eQ_ (.fr L2))] 576 [] []
def A1s:List KI:=(run vB false 3000 ((fun (n N:Nat) (T0 T1 T2:List (Int×Int)) (S0 S1 S2:List Fr) (m0 m1 m2:Nat) (L0 L1 L2:List U4)=>(⟨B5 A4y,.normal,vlO n N T0 T1 T2 S0 S1 S2 m0 m1 m2 L0 L1 L2 0⟩:Cfg)) default default default default default default default default default default default default default default) [true]).cfg.k
theorem H3f (n N:Nat) (T0 T1 T2:List (Int×Int)) (S0 S1 S2:List Fr) (m0 m1 m2:Nat) (L0 L1 L2:List U4):A3 [((decide (0<(3:Int)))=true),(0<=(0:Int)),(0<(3:Int))]->Sg Try.prog (vlO n N T0 T1 T2 S0 S1 S2 m0 m1 m2 L0 L1 L2 0) (C1o n N T0 T1 T2 S0 S1 S2 m0 m1 m2 L0 L1 L2 (0:Int)) .normal (A1s) (B5 A4y):=sgA false 3000 [true] Q7
def C1p (n N:Nat) (T0 T1 T2:List (Int×Int)) (S0 S1 S2:List Fr) (m0 m1 m2:Nat) (L0 L1 L2:List U4) (i:Int):St:=A5 63 [4,6,9,10,33,34,38,39,40] [.pt 32 0,.pt 64 0,.pt 336 0,.ii (1:Int),(.v (.a [(.slc 112 0 n 2),(.slc 113 0 n 2),(.slc 114 0 n 2)])),.ii (1:Int),(.ci (.slc 113 0 n 2)),(.ii ((n:Nat):Int)),.v (.c (.int .i64 i))] [32,64,112,113,114,272,273,274,336,337,338,339] [(eF_ [(.val (Value.slice Option.none 0 0)),(.val (Value.slice Option.none 0 0)),(.val (Value.slice Option.none 0 0))]),(eF_ [(.slc 337 0 m0 4),(.slc 338 0 m1 4),(.slc 339 0 m2 4)]),(eQ_ (Sq.place T0)),(eQ_ (Sq.place T1)),(eQ_ (Sq.place T2)),(eQ_ (.s S0)),(eQ_ (.s S1)),(eQ_ (.s S2)),(eF_ [(.slc 272 0 N 4),(.slc 273 0 N 4),(.slc 274 0 N 4)]),(eQ_ (.fr L0)),(eQ_ (.fr L1)),(eQ_ (.fr L2))] 576 [] []
def A1t:List KI:=(run vB false 3000 ((fun (n N:Nat) (T0 T1 T2:List (Int×Int)) (S0 S1 S2:List Fr) (m0 m1 m2:Nat) (L0 L1 L2:List U4)=>(⟨B5 A4y,.normal,vlO n N T0 T1 T2 S0 S1 S2 m0 m1 m2 L0 L1 L2 1⟩:Cfg)) default default default default default default default default default default default default default default) [true]).cfg.k
theorem H3g (n N:Nat) (T0 T1 T2:List (Int×Int)) (S0 S1 S2:List Fr) (m0 m1 m2:Nat) (L0 L1 L2:List U4):let a:=(1:Int)<(3:Int);A3 [((decide a)=true),(0<=(1:Int)),a]->Sg Try.prog (vlO n N T0 T1 T2 S0 S1 S2 m0 m1 m2 L0 L1 L2 1) (C1p n N T0 T1 T2 S0 S1 S2 m0 m1 m2 L0 L1 L2 (0:Int)) .normal (A1t) (B5 A4y):=sgA false 3000 [true] Q7
def C1q (n N:Nat) (T0 T1 T2:List (Int×Int)) (S0 S1 S2:List Fr) (m0 m1 m2:Nat) (L0 L1 L2:List U4) (i:Int):St:=A5 63 [4,6,9,10,33,34,38,39,40] [.pt 32 0,.pt 64 0,.pt 336 0,.ii (2:Int),(.v (.a [(.slc 112 0 n 2),(.slc 113 0 n 2),(.slc 114 0 n 2)])),.ii (2:Int),(.ci (.slc 114 0 n 2)),(.ii ((n:Nat):Int)),.v (.c (.int .i64 i))] [32,64,112,113,114,272,273,274,336,337,338,339] [(eF_ [(.val (Value.slice Option.none 0 0)),(.val (Value.slice Option.none 0 0)),(.val (Value.slice Option.none 0 0))]),(eF_ [(.slc 337 0 m0 4),(.slc 338 0 m1 4),(.slc 339 0 m2 4)]),(eQ_ (Sq.place T0)),(eQ_ (Sq.place T1)),(eQ_ (Sq.place T2)),(eQ_ (.s S0)),(eQ_ (.s S1)),(eQ_ (.s S2)),(eF_ [(.slc 272 0 N 4),(.slc 273 0 N 4),(.slc 274 0 N 4)]),(eQ_ (.fr L0)),(eQ_ (.fr L1)),(eQ_ (.fr L2))] 576 [] []
def A1u:List KI:=(run vB false 3000 ((fun (n N:Nat) (T0 T1 T2:List (Int×Int)) (S0 S1 S2:List Fr) (m0 m1 m2:Nat) (L0 L1 L2:List U4)=>(⟨B5 A4y,.normal,vlO n N T0 T1 T2 S0 S1 S2 m0 m1 m2 L0 L1 L2 2⟩:Cfg)) default default default default default default default default default default default default default default) [true]).cfg.k
theorem H3h (n N:Nat) (T0 T1 T2:List (Int×Int)) (S0 S1 S2:List Fr) (m0 m1 m2:Nat) (L0 L1 L2:List U4):let a:=(2:Int)<(3:Int);A3 [((decide a)=true),(0<=(2:Int)),a]->Sg Try.prog (vlO n N T0 T1 T2 S0 S1 S2 m0 m1 m2 L0 L1 L2 2) (C1q n N T0 T1 T2 S0 S1 S2 m0 m1 m2 L0 L1 L2 (0:Int)) .normal (A1u) (B5 A4y):=sgA false 3000 [true] Q7
def vlQ (n N:Nat) (T0 T1 T2:List (Int×Int)) (S0 S1 S2:List Fr) (m0 m1 m2:Nat) (L0 L1 L2:List U4):St:=A5 63 [4,5] [.pt 32 0,.ii (0:Int)] [32,337,338,339] [(eF_ [(.slc 337 0 m0 4),(.slc 338 0 m1 4),(.slc 339 0 m2 4)]),(eQ_ (.fr L0)),(eQ_ (.fr L1)),(eQ_ (.fr L2))] 512 [] []
theorem vlD (n N:Nat) (T0 T1 T2:List (Int×Int)) (S0 S1 S2:List Fr) (m0 m1 m2:Nat) (L0 L1 L2:List U4):A3 [((decide ((3:Int)<(3:Int)))=false)]->Sg Try.prog (vlO n N T0 T1 T2 S0 S1 S2 m0 m1 m2 L0 L1 L2 3) (vlQ n N T0 T1 T2 S0 S1 S2 m0 m1 m2 L0 L1 L2) .ret ([]) (B5 A4y):=sgA false 3000 [false] Q7
def F1m (n N:Nat) (T0 T1 T2:List (Int×Int)) (S0 S1 S2:List Fr) (m0 m1 m2:Nat) (L0 L1 L2:List U4) (i r q:Int):St:=A5 63 [4,6,9,10,13,33,34,38,39,40] [.pt 32 0,.pt 64 0,.pt 336 0,.ii (0:Int),.pt 624 0,(.v (.a [(.slc 112 0 n 2),(.slc 113 0 n 2),(.slc 114 0 n 2)])),.ii (0:Int),(.ci (.slc 112 0 n 2)),(.ii ((n:Nat):Int)),.ii i] [32,64,112,113,114,272,273,274,336,337,338,339,624] [(eF_ [(.val (Value.slice Option.none 0 0)),(.val (Value.slice Option.none 0 0)),(.val (Value.slice Option.none 0 0))]),(eF_ [(.slc 337 0 m0 4),(.slc 338 0 m1 4),(.slc 339 0 m2 4)]),(eQ_ (Sq.place T0)),(eQ_ (Sq.place T1)),(eQ_ (Sq.place T2)),(eQ_ (.s S0)),(eQ_ (.s S1)),(eQ_ (.s S2)),(eF_ [(.slc 272 0 N 4),(.slc 273 0 N 4),(.slc 274 0 N 4)]),(eQ_ (.fr L0)),(eQ_ (.fr L1)),(eQ_ (.fr L2)),some (.fl [.int .i64 r,.int .i64 q])] 656 [] []
def C7s:List KI:=(run vB false 16 ((fun (n N:Nat) (T0 T1 T2:List (Int×Int)) (S0 S1 S2:List Fr) (m0 m1 m2:Nat) (L0 L1 L2:List U4) (i:Int)=>(⟨B5 A1s,.normal,C1o n N T0 T1 T2 S0 S1 S2 m0 m1 m2 L0 L1 L2 i⟩:Cfg)) default default default default default default default default default default default default default default default) [true]).cfg.k
theorem H3i (n N:Nat) (T0 T1 T2:List (Int×Int)) (S0 S1 S2:List Fr) (m0 m1 m2:Nat) (L0 L1 L2:List U4) (i:Int):let a:=List.getD T0 (i).toNat ((0:Int),(0:Int));let b:=i<((n:Nat):Int);A3 [((decide b)=true),(0<=i),b,(0=0),((i).toNat<T0.length)]->Sg Try.prog (C1o n N T0 T1 T2 S0 S1 S2 m0 m1 m2 L0 L1 L2 i) (F1m n N T0 T1 T2 S0 S1 S2 m0 m1 m2 L0 L1 L2 i (Prod.fst a) (Prod.snd a)) .normal (C7s) (B5 A1s):=sgA false 16 [true] Q7
theorem H3l (n N:Nat) (T0 T1 T2:List (Int×Int)) (S0 S1 S2:List Fr) (m0 m1 m2:Nat) (L0 L1 L2:List U4) (i:Int):A3 [((decide (i<((n:Nat):Int)))=false)]->Sg Try.prog (C1o n N T0 T1 T2 S0 S1 S2 m0 m1 m2 L0 L1 L2 i) (St.z (vlO n N T0 T1 T2 S0 S1 S2 m0 m1 m2 L0 L1 L2 (1:Int)) 624) .normal (D5 A4y) (B5 A1s):=sgA false 3000 [false] Q7
def F1n (n N:Nat) (T0 T1 T2:List (Int×Int)) (S0 S1 S2:List Fr) (m0 m1 m2:Nat) (L0 L1 L2:List U4) (i r q:Int):St:=A5 63 [4,6,9,10,13,33,34,38,39,40] [.pt 32 0,.pt 64 0,.pt 336 0,.ii (1:Int),.pt 624 0,(.v (.a [(.slc 112 0 n 2),(.slc 113 0 n 2),(.slc 114 0 n 2)])),.ii (1:Int),(.ci (.slc 113 0 n 2)),(.ii ((n:Nat):Int)),.ii i] [32,64,112,113,114,272,273,274,336,337,338,339,624] [(eF_ [(.val (Value.slice Option.none 0 0)),(.val (Value.slice Option.none 0 0)),(.val (Value.slice Option.none 0 0))]),(eF_ [(.slc 337 0 m0 4),(.slc 338 0 m1 4),(.slc 339 0 m2 4)]),(eQ_ (Sq.place T0)),(eQ_ (Sq.place T1)),(eQ_ (Sq.place T2)),(eQ_ (.s S0)),(eQ_ (.s S1)),(eQ_ (.s S2)),(eF_ [(.slc 272 0 N 4),(.slc 273 0 N 4),(.slc 274 0 N 4)]),(eQ_ (.fr L0)),(eQ_ (.fr L1)),(eQ_ (.fr L2)),some (.fl [.int .i64 r,.int .i64 q])] 656 [] []
def C7t:List KI:=(run vB false 16 ((fun (n N:Nat) (T0 T1 T2:List (Int×Int)) (S0 S1 S2:List Fr) (m0 m1 m2:Nat) (L0 L1 L2:List U4) (i:Int)=>(⟨B5 A1t,.normal,C1p n N T0 T1 T2 S0 S1 S2 m0 m1 m2 L0 L1 L2 i⟩:Cfg)) default default default default default default default default default default default default default default default) [true]).cfg.k
theorem H3j (n N:Nat) (T0 T1 T2:List (Int×Int)) (S0 S1 S2:List Fr) (m0 m1 m2:Nat) (L0 L1 L2:List U4) (i:Int):let a:=List.getD T1 (i).toNat ((0:Int),(0:Int));let b:=i<((n:Nat):Int);A3 [((decide b)=true),(0<=i),b,(0=0),((i).toNat<T1.length)]->Sg Try.prog (C1p n N T0 T1 T2 S0 S1 S2 m0 m1 m2 L0 L1 L2 i) (F1n n N T0 T1 T2 S0 S1 S2 m0 m1 m2 L0 L1 L2 i (Prod.fst a) (Prod.snd a)) .normal (C7t) (B5 A1t):=sgA false 16 [true] Q7
theorem H3m (n N:Nat) (T0 T1 T2:List (Int×Int)) (S0 S1 S2:List Fr) (m0 m1 m2:Nat) (L0 L1 L2:List U4) (i:Int):A3 [((decide (i<((n:Nat):Int)))=false)]->Sg Try.prog (C1p n N T0 T1 T2 S0 S1 S2 m0 m1 m2 L0 L1 L2 i) (St.z (vlO n N T0 T1 T2 S0 S1 S2 m0 m1 m2 L0 L1 L2 (2:Int)) 624) .normal (D5 A4y) (B5 A1t):=sgA false 3000 [false] Q7
def F1o (n N:Nat) (T0 T1 T2:List (Int×Int)) (S0 S1 S2:List Fr) (m0 m1 m2:Nat) (L0 L1 L2:List U4) (i r q:Int):St:=A5 63 [4,6,9,10,13,33,34,38,39,40] [.pt 32 0,.pt 64 0,.pt 336 0,.ii (2:Int),.pt 624 0,(.v (.a [(.slc 112 0 n 2),(.slc 113 0 n 2),(.slc 114 0 n 2)])),.ii (2:Int),(.ci (.slc 114 0 n 2)),(.ii ((n:Nat):Int)),.ii i] [32,64,112,113,114,272,273,274,336,337,338,339,624] [(eF_ [(.val (Value.slice Option.none 0 0)),(.val (Value.slice Option.none 0 0)),(.val (Value.slice Option.none 0 0))]),(eF_ [(.slc 337 0 m0 4),(.slc 338 0 m1 4),(.slc 339 0 m2 4)]),(eQ_ (Sq.place T0)),(eQ_ (Sq.place T1)),(eQ_ (Sq.place T2)),(eQ_ (.s S0)),(eQ_ (.s S1)),(eQ_ (.s S2)),(eF_ [(.slc 272 0 N 4),(.slc 273 0 N 4),(.slc 274 0 N 4)]),(eQ_ (.fr L0)),(eQ_ (.fr L1)),(eQ_ (.fr L2)),some (.fl [.int .i64 r,.int .i64 q])] 656 [] []
def C7u:List KI:=(run vB false 16 ((fun (n N:Nat) (T0 T1 T2:List (Int×Int)) (S0 S1 S2:List Fr) (m0 m1 m2:Nat) (L0 L1 L2:List U4) (i:Int)=>(⟨B5 A1u,.normal,C1q n N T0 T1 T2 S0 S1 S2 m0 m1 m2 L0 L1 L2 i⟩:Cfg)) default default default default default default default default default default default default default default default) [true]).cfg.k
theorem H3k (n N:Nat) (T0 T1 T2:List (Int×Int)) (S0 S1 S2:List Fr) (m0 m1 m2:Nat) (L0 L1 L2:List U4) (i:Int):let a:=List.getD T2 (i).toNat ((0:Int),(0:Int));let b:=i<((n:Nat):Int);A3 [((decide b)=true),(0<=i),b,(0=0),((i).toNat<T2.length)]->Sg Try.prog (C1q n N T0 T1 T2 S0 S1 S2 m0 m1 m2 L0 L1 L2 i) (F1o n N T0 T1 T2 S0 S1 S2 m0 m1 m2 L0 L1 L2 i (Prod.fst a) (Prod.snd a)) .normal (C7u) (B5 A1u):=sgA false 16 [true] Q7
theorem H3n (n N:Nat) (T0 T1 T2:List (Int×Int)) (S0 S1 S2:List Fr) (m0 m1 m2:Nat) (L0 L1 L2:List U4) (i:Int):A3 [((decide (i<((n:Nat):Int)))=false)]->Sg Try.prog (C1q n N T0 T1 T2 S0 S1 S2 m0 m1 m2 L0 L1 L2 i) (St.z (vlO n N T0 T1 T2 S0 S1 S2 m0 m1 m2 L0 L1 L2 (3:Int)) 624) .normal (D5 A4y) (B5 A1u):=sgA false 3000 [false] Q7
theorem G7i (n N:Nat) (T0 T1 T2:List (Int×Int)) (S0 S1 S2:List Fr) (m0 m1 m2:Nat) (L0 L1 L2:List U4) (i r:Int):let a:=L0.length+1;let b:=0<=(0:Int);let c:=0<(3:Int);A3 [b,c,b,c,(0<=r),(r<((N:Nat):Int)),(0=0),((r).toNat<S0.length),((a*32)<=140737488355328),(a<=maxLen),(m0=L0.length),(1=1),b,c]->Sg Try.prog (F1m n N T0 T1 T2 S0 S1 S2 m0 m1 m2 L0 L1 L2 i r 0) (St.z (C1o n N T0 T1 T2 S0 S1 S2 a m1 m2 (L0++[(S4.I8 (S0.getD r.toNat 0))]) L1 L2 (wrap .i64 (i+1))) 960) .normal (D5 A1s) (C7s):=sgA false 3000 [] Q7
theorem G7j (n N:Nat) (T0 T1 T2:List (Int×Int)) (S0 S1 S2:List Fr) (m0 m1 m2:Nat) (L0 L1 L2:List U4) (i r:Int):let a:=L0.length+1;A3 [(0<=(0:Int)),(0<(3:Int)),(0<=(1:Int)),((1:Int)<(3:Int)),(0<=r),(r<((N:Nat):Int)),(0=0),((r).toNat<S1.length),((a*32)<=140737488355328),(a<=maxLen),(m0=L0.length),(1=1),(0<=(0:Int)),(0<(3:Int))]->Sg Try.prog (F1m n N T0 T1 T2 S0 S1 S2 m0 m1 m2 L0 L1 L2 i r 1) (St.z (C1o n N T0 T1 T2 S0 S1 S2 a m1 m2 (L0++[(S4.I8 (S1.getD r.toNat 0))]) L1 L2 (wrap .i64 (i+1))) 960) .normal (D5 A1s) (C7s):=sgA false 3000 [] Q7
theorem G7k (n N:Nat) (T0 T1 T2:List (Int×Int)) (S0 S1 S2:List Fr) (m0 m1 m2:Nat) (L0 L1 L2:List U4) (i r:Int):let a:=L0.length+1;A3 [(0<=(0:Int)),(0<(3:Int)),(0<=(2:Int)),((2:Int)<(3:Int)),(0<=r),(r<((N:Nat):Int)),(0=0),((r).toNat<S2.length),((a*32)<=140737488355328),(a<=maxLen),(m0=L0.length),(1=1),(0<=(0:Int)),(0<(3:Int))]->Sg Try.prog (F1m n N T0 T1 T2 S0 S1 S2 m0 m1 m2 L0 L1 L2 i r 2) (St.z (C1o n N T0 T1 T2 S0 S1 S2 a m1 m2 (L0++[(S4.I8 (S2.getD r.toNat 0))]) L1 L2 (wrap .i64 (i+1))) 960) .normal (D5 A1s) (C7s):=sgA false 3000 [] Q7
theorem G7l (n N:Nat) (T0 T1 T2:List (Int×Int)) (S0 S1 S2:List Fr) (m0 m1 m2:Nat) (L0 L1 L2:List U4) (i r:Int):let a:=L1.length+1;let b:Int:=1;A3 [(0<=b),(b<(3:Int)),(0<=(0:Int)),(0<(3:Int)),(0<=r),(r<((N:Nat):Int)),(0=0),((r).toNat<S0.length),((a*32)<=140737488355328),(a<=maxLen),(m1=L1.length),(1=1),(0<=b),(b<(3:Int))]->Sg Try.prog (F1n n N T0 T1 T2 S0 S1 S2 m0 m1 m2 L0 L1 L2 i r 0) (St.z (C1p n N T0 T1 T2 S0 S1 S2 m0 a m2 L0 (L1++[(S4.I8 (S0.getD r.toNat 0))]) L2 (wrap .i64 (i+1))) 960) .normal (D5 A1t) (C7t):=sgA false 3000 [] Q7
theorem G7m (n N:Nat) (T0 T1 T2:List (Int×Int)) (S0 S1 S2:List Fr) (m0 m1 m2:Nat) (L0 L1 L2:List U4) (i r:Int):let a:=(1:Int)<(3:Int);let b:=L1.length+1;let c:=0<=(1:Int);A3 [c,a,c,a,(0<=r),(r<((N:Nat):Int)),(0=0),((r).toNat<S1.length),((b*32)<=140737488355328),(b<=maxLen),(m1=L1.length),(1=1),c,a]->Sg Try.prog (F1n n N T0 T1 T2 S0 S1 S2 m0 m1 m2 L0 L1 L2 i r 1) (St.z (C1p n N T0 T1 T2 S0 S1 S2 m0 b m2 L0 (L1++[(S4.I8 (S1.getD r.toNat 0))]) L2 (wrap .i64 (i+1))) 960) .normal (D5 A1t) (C7t):=sgA false 3000 [] Q7
theorem G7n (n N:Nat) (T0 T1 T2:List (Int×Int)) (S0 S1 S2:List Fr) (m0 m1 m2:Nat) (L0 L1 L2:List U4) (i r:Int):let a:=L1.length+1;let b:Int:=1;A3 [(0<=b),(b<(3:Int)),(0<=(2:Int)),((2:Int)<(3:Int)),(0<=r),(r<((N:Nat):Int)),(0=0),((r).toNat<S2.length),((a*32)<=140737488355328),(a<=maxLen),(m1=L1.length),(1=1),(0<=b),(b<(3:Int))]->Sg Try.prog (F1n n N T0 T1 T2 S0 S1 S2 m0 m1 m2 L0 L1 L2 i r 2) (St.z (C1p n N T0 T1 T2 S0 S1 S2 m0 a m2 L0 (L1++[(S4.I8 (S2.getD r.toNat 0))]) L2 (wrap .i64 (i+1))) 960) .normal (D5 A1t) (C7t):=sgA false 3000 [] Q7
theorem G7o (n N:Nat) (T0 T1 T2:List (Int×Int)) (S0 S1 S2:List Fr) (m0 m1 m2:Nat) (L0 L1 L2:List U4) (i r:Int):let a:=L2.length+1;let b:Int:=2;A3 [(0<=b),(b<(3:Int)),(0<=(0:Int)),(0<(3:Int)),(0<=r),(r<((N:Nat):Int)),(0=0),((r).toNat<S0.length),((a*32)<=140737488355328),(a<=maxLen),(m2=L2.length),(1=1),(0<=b),(b<(3:Int))]->Sg Try.prog (F1o n N T0 T1 T2 S0 S1 S2 m0 m1 m2 L0 L1 L2 i r 0) (St.z (C1q n N T0 T1 T2 S0 S1 S2 m0 m1 a L0 L1 (L2++[(S4.I8 (S0.getD r.toNat 0))]) (wrap .i64 (i+1))) 960) .normal (D5 A1u) (C7u):=sgA false 3000 [] Q7
theorem G7p (n N:Nat) (T0 T1 T2:List (Int×Int)) (S0 S1 S2:List Fr) (m0 m1 m2:Nat) (L0 L1 L2:List U4) (i r:Int):let a:=L2.length+1;let b:Int:=2;A3 [(0<=b),(b<(3:Int)),(0<=(1:Int)),((1:Int)<(3:Int)),(0<=r),(r<((N:Nat):Int)),(0=0),((r).toNat<S1.length),((a*32)<=140737488355328),(a<=maxLen),(m2=L2.length),(1=1),(0<=b),(b<(3:Int))]->Sg Try.prog (F1o n N T0 T1 T2 S0 S1 S2 m0 m1 m2 L0 L1 L2 i r 1) (St.z (C1q n N T0 T1 T2 S0 S1 S2 m0 m1 a L0 L1 (L2++[(S4.I8 (S1.getD r.toNat 0))]) (wrap .i64 (i+1))) 960) .normal (D5 A1u) (C7u):=sgA false 3000 [] Q7
theorem G7q (n N:Nat) (T0 T1 T2:List (Int×Int)) (S0 S1 S2:List Fr) (m0 m1 m2:Nat) (L0 L1 L2:List U4) (i r:Int):let a:=(2:Int)<(3:Int);let b:=L2.length+1;let c:=0<=(2:Int);A3 [c,a,c,a,(0<=r),(r<((N:Nat):Int)),(0=0),((r).toNat<S2.length),((b*32)<=140737488355328),(b<=maxLen),(m2=L2.length),(1=1),c,a]->Sg Try.prog (F1o n N T0 T1 T2 S0 S1 S2 m0 m1 m2 L0 L1 L2 i r 2) (St.z (C1q n N T0 T1 T2 S0 S1 S2 m0 m1 b L0 L1 (L2++[(S4.I8 (S2.getD r.toNat 0))]) (wrap .i64 (i+1))) 960) .normal (D5 A1u) (C7u):=sgA false 3000 [] Q7
theorem F1p (n N:Nat) (T0 T1 T2:List (Int×Int)) (S0 S1 S2:List Fr) (m0 m1 m2:Nat) (L0 L1 L2:List U4):C2 vB Try.f12 false 3000 (⟨[],.ret,vlQ n N T0 T1 T2 S0 S1 S2 m0 m1 m2 L0 L1 L2⟩) [] [337,338,339] []=(some ([],((.t [(.a [(.slc 0 0 m0 4),(.slc 1 0 m1 4),(.slc 2 0 m2 4)]),(.c (.int .i64 (0:Int)))]),[(.sq (.fr L0)),(.sq (.fr L1)),(.sq (.fr L2))]))):=by kernel_rfl
end
end S4

namespace S4

/-- The numbers of a wire. -/
def F8q (S0 S1 S2:List Fr) (w:Int):List Fr:=if w=0 then S0 else if w=1 then S1 else S2
/-- The places' numbers. -/
def I9 (S0 S1 S2:List Fr) (T:List (Int×Int)) (n:Nat):List U4:=(List.range n).map fun (i:Nat)=>I8 ((F8q S0 S1 S2 (T.getD i (0,0)).2).getD (T.getD i (0,0)).1.toNat 0)
theorem B1t (S0 S1 S2:List Fr) (T:List (Int×Int)) (n:Nat):(I9 S0 S1 S2 T n).length=n:=by simp [I9]
theorem B4g (S0 S1 S2:List Fr) (T:List (Int×Int)):I9 S0 S1 S2 T 0=[]:=rfl
theorem B4f (S0 S1 S2:List Fr) (T:List (Int×Int)) (n:Nat) {r q:Int} (h:T.getD n (0,0)=(r,q)):I9 S0 S1 S2 T (n+1)=I9 S0 S1 S2 T n++[I8 ((F8q S0 S1 S2 q).getD r.toNat 0)]:=by
 unfold I9;rw[List.range_succ,List.map_append,List.map_cons,List.map_nil,h]
theorem F7u {w0:World} {F0:Nat->Prop} {K:Kp} {Q:Exit->Act->World->Prop} (n N:Nat) (T0 T1 T2:List (Int×Int)) (S0 S1 S2:List Fr) (m1 m2:Nat) (L1 L2:List U4) (hn:n<=65536) (hT:T0.length=n) (hP:∀z∈T0,A0l N z) (h0:S0.length=N) (h1:S1.length=N) (h2:S2.length=N)
    (next:∀ac a y,Sim w0 F0 K ac (vlO n N T0 T1 T2 S0 S1 S2 n m1 m2 (I9 S0 S1 S2 T0 n) L1 L2 1) y a->Wq Try.prog Q (D5 A4y) ac .normal a y.w)
    {ac:List Act} {a:Act} {y:Ctx} (hs0:Sim w0 F0 K ac (C1o n N T0 T1 T2 S0 S1 S2 0 m1 m2 (I9 S0 S1 S2 T0 0) L1 L2 ((0:Nat):Int)) y a):Wq Try.prog Q A1s ac .normal a y.w:=by
  refine I2 (fun i:{ i:Nat // i<=n }=>fun ac a W=>∃y,W=y.w∧Sim w0 F0 K ac (C1o n N T0 T1 T2 S0 S1 S2 i.1 m1 m2 (I9 S0 S1 S2 T0 i.1) L1 L2 i.1) y a) (fun i=>n-i.1) (c:=lpC A1s) (k:=lpR A1s) (by kernel_rfl) (fun i ih ac b w hI=>?_) ⟨0,Nat.zero_le _⟩ ⟨y,rfl,hs0⟩
  obtain ⟨i,hi⟩:=i;obtain ⟨y,rfl,hs⟩:=hI;simp only at hs ih
  by_cases h:i<n
  · refine H3i n N T0 T1 T2 S0 S1 S2 i m1 m2 (I9 S0 S1 S2 T0 i) L1 L2 i ⟨decide_eq_true (by omega),by omega,by omega,rfl,by omega,trivial⟩ hs fun ac cY aY hs1=>?_
    obtain ⟨⟨r,q⟩,hz⟩:∃z,T0.getD i (0,0)=z:=⟨_,rfl⟩
    have hp:=B9s hP (i:=i) (by omega)
    rw[Int.toNat_natCast,hz] at hs1;rw[hz] at hp;obtain ⟨hr0,hr1,hq⟩:=hp;simp only at hr0 hr1 hq
    have hs1:Sim w0 F0 K ac (F1m n N T0 T1 T2 S0 S1 S2 i m1 m2 (I9 S0 S1 S2 T0 i) L1 L2 i r q) cY aY:=hs1;have hw:wrap IntKind.i64 ((i:Int)+1)=((i+1:Nat):Int):=by rw[B0 (by omega) (by omega)];omega
    have hl:=B1t S0 S1 S2 T0 i;have key:∀ac cZ aZ,Sim w0 F0 K ac (St.z (C1o n N T0 T1 T2 S0 S1 S2 (i+1) m1 m2 (I9 S0 S1 S2 T0 (i+1)) L1 L2 ((i+1:Nat):Int)) 960) cZ aZ->Wq Try.prog Q (D5 A1s) ac .normal aZ cZ.w:=fun ac cZ aZ hs2=>
      ih ⟨i+1,by omega⟩ (by show n-(i+1)<n-i;omega) ac aZ _ ⟨cZ,rfl,hs2.nx 576⟩
    rw[B4f S0 S1 S2 T0 i hz] at key;have hc:i+1<=maxLen:=Nat.le_trans (by omega:i+1<=65536) (by decide)
    rcases hq with rfl | rfl | rfl
    · refine G7i n N T0 T1 T2 S0 S1 S2 i m1 m2 (I9 S0 S1 S2 T0 i) L1 L2 i r ⟨by decide,by decide,by decide,by decide,hr0,hr1,rfl,by omega,by rw[hl];omega,by rw[hl];exact hc,hl.symm,rfl,by decide,by decide,trivial⟩ hs1 fun ac cZ aZ hs2=>?_
      rw[hw,hl] at hs2;exact key ac cZ aZ hs2
    · refine G7j n N T0 T1 T2 S0 S1 S2 i m1 m2 (I9 S0 S1 S2 T0 i) L1 L2 i r ⟨by decide,by decide,by decide,by decide,hr0,hr1,rfl,by omega,by rw[hl];omega,by rw[hl];exact hc,hl.symm,rfl,by decide,by decide,trivial⟩ hs1 fun ac cZ aZ hs2=>?_
      rw[hw,hl] at hs2;exact key ac cZ aZ hs2
    · refine G7k n N T0 T1 T2 S0 S1 S2 i m1 m2 (I9 S0 S1 S2 T0 i) L1 L2 i r ⟨by decide,by decide,by decide,by decide,hr0,hr1,rfl,by omega,by rw[hl];omega,by rw[hl];exact hc,hl.symm,rfl,by decide,by decide,trivial⟩ hs1 fun ac cZ aZ hs2=>?_
      rw[hw,hl] at hs2;exact key ac cZ aZ hs2
  · have e' : i=n:=by omega
    subst e'
    refine H3l i N T0 T1 T2 S0 S1 S2 i m1 m2 (I9 S0 S1 S2 T0 i) L1 L2 i ⟨decide_eq_false (by omega),trivial⟩ hs fun ac cZ aZ hs2=>?_
    exact next ac aZ cZ (hs2.nx 448)
theorem F7v {w0:World} {F0:Nat->Prop} {K:Kp} {Q:Exit->Act->World->Prop} (n N:Nat) (T0 T1 T2:List (Int×Int)) (S0 S1 S2:List Fr) (m0 m2:Nat) (L0 L2:List U4) (hn:n<=65536) (hT:T1.length=n) (hP:∀z∈T1,A0l N z) (h0:S0.length=N) (h1:S1.length=N) (h2:S2.length=N)
    (next:∀ac a y,Sim w0 F0 K ac (vlO n N T0 T1 T2 S0 S1 S2 m0 n m2 L0 (I9 S0 S1 S2 T1 n) L2 2) y a->Wq Try.prog Q (D5 A4y) ac .normal a y.w)
    {ac:List Act} {a:Act} {y:Ctx} (hs0:Sim w0 F0 K ac (C1p n N T0 T1 T2 S0 S1 S2 m0 0 m2 L0 (I9 S0 S1 S2 T1 0) L2 ((0:Nat):Int)) y a):Wq Try.prog Q A1t ac .normal a y.w:=by
  refine I2 (fun i:{ i:Nat // i<=n }=>fun ac a W=>∃y,W=y.w∧Sim w0 F0 K ac (C1p n N T0 T1 T2 S0 S1 S2 m0 i.1 m2 L0 (I9 S0 S1 S2 T1 i.1) L2 i.1) y a) (fun i=>n-i.1) (c:=lpC A1t) (k:=lpR A1t) (by kernel_rfl) (fun i ih ac b w hI=>?_) ⟨0,Nat.zero_le _⟩ ⟨y,rfl,hs0⟩
  obtain ⟨i,hi⟩:=i;obtain ⟨y,rfl,hs⟩:=hI;simp only at hs ih
  by_cases h:i<n
  · refine H3j n N T0 T1 T2 S0 S1 S2 m0 i m2 L0 (I9 S0 S1 S2 T1 i) L2 i ⟨decide_eq_true (by omega),by omega,by omega,rfl,by omega,trivial⟩ hs fun ac cY aY hs1=>?_
    obtain ⟨⟨r,q⟩,hz⟩:∃z,T1.getD i (0,0)=z:=⟨_,rfl⟩
    have hp:=B9s hP (i:=i) (by omega)
    rw[Int.toNat_natCast,hz] at hs1;rw[hz] at hp;obtain ⟨hr0,hr1,hq⟩:=hp;simp only at hr0 hr1 hq
    have hs1:Sim w0 F0 K ac (F1n n N T0 T1 T2 S0 S1 S2 m0 i m2 L0 (I9 S0 S1 S2 T1 i) L2 i r q) cY aY:=hs1;have hw:wrap IntKind.i64 ((i:Int)+1)=((i+1:Nat):Int):=by rw[B0 (by omega) (by omega)];omega
    have hl:=B1t S0 S1 S2 T1 i;have key:∀ac cZ aZ,Sim w0 F0 K ac (St.z (C1p n N T0 T1 T2 S0 S1 S2 m0 (i+1) m2 L0 (I9 S0 S1 S2 T1 (i+1)) L2 ((i+1:Nat):Int)) 960) cZ aZ->Wq Try.prog Q (D5 A1t) ac .normal aZ cZ.w:=fun ac cZ aZ hs2=>
      ih ⟨i+1,by omega⟩ (by show n-(i+1)<n-i;omega) ac aZ _ ⟨cZ,rfl,hs2.nx 576⟩
    rw[B4f S0 S1 S2 T1 i hz] at key;have hc:i+1<=maxLen:=Nat.le_trans (by omega:i+1<=65536) (by decide)
    rcases hq with rfl | rfl | rfl
    · refine G7l n N T0 T1 T2 S0 S1 S2 m0 i m2 L0 (I9 S0 S1 S2 T1 i) L2 i r ⟨by decide,by decide,by decide,by decide,hr0,hr1,rfl,by omega,by rw[hl];omega,by rw[hl];exact hc,hl.symm,rfl,by decide,by decide,trivial⟩ hs1 fun ac cZ aZ hs2=>?_
      rw[hw,hl] at hs2;exact key ac cZ aZ hs2
    · refine G7m n N T0 T1 T2 S0 S1 S2 m0 i m2 L0 (I9 S0 S1 S2 T1 i) L2 i r ⟨by decide,by decide,by decide,by decide,hr0,hr1,rfl,by omega,by rw[hl];omega,by rw[hl];exact hc,hl.symm,rfl,by decide,by decide,trivial⟩ hs1 fun ac cZ aZ hs2=>?_
      rw[hw,hl] at hs2;exact key ac cZ aZ hs2
    · refine G7n n N T0 T1 T2 S0 S1 S2 m0 i m2 L0 (I9 S0 S1 S2 T1 i) L2 i r ⟨by decide,by decide,by decide,by decide,hr0,hr1,rfl,by omega,by rw[hl];omega,by rw[hl];exact hc,hl.symm,rfl,by decide,by decide,trivial⟩ hs1 fun ac cZ aZ hs2=>?_
      rw[hw,hl] at hs2;exact key ac cZ aZ hs2
  · have e' : i=n:=by omega
    subst e'
    refine H3m i N T0 T1 T2 S0 S1 S2 m0 i m2 L0 (I9 S0 S1 S2 T1 i) L2 i ⟨decide_eq_false (by omega),trivial⟩ hs fun ac cZ aZ hs2=>?_
    exact next ac aZ cZ (hs2.nx 448)
theorem F7w {w0:World} {F0:Nat->Prop} {K:Kp} {Q:Exit->Act->World->Prop} (n N:Nat) (T0 T1 T2:List (Int×Int)) (S0 S1 S2:List Fr) (m0 m1:Nat) (L0 L1:List U4) (hn:n<=65536) (hT:T2.length=n) (hP:∀z∈T2,A0l N z) (h0:S0.length=N) (h1:S1.length=N) (h2:S2.length=N)
    (next:∀ac a y,Sim w0 F0 K ac (vlO n N T0 T1 T2 S0 S1 S2 m0 m1 n L0 L1 (I9 S0 S1 S2 T2 n) 3) y a->Wq Try.prog Q (D5 A4y) ac .normal a y.w)
    {ac:List Act} {a:Act} {y:Ctx} (hs0:Sim w0 F0 K ac (C1q n N T0 T1 T2 S0 S1 S2 m0 m1 0 L0 L1 (I9 S0 S1 S2 T2 0) ((0:Nat):Int)) y a):Wq Try.prog Q A1u ac .normal a y.w:=by
  refine I2 (fun i:{ i:Nat // i<=n }=>fun ac a W=>∃y,W=y.w∧Sim w0 F0 K ac (C1q n N T0 T1 T2 S0 S1 S2 m0 m1 i.1 L0 L1 (I9 S0 S1 S2 T2 i.1) i.1) y a) (fun i=>n-i.1) (c:=lpC A1u) (k:=lpR A1u) (by kernel_rfl) (fun i ih ac b w hI=>?_) ⟨0,Nat.zero_le _⟩ ⟨y,rfl,hs0⟩
  obtain ⟨i,hi⟩:=i;obtain ⟨y,rfl,hs⟩:=hI;simp only at hs ih
  by_cases h:i<n
  · refine H3k n N T0 T1 T2 S0 S1 S2 m0 m1 i L0 L1 (I9 S0 S1 S2 T2 i) i ⟨decide_eq_true (by omega),by omega,by omega,rfl,by omega,trivial⟩ hs fun ac cY aY hs1=>?_
    obtain ⟨⟨r,q⟩,hz⟩:∃z,T2.getD i (0,0)=z:=⟨_,rfl⟩
    have hp:=B9s hP (i:=i) (by omega)
    rw[Int.toNat_natCast,hz] at hs1;rw[hz] at hp;obtain ⟨hr0,hr1,hq⟩:=hp;simp only at hr0 hr1 hq
    have hs1:Sim w0 F0 K ac (F1o n N T0 T1 T2 S0 S1 S2 m0 m1 i L0 L1 (I9 S0 S1 S2 T2 i) i r q) cY aY:=hs1;have hw:wrap IntKind.i64 ((i:Int)+1)=((i+1:Nat):Int):=by rw[B0 (by omega) (by omega)];omega
    have hl:=B1t S0 S1 S2 T2 i;have key:∀ac cZ aZ,Sim w0 F0 K ac (St.z (C1q n N T0 T1 T2 S0 S1 S2 m0 m1 (i+1) L0 L1 (I9 S0 S1 S2 T2 (i+1)) ((i+1:Nat):Int)) 960) cZ aZ->Wq Try.prog Q (D5 A1u) ac .normal aZ cZ.w:=fun ac cZ aZ hs2=>
      ih ⟨i+1,by omega⟩ (by show n-(i+1)<n-i;omega) ac aZ _ ⟨cZ,rfl,hs2.nx 576⟩
    rw[B4f S0 S1 S2 T2 i hz] at key;have hc:i+1<=maxLen:=Nat.le_trans (by omega:i+1<=65536) (by decide)
    rcases hq with rfl | rfl | rfl
    · refine G7o n N T0 T1 T2 S0 S1 S2 m0 m1 i L0 L1 (I9 S0 S1 S2 T2 i) i r ⟨by decide,by decide,by decide,by decide,hr0,hr1,rfl,by omega,by rw[hl];omega,by rw[hl];exact hc,hl.symm,rfl,by decide,by decide,trivial⟩ hs1 fun ac cZ aZ hs2=>?_
      rw[hw,hl] at hs2;exact key ac cZ aZ hs2
    · refine G7p n N T0 T1 T2 S0 S1 S2 m0 m1 i L0 L1 (I9 S0 S1 S2 T2 i) i r ⟨by decide,by decide,by decide,by decide,hr0,hr1,rfl,by omega,by rw[hl];omega,by rw[hl];exact hc,hl.symm,rfl,by decide,by decide,trivial⟩ hs1 fun ac cZ aZ hs2=>?_
      rw[hw,hl] at hs2;exact key ac cZ aZ hs2
    · refine G7q n N T0 T1 T2 S0 S1 S2 m0 m1 i L0 L1 (I9 S0 S1 S2 T2 i) i r ⟨by decide,by decide,by decide,by decide,hr0,hr1,rfl,by omega,by rw[hl];omega,by rw[hl];exact hc,hl.symm,rfl,by decide,by decide,trivial⟩ hs1 fun ac cZ aZ hs2=>?_
      rw[hw,hl] at hs2;exact key ac cZ aZ hs2
  · have e' : i=n:=by omega
    subst e'
    refine H3n i N T0 T1 T2 S0 S1 S2 m0 m1 i L0 L1 (I9 S0 S1 S2 T2 i) i ⟨decide_eq_false (by omega),trivial⟩ hs fun ac cZ aZ hs2=>?_
    exact next ac aZ cZ (hs2.nx 448)
theorem F7x {w0:World} {F0:Nat->Prop} {K:Kp} {Q:Exit->Act->World->Prop} (n N:Nat) (T0 T1 T2:List (Int×Int)) (S0 S1 S2:List Fr) (hn:n<=65536) (hT0:T0.length=n) (hT1:T1.length=n) (hT2:T2.length=n) (hP:ROk N (T0,T1,T2)) (h0:S0.length=N) (h1:S1.length=N) (h2:S2.length=N)
    (next:∀ac a y,Sim w0 F0 K ac (vlO n N T0 T1 T2 S0 S1 S2 n n n (I9 S0 S1 S2 T0 n) (I9 S0 S1 S2 T1 n) (I9 S0 S1 S2 T2 n) 3) y a->Wq Try.prog Q (B5 A4y) ac .normal a y.w)
    {ac:List Act} {a:Act} {y:Ctx} (hs:Sim w0 F0 K ac (vlO n N T0 T1 T2 S0 S1 S2 0 0 0 [] [] [] 0) y a):Wq Try.prog Q A4y ac .normal a y.w:=by
  let I:{ w:Nat // w<=3 } -> List Act->Act->World->Prop:=fun w ac a W=>∃y,W=y.w∧Sim w0 F0 K ac (match w.1 with
    | 0=>vlO n N T0 T1 T2 S0 S1 S2 0 0 0 [] [] [] 0
    | 1=>vlO n N T0 T1 T2 S0 S1 S2 n 0 0 (I9 S0 S1 S2 T0 n) [] [] 1
    | 2=>vlO n N T0 T1 T2 S0 S1 S2 n n 0 (I9 S0 S1 S2 T0 n) (I9 S0 S1 S2 T1 n) [] 2
    | _=>vlO n N T0 T1 T2 S0 S1 S2 n n n (I9 S0 S1 S2 T0 n) (I9 S0 S1 S2 T1 n) (I9 S0 S1 S2 T2 n) 3) y a
  have l0:(0:Nat)<=3:=by decide
  refine I2 I (fun w=>3-w.1) (c:=lpC A4y) (k:=lpR A4y) (by kernel_rfl) (fun w ih ac b W hI=>?_) ⟨0,l0⟩ (show I ⟨0,l0⟩ ac a y.w from ⟨y,rfl,hs⟩)
  obtain ⟨w,hw3⟩:=w;obtain ⟨y,rfl,hs⟩:=hI;match w,hw3 with
  | 0,_=>
    have hs:Sim w0 F0 K ac (vlO n N T0 T1 T2 S0 S1 S2 0 0 0 [] [] [] 0) y b:=hs;refine H3f n N T0 T1 T2 S0 S1 S2 0 0 0 [] [] [] ⟨decide_eq_true (by decide),by decide,by decide,trivial⟩ hs fun ac cZ aZ hs2=>?_
    have hs2:=hs2.nx 576;refine F7u n N T0 T1 T2 S0 S1 S2 0 0 [] [] hn hT0 hP.1 h0 h1 h2 (fun ac a y h=>ih ⟨1,by decide⟩ (by show 3-1<3-0;decide) ac a _ ⟨y,rfl,h⟩) ?_
    rw[B4g,show ((0:Nat):Int)=0 from rfl]
    exact hs2
  | 1,_=>
    have hs:Sim w0 F0 K ac (vlO n N T0 T1 T2 S0 S1 S2 n 0 0 (I9 S0 S1 S2 T0 n) [] [] 1) y b:=hs;refine H3g n N T0 T1 T2 S0 S1 S2 n 0 0 (I9 S0 S1 S2 T0 n) [] [] ⟨decide_eq_true (by decide),by decide,by decide,trivial⟩ hs fun ac cZ aZ hs2=>?_
    have hs2:=hs2.nx 576;refine F7v n N T0 T1 T2 S0 S1 S2 n 0 (I9 S0 S1 S2 T0 n) [] hn hT1 hP.2.1 h0 h1 h2 (fun ac a y h=>ih ⟨2,by decide⟩ (by show 3-2<3-1;decide) ac a _ ⟨y,rfl,h⟩) ?_
    rw[B4g,show ((0:Nat):Int)=0 from rfl]
    exact hs2
  | 2,_=>
    have hs:Sim w0 F0 K ac (vlO n N T0 T1 T2 S0 S1 S2 n n 0 (I9 S0 S1 S2 T0 n) (I9 S0 S1 S2 T1 n) [] 2) y b:=hs;refine H3h n N T0 T1 T2 S0 S1 S2 n n 0 (I9 S0 S1 S2 T0 n) (I9 S0 S1 S2 T1 n) [] ⟨decide_eq_true (by decide),by decide,by decide,trivial⟩ hs fun ac cZ aZ hs2=>?_
    have hs2:=hs2.nx 576;refine F7w n N T0 T1 T2 S0 S1 S2 n n (I9 S0 S1 S2 T0 n) (I9 S0 S1 S2 T1 n) hn hT2 hP.2.2 h0 h1 h2 (fun ac a y h=>ih ⟨3,by decide⟩ (by show 3-3<3-2;decide) ac a _ ⟨y,rfl,h⟩) ?_
    rw[B4g,show ((0:Nat):Int)=0 from rfl]
    exact hs2
  | 3,_=>exact next ac b y hs
/-- What Values tells. -/
def vaR (l:List A1) (log:Int) (w:Nat):List U4:=
 let S:=fun k:Int=>G2 (vlE log) k (vlE log).length
 let t:=(K4 l (vlN log)).t
 I9 (S 0) (S 1) (S 2) (if w=0 then t.1 else if w=1 then t.2.1 else t.2.2) (vlN log)
theorem H8 (l:List A1) (log:Int) (w:Nat):(vaR l log w).length=vlN log:=B1t ..
theorem F7t {log:Int} (h:K0 log=true):(vlE log).length=vlN log:=by
 have hd:E9 log (D2 log)=true:=by simp [E9,h]
 unfold vlE A3h;rw[if_pos hd,List.length_map,A5t];rfl
theorem D6a (l:List A1) (p v log:Int) (hr:C6 l p v=true) (h:K0 log=true) (h2:l.length<=vlN log) (hlim:l.length<=4096) :
  FnD Try.prog 12 [J2 l p v,.v (.c (.int .i64 log))] (.t [.a [.slc 0 0 (vlN log) 4,.slc 1 0 (vlN log) 4,.slc 2 0 (vlN log) 4],.c (.int .i64 0)]) [.sq (.fr (vaR l log 0)),.sq (.fr (vaR l log 1)),.sq (.fr (vaR l log 2))]:=by
 have hd:E9 log (D2 log)=true:=by simp [E9,h]
 obtain ⟨hl0,hl1,_⟩:=A0w hd;have hE:=F7t h;have hN6:vlN log<=65536:=Nat.pow_le_pow_right (by decide) (by omega:log.toNat<=16)
 obtain ⟨e0,e1,e2⟩:=G1q h2;refine F5 (fn:=Try.f12) (c:=B2 Try.f12) Try.func12 rfl rfl fun x b hk hF hs=>?_
 refine vl l p v log ⟨hr,hl0,by omega,h2,hlim,rfl,h,rfl,trivial⟩ hs fun ac cY aY hs1=>?_
 rw[hE] at hs1;have n1:=hs1.nilBlk (p:=337) (z:=64) (l' := [.slc 337 0 0 4,.val (.slice none 0 0),.val (.slice none 0 0)]) (ml' := [32,64,112,113,114,272,273,274,336,337]) (ens' := [some (.fl [.val (.slice none 0 0),.val (.slice none 0 0),.val (.slice none 0 0)]),some (.fl [.slc 337 0 0 4,.val (.slice none 0 0),.val (.slice none 0 0)]),some (.sq (.place (K4 l (vlN log)).t.1)),some (.sq (.place (K4 l (vlN log)).t.2.1)),some (.sq (.place (K4 l (vlN log)).t.2.2)),some (.sq (.s (G2 (vlE log) 0 (vlN log)))),some (.sq (.s (G2 (vlE log) 1 (vlN log)))),some (.sq (.s (G2 (vlE log) 2 (vlN log)))),some (.fl [.slc 272 0 (vlN log) 4,.slc 273 0 (vlN log) 4,.slc 274 0 (vlN log) 4]),some (.sq (.fr []))]) (q:=.fr []) rfl (by decide) rfl rfl
  ⟨.inr (.inl ⟨4,rfl,rfl⟩),.inl rfl,.inl rfl,trivial⟩
  (fun r=>by
   simp only[E1];by_cases h0:r=32
   ·subst h0;rfl
   by_cases h1:r=64
   ·subst h1;rfl
   by_cases h2:r=112
   ·subst h2;rfl
   by_cases h3:r=113
   ·subst h3;rfl
   by_cases h4:r=114
   ·subst h4;rfl
   by_cases h5:r=272
   ·subst h5;rfl
   by_cases h6:r=273
   ·subst h6;rfl
   by_cases h7:r=274
   ·subst h7;rfl
   by_cases h8:r=336
   ·subst h8;rfl
   by_cases h9:r=337
   ·subst h9;rfl
   simp only[beq_iff_eq,h0,h1,h2,h3,h4,h5,h6,h7,h8,h9,if_false])
 have n2:=n1.nilBlk (p:=338) (z:=64) (l' := [.slc 337 0 0 4,.slc 338 0 0 4,.val (.slice none 0 0)]) (ml' := [32,64,112,113,114,272,273,274,336,337,338]) (ens' := [some (.fl [.val (.slice none 0 0),.val (.slice none 0 0),.val (.slice none 0 0)]),some (.fl [.slc 337 0 0 4,.slc 338 0 0 4,.val (.slice none 0 0)]),some (.sq (.place (K4 l (vlN log)).t.1)),some (.sq (.place (K4 l (vlN log)).t.2.1)),some (.sq (.place (K4 l (vlN log)).t.2.2)),some (.sq (.s (G2 (vlE log) 0 (vlN log)))),some (.sq (.s (G2 (vlE log) 1 (vlN log)))),some (.sq (.s (G2 (vlE log) 2 (vlN log)))),some (.fl [.slc 272 0 (vlN log) 4,.slc 273 0 (vlN log) 4,.slc 274 0 (vlN log) 4]),some (.sq (.fr [])),some (.sq (.fr []))]) (q:=.fr []) rfl (by decide) rfl rfl
  ⟨.inl rfl,.inr (.inl ⟨4,rfl,rfl⟩),.inl rfl,trivial⟩
  (fun r=>by
   simp only[E1];by_cases h0:r=32
   ·subst h0;rfl
   by_cases h1:r=64
   ·subst h1;rfl
   by_cases h2:r=112
   ·subst h2;rfl
   by_cases h3:r=113
   ·subst h3;rfl
   by_cases h4:r=114
   ·subst h4;rfl
   by_cases h5:r=272
   ·subst h5;rfl
   by_cases h6:r=273
   ·subst h6;rfl
   by_cases h7:r=274
   ·subst h7;rfl
   by_cases h8:r=336
   ·subst h8;rfl
   by_cases h9:r=337
   ·subst h9;rfl
   by_cases h10:r=338
   ·subst h10;rfl
   simp only[beq_iff_eq,h0,h1,h2,h3,h4,h5,h6,h7,h8,h9,h10,if_false])
 have n3:=n2.nilBlk (p:=339) (z:=64) (l' := [.slc 337 0 0 4,.slc 338 0 0 4,.slc 339 0 0 4]) (ml' := [32,64,112,113,114,272,273,274,336,337,338,339]) (ens' := [some (.fl [.val (.slice none 0 0),.val (.slice none 0 0),.val (.slice none 0 0)]),some (.fl [.slc 337 0 0 4,.slc 338 0 0 4,.slc 339 0 0 4]),some (.sq (.place (K4 l (vlN log)).t.1)),some (.sq (.place (K4 l (vlN log)).t.2.1)),some (.sq (.place (K4 l (vlN log)).t.2.2)),some (.sq (.s (G2 (vlE log) 0 (vlN log)))),some (.sq (.s (G2 (vlE log) 1 (vlN log)))),some (.sq (.s (G2 (vlE log) 2 (vlN log)))),some (.fl [.slc 272 0 (vlN log) 4,.slc 273 0 (vlN log) 4,.slc 274 0 (vlN log) 4]),some (.sq (.fr [])),some (.sq (.fr [])),some (.sq (.fr []))]) (q:=.fr []) rfl (by decide) rfl rfl
  ⟨.inl rfl,.inl rfl,.inr (.inl ⟨4,rfl,rfl⟩),trivial⟩
  (fun r=>by
   simp only[E1];by_cases h0:r=32
   ·subst h0;rfl
   by_cases h1:r=64
   ·subst h1;rfl
   by_cases h2:r=112
   ·subst h2;rfl
   by_cases h3:r=113
   ·subst h3;rfl
   by_cases h4:r=114
   ·subst h4;rfl
   by_cases h5:r=272
   ·subst h5;rfl
   by_cases h6:r=273
   ·subst h6;rfl
   by_cases h7:r=274
   ·subst h7;rfl
   by_cases h8:r=336
   ·subst h8;rfl
   by_cases h9:r=337
   ·subst h9;rfl
   by_cases h10:r=338
   ·subst h10;rfl
   by_cases h11:r=339
   ·subst h11;rfl
   simp only[beq_iff_eq,h0,h1,h2,h3,h4,h5,h6,h7,h8,h9,h10,h11,if_false])
 change Wq Try.prog _ _ _ _ _ (F9 (F9 (F9 cY 337) 338) 339).w
 have l0:∀w:Int,(G2 (vlE log) w (vlN log)).length=vlN log:=fun w=>N7 ..
 refine F7x (vlN log) (vlN log) (K4 l (vlN log)).t.1 (K4 l (vlN log)).t.2.1 (K4 l (vlN log)).t.2.2 (G2 (vlE log) 0 (vlN log)) (G2 (vlE log) 1 (vlN log)) (G2 (vlE log) 2 (vlN log)) hN6 e0 e1 e2 (G1r h2) (l0 0) (l0 1) (l0 2) (fun ac aZ cZ hs2=>?_) (n3.nx 448)
 refine vlD _ _ _ _ _ _ _ _ _ _ _ _ _ _ ⟨decide_eq_false (by decide),trivial⟩ hs2 fun ac cD aD hs3=>?_
 have q0:∀w,vaR l log w=I9 (G2 (vlE log) 0 (vlN log)) (G2 (vlE log) 1 (vlN log)) (G2 (vlE log) 2 (vlN log)) (if w=0 then (K4 l (vlN log)).t.1 else if w=1 then (K4 l (vlN log)).t.2.1 else (K4 l (vlN log)).t.2.2) (vlN log):=fun w=>by unfold vaR;rw[hE]
 rw[q0 0,q0 1,q0 2];exact C7 Q7 hk hF (F1p _ _ _ _ _ _ _ _ _ _ _ _ _ _) trivial (fun y v hd=>hd) hs3
end S4

end
end Go.Proofs.Ytifiiigbedjceaa
