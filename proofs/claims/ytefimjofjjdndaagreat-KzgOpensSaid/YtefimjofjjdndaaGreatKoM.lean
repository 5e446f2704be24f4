/- Parts of a proof, one behind the other: Ty, WMul, PMul, WRq, PRq, WTm, PTm, WRc, PRc, WPq, PPq, PPl, WIq, PIq, WPs, PPs, WPt, WSred, PSred, WStim. No conditions. -/
import Derived.Test.YtefimjofjjdndaaGreatProg
import Derived.Test.YtefimjofjjdndaaGreatKoL
open Go.IntKind (wrap)
namespace Go.Proofs.YtefimjofjjdndaaGreat
noncomputable section
section

set_option maxRecDepth 10000 in
def E3l:List (Nat×TyI):=[
 (2,⟨1,false,8,[.int .i64 0],[],none,none,(some .i64),none,[true]⟩),
 (3,⟨1,false,8,[.int .i64 0],[],none,none,(some .i64),(some (.int [])),[true]⟩),
 (4,⟨1,false,1,[.lit false],[],none,none,none,none,[false]⟩),
 (5,⟨1,false,1,[.int .u8 0],[],none,none,(some .u8),none,[true]⟩),
 (19,⟨1,true,8,[.val (.pointer none)],[(0,1,false)],none,none,none,none,[]⟩),
 (21,⟨1,false,4,[.int .i32 0],[],none,none,(some .i32),none,[true]⟩),
 (22,⟨1,false,8,[.int .u64 0],[],none,none,(some .u64),(some (.u64 [])),[true]⟩),
 (23,⟨6,true,48,[.int .u64 0,.int .u64 0,.int .u64 0,.int .u64 0,.int .u64 0,.int .u64 0],[],(some (6,22)),none,none,none,[true,true,true,true,true,true]⟩),
 (24,⟨6,true,48,[.ob (.fp 0)],[],(some (6,22)),none,none,none,[true,true,true,true,true,true]⟩),
 (25,⟨13,true,104,[.ob (.fp 0),.ob (.fp 0),.lit false],[(0,6,true),(6,6,true),(12,1,false)],none,none,none,none,[true,true,true,true,true,true,true,true,true,true,true,true,false]⟩),
 (26,⟨13,true,104,[.ob (.fp 0),.ob (.fp 0),.lit false],[(0,6,true),(6,6,true),(12,1,false)],none,none,none,(some (.g1 [])),[true,true,true,true,true,true,true,true,true,true,true,true,false]⟩),
 (27,⟨12,true,96,[.ob (.fp 0),.ob (.fp 0)],[(0,6,true),(6,6,true)],none,none,none,none,[true,true,true,true,true,true,true,true,true,true,true,true]⟩),
 (28,⟨12,true,96,[.ob (.fp 0),.ob (.fp 0)],[(0,6,true),(6,6,true)],none,none,none,none,[true,true,true,true,true,true,true,true,true,true,true,true]⟩),
 (29,⟨25,true,200,[.ob (.fp 0),.ob (.fp 0),.ob (.fp 0),.ob (.fp 0),.lit false],[(0,12,true),(12,12,true),(24,1,false)],none,none,none,none,[true,true,true,true,true,true,true,true,true,true,true,true,true,true,true,true,true,true,true,true,true,true,true,true,false]⟩),
 (30,⟨25,true,200,[.ob (.fp 0),.ob (.fp 0),.ob (.fp 0),.ob (.fp 0),.lit false],[(0,12,true),(12,12,true),(24,1,false)],none,none,none,(some (.g2 [])),[true,true,true,true,true,true,true,true,true,true,true,true,true,true,true,true,true,true,true,true,true,true,true,true,false]⟩),
 (31,⟨4,true,32,[.int .u64 0,.int .u64 0,.int .u64 0,.int .u64 0],[],(some (4,22)),none,none,none,[true,true,true,true]⟩),
 (32,⟨4,true,32,[.ob (.fr 0)],[],(some (4,22)),none,none,(some (.fr [])),[true,true,true,true]⟩),
 (33,⟨36,true,288,[.ob (.fp 0),.ob (.fp 0),.ob (.fp 0),.ob (.fp 0),.ob (.fp 0),.ob (.fp 0)],[(0,12,true),(12,12,true),(24,12,true)],none,none,none,none,[true,true,true,true,true,true,true,true,true,true,true,true,true,true,true,true,true,true,true,true,true,true,true,true,true,true,true,true,true,true,true,true,true,true,true,true]⟩),
 (34,⟨36,true,288,[.ob (.fp 0),.ob (.fp 0),.ob (.fp 0),.ob (.fp 0),.ob (.fp 0),.ob (.fp 0)],[(0,12,true),(12,12,true),(24,12,true)],none,none,none,none,[true,true,true,true,true,true,true,true,true,true,true,true,true,true,true,true,true,true,true,true,true,true,true,true,true,true,true,true,true,true,true,true,true,true,true,true]⟩),
 (35,⟨72,true,576,[.ob (.fp 0),.ob (.fp 0),.ob (.fp 0),.ob (.fp 0),.ob (.fp 0),.ob (.fp 0),.ob (.fp 0),.ob (.fp 0),.ob (.fp 0),.ob (.fp 0),.ob (.fp 0),.ob (.fp 0)],[(0,36,true),(36,36,true)],none,none,none,none,[true,true,true,true,true,true,true,true,true,true,true,true,true,true,true,true,true,true,true,true,true,true,true,true,true,true,true,true,true,true,true,true,true,true,true,true,true,true,true,true,true,true,true,true,true,true,true,true,true,true,true,true,true,true,true,true,true,true,true,true,true,true,true,true,true,true,true,true,true,true,true,true]⟩),
 (36,⟨72,true,576,[.ob (.fp 0),.ob (.fp 0),.ob (.fp 0),.ob (.fp 0),.ob (.fp 0),.ob (.fp 0),.ob (.fp 0),.ob (.fp 0),.ob (.fp 0),.ob (.fp 0),.ob (.fp 0),.ob (.fp 0)],[(0,36,true),(36,36,true)],none,none,none,none,[true,true,true,true,true,true,true,true,true,true,true,true,true,true,true,true,true,true,true,true,true,true,true,true,true,true,true,true,true,true,true,true,true,true,true,true,true,true,true,true,true,true,true,true,true,true,true,true,true,true,true,true,true,true,true,true,true,true,true,true,true,true,true,true,true,true,true,true,true,true,true,true]⟩),
 (37,⟨1,false,8,[.int .i64 0],[],none,none,(some .i64),none,[true]⟩),
 (49,⟨1,false,24,[.val (.slice none 0 0)],[],none,(some 32),none,(some (.frs [])),[]⟩),
 (50,⟨1,false,24,[.val (.slice none 0 0)],[],none,(some 26),none,none,[]⟩),
 (51,⟨1,false,24,[.val (.slice none 0 0)],[],none,(some 30),none,none,[]⟩),
 (58,⟨34,true,272,[.ob (.fp 0),.ob (.fp 0),.lit false,.ob (.fr 0),.ob (.fr 0),.ob (.fp 0),.ob (.fp 0),.lit false],[(0,13,true),(13,4,true),(17,4,true),(21,13,true)],none,none,none,none,[true,true,true,true,true,true,true,true,true,true,true,true,false,true,true,true,true,true,true,true,true,true,true,true,true,true,true,true,true,true,true,true,true,false]⟩),
 (59,⟨34,true,272,[.ob (.fp 0),.ob (.fp 0),.lit false,.ob (.fr 0),.ob (.fr 0),.ob (.fp 0),.ob (.fp 0),.lit false],[(0,13,true),(13,4,true),(17,4,true),(21,13,true)],none,none,none,none,[true,true,true,true,true,true,true,true,true,true,true,true,false,true,true,true,true,true,true,true,true,true,true,true,true,true,true,true,true,true,true,true,true,false]⟩),
 (66,⟨26,true,224,[.sl (.g1 []),.ob (.fp 0),.ob (.fp 0),.ob (.fp 0),.ob (.fp 0),.lit false],[(0,1,false),(1,25,true)],none,none,none,none,[]⟩),
 (67,⟨26,true,224,[.sl (.g1 []),.ob (.fp 0),.ob (.fp 0),.ob (.fp 0),.ob (.fp 0),.lit false],[(0,1,false),(1,25,true)],none,none,none,none,[]⟩),
 (77,⟨6,true,48,[.ob (.p 0)],[],(some (6,22)),none,none,none,[true,true,true,true,true,true]⟩),
 (78,⟨12,true,96,[.ob (.p 0),.ob (.p 0)],[(0,6,true),(6,6,true)],none,none,none,none,[true,true,true,true,true,true,true,true,true,true,true,true]⟩),
 (79,⟨12,true,96,[.ob (.p 0),.ob (.p 0)],[(0,6,true),(6,6,true)],none,none,none,none,[true,true,true,true,true,true,true,true,true,true,true,true]⟩),
 (80,⟨36,true,288,[.ob (.p 0),.ob (.p 0),.ob (.p 0),.ob (.p 0),.ob (.p 0),.ob (.p 0)],[(0,12,true),(12,12,true),(24,12,true)],none,none,none,none,[true,true,true,true,true,true,true,true,true,true,true,true,true,true,true,true,true,true,true,true,true,true,true,true,true,true,true,true,true,true,true,true,true,true,true,true]⟩),
 (81,⟨36,true,288,[.ob (.p 0),.ob (.p 0),.ob (.p 0),.ob (.p 0),.ob (.p 0),.ob (.p 0)],[(0,12,true),(12,12,true),(24,12,true)],none,none,none,none,[true,true,true,true,true,true,true,true,true,true,true,true,true,true,true,true,true,true,true,true,true,true,true,true,true,true,true,true,true,true,true,true,true,true,true,true]⟩),
 (82,⟨72,true,576,[.ob (.p 0),.ob (.p 0),.ob (.p 0),.ob (.p 0),.ob (.p 0),.ob (.p 0),.ob (.p 0),.ob (.p 0),.ob (.p 0),.ob (.p 0),.ob (.p 0),.ob (.p 0)],[(0,36,true),(36,36,true)],none,none,none,none,[true,true,true,true,true,true,true,true,true,true,true,true,true,true,true,true,true,true,true,true,true,true,true,true,true,true,true,true,true,true,true,true,true,true,true,true,true,true,true,true,true,true,true,true,true,true,true,true,true,true,true,true,true,true,true,true,true,true,true,true,true,true,true,true,true,true,true,true,true,true,true,true]⟩),
 (83,⟨72,true,576,[.ob (.p 0),.ob (.p 0),.ob (.p 0),.ob (.p 0),.ob (.p 0),.ob (.p 0),.ob (.p 0),.ob (.p 0),.ob (.p 0),.ob (.p 0),.ob (.p 0),.ob (.p 0)],[(0,36,true),(36,36,true)],none,none,none,none,[true,true,true,true,true,true,true,true,true,true,true,true,true,true,true,true,true,true,true,true,true,true,true,true,true,true,true,true,true,true,true,true,true,true,true,true,true,true,true,true,true,true,true,true,true,true,true,true,true,true,true,true,true,true,true,true,true,true,true,true,true,true,true,true,true,true,true,true,true,true,true,true]⟩),
 (88,⟨18,true,144,[.ob (.p 0),.ob (.p 0),.ob (.p 0)],[(0,6,true),(6,6,true),(12,6,true)],none,none,none,none,[true,true,true,true,true,true,true,true,true,true,true,true,true,true,true,true,true,true]⟩),
 (89,⟨18,true,144,[.ob (.p 0),.ob (.p 0),.ob (.p 0)],[(0,6,true),(6,6,true),(12,6,true)],none,none,none,(some (.pt [])),[true,true,true,true,true,true,true,true,true,true,true,true,true,true,true,true,true,true]⟩),
 (93,⟨36,true,288,[.ob (.p 0),.ob (.p 0),.ob (.p 0),.ob (.p 0),.ob (.p 0),.ob (.p 0)],[(0,12,true),(12,12,true),(24,12,true)],none,none,none,none,[true,true,true,true,true,true,true,true,true,true,true,true,true,true,true,true,true,true,true,true,true,true,true,true,true,true,true,true,true,true,true,true,true,true,true,true]⟩),
 (94,⟨36,true,288,[.ob (.p 0),.ob (.p 0),.ob (.p 0),.ob (.p 0),.ob (.p 0),.ob (.p 0)],[(0,12,true),(12,12,true),(24,12,true)],none,none,none,(some (.pt2 [])),[true,true,true,true,true,true,true,true,true,true,true,true,true,true,true,true,true,true,true,true,true,true,true,true,true,true,true,true,true,true,true,true,true,true,true,true]⟩),
 (98,⟨4,true,32,[.ob (.s 0)],[],(some (4,22)),none,none,(some (.s [])),[true,true,true,true]⟩),
 (116,⟨1,false,24,[.val (.slice none 0 0)],[],none,(some 98),none,none,[]⟩),
 (126,⟨288,true,2304,[.ob (.p 0),.ob (.p 0),.ob (.p 0),.ob (.p 0),.ob (.p 0),.ob (.p 0),.ob (.p 0),.ob (.p 0),.ob (.p 0),.ob (.p 0),.ob (.p 0),.ob (.p 0),.ob (.p 0),.ob (.p 0),.ob (.p 0),.ob (.p 0),.ob (.p 0),.ob (.p 0),.ob (.p 0),.ob (.p 0),.ob (.p 0),.ob (.p 0),.ob (.p 0),.ob (.p 0),.ob (.p 0),.ob (.p 0),.ob (.p 0),.ob (.p 0),.ob (.p 0),.ob (.p 0),.ob (.p 0),.ob (.p 0),.ob (.p 0),.ob (.p 0),.ob (.p 0),.ob (.p 0),.ob (.p 0),.ob (.p 0),.ob (.p 0),.ob (.p 0),.ob (.p 0),.ob (.p 0),.ob (.p 0),.ob (.p 0),.ob (.p 0),.ob (.p 0),.ob (.p 0),.ob (.p 0)],[],(some (16,89)),none,none,(some (.ptt [])),[]⟩),
 (136,⟨576,true,4608,[.ob (.p 0),.ob (.p 0),.ob (.p 0),.ob (.p 0),.ob (.p 0),.ob (.p 0),.ob (.p 0),.ob (.p 0),.ob (.p 0),.ob (.p 0),.ob (.p 0),.ob (.p 0),.ob (.p 0),.ob (.p 0),.ob (.p 0),.ob (.p 0),.ob (.p 0),.ob (.p 0),.ob (.p 0),.ob (.p 0),.ob (.p 0),.ob (.p 0),.ob (.p 0),.ob (.p 0),.ob (.p 0),.ob (.p 0),.ob (.p 0),.ob (.p 0),.ob (.p 0),.ob (.p 0),.ob (.p 0),.ob (.p 0),.ob (.p 0),.ob (.p 0),.ob (.p 0),.ob (.p 0),.ob (.p 0),.ob (.p 0),.ob (.p 0),.ob (.p 0),.ob (.p 0),.ob (.p 0),.ob (.p 0),.ob (.p 0),.ob (.p 0),.ob (.p 0),.ob (.p 0),.ob (.p 0),.ob (.p 0),.ob (.p 0),.ob (.p 0),.ob (.p 0),.ob (.p 0),.ob (.p 0),.ob (.p 0),.ob (.p 0),.ob (.p 0),.ob (.p 0),.ob (.p 0),.ob (.p 0),.ob (.p 0),.ob (.p 0),.ob (.p 0),.ob (.p 0),.ob (.p 0),.ob (.p 0),.ob (.p 0),.ob (.p 0),.ob (.p 0),.ob (.p 0),.ob (.p 0),.ob (.p 0),.ob (.p 0),.ob (.p 0),.ob (.p 0),.ob (.p 0),.ob (.p 0),.ob (.p 0),.ob (.p 0),.ob (.p 0),.ob (.p 0),.ob (.p 0),.ob (.p 0),.ob (.p 0),.ob (.p 0),.ob (.p 0),.ob (.p 0),.ob (.p 0),.ob (.p 0),.ob (.p 0),.ob (.p 0),.ob (.p 0),.ob (.p 0),.ob (.p 0),.ob (.p 0),.ob (.p 0)],[],(some (16,94)),none,none,none,[]⟩),
 (143,⟨1,false,24,[.val (.slice none 0 0)],[],none,(some 22),none,none,[]⟩),
 (154,⟨1,false,24,[.val (.slice none 0 0)],[],none,(some 89),none,none,[]⟩),
 (159,⟨1,false,24,[.val (.slice none 0 0)],[],none,(some 126),none,none,[]⟩),
 (162,⟨1,false,24,[.val (.slice none 0 0)],[],none,(some 49),none,none,[]⟩),
 (173,⟨10,true,80,[.int .u64 0,.int .u64 0,.int .u64 0,.int .u64 0,.int .u64 0,.int .u64 0,.int .u64 0,.int .u64 0,.int .u64 0,.int .u64 0],[],(some (10,22)),none,none,none,[true,true,true,true,true,true,true,true,true,true]⟩),
 (175,⟨1,false,8,[.int .u64 0],[],none,none,(some .u64),none,[true]⟩),
 (177,⟨1,false,24,[.val (.slice none 0 0)],[],none,(some 178),none,none,[]⟩),
 (178,⟨1,false,24,[.val (.slice none 0 0)],[],none,(some 3),none,(some (.ints [])),[]⟩),
 (181,⟨72,true,576,[.ob (.fp 0),.ob (.fp 0),.ob (.fp 0),.ob (.fp 0),.ob (.fp 0),.ob (.fp 0),.ob (.fp 0),.ob (.fp 0),.ob (.fp 0),.ob (.fp 0),.ob (.fp 0),.ob (.fp 0)],[],(some (6,28)),none,none,none,[true,true,true,true,true,true,true,true,true,true,true,true,true,true,true,true,true,true,true,true,true,true,true,true,true,true,true,true,true,true,true,true,true,true,true,true,true,true,true,true,true,true,true,true,true,true,true,true,true,true,true,true,true,true,true,true,true,true,true,true,true,true,true,true,true,true,true,true,true,true,true,true]⟩),
 (186,⟨8,true,64,[.int .u64 0,.int .u64 0,.int .u64 0,.int .u64 0,.int .u64 0,.int .u64 0,.int .u64 0,.int .u64 0],[],(some (8,22)),none,none,none,[true,true,true,true,true,true,true,true]⟩),
 (187,⟨306,true,2448,[.ob (.p 0),.ob (.p 0),.ob (.p 0),.ob (.p 0),.ob (.p 0),.ob (.p 0),.ob (.p 0),.ob (.p 0),.ob (.p 0),.ob (.p 0),.ob (.p 0),.ob (.p 0),.ob (.p 0),.ob (.p 0),.ob (.p 0),.ob (.p 0),.ob (.p 0),.ob (.p 0),.ob (.p 0),.ob (.p 0),.ob (.p 0),.ob (.p 0),.ob (.p 0),.ob (.p 0),.ob (.p 0),.ob (.p 0),.ob (.p 0),.ob (.p 0),.ob (.p 0),.ob (.p 0),.ob (.p 0),.ob (.p 0),.ob (.p 0),.ob (.p 0),.ob (.p 0),.ob (.p 0),.ob (.p 0),.ob (.p 0),.ob (.p 0),.ob (.p 0),.ob (.p 0),.ob (.p 0),.ob (.p 0),.ob (.p 0),.ob (.p 0),.ob (.p 0),.ob (.p 0),.ob (.p 0),.ob (.p 0),.ob (.p 0),.ob (.p 0)],[],(some (17,89)),none,none,none,[]⟩),
 (188,⟨306,true,2448,[.ob (.p 0),.ob (.p 0),.ob (.p 0),.ob (.p 0),.ob (.p 0),.ob (.p 0),.ob (.p 0),.ob (.p 0),.ob (.p 0),.ob (.p 0),.ob (.p 0),.ob (.p 0),.ob (.p 0),.ob (.p 0),.ob (.p 0),.ob (.p 0),.ob (.p 0),.ob (.p 0),.ob (.p 0),.ob (.p 0),.ob (.p 0),.ob (.p 0),.ob (.p 0),.ob (.p 0),.ob (.p 0),.ob (.p 0),.ob (.p 0),.ob (.p 0),.ob (.p 0),.ob (.p 0),.ob (.p 0),.ob (.p 0),.ob (.p 0),.ob (.p 0),.ob (.p 0),.ob (.p 0),.ob (.p 0),.ob (.p 0),.ob (.p 0),.ob (.p 0),.ob (.p 0),.ob (.p 0),.ob (.p 0),.ob (.p 0),.ob (.p 0),.ob (.p 0),.ob (.p 0),.ob (.p 0),.ob (.p 0),.ob (.p 0),.ob (.p 0)],[],(some (17,89)),none,none,none,[]⟩),
 (189,⟨1,false,8,[.val (.pointer none)],[],none,none,none,none,[]⟩),
 (198,⟨1,false,4,[.int .u32 0],[],none,none,(some .u32),none,[true]⟩),
 (202,⟨1,false,8,[.val (.pointer none)],[],none,none,none,none,[]⟩)]

theorem J1g:(E3l.all fun r=>A4u Tryz.prog r.1 r.2)=true:=by kernel_rfl

theorem mixed:Tryz.prog.follows .mixedOrders=true:=by kernel_rfl

def F6l (f:Nat):Option Func:=
 if f=50 then some Tryz.f50 else
 if f=80 then some Tryz.f80 else
 if f=88 then some Tryz.f88 else
 none

theorem H6h:∀f fn,F6l f=some fn->Tryz.prog.funcs[f]? = some fn∧A2s Tryz.prog f:=by
 intro f fn h;unfold F6l at h;split at h
 ·rename_i hf;cases h;subst hf;exact ⟨Tryz.func50,A4 Tryz.func50 rfl rfl⟩
 split at h
 ·rename_i hf;cases h;subst hf;exact ⟨Tryz.func80,A4 Tryz.func80 rfl rfl⟩
 split at h
 ·rename_i hf;cases h;subst hf;exact ⟨Tryz.func88,A4 Tryz.func88 rfl rfl⟩
 cases h

def H5k (f:Nat):Option Nat:=
 if f=91 then some 0 else if f=109 then some 1 else none

theorem I4k:∀f k,H5k f=some k->∀(x y c:Int) (w:World),0<=x->0<=y->y<18446744073709551616->0<=c->c<=1 ->
  (callFunc f #[.int .u64 x,.int .u64 y,.int .u64 c]).run Tryz.prog w = .ok (.value (.tuple #[.int .u64 (A6 k x y c).1,.int .u64 (A6 k x y c).2])) w:=by
 intro f k h x y c w h1 h2 h3 h4 h5;unfold H5k at h;split at h
 ·rename_i hf;cases h;subst hf;exact H5m Tryz.func91 rfl rfl (by kernel_rfl) (by kernel_rfl) x y c w h1 h2 h4 h5
 split at h
 ·rename_i hf;cases h;subst hf;exact H5n Tryz.func109 rfl rfl (by kernel_rfl) (by kernel_rfl) x y c w h1 h2 h3 h4 h5
 cases h

def B4l:Env:=⟨D8u E3l,fun _=>none,fun _=>none,F6l,H5k,fun _=>none⟩

theorem P9:A9 Tryz.prog B4l:=
 ⟨fun t i h=>D8v E3l J1g t i h,mixed,fun f s h=>(by cases h),fun f s h=>(by cases h),H6h,I4k,fun t l h=>(by cases h)⟩

end

section

theorem H7s (x y:Int):let b:Int:=4294967296;let d:Int:=4294967295;let f:=0<=(32:Int);let g:=I1 BinOp.and IntKind.u64 y d;let h:=I1 BinOp.and IntKind.u64 x d;let i:=Int.fdiv x b;let a:=wrap .u64 ((wrap .u64 (i*g))+(Int.fdiv (wrap .u64 (h*g)) b));let j:=Int.fdiv y b;B5 B4l Tryz.f90 3000 [.v (.c (.int .u64 x)),.v (.c (.int .u64 y))] [] [] []=(some ([f,f,f,f,f],((.t [(.c (.int .u64 (wrap .u64 ((wrap .u64 ((wrap .u64 (i*j))+(Int.fdiv a b)))+(Int.fdiv (wrap .u64 ((I1 BinOp.and IntKind.u64 a d)+(wrap .u64 (h*j)))) b))))),(.c (.int .u64 (wrap .u64 (x*y))))]),[]))):=by intros;kernel_rfl
end

section

theorem C4u (n:Int):wrap IntKind.u64 n=n % 18446744073709551616:=rfl

theorem F2a {x:Int} (h:0<=x):I1 BinOp.and IntKind.u64 x (4294967295:Int)=x % 4294967296:=by
 obtain ⟨n,rfl⟩:=Int.eq_ofNat_of_zero_le h;show wrap IntKind.u64 ((BitVec.ofInt 64 (n:Int) &&& BitVec.ofInt 64 ((4294967295:Nat):Int)).toNat:Int)=_;rw[BitVec.ofInt_natCast,BitVec.ofInt_natCast,BitVec.toNat_and,BitVec.toNat_ofNat,BitVec.toNat_ofNat];have e:4294967295 % 2 ^ 64=2 ^ 32-1:=by decide
 rw[e,Nat.and_two_pow_sub_one_eq_mod,C4u];omega

theorem I7d (x:Int):Int.fdiv x 4294967296=x / 4294967296:=by
 exact Int.fdiv_eq_ediv_of_nonneg x (by decide)

theorem E6j {a b:Int} (ha:0<=a) (ha1:a<4294967296) (hb:0<=b) (hb1:b<4294967296):0<=a*b∧a*b<=18446744065119617025:=by
 refine ⟨Int.mul_nonneg ha hb,?_⟩
 have:a*b<=4294967295*4294967295:=Int.mul_le_mul (by omega) (by omega) hb (by decide)
 omega

/-- Four products of halves. -/
theorem F6b {x y:Int}:x*y=(x / 4294967296)*(y / 4294967296)*18446744073709551616+((x / 4294967296)*(y % 4294967296)+(x % 4294967296)*(y / 4294967296))*4294967296+(x % 4294967296)*(y % 4294967296):=by
 have hx:x=4294967296*(x / 4294967296)+x % 4294967296:=(Int.mul_ediv_add_emod x 4294967296).symm;have hy:y=4294967296*(y / 4294967296)+y % 4294967296:=(Int.mul_ediv_add_emod y 4294967296).symm;generalize x / 4294967296=a at *;generalize x % 4294967296=b at *;generalize y / 4294967296=c at *;generalize y % 4294967296=d at *;subst hx hy;simp only[Int.add_mul,Int.mul_add];have e1:4294967296*a*(4294967296*c)=a*c*18446744073709551616:=by
  rw[Int.mul_assoc,Int.mul_left_comm a];omega
 have e2:4294967296*a*d=a*d*4294967296:=by rw[Int.mul_assoc];omega
 have e3:b*(4294967296*c)=b*c*4294967296:=by rw[Int.mul_left_comm];omega
 rw[e1,e2,e3];omega

theorem C7e (x y:Int) (hx:0<=x) (hx1:x<18446744073709551616) (hy:0<=y) (hy1:y<18446744073709551616) :
  FnD Tryz.prog 90 [.v (.c (.int .u64 x)),.v (.c (.int .u64 y))] (.t [.c (.int .u64 (x*y / 18446744073709551616)),.c (.int .u64 (x*y % 18446744073709551616))]) []:=by
 refine (A5 P9 Tryz.func90 (H7s x y) (by simp [B1])).conv (fun _ _ h=>h) (fun z w hd=>?_)
 simp only[I7d] at hd;have hx2:0<=x / 4294967296∧x / 4294967296<4294967296:=by omega
 have hy2:0<=y / 4294967296∧y / 4294967296<4294967296:=by omega
 have hx3:0<=x % 4294967296∧x % 4294967296<4294967296:=by omega
 have hy3:0<=y % 4294967296∧y % 4294967296<4294967296:=by omega
 rw[F2a hx,F2a hy] at hd;have h:=F6b (x:=x) (y:=y);have m1:=E6j hx2.1 hx2.2 hy2.1 hy2.2;have m2:=E6j hx2.1 hx2.2 hy3.1 hy3.2;have m3:=E6j hx3.1 hx3.2 hy2.1 hy2.2;have m4:=E6j hx3.1 hx3.2 hy3.1 hy3.2;generalize x / 4294967296*(y / 4294967296)=d at *;generalize x / 4294967296*(y % 4294967296)=b at *;generalize x % 4294967296*(y / 4294967296)=c at *;generalize x % 4294967296*(y % 4294967296)=a at *;generalize x*y=n at *;simp only[C4u] at hd;rw[F2a (by omega)] at hd
 have e:(((d % 18446744073709551616+(b % 18446744073709551616+a % 18446744073709551616 / 4294967296) % 18446744073709551616 / 4294967296) % 18446744073709551616+((b % 18446744073709551616+a % 18446744073709551616 / 4294967296) % 18446744073709551616 % 4294967296+c % 18446744073709551616) % 18446744073709551616 / 4294967296) % 18446744073709551616)=n / 18446744073709551616:=by omega
 rw[e] at hd;exact hd

end

section

def Z3:B2
 | [.v (.c (.int .u64 x)),.v (.c (.int .u64 y))]=>some ([0<=x,x<18446744073709551616,0<=y,y<18446744073709551616],.t [.c (.int .u64 (x*y / 18446744073709551616)),.c (.int .u64 (x*y % 18446744073709551616))],[])
 | _=>none

def qeA:Env:=B4l.set (C6 B4l.fn 90 Z3)
theorem G1w:A9 Tryz.prog qeA:=
 A8 P9 90 Z3 (A4 Tryz.func90 rfl rfl) fun args o r es h ho=>by
  unfold Z3 at h;split at h
  ·cases h;exact C7e _ _ ho.1 ho.2.1 ho.2.2.1 ho.2.2.2.1
  ·cases h

theorem I3x  : B5 qeA Tryz.f120 3000 [] [] [] []=(some ([(0<=(13402431016077863595:Int)),((13402431016077863595:Int)<(18446744073709551616:Int)),(0<=(2210141511517208575:Int)),((2210141511517208575:Int)<(18446744073709551616:Int)),(0<=(7435674573564081700:Int)),((7435674573564081700:Int)<(18446744073709551616:Int)),(0<=(7239337960414712511:Int)),((7239337960414712511:Int)<(18446744073709551616:Int)),(0<=(5412103778470702295:Int)),((5412103778470702295:Int)<(18446744073709551616:Int)),(0<=(1873798617647539866:Int)),((1873798617647539866:Int)<(18446744073709551616:Int))],((.v (.a [(.ob (.fp (Fin.ofNat B6 4002409555221667393417789825735904156556882819939007885332058136124031650490837864442687629129015664037894272559787)))])),[]))):=by kernel_rfl

def pU:U6:=Fin.ofNat B6 pN
def B4f:B2
 | []=>some ([],.v (.a [.ob (.fp pU)]),[])
 | _=>none

theorem E8p:FnD Tryz.prog 120 [] (.v (.a [.ob (.fp pU)])) []:=
 (A5 G1w Tryz.func120 I3x (by simp [B1])).conv (fun _ _ h=>h) fun y v hd=>by
  have e:pU=Fin.ofNat B6 4002409555221667393417789825735904156556882819939007885332058136124031650490837864442687629129015664037894272559787:=by kernel_rfl
  rw[e];exact hd

def qeB:Env:=qeA.set (C6 qeA.fn 120 B4f)
theorem E2f:A9 Tryz.prog qeB:=
 A8 G1w 120 B4f (A4 Tryz.func120 rfl rfl) fun args o r es h ho=>by
  unfold B4f at h;split at h
  ·cases h;exact E8p
  ·cases h

theorem I0e (a b c d e f:Int):let j:Int:=6;let l:Int:=18446744073709551616;let m:Int:=2210141511517208575;let n:Int:=13402431016077863595;let o:Int:=1;let p:Int:=1873798617647539866;let q:Int:=7435674573564081700;let r:Int:=5412103778470702295;let s:Int:=7239337960414712511;let u:Int:=0;let i:=Prod.snd (A6 1 a n u);let t:=Prod.snd (A6 1 b m i);let g:=A6 1 c q t;let w:Int:=2;let x:Int:=3;let y:Int:=4;let z:Int:=5;let C:=Prod.snd g;let k:=A6 1 d s C;let B:=Prod.snd k;let h:=A6 1 e r B;let A:=Prod.snd h;B5 qeB Tryz.f131 3000 [.v (.a [.int .u64 a,.int .u64 b,.int .u64 c,.int .u64 d,.int .u64 e,.int .u64 f])] [true,true,true,true,true,true,false,true] [] []=(some ([((decide (0<j))=true),(0<=u),(0<j),(0<=u),(0<j),(0<6),(0<=a),(0<=n),(n<l),(0<=u),(0<=o),(0<=u),(0<j),((decide (o<j))=true),(0<=o),(o<j),(0<=o),(o<j),(1<6),(0<=b),(0<=m),(m<l),(0<=i),(i<=o),(0<=o),(o<j),((decide (w<j))=true),(0<=w),(w<j),(0<=w),(w<j),(2<6),(0<=c),(0<=q),(q<l),(0<=t),(t<=o),(0<=w),(w<j),((decide (x<j))=true),(0<=x),(x<j),(0<=x),(x<j),(3<6),(0<=d),(0<=s),(s<l),(0<=C),(C<=o),(0<=x),(x<j),((decide (y<j))=true),(0<=y),(y<j),(0<=y),(y<j),(4<6),(0<=e),(0<=r),(r<l),(0<=B),(B<=o),(0<=y),(y<j),((decide (z<j))=true),(0<=z),(z<j),(0<=z),(z<j),(5<6),(0<=f),(0<=p),(p<l),(0<=A),(A<=o),(0<=z),(z<j),((decide (j<j))=false),(((Prod.snd (A6 1 f p A)) == u)=true)],((.v (.a [(.int .u64 (Prod.fst (A6 1 a n u))),(.int .u64 (Prod.fst (A6 1 b m i))),(.int .u64 (Prod.fst g)),(.int .u64 (Prod.fst k)),(.int .u64 (Prod.fst h)),(.int .u64 (Prod.fst (A6 1 f p A)))])),[]))):=by intros;kernel_rfl
theorem I0f (a b c d e f:Int):let j:Int:=6;let k:Int:=18446744073709551616;let l:Int:=2210141511517208575;let m:Int:=5412103778470702295;let n:Int:=1;let o:Int:=13402431016077863595;let p:Int:=7435674573564081700;let q:Int:=7239337960414712511;let r:Int:=1873798617647539866;let u:Int:=2;let w:Int:=3;let x:Int:=4;let y:Int:=5;let z:Int:=0;let h:=Prod.snd (A6 1 a o z);let s:=Prod.snd (A6 1 b l h);let g:=Prod.snd (A6 1 c p s);let i:=Prod.snd (A6 1 d q g);let t:=Prod.snd (A6 1 e m i);B5 qeB Tryz.f131 3000 [.v (.a [.int .u64 a,.int .u64 b,.int .u64 c,.int .u64 d,.int .u64 e,.int .u64 f])] [true,true,true,true,true,true,false,false] [] []=(some ([((decide (0<j))=true),(0<=z),(0<j),(0<=z),(0<j),(0<6),(0<=a),(0<=o),(o<k),(0<=z),(0<=n),(0<=z),(0<j),((decide (n<j))=true),(0<=n),(n<j),(0<=n),(n<j),(1<6),(0<=b),(0<=l),(l<k),(0<=h),(h<=n),(0<=n),(n<j),((decide (u<j))=true),(0<=u),(u<j),(0<=u),(u<j),(2<6),(0<=c),(0<=p),(p<k),(0<=s),(s<=n),(0<=u),(u<j),((decide (w<j))=true),(0<=w),(w<j),(0<=w),(w<j),(3<6),(0<=d),(0<=q),(q<k),(0<=g),(g<=n),(0<=w),(w<j),((decide (x<j))=true),(0<=x),(x<j),(0<=x),(x<j),(4<6),(0<=e),(0<=m),(m<k),(0<=i),(i<=n),(0<=x),(x<j),((decide (y<j))=true),(0<=y),(y<j),(0<=y),(y<j),(5<6),(0<=f),(0<=r),(r<k),(0<=t),(t<=n),(0<=y),(y<j),((decide (j<j))=false),(((Prod.snd (A6 1 f r t)) == z)=false)],((.v (.a [(.int .u64 a),(.int .u64 b),(.int .u64 c),(.int .u64 d),(.int .u64 e),(.int .u64 f)])),[]))):=by intros;kernel_rfl
end

section

def A4s:B2
 | [.v (.a [.int .u64 a,.int .u64 b,.int .u64 c,.int .u64 d,.int .u64 e,.int .u64 f])]=>some ([0<=a,a<18446744073709551616,0<=b,b<18446744073709551616,0<=c,c<18446744073709551616,0<=d,d<18446744073709551616,0<=e,e<18446744073709551616,0<=f,f<18446744073709551616,G4 a b c d e f<2*pN],.v (.a [.ob (.p (B7s (G4 a b c d e f).toNat))]),[])
 | _=>none

theorem I6y {N:Int} (h0:0<=N) (h1:(pN:Int)<=N) (h2:N<2*pN):((Ob.p (B7s N.toNat)).n:Int)=N-pN:=by
 have e:(Ob.p (B7s N.toNat)).n=N.toNat-pN:=by
  rw[G2b];have k1:pN<=N.toNat:=by omega
  have k2:N.toNat<2*pN:=by omega
  rw[Nat.mod_eq_sub_mod k1,Nat.mod_eq_of_lt (by omega)]
 rw[e];omega

theorem I6z {N:Int} (h0:0<=N) (h1:N<(pN:Int)):((Ob.p (B7s N.toNat)).n:Int)=N:=by
 have e:(Ob.p (B7s N.toNat)).n=N.toNat:=by
  rw[G2b];exact Nat.mod_eq_of_lt (by omega)
 rw[e];omega

theorem A1v:(pN:Int)=4002409555221667393417789825735904156556882819939007885332058136124031650490837864442687629129015664037894272559787:=rfl

theorem W8 {a b c d e f:Int} (ha:0<=a) (hb:0<=b) (hc:0<=c) (hd:0<=d) (he:0<=e) (hf:0<=f):0<=G4 a b c d e f:=by unfold G4;omega

/-- The difference, limb by limb. -/
theorem H3d {a b c d e f:Int} {o1 v1 o2 v2 o3 v3 o4 v4 o5 v5 o6 v6:Int} (e1:o1=a-13402431016077863595-0+18446744073709551616*v1) (e2:o2=b-2210141511517208575-v1+18446744073709551616*v2) (e3:o3=c-7435674573564081700-v2+18446744073709551616*v3) (e4:o4=d-7239337960414712511-v3+18446744073709551616*v4) (e5:o5=e-5412103778470702295-v4+18446744073709551616*v5) (e6:o6=f-1873798617647539866-v5+18446744073709551616*v6) :
  G4 o1 o2 o3 o4 o5 o6=G4 a b c d e f-pN+39402006196394479212279040100143613805079739270465446667948293404245721771497210611414266254884915640806627990306816*v6:=by
 rw[A1v];unfold G4;omega

theorem lt6 {a b c d e f:Int} (ha:0<=a) (ha1:a<18446744073709551616) (hb:0<=b) (hb1:b<18446744073709551616) (hc:0<=c) (hc1:c<18446744073709551616) (hd:0<=d) (hd1:d<18446744073709551616) (he:0<=e) (he1:e<18446744073709551616) (hf:0<=f) (hf1:f<18446744073709551616):G4 a b c d e f<39402006196394479212279040100143613805079739270465446667948293404245721771497210611414266254884915640806627990306816:=by
 unfold G4;omega

theorem D2l (a b c d e f:Int) (ha:0<=a) (ha1:a<18446744073709551616) (hb:0<=b) (hb1:b<18446744073709551616) (hc:0<=c) (hc1:c<18446744073709551616) (hd:0<=d) (hd1:d<18446744073709551616) (he:0<=e) (he1:e<18446744073709551616) (hf:0<=f) (hf1:f<18446744073709551616) (hn:G4 a b c d e f<2*pN) :
  FnD Tryz.prog 131 [.v (.a [.int .u64 a,.int .u64 b,.int .u64 c,.int .u64 d,.int .u64 e,.int .u64 f])] (.v (.a [.ob (.p (B7s (G4 a b c d e f).toNat))])) []:=by
 have r0:=I0e a b c d e f;dsimp only at r0;have r1:=I0f a b c d e f;dsimp only at r1;obtain ⟨e1,o1,o1',c1,c1'⟩:=F5 (y:=13402431016077863595) (c:=0) ha ha1 (by decide) (by decide) (by decide) (by decide)
 obtain ⟨e2,o2,o2',c2,c2'⟩:=F5 (y:=2210141511517208575) hb hb1 (by decide) (by decide) c1 c1'
 obtain ⟨e3,o3,o3',c3,c3'⟩:=F5 (y:=7435674573564081700) hc hc1 (by decide) (by decide) c2 c2'
 obtain ⟨e4,o4,o4',c4,c4'⟩:=F5 (y:=7239337960414712511) hd hd1 (by decide) (by decide) c3 c3'
 obtain ⟨e5,o5,o5',c5,c5'⟩:=F5 (y:=5412103778470702295) he he1 (by decide) (by decide) c4 c4'
 obtain ⟨e6,o6,o6',c6,c6'⟩:=F5 (y:=1873798617647539866) hf hf1 (by decide) (by decide) c5 c5'
 generalize hx1:A6 1 a 13402431016077863595 0=x1 at *;generalize hx2:A6 1 b 2210141511517208575 x1.2=x2 at *;generalize hx3:A6 1 c 7435674573564081700 x2.2=x3 at *;generalize hx4:A6 1 d 7239337960414712511 x3.2=x4 at *;generalize hx5:A6 1 e 5412103778470702295 x4.2=x5 at *;generalize hx6:A6 1 f 1873798617647539866 x5.2=x6 at *;clear hx1 hx2 hx3 hx4 hx5 hx6;have hnn:=W8 ha hb hc hd he hf;have hD:=H3d e1 e2 e3 e4 e5 e6;have hO:=lt6 o1 o1' o2 o2' o3 o3' o4 o4' o5 o5' o6 o6';have hO0:=W8 o1 o2 o3 o4 o5 o6;have hp:=A1v;by_cases hz:x6.2=0
 ·refine (A5 E2f Tryz.func131 r0 ?_).conv (fun _ _ h=>h) fun y v hv=>A5v rfl ?_ hv
  ·clear hD hO hO0 hn hnn e1 e2 e3 e4 e5 e6
   simp only[B1,and_true,decide_eq_true_eq,decide_eq_false_iff_not,beq_iff_eq];and_intros<;>first | assumption | decide | omega
  ·refine Y9 o1 o1' o2 o2' o3 o3' o4 o4' o5 o5' o6 o6' ?_
   rw[hz,Int.mul_zero,Int.add_zero] at hD;rw[hD];exact I6y hnn (by omega) hn
 ·refine (A5 E2f Tryz.func131 r1 ?_).conv (fun _ _ h=>h) fun y v hv=>A5v rfl ?_ hv
  ·clear hD hO hO0 hn hnn e1 e2 e3 e4 e5 e6
   simp only[B1,and_true,decide_eq_true_eq,decide_eq_false_iff_not,beq_eq_false_iff_ne];and_intros<;>first | assumption | decide | omega
  ·refine Y9 ha ha1 hb hb1 hc hc1 hd hd1 he he1 hf hf1 ?_
   have:x6.2=1:=by omega
   rw[this] at hD;exact I6z hnn (by omega)

end

section
section
variable {w0:World} {F0:Nat->Prop} {K:Kp} {ac:List Act} {Q:Exit->Act->World->Prop} {cX:Ctx} {aX:Act}

def qeC:Env:=qeB.set (C6 qeB.fn 131 A4s)
theorem A1w:A9 Tryz.prog qeC:=
 A8 E2f 131 A4s (A4 Tryz.func131 rfl rfl) fun args o r es h ho=>by
  unfold A4s at h;split at h
  ·cases h
   obtain ⟨h1,h2,h3,h4,h5,h6,h7,h8,h9,h10,h11,h12,h13,_⟩:=ho;exact D2l _ _ _ _ _ _ h1 h2 h3 h4 h5 h6 h7 h8 h9 h10 h11 h12 h13
  ·cases h

def mc0 (x y:Fp):Cfg:=⟨[.code (B9 Tryz.f105)],.normal,D7 Tryz.f105.ntmps [.v (.a [.ob (.p x)]),.v (.a [.ob (.p y)])]⟩

def B2p:List KI:=(run qeC false 3000 (mc0 dF dF:Cfg) []).cfg.k
theorem mIn (x y:Fp):let b:Int:=0;let c:=(mc0 x y:Cfg);(B1 [])->(Sim w0 F0 K ac (c.σ) cX aX)->(∀ac cY aY,Sim w0 F0 K ac (B0 308 [3,4,5,6,7,8,9,10,20,21] [.pt 32 0,.pt 48 0,.iu b,.iu b,.iu b,.iu b,.iu b,.iu b,(.v (.a [.ob (.p x)])),.ii b] [32,48] [(eF_ [.ob (.p y)]),(eF_ [(.ob (.p (0:Fp)))])] 192 [] []) cY aY->Wq Tryz.prog Q (B2p) ac Exit.normal aY cY.w)->Wq Tryz.prog Q (c.k) ac c.x aX cX.w:=fun ho hs hK=>
 C3v (unroll:=false) (n:=3000) (path:=[]) (o:=⟨_,_,_,_,_,_,_⟩) A1w (by kernel_rfl) (by kernel_rfl) ho hs hK
def mS (x y:Fp) (i:Nat) (t0 t1 t2 t3 t4 t5 :Int):St:=B0 308 [3,4,5,6,7,8,9,10,20,21] [.pt 32 0,.pt 48 0,.v (.c (.int .u64 t0)),.v (.c (.int .u64 t1)),.v (.c (.int .u64 t2)),.v (.c (.int .u64 t3)),.v (.c (.int .u64 t4)),.v (.c (.int .u64 t5)),(.v (.a [.ob (.p x)])),.v (.c (.int .i64 (i:Int)))] [32,48] [(eF_ [.ob (.p y)]),(eF_ [(.ob (.p (0:Fp)))])] 192 [] []
theorem H7j (x y:Fp) (i:Nat) (t0 t1 t2 t3 t4 t5:Int):let b:Int:=18446744073709551616;let c:=G4 t0 t1 t2 t3 t4 t5;G5 qeC Tryz.f105 false 3000 (⟨E8 B2p,.normal,mS x y i t0 t1 t2 t3 t4 t5⟩) [false] [] []=(some ([((decide ((i:Int)<(6:Int)))=false),(0<=t0),(t0<b),(0<=t1),(t1<b),(0<=t2),(t2<b),(0<=t3),(t3<b),(0<=t4),(t4<b),(0<=t5),(t5<b),(c<(8004819110443334786835579651471808313113765639878015770664116272248063300981675728885375258258031328075788545119574:Int))],((.v (.a [(.ob (.p (B7s (c).toNat)))])),[]))):=by intros;kernel_rfl
def F7t:List KI:=(run qeC false 77 (⟨E8 B2p,.normal,mS dF dF dF dF dF dF dF dF dF⟩:Cfg) [true]).cfg.k
theorem mA (x y:Fp) (i:Nat) (t0 t1 t2 t3 t4 t5:Int) {w0:World} {F0:Nat->Prop} {K:Kp} {ac:List Act} {Q:Exit->Act->World->Prop} {cX:Ctx} {aX:Act} (ho:B1 [((decide ((i:Int)<(6:Int)))=true),(0<=(i:Int)),((i:Int)<(6:Int)),(0<=(0:Int)),(0<(6:Int)),(0<(Ob.k (.p y))),(0<=(A0 (Ob.n (.p x)) ((i:Int)).toNat)),((A0 (Ob.n (.p x)) ((i:Int)).toNat)<(18446744073709551616:Int)),(0<=(A0 (Ob.n (.p y)) 0)),((A0 (Ob.n (.p y)) 0)<(18446744073709551616:Int)),(0<=(((A0 (Ob.n (.p x)) ((i:Int)).toNat)*(A0 (Ob.n (.p y)) 0)) % (18446744073709551616:Int))),(0<=t0),(t0<(18446744073709551616:Int)),(0<=(0:Int)),(0<=(1:Int)),(0<=(wrap .u64 ((Prod.fst (A6 0 (((A0 (Ob.n (.p x)) ((i:Int)).toNat)*(A0 (Ob.n (.p y)) 0)) % (18446744073709551616:Int)) t0 (0:Int)))*(9940570264628428797:Int)))),((wrap .u64 ((Prod.fst (A6 0 (((A0 (Ob.n (.p x)) ((i:Int)).toNat)*(A0 (Ob.n (.p y)) 0)) % (18446744073709551616:Int)) t0 (0:Int)))*(9940570264628428797:Int)))<(18446744073709551616:Int)),(0<=(13402431016077863595:Int)),((13402431016077863595:Int)<(18446744073709551616:Int)),(0<=(((wrap .u64 ((Prod.fst (A6 0 (((A0 (Ob.n (.p x)) ((i:Int)).toNat)*(A0 (Ob.n (.p y)) 0)) % (18446744073709551616:Int)) t0 (0:Int)))*(9940570264628428797:Int)))*(13402431016077863595:Int)) % (18446744073709551616:Int))),(0<=(Prod.fst (A6 0 (((A0 (Ob.n (.p x)) ((i:Int)).toNat)*(A0 (Ob.n (.p y)) 0)) % (18446744073709551616:Int)) t0 (0:Int)))),((Prod.fst (A6 0 (((A0 (Ob.n (.p x)) ((i:Int)).toNat)*(A0 (Ob.n (.p y)) 0)) % (18446744073709551616:Int)) t0 (0:Int)))<(18446744073709551616:Int)),(0<=(0:Int)),(0<=(1:Int))]) (hs:Sim w0 F0 K ac (mS x y i t0 t1 t2 t3 t4 t5) cX aX) (hK:∀ac cY aY,Sim w0 F0 K ac (B0 308 [3,4,6,7,8,9,10,12,16,17,19,20,21] [.pt 32 0,.pt 48 0,.iu t1,.iu t2,.iu t3,.iu t4,.iu t5,(.iu (A0 (Ob.n (.p x)) ((i:Int)).toNat)),(.iu (wrap .u64 ((((A0 (Ob.n (.p x)) ((i:Int)).toNat)*(A0 (Ob.n (.p y)) 0)) / (18446744073709551616:Int))+(Prod.snd (A6 0 (((A0 (Ob.n (.p x)) ((i:Int)).toNat)*(A0 (Ob.n (.p y)) 0)) % (18446744073709551616:Int)) t0 (0:Int)))))),(.iu (wrap .u64 ((Prod.fst (A6 0 (((A0 (Ob.n (.p x)) ((i:Int)).toNat)*(A0 (Ob.n (.p y)) 0)) % (18446744073709551616:Int)) t0 (0:Int)))*(9940570264628428797:Int)))),(.iu (wrap .u64 ((((wrap .u64 ((Prod.fst (A6 0 (((A0 (Ob.n (.p x)) ((i:Int)).toNat)*(A0 (Ob.n (.p y)) 0)) % (18446744073709551616:Int)) t0 (0:Int)))*(9940570264628428797:Int)))*(13402431016077863595:Int)) / (18446744073709551616:Int))+(Prod.snd (A6 0 (((wrap .u64 ((Prod.fst (A6 0 (((A0 (Ob.n (.p x)) ((i:Int)).toNat)*(A0 (Ob.n (.p y)) 0)) % (18446744073709551616:Int)) t0 (0:Int)))*(9940570264628428797:Int)))*(13402431016077863595:Int)) % (18446744073709551616:Int)) (Prod.fst (A6 0 (((A0 (Ob.n (.p x)) ((i:Int)).toNat)*(A0 (Ob.n (.p y)) 0)) % (18446744073709551616:Int)) t0 (0:Int))) (0:Int)))))),(.v (.a [.ob (.p x)])),(.ii (i:Int))] [32,48] [(eF_ [.ob (.p y)]),(eF_ [(.ob (.p (0:Fp)))])] 912 [] []) cY aY->Wq Tryz.prog Q (F7t) ac Exit.normal aY cY.w):Wq Tryz.prog Q (E8 B2p) ac .normal aX cX.w:=
 A1l (unroll:=false) (n:=77) (path:=[true]) (o:=⟨_,_,_,_,_,_,_⟩) A1w (by kernel_rfl) (by kernel_rfl) ho hs hK
def mS1 (x y:Fp) (i:Nat) (t1 t2 t3 t4 t5 xi q up dn :Int):St:=B0 308 [3,4,6,7,8,9,10,12,16,17,19,20,21] [.pt 32 0,.pt 48 0,.iu t1,.iu t2,.iu t3,.iu t4,.iu t5,.v (.c (.int .u64 xi)),.v (.c (.int .u64 up)),.v (.c (.int .u64 q)),.v (.c (.int .u64 dn)),(.v (.a [.ob (.p x)])),(.ii (i:Int))] [32,48] [(eF_ [.ob (.p y)]),(eF_ [(.ob (.p (0:Fp)))])] 912 [] []
def F7u:List KI:=(run qeC false 94 (⟨F7t,.normal,mS1 dF dF dF dF dF dF dF dF dF dF dF dF⟩:Cfg) []).cfg.k
theorem mB (x y:Fp) (i:Nat) (t1 t2 t3 t4 t5 xi q up dn:Int):let c:Int:=18446744073709551616;let f:=A0 (Ob.n (.p y)) 1;let g:Int:=2210141511517208575;let h:Int:=0;let j:=A6 0 ((xi*f) % c) t1 h;let b:=A6 0 (Prod.fst j) up h;let l:=0<=(1:Int);let o:=Prod.fst b;let d:=A6 0 ((q*g) % c) o h;let m:=A6 0 (Prod.fst d) dn h;B1 [l,((1:Int)<(6:Int)),(1<(Ob.k (.p y))),(0<=xi),(xi<c),(0<=f),(f<c),(0<=((xi*f) % c)),(0<=t1),(t1<c),(0<=h),l,(0<=(Prod.fst j)),(0<=up),(up<c),(0<=h),l,(0<=q),(q<c),(0<=g),(g<c),(0<=((q*g) % c)),(0<=o),(o<c),(0<=h),l,(0<=(Prod.fst d)),(0<=dn),(dn<c),(0<=h),l]->Sg Tryz.prog (mS1 x y i t1 t2 t3 t4 t5 xi q up dn) (B0 308 [3,4,5,7,8,9,10,12,16,17,19,20,21] [.pt 32 0,.pt 48 0,(.iu (Prod.fst m)),.iu t2,.iu t3,.iu t4,.iu t5,.iu xi,(.iu (wrap .u64 ((wrap .u64 (((xi*f) / c)+(Prod.snd j)))+(Prod.snd b)))),.iu q,(.iu (wrap .u64 ((wrap .u64 (((q*g) / c)+(Prod.snd d)))+(Prod.snd m)))),(.v (.a [.ob (.p x)])),(.ii (i:Int))] [32,48] [(eF_ [.ob (.p y)]),(eF_ [(.ob (.p (0:Fp)))])] 1936 [] []) .normal (F7u) (F7t):=sgA false 94 [] A1w
def mS2 (x y:Fp) (i:Nat) (n0 t2 t3 t4 t5 xi q up dn :Int):St:=B0 308 [3,4,5,7,8,9,10,12,16,17,19,20,21] [.pt 32 0,.pt 48 0,.v (.c (.int .u64 n0)),.iu t2,.iu t3,.iu t4,.iu t5,.iu xi,.v (.c (.int .u64 up)),.iu q,.v (.c (.int .u64 dn)),(.v (.a [.ob (.p x)])),(.ii (i:Int))] [32,48] [(eF_ [.ob (.p y)]),(eF_ [(.ob (.p (0:Fp)))])] 1936 [] []
def F7v:List KI:=(run qeC false 94 (⟨F7u,.normal,mS2 dF dF dF dF dF dF dF dF dF dF dF dF⟩:Cfg) []).cfg.k
theorem mC (x y:Fp) (i:Nat) (n0 t2 t3 t4 t5 xi q up dn:Int):let c:Int:=18446744073709551616;let f:=A0 (Ob.n (.p y)) 2;let g:Int:=7435674573564081700;let h:Int:=0;let j:=A6 0 ((xi*f) % c) t2 h;let b:=A6 0 (Prod.fst j) up h;let l:=0<=(1:Int);let o:=Prod.fst b;let d:=A6 0 ((q*g) % c) o h;let m:=A6 0 (Prod.fst d) dn h;B1 [(0<=(2:Int)),((2:Int)<(6:Int)),(2<(Ob.k (.p y))),(0<=xi),(xi<c),(0<=f),(f<c),(0<=((xi*f) % c)),(0<=t2),(t2<c),(0<=h),l,(0<=(Prod.fst j)),(0<=up),(up<c),(0<=h),l,(0<=q),(q<c),(0<=g),(g<c),(0<=((q*g) % c)),(0<=o),(o<c),(0<=h),l,(0<=(Prod.fst d)),(0<=dn),(dn<c),(0<=h),l]->Sg Tryz.prog (mS2 x y i n0 t2 t3 t4 t5 xi q up dn) (B0 308 [3,4,5,6,8,9,10,12,16,17,19,20,21] [.pt 32 0,.pt 48 0,.iu n0,(.iu (Prod.fst m)),.iu t3,.iu t4,.iu t5,.iu xi,(.iu (wrap .u64 ((wrap .u64 (((xi*f) / c)+(Prod.snd j)))+(Prod.snd b)))),.iu q,(.iu (wrap .u64 ((wrap .u64 (((q*g) / c)+(Prod.snd d)))+(Prod.snd m)))),(.v (.a [.ob (.p x)])),(.ii (i:Int))] [32,48] [(eF_ [.ob (.p y)]),(eF_ [(.ob (.p (0:Fp)))])] 2960 [] []) .normal (F7v) (F7u):=sgA false 94 [] A1w
def mS3 (x y:Fp) (i:Nat) (n0 n1 t3 t4 t5 xi q up dn :Int):St:=B0 308 [3,4,5,6,8,9,10,12,16,17,19,20,21] [.pt 32 0,.pt 48 0,.iu n0,.v (.c (.int .u64 n1)),.iu t3,.iu t4,.iu t5,.iu xi,.v (.c (.int .u64 up)),.iu q,.v (.c (.int .u64 dn)),(.v (.a [.ob (.p x)])),(.ii (i:Int))] [32,48] [(eF_ [.ob (.p y)]),(eF_ [(.ob (.p (0:Fp)))])] 2960 [] []
def F7w:List KI:=(run qeC false 94 (⟨F7v,.normal,mS3 dF dF dF dF dF dF dF dF dF dF dF dF⟩:Cfg) []).cfg.k
theorem mD (x y:Fp) (i:Nat) (n0 n1 t3 t4 t5 xi q up dn:Int):let c:Int:=18446744073709551616;let f:=A0 (Ob.n (.p y)) 3;let g:Int:=7239337960414712511;let h:Int:=0;let j:=A6 0 ((xi*f) % c) t3 h;let b:=A6 0 (Prod.fst j) up h;let l:=0<=(1:Int);let o:=Prod.fst b;let d:=A6 0 ((q*g) % c) o h;let m:=A6 0 (Prod.fst d) dn h;B1 [(0<=(3:Int)),((3:Int)<(6:Int)),(3<(Ob.k (.p y))),(0<=xi),(xi<c),(0<=f),(f<c),(0<=((xi*f) % c)),(0<=t3),(t3<c),(0<=h),l,(0<=(Prod.fst j)),(0<=up),(up<c),(0<=h),l,(0<=q),(q<c),(0<=g),(g<c),(0<=((q*g) % c)),(0<=o),(o<c),(0<=h),l,(0<=(Prod.fst d)),(0<=dn),(dn<c),(0<=h),l]->Sg Tryz.prog (mS3 x y i n0 n1 t3 t4 t5 xi q up dn) (B0 308 [3,4,5,6,7,9,10,12,16,17,19,20,21] [.pt 32 0,.pt 48 0,.iu n0,.iu n1,(.iu (Prod.fst m)),.iu t4,.iu t5,.iu xi,(.iu (wrap .u64 ((wrap .u64 (((xi*f) / c)+(Prod.snd j)))+(Prod.snd b)))),.iu q,(.iu (wrap .u64 ((wrap .u64 (((q*g) / c)+(Prod.snd d)))+(Prod.snd m)))),(.v (.a [.ob (.p x)])),(.ii (i:Int))] [32,48] [(eF_ [.ob (.p y)]),(eF_ [(.ob (.p (0:Fp)))])] 3984 [] []) .normal (F7w) (F7v):=sgA false 94 [] A1w
def mS4 (x y:Fp) (i:Nat) (n0 n1 n2 t4 t5 xi q up dn :Int):St:=B0 308 [3,4,5,6,7,9,10,12,16,17,19,20,21] [.pt 32 0,.pt 48 0,.iu n0,.iu n1,.v (.c (.int .u64 n2)),.iu t4,.iu t5,.iu xi,.v (.c (.int .u64 up)),.iu q,.v (.c (.int .u64 dn)),(.v (.a [.ob (.p x)])),(.ii (i:Int))] [32,48] [(eF_ [.ob (.p y)]),(eF_ [(.ob (.p (0:Fp)))])] 3984 [] []
def G8p:List KI:=(run qeC false 94 (⟨F7w,.normal,mS4 dF dF dF dF dF dF dF dF dF dF dF dF⟩:Cfg) []).cfg.k
theorem mE (x y:Fp) (i:Nat) (n0 n1 n2 t4 t5 xi q up dn:Int):let c:Int:=18446744073709551616;let f:=A0 (Ob.n (.p y)) 4;let g:Int:=5412103778470702295;let h:Int:=0;let j:=A6 0 ((xi*f) % c) t4 h;let b:=A6 0 (Prod.fst j) up h;let l:=0<=(1:Int);let o:=Prod.fst b;let d:=A6 0 ((q*g) % c) o h;let m:=A6 0 (Prod.fst d) dn h;B1 [(0<=(4:Int)),((4:Int)<(6:Int)),(4<(Ob.k (.p y))),(0<=xi),(xi<c),(0<=f),(f<c),(0<=((xi*f) % c)),(0<=t4),(t4<c),(0<=h),l,(0<=(Prod.fst j)),(0<=up),(up<c),(0<=h),l,(0<=q),(q<c),(0<=g),(g<c),(0<=((q*g) % c)),(0<=o),(o<c),(0<=h),l,(0<=(Prod.fst d)),(0<=dn),(dn<c),(0<=h),l]->Sg Tryz.prog (mS4 x y i n0 n1 n2 t4 t5 xi q up dn) (B0 308 [3,4,5,6,7,8,10,12,16,17,19,20,21] [.pt 32 0,.pt 48 0,.iu n0,.iu n1,.iu n2,(.iu (Prod.fst m)),.iu t5,.iu xi,(.iu (wrap .u64 ((wrap .u64 (((xi*f) / c)+(Prod.snd j)))+(Prod.snd b)))),.iu q,(.iu (wrap .u64 ((wrap .u64 (((q*g) / c)+(Prod.snd d)))+(Prod.snd m)))),(.v (.a [.ob (.p x)])),(.ii (i:Int))] [32,48] [(eF_ [.ob (.p y)]),(eF_ [(.ob (.p (0:Fp)))])] 5008 [] []) .normal (G8p) (F7w):=sgA false 94 [] A1w
def mS5 (x y:Fp) (i:Nat) (n0 n1 n2 n3 t5 xi q up dn :Int):St:=B0 308 [3,4,5,6,7,8,10,12,16,17,19,20,21] [.pt 32 0,.pt 48 0,.iu n0,.iu n1,.iu n2,.v (.c (.int .u64 n3)),.iu t5,.iu xi,.v (.c (.int .u64 up)),.iu q,.v (.c (.int .u64 dn)),(.v (.a [.ob (.p x)])),(.ii (i:Int))] [32,48] [(eF_ [.ob (.p y)]),(eF_ [(.ob (.p (0:Fp)))])] 5008 [] []
theorem mF (x y:Fp) (i:Nat) (n0 n1 n2 n3 t5 xi q up dn:Int):let c:Int:=18446744073709551616;let f:=A0 (Ob.n (.p y)) 5;let g:Int:=1873798617647539866;let h:Int:=0;let j:=A6 0 ((xi*f) % c) t5 h;let b:=A6 0 (Prod.fst j) up h;let l:=0<=(1:Int);let o:=Prod.fst b;let d:=A6 0 ((q*g) % c) o h;let m:=A6 0 (Prod.fst d) dn h;B1 [(0<=(5:Int)),((5:Int)<(6:Int)),(5<(Ob.k (.p y))),(0<=xi),(xi<c),(0<=f),(f<c),(0<=((xi*f) % c)),(0<=t5),(t5<c),(0<=h),l,(0<=(Prod.fst j)),(0<=up),(up<c),(0<=h),l,(0<=q),(q<c),(0<=g),(g<c),(0<=((q*g) % c)),(0<=o),(o<c),(0<=h),l,(0<=(Prod.fst d)),(0<=dn),(dn<c),(0<=h),l]->Sg Tryz.prog (mS5 x y i n0 n1 n2 n3 t5 xi q up dn) (B0 308 [3,4,5,6,7,8,9,10,20,21] [.pt 32 0,.pt 48 0,.iu n0,.iu n1,.iu n2,.iu n3,(.iu (Prod.fst m)),(.iu (wrap .u64 ((wrap .u64 ((wrap .u64 (((q*g) / c)+(Prod.snd d)))+(Prod.snd m)))+(wrap .u64 ((wrap .u64 (((xi*f) / c)+(Prod.snd j)))+(Prod.snd b)))))),(.v (.a [.ob (.p x)])),(.ii (wrap .i64 ((i:Int)+1)))] [32,48] [(eF_ [.ob (.p y)]),(eF_ [(.ob (.p (0:Fp)))])] 6128 [] []) .normal (M7 B2p) (G8p):=sgA false 3000 [] A1w
end
end

section

/-- Ahead of the i-th round. -/
structure I7w (x y:Fp) (i:Nat) (t0 t1 t2 t3 t4 t5:Int):Prop where
 i6:i<=6
 h0:B7 t0
 h1:B7 t1
 h2:B7 t2
 h3:B7 t3
 h4:B7 t4
 h5:B7 t5
 lt:G4 t0 t1 t2 t3 t4 t5<2*pN
 eq:∃Q:Nat,G4 t0 t1 t2 t3 t4 t5*((2 ^ (64*i):Nat):Int)=(((Ob.p x).n % 2 ^ (64*i):Nat):Int)*((Ob.p y).n:Int)+(Q:Int)*(pN:Int)

theorem B6k (n:Int):B7 (wrap IntKind.u64 n):=by
 unfold B7;rw[C4s];omega

theorem C9 (n i:Nat):B7 (A0 n i):=by
 refine ⟨Int.natCast_nonneg _,?_⟩
 show ((n / 2 ^ (64*i) % 18446744073709551616:Nat):Int)<18446744073709551616;omega

theorem D6e {T:Int} (hT:0<=T) {b X Y Q r:Nat} (h:T*(b:Int)=(X:Int)*(Y:Int)+(Q:Int)*(r:Int)):T.toNat*b=X*Y+Q*r:=by
 rw[<-Int.toNat_of_nonneg hT] at h
 exact_mod_cast h

/-- A round, all columns together. -/
theorem I0k {t0 t1 t2 t3 t4 t5 xi y0 y1 y2 y3 y4 y5 q lo0 up0 dn0 lo1 up1 dn1 lo2 up2 dn2 lo3 up3 dn3 lo4 up4 dn4 lo5 up5 dn5 n0 n1 n2 n3 n4:Int}
  (eA:xi*y0+t0=lo0+18446744073709551616*up0) (eA' : q*13402431016077863595+lo0=18446744073709551616*dn0)
  (eB:xi*y1+t1+up0=lo1+18446744073709551616*up1) (eB' : q*2210141511517208575+lo1+dn0=n0+18446744073709551616*dn1)
  (eC:xi*y2+t2+up1=lo2+18446744073709551616*up2) (eC' : q*7435674573564081700+lo2+dn1=n1+18446744073709551616*dn2)
  (eD:xi*y3+t3+up2=lo3+18446744073709551616*up3) (eD' : q*7239337960414712511+lo3+dn2=n2+18446744073709551616*dn3)
  (eE:xi*y4+t4+up3=lo4+18446744073709551616*up4) (eE' : q*5412103778470702295+lo4+dn3=n3+18446744073709551616*dn4)
  (eF:xi*y5+t5+up4=lo5+18446744073709551616*up5) (eF' : q*1873798617647539866+lo5+dn4=n4+18446744073709551616*dn5) :
  18446744073709551616*G4 n0 n1 n2 n3 n4 (dn5+up5)=G4 t0 t1 t2 t3 t4 t5+xi*G4 y0 y1 y2 y3 y4 y5+q*(pN:Int):=by
 rw[D7c xi,A1v];have hq:q*4002409555221667393417789825735904156556882819939007885332058136124031650490837864442687629129015664037894272559787=q*13402431016077863595+18446744073709551616*(q*2210141511517208575)+340282366920938463463374607431768211456*(q*7435674573564081700)+6277101735386680763835789423207666416102355444464034512896*(q*7239337960414712511)+115792089237316195423570985008687907853269984665640564039457584007913129639936*(q*5412103778470702295)+2135987035920910082395021706169552114602704522356652769947041607822219725780640550022962086936576*(q*1873798617647539866):=by omega
 rw[hq];unfold G4;generalize xi*y0=z0 at *;generalize xi*y1=z1 at *;generalize xi*y2=z2 at *;generalize xi*y3=z3 at *;generalize xi*y4=z4 at *;generalize xi*y5=z5 at *;generalize q*13402431016077863595=p0 at *;generalize q*2210141511517208575=p1 at *;generalize q*7435674573564081700=p2 at *;generalize q*7239337960414712511=p3 at *;generalize q*5412103778470702295=p4 at *;generalize q*1873798617647539866=p5 at *;omega

/-- What is carried on stays small. -/
theorem G2q {T T' X q Y:Int} (hT:T<2*pN) (hx:X<=18446744073709551615) (hY:Y<pN) (hY0:0<=Y) (hq:q<18446744073709551616) (hall:18446744073709551616*T' = T+X*Y+q*(pN:Int)):T' < 2*pN:=by
 have h1:X*Y<=18446744073709551615*Y:=Int.mul_le_mul_of_nonneg_right hx hY0;have h2:q*(pN:Int)<=18446744073709551615*(pN:Int):=Int.mul_le_mul_of_nonneg_right (by omega) (by omega)
 generalize X*Y=z at *;generalize q*(pN:Int)=z' at *;rw[A1v] at *;omega

theorem J1c {n0 n1 n2 n3 n4 t:Int} (h0:B7 n0) (h1:B7 n1) (h2:B7 n2) (h3:B7 n3) (h4:B7 n4) (h:G4 n0 n1 n2 n3 n4 t<2*pN):t<18446744073709551616:=by
 rw[A1v] at h;obtain ⟨h0,_⟩:=h0;obtain ⟨h1,_⟩:=h1;obtain ⟨h2,_⟩:=h2;obtain ⟨h3,_⟩:=h3;obtain ⟨h4,_⟩:=h4;unfold G4 at h;omega

section
variable {w0:World} {F0:Nat->Prop} {K:Kp} {ac:List Act} {Q:Exit->Act->World->Prop} {cX:Ctx} {aX:Act}

theorem I0s (x y:Fp) (i:Nat) {t0 t1 t2 t3 t4 t5:Int} (hi:i<6) (h0:B7 t0) (hx:B7 (A0 (Ob.p x).n i)) (hy:B7 (A0 (Ob.p y).n 0)) (hs:Sim w0 F0 K ac (mS x y i t0 t1 t2 t3 t4 t5) cX aX)
  (k:∀lo up q dn:Int,A0 (Ob.p x).n i*A0 (Ob.p y).n 0+t0=lo+18446744073709551616*up->q*13402431016077863595+lo=18446744073709551616*dn->B7 lo->B7 up->B7 q->B7 dn ->
   ∀ac cY aY,Sim w0 F0 K ac (mS1 x y i t1 t2 t3 t4 t5 (A0 (Ob.p x).n i) q up dn) cY aY->Wq Tryz.prog Q F7t ac .normal aY cY.w):Wq Tryz.prog Q (E8 B2p) ac .normal aX cX.w:=by
 obtain ⟨a0,b0⟩:=h0;obtain ⟨x0,x1⟩:=hx;obtain ⟨y0,y1⟩:=hy;have e1:=E9p x0 x1 y0 y1 a0 b0;have sA:=@mA x y i t0 t1 t2 t3 t4 t5 w0 F0 K ac Q cX aX;rw[Int.toNat_natCast] at sA;generalize A0 (Ob.p x).n i=xi at *;obtain ⟨e1,l1,u1⟩:=e1;have hq:=B6k ((A6 0 ((xi*A0 (Ob.p y).n 0) % 18446744073709551616) t0 0).1*9940570264628428797);have e2:=E9p (b:=13402431016077863595) hq.1 hq.2 (by decide) (by decide) l1.1 l1.2
 have e3:=D6t (l:=(A6 0 ((xi*A0 (Ob.p y).n 0) % 18446744073709551616) t0 0).1) rfl;refine sA ?_ hs fun ac cY aY h=>?_
 ·refine ⟨by simp only[decide_eq_true_eq];omega,by omega,by omega,by decide,by decide,by show (0:Nat)<6;decide,x0,x1,y0,y1,by omega,a0,b0,by decide,by decide,hq.1,hq.2,by decide,by decide,by omega,l1.1,l1.2,by decide,by decide,trivial⟩
 ·refine k _ _ _ _ e1 ?_ l1 u1 hq e2.2.2 ac cY aY h
  have:=e2.1
  have:=e2.2.1
  omega

theorem I0t (x y:Fp) (i:Nat) {t1 t2 t3 t4 t5 xi q up dn:Int} (ht:B7 t1) (hx:B7 xi) (hq:B7 q) (hu:B7 up) (hd:B7 dn) (hy:B7 (A0 (Ob.p y).n 1)) (hs:Sim w0 F0 K ac (mS1 x y i t1 t2 t3 t4 t5 xi q up dn) cX aX)
  (k:∀lo up' n dn' : Int,xi*A0 (Ob.p y).n 1+t1+up=lo+18446744073709551616*up' -> q*2210141511517208575+lo+dn=n+18446744073709551616*dn' -> B7 lo->B7 up' -> B7 n->B7 dn' ->
   ∀ac cY aY,Sim w0 F0 K ac (mS2 x y i n t2 t3 t4 t5 xi q up' dn') cY aY->Wq Tryz.prog Q (F7u) ac .normal aY cY.w):Wq Tryz.prog Q (F7t) ac .normal aX cX.w:=by
 obtain ⟨e1,l1,u1,m1⟩:=mac hx.1 hx.2 hy.1 hy.2 ht.1 ht.2 hu.1 hu.2;obtain ⟨e2,l2,u2,m2⟩:=mac (b:=2210141511517208575) hq.1 hq.2 (by decide) (by decide) l1.1 l1.2 hd.1 hd.2
 refine mB x y i t1 t2 t3 t4 t5 xi q up dn ?_ hs fun ac cY aY h=>?_
 ·refine ⟨by decide,by decide,by show 1<6;decide,hx.1,hx.2,hy.1,hy.2,by omega,ht.1,ht.2,by decide,by decide,m1.1,hu.1,hu.2,by decide,by decide,hq.1,hq.2,by decide,by decide,by omega,l1.1,l1.2,by decide,by decide,m2.1,hd.1,hd.2,by decide,by decide,trivial⟩
 ·exact k _ _ _ _ e1 e2 l1 u1 l2 u2 ac cY aY h

theorem I0u (x y:Fp) (i:Nat) {n0 t2 t3 t4 t5 xi q up dn:Int} (ht:B7 t2) (hx:B7 xi) (hq:B7 q) (hu:B7 up) (hd:B7 dn) (hy:B7 (A0 (Ob.p y).n 2)) (hs:Sim w0 F0 K ac (mS2 x y i n0 t2 t3 t4 t5 xi q up dn) cX aX)
  (k:∀lo up' n dn' : Int,xi*A0 (Ob.p y).n 2+t2+up=lo+18446744073709551616*up' -> q*7435674573564081700+lo+dn=n+18446744073709551616*dn' -> B7 lo->B7 up' -> B7 n->B7 dn' ->
   ∀ac cY aY,Sim w0 F0 K ac (mS3 x y i n0 n t3 t4 t5 xi q up' dn') cY aY->Wq Tryz.prog Q (F7v) ac .normal aY cY.w):Wq Tryz.prog Q (F7u) ac .normal aX cX.w:=by
 obtain ⟨e1,l1,u1,m1⟩:=mac hx.1 hx.2 hy.1 hy.2 ht.1 ht.2 hu.1 hu.2;obtain ⟨e2,l2,u2,m2⟩:=mac (b:=7435674573564081700) hq.1 hq.2 (by decide) (by decide) l1.1 l1.2 hd.1 hd.2
 refine mC x y i n0 t2 t3 t4 t5 xi q up dn ?_ hs fun ac cY aY h=>?_
 ·refine ⟨by decide,by decide,by show 2<6;decide,hx.1,hx.2,hy.1,hy.2,by omega,ht.1,ht.2,by decide,by decide,m1.1,hu.1,hu.2,by decide,by decide,hq.1,hq.2,by decide,by decide,by omega,l1.1,l1.2,by decide,by decide,m2.1,hd.1,hd.2,by decide,by decide,trivial⟩
 ·exact k _ _ _ _ e1 e2 l1 u1 l2 u2 ac cY aY h

theorem I0v (x y:Fp) (i:Nat) {n0 n1 t3 t4 t5 xi q up dn:Int} (ht:B7 t3) (hx:B7 xi) (hq:B7 q) (hu:B7 up) (hd:B7 dn) (hy:B7 (A0 (Ob.p y).n 3)) (hs:Sim w0 F0 K ac (mS3 x y i n0 n1 t3 t4 t5 xi q up dn) cX aX)
  (k:∀lo up' n dn' : Int,xi*A0 (Ob.p y).n 3+t3+up=lo+18446744073709551616*up' -> q*7239337960414712511+lo+dn=n+18446744073709551616*dn' -> B7 lo->B7 up' -> B7 n->B7 dn' ->
   ∀ac cY aY,Sim w0 F0 K ac (mS4 x y i n0 n1 n t4 t5 xi q up' dn') cY aY->Wq Tryz.prog Q (F7w) ac .normal aY cY.w):Wq Tryz.prog Q (F7v) ac .normal aX cX.w:=by
 obtain ⟨e1,l1,u1,m1⟩:=mac hx.1 hx.2 hy.1 hy.2 ht.1 ht.2 hu.1 hu.2;obtain ⟨e2,l2,u2,m2⟩:=mac (b:=7239337960414712511) hq.1 hq.2 (by decide) (by decide) l1.1 l1.2 hd.1 hd.2
 refine mD x y i n0 n1 t3 t4 t5 xi q up dn ?_ hs fun ac cY aY h=>?_
 ·refine ⟨by decide,by decide,by show 3<6;decide,hx.1,hx.2,hy.1,hy.2,by omega,ht.1,ht.2,by decide,by decide,m1.1,hu.1,hu.2,by decide,by decide,hq.1,hq.2,by decide,by decide,by omega,l1.1,l1.2,by decide,by decide,m2.1,hd.1,hd.2,by decide,by decide,trivial⟩
 ·exact k _ _ _ _ e1 e2 l1 u1 l2 u2 ac cY aY h

theorem J0y (x y:Fp) (i:Nat) {n0 n1 n2 t4 t5 xi q up dn:Int} (ht:B7 t4) (hx:B7 xi) (hq:B7 q) (hu:B7 up) (hd:B7 dn) (hy:B7 (A0 (Ob.p y).n 4)) (hs:Sim w0 F0 K ac (mS4 x y i n0 n1 n2 t4 t5 xi q up dn) cX aX)
  (k:∀lo up' n dn' : Int,xi*A0 (Ob.p y).n 4+t4+up=lo+18446744073709551616*up' -> q*5412103778470702295+lo+dn=n+18446744073709551616*dn' -> B7 lo->B7 up' -> B7 n->B7 dn' ->
   ∀ac cY aY,Sim w0 F0 K ac (mS5 x y i n0 n1 n2 n t5 xi q up' dn') cY aY->Wq Tryz.prog Q (G8p) ac .normal aY cY.w):Wq Tryz.prog Q (F7w) ac .normal aX cX.w:=by
 obtain ⟨e1,l1,u1,m1⟩:=mac hx.1 hx.2 hy.1 hy.2 ht.1 ht.2 hu.1 hu.2;obtain ⟨e2,l2,u2,m2⟩:=mac (b:=5412103778470702295) hq.1 hq.2 (by decide) (by decide) l1.1 l1.2 hd.1 hd.2
 refine mE x y i n0 n1 n2 t4 t5 xi q up dn ?_ hs fun ac cY aY h=>?_
 ·refine ⟨by decide,by decide,by show 4<6;decide,hx.1,hx.2,hy.1,hy.2,by omega,ht.1,ht.2,by decide,by decide,m1.1,hu.1,hu.2,by decide,by decide,hq.1,hq.2,by decide,by decide,by omega,l1.1,l1.2,by decide,by decide,m2.1,hd.1,hd.2,by decide,by decide,trivial⟩
 ·exact k _ _ _ _ e1 e2 l1 u1 l2 u2 ac cY aY h

theorem J0z (x y:Fp) (i:Nat) (hi:i<6) {n0 n1 n2 n3 t5 xi q up dn:Int} (ht:B7 t5) (hx:B7 xi) (hq:B7 q) (hu:B7 up) (hd:B7 dn) (hy:B7 (A0 (Ob.p y).n 5)) (hs:Sim w0 F0 K ac (mS5 x y i n0 n1 n2 n3 t5 xi q up dn) cX aX)
  (k:∀lo up' n dn' : Int,xi*A0 (Ob.p y).n 5+t5+up=lo+18446744073709551616*up' -> q*1873798617647539866+lo+dn=n+18446744073709551616*dn' -> B7 lo->B7 up' -> B7 n->B7 dn' ->
   ∀ac cY aY,Sim w0 F0 K ac (mS x y (i+1) n0 n1 n2 n3 n (wrap IntKind.u64 (dn' + up'))) cY aY->Wq Tryz.prog Q (M7 B2p) ac .normal aY cY.w):Wq Tryz.prog Q (G8p) ac .normal aX cX.w:=by
 obtain ⟨e1,l1,u1,m1⟩:=mac hx.1 hx.2 hy.1 hy.2 ht.1 ht.2 hu.1 hu.2;obtain ⟨e2,l2,u2,m2⟩:=mac (b:=1873798617647539866) hq.1 hq.2 (by decide) (by decide) l1.1 l1.2 hd.1 hd.2
 refine mF x y i n0 n1 n2 n3 t5 xi q up dn ?_ hs fun ac cY aY h=>?_
 ·refine ⟨by decide,by decide,by show 5<6;decide,hx.1,hx.2,hy.1,hy.2,by omega,ht.1,ht.2,by decide,by decide,m1.1,hu.1,hu.2,by decide,by decide,hq.1,hq.2,by decide,by decide,by omega,l1.1,l1.2,by decide,by decide,m2.1,hd.1,hd.2,by decide,by decide,trivial⟩
 ·exact k _ _ _ _ e1 e2 l1 u1 l2 u2 ac cY aY ((by rw[C0 (by omega) (by omega)] at h;exact h.nx _))

end

theorem E3g (x y:Fp):FnD Tryz.prog 105 [.v (.a [.ob (.p x)]),.v (.a [.ob (.p y)])] (.v (.a [.ob (.p (x*y))])) []:=by
 refine J3 (fn:=Tryz.f105) (c:=B9 Tryz.f105) Tryz.func105 rfl rfl fun cx ca hk hF hs=>?_
 refine mIn x y trivial hs fun ac cY aY hs1=>?_
 refine E6 (ι:={ p:Nat×Int×Int×Int×Int×Int×Int // I7w x y p.1 p.2.1 p.2.2.1 p.2.2.2.1 p.2.2.2.2.1 p.2.2.2.2.2.1 p.2.2.2.2.2.2 }) (fun p=>mS x y p.1.1 p.1.2.1 p.1.2.2.1 p.1.2.2.2.1 p.1.2.2.2.2.1 p.1.2.2.2.2.2.1 p.1.2.2.2.2.2.2) (fun p=>6-p.1.1) (c:=lpC B2p) (k:=lpR B2p) (by kernel_rfl) (fun p ih ac cY aY hs=>?_)
  ⟨(0,0,0,0,0,0,0),⟨by decide,⟨by decide,by decide⟩,⟨by decide,by decide⟩,⟨by decide,by decide⟩,⟨by decide,by decide⟩,⟨by decide,by decide⟩,⟨by decide,by decide⟩,by decide,0,by simp [G4,Nat.mod_one]⟩⟩ hs1
 obtain ⟨⟨i,t0,t1,t2,t3,t4,t5⟩,hI⟩:=p;simp only at ih hs hI
 obtain ⟨hi,hl0,hl1,hl2,hl3,hl4,hl5,hlt,Q,hQ⟩:=hI;have ey:=(A1t (Ob.p y).n (Nat.lt_trans (B5o y) (by decide))).1
 have hyr:((Ob.p y).n:Int)<(pN:Int):=by exact_mod_cast B5o y
 by_cases h5:i<6
 ·have hlx:=C9 (Ob.p x).n i
  have hly0:=C9 (Ob.p y).n 0;have hly1:=C9 (Ob.p y).n 1;have hly2:=C9 (Ob.p y).n 2;have hly3:=C9 (Ob.p y).n 3;have hly4:=C9 (Ob.p y).n 4;have hly5:=C9 (Ob.p y).n 5;have hround:=fun T' q hq=>C7w (A:=(Ob.p x).n) (Y:=(Ob.p y).n) (r:=pN) (i:=i) (Q:=Q) (T:=G4 t0 t1 t2 t3 t4 t5) (T' := T') (q:=q) hq hQ
  refine I0s x y i h5 hl0 hlx hly0 hs fun lo0 up0 q dn0 eA eA' hlo0 hup0 hq hdn0 ac cY aY hs=>?_
  refine I0t x y i hl1 hlx hq hup0 hdn0 hly1 hs fun lo1 up1 n0 dn1 eB eB' hlo1 hup1 hn0 hdn1 ac cY aY hs=>?_
  refine I0u x y i hl2 hlx hq hup1 hdn1 hly2 hs fun lo2 up2 n1 dn2 eC eC' hlo2 hup2 hn1 hdn2 ac cY aY hs=>?_
  refine I0v x y i hl3 hlx hq hup2 hdn2 hly3 hs fun lo3 up3 n2 dn3 eD eD' hlo3 hup3 hn2 hdn3 ac cY aY hs=>?_
  refine J0y x y i hl4 hlx hq hup3 hdn3 hly4 hs fun lo4 up4 n3 dn4 eE eE' hlo4 hup4 hn3 hdn4 ac cY aY hs=>?_
  refine J0z x y i h5 hl5 hlx hq hup4 hdn4 hly5 hs fun lo5 up5 n4 dn5 eF eF' hlo5 hup5 hn4 hdn5 ac cY aY hs=>?_
  have hall:=I0k eA eA' eB eB' eC eC' eD eD' eE eE' eF eF';rw[<-ey] at hall;have hlt' := G2q hlt (by have:=hlx.2;omega) hyr (by omega) hq.2 hall
  have htp:=J1c hn0 hn1 hn2 hn3 hn4 hlt';have htop:wrap IntKind.u64 (dn5+up5)=dn5+up5:=G4e (by have:=hdn5.1;have:=hup5.1;omega) htp
  rw[htop] at hs;refine ih ⟨(i+1,n0,n1,n2,n3,n4,dn5+up5),⟨h5,hn0,hn1,hn2,hn3,hn4,?_,hlt',hround _ q hq.1 hall⟩⟩ (by show 6-(i+1)<6-i;omega) ac cY aY hs
  rw[<-htop];exact B6k _
 ·have hi6:i=6:=by omega
  subst hi6;have hT:0<=G4 t0 t1 t2 t3 t4 t5:=W8 hl0.1 hl1.1 hl2.1 hl3.1 hl4.1 hl5.1;refine D2q A1w hk hF (H7j x y 6 t0 t1 t2 t3 t4 t5) ?_ (fun z w hd=>?_) hs
  ·refine ⟨by decide,hl0.1,hl0.2,hl1.1,hl1.2,hl2.1,hl2.2,hl3.1,hl3.2,hl4.1,hl4.2,hl5.1,hl5.2,hlt,trivial⟩
  ·have:B7s (G4 t0 t1 t2 t3 t4 t5).toNat=x*y:=by
    refine E9u (Q:=Q) ?_
    have hX:(Ob.p x).n % 2 ^ (64*6)=(Ob.p x).n:=Nat.mod_eq_of_lt (Nat.lt_trans (B5o x) H0p);rw[hX] at hQ;have h6:(2 ^ (64*6):Nat)=B6:=E6x;rw[h6] at hQ;exact D6e hT hQ
   rw[<-this];exact hd

end

section

def u6s (a b c d e f:Int):SV:=.v (.c (.sl (.u64 [a,b,c,d,e,f])))
def fl6 (a b c d e f:Int):En:=.fl [.int .u64 a,.int .u64 b,.int .u64 c,.int .u64 d,.int .u64 e,.int .u64 f]

def qd6 (o0 o1 o2 o3 o4 o5 a b c d e f more m0 m1 m2 m3 m4 m5:Int):Cfg:=⟨[.code (B9 Tryz.f125)],.normal,E9v Tryz.f125.ntmps 0 6 1 (fl6 o0 o1 o2 o3 o4 o5) [u6s a b c d e f,.v (.c (.int .u64 more)),u6s m0 m1 m2 m3 m4 m5]⟩

theorem J0j (o0 o1 o2 o3 o4 o5 a b c d e f more m0 m1 m2 m3 m4 m5:Int):let h:Int:=(6:Nat);let k:Int:=18446744073709551616;let m:Int:=1;let o:Int:=8;let p:Int:=2;let q:Int:=3;let r:Int:=4;let s:Int:=5;let u:Int:=0;let w:=A6 1 a m0 u;let i:=Prod.snd w;let x:=A6 1 b m1 i;let l:=Prod.snd x;let v:=A6 1 c m2 l;let g:=Prod.snd v;let y:=A6 1 d m3 g;let n:=Prod.snd y;let j:=A6 1 e m4 n;let t:=Prod.snd j;let z:=A6 1 f m5 t;B6y qeC Tryz.f125 true 3000 (qd6 o0 o1 o2 o3 o4 o5 a b c d e f more m0 m1 m2 m3 m4 m5) [true,true,true,true,true,true,false,true]=(some ([((decide (0<h))=true),(0<=u),(0<h),(0<=u),(0<h),(0<=a),(0<=m0),(m0<k),(0<=u),(0<=m),(0<=u),(0<o),((decide (m<h))=true),(0<=m),(m<h),(0<=m),(m<h),(0<=b),(0<=m1),(m1<k),(0<=i),(i<=m),(0<=m),(m<o),((decide (p<h))=true),(0<=p),(p<h),(0<=p),(p<h),(0<=c),(0<=m2),(m2<k),(0<=l),(l<=m),(0<=p),(p<o),((decide (q<h))=true),(0<=q),(q<h),(0<=q),(q<h),(0<=d),(0<=m3),(m3<k),(0<=g),(g<=m),(0<=q),(q<o),((decide (r<h))=true),(0<=r),(r<h),(0<=r),(r<h),(0<=e),(0<=m4),(m4<k),(0<=n),(n<=m),(0<=r),(r<o),((decide (s<h))=true),(0<=s),(s<h),(0<=s),(s<h),(0<=f),(0<=m5),(m5<k),(0<=t),(t<=m),(0<=s),(s<o),((decide ((6:Int)<h))=false),((decide (more >= (Prod.snd z)))=true),(0<=h),(h<=o)],(.fl [(.int .u64 (Prod.fst w)),(.int .u64 (Prod.fst x)),(.int .u64 (Prod.fst v)),(.int .u64 (Prod.fst y)),(.int .u64 (Prod.fst j)),(.int .u64 (Prod.fst z))]))):=by intros;kernel_rfl
theorem J0k (o0 o1 o2 o3 o4 o5 a b c d e f more m0 m1 m2 m3 m4 m5:Int):let h:Int:=(6:Nat);let i:Int:=18446744073709551616;let j:=Prod.snd (A6 1 a m0 (0:Int));let l:Int:=1;let m:=Prod.snd (A6 1 b m1 j);let g:=Prod.snd (A6 1 c m2 m);let k:=Prod.snd (A6 1 d m3 g);let n:=Prod.snd (A6 1 e m4 k);let o:Int:=2;let p:Int:=3;let q:Int:=4;let r:Int:=5;let s:=0<=(0:Int);let t:Int:=8;B6y qeC Tryz.f125 true 3000 (qd6 o0 o1 o2 o3 o4 o5 a b c d e f more m0 m1 m2 m3 m4 m5) [true,true,true,true,true,true,false,false]=(some ([((decide (0<h))=true),s,(0<h),s,(0<h),(0<=a),(0<=m0),(m0<i),s,(0<=l),s,(0<t),((decide (l<h))=true),(0<=l),(l<h),(0<=l),(l<h),(0<=b),(0<=m1),(m1<i),(0<=j),(j<=l),(0<=l),(l<t),((decide (o<h))=true),(0<=o),(o<h),(0<=o),(o<h),(0<=c),(0<=m2),(m2<i),(0<=m),(m<=l),(0<=o),(o<t),((decide (p<h))=true),(0<=p),(p<h),(0<=p),(p<h),(0<=d),(0<=m3),(m3<i),(0<=g),(g<=l),(0<=p),(p<t),((decide (q<h))=true),(0<=q),(q<h),(0<=q),(q<h),(0<=e),(0<=m4),(m4<i),(0<=k),(k<=l),(0<=q),(q<t),((decide (r<h))=true),(0<=r),(r<h),(0<=r),(r<h),(0<=f),(0<=m5),(m5<i),(0<=n),(n<=l),(0<=r),(r<t),((decide ((6:Int)<h))=false),((decide (more >= (Prod.snd (A6 1 f m5 n))))=false)],(.fl [(.int .u64 a),(.int .u64 b),(.int .u64 c),(.int .u64 d),(.int .u64 e),(.int .u64 f)]))):=by intros;kernel_rfl
end

section

theorem I0h {N:Int} (h0:0<=N) (h1:(pN:Int)<=N) (h2:N<2*pN):((A3c N.toNat).val:Int)=N-pN:=by
 have e:(A3c N.toNat).val=N.toNat-pN:=by
  rw[B3m];have k1:pN<=N.toNat:=by omega
  have k2:N.toNat<2*pN:=by omega
  rw[Nat.mod_eq_sub_mod k1,Nat.mod_eq_of_lt (by omega)]
 rw[e];omega

theorem I0i {N:Int} (h0:0<=N) (h1:N<(pN:Int)):((A3c N.toNat).val:Int)=N:=by
 have e:(A3c N.toNat).val=N.toNat:=by
  rw[B3m];exact Nat.mod_eq_of_lt (by omega)
 rw[e];omega

theorem E2o (o0 o1 o2 o3 o4 o5 a b c d e f:Int) (ha:B7 a) (hb:B7 b) (hc:B7 c) (hd:B7 d) (he:B7 e) (hf:B7 f) (hn:G4 a b c d e f<2*pN) :
  MuC Tryz.prog 125 0 6 1 (fl6 o0 o1 o2 o3 o4 o5) [u6s a b c d e f,.v (.c (.int .u64 0)),u6s 13402431016077863595 2210141511517208575 7435674573564081700 7239337960414712511 5412103778470702295 1873798617647539866] (.fl [.ob (.fp (A3c (G4 a b c d e f).toNat))]):=by
 refine B2x (fn:=Tryz.f125) (c:=B9 Tryz.f125) Tryz.func125 rfl rfl fun x ac hk hm hs=>?_
 obtain ⟨ha,ha1⟩:=ha;obtain ⟨hb,hb1⟩:=hb;obtain ⟨hc,hc1⟩:=hc;obtain ⟨hd,hd1⟩:=hd;obtain ⟨he,he1⟩:=he;obtain ⟨hf,hf1⟩:=hf;have r0:=J0j o0 o1 o2 o3 o4 o5 a b c d e f 0 13402431016077863595 2210141511517208575 7435674573564081700 7239337960414712511 5412103778470702295 1873798617647539866;dsimp only at r0;have r1:=J0k o0 o1 o2 o3 o4 o5 a b c d e f 0 13402431016077863595 2210141511517208575 7435674573564081700 7239337960414712511 5412103778470702295 1873798617647539866;dsimp only at r1;obtain ⟨e1,p1,p1',c1,c1'⟩:=F5 (y:=13402431016077863595) (c:=0) ha ha1 (by decide) (by decide) (by decide) (by decide)
 obtain ⟨e2,p2,p2',c2,c2'⟩:=F5 (y:=2210141511517208575) hb hb1 (by decide) (by decide) c1 c1'
 obtain ⟨e3,p3,p3',c3,c3'⟩:=F5 (y:=7435674573564081700) hc hc1 (by decide) (by decide) c2 c2'
 obtain ⟨e4,p4,p4',c4,c4'⟩:=F5 (y:=7239337960414712511) hd hd1 (by decide) (by decide) c3 c3'
 obtain ⟨e5,p5,p5',c5,c5'⟩:=F5 (y:=5412103778470702295) he he1 (by decide) (by decide) c4 c4'
 obtain ⟨e6,p6,p6',c6,c6'⟩:=F5 (y:=1873798617647539866) hf hf1 (by decide) (by decide) c5 c5'
 generalize hx1:A6 1 a 13402431016077863595 0=x1 at *;generalize hx2:A6 1 b 2210141511517208575 x1.2=x2 at *;generalize hx3:A6 1 c 7435674573564081700 x2.2=x3 at *;generalize hx4:A6 1 d 7239337960414712511 x3.2=x4 at *;generalize hx5:A6 1 e 5412103778470702295 x4.2=x5 at *;generalize hx6:A6 1 f 1873798617647539866 x5.2=x6 at *;clear hx1 hx2 hx3 hx4 hx5 hx6;have hnn:=W8 ha hb hc hd he hf;have hD:=H3d e1 e2 e3 e4 e5 e6;have hO:=lt6 p1 p1' p2 p2' p3 p3' p4 p4' p5 p5' p6 p6';have hO0:=W8 p1 p2 p3 p4 p5 p6;have hp:=A1v;by_cases hz:x6.2=0
 ·refine B5e A1w hk hm r0 rfl ?_ (fun y cs hv=>E4c rfl ?_ hv) (.inl ⟨_,_,rfl,rfl⟩) hs
  ·clear hD hO hO0 hn hnn e1 e2 e3 e4 e5 e6
   simp only[B1,and_true,decide_eq_true_eq,decide_eq_false_iff_not];and_intros<;>first | assumption | decide | omega
  ·refine Y9 p1 p1' p2 p2' p3 p3' p4 p4' p5 p5' p6 p6' ?_
   rw[hz,Int.mul_zero,Int.add_zero] at hD;rw[hD];exact I0h hnn (by omega) hn
 ·refine B5e A1w hk hm r1 rfl ?_ (fun y cs hv=>E4c rfl ?_ hv) (.inl ⟨_,_,rfl,rfl⟩) hs
  ·clear hD hO hO0 hn hnn e1 e2 e3 e4 e5 e6
   simp only[B1,and_true,decide_eq_true_eq,decide_eq_false_iff_not];and_intros<;>first | assumption | decide | omega
  ·refine Y9 ha ha1 hb hb1 hc hc1 hd hd1 he he1 hf hf1 ?_
   have:x6.2=1:=by omega
   rw[this] at hD;exact I0i hnn (by omega)

end

section
section
variable {w0:World} {F0:Nat->Prop} {K:Kp} {ac:List Act} {Q:Exit->Act->World->Prop} {cX:Ctx} {aX:Act}

def A6m:MuS:=fun off len es e rest=>
 match off,len,es,e,rest with
 | 0,6,1,.fl [.int .u64 _,.int .u64 _,.int .u64 _,.int .u64 _,.int .u64 _,.int .u64 _],[.v (.c (.sl (.u64 [a,b,c,d,e,f]))),.v (.c (.int .u64 more)),.v (.c (.sl (.u64 [m0,m1,m2,m3,m4,m5])))]=>
  some ([B7 a,B7 b,B7 c,B7 d,B7 e,B7 f,G4 a b c d e f<2*pN,more=0,m0=13402431016077863595,m1=2210141511517208575,m2=7435674573564081700,m3=7239337960414712511,m4=5412103778470702295,m5=1873798617647539866],.fl [.ob (.fp (A3c (G4 a b c d e f).toNat))])
 | _,_,_,_,_=>none

def qeD:Env:={ qeC with mu:=fun g=>if g=125 then some (mu1 A6m) else qeC.mu g }
theorem R9:A9 Tryz.prog qeD:=
 C9m A1w 125 A6m (A4 Tryz.func125 rfl rfl) fun off len es e rest o e' h ho _ _=>by
  unfold A6m at h;split at h
  ·cases h
   obtain ⟨h1,h2,h3,h4,h5,h6,h7,h8,k0,k1,k2,k3,k4,k5,_⟩:=ho;subst h8 k0 k1 k2 k3 k4 k5;exact E2o _ _ _ _ _ _ _ _ _ _ _ _ h1 h2 h3 h4 h5 h6 h7
  ·cases h

def mP:SV:=u6s 13402431016077863595 2210141511517208575 7435674573564081700 7239337960414712511 5412103778470702295 1873798617647539866
def pd6 (o0 o1 o2 o3 o4 o5 a b c d e f y0 y1 y2 y3 y4 y5:Int):Cfg:=⟨[.code (B9 Tryz.f89)],.normal,E9v Tryz.f89.ntmps 0 6 1 (fl6 o0 o1 o2 o3 o4 o5) [u6s a b c d e f,u6s y0 y1 y2 y3 y4 y5,mP,.v (.c (.int .u64 9940570264628428797))]⟩

def B3x:List KI:=(run qeD false 3000 (pd6 dF dF dF dF dF dF dF dF dF dF dF dF dF dF dF dF dF dF:Cfg) []).cfg.k
theorem zIn (o0 o1 o2 o3 o4 o5 a b c d e f y0 y1 y2 y3 y4 y5:Int) {w0:World} {F0:Nat->Prop} {K:Kp} {ac:List Act} {Q:Exit->Act->World->Prop} {cX:Ctx} {aX:Act} (ho:B1 []) (hs:Sim w0 F0 K ac (((pd6 o0 o1 o2 o3 o4 o5 a b c d e f y0 y1 y2 y3 y4 y5:Cfg)).σ) cX aX) (hK:∀ac cY aY,Sim w0 F0 K ac (B0 176 [0,1,2,3,4,10,11,29,30] [(.ci (.slc 0 0 6 1)),(.ci (.sl (.u64 [a,b,c,d,e,f]))),(.ci (.sl (.u64 [y0,y1,y2,y3,y4,y5]))),(.ci (.sl (.u64 [(13402431016077863595:Int),(2210141511517208575:Int),(7435674573564081700:Int),(7239337960414712511:Int),(5412103778470702295:Int),(1873798617647539866:Int)]))),.iu (9940570264628428797:Int),.ii (6:Int),.pt 64 0,.ii (6:Int),.ii (0:Int)] [0,64] [(eF_ [(.int .u64 o0),(.int .u64 o1),(.int .u64 o2),(.int .u64 o3),(.int .u64 o4),(.int .u64 o5)]),(eF_ [(.int .u64 (0:Int)),(.int .u64 (0:Int)),(.int .u64 (0:Int)),(.int .u64 (0:Int)),(.int .u64 (0:Int)),(.int .u64 (0:Int)),(.int .u64 (0:Int)),(.int .u64 (0:Int)),(.int .u64 (0:Int)),(.int .u64 (0:Int))])] 112 [] []) cY aY->Wq Tryz.prog Q (B3x) ac Exit.normal aY cY.w):Wq Tryz.prog Q (((pd6 o0 o1 o2 o3 o4 o5 a b c d e f y0 y1 y2 y3 y4 y5:Cfg)).k) ac ((pd6 o0 o1 o2 o3 o4 o5 a b c d e f y0 y1 y2 y3 y4 y5:Cfg)).x aX cX.w:=
 C3v (unroll:=false) (n:=3000) (path:=[]) (o:=⟨_,_,_,_,_,_,_⟩) R9 (by kernel_rfl) (by kernel_rfl) ho hs hK
def zS (o0 o1 o2 o3 o4 o5 a b c d e f y0 y1 y2 y3 y4 y5 :Int) (i:Nat) (r0 r1 r2 r3 r4 r5 r6 r7 :Int):St:=B0 176 [0,1,2,3,4,10,11,29,30] [(.ci (.slc 0 0 6 1)),(.ci (.sl (.u64 [a,b,c,d,e,f]))),(.ci (.sl (.u64 [y0,y1,y2,y3,y4,y5]))),(.ci (.sl (.u64 [(13402431016077863595:Int),(2210141511517208575:Int),(7435674573564081700:Int),(7239337960414712511:Int),(5412103778470702295:Int),(1873798617647539866:Int)]))),.iu (9940570264628428797:Int),.ii (6:Int),.pt 64 0,.ii (6:Int),.v (.c (.int .i64 (i:Int)))] [0,64] [(eF_ [(.int .u64 o0),(.int .u64 o1),(.int .u64 o2),(.int .u64 o3),(.int .u64 o4),(.int .u64 o5)]),some (.fl [.int .u64 r0,.int .u64 r1,.int .u64 r2,.int .u64 r3,.int .u64 r4,.int .u64 r5,.int .u64 r6,.int .u64 r7,.int .u64 0,.int .u64 0])] 112 [] []
def D8z:List KI:=(run qeD true 104 (⟨E8 B3x,.normal,zS dF dF dF dF dF dF dF dF dF dF dF dF dF dF dF dF dF dF dF dF dF dF dF dF dF dF dF⟩:Cfg) [true,true]).cfg.k
theorem zA0 (o0 o1 o2 o3 o4 o5 a b c d e f y0 y1 y2 y3 y4 y5:Int) (i:Nat) (r0 r1 r2 r3 r4 r5 r6 r7:Int) {w0:World} {F0:Nat->Prop} {K:Kp} {ac:List Act} {Q:Exit->Act->World->Prop} {cX:Ctx} {aX:Act} (ho:B1 [((decide ((i:Int)<(6:Int)))=true),(0<=(i:Int)),((i:Int)<((6:Nat):Int)),((decide (0<(6:Int)))=true),(0<=(0:Int)),(0<((6:Nat):Int)),(0<=(List.getD [a,b,c,d,e,f] ((i:Int)).toNat 0)),((List.getD [a,b,c,d,e,f] ((i:Int)).toNat 0)<(18446744073709551616:Int)),(0<=y0),(y0<(18446744073709551616:Int)),(0<=(0:Int)),(0<(10:Int)),(0<=(((List.getD [a,b,c,d,e,f] ((i:Int)).toNat 0)*y0) % (18446744073709551616:Int))),(0<=r0),(r0<(18446744073709551616:Int)),(0<=(0:Int)),(0<=(1:Int)),(0<=(Prod.fst (A6 0 (((List.getD [a,b,c,d,e,f] ((i:Int)).toNat 0)*y0) % (18446744073709551616:Int)) r0 (0:Int)))),(0<=(0:Int)),(0<(18446744073709551616:Int)),(0<=(0:Int)),(0<=(1:Int)),(0<=(0:Int)),(0<(10:Int))]) (hs:Sim w0 F0 K ac (zS o0 o1 o2 o3 o4 o5 a b c d e f y0 y1 y2 y3 y4 y5 i r0 r1 r2 r3 r4 r5 r6 r7) cX aX) (hK:∀ac cY aY,Sim w0 F0 K ac (B0 176 [0,1,2,3,4,10,11,13,14,29,30,37,38] [(.ci (.slc 0 0 6 1)),(.ci (.sl (.u64 [a,b,c,d,e,f]))),(.ci (.sl (.u64 [y0,y1,y2,y3,y4,y5]))),(.ci (.sl (.u64 [(13402431016077863595:Int),(2210141511517208575:Int),(7435674573564081700:Int),(7239337960414712511:Int),(5412103778470702295:Int),(1873798617647539866:Int)]))),.iu (9940570264628428797:Int),.ii (6:Int),.pt 64 0,(.iu (List.getD [a,b,c,d,e,f] ((i:Int)).toNat 0)),(.iu (wrap .u64 ((wrap .u64 ((((List.getD [a,b,c,d,e,f] ((i:Int)).toNat 0)*y0) / (18446744073709551616:Int))+(Prod.snd (A6 0 (((List.getD [a,b,c,d,e,f] ((i:Int)).toNat 0)*y0) % (18446744073709551616:Int)) r0 (0:Int)))))+(Prod.snd (A6 0 (Prod.fst (A6 0 (((List.getD [a,b,c,d,e,f] ((i:Int)).toNat 0)*y0) % (18446744073709551616:Int)) r0 (0:Int))) (0:Int) (0:Int)))))),.ii (6:Int),(.ii (i:Int)),.ii (6:Int),.ii (0:Int)] [0,64] [(eF_ [(.int .u64 o0),(.int .u64 o1),(.int .u64 o2),(.int .u64 o3),(.int .u64 o4),(.int .u64 o5)]),(eF_ [(.int .u64 (Prod.fst (A6 0 (Prod.fst (A6 0 (((List.getD [a,b,c,d,e,f] ((i:Int)).toNat 0)*y0) % (18446744073709551616:Int)) r0 (0:Int))) (0:Int) (0:Int)))),(.int .u64 r1),(.int .u64 r2),(.int .u64 r3),(.int .u64 r4),(.int .u64 r5),(.int .u64 r6),(.int .u64 r7),(.int .u64 (0:Int)),(.int .u64 (0:Int))])] 992 [] []) cY aY->Wq Tryz.prog Q (D8z) ac Exit.normal aY cY.w):Wq Tryz.prog Q (E8 B3x) ac .normal aX cX.w:=
 A1l (unroll:=true) (n:=104) (path:=[true,true]) (o:=⟨_,_,_,_,_,_,_⟩) R9 (by kernel_rfl) (by kernel_rfl) ho hs hK
theorem zX (o0 o1 o2 o3 o4 o5 a b c d e f y0 y1 y2 y3 y4 y5:Int) (i:Nat) (r0 r1 r2 r3 r4 r5 r6 r7:Int):let g:Int:=13402431016077863595;let h:Int:=6;let j:Int:=2210141511517208575;let k:Int:=7435674573564081700;let l:Int:=7239337960414712511;let m:Int:=5412103778470702295;let n:Int:=1873798617647539866;let o:=G4 r0 r1 r2 r3 r4 r5;B6y qeD Tryz.f89 true 3000 ⟨E8 B3x,.normal,zS o0 o1 o2 o3 o4 o5 a b c d e f y0 y1 y2 y3 y4 y5 i r0 r1 r2 r3 r4 r5 r6 r7⟩ [false]=(some ([((decide ((i:Int)<h))=false),(0<=h),(h<=(10:Int)),(0<=h),(h<(10:Int)),(B7 r0),(B7 r1),(B7 r2),(B7 r3),(B7 r4),(B7 r5),(o<(8004819110443334786835579651471808313113765639878015770664116272248063300981675728885375258258031328075788545119574:Int)),(r6=(0:Int)),(g=g),(j=j),(k=k),(l=l),(m=m),(n=n)],(.fl [(.ob (.fp (A3c (o).toNat)))]))):=by intros;kernel_rfl
def zS1 (o0 o1 o2 o3 o4 o5 a b c d e f y0 y1 y2 y3 y4 y5 :Int) (i:Nat) (x cy r0 r1 r2 r3 r4 r5 r6 r7 :Int):St:=B0 176 [0,1,2,3,4,10,11,13,14,29,30,37,38] [(.ci (.slc 0 0 6 1)),(.ci (.sl (.u64 [a,b,c,d,e,f]))),(.ci (.sl (.u64 [y0,y1,y2,y3,y4,y5]))),(.ci (.sl (.u64 [(13402431016077863595:Int),(2210141511517208575:Int),(7435674573564081700:Int),(7239337960414712511:Int),(5412103778470702295:Int),(1873798617647539866:Int)]))),.iu (9940570264628428797:Int),.ii (6:Int),.pt 64 0,.v (.c (.int .u64 x)),.v (.c (.int .u64 cy)),.ii (6:Int),(.ii (i:Int)),.ii (6:Int),.ii (0:Int)] [0,64] [(eF_ [(.int .u64 o0),(.int .u64 o1),(.int .u64 o2),(.int .u64 o3),(.int .u64 o4),(.int .u64 o5)]),some (.fl [.int .u64 r0,.int .u64 r1,.int .u64 r2,.int .u64 r3,.int .u64 r4,.int .u64 r5,.int .u64 r6,.int .u64 r7,.int .u64 0,.int .u64 0])] 992 [] []
def D9a:List KI:=(run qeD true 75 (⟨D8z,.normal,zS1 dF dF dF dF dF dF dF dF dF dF dF dF dF dF dF dF dF dF dF dF dF dF dF dF dF dF dF dF dF⟩:Cfg) [true]).cfg.k
section
variable (o0 o1 o2 o3 o4 o5 a b c d e f y0 y1 y2 y3 y4 y5:Int) (i:Nat) (x cy r0 r1 r2 r3 r4 r5 r6 r7:Int)
theorem zA1:let g:Int:=18446744073709551616;let j:Int:=1;let k:Int:=0;let h:=A6 0 ((x*y1) % g) r1 k;let l:=A6 0 (Prod.fst h) cy k;let m:Int:=6;B1 [((decide (j<m))=true),(0<=j),(j<((6:Nat):Int)),(0<=x),(x<g),(0<=y1),(y1<g),(0<=j),(j<(10:Int)),(0<=((x*y1) % g)),(0<=r1),(r1<g),(0<=k),(0<=j),(0<=(Prod.fst h)),(0<=cy),(cy<g),(0<=k),(0<=j),(0<=j),(j<(10:Int))]->Sg Tryz.prog (zS1 o0 o1 o2 o3 o4 o5 a b c d e f y0 y1 y2 y3 y4 y5 i x cy r0 r1 r2 r3 r4 r5 r6 r7) (B0 176 [0,1,2,3,4,10,11,13,14,29,30,37,38] [(.ci (.slc 0 0 6 1)),(.ci (.sl (.u64 [a,b,c,d,e,f]))),(.ci (.sl (.u64 [y0,y1,y2,y3,y4,y5]))),(.ci (.sl (.u64 [(13402431016077863595:Int),(2210141511517208575:Int),(7435674573564081700:Int),(7239337960414712511:Int),(5412103778470702295:Int),(1873798617647539866:Int)]))),.iu (9940570264628428797:Int),.ii m,.pt 64 0,.iu x,(.iu (wrap .u64 ((wrap .u64 (((x*y1) / g)+(Prod.snd h)))+(Prod.snd l)))),.ii m,(.ii (i:Int)),.ii m,.ii j] [0,64] [(eF_ [(.int .u64 o0),(.int .u64 o1),(.int .u64 o2),(.int .u64 o3),(.int .u64 o4),(.int .u64 o5)]),(eF_ [(.int .u64 r0),(.int .u64 (Prod.fst l)),(.int .u64 r2),(.int .u64 r3),(.int .u64 r4),(.int .u64 r5),(.int .u64 r6),(.int .u64 r7),(.int .u64 k),(.int .u64 k)])] 1728 [] []) .normal (D9a) (D8z):=sgA true 75 [true] R9
def zS2 (o0 o1 o2 o3 o4 o5 a b c d e f y0 y1 y2 y3 y4 y5 :Int) (i:Nat) (x cy r0 r1 r2 r3 r4 r5 r6 r7 :Int):St:=B0 176 [0,1,2,3,4,10,11,13,14,29,30,37,38] [(.ci (.slc 0 0 6 1)),(.ci (.sl (.u64 [a,b,c,d,e,f]))),(.ci (.sl (.u64 [y0,y1,y2,y3,y4,y5]))),(.ci (.sl (.u64 [(13402431016077863595:Int),(2210141511517208575:Int),(7435674573564081700:Int),(7239337960414712511:Int),(5412103778470702295:Int),(1873798617647539866:Int)]))),.iu (9940570264628428797:Int),.ii (6:Int),.pt 64 0,.v (.c (.int .u64 x)),.v (.c (.int .u64 cy)),.ii (6:Int),(.ii (i:Int)),.ii (6:Int),.ii (1:Int)] [0,64] [(eF_ [(.int .u64 o0),(.int .u64 o1),(.int .u64 o2),(.int .u64 o3),(.int .u64 o4),(.int .u64 o5)]),some (.fl [.int .u64 r0,.int .u64 r1,.int .u64 r2,.int .u64 r3,.int .u64 r4,.int .u64 r5,.int .u64 r6,.int .u64 r7,.int .u64 0,.int .u64 0])] 1728 [] []
def D9b:List KI:=(run qeD true 75 (⟨D9a,.normal,zS2 dF dF dF dF dF dF dF dF dF dF dF dF dF dF dF dF dF dF dF dF dF dF dF dF dF dF dF dF dF⟩:Cfg) [true]).cfg.k
theorem zA2:let g:Int:=18446744073709551616;let j:Int:=2;let k:Int:=0;let h:=A6 0 ((x*y2) % g) r2 k;let l:=A6 0 (Prod.fst h) cy k;let m:Int:=6;B1 [((decide (j<m))=true),(0<=j),(j<((6:Nat):Int)),(0<=x),(x<g),(0<=y2),(y2<g),(0<=j),(j<(10:Int)),(0<=((x*y2) % g)),(0<=r2),(r2<g),(0<=k),(0<=(1:Int)),(0<=(Prod.fst h)),(0<=cy),(cy<g),(0<=k),(0<=(1:Int)),(0<=j),(j<(10:Int))]->Sg Tryz.prog (zS2 o0 o1 o2 o3 o4 o5 a b c d e f y0 y1 y2 y3 y4 y5 i x cy r0 r1 r2 r3 r4 r5 r6 r7) (B0 176 [0,1,2,3,4,10,11,13,14,29,30,37,38] [(.ci (.slc 0 0 6 1)),(.ci (.sl (.u64 [a,b,c,d,e,f]))),(.ci (.sl (.u64 [y0,y1,y2,y3,y4,y5]))),(.ci (.sl (.u64 [(13402431016077863595:Int),(2210141511517208575:Int),(7435674573564081700:Int),(7239337960414712511:Int),(5412103778470702295:Int),(1873798617647539866:Int)]))),.iu (9940570264628428797:Int),.ii m,.pt 64 0,.iu x,(.iu (wrap .u64 ((wrap .u64 (((x*y2) / g)+(Prod.snd h)))+(Prod.snd l)))),.ii m,(.ii (i:Int)),.ii m,.ii j] [0,64] [(eF_ [(.int .u64 o0),(.int .u64 o1),(.int .u64 o2),(.int .u64 o3),(.int .u64 o4),(.int .u64 o5)]),(eF_ [(.int .u64 r0),(.int .u64 r1),(.int .u64 (Prod.fst l)),(.int .u64 r3),(.int .u64 r4),(.int .u64 r5),(.int .u64 r6),(.int .u64 r7),(.int .u64 k),(.int .u64 k)])] 2464 [] []) .normal (D9b) (D9a):=sgA true 75 [true] R9
def zS3 (o0 o1 o2 o3 o4 o5 a b c d e f y0 y1 y2 y3 y4 y5 :Int) (i:Nat) (x cy r0 r1 r2 r3 r4 r5 r6 r7 :Int):St:=B0 176 [0,1,2,3,4,10,11,13,14,29,30,37,38] [(.ci (.slc 0 0 6 1)),(.ci (.sl (.u64 [a,b,c,d,e,f]))),(.ci (.sl (.u64 [y0,y1,y2,y3,y4,y5]))),(.ci (.sl (.u64 [(13402431016077863595:Int),(2210141511517208575:Int),(7435674573564081700:Int),(7239337960414712511:Int),(5412103778470702295:Int),(1873798617647539866:Int)]))),.iu (9940570264628428797:Int),.ii (6:Int),.pt 64 0,.v (.c (.int .u64 x)),.v (.c (.int .u64 cy)),.ii (6:Int),(.ii (i:Int)),.ii (6:Int),.ii (2:Int)] [0,64] [(eF_ [(.int .u64 o0),(.int .u64 o1),(.int .u64 o2),(.int .u64 o3),(.int .u64 o4),(.int .u64 o5)]),some (.fl [.int .u64 r0,.int .u64 r1,.int .u64 r2,.int .u64 r3,.int .u64 r4,.int .u64 r5,.int .u64 r6,.int .u64 r7,.int .u64 0,.int .u64 0])] 2464 [] []
def D9c:List KI:=(run qeD true 75 (⟨D9b,.normal,zS3 dF dF dF dF dF dF dF dF dF dF dF dF dF dF dF dF dF dF dF dF dF dF dF dF dF dF dF dF dF⟩:Cfg) [true]).cfg.k
theorem zA3:let g:Int:=18446744073709551616;let j:Int:=3;let k:Int:=0;let h:=A6 0 ((x*y3) % g) r3 k;let l:=A6 0 (Prod.fst h) cy k;let m:Int:=6;B1 [((decide (j<m))=true),(0<=j),(j<((6:Nat):Int)),(0<=x),(x<g),(0<=y3),(y3<g),(0<=j),(j<(10:Int)),(0<=((x*y3) % g)),(0<=r3),(r3<g),(0<=k),(0<=(1:Int)),(0<=(Prod.fst h)),(0<=cy),(cy<g),(0<=k),(0<=(1:Int)),(0<=j),(j<(10:Int))]->Sg Tryz.prog (zS3 o0 o1 o2 o3 o4 o5 a b c d e f y0 y1 y2 y3 y4 y5 i x cy r0 r1 r2 r3 r4 r5 r6 r7) (B0 176 [0,1,2,3,4,10,11,13,14,29,30,37,38] [(.ci (.slc 0 0 6 1)),(.ci (.sl (.u64 [a,b,c,d,e,f]))),(.ci (.sl (.u64 [y0,y1,y2,y3,y4,y5]))),(.ci (.sl (.u64 [(13402431016077863595:Int),(2210141511517208575:Int),(7435674573564081700:Int),(7239337960414712511:Int),(5412103778470702295:Int),(1873798617647539866:Int)]))),.iu (9940570264628428797:Int),.ii m,.pt 64 0,.iu x,(.iu (wrap .u64 ((wrap .u64 (((x*y3) / g)+(Prod.snd h)))+(Prod.snd l)))),.ii m,(.ii (i:Int)),.ii m,.ii j] [0,64] [(eF_ [(.int .u64 o0),(.int .u64 o1),(.int .u64 o2),(.int .u64 o3),(.int .u64 o4),(.int .u64 o5)]),(eF_ [(.int .u64 r0),(.int .u64 r1),(.int .u64 r2),(.int .u64 (Prod.fst l)),(.int .u64 r4),(.int .u64 r5),(.int .u64 r6),(.int .u64 r7),(.int .u64 k),(.int .u64 k)])] 3200 [] []) .normal (D9c) (D9b):=sgA true 75 [true] R9
def zS4 (o0 o1 o2 o3 o4 o5 a b c d e f y0 y1 y2 y3 y4 y5 :Int) (i:Nat) (x cy r0 r1 r2 r3 r4 r5 r6 r7 :Int):St:=B0 176 [0,1,2,3,4,10,11,13,14,29,30,37,38] [(.ci (.slc 0 0 6 1)),(.ci (.sl (.u64 [a,b,c,d,e,f]))),(.ci (.sl (.u64 [y0,y1,y2,y3,y4,y5]))),(.ci (.sl (.u64 [(13402431016077863595:Int),(2210141511517208575:Int),(7435674573564081700:Int),(7239337960414712511:Int),(5412103778470702295:Int),(1873798617647539866:Int)]))),.iu (9940570264628428797:Int),.ii (6:Int),.pt 64 0,.v (.c (.int .u64 x)),.v (.c (.int .u64 cy)),.ii (6:Int),(.ii (i:Int)),.ii (6:Int),.ii (3:Int)] [0,64] [(eF_ [(.int .u64 o0),(.int .u64 o1),(.int .u64 o2),(.int .u64 o3),(.int .u64 o4),(.int .u64 o5)]),some (.fl [.int .u64 r0,.int .u64 r1,.int .u64 r2,.int .u64 r3,.int .u64 r4,.int .u64 r5,.int .u64 r6,.int .u64 r7,.int .u64 0,.int .u64 0])] 3200 [] []
def D9d:List KI:=(run qeD true 75 (⟨D9c,.normal,zS4 dF dF dF dF dF dF dF dF dF dF dF dF dF dF dF dF dF dF dF dF dF dF dF dF dF dF dF dF dF⟩:Cfg) [true]).cfg.k
theorem zA4:let g:Int:=18446744073709551616;let j:Int:=4;let k:Int:=0;let h:=A6 0 ((x*y4) % g) r4 k;let l:=A6 0 (Prod.fst h) cy k;let m:Int:=6;B1 [((decide (j<m))=true),(0<=j),(j<((6:Nat):Int)),(0<=x),(x<g),(0<=y4),(y4<g),(0<=j),(j<(10:Int)),(0<=((x*y4) % g)),(0<=r4),(r4<g),(0<=k),(0<=(1:Int)),(0<=(Prod.fst h)),(0<=cy),(cy<g),(0<=k),(0<=(1:Int)),(0<=j),(j<(10:Int))]->Sg Tryz.prog (zS4 o0 o1 o2 o3 o4 o5 a b c d e f y0 y1 y2 y3 y4 y5 i x cy r0 r1 r2 r3 r4 r5 r6 r7) (B0 176 [0,1,2,3,4,10,11,13,14,29,30,37,38] [(.ci (.slc 0 0 6 1)),(.ci (.sl (.u64 [a,b,c,d,e,f]))),(.ci (.sl (.u64 [y0,y1,y2,y3,y4,y5]))),(.ci (.sl (.u64 [(13402431016077863595:Int),(2210141511517208575:Int),(7435674573564081700:Int),(7239337960414712511:Int),(5412103778470702295:Int),(1873798617647539866:Int)]))),.iu (9940570264628428797:Int),.ii m,.pt 64 0,.iu x,(.iu (wrap .u64 ((wrap .u64 (((x*y4) / g)+(Prod.snd h)))+(Prod.snd l)))),.ii m,(.ii (i:Int)),.ii m,.ii j] [0,64] [(eF_ [(.int .u64 o0),(.int .u64 o1),(.int .u64 o2),(.int .u64 o3),(.int .u64 o4),(.int .u64 o5)]),(eF_ [(.int .u64 r0),(.int .u64 r1),(.int .u64 r2),(.int .u64 r3),(.int .u64 (Prod.fst l)),(.int .u64 r5),(.int .u64 r6),(.int .u64 r7),(.int .u64 k),(.int .u64 k)])] 3936 [] []) .normal (D9d) (D9c):=sgA true 75 [true] R9
def zS5 (o0 o1 o2 o3 o4 o5 a b c d e f y0 y1 y2 y3 y4 y5 :Int) (i:Nat) (x cy r0 r1 r2 r3 r4 r5 r6 r7 :Int):St:=B0 176 [0,1,2,3,4,10,11,13,14,29,30,37,38] [(.ci (.slc 0 0 6 1)),(.ci (.sl (.u64 [a,b,c,d,e,f]))),(.ci (.sl (.u64 [y0,y1,y2,y3,y4,y5]))),(.ci (.sl (.u64 [(13402431016077863595:Int),(2210141511517208575:Int),(7435674573564081700:Int),(7239337960414712511:Int),(5412103778470702295:Int),(1873798617647539866:Int)]))),.iu (9940570264628428797:Int),.ii (6:Int),.pt 64 0,.v (.c (.int .u64 x)),.v (.c (.int .u64 cy)),.ii (6:Int),(.ii (i:Int)),.ii (6:Int),.ii (4:Int)] [0,64] [(eF_ [(.int .u64 o0),(.int .u64 o1),(.int .u64 o2),(.int .u64 o3),(.int .u64 o4),(.int .u64 o5)]),some (.fl [.int .u64 r0,.int .u64 r1,.int .u64 r2,.int .u64 r3,.int .u64 r4,.int .u64 r5,.int .u64 r6,.int .u64 r7,.int .u64 0,.int .u64 0])] 3936 [] []
def D9e:List KI:=(run qeD true 75 (⟨D9d,.normal,zS5 dF dF dF dF dF dF dF dF dF dF dF dF dF dF dF dF dF dF dF dF dF dF dF dF dF dF dF dF dF⟩:Cfg) [true]).cfg.k
theorem zA5:let g:Int:=18446744073709551616;let j:Int:=5;let k:Int:=0;let h:=A6 0 ((x*y5) % g) r5 k;let l:=A6 0 (Prod.fst h) cy k;let m:Int:=6;B1 [((decide (j<m))=true),(0<=j),(j<((6:Nat):Int)),(0<=x),(x<g),(0<=y5),(y5<g),(0<=j),(j<(10:Int)),(0<=((x*y5) % g)),(0<=r5),(r5<g),(0<=k),(0<=(1:Int)),(0<=(Prod.fst h)),(0<=cy),(cy<g),(0<=k),(0<=(1:Int)),(0<=j),(j<(10:Int))]->Sg Tryz.prog (zS5 o0 o1 o2 o3 o4 o5 a b c d e f y0 y1 y2 y3 y4 y5 i x cy r0 r1 r2 r3 r4 r5 r6 r7) (B0 176 [0,1,2,3,4,10,11,13,14,29,30,37,38] [(.ci (.slc 0 0 6 1)),(.ci (.sl (.u64 [a,b,c,d,e,f]))),(.ci (.sl (.u64 [y0,y1,y2,y3,y4,y5]))),(.ci (.sl (.u64 [(13402431016077863595:Int),(2210141511517208575:Int),(7435674573564081700:Int),(7239337960414712511:Int),(5412103778470702295:Int),(1873798617647539866:Int)]))),.iu (9940570264628428797:Int),.ii m,.pt 64 0,.iu x,(.iu (wrap .u64 ((wrap .u64 (((x*y5) / g)+(Prod.snd h)))+(Prod.snd l)))),.ii m,(.ii (i:Int)),.ii m,.ii j] [0,64] [(eF_ [(.int .u64 o0),(.int .u64 o1),(.int .u64 o2),(.int .u64 o3),(.int .u64 o4),(.int .u64 o5)]),(eF_ [(.int .u64 r0),(.int .u64 r1),(.int .u64 r2),(.int .u64 r3),(.int .u64 r4),(.int .u64 (Prod.fst l)),(.int .u64 r6),(.int .u64 r7),(.int .u64 k),(.int .u64 k)])] 4672 [] []) .normal (D9e) (D9d):=sgA true 75 [true] R9
def zS6 (o0 o1 o2 o3 o4 o5 a b c d e f y0 y1 y2 y3 y4 y5 :Int) (i:Nat) (x cy r0 r1 r2 r3 r4 r5 r6 r7 :Int):St:=B0 176 [0,1,2,3,4,10,11,13,14,29,30,37,38] [(.ci (.slc 0 0 6 1)),(.ci (.sl (.u64 [a,b,c,d,e,f]))),(.ci (.sl (.u64 [y0,y1,y2,y3,y4,y5]))),(.ci (.sl (.u64 [(13402431016077863595:Int),(2210141511517208575:Int),(7435674573564081700:Int),(7239337960414712511:Int),(5412103778470702295:Int),(1873798617647539866:Int)]))),.iu (9940570264628428797:Int),.ii (6:Int),.pt 64 0,.v (.c (.int .u64 x)),.v (.c (.int .u64 cy)),.ii (6:Int),(.ii (i:Int)),.ii (6:Int),.ii (5:Int)] [0,64] [(eF_ [(.int .u64 o0),(.int .u64 o1),(.int .u64 o2),(.int .u64 o3),(.int .u64 o4),(.int .u64 o5)]),some (.fl [.int .u64 r0,.int .u64 r1,.int .u64 r2,.int .u64 r3,.int .u64 r4,.int .u64 r5,.int .u64 r6,.int .u64 r7,.int .u64 0,.int .u64 0])] 4672 [] []
def G4g:List KI:=(run qeD true 88 (⟨D9e,.normal,zS6 dF dF dF dF dF dF dF dF dF dF dF dF dF dF dF dF dF dF dF dF dF dF dF dF dF dF dF dF dF⟩:Cfg) [false]).cfg.k
theorem zE:let h:Int:=18446744073709551616;let j:Int:=13402431016077863595;let k:Int:=0;let l:Int:=6;let m:Int:=10;let n:Int:=9940570264628428797;let g:=wrap .u64 (r0*n);let o:=A6 0 r6 cy k;B1 [((decide (l<l))=false),(0<=l),(l<m),(0<=r6),(0<=cy),(cy<h),(0<=k),(0<=(1:Int)),(0<=l),(l<m),(0<=(7:Int)),((7:Int)<m),(0<=k),(0<m),(0<=k),(0<l),(0<=g),(g<h),(0<=j),(j<h),(0<=k),(0<m),(0<=((g*j) % h)),(0<=r0),(r0<h),(0<=k),(0<=(1:Int))]->Sg Tryz.prog (zS6 o0 o1 o2 o3 o4 o5 a b c d e f y0 y1 y2 y3 y4 y5 i x cy r0 r1 r2 r3 r4 r5 r6 r7) (B0 176 [0,1,2,3,4,10,11,14,20,23,29,30] [(.ci (.slc 0 0 6 1)),(.ci (.sl (.u64 [a,b,c,d,e,f]))),(.ci (.sl (.u64 [y0,y1,y2,y3,y4,y5]))),(.ci (.sl (.u64 [j,(2210141511517208575:Int),(7435674573564081700:Int),(7239337960414712511:Int),(5412103778470702295:Int),(1873798617647539866:Int)]))),.iu n,.ii l,.pt 64 0,(.iu (wrap .u64 (((g*j) / h)+(Prod.snd (A6 0 ((g*j) % h) r0 k))))),(.iu g),.ii (1:Int),.ii l,(.ii (i:Int))] [0,64] [(eF_ [(.int .u64 o0),(.int .u64 o1),(.int .u64 o2),(.int .u64 o3),(.int .u64 o4),(.int .u64 o5)]),(eF_ [(.int .u64 r0),(.int .u64 r1),(.int .u64 r2),(.int .u64 r3),(.int .u64 r4),(.int .u64 r5),(.int .u64 (Prod.fst o)),(.int .u64 (Prod.snd o)),(.int .u64 k),(.int .u64 k)])] 5456 [] []) .normal (G4g) (D9e):=sgA true 88 [false] R9
def zT1 (o0 o1 o2 o3 o4 o5 a b c d e f y0 y1 y2 y3 y4 y5 :Int) (i:Nat) (q cy r0 r1 r2 r3 r4 r5 r6 r7 :Int):St:=B0 176 [0,1,2,3,4,10,11,14,20,23,29,30] [(.ci (.slc 0 0 6 1)),(.ci (.sl (.u64 [a,b,c,d,e,f]))),(.ci (.sl (.u64 [y0,y1,y2,y3,y4,y5]))),(.ci (.sl (.u64 [(13402431016077863595:Int),(2210141511517208575:Int),(7435674573564081700:Int),(7239337960414712511:Int),(5412103778470702295:Int),(1873798617647539866:Int)]))),.iu (9940570264628428797:Int),.ii (6:Int),.pt 64 0,.v (.c (.int .u64 cy)),.v (.c (.int .u64 q)),.ii (1:Int),.ii (6:Int),(.ii (i:Int))] [0,64] [(eF_ [(.int .u64 o0),(.int .u64 o1),(.int .u64 o2),(.int .u64 o3),(.int .u64 o4),(.int .u64 o5)]),some (.fl [.int .u64 r0,.int .u64 r1,.int .u64 r2,.int .u64 r3,.int .u64 r4,.int .u64 r5,.int .u64 r6,.int .u64 r7,.int .u64 0,.int .u64 0])] 5456 [] []
def D9f:List KI:=(run qeD true 68 (⟨G4g,.normal,zT1 dF dF dF dF dF dF dF dF dF dF dF dF dF dF dF dF dF dF dF dF dF dF dF dF dF dF dF dF dF⟩:Cfg) [true]).cfg.k
end
section
variable (o0 o1 o2 o3 o4 o5 a b c d e f y0 y1 y2 y3 y4 y5:Int) (i:Nat) (q cy r0 r1 r2 r3 r4 r5 r6 r7:Int)
theorem zB1:let h:Int:=18446744073709551616;let j:Int:=2210141511517208575;let g:=(q*j) % h;let k:Int:=0;let m:Int:=1;let n:Int:=6;let o:=A6 0 g r1 k;let l:=Prod.fst o;let p:=A6 0 l cy k;B1 [((decide (m<n))=true),(0<=m),(m<n),(0<=q),(q<h),(0<=j),(j<h),(0<=m),(m<(10:Int)),(0<=g),(0<=r1),(r1<h),(0<=k),(0<=m),(0<=l),(0<=cy),(cy<h),(0<=k),(0<=m),(0<=k),(0<(10:Int))]->Sg Tryz.prog (zT1 o0 o1 o2 o3 o4 o5 a b c d e f y0 y1 y2 y3 y4 y5 i q cy r0 r1 r2 r3 r4 r5 r6 r7) (B0 176 [0,1,2,3,4,10,11,14,20,23,29,30] [(.ci (.slc 0 0 6 1)),(.ci (.sl (.u64 [a,b,c,d,e,f]))),(.ci (.sl (.u64 [y0,y1,y2,y3,y4,y5]))),(.ci (.sl (.u64 [(13402431016077863595:Int),j,(7435674573564081700:Int),(7239337960414712511:Int),(5412103778470702295:Int),(1873798617647539866:Int)]))),.iu (9940570264628428797:Int),.ii n,.pt 64 0,(.iu (wrap .u64 ((wrap .u64 (((q*j) / h)+(Prod.snd o)))+(Prod.snd p)))),.iu q,.ii m,.ii n,(.ii (i:Int))] [0,64] [(eF_ [(.int .u64 o0),(.int .u64 o1),(.int .u64 o2),(.int .u64 o3),(.int .u64 o4),(.int .u64 o5)]),(eF_ [(.int .u64 (Prod.fst p)),(.int .u64 r1),(.int .u64 r2),(.int .u64 r3),(.int .u64 r4),(.int .u64 r5),(.int .u64 r6),(.int .u64 r7),(.int .u64 k),(.int .u64 k)])] 6176 [] []) .normal (D9f) (G4g):=sgA true 68 [true] R9
def zT2 (o0 o1 o2 o3 o4 o5 a b c d e f y0 y1 y2 y3 y4 y5 :Int) (i:Nat) (q cy r0 r1 r2 r3 r4 r5 r6 r7 :Int):St:=B0 176 [0,1,2,3,4,10,11,14,20,23,29,30] [(.ci (.slc 0 0 6 1)),(.ci (.sl (.u64 [a,b,c,d,e,f]))),(.ci (.sl (.u64 [y0,y1,y2,y3,y4,y5]))),(.ci (.sl (.u64 [(13402431016077863595:Int),(2210141511517208575:Int),(7435674573564081700:Int),(7239337960414712511:Int),(5412103778470702295:Int),(1873798617647539866:Int)]))),.iu (9940570264628428797:Int),.ii (6:Int),.pt 64 0,.v (.c (.int .u64 cy)),.v (.c (.int .u64 q)),.ii (1:Int),.ii (6:Int),(.ii (i:Int))] [0,64] [(eF_ [(.int .u64 o0),(.int .u64 o1),(.int .u64 o2),(.int .u64 o3),(.int .u64 o4),(.int .u64 o5)]),some (.fl [.int .u64 r0,.int .u64 r1,.int .u64 r2,.int .u64 r3,.int .u64 r4,.int .u64 r5,.int .u64 r6,.int .u64 r7,.int .u64 0,.int .u64 0])] 6176 [] []
def D9g:List KI:=(run qeD true 74 (⟨D9f,.normal,zT2 dF dF dF dF dF dF dF dF dF dF dF dF dF dF dF dF dF dF dF dF dF dF dF dF dF dF dF dF dF⟩:Cfg) [true]).cfg.k
theorem zB2:let h:Int:=18446744073709551616;let j:Int:=7435674573564081700;let g:=(q*j) % h;let l:Int:=0;let m:Int:=2;let n:=0<=(1:Int);let o:Int:=6;let p:=A6 0 g r2 l;let k:=Prod.fst p;let r:=A6 0 k cy l;B1 [((decide (m<o))=true),(0<=m),(m<o),(0<=q),(q<h),(0<=j),(j<h),(0<=m),(m<(10:Int)),(0<=g),(0<=r2),(r2<h),(0<=l),n,(0<=k),(0<=cy),(cy<h),(0<=l),n,n,((1:Int)<(10:Int))]->Sg Tryz.prog (zT2 o0 o1 o2 o3 o4 o5 a b c d e f y0 y1 y2 y3 y4 y5 i q cy r0 r1 r2 r3 r4 r5 r6 r7) (B0 176 [0,1,2,3,4,10,11,14,20,23,29,30] [(.ci (.slc 0 0 6 1)),(.ci (.sl (.u64 [a,b,c,d,e,f]))),(.ci (.sl (.u64 [y0,y1,y2,y3,y4,y5]))),(.ci (.sl (.u64 [(13402431016077863595:Int),(2210141511517208575:Int),j,(7239337960414712511:Int),(5412103778470702295:Int),(1873798617647539866:Int)]))),.iu (9940570264628428797:Int),.ii o,.pt 64 0,(.iu (wrap .u64 ((wrap .u64 (((q*j) / h)+(Prod.snd p)))+(Prod.snd r)))),.iu q,.ii m,.ii o,(.ii (i:Int))] [0,64] [(eF_ [(.int .u64 o0),(.int .u64 o1),(.int .u64 o2),(.int .u64 o3),(.int .u64 o4),(.int .u64 o5)]),(eF_ [(.int .u64 r0),(.int .u64 (Prod.fst r)),(.int .u64 r2),(.int .u64 r3),(.int .u64 r4),(.int .u64 r5),(.int .u64 r6),(.int .u64 r7),(.int .u64 l),(.int .u64 l)])] 6944 [] []) .normal (D9g) (D9f):=sgA true 74 [true] R9
def zT3 (o0 o1 o2 o3 o4 o5 a b c d e f y0 y1 y2 y3 y4 y5 :Int) (i:Nat) (q cy r0 r1 r2 r3 r4 r5 r6 r7 :Int):St:=B0 176 [0,1,2,3,4,10,11,14,20,23,29,30] [(.ci (.slc 0 0 6 1)),(.ci (.sl (.u64 [a,b,c,d,e,f]))),(.ci (.sl (.u64 [y0,y1,y2,y3,y4,y5]))),(.ci (.sl (.u64 [(13402431016077863595:Int),(2210141511517208575:Int),(7435674573564081700:Int),(7239337960414712511:Int),(5412103778470702295:Int),(1873798617647539866:Int)]))),.iu (9940570264628428797:Int),.ii (6:Int),.pt 64 0,.v (.c (.int .u64 cy)),.v (.c (.int .u64 q)),.ii (2:Int),.ii (6:Int),(.ii (i:Int))] [0,64] [(eF_ [(.int .u64 o0),(.int .u64 o1),(.int .u64 o2),(.int .u64 o3),(.int .u64 o4),(.int .u64 o5)]),some (.fl [.int .u64 r0,.int .u64 r1,.int .u64 r2,.int .u64 r3,.int .u64 r4,.int .u64 r5,.int .u64 r6,.int .u64 r7,.int .u64 0,.int .u64 0])] 6944 [] []
def D9h:List KI:=(run qeD true 74 (⟨D9g,.normal,zT3 dF dF dF dF dF dF dF dF dF dF dF dF dF dF dF dF dF dF dF dF dF dF dF dF dF dF dF dF dF⟩:Cfg) [true]).cfg.k
theorem zB3:let h:Int:=18446744073709551616;let j:Int:=7239337960414712511;let g:=(q*j) % h;let l:Int:=0;let m:Int:=3;let n:Int:=6;let o:=A6 0 g r3 l;let k:=Prod.fst o;let p:=A6 0 k cy l;B1 [((decide (m<n))=true),(0<=m),(m<n),(0<=q),(q<h),(0<=j),(j<h),(0<=m),(m<(10:Int)),(0<=g),(0<=r3),(r3<h),(0<=l),(0<=(1:Int)),(0<=k),(0<=cy),(cy<h),(0<=l),(0<=(1:Int)),(0<=(2:Int)),((2:Int)<(10:Int))]->Sg Tryz.prog (zT3 o0 o1 o2 o3 o4 o5 a b c d e f y0 y1 y2 y3 y4 y5 i q cy r0 r1 r2 r3 r4 r5 r6 r7) (B0 176 [0,1,2,3,4,10,11,14,20,23,29,30] [(.ci (.slc 0 0 6 1)),(.ci (.sl (.u64 [a,b,c,d,e,f]))),(.ci (.sl (.u64 [y0,y1,y2,y3,y4,y5]))),(.ci (.sl (.u64 [(13402431016077863595:Int),(2210141511517208575:Int),(7435674573564081700:Int),j,(5412103778470702295:Int),(1873798617647539866:Int)]))),.iu (9940570264628428797:Int),.ii n,.pt 64 0,(.iu (wrap .u64 ((wrap .u64 (((q*j) / h)+(Prod.snd o)))+(Prod.snd p)))),.iu q,.ii m,.ii n,(.ii (i:Int))] [0,64] [(eF_ [(.int .u64 o0),(.int .u64 o1),(.int .u64 o2),(.int .u64 o3),(.int .u64 o4),(.int .u64 o5)]),(eF_ [(.int .u64 r0),(.int .u64 r1),(.int .u64 (Prod.fst p)),(.int .u64 r3),(.int .u64 r4),(.int .u64 r5),(.int .u64 r6),(.int .u64 r7),(.int .u64 l),(.int .u64 l)])] 7712 [] []) .normal (D9h) (D9g):=sgA true 74 [true] R9
def zT4 (o0 o1 o2 o3 o4 o5 a b c d e f y0 y1 y2 y3 y4 y5 :Int) (i:Nat) (q cy r0 r1 r2 r3 r4 r5 r6 r7 :Int):St:=B0 176 [0,1,2,3,4,10,11,14,20,23,29,30] [(.ci (.slc 0 0 6 1)),(.ci (.sl (.u64 [a,b,c,d,e,f]))),(.ci (.sl (.u64 [y0,y1,y2,y3,y4,y5]))),(.ci (.sl (.u64 [(13402431016077863595:Int),(2210141511517208575:Int),(7435674573564081700:Int),(7239337960414712511:Int),(5412103778470702295:Int),(1873798617647539866:Int)]))),.iu (9940570264628428797:Int),.ii (6:Int),.pt 64 0,.v (.c (.int .u64 cy)),.v (.c (.int .u64 q)),.ii (3:Int),.ii (6:Int),(.ii (i:Int))] [0,64] [(eF_ [(.int .u64 o0),(.int .u64 o1),(.int .u64 o2),(.int .u64 o3),(.int .u64 o4),(.int .u64 o5)]),some (.fl [.int .u64 r0,.int .u64 r1,.int .u64 r2,.int .u64 r3,.int .u64 r4,.int .u64 r5,.int .u64 r6,.int .u64 r7,.int .u64 0,.int .u64 0])] 7712 [] []
def D9i:List KI:=(run qeD true 74 (⟨D9h,.normal,zT4 dF dF dF dF dF dF dF dF dF dF dF dF dF dF dF dF dF dF dF dF dF dF dF dF dF dF dF dF dF⟩:Cfg) [true]).cfg.k
theorem zB4:let h:Int:=18446744073709551616;let j:Int:=5412103778470702295;let g:=(q*j) % h;let l:Int:=0;let m:Int:=4;let n:Int:=6;let o:=A6 0 g r4 l;let k:=Prod.fst o;let p:=A6 0 k cy l;B1 [((decide (m<n))=true),(0<=m),(m<n),(0<=q),(q<h),(0<=j),(j<h),(0<=m),(m<(10:Int)),(0<=g),(0<=r4),(r4<h),(0<=l),(0<=(1:Int)),(0<=k),(0<=cy),(cy<h),(0<=l),(0<=(1:Int)),(0<=(3:Int)),((3:Int)<(10:Int))]->Sg Tryz.prog (zT4 o0 o1 o2 o3 o4 o5 a b c d e f y0 y1 y2 y3 y4 y5 i q cy r0 r1 r2 r3 r4 r5 r6 r7) (B0 176 [0,1,2,3,4,10,11,14,20,23,29,30] [(.ci (.slc 0 0 6 1)),(.ci (.sl (.u64 [a,b,c,d,e,f]))),(.ci (.sl (.u64 [y0,y1,y2,y3,y4,y5]))),(.ci (.sl (.u64 [(13402431016077863595:Int),(2210141511517208575:Int),(7435674573564081700:Int),(7239337960414712511:Int),j,(1873798617647539866:Int)]))),.iu (9940570264628428797:Int),.ii n,.pt 64 0,(.iu (wrap .u64 ((wrap .u64 (((q*j) / h)+(Prod.snd o)))+(Prod.snd p)))),.iu q,.ii m,.ii n,(.ii (i:Int))] [0,64] [(eF_ [(.int .u64 o0),(.int .u64 o1),(.int .u64 o2),(.int .u64 o3),(.int .u64 o4),(.int .u64 o5)]),(eF_ [(.int .u64 r0),(.int .u64 r1),(.int .u64 r2),(.int .u64 (Prod.fst p)),(.int .u64 r4),(.int .u64 r5),(.int .u64 r6),(.int .u64 r7),(.int .u64 l),(.int .u64 l)])] 8480 [] []) .normal (D9i) (D9h):=sgA true 74 [true] R9
def zT5 (o0 o1 o2 o3 o4 o5 a b c d e f y0 y1 y2 y3 y4 y5 :Int) (i:Nat) (q cy r0 r1 r2 r3 r4 r5 r6 r7 :Int):St:=B0 176 [0,1,2,3,4,10,11,14,20,23,29,30] [(.ci (.slc 0 0 6 1)),(.ci (.sl (.u64 [a,b,c,d,e,f]))),(.ci (.sl (.u64 [y0,y1,y2,y3,y4,y5]))),(.ci (.sl (.u64 [(13402431016077863595:Int),(2210141511517208575:Int),(7435674573564081700:Int),(7239337960414712511:Int),(5412103778470702295:Int),(1873798617647539866:Int)]))),.iu (9940570264628428797:Int),.ii (6:Int),.pt 64 0,.v (.c (.int .u64 cy)),.v (.c (.int .u64 q)),.ii (4:Int),.ii (6:Int),(.ii (i:Int))] [0,64] [(eF_ [(.int .u64 o0),(.int .u64 o1),(.int .u64 o2),(.int .u64 o3),(.int .u64 o4),(.int .u64 o5)]),some (.fl [.int .u64 r0,.int .u64 r1,.int .u64 r2,.int .u64 r3,.int .u64 r4,.int .u64 r5,.int .u64 r6,.int .u64 r7,.int .u64 0,.int .u64 0])] 8480 [] []
def E7o:List KI:=(run qeD true 74 (⟨D9i,.normal,zT5 dF dF dF dF dF dF dF dF dF dF dF dF dF dF dF dF dF dF dF dF dF dF dF dF dF dF dF dF dF⟩:Cfg) [true]).cfg.k
theorem zB5:let h:Int:=18446744073709551616;let j:Int:=1873798617647539866;let g:=(q*j) % h;let l:Int:=0;let m:Int:=5;let n:Int:=6;let o:=A6 0 g r5 l;let k:=Prod.fst o;let p:=A6 0 k cy l;B1 [((decide (m<n))=true),(0<=m),(m<n),(0<=q),(q<h),(0<=j),(j<h),(0<=m),(m<(10:Int)),(0<=g),(0<=r5),(r5<h),(0<=l),(0<=(1:Int)),(0<=k),(0<=cy),(cy<h),(0<=l),(0<=(1:Int)),(0<=(4:Int)),((4:Int)<(10:Int))]->Sg Tryz.prog (zT5 o0 o1 o2 o3 o4 o5 a b c d e f y0 y1 y2 y3 y4 y5 i q cy r0 r1 r2 r3 r4 r5 r6 r7) (B0 176 [0,1,2,3,4,10,11,14,20,23,29,30] [(.ci (.slc 0 0 6 1)),(.ci (.sl (.u64 [a,b,c,d,e,f]))),(.ci (.sl (.u64 [y0,y1,y2,y3,y4,y5]))),(.ci (.sl (.u64 [(13402431016077863595:Int),(2210141511517208575:Int),(7435674573564081700:Int),(7239337960414712511:Int),(5412103778470702295:Int),j]))),.iu (9940570264628428797:Int),.ii n,.pt 64 0,(.iu (wrap .u64 ((wrap .u64 (((q*j) / h)+(Prod.snd o)))+(Prod.snd p)))),.iu q,.ii m,.ii n,(.ii (i:Int))] [0,64] [(eF_ [(.int .u64 o0),(.int .u64 o1),(.int .u64 o2),(.int .u64 o3),(.int .u64 o4),(.int .u64 o5)]),(eF_ [(.int .u64 r0),(.int .u64 r1),(.int .u64 r2),(.int .u64 r3),(.int .u64 (Prod.fst p)),(.int .u64 r5),(.int .u64 r6),(.int .u64 r7),(.int .u64 l),(.int .u64 l)])] 9248 [] []) .normal (E7o) (D9i):=sgA true 74 [true] R9
def zT6 (o0 o1 o2 o3 o4 o5 a b c d e f y0 y1 y2 y3 y4 y5 :Int) (i:Nat) (q cy r0 r1 r2 r3 r4 r5 r6 r7 :Int):St:=B0 176 [0,1,2,3,4,10,11,14,20,23,29,30] [(.ci (.slc 0 0 6 1)),(.ci (.sl (.u64 [a,b,c,d,e,f]))),(.ci (.sl (.u64 [y0,y1,y2,y3,y4,y5]))),(.ci (.sl (.u64 [(13402431016077863595:Int),(2210141511517208575:Int),(7435674573564081700:Int),(7239337960414712511:Int),(5412103778470702295:Int),(1873798617647539866:Int)]))),.iu (9940570264628428797:Int),.ii (6:Int),.pt 64 0,.v (.c (.int .u64 cy)),.v (.c (.int .u64 q)),.ii (5:Int),.ii (6:Int),(.ii (i:Int))] [0,64] [(eF_ [(.int .u64 o0),(.int .u64 o1),(.int .u64 o2),(.int .u64 o3),(.int .u64 o4),(.int .u64 o5)]),some (.fl [.int .u64 r0,.int .u64 r1,.int .u64 r2,.int .u64 r3,.int .u64 r4,.int .u64 r5,.int .u64 r6,.int .u64 r7,.int .u64 0,.int .u64 0])] 9248 [] []
theorem zI:let g:Int:=6;let h:Int:=0;let j:Int:=10;let k:=A6 0 r6 cy h;B1 [((decide (g<g))=false),(0<=g),(g<j),(0<=r6),(0<=cy),(cy<(18446744073709551616:Int)),(0<=h),(0<=(1:Int)),(0<=(5:Int)),((5:Int)<j),(0<=(7:Int)),((7:Int)<j),(0<=g),(g<j)]->Sg Tryz.prog (zT6 o0 o1 o2 o3 o4 o5 a b c d e f y0 y1 y2 y3 y4 y5 i q cy r0 r1 r2 r3 r4 r5 r6 r7) (B0 176 [0,1,2,3,4,10,11,29,30] [(.ci (.slc 0 0 6 1)),(.ci (.sl (.u64 [a,b,c,d,e,f]))),(.ci (.sl (.u64 [y0,y1,y2,y3,y4,y5]))),(.ci (.sl (.u64 [(13402431016077863595:Int),(2210141511517208575:Int),(7435674573564081700:Int),(7239337960414712511:Int),(5412103778470702295:Int),(1873798617647539866:Int)]))),.iu (9940570264628428797:Int),.ii g,.pt 64 0,.ii g,(.ii (wrap .i64 ((i:Int)+1)))] [0,64] [(eF_ [(.int .u64 o0),(.int .u64 o1),(.int .u64 o2),(.int .u64 o3),(.int .u64 o4),(.int .u64 o5)]),(eF_ [(.int .u64 r0),(.int .u64 r1),(.int .u64 r2),(.int .u64 r3),(.int .u64 r4),(.int .u64 (Prod.fst k)),(.int .u64 (wrap .u64 (r7+(Prod.snd k)))),(.int .u64 r7),(.int .u64 h),(.int .u64 h)])] 9728 [] []) .normal (M7 B3x) (E7o):=sgA true 50 [false] R9
end
end
end

section

section
variable {w0:World} {F0:Nat->Prop} {K:Kp} {ac:List Act} {Q:Exit->Act->World->Prop} {cX:Ctx} {aX:Act}

theorem J0n (o0 o1 o2 o3 o4 o5 a b c d e f y0 y1 y2 y3 y4 y5:Int) (i:Nat) {r0 r1 r2 r3 r4 r5 r6 r7 x:Int} (hi:i<6) (he:List.getD [a,b,c,d,e,f] i 0=x) (hx:B7 x) (hy:B7 y0) (hr:B7 r0) (hs:Sim w0 F0 K ac (zS o0 o1 o2 o3 o4 o5 a b c d e f y0 y1 y2 y3 y4 y5 i r0 r1 r2 r3 r4 r5 r6 r7) cX aX)
  (k:∀n cy' : Int,x*y0+r0+0=n+18446744073709551616*cy' -> B7 n->B7 cy' -> ∀ac cY aY,Sim w0 F0 K ac (zS1 o0 o1 o2 o3 o4 o5 a b c d e f y0 y1 y2 y3 y4 y5 i x cy' n r1 r2 r3 r4 r5 r6 r7) cY aY->Wq Tryz.prog Q D8z ac .normal aY cY.w):Wq Tryz.prog Q (E8 B3x) ac .normal aX cX.w:=by
 obtain ⟨x0,x1⟩:=hx;obtain ⟨yy0,yy1⟩:=hy;obtain ⟨rr0,rr1⟩:=hr;have ee:=mac x0 x1 yy0 yy1 rr0 rr1 (u:=0) (by decide) (by decide)
 have sA:=@zA0 o0 o1 o2 o3 o4 o5 a b c d e f y0 y1 y2 y3 y4 y5 i r0 r1 r2 r3 r4 r5 r6 r7 w0 F0 K ac Q cX aX;rw[Int.toNat_natCast,he] at sA;obtain ⟨e1,l1,u1,m1⟩:=ee;refine sA ?_ hs fun ac cY aY h=>k _ _ e1 l1 u1 ac cY aY h
 simp only[B1,and_true,decide_eq_true_eq];omega

theorem J0o (o0 o1 o2 o3 o4 o5 a b c d e f y0 y1 y2 y3 y4 y5:Int) (i:Nat) {x cy r0 r1 r2 r3 r4 r5 r6 r7:Int} (hx:B7 x) (hy:B7 y1) (hr:B7 r1) (hc:B7 cy) (hs:Sim w0 F0 K ac (zS1 o0 o1 o2 o3 o4 o5 a b c d e f y0 y1 y2 y3 y4 y5 i x cy r0 r1 r2 r3 r4 r5 r6 r7) cX aX)
  (k:∀n cy' : Int,x*y1+r1+cy=n+18446744073709551616*cy' -> B7 n->B7 cy' -> ∀ac cY aY,Sim w0 F0 K ac (zS2 o0 o1 o2 o3 o4 o5 a b c d e f y0 y1 y2 y3 y4 y5 i x cy' r0 n r2 r3 r4 r5 r6 r7) cY aY->Wq Tryz.prog Q D9a ac .normal aY cY.w):Wq Tryz.prog Q (D8z) ac .normal aX cX.w:=by
 obtain ⟨x0,x1⟩:=hx;obtain ⟨yy0,yy1⟩:=hy;obtain ⟨rr0,rr1⟩:=hr;obtain ⟨cc0,cc1⟩:=hc;obtain ⟨e1,l1,u1,m1⟩:=mac x0 x1 yy0 yy1 rr0 rr1 cc0 cc1;refine zA1 o0 o1 o2 o3 o4 o5 a b c d e f y0 y1 y2 y3 y4 y5 i x cy r0 r1 r2 r3 r4 r5 r6 r7 ?_ hs fun ac cY aY h=>k _ _ e1 l1 u1 ac cY aY h
 simp only[B1,and_true,decide_eq_true_eq];omega

theorem J0p (o0 o1 o2 o3 o4 o5 a b c d e f y0 y1 y2 y3 y4 y5:Int) (i:Nat) {x cy r0 r1 r2 r3 r4 r5 r6 r7:Int} (hx:B7 x) (hy:B7 y2) (hr:B7 r2) (hc:B7 cy) (hs:Sim w0 F0 K ac (zS2 o0 o1 o2 o3 o4 o5 a b c d e f y0 y1 y2 y3 y4 y5 i x cy r0 r1 r2 r3 r4 r5 r6 r7) cX aX)
  (k:∀n cy' : Int,x*y2+r2+cy=n+18446744073709551616*cy' -> B7 n->B7 cy' -> ∀ac cY aY,Sim w0 F0 K ac (zS3 o0 o1 o2 o3 o4 o5 a b c d e f y0 y1 y2 y3 y4 y5 i x cy' r0 r1 n r3 r4 r5 r6 r7) cY aY->Wq Tryz.prog Q D9b ac .normal aY cY.w):Wq Tryz.prog Q (D9a) ac .normal aX cX.w:=by
 obtain ⟨x0,x1⟩:=hx;obtain ⟨yy0,yy1⟩:=hy;obtain ⟨rr0,rr1⟩:=hr;obtain ⟨cc0,cc1⟩:=hc;obtain ⟨e1,l1,u1,m1⟩:=mac x0 x1 yy0 yy1 rr0 rr1 cc0 cc1;refine zA2 o0 o1 o2 o3 o4 o5 a b c d e f y0 y1 y2 y3 y4 y5 i x cy r0 r1 r2 r3 r4 r5 r6 r7 ?_ hs fun ac cY aY h=>k _ _ e1 l1 u1 ac cY aY h
 simp only[B1,and_true,decide_eq_true_eq];omega

theorem J0q (o0 o1 o2 o3 o4 o5 a b c d e f y0 y1 y2 y3 y4 y5:Int) (i:Nat) {x cy r0 r1 r2 r3 r4 r5 r6 r7:Int} (hx:B7 x) (hy:B7 y3) (hr:B7 r3) (hc:B7 cy) (hs:Sim w0 F0 K ac (zS3 o0 o1 o2 o3 o4 o5 a b c d e f y0 y1 y2 y3 y4 y5 i x cy r0 r1 r2 r3 r4 r5 r6 r7) cX aX)
  (k:∀n cy' : Int,x*y3+r3+cy=n+18446744073709551616*cy' -> B7 n->B7 cy' -> ∀ac cY aY,Sim w0 F0 K ac (zS4 o0 o1 o2 o3 o4 o5 a b c d e f y0 y1 y2 y3 y4 y5 i x cy' r0 r1 r2 n r4 r5 r6 r7) cY aY->Wq Tryz.prog Q D9c ac .normal aY cY.w):Wq Tryz.prog Q (D9b) ac .normal aX cX.w:=by
 obtain ⟨x0,x1⟩:=hx;obtain ⟨yy0,yy1⟩:=hy;obtain ⟨rr0,rr1⟩:=hr;obtain ⟨cc0,cc1⟩:=hc;obtain ⟨e1,l1,u1,m1⟩:=mac x0 x1 yy0 yy1 rr0 rr1 cc0 cc1;refine zA3 o0 o1 o2 o3 o4 o5 a b c d e f y0 y1 y2 y3 y4 y5 i x cy r0 r1 r2 r3 r4 r5 r6 r7 ?_ hs fun ac cY aY h=>k _ _ e1 l1 u1 ac cY aY h
 simp only[B1,and_true,decide_eq_true_eq];omega

theorem J0r (o0 o1 o2 o3 o4 o5 a b c d e f y0 y1 y2 y3 y4 y5:Int) (i:Nat) {x cy r0 r1 r2 r3 r4 r5 r6 r7:Int} (hx:B7 x) (hy:B7 y4) (hr:B7 r4) (hc:B7 cy) (hs:Sim w0 F0 K ac (zS4 o0 o1 o2 o3 o4 o5 a b c d e f y0 y1 y2 y3 y4 y5 i x cy r0 r1 r2 r3 r4 r5 r6 r7) cX aX)
  (k:∀n cy' : Int,x*y4+r4+cy=n+18446744073709551616*cy' -> B7 n->B7 cy' -> ∀ac cY aY,Sim w0 F0 K ac (zS5 o0 o1 o2 o3 o4 o5 a b c d e f y0 y1 y2 y3 y4 y5 i x cy' r0 r1 r2 r3 n r5 r6 r7) cY aY->Wq Tryz.prog Q D9d ac .normal aY cY.w):Wq Tryz.prog Q (D9c) ac .normal aX cX.w:=by
 obtain ⟨x0,x1⟩:=hx;obtain ⟨yy0,yy1⟩:=hy;obtain ⟨rr0,rr1⟩:=hr;obtain ⟨cc0,cc1⟩:=hc;obtain ⟨e1,l1,u1,m1⟩:=mac x0 x1 yy0 yy1 rr0 rr1 cc0 cc1;refine zA4 o0 o1 o2 o3 o4 o5 a b c d e f y0 y1 y2 y3 y4 y5 i x cy r0 r1 r2 r3 r4 r5 r6 r7 ?_ hs fun ac cY aY h=>k _ _ e1 l1 u1 ac cY aY h
 simp only[B1,and_true,decide_eq_true_eq];omega

theorem J0s (o0 o1 o2 o3 o4 o5 a b c d e f y0 y1 y2 y3 y4 y5:Int) (i:Nat) {x cy r0 r1 r2 r3 r4 r5 r6 r7:Int} (hx:B7 x) (hy:B7 y5) (hr:B7 r5) (hc:B7 cy) (hs:Sim w0 F0 K ac (zS5 o0 o1 o2 o3 o4 o5 a b c d e f y0 y1 y2 y3 y4 y5 i x cy r0 r1 r2 r3 r4 r5 r6 r7) cX aX)
  (k:∀n cy' : Int,x*y5+r5+cy=n+18446744073709551616*cy' -> B7 n->B7 cy' -> ∀ac cY aY,Sim w0 F0 K ac (zS6 o0 o1 o2 o3 o4 o5 a b c d e f y0 y1 y2 y3 y4 y5 i x cy' r0 r1 r2 r3 r4 n r6 r7) cY aY->Wq Tryz.prog Q D9e ac .normal aY cY.w):Wq Tryz.prog Q (D9d) ac .normal aX cX.w:=by
 obtain ⟨x0,x1⟩:=hx;obtain ⟨yy0,yy1⟩:=hy;obtain ⟨rr0,rr1⟩:=hr;obtain ⟨cc0,cc1⟩:=hc;obtain ⟨e1,l1,u1,m1⟩:=mac x0 x1 yy0 yy1 rr0 rr1 cc0 cc1;refine zA5 o0 o1 o2 o3 o4 o5 a b c d e f y0 y1 y2 y3 y4 y5 i x cy r0 r1 r2 r3 r4 r5 r6 r7 ?_ hs fun ac cY aY h=>k _ _ e1 l1 u1 ac cY aY h
 simp only[B1,and_true,decide_eq_true_eq];omega

theorem sQE (o0 o1 o2 o3 o4 o5 a b c d e f y0 y1 y2 y3 y4 y5:Int) (i:Nat) {x cy r0 r1 r2 r3 r4 r5 r6 r7:Int} (hr0:B7 r0) (hr6:B7 r6) (hc:B7 cy) (hs:Sim w0 F0 K ac (zS6 o0 o1 o2 o3 o4 o5 a b c d e f y0 y1 y2 y3 y4 y5 i x cy r0 r1 r2 r3 r4 r5 r6 r7) cX aX)
  (k:∀q cy' n6 n7:Int,r6+cy+0=n6+18446744073709551616*n7->q*13402431016077863595+r0=18446744073709551616*cy' -> B7 n6->0<=n7->n7<=1->B7 q->B7 cy' -> ∀ac cY aY,Sim w0 F0 K ac (zT1 o0 o1 o2 o3 o4 o5 a b c d e f y0 y1 y2 y3 y4 y5 i q cy' r0 r1 r2 r3 r4 r5 n6 n7) cY aY->Wq Tryz.prog Q G4g ac .normal aY cY.w):Wq Tryz.prog Q D9e ac .normal aX cX.w:=by
 obtain ⟨rr0,rr1⟩:=hr0;obtain ⟨rr6,rr7⟩:=hr6;obtain ⟨cc0,cc1⟩:=hc;obtain ⟨e1,p1,p1',q1,q1'⟩:=F8 (c:=0) rr6 rr7 cc0 cc1 (by decide) (by decide)
 have hq:=B6k (r0*9940570264628428797);have e2:=E9p (b:=13402431016077863595) hq.1 hq.2 (by decide) (by decide) rr0 rr1
 have e3:=D6t (l:=r0) rfl;obtain ⟨hq0,hq1⟩:=hq;obtain ⟨e2,⟨f1,f2⟩,f3⟩:=e2;refine zE o0 o1 o2 o3 o4 o5 a b c d e f y0 y1 y2 y3 y4 y5 i x cy r0 r1 r2 r3 r4 r5 r6 r7 ?_ hs fun ac cY aY h=>k _ _ _ _ e1 ?_ ⟨p1,p1'⟩ q1 q1' ⟨hq0,hq1⟩ f3 ac cY aY h
 ·simp only[B1,and_true,decide_eq_false_iff_not]
  omega
 ·omega

theorem J0t (o0 o1 o2 o3 o4 o5 a b c d e f y0 y1 y2 y3 y4 y5:Int) (i:Nat) {q cy r0 r1 r2 r3 r4 r5 r6 r7:Int} (hq:B7 q) (hr:B7 r1) (hc:B7 cy) (hs:Sim w0 F0 K ac (zT1 o0 o1 o2 o3 o4 o5 a b c d e f y0 y1 y2 y3 y4 y5 i q cy r0 r1 r2 r3 r4 r5 r6 r7) cX aX)
  (k:∀n cy' : Int,q*2210141511517208575+r1+cy=n+18446744073709551616*cy' -> B7 n->B7 cy' -> ∀ac cY aY,Sim w0 F0 K ac (zT2 o0 o1 o2 o3 o4 o5 a b c d e f y0 y1 y2 y3 y4 y5 i q cy' n r1 r2 r3 r4 r5 r6 r7) cY aY->Wq Tryz.prog Q D9f ac .normal aY cY.w):Wq Tryz.prog Q G4g ac .normal aX cX.w:=by
 obtain ⟨x0,x1⟩:=hq;obtain ⟨rr0,rr1⟩:=hr;obtain ⟨cc0,cc1⟩:=hc;obtain ⟨e1,l1,u1,m1⟩:=mac (b:=2210141511517208575) x0 x1 (by decide) (by decide) rr0 rr1 cc0 cc1
 refine zB1 o0 o1 o2 o3 o4 o5 a b c d e f y0 y1 y2 y3 y4 y5 i q cy r0 r1 r2 r3 r4 r5 r6 r7 ?_ hs fun ac cY aY h=>k _ _ e1 l1 u1 ac cY aY h
 simp only[B1,and_true,decide_eq_true_eq];omega

theorem J0u (o0 o1 o2 o3 o4 o5 a b c d e f y0 y1 y2 y3 y4 y5:Int) (i:Nat) {q cy r0 r1 r2 r3 r4 r5 r6 r7:Int} (hq:B7 q) (hr:B7 r2) (hc:B7 cy) (hs:Sim w0 F0 K ac (zT2 o0 o1 o2 o3 o4 o5 a b c d e f y0 y1 y2 y3 y4 y5 i q cy r0 r1 r2 r3 r4 r5 r6 r7) cX aX)
  (k:∀n cy' : Int,q*7435674573564081700+r2+cy=n+18446744073709551616*cy' -> B7 n->B7 cy' -> ∀ac cY aY,Sim w0 F0 K ac (zT3 o0 o1 o2 o3 o4 o5 a b c d e f y0 y1 y2 y3 y4 y5 i q cy' r0 n r2 r3 r4 r5 r6 r7) cY aY->Wq Tryz.prog Q D9g ac .normal aY cY.w):Wq Tryz.prog Q D9f ac .normal aX cX.w:=by
 obtain ⟨x0,x1⟩:=hq;obtain ⟨rr0,rr1⟩:=hr;obtain ⟨cc0,cc1⟩:=hc;obtain ⟨e1,l1,u1,m1⟩:=mac (b:=7435674573564081700) x0 x1 (by decide) (by decide) rr0 rr1 cc0 cc1
 refine zB2 o0 o1 o2 o3 o4 o5 a b c d e f y0 y1 y2 y3 y4 y5 i q cy r0 r1 r2 r3 r4 r5 r6 r7 ?_ hs fun ac cY aY h=>k _ _ e1 l1 u1 ac cY aY h
 simp only[B1,and_true,decide_eq_true_eq];omega

theorem J0v (o0 o1 o2 o3 o4 o5 a b c d e f y0 y1 y2 y3 y4 y5:Int) (i:Nat) {q cy r0 r1 r2 r3 r4 r5 r6 r7:Int} (hq:B7 q) (hr:B7 r3) (hc:B7 cy) (hs:Sim w0 F0 K ac (zT3 o0 o1 o2 o3 o4 o5 a b c d e f y0 y1 y2 y3 y4 y5 i q cy r0 r1 r2 r3 r4 r5 r6 r7) cX aX)
  (k:∀n cy' : Int,q*7239337960414712511+r3+cy=n+18446744073709551616*cy' -> B7 n->B7 cy' -> ∀ac cY aY,Sim w0 F0 K ac (zT4 o0 o1 o2 o3 o4 o5 a b c d e f y0 y1 y2 y3 y4 y5 i q cy' r0 r1 n r3 r4 r5 r6 r7) cY aY->Wq Tryz.prog Q D9h ac .normal aY cY.w):Wq Tryz.prog Q D9g ac .normal aX cX.w:=by
 obtain ⟨x0,x1⟩:=hq;obtain ⟨rr0,rr1⟩:=hr;obtain ⟨cc0,cc1⟩:=hc;obtain ⟨e1,l1,u1,m1⟩:=mac (b:=7239337960414712511) x0 x1 (by decide) (by decide) rr0 rr1 cc0 cc1
 refine zB3 o0 o1 o2 o3 o4 o5 a b c d e f y0 y1 y2 y3 y4 y5 i q cy r0 r1 r2 r3 r4 r5 r6 r7 ?_ hs fun ac cY aY h=>k _ _ e1 l1 u1 ac cY aY h
 simp only[B1,and_true,decide_eq_true_eq];omega

theorem J0w (o0 o1 o2 o3 o4 o5 a b c d e f y0 y1 y2 y3 y4 y5:Int) (i:Nat) {q cy r0 r1 r2 r3 r4 r5 r6 r7:Int} (hq:B7 q) (hr:B7 r4) (hc:B7 cy) (hs:Sim w0 F0 K ac (zT4 o0 o1 o2 o3 o4 o5 a b c d e f y0 y1 y2 y3 y4 y5 i q cy r0 r1 r2 r3 r4 r5 r6 r7) cX aX)
  (k:∀n cy' : Int,q*5412103778470702295+r4+cy=n+18446744073709551616*cy' -> B7 n->B7 cy' -> ∀ac cY aY,Sim w0 F0 K ac (zT5 o0 o1 o2 o3 o4 o5 a b c d e f y0 y1 y2 y3 y4 y5 i q cy' r0 r1 r2 n r4 r5 r6 r7) cY aY->Wq Tryz.prog Q D9i ac .normal aY cY.w):Wq Tryz.prog Q D9h ac .normal aX cX.w:=by
 obtain ⟨x0,x1⟩:=hq;obtain ⟨rr0,rr1⟩:=hr;obtain ⟨cc0,cc1⟩:=hc;obtain ⟨e1,l1,u1,m1⟩:=mac (b:=5412103778470702295) x0 x1 (by decide) (by decide) rr0 rr1 cc0 cc1
 refine zB4 o0 o1 o2 o3 o4 o5 a b c d e f y0 y1 y2 y3 y4 y5 i q cy r0 r1 r2 r3 r4 r5 r6 r7 ?_ hs fun ac cY aY h=>k _ _ e1 l1 u1 ac cY aY h
 simp only[B1,and_true,decide_eq_true_eq];omega

theorem J0x (o0 o1 o2 o3 o4 o5 a b c d e f y0 y1 y2 y3 y4 y5:Int) (i:Nat) {q cy r0 r1 r2 r3 r4 r5 r6 r7:Int} (hq:B7 q) (hr:B7 r5) (hc:B7 cy) (hs:Sim w0 F0 K ac (zT5 o0 o1 o2 o3 o4 o5 a b c d e f y0 y1 y2 y3 y4 y5 i q cy r0 r1 r2 r3 r4 r5 r6 r7) cX aX)
  (k:∀n cy' : Int,q*1873798617647539866+r5+cy=n+18446744073709551616*cy' -> B7 n->B7 cy' -> ∀ac cY aY,Sim w0 F0 K ac (zT6 o0 o1 o2 o3 o4 o5 a b c d e f y0 y1 y2 y3 y4 y5 i q cy' r0 r1 r2 r3 n r5 r6 r7) cY aY->Wq Tryz.prog Q E7o ac .normal aY cY.w):Wq Tryz.prog Q D9i ac .normal aX cX.w:=by
 obtain ⟨x0,x1⟩:=hq;obtain ⟨rr0,rr1⟩:=hr;obtain ⟨cc0,cc1⟩:=hc;obtain ⟨e1,l1,u1,m1⟩:=mac (b:=1873798617647539866) x0 x1 (by decide) (by decide) rr0 rr1 cc0 cc1
 refine zB5 o0 o1 o2 o3 o4 o5 a b c d e f y0 y1 y2 y3 y4 y5 i q cy r0 r1 r2 r3 r4 r5 r6 r7 ?_ hs fun ac cY aY h=>k _ _ e1 l1 u1 ac cY aY h
 simp only[B1,and_true,decide_eq_true_eq];omega

theorem sQI (o0 o1 o2 o3 o4 o5 a b c d e f y0 y1 y2 y3 y4 y5:Int) (i:Nat) {q cy r0 r1 r2 r3 r4 r5 r6 r7:Int} (hi:i<6) (hr6:B7 r6) (hc:B7 cy) (hs:Sim w0 F0 K ac (zT6 o0 o1 o2 o3 o4 o5 a b c d e f y0 y1 y2 y3 y4 y5 i q cy r0 r1 r2 r3 r4 r5 r6 r7) cX aX)
  (k:∀n5 c6:Int,r6+cy+0=n5+18446744073709551616*c6->B7 n5->0<=c6->c6<=1->∀ac cY aY,Sim w0 F0 K ac (zS o0 o1 o2 o3 o4 o5 a b c d e f y0 y1 y2 y3 y4 y5 (i+1) r0 r1 r2 r3 r4 n5 (wrap IntKind.u64 (r7+c6)) r7) cY aY->Wq Tryz.prog Q (M7 B3x) ac .normal aY cY.w):Wq Tryz.prog Q E7o ac .normal aX cX.w:=by
 obtain ⟨rr6,rr7⟩:=hr6;obtain ⟨cc0,cc1⟩:=hc;obtain ⟨e1,p1,p1',q1,q1'⟩:=F8 (c:=0) rr6 rr7 cc0 cc1 (by decide) (by decide)
 refine zI o0 o1 o2 o3 o4 o5 a b c d e f y0 y1 y2 y3 y4 y5 i q cy r0 r1 r2 r3 r4 r5 r6 r7 ?_ hs fun ac cY aY h=>k _ _ e1 ⟨p1,p1'⟩ q1 q1' ac cY aY (by rw[C0 (by omega) (by omega)] at h;exact h.nx _)
 simp only[B1,and_true,decide_eq_false_iff_not];omega

end

end

section

structure I7y (A Y i:Nat) (r0 r1 r2 r3 r4 r5 r6:Int):Prop where
 i6:i<=6
 h0:B7 r0
 h1:B7 r1
 h2:B7 r2
 h3:B7 r3
 h4:B7 r4
 h5:B7 r5
 h6:r6=0
 lt:G4 r0 r1 r2 r3 r4 r5<2*pN
 eq:∃Q:Nat,G4 r0 r1 r2 r3 r4 r5*((2 ^ (64*i):Nat):Int)=((A % 2 ^ (64*i):Nat):Int)*(Y:Int)+(Q:Int)*(pN:Int)

theorem G0j {r B v T X Q:Nat} (e:v*B % r=1 % r) (h:T*B=X+Q*r):T % r=X*v % r:=by
  have h2:∀a:Nat,a*(v*B) % r=a % r:=fun a=>by rw[<-Nat.mul_mod_mod,e,Nat.mul_mod_mod,Nat.mul_one]
  calc T % r=T*(v*B) % r:=(h2 _).symm
    _=(T*B)*v % r:=by congr 1;simp only[Nat.mul_comm,Nat.mul_left_comm]
    _=X*v % r:=by rw[h,Nat.add_mul,Nat.mul_assoc Q,Nat.mul_comm r,<-Nat.mul_assoc,Nat.add_mul_mod_self_right]

/-- A round of the product, all columns together. -/
theorem I0l {r0 r1 r2 r3 r4 r5 xi y0 y1 y2 y3 y4 y5 q a0 c0 d0 b0 a1 c1 d1 b1 a2 c2 d2 b2 a3 c3 d3 b3 a4 c4 d4 b4 a5 c5 d5 b5 n6 n7 c6:Int}
  (eA0:xi*y0+r0+0=a0+18446744073709551616*c0) (eA1:xi*y1+r1+c0=a1+18446744073709551616*c1) (eA2:xi*y2+r2+c1=a2+18446744073709551616*c2) (eA3:xi*y3+r3+c2=a3+18446744073709551616*c3) (eA4:xi*y4+r4+c3=a4+18446744073709551616*c4) (eA5:xi*y5+r5+c4=a5+18446744073709551616*c5)
  (eE:0+c5+0=n6+18446744073709551616*n7) (eQ:q*13402431016077863595+a0=18446744073709551616*d0) (eB1:q*2210141511517208575+a1+d0=b0+18446744073709551616*d1) (eB2:q*7435674573564081700+a2+d1=b1+18446744073709551616*d2) (eB3:q*7239337960414712511+a3+d2=b2+18446744073709551616*d3) (eB4:q*5412103778470702295+a4+d3=b3+18446744073709551616*d4) (eB5:q*1873798617647539866+a5+d4=b4+18446744073709551616*d5)
  (eI:n6+d5+0=b5+18446744073709551616*c6) :
  18446744073709551616*(G4 b0 b1 b2 b3 b4 b5+39402006196394479212279040100143613805079739270465446667948293404245721771497210611414266254884915640806627990306816*(n7+c6))=G4 r0 r1 r2 r3 r4 r5+xi*G4 y0 y1 y2 y3 y4 y5+q*(pN:Int):=by
 rw[D7c xi,A1v];have hq:q*4002409555221667393417789825735904156556882819939007885332058136124031650490837864442687629129015664037894272559787=q*13402431016077863595+18446744073709551616*(q*2210141511517208575)+340282366920938463463374607431768211456*(q*7435674573564081700)+6277101735386680763835789423207666416102355444464034512896*(q*7239337960414712511)+115792089237316195423570985008687907853269984665640564039457584007913129639936*(q*5412103778470702295)+2135987035920910082395021706169552114602704522356652769947041607822219725780640550022962086936576*(q*1873798617647539866):=by omega
 rw[hq];unfold G4;generalize xi*y0=z0 at *;generalize xi*y1=z1 at *;generalize xi*y2=z2 at *;generalize xi*y3=z3 at *;generalize xi*y4=z4 at *;generalize xi*y5=z5 at *;generalize q*13402431016077863595=p0 at *;generalize q*2210141511517208575=p1 at *;generalize q*7435674573564081700=p2 at *;generalize q*7239337960414712511=p3 at *;generalize q*5412103778470702295=p4 at *;generalize q*1873798617647539866=p5 at *;omega

theorem J1d {b0 b1 b2 b3 b4 b5 t:Int} (h0:B7 b0) (h1:B7 b1) (h2:B7 b2) (h3:B7 b3) (h4:B7 b4) (h5:B7 b5) (ht:0<=t) (h:G4 b0 b1 b2 b3 b4 b5+39402006196394479212279040100143613805079739270465446667948293404245721771497210611414266254884915640806627990306816*t<2*pN):t=0:=by
 rw[A1v] at h;obtain ⟨h0,_⟩:=h0;obtain ⟨h1,_⟩:=h1;obtain ⟨h2,_⟩:=h2;obtain ⟨h3,_⟩:=h3;obtain ⟨h4,_⟩:=h4;obtain ⟨h5,_⟩:=h5;unfold G4 at h;omega

theorem D7v (o0 o1 o2 o3 o4 o5:Int) (A Y:Nat) (hA:A<B6) (hY:Y<pN) :
  MuC Tryz.prog 89 0 6 1 (fl6 o0 o1 o2 o3 o4 o5) [u6s (A0 A 0) (A0 A 1) (A0 A 2) (A0 A 3) (A0 A 4) (A0 A 5),u6s (A0 Y 0) (A0 Y 1) (A0 Y 2) (A0 Y 3) (A0 Y 4) (A0 Y 5),mP,.v (.c (.int .u64 9940570264628428797))] (.fl [.ob (.fp (A3c (A*Y*pnv)))]):=by
 refine B2x (fn:=Tryz.f89) (c:=B9 Tryz.f89) Tryz.func89 rfl rfl fun x0 a0 hk hm hs=>?_
 have ey:=(A1t Y (Nat.lt_trans hY (by decide))).1
 have hyr:(Y:Int)<(pN:Int):=by exact_mod_cast hY
 have hin:=@zIn o0 o1 o2 o3 o4 o5 (A0 A 0) (A0 A 1) (A0 A 2) (A0 A 3) (A0 A 4) (A0 A 5) (A0 Y 0) (A0 Y 1) (A0 Y 2) (A0 Y 3) (A0 Y 4) (A0 Y 5);have hget:∀i,i<6->List.getD [A0 A 0,A0 A 1,A0 A 2,A0 A 3,A0 A 4,A0 A 5] i 0=A0 A i:=by
  intro i hi;have:i=0∨i=1∨i=2∨i=3∨i=4∨i=5:=by omega
  rcases this with rfl | rfl | rfl | rfl | rfl | rfl<;>rfl
 have hly0:=C9 Y 0;have hly1:=C9 Y 1;have hly2:=C9 Y 2;have hly3:=C9 Y 3;have hly4:=C9 Y 4;have hly5:=C9 Y 5;have hlxx:=fun i=>C9 A i
 have hT6:A % 2 ^ (64*6)=A:=Nat.mod_eq_of_lt (by rw[E6x];exact hA)
 generalize A0 A 0=a at *;generalize A0 A 1=b at *;generalize A0 A 2=c at *;generalize A0 A 3=d at *;generalize A0 A 4=e at *;generalize A0 A 5=f at *;generalize A0 Y 0=v0 at *;generalize A0 Y 1=v1 at *;generalize A0 Y 2=v2 at *;generalize A0 Y 3=v3 at *;generalize A0 Y 4=v4 at *;generalize A0 Y 5=v5 at *;refine hin trivial hs fun ac cY aY hs1=>?_
 refine E6 (ι:={ p:Nat×Int×Int×Int×Int×Int×Int×Int×Int // I7y A Y p.1 p.2.1 p.2.2.1 p.2.2.2.1 p.2.2.2.2.1 p.2.2.2.2.2.1 p.2.2.2.2.2.2.1 p.2.2.2.2.2.2.2.1 })
  (fun p=>zS o0 o1 o2 o3 o4 o5 a b c d e f v0 v1 v2 v3 v4 v5 p.1.1 p.1.2.1 p.1.2.2.1 p.1.2.2.2.1 p.1.2.2.2.2.1 p.1.2.2.2.2.2.1 p.1.2.2.2.2.2.2.1 p.1.2.2.2.2.2.2.2.1 p.1.2.2.2.2.2.2.2.2) (fun p=>6-p.1.1) (c:=lpC B3x) (k:=lpR B3x) (by kernel_rfl) (fun p ih ac cY aY hs=>?_)
  ⟨(0,0,0,0,0,0,0,0,0),⟨by decide,⟨by decide,by decide⟩,⟨by decide,by decide⟩,⟨by decide,by decide⟩,⟨by decide,by decide⟩,⟨by decide,by decide⟩,⟨by decide,by decide⟩,rfl,by decide,0,by simp [G4,Nat.mod_one]⟩⟩ hs1
 obtain ⟨⟨i,r0,r1,r2,r3,r4,r5,r6,r7⟩,hI⟩:=p;simp only at ih hs hI
 obtain ⟨hi,h0,h1,h2,h3,h4,h5',h6,hlt,Q,hQ⟩:=hI;subst h6;by_cases h5:i<6
 ·have hround:=fun T' q hq=>C7w (A:=A) (Y:=Y) (r:=pN) (i:=i) (Q:=Q) (T:=G4 r0 r1 r2 r3 r4 r5) (T' := T') (q:=q) hq hQ
  have hlx:=hlxx i;refine J0n o0 o1 o2 o3 o4 o5 a b c d e f v0 v1 v2 v3 v4 v5 i h5 (hget i h5) hlx hly0 h0 hs fun a0 c0 eA0 la0 lc0 ac cY aY hs=>?_
  refine J0o o0 o1 o2 o3 o4 o5 a b c d e f v0 v1 v2 v3 v4 v5 i hlx hly1 h1 lc0 hs fun a1 c1 eA1 la1 lc1 ac cY aY hs=>?_
  refine J0p o0 o1 o2 o3 o4 o5 a b c d e f v0 v1 v2 v3 v4 v5 i hlx hly2 h2 lc1 hs fun a2 c2 eA2 la2 lc2 ac cY aY hs=>?_
  refine J0q o0 o1 o2 o3 o4 o5 a b c d e f v0 v1 v2 v3 v4 v5 i hlx hly3 h3 lc2 hs fun a3 c3 eA3 la3 lc3 ac cY aY hs=>?_
  refine J0r o0 o1 o2 o3 o4 o5 a b c d e f v0 v1 v2 v3 v4 v5 i hlx hly4 h4 lc3 hs fun a4 c4 eA4 la4 lc4 ac cY aY hs=>?_
  refine J0s o0 o1 o2 o3 o4 o5 a b c d e f v0 v1 v2 v3 v4 v5 i hlx hly5 h5' lc4 hs fun a5 c5 eA5 la5 lc5 ac cY aY hs=>?_
  refine sQE o0 o1 o2 o3 o4 o5 a b c d e f v0 v1 v2 v3 v4 v5 i la0 ⟨by decide,by decide⟩ lc5 hs fun q d0 n6 n7 eE eQ ln6 n70 n71 lq ld0 ac cY aY hs=>?_
  refine J0t o0 o1 o2 o3 o4 o5 a b c d e f v0 v1 v2 v3 v4 v5 i lq la1 ld0 hs fun b0 d1 eB1 lb0 ld1 ac cY aY hs=>?_
  refine J0u o0 o1 o2 o3 o4 o5 a b c d e f v0 v1 v2 v3 v4 v5 i lq la2 ld1 hs fun b1 d2 eB2 lb1 ld2 ac cY aY hs=>?_
  refine J0v o0 o1 o2 o3 o4 o5 a b c d e f v0 v1 v2 v3 v4 v5 i lq la3 ld2 hs fun b2 d3 eB3 lb2 ld3 ac cY aY hs=>?_
  refine J0w o0 o1 o2 o3 o4 o5 a b c d e f v0 v1 v2 v3 v4 v5 i lq la4 ld3 hs fun b3 d4 eB4 lb3 ld4 ac cY aY hs=>?_
  refine J0x o0 o1 o2 o3 o4 o5 a b c d e f v0 v1 v2 v3 v4 v5 i lq la5 ld4 hs fun b4 d5 eB5 lb4 ld5 ac cY aY hs=>?_
  refine sQI o0 o1 o2 o3 o4 o5 a b c d e f v0 v1 v2 v3 v4 v5 i h5 ln6 ld5 hs fun b5 c6 eI lb5 c60 c61 ac cY aY hs=>?_
  have hall:=I0l eA0 eA1 eA2 eA3 eA4 eA5 eE eQ eB1 eB2 eB3 eB4 eB5 eI;rw[<-ey] at hall;have hlt' := G2q hlt (by have:=hlx.2;omega) hyr (by omega) lq.2 hall
  have htop:=J1d lb0 lb1 lb2 lb3 lb4 lb5 (by omega) hlt'
  rw[htop,Int.mul_zero,Int.add_zero] at hall hlt'
  rw[htop] at hs;exact ih ⟨(i+1,b0,b1,b2,b3,b4,b5,wrap IntKind.u64 0,n7),⟨h5,lb0,lb1,lb2,lb3,lb4,lb5,rfl,hlt',hround _ q lq.1 hall⟩⟩ (by show 6-(i+1)<6-i;omega) ac cY aY hs
 ·have hi6:i=6:=by omega
  subst hi6;have hT:0<=G4 r0 r1 r2 r3 r4 r5:=W8 h0.1 h1.1 h2.1 h3.1 h4.1 h5'.1;rw[hT6] at hQ;have hb6:(2 ^ (64*6):Nat)=B6:=E6x;rw[hb6] at hQ;have hlast:=D6e hT hQ;have hred:A3c (G4 r0 r1 r2 r3 r4 r5).toNat=A3c (A*Y*pnv):=E2n (G0j C3g hlast);rw[<-hred];refine B5e R9 hk hm (zX o0 o1 o2 o3 o4 o5 a b c d e f v0 v1 v2 v3 v4 v5 6 r0 r1 r2 r3 r4 r5 0 r7) rfl ?_ (fun y cs h=>h) (.inl ⟨_,_,rfl,rfl⟩) hs
  refine ⟨by decide,by decide,by decide,by decide,by decide,h0,h1,h2,h3,h4,h5',hlt,rfl,rfl,rfl,rfl,rfl,rfl,rfl,trivial⟩

end

section

theorem MuC.pre {P:Program} {f off len es:Nat} {e1 e2 e' : En} {rest:List SV} (h:MuC P f off len es e2 rest e') (hl:∃l l',e1 = .fl l∧e2 = .fl l') (hd:∀x cs,C7 x e1 cs->C7 x e2 cs):MuC P f off len es e1 rest e' := by
 intro x vs hk hm hden;obtain ⟨l,l',rfl,rfl⟩:=hl;refine h x vs hk ⟨fun p=>?_,fun p r hp=>?_,fun p q hp hn=>?_,fun p e hp hr=>?_,hm.inj,hm.own,hm.fw⟩ hden
 ·rw[<-hm.dom p]
  by_cases h0:p=0<;>simp [one,h0]
 ·by_cases h0:p=0
  ·subst h0;exact hm.fl 0 l rfl
  ·simp [one,h0] at hp
 ·by_cases h0:p=0
  ·subst h0;simp [one] at hp
  ·simp [one,h0] at hp
 ·by_cases h0:p=0
  ·subst h0
   simp only[one,if_true,Option.some.injEq] at hp;subst hp;obtain ⟨cs,ty,hc,hdd⟩:=hm.ent 0 _ rfl hr;exact ⟨cs,ty,hc,hd _ _ hdd⟩
  ·simp [one,h0] at hp

def D2d (a b c d e f y0 y1 y2 y3 y4 y5:Int):En:=.fl [.ob (.fp (A3c ((G4 a b c d e f).toNat*(G4 y0 y1 y2 y3 y4 y5).toNat*pnv)))]
def B5u:MuS:=fun off len es e rest=>
 match off,len,es,e,rest with
 | 0,6,1,.fl [.ob (.p _)],[.v (.c (.sl (.u64 [a,b,c,d,e,f]))),.v (.c (.sl (.u64 [y0,y1,y2,y3,y4,y5]))),.v (.c (.sl (.u64 [m0,m1,m2,m3,m4,m5]))),.v (.c (.int .u64 neg))]=>
  some ([B7 a,B7 b,B7 c,B7 d,B7 e,B7 f,B7 y0,B7 y1,B7 y2,B7 y3,B7 y4,B7 y5,G4 y0 y1 y2 y3 y4 y5<pN,neg=9940570264628428797,m0=13402431016077863595,m1=2210141511517208575,m2=7435674573564081700,m3=7239337960414712511,m4=5412103778470702295,m5=1873798617647539866],D2d a b c d e f y0 y1 y2 y3 y4 y5)
 | 0,6,1,.fl [.ob (.fp _)],[.v (.c (.sl (.u64 [a,b,c,d,e,f]))),.v (.c (.sl (.u64 [y0,y1,y2,y3,y4,y5]))),.v (.c (.sl (.u64 [m0,m1,m2,m3,m4,m5]))),.v (.c (.int .u64 neg))]=>
  some ([B7 a,B7 b,B7 c,B7 d,B7 e,B7 f,B7 y0,B7 y1,B7 y2,B7 y3,B7 y4,B7 y5,G4 y0 y1 y2 y3 y4 y5<pN,neg=9940570264628428797,m0=13402431016077863595,m1=2210141511517208575,m2=7435674573564081700,m3=7239337960414712511,m4=5412103778470702295,m5=1873798617647539866],D2d a b c d e f y0 y1 y2 y3 y4 y5)
 | _,_,_,_,_=>none

theorem C7o {o:Ob} (hk:o.k=6) {a b c d e f y0 y1 y2 y3 y4 y5 neg m0 m1 m2 m3 m4 m5:Int}
  (ho:B1 [B7 a,B7 b,B7 c,B7 d,B7 e,B7 f,B7 y0,B7 y1,B7 y2,B7 y3,B7 y4,B7 y5,G4 y0 y1 y2 y3 y4 y5<pN,neg=9940570264628428797,m0=13402431016077863595,m1=2210141511517208575,m2=7435674573564081700,m3=7239337960414712511,m4=5412103778470702295,m5=1873798617647539866]) :
  MuC Tryz.prog 89 0 6 1 (.fl [.ob o]) [.v (.c (.sl (.u64 [a,b,c,d,e,f]))),.v (.c (.sl (.u64 [y0,y1,y2,y3,y4,y5]))),.v (.c (.sl (.u64 [m0,m1,m2,m3,m4,m5]))),.v (.c (.int .u64 neg))] (D2d a b c d e f y0 y1 y2 y3 y4 y5):=by
 obtain ⟨h1,h2,h3,h4,h5,h6,h7,h8,h9,h10,h11,h12,h13,rfl,rfl,rfl,rfl,rfl,rfl,rfl,_⟩:=ho;obtain ⟨A,hA,eA,rfl,rfl,rfl,rfl,rfl,rfl⟩:=D7d h1 h2 h3 h4 h5 h6;obtain ⟨Y,hY,eY,rfl,rfl,rfl,rfl,rfl,rfl⟩:=D7d h7 h8 h9 h10 h11 h12;refine MuC.pre (e2:=fl6 (A0 o.n 0) (A0 o.n 1) (A0 o.n 2) (A0 o.n 3) (A0 o.n 4) (A0 o.n 5)) ?_ ⟨_,_,rfl,rfl⟩ fun x cs h=>F9v hk h
 unfold D2d;rw[eA,eY,Int.toNat_natCast,Int.toNat_natCast];rw[eY] at h13;exact D7v _ _ _ _ _ _ A Y hA (by exact_mod_cast h13)

def qeE:Env:={ qeD with mu:=fun g=>if g=89 then some (mu1 B5u) else qeD.mu g }
theorem B5w:A9 Tryz.prog qeE:=
 C9m R9 89 B5u (A4 Tryz.func89 rfl rfl) fun off len es e rest o e' h ho _ _=>by
  unfold B5u at h;split at h
  ·cases h;exact C7o rfl ho
  ·cases h;exact C7o rfl ho
  ·cases h

theorem I8q (x:U6):let b:=Ob.n (.fp x);let c:Int:=13402431016077863595;let d:Int:=9940570264628428797;let f:Int:=2210141511517208575;let g:Int:=7435674573564081700;let h:Int:=7239337960414712511;let i:Int:=5412103778470702295;let j:Int:=1873798617647539866;B5 qeE Tryz.f78 3000 [.v (.a [.ob (.fp x)])] [] [] []=(some ([(B7 (A0 b 0)),(B7 (A0 b 1)),(B7 (A0 b 2)),(B7 (A0 b 3)),(B7 (A0 b 4)),(B7 (A0 b 5)),(B7 (17644856173732828998:Int)),(B7 (754043588434789617:Int)),(B7 (10224657059481499349:Int)),(B7 (7488229067341005760:Int)),(B7 (11130996698012816685:Int)),(B7 (1267921511277847466:Int)),((2708263910654730174793787626328176511836455197166317677006154293982164122222515399004018013397331347120527951271750:Int)<(4002409555221667393417789825735904156556882819939007885332058136124031650490837864442687629129015664037894272559787:Int)),(d=d),(c=c),(f=f),(g=g),(h=h),(i=i),(j=j)],((.v (.a [(.ob (.fp (A3c ((((G4 (A0 b 0) (A0 b 1) (A0 b 2) (A0 b 3) (A0 b 4) (A0 b 5))).toNat*2708263910654730174793787626328176511836455197166317677006154293982164122222515399004018013397331347120527951271750)*pnv))))])),[]))):=by intros;kernel_rfl
theorem I6m (x:Fp):let b:=Ob.n (.p x);let c:=B7 (0:Int);let d:Int:=13402431016077863595;let f:Int:=9940570264628428797;let g:Int:=2210141511517208575;let h:Int:=7435674573564081700;let i:Int:=7239337960414712511;let j:Int:=5412103778470702295;let k:Int:=1873798617647539866;B5 qeE Tryz.f76 3000 [.v (.a [.ob (.p x)])] [] [] []=(some ([(B7 (A0 b 0)),(B7 (A0 b 1)),(B7 (A0 b 2)),(B7 (A0 b 3)),(B7 (A0 b 4)),(B7 (A0 b 5)),(B7 (1:Int)),c,c,c,c,c,((1:Int)<(4002409555221667393417789825735904156556882819939007885332058136124031650490837864442687629129015664037894272559787:Int)),(f=f),(d=d),(g=g),(h=h),(i=i),(j=j),(k=k)],((.v (.a [(.ob (.fp (A3c ((((G4 (A0 b 0) (A0 b 1) (A0 b 2) (A0 b 3) (A0 b 4) (A0 b 5))).toNat*1)*pnv))))])),[]))):=by intros;kernel_rfl
end

section

/-- A number, taken modulo p; an element as a number. -/
def inP (a:U6):Fp:=Fin.ofNat pN a.val
def D4 (x:Fp):U6:=Fin.ofNat B6 x.val
theorem D7i (x:Fp):(D4 x).val=x.val:=Nat.mod_eq_of_lt (Nat.lt_trans x.isLt (by decide))

theorem D6f {n:Nat} (h:n<B6):(G4 (A0 n 0) (A0 n 1) (A0 n 2) (A0 n 3) (A0 n 4) (A0 n 5)).toNat=n:=by
 have e:=(A1t n h).1;rw[<-e];exact Int.toNat_natCast n

theorem G7l {r B v s a:Nat} (e:v*B % r=1 % r) (hs:s % r=B*B % r):a*s*v % r=(a % r)*B % r:=by
  have h2:∀a:Nat,a*(v*B) % r=a % r:=fun a=>by rw[<-Nat.mul_mod_mod,e,Nat.mul_mod_mod,Nat.mul_one]
  calc a*s*v % r=(a*v)*s % r:=by congr 1;simp only[Nat.mul_comm,Nat.mul_left_comm]
    _=(a*v)*(B*B) % r:=by rw[<-Nat.mul_mod_mod,hs,Nat.mul_mod_mod]
    _=(a*B)*(v*B) % r:=by congr 1;simp only[Nat.mul_comm,Nat.mul_left_comm]
    _=a*B % r:=h2 _
    _=(a % r)*B % r:=by rw[Nat.mod_mul_mod]

theorem I7g:2708263910654730174793787626328176511836455197166317677006154293982164122222515399004018013397331347120527951271750 % pN=B6*B6 % pN:=by kernel_rfl

theorem G7m (a:U6):FnD Tryz.prog 78 [.v (.a [.ob (.fp a)])] (.v (.a [.ob (.p (inP a))])) []:=by
 have hn:=D6f a.isLt;have hl:=fun i=>C9 a.val i
 refine (A5 B5w Tryz.func78 (I8q a) ?_).conv (fun _ _ h=>h) fun y v hd=>?_
 ·exact ⟨hl 0,hl 1,hl 2,hl 3,hl 4,hl 5,⟨by decide,by decide⟩,⟨by decide,by decide⟩,⟨by decide,by decide⟩,⟨by decide,by decide⟩,⟨by decide,by decide⟩,⟨by decide,by decide⟩,by decide,rfl,rfl,rfl,rfl,rfl,rfl,rfl,trivial⟩
 ·refine E6p (o:=.fp (A3c _)) (o' := .p (inP a)) rfl ?_ hd
  show (A3c _).val=_;rw[B3m];have hn:(G4 (A0 (Ob.n (Ob.fp a)) 0) (A0 (Ob.n (Ob.fp a)) 1) (A0 (Ob.n (Ob.fp a)) 2) (A0 (Ob.n (Ob.fp a)) 3) (A0 (Ob.n (Ob.fp a)) 4) (A0 (Ob.n (Ob.fp a)) 5)).toNat=a.val:=hn;rw[hn];exact G7l C3g I7g

theorem G0h {r B v x:Nat} (e:v*B % r=1 % r):(x*B % r)*1*v % r=x % r:=by
 rw[Nat.mul_one,Nat.mod_mul_mod,Nat.mul_assoc,Nat.mul_comm B,<-Nat.mul_mod_mod,e,Nat.mul_mod_mod,Nat.mul_one]

theorem G0g (x:Fp):FnD Tryz.prog 76 [.v (.a [.ob (.p x)])] (.v (.a [.ob (.fp (D4 x))])) []:=by
 have hn:=D6f (n:=(Ob.p x).n) (Nat.lt_trans (B5o x) (by decide))
 have hl:=fun i=>C9 (Ob.p x).n i
 refine (A5 B5w Tryz.func76 (I6m x) ?_).conv (fun _ _ h=>h) fun y v hd=>?_
 ·exact ⟨hl 0,hl 1,hl 2,hl 3,hl 4,hl 5,⟨by decide,by decide⟩,⟨by decide,by decide⟩,⟨by decide,by decide⟩,⟨by decide,by decide⟩,⟨by decide,by decide⟩,⟨by decide,by decide⟩,by decide,rfl,rfl,rfl,rfl,rfl,rfl,rfl,trivial⟩
 ·refine E6p (o:=.fp (A3c _)) (o' := .fp (D4 x)) (Eq.refl 6) ?_ hd
  show (A3c _).val=(D4 x).val;rw[B3m,hn,D7i];have e:(Ob.p x).n=x.val*B6 % pN:=rfl;rw[e,G0h C3g];exact Nat.mod_eq_of_lt x.isLt

end

section

theorem H8t (x y:Fp):let f:=Ob.n (.p y);let g:=Ob.n (.p x);let h:Int:=18446744073709551616;let m:Int:=6;let q:Int:=1;let r:=Ob.k (.p x);let s:=Ob.k (.p y);let t:=0<=(0:Int);let u:Int:=2;let w:Int:=3;let z:Int:=4;let A:Int:=5;let M:=A0 f 2;let N:=A0 f 4;let O:=A0 f 1;let P:=A0 f 3;let Q:=A0 f 0;let j:=A6 0 (A0 g 0) Q (0:Int);let D:=Prod.snd j;let d:=A6 0 (A0 g 1) O D;let B:=Prod.snd d;let b:=A6 0 (A0 g 2) M B;let F:=Prod.snd b;let i:=A6 0 (A0 g 3) P F;let C:=Prod.snd i;let c:=A6 0 (A0 g 4) N C;let G:=Prod.snd c;let H:=Prod.fst j;let I:=Prod.fst d;let J:=Prod.fst b;let K:=Prod.fst i;let L:=Prod.fst c;let R:=A0 f 5;let l:=Prod.fst (A6 0 (A0 g 5) R G);let o:=G4 H I J K L l;B5 qeE Tryz.f106 3000 [.v (.a [.ob (.p x)]),.v (.a [.ob (.p y)])] [] [] []=(some ([t,(0<m),(0<r),t,(0<m),(0<s),(0<=(A0 g 0)),(0<=Q),(Q<h),t,(0<=q),t,(0<m),(0<=q),(q<m),(1<r),(0<=q),(q<m),(1<s),(0<=(A0 g 1)),(0<=O),(O<h),(0<=D),(D<=q),(0<=q),(q<m),(0<=u),(u<m),(2<r),(0<=u),(u<m),(2<s),(0<=(A0 g 2)),(0<=M),(M<h),(0<=B),(B<=q),(0<=u),(u<m),(0<=w),(w<m),(3<r),(0<=w),(w<m),(3<s),(0<=(A0 g 3)),(0<=P),(P<h),(0<=F),(F<=q),(0<=w),(w<m),(0<=z),(z<m),(4<r),(0<=z),(z<m),(4<s),(0<=(A0 g 4)),(0<=N),(N<h),(0<=C),(C<=q),(0<=z),(z<m),(0<=A),(A<m),(5<r),(0<=A),(A<m),(5<s),(0<=(A0 g 5)),(0<=R),(R<h),(0<=G),(G<=q),(0<=A),(A<m),(0<=H),(H<h),(0<=I),(I<h),(0<=J),(J<h),(0<=K),(K<h),(0<=L),(L<h),(0<=l),(l<h),(o<(8004819110443334786835579651471808313113765639878015770664116272248063300981675728885375258258031328075788545119574:Int))],((.v (.a [(.ob (.p (B7s (o).toNat)))])),[]))):=by intros;kernel_rfl
theorem G8w (x y:Fp):let f:=Ob.n (.p y);let g:=Ob.n (.p x);let h:Int:=18446744073709551616;let l:Int:=6;let m:Int:=1;let o:=Ob.k (.p x);let q:=Ob.k (.p y);let s:Int:=0;let t:Int:=2;let u:Int:=3;let w:Int:=4;let z:Int:=5;let G:=A0 f 2;let H:=A0 f 4;let I:=A0 f 1;let J:=A0 f 3;let K:=A0 f 0;let j:=A6 1 (A0 g 0) K s;let C:=Prod.snd j;let d:=A6 1 (A0 g 1) I C;let A:=Prod.snd d;let b:=A6 1 (A0 g 2) G A;let D:=Prod.snd b;let i:=A6 1 (A0 g 3) J D;let B:=Prod.snd i;let c:=A6 1 (A0 g 4) H B;let F:=Prod.snd c;let L:=A0 f 5;let r:=A6 1 (A0 g 5) L F;B5 qeE Tryz.f132 3000 [.v (.a [.ob (.p x)]),.v (.a [.ob (.p y)])] [true] [] []=(some ([(0<=s),(0<l),(0<o),(0<=s),(0<l),(0<q),(0<=(A0 g 0)),(0<=K),(K<h),(0<=s),(0<=m),(0<=s),(0<l),(0<=m),(m<l),(1<o),(0<=m),(m<l),(1<q),(0<=(A0 g 1)),(0<=I),(I<h),(0<=C),(C<=m),(0<=m),(m<l),(0<=t),(t<l),(2<o),(0<=t),(t<l),(2<q),(0<=(A0 g 2)),(0<=G),(G<h),(0<=A),(A<=m),(0<=t),(t<l),(0<=u),(u<l),(3<o),(0<=u),(u<l),(3<q),(0<=(A0 g 3)),(0<=J),(J<h),(0<=D),(D<=m),(0<=u),(u<l),(0<=w),(w<l),(4<o),(0<=w),(w<l),(4<q),(0<=(A0 g 4)),(0<=H),(H<h),(0<=B),(B<=m),(0<=w),(w<l),(0<=z),(z<l),(5<o),(0<=z),(z<l),(5<q),(0<=(A0 g 5)),(0<=L),(L<h),(0<=F),(F<=m),(0<=z),(z<l),(((Prod.snd r) == s)=true)],((.v (.a [(.int .u64 (Prod.fst j)),(.int .u64 (Prod.fst d)),(.int .u64 (Prod.fst b)),(.int .u64 (Prod.fst i)),(.int .u64 (Prod.fst c)),(.int .u64 (Prod.fst r))])),[]))):=by intros;kernel_rfl
theorem G8x (x y:Fp):let j:=Ob.n (.p y);let l:Int:=18446744073709551616;let m:Int:=6;let o:=Ob.n (.p x);let t:Int:=1;let z:Int:=2;let A:Int:=3;let B:Int:=4;let C:Int:=5;let D:=Ob.k (.p x);let F:=Ob.k (.p y);let G:Int:=13402431016077863595;let H:Int:=2210141511517208575;let I:Int:=5412103778470702295;let J:Int:=7435674573564081700;let K:Int:=7239337960414712511;let L:Int:=1873798617647539866;let W:Int:=0;let w:=0<=W;let X:=A0 j 2;let Y:=A0 j 3;let Z:=A0 j 0;let g:=A6 1 (A0 o 0) Z W;let r:=A6 0 (Prod.fst g) G W;let N:=Prod.snd r;let T:=Prod.snd g;let s:=A6 1 (A0 o 1) (A0 j 1) T;let c:=A6 0 (Prod.fst s) H N;let M:=Prod.snd s;let b:=A6 1 (A0 o 2) X M;let O:=Prod.snd b;let d:=A6 1 (A0 o 3) Y O;let Q:=Prod.snd d;let h:=A6 1 (A0 o 4) (A0 j 4) Q;let R:=Prod.snd c;let i:=A6 0 (Prod.fst b) J R;let S:=Prod.snd i;let q:=A6 0 (Prod.fst d) K S;let P:=Prod.snd q;let f:=A6 0 (Prod.fst h) I P;let U:=Prod.snd h;let u:=A6 1 (A0 o 5) (A0 j 5) U;let V:=Prod.snd f;B5 qeE Tryz.f132 3000 [.v (.a [.ob (.p x)]),.v (.a [.ob (.p y)])] [false] [] []=(some ([w,(0<m),(0<D),w,(0<m),(0<F),(0<=(A0 o 0)),(0<=Z),(Z<l),w,(0<=t),w,(0<m),(0<=t),(t<m),(1<D),(0<=t),(t<m),(1<F),(0<=(A0 o 1)),(0<=(A0 j 1)),((A0 j 1)<l),(0<=T),(T<=t),(0<=t),(t<m),(0<=z),(z<m),(2<D),(0<=z),(z<m),(2<F),(0<=(A0 o 2)),(0<=X),(X<l),(0<=M),(M<=t),(0<=z),(z<m),(0<=A),(A<m),(3<D),(0<=A),(A<m),(3<F),(0<=(A0 o 3)),(0<=Y),(Y<l),(0<=O),(O<=t),(0<=A),(A<m),(0<=B),(B<m),(4<D),(0<=B),(B<m),(4<F),(0<=(A0 o 4)),(0<=(A0 j 4)),((A0 j 4)<l),(0<=Q),(Q<=t),(0<=B),(B<m),(0<=C),(C<m),(5<D),(0<=C),(C<m),(5<F),(0<=(A0 o 5)),(0<=(A0 j 5)),((A0 j 5)<l),(0<=U),(U<=t),(0<=C),(C<m),(((Prod.snd u) == W)=false),w,(0<m),w,(0<m),(0<6),(0<=(Prod.fst g)),(0<=G),(G<l),w,(0<=t),w,(0<m),(0<=t),(t<m),(0<=t),(t<m),(1<6),(0<=(Prod.fst s)),(0<=H),(H<l),(0<=N),(N<=t),(0<=t),(t<m),(0<=z),(z<m),(0<=z),(z<m),(2<6),(0<=(Prod.fst b)),(0<=J),(J<l),(0<=R),(R<=t),(0<=z),(z<m),(0<=A),(A<m),(0<=A),(A<m),(3<6),(0<=(Prod.fst d)),(0<=K),(K<l),(0<=S),(S<=t),(0<=A),(A<m),(0<=B),(B<m),(0<=B),(B<m),(4<6),(0<=(Prod.fst h)),(0<=I),(I<l),(0<=P),(P<=t),(0<=B),(B<m),(0<=C),(C<m),(0<=C),(C<m),(5<6),(0<=(Prod.fst u)),(0<=L),(L<l),(0<=V),(V<=t),(0<=C),(C<m)],((.v (.a [(.int .u64 (Prod.fst r)),(.int .u64 (Prod.fst c)),(.int .u64 (Prod.fst i)),(.int .u64 (Prod.fst q)),(.int .u64 (Prod.fst f)),(.int .u64 (Prod.fst (A6 0 (Prod.fst u) L V)))])),[]))):=by intros;kernel_rfl
end

section

theorem F0f {x y r B:Nat}:((x+y) % r)*B % r=(x*B % r+y*B % r) % r:=by
 rw[Nat.mod_mul_mod,Nat.add_mul,<-Nat.add_mod]
theorem H0h (x y:Fp):(Ob.p (x+y)).n=((Ob.p x).n+(Ob.p y).n) % pN:=by
 exact F0f
theorem C9s {n:Nat} (x y:Fin n):x-y+y=x:=by
 apply Fin.ext
 simp only[Fin.add_def,Fin.sub_def];have:=y.isLt
 rw[Nat.mod_add_mod,show n-y.val+x.val+y.val=x.val+n from by omega,Nat.add_mod_right,Nat.mod_eq_of_lt x.isLt]
theorem H0i (x y:Fp):((Ob.p (x-y)).n+(Ob.p y).n) % pN=(Ob.p x).n:=by
 rw[<-H0h,C9s]
theorem F1v {r B v x y:Nat} (e:v*B % r=1 % r):(x*B % r+y*B % r)*v % r=(x+y) % r:=by
 rw[<-Nat.mod_mul_mod,<-Nat.add_mod,Nat.mod_mul_mod,<-Nat.add_mul,Nat.mul_assoc,Nat.mul_comm B,<-Nat.mul_mod_mod,e,Nat.mul_mod_mod,Nat.mul_one]
theorem G2a (x y:Fp):B7s ((Ob.p x).n+(Ob.p y).n)=x+y:=by
 apply Fin.ext
 have e:(Ob.p x).n=x.val*B6 % pN:=rfl;have e' : (Ob.p y).n=y.val*B6 % pN:=rfl;rw[e,e'];exact F1v C3g

theorem H2w {a0 a1 a2 a3 a4 a5 b0 b1 b2 b3 b4 b5 o0 o1 o2 o3 o4 o5 v0 v1 v2 v3 v4 v5:Int} (e0:a0+b0+0=o0+18446744073709551616*v0) (e1:a1+b1+v0=o1+18446744073709551616*v1) (e2:a2+b2+v1=o2+18446744073709551616*v2) (e3:a3+b3+v2=o3+18446744073709551616*v3) (e4:a4+b4+v3=o4+18446744073709551616*v4) (e5:a5+b5+v4=o5+18446744073709551616*v5) :
  G4 o0 o1 o2 o3 o4 o5+39402006196394479212279040100143613805079739270465446667948293404245721771497210611414266254884915640806627990306816*v5=G4 a0 a1 a2 a3 a4 a5+G4 b0 b1 b2 b3 b4 b5:=by
 unfold G4;omega
theorem I7i {a0 a1 a2 a3 a4 a5 b0 b1 b2 b3 b4 b5 o0 o1 o2 o3 o4 o5 v0 v1 v2 v3 v4 v5:Int} (e0:o0=a0-b0-0+18446744073709551616*v0) (e1:o1=a1-b1-v0+18446744073709551616*v1) (e2:o2=a2-b2-v1+18446744073709551616*v2) (e3:o3=a3-b3-v2+18446744073709551616*v3) (e4:o4=a4-b4-v3+18446744073709551616*v4) (e5:o5=a5-b5-v4+18446744073709551616*v5) :
  G4 o0 o1 o2 o3 o4 o5-39402006196394479212279040100143613805079739270465446667948293404245721771497210611414266254884915640806627990306816*v5=G4 a0 a1 a2 a3 a4 a5-G4 b0 b1 b2 b3 b4 b5:=by
 unfold G4;omega

theorem F0h (x y:Fp):FnD Tryz.prog 106 [.v (.a [.ob (.p x)]),.v (.a [.ob (.p y)])] (.v (.a [.ob (.p (x+y))])) []:=by
 have r0:=H8t x y;dsimp only at r0;have hX:=B5o x;have hY:=B5o y;have hadd:=G2a x y;have ex:=(A1t (Ob.p x).n (Nat.lt_trans (B5o x) (by decide))).1
 have ey:=(A1t (Ob.p y).n (Nat.lt_trans (B5o y) (by decide))).1
 have x0:=C9 (Ob.p x).n 0;have x1:=C9 (Ob.p x).n 1;have x2:=C9 (Ob.p x).n 2;have x3:=C9 (Ob.p x).n 3;have x4:=C9 (Ob.p x).n 4;have x5:=C9 (Ob.p x).n 5;have y0:=C9 (Ob.p y).n 0;have y1:=C9 (Ob.p y).n 1;have y2:=C9 (Ob.p y).n 2;have y3:=C9 (Ob.p y).n 3;have y4:=C9 (Ob.p y).n 4;have y5:=C9 (Ob.p y).n 5;generalize A0 (Ob.p x).n 0=a0 at *;generalize A0 (Ob.p x).n 1=a1 at *;generalize A0 (Ob.p x).n 2=a2 at *;generalize A0 (Ob.p x).n 3=a3 at *;generalize A0 (Ob.p x).n 4=a4 at *;generalize A0 (Ob.p x).n 5=a5 at *;generalize A0 (Ob.p y).n 0=b0 at *;generalize A0 (Ob.p y).n 1=b1 at *;generalize A0 (Ob.p y).n 2=b2 at *;generalize A0 (Ob.p y).n 3=b3 at *;generalize A0 (Ob.p y).n 4=b4 at *;generalize A0 (Ob.p y).n 5=b5 at *;obtain ⟨e0,p0,p0',c0,c0'⟩:=F8 (c:=0) x0.1 x0.2 y0.1 y0.2 (by decide) (by decide)
 obtain ⟨e1,p1,p1',c1,c1'⟩:=F8 x1.1 x1.2 y1.1 y1.2 c0 c0';obtain ⟨e2,p2,p2',c2,c2'⟩:=F8 x2.1 x2.2 y2.1 y2.2 c1 c1';obtain ⟨e3,p3,p3',c3,c3'⟩:=F8 x3.1 x3.2 y3.1 y3.2 c2 c2';obtain ⟨e4,p4,p4',c4,c4'⟩:=F8 x4.1 x4.2 y4.1 y4.2 c3 c3';obtain ⟨e5,p5,p5',c5,c5'⟩:=F8 x5.1 x5.2 y5.1 y5.2 c4 c4';generalize hq0:A6 0 a0 b0 0=q0 at *;generalize hq1:A6 0 a1 b1 q0.2=q1 at *;generalize hq2:A6 0 a2 b2 q1.2=q2 at *;generalize hq3:A6 0 a3 b3 q2.2=q3 at *;generalize hq4:A6 0 a4 b4 q3.2=q4 at *;generalize hq5:A6 0 a5 b5 q4.2=q5 at *;clear hq0 hq1 hq2 hq3 hq4 hq5;have hS:=H2w e0 e1 e2 e3 e4 e5;rw[<-ex,<-ey] at hS;have hp:=A1v;have hO:=lt6 p0 p0' p1 p1' p2 p2' p3 p3' p4 p4' p5 p5';have hO0:=W8 p0 p1 p2 p3 p4 p5;have hv:q5.2=0:=by omega
 rw[hv,Int.mul_zero,Int.add_zero] at hS;have hlt:G4 q0.1 q1.1 q2.1 q3.1 q4.1 q5.1<2*pN:=by omega
 refine (A5 B5w Tryz.func106 r0 ?_).conv (fun _ _ h=>h) fun z v hd=>?_
 ·simp only[B1,and_true,Ob.k]
  clear hS hO hO0 hX hY ex ey hadd r0 e0 e1 e2 e3 e4 e5 hp;obtain ⟨x0,x0'⟩:=x0;obtain ⟨y0,y0'⟩:=y0;obtain ⟨x1,x1'⟩:=x1;obtain ⟨y1,y1'⟩:=y1;obtain ⟨x2,x2'⟩:=x2;obtain ⟨y2,y2'⟩:=y2;obtain ⟨x3,x3'⟩:=x3;obtain ⟨y3,y3'⟩:=y3;obtain ⟨x4,x4'⟩:=x4;obtain ⟨y4,y4'⟩:=y4;obtain ⟨x5,x5'⟩:=x5;obtain ⟨y5,y5'⟩:=y5;and_intros<;>first | assumption | decide | omega
 ·have hN' : (G4 q0.1 q1.1 q2.1 q3.1 q4.1 q5.1).toNat=(Ob.p x).n+(Ob.p y).n:=by omega
  rw[hN',hadd] at hd;exact hd

theorem E3e {X Y Z r:Nat} (_hX:X<r) (hY:Y<r) (hZ:Z<r) (h:(Z+Y) % r=X):(Y<=X∧(Z:Int)=X-Y)∨(X<Y∧(Z:Int)=X+r-Y):=by
 by_cases hl:Z+Y<r
 ·rw[Nat.mod_eq_of_lt hl] at h
  left;omega
 ·rw[Nat.mod_eq_sub_mod (by omega),Nat.mod_eq_of_lt (by omega)] at h
  right;omega

theorem G2u {X Y Z:Nat} {N W v:Int} (hX:X<pN) (hY:Y<pN) (hcase:(Y<=X∧(Z:Int)=X-Y)∨(X<Y∧(Z:Int)=X+pN-Y))
  (hdiff:N-39402006196394479212279040100143613805079739270465446667948293404245721771497210611414266254884915640806627990306816*1=(X:Int)-Y) (hN1:N<39402006196394479212279040100143613805079739270465446667948293404245721771497210611414266254884915640806627990306816) (hW0:0<=W) (hW1:W<39402006196394479212279040100143613805079739270465446667948293404245721771497210611414266254884915640806627990306816) (hv0:0<=v) (hv1:v<=1)
  (hsum:W+39402006196394479212279040100143613805079739270465446667948293404245721771497210611414266254884915640806627990306816*v=N+G4 13402431016077863595 2210141511517208575 7435674573564081700 7239337960414712511 5412103778470702295 1873798617647539866):(Z:Int)=W:=by
 have hp:=A1v;have hm:G4 13402431016077863595 2210141511517208575 7435674573564081700 7239337960414712511 5412103778470702295 1873798617647539866=4002409555221667393417789825735904156556882819939007885332058136124031650490837864442687629129015664037894272559787:=by decide
 rw[hm] at hsum;have:v=0∨v=1:=by omega
 rcases hcase with ⟨h1,h2⟩ | ⟨h1,h2⟩
 ·exfalso;omega
 ·rcases this with rfl | rfl<;>omega

theorem E1k (x y:Fp):FnD Tryz.prog 132 [.v (.a [.ob (.p x)]),.v (.a [.ob (.p y)])] (.v (.a [.ob (.p (x-y))])) []:=by
 have r0:=G8w x y;dsimp only at r0;have r1:=G8x x y;dsimp only at r1;have hX:=B5o x;have hY:=B5o y;have hZ:=B5o (x-y);have hsub:=H0i x y;have ex:=(A1t (Ob.p x).n (Nat.lt_trans (B5o x) (by decide))).1
 have ey:=(A1t (Ob.p y).n (Nat.lt_trans (B5o y) (by decide))).1
 have x0:=C9 (Ob.p x).n 0;have x1:=C9 (Ob.p x).n 1;have x2:=C9 (Ob.p x).n 2;have x3:=C9 (Ob.p x).n 3;have x4:=C9 (Ob.p x).n 4;have x5:=C9 (Ob.p x).n 5;have y0:=C9 (Ob.p y).n 0;have y1:=C9 (Ob.p y).n 1;have y2:=C9 (Ob.p y).n 2;have y3:=C9 (Ob.p y).n 3;have y4:=C9 (Ob.p y).n 4;have y5:=C9 (Ob.p y).n 5;generalize A0 (Ob.p x).n 0=a0 at *;generalize A0 (Ob.p x).n 1=a1 at *;generalize A0 (Ob.p x).n 2=a2 at *;generalize A0 (Ob.p x).n 3=a3 at *;generalize A0 (Ob.p x).n 4=a4 at *;generalize A0 (Ob.p x).n 5=a5 at *;generalize A0 (Ob.p y).n 0=b0 at *;generalize A0 (Ob.p y).n 1=b1 at *;generalize A0 (Ob.p y).n 2=b2 at *;generalize A0 (Ob.p y).n 3=b3 at *;generalize A0 (Ob.p y).n 4=b4 at *;generalize A0 (Ob.p y).n 5=b5 at *;obtain ⟨e0,p0,p0',c0,c0'⟩:=F5 (c:=0) x0.1 x0.2 y0.1 y0.2 (by decide) (by decide)
 obtain ⟨e1,p1,p1',c1,c1'⟩:=F5 x1.1 x1.2 y1.1 y1.2 c0 c0';obtain ⟨e2,p2,p2',c2,c2'⟩:=F5 x2.1 x2.2 y2.1 y2.2 c1 c1';obtain ⟨e3,p3,p3',c3,c3'⟩:=F5 x3.1 x3.2 y3.1 y3.2 c2 c2';obtain ⟨e4,p4,p4',c4,c4'⟩:=F5 x4.1 x4.2 y4.1 y4.2 c3 c3';obtain ⟨e5,p5,p5',c5,c5'⟩:=F5 x5.1 x5.2 y5.1 y5.2 c4 c4';generalize hq0:A6 1 a0 b0 0=q0 at *;generalize hq1:A6 1 a1 b1 q0.2=q1 at *;generalize hq2:A6 1 a2 b2 q1.2=q2 at *;generalize hq3:A6 1 a3 b3 q2.2=q3 at *;generalize hq4:A6 1 a4 b4 q3.2=q4 at *;generalize hq5:A6 1 a5 b5 q4.2=q5 at *;clear hq0 hq1 hq2 hq3 hq4 hq5;have hcase:=E3e hX hY hZ hsub;have hdiff:=I7i e0 e1 e2 e3 e4 e5;rw[<-ex,<-ey] at hdiff;have hO:=lt6 p0 p0' p1 p1' p2 p2' p3 p3' p4 p4' p5 p5';have hO0:=W8 p0 p1 p2 p3 p4 p5;have hp:=A1v;by_cases hz:q5.2=0
 ·refine (A5 B5w Tryz.func132 r0 ?_).conv (fun _ _ h=>h) fun z v hd=>A5v rfl (Y9 p0 p0' p1 p1' p2 p2' p3 p3' p4 p4' p5 p5' ?_) hd
  ·simp only[B1,and_true,Ob.k,beq_iff_eq]
   clear hsub hX hY hZ ex ey r0 r1 hcase hdiff hO hO0 hp e0 e1 e2 e3 e4 e5;obtain ⟨x0,x0'⟩:=x0;obtain ⟨y0,y0'⟩:=y0;obtain ⟨x1,x1'⟩:=x1;obtain ⟨y1,y1'⟩:=y1;obtain ⟨x2,x2'⟩:=x2;obtain ⟨y2,y2'⟩:=y2;obtain ⟨x3,x3'⟩:=x3;obtain ⟨y3,y3'⟩:=y3;obtain ⟨x4,x4'⟩:=x4;obtain ⟨y4,y4'⟩:=y4;obtain ⟨x5,x5'⟩:=x5;obtain ⟨y5,y5'⟩:=y5;and_intros<;>first | assumption | decide | omega
  ·rw[hz] at hdiff
   rcases hcase with ⟨h1,h2⟩ | ⟨h1,h2⟩<;>omega
 ·have hz1:q5.2=1:=by omega
  obtain ⟨f0,s0,s0',d0,d0'⟩:=F8 (y:=13402431016077863595) (c:=0) p0 p0' (by decide) (by decide) (by decide) (by decide)
  obtain ⟨f1,s1,s1',d1,d1'⟩:=F8 (y:=2210141511517208575) p1 p1' (by decide) (by decide) d0 d0'
  obtain ⟨f2,s2,s2',d2,d2'⟩:=F8 (y:=7435674573564081700) p2 p2' (by decide) (by decide) d1 d1'
  obtain ⟨f3,s3,s3',d3,d3'⟩:=F8 (y:=7239337960414712511) p3 p3' (by decide) (by decide) d2 d2'
  obtain ⟨f4,s4,s4',d4,d4'⟩:=F8 (y:=5412103778470702295) p4 p4' (by decide) (by decide) d3 d3'
  obtain ⟨f5,s5,s5',d5,d5'⟩:=F8 (y:=1873798617647539866) p5 p5' (by decide) (by decide) d4 d4'
  generalize hw0:A6 0 q0.1 13402431016077863595 0=w0 at *;generalize hw1:A6 0 q1.1 2210141511517208575 w0.2=w1 at *;generalize hw2:A6 0 q2.1 7435674573564081700 w1.2=w2 at *;generalize hw3:A6 0 q3.1 7239337960414712511 w2.2=w3 at *;generalize hw4:A6 0 q4.1 5412103778470702295 w3.2=w4 at *;generalize hw5:A6 0 q5.1 1873798617647539866 w4.2=w5 at *;clear hw0 hw1 hw2 hw3 hw4 hw5;have hS:=H2w f0 f1 f2 f3 f4 f5;have hW:=lt6 s0 s0' s1 s1' s2 s2' s3 s3' s4 s4' s5 s5';have hW0:=W8 s0 s1 s2 s3 s4 s5;refine (A5 B5w Tryz.func132 r1 ?_).conv (fun _ _ h=>h) fun z v hd=>A5v rfl (Y9 s0 s0' s1 s1' s2 s2' s3 s3' s4 s4' s5 s5' ?_) hd
  ·simp only[B1,and_true,Ob.k,beq_eq_false_iff_ne]
   clear hsub hX hY hZ ex ey r0 r1 hcase hdiff hO hO0 hp hS hW hW0 e0 e1 e2 e3 e4 e5 f0 f1 f2 f3 f4 f5;obtain ⟨x0,x0'⟩:=x0;obtain ⟨y0,y0'⟩:=y0;obtain ⟨x1,x1'⟩:=x1;obtain ⟨y1,y1'⟩:=y1;obtain ⟨x2,x2'⟩:=x2;obtain ⟨y2,y2'⟩:=y2;obtain ⟨x3,x3'⟩:=x3;obtain ⟨y3,y3'⟩:=y3;obtain ⟨x4,x4'⟩:=x4;obtain ⟨y4,y4'⟩:=y4;obtain ⟨x5,x5'⟩:=x5;obtain ⟨y5,y5'⟩:=y5;and_intros<;>first | assumption | decide | omega
  ·rw[hz1] at hdiff
   exact G2u hX hY hcase hdiff hO hW0 hW d5 d5' hS

end

section

def D0g:B2
 | [.v (.a [.ob (.fp a)])]=>some ([],.v (.a [.ob (.p (inP a))]),[])
 | _=>none
def H9f:Env:=qeE.set (C6 qeE.fn 78 D0g)
theorem H1c:A9 Tryz.prog H9f:=A8 B5w 78 D0g (A4 Tryz.func78 rfl rfl) fun args o r es h _=>by
 unfold D0g at h;split at h
 ·cases h;exact G7m _
 ·cases h
def C2z:B2
 | [.v (.a [.ob (.p x)])]=>some ([],.v (.a [.ob (.fp (D4 x))]),[])
 | _=>none
def H9g:Env:=H9f.set (C6 H9f.fn 76 C2z)
theorem H1d:A9 Tryz.prog H9g:=A8 H1c 76 C2z (A4 Tryz.func76 rfl rfl) fun args o r es h _=>by
 unfold C2z at h;split at h
 ·cases h;exact G0g _
 ·cases h
def B1a:B2
 | [.v (.a [.ob (.p x)]),.v (.a [.ob (.p y)])]=>some ([],.v (.a [.ob (.p (x*y))]),[])
 | _=>none
def H9h:Env:=H9g.set (C6 H9g.fn 105 B1a)
theorem H1e:A9 Tryz.prog H9h:=A8 H1d 105 B1a (A4 Tryz.func105 rfl rfl) fun args o r es h _=>by
 unfold B1a at h;split at h
 ·cases h;exact E3g _ _
 ·cases h
def B5r:B2
 | [.v (.a [.ob (.p x)]),.v (.a [.ob (.p y)])]=>some ([],.v (.a [.ob (.p (x+y))]),[])
 | _=>none
def H9i:Env:=H9h.set (C6 H9h.fn 106 B5r)
theorem H1f:A9 Tryz.prog H9i:=A8 H1e 106 B5r (A4 Tryz.func106 rfl rfl) fun args o r es h _=>by
 unfold B5r at h;split at h
 ·cases h;exact F0h _ _
 ·cases h
def A9s:B2
 | [.v (.a [.ob (.p x)]),.v (.a [.ob (.p y)])]=>some ([],.v (.a [.ob (.p (x-y))]),[])
 | _=>none
def qeF:Env:=H9i.set (C6 H9i.fn 132 A9s)
theorem D2i:A9 Tryz.prog qeF:=A8 H1f 132 A9s (A4 Tryz.func132 rfl rfl) fun args o r es h _=>by
 unfold A9s at h;split at h
 ·cases h;exact E1k _ _
 ·cases h
theorem H1z (n:Int):let b:Int:=18446744073709551616;let d:=0<=(0:Int);B5 qeF Tryz.f77 3000 [.v (.c (.int .u64 n))] [] [] []=(some ([(0<=n),(n<b),d,(0<b),d,(0<b),d,(0<b),d,(0<b),d,(0<b)],((.v (.a [(.ob (.p (inP (Fin.ofNat B6 ((n).toNat+0)))))])),[]))):=by intros;kernel_rfl
theorem I5y (x:Fp):B5 qeF Tryz.f135 3000 [.v (.a [.ob (.p x)])] [] [] []=(some ([],((.v (.a [(.ob (.p ((0:Fp)-x)))])),[]))):=by kernel_rfl
theorem I3g (x:Fp):B5 qeF Tryz.f60 3000 [.v (.a [.ob (.p x)])] [] [] []=(some ([],((.ci (.bool (ite (true=true) (decide (x=(0:Fp))) (Bool.not (decide (x=(0:Fp))))))),[]))):=by kernel_rfl
end

namespace S4

def Z3:B2
 | [.v (.c (.int .u64 x)),.v (.c (.int .u64 y))]=>some ([0<=x,x<18446744073709551616,0<=y,y<18446744073709551616],.t [.c (.int .u64 (x*y / 18446744073709551616)),.c (.int .u64 (x*y % 18446744073709551616))],[])
 | _=>none

def G6b:Env:=B4l.set (C6 B4l.fn 90 Z3)
theorem E4z:A9 Tryz.prog G6b:=
 A8 P9 90 Z3 (A4 Tryz.func90 rfl rfl) fun args o r es h ho=>by
  unfold Z3 at h;split at h
  ·cases h;exact C7e _ _ ho.1 ho.2.1 ho.2.2.1 ho.2.2.2.1
  ·cases h

theorem I3y  : B5 G6b Tryz.f59 3000 [] [] [] []=(some ([(0<=(18446744069414584321:Int)),((18446744069414584321:Int)<(18446744073709551616:Int)),(0<=(6034159408538082302:Int)),((6034159408538082302:Int)<(18446744073709551616:Int)),(0<=(3691218898639771653:Int)),((3691218898639771653:Int)<(18446744073709551616:Int)),(0<=(8353516859464449352:Int)),((8353516859464449352:Int)<(18446744073709551616:Int))],((.v (.a [(.ob (.fr (Fin.ofNat B4 52435875175126190479447740508185965837690552500527637822603658699938581184513)))])),[]))):=by kernel_rfl

def rU:U4:=Fin.ofNat B4 rN
def B4g:B2
 | []=>some ([],.v (.a [.ob (.fr rU)]),[])
 | _=>none

theorem E8q:FnD Tryz.prog 59 [] (.v (.a [.ob (.fr rU)])) []:=
 (A5 E4z Tryz.func59 I3y (by simp [B1])).conv (fun _ _ h=>h) fun y v hd=>by
  have e:rU=Fin.ofNat B4 (((18446744069414584321:Int)).toNat+(18446744073709551616*(((6034159408538082302:Int)).toNat+(18446744073709551616*(((3691218898639771653:Int)).toNat+(18446744073709551616*(((8353516859464449352:Int)).toNat+(18446744073709551616*0)))))))):=by kernel_rfl
  rw[e];exact hd

def F4i:Env:=G6b.set (C6 G6b.fn 59 B4g)
theorem C9l:A9 Tryz.prog F4i:=
 A8 E4z 59 B4g (A4 Tryz.func59 rfl rfl) fun args o r es h ho=>by
  unfold B4g at h;split at h
  ·cases h;exact E8q
  ·cases h

theorem I0e (a b c d:Int):let i:Int:=4;let j:Int:=18446744073709551616;let k:Int:=8353516859464449352;let l:Int:=1;let m:Int:=18446744069414584321;let n:Int:=6034159408538082302;let o:Int:=3691218898639771653;let p:Int:=2;let q:Int:=3;let s:Int:=0;let h:=A6 1 a m s;let t:=Prod.snd h;let f:=A6 1 b n t;let u:=Prod.snd f;let g:=A6 1 c o u;let r:=Prod.snd g;B5 F4i Tryz.f92 3000 [.v (.a [.int .u64 a,.int .u64 b,.int .u64 c,.int .u64 d])] [true,true,true,true,false,true] [] []=(some ([((decide (0<i))=true),(0<=s),(0<i),(0<=s),(0<i),(0<4),(0<=a),(0<=m),(m<j),(0<=s),(0<=l),(0<=s),(0<i),((decide (l<i))=true),(0<=l),(l<i),(0<=l),(l<i),(1<4),(0<=b),(0<=n),(n<j),(0<=t),(t<=l),(0<=l),(l<i),((decide (p<i))=true),(0<=p),(p<i),(0<=p),(p<i),(2<4),(0<=c),(0<=o),(o<j),(0<=u),(u<=l),(0<=p),(p<i),((decide (q<i))=true),(0<=q),(q<i),(0<=q),(q<i),(3<4),(0<=d),(0<=k),(k<j),(0<=r),(r<=l),(0<=q),(q<i),((decide (i<i))=false),(((Prod.snd (A6 1 d k r)) == s)=true)],((.v (.a [(.int .u64 (Prod.fst h)),(.int .u64 (Prod.fst f)),(.int .u64 (Prod.fst g)),(.int .u64 (Prod.fst (A6 1 d k r)))])),[]))):=by intros;kernel_rfl
theorem I0f (a b c d:Int):let h:Int:=4;let i:Int:=3691218898639771653;let j:Int:=18446744073709551616;let k:Int:=1;let l:Int:=18446744069414584321;let m:Int:=6034159408538082302;let n:Int:=8353516859464449352;let p:Int:=2;let q:Int:=3;let r:Int:=0;let g:=Prod.snd (A6 1 a l r);let f:=Prod.snd (A6 1 b m g);let o:=Prod.snd (A6 1 c i f);B5 F4i Tryz.f92 3000 [.v (.a [.int .u64 a,.int .u64 b,.int .u64 c,.int .u64 d])] [true,true,true,true,false,false] [] []=(some ([((decide (0<h))=true),(0<=r),(0<h),(0<=r),(0<h),(0<4),(0<=a),(0<=l),(l<j),(0<=r),(0<=k),(0<=r),(0<h),((decide (k<h))=true),(0<=k),(k<h),(0<=k),(k<h),(1<4),(0<=b),(0<=m),(m<j),(0<=g),(g<=k),(0<=k),(k<h),((decide (p<h))=true),(0<=p),(p<h),(0<=p),(p<h),(2<4),(0<=c),(0<=i),(i<j),(0<=f),(f<=k),(0<=p),(p<h),((decide (q<h))=true),(0<=q),(q<h),(0<=q),(q<h),(3<4),(0<=d),(0<=n),(n<j),(0<=o),(o<=k),(0<=q),(q<h),((decide (h<h))=false),(((Prod.snd (A6 1 d n o)) == r)=false)],((.v (.a [(.int .u64 a),(.int .u64 b),(.int .u64 c),(.int .u64 d)])),[]))):=by intros;kernel_rfl
end S4

namespace S4

def E4 (a b c d:Int):Int:=a+18446744073709551616*b+340282366920938463463374607431768211456*c+6277101735386680763835789423207666416102355444464034512896*d

def A6n:B2
 | [.v (.a [.int .u64 a,.int .u64 b,.int .u64 c,.int .u64 d])]=>some ([0<=a,a<18446744073709551616,0<=b,b<18446744073709551616,0<=c,c<18446744073709551616,0<=d,d<18446744073709551616,E4 a b c d<2*rN],.v (.a [.ob (.s (C5k (E4 a b c d).toNat))]),[])
 | _=>none

theorem D8b (a b c d:Int) (ha:0<=a) (ha1:a<18446744073709551616) (hb:0<=b) (hb1:b<18446744073709551616) (hc:0<=c) (hc1:c<18446744073709551616) (hd:0<=d) (hd1:d<18446744073709551616) (hn:E4 a b c d<2*rN) :
  FnD Tryz.prog 92 [.v (.a [.int .u64 a,.int .u64 b,.int .u64 c,.int .u64 d])] (.v (.a [.ob (.s (C5k (E4 a b c d).toNat))])) []:=by
 have r0:=I0e a b c d;dsimp only at r0;have r1:=I0f a b c d;dsimp only at r1;obtain ⟨e1,o1,o1',c1,c1'⟩:=F5 (y:=18446744069414584321) (c:=0) ha ha1 (by decide) (by decide) (by decide) (by decide)
 obtain ⟨e2,o2,o2',c2,c2'⟩:=F5 (y:=6034159408538082302) hb hb1 (by decide) (by decide) c1 c1'
 obtain ⟨e3,o3,o3',c3,c3'⟩:=F5 (y:=3691218898639771653) hc hc1 (by decide) (by decide) c2 c2'
 obtain ⟨e4,o4,o4',c4,c4'⟩:=F5 (y:=8353516859464449352) hd hd1 (by decide) (by decide) c3 c3'
 generalize hx1:A6 1 a 18446744069414584321 0=x1 at *;generalize hx2:A6 1 b 6034159408538082302 x1.2=x2 at *;generalize hx3:A6 1 c 3691218898639771653 x2.2=x3 at *;generalize hx4:A6 1 d 8353516859464449352 x3.2=x4 at *;clear hx1 hx2 hx3 hx4;unfold E4 rN at hn;have hnn:0<=E4 a b c d:=by unfold E4;omega
 have hN:((E4 a b c d).toNat:Int)=E4 a b c d:=Int.toNat_of_nonneg hnn;by_cases hz:x4.2=0
 ·refine (A5 C9l Tryz.func92 r0 ?_).conv (fun _ _ h=>h) fun y v hv=>B2i rfl ?_ hv
  ·simp only[B1,and_true,decide_eq_true_eq,decide_eq_false_iff_not,beq_iff_eq];omega
  ·refine Y8 o1 o1' o2 o2' o3 o3' o4 o4' ?_
   have e:(Ob.s (C5k (E4 a b c d).toNat)).n=(E4 a b c d).toNat-rN:=by
    rw[G2d];have h1:rN<=(E4 a b c d).toNat:=by unfold rN E4;omega
    have h2:(E4 a b c d).toNat<2*rN:=by unfold rN E4;omega
    rw[Nat.mod_eq_sub_mod h1,Nat.mod_eq_of_lt (by omega)]
   rw[e];unfold rN E4;omega
 ·refine (A5 C9l Tryz.func92 r1 ?_).conv (fun _ _ h=>h) fun y v hv=>B2i rfl ?_ hv
  ·simp only[B1,and_true,decide_eq_true_eq,decide_eq_false_iff_not,beq_eq_false_iff_ne];omega
  ·refine Y8 ha ha1 hb hb1 hc hc1 hd hd1 ?_
   have e:(Ob.s (C5k (E4 a b c d).toNat)).n=(E4 a b c d).toNat:=by
    rw[G2d];exact Nat.mod_eq_of_lt (by unfold rN E4;omega)
   rw[e,hN];rfl

end S4

namespace S4
section
variable {w0:World} {F0:Nat->Prop} {K:Kp} {ac:List Act} {Q:Exit->Act->World->Prop} {cX:Ctx} {aX:Act}

def C5d:Env:=F4i.set (C6 F4i.fn 92 A6n)
theorem A1d:A9 Tryz.prog C5d:=
 A8 C9l 92 A6n (A4 Tryz.func92 rfl rfl) fun args o r es h ho=>by
  unfold A6n at h;split at h
  ·cases h
   obtain ⟨h1,h2,h3,h4,h5,h6,h7,h8,h9,_⟩:=ho;exact D8b _ _ _ _ h1 h2 h3 h4 h5 h6 h7 h8 h9
  ·cases h

def tc0 (x y:Fr):Cfg:=⟨[.code (B9 Tryz.f47)],.normal,D7 Tryz.f47.ntmps [.v (.a [.ob (.s x)]),.v (.a [.ob (.s y)])]⟩

def B3u:List KI:=(run C5d false 3000 (tc0 dF dF:Cfg) []).cfg.k
theorem tIn (x y:Fr):let b:=(tc0 x y:Cfg);let c:Int:=0;(B1 [])->(Sim w0 F0 K ac (b.σ) cX aX)->(∀ac cY aY,Sim w0 F0 K ac (B0 208 [3,4,5,6,7,8,18,19] [.pt 32 0,.pt 48 0,.iu c,.iu c,.iu c,.iu c,(.v (.a [.ob (.s x)])),.ii c] [32,48] [(eF_ [.ob (.s y)]),(eF_ [(.ob (.s (0:Fr)))])] 160 [] []) cY aY->Wq Tryz.prog Q (B3u) ac Exit.normal aY cY.w)->Wq Tryz.prog Q (b.k) ac b.x aX cX.w:=fun ho hs hK=>
 C3v (unroll:=false) (n:=3000) (path:=[]) (o:=⟨_,_,_,_,_,_,_⟩) A1d (by kernel_rfl) (by kernel_rfl) ho hs hK
def tS (x y:Fr) (i:Nat) (t0 t1 t2 t3 :Int):St:=B0 208 [3,4,5,6,7,8,18,19] [.pt 32 0,.pt 48 0,.v (.c (.int .u64 t0)),.v (.c (.int .u64 t1)),.v (.c (.int .u64 t2)),.v (.c (.int .u64 t3)),(.v (.a [.ob (.s x)])),.v (.c (.int .i64 (i:Int)))] [32,48] [(eF_ [.ob (.s y)]),(eF_ [(.ob (.s (0:Fr)))])] 160 [] []
theorem I1c (x y:Fr) (i:Nat) (t0 t1 t2 t3:Int):let b:Int:=18446744073709551616;let c:=S4.E4 t0 t1 t2 t3;G5 C5d Tryz.f47 false 3000 (⟨E8 B3u,.normal,tS x y i t0 t1 t2 t3⟩) [false] [] []=(some ([((decide ((i:Int)<(4:Int)))=false),(0<=t0),(t0<b),(0<=t1),(t1<b),(0<=t2),(t2<b),(0<=t3),(t3<b),(c<(104871750350252380958895481016371931675381105001055275645207317399877162369026:Int))],((.v (.a [(.ob (.s (C5k (c).toNat)))])),[]))):=by intros;kernel_rfl
def G2y:List KI:=(run C5d false 77 (⟨E8 B3u,.normal,tS dF dF dF dF dF dF dF⟩:Cfg) [true]).cfg.k
theorem tA (x y:Fr) (i:Nat) (t0 t1 t2 t3:Int) {w0:World} {F0:Nat->Prop} {K:Kp} {ac:List Act} {Q:Exit->Act->World->Prop} {cX:Ctx} {aX:Act} (ho:B1 [((decide ((i:Int)<(4:Int)))=true),(0<=(i:Int)),((i:Int)<(4:Int)),(0<=(0:Int)),(0<(4:Int)),(0<(Ob.k (.s y))),(0<=(A0 (Ob.n (.s x)) ((i:Int)).toNat)),((A0 (Ob.n (.s x)) ((i:Int)).toNat)<(18446744073709551616:Int)),(0<=(A0 (Ob.n (.s y)) 0)),((A0 (Ob.n (.s y)) 0)<(18446744073709551616:Int)),(0<=(((A0 (Ob.n (.s x)) ((i:Int)).toNat)*(A0 (Ob.n (.s y)) 0)) % (18446744073709551616:Int))),(0<=t0),(t0<(18446744073709551616:Int)),(0<=(0:Int)),(0<=(1:Int)),(0<=(wrap .u64 ((Prod.fst (A6 0 (((A0 (Ob.n (.s x)) ((i:Int)).toNat)*(A0 (Ob.n (.s y)) 0)) % (18446744073709551616:Int)) t0 (0:Int)))*(18446744069414584319:Int)))),((wrap .u64 ((Prod.fst (A6 0 (((A0 (Ob.n (.s x)) ((i:Int)).toNat)*(A0 (Ob.n (.s y)) 0)) % (18446744073709551616:Int)) t0 (0:Int)))*(18446744069414584319:Int)))<(18446744073709551616:Int)),(0<=(18446744069414584321:Int)),((18446744069414584321:Int)<(18446744073709551616:Int)),(0<=(((wrap .u64 ((Prod.fst (A6 0 (((A0 (Ob.n (.s x)) ((i:Int)).toNat)*(A0 (Ob.n (.s y)) 0)) % (18446744073709551616:Int)) t0 (0:Int)))*(18446744069414584319:Int)))*(18446744069414584321:Int)) % (18446744073709551616:Int))),(0<=(Prod.fst (A6 0 (((A0 (Ob.n (.s x)) ((i:Int)).toNat)*(A0 (Ob.n (.s y)) 0)) % (18446744073709551616:Int)) t0 (0:Int)))),((Prod.fst (A6 0 (((A0 (Ob.n (.s x)) ((i:Int)).toNat)*(A0 (Ob.n (.s y)) 0)) % (18446744073709551616:Int)) t0 (0:Int)))<(18446744073709551616:Int)),(0<=(0:Int)),(0<=(1:Int))]) (hs:Sim w0 F0 K ac (tS x y i t0 t1 t2 t3) cX aX) (hK:∀ac cY aY,Sim w0 F0 K ac (B0 208 [3,4,6,7,8,10,14,15,17,18,19] [.pt 32 0,.pt 48 0,.iu t1,.iu t2,.iu t3,(.iu (A0 (Ob.n (.s x)) ((i:Int)).toNat)),(.iu (wrap .u64 ((((A0 (Ob.n (.s x)) ((i:Int)).toNat)*(A0 (Ob.n (.s y)) 0)) / (18446744073709551616:Int))+(Prod.snd (A6 0 (((A0 (Ob.n (.s x)) ((i:Int)).toNat)*(A0 (Ob.n (.s y)) 0)) % (18446744073709551616:Int)) t0 (0:Int)))))),(.iu (wrap .u64 ((Prod.fst (A6 0 (((A0 (Ob.n (.s x)) ((i:Int)).toNat)*(A0 (Ob.n (.s y)) 0)) % (18446744073709551616:Int)) t0 (0:Int)))*(18446744069414584319:Int)))),(.iu (wrap .u64 ((((wrap .u64 ((Prod.fst (A6 0 (((A0 (Ob.n (.s x)) ((i:Int)).toNat)*(A0 (Ob.n (.s y)) 0)) % (18446744073709551616:Int)) t0 (0:Int)))*(18446744069414584319:Int)))*(18446744069414584321:Int)) / (18446744073709551616:Int))+(Prod.snd (A6 0 (((wrap .u64 ((Prod.fst (A6 0 (((A0 (Ob.n (.s x)) ((i:Int)).toNat)*(A0 (Ob.n (.s y)) 0)) % (18446744073709551616:Int)) t0 (0:Int)))*(18446744069414584319:Int)))*(18446744069414584321:Int)) % (18446744073709551616:Int)) (Prod.fst (A6 0 (((A0 (Ob.n (.s x)) ((i:Int)).toNat)*(A0 (Ob.n (.s y)) 0)) % (18446744073709551616:Int)) t0 (0:Int))) (0:Int)))))),(.v (.a [.ob (.s x)])),(.ii (i:Int))] [32,48] [(eF_ [.ob (.s y)]),(eF_ [(.ob (.s (0:Fr)))])] 880 [] []) cY aY->Wq Tryz.prog Q (G2y) ac Exit.normal aY cY.w):Wq Tryz.prog Q (E8 B3u) ac .normal aX cX.w:=
 A1l (unroll:=false) (n:=77) (path:=[true]) (o:=⟨_,_,_,_,_,_,_⟩) A1d (by kernel_rfl) (by kernel_rfl) ho hs hK
def tS1 (x y:Fr) (i:Nat) (t1 t2 t3 xi q up dn :Int):St:=B0 208 [3,4,6,7,8,10,14,15,17,18,19] [.pt 32 0,.pt 48 0,.iu t1,.iu t2,.iu t3,.v (.c (.int .u64 xi)),.v (.c (.int .u64 up)),.v (.c (.int .u64 q)),.v (.c (.int .u64 dn)),(.v (.a [.ob (.s x)])),(.ii (i:Int))] [32,48] [(eF_ [.ob (.s y)]),(eF_ [(.ob (.s (0:Fr)))])] 880 [] []
def G2z:List KI:=(run C5d false 94 (⟨G2y,.normal,tS1 dF dF dF dF dF dF dF dF dF dF⟩:Cfg) []).cfg.k
theorem tB (x y:Fr) (i:Nat) (t1 t2 t3 xi q up dn:Int):let c:Int:=18446744073709551616;let f:=A0 (Ob.n (.s y)) 1;let g:Int:=6034159408538082302;let h:Int:=0;let j:=A6 0 ((xi*f) % c) t1 h;let b:=A6 0 (Prod.fst j) up h;let l:=0<=(1:Int);let o:=Prod.fst b;let d:=A6 0 ((q*g) % c) o h;let m:=A6 0 (Prod.fst d) dn h;B1 [l,((1:Int)<(4:Int)),(1<(Ob.k (.s y))),(0<=xi),(xi<c),(0<=f),(f<c),(0<=((xi*f) % c)),(0<=t1),(t1<c),(0<=h),l,(0<=(Prod.fst j)),(0<=up),(up<c),(0<=h),l,(0<=q),(q<c),(0<=g),(g<c),(0<=((q*g) % c)),(0<=o),(o<c),(0<=h),l,(0<=(Prod.fst d)),(0<=dn),(dn<c),(0<=h),l]->Sg Tryz.prog (tS1 x y i t1 t2 t3 xi q up dn) (B0 208 [3,4,5,7,8,10,14,15,17,18,19] [.pt 32 0,.pt 48 0,(.iu (Prod.fst m)),.iu t2,.iu t3,.iu xi,(.iu (wrap .u64 ((wrap .u64 (((xi*f) / c)+(Prod.snd j)))+(Prod.snd b)))),.iu q,(.iu (wrap .u64 ((wrap .u64 (((q*g) / c)+(Prod.snd d)))+(Prod.snd m)))),(.v (.a [.ob (.s x)])),(.ii (i:Int))] [32,48] [(eF_ [.ob (.s y)]),(eF_ [(.ob (.s (0:Fr)))])] 1904 [] []) .normal (G2z) (G2y):=sgA false 94 [] A1d
def tS2 (x y:Fr) (i:Nat) (n0 t2 t3 xi q up dn :Int):St:=B0 208 [3,4,5,7,8,10,14,15,17,18,19] [.pt 32 0,.pt 48 0,.v (.c (.int .u64 n0)),.iu t2,.iu t3,.iu xi,.v (.c (.int .u64 up)),.iu q,.v (.c (.int .u64 dn)),(.v (.a [.ob (.s x)])),(.ii (i:Int))] [32,48] [(eF_ [.ob (.s y)]),(eF_ [(.ob (.s (0:Fr)))])] 1904 [] []
def H2h:List KI:=(run C5d false 94 (⟨G2z,.normal,tS2 dF dF dF dF dF dF dF dF dF dF⟩:Cfg) []).cfg.k
theorem tC (x y:Fr) (i:Nat) (n0 t2 t3 xi q up dn:Int):let c:Int:=18446744073709551616;let f:=A0 (Ob.n (.s y)) 2;let g:Int:=3691218898639771653;let h:Int:=0;let j:=A6 0 ((xi*f) % c) t2 h;let b:=A6 0 (Prod.fst j) up h;let l:=0<=(1:Int);let o:=Prod.fst b;let d:=A6 0 ((q*g) % c) o h;let m:=A6 0 (Prod.fst d) dn h;B1 [(0<=(2:Int)),((2:Int)<(4:Int)),(2<(Ob.k (.s y))),(0<=xi),(xi<c),(0<=f),(f<c),(0<=((xi*f) % c)),(0<=t2),(t2<c),(0<=h),l,(0<=(Prod.fst j)),(0<=up),(up<c),(0<=h),l,(0<=q),(q<c),(0<=g),(g<c),(0<=((q*g) % c)),(0<=o),(o<c),(0<=h),l,(0<=(Prod.fst d)),(0<=dn),(dn<c),(0<=h),l]->Sg Tryz.prog (tS2 x y i n0 t2 t3 xi q up dn) (B0 208 [3,4,5,6,8,10,14,15,17,18,19] [.pt 32 0,.pt 48 0,.iu n0,(.iu (Prod.fst m)),.iu t3,.iu xi,(.iu (wrap .u64 ((wrap .u64 (((xi*f) / c)+(Prod.snd j)))+(Prod.snd b)))),.iu q,(.iu (wrap .u64 ((wrap .u64 (((q*g) / c)+(Prod.snd d)))+(Prod.snd m)))),(.v (.a [.ob (.s x)])),(.ii (i:Int))] [32,48] [(eF_ [.ob (.s y)]),(eF_ [(.ob (.s (0:Fr)))])] 2928 [] []) .normal (H2h) (G2z):=sgA false 94 [] A1d
def tS3 (x y:Fr) (i:Nat) (n0 n1 t3 xi q up dn :Int):St:=B0 208 [3,4,5,6,8,10,14,15,17,18,19] [.pt 32 0,.pt 48 0,.iu n0,.v (.c (.int .u64 n1)),.iu t3,.iu xi,.v (.c (.int .u64 up)),.iu q,.v (.c (.int .u64 dn)),(.v (.a [.ob (.s x)])),(.ii (i:Int))] [32,48] [(eF_ [.ob (.s y)]),(eF_ [(.ob (.s (0:Fr)))])] 2928 [] []
theorem tD (x y:Fr) (i:Nat) (n0 n1 t3 xi q up dn:Int):let c:Int:=18446744073709551616;let f:=A0 (Ob.n (.s y)) 3;let g:Int:=8353516859464449352;let h:Int:=0;let j:=A6 0 ((xi*f) % c) t3 h;let b:=A6 0 (Prod.fst j) up h;let l:=0<=(1:Int);let o:=Prod.fst b;let d:=A6 0 ((q*g) % c) o h;let m:=A6 0 (Prod.fst d) dn h;B1 [(0<=(3:Int)),((3:Int)<(4:Int)),(3<(Ob.k (.s y))),(0<=xi),(xi<c),(0<=f),(f<c),(0<=((xi*f) % c)),(0<=t3),(t3<c),(0<=h),l,(0<=(Prod.fst j)),(0<=up),(up<c),(0<=h),l,(0<=q),(q<c),(0<=g),(g<c),(0<=((q*g) % c)),(0<=o),(o<c),(0<=h),l,(0<=(Prod.fst d)),(0<=dn),(dn<c),(0<=h),l]->Sg Tryz.prog (tS3 x y i n0 n1 t3 xi q up dn) (B0 208 [3,4,5,6,7,8,18,19] [.pt 32 0,.pt 48 0,.iu n0,.iu n1,(.iu (Prod.fst m)),(.iu (wrap .u64 ((wrap .u64 ((wrap .u64 (((q*g) / c)+(Prod.snd d)))+(Prod.snd m)))+(wrap .u64 ((wrap .u64 (((xi*f) / c)+(Prod.snd j)))+(Prod.snd b)))))),(.v (.a [.ob (.s x)])),(.ii (wrap .i64 ((i:Int)+1)))] [32,48] [(eF_ [.ob (.s y)]),(eF_ [(.ob (.s (0:Fr)))])] 4048 [] []) .normal (M7 B3u) (H2h):=sgA false 3000 [] A1d
end
end S4

end
end Go.Proofs.YtefimjofjjdndaaGreat
