/- Parts of a proof, one behind the other: Ty, WMul, PMul, WRq, PRq, WTm, PTm, WRc, PRc, WPq, PPq, PPl, WIq, PIq, WPs, PPs, WPt, WSred, PSred. No conditions. -/
import Derived.Test.YtefimjofjjdndaaGreatProg
import Derived.Test.YtefimjofjjdndaaGreatPmL
open Go.IntKind (wrap)
namespace Go.Proofs.YtefimjofjjdndaaGreat
noncomputable section
section

set_option maxRecDepth 10000 in
def tyRows:List (Nat×TyI):=[
 (2,⟨1,false,8,[.int .i64 0],[],none,none,(some .i64),none,[true]⟩),
 (3,⟨1,false,8,[.int .i64 0],[],none,none,(some .i64),(some (.int [])),[true]⟩),
 (4,⟨1,false,1,[.lit false],[],none,none,none,none,[false]⟩),
 (5,⟨1,false,1,[.int .u8 0],[],none,none,(some .u8),none,[true]⟩),
 (19,⟨1,true,8,[.val (.pointer none)],[(0,1,false)],none,none,none,none,[]⟩),
 (21,⟨1,false,4,[.int .i32 0],[],none,none,(some .i32),none,[true]⟩),
 (22,⟨1,false,8,[.int .u64 0],[],none,none,(some .u64),(some (.u64 [])),[true]⟩),
 (23,⟨6,true,48,[.int .u64 0,.int .u64 0,.int .u64 0,.int .u64 0,.int .u64 0,.int .u64 0],[],(some (6,22)),none,none,none,[true,true,true,true,true,true]⟩),
 (24,⟨6,true,48,[.ob (.fp 0)],[],(some (6,22)),none,none,none,[true,true,true,true,true,true]⟩),
 (25,⟨13,true,104,[.ob (.fp 0),.ob (.fp 0),.lit false],[(0,6,true),(6,6,true),(12,1,false)],none,none,none,none,[true,true,true,true,true,true,true,true,true,true,true,true,false]⟩),
 (26,⟨13,true,104,[.ob (.fp 0),.ob (.fp 0),.lit false],[(0,6,true),(6,6,true),(12,1,false)],none,none,none,(some (.g1 [])),[true,true,true,true,true,true,true,true,true,true,true,true,false]⟩),
 (27,⟨12,true,96,[.ob (.fp 0),.ob (.fp 0)],[(0,6,true),(6,6,true)],none,none,none,none,[true,true,true,true,true,true,true,true,true,true,true,true]⟩),
 (28,⟨12,true,96,[.ob (.fp 0),.ob (.fp 0)],[(0,6,true),(6,6,true)],none,none,none,none,[true,true,true,true,true,true,true,true,true,true,true,true]⟩),
 (29,⟨25,true,200,[.ob (.fp 0),.ob (.fp 0),.ob (.fp 0),.ob (.fp 0),.lit false],[(0,12,true),(12,12,true),(24,1,false)],none,none,none,none,[true,true,true,true,true,true,true,true,true,true,true,true,true,true,true,true,true,true,true,true,true,true,true,true,false]⟩),
 (30,⟨25,true,200,[.ob (.fp 0),.ob (.fp 0),.ob (.fp 0),.ob (.fp 0),.lit false],[(0,12,true),(12,12,true),(24,1,false)],none,none,none,(some (.g2 [])),[true,true,true,true,true,true,true,true,true,true,true,true,true,true,true,true,true,true,true,true,true,true,true,true,false]⟩),
 (31,⟨4,true,32,[.int .u64 0,.int .u64 0,.int .u64 0,.int .u64 0],[],(some (4,22)),none,none,none,[true,true,true,true]⟩),
 (32,⟨4,true,32,[.ob (.fr 0)],[],(some (4,22)),none,none,(some (.fr [])),[true,true,true,true]⟩),
 (33,⟨36,true,288,[.ob (.fp 0),.ob (.fp 0),.ob (.fp 0),.ob (.fp 0),.ob (.fp 0),.ob (.fp 0)],[(0,12,true),(12,12,true),(24,12,true)],none,none,none,none,[true,true,true,true,true,true,true,true,true,true,true,true,true,true,true,true,true,true,true,true,true,true,true,true,true,true,true,true,true,true,true,true,true,true,true,true]⟩),
 (34,⟨36,true,288,[.ob (.fp 0),.ob (.fp 0),.ob (.fp 0),.ob (.fp 0),.ob (.fp 0),.ob (.fp 0)],[(0,12,true),(12,12,true),(24,12,true)],none,none,none,none,[true,true,true,true,true,true,true,true,true,true,true,true,true,true,true,true,true,true,true,true,true,true,true,true,true,true,true,true,true,true,true,true,true,true,true,true]⟩),
 (35,⟨72,true,576,[.ob (.fp 0),.ob (.fp 0),.ob (.fp 0),.ob (.fp 0),.ob (.fp 0),.ob (.fp 0),.ob (.fp 0),.ob (.fp 0),.ob (.fp 0),.ob (.fp 0),.ob (.fp 0),.ob (.fp 0)],[(0,36,true),(36,36,true)],none,none,none,none,[true,true,true,true,true,true,true,true,true,true,true,true,true,true,true,true,true,true,true,true,true,true,true,true,true,true,true,true,true,true,true,true,true,true,true,true,true,true,true,true,true,true,true,true,true,true,true,true,true,true,true,true,true,true,true,true,true,true,true,true,true,true,true,true,true,true,true,true,true,true,true,true]⟩),
 (36,⟨72,true,576,[.ob (.fp 0),.ob (.fp 0),.ob (.fp 0),.ob (.fp 0),.ob (.fp 0),.ob (.fp 0),.ob (.fp 0),.ob (.fp 0),.ob (.fp 0),.ob (.fp 0),.ob (.fp 0),.ob (.fp 0)],[(0,36,true),(36,36,true)],none,none,none,none,[true,true,true,true,true,true,true,true,true,true,true,true,true,true,true,true,true,true,true,true,true,true,true,true,true,true,true,true,true,true,true,true,true,true,true,true,true,true,true,true,true,true,true,true,true,true,true,true,true,true,true,true,true,true,true,true,true,true,true,true,true,true,true,true,true,true,true,true,true,true,true,true]⟩),
 (37,⟨1,false,8,[.int .i64 0],[],none,none,(some .i64),none,[true]⟩),
 (49,⟨1,false,24,[.val (.slice none 0 0)],[],none,(some 32),none,(some (.frs [])),[]⟩),
 (50,⟨1,false,24,[.val (.slice none 0 0)],[],none,(some 26),none,none,[]⟩),
 (51,⟨1,false,24,[.val (.slice none 0 0)],[],none,(some 30),none,none,[]⟩),
 (58,⟨34,true,272,[.ob (.fp 0),.ob (.fp 0),.lit false,.ob (.fr 0),.ob (.fr 0),.ob (.fp 0),.ob (.fp 0),.lit false],[(0,13,true),(13,4,true),(17,4,true),(21,13,true)],none,none,none,none,[true,true,true,true,true,true,true,true,true,true,true,true,false,true,true,true,true,true,true,true,true,true,true,true,true,true,true,true,true,true,true,true,true,false]⟩),
 (59,⟨34,true,272,[.ob (.fp 0),.ob (.fp 0),.lit false,.ob (.fr 0),.ob (.fr 0),.ob (.fp 0),.ob (.fp 0),.lit false],[(0,13,true),(13,4,true),(17,4,true),(21,13,true)],none,none,none,none,[true,true,true,true,true,true,true,true,true,true,true,true,false,true,true,true,true,true,true,true,true,true,true,true,true,true,true,true,true,true,true,true,true,false]⟩),
 (66,⟨26,true,224,[.sl (.g1 []),.ob (.fp 0),.ob (.fp 0),.ob (.fp 0),.ob (.fp 0),.lit false],[(0,1,false),(1,25,true)],none,none,none,none,[]⟩),
 (67,⟨26,true,224,[.sl (.g1 []),.ob (.fp 0),.ob (.fp 0),.ob (.fp 0),.ob (.fp 0),.lit false],[(0,1,false),(1,25,true)],none,none,none,none,[]⟩),
 (77,⟨6,true,48,[.ob (.p 0)],[],(some (6,22)),none,none,none,[true,true,true,true,true,true]⟩),
 (78,⟨12,true,96,[.ob (.p 0),.ob (.p 0)],[(0,6,true),(6,6,true)],none,none,none,none,[true,true,true,true,true,true,true,true,true,true,true,true]⟩),
 (79,⟨12,true,96,[.ob (.p 0),.ob (.p 0)],[(0,6,true),(6,6,true)],none,none,none,none,[true,true,true,true,true,true,true,true,true,true,true,true]⟩),
 (80,⟨36,true,288,[.ob (.p 0),.ob (.p 0),.ob (.p 0),.ob (.p 0),.ob (.p 0),.ob (.p 0)],[(0,12,true),(12,12,true),(24,12,true)],none,none,none,none,[true,true,true,true,true,true,true,true,true,true,true,true,true,true,true,true,true,true,true,true,true,true,true,true,true,true,true,true,true,true,true,true,true,true,true,true]⟩),
 (81,⟨36,true,288,[.ob (.p 0),.ob (.p 0),.ob (.p 0),.ob (.p 0),.ob (.p 0),.ob (.p 0)],[(0,12,true),(12,12,true),(24,12,true)],none,none,none,none,[true,true,true,true,true,true,true,true,true,true,true,true,true,true,true,true,true,true,true,true,true,true,true,true,true,true,true,true,true,true,true,true,true,true,true,true]⟩),
 (82,⟨72,true,576,[.ob (.p 0),.ob (.p 0),.ob (.p 0),.ob (.p 0),.ob (.p 0),.ob (.p 0),.ob (.p 0),.ob (.p 0),.ob (.p 0),.ob (.p 0),.ob (.p 0),.ob (.p 0)],[(0,36,true),(36,36,true)],none,none,none,none,[true,true,true,true,true,true,true,true,true,true,true,true,true,true,true,true,true,true,true,true,true,true,true,true,true,true,true,true,true,true,true,true,true,true,true,true,true,true,true,true,true,true,true,true,true,true,true,true,true,true,true,true,true,true,true,true,true,true,true,true,true,true,true,true,true,true,true,true,true,true,true,true]⟩),
 (83,⟨72,true,576,[.ob (.p 0),.ob (.p 0),.ob (.p 0),.ob (.p 0),.ob (.p 0),.ob (.p 0),.ob (.p 0),.ob (.p 0),.ob (.p 0),.ob (.p 0),.ob (.p 0),.ob (.p 0)],[(0,36,true),(36,36,true)],none,none,none,none,[true,true,true,true,true,true,true,true,true,true,true,true,true,true,true,true,true,true,true,true,true,true,true,true,true,true,true,true,true,true,true,true,true,true,true,true,true,true,true,true,true,true,true,true,true,true,true,true,true,true,true,true,true,true,true,true,true,true,true,true,true,true,true,true,true,true,true,true,true,true,true,true]⟩),
 (88,⟨18,true,144,[.ob (.p 0),.ob (.p 0),.ob (.p 0)],[(0,6,true),(6,6,true),(12,6,true)],none,none,none,none,[true,true,true,true,true,true,true,true,true,true,true,true,true,true,true,true,true,true]⟩),
 (89,⟨18,true,144,[.ob (.p 0),.ob (.p 0),.ob (.p 0)],[(0,6,true),(6,6,true),(12,6,true)],none,none,none,(some (.pt [])),[true,true,true,true,true,true,true,true,true,true,true,true,true,true,true,true,true,true]⟩),
 (93,⟨36,true,288,[.ob (.p 0),.ob (.p 0),.ob (.p 0),.ob (.p 0),.ob (.p 0),.ob (.p 0)],[(0,12,true),(12,12,true),(24,12,true)],none,none,none,none,[true,true,true,true,true,true,true,true,true,true,true,true,true,true,true,true,true,true,true,true,true,true,true,true,true,true,true,true,true,true,true,true,true,true,true,true]⟩),
 (94,⟨36,true,288,[.ob (.p 0),.ob (.p 0),.ob (.p 0),.ob (.p 0),.ob (.p 0),.ob (.p 0)],[(0,12,true),(12,12,true),(24,12,true)],none,none,none,(some (.pt2 [])),[true,true,true,true,true,true,true,true,true,true,true,true,true,true,true,true,true,true,true,true,true,true,true,true,true,true,true,true,true,true,true,true,true,true,true,true]⟩),
 (98,⟨4,true,32,[.ob (.s 0)],[],(some (4,22)),none,none,(some (.s [])),[true,true,true,true]⟩),
 (116,⟨1,false,24,[.val (.slice none 0 0)],[],none,(some 98),none,none,[]⟩),
 (126,⟨288,true,2304,[.ob (.p 0),.ob (.p 0),.ob (.p 0),.ob (.p 0),.ob (.p 0),.ob (.p 0),.ob (.p 0),.ob (.p 0),.ob (.p 0),.ob (.p 0),.ob (.p 0),.ob (.p 0),.ob (.p 0),.ob (.p 0),.ob (.p 0),.ob (.p 0),.ob (.p 0),.ob (.p 0),.ob (.p 0),.ob (.p 0),.ob (.p 0),.ob (.p 0),.ob (.p 0),.ob (.p 0),.ob (.p 0),.ob (.p 0),.ob (.p 0),.ob (.p 0),.ob (.p 0),.ob (.p 0),.ob (.p 0),.ob (.p 0),.ob (.p 0),.ob (.p 0),.ob (.p 0),.ob (.p 0),.ob (.p 0),.ob (.p 0),.ob (.p 0),.ob (.p 0),.ob (.p 0),.ob (.p 0),.ob (.p 0),.ob (.p 0),.ob (.p 0),.ob (.p 0),.ob (.p 0),.ob (.p 0)],[],(some (16,89)),none,none,(some (.ptt [])),[]⟩),
 (136,⟨576,true,4608,[.ob (.p 0),.ob (.p 0),.ob (.p 0),.ob (.p 0),.ob (.p 0),.ob (.p 0),.ob (.p 0),.ob (.p 0),.ob (.p 0),.ob (.p 0),.ob (.p 0),.ob (.p 0),.ob (.p 0),.ob (.p 0),.ob (.p 0),.ob (.p 0),.ob (.p 0),.ob (.p 0),.ob (.p 0),.ob (.p 0),.ob (.p 0),.ob (.p 0),.ob (.p 0),.ob (.p 0),.ob (.p 0),.ob (.p 0),.ob (.p 0),.ob (.p 0),.ob (.p 0),.ob (.p 0),.ob (.p 0),.ob (.p 0),.ob (.p 0),.ob (.p 0),.ob (.p 0),.ob (.p 0),.ob (.p 0),.ob (.p 0),.ob (.p 0),.ob (.p 0),.ob (.p 0),.ob (.p 0),.ob (.p 0),.ob (.p 0),.ob (.p 0),.ob (.p 0),.ob (.p 0),.ob (.p 0),.ob (.p 0),.ob (.p 0),.ob (.p 0),.ob (.p 0),.ob (.p 0),.ob (.p 0),.ob (.p 0),.ob (.p 0),.ob (.p 0),.ob (.p 0),.ob (.p 0),.ob (.p 0),.ob (.p 0),.ob (.p 0),.ob (.p 0),.ob (.p 0),.ob (.p 0),.ob (.p 0),.ob (.p 0),.ob (.p 0),.ob (.p 0),.ob (.p 0),.ob (.p 0),.ob (.p 0),.ob (.p 0),.ob (.p 0),.ob (.p 0),.ob (.p 0),.ob (.p 0),.ob (.p 0),.ob (.p 0),.ob (.p 0),.ob (.p 0),.ob (.p 0),.ob (.p 0),.ob (.p 0),.ob (.p 0),.ob (.p 0),.ob (.p 0),.ob (.p 0),.ob (.p 0),.ob (.p 0),.ob (.p 0),.ob (.p 0),.ob (.p 0),.ob (.p 0),.ob (.p 0),.ob (.p 0)],[],(some (16,94)),none,none,none,[]⟩),
 (143,⟨1,false,24,[.val (.slice none 0 0)],[],none,(some 22),none,none,[]⟩),
 (154,⟨1,false,24,[.val (.slice none 0 0)],[],none,(some 89),none,none,[]⟩),
 (159,⟨1,false,24,[.val (.slice none 0 0)],[],none,(some 126),none,none,[]⟩),
 (162,⟨1,false,24,[.val (.slice none 0 0)],[],none,(some 49),none,none,[]⟩),
 (173,⟨10,true,80,[.int .u64 0,.int .u64 0,.int .u64 0,.int .u64 0,.int .u64 0,.int .u64 0,.int .u64 0,.int .u64 0,.int .u64 0,.int .u64 0],[],(some (10,22)),none,none,none,[true,true,true,true,true,true,true,true,true,true]⟩),
 (175,⟨1,false,8,[.int .u64 0],[],none,none,(some .u64),none,[true]⟩),
 (177,⟨1,false,24,[.val (.slice none 0 0)],[],none,(some 178),none,none,[]⟩),
 (178,⟨1,false,24,[.val (.slice none 0 0)],[],none,(some 3),none,(some (.ints [])),[]⟩),
 (181,⟨72,true,576,[.ob (.fp 0),.ob (.fp 0),.ob (.fp 0),.ob (.fp 0),.ob (.fp 0),.ob (.fp 0),.ob (.fp 0),.ob (.fp 0),.ob (.fp 0),.ob (.fp 0),.ob (.fp 0),.ob (.fp 0)],[],(some (6,28)),none,none,none,[true,true,true,true,true,true,true,true,true,true,true,true,true,true,true,true,true,true,true,true,true,true,true,true,true,true,true,true,true,true,true,true,true,true,true,true,true,true,true,true,true,true,true,true,true,true,true,true,true,true,true,true,true,true,true,true,true,true,true,true,true,true,true,true,true,true,true,true,true,true,true,true]⟩),
 (186,⟨8,true,64,[.int .u64 0,.int .u64 0,.int .u64 0,.int .u64 0,.int .u64 0,.int .u64 0,.int .u64 0,.int .u64 0],[],(some (8,22)),none,none,none,[true,true,true,true,true,true,true,true]⟩),
 (187,⟨306,true,2448,[.ob (.p 0),.ob (.p 0),.ob (.p 0),.ob (.p 0),.ob (.p 0),.ob (.p 0),.ob (.p 0),.ob (.p 0),.ob (.p 0),.ob (.p 0),.ob (.p 0),.ob (.p 0),.ob (.p 0),.ob (.p 0),.ob (.p 0),.ob (.p 0),.ob (.p 0),.ob (.p 0),.ob (.p 0),.ob (.p 0),.ob (.p 0),.ob (.p 0),.ob (.p 0),.ob (.p 0),.ob (.p 0),.ob (.p 0),.ob (.p 0),.ob (.p 0),.ob (.p 0),.ob (.p 0),.ob (.p 0),.ob (.p 0),.ob (.p 0),.ob (.p 0),.ob (.p 0),.ob (.p 0),.ob (.p 0),.ob (.p 0),.ob (.p 0),.ob (.p 0),.ob (.p 0),.ob (.p 0),.ob (.p 0),.ob (.p 0),.ob (.p 0),.ob (.p 0),.ob (.p 0),.ob (.p 0),.ob (.p 0),.ob (.p 0),.ob (.p 0)],[],(some (17,89)),none,none,none,[]⟩),
 (188,⟨306,true,2448,[.ob (.p 0),.ob (.p 0),.ob (.p 0),.ob (.p 0),.ob (.p 0),.ob (.p 0),.ob (.p 0),.ob (.p 0),.ob (.p 0),.ob (.p 0),.ob (.p 0),.ob (.p 0),.ob (.p 0),.ob (.p 0),.ob (.p 0),.ob (.p 0),.ob (.p 0),.ob (.p 0),.ob (.p 0),.ob (.p 0),.ob (.p 0),.ob (.p 0),.ob (.p 0),.ob (.p 0),.ob (.p 0),.ob (.p 0),.ob (.p 0),.ob (.p 0),.ob (.p 0),.ob (.p 0),.ob (.p 0),.ob (.p 0),.ob (.p 0),.ob (.p 0),.ob (.p 0),.ob (.p 0),.ob (.p 0),.ob (.p 0),.ob (.p 0),.ob (.p 0),.ob (.p 0),.ob (.p 0),.ob (.p 0),.ob (.p 0),.ob (.p 0),.ob (.p 0),.ob (.p 0),.ob (.p 0),.ob (.p 0),.ob (.p 0),.ob (.p 0)],[],(some (17,89)),none,none,none,[]⟩),
 (189,⟨1,false,8,[.val (.pointer none)],[],none,none,none,none,[]⟩),
 (198,⟨1,false,4,[.int .u32 0],[],none,none,(some .u32),none,[true]⟩),
 (202,⟨1,false,8,[.val (.pointer none)],[],none,none,none,none,[]⟩)]

theorem tyOk:(tyRows.all fun r=>tyCheck Tryz.prog r.1 r.2)=true:=by kernel_rfl

theorem mixed:Tryz.prog.follows .mixedOrders=true:=by kernel_rfl

def inlFn (f:Nat):Option Func:=
 if f=50 then some Tryz.f50 else
 if f=80 then some Tryz.f80 else
 if f=88 then some Tryz.f88 else
 none

theorem inl_ok:∀f fn,inlFn f=some fn→Tryz.prog.funcs[f]? = some fn∧Enters Tryz.prog f:=by
 intro f fn h
 unfold inlFn at h
 split at h
 ·rename_i hf;cases h;subst hf;exact ⟨Tryz.func50,enters_of Tryz.func50 rfl rfl⟩
 split at h
 ·rename_i hf;cases h;subst hf;exact ⟨Tryz.func80,enters_of Tryz.func80 rfl rfl⟩
 split at h
 ·rename_i hf;cases h;subst hf;exact ⟨Tryz.func88,enters_of Tryz.func88 rfl rfl⟩
 cases h

def exFn (f:Nat):Option Nat:=
 if f=91 then some 0 else if f=109 then some 1 else none

theorem ex_ok:∀f k,exFn f=some k→∀(x y c:Int) (w:World),0≤x→0≤y→y<18446744073709551616→0≤c→c≤1 →
  (callFunc f #[.int .u64 x,.int .u64 y,.int .u64 c]).run Tryz.prog w = .ok (.value (.tuple #[.int .u64 (exOut k x y c).1,.int .u64 (exOut k x y c).2])) w:=by
 intro f k h x y c w h1 h2 h3 h4 h5
 unfold exFn at h
 split at h
 ·rename_i hf;cases h;subst hf;exact ex_add Tryz.func91 rfl rfl (by kernel_rfl) (by kernel_rfl) x y c w h1 h2 h4 h5
 split at h
 ·rename_i hf;cases h;subst hf;exact ex_sub Tryz.func109 rfl rfl (by kernel_rfl) (by kernel_rfl) x y c w h1 h2 h3 h4 h5
 cases h

def env0:Env:=⟨tyGet tyRows,fun _=>none,fun _=>none,inlFn,exFn,fun _=>none⟩

theorem env0_ok:EnvOk Tryz.prog env0:=
 ⟨fun t i h=>tyGet_ok tyRows tyOk t i h,mixed,fun f s h=>(by cases h),fun f s h=>(by cases h),inl_ok,ex_ok,fun t l h=>(by cases h)⟩

end

section

--@env env0 env0_ok
theorem mul64R (x y:Int):fnRes env0 Tryz.f90 3000 [.v (.c (.int .u64 x)),.v (.c (.int .u64 y))] [] [] []=(some ([(0≤(32:Int)),(0≤(32:Int)),(0≤(32:Int)),(0≤(32:Int)),(0≤(32:Int))],((.t [(.c (.int .u64 (wrap .u64 ((wrap .u64 ((wrap .u64 ((Int.fdiv x (4294967296:Int))*(Int.fdiv y (4294967296:Int))))+(Int.fdiv (wrap .u64 ((wrap .u64 ((Int.fdiv x (4294967296:Int))*(bitsOp BinOp.and IntKind.u64 y (4294967295:Int))))+(Int.fdiv (wrap .u64 ((bitsOp BinOp.and IntKind.u64 x (4294967295:Int))*(bitsOp BinOp.and IntKind.u64 y (4294967295:Int)))) (4294967296:Int)))) (4294967296:Int))))+(Int.fdiv (wrap .u64 ((bitsOp BinOp.and IntKind.u64 (wrap .u64 ((wrap .u64 ((Int.fdiv x (4294967296:Int))*(bitsOp BinOp.and IntKind.u64 y (4294967295:Int))))+(Int.fdiv (wrap .u64 ((bitsOp BinOp.and IntKind.u64 x (4294967295:Int))*(bitsOp BinOp.and IntKind.u64 y (4294967295:Int)))) (4294967296:Int)))) (4294967295:Int))+(wrap .u64 ((bitsOp BinOp.and IntKind.u64 x (4294967295:Int))*(Int.fdiv y (4294967296:Int)))))) (4294967296:Int)))))),(.c (.int .u64 (wrap .u64 (x*y))))]),[]))):=by kernel_rfl
end

section

theorem wrap_u64 (n:Int):wrap IntKind.u64 n=n % 18446744073709551616:=rfl

theorem and32 {x:Int} (h:0≤x):bitsOp BinOp.and IntKind.u64 x (4294967295:Int)=x % 4294967296:=by
 obtain ⟨n,rfl⟩:=Int.eq_ofNat_of_zero_le h
 show wrap IntKind.u64 ((BitVec.ofInt 64 (n:Int) &&& BitVec.ofInt 64 ((4294967295:Nat):Int)).toNat:Int)=_
 rw[BitVec.ofInt_natCast,BitVec.ofInt_natCast,BitVec.toNat_and,BitVec.toNat_ofNat,BitVec.toNat_ofNat]
 have e:4294967295 % 2 ^ 64=2 ^ 32-1:=by decide
 rw[e,Nat.and_two_pow_sub_one_eq_mod,wrap_u64]
 omega

theorem shr32 (x:Int):Int.fdiv x 4294967296=x / 4294967296:=by
 exact Int.fdiv_eq_ediv_of_nonneg x (by decide)

theorem mul32 {a b:Int} (ha:0≤a) (ha1:a<4294967296) (hb:0≤b) (hb1:b<4294967296):0≤a*b∧a*b≤18446744065119617025:=by
 refine ⟨Int.mul_nonneg ha hb,?_⟩
 have:a*b≤4294967295*4294967295:=Int.mul_le_mul (by omega) (by omega) hb (by decide)
 omega

/-- Four products of halves. -/
theorem halves {x y:Int}:x*y=(x / 4294967296)*(y / 4294967296)*18446744073709551616+((x / 4294967296)*(y % 4294967296)+(x % 4294967296)*(y / 4294967296))*4294967296+(x % 4294967296)*(y % 4294967296):=by
 have hx:x=4294967296*(x / 4294967296)+x % 4294967296:=(Int.mul_ediv_add_emod x 4294967296).symm
 have hy:y=4294967296*(y / 4294967296)+y % 4294967296:=(Int.mul_ediv_add_emod y 4294967296).symm
 generalize x / 4294967296=a at *
 generalize x % 4294967296=b at *
 generalize y / 4294967296=c at *
 generalize y % 4294967296=d at *
 subst hx hy
 simp only[Int.add_mul,Int.mul_add]
 have e1:4294967296*a*(4294967296*c)=a*c*18446744073709551616:=by
  rw[Int.mul_assoc,Int.mul_left_comm a]
  omega
 have e2:4294967296*a*d=a*d*4294967296:=by rw[Int.mul_assoc];omega
 have e3:b*(4294967296*c)=b*c*4294967296:=by rw[Int.mul_left_comm];omega
 rw[e1,e2,e3]
 omega

theorem mul64_fnd (x y:Int) (hx:0≤x) (hx1:x<18446744073709551616) (hy:0≤y) (hy1:y<18446744073709551616) :
  FnD Tryz.prog 90 [.v (.c (.int .u64 x)),.v (.c (.int .u64 y))] (.t [.c (.int .u64 (x*y / 18446744073709551616)),.c (.int .u64 (x*y % 18446744073709551616))]) []:=by
 refine (fn_sound env0_ok Tryz.func90 (mul64R x y) (by simp [AllP])).conv (fun _ _ h=>h) (fun z w hd=>?_)
 simp only[shr32] at hd
 have hx2:0≤x / 4294967296∧x / 4294967296<4294967296:=by omega
 have hy2:0≤y / 4294967296∧y / 4294967296<4294967296:=by omega
 have hx3:0≤x % 4294967296∧x % 4294967296<4294967296:=by omega
 have hy3:0≤y % 4294967296∧y % 4294967296<4294967296:=by omega
 rw[and32 hx,and32 hy] at hd
 have h:=halves (x:=x) (y:=y)
 have m1:=mul32 hx2.1 hx2.2 hy2.1 hy2.2
 have m2:=mul32 hx2.1 hx2.2 hy3.1 hy3.2
 have m3:=mul32 hx3.1 hx3.2 hy2.1 hy2.2
 have m4:=mul32 hx3.1 hx3.2 hy3.1 hy3.2
 generalize x / 4294967296*(y / 4294967296)=d at *
 generalize x / 4294967296*(y % 4294967296)=b at *
 generalize x % 4294967296*(y / 4294967296)=c at *
 generalize x % 4294967296*(y % 4294967296)=a at *
 generalize x*y=n at *
 simp only[wrap_u64] at hd
 rw[and32 (by omega)] at hd
 have e:(((d % 18446744073709551616+(b % 18446744073709551616+a % 18446744073709551616 / 4294967296) % 18446744073709551616 / 4294967296) % 18446744073709551616+((b % 18446744073709551616+a % 18446744073709551616 / 4294967296) % 18446744073709551616 % 4294967296+c % 18446744073709551616) % 18446744073709551616 / 4294967296) % 18446744073709551616)=n / 18446744073709551616:=by omega
 rw[e] at hd
 exact hd

end

section

def mul64Spec:FnSpec
 | [.v (.c (.int .u64 x)),.v (.c (.int .u64 y))]=>some ([0≤x,x<18446744073709551616,0≤y,y<18446744073709551616],.t [.c (.int .u64 (x*y / 18446744073709551616)),.c (.int .u64 (x*y % 18446744073709551616))],[])
 | _=>none

def qeA:Env:=env0.set (addT env0.fn 90 mul64Spec)
theorem qeA_ok:EnvOk Tryz.prog qeA:=
 env_add env0_ok 90 mul64Spec (enters_of Tryz.func90 rfl rfl) fun args o r es h ho=>by
  unfold mul64Spec at h
  split at h
  ·cases h;exact mul64_fnd _ _ ho.1 ho.2.1 ho.2.2.1 ho.2.2.2.1
  ·cases h

--@env qeA qeA_ok
theorem coreP  : fnRes qeA Tryz.f120 3000 [] [] [] []=(some ([(0≤(13402431016077863595:Int)),((13402431016077863595:Int)<(18446744073709551616:Int)),(0≤(2210141511517208575:Int)),((2210141511517208575:Int)<(18446744073709551616:Int)),(0≤(7435674573564081700:Int)),((7435674573564081700:Int)<(18446744073709551616:Int)),(0≤(7239337960414712511:Int)),((7239337960414712511:Int)<(18446744073709551616:Int)),(0≤(5412103778470702295:Int)),((5412103778470702295:Int)<(18446744073709551616:Int)),(0≤(1873798617647539866:Int)),((1873798617647539866:Int)<(18446744073709551616:Int))],((.v (.a [(.ob (.fp (Fin.ofNat B6 4002409555221667393417789825735904156556882819939007885332058136124031650490837864442687629129015664037894272559787)))])),[]))):=by kernel_rfl

def pU:U6:=Fin.ofNat B6 pN
def corePSpec:FnSpec
 | []=>some ([],.v (.a [.ob (.fp pU)]),[])
 | _=>none

theorem coreP_fnd:FnD Tryz.prog 120 [] (.v (.a [.ob (.fp pU)])) []:=
 (fn_sound qeA_ok Tryz.func120 coreP (by simp [AllP])).conv (fun _ _ h=>h) fun y v hd=>by
  have e:pU=Fin.ofNat B6 4002409555221667393417789825735904156556882819939007885332058136124031650490837864442687629129015664037894272559787:=by kernel_rfl
  rw[e]
  exact hd

def qeB:Env:=qeA.set (addT qeA.fn 120 corePSpec)
theorem qeB_ok:EnvOk Tryz.prog qeB:=
 env_add qeA_ok 120 corePSpec (enters_of Tryz.func120 rfl rfl) fun args o r es h ho=>by
  unfold corePSpec at h
  split at h
  ·cases h;exact coreP_fnd
  ·cases h

--@env qeB qeB_ok
theorem red0 (a b c d e f:Int):fnRes qeB Tryz.f131 3000 [.v (.a [.int .u64 a,.int .u64 b,.int .u64 c,.int .u64 d,.int .u64 e,.int .u64 f])] [true,true,true,true,true,true,false,true] [] []=(some ([((decide (0<(6:Int)))=true),(0≤(0:Int)),(0<(6:Int)),(0≤(0:Int)),(0<(6:Int)),(0<6),(0≤a),(0≤(13402431016077863595:Int)),((13402431016077863595:Int)<(18446744073709551616:Int)),(0≤(0:Int)),(0≤(1:Int)),(0≤(0:Int)),(0<(6:Int)),((decide ((1:Int)<(6:Int)))=true),(0≤(1:Int)),((1:Int)<(6:Int)),(0≤(1:Int)),((1:Int)<(6:Int)),(1<6),(0≤b),(0≤(2210141511517208575:Int)),((2210141511517208575:Int)<(18446744073709551616:Int)),(0≤(Prod.snd (exOut 1 a (13402431016077863595:Int) (0:Int)))),((Prod.snd (exOut 1 a (13402431016077863595:Int) (0:Int)))≤(1:Int)),(0≤(1:Int)),((1:Int)<(6:Int)),((decide ((2:Int)<(6:Int)))=true),(0≤(2:Int)),((2:Int)<(6:Int)),(0≤(2:Int)),((2:Int)<(6:Int)),(2<6),(0≤c),(0≤(7435674573564081700:Int)),((7435674573564081700:Int)<(18446744073709551616:Int)),(0≤(Prod.snd (exOut 1 b (2210141511517208575:Int) (Prod.snd (exOut 1 a (13402431016077863595:Int) (0:Int)))))),((Prod.snd (exOut 1 b (2210141511517208575:Int) (Prod.snd (exOut 1 a (13402431016077863595:Int) (0:Int)))))≤(1:Int)),(0≤(2:Int)),((2:Int)<(6:Int)),((decide ((3:Int)<(6:Int)))=true),(0≤(3:Int)),((3:Int)<(6:Int)),(0≤(3:Int)),((3:Int)<(6:Int)),(3<6),(0≤d),(0≤(7239337960414712511:Int)),((7239337960414712511:Int)<(18446744073709551616:Int)),(0≤(Prod.snd (exOut 1 c (7435674573564081700:Int) (Prod.snd (exOut 1 b (2210141511517208575:Int) (Prod.snd (exOut 1 a (13402431016077863595:Int) (0:Int)))))))),((Prod.snd (exOut 1 c (7435674573564081700:Int) (Prod.snd (exOut 1 b (2210141511517208575:Int) (Prod.snd (exOut 1 a (13402431016077863595:Int) (0:Int)))))))≤(1:Int)),(0≤(3:Int)),((3:Int)<(6:Int)),((decide ((4:Int)<(6:Int)))=true),(0≤(4:Int)),((4:Int)<(6:Int)),(0≤(4:Int)),((4:Int)<(6:Int)),(4<6),(0≤e),(0≤(5412103778470702295:Int)),((5412103778470702295:Int)<(18446744073709551616:Int)),(0≤(Prod.snd (exOut 1 d (7239337960414712511:Int) (Prod.snd (exOut 1 c (7435674573564081700:Int) (Prod.snd (exOut 1 b (2210141511517208575:Int) (Prod.snd (exOut 1 a (13402431016077863595:Int) (0:Int)))))))))),((Prod.snd (exOut 1 d (7239337960414712511:Int) (Prod.snd (exOut 1 c (7435674573564081700:Int) (Prod.snd (exOut 1 b (2210141511517208575:Int) (Prod.snd (exOut 1 a (13402431016077863595:Int) (0:Int)))))))))≤(1:Int)),(0≤(4:Int)),((4:Int)<(6:Int)),((decide ((5:Int)<(6:Int)))=true),(0≤(5:Int)),((5:Int)<(6:Int)),(0≤(5:Int)),((5:Int)<(6:Int)),(5<6),(0≤f),(0≤(1873798617647539866:Int)),((1873798617647539866:Int)<(18446744073709551616:Int)),(0≤(Prod.snd (exOut 1 e (5412103778470702295:Int) (Prod.snd (exOut 1 d (7239337960414712511:Int) (Prod.snd (exOut 1 c (7435674573564081700:Int) (Prod.snd (exOut 1 b (2210141511517208575:Int) (Prod.snd (exOut 1 a (13402431016077863595:Int) (0:Int)))))))))))),((Prod.snd (exOut 1 e (5412103778470702295:Int) (Prod.snd (exOut 1 d (7239337960414712511:Int) (Prod.snd (exOut 1 c (7435674573564081700:Int) (Prod.snd (exOut 1 b (2210141511517208575:Int) (Prod.snd (exOut 1 a (13402431016077863595:Int) (0:Int)))))))))))≤(1:Int)),(0≤(5:Int)),((5:Int)<(6:Int)),((decide ((6:Int)<(6:Int)))=false),(((Prod.snd (exOut 1 f (1873798617647539866:Int) (Prod.snd (exOut 1 e (5412103778470702295:Int) (Prod.snd (exOut 1 d (7239337960414712511:Int) (Prod.snd (exOut 1 c (7435674573564081700:Int) (Prod.snd (exOut 1 b (2210141511517208575:Int) (Prod.snd (exOut 1 a (13402431016077863595:Int) (0:Int))))))))))))) == (0:Int))=true)],((.v (.a [(.int .u64 (Prod.fst (exOut 1 a (13402431016077863595:Int) (0:Int)))),(.int .u64 (Prod.fst (exOut 1 b (2210141511517208575:Int) (Prod.snd (exOut 1 a (13402431016077863595:Int) (0:Int)))))),(.int .u64 (Prod.fst (exOut 1 c (7435674573564081700:Int) (Prod.snd (exOut 1 b (2210141511517208575:Int) (Prod.snd (exOut 1 a (13402431016077863595:Int) (0:Int)))))))),(.int .u64 (Prod.fst (exOut 1 d (7239337960414712511:Int) (Prod.snd (exOut 1 c (7435674573564081700:Int) (Prod.snd (exOut 1 b (2210141511517208575:Int) (Prod.snd (exOut 1 a (13402431016077863595:Int) (0:Int)))))))))),(.int .u64 (Prod.fst (exOut 1 e (5412103778470702295:Int) (Prod.snd (exOut 1 d (7239337960414712511:Int) (Prod.snd (exOut 1 c (7435674573564081700:Int) (Prod.snd (exOut 1 b (2210141511517208575:Int) (Prod.snd (exOut 1 a (13402431016077863595:Int) (0:Int)))))))))))),(.int .u64 (Prod.fst (exOut 1 f (1873798617647539866:Int) (Prod.snd (exOut 1 e (5412103778470702295:Int) (Prod.snd (exOut 1 d (7239337960414712511:Int) (Prod.snd (exOut 1 c (7435674573564081700:Int) (Prod.snd (exOut 1 b (2210141511517208575:Int) (Prod.snd (exOut 1 a (13402431016077863595:Int) (0:Int))))))))))))))])),[]))):=by kernel_rfl
theorem red1 (a b c d e f:Int):fnRes qeB Tryz.f131 3000 [.v (.a [.int .u64 a,.int .u64 b,.int .u64 c,.int .u64 d,.int .u64 e,.int .u64 f])] [true,true,true,true,true,true,false,false] [] []=(some ([((decide (0<(6:Int)))=true),(0≤(0:Int)),(0<(6:Int)),(0≤(0:Int)),(0<(6:Int)),(0<6),(0≤a),(0≤(13402431016077863595:Int)),((13402431016077863595:Int)<(18446744073709551616:Int)),(0≤(0:Int)),(0≤(1:Int)),(0≤(0:Int)),(0<(6:Int)),((decide ((1:Int)<(6:Int)))=true),(0≤(1:Int)),((1:Int)<(6:Int)),(0≤(1:Int)),((1:Int)<(6:Int)),(1<6),(0≤b),(0≤(2210141511517208575:Int)),((2210141511517208575:Int)<(18446744073709551616:Int)),(0≤(Prod.snd (exOut 1 a (13402431016077863595:Int) (0:Int)))),((Prod.snd (exOut 1 a (13402431016077863595:Int) (0:Int)))≤(1:Int)),(0≤(1:Int)),((1:Int)<(6:Int)),((decide ((2:Int)<(6:Int)))=true),(0≤(2:Int)),((2:Int)<(6:Int)),(0≤(2:Int)),((2:Int)<(6:Int)),(2<6),(0≤c),(0≤(7435674573564081700:Int)),((7435674573564081700:Int)<(18446744073709551616:Int)),(0≤(Prod.snd (exOut 1 b (2210141511517208575:Int) (Prod.snd (exOut 1 a (13402431016077863595:Int) (0:Int)))))),((Prod.snd (exOut 1 b (2210141511517208575:Int) (Prod.snd (exOut 1 a (13402431016077863595:Int) (0:Int)))))≤(1:Int)),(0≤(2:Int)),((2:Int)<(6:Int)),((decide ((3:Int)<(6:Int)))=true),(0≤(3:Int)),((3:Int)<(6:Int)),(0≤(3:Int)),((3:Int)<(6:Int)),(3<6),(0≤d),(0≤(7239337960414712511:Int)),((7239337960414712511:Int)<(18446744073709551616:Int)),(0≤(Prod.snd (exOut 1 c (7435674573564081700:Int) (Prod.snd (exOut 1 b (2210141511517208575:Int) (Prod.snd (exOut 1 a (13402431016077863595:Int) (0:Int)))))))),((Prod.snd (exOut 1 c (7435674573564081700:Int) (Prod.snd (exOut 1 b (2210141511517208575:Int) (Prod.snd (exOut 1 a (13402431016077863595:Int) (0:Int)))))))≤(1:Int)),(0≤(3:Int)),((3:Int)<(6:Int)),((decide ((4:Int)<(6:Int)))=true),(0≤(4:Int)),((4:Int)<(6:Int)),(0≤(4:Int)),((4:Int)<(6:Int)),(4<6),(0≤e),(0≤(5412103778470702295:Int)),((5412103778470702295:Int)<(18446744073709551616:Int)),(0≤(Prod.snd (exOut 1 d (7239337960414712511:Int) (Prod.snd (exOut 1 c (7435674573564081700:Int) (Prod.snd (exOut 1 b (2210141511517208575:Int) (Prod.snd (exOut 1 a (13402431016077863595:Int) (0:Int)))))))))),((Prod.snd (exOut 1 d (7239337960414712511:Int) (Prod.snd (exOut 1 c (7435674573564081700:Int) (Prod.snd (exOut 1 b (2210141511517208575:Int) (Prod.snd (exOut 1 a (13402431016077863595:Int) (0:Int)))))))))≤(1:Int)),(0≤(4:Int)),((4:Int)<(6:Int)),((decide ((5:Int)<(6:Int)))=true),(0≤(5:Int)),((5:Int)<(6:Int)),(0≤(5:Int)),((5:Int)<(6:Int)),(5<6),(0≤f),(0≤(1873798617647539866:Int)),((1873798617647539866:Int)<(18446744073709551616:Int)),(0≤(Prod.snd (exOut 1 e (5412103778470702295:Int) (Prod.snd (exOut 1 d (7239337960414712511:Int) (Prod.snd (exOut 1 c (7435674573564081700:Int) (Prod.snd (exOut 1 b (2210141511517208575:Int) (Prod.snd (exOut 1 a (13402431016077863595:Int) (0:Int)))))))))))),((Prod.snd (exOut 1 e (5412103778470702295:Int) (Prod.snd (exOut 1 d (7239337960414712511:Int) (Prod.snd (exOut 1 c (7435674573564081700:Int) (Prod.snd (exOut 1 b (2210141511517208575:Int) (Prod.snd (exOut 1 a (13402431016077863595:Int) (0:Int)))))))))))≤(1:Int)),(0≤(5:Int)),((5:Int)<(6:Int)),((decide ((6:Int)<(6:Int)))=false),(((Prod.snd (exOut 1 f (1873798617647539866:Int) (Prod.snd (exOut 1 e (5412103778470702295:Int) (Prod.snd (exOut 1 d (7239337960414712511:Int) (Prod.snd (exOut 1 c (7435674573564081700:Int) (Prod.snd (exOut 1 b (2210141511517208575:Int) (Prod.snd (exOut 1 a (13402431016077863595:Int) (0:Int))))))))))))) == (0:Int))=false)],((.v (.a [(.int .u64 a),(.int .u64 b),(.int .u64 c),(.int .u64 d),(.int .u64 e),(.int .u64 f)])),[]))):=by kernel_rfl
end

section

def reducedSpec6:FnSpec
 | [.v (.a [.int .u64 a,.int .u64 b,.int .u64 c,.int .u64 d,.int .u64 e,.int .u64 f])]=>some ([0≤a,a<18446744073709551616,0≤b,b<18446744073709551616,0≤c,c<18446744073709551616,0≤d,d<18446744073709551616,0≤e,e<18446744073709551616,0≤f,f<18446744073709551616,num6 a b c d e f<2*pN],.v (.a [.ob (.p (redQ (num6 a b c d e f).toNat))]),[])
 | _=>none

theorem red_a {N:Int} (h0:0≤N) (h1:(pN:Int)≤N) (h2:N<2*pN):((Ob.p (redQ N.toNat)).n:Int)=N-pN:=by
 have e:(Ob.p (redQ N.toNat)).n=N.toNat-pN:=by
  rw[redQ_n]
  have k1:pN≤N.toNat:=by omega
  have k2:N.toNat<2*pN:=by omega
  rw[Nat.mod_eq_sub_mod k1,Nat.mod_eq_of_lt (by omega)]
 rw[e]
 omega

theorem red_b {N:Int} (h0:0≤N) (h1:N<(pN:Int)):((Ob.p (redQ N.toNat)).n:Int)=N:=by
 have e:(Ob.p (redQ N.toNat)).n=N.toNat:=by
  rw[redQ_n]
  exact Nat.mod_eq_of_lt (by omega)
 rw[e]
 omega

theorem pN_int:(pN:Int)=4002409555221667393417789825735904156556882819939007885332058136124031650490837864442687629129015664037894272559787:=rfl

theorem num6_pos {a b c d e f:Int} (ha:0≤a) (hb:0≤b) (hc:0≤c) (hd:0≤d) (he:0≤e) (hf:0≤f):0≤num6 a b c d e f:=by unfold num6;omega

/-- The difference, limb by limb. -/
theorem diff6 {a b c d e f:Int} {o1 v1 o2 v2 o3 v3 o4 v4 o5 v5 o6 v6:Int} (e1:o1=a-13402431016077863595-0+18446744073709551616*v1) (e2:o2=b-2210141511517208575-v1+18446744073709551616*v2) (e3:o3=c-7435674573564081700-v2+18446744073709551616*v3) (e4:o4=d-7239337960414712511-v3+18446744073709551616*v4) (e5:o5=e-5412103778470702295-v4+18446744073709551616*v5) (e6:o6=f-1873798617647539866-v5+18446744073709551616*v6) :
  num6 o1 o2 o3 o4 o5 o6=num6 a b c d e f-pN+39402006196394479212279040100143613805079739270465446667948293404245721771497210611414266254884915640806627990306816*v6:=by
 rw[pN_int]
 unfold num6
 omega

theorem lt6 {a b c d e f:Int} (ha:0≤a) (ha1:a<18446744073709551616) (hb:0≤b) (hb1:b<18446744073709551616) (hc:0≤c) (hc1:c<18446744073709551616) (hd:0≤d) (hd1:d<18446744073709551616) (he:0≤e) (he1:e<18446744073709551616) (hf:0≤f) (hf1:f<18446744073709551616):num6 a b c d e f<39402006196394479212279040100143613805079739270465446667948293404245721771497210611414266254884915640806627990306816:=by
 unfold num6
 omega

theorem reduced6_fnd (a b c d e f:Int) (ha:0≤a) (ha1:a<18446744073709551616) (hb:0≤b) (hb1:b<18446744073709551616) (hc:0≤c) (hc1:c<18446744073709551616) (hd:0≤d) (hd1:d<18446744073709551616) (he:0≤e) (he1:e<18446744073709551616) (hf:0≤f) (hf1:f<18446744073709551616) (hn:num6 a b c d e f<2*pN) :
  FnD Tryz.prog 131 [.v (.a [.int .u64 a,.int .u64 b,.int .u64 c,.int .u64 d,.int .u64 e,.int .u64 f])] (.v (.a [.ob (.p (redQ (num6 a b c d e f).toNat))])) []:=by
 have r0:=red0 a b c d e f
 have r1:=red1 a b c d e f
 obtain ⟨e1,o1,o1',c1,c1'⟩:=sub_step (y:=13402431016077863595) (c:=0) ha ha1 (by decide) (by decide) (by decide) (by decide)
 obtain ⟨e2,o2,o2',c2,c2'⟩:=sub_step (y:=2210141511517208575) hb hb1 (by decide) (by decide) c1 c1'
 obtain ⟨e3,o3,o3',c3,c3'⟩:=sub_step (y:=7435674573564081700) hc hc1 (by decide) (by decide) c2 c2'
 obtain ⟨e4,o4,o4',c4,c4'⟩:=sub_step (y:=7239337960414712511) hd hd1 (by decide) (by decide) c3 c3'
 obtain ⟨e5,o5,o5',c5,c5'⟩:=sub_step (y:=5412103778470702295) he he1 (by decide) (by decide) c4 c4'
 obtain ⟨e6,o6,o6',c6,c6'⟩:=sub_step (y:=1873798617647539866) hf hf1 (by decide) (by decide) c5 c5'
 generalize hx1:exOut 1 a 13402431016077863595 0=x1 at *
 generalize hx2:exOut 1 b 2210141511517208575 x1.2=x2 at *
 generalize hx3:exOut 1 c 7435674573564081700 x2.2=x3 at *
 generalize hx4:exOut 1 d 7239337960414712511 x3.2=x4 at *
 generalize hx5:exOut 1 e 5412103778470702295 x4.2=x5 at *
 generalize hx6:exOut 1 f 1873798617647539866 x5.2=x6 at *
 clear hx1 hx2 hx3 hx4 hx5 hx6
 have hnn:=num6_pos ha hb hc hd he hf
 have hD:=diff6 e1 e2 e3 e4 e5 e6
 have hO:=lt6 o1 o1' o2 o2' o3 o3' o4 o4' o5 o5' o6 o6'
 have hO0:=num6_pos o1 o2 o3 o4 o5 o6
 have hp:=pN_int
 by_cases hz:x6.2=0
 ·refine (fn_sound qeB_ok Tryz.func131 r0 ?_).conv (fun _ _ h=>h) fun y v hv=>ints_ob6 rfl ?_ hv
  ·clear hD hO hO0 hn hnn e1 e2 e3 e4 e5 e6
   simp only[AllP,and_true,decide_eq_true_eq,decide_eq_false_iff_not,beq_iff_eq]
   and_intros<;>first | assumption | decide | omega
  ·refine limbsAre6 o1 o1' o2 o2' o3 o3' o4 o4' o5 o5' o6 o6' ?_
   rw[hz,Int.mul_zero,Int.add_zero] at hD
   rw[hD]
   exact red_a hnn (by omega) hn
 ·refine (fn_sound qeB_ok Tryz.func131 r1 ?_).conv (fun _ _ h=>h) fun y v hv=>ints_ob6 rfl ?_ hv
  ·clear hD hO hO0 hn hnn e1 e2 e3 e4 e5 e6
   simp only[AllP,and_true,decide_eq_true_eq,decide_eq_false_iff_not,beq_eq_false_iff_ne]
   and_intros<;>first | assumption | decide | omega
  ·refine limbsAre6 ha ha1 hb hb1 hc hc1 hd hd1 he he1 hf hf1 ?_
   have:x6.2=1:=by omega
   rw[this] at hD
   exact red_b hnn (by omega)

end

section
section
variable {w0:World} {F0:Nat→Prop} {K:Kp} {ac:List Act} {Q:Exit→Act→World→Prop} {cX:Ctx} {aX:Act}

def qeC:Env:=qeB.set (addT qeB.fn 131 reducedSpec6)
theorem qeC_ok:EnvOk Tryz.prog qeC:=
 env_add qeB_ok 131 reducedSpec6 (enters_of Tryz.func131 rfl rfl) fun args o r es h ho=>by
  unfold reducedSpec6 at h
  split at h
  ·cases h
   obtain ⟨h1,h2,h3,h4,h5,h6,h7,h8,h9,h10,h11,h12,h13,_⟩:=ho
   exact reduced6_fnd _ _ _ _ _ _ h1 h2 h3 h4 h5 h6 h7 h8 h9 h10 h11 h12 h13
  ·cases h

def mc0 (x y:Fp):Cfg:=⟨[.code (bodyOf Tryz.f105)],.normal,initSt Tryz.f105.ntmps [.v (.a [.ob (.p x)]),.v (.a [.ob (.p y)])]⟩

--@env qeC qeC_ok
def mIn_k:List KI:=(run qeC false 3000 ((fun (x y:Fp)=>(mc0 x y:Cfg)) default default) []).cfg.k
theorem mIn (x y:Fp) (ho:AllP []) (hs:Sim w0 F0 K ac (((mc0 x y:Cfg)).σ) cX aX) (hK:∀ac cY aY,Sim w0 F0 K ac (mkSt 308 [3,4,5,6,7,8,9,10,20,21] [.pt 32 0,.pt 48 0,.iu (0:Int),.iu (0:Int),.iu (0:Int),.iu (0:Int),.iu (0:Int),.iu (0:Int),(.v (.a [.ob (.p x)])),.ii (0:Int)] [32,48] [(eF_ [.ob (.p y)]),(eF_ [(.ob (.p (0:Fp)))])] 192 [] []) cY aY→Wq Tryz.prog Q (mIn_k) ac Exit.normal aY cY.w):Wq Tryz.prog Q (((mc0 x y:Cfg)).k) ac ((mc0 x y:Cfg)).x aX cX.w:=
 run_at (unroll:=false) (n:=3000) (path:=[]) (o:=⟨_,_,_,_,_,_,_⟩) qeC_ok (by kernel_rfl) (by kernel_rfl) ho hs hK
def mS (x y:Fp) (i:Nat) (t0 t1 t2 t3 t4 t5:Int):St:=mkSt 308 [3,4,5,6,7,8,9,10,20,21] [.pt 32 0,.pt 48 0,.v (.c (.int .u64 t0)),.v (.c (.int .u64 t1)),.v (.c (.int .u64 t2)),.v (.c (.int .u64 t3)),.v (.c (.int .u64 t4)),.v (.c (.int .u64 t5)),(.v (.a [.ob (.p x)])),.v (.c (.int .i64 (i:Int)))] [32,48] [(eF_ [.ob (.p y)]),(eF_ [(.ob (.p (0:Fp)))])] 192 [] []
theorem mX_end (x y:Fp) (i:Nat) (t0 t1 t2 t3 t4 t5:Int):runEnd qeC Tryz.f105 false 3000 (⟨lpIn mIn_k,.normal,mS x y i t0 t1 t2 t3 t4 t5⟩) [false] [] []=(some ([((decide ((i:Int)<(6:Int)))=false),(0≤t0),(t0<(18446744073709551616:Int)),(0≤t1),(t1<(18446744073709551616:Int)),(0≤t2),(t2<(18446744073709551616:Int)),(0≤t3),(t3<(18446744073709551616:Int)),(0≤t4),(t4<(18446744073709551616:Int)),(0≤t5),(t5<(18446744073709551616:Int)),((num6 t0 t1 t2 t3 t4 t5)<(8004819110443334786835579651471808313113765639878015770664116272248063300981675728885375258258031328075788545119574:Int))],((.v (.a [(.ob (.p (redQ ((num6 t0 t1 t2 t3 t4 t5)).toNat)))])),[]))):=by kernel_rfl
def mA_k:List KI:=(run qeC false 77 ((fun (x y:Fp) (i:Nat) (t0 t1 t2 t3 t4 t5:Int)=>(⟨lpIn mIn_k,.normal,mS x y i t0 t1 t2 t3 t4 t5⟩:Cfg)) default default default default default default default default default) [true]).cfg.k
theorem mA (x y:Fp) (i:Nat) (t0 t1 t2 t3 t4 t5:Int) {w0:World} {F0:Nat→Prop} {K:Kp} {ac:List Act} {Q:Exit→Act→World→Prop} {cX:Ctx} {aX:Act} (ho:AllP [((decide ((i:Int)<(6:Int)))=true),(0≤(i:Int)),((i:Int)<(6:Int)),(0≤(0:Int)),(0<(6:Int)),(0<(Ob.k (.p y))),(0≤(limb (Ob.n (.p x)) ((i:Int)).toNat)),((limb (Ob.n (.p x)) ((i:Int)).toNat)<(18446744073709551616:Int)),(0≤(limb (Ob.n (.p y)) 0)),((limb (Ob.n (.p y)) 0)<(18446744073709551616:Int)),(0≤(((limb (Ob.n (.p x)) ((i:Int)).toNat)*(limb (Ob.n (.p y)) 0)) % (18446744073709551616:Int))),(0≤t0),(t0<(18446744073709551616:Int)),(0≤(0:Int)),(0≤(1:Int)),(0≤(wrap .u64 ((Prod.fst (exOut 0 (((limb (Ob.n (.p x)) ((i:Int)).toNat)*(limb (Ob.n (.p y)) 0)) % (18446744073709551616:Int)) t0 (0:Int)))*(9940570264628428797:Int)))),((wrap .u64 ((Prod.fst (exOut 0 (((limb (Ob.n (.p x)) ((i:Int)).toNat)*(limb (Ob.n (.p y)) 0)) % (18446744073709551616:Int)) t0 (0:Int)))*(9940570264628428797:Int)))<(18446744073709551616:Int)),(0≤(13402431016077863595:Int)),((13402431016077863595:Int)<(18446744073709551616:Int)),(0≤(((wrap .u64 ((Prod.fst (exOut 0 (((limb (Ob.n (.p x)) ((i:Int)).toNat)*(limb (Ob.n (.p y)) 0)) % (18446744073709551616:Int)) t0 (0:Int)))*(9940570264628428797:Int)))*(13402431016077863595:Int)) % (18446744073709551616:Int))),(0≤(Prod.fst (exOut 0 (((limb (Ob.n (.p x)) ((i:Int)).toNat)*(limb (Ob.n (.p y)) 0)) % (18446744073709551616:Int)) t0 (0:Int)))),((Prod.fst (exOut 0 (((limb (Ob.n (.p x)) ((i:Int)).toNat)*(limb (Ob.n (.p y)) 0)) % (18446744073709551616:Int)) t0 (0:Int)))<(18446744073709551616:Int)),(0≤(0:Int)),(0≤(1:Int))]) (hs:Sim w0 F0 K ac (mS x y i t0 t1 t2 t3 t4 t5) cX aX) (hK:∀ac cY aY,Sim w0 F0 K ac (mkSt 308 [3,4,6,7,8,9,10,12,16,17,19,20,21] [.pt 32 0,.pt 48 0,.iu t1,.iu t2,.iu t3,.iu t4,.iu t5,(.iu (limb (Ob.n (.p x)) ((i:Int)).toNat)),(.iu (wrap .u64 ((((limb (Ob.n (.p x)) ((i:Int)).toNat)*(limb (Ob.n (.p y)) 0)) / (18446744073709551616:Int))+(Prod.snd (exOut 0 (((limb (Ob.n (.p x)) ((i:Int)).toNat)*(limb (Ob.n (.p y)) 0)) % (18446744073709551616:Int)) t0 (0:Int)))))),(.iu (wrap .u64 ((Prod.fst (exOut 0 (((limb (Ob.n (.p x)) ((i:Int)).toNat)*(limb (Ob.n (.p y)) 0)) % (18446744073709551616:Int)) t0 (0:Int)))*(9940570264628428797:Int)))),(.iu (wrap .u64 ((((wrap .u64 ((Prod.fst (exOut 0 (((limb (Ob.n (.p x)) ((i:Int)).toNat)*(limb (Ob.n (.p y)) 0)) % (18446744073709551616:Int)) t0 (0:Int)))*(9940570264628428797:Int)))*(13402431016077863595:Int)) / (18446744073709551616:Int))+(Prod.snd (exOut 0 (((wrap .u64 ((Prod.fst (exOut 0 (((limb (Ob.n (.p x)) ((i:Int)).toNat)*(limb (Ob.n (.p y)) 0)) % (18446744073709551616:Int)) t0 (0:Int)))*(9940570264628428797:Int)))*(13402431016077863595:Int)) % (18446744073709551616:Int)) (Prod.fst (exOut 0 (((limb (Ob.n (.p x)) ((i:Int)).toNat)*(limb (Ob.n (.p y)) 0)) % (18446744073709551616:Int)) t0 (0:Int))) (0:Int)))))),(.v (.a [.ob (.p x)])),(.ii (i:Int))] [32,48] [(eF_ [.ob (.p y)]),(eF_ [(.ob (.p (0:Fp)))])] 912 [] []) cY aY→Wq Tryz.prog Q (mA_k) ac Exit.normal aY cY.w):Wq Tryz.prog Q (lpIn mIn_k) ac .normal aX cX.w:=
 run_at2 (unroll:=false) (n:=77) (path:=[true]) (o:=⟨_,_,_,_,_,_,_⟩) qeC_ok (by kernel_rfl) (by kernel_rfl) ho hs hK
def mS1 (x y:Fp) (i:Nat) (t1 t2 t3 t4 t5 xi q up dn:Int):St:=mkSt 308 [3,4,6,7,8,9,10,12,16,17,19,20,21] [.pt 32 0,.pt 48 0,.iu t1,.iu t2,.iu t3,.iu t4,.iu t5,.v (.c (.int .u64 xi)),.v (.c (.int .u64 up)),.v (.c (.int .u64 q)),.v (.c (.int .u64 dn)),(.v (.a [.ob (.p x)])),(.ii (i:Int))] [32,48] [(eF_ [.ob (.p y)]),(eF_ [(.ob (.p (0:Fp)))])] 912 [] []
def mB_k:List KI:=(run qeC false 94 ((fun (x y:Fp) (i:Nat) (t1 t2 t3 t4 t5 xi q up dn:Int)=>(⟨mA_k,.normal,mS1 x y i t1 t2 t3 t4 t5 xi q up dn⟩:Cfg)) default default default default default default default default default default default default) []).cfg.k
theorem mB (x y:Fp) (i:Nat) (t1 t2 t3 t4 t5 xi q up dn:Int) (ho:AllP [(0≤(1:Int)),((1:Int)<(6:Int)),(1<(Ob.k (.p y))),(0≤xi),(xi<(18446744073709551616:Int)),(0≤(limb (Ob.n (.p y)) 1)),((limb (Ob.n (.p y)) 1)<(18446744073709551616:Int)),(0≤((xi*(limb (Ob.n (.p y)) 1)) % (18446744073709551616:Int))),(0≤t1),(t1<(18446744073709551616:Int)),(0≤(0:Int)),(0≤(1:Int)),(0≤(Prod.fst (exOut 0 ((xi*(limb (Ob.n (.p y)) 1)) % (18446744073709551616:Int)) t1 (0:Int)))),(0≤up),(up<(18446744073709551616:Int)),(0≤(0:Int)),(0≤(1:Int)),(0≤q),(q<(18446744073709551616:Int)),(0≤(2210141511517208575:Int)),((2210141511517208575:Int)<(18446744073709551616:Int)),(0≤((q*(2210141511517208575:Int)) % (18446744073709551616:Int))),(0≤(Prod.fst (exOut 0 (Prod.fst (exOut 0 ((xi*(limb (Ob.n (.p y)) 1)) % (18446744073709551616:Int)) t1 (0:Int))) up (0:Int)))),((Prod.fst (exOut 0 (Prod.fst (exOut 0 ((xi*(limb (Ob.n (.p y)) 1)) % (18446744073709551616:Int)) t1 (0:Int))) up (0:Int)))<(18446744073709551616:Int)),(0≤(0:Int)),(0≤(1:Int)),(0≤(Prod.fst (exOut 0 ((q*(2210141511517208575:Int)) % (18446744073709551616:Int)) (Prod.fst (exOut 0 (Prod.fst (exOut 0 ((xi*(limb (Ob.n (.p y)) 1)) % (18446744073709551616:Int)) t1 (0:Int))) up (0:Int))) (0:Int)))),(0≤dn),(dn<(18446744073709551616:Int)),(0≤(0:Int)),(0≤(1:Int))]):Sg Tryz.prog (mS1 x y i t1 t2 t3 t4 t5 xi q up dn) (mkSt 308 [3,4,5,7,8,9,10,12,16,17,19,20,21] [.pt 32 0,.pt 48 0,(.iu (Prod.fst (exOut 0 (Prod.fst (exOut 0 ((q*(2210141511517208575:Int)) % (18446744073709551616:Int)) (Prod.fst (exOut 0 (Prod.fst (exOut 0 ((xi*(limb (Ob.n (.p y)) 1)) % (18446744073709551616:Int)) t1 (0:Int))) up (0:Int))) (0:Int))) dn (0:Int)))),.iu t2,.iu t3,.iu t4,.iu t5,.iu xi,(.iu (wrap .u64 ((wrap .u64 (((xi*(limb (Ob.n (.p y)) 1)) / (18446744073709551616:Int))+(Prod.snd (exOut 0 ((xi*(limb (Ob.n (.p y)) 1)) % (18446744073709551616:Int)) t1 (0:Int)))))+(Prod.snd (exOut 0 (Prod.fst (exOut 0 ((xi*(limb (Ob.n (.p y)) 1)) % (18446744073709551616:Int)) t1 (0:Int))) up (0:Int)))))),.iu q,(.iu (wrap .u64 ((wrap .u64 (((q*(2210141511517208575:Int)) / (18446744073709551616:Int))+(Prod.snd (exOut 0 ((q*(2210141511517208575:Int)) % (18446744073709551616:Int)) (Prod.fst (exOut 0 (Prod.fst (exOut 0 ((xi*(limb (Ob.n (.p y)) 1)) % (18446744073709551616:Int)) t1 (0:Int))) up (0:Int))) (0:Int)))))+(Prod.snd (exOut 0 (Prod.fst (exOut 0 ((q*(2210141511517208575:Int)) % (18446744073709551616:Int)) (Prod.fst (exOut 0 (Prod.fst (exOut 0 ((xi*(limb (Ob.n (.p y)) 1)) % (18446744073709551616:Int)) t1 (0:Int))) up (0:Int))) (0:Int))) dn (0:Int)))))),(.v (.a [.ob (.p x)])),(.ii (i:Int))] [32,48] [(eF_ [.ob (.p y)]),(eF_ [(.ob (.p (0:Fp)))])] 1936 [] []) .normal (mB_k) (mA_k):=fun hs hK=>
 run_at2 (unroll:=false) (n:=94) (path:=[]) (o:=⟨_,_,_,_,_,_,_⟩) qeC_ok (by kernel_rfl) (by kernel_rfl) ho hs hK
def mS2 (x y:Fp) (i:Nat) (n0 t2 t3 t4 t5 xi q up dn:Int):St:=mkSt 308 [3,4,5,7,8,9,10,12,16,17,19,20,21] [.pt 32 0,.pt 48 0,.v (.c (.int .u64 n0)),.iu t2,.iu t3,.iu t4,.iu t5,.iu xi,.v (.c (.int .u64 up)),.iu q,.v (.c (.int .u64 dn)),(.v (.a [.ob (.p x)])),(.ii (i:Int))] [32,48] [(eF_ [.ob (.p y)]),(eF_ [(.ob (.p (0:Fp)))])] 1936 [] []
def mC_k:List KI:=(run qeC false 94 ((fun (x y:Fp) (i:Nat) (n0 t2 t3 t4 t5 xi q up dn:Int)=>(⟨mB_k,.normal,mS2 x y i n0 t2 t3 t4 t5 xi q up dn⟩:Cfg)) default default default default default default default default default default default default) []).cfg.k
theorem mC (x y:Fp) (i:Nat) (n0 t2 t3 t4 t5 xi q up dn:Int) (ho:AllP [(0≤(2:Int)),((2:Int)<(6:Int)),(2<(Ob.k (.p y))),(0≤xi),(xi<(18446744073709551616:Int)),(0≤(limb (Ob.n (.p y)) 2)),((limb (Ob.n (.p y)) 2)<(18446744073709551616:Int)),(0≤((xi*(limb (Ob.n (.p y)) 2)) % (18446744073709551616:Int))),(0≤t2),(t2<(18446744073709551616:Int)),(0≤(0:Int)),(0≤(1:Int)),(0≤(Prod.fst (exOut 0 ((xi*(limb (Ob.n (.p y)) 2)) % (18446744073709551616:Int)) t2 (0:Int)))),(0≤up),(up<(18446744073709551616:Int)),(0≤(0:Int)),(0≤(1:Int)),(0≤q),(q<(18446744073709551616:Int)),(0≤(7435674573564081700:Int)),((7435674573564081700:Int)<(18446744073709551616:Int)),(0≤((q*(7435674573564081700:Int)) % (18446744073709551616:Int))),(0≤(Prod.fst (exOut 0 (Prod.fst (exOut 0 ((xi*(limb (Ob.n (.p y)) 2)) % (18446744073709551616:Int)) t2 (0:Int))) up (0:Int)))),((Prod.fst (exOut 0 (Prod.fst (exOut 0 ((xi*(limb (Ob.n (.p y)) 2)) % (18446744073709551616:Int)) t2 (0:Int))) up (0:Int)))<(18446744073709551616:Int)),(0≤(0:Int)),(0≤(1:Int)),(0≤(Prod.fst (exOut 0 ((q*(7435674573564081700:Int)) % (18446744073709551616:Int)) (Prod.fst (exOut 0 (Prod.fst (exOut 0 ((xi*(limb (Ob.n (.p y)) 2)) % (18446744073709551616:Int)) t2 (0:Int))) up (0:Int))) (0:Int)))),(0≤dn),(dn<(18446744073709551616:Int)),(0≤(0:Int)),(0≤(1:Int))]):Sg Tryz.prog (mS2 x y i n0 t2 t3 t4 t5 xi q up dn) (mkSt 308 [3,4,5,6,8,9,10,12,16,17,19,20,21] [.pt 32 0,.pt 48 0,.iu n0,(.iu (Prod.fst (exOut 0 (Prod.fst (exOut 0 ((q*(7435674573564081700:Int)) % (18446744073709551616:Int)) (Prod.fst (exOut 0 (Prod.fst (exOut 0 ((xi*(limb (Ob.n (.p y)) 2)) % (18446744073709551616:Int)) t2 (0:Int))) up (0:Int))) (0:Int))) dn (0:Int)))),.iu t3,.iu t4,.iu t5,.iu xi,(.iu (wrap .u64 ((wrap .u64 (((xi*(limb (Ob.n (.p y)) 2)) / (18446744073709551616:Int))+(Prod.snd (exOut 0 ((xi*(limb (Ob.n (.p y)) 2)) % (18446744073709551616:Int)) t2 (0:Int)))))+(Prod.snd (exOut 0 (Prod.fst (exOut 0 ((xi*(limb (Ob.n (.p y)) 2)) % (18446744073709551616:Int)) t2 (0:Int))) up (0:Int)))))),.iu q,(.iu (wrap .u64 ((wrap .u64 (((q*(7435674573564081700:Int)) / (18446744073709551616:Int))+(Prod.snd (exOut 0 ((q*(7435674573564081700:Int)) % (18446744073709551616:Int)) (Prod.fst (exOut 0 (Prod.fst (exOut 0 ((xi*(limb (Ob.n (.p y)) 2)) % (18446744073709551616:Int)) t2 (0:Int))) up (0:Int))) (0:Int)))))+(Prod.snd (exOut 0 (Prod.fst (exOut 0 ((q*(7435674573564081700:Int)) % (18446744073709551616:Int)) (Prod.fst (exOut 0 (Prod.fst (exOut 0 ((xi*(limb (Ob.n (.p y)) 2)) % (18446744073709551616:Int)) t2 (0:Int))) up (0:Int))) (0:Int))) dn (0:Int)))))),(.v (.a [.ob (.p x)])),(.ii (i:Int))] [32,48] [(eF_ [.ob (.p y)]),(eF_ [(.ob (.p (0:Fp)))])] 2960 [] []) .normal (mC_k) (mB_k):=fun hs hK=>
 run_at2 (unroll:=false) (n:=94) (path:=[]) (o:=⟨_,_,_,_,_,_,_⟩) qeC_ok (by kernel_rfl) (by kernel_rfl) ho hs hK
def mS3 (x y:Fp) (i:Nat) (n0 n1 t3 t4 t5 xi q up dn:Int):St:=mkSt 308 [3,4,5,6,8,9,10,12,16,17,19,20,21] [.pt 32 0,.pt 48 0,.iu n0,.v (.c (.int .u64 n1)),.iu t3,.iu t4,.iu t5,.iu xi,.v (.c (.int .u64 up)),.iu q,.v (.c (.int .u64 dn)),(.v (.a [.ob (.p x)])),(.ii (i:Int))] [32,48] [(eF_ [.ob (.p y)]),(eF_ [(.ob (.p (0:Fp)))])] 2960 [] []
def mD_k:List KI:=(run qeC false 94 ((fun (x y:Fp) (i:Nat) (n0 n1 t3 t4 t5 xi q up dn:Int)=>(⟨mC_k,.normal,mS3 x y i n0 n1 t3 t4 t5 xi q up dn⟩:Cfg)) default default default default default default default default default default default default) []).cfg.k
theorem mD (x y:Fp) (i:Nat) (n0 n1 t3 t4 t5 xi q up dn:Int) (ho:AllP [(0≤(3:Int)),((3:Int)<(6:Int)),(3<(Ob.k (.p y))),(0≤xi),(xi<(18446744073709551616:Int)),(0≤(limb (Ob.n (.p y)) 3)),((limb (Ob.n (.p y)) 3)<(18446744073709551616:Int)),(0≤((xi*(limb (Ob.n (.p y)) 3)) % (18446744073709551616:Int))),(0≤t3),(t3<(18446744073709551616:Int)),(0≤(0:Int)),(0≤(1:Int)),(0≤(Prod.fst (exOut 0 ((xi*(limb (Ob.n (.p y)) 3)) % (18446744073709551616:Int)) t3 (0:Int)))),(0≤up),(up<(18446744073709551616:Int)),(0≤(0:Int)),(0≤(1:Int)),(0≤q),(q<(18446744073709551616:Int)),(0≤(7239337960414712511:Int)),((7239337960414712511:Int)<(18446744073709551616:Int)),(0≤((q*(7239337960414712511:Int)) % (18446744073709551616:Int))),(0≤(Prod.fst (exOut 0 (Prod.fst (exOut 0 ((xi*(limb (Ob.n (.p y)) 3)) % (18446744073709551616:Int)) t3 (0:Int))) up (0:Int)))),((Prod.fst (exOut 0 (Prod.fst (exOut 0 ((xi*(limb (Ob.n (.p y)) 3)) % (18446744073709551616:Int)) t3 (0:Int))) up (0:Int)))<(18446744073709551616:Int)),(0≤(0:Int)),(0≤(1:Int)),(0≤(Prod.fst (exOut 0 ((q*(7239337960414712511:Int)) % (18446744073709551616:Int)) (Prod.fst (exOut 0 (Prod.fst (exOut 0 ((xi*(limb (Ob.n (.p y)) 3)) % (18446744073709551616:Int)) t3 (0:Int))) up (0:Int))) (0:Int)))),(0≤dn),(dn<(18446744073709551616:Int)),(0≤(0:Int)),(0≤(1:Int))]):Sg Tryz.prog (mS3 x y i n0 n1 t3 t4 t5 xi q up dn) (mkSt 308 [3,4,5,6,7,9,10,12,16,17,19,20,21] [.pt 32 0,.pt 48 0,.iu n0,.iu n1,(.iu (Prod.fst (exOut 0 (Prod.fst (exOut 0 ((q*(7239337960414712511:Int)) % (18446744073709551616:Int)) (Prod.fst (exOut 0 (Prod.fst (exOut 0 ((xi*(limb (Ob.n (.p y)) 3)) % (18446744073709551616:Int)) t3 (0:Int))) up (0:Int))) (0:Int))) dn (0:Int)))),.iu t4,.iu t5,.iu xi,(.iu (wrap .u64 ((wrap .u64 (((xi*(limb (Ob.n (.p y)) 3)) / (18446744073709551616:Int))+(Prod.snd (exOut 0 ((xi*(limb (Ob.n (.p y)) 3)) % (18446744073709551616:Int)) t3 (0:Int)))))+(Prod.snd (exOut 0 (Prod.fst (exOut 0 ((xi*(limb (Ob.n (.p y)) 3)) % (18446744073709551616:Int)) t3 (0:Int))) up (0:Int)))))),.iu q,(.iu (wrap .u64 ((wrap .u64 (((q*(7239337960414712511:Int)) / (18446744073709551616:Int))+(Prod.snd (exOut 0 ((q*(7239337960414712511:Int)) % (18446744073709551616:Int)) (Prod.fst (exOut 0 (Prod.fst (exOut 0 ((xi*(limb (Ob.n (.p y)) 3)) % (18446744073709551616:Int)) t3 (0:Int))) up (0:Int))) (0:Int)))))+(Prod.snd (exOut 0 (Prod.fst (exOut 0 ((q*(7239337960414712511:Int)) % (18446744073709551616:Int)) (Prod.fst (exOut 0 (Prod.fst (exOut 0 ((xi*(limb (Ob.n (.p y)) 3)) % (18446744073709551616:Int)) t3 (0:Int))) up (0:Int))) (0:Int))) dn (0:Int)))))),(.v (.a [.ob (.p x)])),(.ii (i:Int))] [32,48] [(eF_ [.ob (.p y)]),(eF_ [(.ob (.p (0:Fp)))])] 3984 [] []) .normal (mD_k) (mC_k):=fun hs hK=>
 run_at2 (unroll:=false) (n:=94) (path:=[]) (o:=⟨_,_,_,_,_,_,_⟩) qeC_ok (by kernel_rfl) (by kernel_rfl) ho hs hK
def mS4 (x y:Fp) (i:Nat) (n0 n1 n2 t4 t5 xi q up dn:Int):St:=mkSt 308 [3,4,5,6,7,9,10,12,16,17,19,20,21] [.pt 32 0,.pt 48 0,.iu n0,.iu n1,.v (.c (.int .u64 n2)),.iu t4,.iu t5,.iu xi,.v (.c (.int .u64 up)),.iu q,.v (.c (.int .u64 dn)),(.v (.a [.ob (.p x)])),(.ii (i:Int))] [32,48] [(eF_ [.ob (.p y)]),(eF_ [(.ob (.p (0:Fp)))])] 3984 [] []
def mE_k:List KI:=(run qeC false 94 ((fun (x y:Fp) (i:Nat) (n0 n1 n2 t4 t5 xi q up dn:Int)=>(⟨mD_k,.normal,mS4 x y i n0 n1 n2 t4 t5 xi q up dn⟩:Cfg)) default default default default default default default default default default default default) []).cfg.k
theorem mE (x y:Fp) (i:Nat) (n0 n1 n2 t4 t5 xi q up dn:Int) (ho:AllP [(0≤(4:Int)),((4:Int)<(6:Int)),(4<(Ob.k (.p y))),(0≤xi),(xi<(18446744073709551616:Int)),(0≤(limb (Ob.n (.p y)) 4)),((limb (Ob.n (.p y)) 4)<(18446744073709551616:Int)),(0≤((xi*(limb (Ob.n (.p y)) 4)) % (18446744073709551616:Int))),(0≤t4),(t4<(18446744073709551616:Int)),(0≤(0:Int)),(0≤(1:Int)),(0≤(Prod.fst (exOut 0 ((xi*(limb (Ob.n (.p y)) 4)) % (18446744073709551616:Int)) t4 (0:Int)))),(0≤up),(up<(18446744073709551616:Int)),(0≤(0:Int)),(0≤(1:Int)),(0≤q),(q<(18446744073709551616:Int)),(0≤(5412103778470702295:Int)),((5412103778470702295:Int)<(18446744073709551616:Int)),(0≤((q*(5412103778470702295:Int)) % (18446744073709551616:Int))),(0≤(Prod.fst (exOut 0 (Prod.fst (exOut 0 ((xi*(limb (Ob.n (.p y)) 4)) % (18446744073709551616:Int)) t4 (0:Int))) up (0:Int)))),((Prod.fst (exOut 0 (Prod.fst (exOut 0 ((xi*(limb (Ob.n (.p y)) 4)) % (18446744073709551616:Int)) t4 (0:Int))) up (0:Int)))<(18446744073709551616:Int)),(0≤(0:Int)),(0≤(1:Int)),(0≤(Prod.fst (exOut 0 ((q*(5412103778470702295:Int)) % (18446744073709551616:Int)) (Prod.fst (exOut 0 (Prod.fst (exOut 0 ((xi*(limb (Ob.n (.p y)) 4)) % (18446744073709551616:Int)) t4 (0:Int))) up (0:Int))) (0:Int)))),(0≤dn),(dn<(18446744073709551616:Int)),(0≤(0:Int)),(0≤(1:Int))]):Sg Tryz.prog (mS4 x y i n0 n1 n2 t4 t5 xi q up dn) (mkSt 308 [3,4,5,6,7,8,10,12,16,17,19,20,21] [.pt 32 0,.pt 48 0,.iu n0,.iu n1,.iu n2,(.iu (Prod.fst (exOut 0 (Prod.fst (exOut 0 ((q*(5412103778470702295:Int)) % (18446744073709551616:Int)) (Prod.fst (exOut 0 (Prod.fst (exOut 0 ((xi*(limb (Ob.n (.p y)) 4)) % (18446744073709551616:Int)) t4 (0:Int))) up (0:Int))) (0:Int))) dn (0:Int)))),.iu t5,.iu xi,(.iu (wrap .u64 ((wrap .u64 (((xi*(limb (Ob.n (.p y)) 4)) / (18446744073709551616:Int))+(Prod.snd (exOut 0 ((xi*(limb (Ob.n (.p y)) 4)) % (18446744073709551616:Int)) t4 (0:Int)))))+(Prod.snd (exOut 0 (Prod.fst (exOut 0 ((xi*(limb (Ob.n (.p y)) 4)) % (18446744073709551616:Int)) t4 (0:Int))) up (0:Int)))))),.iu q,(.iu (wrap .u64 ((wrap .u64 (((q*(5412103778470702295:Int)) / (18446744073709551616:Int))+(Prod.snd (exOut 0 ((q*(5412103778470702295:Int)) % (18446744073709551616:Int)) (Prod.fst (exOut 0 (Prod.fst (exOut 0 ((xi*(limb (Ob.n (.p y)) 4)) % (18446744073709551616:Int)) t4 (0:Int))) up (0:Int))) (0:Int)))))+(Prod.snd (exOut 0 (Prod.fst (exOut 0 ((q*(5412103778470702295:Int)) % (18446744073709551616:Int)) (Prod.fst (exOut 0 (Prod.fst (exOut 0 ((xi*(limb (Ob.n (.p y)) 4)) % (18446744073709551616:Int)) t4 (0:Int))) up (0:Int))) (0:Int))) dn (0:Int)))))),(.v (.a [.ob (.p x)])),(.ii (i:Int))] [32,48] [(eF_ [.ob (.p y)]),(eF_ [(.ob (.p (0:Fp)))])] 5008 [] []) .normal (mE_k) (mD_k):=fun hs hK=>
 run_at2 (unroll:=false) (n:=94) (path:=[]) (o:=⟨_,_,_,_,_,_,_⟩) qeC_ok (by kernel_rfl) (by kernel_rfl) ho hs hK
def mS5 (x y:Fp) (i:Nat) (n0 n1 n2 n3 t5 xi q up dn:Int):St:=mkSt 308 [3,4,5,6,7,8,10,12,16,17,19,20,21] [.pt 32 0,.pt 48 0,.iu n0,.iu n1,.iu n2,.v (.c (.int .u64 n3)),.iu t5,.iu xi,.v (.c (.int .u64 up)),.iu q,.v (.c (.int .u64 dn)),(.v (.a [.ob (.p x)])),(.ii (i:Int))] [32,48] [(eF_ [.ob (.p y)]),(eF_ [(.ob (.p (0:Fp)))])] 5008 [] []
theorem mF (x y:Fp) (i:Nat) (n0 n1 n2 n3 t5 xi q up dn:Int) (ho:AllP [(0≤(5:Int)),((5:Int)<(6:Int)),(5<(Ob.k (.p y))),(0≤xi),(xi<(18446744073709551616:Int)),(0≤(limb (Ob.n (.p y)) 5)),((limb (Ob.n (.p y)) 5)<(18446744073709551616:Int)),(0≤((xi*(limb (Ob.n (.p y)) 5)) % (18446744073709551616:Int))),(0≤t5),(t5<(18446744073709551616:Int)),(0≤(0:Int)),(0≤(1:Int)),(0≤(Prod.fst (exOut 0 ((xi*(limb (Ob.n (.p y)) 5)) % (18446744073709551616:Int)) t5 (0:Int)))),(0≤up),(up<(18446744073709551616:Int)),(0≤(0:Int)),(0≤(1:Int)),(0≤q),(q<(18446744073709551616:Int)),(0≤(1873798617647539866:Int)),((1873798617647539866:Int)<(18446744073709551616:Int)),(0≤((q*(1873798617647539866:Int)) % (18446744073709551616:Int))),(0≤(Prod.fst (exOut 0 (Prod.fst (exOut 0 ((xi*(limb (Ob.n (.p y)) 5)) % (18446744073709551616:Int)) t5 (0:Int))) up (0:Int)))),((Prod.fst (exOut 0 (Prod.fst (exOut 0 ((xi*(limb (Ob.n (.p y)) 5)) % (18446744073709551616:Int)) t5 (0:Int))) up (0:Int)))<(18446744073709551616:Int)),(0≤(0:Int)),(0≤(1:Int)),(0≤(Prod.fst (exOut 0 ((q*(1873798617647539866:Int)) % (18446744073709551616:Int)) (Prod.fst (exOut 0 (Prod.fst (exOut 0 ((xi*(limb (Ob.n (.p y)) 5)) % (18446744073709551616:Int)) t5 (0:Int))) up (0:Int))) (0:Int)))),(0≤dn),(dn<(18446744073709551616:Int)),(0≤(0:Int)),(0≤(1:Int))]):Sg Tryz.prog (mS5 x y i n0 n1 n2 n3 t5 xi q up dn) (mkSt 308 [3,4,5,6,7,8,9,10,20,21] [.pt 32 0,.pt 48 0,.iu n0,.iu n1,.iu n2,.iu n3,(.iu (Prod.fst (exOut 0 (Prod.fst (exOut 0 ((q*(1873798617647539866:Int)) % (18446744073709551616:Int)) (Prod.fst (exOut 0 (Prod.fst (exOut 0 ((xi*(limb (Ob.n (.p y)) 5)) % (18446744073709551616:Int)) t5 (0:Int))) up (0:Int))) (0:Int))) dn (0:Int)))),(.iu (wrap .u64 ((wrap .u64 ((wrap .u64 (((q*(1873798617647539866:Int)) / (18446744073709551616:Int))+(Prod.snd (exOut 0 ((q*(1873798617647539866:Int)) % (18446744073709551616:Int)) (Prod.fst (exOut 0 (Prod.fst (exOut 0 ((xi*(limb (Ob.n (.p y)) 5)) % (18446744073709551616:Int)) t5 (0:Int))) up (0:Int))) (0:Int)))))+(Prod.snd (exOut 0 (Prod.fst (exOut 0 ((q*(1873798617647539866:Int)) % (18446744073709551616:Int)) (Prod.fst (exOut 0 (Prod.fst (exOut 0 ((xi*(limb (Ob.n (.p y)) 5)) % (18446744073709551616:Int)) t5 (0:Int))) up (0:Int))) (0:Int))) dn (0:Int)))))+(wrap .u64 ((wrap .u64 (((xi*(limb (Ob.n (.p y)) 5)) / (18446744073709551616:Int))+(Prod.snd (exOut 0 ((xi*(limb (Ob.n (.p y)) 5)) % (18446744073709551616:Int)) t5 (0:Int)))))+(Prod.snd (exOut 0 (Prod.fst (exOut 0 ((xi*(limb (Ob.n (.p y)) 5)) % (18446744073709551616:Int)) t5 (0:Int))) up (0:Int)))))))),(.v (.a [.ob (.p x)])),(.ii (wrap .i64 ((i:Int)+1)))] [32,48] [(eF_ [.ob (.p y)]),(eF_ [(.ob (.p (0:Fp)))])] 6128 [] []) .normal (lpBk mIn_k) (mE_k):=fun hs hK=>
 run_at2 (unroll:=false) (n:=3000) (path:=[]) (o:=⟨_,_,_,_,_,_,_⟩) qeC_ok (by kernel_rfl) (by kernel_rfl) ho hs hK
end
end

section

/-- Ahead of the i-th round. -/
structure MInv (x y:Fp) (i:Nat) (t0 t1 t2 t3 t4 t5:Int):Prop where
 i6:i≤6
 h0:Lim6 t0
 h1:Lim6 t1
 h2:Lim6 t2
 h3:Lim6 t3
 h4:Lim6 t4
 h5:Lim6 t5
 lt:num6 t0 t1 t2 t3 t4 t5<2*pN
 eq:∃Q:Nat,num6 t0 t1 t2 t3 t4 t5*((2 ^ (64*i):Nat):Int)=(((Ob.p x).n % 2 ^ (64*i):Nat):Int)*((Ob.p y).n:Int)+(Q:Int)*(pN:Int)

theorem wrap_lim6 (n:Int):Lim6 (wrap IntKind.u64 n):=by
 unfold Lim6
 rw[wrapU]
 omega

theorem limb_lim (n i:Nat):Lim6 (limb n i):=by
 refine ⟨Int.natCast_nonneg _,?_⟩
 show ((n / 2 ^ (64*i) % 18446744073709551616:Nat):Int)<18446744073709551616
 omega

theorem last_eq6 {T:Int} (hT:0≤T) {b X Y Q r:Nat} (h:T*(b:Int)=(X:Int)*(Y:Int)+(Q:Int)*(r:Int)):T.toNat*b=X*Y+Q*r:=by
 rw[←Int.toNat_of_nonneg hT] at h
 exact_mod_cast h

/-- A round, all columns together. -/
theorem round6 {t0 t1 t2 t3 t4 t5 xi y0 y1 y2 y3 y4 y5 q lo0 up0 dn0 lo1 up1 dn1 lo2 up2 dn2 lo3 up3 dn3 lo4 up4 dn4 lo5 up5 dn5 n0 n1 n2 n3 n4:Int}
  (eA:xi*y0+t0=lo0+18446744073709551616*up0) (eA' : q*13402431016077863595+lo0=18446744073709551616*dn0)
  (eB:xi*y1+t1+up0=lo1+18446744073709551616*up1) (eB' : q*2210141511517208575+lo1+dn0=n0+18446744073709551616*dn1)
  (eC:xi*y2+t2+up1=lo2+18446744073709551616*up2) (eC' : q*7435674573564081700+lo2+dn1=n1+18446744073709551616*dn2)
  (eD:xi*y3+t3+up2=lo3+18446744073709551616*up3) (eD' : q*7239337960414712511+lo3+dn2=n2+18446744073709551616*dn3)
  (eE:xi*y4+t4+up3=lo4+18446744073709551616*up4) (eE' : q*5412103778470702295+lo4+dn3=n3+18446744073709551616*dn4)
  (eF:xi*y5+t5+up4=lo5+18446744073709551616*up5) (eF' : q*1873798617647539866+lo5+dn4=n4+18446744073709551616*dn5) :
  18446744073709551616*num6 n0 n1 n2 n3 n4 (dn5+up5)=num6 t0 t1 t2 t3 t4 t5+xi*num6 y0 y1 y2 y3 y4 y5+q*(pN:Int):=by
 rw[num6_mul xi,pN_int]
 have hq:q*4002409555221667393417789825735904156556882819939007885332058136124031650490837864442687629129015664037894272559787=q*13402431016077863595+18446744073709551616*(q*2210141511517208575)+340282366920938463463374607431768211456*(q*7435674573564081700)+6277101735386680763835789423207666416102355444464034512896*(q*7239337960414712511)+115792089237316195423570985008687907853269984665640564039457584007913129639936*(q*5412103778470702295)+2135987035920910082395021706169552114602704522356652769947041607822219725780640550022962086936576*(q*1873798617647539866):=by omega
 rw[hq]
 unfold num6
 generalize xi*y0=z0 at *
 generalize xi*y1=z1 at *
 generalize xi*y2=z2 at *
 generalize xi*y3=z3 at *
 generalize xi*y4=z4 at *
 generalize xi*y5=z5 at *
 generalize q*13402431016077863595=p0 at *
 generalize q*2210141511517208575=p1 at *
 generalize q*7435674573564081700=p2 at *
 generalize q*7239337960414712511=p3 at *
 generalize q*5412103778470702295=p4 at *
 generalize q*1873798617647539866=p5 at *
 omega

/-- What is carried on stays small. -/
theorem small6 {T T' X q Y:Int} (hT:T<2*pN) (hx:X≤18446744073709551615) (hY:Y<pN) (hY0:0≤Y) (hq:q<18446744073709551616) (hall:18446744073709551616*T' = T+X*Y+q*(pN:Int)):T' < 2*pN:=by
 have h1:X*Y≤18446744073709551615*Y:=Int.mul_le_mul_of_nonneg_right hx hY0
 have h2:q*(pN:Int)≤18446744073709551615*(pN:Int):=Int.mul_le_mul_of_nonneg_right (by omega) (by omega)
 generalize X*Y=z at *
 generalize q*(pN:Int)=z' at *
 rw[pN_int] at *
 omega

theorem top6 {n0 n1 n2 n3 n4 t:Int} (h0:Lim6 n0) (h1:Lim6 n1) (h2:Lim6 n2) (h3:Lim6 n3) (h4:Lim6 n4) (h:num6 n0 n1 n2 n3 n4 t<2*pN):t<18446744073709551616:=by
 rw[pN_int] at h
 obtain ⟨h0,_⟩:=h0
 obtain ⟨h1,_⟩:=h1
 obtain ⟨h2,_⟩:=h2
 obtain ⟨h3,_⟩:=h3
 obtain ⟨h4,_⟩:=h4
 unfold num6 at h
 omega

section
variable {w0:World} {F0:Nat→Prop} {K:Kp} {ac:List Act} {Q:Exit→Act→World→Prop} {cX:Ctx} {aX:Act}

theorem segA (x y:Fp) (i:Nat) {t0 t1 t2 t3 t4 t5:Int} (hi:i<6) (h0:Lim6 t0) (hx:Lim6 (limb (Ob.p x).n i)) (hy:Lim6 (limb (Ob.p y).n 0)) (hs:Sim w0 F0 K ac (mS x y i t0 t1 t2 t3 t4 t5) cX aX)
  (k:∀lo up q dn:Int,limb (Ob.p x).n i*limb (Ob.p y).n 0+t0=lo+18446744073709551616*up→q*13402431016077863595+lo=18446744073709551616*dn→Lim6 lo→Lim6 up→Lim6 q→Lim6 dn →
   ∀ac cY aY,Sim w0 F0 K ac (mS1 x y i t1 t2 t3 t4 t5 (limb (Ob.p x).n i) q up dn) cY aY→Wq Tryz.prog Q mA_k ac .normal aY cY.w):Wq Tryz.prog Q (lpIn mIn_k) ac .normal aX cX.w:=by
 obtain ⟨a0,b0⟩:=h0
 obtain ⟨x0,x1⟩:=hx
 obtain ⟨y0,y1⟩:=hy
 have e1:=mac1 x0 x1 y0 y1 a0 b0
 have sA:=@mA x y i t0 t1 t2 t3 t4 t5 w0 F0 K ac Q cX aX
 rw[Int.toNat_natCast] at sA
 generalize limb (Ob.p x).n i=xi at *
 obtain ⟨e1,l1,u1⟩:=e1
 have hq:=wrap_lim6 ((exOut 0 ((xi*limb (Ob.p y).n 0) % 18446744073709551616) t0 0).1*9940570264628428797)
 have e2:=mac1 (b:=13402431016077863595) hq.1 hq.2 (by decide) (by decide) l1.1 l1.2
 have e3:=negP_low (l:=(exOut 0 ((xi*limb (Ob.p y).n 0) % 18446744073709551616) t0 0).1) rfl
 refine sA ?_ hs fun ac cY aY h=>?_
 ·refine ⟨by simp only[decide_eq_true_eq];omega,by omega,by omega,by decide,by decide,by show (0:Nat)<6;decide,x0,x1,y0,y1,by omega,a0,b0,by decide,by decide,hq.1,hq.2,by decide,by decide,by omega,l1.1,l1.2,by decide,by decide,trivial⟩
 ·refine k _ _ _ _ e1 ?_ l1 u1 hq e2.2.2 ac cY aY h
  have:=e2.1
  have:=e2.2.1
  omega

theorem segB (x y:Fp) (i:Nat) {t1 t2 t3 t4 t5 xi q up dn:Int} (ht:Lim6 t1) (hx:Lim6 xi) (hq:Lim6 q) (hu:Lim6 up) (hd:Lim6 dn) (hy:Lim6 (limb (Ob.p y).n 1)) (hs:Sim w0 F0 K ac (mS1 x y i t1 t2 t3 t4 t5 xi q up dn) cX aX)
  (k:∀lo up' n dn' : Int,xi*limb (Ob.p y).n 1+t1+up=lo+18446744073709551616*up' → q*2210141511517208575+lo+dn=n+18446744073709551616*dn' → Lim6 lo→Lim6 up' → Lim6 n→Lim6 dn' →
   ∀ac cY aY,Sim w0 F0 K ac (mS2 x y i n t2 t3 t4 t5 xi q up' dn') cY aY→Wq Tryz.prog Q (mB_k) ac .normal aY cY.w):Wq Tryz.prog Q (mA_k) ac .normal aX cX.w:=by
 obtain ⟨e1,l1,u1,m1⟩:=mac hx.1 hx.2 hy.1 hy.2 ht.1 ht.2 hu.1 hu.2
 obtain ⟨e2,l2,u2,m2⟩:=mac (b:=2210141511517208575) hq.1 hq.2 (by decide) (by decide) l1.1 l1.2 hd.1 hd.2
 refine mB x y i t1 t2 t3 t4 t5 xi q up dn ?_ hs fun ac cY aY h=>?_
 ·refine ⟨by decide,by decide,by show 1<6;decide,hx.1,hx.2,hy.1,hy.2,by omega,ht.1,ht.2,by decide,by decide,m1.1,hu.1,hu.2,by decide,by decide,hq.1,hq.2,by decide,by decide,by omega,l1.1,l1.2,by decide,by decide,m2.1,hd.1,hd.2,by decide,by decide,trivial⟩
 ·exact k _ _ _ _ e1 e2 l1 u1 l2 u2 ac cY aY h

theorem segC (x y:Fp) (i:Nat) {n0 t2 t3 t4 t5 xi q up dn:Int} (ht:Lim6 t2) (hx:Lim6 xi) (hq:Lim6 q) (hu:Lim6 up) (hd:Lim6 dn) (hy:Lim6 (limb (Ob.p y).n 2)) (hs:Sim w0 F0 K ac (mS2 x y i n0 t2 t3 t4 t5 xi q up dn) cX aX)
  (k:∀lo up' n dn' : Int,xi*limb (Ob.p y).n 2+t2+up=lo+18446744073709551616*up' → q*7435674573564081700+lo+dn=n+18446744073709551616*dn' → Lim6 lo→Lim6 up' → Lim6 n→Lim6 dn' →
   ∀ac cY aY,Sim w0 F0 K ac (mS3 x y i n0 n t3 t4 t5 xi q up' dn') cY aY→Wq Tryz.prog Q (mC_k) ac .normal aY cY.w):Wq Tryz.prog Q (mB_k) ac .normal aX cX.w:=by
 obtain ⟨e1,l1,u1,m1⟩:=mac hx.1 hx.2 hy.1 hy.2 ht.1 ht.2 hu.1 hu.2
 obtain ⟨e2,l2,u2,m2⟩:=mac (b:=7435674573564081700) hq.1 hq.2 (by decide) (by decide) l1.1 l1.2 hd.1 hd.2
 refine mC x y i n0 t2 t3 t4 t5 xi q up dn ?_ hs fun ac cY aY h=>?_
 ·refine ⟨by decide,by decide,by show 2<6;decide,hx.1,hx.2,hy.1,hy.2,by omega,ht.1,ht.2,by decide,by decide,m1.1,hu.1,hu.2,by decide,by decide,hq.1,hq.2,by decide,by decide,by omega,l1.1,l1.2,by decide,by decide,m2.1,hd.1,hd.2,by decide,by decide,trivial⟩
 ·exact k _ _ _ _ e1 e2 l1 u1 l2 u2 ac cY aY h

theorem segD (x y:Fp) (i:Nat) {n0 n1 t3 t4 t5 xi q up dn:Int} (ht:Lim6 t3) (hx:Lim6 xi) (hq:Lim6 q) (hu:Lim6 up) (hd:Lim6 dn) (hy:Lim6 (limb (Ob.p y).n 3)) (hs:Sim w0 F0 K ac (mS3 x y i n0 n1 t3 t4 t5 xi q up dn) cX aX)
  (k:∀lo up' n dn' : Int,xi*limb (Ob.p y).n 3+t3+up=lo+18446744073709551616*up' → q*7239337960414712511+lo+dn=n+18446744073709551616*dn' → Lim6 lo→Lim6 up' → Lim6 n→Lim6 dn' →
   ∀ac cY aY,Sim w0 F0 K ac (mS4 x y i n0 n1 n t4 t5 xi q up' dn') cY aY→Wq Tryz.prog Q (mD_k) ac .normal aY cY.w):Wq Tryz.prog Q (mC_k) ac .normal aX cX.w:=by
 obtain ⟨e1,l1,u1,m1⟩:=mac hx.1 hx.2 hy.1 hy.2 ht.1 ht.2 hu.1 hu.2
 obtain ⟨e2,l2,u2,m2⟩:=mac (b:=7239337960414712511) hq.1 hq.2 (by decide) (by decide) l1.1 l1.2 hd.1 hd.2
 refine mD x y i n0 n1 t3 t4 t5 xi q up dn ?_ hs fun ac cY aY h=>?_
 ·refine ⟨by decide,by decide,by show 3<6;decide,hx.1,hx.2,hy.1,hy.2,by omega,ht.1,ht.2,by decide,by decide,m1.1,hu.1,hu.2,by decide,by decide,hq.1,hq.2,by decide,by decide,by omega,l1.1,l1.2,by decide,by decide,m2.1,hd.1,hd.2,by decide,by decide,trivial⟩
 ·exact k _ _ _ _ e1 e2 l1 u1 l2 u2 ac cY aY h

theorem segE (x y:Fp) (i:Nat) {n0 n1 n2 t4 t5 xi q up dn:Int} (ht:Lim6 t4) (hx:Lim6 xi) (hq:Lim6 q) (hu:Lim6 up) (hd:Lim6 dn) (hy:Lim6 (limb (Ob.p y).n 4)) (hs:Sim w0 F0 K ac (mS4 x y i n0 n1 n2 t4 t5 xi q up dn) cX aX)
  (k:∀lo up' n dn' : Int,xi*limb (Ob.p y).n 4+t4+up=lo+18446744073709551616*up' → q*5412103778470702295+lo+dn=n+18446744073709551616*dn' → Lim6 lo→Lim6 up' → Lim6 n→Lim6 dn' →
   ∀ac cY aY,Sim w0 F0 K ac (mS5 x y i n0 n1 n2 n t5 xi q up' dn') cY aY→Wq Tryz.prog Q (mE_k) ac .normal aY cY.w):Wq Tryz.prog Q (mD_k) ac .normal aX cX.w:=by
 obtain ⟨e1,l1,u1,m1⟩:=mac hx.1 hx.2 hy.1 hy.2 ht.1 ht.2 hu.1 hu.2
 obtain ⟨e2,l2,u2,m2⟩:=mac (b:=5412103778470702295) hq.1 hq.2 (by decide) (by decide) l1.1 l1.2 hd.1 hd.2
 refine mE x y i n0 n1 n2 t4 t5 xi q up dn ?_ hs fun ac cY aY h=>?_
 ·refine ⟨by decide,by decide,by show 4<6;decide,hx.1,hx.2,hy.1,hy.2,by omega,ht.1,ht.2,by decide,by decide,m1.1,hu.1,hu.2,by decide,by decide,hq.1,hq.2,by decide,by decide,by omega,l1.1,l1.2,by decide,by decide,m2.1,hd.1,hd.2,by decide,by decide,trivial⟩
 ·exact k _ _ _ _ e1 e2 l1 u1 l2 u2 ac cY aY h

theorem segF (x y:Fp) (i:Nat) (hi:i<6) {n0 n1 n2 n3 t5 xi q up dn:Int} (ht:Lim6 t5) (hx:Lim6 xi) (hq:Lim6 q) (hu:Lim6 up) (hd:Lim6 dn) (hy:Lim6 (limb (Ob.p y).n 5)) (hs:Sim w0 F0 K ac (mS5 x y i n0 n1 n2 n3 t5 xi q up dn) cX aX)
  (k:∀lo up' n dn' : Int,xi*limb (Ob.p y).n 5+t5+up=lo+18446744073709551616*up' → q*1873798617647539866+lo+dn=n+18446744073709551616*dn' → Lim6 lo→Lim6 up' → Lim6 n→Lim6 dn' →
   ∀ac cY aY,Sim w0 F0 K ac (mS x y (i+1) n0 n1 n2 n3 n (wrap IntKind.u64 (dn' + up'))) cY aY→Wq Tryz.prog Q (lpBk mIn_k) ac .normal aY cY.w):Wq Tryz.prog Q (mE_k) ac .normal aX cX.w:=by
 obtain ⟨e1,l1,u1,m1⟩:=mac hx.1 hx.2 hy.1 hy.2 ht.1 ht.2 hu.1 hu.2
 obtain ⟨e2,l2,u2,m2⟩:=mac (b:=1873798617647539866) hq.1 hq.2 (by decide) (by decide) l1.1 l1.2 hd.1 hd.2
 refine mF x y i n0 n1 n2 n3 t5 xi q up dn ?_ hs fun ac cY aY h=>?_
 ·refine ⟨by decide,by decide,by show 5<6;decide,hx.1,hx.2,hy.1,hy.2,by omega,ht.1,ht.2,by decide,by decide,m1.1,hu.1,hu.2,by decide,by decide,hq.1,hq.2,by decide,by decide,by omega,l1.1,l1.2,by decide,by decide,m2.1,hd.1,hd.2,by decide,by decide,trivial⟩
 ·exact k _ _ _ _ e1 e2 l1 u1 l2 u2 ac cY aY ((by rw[wrap_id (by omega) (by omega)] at h;exact h.nx _))

end

theorem times6_fnd (x y:Fp):FnD Tryz.prog 105 [.v (.a [.ob (.p x)]),.v (.a [.ob (.p y)])] (.v (.a [.ob (.p (x*y))])) []:=by
 refine fn_start (fn:=Tryz.f105) (c:=bodyOf Tryz.f105) Tryz.func105 rfl rfl fun cx ca hk hF hs=>?_
 refine mIn x y trivial hs fun ac cY aY hs1=>?_
 refine loop_rule (ι:={ p:Nat×Int×Int×Int×Int×Int×Int // MInv x y p.1 p.2.1 p.2.2.1 p.2.2.2.1 p.2.2.2.2.1 p.2.2.2.2.2.1 p.2.2.2.2.2.2 }) (fun p=>mS x y p.1.1 p.1.2.1 p.1.2.2.1 p.1.2.2.2.1 p.1.2.2.2.2.1 p.1.2.2.2.2.2.1 p.1.2.2.2.2.2.2) (fun p=>6-p.1.1) (c:=lpC mIn_k) (k:=lpR mIn_k) (by kernel_rfl) (fun p ih ac cY aY hs=>?_)
  ⟨(0,0,0,0,0,0,0),⟨by decide,⟨by decide,by decide⟩,⟨by decide,by decide⟩,⟨by decide,by decide⟩,⟨by decide,by decide⟩,⟨by decide,by decide⟩,⟨by decide,by decide⟩,by decide,0,by simp [num6,Nat.mod_one]⟩⟩ hs1
 obtain ⟨⟨i,t0,t1,t2,t3,t4,t5⟩,hI⟩:=p
 simp only at ih hs hI
 obtain ⟨hi,hl0,hl1,hl2,hl3,hl4,hl5,hlt,Q,hQ⟩:=hI
 have ey:=(limbsOf6 (Ob.p y).n (Nat.lt_trans (p_lt y) (by decide))).1
 have hyr:((Ob.p y).n:Int)<(pN:Int):=by exact_mod_cast p_lt y
 by_cases h5:i<6
 ·have hlx:=limb_lim (Ob.p x).n i
  have hly0:=limb_lim (Ob.p y).n 0
  have hly1:=limb_lim (Ob.p y).n 1
  have hly2:=limb_lim (Ob.p y).n 2
  have hly3:=limb_lim (Ob.p y).n 3
  have hly4:=limb_lim (Ob.p y).n 4
  have hly5:=limb_lim (Ob.p y).n 5
  have hround:=fun T' q hq=>round_eq6 (A:=(Ob.p x).n) (Y:=(Ob.p y).n) (r:=pN) (i:=i) (Q:=Q) (T:=num6 t0 t1 t2 t3 t4 t5) (T' := T') (q:=q) hq hQ
  refine segA x y i h5 hl0 hlx hly0 hs fun lo0 up0 q dn0 eA eA' hlo0 hup0 hq hdn0 ac cY aY hs=>?_
  refine segB x y i hl1 hlx hq hup0 hdn0 hly1 hs fun lo1 up1 n0 dn1 eB eB' hlo1 hup1 hn0 hdn1 ac cY aY hs=>?_
  refine segC x y i hl2 hlx hq hup1 hdn1 hly2 hs fun lo2 up2 n1 dn2 eC eC' hlo2 hup2 hn1 hdn2 ac cY aY hs=>?_
  refine segD x y i hl3 hlx hq hup2 hdn2 hly3 hs fun lo3 up3 n2 dn3 eD eD' hlo3 hup3 hn2 hdn3 ac cY aY hs=>?_
  refine segE x y i hl4 hlx hq hup3 hdn3 hly4 hs fun lo4 up4 n3 dn4 eE eE' hlo4 hup4 hn3 hdn4 ac cY aY hs=>?_
  refine segF x y i h5 hl5 hlx hq hup4 hdn4 hly5 hs fun lo5 up5 n4 dn5 eF eF' hlo5 hup5 hn4 hdn5 ac cY aY hs=>?_
  have hall:=round6 eA eA' eB eB' eC eC' eD eD' eE eE' eF eF'
  rw[←ey] at hall
  have hlt' := small6 hlt (by have:=hlx.2;omega) hyr (by omega) hq.2 hall
  have htp:=top6 hn0 hn1 hn2 hn3 hn4 hlt'
  have htop:wrap IntKind.u64 (dn5+up5)=dn5+up5:=wrap_u (by have:=hdn5.1;have:=hup5.1;omega) htp
  rw[htop] at hs
  refine ih ⟨(i+1,n0,n1,n2,n3,n4,dn5+up5),⟨h5,hn0,hn1,hn2,hn3,hn4,?_,hlt',hround _ q hq.1 hall⟩⟩ (by show 6-(i+1)<6-i;omega) ac cY aY hs
  rw[←htop]
  exact wrap_lim6 _
 ·have hi6:i=6:=by omega
  subst hi6
  have hT:0≤num6 t0 t1 t2 t3 t4 t5:=num6_pos hl0.1 hl1.1 hl2.1 hl3.1 hl4.1 hl5.1
  refine run_end qeC_ok hk hF (mX_end x y 6 t0 t1 t2 t3 t4 t5) ?_ (fun z w hd=>?_) hs
  ·refine ⟨by decide,hl0.1,hl0.2,hl1.1,hl1.2,hl2.1,hl2.2,hl3.1,hl3.2,hl4.1,hl4.2,hl5.1,hl5.2,hlt,trivial⟩
  ·have:redQ (num6 t0 t1 t2 t3 t4 t5).toNat=x*y:=by
    refine mont_out6 (Q:=Q) ?_
    have hX:(Ob.p x).n % 2 ^ (64*6)=(Ob.p x).n:=Nat.mod_eq_of_lt (Nat.lt_trans (p_lt x) pow6_gt)
    rw[hX] at hQ
    have h6:(2 ^ (64*6):Nat)=B6:=pow6'
    rw[h6] at hQ
    exact last_eq6 hT hQ
   rw[←this]
   exact hd

end

section

def u6s (a b c d e f:Int):SV:=.v (.c (.sl (.u64 [a,b,c,d,e,f])))
def fl6 (a b c d e f:Int):En:=.fl [.int .u64 a,.int .u64 b,.int .u64 c,.int .u64 d,.int .u64 e,.int .u64 f]

def qd6 (o0 o1 o2 o3 o4 o5 a b c d e f more m0 m1 m2 m3 m4 m5:Int):Cfg:=⟨[.code (bodyOf Tryz.f125)],.normal,muSt Tryz.f125.ntmps 0 6 1 (fl6 o0 o1 o2 o3 o4 o5) [u6s a b c d e f,.v (.c (.int .u64 more)),u6s m0 m1 m2 m3 m4 m5]⟩

--@env qeC qeC_ok
--@unroll true
theorem rd6X (o0 o1 o2 o3 o4 o5 a b c d e f more m0 m1 m2 m3 m4 m5:Int):muEnd qeC Tryz.f125 true 3000 (qd6 o0 o1 o2 o3 o4 o5 a b c d e f more m0 m1 m2 m3 m4 m5) [true,true,true,true,true,true,false,true]=(some ([((decide (0<((6:Nat):Int)))=true),(0≤(0:Int)),(0<((6:Nat):Int)),(0≤(0:Int)),(0<((6:Nat):Int)),(0≤a),(0≤m0),(m0<(18446744073709551616:Int)),(0≤(0:Int)),(0≤(1:Int)),(0≤(0:Int)),(0<(8:Int)),((decide ((1:Int)<((6:Nat):Int)))=true),(0≤(1:Int)),((1:Int)<((6:Nat):Int)),(0≤(1:Int)),((1:Int)<((6:Nat):Int)),(0≤b),(0≤m1),(m1<(18446744073709551616:Int)),(0≤(Prod.snd (exOut 1 a m0 (0:Int)))),((Prod.snd (exOut 1 a m0 (0:Int)))≤(1:Int)),(0≤(1:Int)),((1:Int)<(8:Int)),((decide ((2:Int)<((6:Nat):Int)))=true),(0≤(2:Int)),((2:Int)<((6:Nat):Int)),(0≤(2:Int)),((2:Int)<((6:Nat):Int)),(0≤c),(0≤m2),(m2<(18446744073709551616:Int)),(0≤(Prod.snd (exOut 1 b m1 (Prod.snd (exOut 1 a m0 (0:Int)))))),((Prod.snd (exOut 1 b m1 (Prod.snd (exOut 1 a m0 (0:Int)))))≤(1:Int)),(0≤(2:Int)),((2:Int)<(8:Int)),((decide ((3:Int)<((6:Nat):Int)))=true),(0≤(3:Int)),((3:Int)<((6:Nat):Int)),(0≤(3:Int)),((3:Int)<((6:Nat):Int)),(0≤d),(0≤m3),(m3<(18446744073709551616:Int)),(0≤(Prod.snd (exOut 1 c m2 (Prod.snd (exOut 1 b m1 (Prod.snd (exOut 1 a m0 (0:Int)))))))),((Prod.snd (exOut 1 c m2 (Prod.snd (exOut 1 b m1 (Prod.snd (exOut 1 a m0 (0:Int)))))))≤(1:Int)),(0≤(3:Int)),((3:Int)<(8:Int)),((decide ((4:Int)<((6:Nat):Int)))=true),(0≤(4:Int)),((4:Int)<((6:Nat):Int)),(0≤(4:Int)),((4:Int)<((6:Nat):Int)),(0≤e),(0≤m4),(m4<(18446744073709551616:Int)),(0≤(Prod.snd (exOut 1 d m3 (Prod.snd (exOut 1 c m2 (Prod.snd (exOut 1 b m1 (Prod.snd (exOut 1 a m0 (0:Int)))))))))),((Prod.snd (exOut 1 d m3 (Prod.snd (exOut 1 c m2 (Prod.snd (exOut 1 b m1 (Prod.snd (exOut 1 a m0 (0:Int)))))))))≤(1:Int)),(0≤(4:Int)),((4:Int)<(8:Int)),((decide ((5:Int)<((6:Nat):Int)))=true),(0≤(5:Int)),((5:Int)<((6:Nat):Int)),(0≤(5:Int)),((5:Int)<((6:Nat):Int)),(0≤f),(0≤m5),(m5<(18446744073709551616:Int)),(0≤(Prod.snd (exOut 1 e m4 (Prod.snd (exOut 1 d m3 (Prod.snd (exOut 1 c m2 (Prod.snd (exOut 1 b m1 (Prod.snd (exOut 1 a m0 (0:Int)))))))))))),((Prod.snd (exOut 1 e m4 (Prod.snd (exOut 1 d m3 (Prod.snd (exOut 1 c m2 (Prod.snd (exOut 1 b m1 (Prod.snd (exOut 1 a m0 (0:Int)))))))))))≤(1:Int)),(0≤(5:Int)),((5:Int)<(8:Int)),((decide ((6:Int)<((6:Nat):Int)))=false),((decide (more ≥ (Prod.snd (exOut 1 f m5 (Prod.snd (exOut 1 e m4 (Prod.snd (exOut 1 d m3 (Prod.snd (exOut 1 c m2 (Prod.snd (exOut 1 b m1 (Prod.snd (exOut 1 a m0 (0:Int)))))))))))))))=true),(0≤((6:Nat):Int)),(((6:Nat):Int)≤(8:Int))],(.fl [(.int .u64 (Prod.fst (exOut 1 a m0 (0:Int)))),(.int .u64 (Prod.fst (exOut 1 b m1 (Prod.snd (exOut 1 a m0 (0:Int)))))),(.int .u64 (Prod.fst (exOut 1 c m2 (Prod.snd (exOut 1 b m1 (Prod.snd (exOut 1 a m0 (0:Int)))))))),(.int .u64 (Prod.fst (exOut 1 d m3 (Prod.snd (exOut 1 c m2 (Prod.snd (exOut 1 b m1 (Prod.snd (exOut 1 a m0 (0:Int)))))))))),(.int .u64 (Prod.fst (exOut 1 e m4 (Prod.snd (exOut 1 d m3 (Prod.snd (exOut 1 c m2 (Prod.snd (exOut 1 b m1 (Prod.snd (exOut 1 a m0 (0:Int)))))))))))),(.int .u64 (Prod.fst (exOut 1 f m5 (Prod.snd (exOut 1 e m4 (Prod.snd (exOut 1 d m3 (Prod.snd (exOut 1 c m2 (Prod.snd (exOut 1 b m1 (Prod.snd (exOut 1 a m0 (0:Int))))))))))))))]))):=by kernel_rfl
theorem rd6Y (o0 o1 o2 o3 o4 o5 a b c d e f more m0 m1 m2 m3 m4 m5:Int):muEnd qeC Tryz.f125 true 3000 (qd6 o0 o1 o2 o3 o4 o5 a b c d e f more m0 m1 m2 m3 m4 m5) [true,true,true,true,true,true,false,false]=(some ([((decide (0<((6:Nat):Int)))=true),(0≤(0:Int)),(0<((6:Nat):Int)),(0≤(0:Int)),(0<((6:Nat):Int)),(0≤a),(0≤m0),(m0<(18446744073709551616:Int)),(0≤(0:Int)),(0≤(1:Int)),(0≤(0:Int)),(0<(8:Int)),((decide ((1:Int)<((6:Nat):Int)))=true),(0≤(1:Int)),((1:Int)<((6:Nat):Int)),(0≤(1:Int)),((1:Int)<((6:Nat):Int)),(0≤b),(0≤m1),(m1<(18446744073709551616:Int)),(0≤(Prod.snd (exOut 1 a m0 (0:Int)))),((Prod.snd (exOut 1 a m0 (0:Int)))≤(1:Int)),(0≤(1:Int)),((1:Int)<(8:Int)),((decide ((2:Int)<((6:Nat):Int)))=true),(0≤(2:Int)),((2:Int)<((6:Nat):Int)),(0≤(2:Int)),((2:Int)<((6:Nat):Int)),(0≤c),(0≤m2),(m2<(18446744073709551616:Int)),(0≤(Prod.snd (exOut 1 b m1 (Prod.snd (exOut 1 a m0 (0:Int)))))),((Prod.snd (exOut 1 b m1 (Prod.snd (exOut 1 a m0 (0:Int)))))≤(1:Int)),(0≤(2:Int)),((2:Int)<(8:Int)),((decide ((3:Int)<((6:Nat):Int)))=true),(0≤(3:Int)),((3:Int)<((6:Nat):Int)),(0≤(3:Int)),((3:Int)<((6:Nat):Int)),(0≤d),(0≤m3),(m3<(18446744073709551616:Int)),(0≤(Prod.snd (exOut 1 c m2 (Prod.snd (exOut 1 b m1 (Prod.snd (exOut 1 a m0 (0:Int)))))))),((Prod.snd (exOut 1 c m2 (Prod.snd (exOut 1 b m1 (Prod.snd (exOut 1 a m0 (0:Int)))))))≤(1:Int)),(0≤(3:Int)),((3:Int)<(8:Int)),((decide ((4:Int)<((6:Nat):Int)))=true),(0≤(4:Int)),((4:Int)<((6:Nat):Int)),(0≤(4:Int)),((4:Int)<((6:Nat):Int)),(0≤e),(0≤m4),(m4<(18446744073709551616:Int)),(0≤(Prod.snd (exOut 1 d m3 (Prod.snd (exOut 1 c m2 (Prod.snd (exOut 1 b m1 (Prod.snd (exOut 1 a m0 (0:Int)))))))))),((Prod.snd (exOut 1 d m3 (Prod.snd (exOut 1 c m2 (Prod.snd (exOut 1 b m1 (Prod.snd (exOut 1 a m0 (0:Int)))))))))≤(1:Int)),(0≤(4:Int)),((4:Int)<(8:Int)),((decide ((5:Int)<((6:Nat):Int)))=true),(0≤(5:Int)),((5:Int)<((6:Nat):Int)),(0≤(5:Int)),((5:Int)<((6:Nat):Int)),(0≤f),(0≤m5),(m5<(18446744073709551616:Int)),(0≤(Prod.snd (exOut 1 e m4 (Prod.snd (exOut 1 d m3 (Prod.snd (exOut 1 c m2 (Prod.snd (exOut 1 b m1 (Prod.snd (exOut 1 a m0 (0:Int)))))))))))),((Prod.snd (exOut 1 e m4 (Prod.snd (exOut 1 d m3 (Prod.snd (exOut 1 c m2 (Prod.snd (exOut 1 b m1 (Prod.snd (exOut 1 a m0 (0:Int)))))))))))≤(1:Int)),(0≤(5:Int)),((5:Int)<(8:Int)),((decide ((6:Int)<((6:Nat):Int)))=false),((decide (more ≥ (Prod.snd (exOut 1 f m5 (Prod.snd (exOut 1 e m4 (Prod.snd (exOut 1 d m3 (Prod.snd (exOut 1 c m2 (Prod.snd (exOut 1 b m1 (Prod.snd (exOut 1 a m0 (0:Int)))))))))))))))=false)],(.fl [(.int .u64 a),(.int .u64 b),(.int .u64 c),(.int .u64 d),(.int .u64 e),(.int .u64 f)]))):=by kernel_rfl
end

section

theorem redv_a {N:Int} (h0:0≤N) (h1:(pN:Int)≤N) (h2:N<2*pN):((redV N.toNat).val:Int)=N-pN:=by
 have e:(redV N.toNat).val=N.toNat-pN:=by
  rw[redV_val]
  have k1:pN≤N.toNat:=by omega
  have k2:N.toNat<2*pN:=by omega
  rw[Nat.mod_eq_sub_mod k1,Nat.mod_eq_of_lt (by omega)]
 rw[e]
 omega

theorem redv_b {N:Int} (h0:0≤N) (h1:N<(pN:Int)):((redV N.toNat).val:Int)=N:=by
 have e:(redV N.toNat).val=N.toNat:=by
  rw[redV_val]
  exact Nat.mod_eq_of_lt (by omega)
 rw[e]
 omega

theorem reduce6_mu (o0 o1 o2 o3 o4 o5 a b c d e f:Int) (ha:Lim6 a) (hb:Lim6 b) (hc:Lim6 c) (hd:Lim6 d) (he:Lim6 e) (hf:Lim6 f) (hn:num6 a b c d e f<2*pN) :
  MuC Tryz.prog 125 0 6 1 (fl6 o0 o1 o2 o3 o4 o5) [u6s a b c d e f,.v (.c (.int .u64 0)),u6s 13402431016077863595 2210141511517208575 7435674573564081700 7239337960414712511 5412103778470702295 1873798617647539866] (.fl [.ob (.fp (redV (num6 a b c d e f).toNat))]):=by
 refine mu_start (fn:=Tryz.f125) (c:=bodyOf Tryz.f125) Tryz.func125 rfl rfl fun x ac hk hm hs=>?_
 obtain ⟨ha,ha1⟩:=ha
 obtain ⟨hb,hb1⟩:=hb
 obtain ⟨hc,hc1⟩:=hc
 obtain ⟨hd,hd1⟩:=hd
 obtain ⟨he,he1⟩:=he
 obtain ⟨hf,hf1⟩:=hf
 have r0:=rd6X o0 o1 o2 o3 o4 o5 a b c d e f 0 13402431016077863595 2210141511517208575 7435674573564081700 7239337960414712511 5412103778470702295 1873798617647539866
 have r1:=rd6Y o0 o1 o2 o3 o4 o5 a b c d e f 0 13402431016077863595 2210141511517208575 7435674573564081700 7239337960414712511 5412103778470702295 1873798617647539866
 obtain ⟨e1,p1,p1',c1,c1'⟩:=sub_step (y:=13402431016077863595) (c:=0) ha ha1 (by decide) (by decide) (by decide) (by decide)
 obtain ⟨e2,p2,p2',c2,c2'⟩:=sub_step (y:=2210141511517208575) hb hb1 (by decide) (by decide) c1 c1'
 obtain ⟨e3,p3,p3',c3,c3'⟩:=sub_step (y:=7435674573564081700) hc hc1 (by decide) (by decide) c2 c2'
 obtain ⟨e4,p4,p4',c4,c4'⟩:=sub_step (y:=7239337960414712511) hd hd1 (by decide) (by decide) c3 c3'
 obtain ⟨e5,p5,p5',c5,c5'⟩:=sub_step (y:=5412103778470702295) he he1 (by decide) (by decide) c4 c4'
 obtain ⟨e6,p6,p6',c6,c6'⟩:=sub_step (y:=1873798617647539866) hf hf1 (by decide) (by decide) c5 c5'
 generalize hx1:exOut 1 a 13402431016077863595 0=x1 at *
 generalize hx2:exOut 1 b 2210141511517208575 x1.2=x2 at *
 generalize hx3:exOut 1 c 7435674573564081700 x2.2=x3 at *
 generalize hx4:exOut 1 d 7239337960414712511 x3.2=x4 at *
 generalize hx5:exOut 1 e 5412103778470702295 x4.2=x5 at *
 generalize hx6:exOut 1 f 1873798617647539866 x5.2=x6 at *
 clear hx1 hx2 hx3 hx4 hx5 hx6
 have hnn:=num6_pos ha hb hc hd he hf
 have hD:=diff6 e1 e2 e3 e4 e5 e6
 have hO:=lt6 p1 p1' p2 p2' p3 p3' p4 p4' p5 p5' p6 p6'
 have hO0:=num6_pos p1 p2 p3 p4 p5 p6
 have hp:=pN_int
 by_cases hz:x6.2=0
 ·refine mu_end qeC_ok hk hm r0 rfl ?_ (fun y cs hv=>cat_ob6 rfl ?_ hv) (.inl ⟨_,_,rfl,rfl⟩) hs
  ·clear hD hO hO0 hn hnn e1 e2 e3 e4 e5 e6
   simp only[AllP,and_true,decide_eq_true_eq,decide_eq_false_iff_not]
   and_intros<;>first | assumption | decide | omega
  ·refine limbsAre6 p1 p1' p2 p2' p3 p3' p4 p4' p5 p5' p6 p6' ?_
   rw[hz,Int.mul_zero,Int.add_zero] at hD
   rw[hD]
   exact redv_a hnn (by omega) hn
 ·refine mu_end qeC_ok hk hm r1 rfl ?_ (fun y cs hv=>cat_ob6 rfl ?_ hv) (.inl ⟨_,_,rfl,rfl⟩) hs
  ·clear hD hO hO0 hn hnn e1 e2 e3 e4 e5 e6
   simp only[AllP,and_true,decide_eq_true_eq,decide_eq_false_iff_not]
   and_intros<;>first | assumption | decide | omega
  ·refine limbsAre6 ha ha1 hb hb1 hc hc1 hd hd1 he he1 hf hf1 ?_
   have:x6.2=1:=by omega
   rw[this] at hD
   exact redv_b hnn (by omega)

end

section
section
variable {w0:World} {F0:Nat→Prop} {K:Kp} {ac:List Act} {Q:Exit→Act→World→Prop} {cX:Ctx} {aX:Act}

def reduceSpec6:MuS:=fun off len es e rest=>
 match off,len,es,e,rest with
 | 0,6,1,.fl [.int .u64 _,.int .u64 _,.int .u64 _,.int .u64 _,.int .u64 _,.int .u64 _],[.v (.c (.sl (.u64 [a,b,c,d,e,f]))),.v (.c (.int .u64 more)),.v (.c (.sl (.u64 [m0,m1,m2,m3,m4,m5])))]=>
  some ([Lim6 a,Lim6 b,Lim6 c,Lim6 d,Lim6 e,Lim6 f,num6 a b c d e f<2*pN,more=0,m0=13402431016077863595,m1=2210141511517208575,m2=7435674573564081700,m3=7239337960414712511,m4=5412103778470702295,m5=1873798617647539866],.fl [.ob (.fp (redV (num6 a b c d e f).toNat))])
 | _,_,_,_,_=>none

def qeD:Env:={ qeC with mu:=fun g=>if g=125 then some (mu1 reduceSpec6) else qeC.mu g }
theorem qeD_ok:EnvOk Tryz.prog qeD:=
 env_mu qeC_ok 125 reduceSpec6 (enters_of Tryz.func125 rfl rfl) fun off len es e rest o e' h ho _ _=>by
  unfold reduceSpec6 at h
  split at h
  ·cases h
   obtain ⟨h1,h2,h3,h4,h5,h6,h7,h8,k0,k1,k2,k3,k4,k5,_⟩:=ho
   subst h8 k0 k1 k2 k3 k4 k5
   exact reduce6_mu _ _ _ _ _ _ _ _ _ _ _ _ h1 h2 h3 h4 h5 h6 h7
  ·cases h

def mP:SV:=u6s 13402431016077863595 2210141511517208575 7435674573564081700 7239337960414712511 5412103778470702295 1873798617647539866
def pd6 (o0 o1 o2 o3 o4 o5 a b c d e f y0 y1 y2 y3 y4 y5:Int):Cfg:=⟨[.code (bodyOf Tryz.f89)],.normal,muSt Tryz.f89.ntmps 0 6 1 (fl6 o0 o1 o2 o3 o4 o5) [u6s a b c d e f,u6s y0 y1 y2 y3 y4 y5,mP,.v (.c (.int .u64 9940570264628428797))]⟩

--@env qeD qeD_ok
def zIn_k:List KI:=(run qeD false 3000 ((fun (o0 o1 o2 o3 o4 o5 a b c d e f y0 y1 y2 y3 y4 y5:Int)=>(pd6 o0 o1 o2 o3 o4 o5 a b c d e f y0 y1 y2 y3 y4 y5:Cfg)) default default default default default default default default default default default default default default default default default default) []).cfg.k
theorem zIn (o0 o1 o2 o3 o4 o5 a b c d e f y0 y1 y2 y3 y4 y5:Int) {w0:World} {F0:Nat→Prop} {K:Kp} {ac:List Act} {Q:Exit→Act→World→Prop} {cX:Ctx} {aX:Act} (ho:AllP []) (hs:Sim w0 F0 K ac (((pd6 o0 o1 o2 o3 o4 o5 a b c d e f y0 y1 y2 y3 y4 y5:Cfg)).σ) cX aX) (hK:∀ac cY aY,Sim w0 F0 K ac (mkSt 176 [0,1,2,3,4,10,11,29,30] [(.ci (.slc 0 0 6 1)),(.ci (.sl (.u64 [a,b,c,d,e,f]))),(.ci (.sl (.u64 [y0,y1,y2,y3,y4,y5]))),(.ci (.sl (.u64 [(13402431016077863595:Int),(2210141511517208575:Int),(7435674573564081700:Int),(7239337960414712511:Int),(5412103778470702295:Int),(1873798617647539866:Int)]))),.iu (9940570264628428797:Int),.ii (6:Int),.pt 64 0,.ii (6:Int),.ii (0:Int)] [0,64] [(eF_ [(.int .u64 o0),(.int .u64 o1),(.int .u64 o2),(.int .u64 o3),(.int .u64 o4),(.int .u64 o5)]),(eF_ [(.int .u64 (0:Int)),(.int .u64 (0:Int)),(.int .u64 (0:Int)),(.int .u64 (0:Int)),(.int .u64 (0:Int)),(.int .u64 (0:Int)),(.int .u64 (0:Int)),(.int .u64 (0:Int)),(.int .u64 (0:Int)),(.int .u64 (0:Int))])] 112 [] []) cY aY→Wq Tryz.prog Q (zIn_k) ac Exit.normal aY cY.w):Wq Tryz.prog Q (((pd6 o0 o1 o2 o3 o4 o5 a b c d e f y0 y1 y2 y3 y4 y5:Cfg)).k) ac ((pd6 o0 o1 o2 o3 o4 o5 a b c d e f y0 y1 y2 y3 y4 y5:Cfg)).x aX cX.w:=
 run_at (unroll:=false) (n:=3000) (path:=[]) (o:=⟨_,_,_,_,_,_,_⟩) qeD_ok (by kernel_rfl) (by kernel_rfl) ho hs hK
def zS (o0 o1 o2 o3 o4 o5 a b c d e f y0 y1 y2 y3 y4 y5:Int) (i:Nat) (r0 r1 r2 r3 r4 r5 r6 r7:Int):St:=mkSt 176 [0,1,2,3,4,10,11,29,30] [(.ci (.slc 0 0 6 1)),(.ci (.sl (.u64 [a,b,c,d,e,f]))),(.ci (.sl (.u64 [y0,y1,y2,y3,y4,y5]))),(.ci (.sl (.u64 [(13402431016077863595:Int),(2210141511517208575:Int),(7435674573564081700:Int),(7239337960414712511:Int),(5412103778470702295:Int),(1873798617647539866:Int)]))),.iu (9940570264628428797:Int),.ii (6:Int),.pt 64 0,.ii (6:Int),.v (.c (.int .i64 (i:Int)))] [0,64] [(eF_ [(.int .u64 o0),(.int .u64 o1),(.int .u64 o2),(.int .u64 o3),(.int .u64 o4),(.int .u64 o5)]),some (.fl [.int .u64 r0,.int .u64 r1,.int .u64 r2,.int .u64 r3,.int .u64 r4,.int .u64 r5,.int .u64 r6,.int .u64 r7,.int .u64 0,.int .u64 0])] 112 [] []
--@unroll true
def zA0_k:List KI:=(run qeD true 104 ((fun (o0 o1 o2 o3 o4 o5 a b c d e f y0 y1 y2 y3 y4 y5:Int) (i:Nat) (r0 r1 r2 r3 r4 r5 r6 r7:Int)=>(⟨lpIn zIn_k,.normal,zS o0 o1 o2 o3 o4 o5 a b c d e f y0 y1 y2 y3 y4 y5 i r0 r1 r2 r3 r4 r5 r6 r7⟩:Cfg)) default default default default default default default default default default default default default default default default default default default default default default default default default default default) [true,true]).cfg.k
theorem zA0 (o0 o1 o2 o3 o4 o5 a b c d e f y0 y1 y2 y3 y4 y5:Int) (i:Nat) (r0 r1 r2 r3 r4 r5 r6 r7:Int) {w0:World} {F0:Nat→Prop} {K:Kp} {ac:List Act} {Q:Exit→Act→World→Prop} {cX:Ctx} {aX:Act} (ho:AllP [((decide ((i:Int)<(6:Int)))=true),(0≤(i:Int)),((i:Int)<((6:Nat):Int)),((decide (0<(6:Int)))=true),(0≤(0:Int)),(0<((6:Nat):Int)),(0≤(List.getD [a,b,c,d,e,f] ((i:Int)).toNat 0)),((List.getD [a,b,c,d,e,f] ((i:Int)).toNat 0)<(18446744073709551616:Int)),(0≤y0),(y0<(18446744073709551616:Int)),(0≤(0:Int)),(0<(10:Int)),(0≤(((List.getD [a,b,c,d,e,f] ((i:Int)).toNat 0)*y0) % (18446744073709551616:Int))),(0≤r0),(r0<(18446744073709551616:Int)),(0≤(0:Int)),(0≤(1:Int)),(0≤(Prod.fst (exOut 0 (((List.getD [a,b,c,d,e,f] ((i:Int)).toNat 0)*y0) % (18446744073709551616:Int)) r0 (0:Int)))),(0≤(0:Int)),(0<(18446744073709551616:Int)),(0≤(0:Int)),(0≤(1:Int)),(0≤(0:Int)),(0<(10:Int))]) (hs:Sim w0 F0 K ac (zS o0 o1 o2 o3 o4 o5 a b c d e f y0 y1 y2 y3 y4 y5 i r0 r1 r2 r3 r4 r5 r6 r7) cX aX) (hK:∀ac cY aY,Sim w0 F0 K ac (mkSt 176 [0,1,2,3,4,10,11,13,14,29,30,37,38] [(.ci (.slc 0 0 6 1)),(.ci (.sl (.u64 [a,b,c,d,e,f]))),(.ci (.sl (.u64 [y0,y1,y2,y3,y4,y5]))),(.ci (.sl (.u64 [(13402431016077863595:Int),(2210141511517208575:Int),(7435674573564081700:Int),(7239337960414712511:Int),(5412103778470702295:Int),(1873798617647539866:Int)]))),.iu (9940570264628428797:Int),.ii (6:Int),.pt 64 0,(.iu (List.getD [a,b,c,d,e,f] ((i:Int)).toNat 0)),(.iu (wrap .u64 ((wrap .u64 ((((List.getD [a,b,c,d,e,f] ((i:Int)).toNat 0)*y0) / (18446744073709551616:Int))+(Prod.snd (exOut 0 (((List.getD [a,b,c,d,e,f] ((i:Int)).toNat 0)*y0) % (18446744073709551616:Int)) r0 (0:Int)))))+(Prod.snd (exOut 0 (Prod.fst (exOut 0 (((List.getD [a,b,c,d,e,f] ((i:Int)).toNat 0)*y0) % (18446744073709551616:Int)) r0 (0:Int))) (0:Int) (0:Int)))))),.ii (6:Int),(.ii (i:Int)),.ii (6:Int),.ii (0:Int)] [0,64] [(eF_ [(.int .u64 o0),(.int .u64 o1),(.int .u64 o2),(.int .u64 o3),(.int .u64 o4),(.int .u64 o5)]),(eF_ [(.int .u64 (Prod.fst (exOut 0 (Prod.fst (exOut 0 (((List.getD [a,b,c,d,e,f] ((i:Int)).toNat 0)*y0) % (18446744073709551616:Int)) r0 (0:Int))) (0:Int) (0:Int)))),(.int .u64 r1),(.int .u64 r2),(.int .u64 r3),(.int .u64 r4),(.int .u64 r5),(.int .u64 r6),(.int .u64 r7),(.int .u64 (0:Int)),(.int .u64 (0:Int))])] 992 [] []) cY aY→Wq Tryz.prog Q (zA0_k) ac Exit.normal aY cY.w):Wq Tryz.prog Q (lpIn zIn_k) ac .normal aX cX.w:=
 run_at2 (unroll:=true) (n:=104) (path:=[true,true]) (o:=⟨_,_,_,_,_,_,_⟩) qeD_ok (by kernel_rfl) (by kernel_rfl) ho hs hK
theorem zX (o0 o1 o2 o3 o4 o5 a b c d e f y0 y1 y2 y3 y4 y5:Int) (i:Nat) (r0 r1 r2 r3 r4 r5 r6 r7:Int):muEnd qeD Tryz.f89 true 3000 ⟨lpIn zIn_k,.normal,zS o0 o1 o2 o3 o4 o5 a b c d e f y0 y1 y2 y3 y4 y5 i r0 r1 r2 r3 r4 r5 r6 r7⟩ [false]=(some ([((decide ((i:Int)<(6:Int)))=false),(0≤(6:Int)),((6:Int)≤(10:Int)),(0≤(6:Int)),((6:Int)<(10:Int)),(Lim6 r0),(Lim6 r1),(Lim6 r2),(Lim6 r3),(Lim6 r4),(Lim6 r5),((num6 r0 r1 r2 r3 r4 r5)<(8004819110443334786835579651471808313113765639878015770664116272248063300981675728885375258258031328075788545119574:Int)),(r6=(0:Int)),((13402431016077863595:Int)=(13402431016077863595:Int)),((2210141511517208575:Int)=(2210141511517208575:Int)),((7435674573564081700:Int)=(7435674573564081700:Int)),((7239337960414712511:Int)=(7239337960414712511:Int)),((5412103778470702295:Int)=(5412103778470702295:Int)),((1873798617647539866:Int)=(1873798617647539866:Int))],(.fl [(.ob (.fp (redV ((num6 r0 r1 r2 r3 r4 r5)).toNat)))]))):=by kernel_rfl
def zS1 (o0 o1 o2 o3 o4 o5 a b c d e f y0 y1 y2 y3 y4 y5:Int) (i:Nat) (x cy r0 r1 r2 r3 r4 r5 r6 r7:Int):St:=mkSt 176 [0,1,2,3,4,10,11,13,14,29,30,37,38] [(.ci (.slc 0 0 6 1)),(.ci (.sl (.u64 [a,b,c,d,e,f]))),(.ci (.sl (.u64 [y0,y1,y2,y3,y4,y5]))),(.ci (.sl (.u64 [(13402431016077863595:Int),(2210141511517208575:Int),(7435674573564081700:Int),(7239337960414712511:Int),(5412103778470702295:Int),(1873798617647539866:Int)]))),.iu (9940570264628428797:Int),.ii (6:Int),.pt 64 0,.v (.c (.int .u64 x)),.v (.c (.int .u64 cy)),.ii (6:Int),(.ii (i:Int)),.ii (6:Int),.ii (0:Int)] [0,64] [(eF_ [(.int .u64 o0),(.int .u64 o1),(.int .u64 o2),(.int .u64 o3),(.int .u64 o4),(.int .u64 o5)]),some (.fl [.int .u64 r0,.int .u64 r1,.int .u64 r2,.int .u64 r3,.int .u64 r4,.int .u64 r5,.int .u64 r6,.int .u64 r7,.int .u64 0,.int .u64 0])] 992 [] []
def zA1_k:List KI:=(run qeD true 75 ((fun (o0 o1 o2 o3 o4 o5 a b c d e f y0 y1 y2 y3 y4 y5:Int) (i:Nat) (x cy r0 r1 r2 r3 r4 r5 r6 r7:Int)=>(⟨zA0_k,.normal,zS1 o0 o1 o2 o3 o4 o5 a b c d e f y0 y1 y2 y3 y4 y5 i x cy r0 r1 r2 r3 r4 r5 r6 r7⟩:Cfg)) default default default default default default default default default default default default default default default default default default default default default default default default default default default default default) [true]).cfg.k
section
variable (o0 o1 o2 o3 o4 o5 a b c d e f y0 y1 y2 y3 y4 y5:Int) (i:Nat) (x cy r0 r1 r2 r3 r4 r5 r6 r7:Int)
theorem zA1 (ho:AllP [((decide ((1:Int)<(6:Int)))=true),(0≤(1:Int)),((1:Int)<((6:Nat):Int)),(0≤x),(x<(18446744073709551616:Int)),(0≤y1),(y1<(18446744073709551616:Int)),(0≤(1:Int)),((1:Int)<(10:Int)),(0≤((x*y1) % (18446744073709551616:Int))),(0≤r1),(r1<(18446744073709551616:Int)),(0≤(0:Int)),(0≤(1:Int)),(0≤(Prod.fst (exOut 0 ((x*y1) % (18446744073709551616:Int)) r1 (0:Int)))),(0≤cy),(cy<(18446744073709551616:Int)),(0≤(0:Int)),(0≤(1:Int)),(0≤(1:Int)),((1:Int)<(10:Int))]):Sg Tryz.prog (zS1 o0 o1 o2 o3 o4 o5 a b c d e f y0 y1 y2 y3 y4 y5 i x cy r0 r1 r2 r3 r4 r5 r6 r7) (mkSt 176 [0,1,2,3,4,10,11,13,14,29,30,37,38] [(.ci (.slc 0 0 6 1)),(.ci (.sl (.u64 [a,b,c,d,e,f]))),(.ci (.sl (.u64 [y0,y1,y2,y3,y4,y5]))),(.ci (.sl (.u64 [(13402431016077863595:Int),(2210141511517208575:Int),(7435674573564081700:Int),(7239337960414712511:Int),(5412103778470702295:Int),(1873798617647539866:Int)]))),.iu (9940570264628428797:Int),.ii (6:Int),.pt 64 0,.iu x,(.iu (wrap .u64 ((wrap .u64 (((x*y1) / (18446744073709551616:Int))+(Prod.snd (exOut 0 ((x*y1) % (18446744073709551616:Int)) r1 (0:Int)))))+(Prod.snd (exOut 0 (Prod.fst (exOut 0 ((x*y1) % (18446744073709551616:Int)) r1 (0:Int))) cy (0:Int)))))),.ii (6:Int),(.ii (i:Int)),.ii (6:Int),.ii (1:Int)] [0,64] [(eF_ [(.int .u64 o0),(.int .u64 o1),(.int .u64 o2),(.int .u64 o3),(.int .u64 o4),(.int .u64 o5)]),(eF_ [(.int .u64 r0),(.int .u64 (Prod.fst (exOut 0 (Prod.fst (exOut 0 ((x*y1) % (18446744073709551616:Int)) r1 (0:Int))) cy (0:Int)))),(.int .u64 r2),(.int .u64 r3),(.int .u64 r4),(.int .u64 r5),(.int .u64 r6),(.int .u64 r7),(.int .u64 (0:Int)),(.int .u64 (0:Int))])] 1728 [] []) .normal (zA1_k) (zA0_k):=fun hs hK=>
 run_at2 (unroll:=true) (n:=75) (path:=[true]) (o:=⟨_,_,_,_,_,_,_⟩) qeD_ok (by kernel_rfl) (by kernel_rfl) ho hs hK
def zS2 (o0 o1 o2 o3 o4 o5 a b c d e f y0 y1 y2 y3 y4 y5:Int) (i:Nat) (x cy r0 r1 r2 r3 r4 r5 r6 r7:Int):St:=mkSt 176 [0,1,2,3,4,10,11,13,14,29,30,37,38] [(.ci (.slc 0 0 6 1)),(.ci (.sl (.u64 [a,b,c,d,e,f]))),(.ci (.sl (.u64 [y0,y1,y2,y3,y4,y5]))),(.ci (.sl (.u64 [(13402431016077863595:Int),(2210141511517208575:Int),(7435674573564081700:Int),(7239337960414712511:Int),(5412103778470702295:Int),(1873798617647539866:Int)]))),.iu (9940570264628428797:Int),.ii (6:Int),.pt 64 0,.v (.c (.int .u64 x)),.v (.c (.int .u64 cy)),.ii (6:Int),(.ii (i:Int)),.ii (6:Int),.ii (1:Int)] [0,64] [(eF_ [(.int .u64 o0),(.int .u64 o1),(.int .u64 o2),(.int .u64 o3),(.int .u64 o4),(.int .u64 o5)]),some (.fl [.int .u64 r0,.int .u64 r1,.int .u64 r2,.int .u64 r3,.int .u64 r4,.int .u64 r5,.int .u64 r6,.int .u64 r7,.int .u64 0,.int .u64 0])] 1728 [] []
def zA2_k:List KI:=(run qeD true 75 ((fun (o0 o1 o2 o3 o4 o5 a b c d e f y0 y1 y2 y3 y4 y5:Int) (i:Nat) (x cy r0 r1 r2 r3 r4 r5 r6 r7:Int)=>(⟨zA1_k,.normal,zS2 o0 o1 o2 o3 o4 o5 a b c d e f y0 y1 y2 y3 y4 y5 i x cy r0 r1 r2 r3 r4 r5 r6 r7⟩:Cfg)) default default default default default default default default default default default default default default default default default default default default default default default default default default default default default) [true]).cfg.k
theorem zA2 (ho:AllP [((decide ((2:Int)<(6:Int)))=true),(0≤(2:Int)),((2:Int)<((6:Nat):Int)),(0≤x),(x<(18446744073709551616:Int)),(0≤y2),(y2<(18446744073709551616:Int)),(0≤(2:Int)),((2:Int)<(10:Int)),(0≤((x*y2) % (18446744073709551616:Int))),(0≤r2),(r2<(18446744073709551616:Int)),(0≤(0:Int)),(0≤(1:Int)),(0≤(Prod.fst (exOut 0 ((x*y2) % (18446744073709551616:Int)) r2 (0:Int)))),(0≤cy),(cy<(18446744073709551616:Int)),(0≤(0:Int)),(0≤(1:Int)),(0≤(2:Int)),((2:Int)<(10:Int))]):Sg Tryz.prog (zS2 o0 o1 o2 o3 o4 o5 a b c d e f y0 y1 y2 y3 y4 y5 i x cy r0 r1 r2 r3 r4 r5 r6 r7) (mkSt 176 [0,1,2,3,4,10,11,13,14,29,30,37,38] [(.ci (.slc 0 0 6 1)),(.ci (.sl (.u64 [a,b,c,d,e,f]))),(.ci (.sl (.u64 [y0,y1,y2,y3,y4,y5]))),(.ci (.sl (.u64 [(13402431016077863595:Int),(2210141511517208575:Int),(7435674573564081700:Int),(7239337960414712511:Int),(5412103778470702295:Int),(1873798617647539866:Int)]))),.iu (9940570264628428797:Int),.ii (6:Int),.pt 64 0,.iu x,(.iu (wrap .u64 ((wrap .u64 (((x*y2) / (18446744073709551616:Int))+(Prod.snd (exOut 0 ((x*y2) % (18446744073709551616:Int)) r2 (0:Int)))))+(Prod.snd (exOut 0 (Prod.fst (exOut 0 ((x*y2) % (18446744073709551616:Int)) r2 (0:Int))) cy (0:Int)))))),.ii (6:Int),(.ii (i:Int)),.ii (6:Int),.ii (2:Int)] [0,64] [(eF_ [(.int .u64 o0),(.int .u64 o1),(.int .u64 o2),(.int .u64 o3),(.int .u64 o4),(.int .u64 o5)]),(eF_ [(.int .u64 r0),(.int .u64 r1),(.int .u64 (Prod.fst (exOut 0 (Prod.fst (exOut 0 ((x*y2) % (18446744073709551616:Int)) r2 (0:Int))) cy (0:Int)))),(.int .u64 r3),(.int .u64 r4),(.int .u64 r5),(.int .u64 r6),(.int .u64 r7),(.int .u64 (0:Int)),(.int .u64 (0:Int))])] 2464 [] []) .normal (zA2_k) (zA1_k):=fun hs hK=>
 run_at2 (unroll:=true) (n:=75) (path:=[true]) (o:=⟨_,_,_,_,_,_,_⟩) qeD_ok (by kernel_rfl) (by kernel_rfl) ho hs hK
def zS3 (o0 o1 o2 o3 o4 o5 a b c d e f y0 y1 y2 y3 y4 y5:Int) (i:Nat) (x cy r0 r1 r2 r3 r4 r5 r6 r7:Int):St:=mkSt 176 [0,1,2,3,4,10,11,13,14,29,30,37,38] [(.ci (.slc 0 0 6 1)),(.ci (.sl (.u64 [a,b,c,d,e,f]))),(.ci (.sl (.u64 [y0,y1,y2,y3,y4,y5]))),(.ci (.sl (.u64 [(13402431016077863595:Int),(2210141511517208575:Int),(7435674573564081700:Int),(7239337960414712511:Int),(5412103778470702295:Int),(1873798617647539866:Int)]))),.iu (9940570264628428797:Int),.ii (6:Int),.pt 64 0,.v (.c (.int .u64 x)),.v (.c (.int .u64 cy)),.ii (6:Int),(.ii (i:Int)),.ii (6:Int),.ii (2:Int)] [0,64] [(eF_ [(.int .u64 o0),(.int .u64 o1),(.int .u64 o2),(.int .u64 o3),(.int .u64 o4),(.int .u64 o5)]),some (.fl [.int .u64 r0,.int .u64 r1,.int .u64 r2,.int .u64 r3,.int .u64 r4,.int .u64 r5,.int .u64 r6,.int .u64 r7,.int .u64 0,.int .u64 0])] 2464 [] []
def zA3_k:List KI:=(run qeD true 75 ((fun (o0 o1 o2 o3 o4 o5 a b c d e f y0 y1 y2 y3 y4 y5:Int) (i:Nat) (x cy r0 r1 r2 r3 r4 r5 r6 r7:Int)=>(⟨zA2_k,.normal,zS3 o0 o1 o2 o3 o4 o5 a b c d e f y0 y1 y2 y3 y4 y5 i x cy r0 r1 r2 r3 r4 r5 r6 r7⟩:Cfg)) default default default default default default default default default default default default default default default default default default default default default default default default default default default default default) [true]).cfg.k
theorem zA3 (ho:AllP [((decide ((3:Int)<(6:Int)))=true),(0≤(3:Int)),((3:Int)<((6:Nat):Int)),(0≤x),(x<(18446744073709551616:Int)),(0≤y3),(y3<(18446744073709551616:Int)),(0≤(3:Int)),((3:Int)<(10:Int)),(0≤((x*y3) % (18446744073709551616:Int))),(0≤r3),(r3<(18446744073709551616:Int)),(0≤(0:Int)),(0≤(1:Int)),(0≤(Prod.fst (exOut 0 ((x*y3) % (18446744073709551616:Int)) r3 (0:Int)))),(0≤cy),(cy<(18446744073709551616:Int)),(0≤(0:Int)),(0≤(1:Int)),(0≤(3:Int)),((3:Int)<(10:Int))]):Sg Tryz.prog (zS3 o0 o1 o2 o3 o4 o5 a b c d e f y0 y1 y2 y3 y4 y5 i x cy r0 r1 r2 r3 r4 r5 r6 r7) (mkSt 176 [0,1,2,3,4,10,11,13,14,29,30,37,38] [(.ci (.slc 0 0 6 1)),(.ci (.sl (.u64 [a,b,c,d,e,f]))),(.ci (.sl (.u64 [y0,y1,y2,y3,y4,y5]))),(.ci (.sl (.u64 [(13402431016077863595:Int),(2210141511517208575:Int),(7435674573564081700:Int),(7239337960414712511:Int),(5412103778470702295:Int),(1873798617647539866:Int)]))),.iu (9940570264628428797:Int),.ii (6:Int),.pt 64 0,.iu x,(.iu (wrap .u64 ((wrap .u64 (((x*y3) / (18446744073709551616:Int))+(Prod.snd (exOut 0 ((x*y3) % (18446744073709551616:Int)) r3 (0:Int)))))+(Prod.snd (exOut 0 (Prod.fst (exOut 0 ((x*y3) % (18446744073709551616:Int)) r3 (0:Int))) cy (0:Int)))))),.ii (6:Int),(.ii (i:Int)),.ii (6:Int),.ii (3:Int)] [0,64] [(eF_ [(.int .u64 o0),(.int .u64 o1),(.int .u64 o2),(.int .u64 o3),(.int .u64 o4),(.int .u64 o5)]),(eF_ [(.int .u64 r0),(.int .u64 r1),(.int .u64 r2),(.int .u64 (Prod.fst (exOut 0 (Prod.fst (exOut 0 ((x*y3) % (18446744073709551616:Int)) r3 (0:Int))) cy (0:Int)))),(.int .u64 r4),(.int .u64 r5),(.int .u64 r6),(.int .u64 r7),(.int .u64 (0:Int)),(.int .u64 (0:Int))])] 3200 [] []) .normal (zA3_k) (zA2_k):=fun hs hK=>
 run_at2 (unroll:=true) (n:=75) (path:=[true]) (o:=⟨_,_,_,_,_,_,_⟩) qeD_ok (by kernel_rfl) (by kernel_rfl) ho hs hK
def zS4 (o0 o1 o2 o3 o4 o5 a b c d e f y0 y1 y2 y3 y4 y5:Int) (i:Nat) (x cy r0 r1 r2 r3 r4 r5 r6 r7:Int):St:=mkSt 176 [0,1,2,3,4,10,11,13,14,29,30,37,38] [(.ci (.slc 0 0 6 1)),(.ci (.sl (.u64 [a,b,c,d,e,f]))),(.ci (.sl (.u64 [y0,y1,y2,y3,y4,y5]))),(.ci (.sl (.u64 [(13402431016077863595:Int),(2210141511517208575:Int),(7435674573564081700:Int),(7239337960414712511:Int),(5412103778470702295:Int),(1873798617647539866:Int)]))),.iu (9940570264628428797:Int),.ii (6:Int),.pt 64 0,.v (.c (.int .u64 x)),.v (.c (.int .u64 cy)),.ii (6:Int),(.ii (i:Int)),.ii (6:Int),.ii (3:Int)] [0,64] [(eF_ [(.int .u64 o0),(.int .u64 o1),(.int .u64 o2),(.int .u64 o3),(.int .u64 o4),(.int .u64 o5)]),some (.fl [.int .u64 r0,.int .u64 r1,.int .u64 r2,.int .u64 r3,.int .u64 r4,.int .u64 r5,.int .u64 r6,.int .u64 r7,.int .u64 0,.int .u64 0])] 3200 [] []
def zA4_k:List KI:=(run qeD true 75 ((fun (o0 o1 o2 o3 o4 o5 a b c d e f y0 y1 y2 y3 y4 y5:Int) (i:Nat) (x cy r0 r1 r2 r3 r4 r5 r6 r7:Int)=>(⟨zA3_k,.normal,zS4 o0 o1 o2 o3 o4 o5 a b c d e f y0 y1 y2 y3 y4 y5 i x cy r0 r1 r2 r3 r4 r5 r6 r7⟩:Cfg)) default default default default default default default default default default default default default default default default default default default default default default default default default default default default default) [true]).cfg.k
theorem zA4 (ho:AllP [((decide ((4:Int)<(6:Int)))=true),(0≤(4:Int)),((4:Int)<((6:Nat):Int)),(0≤x),(x<(18446744073709551616:Int)),(0≤y4),(y4<(18446744073709551616:Int)),(0≤(4:Int)),((4:Int)<(10:Int)),(0≤((x*y4) % (18446744073709551616:Int))),(0≤r4),(r4<(18446744073709551616:Int)),(0≤(0:Int)),(0≤(1:Int)),(0≤(Prod.fst (exOut 0 ((x*y4) % (18446744073709551616:Int)) r4 (0:Int)))),(0≤cy),(cy<(18446744073709551616:Int)),(0≤(0:Int)),(0≤(1:Int)),(0≤(4:Int)),((4:Int)<(10:Int))]):Sg Tryz.prog (zS4 o0 o1 o2 o3 o4 o5 a b c d e f y0 y1 y2 y3 y4 y5 i x cy r0 r1 r2 r3 r4 r5 r6 r7) (mkSt 176 [0,1,2,3,4,10,11,13,14,29,30,37,38] [(.ci (.slc 0 0 6 1)),(.ci (.sl (.u64 [a,b,c,d,e,f]))),(.ci (.sl (.u64 [y0,y1,y2,y3,y4,y5]))),(.ci (.sl (.u64 [(13402431016077863595:Int),(2210141511517208575:Int),(7435674573564081700:Int),(7239337960414712511:Int),(5412103778470702295:Int),(1873798617647539866:Int)]))),.iu (9940570264628428797:Int),.ii (6:Int),.pt 64 0,.iu x,(.iu (wrap .u64 ((wrap .u64 (((x*y4) / (18446744073709551616:Int))+(Prod.snd (exOut 0 ((x*y4) % (18446744073709551616:Int)) r4 (0:Int)))))+(Prod.snd (exOut 0 (Prod.fst (exOut 0 ((x*y4) % (18446744073709551616:Int)) r4 (0:Int))) cy (0:Int)))))),.ii (6:Int),(.ii (i:Int)),.ii (6:Int),.ii (4:Int)] [0,64] [(eF_ [(.int .u64 o0),(.int .u64 o1),(.int .u64 o2),(.int .u64 o3),(.int .u64 o4),(.int .u64 o5)]),(eF_ [(.int .u64 r0),(.int .u64 r1),(.int .u64 r2),(.int .u64 r3),(.int .u64 (Prod.fst (exOut 0 (Prod.fst (exOut 0 ((x*y4) % (18446744073709551616:Int)) r4 (0:Int))) cy (0:Int)))),(.int .u64 r5),(.int .u64 r6),(.int .u64 r7),(.int .u64 (0:Int)),(.int .u64 (0:Int))])] 3936 [] []) .normal (zA4_k) (zA3_k):=fun hs hK=>
 run_at2 (unroll:=true) (n:=75) (path:=[true]) (o:=⟨_,_,_,_,_,_,_⟩) qeD_ok (by kernel_rfl) (by kernel_rfl) ho hs hK
def zS5 (o0 o1 o2 o3 o4 o5 a b c d e f y0 y1 y2 y3 y4 y5:Int) (i:Nat) (x cy r0 r1 r2 r3 r4 r5 r6 r7:Int):St:=mkSt 176 [0,1,2,3,4,10,11,13,14,29,30,37,38] [(.ci (.slc 0 0 6 1)),(.ci (.sl (.u64 [a,b,c,d,e,f]))),(.ci (.sl (.u64 [y0,y1,y2,y3,y4,y5]))),(.ci (.sl (.u64 [(13402431016077863595:Int),(2210141511517208575:Int),(7435674573564081700:Int),(7239337960414712511:Int),(5412103778470702295:Int),(1873798617647539866:Int)]))),.iu (9940570264628428797:Int),.ii (6:Int),.pt 64 0,.v (.c (.int .u64 x)),.v (.c (.int .u64 cy)),.ii (6:Int),(.ii (i:Int)),.ii (6:Int),.ii (4:Int)] [0,64] [(eF_ [(.int .u64 o0),(.int .u64 o1),(.int .u64 o2),(.int .u64 o3),(.int .u64 o4),(.int .u64 o5)]),some (.fl [.int .u64 r0,.int .u64 r1,.int .u64 r2,.int .u64 r3,.int .u64 r4,.int .u64 r5,.int .u64 r6,.int .u64 r7,.int .u64 0,.int .u64 0])] 3936 [] []
def zA5_k:List KI:=(run qeD true 75 ((fun (o0 o1 o2 o3 o4 o5 a b c d e f y0 y1 y2 y3 y4 y5:Int) (i:Nat) (x cy r0 r1 r2 r3 r4 r5 r6 r7:Int)=>(⟨zA4_k,.normal,zS5 o0 o1 o2 o3 o4 o5 a b c d e f y0 y1 y2 y3 y4 y5 i x cy r0 r1 r2 r3 r4 r5 r6 r7⟩:Cfg)) default default default default default default default default default default default default default default default default default default default default default default default default default default default default default) [true]).cfg.k
theorem zA5 (ho:AllP [((decide ((5:Int)<(6:Int)))=true),(0≤(5:Int)),((5:Int)<((6:Nat):Int)),(0≤x),(x<(18446744073709551616:Int)),(0≤y5),(y5<(18446744073709551616:Int)),(0≤(5:Int)),((5:Int)<(10:Int)),(0≤((x*y5) % (18446744073709551616:Int))),(0≤r5),(r5<(18446744073709551616:Int)),(0≤(0:Int)),(0≤(1:Int)),(0≤(Prod.fst (exOut 0 ((x*y5) % (18446744073709551616:Int)) r5 (0:Int)))),(0≤cy),(cy<(18446744073709551616:Int)),(0≤(0:Int)),(0≤(1:Int)),(0≤(5:Int)),((5:Int)<(10:Int))]):Sg Tryz.prog (zS5 o0 o1 o2 o3 o4 o5 a b c d e f y0 y1 y2 y3 y4 y5 i x cy r0 r1 r2 r3 r4 r5 r6 r7) (mkSt 176 [0,1,2,3,4,10,11,13,14,29,30,37,38] [(.ci (.slc 0 0 6 1)),(.ci (.sl (.u64 [a,b,c,d,e,f]))),(.ci (.sl (.u64 [y0,y1,y2,y3,y4,y5]))),(.ci (.sl (.u64 [(13402431016077863595:Int),(2210141511517208575:Int),(7435674573564081700:Int),(7239337960414712511:Int),(5412103778470702295:Int),(1873798617647539866:Int)]))),.iu (9940570264628428797:Int),.ii (6:Int),.pt 64 0,.iu x,(.iu (wrap .u64 ((wrap .u64 (((x*y5) / (18446744073709551616:Int))+(Prod.snd (exOut 0 ((x*y5) % (18446744073709551616:Int)) r5 (0:Int)))))+(Prod.snd (exOut 0 (Prod.fst (exOut 0 ((x*y5) % (18446744073709551616:Int)) r5 (0:Int))) cy (0:Int)))))),.ii (6:Int),(.ii (i:Int)),.ii (6:Int),.ii (5:Int)] [0,64] [(eF_ [(.int .u64 o0),(.int .u64 o1),(.int .u64 o2),(.int .u64 o3),(.int .u64 o4),(.int .u64 o5)]),(eF_ [(.int .u64 r0),(.int .u64 r1),(.int .u64 r2),(.int .u64 r3),(.int .u64 r4),(.int .u64 (Prod.fst (exOut 0 (Prod.fst (exOut 0 ((x*y5) % (18446744073709551616:Int)) r5 (0:Int))) cy (0:Int)))),(.int .u64 r6),(.int .u64 r7),(.int .u64 (0:Int)),(.int .u64 (0:Int))])] 4672 [] []) .normal (zA5_k) (zA4_k):=fun hs hK=>
 run_at2 (unroll:=true) (n:=75) (path:=[true]) (o:=⟨_,_,_,_,_,_,_⟩) qeD_ok (by kernel_rfl) (by kernel_rfl) ho hs hK
def zS6 (o0 o1 o2 o3 o4 o5 a b c d e f y0 y1 y2 y3 y4 y5:Int) (i:Nat) (x cy r0 r1 r2 r3 r4 r5 r6 r7:Int):St:=mkSt 176 [0,1,2,3,4,10,11,13,14,29,30,37,38] [(.ci (.slc 0 0 6 1)),(.ci (.sl (.u64 [a,b,c,d,e,f]))),(.ci (.sl (.u64 [y0,y1,y2,y3,y4,y5]))),(.ci (.sl (.u64 [(13402431016077863595:Int),(2210141511517208575:Int),(7435674573564081700:Int),(7239337960414712511:Int),(5412103778470702295:Int),(1873798617647539866:Int)]))),.iu (9940570264628428797:Int),.ii (6:Int),.pt 64 0,.v (.c (.int .u64 x)),.v (.c (.int .u64 cy)),.ii (6:Int),(.ii (i:Int)),.ii (6:Int),.ii (5:Int)] [0,64] [(eF_ [(.int .u64 o0),(.int .u64 o1),(.int .u64 o2),(.int .u64 o3),(.int .u64 o4),(.int .u64 o5)]),some (.fl [.int .u64 r0,.int .u64 r1,.int .u64 r2,.int .u64 r3,.int .u64 r4,.int .u64 r5,.int .u64 r6,.int .u64 r7,.int .u64 0,.int .u64 0])] 4672 [] []
def zE_k:List KI:=(run qeD true 88 ((fun (o0 o1 o2 o3 o4 o5 a b c d e f y0 y1 y2 y3 y4 y5:Int) (i:Nat) (x cy r0 r1 r2 r3 r4 r5 r6 r7:Int)=>(⟨zA5_k,.normal,zS6 o0 o1 o2 o3 o4 o5 a b c d e f y0 y1 y2 y3 y4 y5 i x cy r0 r1 r2 r3 r4 r5 r6 r7⟩:Cfg)) default default default default default default default default default default default default default default default default default default default default default default default default default default default default default) [false]).cfg.k
theorem zE (ho:AllP [((decide ((6:Int)<(6:Int)))=false),(0≤(6:Int)),((6:Int)<(10:Int)),(0≤r6),(0≤cy),(cy<(18446744073709551616:Int)),(0≤(0:Int)),(0≤(1:Int)),(0≤(6:Int)),((6:Int)<(10:Int)),(0≤(7:Int)),((7:Int)<(10:Int)),(0≤(0:Int)),(0<(10:Int)),(0≤(0:Int)),(0<(6:Int)),(0≤(wrap .u64 (r0*(9940570264628428797:Int)))),((wrap .u64 (r0*(9940570264628428797:Int)))<(18446744073709551616:Int)),(0≤(13402431016077863595:Int)),((13402431016077863595:Int)<(18446744073709551616:Int)),(0≤(0:Int)),(0<(10:Int)),(0≤(((wrap .u64 (r0*(9940570264628428797:Int)))*(13402431016077863595:Int)) % (18446744073709551616:Int))),(0≤r0),(r0<(18446744073709551616:Int)),(0≤(0:Int)),(0≤(1:Int))]):Sg Tryz.prog (zS6 o0 o1 o2 o3 o4 o5 a b c d e f y0 y1 y2 y3 y4 y5 i x cy r0 r1 r2 r3 r4 r5 r6 r7) (mkSt 176 [0,1,2,3,4,10,11,14,20,23,29,30] [(.ci (.slc 0 0 6 1)),(.ci (.sl (.u64 [a,b,c,d,e,f]))),(.ci (.sl (.u64 [y0,y1,y2,y3,y4,y5]))),(.ci (.sl (.u64 [(13402431016077863595:Int),(2210141511517208575:Int),(7435674573564081700:Int),(7239337960414712511:Int),(5412103778470702295:Int),(1873798617647539866:Int)]))),.iu (9940570264628428797:Int),.ii (6:Int),.pt 64 0,(.iu (wrap .u64 ((((wrap .u64 (r0*(9940570264628428797:Int)))*(13402431016077863595:Int)) / (18446744073709551616:Int))+(Prod.snd (exOut 0 (((wrap .u64 (r0*(9940570264628428797:Int)))*(13402431016077863595:Int)) % (18446744073709551616:Int)) r0 (0:Int)))))),(.iu (wrap .u64 (r0*(9940570264628428797:Int)))),.ii (1:Int),.ii (6:Int),(.ii (i:Int))] [0,64] [(eF_ [(.int .u64 o0),(.int .u64 o1),(.int .u64 o2),(.int .u64 o3),(.int .u64 o4),(.int .u64 o5)]),(eF_ [(.int .u64 r0),(.int .u64 r1),(.int .u64 r2),(.int .u64 r3),(.int .u64 r4),(.int .u64 r5),(.int .u64 (Prod.fst (exOut 0 r6 cy (0:Int)))),(.int .u64 (Prod.snd (exOut 0 r6 cy (0:Int)))),(.int .u64 (0:Int)),(.int .u64 (0:Int))])] 5456 [] []) .normal (zE_k) (zA5_k):=fun hs hK=>
 run_at2 (unroll:=true) (n:=88) (path:=[false]) (o:=⟨_,_,_,_,_,_,_⟩) qeD_ok (by kernel_rfl) (by kernel_rfl) ho hs hK
def zT1 (o0 o1 o2 o3 o4 o5 a b c d e f y0 y1 y2 y3 y4 y5:Int) (i:Nat) (q cy r0 r1 r2 r3 r4 r5 r6 r7:Int):St:=mkSt 176 [0,1,2,3,4,10,11,14,20,23,29,30] [(.ci (.slc 0 0 6 1)),(.ci (.sl (.u64 [a,b,c,d,e,f]))),(.ci (.sl (.u64 [y0,y1,y2,y3,y4,y5]))),(.ci (.sl (.u64 [(13402431016077863595:Int),(2210141511517208575:Int),(7435674573564081700:Int),(7239337960414712511:Int),(5412103778470702295:Int),(1873798617647539866:Int)]))),.iu (9940570264628428797:Int),.ii (6:Int),.pt 64 0,.v (.c (.int .u64 cy)),.v (.c (.int .u64 q)),.ii (1:Int),.ii (6:Int),(.ii (i:Int))] [0,64] [(eF_ [(.int .u64 o0),(.int .u64 o1),(.int .u64 o2),(.int .u64 o3),(.int .u64 o4),(.int .u64 o5)]),some (.fl [.int .u64 r0,.int .u64 r1,.int .u64 r2,.int .u64 r3,.int .u64 r4,.int .u64 r5,.int .u64 r6,.int .u64 r7,.int .u64 0,.int .u64 0])] 5456 [] []
def zB1_k:List KI:=(run qeD true 68 ((fun (o0 o1 o2 o3 o4 o5 a b c d e f y0 y1 y2 y3 y4 y5:Int) (i:Nat) (q cy r0 r1 r2 r3 r4 r5 r6 r7:Int)=>(⟨zE_k,.normal,zT1 o0 o1 o2 o3 o4 o5 a b c d e f y0 y1 y2 y3 y4 y5 i q cy r0 r1 r2 r3 r4 r5 r6 r7⟩:Cfg)) default default default default default default default default default default default default default default default default default default default default default default default default default default default default default) [true]).cfg.k
end
section
variable (o0 o1 o2 o3 o4 o5 a b c d e f y0 y1 y2 y3 y4 y5:Int) (i:Nat) (q cy r0 r1 r2 r3 r4 r5 r6 r7:Int)
theorem zB1 (ho:AllP [((decide ((1:Int)<(6:Int)))=true),(0≤(1:Int)),((1:Int)<(6:Int)),(0≤q),(q<(18446744073709551616:Int)),(0≤(2210141511517208575:Int)),((2210141511517208575:Int)<(18446744073709551616:Int)),(0≤(1:Int)),((1:Int)<(10:Int)),(0≤((q*(2210141511517208575:Int)) % (18446744073709551616:Int))),(0≤r1),(r1<(18446744073709551616:Int)),(0≤(0:Int)),(0≤(1:Int)),(0≤(Prod.fst (exOut 0 ((q*(2210141511517208575:Int)) % (18446744073709551616:Int)) r1 (0:Int)))),(0≤cy),(cy<(18446744073709551616:Int)),(0≤(0:Int)),(0≤(1:Int)),(0≤(0:Int)),(0<(10:Int))]):Sg Tryz.prog (zT1 o0 o1 o2 o3 o4 o5 a b c d e f y0 y1 y2 y3 y4 y5 i q cy r0 r1 r2 r3 r4 r5 r6 r7) (mkSt 176 [0,1,2,3,4,10,11,14,20,23,29,30] [(.ci (.slc 0 0 6 1)),(.ci (.sl (.u64 [a,b,c,d,e,f]))),(.ci (.sl (.u64 [y0,y1,y2,y3,y4,y5]))),(.ci (.sl (.u64 [(13402431016077863595:Int),(2210141511517208575:Int),(7435674573564081700:Int),(7239337960414712511:Int),(5412103778470702295:Int),(1873798617647539866:Int)]))),.iu (9940570264628428797:Int),.ii (6:Int),.pt 64 0,(.iu (wrap .u64 ((wrap .u64 (((q*(2210141511517208575:Int)) / (18446744073709551616:Int))+(Prod.snd (exOut 0 ((q*(2210141511517208575:Int)) % (18446744073709551616:Int)) r1 (0:Int)))))+(Prod.snd (exOut 0 (Prod.fst (exOut 0 ((q*(2210141511517208575:Int)) % (18446744073709551616:Int)) r1 (0:Int))) cy (0:Int)))))),.iu q,.ii (1:Int),.ii (6:Int),(.ii (i:Int))] [0,64] [(eF_ [(.int .u64 o0),(.int .u64 o1),(.int .u64 o2),(.int .u64 o3),(.int .u64 o4),(.int .u64 o5)]),(eF_ [(.int .u64 (Prod.fst (exOut 0 (Prod.fst (exOut 0 ((q*(2210141511517208575:Int)) % (18446744073709551616:Int)) r1 (0:Int))) cy (0:Int)))),(.int .u64 r1),(.int .u64 r2),(.int .u64 r3),(.int .u64 r4),(.int .u64 r5),(.int .u64 r6),(.int .u64 r7),(.int .u64 (0:Int)),(.int .u64 (0:Int))])] 6176 [] []) .normal (zB1_k) (zE_k):=fun hs hK=>
 run_at2 (unroll:=true) (n:=68) (path:=[true]) (o:=⟨_,_,_,_,_,_,_⟩) qeD_ok (by kernel_rfl) (by kernel_rfl) ho hs hK
def zT2 (o0 o1 o2 o3 o4 o5 a b c d e f y0 y1 y2 y3 y4 y5:Int) (i:Nat) (q cy r0 r1 r2 r3 r4 r5 r6 r7:Int):St:=mkSt 176 [0,1,2,3,4,10,11,14,20,23,29,30] [(.ci (.slc 0 0 6 1)),(.ci (.sl (.u64 [a,b,c,d,e,f]))),(.ci (.sl (.u64 [y0,y1,y2,y3,y4,y5]))),(.ci (.sl (.u64 [(13402431016077863595:Int),(2210141511517208575:Int),(7435674573564081700:Int),(7239337960414712511:Int),(5412103778470702295:Int),(1873798617647539866:Int)]))),.iu (9940570264628428797:Int),.ii (6:Int),.pt 64 0,.v (.c (.int .u64 cy)),.v (.c (.int .u64 q)),.ii (1:Int),.ii (6:Int),(.ii (i:Int))] [0,64] [(eF_ [(.int .u64 o0),(.int .u64 o1),(.int .u64 o2),(.int .u64 o3),(.int .u64 o4),(.int .u64 o5)]),some (.fl [.int .u64 r0,.int .u64 r1,.int .u64 r2,.int .u64 r3,.int .u64 r4,.int .u64 r5,.int .u64 r6,.int .u64 r7,.int .u64 0,.int .u64 0])] 6176 [] []
def zB2_k:List KI:=(run qeD true 74 ((fun (o0 o1 o2 o3 o4 o5 a b c d e f y0 y1 y2 y3 y4 y5:Int) (i:Nat) (q cy r0 r1 r2 r3 r4 r5 r6 r7:Int)=>(⟨zB1_k,.normal,zT2 o0 o1 o2 o3 o4 o5 a b c d e f y0 y1 y2 y3 y4 y5 i q cy r0 r1 r2 r3 r4 r5 r6 r7⟩:Cfg)) default default default default default default default default default default default default default default default default default default default default default default default default default default default default default) [true]).cfg.k
theorem zB2 (ho:AllP [((decide ((2:Int)<(6:Int)))=true),(0≤(2:Int)),((2:Int)<(6:Int)),(0≤q),(q<(18446744073709551616:Int)),(0≤(7435674573564081700:Int)),((7435674573564081700:Int)<(18446744073709551616:Int)),(0≤(2:Int)),((2:Int)<(10:Int)),(0≤((q*(7435674573564081700:Int)) % (18446744073709551616:Int))),(0≤r2),(r2<(18446744073709551616:Int)),(0≤(0:Int)),(0≤(1:Int)),(0≤(Prod.fst (exOut 0 ((q*(7435674573564081700:Int)) % (18446744073709551616:Int)) r2 (0:Int)))),(0≤cy),(cy<(18446744073709551616:Int)),(0≤(0:Int)),(0≤(1:Int)),(0≤(1:Int)),((1:Int)<(10:Int))]):Sg Tryz.prog (zT2 o0 o1 o2 o3 o4 o5 a b c d e f y0 y1 y2 y3 y4 y5 i q cy r0 r1 r2 r3 r4 r5 r6 r7) (mkSt 176 [0,1,2,3,4,10,11,14,20,23,29,30] [(.ci (.slc 0 0 6 1)),(.ci (.sl (.u64 [a,b,c,d,e,f]))),(.ci (.sl (.u64 [y0,y1,y2,y3,y4,y5]))),(.ci (.sl (.u64 [(13402431016077863595:Int),(2210141511517208575:Int),(7435674573564081700:Int),(7239337960414712511:Int),(5412103778470702295:Int),(1873798617647539866:Int)]))),.iu (9940570264628428797:Int),.ii (6:Int),.pt 64 0,(.iu (wrap .u64 ((wrap .u64 (((q*(7435674573564081700:Int)) / (18446744073709551616:Int))+(Prod.snd (exOut 0 ((q*(7435674573564081700:Int)) % (18446744073709551616:Int)) r2 (0:Int)))))+(Prod.snd (exOut 0 (Prod.fst (exOut 0 ((q*(7435674573564081700:Int)) % (18446744073709551616:Int)) r2 (0:Int))) cy (0:Int)))))),.iu q,.ii (2:Int),.ii (6:Int),(.ii (i:Int))] [0,64] [(eF_ [(.int .u64 o0),(.int .u64 o1),(.int .u64 o2),(.int .u64 o3),(.int .u64 o4),(.int .u64 o5)]),(eF_ [(.int .u64 r0),(.int .u64 (Prod.fst (exOut 0 (Prod.fst (exOut 0 ((q*(7435674573564081700:Int)) % (18446744073709551616:Int)) r2 (0:Int))) cy (0:Int)))),(.int .u64 r2),(.int .u64 r3),(.int .u64 r4),(.int .u64 r5),(.int .u64 r6),(.int .u64 r7),(.int .u64 (0:Int)),(.int .u64 (0:Int))])] 6944 [] []) .normal (zB2_k) (zB1_k):=fun hs hK=>
 run_at2 (unroll:=true) (n:=74) (path:=[true]) (o:=⟨_,_,_,_,_,_,_⟩) qeD_ok (by kernel_rfl) (by kernel_rfl) ho hs hK
def zT3 (o0 o1 o2 o3 o4 o5 a b c d e f y0 y1 y2 y3 y4 y5:Int) (i:Nat) (q cy r0 r1 r2 r3 r4 r5 r6 r7:Int):St:=mkSt 176 [0,1,2,3,4,10,11,14,20,23,29,30] [(.ci (.slc 0 0 6 1)),(.ci (.sl (.u64 [a,b,c,d,e,f]))),(.ci (.sl (.u64 [y0,y1,y2,y3,y4,y5]))),(.ci (.sl (.u64 [(13402431016077863595:Int),(2210141511517208575:Int),(7435674573564081700:Int),(7239337960414712511:Int),(5412103778470702295:Int),(1873798617647539866:Int)]))),.iu (9940570264628428797:Int),.ii (6:Int),.pt 64 0,.v (.c (.int .u64 cy)),.v (.c (.int .u64 q)),.ii (2:Int),.ii (6:Int),(.ii (i:Int))] [0,64] [(eF_ [(.int .u64 o0),(.int .u64 o1),(.int .u64 o2),(.int .u64 o3),(.int .u64 o4),(.int .u64 o5)]),some (.fl [.int .u64 r0,.int .u64 r1,.int .u64 r2,.int .u64 r3,.int .u64 r4,.int .u64 r5,.int .u64 r6,.int .u64 r7,.int .u64 0,.int .u64 0])] 6944 [] []
def zB3_k:List KI:=(run qeD true 74 ((fun (o0 o1 o2 o3 o4 o5 a b c d e f y0 y1 y2 y3 y4 y5:Int) (i:Nat) (q cy r0 r1 r2 r3 r4 r5 r6 r7:Int)=>(⟨zB2_k,.normal,zT3 o0 o1 o2 o3 o4 o5 a b c d e f y0 y1 y2 y3 y4 y5 i q cy r0 r1 r2 r3 r4 r5 r6 r7⟩:Cfg)) default default default default default default default default default default default default default default default default default default default default default default default default default default default default default) [true]).cfg.k
theorem zB3 (ho:AllP [((decide ((3:Int)<(6:Int)))=true),(0≤(3:Int)),((3:Int)<(6:Int)),(0≤q),(q<(18446744073709551616:Int)),(0≤(7239337960414712511:Int)),((7239337960414712511:Int)<(18446744073709551616:Int)),(0≤(3:Int)),((3:Int)<(10:Int)),(0≤((q*(7239337960414712511:Int)) % (18446744073709551616:Int))),(0≤r3),(r3<(18446744073709551616:Int)),(0≤(0:Int)),(0≤(1:Int)),(0≤(Prod.fst (exOut 0 ((q*(7239337960414712511:Int)) % (18446744073709551616:Int)) r3 (0:Int)))),(0≤cy),(cy<(18446744073709551616:Int)),(0≤(0:Int)),(0≤(1:Int)),(0≤(2:Int)),((2:Int)<(10:Int))]):Sg Tryz.prog (zT3 o0 o1 o2 o3 o4 o5 a b c d e f y0 y1 y2 y3 y4 y5 i q cy r0 r1 r2 r3 r4 r5 r6 r7) (mkSt 176 [0,1,2,3,4,10,11,14,20,23,29,30] [(.ci (.slc 0 0 6 1)),(.ci (.sl (.u64 [a,b,c,d,e,f]))),(.ci (.sl (.u64 [y0,y1,y2,y3,y4,y5]))),(.ci (.sl (.u64 [(13402431016077863595:Int),(2210141511517208575:Int),(7435674573564081700:Int),(7239337960414712511:Int),(5412103778470702295:Int),(1873798617647539866:Int)]))),.iu (9940570264628428797:Int),.ii (6:Int),.pt 64 0,(.iu (wrap .u64 ((wrap .u64 (((q*(7239337960414712511:Int)) / (18446744073709551616:Int))+(Prod.snd (exOut 0 ((q*(7239337960414712511:Int)) % (18446744073709551616:Int)) r3 (0:Int)))))+(Prod.snd (exOut 0 (Prod.fst (exOut 0 ((q*(7239337960414712511:Int)) % (18446744073709551616:Int)) r3 (0:Int))) cy (0:Int)))))),.iu q,.ii (3:Int),.ii (6:Int),(.ii (i:Int))] [0,64] [(eF_ [(.int .u64 o0),(.int .u64 o1),(.int .u64 o2),(.int .u64 o3),(.int .u64 o4),(.int .u64 o5)]),(eF_ [(.int .u64 r0),(.int .u64 r1),(.int .u64 (Prod.fst (exOut 0 (Prod.fst (exOut 0 ((q*(7239337960414712511:Int)) % (18446744073709551616:Int)) r3 (0:Int))) cy (0:Int)))),(.int .u64 r3),(.int .u64 r4),(.int .u64 r5),(.int .u64 r6),(.int .u64 r7),(.int .u64 (0:Int)),(.int .u64 (0:Int))])] 7712 [] []) .normal (zB3_k) (zB2_k):=fun hs hK=>
 run_at2 (unroll:=true) (n:=74) (path:=[true]) (o:=⟨_,_,_,_,_,_,_⟩) qeD_ok (by kernel_rfl) (by kernel_rfl) ho hs hK
def zT4 (o0 o1 o2 o3 o4 o5 a b c d e f y0 y1 y2 y3 y4 y5:Int) (i:Nat) (q cy r0 r1 r2 r3 r4 r5 r6 r7:Int):St:=mkSt 176 [0,1,2,3,4,10,11,14,20,23,29,30] [(.ci (.slc 0 0 6 1)),(.ci (.sl (.u64 [a,b,c,d,e,f]))),(.ci (.sl (.u64 [y0,y1,y2,y3,y4,y5]))),(.ci (.sl (.u64 [(13402431016077863595:Int),(2210141511517208575:Int),(7435674573564081700:Int),(7239337960414712511:Int),(5412103778470702295:Int),(1873798617647539866:Int)]))),.iu (9940570264628428797:Int),.ii (6:Int),.pt 64 0,.v (.c (.int .u64 cy)),.v (.c (.int .u64 q)),.ii (3:Int),.ii (6:Int),(.ii (i:Int))] [0,64] [(eF_ [(.int .u64 o0),(.int .u64 o1),(.int .u64 o2),(.int .u64 o3),(.int .u64 o4),(.int .u64 o5)]),some (.fl [.int .u64 r0,.int .u64 r1,.int .u64 r2,.int .u64 r3,.int .u64 r4,.int .u64 r5,.int .u64 r6,.int .u64 r7,.int .u64 0,.int .u64 0])] 7712 [] []
def zB4_k:List KI:=(run qeD true 74 ((fun (o0 o1 o2 o3 o4 o5 a b c d e f y0 y1 y2 y3 y4 y5:Int) (i:Nat) (q cy r0 r1 r2 r3 r4 r5 r6 r7:Int)=>(⟨zB3_k,.normal,zT4 o0 o1 o2 o3 o4 o5 a b c d e f y0 y1 y2 y3 y4 y5 i q cy r0 r1 r2 r3 r4 r5 r6 r7⟩:Cfg)) default default default default default default default default default default default default default default default default default default default default default default default default default default default default default) [true]).cfg.k
theorem zB4 (ho:AllP [((decide ((4:Int)<(6:Int)))=true),(0≤(4:Int)),((4:Int)<(6:Int)),(0≤q),(q<(18446744073709551616:Int)),(0≤(5412103778470702295:Int)),((5412103778470702295:Int)<(18446744073709551616:Int)),(0≤(4:Int)),((4:Int)<(10:Int)),(0≤((q*(5412103778470702295:Int)) % (18446744073709551616:Int))),(0≤r4),(r4<(18446744073709551616:Int)),(0≤(0:Int)),(0≤(1:Int)),(0≤(Prod.fst (exOut 0 ((q*(5412103778470702295:Int)) % (18446744073709551616:Int)) r4 (0:Int)))),(0≤cy),(cy<(18446744073709551616:Int)),(0≤(0:Int)),(0≤(1:Int)),(0≤(3:Int)),((3:Int)<(10:Int))]):Sg Tryz.prog (zT4 o0 o1 o2 o3 o4 o5 a b c d e f y0 y1 y2 y3 y4 y5 i q cy r0 r1 r2 r3 r4 r5 r6 r7) (mkSt 176 [0,1,2,3,4,10,11,14,20,23,29,30] [(.ci (.slc 0 0 6 1)),(.ci (.sl (.u64 [a,b,c,d,e,f]))),(.ci (.sl (.u64 [y0,y1,y2,y3,y4,y5]))),(.ci (.sl (.u64 [(13402431016077863595:Int),(2210141511517208575:Int),(7435674573564081700:Int),(7239337960414712511:Int),(5412103778470702295:Int),(1873798617647539866:Int)]))),.iu (9940570264628428797:Int),.ii (6:Int),.pt 64 0,(.iu (wrap .u64 ((wrap .u64 (((q*(5412103778470702295:Int)) / (18446744073709551616:Int))+(Prod.snd (exOut 0 ((q*(5412103778470702295:Int)) % (18446744073709551616:Int)) r4 (0:Int)))))+(Prod.snd (exOut 0 (Prod.fst (exOut 0 ((q*(5412103778470702295:Int)) % (18446744073709551616:Int)) r4 (0:Int))) cy (0:Int)))))),.iu q,.ii (4:Int),.ii (6:Int),(.ii (i:Int))] [0,64] [(eF_ [(.int .u64 o0),(.int .u64 o1),(.int .u64 o2),(.int .u64 o3),(.int .u64 o4),(.int .u64 o5)]),(eF_ [(.int .u64 r0),(.int .u64 r1),(.int .u64 r2),(.int .u64 (Prod.fst (exOut 0 (Prod.fst (exOut 0 ((q*(5412103778470702295:Int)) % (18446744073709551616:Int)) r4 (0:Int))) cy (0:Int)))),(.int .u64 r4),(.int .u64 r5),(.int .u64 r6),(.int .u64 r7),(.int .u64 (0:Int)),(.int .u64 (0:Int))])] 8480 [] []) .normal (zB4_k) (zB3_k):=fun hs hK=>
 run_at2 (unroll:=true) (n:=74) (path:=[true]) (o:=⟨_,_,_,_,_,_,_⟩) qeD_ok (by kernel_rfl) (by kernel_rfl) ho hs hK
def zT5 (o0 o1 o2 o3 o4 o5 a b c d e f y0 y1 y2 y3 y4 y5:Int) (i:Nat) (q cy r0 r1 r2 r3 r4 r5 r6 r7:Int):St:=mkSt 176 [0,1,2,3,4,10,11,14,20,23,29,30] [(.ci (.slc 0 0 6 1)),(.ci (.sl (.u64 [a,b,c,d,e,f]))),(.ci (.sl (.u64 [y0,y1,y2,y3,y4,y5]))),(.ci (.sl (.u64 [(13402431016077863595:Int),(2210141511517208575:Int),(7435674573564081700:Int),(7239337960414712511:Int),(5412103778470702295:Int),(1873798617647539866:Int)]))),.iu (9940570264628428797:Int),.ii (6:Int),.pt 64 0,.v (.c (.int .u64 cy)),.v (.c (.int .u64 q)),.ii (4:Int),.ii (6:Int),(.ii (i:Int))] [0,64] [(eF_ [(.int .u64 o0),(.int .u64 o1),(.int .u64 o2),(.int .u64 o3),(.int .u64 o4),(.int .u64 o5)]),some (.fl [.int .u64 r0,.int .u64 r1,.int .u64 r2,.int .u64 r3,.int .u64 r4,.int .u64 r5,.int .u64 r6,.int .u64 r7,.int .u64 0,.int .u64 0])] 8480 [] []
def zB5_k:List KI:=(run qeD true 74 ((fun (o0 o1 o2 o3 o4 o5 a b c d e f y0 y1 y2 y3 y4 y5:Int) (i:Nat) (q cy r0 r1 r2 r3 r4 r5 r6 r7:Int)=>(⟨zB4_k,.normal,zT5 o0 o1 o2 o3 o4 o5 a b c d e f y0 y1 y2 y3 y4 y5 i q cy r0 r1 r2 r3 r4 r5 r6 r7⟩:Cfg)) default default default default default default default default default default default default default default default default default default default default default default default default default default default default default) [true]).cfg.k
theorem zB5 (ho:AllP [((decide ((5:Int)<(6:Int)))=true),(0≤(5:Int)),((5:Int)<(6:Int)),(0≤q),(q<(18446744073709551616:Int)),(0≤(1873798617647539866:Int)),((1873798617647539866:Int)<(18446744073709551616:Int)),(0≤(5:Int)),((5:Int)<(10:Int)),(0≤((q*(1873798617647539866:Int)) % (18446744073709551616:Int))),(0≤r5),(r5<(18446744073709551616:Int)),(0≤(0:Int)),(0≤(1:Int)),(0≤(Prod.fst (exOut 0 ((q*(1873798617647539866:Int)) % (18446744073709551616:Int)) r5 (0:Int)))),(0≤cy),(cy<(18446744073709551616:Int)),(0≤(0:Int)),(0≤(1:Int)),(0≤(4:Int)),((4:Int)<(10:Int))]):Sg Tryz.prog (zT5 o0 o1 o2 o3 o4 o5 a b c d e f y0 y1 y2 y3 y4 y5 i q cy r0 r1 r2 r3 r4 r5 r6 r7) (mkSt 176 [0,1,2,3,4,10,11,14,20,23,29,30] [(.ci (.slc 0 0 6 1)),(.ci (.sl (.u64 [a,b,c,d,e,f]))),(.ci (.sl (.u64 [y0,y1,y2,y3,y4,y5]))),(.ci (.sl (.u64 [(13402431016077863595:Int),(2210141511517208575:Int),(7435674573564081700:Int),(7239337960414712511:Int),(5412103778470702295:Int),(1873798617647539866:Int)]))),.iu (9940570264628428797:Int),.ii (6:Int),.pt 64 0,(.iu (wrap .u64 ((wrap .u64 (((q*(1873798617647539866:Int)) / (18446744073709551616:Int))+(Prod.snd (exOut 0 ((q*(1873798617647539866:Int)) % (18446744073709551616:Int)) r5 (0:Int)))))+(Prod.snd (exOut 0 (Prod.fst (exOut 0 ((q*(1873798617647539866:Int)) % (18446744073709551616:Int)) r5 (0:Int))) cy (0:Int)))))),.iu q,.ii (5:Int),.ii (6:Int),(.ii (i:Int))] [0,64] [(eF_ [(.int .u64 o0),(.int .u64 o1),(.int .u64 o2),(.int .u64 o3),(.int .u64 o4),(.int .u64 o5)]),(eF_ [(.int .u64 r0),(.int .u64 r1),(.int .u64 r2),(.int .u64 r3),(.int .u64 (Prod.fst (exOut 0 (Prod.fst (exOut 0 ((q*(1873798617647539866:Int)) % (18446744073709551616:Int)) r5 (0:Int))) cy (0:Int)))),(.int .u64 r5),(.int .u64 r6),(.int .u64 r7),(.int .u64 (0:Int)),(.int .u64 (0:Int))])] 9248 [] []) .normal (zB5_k) (zB4_k):=fun hs hK=>
 run_at2 (unroll:=true) (n:=74) (path:=[true]) (o:=⟨_,_,_,_,_,_,_⟩) qeD_ok (by kernel_rfl) (by kernel_rfl) ho hs hK
def zT6 (o0 o1 o2 o3 o4 o5 a b c d e f y0 y1 y2 y3 y4 y5:Int) (i:Nat) (q cy r0 r1 r2 r3 r4 r5 r6 r7:Int):St:=mkSt 176 [0,1,2,3,4,10,11,14,20,23,29,30] [(.ci (.slc 0 0 6 1)),(.ci (.sl (.u64 [a,b,c,d,e,f]))),(.ci (.sl (.u64 [y0,y1,y2,y3,y4,y5]))),(.ci (.sl (.u64 [(13402431016077863595:Int),(2210141511517208575:Int),(7435674573564081700:Int),(7239337960414712511:Int),(5412103778470702295:Int),(1873798617647539866:Int)]))),.iu (9940570264628428797:Int),.ii (6:Int),.pt 64 0,.v (.c (.int .u64 cy)),.v (.c (.int .u64 q)),.ii (5:Int),.ii (6:Int),(.ii (i:Int))] [0,64] [(eF_ [(.int .u64 o0),(.int .u64 o1),(.int .u64 o2),(.int .u64 o3),(.int .u64 o4),(.int .u64 o5)]),some (.fl [.int .u64 r0,.int .u64 r1,.int .u64 r2,.int .u64 r3,.int .u64 r4,.int .u64 r5,.int .u64 r6,.int .u64 r7,.int .u64 0,.int .u64 0])] 9248 [] []
theorem zI (ho:AllP [((decide ((6:Int)<(6:Int)))=false),(0≤(6:Int)),((6:Int)<(10:Int)),(0≤r6),(0≤cy),(cy<(18446744073709551616:Int)),(0≤(0:Int)),(0≤(1:Int)),(0≤(5:Int)),((5:Int)<(10:Int)),(0≤(7:Int)),((7:Int)<(10:Int)),(0≤(6:Int)),((6:Int)<(10:Int))]):Sg Tryz.prog (zT6 o0 o1 o2 o3 o4 o5 a b c d e f y0 y1 y2 y3 y4 y5 i q cy r0 r1 r2 r3 r4 r5 r6 r7) (mkSt 176 [0,1,2,3,4,10,11,29,30] [(.ci (.slc 0 0 6 1)),(.ci (.sl (.u64 [a,b,c,d,e,f]))),(.ci (.sl (.u64 [y0,y1,y2,y3,y4,y5]))),(.ci (.sl (.u64 [(13402431016077863595:Int),(2210141511517208575:Int),(7435674573564081700:Int),(7239337960414712511:Int),(5412103778470702295:Int),(1873798617647539866:Int)]))),.iu (9940570264628428797:Int),.ii (6:Int),.pt 64 0,.ii (6:Int),(.ii (wrap .i64 ((i:Int)+1)))] [0,64] [(eF_ [(.int .u64 o0),(.int .u64 o1),(.int .u64 o2),(.int .u64 o3),(.int .u64 o4),(.int .u64 o5)]),(eF_ [(.int .u64 r0),(.int .u64 r1),(.int .u64 r2),(.int .u64 r3),(.int .u64 r4),(.int .u64 (Prod.fst (exOut 0 r6 cy (0:Int)))),(.int .u64 (wrap .u64 (r7+(Prod.snd (exOut 0 r6 cy (0:Int)))))),(.int .u64 r7),(.int .u64 (0:Int)),(.int .u64 (0:Int))])] 9728 [] []) .normal (lpBk zIn_k) (zB5_k):=fun hs hK=>
 run_at2 (unroll:=true) (n:=50) (path:=[false]) (o:=⟨_,_,_,_,_,_,_⟩) qeD_ok (by kernel_rfl) (by kernel_rfl) ho hs hK
end
end
end

section

section
variable {w0:World} {F0:Nat→Prop} {K:Kp} {ac:List Act} {Q:Exit→Act→World→Prop} {cX:Ctx} {aX:Act}

theorem sQA0 (o0 o1 o2 o3 o4 o5 a b c d e f y0 y1 y2 y3 y4 y5:Int) (i:Nat) {r0 r1 r2 r3 r4 r5 r6 r7 x:Int} (hi:i<6) (he:List.getD [a,b,c,d,e,f] i 0=x) (hx:Lim6 x) (hy:Lim6 y0) (hr:Lim6 r0) (hs:Sim w0 F0 K ac (zS o0 o1 o2 o3 o4 o5 a b c d e f y0 y1 y2 y3 y4 y5 i r0 r1 r2 r3 r4 r5 r6 r7) cX aX)
  (k:∀n cy' : Int,x*y0+r0+0=n+18446744073709551616*cy' → Lim6 n→Lim6 cy' → ∀ac cY aY,Sim w0 F0 K ac (zS1 o0 o1 o2 o3 o4 o5 a b c d e f y0 y1 y2 y3 y4 y5 i x cy' n r1 r2 r3 r4 r5 r6 r7) cY aY→Wq Tryz.prog Q zA0_k ac .normal aY cY.w):Wq Tryz.prog Q (lpIn zIn_k) ac .normal aX cX.w:=by
 obtain ⟨x0,x1⟩:=hx
 obtain ⟨yy0,yy1⟩:=hy
 obtain ⟨rr0,rr1⟩:=hr
 have ee:=mac x0 x1 yy0 yy1 rr0 rr1 (u:=0) (by decide) (by decide)
 have sA:=@zA0 o0 o1 o2 o3 o4 o5 a b c d e f y0 y1 y2 y3 y4 y5 i r0 r1 r2 r3 r4 r5 r6 r7 w0 F0 K ac Q cX aX
 rw[Int.toNat_natCast,he] at sA
 obtain ⟨e1,l1,u1,m1⟩:=ee
 refine sA ?_ hs fun ac cY aY h=>k _ _ e1 l1 u1 ac cY aY h
 simp only[AllP,and_true,decide_eq_true_eq]
 omega

theorem sQA1 (o0 o1 o2 o3 o4 o5 a b c d e f y0 y1 y2 y3 y4 y5:Int) (i:Nat) {x cy r0 r1 r2 r3 r4 r5 r6 r7:Int} (hx:Lim6 x) (hy:Lim6 y1) (hr:Lim6 r1) (hc:Lim6 cy) (hs:Sim w0 F0 K ac (zS1 o0 o1 o2 o3 o4 o5 a b c d e f y0 y1 y2 y3 y4 y5 i x cy r0 r1 r2 r3 r4 r5 r6 r7) cX aX)
  (k:∀n cy' : Int,x*y1+r1+cy=n+18446744073709551616*cy' → Lim6 n→Lim6 cy' → ∀ac cY aY,Sim w0 F0 K ac (zS2 o0 o1 o2 o3 o4 o5 a b c d e f y0 y1 y2 y3 y4 y5 i x cy' r0 n r2 r3 r4 r5 r6 r7) cY aY→Wq Tryz.prog Q zA1_k ac .normal aY cY.w):Wq Tryz.prog Q (zA0_k) ac .normal aX cX.w:=by
 obtain ⟨x0,x1⟩:=hx
 obtain ⟨yy0,yy1⟩:=hy
 obtain ⟨rr0,rr1⟩:=hr
 obtain ⟨cc0,cc1⟩:=hc
 obtain ⟨e1,l1,u1,m1⟩:=mac x0 x1 yy0 yy1 rr0 rr1 cc0 cc1
 refine zA1 o0 o1 o2 o3 o4 o5 a b c d e f y0 y1 y2 y3 y4 y5 i x cy r0 r1 r2 r3 r4 r5 r6 r7 ?_ hs fun ac cY aY h=>k _ _ e1 l1 u1 ac cY aY h
 simp only[AllP,and_true,decide_eq_true_eq]
 omega

theorem sQA2 (o0 o1 o2 o3 o4 o5 a b c d e f y0 y1 y2 y3 y4 y5:Int) (i:Nat) {x cy r0 r1 r2 r3 r4 r5 r6 r7:Int} (hx:Lim6 x) (hy:Lim6 y2) (hr:Lim6 r2) (hc:Lim6 cy) (hs:Sim w0 F0 K ac (zS2 o0 o1 o2 o3 o4 o5 a b c d e f y0 y1 y2 y3 y4 y5 i x cy r0 r1 r2 r3 r4 r5 r6 r7) cX aX)
  (k:∀n cy' : Int,x*y2+r2+cy=n+18446744073709551616*cy' → Lim6 n→Lim6 cy' → ∀ac cY aY,Sim w0 F0 K ac (zS3 o0 o1 o2 o3 o4 o5 a b c d e f y0 y1 y2 y3 y4 y5 i x cy' r0 r1 n r3 r4 r5 r6 r7) cY aY→Wq Tryz.prog Q zA2_k ac .normal aY cY.w):Wq Tryz.prog Q (zA1_k) ac .normal aX cX.w:=by
 obtain ⟨x0,x1⟩:=hx
 obtain ⟨yy0,yy1⟩:=hy
 obtain ⟨rr0,rr1⟩:=hr
 obtain ⟨cc0,cc1⟩:=hc
 obtain ⟨e1,l1,u1,m1⟩:=mac x0 x1 yy0 yy1 rr0 rr1 cc0 cc1
 refine zA2 o0 o1 o2 o3 o4 o5 a b c d e f y0 y1 y2 y3 y4 y5 i x cy r0 r1 r2 r3 r4 r5 r6 r7 ?_ hs fun ac cY aY h=>k _ _ e1 l1 u1 ac cY aY h
 simp only[AllP,and_true,decide_eq_true_eq]
 omega

theorem sQA3 (o0 o1 o2 o3 o4 o5 a b c d e f y0 y1 y2 y3 y4 y5:Int) (i:Nat) {x cy r0 r1 r2 r3 r4 r5 r6 r7:Int} (hx:Lim6 x) (hy:Lim6 y3) (hr:Lim6 r3) (hc:Lim6 cy) (hs:Sim w0 F0 K ac (zS3 o0 o1 o2 o3 o4 o5 a b c d e f y0 y1 y2 y3 y4 y5 i x cy r0 r1 r2 r3 r4 r5 r6 r7) cX aX)
  (k:∀n cy' : Int,x*y3+r3+cy=n+18446744073709551616*cy' → Lim6 n→Lim6 cy' → ∀ac cY aY,Sim w0 F0 K ac (zS4 o0 o1 o2 o3 o4 o5 a b c d e f y0 y1 y2 y3 y4 y5 i x cy' r0 r1 r2 n r4 r5 r6 r7) cY aY→Wq Tryz.prog Q zA3_k ac .normal aY cY.w):Wq Tryz.prog Q (zA2_k) ac .normal aX cX.w:=by
 obtain ⟨x0,x1⟩:=hx
 obtain ⟨yy0,yy1⟩:=hy
 obtain ⟨rr0,rr1⟩:=hr
 obtain ⟨cc0,cc1⟩:=hc
 obtain ⟨e1,l1,u1,m1⟩:=mac x0 x1 yy0 yy1 rr0 rr1 cc0 cc1
 refine zA3 o0 o1 o2 o3 o4 o5 a b c d e f y0 y1 y2 y3 y4 y5 i x cy r0 r1 r2 r3 r4 r5 r6 r7 ?_ hs fun ac cY aY h=>k _ _ e1 l1 u1 ac cY aY h
 simp only[AllP,and_true,decide_eq_true_eq]
 omega

theorem sQA4 (o0 o1 o2 o3 o4 o5 a b c d e f y0 y1 y2 y3 y4 y5:Int) (i:Nat) {x cy r0 r1 r2 r3 r4 r5 r6 r7:Int} (hx:Lim6 x) (hy:Lim6 y4) (hr:Lim6 r4) (hc:Lim6 cy) (hs:Sim w0 F0 K ac (zS4 o0 o1 o2 o3 o4 o5 a b c d e f y0 y1 y2 y3 y4 y5 i x cy r0 r1 r2 r3 r4 r5 r6 r7) cX aX)
  (k:∀n cy' : Int,x*y4+r4+cy=n+18446744073709551616*cy' → Lim6 n→Lim6 cy' → ∀ac cY aY,Sim w0 F0 K ac (zS5 o0 o1 o2 o3 o4 o5 a b c d e f y0 y1 y2 y3 y4 y5 i x cy' r0 r1 r2 r3 n r5 r6 r7) cY aY→Wq Tryz.prog Q zA4_k ac .normal aY cY.w):Wq Tryz.prog Q (zA3_k) ac .normal aX cX.w:=by
 obtain ⟨x0,x1⟩:=hx
 obtain ⟨yy0,yy1⟩:=hy
 obtain ⟨rr0,rr1⟩:=hr
 obtain ⟨cc0,cc1⟩:=hc
 obtain ⟨e1,l1,u1,m1⟩:=mac x0 x1 yy0 yy1 rr0 rr1 cc0 cc1
 refine zA4 o0 o1 o2 o3 o4 o5 a b c d e f y0 y1 y2 y3 y4 y5 i x cy r0 r1 r2 r3 r4 r5 r6 r7 ?_ hs fun ac cY aY h=>k _ _ e1 l1 u1 ac cY aY h
 simp only[AllP,and_true,decide_eq_true_eq]
 omega

theorem sQA5 (o0 o1 o2 o3 o4 o5 a b c d e f y0 y1 y2 y3 y4 y5:Int) (i:Nat) {x cy r0 r1 r2 r3 r4 r5 r6 r7:Int} (hx:Lim6 x) (hy:Lim6 y5) (hr:Lim6 r5) (hc:Lim6 cy) (hs:Sim w0 F0 K ac (zS5 o0 o1 o2 o3 o4 o5 a b c d e f y0 y1 y2 y3 y4 y5 i x cy r0 r1 r2 r3 r4 r5 r6 r7) cX aX)
  (k:∀n cy' : Int,x*y5+r5+cy=n+18446744073709551616*cy' → Lim6 n→Lim6 cy' → ∀ac cY aY,Sim w0 F0 K ac (zS6 o0 o1 o2 o3 o4 o5 a b c d e f y0 y1 y2 y3 y4 y5 i x cy' r0 r1 r2 r3 r4 n r6 r7) cY aY→Wq Tryz.prog Q zA5_k ac .normal aY cY.w):Wq Tryz.prog Q (zA4_k) ac .normal aX cX.w:=by
 obtain ⟨x0,x1⟩:=hx
 obtain ⟨yy0,yy1⟩:=hy
 obtain ⟨rr0,rr1⟩:=hr
 obtain ⟨cc0,cc1⟩:=hc
 obtain ⟨e1,l1,u1,m1⟩:=mac x0 x1 yy0 yy1 rr0 rr1 cc0 cc1
 refine zA5 o0 o1 o2 o3 o4 o5 a b c d e f y0 y1 y2 y3 y4 y5 i x cy r0 r1 r2 r3 r4 r5 r6 r7 ?_ hs fun ac cY aY h=>k _ _ e1 l1 u1 ac cY aY h
 simp only[AllP,and_true,decide_eq_true_eq]
 omega

theorem sQE (o0 o1 o2 o3 o4 o5 a b c d e f y0 y1 y2 y3 y4 y5:Int) (i:Nat) {x cy r0 r1 r2 r3 r4 r5 r6 r7:Int} (hr0:Lim6 r0) (hr6:Lim6 r6) (hc:Lim6 cy) (hs:Sim w0 F0 K ac (zS6 o0 o1 o2 o3 o4 o5 a b c d e f y0 y1 y2 y3 y4 y5 i x cy r0 r1 r2 r3 r4 r5 r6 r7) cX aX)
  (k:∀q cy' n6 n7:Int,r6+cy+0=n6+18446744073709551616*n7→q*13402431016077863595+r0=18446744073709551616*cy' → Lim6 n6→0≤n7→n7≤1→Lim6 q→Lim6 cy' → ∀ac cY aY,Sim w0 F0 K ac (zT1 o0 o1 o2 o3 o4 o5 a b c d e f y0 y1 y2 y3 y4 y5 i q cy' r0 r1 r2 r3 r4 r5 n6 n7) cY aY→Wq Tryz.prog Q zE_k ac .normal aY cY.w):Wq Tryz.prog Q zA5_k ac .normal aX cX.w:=by
 obtain ⟨rr0,rr1⟩:=hr0
 obtain ⟨rr6,rr7⟩:=hr6
 obtain ⟨cc0,cc1⟩:=hc
 obtain ⟨e1,p1,p1',q1,q1'⟩:=add_step (c:=0) rr6 rr7 cc0 cc1 (by decide) (by decide)
 have hq:=wrap_lim6 (r0*9940570264628428797)
 have e2:=mac1 (b:=13402431016077863595) hq.1 hq.2 (by decide) (by decide) rr0 rr1
 have e3:=negP_low (l:=r0) rfl
 obtain ⟨hq0,hq1⟩:=hq
 obtain ⟨e2,⟨f1,f2⟩,f3⟩:=e2
 refine zE o0 o1 o2 o3 o4 o5 a b c d e f y0 y1 y2 y3 y4 y5 i x cy r0 r1 r2 r3 r4 r5 r6 r7 ?_ hs fun ac cY aY h=>k _ _ _ _ e1 ?_ ⟨p1,p1'⟩ q1 q1' ⟨hq0,hq1⟩ f3 ac cY aY h
 ·simp only[AllP,and_true,decide_eq_false_iff_not]
  omega
 ·omega

theorem sQB1 (o0 o1 o2 o3 o4 o5 a b c d e f y0 y1 y2 y3 y4 y5:Int) (i:Nat) {q cy r0 r1 r2 r3 r4 r5 r6 r7:Int} (hq:Lim6 q) (hr:Lim6 r1) (hc:Lim6 cy) (hs:Sim w0 F0 K ac (zT1 o0 o1 o2 o3 o4 o5 a b c d e f y0 y1 y2 y3 y4 y5 i q cy r0 r1 r2 r3 r4 r5 r6 r7) cX aX)
  (k:∀n cy' : Int,q*2210141511517208575+r1+cy=n+18446744073709551616*cy' → Lim6 n→Lim6 cy' → ∀ac cY aY,Sim w0 F0 K ac (zT2 o0 o1 o2 o3 o4 o5 a b c d e f y0 y1 y2 y3 y4 y5 i q cy' n r1 r2 r3 r4 r5 r6 r7) cY aY→Wq Tryz.prog Q zB1_k ac .normal aY cY.w):Wq Tryz.prog Q zE_k ac .normal aX cX.w:=by
 obtain ⟨x0,x1⟩:=hq
 obtain ⟨rr0,rr1⟩:=hr
 obtain ⟨cc0,cc1⟩:=hc
 obtain ⟨e1,l1,u1,m1⟩:=mac (b:=2210141511517208575) x0 x1 (by decide) (by decide) rr0 rr1 cc0 cc1
 refine zB1 o0 o1 o2 o3 o4 o5 a b c d e f y0 y1 y2 y3 y4 y5 i q cy r0 r1 r2 r3 r4 r5 r6 r7 ?_ hs fun ac cY aY h=>k _ _ e1 l1 u1 ac cY aY h
 simp only[AllP,and_true,decide_eq_true_eq]
 omega

theorem sQB2 (o0 o1 o2 o3 o4 o5 a b c d e f y0 y1 y2 y3 y4 y5:Int) (i:Nat) {q cy r0 r1 r2 r3 r4 r5 r6 r7:Int} (hq:Lim6 q) (hr:Lim6 r2) (hc:Lim6 cy) (hs:Sim w0 F0 K ac (zT2 o0 o1 o2 o3 o4 o5 a b c d e f y0 y1 y2 y3 y4 y5 i q cy r0 r1 r2 r3 r4 r5 r6 r7) cX aX)
  (k:∀n cy' : Int,q*7435674573564081700+r2+cy=n+18446744073709551616*cy' → Lim6 n→Lim6 cy' → ∀ac cY aY,Sim w0 F0 K ac (zT3 o0 o1 o2 o3 o4 o5 a b c d e f y0 y1 y2 y3 y4 y5 i q cy' r0 n r2 r3 r4 r5 r6 r7) cY aY→Wq Tryz.prog Q zB2_k ac .normal aY cY.w):Wq Tryz.prog Q zB1_k ac .normal aX cX.w:=by
 obtain ⟨x0,x1⟩:=hq
 obtain ⟨rr0,rr1⟩:=hr
 obtain ⟨cc0,cc1⟩:=hc
 obtain ⟨e1,l1,u1,m1⟩:=mac (b:=7435674573564081700) x0 x1 (by decide) (by decide) rr0 rr1 cc0 cc1
 refine zB2 o0 o1 o2 o3 o4 o5 a b c d e f y0 y1 y2 y3 y4 y5 i q cy r0 r1 r2 r3 r4 r5 r6 r7 ?_ hs fun ac cY aY h=>k _ _ e1 l1 u1 ac cY aY h
 simp only[AllP,and_true,decide_eq_true_eq]
 omega

theorem sQB3 (o0 o1 o2 o3 o4 o5 a b c d e f y0 y1 y2 y3 y4 y5:Int) (i:Nat) {q cy r0 r1 r2 r3 r4 r5 r6 r7:Int} (hq:Lim6 q) (hr:Lim6 r3) (hc:Lim6 cy) (hs:Sim w0 F0 K ac (zT3 o0 o1 o2 o3 o4 o5 a b c d e f y0 y1 y2 y3 y4 y5 i q cy r0 r1 r2 r3 r4 r5 r6 r7) cX aX)
  (k:∀n cy' : Int,q*7239337960414712511+r3+cy=n+18446744073709551616*cy' → Lim6 n→Lim6 cy' → ∀ac cY aY,Sim w0 F0 K ac (zT4 o0 o1 o2 o3 o4 o5 a b c d e f y0 y1 y2 y3 y4 y5 i q cy' r0 r1 n r3 r4 r5 r6 r7) cY aY→Wq Tryz.prog Q zB3_k ac .normal aY cY.w):Wq Tryz.prog Q zB2_k ac .normal aX cX.w:=by
 obtain ⟨x0,x1⟩:=hq
 obtain ⟨rr0,rr1⟩:=hr
 obtain ⟨cc0,cc1⟩:=hc
 obtain ⟨e1,l1,u1,m1⟩:=mac (b:=7239337960414712511) x0 x1 (by decide) (by decide) rr0 rr1 cc0 cc1
 refine zB3 o0 o1 o2 o3 o4 o5 a b c d e f y0 y1 y2 y3 y4 y5 i q cy r0 r1 r2 r3 r4 r5 r6 r7 ?_ hs fun ac cY aY h=>k _ _ e1 l1 u1 ac cY aY h
 simp only[AllP,and_true,decide_eq_true_eq]
 omega

theorem sQB4 (o0 o1 o2 o3 o4 o5 a b c d e f y0 y1 y2 y3 y4 y5:Int) (i:Nat) {q cy r0 r1 r2 r3 r4 r5 r6 r7:Int} (hq:Lim6 q) (hr:Lim6 r4) (hc:Lim6 cy) (hs:Sim w0 F0 K ac (zT4 o0 o1 o2 o3 o4 o5 a b c d e f y0 y1 y2 y3 y4 y5 i q cy r0 r1 r2 r3 r4 r5 r6 r7) cX aX)
  (k:∀n cy' : Int,q*5412103778470702295+r4+cy=n+18446744073709551616*cy' → Lim6 n→Lim6 cy' → ∀ac cY aY,Sim w0 F0 K ac (zT5 o0 o1 o2 o3 o4 o5 a b c d e f y0 y1 y2 y3 y4 y5 i q cy' r0 r1 r2 n r4 r5 r6 r7) cY aY→Wq Tryz.prog Q zB4_k ac .normal aY cY.w):Wq Tryz.prog Q zB3_k ac .normal aX cX.w:=by
 obtain ⟨x0,x1⟩:=hq
 obtain ⟨rr0,rr1⟩:=hr
 obtain ⟨cc0,cc1⟩:=hc
 obtain ⟨e1,l1,u1,m1⟩:=mac (b:=5412103778470702295) x0 x1 (by decide) (by decide) rr0 rr1 cc0 cc1
 refine zB4 o0 o1 o2 o3 o4 o5 a b c d e f y0 y1 y2 y3 y4 y5 i q cy r0 r1 r2 r3 r4 r5 r6 r7 ?_ hs fun ac cY aY h=>k _ _ e1 l1 u1 ac cY aY h
 simp only[AllP,and_true,decide_eq_true_eq]
 omega

theorem sQB5 (o0 o1 o2 o3 o4 o5 a b c d e f y0 y1 y2 y3 y4 y5:Int) (i:Nat) {q cy r0 r1 r2 r3 r4 r5 r6 r7:Int} (hq:Lim6 q) (hr:Lim6 r5) (hc:Lim6 cy) (hs:Sim w0 F0 K ac (zT5 o0 o1 o2 o3 o4 o5 a b c d e f y0 y1 y2 y3 y4 y5 i q cy r0 r1 r2 r3 r4 r5 r6 r7) cX aX)
  (k:∀n cy' : Int,q*1873798617647539866+r5+cy=n+18446744073709551616*cy' → Lim6 n→Lim6 cy' → ∀ac cY aY,Sim w0 F0 K ac (zT6 o0 o1 o2 o3 o4 o5 a b c d e f y0 y1 y2 y3 y4 y5 i q cy' r0 r1 r2 r3 n r5 r6 r7) cY aY→Wq Tryz.prog Q zB5_k ac .normal aY cY.w):Wq Tryz.prog Q zB4_k ac .normal aX cX.w:=by
 obtain ⟨x0,x1⟩:=hq
 obtain ⟨rr0,rr1⟩:=hr
 obtain ⟨cc0,cc1⟩:=hc
 obtain ⟨e1,l1,u1,m1⟩:=mac (b:=1873798617647539866) x0 x1 (by decide) (by decide) rr0 rr1 cc0 cc1
 refine zB5 o0 o1 o2 o3 o4 o5 a b c d e f y0 y1 y2 y3 y4 y5 i q cy r0 r1 r2 r3 r4 r5 r6 r7 ?_ hs fun ac cY aY h=>k _ _ e1 l1 u1 ac cY aY h
 simp only[AllP,and_true,decide_eq_true_eq]
 omega

theorem sQI (o0 o1 o2 o3 o4 o5 a b c d e f y0 y1 y2 y3 y4 y5:Int) (i:Nat) {q cy r0 r1 r2 r3 r4 r5 r6 r7:Int} (hi:i<6) (hr6:Lim6 r6) (hc:Lim6 cy) (hs:Sim w0 F0 K ac (zT6 o0 o1 o2 o3 o4 o5 a b c d e f y0 y1 y2 y3 y4 y5 i q cy r0 r1 r2 r3 r4 r5 r6 r7) cX aX)
  (k:∀n5 c6:Int,r6+cy+0=n5+18446744073709551616*c6→Lim6 n5→0≤c6→c6≤1→∀ac cY aY,Sim w0 F0 K ac (zS o0 o1 o2 o3 o4 o5 a b c d e f y0 y1 y2 y3 y4 y5 (i+1) r0 r1 r2 r3 r4 n5 (wrap IntKind.u64 (r7+c6)) r7) cY aY→Wq Tryz.prog Q (lpBk zIn_k) ac .normal aY cY.w):Wq Tryz.prog Q zB5_k ac .normal aX cX.w:=by
 obtain ⟨rr6,rr7⟩:=hr6
 obtain ⟨cc0,cc1⟩:=hc
 obtain ⟨e1,p1,p1',q1,q1'⟩:=add_step (c:=0) rr6 rr7 cc0 cc1 (by decide) (by decide)
 refine zI o0 o1 o2 o3 o4 o5 a b c d e f y0 y1 y2 y3 y4 y5 i q cy r0 r1 r2 r3 r4 r5 r6 r7 ?_ hs fun ac cY aY h=>k _ _ e1 ⟨p1,p1'⟩ q1 q1' ac cY aY (by rw[wrap_id (by omega) (by omega)] at h;exact h.nx _)
 simp only[AllP,and_true,decide_eq_false_iff_not]
 omega

end

end

section

structure QInv (A Y i:Nat) (r0 r1 r2 r3 r4 r5 r6:Int):Prop where
 i6:i≤6
 h0:Lim6 r0
 h1:Lim6 r1
 h2:Lim6 r2
 h3:Lim6 r3
 h4:Lim6 r4
 h5:Lim6 r5
 h6:r6=0
 lt:num6 r0 r1 r2 r3 r4 r5<2*pN
 eq:∃Q:Nat,num6 r0 r1 r2 r3 r4 r5*((2 ^ (64*i):Nat):Int)=((A % 2 ^ (64*i):Nat):Int)*(Y:Int)+(Q:Int)*(pN:Int)

theorem out_abs6 {r B v T X Q:Nat} (e:v*B % r=1 % r) (h:T*B=X+Q*r):T % r=X*v % r:=by
  have h2:∀a:Nat,a*(v*B) % r=a % r:=fun a=>by rw[←Nat.mul_mod_mod,e,Nat.mul_mod_mod,Nat.mul_one]
  calc T % r=T*(v*B) % r:=(h2 _).symm
    _=(T*B)*v % r:=by congr 1;simp only[Nat.mul_comm,Nat.mul_left_comm]
    _=X*v % r:=by rw[h,Nat.add_mul,Nat.mul_assoc Q,Nat.mul_comm r,←Nat.mul_assoc,Nat.add_mul_mod_self_right]

/-- A round of the product, all columns together. -/
theorem roundP {r0 r1 r2 r3 r4 r5 xi y0 y1 y2 y3 y4 y5 q a0 c0 d0 b0 a1 c1 d1 b1 a2 c2 d2 b2 a3 c3 d3 b3 a4 c4 d4 b4 a5 c5 d5 b5 n6 n7 c6:Int}
  (eA0:xi*y0+r0+0=a0+18446744073709551616*c0) (eA1:xi*y1+r1+c0=a1+18446744073709551616*c1) (eA2:xi*y2+r2+c1=a2+18446744073709551616*c2) (eA3:xi*y3+r3+c2=a3+18446744073709551616*c3) (eA4:xi*y4+r4+c3=a4+18446744073709551616*c4) (eA5:xi*y5+r5+c4=a5+18446744073709551616*c5)
  (eE:0+c5+0=n6+18446744073709551616*n7) (eQ:q*13402431016077863595+a0=18446744073709551616*d0) (eB1:q*2210141511517208575+a1+d0=b0+18446744073709551616*d1) (eB2:q*7435674573564081700+a2+d1=b1+18446744073709551616*d2) (eB3:q*7239337960414712511+a3+d2=b2+18446744073709551616*d3) (eB4:q*5412103778470702295+a4+d3=b3+18446744073709551616*d4) (eB5:q*1873798617647539866+a5+d4=b4+18446744073709551616*d5)
  (eI:n6+d5+0=b5+18446744073709551616*c6) :
  18446744073709551616*(num6 b0 b1 b2 b3 b4 b5+39402006196394479212279040100143613805079739270465446667948293404245721771497210611414266254884915640806627990306816*(n7+c6))=num6 r0 r1 r2 r3 r4 r5+xi*num6 y0 y1 y2 y3 y4 y5+q*(pN:Int):=by
 rw[num6_mul xi,pN_int]
 have hq:q*4002409555221667393417789825735904156556882819939007885332058136124031650490837864442687629129015664037894272559787=q*13402431016077863595+18446744073709551616*(q*2210141511517208575)+340282366920938463463374607431768211456*(q*7435674573564081700)+6277101735386680763835789423207666416102355444464034512896*(q*7239337960414712511)+115792089237316195423570985008687907853269984665640564039457584007913129639936*(q*5412103778470702295)+2135987035920910082395021706169552114602704522356652769947041607822219725780640550022962086936576*(q*1873798617647539866):=by omega
 rw[hq]
 unfold num6
 generalize xi*y0=z0 at *
 generalize xi*y1=z1 at *
 generalize xi*y2=z2 at *
 generalize xi*y3=z3 at *
 generalize xi*y4=z4 at *
 generalize xi*y5=z5 at *
 generalize q*13402431016077863595=p0 at *
 generalize q*2210141511517208575=p1 at *
 generalize q*7435674573564081700=p2 at *
 generalize q*7239337960414712511=p3 at *
 generalize q*5412103778470702295=p4 at *
 generalize q*1873798617647539866=p5 at *
 omega

theorem topP {b0 b1 b2 b3 b4 b5 t:Int} (h0:Lim6 b0) (h1:Lim6 b1) (h2:Lim6 b2) (h3:Lim6 b3) (h4:Lim6 b4) (h5:Lim6 b5) (ht:0≤t) (h:num6 b0 b1 b2 b3 b4 b5+39402006196394479212279040100143613805079739270465446667948293404245721771497210611414266254884915640806627990306816*t<2*pN):t=0:=by
 rw[pN_int] at h
 obtain ⟨h0,_⟩:=h0
 obtain ⟨h1,_⟩:=h1
 obtain ⟨h2,_⟩:=h2
 obtain ⟨h3,_⟩:=h3
 obtain ⟨h4,_⟩:=h4
 obtain ⟨h5,_⟩:=h5
 unfold num6 at h
 omega

theorem product6_mu (o0 o1 o2 o3 o4 o5:Int) (A Y:Nat) (hA:A<B6) (hY:Y<pN) :
  MuC Tryz.prog 89 0 6 1 (fl6 o0 o1 o2 o3 o4 o5) [u6s (limb A 0) (limb A 1) (limb A 2) (limb A 3) (limb A 4) (limb A 5),u6s (limb Y 0) (limb Y 1) (limb Y 2) (limb Y 3) (limb Y 4) (limb Y 5),mP,.v (.c (.int .u64 9940570264628428797))] (.fl [.ob (.fp (redV (A*Y*pnv)))]):=by
 refine mu_start (fn:=Tryz.f89) (c:=bodyOf Tryz.f89) Tryz.func89 rfl rfl fun x0 a0 hk hm hs=>?_
 have ey:=(limbsOf6 Y (Nat.lt_trans hY (by decide))).1
 have hyr:(Y:Int)<(pN:Int):=by exact_mod_cast hY
 have hin:=@zIn o0 o1 o2 o3 o4 o5 (limb A 0) (limb A 1) (limb A 2) (limb A 3) (limb A 4) (limb A 5) (limb Y 0) (limb Y 1) (limb Y 2) (limb Y 3) (limb Y 4) (limb Y 5)
 have hget:∀i,i<6→List.getD [limb A 0,limb A 1,limb A 2,limb A 3,limb A 4,limb A 5] i 0=limb A i:=by
  intro i hi
  have:i=0∨i=1∨i=2∨i=3∨i=4∨i=5:=by omega
  rcases this with rfl | rfl | rfl | rfl | rfl | rfl<;>rfl
 have hly0:=limb_lim Y 0
 have hly1:=limb_lim Y 1
 have hly2:=limb_lim Y 2
 have hly3:=limb_lim Y 3
 have hly4:=limb_lim Y 4
 have hly5:=limb_lim Y 5
 have hlxx:=fun i=>limb_lim A i
 have hT6:A % 2 ^ (64*6)=A:=Nat.mod_eq_of_lt (by rw[pow6'];exact hA)
 generalize limb A 0=a at *
 generalize limb A 1=b at *
 generalize limb A 2=c at *
 generalize limb A 3=d at *
 generalize limb A 4=e at *
 generalize limb A 5=f at *
 generalize limb Y 0=v0 at *
 generalize limb Y 1=v1 at *
 generalize limb Y 2=v2 at *
 generalize limb Y 3=v3 at *
 generalize limb Y 4=v4 at *
 generalize limb Y 5=v5 at *
 refine hin trivial hs fun ac cY aY hs1=>?_
 refine loop_rule (ι:={ p:Nat×Int×Int×Int×Int×Int×Int×Int×Int // QInv A Y p.1 p.2.1 p.2.2.1 p.2.2.2.1 p.2.2.2.2.1 p.2.2.2.2.2.1 p.2.2.2.2.2.2.1 p.2.2.2.2.2.2.2.1 })
  (fun p=>zS o0 o1 o2 o3 o4 o5 a b c d e f v0 v1 v2 v3 v4 v5 p.1.1 p.1.2.1 p.1.2.2.1 p.1.2.2.2.1 p.1.2.2.2.2.1 p.1.2.2.2.2.2.1 p.1.2.2.2.2.2.2.1 p.1.2.2.2.2.2.2.2.1 p.1.2.2.2.2.2.2.2.2) (fun p=>6-p.1.1) (c:=lpC zIn_k) (k:=lpR zIn_k) (by kernel_rfl) (fun p ih ac cY aY hs=>?_)
  ⟨(0,0,0,0,0,0,0,0,0),⟨by decide,⟨by decide,by decide⟩,⟨by decide,by decide⟩,⟨by decide,by decide⟩,⟨by decide,by decide⟩,⟨by decide,by decide⟩,⟨by decide,by decide⟩,rfl,by decide,0,by simp [num6,Nat.mod_one]⟩⟩ hs1
 obtain ⟨⟨i,r0,r1,r2,r3,r4,r5,r6,r7⟩,hI⟩:=p
 simp only at ih hs hI
 obtain ⟨hi,h0,h1,h2,h3,h4,h5',h6,hlt,Q,hQ⟩:=hI
 subst h6
 by_cases h5:i<6
 ·have hround:=fun T' q hq=>round_eq6 (A:=A) (Y:=Y) (r:=pN) (i:=i) (Q:=Q) (T:=num6 r0 r1 r2 r3 r4 r5) (T' := T') (q:=q) hq hQ
  have hlx:=hlxx i
  refine sQA0 o0 o1 o2 o3 o4 o5 a b c d e f v0 v1 v2 v3 v4 v5 i h5 (hget i h5) hlx hly0 h0 hs fun a0 c0 eA0 la0 lc0 ac cY aY hs=>?_
  refine sQA1 o0 o1 o2 o3 o4 o5 a b c d e f v0 v1 v2 v3 v4 v5 i hlx hly1 h1 lc0 hs fun a1 c1 eA1 la1 lc1 ac cY aY hs=>?_
  refine sQA2 o0 o1 o2 o3 o4 o5 a b c d e f v0 v1 v2 v3 v4 v5 i hlx hly2 h2 lc1 hs fun a2 c2 eA2 la2 lc2 ac cY aY hs=>?_
  refine sQA3 o0 o1 o2 o3 o4 o5 a b c d e f v0 v1 v2 v3 v4 v5 i hlx hly3 h3 lc2 hs fun a3 c3 eA3 la3 lc3 ac cY aY hs=>?_
  refine sQA4 o0 o1 o2 o3 o4 o5 a b c d e f v0 v1 v2 v3 v4 v5 i hlx hly4 h4 lc3 hs fun a4 c4 eA4 la4 lc4 ac cY aY hs=>?_
  refine sQA5 o0 o1 o2 o3 o4 o5 a b c d e f v0 v1 v2 v3 v4 v5 i hlx hly5 h5' lc4 hs fun a5 c5 eA5 la5 lc5 ac cY aY hs=>?_
  refine sQE o0 o1 o2 o3 o4 o5 a b c d e f v0 v1 v2 v3 v4 v5 i la0 ⟨by decide,by decide⟩ lc5 hs fun q d0 n6 n7 eE eQ ln6 n70 n71 lq ld0 ac cY aY hs=>?_
  refine sQB1 o0 o1 o2 o3 o4 o5 a b c d e f v0 v1 v2 v3 v4 v5 i lq la1 ld0 hs fun b0 d1 eB1 lb0 ld1 ac cY aY hs=>?_
  refine sQB2 o0 o1 o2 o3 o4 o5 a b c d e f v0 v1 v2 v3 v4 v5 i lq la2 ld1 hs fun b1 d2 eB2 lb1 ld2 ac cY aY hs=>?_
  refine sQB3 o0 o1 o2 o3 o4 o5 a b c d e f v0 v1 v2 v3 v4 v5 i lq la3 ld2 hs fun b2 d3 eB3 lb2 ld3 ac cY aY hs=>?_
  refine sQB4 o0 o1 o2 o3 o4 o5 a b c d e f v0 v1 v2 v3 v4 v5 i lq la4 ld3 hs fun b3 d4 eB4 lb3 ld4 ac cY aY hs=>?_
  refine sQB5 o0 o1 o2 o3 o4 o5 a b c d e f v0 v1 v2 v3 v4 v5 i lq la5 ld4 hs fun b4 d5 eB5 lb4 ld5 ac cY aY hs=>?_
  refine sQI o0 o1 o2 o3 o4 o5 a b c d e f v0 v1 v2 v3 v4 v5 i h5 ln6 ld5 hs fun b5 c6 eI lb5 c60 c61 ac cY aY hs=>?_
  have hall:=roundP eA0 eA1 eA2 eA3 eA4 eA5 eE eQ eB1 eB2 eB3 eB4 eB5 eI
  rw[←ey] at hall
  have hlt' := small6 hlt (by have:=hlx.2;omega) hyr (by omega) lq.2 hall
  have htop:=topP lb0 lb1 lb2 lb3 lb4 lb5 (by omega) hlt'
  rw[htop,Int.mul_zero,Int.add_zero] at hall hlt'
  rw[htop] at hs
  exact ih ⟨(i+1,b0,b1,b2,b3,b4,b5,wrap IntKind.u64 0,n7),⟨h5,lb0,lb1,lb2,lb3,lb4,lb5,rfl,hlt',hround _ q lq.1 hall⟩⟩ (by show 6-(i+1)<6-i;omega) ac cY aY hs
 ·have hi6:i=6:=by omega
  subst hi6
  have hT:0≤num6 r0 r1 r2 r3 r4 r5:=num6_pos h0.1 h1.1 h2.1 h3.1 h4.1 h5'.1
  rw[hT6] at hQ
  have hb6:(2 ^ (64*6):Nat)=B6:=pow6'
  rw[hb6] at hQ
  have hlast:=last_eq6 hT hQ
  have hred:redV (num6 r0 r1 r2 r3 r4 r5).toNat=redV (A*Y*pnv):=redV_congr (out_abs6 pnv_B6 hlast)
  rw[←hred]
  refine mu_end qeD_ok hk hm (zX o0 o1 o2 o3 o4 o5 a b c d e f v0 v1 v2 v3 v4 v5 6 r0 r1 r2 r3 r4 r5 0 r7) rfl ?_ (fun y cs h=>h) (.inl ⟨_,_,rfl,rfl⟩) hs
  refine ⟨by decide,by decide,by decide,by decide,by decide,h0,h1,h2,h3,h4,h5',hlt,rfl,rfl,rfl,rfl,rfl,rfl,rfl,trivial⟩

end

section

theorem MuC.pre {P:Program} {f off len es:Nat} {e1 e2 e' : En} {rest:List SV} (h:MuC P f off len es e2 rest e') (hl:∃l l',e1 = .fl l∧e2 = .fl l') (hd:∀x cs,denEn x e1 cs→denEn x e2 cs):MuC P f off len es e1 rest e' := by
 intro x vs hk hm hden
 obtain ⟨l,l',rfl,rfl⟩:=hl
 refine h x vs hk ⟨fun p=>?_,fun p r hp=>?_,fun p q hp hn=>?_,fun p e hp hr=>?_,hm.inj,hm.own,hm.fw⟩ hden
 ·rw[←hm.dom p]
  by_cases h0:p=0<;>simp [one,h0]
 ·by_cases h0:p=0
  ·subst h0;exact hm.fl 0 l rfl
  ·simp [one,h0] at hp
 ·by_cases h0:p=0
  ·subst h0;simp [one] at hp
  ·simp [one,h0] at hp
 ·by_cases h0:p=0
  ·subst h0
   simp only[one,if_true,Option.some.injEq] at hp
   subst hp
   obtain ⟨cs,ty,hc,hdd⟩:=hm.ent 0 _ rfl hr
   exact ⟨cs,ty,hc,hd _ _ hdd⟩
  ·simp [one,h0] at hp

def prodE6 (a b c d e f y0 y1 y2 y3 y4 y5:Int):En:=.fl [.ob (.fp (redV ((num6 a b c d e f).toNat*(num6 y0 y1 y2 y3 y4 y5).toNat*pnv)))]
def prodSpec6:MuS:=fun off len es e rest=>
 match off,len,es,e,rest with
 | 0,6,1,.fl [.ob (.p _)],[.v (.c (.sl (.u64 [a,b,c,d,e,f]))),.v (.c (.sl (.u64 [y0,y1,y2,y3,y4,y5]))),.v (.c (.sl (.u64 [m0,m1,m2,m3,m4,m5]))),.v (.c (.int .u64 neg))]=>
  some ([Lim6 a,Lim6 b,Lim6 c,Lim6 d,Lim6 e,Lim6 f,Lim6 y0,Lim6 y1,Lim6 y2,Lim6 y3,Lim6 y4,Lim6 y5,num6 y0 y1 y2 y3 y4 y5<pN,neg=9940570264628428797,m0=13402431016077863595,m1=2210141511517208575,m2=7435674573564081700,m3=7239337960414712511,m4=5412103778470702295,m5=1873798617647539866],prodE6 a b c d e f y0 y1 y2 y3 y4 y5)
 | 0,6,1,.fl [.ob (.fp _)],[.v (.c (.sl (.u64 [a,b,c,d,e,f]))),.v (.c (.sl (.u64 [y0,y1,y2,y3,y4,y5]))),.v (.c (.sl (.u64 [m0,m1,m2,m3,m4,m5]))),.v (.c (.int .u64 neg))]=>
  some ([Lim6 a,Lim6 b,Lim6 c,Lim6 d,Lim6 e,Lim6 f,Lim6 y0,Lim6 y1,Lim6 y2,Lim6 y3,Lim6 y4,Lim6 y5,num6 y0 y1 y2 y3 y4 y5<pN,neg=9940570264628428797,m0=13402431016077863595,m1=2210141511517208575,m2=7435674573564081700,m3=7239337960414712511,m4=5412103778470702295,m5=1873798617647539866],prodE6 a b c d e f y0 y1 y2 y3 y4 y5)
 | _,_,_,_,_=>none

theorem prod_use6 {o:Ob} (hk:o.k=6) {a b c d e f y0 y1 y2 y3 y4 y5 neg m0 m1 m2 m3 m4 m5:Int}
  (ho:AllP [Lim6 a,Lim6 b,Lim6 c,Lim6 d,Lim6 e,Lim6 f,Lim6 y0,Lim6 y1,Lim6 y2,Lim6 y3,Lim6 y4,Lim6 y5,num6 y0 y1 y2 y3 y4 y5<pN,neg=9940570264628428797,m0=13402431016077863595,m1=2210141511517208575,m2=7435674573564081700,m3=7239337960414712511,m4=5412103778470702295,m5=1873798617647539866]) :
  MuC Tryz.prog 89 0 6 1 (.fl [.ob o]) [.v (.c (.sl (.u64 [a,b,c,d,e,f]))),.v (.c (.sl (.u64 [y0,y1,y2,y3,y4,y5]))),.v (.c (.sl (.u64 [m0,m1,m2,m3,m4,m5]))),.v (.c (.int .u64 neg))] (prodE6 a b c d e f y0 y1 y2 y3 y4 y5):=by
 obtain ⟨h1,h2,h3,h4,h5,h6,h7,h8,h9,h10,h11,h12,h13,rfl,rfl,rfl,rfl,rfl,rfl,rfl,_⟩:=ho
 obtain ⟨A,hA,eA,rfl,rfl,rfl,rfl,rfl,rfl⟩:=num6_nat h1 h2 h3 h4 h5 h6
 obtain ⟨Y,hY,eY,rfl,rfl,rfl,rfl,rfl,rfl⟩:=num6_nat h7 h8 h9 h10 h11 h12
 refine MuC.pre (e2:=fl6 (limb o.n 0) (limb o.n 1) (limb o.n 2) (limb o.n 3) (limb o.n 4) (limb o.n 5)) ?_ ⟨_,_,rfl,rfl⟩ fun x cs h=>ob_ints6 hk h
 unfold prodE6
 rw[eA,eY,Int.toNat_natCast,Int.toNat_natCast]
 rw[eY] at h13
 exact product6_mu _ _ _ _ _ _ A Y hA (by exact_mod_cast h13)

def qeE:Env:={ qeD with mu:=fun g=>if g=89 then some (mu1 prodSpec6) else qeD.mu g }
theorem qeE_ok:EnvOk Tryz.prog qeE:=
 env_mu qeD_ok 89 prodSpec6 (enters_of Tryz.func89 rfl rfl) fun off len es e rest o e' h ho _ _=>by
  unfold prodSpec6 at h
  split at h
  ·cases h;exact prod_use6 rfl ho
  ·cases h;exact prod_use6 rfl ho
  ·cases h

--@env qeE qeE_ok
theorem inP0 (x:U6):fnRes qeE Tryz.f78 3000 [.v (.a [.ob (.fp x)])] [] [] []=(some ([(Lim6 (limb (Ob.n (.fp x)) 0)),(Lim6 (limb (Ob.n (.fp x)) 1)),(Lim6 (limb (Ob.n (.fp x)) 2)),(Lim6 (limb (Ob.n (.fp x)) 3)),(Lim6 (limb (Ob.n (.fp x)) 4)),(Lim6 (limb (Ob.n (.fp x)) 5)),(Lim6 (17644856173732828998:Int)),(Lim6 (754043588434789617:Int)),(Lim6 (10224657059481499349:Int)),(Lim6 (7488229067341005760:Int)),(Lim6 (11130996698012816685:Int)),(Lim6 (1267921511277847466:Int)),((2708263910654730174793787626328176511836455197166317677006154293982164122222515399004018013397331347120527951271750:Int)<(4002409555221667393417789825735904156556882819939007885332058136124031650490837864442687629129015664037894272559787:Int)),((9940570264628428797:Int)=(9940570264628428797:Int)),((13402431016077863595:Int)=(13402431016077863595:Int)),((2210141511517208575:Int)=(2210141511517208575:Int)),((7435674573564081700:Int)=(7435674573564081700:Int)),((7239337960414712511:Int)=(7239337960414712511:Int)),((5412103778470702295:Int)=(5412103778470702295:Int)),((1873798617647539866:Int)=(1873798617647539866:Int))],((.v (.a [(.ob (.fp (redV ((((num6 (limb (Ob.n (.fp x)) 0) (limb (Ob.n (.fp x)) 1) (limb (Ob.n (.fp x)) 2) (limb (Ob.n (.fp x)) 3) (limb (Ob.n (.fp x)) 4) (limb (Ob.n (.fp x)) 5))).toNat*2708263910654730174793787626328176511836455197166317677006154293982164122222515399004018013397331347120527951271750)*pnv))))])),[]))):=by kernel_rfl
theorem outP0 (x:Fp):fnRes qeE Tryz.f76 3000 [.v (.a [.ob (.p x)])] [] [] []=(some ([(Lim6 (limb (Ob.n (.p x)) 0)),(Lim6 (limb (Ob.n (.p x)) 1)),(Lim6 (limb (Ob.n (.p x)) 2)),(Lim6 (limb (Ob.n (.p x)) 3)),(Lim6 (limb (Ob.n (.p x)) 4)),(Lim6 (limb (Ob.n (.p x)) 5)),(Lim6 (1:Int)),(Lim6 (0:Int)),(Lim6 (0:Int)),(Lim6 (0:Int)),(Lim6 (0:Int)),(Lim6 (0:Int)),((1:Int)<(4002409555221667393417789825735904156556882819939007885332058136124031650490837864442687629129015664037894272559787:Int)),((9940570264628428797:Int)=(9940570264628428797:Int)),((13402431016077863595:Int)=(13402431016077863595:Int)),((2210141511517208575:Int)=(2210141511517208575:Int)),((7435674573564081700:Int)=(7435674573564081700:Int)),((7239337960414712511:Int)=(7239337960414712511:Int)),((5412103778470702295:Int)=(5412103778470702295:Int)),((1873798617647539866:Int)=(1873798617647539866:Int))],((.v (.a [(.ob (.fp (redV ((((num6 (limb (Ob.n (.p x)) 0) (limb (Ob.n (.p x)) 1) (limb (Ob.n (.p x)) 2) (limb (Ob.n (.p x)) 3) (limb (Ob.n (.p x)) 4) (limb (Ob.n (.p x)) 5))).toNat*1)*pnv))))])),[]))):=by kernel_rfl
end

section

/-- A number, taken modulo p; an element as a number. -/
def inP (a:U6):Fp:=Fin.ofNat pN a.val
def outP (x:Fp):U6:=Fin.ofNat B6 x.val
theorem outP_val (x:Fp):(outP x).val=x.val:=Nat.mod_eq_of_lt (Nat.lt_trans x.isLt (by decide))

theorem lims_of6 {n:Nat} (h:n<B6):(num6 (limb n 0) (limb n 1) (limb n 2) (limb n 3) (limb n 4) (limb n 5)).toNat=n:=by
 have e:=(limbsOf6 n h).1
 rw[←e]
 exact Int.toNat_natCast n

theorem inP_abs {r B v s a:Nat} (e:v*B % r=1 % r) (hs:s % r=B*B % r):a*s*v % r=(a % r)*B % r:=by
  have h2:∀a:Nat,a*(v*B) % r=a % r:=fun a=>by rw[←Nat.mul_mod_mod,e,Nat.mul_mod_mod,Nat.mul_one]
  calc a*s*v % r=(a*v)*s % r:=by congr 1;simp only[Nat.mul_comm,Nat.mul_left_comm]
    _=(a*v)*(B*B) % r:=by rw[←Nat.mul_mod_mod,hs,Nat.mul_mod_mod]
    _=(a*B)*(v*B) % r:=by congr 1;simp only[Nat.mul_comm,Nat.mul_left_comm]
    _=a*B % r:=h2 _
    _=(a % r)*B % r:=by rw[Nat.mod_mul_mod]

theorem sq_B6:2708263910654730174793787626328176511836455197166317677006154293982164122222515399004018013397331347120527951271750 % pN=B6*B6 % pN:=by kernel_rfl

theorem inP_fnd (a:U6):FnD Tryz.prog 78 [.v (.a [.ob (.fp a)])] (.v (.a [.ob (.p (inP a))])) []:=by
 have hn:=lims_of6 a.isLt
 have hl:=fun i=>limb_lim a.val i
 refine (fn_sound qeE_ok Tryz.func78 (inP0 a) ?_).conv (fun _ _ h=>h) fun y v hd=>?_
 ·exact ⟨hl 0,hl 1,hl 2,hl 3,hl 4,hl 5,⟨by decide,by decide⟩,⟨by decide,by decide⟩,⟨by decide,by decide⟩,⟨by decide,by decide⟩,⟨by decide,by decide⟩,⟨by decide,by decide⟩,by decide,rfl,rfl,rfl,rfl,rfl,rfl,rfl,trivial⟩
 ·refine ob_ob (o:=.fp (redV _)) (o' := .p (inP a)) rfl ?_ hd
  show (redV _).val=_
  rw[redV_val]
  have hn:(num6 (limb (Ob.n (Ob.fp a)) 0) (limb (Ob.n (Ob.fp a)) 1) (limb (Ob.n (Ob.fp a)) 2) (limb (Ob.n (Ob.fp a)) 3) (limb (Ob.n (Ob.fp a)) 4) (limb (Ob.n (Ob.fp a)) 5)).toNat=a.val:=hn
  rw[hn]
  exact inP_abs pnv_B6 sq_B6

theorem outP_one {r B v x:Nat} (e:v*B % r=1 % r):(x*B % r)*1*v % r=x % r:=by
 rw[Nat.mul_one,Nat.mod_mul_mod,Nat.mul_assoc,Nat.mul_comm B,←Nat.mul_mod_mod,e,Nat.mul_mod_mod,Nat.mul_one]

theorem outP_fnd (x:Fp):FnD Tryz.prog 76 [.v (.a [.ob (.p x)])] (.v (.a [.ob (.fp (outP x))])) []:=by
 have hn:=lims_of6 (n:=(Ob.p x).n) (Nat.lt_trans (p_lt x) (by decide))
 have hl:=fun i=>limb_lim (Ob.p x).n i
 refine (fn_sound qeE_ok Tryz.func76 (outP0 x) ?_).conv (fun _ _ h=>h) fun y v hd=>?_
 ·exact ⟨hl 0,hl 1,hl 2,hl 3,hl 4,hl 5,⟨by decide,by decide⟩,⟨by decide,by decide⟩,⟨by decide,by decide⟩,⟨by decide,by decide⟩,⟨by decide,by decide⟩,⟨by decide,by decide⟩,by decide,rfl,rfl,rfl,rfl,rfl,rfl,rfl,trivial⟩
 ·refine ob_ob (o:=.fp (redV _)) (o' := .fp (outP x)) (Eq.refl 6) ?_ hd
  show (redV _).val=(outP x).val
  rw[redV_val,hn,outP_val]
  have e:(Ob.p x).n=x.val*B6 % pN:=rfl
  rw[e,outP_one pnv_B6]
  exact Nat.mod_eq_of_lt x.isLt

end

section

--@env qeE qeE_ok
theorem plusP0 (x y:Fp):fnRes qeE Tryz.f106 3000 [.v (.a [.ob (.p x)]),.v (.a [.ob (.p y)])] [] [] []=(some ([(0≤(0:Int)),(0<(6:Int)),(0<(Ob.k (.p x))),(0≤(0:Int)),(0<(6:Int)),(0<(Ob.k (.p y))),(0≤(limb (Ob.n (.p x)) 0)),(0≤(limb (Ob.n (.p y)) 0)),((limb (Ob.n (.p y)) 0)<(18446744073709551616:Int)),(0≤(0:Int)),(0≤(1:Int)),(0≤(0:Int)),(0<(6:Int)),(0≤(1:Int)),((1:Int)<(6:Int)),(1<(Ob.k (.p x))),(0≤(1:Int)),((1:Int)<(6:Int)),(1<(Ob.k (.p y))),(0≤(limb (Ob.n (.p x)) 1)),(0≤(limb (Ob.n (.p y)) 1)),((limb (Ob.n (.p y)) 1)<(18446744073709551616:Int)),(0≤(Prod.snd (exOut 0 (limb (Ob.n (.p x)) 0) (limb (Ob.n (.p y)) 0) (0:Int)))),((Prod.snd (exOut 0 (limb (Ob.n (.p x)) 0) (limb (Ob.n (.p y)) 0) (0:Int)))≤(1:Int)),(0≤(1:Int)),((1:Int)<(6:Int)),(0≤(2:Int)),((2:Int)<(6:Int)),(2<(Ob.k (.p x))),(0≤(2:Int)),((2:Int)<(6:Int)),(2<(Ob.k (.p y))),(0≤(limb (Ob.n (.p x)) 2)),(0≤(limb (Ob.n (.p y)) 2)),((limb (Ob.n (.p y)) 2)<(18446744073709551616:Int)),(0≤(Prod.snd (exOut 0 (limb (Ob.n (.p x)) 1) (limb (Ob.n (.p y)) 1) (Prod.snd (exOut 0 (limb (Ob.n (.p x)) 0) (limb (Ob.n (.p y)) 0) (0:Int)))))),((Prod.snd (exOut 0 (limb (Ob.n (.p x)) 1) (limb (Ob.n (.p y)) 1) (Prod.snd (exOut 0 (limb (Ob.n (.p x)) 0) (limb (Ob.n (.p y)) 0) (0:Int)))))≤(1:Int)),(0≤(2:Int)),((2:Int)<(6:Int)),(0≤(3:Int)),((3:Int)<(6:Int)),(3<(Ob.k (.p x))),(0≤(3:Int)),((3:Int)<(6:Int)),(3<(Ob.k (.p y))),(0≤(limb (Ob.n (.p x)) 3)),(0≤(limb (Ob.n (.p y)) 3)),((limb (Ob.n (.p y)) 3)<(18446744073709551616:Int)),(0≤(Prod.snd (exOut 0 (limb (Ob.n (.p x)) 2) (limb (Ob.n (.p y)) 2) (Prod.snd (exOut 0 (limb (Ob.n (.p x)) 1) (limb (Ob.n (.p y)) 1) (Prod.snd (exOut 0 (limb (Ob.n (.p x)) 0) (limb (Ob.n (.p y)) 0) (0:Int)))))))),((Prod.snd (exOut 0 (limb (Ob.n (.p x)) 2) (limb (Ob.n (.p y)) 2) (Prod.snd (exOut 0 (limb (Ob.n (.p x)) 1) (limb (Ob.n (.p y)) 1) (Prod.snd (exOut 0 (limb (Ob.n (.p x)) 0) (limb (Ob.n (.p y)) 0) (0:Int)))))))≤(1:Int)),(0≤(3:Int)),((3:Int)<(6:Int)),(0≤(4:Int)),((4:Int)<(6:Int)),(4<(Ob.k (.p x))),(0≤(4:Int)),((4:Int)<(6:Int)),(4<(Ob.k (.p y))),(0≤(limb (Ob.n (.p x)) 4)),(0≤(limb (Ob.n (.p y)) 4)),((limb (Ob.n (.p y)) 4)<(18446744073709551616:Int)),(0≤(Prod.snd (exOut 0 (limb (Ob.n (.p x)) 3) (limb (Ob.n (.p y)) 3) (Prod.snd (exOut 0 (limb (Ob.n (.p x)) 2) (limb (Ob.n (.p y)) 2) (Prod.snd (exOut 0 (limb (Ob.n (.p x)) 1) (limb (Ob.n (.p y)) 1) (Prod.snd (exOut 0 (limb (Ob.n (.p x)) 0) (limb (Ob.n (.p y)) 0) (0:Int)))))))))),((Prod.snd (exOut 0 (limb (Ob.n (.p x)) 3) (limb (Ob.n (.p y)) 3) (Prod.snd (exOut 0 (limb (Ob.n (.p x)) 2) (limb (Ob.n (.p y)) 2) (Prod.snd (exOut 0 (limb (Ob.n (.p x)) 1) (limb (Ob.n (.p y)) 1) (Prod.snd (exOut 0 (limb (Ob.n (.p x)) 0) (limb (Ob.n (.p y)) 0) (0:Int)))))))))≤(1:Int)),(0≤(4:Int)),((4:Int)<(6:Int)),(0≤(5:Int)),((5:Int)<(6:Int)),(5<(Ob.k (.p x))),(0≤(5:Int)),((5:Int)<(6:Int)),(5<(Ob.k (.p y))),(0≤(limb (Ob.n (.p x)) 5)),(0≤(limb (Ob.n (.p y)) 5)),((limb (Ob.n (.p y)) 5)<(18446744073709551616:Int)),(0≤(Prod.snd (exOut 0 (limb (Ob.n (.p x)) 4) (limb (Ob.n (.p y)) 4) (Prod.snd (exOut 0 (limb (Ob.n (.p x)) 3) (limb (Ob.n (.p y)) 3) (Prod.snd (exOut 0 (limb (Ob.n (.p x)) 2) (limb (Ob.n (.p y)) 2) (Prod.snd (exOut 0 (limb (Ob.n (.p x)) 1) (limb (Ob.n (.p y)) 1) (Prod.snd (exOut 0 (limb (Ob.n (.p x)) 0) (limb (Ob.n (.p y)) 0) (0:Int)))))))))))),((Prod.snd (exOut 0 (limb (Ob.n (.p x)) 4) (limb (Ob.n (.p y)) 4) (Prod.snd (exOut 0 (limb (Ob.n (.p x)) 3) (limb (Ob.n (.p y)) 3) (Prod.snd (exOut 0 (limb (Ob.n (.p x)) 2) (limb (Ob.n (.p y)) 2) (Prod.snd (exOut 0 (limb (Ob.n (.p x)) 1) (limb (Ob.n (.p y)) 1) (Prod.snd (exOut 0 (limb (Ob.n (.p x)) 0) (limb (Ob.n (.p y)) 0) (0:Int)))))))))))≤(1:Int)),(0≤(5:Int)),((5:Int)<(6:Int)),(0≤(Prod.fst (exOut 0 (limb (Ob.n (.p x)) 0) (limb (Ob.n (.p y)) 0) (0:Int)))),((Prod.fst (exOut 0 (limb (Ob.n (.p x)) 0) (limb (Ob.n (.p y)) 0) (0:Int)))<(18446744073709551616:Int)),(0≤(Prod.fst (exOut 0 (limb (Ob.n (.p x)) 1) (limb (Ob.n (.p y)) 1) (Prod.snd (exOut 0 (limb (Ob.n (.p x)) 0) (limb (Ob.n (.p y)) 0) (0:Int)))))),((Prod.fst (exOut 0 (limb (Ob.n (.p x)) 1) (limb (Ob.n (.p y)) 1) (Prod.snd (exOut 0 (limb (Ob.n (.p x)) 0) (limb (Ob.n (.p y)) 0) (0:Int)))))<(18446744073709551616:Int)),(0≤(Prod.fst (exOut 0 (limb (Ob.n (.p x)) 2) (limb (Ob.n (.p y)) 2) (Prod.snd (exOut 0 (limb (Ob.n (.p x)) 1) (limb (Ob.n (.p y)) 1) (Prod.snd (exOut 0 (limb (Ob.n (.p x)) 0) (limb (Ob.n (.p y)) 0) (0:Int)))))))),((Prod.fst (exOut 0 (limb (Ob.n (.p x)) 2) (limb (Ob.n (.p y)) 2) (Prod.snd (exOut 0 (limb (Ob.n (.p x)) 1) (limb (Ob.n (.p y)) 1) (Prod.snd (exOut 0 (limb (Ob.n (.p x)) 0) (limb (Ob.n (.p y)) 0) (0:Int)))))))<(18446744073709551616:Int)),(0≤(Prod.fst (exOut 0 (limb (Ob.n (.p x)) 3) (limb (Ob.n (.p y)) 3) (Prod.snd (exOut 0 (limb (Ob.n (.p x)) 2) (limb (Ob.n (.p y)) 2) (Prod.snd (exOut 0 (limb (Ob.n (.p x)) 1) (limb (Ob.n (.p y)) 1) (Prod.snd (exOut 0 (limb (Ob.n (.p x)) 0) (limb (Ob.n (.p y)) 0) (0:Int)))))))))),((Prod.fst (exOut 0 (limb (Ob.n (.p x)) 3) (limb (Ob.n (.p y)) 3) (Prod.snd (exOut 0 (limb (Ob.n (.p x)) 2) (limb (Ob.n (.p y)) 2) (Prod.snd (exOut 0 (limb (Ob.n (.p x)) 1) (limb (Ob.n (.p y)) 1) (Prod.snd (exOut 0 (limb (Ob.n (.p x)) 0) (limb (Ob.n (.p y)) 0) (0:Int)))))))))<(18446744073709551616:Int)),(0≤(Prod.fst (exOut 0 (limb (Ob.n (.p x)) 4) (limb (Ob.n (.p y)) 4) (Prod.snd (exOut 0 (limb (Ob.n (.p x)) 3) (limb (Ob.n (.p y)) 3) (Prod.snd (exOut 0 (limb (Ob.n (.p x)) 2) (limb (Ob.n (.p y)) 2) (Prod.snd (exOut 0 (limb (Ob.n (.p x)) 1) (limb (Ob.n (.p y)) 1) (Prod.snd (exOut 0 (limb (Ob.n (.p x)) 0) (limb (Ob.n (.p y)) 0) (0:Int)))))))))))),((Prod.fst (exOut 0 (limb (Ob.n (.p x)) 4) (limb (Ob.n (.p y)) 4) (Prod.snd (exOut 0 (limb (Ob.n (.p x)) 3) (limb (Ob.n (.p y)) 3) (Prod.snd (exOut 0 (limb (Ob.n (.p x)) 2) (limb (Ob.n (.p y)) 2) (Prod.snd (exOut 0 (limb (Ob.n (.p x)) 1) (limb (Ob.n (.p y)) 1) (Prod.snd (exOut 0 (limb (Ob.n (.p x)) 0) (limb (Ob.n (.p y)) 0) (0:Int)))))))))))<(18446744073709551616:Int)),(0≤(Prod.fst (exOut 0 (limb (Ob.n (.p x)) 5) (limb (Ob.n (.p y)) 5) (Prod.snd (exOut 0 (limb (Ob.n (.p x)) 4) (limb (Ob.n (.p y)) 4) (Prod.snd (exOut 0 (limb (Ob.n (.p x)) 3) (limb (Ob.n (.p y)) 3) (Prod.snd (exOut 0 (limb (Ob.n (.p x)) 2) (limb (Ob.n (.p y)) 2) (Prod.snd (exOut 0 (limb (Ob.n (.p x)) 1) (limb (Ob.n (.p y)) 1) (Prod.snd (exOut 0 (limb (Ob.n (.p x)) 0) (limb (Ob.n (.p y)) 0) (0:Int)))))))))))))),((Prod.fst (exOut 0 (limb (Ob.n (.p x)) 5) (limb (Ob.n (.p y)) 5) (Prod.snd (exOut 0 (limb (Ob.n (.p x)) 4) (limb (Ob.n (.p y)) 4) (Prod.snd (exOut 0 (limb (Ob.n (.p x)) 3) (limb (Ob.n (.p y)) 3) (Prod.snd (exOut 0 (limb (Ob.n (.p x)) 2) (limb (Ob.n (.p y)) 2) (Prod.snd (exOut 0 (limb (Ob.n (.p x)) 1) (limb (Ob.n (.p y)) 1) (Prod.snd (exOut 0 (limb (Ob.n (.p x)) 0) (limb (Ob.n (.p y)) 0) (0:Int)))))))))))))<(18446744073709551616:Int)),((num6 (Prod.fst (exOut 0 (limb (Ob.n (.p x)) 0) (limb (Ob.n (.p y)) 0) (0:Int))) (Prod.fst (exOut 0 (limb (Ob.n (.p x)) 1) (limb (Ob.n (.p y)) 1) (Prod.snd (exOut 0 (limb (Ob.n (.p x)) 0) (limb (Ob.n (.p y)) 0) (0:Int))))) (Prod.fst (exOut 0 (limb (Ob.n (.p x)) 2) (limb (Ob.n (.p y)) 2) (Prod.snd (exOut 0 (limb (Ob.n (.p x)) 1) (limb (Ob.n (.p y)) 1) (Prod.snd (exOut 0 (limb (Ob.n (.p x)) 0) (limb (Ob.n (.p y)) 0) (0:Int))))))) (Prod.fst (exOut 0 (limb (Ob.n (.p x)) 3) (limb (Ob.n (.p y)) 3) (Prod.snd (exOut 0 (limb (Ob.n (.p x)) 2) (limb (Ob.n (.p y)) 2) (Prod.snd (exOut 0 (limb (Ob.n (.p x)) 1) (limb (Ob.n (.p y)) 1) (Prod.snd (exOut 0 (limb (Ob.n (.p x)) 0) (limb (Ob.n (.p y)) 0) (0:Int))))))))) (Prod.fst (exOut 0 (limb (Ob.n (.p x)) 4) (limb (Ob.n (.p y)) 4) (Prod.snd (exOut 0 (limb (Ob.n (.p x)) 3) (limb (Ob.n (.p y)) 3) (Prod.snd (exOut 0 (limb (Ob.n (.p x)) 2) (limb (Ob.n (.p y)) 2) (Prod.snd (exOut 0 (limb (Ob.n (.p x)) 1) (limb (Ob.n (.p y)) 1) (Prod.snd (exOut 0 (limb (Ob.n (.p x)) 0) (limb (Ob.n (.p y)) 0) (0:Int))))))))))) (Prod.fst (exOut 0 (limb (Ob.n (.p x)) 5) (limb (Ob.n (.p y)) 5) (Prod.snd (exOut 0 (limb (Ob.n (.p x)) 4) (limb (Ob.n (.p y)) 4) (Prod.snd (exOut 0 (limb (Ob.n (.p x)) 3) (limb (Ob.n (.p y)) 3) (Prod.snd (exOut 0 (limb (Ob.n (.p x)) 2) (limb (Ob.n (.p y)) 2) (Prod.snd (exOut 0 (limb (Ob.n (.p x)) 1) (limb (Ob.n (.p y)) 1) (Prod.snd (exOut 0 (limb (Ob.n (.p x)) 0) (limb (Ob.n (.p y)) 0) (0:Int))))))))))))))<(8004819110443334786835579651471808313113765639878015770664116272248063300981675728885375258258031328075788545119574:Int))],((.v (.a [(.ob (.p (redQ ((num6 (Prod.fst (exOut 0 (limb (Ob.n (.p x)) 0) (limb (Ob.n (.p y)) 0) (0:Int))) (Prod.fst (exOut 0 (limb (Ob.n (.p x)) 1) (limb (Ob.n (.p y)) 1) (Prod.snd (exOut 0 (limb (Ob.n (.p x)) 0) (limb (Ob.n (.p y)) 0) (0:Int))))) (Prod.fst (exOut 0 (limb (Ob.n (.p x)) 2) (limb (Ob.n (.p y)) 2) (Prod.snd (exOut 0 (limb (Ob.n (.p x)) 1) (limb (Ob.n (.p y)) 1) (Prod.snd (exOut 0 (limb (Ob.n (.p x)) 0) (limb (Ob.n (.p y)) 0) (0:Int))))))) (Prod.fst (exOut 0 (limb (Ob.n (.p x)) 3) (limb (Ob.n (.p y)) 3) (Prod.snd (exOut 0 (limb (Ob.n (.p x)) 2) (limb (Ob.n (.p y)) 2) (Prod.snd (exOut 0 (limb (Ob.n (.p x)) 1) (limb (Ob.n (.p y)) 1) (Prod.snd (exOut 0 (limb (Ob.n (.p x)) 0) (limb (Ob.n (.p y)) 0) (0:Int))))))))) (Prod.fst (exOut 0 (limb (Ob.n (.p x)) 4) (limb (Ob.n (.p y)) 4) (Prod.snd (exOut 0 (limb (Ob.n (.p x)) 3) (limb (Ob.n (.p y)) 3) (Prod.snd (exOut 0 (limb (Ob.n (.p x)) 2) (limb (Ob.n (.p y)) 2) (Prod.snd (exOut 0 (limb (Ob.n (.p x)) 1) (limb (Ob.n (.p y)) 1) (Prod.snd (exOut 0 (limb (Ob.n (.p x)) 0) (limb (Ob.n (.p y)) 0) (0:Int))))))))))) (Prod.fst (exOut 0 (limb (Ob.n (.p x)) 5) (limb (Ob.n (.p y)) 5) (Prod.snd (exOut 0 (limb (Ob.n (.p x)) 4) (limb (Ob.n (.p y)) 4) (Prod.snd (exOut 0 (limb (Ob.n (.p x)) 3) (limb (Ob.n (.p y)) 3) (Prod.snd (exOut 0 (limb (Ob.n (.p x)) 2) (limb (Ob.n (.p y)) 2) (Prod.snd (exOut 0 (limb (Ob.n (.p x)) 1) (limb (Ob.n (.p y)) 1) (Prod.snd (exOut 0 (limb (Ob.n (.p x)) 0) (limb (Ob.n (.p y)) 0) (0:Int))))))))))))))).toNat)))])),[]))):=by kernel_rfl
theorem minusP0 (x y:Fp):fnRes qeE Tryz.f132 3000 [.v (.a [.ob (.p x)]),.v (.a [.ob (.p y)])] [true] [] []=(some ([(0≤(0:Int)),(0<(6:Int)),(0<(Ob.k (.p x))),(0≤(0:Int)),(0<(6:Int)),(0<(Ob.k (.p y))),(0≤(limb (Ob.n (.p x)) 0)),(0≤(limb (Ob.n (.p y)) 0)),((limb (Ob.n (.p y)) 0)<(18446744073709551616:Int)),(0≤(0:Int)),(0≤(1:Int)),(0≤(0:Int)),(0<(6:Int)),(0≤(1:Int)),((1:Int)<(6:Int)),(1<(Ob.k (.p x))),(0≤(1:Int)),((1:Int)<(6:Int)),(1<(Ob.k (.p y))),(0≤(limb (Ob.n (.p x)) 1)),(0≤(limb (Ob.n (.p y)) 1)),((limb (Ob.n (.p y)) 1)<(18446744073709551616:Int)),(0≤(Prod.snd (exOut 1 (limb (Ob.n (.p x)) 0) (limb (Ob.n (.p y)) 0) (0:Int)))),((Prod.snd (exOut 1 (limb (Ob.n (.p x)) 0) (limb (Ob.n (.p y)) 0) (0:Int)))≤(1:Int)),(0≤(1:Int)),((1:Int)<(6:Int)),(0≤(2:Int)),((2:Int)<(6:Int)),(2<(Ob.k (.p x))),(0≤(2:Int)),((2:Int)<(6:Int)),(2<(Ob.k (.p y))),(0≤(limb (Ob.n (.p x)) 2)),(0≤(limb (Ob.n (.p y)) 2)),((limb (Ob.n (.p y)) 2)<(18446744073709551616:Int)),(0≤(Prod.snd (exOut 1 (limb (Ob.n (.p x)) 1) (limb (Ob.n (.p y)) 1) (Prod.snd (exOut 1 (limb (Ob.n (.p x)) 0) (limb (Ob.n (.p y)) 0) (0:Int)))))),((Prod.snd (exOut 1 (limb (Ob.n (.p x)) 1) (limb (Ob.n (.p y)) 1) (Prod.snd (exOut 1 (limb (Ob.n (.p x)) 0) (limb (Ob.n (.p y)) 0) (0:Int)))))≤(1:Int)),(0≤(2:Int)),((2:Int)<(6:Int)),(0≤(3:Int)),((3:Int)<(6:Int)),(3<(Ob.k (.p x))),(0≤(3:Int)),((3:Int)<(6:Int)),(3<(Ob.k (.p y))),(0≤(limb (Ob.n (.p x)) 3)),(0≤(limb (Ob.n (.p y)) 3)),((limb (Ob.n (.p y)) 3)<(18446744073709551616:Int)),(0≤(Prod.snd (exOut 1 (limb (Ob.n (.p x)) 2) (limb (Ob.n (.p y)) 2) (Prod.snd (exOut 1 (limb (Ob.n (.p x)) 1) (limb (Ob.n (.p y)) 1) (Prod.snd (exOut 1 (limb (Ob.n (.p x)) 0) (limb (Ob.n (.p y)) 0) (0:Int)))))))),((Prod.snd (exOut 1 (limb (Ob.n (.p x)) 2) (limb (Ob.n (.p y)) 2) (Prod.snd (exOut 1 (limb (Ob.n (.p x)) 1) (limb (Ob.n (.p y)) 1) (Prod.snd (exOut 1 (limb (Ob.n (.p x)) 0) (limb (Ob.n (.p y)) 0) (0:Int)))))))≤(1:Int)),(0≤(3:Int)),((3:Int)<(6:Int)),(0≤(4:Int)),((4:Int)<(6:Int)),(4<(Ob.k (.p x))),(0≤(4:Int)),((4:Int)<(6:Int)),(4<(Ob.k (.p y))),(0≤(limb (Ob.n (.p x)) 4)),(0≤(limb (Ob.n (.p y)) 4)),((limb (Ob.n (.p y)) 4)<(18446744073709551616:Int)),(0≤(Prod.snd (exOut 1 (limb (Ob.n (.p x)) 3) (limb (Ob.n (.p y)) 3) (Prod.snd (exOut 1 (limb (Ob.n (.p x)) 2) (limb (Ob.n (.p y)) 2) (Prod.snd (exOut 1 (limb (Ob.n (.p x)) 1) (limb (Ob.n (.p y)) 1) (Prod.snd (exOut 1 (limb (Ob.n (.p x)) 0) (limb (Ob.n (.p y)) 0) (0:Int)))))))))),((Prod.snd (exOut 1 (limb (Ob.n (.p x)) 3) (limb (Ob.n (.p y)) 3) (Prod.snd (exOut 1 (limb (Ob.n (.p x)) 2) (limb (Ob.n (.p y)) 2) (Prod.snd (exOut 1 (limb (Ob.n (.p x)) 1) (limb (Ob.n (.p y)) 1) (Prod.snd (exOut 1 (limb (Ob.n (.p x)) 0) (limb (Ob.n (.p y)) 0) (0:Int)))))))))≤(1:Int)),(0≤(4:Int)),((4:Int)<(6:Int)),(0≤(5:Int)),((5:Int)<(6:Int)),(5<(Ob.k (.p x))),(0≤(5:Int)),((5:Int)<(6:Int)),(5<(Ob.k (.p y))),(0≤(limb (Ob.n (.p x)) 5)),(0≤(limb (Ob.n (.p y)) 5)),((limb (Ob.n (.p y)) 5)<(18446744073709551616:Int)),(0≤(Prod.snd (exOut 1 (limb (Ob.n (.p x)) 4) (limb (Ob.n (.p y)) 4) (Prod.snd (exOut 1 (limb (Ob.n (.p x)) 3) (limb (Ob.n (.p y)) 3) (Prod.snd (exOut 1 (limb (Ob.n (.p x)) 2) (limb (Ob.n (.p y)) 2) (Prod.snd (exOut 1 (limb (Ob.n (.p x)) 1) (limb (Ob.n (.p y)) 1) (Prod.snd (exOut 1 (limb (Ob.n (.p x)) 0) (limb (Ob.n (.p y)) 0) (0:Int)))))))))))),((Prod.snd (exOut 1 (limb (Ob.n (.p x)) 4) (limb (Ob.n (.p y)) 4) (Prod.snd (exOut 1 (limb (Ob.n (.p x)) 3) (limb (Ob.n (.p y)) 3) (Prod.snd (exOut 1 (limb (Ob.n (.p x)) 2) (limb (Ob.n (.p y)) 2) (Prod.snd (exOut 1 (limb (Ob.n (.p x)) 1) (limb (Ob.n (.p y)) 1) (Prod.snd (exOut 1 (limb (Ob.n (.p x)) 0) (limb (Ob.n (.p y)) 0) (0:Int)))))))))))≤(1:Int)),(0≤(5:Int)),((5:Int)<(6:Int)),(((Prod.snd (exOut 1 (limb (Ob.n (.p x)) 5) (limb (Ob.n (.p y)) 5) (Prod.snd (exOut 1 (limb (Ob.n (.p x)) 4) (limb (Ob.n (.p y)) 4) (Prod.snd (exOut 1 (limb (Ob.n (.p x)) 3) (limb (Ob.n (.p y)) 3) (Prod.snd (exOut 1 (limb (Ob.n (.p x)) 2) (limb (Ob.n (.p y)) 2) (Prod.snd (exOut 1 (limb (Ob.n (.p x)) 1) (limb (Ob.n (.p y)) 1) (Prod.snd (exOut 1 (limb (Ob.n (.p x)) 0) (limb (Ob.n (.p y)) 0) (0:Int))))))))))))) == (0:Int))=true)],((.v (.a [(.int .u64 (Prod.fst (exOut 1 (limb (Ob.n (.p x)) 0) (limb (Ob.n (.p y)) 0) (0:Int)))),(.int .u64 (Prod.fst (exOut 1 (limb (Ob.n (.p x)) 1) (limb (Ob.n (.p y)) 1) (Prod.snd (exOut 1 (limb (Ob.n (.p x)) 0) (limb (Ob.n (.p y)) 0) (0:Int)))))),(.int .u64 (Prod.fst (exOut 1 (limb (Ob.n (.p x)) 2) (limb (Ob.n (.p y)) 2) (Prod.snd (exOut 1 (limb (Ob.n (.p x)) 1) (limb (Ob.n (.p y)) 1) (Prod.snd (exOut 1 (limb (Ob.n (.p x)) 0) (limb (Ob.n (.p y)) 0) (0:Int)))))))),(.int .u64 (Prod.fst (exOut 1 (limb (Ob.n (.p x)) 3) (limb (Ob.n (.p y)) 3) (Prod.snd (exOut 1 (limb (Ob.n (.p x)) 2) (limb (Ob.n (.p y)) 2) (Prod.snd (exOut 1 (limb (Ob.n (.p x)) 1) (limb (Ob.n (.p y)) 1) (Prod.snd (exOut 1 (limb (Ob.n (.p x)) 0) (limb (Ob.n (.p y)) 0) (0:Int)))))))))),(.int .u64 (Prod.fst (exOut 1 (limb (Ob.n (.p x)) 4) (limb (Ob.n (.p y)) 4) (Prod.snd (exOut 1 (limb (Ob.n (.p x)) 3) (limb (Ob.n (.p y)) 3) (Prod.snd (exOut 1 (limb (Ob.n (.p x)) 2) (limb (Ob.n (.p y)) 2) (Prod.snd (exOut 1 (limb (Ob.n (.p x)) 1) (limb (Ob.n (.p y)) 1) (Prod.snd (exOut 1 (limb (Ob.n (.p x)) 0) (limb (Ob.n (.p y)) 0) (0:Int)))))))))))),(.int .u64 (Prod.fst (exOut 1 (limb (Ob.n (.p x)) 5) (limb (Ob.n (.p y)) 5) (Prod.snd (exOut 1 (limb (Ob.n (.p x)) 4) (limb (Ob.n (.p y)) 4) (Prod.snd (exOut 1 (limb (Ob.n (.p x)) 3) (limb (Ob.n (.p y)) 3) (Prod.snd (exOut 1 (limb (Ob.n (.p x)) 2) (limb (Ob.n (.p y)) 2) (Prod.snd (exOut 1 (limb (Ob.n (.p x)) 1) (limb (Ob.n (.p y)) 1) (Prod.snd (exOut 1 (limb (Ob.n (.p x)) 0) (limb (Ob.n (.p y)) 0) (0:Int))))))))))))))])),[]))):=by kernel_rfl
theorem minusP1 (x y:Fp):fnRes qeE Tryz.f132 3000 [.v (.a [.ob (.p x)]),.v (.a [.ob (.p y)])] [false] [] []=(some ([(0≤(0:Int)),(0<(6:Int)),(0<(Ob.k (.p x))),(0≤(0:Int)),(0<(6:Int)),(0<(Ob.k (.p y))),(0≤(limb (Ob.n (.p x)) 0)),(0≤(limb (Ob.n (.p y)) 0)),((limb (Ob.n (.p y)) 0)<(18446744073709551616:Int)),(0≤(0:Int)),(0≤(1:Int)),(0≤(0:Int)),(0<(6:Int)),(0≤(1:Int)),((1:Int)<(6:Int)),(1<(Ob.k (.p x))),(0≤(1:Int)),((1:Int)<(6:Int)),(1<(Ob.k (.p y))),(0≤(limb (Ob.n (.p x)) 1)),(0≤(limb (Ob.n (.p y)) 1)),((limb (Ob.n (.p y)) 1)<(18446744073709551616:Int)),(0≤(Prod.snd (exOut 1 (limb (Ob.n (.p x)) 0) (limb (Ob.n (.p y)) 0) (0:Int)))),((Prod.snd (exOut 1 (limb (Ob.n (.p x)) 0) (limb (Ob.n (.p y)) 0) (0:Int)))≤(1:Int)),(0≤(1:Int)),((1:Int)<(6:Int)),(0≤(2:Int)),((2:Int)<(6:Int)),(2<(Ob.k (.p x))),(0≤(2:Int)),((2:Int)<(6:Int)),(2<(Ob.k (.p y))),(0≤(limb (Ob.n (.p x)) 2)),(0≤(limb (Ob.n (.p y)) 2)),((limb (Ob.n (.p y)) 2)<(18446744073709551616:Int)),(0≤(Prod.snd (exOut 1 (limb (Ob.n (.p x)) 1) (limb (Ob.n (.p y)) 1) (Prod.snd (exOut 1 (limb (Ob.n (.p x)) 0) (limb (Ob.n (.p y)) 0) (0:Int)))))),((Prod.snd (exOut 1 (limb (Ob.n (.p x)) 1) (limb (Ob.n (.p y)) 1) (Prod.snd (exOut 1 (limb (Ob.n (.p x)) 0) (limb (Ob.n (.p y)) 0) (0:Int)))))≤(1:Int)),(0≤(2:Int)),((2:Int)<(6:Int)),(0≤(3:Int)),((3:Int)<(6:Int)),(3<(Ob.k (.p x))),(0≤(3:Int)),((3:Int)<(6:Int)),(3<(Ob.k (.p y))),(0≤(limb (Ob.n (.p x)) 3)),(0≤(limb (Ob.n (.p y)) 3)),((limb (Ob.n (.p y)) 3)<(18446744073709551616:Int)),(0≤(Prod.snd (exOut 1 (limb (Ob.n (.p x)) 2) (limb (Ob.n (.p y)) 2) (Prod.snd (exOut 1 (limb (Ob.n (.p x)) 1) (limb (Ob.n (.p y)) 1) (Prod.snd (exOut 1 (limb (Ob.n (.p x)) 0) (limb (Ob.n (.p y)) 0) (0:Int)))))))),((Prod.snd (exOut 1 (limb (Ob.n (.p x)) 2) (limb (Ob.n (.p y)) 2) (Prod.snd (exOut 1 (limb (Ob.n (.p x)) 1) (limb (Ob.n (.p y)) 1) (Prod.snd (exOut 1 (limb (Ob.n (.p x)) 0) (limb (Ob.n (.p y)) 0) (0:Int)))))))≤(1:Int)),(0≤(3:Int)),((3:Int)<(6:Int)),(0≤(4:Int)),((4:Int)<(6:Int)),(4<(Ob.k (.p x))),(0≤(4:Int)),((4:Int)<(6:Int)),(4<(Ob.k (.p y))),(0≤(limb (Ob.n (.p x)) 4)),(0≤(limb (Ob.n (.p y)) 4)),((limb (Ob.n (.p y)) 4)<(18446744073709551616:Int)),(0≤(Prod.snd (exOut 1 (limb (Ob.n (.p x)) 3) (limb (Ob.n (.p y)) 3) (Prod.snd (exOut 1 (limb (Ob.n (.p x)) 2) (limb (Ob.n (.p y)) 2) (Prod.snd (exOut 1 (limb (Ob.n (.p x)) 1) (limb (Ob.n (.p y)) 1) (Prod.snd (exOut 1 (limb (Ob.n (.p x)) 0) (limb (Ob.n (.p y)) 0) (0:Int)))))))))),((Prod.snd (exOut 1 (limb (Ob.n (.p x)) 3) (limb (Ob.n (.p y)) 3) (Prod.snd (exOut 1 (limb (Ob.n (.p x)) 2) (limb (Ob.n (.p y)) 2) (Prod.snd (exOut 1 (limb (Ob.n (.p x)) 1) (limb (Ob.n (.p y)) 1) (Prod.snd (exOut 1 (limb (Ob.n (.p x)) 0) (limb (Ob.n (.p y)) 0) (0:Int)))))))))≤(1:Int)),(0≤(4:Int)),((4:Int)<(6:Int)),(0≤(5:Int)),((5:Int)<(6:Int)),(5<(Ob.k (.p x))),(0≤(5:Int)),((5:Int)<(6:Int)),(5<(Ob.k (.p y))),(0≤(limb (Ob.n (.p x)) 5)),(0≤(limb (Ob.n (.p y)) 5)),((limb (Ob.n (.p y)) 5)<(18446744073709551616:Int)),(0≤(Prod.snd (exOut 1 (limb (Ob.n (.p x)) 4) (limb (Ob.n (.p y)) 4) (Prod.snd (exOut 1 (limb (Ob.n (.p x)) 3) (limb (Ob.n (.p y)) 3) (Prod.snd (exOut 1 (limb (Ob.n (.p x)) 2) (limb (Ob.n (.p y)) 2) (Prod.snd (exOut 1 (limb (Ob.n (.p x)) 1) (limb (Ob.n (.p y)) 1) (Prod.snd (exOut 1 (limb (Ob.n (.p x)) 0) (limb (Ob.n (.p y)) 0) (0:Int)))))))))))),((Prod.snd (exOut 1 (limb (Ob.n (.p x)) 4) (limb (Ob.n (.p y)) 4) (Prod.snd (exOut 1 (limb (Ob.n (.p x)) 3) (limb (Ob.n (.p y)) 3) (Prod.snd (exOut 1 (limb (Ob.n (.p x)) 2) (limb (Ob.n (.p y)) 2) (Prod.snd (exOut 1 (limb (Ob.n (.p x)) 1) (limb (Ob.n (.p y)) 1) (Prod.snd (exOut 1 (limb (Ob.n (.p x)) 0) (limb (Ob.n (.p y)) 0) (0:Int)))))))))))≤(1:Int)),(0≤(5:Int)),((5:Int)<(6:Int)),(((Prod.snd (exOut 1 (limb (Ob.n (.p x)) 5) (limb (Ob.n (.p y)) 5) (Prod.snd (exOut 1 (limb (Ob.n (.p x)) 4) (limb (Ob.n (.p y)) 4) (Prod.snd (exOut 1 (limb (Ob.n (.p x)) 3) (limb (Ob.n (.p y)) 3) (Prod.snd (exOut 1 (limb (Ob.n (.p x)) 2) (limb (Ob.n (.p y)) 2) (Prod.snd (exOut 1 (limb (Ob.n (.p x)) 1) (limb (Ob.n (.p y)) 1) (Prod.snd (exOut 1 (limb (Ob.n (.p x)) 0) (limb (Ob.n (.p y)) 0) (0:Int))))))))))))) == (0:Int))=false),(0≤(0:Int)),(0<(6:Int)),(0≤(0:Int)),(0<(6:Int)),(0<6),(0≤(Prod.fst (exOut 1 (limb (Ob.n (.p x)) 0) (limb (Ob.n (.p y)) 0) (0:Int)))),(0≤(13402431016077863595:Int)),((13402431016077863595:Int)<(18446744073709551616:Int)),(0≤(0:Int)),(0≤(1:Int)),(0≤(0:Int)),(0<(6:Int)),(0≤(1:Int)),((1:Int)<(6:Int)),(0≤(1:Int)),((1:Int)<(6:Int)),(1<6),(0≤(Prod.fst (exOut 1 (limb (Ob.n (.p x)) 1) (limb (Ob.n (.p y)) 1) (Prod.snd (exOut 1 (limb (Ob.n (.p x)) 0) (limb (Ob.n (.p y)) 0) (0:Int)))))),(0≤(2210141511517208575:Int)),((2210141511517208575:Int)<(18446744073709551616:Int)),(0≤(Prod.snd (exOut 0 (Prod.fst (exOut 1 (limb (Ob.n (.p x)) 0) (limb (Ob.n (.p y)) 0) (0:Int))) (13402431016077863595:Int) (0:Int)))),((Prod.snd (exOut 0 (Prod.fst (exOut 1 (limb (Ob.n (.p x)) 0) (limb (Ob.n (.p y)) 0) (0:Int))) (13402431016077863595:Int) (0:Int)))≤(1:Int)),(0≤(1:Int)),((1:Int)<(6:Int)),(0≤(2:Int)),((2:Int)<(6:Int)),(0≤(2:Int)),((2:Int)<(6:Int)),(2<6),(0≤(Prod.fst (exOut 1 (limb (Ob.n (.p x)) 2) (limb (Ob.n (.p y)) 2) (Prod.snd (exOut 1 (limb (Ob.n (.p x)) 1) (limb (Ob.n (.p y)) 1) (Prod.snd (exOut 1 (limb (Ob.n (.p x)) 0) (limb (Ob.n (.p y)) 0) (0:Int)))))))),(0≤(7435674573564081700:Int)),((7435674573564081700:Int)<(18446744073709551616:Int)),(0≤(Prod.snd (exOut 0 (Prod.fst (exOut 1 (limb (Ob.n (.p x)) 1) (limb (Ob.n (.p y)) 1) (Prod.snd (exOut 1 (limb (Ob.n (.p x)) 0) (limb (Ob.n (.p y)) 0) (0:Int))))) (2210141511517208575:Int) (Prod.snd (exOut 0 (Prod.fst (exOut 1 (limb (Ob.n (.p x)) 0) (limb (Ob.n (.p y)) 0) (0:Int))) (13402431016077863595:Int) (0:Int)))))),((Prod.snd (exOut 0 (Prod.fst (exOut 1 (limb (Ob.n (.p x)) 1) (limb (Ob.n (.p y)) 1) (Prod.snd (exOut 1 (limb (Ob.n (.p x)) 0) (limb (Ob.n (.p y)) 0) (0:Int))))) (2210141511517208575:Int) (Prod.snd (exOut 0 (Prod.fst (exOut 1 (limb (Ob.n (.p x)) 0) (limb (Ob.n (.p y)) 0) (0:Int))) (13402431016077863595:Int) (0:Int)))))≤(1:Int)),(0≤(2:Int)),((2:Int)<(6:Int)),(0≤(3:Int)),((3:Int)<(6:Int)),(0≤(3:Int)),((3:Int)<(6:Int)),(3<6),(0≤(Prod.fst (exOut 1 (limb (Ob.n (.p x)) 3) (limb (Ob.n (.p y)) 3) (Prod.snd (exOut 1 (limb (Ob.n (.p x)) 2) (limb (Ob.n (.p y)) 2) (Prod.snd (exOut 1 (limb (Ob.n (.p x)) 1) (limb (Ob.n (.p y)) 1) (Prod.snd (exOut 1 (limb (Ob.n (.p x)) 0) (limb (Ob.n (.p y)) 0) (0:Int)))))))))),(0≤(7239337960414712511:Int)),((7239337960414712511:Int)<(18446744073709551616:Int)),(0≤(Prod.snd (exOut 0 (Prod.fst (exOut 1 (limb (Ob.n (.p x)) 2) (limb (Ob.n (.p y)) 2) (Prod.snd (exOut 1 (limb (Ob.n (.p x)) 1) (limb (Ob.n (.p y)) 1) (Prod.snd (exOut 1 (limb (Ob.n (.p x)) 0) (limb (Ob.n (.p y)) 0) (0:Int))))))) (7435674573564081700:Int) (Prod.snd (exOut 0 (Prod.fst (exOut 1 (limb (Ob.n (.p x)) 1) (limb (Ob.n (.p y)) 1) (Prod.snd (exOut 1 (limb (Ob.n (.p x)) 0) (limb (Ob.n (.p y)) 0) (0:Int))))) (2210141511517208575:Int) (Prod.snd (exOut 0 (Prod.fst (exOut 1 (limb (Ob.n (.p x)) 0) (limb (Ob.n (.p y)) 0) (0:Int))) (13402431016077863595:Int) (0:Int)))))))),((Prod.snd (exOut 0 (Prod.fst (exOut 1 (limb (Ob.n (.p x)) 2) (limb (Ob.n (.p y)) 2) (Prod.snd (exOut 1 (limb (Ob.n (.p x)) 1) (limb (Ob.n (.p y)) 1) (Prod.snd (exOut 1 (limb (Ob.n (.p x)) 0) (limb (Ob.n (.p y)) 0) (0:Int))))))) (7435674573564081700:Int) (Prod.snd (exOut 0 (Prod.fst (exOut 1 (limb (Ob.n (.p x)) 1) (limb (Ob.n (.p y)) 1) (Prod.snd (exOut 1 (limb (Ob.n (.p x)) 0) (limb (Ob.n (.p y)) 0) (0:Int))))) (2210141511517208575:Int) (Prod.snd (exOut 0 (Prod.fst (exOut 1 (limb (Ob.n (.p x)) 0) (limb (Ob.n (.p y)) 0) (0:Int))) (13402431016077863595:Int) (0:Int)))))))≤(1:Int)),(0≤(3:Int)),((3:Int)<(6:Int)),(0≤(4:Int)),((4:Int)<(6:Int)),(0≤(4:Int)),((4:Int)<(6:Int)),(4<6),(0≤(Prod.fst (exOut 1 (limb (Ob.n (.p x)) 4) (limb (Ob.n (.p y)) 4) (Prod.snd (exOut 1 (limb (Ob.n (.p x)) 3) (limb (Ob.n (.p y)) 3) (Prod.snd (exOut 1 (limb (Ob.n (.p x)) 2) (limb (Ob.n (.p y)) 2) (Prod.snd (exOut 1 (limb (Ob.n (.p x)) 1) (limb (Ob.n (.p y)) 1) (Prod.snd (exOut 1 (limb (Ob.n (.p x)) 0) (limb (Ob.n (.p y)) 0) (0:Int)))))))))))),(0≤(5412103778470702295:Int)),((5412103778470702295:Int)<(18446744073709551616:Int)),(0≤(Prod.snd (exOut 0 (Prod.fst (exOut 1 (limb (Ob.n (.p x)) 3) (limb (Ob.n (.p y)) 3) (Prod.snd (exOut 1 (limb (Ob.n (.p x)) 2) (limb (Ob.n (.p y)) 2) (Prod.snd (exOut 1 (limb (Ob.n (.p x)) 1) (limb (Ob.n (.p y)) 1) (Prod.snd (exOut 1 (limb (Ob.n (.p x)) 0) (limb (Ob.n (.p y)) 0) (0:Int))))))))) (7239337960414712511:Int) (Prod.snd (exOut 0 (Prod.fst (exOut 1 (limb (Ob.n (.p x)) 2) (limb (Ob.n (.p y)) 2) (Prod.snd (exOut 1 (limb (Ob.n (.p x)) 1) (limb (Ob.n (.p y)) 1) (Prod.snd (exOut 1 (limb (Ob.n (.p x)) 0) (limb (Ob.n (.p y)) 0) (0:Int))))))) (7435674573564081700:Int) (Prod.snd (exOut 0 (Prod.fst (exOut 1 (limb (Ob.n (.p x)) 1) (limb (Ob.n (.p y)) 1) (Prod.snd (exOut 1 (limb (Ob.n (.p x)) 0) (limb (Ob.n (.p y)) 0) (0:Int))))) (2210141511517208575:Int) (Prod.snd (exOut 0 (Prod.fst (exOut 1 (limb (Ob.n (.p x)) 0) (limb (Ob.n (.p y)) 0) (0:Int))) (13402431016077863595:Int) (0:Int)))))))))),((Prod.snd (exOut 0 (Prod.fst (exOut 1 (limb (Ob.n (.p x)) 3) (limb (Ob.n (.p y)) 3) (Prod.snd (exOut 1 (limb (Ob.n (.p x)) 2) (limb (Ob.n (.p y)) 2) (Prod.snd (exOut 1 (limb (Ob.n (.p x)) 1) (limb (Ob.n (.p y)) 1) (Prod.snd (exOut 1 (limb (Ob.n (.p x)) 0) (limb (Ob.n (.p y)) 0) (0:Int))))))))) (7239337960414712511:Int) (Prod.snd (exOut 0 (Prod.fst (exOut 1 (limb (Ob.n (.p x)) 2) (limb (Ob.n (.p y)) 2) (Prod.snd (exOut 1 (limb (Ob.n (.p x)) 1) (limb (Ob.n (.p y)) 1) (Prod.snd (exOut 1 (limb (Ob.n (.p x)) 0) (limb (Ob.n (.p y)) 0) (0:Int))))))) (7435674573564081700:Int) (Prod.snd (exOut 0 (Prod.fst (exOut 1 (limb (Ob.n (.p x)) 1) (limb (Ob.n (.p y)) 1) (Prod.snd (exOut 1 (limb (Ob.n (.p x)) 0) (limb (Ob.n (.p y)) 0) (0:Int))))) (2210141511517208575:Int) (Prod.snd (exOut 0 (Prod.fst (exOut 1 (limb (Ob.n (.p x)) 0) (limb (Ob.n (.p y)) 0) (0:Int))) (13402431016077863595:Int) (0:Int)))))))))≤(1:Int)),(0≤(4:Int)),((4:Int)<(6:Int)),(0≤(5:Int)),((5:Int)<(6:Int)),(0≤(5:Int)),((5:Int)<(6:Int)),(5<6),(0≤(Prod.fst (exOut 1 (limb (Ob.n (.p x)) 5) (limb (Ob.n (.p y)) 5) (Prod.snd (exOut 1 (limb (Ob.n (.p x)) 4) (limb (Ob.n (.p y)) 4) (Prod.snd (exOut 1 (limb (Ob.n (.p x)) 3) (limb (Ob.n (.p y)) 3) (Prod.snd (exOut 1 (limb (Ob.n (.p x)) 2) (limb (Ob.n (.p y)) 2) (Prod.snd (exOut 1 (limb (Ob.n (.p x)) 1) (limb (Ob.n (.p y)) 1) (Prod.snd (exOut 1 (limb (Ob.n (.p x)) 0) (limb (Ob.n (.p y)) 0) (0:Int)))))))))))))),(0≤(1873798617647539866:Int)),((1873798617647539866:Int)<(18446744073709551616:Int)),(0≤(Prod.snd (exOut 0 (Prod.fst (exOut 1 (limb (Ob.n (.p x)) 4) (limb (Ob.n (.p y)) 4) (Prod.snd (exOut 1 (limb (Ob.n (.p x)) 3) (limb (Ob.n (.p y)) 3) (Prod.snd (exOut 1 (limb (Ob.n (.p x)) 2) (limb (Ob.n (.p y)) 2) (Prod.snd (exOut 1 (limb (Ob.n (.p x)) 1) (limb (Ob.n (.p y)) 1) (Prod.snd (exOut 1 (limb (Ob.n (.p x)) 0) (limb (Ob.n (.p y)) 0) (0:Int))))))))))) (5412103778470702295:Int) (Prod.snd (exOut 0 (Prod.fst (exOut 1 (limb (Ob.n (.p x)) 3) (limb (Ob.n (.p y)) 3) (Prod.snd (exOut 1 (limb (Ob.n (.p x)) 2) (limb (Ob.n (.p y)) 2) (Prod.snd (exOut 1 (limb (Ob.n (.p x)) 1) (limb (Ob.n (.p y)) 1) (Prod.snd (exOut 1 (limb (Ob.n (.p x)) 0) (limb (Ob.n (.p y)) 0) (0:Int))))))))) (7239337960414712511:Int) (Prod.snd (exOut 0 (Prod.fst (exOut 1 (limb (Ob.n (.p x)) 2) (limb (Ob.n (.p y)) 2) (Prod.snd (exOut 1 (limb (Ob.n (.p x)) 1) (limb (Ob.n (.p y)) 1) (Prod.snd (exOut 1 (limb (Ob.n (.p x)) 0) (limb (Ob.n (.p y)) 0) (0:Int))))))) (7435674573564081700:Int) (Prod.snd (exOut 0 (Prod.fst (exOut 1 (limb (Ob.n (.p x)) 1) (limb (Ob.n (.p y)) 1) (Prod.snd (exOut 1 (limb (Ob.n (.p x)) 0) (limb (Ob.n (.p y)) 0) (0:Int))))) (2210141511517208575:Int) (Prod.snd (exOut 0 (Prod.fst (exOut 1 (limb (Ob.n (.p x)) 0) (limb (Ob.n (.p y)) 0) (0:Int))) (13402431016077863595:Int) (0:Int)))))))))))),((Prod.snd (exOut 0 (Prod.fst (exOut 1 (limb (Ob.n (.p x)) 4) (limb (Ob.n (.p y)) 4) (Prod.snd (exOut 1 (limb (Ob.n (.p x)) 3) (limb (Ob.n (.p y)) 3) (Prod.snd (exOut 1 (limb (Ob.n (.p x)) 2) (limb (Ob.n (.p y)) 2) (Prod.snd (exOut 1 (limb (Ob.n (.p x)) 1) (limb (Ob.n (.p y)) 1) (Prod.snd (exOut 1 (limb (Ob.n (.p x)) 0) (limb (Ob.n (.p y)) 0) (0:Int))))))))))) (5412103778470702295:Int) (Prod.snd (exOut 0 (Prod.fst (exOut 1 (limb (Ob.n (.p x)) 3) (limb (Ob.n (.p y)) 3) (Prod.snd (exOut 1 (limb (Ob.n (.p x)) 2) (limb (Ob.n (.p y)) 2) (Prod.snd (exOut 1 (limb (Ob.n (.p x)) 1) (limb (Ob.n (.p y)) 1) (Prod.snd (exOut 1 (limb (Ob.n (.p x)) 0) (limb (Ob.n (.p y)) 0) (0:Int))))))))) (7239337960414712511:Int) (Prod.snd (exOut 0 (Prod.fst (exOut 1 (limb (Ob.n (.p x)) 2) (limb (Ob.n (.p y)) 2) (Prod.snd (exOut 1 (limb (Ob.n (.p x)) 1) (limb (Ob.n (.p y)) 1) (Prod.snd (exOut 1 (limb (Ob.n (.p x)) 0) (limb (Ob.n (.p y)) 0) (0:Int))))))) (7435674573564081700:Int) (Prod.snd (exOut 0 (Prod.fst (exOut 1 (limb (Ob.n (.p x)) 1) (limb (Ob.n (.p y)) 1) (Prod.snd (exOut 1 (limb (Ob.n (.p x)) 0) (limb (Ob.n (.p y)) 0) (0:Int))))) (2210141511517208575:Int) (Prod.snd (exOut 0 (Prod.fst (exOut 1 (limb (Ob.n (.p x)) 0) (limb (Ob.n (.p y)) 0) (0:Int))) (13402431016077863595:Int) (0:Int)))))))))))≤(1:Int)),(0≤(5:Int)),((5:Int)<(6:Int))],((.v (.a [(.int .u64 (Prod.fst (exOut 0 (Prod.fst (exOut 1 (limb (Ob.n (.p x)) 0) (limb (Ob.n (.p y)) 0) (0:Int))) (13402431016077863595:Int) (0:Int)))),(.int .u64 (Prod.fst (exOut 0 (Prod.fst (exOut 1 (limb (Ob.n (.p x)) 1) (limb (Ob.n (.p y)) 1) (Prod.snd (exOut 1 (limb (Ob.n (.p x)) 0) (limb (Ob.n (.p y)) 0) (0:Int))))) (2210141511517208575:Int) (Prod.snd (exOut 0 (Prod.fst (exOut 1 (limb (Ob.n (.p x)) 0) (limb (Ob.n (.p y)) 0) (0:Int))) (13402431016077863595:Int) (0:Int)))))),(.int .u64 (Prod.fst (exOut 0 (Prod.fst (exOut 1 (limb (Ob.n (.p x)) 2) (limb (Ob.n (.p y)) 2) (Prod.snd (exOut 1 (limb (Ob.n (.p x)) 1) (limb (Ob.n (.p y)) 1) (Prod.snd (exOut 1 (limb (Ob.n (.p x)) 0) (limb (Ob.n (.p y)) 0) (0:Int))))))) (7435674573564081700:Int) (Prod.snd (exOut 0 (Prod.fst (exOut 1 (limb (Ob.n (.p x)) 1) (limb (Ob.n (.p y)) 1) (Prod.snd (exOut 1 (limb (Ob.n (.p x)) 0) (limb (Ob.n (.p y)) 0) (0:Int))))) (2210141511517208575:Int) (Prod.snd (exOut 0 (Prod.fst (exOut 1 (limb (Ob.n (.p x)) 0) (limb (Ob.n (.p y)) 0) (0:Int))) (13402431016077863595:Int) (0:Int)))))))),(.int .u64 (Prod.fst (exOut 0 (Prod.fst (exOut 1 (limb (Ob.n (.p x)) 3) (limb (Ob.n (.p y)) 3) (Prod.snd (exOut 1 (limb (Ob.n (.p x)) 2) (limb (Ob.n (.p y)) 2) (Prod.snd (exOut 1 (limb (Ob.n (.p x)) 1) (limb (Ob.n (.p y)) 1) (Prod.snd (exOut 1 (limb (Ob.n (.p x)) 0) (limb (Ob.n (.p y)) 0) (0:Int))))))))) (7239337960414712511:Int) (Prod.snd (exOut 0 (Prod.fst (exOut 1 (limb (Ob.n (.p x)) 2) (limb (Ob.n (.p y)) 2) (Prod.snd (exOut 1 (limb (Ob.n (.p x)) 1) (limb (Ob.n (.p y)) 1) (Prod.snd (exOut 1 (limb (Ob.n (.p x)) 0) (limb (Ob.n (.p y)) 0) (0:Int))))))) (7435674573564081700:Int) (Prod.snd (exOut 0 (Prod.fst (exOut 1 (limb (Ob.n (.p x)) 1) (limb (Ob.n (.p y)) 1) (Prod.snd (exOut 1 (limb (Ob.n (.p x)) 0) (limb (Ob.n (.p y)) 0) (0:Int))))) (2210141511517208575:Int) (Prod.snd (exOut 0 (Prod.fst (exOut 1 (limb (Ob.n (.p x)) 0) (limb (Ob.n (.p y)) 0) (0:Int))) (13402431016077863595:Int) (0:Int)))))))))),(.int .u64 (Prod.fst (exOut 0 (Prod.fst (exOut 1 (limb (Ob.n (.p x)) 4) (limb (Ob.n (.p y)) 4) (Prod.snd (exOut 1 (limb (Ob.n (.p x)) 3) (limb (Ob.n (.p y)) 3) (Prod.snd (exOut 1 (limb (Ob.n (.p x)) 2) (limb (Ob.n (.p y)) 2) (Prod.snd (exOut 1 (limb (Ob.n (.p x)) 1) (limb (Ob.n (.p y)) 1) (Prod.snd (exOut 1 (limb (Ob.n (.p x)) 0) (limb (Ob.n (.p y)) 0) (0:Int))))))))))) (5412103778470702295:Int) (Prod.snd (exOut 0 (Prod.fst (exOut 1 (limb (Ob.n (.p x)) 3) (limb (Ob.n (.p y)) 3) (Prod.snd (exOut 1 (limb (Ob.n (.p x)) 2) (limb (Ob.n (.p y)) 2) (Prod.snd (exOut 1 (limb (Ob.n (.p x)) 1) (limb (Ob.n (.p y)) 1) (Prod.snd (exOut 1 (limb (Ob.n (.p x)) 0) (limb (Ob.n (.p y)) 0) (0:Int))))))))) (7239337960414712511:Int) (Prod.snd (exOut 0 (Prod.fst (exOut 1 (limb (Ob.n (.p x)) 2) (limb (Ob.n (.p y)) 2) (Prod.snd (exOut 1 (limb (Ob.n (.p x)) 1) (limb (Ob.n (.p y)) 1) (Prod.snd (exOut 1 (limb (Ob.n (.p x)) 0) (limb (Ob.n (.p y)) 0) (0:Int))))))) (7435674573564081700:Int) (Prod.snd (exOut 0 (Prod.fst (exOut 1 (limb (Ob.n (.p x)) 1) (limb (Ob.n (.p y)) 1) (Prod.snd (exOut 1 (limb (Ob.n (.p x)) 0) (limb (Ob.n (.p y)) 0) (0:Int))))) (2210141511517208575:Int) (Prod.snd (exOut 0 (Prod.fst (exOut 1 (limb (Ob.n (.p x)) 0) (limb (Ob.n (.p y)) 0) (0:Int))) (13402431016077863595:Int) (0:Int)))))))))))),(.int .u64 (Prod.fst (exOut 0 (Prod.fst (exOut 1 (limb (Ob.n (.p x)) 5) (limb (Ob.n (.p y)) 5) (Prod.snd (exOut 1 (limb (Ob.n (.p x)) 4) (limb (Ob.n (.p y)) 4) (Prod.snd (exOut 1 (limb (Ob.n (.p x)) 3) (limb (Ob.n (.p y)) 3) (Prod.snd (exOut 1 (limb (Ob.n (.p x)) 2) (limb (Ob.n (.p y)) 2) (Prod.snd (exOut 1 (limb (Ob.n (.p x)) 1) (limb (Ob.n (.p y)) 1) (Prod.snd (exOut 1 (limb (Ob.n (.p x)) 0) (limb (Ob.n (.p y)) 0) (0:Int))))))))))))) (1873798617647539866:Int) (Prod.snd (exOut 0 (Prod.fst (exOut 1 (limb (Ob.n (.p x)) 4) (limb (Ob.n (.p y)) 4) (Prod.snd (exOut 1 (limb (Ob.n (.p x)) 3) (limb (Ob.n (.p y)) 3) (Prod.snd (exOut 1 (limb (Ob.n (.p x)) 2) (limb (Ob.n (.p y)) 2) (Prod.snd (exOut 1 (limb (Ob.n (.p x)) 1) (limb (Ob.n (.p y)) 1) (Prod.snd (exOut 1 (limb (Ob.n (.p x)) 0) (limb (Ob.n (.p y)) 0) (0:Int))))))))))) (5412103778470702295:Int) (Prod.snd (exOut 0 (Prod.fst (exOut 1 (limb (Ob.n (.p x)) 3) (limb (Ob.n (.p y)) 3) (Prod.snd (exOut 1 (limb (Ob.n (.p x)) 2) (limb (Ob.n (.p y)) 2) (Prod.snd (exOut 1 (limb (Ob.n (.p x)) 1) (limb (Ob.n (.p y)) 1) (Prod.snd (exOut 1 (limb (Ob.n (.p x)) 0) (limb (Ob.n (.p y)) 0) (0:Int))))))))) (7239337960414712511:Int) (Prod.snd (exOut 0 (Prod.fst (exOut 1 (limb (Ob.n (.p x)) 2) (limb (Ob.n (.p y)) 2) (Prod.snd (exOut 1 (limb (Ob.n (.p x)) 1) (limb (Ob.n (.p y)) 1) (Prod.snd (exOut 1 (limb (Ob.n (.p x)) 0) (limb (Ob.n (.p y)) 0) (0:Int))))))) (7435674573564081700:Int) (Prod.snd (exOut 0 (Prod.fst (exOut 1 (limb (Ob.n (.p x)) 1) (limb (Ob.n (.p y)) 1) (Prod.snd (exOut 1 (limb (Ob.n (.p x)) 0) (limb (Ob.n (.p y)) 0) (0:Int))))) (2210141511517208575:Int) (Prod.snd (exOut 0 (Prod.fst (exOut 1 (limb (Ob.n (.p x)) 0) (limb (Ob.n (.p y)) 0) (0:Int))) (13402431016077863595:Int) (0:Int))))))))))))))])),[]))):=by kernel_rfl
end

section

theorem p_add_abs {x y r B:Nat}:((x+y) % r)*B % r=(x*B % r+y*B % r) % r:=by
 rw[Nat.mod_mul_mod,Nat.add_mul,←Nat.add_mod]
theorem p_add_n (x y:Fp):(Ob.p (x+y)).n=((Ob.p x).n+(Ob.p y).n) % pN:=by
 exact p_add_abs
theorem fin_sub_add6 {n:Nat} (x y:Fin n):x-y+y=x:=by
 apply Fin.ext
 simp only[Fin.add_def,Fin.sub_def]
 have:=y.isLt
 rw[Nat.mod_add_mod,show n-y.val+x.val+y.val=x.val+n from by omega,Nat.add_mod_right,Nat.mod_eq_of_lt x.isLt]
theorem p_sub_n (x y:Fp):((Ob.p (x-y)).n+(Ob.p y).n) % pN=(Ob.p x).n:=by
 rw[←p_add_n,fin_sub_add6]
theorem add_abs6 {r B v x y:Nat} (e:v*B % r=1 % r):(x*B % r+y*B % r)*v % r=(x+y) % r:=by
 rw[←Nat.mod_mul_mod,←Nat.add_mod,Nat.mod_mul_mod,←Nat.add_mul,Nat.mul_assoc,Nat.mul_comm B,←Nat.mul_mod_mod,e,Nat.mul_mod_mod,Nat.mul_one]
theorem redQ_add (x y:Fp):redQ ((Ob.p x).n+(Ob.p y).n)=x+y:=by
 apply Fin.ext
 have e:(Ob.p x).n=x.val*B6 % pN:=rfl
 have e' : (Ob.p y).n=y.val*B6 % pN:=rfl
 rw[e,e']
 exact add_abs6 pnv_B6

theorem addL6 {a0 a1 a2 a3 a4 a5 b0 b1 b2 b3 b4 b5 o0 o1 o2 o3 o4 o5 v0 v1 v2 v3 v4 v5:Int} (e0:a0+b0+0=o0+18446744073709551616*v0) (e1:a1+b1+v0=o1+18446744073709551616*v1) (e2:a2+b2+v1=o2+18446744073709551616*v2) (e3:a3+b3+v2=o3+18446744073709551616*v3) (e4:a4+b4+v3=o4+18446744073709551616*v4) (e5:a5+b5+v4=o5+18446744073709551616*v5) :
  num6 o0 o1 o2 o3 o4 o5+39402006196394479212279040100143613805079739270465446667948293404245721771497210611414266254884915640806627990306816*v5=num6 a0 a1 a2 a3 a4 a5+num6 b0 b1 b2 b3 b4 b5:=by
 unfold num6
 omega
theorem subL6 {a0 a1 a2 a3 a4 a5 b0 b1 b2 b3 b4 b5 o0 o1 o2 o3 o4 o5 v0 v1 v2 v3 v4 v5:Int} (e0:o0=a0-b0-0+18446744073709551616*v0) (e1:o1=a1-b1-v0+18446744073709551616*v1) (e2:o2=a2-b2-v1+18446744073709551616*v2) (e3:o3=a3-b3-v2+18446744073709551616*v3) (e4:o4=a4-b4-v3+18446744073709551616*v4) (e5:o5=a5-b5-v4+18446744073709551616*v5) :
  num6 o0 o1 o2 o3 o4 o5-39402006196394479212279040100143613805079739270465446667948293404245721771497210611414266254884915640806627990306816*v5=num6 a0 a1 a2 a3 a4 a5-num6 b0 b1 b2 b3 b4 b5:=by
 unfold num6
 omega

theorem plus6_fnd (x y:Fp):FnD Tryz.prog 106 [.v (.a [.ob (.p x)]),.v (.a [.ob (.p y)])] (.v (.a [.ob (.p (x+y))])) []:=by
 have r0:=plusP0 x y
 have hX:=p_lt x
 have hY:=p_lt y
 have hadd:=redQ_add x y
 have ex:=(limbsOf6 (Ob.p x).n (Nat.lt_trans (p_lt x) (by decide))).1
 have ey:=(limbsOf6 (Ob.p y).n (Nat.lt_trans (p_lt y) (by decide))).1
 have x0:=limb_lim (Ob.p x).n 0
 have x1:=limb_lim (Ob.p x).n 1
 have x2:=limb_lim (Ob.p x).n 2
 have x3:=limb_lim (Ob.p x).n 3
 have x4:=limb_lim (Ob.p x).n 4
 have x5:=limb_lim (Ob.p x).n 5
 have y0:=limb_lim (Ob.p y).n 0
 have y1:=limb_lim (Ob.p y).n 1
 have y2:=limb_lim (Ob.p y).n 2
 have y3:=limb_lim (Ob.p y).n 3
 have y4:=limb_lim (Ob.p y).n 4
 have y5:=limb_lim (Ob.p y).n 5
 generalize limb (Ob.p x).n 0=a0 at *
 generalize limb (Ob.p x).n 1=a1 at *
 generalize limb (Ob.p x).n 2=a2 at *
 generalize limb (Ob.p x).n 3=a3 at *
 generalize limb (Ob.p x).n 4=a4 at *
 generalize limb (Ob.p x).n 5=a5 at *
 generalize limb (Ob.p y).n 0=b0 at *
 generalize limb (Ob.p y).n 1=b1 at *
 generalize limb (Ob.p y).n 2=b2 at *
 generalize limb (Ob.p y).n 3=b3 at *
 generalize limb (Ob.p y).n 4=b4 at *
 generalize limb (Ob.p y).n 5=b5 at *
 obtain ⟨e0,p0,p0',c0,c0'⟩:=add_step (c:=0) x0.1 x0.2 y0.1 y0.2 (by decide) (by decide)
 obtain ⟨e1,p1,p1',c1,c1'⟩:=add_step x1.1 x1.2 y1.1 y1.2 c0 c0'
 obtain ⟨e2,p2,p2',c2,c2'⟩:=add_step x2.1 x2.2 y2.1 y2.2 c1 c1'
 obtain ⟨e3,p3,p3',c3,c3'⟩:=add_step x3.1 x3.2 y3.1 y3.2 c2 c2'
 obtain ⟨e4,p4,p4',c4,c4'⟩:=add_step x4.1 x4.2 y4.1 y4.2 c3 c3'
 obtain ⟨e5,p5,p5',c5,c5'⟩:=add_step x5.1 x5.2 y5.1 y5.2 c4 c4'
 generalize hq0:exOut 0 a0 b0 0=q0 at *
 generalize hq1:exOut 0 a1 b1 q0.2=q1 at *
 generalize hq2:exOut 0 a2 b2 q1.2=q2 at *
 generalize hq3:exOut 0 a3 b3 q2.2=q3 at *
 generalize hq4:exOut 0 a4 b4 q3.2=q4 at *
 generalize hq5:exOut 0 a5 b5 q4.2=q5 at *
 clear hq0 hq1 hq2 hq3 hq4 hq5
 have hS:=addL6 e0 e1 e2 e3 e4 e5
 rw[←ex,←ey] at hS
 have hp:=pN_int
 have hO:=lt6 p0 p0' p1 p1' p2 p2' p3 p3' p4 p4' p5 p5'
 have hO0:=num6_pos p0 p1 p2 p3 p4 p5
 have hv:q5.2=0:=by omega
 rw[hv,Int.mul_zero,Int.add_zero] at hS
 have hlt:num6 q0.1 q1.1 q2.1 q3.1 q4.1 q5.1<2*pN:=by omega
 refine (fn_sound qeE_ok Tryz.func106 r0 ?_).conv (fun _ _ h=>h) fun z v hd=>?_
 ·simp only[AllP,and_true,Ob.k]
  clear hS hO hO0 hX hY ex ey hadd r0 e0 e1 e2 e3 e4 e5 hp
  obtain ⟨x0,x0'⟩:=x0
  obtain ⟨y0,y0'⟩:=y0
  obtain ⟨x1,x1'⟩:=x1
  obtain ⟨y1,y1'⟩:=y1
  obtain ⟨x2,x2'⟩:=x2
  obtain ⟨y2,y2'⟩:=y2
  obtain ⟨x3,x3'⟩:=x3
  obtain ⟨y3,y3'⟩:=y3
  obtain ⟨x4,x4'⟩:=x4
  obtain ⟨y4,y4'⟩:=y4
  obtain ⟨x5,x5'⟩:=x5
  obtain ⟨y5,y5'⟩:=y5
  and_intros<;>first | assumption | decide | omega
 ·have hN' : (num6 q0.1 q1.1 q2.1 q3.1 q4.1 q5.1).toNat=(Ob.p x).n+(Ob.p y).n:=by omega
  rw[hN',hadd] at hd
  exact hd

theorem sub_cases6 {X Y Z r:Nat} (_hX:X<r) (hY:Y<r) (hZ:Z<r) (h:(Z+Y) % r=X):(Y≤X∧(Z:Int)=X-Y)∨(X<Y∧(Z:Int)=X+r-Y):=by
 by_cases hl:Z+Y<r
 ·rw[Nat.mod_eq_of_lt hl] at h
  left;omega
 ·rw[Nat.mod_eq_sub_mod (by omega),Nat.mod_eq_of_lt (by omega)] at h
  right;omega

theorem sub_fin6 {X Y Z:Nat} {N W v:Int} (hX:X<pN) (hY:Y<pN) (hcase:(Y≤X∧(Z:Int)=X-Y)∨(X<Y∧(Z:Int)=X+pN-Y))
  (hdiff:N-39402006196394479212279040100143613805079739270465446667948293404245721771497210611414266254884915640806627990306816*1=(X:Int)-Y) (hN1:N<39402006196394479212279040100143613805079739270465446667948293404245721771497210611414266254884915640806627990306816) (hW0:0≤W) (hW1:W<39402006196394479212279040100143613805079739270465446667948293404245721771497210611414266254884915640806627990306816) (hv0:0≤v) (hv1:v≤1)
  (hsum:W+39402006196394479212279040100143613805079739270465446667948293404245721771497210611414266254884915640806627990306816*v=N+num6 13402431016077863595 2210141511517208575 7435674573564081700 7239337960414712511 5412103778470702295 1873798617647539866):(Z:Int)=W:=by
 have hp:=pN_int
 have hm:num6 13402431016077863595 2210141511517208575 7435674573564081700 7239337960414712511 5412103778470702295 1873798617647539866=4002409555221667393417789825735904156556882819939007885332058136124031650490837864442687629129015664037894272559787:=by decide
 rw[hm] at hsum
 have:v=0∨v=1:=by omega
 rcases hcase with ⟨h1,h2⟩ | ⟨h1,h2⟩
 ·exfalso;omega
 ·rcases this with rfl | rfl<;>omega

theorem minus6_fnd (x y:Fp):FnD Tryz.prog 132 [.v (.a [.ob (.p x)]),.v (.a [.ob (.p y)])] (.v (.a [.ob (.p (x-y))])) []:=by
 have r0:=minusP0 x y
 have r1:=minusP1 x y
 have hX:=p_lt x
 have hY:=p_lt y
 have hZ:=p_lt (x-y)
 have hsub:=p_sub_n x y
 have ex:=(limbsOf6 (Ob.p x).n (Nat.lt_trans (p_lt x) (by decide))).1
 have ey:=(limbsOf6 (Ob.p y).n (Nat.lt_trans (p_lt y) (by decide))).1
 have x0:=limb_lim (Ob.p x).n 0
 have x1:=limb_lim (Ob.p x).n 1
 have x2:=limb_lim (Ob.p x).n 2
 have x3:=limb_lim (Ob.p x).n 3
 have x4:=limb_lim (Ob.p x).n 4
 have x5:=limb_lim (Ob.p x).n 5
 have y0:=limb_lim (Ob.p y).n 0
 have y1:=limb_lim (Ob.p y).n 1
 have y2:=limb_lim (Ob.p y).n 2
 have y3:=limb_lim (Ob.p y).n 3
 have y4:=limb_lim (Ob.p y).n 4
 have y5:=limb_lim (Ob.p y).n 5
 generalize limb (Ob.p x).n 0=a0 at *
 generalize limb (Ob.p x).n 1=a1 at *
 generalize limb (Ob.p x).n 2=a2 at *
 generalize limb (Ob.p x).n 3=a3 at *
 generalize limb (Ob.p x).n 4=a4 at *
 generalize limb (Ob.p x).n 5=a5 at *
 generalize limb (Ob.p y).n 0=b0 at *
 generalize limb (Ob.p y).n 1=b1 at *
 generalize limb (Ob.p y).n 2=b2 at *
 generalize limb (Ob.p y).n 3=b3 at *
 generalize limb (Ob.p y).n 4=b4 at *
 generalize limb (Ob.p y).n 5=b5 at *
 obtain ⟨e0,p0,p0',c0,c0'⟩:=sub_step (c:=0) x0.1 x0.2 y0.1 y0.2 (by decide) (by decide)
 obtain ⟨e1,p1,p1',c1,c1'⟩:=sub_step x1.1 x1.2 y1.1 y1.2 c0 c0'
 obtain ⟨e2,p2,p2',c2,c2'⟩:=sub_step x2.1 x2.2 y2.1 y2.2 c1 c1'
 obtain ⟨e3,p3,p3',c3,c3'⟩:=sub_step x3.1 x3.2 y3.1 y3.2 c2 c2'
 obtain ⟨e4,p4,p4',c4,c4'⟩:=sub_step x4.1 x4.2 y4.1 y4.2 c3 c3'
 obtain ⟨e5,p5,p5',c5,c5'⟩:=sub_step x5.1 x5.2 y5.1 y5.2 c4 c4'
 generalize hq0:exOut 1 a0 b0 0=q0 at *
 generalize hq1:exOut 1 a1 b1 q0.2=q1 at *
 generalize hq2:exOut 1 a2 b2 q1.2=q2 at *
 generalize hq3:exOut 1 a3 b3 q2.2=q3 at *
 generalize hq4:exOut 1 a4 b4 q3.2=q4 at *
 generalize hq5:exOut 1 a5 b5 q4.2=q5 at *
 clear hq0 hq1 hq2 hq3 hq4 hq5
 have hcase:=sub_cases6 hX hY hZ hsub
 have hdiff:=subL6 e0 e1 e2 e3 e4 e5
 rw[←ex,←ey] at hdiff
 have hO:=lt6 p0 p0' p1 p1' p2 p2' p3 p3' p4 p4' p5 p5'
 have hO0:=num6_pos p0 p1 p2 p3 p4 p5
 have hp:=pN_int
 by_cases hz:q5.2=0
 ·refine (fn_sound qeE_ok Tryz.func132 r0 ?_).conv (fun _ _ h=>h) fun z v hd=>ints_ob6 rfl (limbsAre6 p0 p0' p1 p1' p2 p2' p3 p3' p4 p4' p5 p5' ?_) hd
  ·simp only[AllP,and_true,Ob.k,beq_iff_eq]
   clear hsub hX hY hZ ex ey r0 r1 hcase hdiff hO hO0 hp e0 e1 e2 e3 e4 e5
   obtain ⟨x0,x0'⟩:=x0
   obtain ⟨y0,y0'⟩:=y0
   obtain ⟨x1,x1'⟩:=x1
   obtain ⟨y1,y1'⟩:=y1
   obtain ⟨x2,x2'⟩:=x2
   obtain ⟨y2,y2'⟩:=y2
   obtain ⟨x3,x3'⟩:=x3
   obtain ⟨y3,y3'⟩:=y3
   obtain ⟨x4,x4'⟩:=x4
   obtain ⟨y4,y4'⟩:=y4
   obtain ⟨x5,x5'⟩:=x5
   obtain ⟨y5,y5'⟩:=y5
   and_intros<;>first | assumption | decide | omega
  ·rw[hz] at hdiff
   rcases hcase with ⟨h1,h2⟩ | ⟨h1,h2⟩<;>omega
 ·have hz1:q5.2=1:=by omega
  obtain ⟨f0,s0,s0',d0,d0'⟩:=add_step (y:=13402431016077863595) (c:=0) p0 p0' (by decide) (by decide) (by decide) (by decide)
  obtain ⟨f1,s1,s1',d1,d1'⟩:=add_step (y:=2210141511517208575) p1 p1' (by decide) (by decide) d0 d0'
  obtain ⟨f2,s2,s2',d2,d2'⟩:=add_step (y:=7435674573564081700) p2 p2' (by decide) (by decide) d1 d1'
  obtain ⟨f3,s3,s3',d3,d3'⟩:=add_step (y:=7239337960414712511) p3 p3' (by decide) (by decide) d2 d2'
  obtain ⟨f4,s4,s4',d4,d4'⟩:=add_step (y:=5412103778470702295) p4 p4' (by decide) (by decide) d3 d3'
  obtain ⟨f5,s5,s5',d5,d5'⟩:=add_step (y:=1873798617647539866) p5 p5' (by decide) (by decide) d4 d4'
  generalize hw0:exOut 0 q0.1 13402431016077863595 0=w0 at *
  generalize hw1:exOut 0 q1.1 2210141511517208575 w0.2=w1 at *
  generalize hw2:exOut 0 q2.1 7435674573564081700 w1.2=w2 at *
  generalize hw3:exOut 0 q3.1 7239337960414712511 w2.2=w3 at *
  generalize hw4:exOut 0 q4.1 5412103778470702295 w3.2=w4 at *
  generalize hw5:exOut 0 q5.1 1873798617647539866 w4.2=w5 at *
  clear hw0 hw1 hw2 hw3 hw4 hw5
  have hS:=addL6 f0 f1 f2 f3 f4 f5
  have hW:=lt6 s0 s0' s1 s1' s2 s2' s3 s3' s4 s4' s5 s5'
  have hW0:=num6_pos s0 s1 s2 s3 s4 s5
  refine (fn_sound qeE_ok Tryz.func132 r1 ?_).conv (fun _ _ h=>h) fun z v hd=>ints_ob6 rfl (limbsAre6 s0 s0' s1 s1' s2 s2' s3 s3' s4 s4' s5 s5' ?_) hd
  ·simp only[AllP,and_true,Ob.k,beq_eq_false_iff_ne]
   clear hsub hX hY hZ ex ey r0 r1 hcase hdiff hO hO0 hp hS hW hW0 e0 e1 e2 e3 e4 e5 f0 f1 f2 f3 f4 f5
   obtain ⟨x0,x0'⟩:=x0
   obtain ⟨y0,y0'⟩:=y0
   obtain ⟨x1,x1'⟩:=x1
   obtain ⟨y1,y1'⟩:=y1
   obtain ⟨x2,x2'⟩:=x2
   obtain ⟨y2,y2'⟩:=y2
   obtain ⟨x3,x3'⟩:=x3
   obtain ⟨y3,y3'⟩:=y3
   obtain ⟨x4,x4'⟩:=x4
   obtain ⟨y4,y4'⟩:=y4
   obtain ⟨x5,x5'⟩:=x5
   obtain ⟨y5,y5'⟩:=y5
   and_intros<;>first | assumption | decide | omega
  ·rw[hz1] at hdiff
   exact sub_fin6 hX hY hcase hdiff hO hW0 hW d5 d5' hS

end

section

def inPSpec:FnSpec
 | [.v (.a [.ob (.fp a)])]=>some ([],.v (.a [.ob (.p (inP a))]),[])
 | _=>none
def qeF1:Env:=qeE.set (addT qeE.fn 78 inPSpec)
theorem qeF1_ok:EnvOk Tryz.prog qeF1:=env_add qeE_ok 78 inPSpec (enters_of Tryz.func78 rfl rfl) fun args o r es h _=>by
 unfold inPSpec at h
 split at h
 ·cases h;exact inP_fnd _
 ·cases h
def outPSpec:FnSpec
 | [.v (.a [.ob (.p x)])]=>some ([],.v (.a [.ob (.fp (outP x))]),[])
 | _=>none
def qeF2:Env:=qeF1.set (addT qeF1.fn 76 outPSpec)
theorem qeF2_ok:EnvOk Tryz.prog qeF2:=env_add qeF1_ok 76 outPSpec (enters_of Tryz.func76 rfl rfl) fun args o r es h _=>by
 unfold outPSpec at h
 split at h
 ·cases h;exact outP_fnd _
 ·cases h
def timesPSpec:FnSpec
 | [.v (.a [.ob (.p x)]),.v (.a [.ob (.p y)])]=>some ([],.v (.a [.ob (.p (x*y))]),[])
 | _=>none
def qeF3:Env:=qeF2.set (addT qeF2.fn 105 timesPSpec)
theorem qeF3_ok:EnvOk Tryz.prog qeF3:=env_add qeF2_ok 105 timesPSpec (enters_of Tryz.func105 rfl rfl) fun args o r es h _=>by
 unfold timesPSpec at h
 split at h
 ·cases h;exact times6_fnd _ _
 ·cases h
def plusPSpec:FnSpec
 | [.v (.a [.ob (.p x)]),.v (.a [.ob (.p y)])]=>some ([],.v (.a [.ob (.p (x+y))]),[])
 | _=>none
def qeF4:Env:=qeF3.set (addT qeF3.fn 106 plusPSpec)
theorem qeF4_ok:EnvOk Tryz.prog qeF4:=env_add qeF3_ok 106 plusPSpec (enters_of Tryz.func106 rfl rfl) fun args o r es h _=>by
 unfold plusPSpec at h
 split at h
 ·cases h;exact plus6_fnd _ _
 ·cases h
def minusPSpec:FnSpec
 | [.v (.a [.ob (.p x)]),.v (.a [.ob (.p y)])]=>some ([],.v (.a [.ob (.p (x-y))]),[])
 | _=>none
def qeF:Env:=qeF4.set (addT qeF4.fn 132 minusPSpec)
theorem qeF_ok:EnvOk Tryz.prog qeF:=env_add qeF4_ok 132 minusPSpec (enters_of Tryz.func132 rfl rfl) fun args o r es h _=>by
 unfold minusPSpec at h
 split at h
 ·cases h;exact minus6_fnd _ _
 ·cases h
--@env qeF qeF_ok
theorem smallP0 (n:Int):fnRes qeF Tryz.f77 3000 [.v (.c (.int .u64 n))] [] [] []=(some ([(0≤n),(n<(18446744073709551616:Int)),(0≤(0:Int)),(0<(18446744073709551616:Int)),(0≤(0:Int)),(0<(18446744073709551616:Int)),(0≤(0:Int)),(0<(18446744073709551616:Int)),(0≤(0:Int)),(0<(18446744073709551616:Int)),(0≤(0:Int)),(0<(18446744073709551616:Int))],((.v (.a [(.ob (.p (inP (Fin.ofNat B6 ((n).toNat+0)))))])),[]))):=by kernel_rfl
theorem negP0 (x:Fp):fnRes qeF Tryz.f135 3000 [.v (.a [.ob (.p x)])] [] [] []=(some ([],((.v (.a [(.ob (.p ((0:Fp)-x)))])),[]))):=by kernel_rfl
theorem zeroP0 (x:Fp):fnRes qeF Tryz.f60 3000 [.v (.a [.ob (.p x)])] [] [] []=(some ([],((.ci (.bool (ite (true=true) (decide (x=(0:Fp))) (Bool.not (decide (x=(0:Fp))))))),[]))):=by kernel_rfl
end

namespace S4

def mul64Spec:FnSpec
 | [.v (.c (.int .u64 x)),.v (.c (.int .u64 y))]=>some ([0≤x,x<18446744073709551616,0≤y,y<18446744073709551616],.t [.c (.int .u64 (x*y / 18446744073709551616)),.c (.int .u64 (x*y % 18446744073709551616))],[])
 | _=>none

def envA:Env:=env0.set (addT env0.fn 90 mul64Spec)
theorem envA_ok:EnvOk Tryz.prog envA:=
 env_add env0_ok 90 mul64Spec (enters_of Tryz.func90 rfl rfl) fun args o r es h ho=>by
  unfold mul64Spec at h
  split at h
  ·cases h;exact mul64_fnd _ _ ho.1 ho.2.1 ho.2.2.1 ho.2.2.2.1
  ·cases h

--@env envA envA_ok
theorem coreR  : fnRes envA Tryz.f59 3000 [] [] [] []=(some ([(0≤(18446744069414584321:Int)),((18446744069414584321:Int)<(18446744073709551616:Int)),(0≤(6034159408538082302:Int)),((6034159408538082302:Int)<(18446744073709551616:Int)),(0≤(3691218898639771653:Int)),((3691218898639771653:Int)<(18446744073709551616:Int)),(0≤(8353516859464449352:Int)),((8353516859464449352:Int)<(18446744073709551616:Int))],((.v (.a [(.ob (.fr (Fin.ofNat B4 52435875175126190479447740508185965837690552500527637822603658699938581184513)))])),[]))):=by kernel_rfl

def rU:U4:=Fin.ofNat B4 rN
def coreRSpec:FnSpec
 | []=>some ([],.v (.a [.ob (.fr rU)]),[])
 | _=>none

theorem coreR_fnd:FnD Tryz.prog 59 [] (.v (.a [.ob (.fr rU)])) []:=
 (fn_sound envA_ok Tryz.func59 coreR (by simp [AllP])).conv (fun _ _ h=>h) fun y v hd=>by
  have e:rU=Fin.ofNat B4 (((18446744069414584321:Int)).toNat+(18446744073709551616*(((6034159408538082302:Int)).toNat+(18446744073709551616*(((3691218898639771653:Int)).toNat+(18446744073709551616*(((8353516859464449352:Int)).toNat+(18446744073709551616*0)))))))):=by kernel_rfl
  rw[e]
  exact hd

def envB:Env:=envA.set (addT envA.fn 59 coreRSpec)
theorem envB_ok:EnvOk Tryz.prog envB:=
 env_add envA_ok 59 coreRSpec (enters_of Tryz.func59 rfl rfl) fun args o r es h ho=>by
  unfold coreRSpec at h
  split at h
  ·cases h;exact coreR_fnd
  ·cases h

--@env envB envB_ok
theorem red0 (a b c d:Int):fnRes envB Tryz.f92 3000 [.v (.a [.int .u64 a,.int .u64 b,.int .u64 c,.int .u64 d])] [true,true,true,true,false,true] [] []=(some ([((decide (0<(4:Int)))=true),(0≤(0:Int)),(0<(4:Int)),(0≤(0:Int)),(0<(4:Int)),(0<4),(0≤a),(0≤(18446744069414584321:Int)),((18446744069414584321:Int)<(18446744073709551616:Int)),(0≤(0:Int)),(0≤(1:Int)),(0≤(0:Int)),(0<(4:Int)),((decide ((1:Int)<(4:Int)))=true),(0≤(1:Int)),((1:Int)<(4:Int)),(0≤(1:Int)),((1:Int)<(4:Int)),(1<4),(0≤b),(0≤(6034159408538082302:Int)),((6034159408538082302:Int)<(18446744073709551616:Int)),(0≤(Prod.snd (exOut 1 a (18446744069414584321:Int) (0:Int)))),((Prod.snd (exOut 1 a (18446744069414584321:Int) (0:Int)))≤(1:Int)),(0≤(1:Int)),((1:Int)<(4:Int)),((decide ((2:Int)<(4:Int)))=true),(0≤(2:Int)),((2:Int)<(4:Int)),(0≤(2:Int)),((2:Int)<(4:Int)),(2<4),(0≤c),(0≤(3691218898639771653:Int)),((3691218898639771653:Int)<(18446744073709551616:Int)),(0≤(Prod.snd (exOut 1 b (6034159408538082302:Int) (Prod.snd (exOut 1 a (18446744069414584321:Int) (0:Int)))))),((Prod.snd (exOut 1 b (6034159408538082302:Int) (Prod.snd (exOut 1 a (18446744069414584321:Int) (0:Int)))))≤(1:Int)),(0≤(2:Int)),((2:Int)<(4:Int)),((decide ((3:Int)<(4:Int)))=true),(0≤(3:Int)),((3:Int)<(4:Int)),(0≤(3:Int)),((3:Int)<(4:Int)),(3<4),(0≤d),(0≤(8353516859464449352:Int)),((8353516859464449352:Int)<(18446744073709551616:Int)),(0≤(Prod.snd (exOut 1 c (3691218898639771653:Int) (Prod.snd (exOut 1 b (6034159408538082302:Int) (Prod.snd (exOut 1 a (18446744069414584321:Int) (0:Int)))))))),((Prod.snd (exOut 1 c (3691218898639771653:Int) (Prod.snd (exOut 1 b (6034159408538082302:Int) (Prod.snd (exOut 1 a (18446744069414584321:Int) (0:Int)))))))≤(1:Int)),(0≤(3:Int)),((3:Int)<(4:Int)),((decide ((4:Int)<(4:Int)))=false),(((Prod.snd (exOut 1 d (8353516859464449352:Int) (Prod.snd (exOut 1 c (3691218898639771653:Int) (Prod.snd (exOut 1 b (6034159408538082302:Int) (Prod.snd (exOut 1 a (18446744069414584321:Int) (0:Int))))))))) == (0:Int))=true)],((.v (.a [(.int .u64 (Prod.fst (exOut 1 a (18446744069414584321:Int) (0:Int)))),(.int .u64 (Prod.fst (exOut 1 b (6034159408538082302:Int) (Prod.snd (exOut 1 a (18446744069414584321:Int) (0:Int)))))),(.int .u64 (Prod.fst (exOut 1 c (3691218898639771653:Int) (Prod.snd (exOut 1 b (6034159408538082302:Int) (Prod.snd (exOut 1 a (18446744069414584321:Int) (0:Int)))))))),(.int .u64 (Prod.fst (exOut 1 d (8353516859464449352:Int) (Prod.snd (exOut 1 c (3691218898639771653:Int) (Prod.snd (exOut 1 b (6034159408538082302:Int) (Prod.snd (exOut 1 a (18446744069414584321:Int) (0:Int))))))))))])),[]))):=by kernel_rfl
theorem red1 (a b c d:Int):fnRes envB Tryz.f92 3000 [.v (.a [.int .u64 a,.int .u64 b,.int .u64 c,.int .u64 d])] [true,true,true,true,false,false] [] []=(some ([((decide (0<(4:Int)))=true),(0≤(0:Int)),(0<(4:Int)),(0≤(0:Int)),(0<(4:Int)),(0<4),(0≤a),(0≤(18446744069414584321:Int)),((18446744069414584321:Int)<(18446744073709551616:Int)),(0≤(0:Int)),(0≤(1:Int)),(0≤(0:Int)),(0<(4:Int)),((decide ((1:Int)<(4:Int)))=true),(0≤(1:Int)),((1:Int)<(4:Int)),(0≤(1:Int)),((1:Int)<(4:Int)),(1<4),(0≤b),(0≤(6034159408538082302:Int)),((6034159408538082302:Int)<(18446744073709551616:Int)),(0≤(Prod.snd (exOut 1 a (18446744069414584321:Int) (0:Int)))),((Prod.snd (exOut 1 a (18446744069414584321:Int) (0:Int)))≤(1:Int)),(0≤(1:Int)),((1:Int)<(4:Int)),((decide ((2:Int)<(4:Int)))=true),(0≤(2:Int)),((2:Int)<(4:Int)),(0≤(2:Int)),((2:Int)<(4:Int)),(2<4),(0≤c),(0≤(3691218898639771653:Int)),((3691218898639771653:Int)<(18446744073709551616:Int)),(0≤(Prod.snd (exOut 1 b (6034159408538082302:Int) (Prod.snd (exOut 1 a (18446744069414584321:Int) (0:Int)))))),((Prod.snd (exOut 1 b (6034159408538082302:Int) (Prod.snd (exOut 1 a (18446744069414584321:Int) (0:Int)))))≤(1:Int)),(0≤(2:Int)),((2:Int)<(4:Int)),((decide ((3:Int)<(4:Int)))=true),(0≤(3:Int)),((3:Int)<(4:Int)),(0≤(3:Int)),((3:Int)<(4:Int)),(3<4),(0≤d),(0≤(8353516859464449352:Int)),((8353516859464449352:Int)<(18446744073709551616:Int)),(0≤(Prod.snd (exOut 1 c (3691218898639771653:Int) (Prod.snd (exOut 1 b (6034159408538082302:Int) (Prod.snd (exOut 1 a (18446744069414584321:Int) (0:Int)))))))),((Prod.snd (exOut 1 c (3691218898639771653:Int) (Prod.snd (exOut 1 b (6034159408538082302:Int) (Prod.snd (exOut 1 a (18446744069414584321:Int) (0:Int)))))))≤(1:Int)),(0≤(3:Int)),((3:Int)<(4:Int)),((decide ((4:Int)<(4:Int)))=false),(((Prod.snd (exOut 1 d (8353516859464449352:Int) (Prod.snd (exOut 1 c (3691218898639771653:Int) (Prod.snd (exOut 1 b (6034159408538082302:Int) (Prod.snd (exOut 1 a (18446744069414584321:Int) (0:Int))))))))) == (0:Int))=false)],((.v (.a [(.int .u64 a),(.int .u64 b),(.int .u64 c),(.int .u64 d)])),[]))):=by kernel_rfl
end S4

namespace S4

def num4 (a b c d:Int):Int:=a+18446744073709551616*b+340282366920938463463374607431768211456*c+6277101735386680763835789423207666416102355444464034512896*d

def reducedSpec:FnSpec
 | [.v (.a [.int .u64 a,.int .u64 b,.int .u64 c,.int .u64 d])]=>some ([0≤a,a<18446744073709551616,0≤b,b<18446744073709551616,0≤c,c<18446744073709551616,0≤d,d<18446744073709551616,num4 a b c d<2*rN],.v (.a [.ob (.s (redS (num4 a b c d).toNat))]),[])
 | _=>none

theorem reduced_fnd (a b c d:Int) (ha:0≤a) (ha1:a<18446744073709551616) (hb:0≤b) (hb1:b<18446744073709551616) (hc:0≤c) (hc1:c<18446744073709551616) (hd:0≤d) (hd1:d<18446744073709551616) (hn:num4 a b c d<2*rN) :
  FnD Tryz.prog 92 [.v (.a [.int .u64 a,.int .u64 b,.int .u64 c,.int .u64 d])] (.v (.a [.ob (.s (redS (num4 a b c d).toNat))])) []:=by
 have r0:=red0 a b c d
 have r1:=red1 a b c d
 obtain ⟨e1,o1,o1',c1,c1'⟩:=sub_step (y:=18446744069414584321) (c:=0) ha ha1 (by decide) (by decide) (by decide) (by decide)
 obtain ⟨e2,o2,o2',c2,c2'⟩:=sub_step (y:=6034159408538082302) hb hb1 (by decide) (by decide) c1 c1'
 obtain ⟨e3,o3,o3',c3,c3'⟩:=sub_step (y:=3691218898639771653) hc hc1 (by decide) (by decide) c2 c2'
 obtain ⟨e4,o4,o4',c4,c4'⟩:=sub_step (y:=8353516859464449352) hd hd1 (by decide) (by decide) c3 c3'
 generalize hx1:exOut 1 a 18446744069414584321 0=x1 at *
 generalize hx2:exOut 1 b 6034159408538082302 x1.2=x2 at *
 generalize hx3:exOut 1 c 3691218898639771653 x2.2=x3 at *
 generalize hx4:exOut 1 d 8353516859464449352 x3.2=x4 at *
 clear hx1 hx2 hx3 hx4
 unfold num4 rN at hn
 have hnn:0≤num4 a b c d:=by unfold num4;omega
 have hN:((num4 a b c d).toNat:Int)=num4 a b c d:=Int.toNat_of_nonneg hnn
 by_cases hz:x4.2=0
 ·refine (fn_sound envB_ok Tryz.func92 r0 ?_).conv (fun _ _ h=>h) fun y v hv=>ints_ob rfl ?_ hv
  ·simp only[AllP,and_true,decide_eq_true_eq,decide_eq_false_iff_not,beq_iff_eq];omega
  ·refine limbsAre4 o1 o1' o2 o2' o3 o3' o4 o4' ?_
   have e:(Ob.s (redS (num4 a b c d).toNat)).n=(num4 a b c d).toNat-rN:=by
    rw[redS_n]
    have h1:rN≤(num4 a b c d).toNat:=by unfold rN num4;omega
    have h2:(num4 a b c d).toNat<2*rN:=by unfold rN num4;omega
    rw[Nat.mod_eq_sub_mod h1,Nat.mod_eq_of_lt (by omega)]
   rw[e]
   unfold rN num4
   omega
 ·refine (fn_sound envB_ok Tryz.func92 r1 ?_).conv (fun _ _ h=>h) fun y v hv=>ints_ob rfl ?_ hv
  ·simp only[AllP,and_true,decide_eq_true_eq,decide_eq_false_iff_not,beq_eq_false_iff_ne];omega
  ·refine limbsAre4 ha ha1 hb hb1 hc hc1 hd hd1 ?_
   have e:(Ob.s (redS (num4 a b c d).toNat)).n=(num4 a b c d).toNat:=by
    rw[redS_n]
    exact Nat.mod_eq_of_lt (by unfold rN num4;omega)
   rw[e,hN]
   rfl

end S4

end
end Go.Proofs.YtefimjofjjdndaaGreat
