/- Parts of a proof, one behind the other: Ty, WMul, PMul, WSred, PSred, WStim, PStim, WSrdc, PSrdc, WSprd, PSprd, PSprl, WSio, PSio, WSpls, PSpls, WSfr, WRef, PRef, WRefM, PRefM, WClean, PClean, WLa, DWa, DPa, DWb, PLa, DPb, DWc, WVa. No conditions. -/
import Derived.Test.YtifiiigbedjceaaProg
import Derived.Test.YtifiiigbedjceaaSkK
open Go.IntKind (wrap)
namespace Go.Proofs.Ytifiiigbedjceaa
noncomputable section
section

set_option maxRecDepth 10000 in
def A4q:List (Nat×TyI):=[
 (2,⟨1,false,8,[.int .i64 0],[],none,none,(some .i64),none,[true]⟩),
 (3,⟨1,false,8,[.int .i64 0],[],none,none,(some .i64),(some (.int [])),[true]⟩),
 (4,⟨1,false,1,[.lit false],[],none,none,none,none,[false]⟩),
 (5,⟨1,false,1,[.int .u8 0],[],none,none,(some .u8),none,[true]⟩),
 (19,⟨1,true,8,[.val (.pointer none)],[(0,1,false)],none,none,none,none,[]⟩),
 (21,⟨1,false,4,[.int .i32 0],[],none,none,(some .i32),none,[true]⟩),
 (22,⟨1,false,24,[.val (.slice none 0 0)],[],none,(some 71),none,none,[]⟩),
 (23,⟨3,true,40,[.sl (.gate []),.int .i64 0,.int .i64 0],[(0,1,false),(1,1,false),(2,1,false)],none,none,none,none,[]⟩),
 (24,⟨3,true,40,[.sl (.gate []),.int .i64 0,.int .i64 0],[(0,1,false),(1,1,false),(2,1,false)],none,none,none,none,[]⟩),
 (25,⟨1,false,24,[.val (.slice none 0 0)],[],none,(some 40),none,none,[]⟩),
 (26,⟨1,false,8,[.int .u64 0],[],none,none,(some .u64),(some (.u64 [])),[true]⟩),
 (27,⟨6,true,48,[.int .u64 0,.int .u64 0,.int .u64 0,.int .u64 0,.int .u64 0,.int .u64 0],[],(some (6,26)),none,none,none,[true,true,true,true,true,true]⟩),
 (28,⟨6,true,48,[.ob (.fp 0)],[],(some (6,26)),none,none,none,[true,true,true,true,true,true]⟩),
 (29,⟨12,true,96,[.ob (.fp 0),.ob (.fp 0)],[(0,6,true),(6,6,true)],none,none,none,none,[true,true,true,true,true,true,true,true,true,true,true,true]⟩),
 (30,⟨12,true,96,[.ob (.fp 0),.ob (.fp 0)],[(0,6,true),(6,6,true)],none,none,none,none,[true,true,true,true,true,true,true,true,true,true,true,true]⟩),
 (31,⟨25,true,200,[.ob (.fp 0),.ob (.fp 0),.ob (.fp 0),.ob (.fp 0),.lit false],[(0,12,true),(12,12,true),(24,1,false)],none,none,none,none,[true,true,true,true,true,true,true,true,true,true,true,true,true,true,true,true,true,true,true,true,true,true,true,true,false]⟩),
 (32,⟨25,true,200,[.ob (.fp 0),.ob (.fp 0),.ob (.fp 0),.ob (.fp 0),.lit false],[(0,12,true),(12,12,true),(24,1,false)],none,none,none,(some (.g2 [])),[true,true,true,true,true,true,true,true,true,true,true,true,true,true,true,true,true,true,true,true,true,true,true,true,false]⟩),
 (33,⟨26,true,224,[.sl (.g1 []),.ob (.fp 0),.ob (.fp 0),.ob (.fp 0),.ob (.fp 0),.lit false],[(0,1,false),(1,25,true)],none,none,none,none,[]⟩),
 (34,⟨26,true,224,[.sl (.g1 []),.ob (.fp 0),.ob (.fp 0),.ob (.fp 0),.ob (.fp 0),.lit false],[(0,1,false),(1,25,true)],none,none,none,none,[]⟩),
 (36,⟨1,false,24,[.val (.slice none 0 0)],[],none,(some 54),none,(some (.frs [])),[]⟩),
 (37,⟨5,true,120,[.val (.slice none 0 0),.val (.slice none 0 0),.val (.slice none 0 0),.val (.slice none 0 0),.val (.slice none 0 0)],[],(some (5,36)),none,none,none,[]⟩),
 (38,⟨3,true,72,[.val (.slice none 0 0),.val (.slice none 0 0),.val (.slice none 0 0)],[],(some (3,36)),none,none,none,[]⟩),
 (39,⟨13,true,104,[.ob (.fp 0),.ob (.fp 0),.lit false],[(0,6,true),(6,6,true),(12,1,false)],none,none,none,none,[true,true,true,true,true,true,true,true,true,true,true,true,false]⟩),
 (40,⟨13,true,104,[.ob (.fp 0),.ob (.fp 0),.lit false],[(0,6,true),(6,6,true),(12,1,false)],none,none,none,(some (.g1 [])),[true,true,true,true,true,true,true,true,true,true,true,true,false]⟩),
 (41,⟨65,true,520,[.ob (.fp 0),.ob (.fp 0),.lit false,.ob (.fp 0),.ob (.fp 0),.lit false,.ob (.fp 0),.ob (.fp 0),.lit false,.ob (.fp 0),.ob (.fp 0),.lit false,.ob (.fp 0),.ob (.fp 0),.lit false],[],(some (5,40)),none,none,none,[true,true,true,true,true,true,true,true,true,true,true,true,false,true,true,true,true,true,true,true,true,true,true,true,true,false,true,true,true,true,true,true,true,true,true,true,true,true,false,true,true,true,true,true,true,true,true,true,true,true,true,false,true,true,true,true,true,true,true,true,true,true,true,true,false]⟩),
 (42,⟨39,true,312,[.ob (.fp 0),.ob (.fp 0),.lit false,.ob (.fp 0),.ob (.fp 0),.lit false,.ob (.fp 0),.ob (.fp 0),.lit false],[],(some (3,40)),none,none,none,[true,true,true,true,true,true,true,true,true,true,true,true,false,true,true,true,true,true,true,true,true,true,true,true,true,false,true,true,true,true,true,true,true,true,true,true,true,true,false]⟩),
 (43,⟨131,true,1048,[.int .i64 0,.int .i64 0,.ob (.fp 0),.ob (.fp 0),.lit false,.ob (.fp 0),.ob (.fp 0),.lit false,.ob (.fp 0),.ob (.fp 0),.lit false,.ob (.fp 0),.ob (.fp 0),.lit false,.ob (.fp 0),.ob (.fp 0),.lit false,.ob (.fp 0),.ob (.fp 0),.lit false,.ob (.fp 0),.ob (.fp 0),.lit false,.ob (.fp 0),.ob (.fp 0),.lit false,.ob (.fp 0),.ob (.fp 0),.ob (.fp 0),.ob (.fp 0),.lit false],[(0,1,false),(1,1,false),(2,65,true),(67,39,true),(106,25,true)],none,none,none,none,[true,true,true,true,true,true,true,true,true,true,true,true,true,true,false,true,true,true,true,true,true,true,true,true,true,true,true,false,true,true,true,true,true,true,true,true,true,true,true,true,false,true,true,true,true,true,true,true,true,true,true,true,true,false,true,true,true,true,true,true,true,true,true,true,true,true,false,true,true,true,true,true,true,true,true,true,true,true,true,false,true,true,true,true,true,true,true,true,true,true,true,true,false,true,true,true,true,true,true,true,true,true,true,true,true,false,true,true,true,true,true,true,true,true,true,true,true,true,true,true,true,true,true,true,true,true,true,true,true,true,false]⟩),
 (44,⟨131,true,1048,[.int .i64 0,.int .i64 0,.ob (.fp 0),.ob (.fp 0),.lit false,.ob (.fp 0),.ob (.fp 0),.lit false,.ob (.fp 0),.ob (.fp 0),.lit false,.ob (.fp 0),.ob (.fp 0),.lit false,.ob (.fp 0),.ob (.fp 0),.lit false,.ob (.fp 0),.ob (.fp 0),.lit false,.ob (.fp 0),.ob (.fp 0),.lit false,.ob (.fp 0),.ob (.fp 0),.lit false,.ob (.fp 0),.ob (.fp 0),.ob (.fp 0),.ob (.fp 0),.lit false],[(0,1,false),(1,1,false),(2,65,true),(67,39,true),(106,25,true)],none,none,none,none,[true,true,true,true,true,true,true,true,true,true,true,true,true,true,false,true,true,true,true,true,true,true,true,true,true,true,true,false,true,true,true,true,true,true,true,true,true,true,true,true,false,true,true,true,true,true,true,true,true,true,true,true,true,false,true,true,true,true,true,true,true,true,true,true,true,true,false,true,true,true,true,true,true,true,true,true,true,true,true,false,true,true,true,true,true,true,true,true,true,true,true,true,false,true,true,true,true,true,true,true,true,true,true,true,true,false,true,true,true,true,true,true,true,true,true,true,true,true,true,true,true,true,true,true,true,true,true,true,true,true,false]⟩),
 (45,⟨167,true,1480,[.int .i64 0,.int .i64 0,.val (.slice none 0 0),.val (.slice none 0 0),.val (.slice none 0 0),.val (.slice none 0 0),.val (.slice none 0 0),.val (.slice none 0 0),.val (.slice none 0 0),.val (.slice none 0 0),.sl (.g1 []),.ob (.fp 0),.ob (.fp 0),.ob (.fp 0),.ob (.fp 0),.lit false,.int .i64 0,.int .i64 0,.ob (.fp 0),.ob (.fp 0),.lit false,.ob (.fp 0),.ob (.fp 0),.lit false,.ob (.fp 0),.ob (.fp 0),.lit false,.ob (.fp 0),.ob (.fp 0),.lit false,.ob (.fp 0),.ob (.fp 0),.lit false,.ob (.fp 0),.ob (.fp 0),.lit false,.ob (.fp 0),.ob (.fp 0),.lit false,.ob (.fp 0),.ob (.fp 0),.lit false,.ob (.fp 0),.ob (.fp 0),.ob (.fp 0),.ob (.fp 0),.lit false],[(0,1,false),(1,1,false),(2,5,true),(7,3,true),(10,26,true),(36,131,true)],none,none,none,none,[]⟩),
 (46,⟨167,true,1480,[.int .i64 0,.int .i64 0,.val (.slice none 0 0),.val (.slice none 0 0),.val (.slice none 0 0),.val (.slice none 0 0),.val (.slice none 0 0),.val (.slice none 0 0),.val (.slice none 0 0),.val (.slice none 0 0),.sl (.g1 []),.ob (.fp 0),.ob (.fp 0),.ob (.fp 0),.ob (.fp 0),.lit false,.int .i64 0,.int .i64 0,.ob (.fp 0),.ob (.fp 0),.lit false,.ob (.fp 0),.ob (.fp 0),.lit false,.ob (.fp 0),.ob (.fp 0),.lit false,.ob (.fp 0),.ob (.fp 0),.lit false,.ob (.fp 0),.ob (.fp 0),.lit false,.ob (.fp 0),.ob (.fp 0),.lit false,.ob (.fp 0),.ob (.fp 0),.lit false,.ob (.fp 0),.ob (.fp 0),.lit false,.ob (.fp 0),.ob (.fp 0),.ob (.fp 0),.ob (.fp 0),.lit false],[(0,1,false),(1,1,false),(2,5,true),(7,3,true),(10,26,true),(36,131,true)],none,none,none,none,[]⟩),
 (47,⟨1,false,8,[.int .i64 0],[],none,none,(some .i64),none,[true]⟩),
 (53,⟨4,true,32,[.int .u64 0,.int .u64 0,.int .u64 0,.int .u64 0],[],(some (4,26)),none,none,none,[true,true,true,true]⟩),
 (54,⟨4,true,32,[.ob (.fr 0)],[],(some (4,26)),none,none,(some (.fr [])),[true,true,true,true]⟩),
 (55,⟨5,true,40,[.int .i64 0,.ob (.fr 0)],[(0,1,false),(1,4,true)],none,none,none,none,[true,true,true,true,true]⟩),
 (56,⟨5,true,40,[.int .i64 0,.ob (.fr 0)],[(0,1,false),(1,4,true)],none,none,none,none,[true,true,true,true,true]⟩),
 (69,⟨3,true,24,[.int .i64 0,.int .i64 0,.int .i64 0],[],(some (3,3)),none,none,none,[true,true,true]⟩),
 (70,⟨23,true,184,[.ob (.fr 0),.ob (.fr 0),.ob (.fr 0),.ob (.fr 0),.ob (.fr 0),.int .i64 0,.int .i64 0,.int .i64 0],[(0,4,true),(4,4,true),(8,4,true),(12,4,true),(16,4,true),(20,3,true)],none,none,none,none,[true,true,true,true,true,true,true,true,true,true,true,true,true,true,true,true,true,true,true,true,true,true,true]⟩),
 (71,⟨23,true,184,[.ob (.fr 0),.ob (.fr 0),.ob (.fr 0),.ob (.fr 0),.ob (.fr 0),.int .i64 0,.int .i64 0,.int .i64 0],[(0,4,true),(4,4,true),(8,4,true),(12,4,true),(16,4,true),(20,3,true)],none,none,none,(some (.gate [])),[true,true,true,true,true,true,true,true,true,true,true,true,true,true,true,true,true,true,true,true,true,true,true]⟩),
 (73,⟨20,true,160,[.ob (.fr 0),.ob (.fr 0),.ob (.fr 0),.ob (.fr 0),.ob (.fr 0)],[],(some (5,54)),none,none,none,[true,true,true,true,true,true,true,true,true,true,true,true,true,true,true,true,true,true,true,true]⟩),
 (78,⟨4,true,32,[.ob (.s 0)],[],(some (4,26)),none,none,(some (.s [])),[true,true,true,true]⟩),
 (84,⟨1,false,24,[.val (.slice none 0 0)],[],none,(some 78),none,none,[]⟩),
 (90,⟨1,false,24,[.val (.slice none 0 0)],[],none,(some 98),none,none,[]⟩),
 (91,⟨3,true,72,[.val (.slice none 0 0),.val (.slice none 0 0),.val (.slice none 0 0)],[],(some (3,90)),none,none,none,[]⟩),
 (94,⟨3,true,72,[.val (.slice none 0 0),.val (.slice none 0 0),.val (.slice none 0 0)],[],(some (3,84)),none,none,none,[]⟩),
 (97,⟨2,true,16,[.int .i64 0,.int .i64 0],[(0,1,false),(1,1,false)],none,none,none,none,[true,true]⟩),
 (98,⟨2,true,16,[.int .i64 0,.int .i64 0],[(0,1,false),(1,1,false)],none,none,none,(some (.place [])),[true,true]⟩),
 (101,⟨1,false,24,[.val (.slice none 0 0)],[],none,(some 3),none,(some (.ints [])),[]⟩),
 (108,⟨1,false,24,[.val (.slice none 0 0)],[],none,(some 26),none,none,[]⟩),
 (119,⟨6,true,48,[.ob (.p 0)],[],(some (6,26)),none,none,none,[true,true,true,true,true,true]⟩),
 (120,⟨18,true,144,[.ob (.p 0),.ob (.p 0),.ob (.p 0)],[(0,6,true),(6,6,true),(12,6,true)],none,none,none,none,[true,true,true,true,true,true,true,true,true,true,true,true,true,true,true,true,true,true]⟩),
 (121,⟨18,true,144,[.ob (.p 0),.ob (.p 0),.ob (.p 0)],[(0,6,true),(6,6,true),(12,6,true)],none,none,none,(some (.pt [])),[true,true,true,true,true,true,true,true,true,true,true,true,true,true,true,true,true,true]⟩),
 (123,⟨1,false,24,[.val (.slice none 0 0)],[],none,(some 121),none,none,[]⟩),
 (127,⟨1,false,8,[.val (.map none)],[],none,none,none,none,[]⟩),
 (138,⟨1,false,8,[.int .u64 0],[],none,none,(some .u64),none,[true]⟩),
 (139,⟨10,true,80,[.int .u64 0,.int .u64 0,.int .u64 0,.int .u64 0,.int .u64 0,.int .u64 0,.int .u64 0,.int .u64 0,.int .u64 0,.int .u64 0],[],(some (10,26)),none,none,none,[true,true,true,true,true,true,true,true,true,true]⟩),
 (150,⟨1,false,24,[.val (.slice none 0 0)],[],none,(some 101),none,none,[]⟩),
 (158,⟨8,true,64,[.int .u64 0,.int .u64 0,.int .u64 0,.int .u64 0,.int .u64 0,.int .u64 0,.int .u64 0,.int .u64 0],[],(some (8,26)),none,none,none,[true,true,true,true,true,true,true,true]⟩),
 (163,⟨306,true,2448,[.ob (.p 0),.ob (.p 0),.ob (.p 0),.ob (.p 0),.ob (.p 0),.ob (.p 0),.ob (.p 0),.ob (.p 0),.ob (.p 0),.ob (.p 0),.ob (.p 0),.ob (.p 0),.ob (.p 0),.ob (.p 0),.ob (.p 0),.ob (.p 0),.ob (.p 0),.ob (.p 0),.ob (.p 0),.ob (.p 0),.ob (.p 0),.ob (.p 0),.ob (.p 0),.ob (.p 0),.ob (.p 0),.ob (.p 0),.ob (.p 0),.ob (.p 0),.ob (.p 0),.ob (.p 0),.ob (.p 0),.ob (.p 0),.ob (.p 0),.ob (.p 0),.ob (.p 0),.ob (.p 0),.ob (.p 0),.ob (.p 0),.ob (.p 0),.ob (.p 0),.ob (.p 0),.ob (.p 0),.ob (.p 0),.ob (.p 0),.ob (.p 0),.ob (.p 0),.ob (.p 0),.ob (.p 0),.ob (.p 0),.ob (.p 0),.ob (.p 0)],[],(some (17,121)),none,none,none,[]⟩),
 (164,⟨306,true,2448,[.ob (.p 0),.ob (.p 0),.ob (.p 0),.ob (.p 0),.ob (.p 0),.ob (.p 0),.ob (.p 0),.ob (.p 0),.ob (.p 0),.ob (.p 0),.ob (.p 0),.ob (.p 0),.ob (.p 0),.ob (.p 0),.ob (.p 0),.ob (.p 0),.ob (.p 0),.ob (.p 0),.ob (.p 0),.ob (.p 0),.ob (.p 0),.ob (.p 0),.ob (.p 0),.ob (.p 0),.ob (.p 0),.ob (.p 0),.ob (.p 0),.ob (.p 0),.ob (.p 0),.ob (.p 0),.ob (.p 0),.ob (.p 0),.ob (.p 0),.ob (.p 0),.ob (.p 0),.ob (.p 0),.ob (.p 0),.ob (.p 0),.ob (.p 0),.ob (.p 0),.ob (.p 0),.ob (.p 0),.ob (.p 0),.ob (.p 0),.ob (.p 0),.ob (.p 0),.ob (.p 0),.ob (.p 0),.ob (.p 0),.ob (.p 0),.ob (.p 0)],[],(some (17,121)),none,none,none,[]⟩),
 (167,⟨1,false,8,[.val (.pointer none)],[],none,none,none,none,[]⟩),
 (175,⟨1,false,4,[.int .u32 0],[],none,none,(some .u32),none,[true]⟩),
 (179,⟨1,false,8,[.val (.pointer none)],[],none,none,none,none,[]⟩)]

theorem D5x:(A4q.all fun r=>A4p Try.prog r.1 r.2)=true:=by kernel_rfl

theorem mixed:Try.prog.follows .mixedOrders=true:=by kernel_rfl

def E5b (f:Nat):Option Func:=
 if f=36 then some Try.f36 else
 if f=37 then some Try.f37 else
 if f=38 then some Try.f38 else
 if f=39 then some Try.f39 else
 if f=45 then some Try.f45 else
 if f=61 then some Try.f61 else
 if f=67 then some Try.f67 else
 if f=68 then some Try.f68 else
 if f=73 then some Try.f73 else
 none

theorem F9p:∀f fn,E5b f=some fn->Try.prog.funcs[f]? = some fn∧Z6 Try.prog f:=by
 intro f fn h;unfold E5b at h;split at h
 ·rename_i hf;cases h;subst hf;exact ⟨Try.func36,A4 Try.func36 rfl rfl⟩
 split at h
 ·rename_i hf;cases h;subst hf;exact ⟨Try.func37,A4 Try.func37 rfl rfl⟩
 split at h
 ·rename_i hf;cases h;subst hf;exact ⟨Try.func38,A4 Try.func38 rfl rfl⟩
 split at h
 ·rename_i hf;cases h;subst hf;exact ⟨Try.func39,A4 Try.func39 rfl rfl⟩
 split at h
 ·rename_i hf;cases h;subst hf;exact ⟨Try.func45,A4 Try.func45 rfl rfl⟩
 split at h
 ·rename_i hf;cases h;subst hf;exact ⟨Try.func61,A4 Try.func61 rfl rfl⟩
 split at h
 ·rename_i hf;cases h;subst hf;exact ⟨Try.func67,A4 Try.func67 rfl rfl⟩
 split at h
 ·rename_i hf;cases h;subst hf;exact ⟨Try.func68,A4 Try.func68 rfl rfl⟩
 split at h
 ·rename_i hf;cases h;subst hf;exact ⟨Try.func73,A4 Try.func73 rfl rfl⟩
 cases h

def F9i (f:Nat):Option Nat:=
 if f=41 then some 0 else if f=69 then some 1 else none

theorem G4s:∀f k,F9i f=some k->∀(x y c:Int) (w:World),0<=x->0<=y->y<18446744073709551616->0<=c->c<=1 ->
  (callFunc f #[.int .u64 x,.int .u64 y,.int .u64 c]).run Try.prog w = .ok (.value (.tuple #[.int .u64 (A2 k x y c).1,.int .u64 (A2 k x y c).2])) w:=by
 intro f k h x y c w h1 h2 h3 h4 h5;unfold F9i at h;split at h
 ·rename_i hf;cases h;subst hf;exact F9j Try.func41 rfl rfl (by kernel_rfl) (by kernel_rfl) x y c w h1 h2 h4 h5
 split at h
 ·rename_i hf;cases h;subst hf;exact F9k Try.func69 rfl rfl (by kernel_rfl) (by kernel_rfl) x y c w h1 h2 h3 h4 h5
 cases h

def X3:Env:=⟨D1u A4q,fun _=>none,fun _=>none,E5b,F9i,fun _=>none⟩

theorem G4:A6 Try.prog X3:=
 ⟨fun t i h=>Z5 A4q D5x t i h,mixed,fun f s h=>(by cases h),fun f s h=>(by cases h),F9p,G4s,fun t l h=>(by cases h)⟩

end

section

theorem G1a (x y:Int):let b:Int:=4294967296;let d:Int:=4294967295;let f:=0<=(32:Int);let g:=E7 BinOp.and IntKind.u64 y d;let h:=E7 BinOp.and IntKind.u64 x d;let i:=Int.fdiv x b;let a:=wrap .u64 ((wrap .u64 (i*g))+(Int.fdiv (wrap .u64 (h*g)) b));let j:=Int.fdiv y b;C9 X3 Try.f40 3000 [.v (.c (.int .u64 x)),.v (.c (.int .u64 y))] [] [] []=(some ([f,f,f,f,f],((.t [(.c (.int .u64 (wrap .u64 ((wrap .u64 ((wrap .u64 (i*j))+(Int.fdiv a b)))+(Int.fdiv (wrap .u64 ((E7 BinOp.and IntKind.u64 a d)+(wrap .u64 (h*j)))) b))))),(.c (.int .u64 (wrap .u64 (x*y))))]),[]))):=by intros;kernel_rfl
end

section

theorem B1x (n:Int):wrap IntKind.u64 n=n % 18446744073709551616:=rfl

theorem E3a {x:Int} (h:0<=x):E7 BinOp.and IntKind.u64 x (4294967295:Int)=x % 4294967296:=by
 obtain ⟨n,rfl⟩:=Int.eq_ofNat_of_zero_le h;show wrap IntKind.u64 ((BitVec.ofInt 64 (n:Int) &&& BitVec.ofInt 64 ((4294967295:Nat):Int)).toNat:Int)=_;rw[BitVec.ofInt_natCast,BitVec.ofInt_natCast,BitVec.toNat_and,BitVec.toNat_ofNat,BitVec.toNat_ofNat];have e:4294967295 % 2 ^ 64=2 ^ 32-1:=by decide
 rw[e,Nat.and_two_pow_sub_one_eq_mod,B1x];omega

theorem G7a (x:Int):Int.fdiv x 4294967296=x / 4294967296:=by
 exact Int.fdiv_eq_ediv_of_nonneg x (by decide)

theorem D7j {a b:Int} (ha:0<=a) (ha1:a<4294967296) (hb:0<=b) (hb1:b<4294967296):0<=a*b∧a*b<=18446744065119617025:=by
 refine ⟨Int.mul_nonneg ha hb,?_⟩
 have:a*b<=4294967295*4294967295:=Int.mul_le_mul (by omega) (by omega) hb (by decide)
 omega

/-- Four products of halves. -/
theorem E4w {x y:Int}:x*y=(x / 4294967296)*(y / 4294967296)*18446744073709551616+((x / 4294967296)*(y % 4294967296)+(x % 4294967296)*(y / 4294967296))*4294967296+(x % 4294967296)*(y % 4294967296):=by
 have hx:x=4294967296*(x / 4294967296)+x % 4294967296:=(Int.mul_ediv_add_emod x 4294967296).symm;have hy:y=4294967296*(y / 4294967296)+y % 4294967296:=(Int.mul_ediv_add_emod y 4294967296).symm;generalize x / 4294967296=a at *;generalize x % 4294967296=b at *;generalize y / 4294967296=c at *;generalize y % 4294967296=d at *;subst hx hy;simp only[Int.add_mul,Int.mul_add];have e1:4294967296*a*(4294967296*c)=a*c*18446744073709551616:=by
  rw[Int.mul_assoc,Int.mul_left_comm a];omega
 have e2:4294967296*a*d=a*d*4294967296:=by rw[Int.mul_assoc];omega
 have e3:b*(4294967296*c)=b*c*4294967296:=by rw[Int.mul_left_comm];omega
 rw[e1,e2,e3];omega

theorem C2w (x y:Int) (hx:0<=x) (hx1:x<18446744073709551616) (hy:0<=y) (hy1:y<18446744073709551616) :
  FnD Try.prog 40 [.v (.c (.int .u64 x)),.v (.c (.int .u64 y))] (.t [.c (.int .u64 (x*y / 18446744073709551616)),.c (.int .u64 (x*y % 18446744073709551616))]) []:=by
 refine (A7 G4 Try.func40 (G1a x y) (by simp [A3])).conv (fun _ _ h=>h) (fun z w hd=>?_)
 simp only[G7a] at hd;have hx2:0<=x / 4294967296∧x / 4294967296<4294967296:=by omega
 have hy2:0<=y / 4294967296∧y / 4294967296<4294967296:=by omega
 have hx3:0<=x % 4294967296∧x % 4294967296<4294967296:=by omega
 have hy3:0<=y % 4294967296∧y % 4294967296<4294967296:=by omega
 rw[E3a hx,E3a hy] at hd;have h:=E4w (x:=x) (y:=y);have m1:=D7j hx2.1 hx2.2 hy2.1 hy2.2;have m2:=D7j hx2.1 hx2.2 hy3.1 hy3.2;have m3:=D7j hx3.1 hx3.2 hy2.1 hy2.2;have m4:=D7j hx3.1 hx3.2 hy3.1 hy3.2;generalize x / 4294967296*(y / 4294967296)=d at *;generalize x / 4294967296*(y % 4294967296)=b at *;generalize x % 4294967296*(y / 4294967296)=c at *;generalize x % 4294967296*(y % 4294967296)=a at *;generalize x*y=n at *;simp only[B1x] at hd;rw[E3a (by omega)] at hd
 have e:(((d % 18446744073709551616+(b % 18446744073709551616+a % 18446744073709551616 / 4294967296) % 18446744073709551616 / 4294967296) % 18446744073709551616+((b % 18446744073709551616+a % 18446744073709551616 / 4294967296) % 18446744073709551616 % 4294967296+c % 18446744073709551616) % 18446744073709551616 / 4294967296) % 18446744073709551616)=n / 18446744073709551616:=by omega
 rw[e] at hd;exact hd

end

namespace S4

def X6:B7
 | [.v (.c (.int .u64 x)),.v (.c (.int .u64 y))]=>some ([0<=x,x<18446744073709551616,0<=y,y<18446744073709551616],.t [.c (.int .u64 (x*y / 18446744073709551616)),.c (.int .u64 (x*y % 18446744073709551616))],[])
 | _=>none

def F2v:Env:=X3.set (E8 X3.fn 40 X6)
theorem D6u:A6 Try.prog F2v:=
 A9 G4 40 X6 (A4 Try.func40 rfl rfl) fun args o r es h ho=>by
  unfold X6 at h;split at h
  ·cases h;exact C2w _ _ ho.1 ho.2.1 ho.2.2.1 ho.2.2.2.1
  ·cases h

theorem G4o  : C9 F2v Try.f43 3000 [] [] [] []=(some ([(0<=(18446744069414584321:Int)),((18446744069414584321:Int)<(18446744073709551616:Int)),(0<=(6034159408538082302:Int)),((6034159408538082302:Int)<(18446744073709551616:Int)),(0<=(3691218898639771653:Int)),((3691218898639771653:Int)<(18446744073709551616:Int)),(0<=(8353516859464449352:Int)),((8353516859464449352:Int)<(18446744073709551616:Int))],((.v (.a [(.ob (.fr (Fin.ofNat B4 52435875175126190479447740508185965837690552500527637822603658699938581184513)))])),[]))):=by kernel_rfl

def rU:U4:=Fin.ofNat B4 rN
def A0u:B7
 | []=>some ([],.v (.a [.ob (.fr rU)]),[])
 | _=>none

theorem D9p:FnD Try.prog 43 [] (.v (.a [.ob (.fr rU)])) []:=
 (A7 D6u Try.func43 G4o (by simp [A3])).conv (fun _ _ h=>h) fun y v hd=>by
  have e:rU=Fin.ofNat B4 (((18446744069414584321:Int)).toNat+(18446744073709551616*(((6034159408538082302:Int)).toNat+(18446744073709551616*(((3691218898639771653:Int)).toNat+(18446744073709551616*(((8353516859464449352:Int)).toNat+(18446744073709551616*0)))))))):=by kernel_rfl
  rw[e];exact hd

def E4f:Env:=F2v.set (E8 F2v.fn 43 A0u)
theorem C4v:A6 Try.prog E4f:=
 A9 D6u 43 A0u (A4 Try.func43 rfl rfl) fun args o r es h ho=>by
  unfold A0u at h;split at h
  ·cases h;exact D9p
  ·cases h

theorem G2w (a b c d:Int):let i:Int:=4;let j:Int:=18446744073709551616;let k:Int:=8353516859464449352;let l:Int:=1;let m:Int:=18446744069414584321;let n:Int:=6034159408538082302;let o:Int:=3691218898639771653;let p:Int:=2;let q:Int:=3;let s:Int:=0;let h:=A2 1 a m s;let t:=Prod.snd h;let f:=A2 1 b n t;let u:=Prod.snd f;let g:=A2 1 c o u;let r:=Prod.snd g;C9 E4f Try.f42 3000 [.v (.a [.int .u64 a,.int .u64 b,.int .u64 c,.int .u64 d])] [true,true,true,true,false,true] [] []=(some ([((decide (0<i))=true),(0<=s),(0<i),(0<=s),(0<i),(0<4),(0<=a),(0<=m),(m<j),(0<=s),(0<=l),(0<=s),(0<i),((decide (l<i))=true),(0<=l),(l<i),(0<=l),(l<i),(1<4),(0<=b),(0<=n),(n<j),(0<=t),(t<=l),(0<=l),(l<i),((decide (p<i))=true),(0<=p),(p<i),(0<=p),(p<i),(2<4),(0<=c),(0<=o),(o<j),(0<=u),(u<=l),(0<=p),(p<i),((decide (q<i))=true),(0<=q),(q<i),(0<=q),(q<i),(3<4),(0<=d),(0<=k),(k<j),(0<=r),(r<=l),(0<=q),(q<i),((decide (i<i))=false),(((Prod.snd (A2 1 d k r)) == s)=true)],((.v (.a [(.int .u64 (Prod.fst h)),(.int .u64 (Prod.fst f)),(.int .u64 (Prod.fst g)),(.int .u64 (Prod.fst (A2 1 d k r)))])),[]))):=by intros;kernel_rfl
theorem G2x (a b c d:Int):let h:Int:=4;let i:Int:=3691218898639771653;let j:Int:=18446744073709551616;let k:Int:=1;let l:Int:=18446744069414584321;let m:Int:=6034159408538082302;let n:Int:=8353516859464449352;let p:Int:=2;let q:Int:=3;let r:Int:=0;let g:=Prod.snd (A2 1 a l r);let f:=Prod.snd (A2 1 b m g);let o:=Prod.snd (A2 1 c i f);C9 E4f Try.f42 3000 [.v (.a [.int .u64 a,.int .u64 b,.int .u64 c,.int .u64 d])] [true,true,true,true,false,false] [] []=(some ([((decide (0<h))=true),(0<=r),(0<h),(0<=r),(0<h),(0<4),(0<=a),(0<=l),(l<j),(0<=r),(0<=k),(0<=r),(0<h),((decide (k<h))=true),(0<=k),(k<h),(0<=k),(k<h),(1<4),(0<=b),(0<=m),(m<j),(0<=g),(g<=k),(0<=k),(k<h),((decide (p<h))=true),(0<=p),(p<h),(0<=p),(p<h),(2<4),(0<=c),(0<=i),(i<j),(0<=f),(f<=k),(0<=p),(p<h),((decide (q<h))=true),(0<=q),(q<h),(0<=q),(q<h),(3<4),(0<=d),(0<=n),(n<j),(0<=o),(o<=k),(0<=q),(q<h),((decide (h<h))=false),(((Prod.snd (A2 1 d n o)) == r)=false)],((.v (.a [(.int .u64 a),(.int .u64 b),(.int .u64 c),(.int .u64 d)])),[]))):=by intros;kernel_rfl
end S4

namespace S4

def D8 (a b c d:Int):Int:=a+18446744073709551616*b+340282366920938463463374607431768211456*c+6277101735386680763835789423207666416102355444464034512896*d

def lim (a:Int):Prop:=0<=a∧a<18446744073709551616

def A5y:B7
 | [.v (.a [.int .u64 a,.int .u64 b,.int .u64 c,.int .u64 d])]=>some ([0<=a,a<18446744073709551616,0<=b,b<18446744073709551616,0<=c,c<18446744073709551616,0<=d,d<18446744073709551616,D8 a b c d<2*rN],.v (.a [.ob (.s (C1k (D8 a b c d).toNat))]),[])
 | _=>none

theorem D1b (a b c d:Int) (ha:0<=a) (ha1:a<18446744073709551616) (hb:0<=b) (hb1:b<18446744073709551616) (hc:0<=c) (hc1:c<18446744073709551616) (hd:0<=d) (hd1:d<18446744073709551616) (hn:D8 a b c d<2*rN) :
  FnD Try.prog 42 [.v (.a [.int .u64 a,.int .u64 b,.int .u64 c,.int .u64 d])] (.v (.a [.ob (.s (C1k (D8 a b c d).toNat))])) []:=by
 have r0:=G2w a b c d;dsimp only at r0;have r1:=G2x a b c d;dsimp only at r1;obtain ⟨e1,o1,o1',c1,c1'⟩:=E5 (y:=18446744069414584321) (c:=0) ha ha1 (by decide) (by decide) (by decide) (by decide)
 obtain ⟨e2,o2,o2',c2,c2'⟩:=E5 (y:=6034159408538082302) hb hb1 (by decide) (by decide) c1 c1'
 obtain ⟨e3,o3,o3',c3,c3'⟩:=E5 (y:=3691218898639771653) hc hc1 (by decide) (by decide) c2 c2'
 obtain ⟨e4,o4,o4',c4,c4'⟩:=E5 (y:=8353516859464449352) hd hd1 (by decide) (by decide) c3 c3'
 generalize hx1:A2 1 a 18446744069414584321 0=x1 at *;generalize hx2:A2 1 b 6034159408538082302 x1.2=x2 at *;generalize hx3:A2 1 c 3691218898639771653 x2.2=x3 at *;generalize hx4:A2 1 d 8353516859464449352 x3.2=x4 at *;clear hx1 hx2 hx3 hx4;unfold D8 rN at hn;have hnn:0<=D8 a b c d:=by unfold D8;omega
 have hN:((D8 a b c d).toNat:Int)=D8 a b c d:=Int.toNat_of_nonneg hnn;by_cases hz:x4.2=0
 ·refine (A7 C4v Try.func42 r0 ?_).conv (fun _ _ h=>h) fun y v hv=>A6u rfl ?_ hv
  ·simp only[A3,and_true,decide_eq_true_eq,decide_eq_false_iff_not,beq_iff_eq];omega
  ·refine V4 o1 o1' o2 o2' o3 o3' o4 o4' ?_
   have e:(Ob.s (C1k (D8 a b c d).toNat)).n=(D8 a b c d).toNat-rN:=by
    rw[F0d];have h1:rN<=(D8 a b c d).toNat:=by unfold rN D8;omega
    have h2:(D8 a b c d).toNat<2*rN:=by unfold rN D8;omega
    rw[Nat.mod_eq_sub_mod h1,Nat.mod_eq_of_lt (by omega)]
   rw[e];unfold rN D8;omega
 ·refine (A7 C4v Try.func42 r1 ?_).conv (fun _ _ h=>h) fun y v hv=>A6u rfl ?_ hv
  ·simp only[A3,and_true,decide_eq_true_eq,decide_eq_false_iff_not,beq_eq_false_iff_ne];omega
  ·refine V4 ha ha1 hb hb1 hc hc1 hd hd1 ?_
   have e:(Ob.s (C1k (D8 a b c d).toNat)).n=(D8 a b c d).toNat:=by
    rw[F0d];exact Nat.mod_eq_of_lt (by unfold rN D8;omega)
   rw[e,hN];rfl

end S4

namespace S4
section
variable {w0:World} {F0:Nat->Prop} {K:Kp} {ac:List Act} {Q:Exit->Act->World->Prop} {cX:Ctx} {aX:Act}

def C1e:Env:=E4f.set (E8 E4f.fn 42 A5y)
theorem A0o:A6 Try.prog C1e:=
 A9 C4v 42 A5y (A4 Try.func42 rfl rfl) fun args o r es h ho=>by
  unfold A5y at h;split at h
  ·cases h
   obtain ⟨h1,h2,h3,h4,h5,h6,h7,h8,h9,_⟩:=ho;exact D1b _ _ _ _ h1 h2 h3 h4 h5 h6 h7 h8 h9
  ·cases h

def tc0 (x y:Fr):Cfg:=⟨[.code (B2 Try.f21)],.normal,D6 Try.f21.ntmps [.v (.a [.ob (.s x)]),.v (.a [.ob (.s y)])]⟩

def B1q:List KI:=(run C1e false 3000 (tc0 dF dF:Cfg) []).cfg.k
theorem tIn (x y:Fr):let b:=(tc0 x y:Cfg);let c:Int:=0;(A3 [])->(Sim w0 F0 K ac (b.σ) cX aX)->(∀ac cY aY,Sim w0 F0 K ac (A5 208 [3,4,5,6,7,8,18,19] [.pt 32 0,.pt 48 0,.iu c,.iu c,.iu c,.iu c,(.v (.a [.ob (.s x)])),.ii c] [32,48] [(eF_ [.ob (.s y)]),(eF_ [(.ob (.s (0:Fr)))])] 160 [] []) cY aY->Wq Try.prog Q (B1q) ac Exit.normal aY cY.w)->Wq Try.prog Q (b.k) ac b.x aX cX.w:=fun ho hs hK=>
 U5 (unroll:=false) (n:=3000) (path:=[]) (o:=⟨_,_,_,_,_,_,_⟩) A0o (by kernel_rfl) (by kernel_rfl) ho hs hK
def tS (x y:Fr) (i:Nat) (t0 t1 t2 t3 :Int):St:=A5 208 [3,4,5,6,7,8,18,19] [.pt 32 0,.pt 48 0,.v (.c (.int .u64 t0)),.v (.c (.int .u64 t1)),.v (.c (.int .u64 t2)),.v (.c (.int .u64 t3)),(.v (.a [.ob (.s x)])),.v (.c (.int .i64 (i:Int)))] [32,48] [(eF_ [.ob (.s y)]),(eF_ [(.ob (.s (0:Fr)))])] 160 [] []
theorem G3w (x y:Fr) (i:Nat) (t0 t1 t2 t3:Int):let b:Int:=18446744073709551616;let c:=S4.D8 t0 t1 t2 t3;C2 C1e Try.f21 false 3000 (⟨B5 B1q,.normal,tS x y i t0 t1 t2 t3⟩) [false] [] []=(some ([((decide ((i:Int)<(4:Int)))=false),(0<=t0),(t0<b),(0<=t1),(t1<b),(0<=t2),(t2<b),(0<=t3),(t3<b),(c<(104871750350252380958895481016371931675381105001055275645207317399877162369026:Int))],((.v (.a [(.ob (.s (C1k (c).toNat)))])),[]))):=by intros;kernel_rfl
def F1f:List KI:=(run C1e false 77 (⟨B5 B1q,.normal,tS dF dF dF dF dF dF dF⟩:Cfg) [true]).cfg.k
theorem tA (x y:Fr) (i:Nat) (t0 t1 t2 t3:Int) {w0:World} {F0:Nat->Prop} {K:Kp} {ac:List Act} {Q:Exit->Act->World->Prop} {cX:Ctx} {aX:Act} (ho:A3 [((decide ((i:Int)<(4:Int)))=true),(0<=(i:Int)),((i:Int)<(4:Int)),(0<=(0:Int)),(0<(4:Int)),(0<(Ob.k (.s y))),(0<=(A0 (Ob.n (.s x)) ((i:Int)).toNat)),((A0 (Ob.n (.s x)) ((i:Int)).toNat)<(18446744073709551616:Int)),(0<=(A0 (Ob.n (.s y)) 0)),((A0 (Ob.n (.s y)) 0)<(18446744073709551616:Int)),(0<=(((A0 (Ob.n (.s x)) ((i:Int)).toNat)*(A0 (Ob.n (.s y)) 0)) % (18446744073709551616:Int))),(0<=t0),(t0<(18446744073709551616:Int)),(0<=(0:Int)),(0<=(1:Int)),(0<=(wrap .u64 ((Prod.fst (A2 0 (((A0 (Ob.n (.s x)) ((i:Int)).toNat)*(A0 (Ob.n (.s y)) 0)) % (18446744073709551616:Int)) t0 (0:Int)))*(18446744069414584319:Int)))),((wrap .u64 ((Prod.fst (A2 0 (((A0 (Ob.n (.s x)) ((i:Int)).toNat)*(A0 (Ob.n (.s y)) 0)) % (18446744073709551616:Int)) t0 (0:Int)))*(18446744069414584319:Int)))<(18446744073709551616:Int)),(0<=(18446744069414584321:Int)),((18446744069414584321:Int)<(18446744073709551616:Int)),(0<=(((wrap .u64 ((Prod.fst (A2 0 (((A0 (Ob.n (.s x)) ((i:Int)).toNat)*(A0 (Ob.n (.s y)) 0)) % (18446744073709551616:Int)) t0 (0:Int)))*(18446744069414584319:Int)))*(18446744069414584321:Int)) % (18446744073709551616:Int))),(0<=(Prod.fst (A2 0 (((A0 (Ob.n (.s x)) ((i:Int)).toNat)*(A0 (Ob.n (.s y)) 0)) % (18446744073709551616:Int)) t0 (0:Int)))),((Prod.fst (A2 0 (((A0 (Ob.n (.s x)) ((i:Int)).toNat)*(A0 (Ob.n (.s y)) 0)) % (18446744073709551616:Int)) t0 (0:Int)))<(18446744073709551616:Int)),(0<=(0:Int)),(0<=(1:Int))]) (hs:Sim w0 F0 K ac (tS x y i t0 t1 t2 t3) cX aX) (hK:∀ac cY aY,Sim w0 F0 K ac (A5 208 [3,4,6,7,8,10,14,15,17,18,19] [.pt 32 0,.pt 48 0,.iu t1,.iu t2,.iu t3,(.iu (A0 (Ob.n (.s x)) ((i:Int)).toNat)),(.iu (wrap .u64 ((((A0 (Ob.n (.s x)) ((i:Int)).toNat)*(A0 (Ob.n (.s y)) 0)) / (18446744073709551616:Int))+(Prod.snd (A2 0 (((A0 (Ob.n (.s x)) ((i:Int)).toNat)*(A0 (Ob.n (.s y)) 0)) % (18446744073709551616:Int)) t0 (0:Int)))))),(.iu (wrap .u64 ((Prod.fst (A2 0 (((A0 (Ob.n (.s x)) ((i:Int)).toNat)*(A0 (Ob.n (.s y)) 0)) % (18446744073709551616:Int)) t0 (0:Int)))*(18446744069414584319:Int)))),(.iu (wrap .u64 ((((wrap .u64 ((Prod.fst (A2 0 (((A0 (Ob.n (.s x)) ((i:Int)).toNat)*(A0 (Ob.n (.s y)) 0)) % (18446744073709551616:Int)) t0 (0:Int)))*(18446744069414584319:Int)))*(18446744069414584321:Int)) / (18446744073709551616:Int))+(Prod.snd (A2 0 (((wrap .u64 ((Prod.fst (A2 0 (((A0 (Ob.n (.s x)) ((i:Int)).toNat)*(A0 (Ob.n (.s y)) 0)) % (18446744073709551616:Int)) t0 (0:Int)))*(18446744069414584319:Int)))*(18446744069414584321:Int)) % (18446744073709551616:Int)) (Prod.fst (A2 0 (((A0 (Ob.n (.s x)) ((i:Int)).toNat)*(A0 (Ob.n (.s y)) 0)) % (18446744073709551616:Int)) t0 (0:Int))) (0:Int)))))),(.v (.a [.ob (.s x)])),(.ii (i:Int))] [32,48] [(eF_ [.ob (.s y)]),(eF_ [(.ob (.s (0:Fr)))])] 880 [] []) cY aY->Wq Try.prog Q (F1f) ac Exit.normal aY cY.w):Wq Try.prog Q (B5 B1q) ac .normal aX cX.w:=
 M8 (unroll:=false) (n:=77) (path:=[true]) (o:=⟨_,_,_,_,_,_,_⟩) A0o (by kernel_rfl) (by kernel_rfl) ho hs hK
def tS1 (x y:Fr) (i:Nat) (t1 t2 t3 xi q up dn :Int):St:=A5 208 [3,4,6,7,8,10,14,15,17,18,19] [.pt 32 0,.pt 48 0,.iu t1,.iu t2,.iu t3,.v (.c (.int .u64 xi)),.v (.c (.int .u64 up)),.v (.c (.int .u64 q)),.v (.c (.int .u64 dn)),(.v (.a [.ob (.s x)])),(.ii (i:Int))] [32,48] [(eF_ [.ob (.s y)]),(eF_ [(.ob (.s (0:Fr)))])] 880 [] []
def F1g:List KI:=(run C1e false 94 (⟨F1f,.normal,tS1 dF dF dF dF dF dF dF dF dF dF⟩:Cfg) []).cfg.k
theorem tB (x y:Fr) (i:Nat) (t1 t2 t3 xi q up dn:Int):let c:Int:=18446744073709551616;let f:=A0 (Ob.n (.s y)) 1;let g:Int:=6034159408538082302;let h:Int:=0;let j:=A2 0 ((xi*f) % c) t1 h;let b:=A2 0 (Prod.fst j) up h;let l:=0<=(1:Int);let o:=Prod.fst b;let d:=A2 0 ((q*g) % c) o h;let m:=A2 0 (Prod.fst d) dn h;A3 [l,((1:Int)<(4:Int)),(1<(Ob.k (.s y))),(0<=xi),(xi<c),(0<=f),(f<c),(0<=((xi*f) % c)),(0<=t1),(t1<c),(0<=h),l,(0<=(Prod.fst j)),(0<=up),(up<c),(0<=h),l,(0<=q),(q<c),(0<=g),(g<c),(0<=((q*g) % c)),(0<=o),(o<c),(0<=h),l,(0<=(Prod.fst d)),(0<=dn),(dn<c),(0<=h),l]->Sg Try.prog (tS1 x y i t1 t2 t3 xi q up dn) (A5 208 [3,4,5,7,8,10,14,15,17,18,19] [.pt 32 0,.pt 48 0,(.iu (Prod.fst m)),.iu t2,.iu t3,.iu xi,(.iu (wrap .u64 ((wrap .u64 (((xi*f) / c)+(Prod.snd j)))+(Prod.snd b)))),.iu q,(.iu (wrap .u64 ((wrap .u64 (((q*g) / c)+(Prod.snd d)))+(Prod.snd m)))),(.v (.a [.ob (.s x)])),(.ii (i:Int))] [32,48] [(eF_ [.ob (.s y)]),(eF_ [(.ob (.s (0:Fr)))])] 1904 [] []) .normal (F1g) (F1f):=sgA false 94 [] A0o
def tS2 (x y:Fr) (i:Nat) (n0 t2 t3 xi q up dn :Int):St:=A5 208 [3,4,5,7,8,10,14,15,17,18,19] [.pt 32 0,.pt 48 0,.v (.c (.int .u64 n0)),.iu t2,.iu t3,.iu xi,.v (.c (.int .u64 up)),.iu q,.v (.c (.int .u64 dn)),(.v (.a [.ob (.s x)])),(.ii (i:Int))] [32,48] [(eF_ [.ob (.s y)]),(eF_ [(.ob (.s (0:Fr)))])] 1904 [] []
def F7p:List KI:=(run C1e false 94 (⟨F1g,.normal,tS2 dF dF dF dF dF dF dF dF dF dF⟩:Cfg) []).cfg.k
theorem tC (x y:Fr) (i:Nat) (n0 t2 t3 xi q up dn:Int):let c:Int:=18446744073709551616;let f:=A0 (Ob.n (.s y)) 2;let g:Int:=3691218898639771653;let h:Int:=0;let j:=A2 0 ((xi*f) % c) t2 h;let b:=A2 0 (Prod.fst j) up h;let l:=0<=(1:Int);let o:=Prod.fst b;let d:=A2 0 ((q*g) % c) o h;let m:=A2 0 (Prod.fst d) dn h;A3 [(0<=(2:Int)),((2:Int)<(4:Int)),(2<(Ob.k (.s y))),(0<=xi),(xi<c),(0<=f),(f<c),(0<=((xi*f) % c)),(0<=t2),(t2<c),(0<=h),l,(0<=(Prod.fst j)),(0<=up),(up<c),(0<=h),l,(0<=q),(q<c),(0<=g),(g<c),(0<=((q*g) % c)),(0<=o),(o<c),(0<=h),l,(0<=(Prod.fst d)),(0<=dn),(dn<c),(0<=h),l]->Sg Try.prog (tS2 x y i n0 t2 t3 xi q up dn) (A5 208 [3,4,5,6,8,10,14,15,17,18,19] [.pt 32 0,.pt 48 0,.iu n0,(.iu (Prod.fst m)),.iu t3,.iu xi,(.iu (wrap .u64 ((wrap .u64 (((xi*f) / c)+(Prod.snd j)))+(Prod.snd b)))),.iu q,(.iu (wrap .u64 ((wrap .u64 (((q*g) / c)+(Prod.snd d)))+(Prod.snd m)))),(.v (.a [.ob (.s x)])),(.ii (i:Int))] [32,48] [(eF_ [.ob (.s y)]),(eF_ [(.ob (.s (0:Fr)))])] 2928 [] []) .normal (F7p) (F1g):=sgA false 94 [] A0o
def tS3 (x y:Fr) (i:Nat) (n0 n1 t3 xi q up dn :Int):St:=A5 208 [3,4,5,6,8,10,14,15,17,18,19] [.pt 32 0,.pt 48 0,.iu n0,.v (.c (.int .u64 n1)),.iu t3,.iu xi,.v (.c (.int .u64 up)),.iu q,.v (.c (.int .u64 dn)),(.v (.a [.ob (.s x)])),(.ii (i:Int))] [32,48] [(eF_ [.ob (.s y)]),(eF_ [(.ob (.s (0:Fr)))])] 2928 [] []
theorem tD (x y:Fr) (i:Nat) (n0 n1 t3 xi q up dn:Int):let c:Int:=18446744073709551616;let f:=A0 (Ob.n (.s y)) 3;let g:Int:=8353516859464449352;let h:Int:=0;let j:=A2 0 ((xi*f) % c) t3 h;let b:=A2 0 (Prod.fst j) up h;let l:=0<=(1:Int);let o:=Prod.fst b;let d:=A2 0 ((q*g) % c) o h;let m:=A2 0 (Prod.fst d) dn h;A3 [(0<=(3:Int)),((3:Int)<(4:Int)),(3<(Ob.k (.s y))),(0<=xi),(xi<c),(0<=f),(f<c),(0<=((xi*f) % c)),(0<=t3),(t3<c),(0<=h),l,(0<=(Prod.fst j)),(0<=up),(up<c),(0<=h),l,(0<=q),(q<c),(0<=g),(g<c),(0<=((q*g) % c)),(0<=o),(o<c),(0<=h),l,(0<=(Prod.fst d)),(0<=dn),(dn<c),(0<=h),l]->Sg Try.prog (tS3 x y i n0 n1 t3 xi q up dn) (A5 208 [3,4,5,6,7,8,18,19] [.pt 32 0,.pt 48 0,.iu n0,.iu n1,(.iu (Prod.fst m)),(.iu (wrap .u64 ((wrap .u64 ((wrap .u64 (((q*g) / c)+(Prod.snd d)))+(Prod.snd m)))+(wrap .u64 ((wrap .u64 (((xi*f) / c)+(Prod.snd j)))+(Prod.snd b)))))),(.v (.a [.ob (.s x)])),(.ii (wrap .i64 ((i:Int)+1)))] [32,48] [(eF_ [.ob (.s y)]),(eF_ [(.ob (.s (0:Fr)))])] 4048 [] []) .normal (D5 B1q) (F7p):=sgA false 3000 [] A0o
end
end S4

namespace S4

/-- Ahead of the i-th round. -/
structure G7u (x y:Fr) (i:Nat) (t0 t1 t2 t3:Int):Prop where
 i4:i<=4
 h0:0<=t0∧t0<18446744073709551616
 h1:0<=t1∧t1<18446744073709551616
 h2:0<=t2∧t2<18446744073709551616
 h3:0<=t3∧t3<18446744073709551616
 lt:D8 t0 t1 t2 t3<2*rN
 eq:∃Q:Nat,D8 t0 t1 t2 t3*((2 ^ (64*i):Nat):Int)=(((Ob.s x).n % 2 ^ (64*i):Nat):Int)*((Ob.s y).n:Int)+(Q:Int)*(rN:Int)

theorem B4a (x:Fr):(Ob.s x).n<rN:=Nat.mod_lt _ (by decide)

theorem F0i {x y:Fr} {i Q:Nat} {T T' q:Int} (hq:0<=q) (h:T*((2 ^ (64*i):Nat):Int)=(((Ob.s x).n % 2 ^ (64*i):Nat):Int)*((Ob.s y).n:Int)+(Q:Int)*(rN:Int))
  (h' : 18446744073709551616*T' = T+A0 (Ob.s x).n i*((Ob.s y).n:Int)+q*(rN:Int)) :
  ∃Q:Nat,T' * ((2 ^ (64*(i+1)):Nat):Int)=(((Ob.s x).n % 2 ^ (64*(i+1)):Nat):Int)*((Ob.s y).n:Int)+(Q:Int)*(rN:Int):=by
 obtain ⟨q,rfl⟩:=Int.eq_ofNat_of_zero_le hq;refine ⟨Q+q*2 ^ (64*i),?_⟩
 rw[B9c];have hp:(2:Nat) ^ (64*(i+1))=2 ^ (64*i)*18446744073709551616:=by rw[Nat.mul_add,Nat.pow_add]
 rw[hp];have hl:A0 (Ob.s x).n i=(((Ob.s x).n / 2 ^ (64*i) % 18446744073709551616:Nat):Int):=rfl;rw[hl] at h'
 generalize (Ob.s x).n / 2 ^ (64*i) % 18446744073709551616=xi at *;generalize (Ob.s x).n % 2 ^ (64*i)=X at *;generalize (Ob.s y).n=Y at *;generalize 2 ^ (64*i)=m at *;generalize rN=r at *;have e1:T' * ((m*18446744073709551616:Nat):Int)=(18446744073709551616*T')*(m:Int):=by
  rw[Int.natCast_mul,Int.mul_comm (m:Int),<-Int.mul_assoc,Int.mul_comm T'];rfl
 rw[e1,h',Int.add_mul,Int.add_mul,h];push_cast
 simp only[Int.add_mul,Int.mul_assoc];have e2:(xi:Int)*((Y:Int)*(m:Int))=(m:Int)*((xi:Int)*(Y:Int)):=by rw[<-Int.mul_assoc,Int.mul_comm]
 have e3:(q:Int)*((r:Int)*(m:Int))=(q:Int)*((m:Int)*(r:Int)):=by rw[Int.mul_comm (r:Int)]
 rw[e2,e3];omega

theorem D0f (z a b c d:Int):z*D8 a b c d=z*a+18446744073709551616*(z*b)+340282366920938463463374607431768211456*(z*c)+6277101735386680763835789423207666416102355444464034512896*(z*d):=by
 unfold D8;simp only[Int.mul_add,Int.mul_left_comm z]

def Lim (a:Int):Prop:=0<=a∧a<18446744073709551616

theorem A1w (n:Int):Lim (wrap IntKind.u64 n):=by
 unfold Lim;rw[B1w];omega

section
variable {w0:World} {F0:Nat->Prop} {K:Kp} {ac:List Act} {Q:Exit->Act->World->Prop} {cX:Ctx} {aX:Act}

theorem G3h (x y:Fr) (i:Nat) {t0 t1 t2 t3:Int} (hi:i<4) (h0:Lim t0) (hx:Lim (A0 (Ob.s x).n i)) (hy:Lim (A0 (Ob.s y).n 0)) (hs:Sim w0 F0 K ac (tS x y i t0 t1 t2 t3) cX aX)
  (k:∀lo up q dn:Int,A0 (Ob.s x).n i*A0 (Ob.s y).n 0+t0=lo+18446744073709551616*up->q*18446744069414584321+lo=18446744073709551616*dn->Lim lo->Lim up->Lim q->Lim dn ->
   ∀ac cY aY,Sim w0 F0 K ac (tS1 x y i t1 t2 t3 (A0 (Ob.s x).n i) q up dn) cY aY->Wq Try.prog Q F1f ac .normal aY cY.w):Wq Try.prog Q (B5 B1q) ac .normal aX cX.w:=by
 obtain ⟨a0,b0⟩:=h0;obtain ⟨x0,x1⟩:=hx;obtain ⟨y0,y1⟩:=hy;have e1:=E0t x0 x1 y0 y1 a0 b0;have sA:=@tA x y i t0 t1 t2 t3 w0 F0 K ac Q cX aX;rw[Int.toNat_natCast] at sA;generalize A0 (Ob.s x).n i=xi at *;obtain ⟨e1,l1,u1⟩:=e1;have hq:=A1w ((A2 0 ((xi*A0 (Ob.s y).n 0) % 18446744073709551616) t0 0).1*18446744069414584319);have e2:=E0t (b:=18446744069414584321) hq.1 hq.2 (by decide) (by decide) l1.1 l1.2
 have e3:=D0d (l:=(A2 0 ((xi*A0 (Ob.s y).n 0) % 18446744073709551616) t0 0).1) rfl;refine sA ?_ hs fun ac cY aY h=>?_
 ·refine ⟨by simp only[decide_eq_true_eq];omega,by omega,by omega,by decide,by decide,by show (0:Nat)<4;decide,x0,x1,y0,y1,by omega,a0,b0,by decide,by decide,hq.1,hq.2,by decide,by decide,by omega,l1.1,l1.2,by decide,by decide,trivial⟩
 ·refine k _ _ _ _ e1 ?_ l1 u1 hq e2.2.2 ac cY aY h
  have:=e2.1
  have:=e2.2.1
  omega

theorem G3i (x y:Fr) (i:Nat) {t1 t2 t3 xi q up dn:Int} (ht:Lim t1) (hx:Lim xi) (hq:Lim q) (hu:Lim up) (hd:Lim dn) (hy:Lim (A0 (Ob.s y).n 1)) (hs:Sim w0 F0 K ac (tS1 x y i t1 t2 t3 xi q up dn) cX aX)
  (k:∀lo up' n dn' : Int,xi*A0 (Ob.s y).n 1+t1+up=lo+18446744073709551616*up' -> q*6034159408538082302+lo+dn=n+18446744073709551616*dn' -> Lim lo->Lim up' -> Lim n->Lim dn' ->
   ∀ac cY aY,Sim w0 F0 K ac (tS2 x y i n t2 t3 xi q up' dn') cY aY->Wq Try.prog Q (F1g) ac .normal aY cY.w):Wq Try.prog Q F1f ac .normal aX cX.w:=by
 obtain ⟨e1,l1,u1,m1⟩:=mac hx.1 hx.2 hy.1 hy.2 ht.1 ht.2 hu.1 hu.2;obtain ⟨e2,l2,u2,m2⟩:=mac (b:=6034159408538082302) hq.1 hq.2 (by decide) (by decide) l1.1 l1.2 hd.1 hd.2
 refine tB x y i t1 t2 t3 xi q up dn ?_ hs fun ac cY aY h=>?_
 ·refine ⟨by decide,by decide,by show 1<4;decide,hx.1,hx.2,hy.1,hy.2,by omega,ht.1,ht.2,by decide,by decide,m1.1,hu.1,hu.2,by decide,by decide,hq.1,hq.2,by decide,by decide,by omega,l1.1,l1.2,by decide,by decide,m2.1,hd.1,hd.2,by decide,by decide,trivial⟩
 ·exact k _ _ _ _ e1 e2 l1 u1 l2 u2 ac cY aY h

theorem G3j (x y:Fr) (i:Nat) {n0 t2 t3 xi q up dn:Int} (ht:Lim t2) (hx:Lim xi) (hq:Lim q) (hu:Lim up) (hd:Lim dn) (hy:Lim (A0 (Ob.s y).n 2)) (hs:Sim w0 F0 K ac (tS2 x y i n0 t2 t3 xi q up dn) cX aX)
  (k:∀lo up' n dn' : Int,xi*A0 (Ob.s y).n 2+t2+up=lo+18446744073709551616*up' -> q*3691218898639771653+lo+dn=n+18446744073709551616*dn' -> Lim lo->Lim up' -> Lim n->Lim dn' ->
   ∀ac cY aY,Sim w0 F0 K ac (tS3 x y i n0 n t3 xi q up' dn') cY aY->Wq Try.prog Q (F7p) ac .normal aY cY.w):Wq Try.prog Q F1g ac .normal aX cX.w:=by
 obtain ⟨e1,l1,u1,m1⟩:=mac hx.1 hx.2 hy.1 hy.2 ht.1 ht.2 hu.1 hu.2;obtain ⟨e2,l2,u2,m2⟩:=mac (b:=3691218898639771653) hq.1 hq.2 (by decide) (by decide) l1.1 l1.2 hd.1 hd.2
 refine tC x y i n0 t2 t3 xi q up dn ?_ hs fun ac cY aY h=>?_
 ·refine ⟨by decide,by decide,by show 2<4;decide,hx.1,hx.2,hy.1,hy.2,by omega,ht.1,ht.2,by decide,by decide,m1.1,hu.1,hu.2,by decide,by decide,hq.1,hq.2,by decide,by decide,by omega,l1.1,l1.2,by decide,by decide,m2.1,hd.1,hd.2,by decide,by decide,trivial⟩
 ·exact k _ _ _ _ e1 e2 l1 u1 l2 u2 ac cY aY h

theorem G3k (x y:Fr) (i:Nat) (hi:i<4) {n0 n1 t3 xi q up dn:Int} (ht:Lim t3) (hx:Lim xi) (hq:Lim q) (hu:Lim up) (hd:Lim dn) (hy:Lim (A0 (Ob.s y).n 3)) (hs:Sim w0 F0 K ac (tS3 x y i n0 n1 t3 xi q up dn) cX aX)
  (k:∀lo up' n dn' : Int,xi*A0 (Ob.s y).n 3+t3+up=lo+18446744073709551616*up' -> q*8353516859464449352+lo+dn=n+18446744073709551616*dn' -> Lim lo->Lim up' -> Lim n->Lim dn' ->
   ∀ac cY aY,Sim w0 F0 K ac (tS x y (i+1) n0 n1 n (wrap IntKind.u64 (dn' + up'))) cY aY->Wq Try.prog Q (D5 B1q) ac .normal aY cY.w):Wq Try.prog Q F7p ac .normal aX cX.w:=by
 obtain ⟨e1,l1,u1,m1⟩:=mac hx.1 hx.2 hy.1 hy.2 ht.1 ht.2 hu.1 hu.2;obtain ⟨e2,l2,u2,m2⟩:=mac (b:=8353516859464449352) hq.1 hq.2 (by decide) (by decide) l1.1 l1.2 hd.1 hd.2
 refine tD x y i n0 n1 t3 xi q up dn ?_ hs fun ac cY aY h=>?_
 ·refine ⟨by decide,by decide,by show 3<4;decide,hx.1,hx.2,hy.1,hy.2,by omega,ht.1,ht.2,by decide,by decide,m1.1,hu.1,hu.2,by decide,by decide,hq.1,hq.2,by decide,by decide,by omega,l1.1,l1.2,by decide,by decide,m2.1,hd.1,hd.2,by decide,by decide,trivial⟩
 ·exact k _ _ _ _ e1 e2 l1 u1 l2 u2 ac cY aY ((by rw[B0 (by omega) (by omega)] at h;exact h.nx _))

end

theorem D7g {T:Int} (hT:0<=T) {b X Y Q r:Nat} (h:T*(b:Int)=(X:Int)*(Y:Int)+(Q:Int)*(r:Int)):T.toNat*b=X*Y+Q*r:=by
 rw[<-Int.toNat_of_nonneg hT] at h
 exact_mod_cast h

theorem E2n (x y:Fr):FnD Try.prog 21 [.v (.a [.ob (.s x)]),.v (.a [.ob (.s y)])] (.v (.a [.ob (.s (x*y))])) []:=by
 refine F5 (fn:=Try.f21) (c:=B2 Try.f21) Try.func21 rfl rfl fun cx ca hk hF hs=>?_
 refine tIn x y trivial hs fun ac cY aY hs1=>?_
 refine C0 (ι:={ p:Nat×Int×Int×Int×Int // G7u x y p.1 p.2.1 p.2.2.1 p.2.2.2.1 p.2.2.2.2 }) (fun p=>tS x y p.1.1 p.1.2.1 p.1.2.2.1 p.1.2.2.2.1 p.1.2.2.2.2) (fun p=>4-p.1.1) (c:=lpC B1q) (k:=lpR B1q) (by kernel_rfl) (fun p ih ac cY aY hs=>?_)
  ⟨(0,0,0,0,0),⟨by decide,by decide,by decide,by decide,by decide,by decide,0,by simp [D8,Nat.mod_one]⟩⟩ hs1
 obtain ⟨⟨i,t0,t1,t2,t3⟩,hI⟩:=p;simp only at ih hs hI
 obtain ⟨hi,⟨a0,b0⟩,⟨a1,b1⟩,⟨a2,b2⟩,⟨a3,b3⟩,hlt,Q,hQ⟩:=hI;obtain ⟨ey,y0,y0',y1,y1',y2,y2',y3,y3'⟩:=W4 (Ob.s y).n (Nat.lt_trans (B4a y) (by decide))
 have hyr:((Ob.s y).n:Int)<(rN:Int):=by exact_mod_cast B4a y
 by_cases h5:i<4
 ·have hx0:0<=A0 (Ob.s x).n i:=Int.natCast_nonneg _
  have hx1:A0 (Ob.s x).n i<18446744073709551616:=by
   show (((Ob.s x).n / 2 ^ (64*i) % 18446744073709551616:Nat):Int)<18446744073709551616;omega
  have hround:=fun T' q hq=>F0i (x:=x) (y:=y) (i:=i) (Q:=Q) (T:=D8 t0 t1 t2 t3) (T' := T') (q:=q) hq hQ
  have hyn:((Ob.s y).n:Int)=D8 (A0 (Ob.s y).n 0) (A0 (Ob.s y).n 1) (A0 (Ob.s y).n 2) (A0 (Ob.s y).n 3):=ey;have hzz:A0 (Ob.s x).n i*((Ob.s y).n:Int)<=18446744073709551615*((Ob.s y).n:Int):=Int.mul_le_mul_of_nonneg_right (by omega) (by omega)
  have hz0:0<=A0 (Ob.s x).n i*((Ob.s y).n:Int):=Int.mul_nonneg hx0 (by omega)
  have hmul:=D0f (A0 (Ob.s x).n i) (A0 (Ob.s y).n 0) (A0 (Ob.s y).n 1) (A0 (Ob.s y).n 2) (A0 (Ob.s y).n 3);rw[<-hyn] at hmul;refine G3h x y i h5 ⟨a0,b0⟩ ⟨hx0,hx1⟩ ⟨y0,y0'⟩ hs fun lo0 up0 q dn0 eA eQ hlo0 hup0 hq hdn0 ac cY aY hs=>?_
  refine G3i x y i ⟨a1,b1⟩ ⟨hx0,hx1⟩ hq hup0 hdn0 ⟨y1,y1'⟩ hs fun lo1 up1 n0 dn1 eB eB' hlo1 hup1 hn0 hdn1 ac cY aY hs=>?_
  refine G3j x y i ⟨a2,b2⟩ ⟨hx0,hx1⟩ hq hup1 hdn1 ⟨y2,y2'⟩ hs fun lo2 up2 n1 dn2 eC eC' hlo2 hup2 hn1 hdn2 ac cY aY hs=>?_
  refine G3k x y i h5 ⟨a3,b3⟩ ⟨hx0,hx1⟩ hq hup2 hdn2 ⟨y3,y3'⟩ hs fun lo3 up3 n2 dn3 eD eD' hlo3 hup3 hn2 hdn3 ac cY aY hs=>?_
  have hall:18446744073709551616*D8 n0 n1 n2 (dn3+up3)=D8 t0 t1 t2 t3+A0 (Ob.s x).n i*((Ob.s y).n:Int)+q*(rN:Int):=by
   rw[hmul];clear hround hmul hzz hz0 hQ ih hyr hyn ey;unfold D8 rN;omega
  have hlt' : D8 n0 n1 n2 (dn3+up3)<2*rN:=by
   obtain ⟨q0,q1⟩:=hq;have:q*(rN:Int)<=18446744073709551615*(rN:Int):=Int.mul_le_mul_of_nonneg_right (by omega) (by omega)
   clear hround hmul hQ ih hyn ey;generalize A0 (Ob.s x).n i*((Ob.s y).n:Int)=z at *;generalize q*(rN:Int)=z' at *;omega
  have htop:wrap IntKind.u64 (dn3+up3)=dn3+up3:=by
   obtain ⟨_,_⟩:=hdn3;obtain ⟨_,_⟩:=hup3;obtain ⟨_,_⟩:=hn0;obtain ⟨_,_⟩:=hn1;obtain ⟨_,_⟩:=hn2;refine A1x (by omega) ?_
   unfold D8 rN at hlt';omega
  rw[htop] at hs;refine ih ⟨(i+1,n0,n1,n2,dn3+up3),⟨h5,hn0,hn1,hn2,?_,hlt',hround _ q hq.1 hall⟩⟩ (by show 4-(i+1)<4-i;omega) ac cY aY hs
  rw[<-htop];exact A1w _
 ·have hi4:i=4:=by omega
  subst hi4;refine M3 A0o hk hF (G3w x y 4 t0 t1 t2 t3) ?_ (fun z w hd=>?_) hs
  ·refine ⟨by decide,a0,b0,a1,b1,a2,b2,a3,b3,hlt,trivial⟩
  ·have hT:0<=D8 t0 t1 t2 t3:=by unfold D8;omega
   have:C1k (D8 t0 t1 t2 t3).toNat=x*y:=by
    refine E7u (Q:=Q) ?_
    have hX:(Ob.s x).n % 2 ^ (64*4)=(Ob.s x).n:=Nat.mod_eq_of_lt (Nat.lt_trans (B4a x) (by decide))
    rw[hX] at hQ;have h4:(2 ^ (64*4):Nat)=B4:=E9o;rw[h4] at hQ;exact D7g hT hQ
   rw[<-this];exact hd

end S4

namespace S4

def u4s (a b c d:Int):SV:=.v (.c (.sl (.u64 [a,b,c,d])))
def fl4 (a b c d:Int):En:=.fl [.int .u64 a,.int .u64 b,.int .u64 c,.int .u64 d]

def qd0 (o0 o1 o2 o3 a b c d more m0 m1 m2 m3:Int):Cfg:=⟨[.code (B2 Try.f70)],.normal,C1j Try.f70.ntmps 0 4 1 (fl4 o0 o1 o2 o3) [u4s a b c d,.v (.c (.int .u64 more)),u4s m0 m1 m2 m3]⟩

theorem rdX (o0 o1 o2 o3 a b c d more m0 m1 m2 m3:Int):let g:Int:=(4:Nat);let i:Int:=18446744073709551616;let k:Int:=1;let l:Int:=2;let m:Int:=3;let n:Int:=0;let o:Int:=8;let q:=A2 1 a m0 n;let h:=Prod.snd q;let p:=A2 1 b m1 h;let f:=Prod.snd p;let r:=A2 1 c m2 f;let j:=Prod.snd r;let s:=A2 1 d m3 j;A7m C1e Try.f70 true 3000 (qd0 o0 o1 o2 o3 a b c d more m0 m1 m2 m3) [true,true,true,true,false,true]=(some ([((decide (0<g))=true),(0<=n),(0<g),(0<=n),(0<g),(0<=a),(0<=m0),(m0<i),(0<=n),(0<=k),(0<=n),(0<o),((decide (k<g))=true),(0<=k),(k<g),(0<=k),(k<g),(0<=b),(0<=m1),(m1<i),(0<=h),(h<=k),(0<=k),(k<o),((decide (l<g))=true),(0<=l),(l<g),(0<=l),(l<g),(0<=c),(0<=m2),(m2<i),(0<=f),(f<=k),(0<=l),(l<o),((decide (m<g))=true),(0<=m),(m<g),(0<=m),(m<g),(0<=d),(0<=m3),(m3<i),(0<=j),(j<=k),(0<=m),(m<o),((decide ((4:Int)<g))=false),((decide (more >= (Prod.snd s)))=true),(0<=g),(g<=o)],(.fl [(.int .u64 (Prod.fst q)),(.int .u64 (Prod.fst p)),(.int .u64 (Prod.fst r)),(.int .u64 (Prod.fst s))]))):=by intros;kernel_rfl
theorem rdY (o0 o1 o2 o3 a b c d more m0 m1 m2 m3:Int):let g:Int:=(4:Nat);let h:Int:=18446744073709551616;let i:=Prod.snd (A2 1 a m0 (0:Int));let f:=Prod.snd (A2 1 b m1 i);let j:Int:=1;let k:=Prod.snd (A2 1 c m2 f);let l:Int:=2;let m:Int:=3;let n:=0<=(0:Int);let o:Int:=8;A7m C1e Try.f70 true 3000 (qd0 o0 o1 o2 o3 a b c d more m0 m1 m2 m3) [true,true,true,true,false,false]=(some ([((decide (0<g))=true),n,(0<g),n,(0<g),(0<=a),(0<=m0),(m0<h),n,(0<=j),n,(0<o),((decide (j<g))=true),(0<=j),(j<g),(0<=j),(j<g),(0<=b),(0<=m1),(m1<h),(0<=i),(i<=j),(0<=j),(j<o),((decide (l<g))=true),(0<=l),(l<g),(0<=l),(l<g),(0<=c),(0<=m2),(m2<h),(0<=f),(f<=j),(0<=l),(l<o),((decide (m<g))=true),(0<=m),(m<g),(0<=m),(m<g),(0<=d),(0<=m3),(m3<h),(0<=k),(k<=j),(0<=m),(m<o),((decide ((4:Int)<g))=false),((decide (more >= (Prod.snd (A2 1 d m3 k))))=false)],(.fl [(.int .u64 a),(.int .u64 b),(.int .u64 c),(.int .u64 d)]))):=by intros;kernel_rfl
end S4

namespace S4

theorem E3n {x:Ctx} {o:Ob} (hk:o.k=4) {a b c d:Int} (h:A0 o.n 0=a∧A0 o.n 1=b∧A0 o.n 2=c∧A0 o.n 3=d) {cs:List Value}
  (hc:B8 x.D [.int .u64 a,.int .u64 b,.int .u64 c,.int .u64 d] cs):B8 x.D [.ob o] cs:=by
 obtain ⟨cs',e,h'⟩:=A6u hk h (v:=.agg cs.toArray) ⟨cs,rfl,hc⟩;have e:cs=cs' := by simpa using e
 rw[e];exact h'

def A3a (n:Nat):U4:=Fin.ofNat B4 (n % rN)
theorem B1i (n:Nat):(A3a n).val=n % rN:=Nat.mod_eq_of_lt (Nat.lt_trans (Nat.mod_lt _ (by decide)) (by decide))

theorem E1r (o0 o1 o2 o3 a b c d:Int) (ha:Lim a) (hb:Lim b) (hc:Lim c) (hd:Lim d) (hn:D8 a b c d<2*rN) :
  MuC Try.prog 70 0 4 1 (fl4 o0 o1 o2 o3) [u4s a b c d,.v (.c (.int .u64 0)),u4s 18446744069414584321 6034159408538082302 3691218898639771653 8353516859464449352] (.fl [.ob (.fr (A3a (D8 a b c d).toNat))]):=by
 refine B0u (fn:=Try.f70) (c:=B2 Try.f70) Try.func70 rfl rfl fun x ac hk hm hs=>?_
 obtain ⟨ha,ha1⟩:=ha;obtain ⟨hb,hb1⟩:=hb;obtain ⟨hc,hc1⟩:=hc;obtain ⟨hd,hd1⟩:=hd;have r0:=rdX o0 o1 o2 o3 a b c d 0 18446744069414584321 6034159408538082302 3691218898639771653 8353516859464449352;dsimp only at r0;have r1:=rdY o0 o1 o2 o3 a b c d 0 18446744069414584321 6034159408538082302 3691218898639771653 8353516859464449352;dsimp only at r1;obtain ⟨e1,p1,p1',c1,c1'⟩:=E5 (y:=18446744069414584321) (c:=0) ha ha1 (by decide) (by decide) (by decide) (by decide)
 obtain ⟨e2,p2,p2',c2,c2'⟩:=E5 (y:=6034159408538082302) hb hb1 (by decide) (by decide) c1 c1'
 obtain ⟨e3,p3,p3',c3,c3'⟩:=E5 (y:=3691218898639771653) hc hc1 (by decide) (by decide) c2 c2'
 obtain ⟨e4,p4,p4',c4,c4'⟩:=E5 (y:=8353516859464449352) hd hd1 (by decide) (by decide) c3 c3'
 generalize hx1:A2 1 a 18446744069414584321 0=x1 at *;generalize hx2:A2 1 b 6034159408538082302 x1.2=x2 at *;generalize hx3:A2 1 c 3691218898639771653 x2.2=x3 at *;generalize hx4:A2 1 d 8353516859464449352 x3.2=x4 at *;clear hx1 hx2 hx3 hx4;unfold D8 rN at hn;have hnn:0<=D8 a b c d:=by unfold D8;omega
 have hN:((D8 a b c d).toNat:Int)=D8 a b c d:=Int.toNat_of_nonneg hnn;by_cases hz:x4.2=0
 ·refine A8l A0o hk hm r0 rfl ?_ (fun y cs hv=>E3n rfl ?_ hv) (.inl ⟨_,_,rfl,rfl⟩) hs
  ·simp only[A3,and_true,decide_eq_true_eq,decide_eq_false_iff_not];omega
  ·refine V4 p1 p1' p2 p2' p3 p3' p4 p4' ?_
   show ((A3a (D8 a b c d).toNat).val:Int)=_;have e:(A3a (D8 a b c d).toNat).val=(D8 a b c d).toNat-rN:=by
    rw[B1i];have h1:rN<=(D8 a b c d).toNat:=by unfold rN D8;omega
    have h2:(D8 a b c d).toNat<2*rN:=by unfold rN D8;omega
    rw[Nat.mod_eq_sub_mod h1,Nat.mod_eq_of_lt (by omega)]
   rw[e];unfold rN D8;omega
 ·refine A8l A0o hk hm r1 rfl ?_ (fun y cs hv=>E3n rfl ?_ hv) (.inl ⟨_,_,rfl,rfl⟩) hs
  ·simp only[A3,and_true,decide_eq_true_eq,decide_eq_false_iff_not];omega
  ·refine V4 ha ha1 hb hb1 hc hc1 hd hd1 ?_
   show ((A3a (D8 a b c d).toNat).val:Int)=_;have e:(A3a (D8 a b c d).toNat).val=(D8 a b c d).toNat:=by
    rw[B1i];exact Nat.mod_eq_of_lt (by unfold rN D8;omega)
   rw[e,hN];rfl

end S4

namespace S4
section
variable {w0:World} {F0:Nat->Prop} {K:Kp} {ac:List Act} {Q:Exit->Act->World->Prop} {cX:Ctx} {aX:Act}

def A9c:MuS:=fun off len es e rest=>
 match off,len,es,e,rest with
 | 0,4,1,.fl [.int .u64 _,.int .u64 _,.int .u64 _,.int .u64 _],[.v (.c (.sl (.u64 [a,b,c,d]))),.v (.c (.int .u64 more)),.v (.c (.sl (.u64 [m0,m1,m2,m3])))]=>
  some ([Lim a,Lim b,Lim c,Lim d,D8 a b c d<2*rN,more=0,m0=18446744069414584321,m1=6034159408538082302,m2=3691218898639771653,m3=8353516859464449352],.fl [.ob (.fr (A3a (D8 a b c d).toNat))])
 | _,_,_,_,_=>none

def B2m:Env:={ C1e with mu:=fun g=>if g=70 then some (mu1 A9c) else C1e.mu g }
theorem T8:A6 Try.prog B2m:=
 B7m A0o 70 A9c (A4 Try.func70 rfl rfl) fun off len es e rest o e' h ho _ _=>by
  unfold A9c at h;split at h
  ·cases h
   obtain ⟨h1,h2,h3,h4,h5,h6,h7,h8,h9,h10,_⟩:=ho;subst h6 h7 h8 h9 h10;exact E1r _ _ _ _ _ _ _ _ h1 h2 h3 h4 h5
  ·cases h

def mR:SV:=u4s 18446744069414584321 6034159408538082302 3691218898639771653 8353516859464449352
def pd0 (o0 o1 o2 o3 a b c d y0 y1 y2 y3:Int):Cfg:=⟨[.code (B2 Try.f44)],.normal,C1j Try.f44.ntmps 0 4 1 (fl4 o0 o1 o2 o3) [u4s a b c d,u4s y0 y1 y2 y3,mR,.v (.c (.int .u64 18446744069414584319))]⟩

def B1b:List KI:=(run B2m false 3000 (pd0 dF dF dF dF dF dF dF dF dF dF dF dF:Cfg) []).cfg.k
theorem pIn (o0 o1 o2 o3 a b c d y0 y1 y2 y3:Int) {w0:World} {F0:Nat->Prop} {K:Kp} {ac:List Act} {Q:Exit->Act->World->Prop} {cX:Ctx} {aX:Act} (ho:A3 []) (hs:Sim w0 F0 K ac (((pd0 o0 o1 o2 o3 a b c d y0 y1 y2 y3:Cfg)).σ) cX aX) (hK:∀ac cY aY,Sim w0 F0 K ac (A5 176 [0,1,2,3,4,10,11,29,30] [(.ci (.slc 0 0 4 1)),(.ci (.sl (.u64 [a,b,c,d]))),(.ci (.sl (.u64 [y0,y1,y2,y3]))),(.ci (.sl (.u64 [(18446744069414584321:Int),(6034159408538082302:Int),(3691218898639771653:Int),(8353516859464449352:Int)]))),.iu (18446744069414584319:Int),.ii (4:Int),.pt 64 0,.ii (4:Int),.ii (0:Int)] [0,64] [(eF_ [(.int .u64 o0),(.int .u64 o1),(.int .u64 o2),(.int .u64 o3)]),(eF_ [(.int .u64 (0:Int)),(.int .u64 (0:Int)),(.int .u64 (0:Int)),(.int .u64 (0:Int)),(.int .u64 (0:Int)),(.int .u64 (0:Int)),(.int .u64 (0:Int)),(.int .u64 (0:Int)),(.int .u64 (0:Int)),(.int .u64 (0:Int))])] 112 [] []) cY aY->Wq Try.prog Q (B1b) ac Exit.normal aY cY.w):Wq Try.prog Q (((pd0 o0 o1 o2 o3 a b c d y0 y1 y2 y3:Cfg)).k) ac ((pd0 o0 o1 o2 o3 a b c d y0 y1 y2 y3:Cfg)).x aX cX.w:=
 U5 (unroll:=false) (n:=3000) (path:=[]) (o:=⟨_,_,_,_,_,_,_⟩) T8 (by kernel_rfl) (by kernel_rfl) ho hs hK
def pS (o0 o1 o2 o3 a b c d y0 y1 y2 y3 :Int) (i:Nat) (r0 r1 r2 r3 r4 r5 :Int):St:=A5 176 [0,1,2,3,4,10,11,29,30] [(.ci (.slc 0 0 4 1)),(.ci (.sl (.u64 [a,b,c,d]))),(.ci (.sl (.u64 [y0,y1,y2,y3]))),(.ci (.sl (.u64 [(18446744069414584321:Int),(6034159408538082302:Int),(3691218898639771653:Int),(8353516859464449352:Int)]))),.iu (18446744069414584319:Int),.ii (4:Int),.pt 64 0,.ii (4:Int),.v (.c (.int .i64 (i:Int)))] [0,64] [(eF_ [(.int .u64 o0),(.int .u64 o1),(.int .u64 o2),(.int .u64 o3)]),some (.fl [.int .u64 r0,.int .u64 r1,.int .u64 r2,.int .u64 r3,.int .u64 r4,.int .u64 r5,.int .u64 0,.int .u64 0,.int .u64 0,.int .u64 0])] 112 [] []
def E9b:List KI:=(run B2m true 104 (⟨B5 B1b,.normal,pS dF dF dF dF dF dF dF dF dF dF dF dF dF dF dF dF dF dF dF⟩:Cfg) [true,true]).cfg.k
theorem pA (o0 o1 o2 o3 a b c d y0 y1 y2 y3:Int) (i:Nat) (r0 r1 r2 r3 r4 r5:Int) {w0:World} {F0:Nat->Prop} {K:Kp} {ac:List Act} {Q:Exit->Act->World->Prop} {cX:Ctx} {aX:Act} (ho:A3 [((decide ((i:Int)<(4:Int)))=true),(0<=(i:Int)),((i:Int)<((4:Nat):Int)),((decide (0<(4:Int)))=true),(0<=(0:Int)),(0<((4:Nat):Int)),(0<=(List.getD [a,b,c,d] ((i:Int)).toNat 0)),((List.getD [a,b,c,d] ((i:Int)).toNat 0)<(18446744073709551616:Int)),(0<=y0),(y0<(18446744073709551616:Int)),(0<=(0:Int)),(0<(10:Int)),(0<=(((List.getD [a,b,c,d] ((i:Int)).toNat 0)*y0) % (18446744073709551616:Int))),(0<=r0),(r0<(18446744073709551616:Int)),(0<=(0:Int)),(0<=(1:Int)),(0<=(Prod.fst (A2 0 (((List.getD [a,b,c,d] ((i:Int)).toNat 0)*y0) % (18446744073709551616:Int)) r0 (0:Int)))),(0<=(0:Int)),(0<(18446744073709551616:Int)),(0<=(0:Int)),(0<=(1:Int)),(0<=(0:Int)),(0<(10:Int))]) (hs:Sim w0 F0 K ac (pS o0 o1 o2 o3 a b c d y0 y1 y2 y3 i r0 r1 r2 r3 r4 r5) cX aX) (hK:∀ac cY aY,Sim w0 F0 K ac (A5 176 [0,1,2,3,4,10,11,13,14,29,30,37,38] [(.ci (.slc 0 0 4 1)),(.ci (.sl (.u64 [a,b,c,d]))),(.ci (.sl (.u64 [y0,y1,y2,y3]))),(.ci (.sl (.u64 [(18446744069414584321:Int),(6034159408538082302:Int),(3691218898639771653:Int),(8353516859464449352:Int)]))),.iu (18446744069414584319:Int),.ii (4:Int),.pt 64 0,(.iu (List.getD [a,b,c,d] ((i:Int)).toNat 0)),(.iu (wrap .u64 ((wrap .u64 ((((List.getD [a,b,c,d] ((i:Int)).toNat 0)*y0) / (18446744073709551616:Int))+(Prod.snd (A2 0 (((List.getD [a,b,c,d] ((i:Int)).toNat 0)*y0) % (18446744073709551616:Int)) r0 (0:Int)))))+(Prod.snd (A2 0 (Prod.fst (A2 0 (((List.getD [a,b,c,d] ((i:Int)).toNat 0)*y0) % (18446744073709551616:Int)) r0 (0:Int))) (0:Int) (0:Int)))))),.ii (4:Int),(.ii (i:Int)),.ii (4:Int),.ii (0:Int)] [0,64] [(eF_ [(.int .u64 o0),(.int .u64 o1),(.int .u64 o2),(.int .u64 o3)]),(eF_ [(.int .u64 (Prod.fst (A2 0 (Prod.fst (A2 0 (((List.getD [a,b,c,d] ((i:Int)).toNat 0)*y0) % (18446744073709551616:Int)) r0 (0:Int))) (0:Int) (0:Int)))),(.int .u64 r1),(.int .u64 r2),(.int .u64 r3),(.int .u64 r4),(.int .u64 r5),(.int .u64 (0:Int)),(.int .u64 (0:Int)),(.int .u64 (0:Int)),(.int .u64 (0:Int))])] 992 [] []) cY aY->Wq Try.prog Q (E9b) ac Exit.normal aY cY.w):Wq Try.prog Q (B5 B1b) ac .normal aX cX.w:=
 M8 (unroll:=true) (n:=104) (path:=[true,true]) (o:=⟨_,_,_,_,_,_,_⟩) T8 (by kernel_rfl) (by kernel_rfl) ho hs hK
theorem pX (o0 o1 o2 o3 a b c d y0 y1 y2 y3:Int) (i:Nat) (r0 r1 r2 r3 r4 r5:Int):let f:Int:=18446744069414584321;let g:Int:=4;let h:Int:=6034159408538082302;let j:Int:=3691218898639771653;let k:Int:=8353516859464449352;let l:=S4.D8 r0 r1 r2 r3;A7m B2m Try.f44 true 3000 ⟨B5 B1b,.normal,pS o0 o1 o2 o3 a b c d y0 y1 y2 y3 i r0 r1 r2 r3 r4 r5⟩ [false]=(some ([((decide ((i:Int)<g))=false),(0<=g),(g<=(10:Int)),(0<=g),(g<(10:Int)),(S4.Lim r0),(S4.Lim r1),(S4.Lim r2),(S4.Lim r3),(l<(104871750350252380958895481016371931675381105001055275645207317399877162369026:Int)),(r4=(0:Int)),(f=f),(h=h),(j=j),(k=k)],(.fl [(.ob (.fr (S4.A3a (l).toNat)))]))):=by intros;kernel_rfl
def pS1 (o0 o1 o2 o3 a b c d y0 y1 y2 y3 :Int) (i:Nat) (x cy r0 r1 r2 r3 r4 r5 :Int):St:=A5 176 [0,1,2,3,4,10,11,13,14,29,30,37,38] [(.ci (.slc 0 0 4 1)),(.ci (.sl (.u64 [a,b,c,d]))),(.ci (.sl (.u64 [y0,y1,y2,y3]))),(.ci (.sl (.u64 [(18446744069414584321:Int),(6034159408538082302:Int),(3691218898639771653:Int),(8353516859464449352:Int)]))),.iu (18446744069414584319:Int),.ii (4:Int),.pt 64 0,.v (.c (.int .u64 x)),.v (.c (.int .u64 cy)),.ii (4:Int),(.ii (i:Int)),.ii (4:Int),.ii (0:Int)] [0,64] [(eF_ [(.int .u64 o0),(.int .u64 o1),(.int .u64 o2),(.int .u64 o3)]),some (.fl [.int .u64 r0,.int .u64 r1,.int .u64 r2,.int .u64 r3,.int .u64 r4,.int .u64 r5,.int .u64 0,.int .u64 0,.int .u64 0,.int .u64 0])] 992 [] []
def E9c:List KI:=(run B2m true 75 (⟨E9b,.normal,pS1 dF dF dF dF dF dF dF dF dF dF dF dF dF dF dF dF dF dF dF dF dF⟩:Cfg) [true]).cfg.k
section
variable (o0 o1 o2 o3 a b c d y0 y1 y2 y3:Int) (i:Nat) (x cy r0 r1 r2 r3 r4 r5:Int)
theorem pB:let f:Int:=18446744073709551616;let h:Int:=1;let j:Int:=0;let g:=A2 0 ((x*y1) % f) r1 j;let k:=A2 0 (Prod.fst g) cy j;let l:Int:=4;A3 [((decide (h<l))=true),(0<=h),(h<((4:Nat):Int)),(0<=x),(x<f),(0<=y1),(y1<f),(0<=h),(h<(10:Int)),(0<=((x*y1) % f)),(0<=r1),(r1<f),(0<=j),(0<=h),(0<=(Prod.fst g)),(0<=cy),(cy<f),(0<=j),(0<=h),(0<=h),(h<(10:Int))]->Sg Try.prog (pS1 o0 o1 o2 o3 a b c d y0 y1 y2 y3 i x cy r0 r1 r2 r3 r4 r5) (A5 176 [0,1,2,3,4,10,11,13,14,29,30,37,38] [(.ci (.slc 0 0 4 1)),(.ci (.sl (.u64 [a,b,c,d]))),(.ci (.sl (.u64 [y0,y1,y2,y3]))),(.ci (.sl (.u64 [(18446744069414584321:Int),(6034159408538082302:Int),(3691218898639771653:Int),(8353516859464449352:Int)]))),.iu (18446744069414584319:Int),.ii l,.pt 64 0,.iu x,(.iu (wrap .u64 ((wrap .u64 (((x*y1) / f)+(Prod.snd g)))+(Prod.snd k)))),.ii l,(.ii (i:Int)),.ii l,.ii h] [0,64] [(eF_ [(.int .u64 o0),(.int .u64 o1),(.int .u64 o2),(.int .u64 o3)]),(eF_ [(.int .u64 r0),(.int .u64 (Prod.fst k)),(.int .u64 r2),(.int .u64 r3),(.int .u64 r4),(.int .u64 r5),(.int .u64 j),(.int .u64 j),(.int .u64 j),(.int .u64 j)])] 1728 [] []) .normal (E9c) (E9b):=sgA true 75 [true] T8
def pS2 (o0 o1 o2 o3 a b c d y0 y1 y2 y3 :Int) (i:Nat) (x cy r0 r1 r2 r3 r4 r5 :Int):St:=A5 176 [0,1,2,3,4,10,11,13,14,29,30,37,38] [(.ci (.slc 0 0 4 1)),(.ci (.sl (.u64 [a,b,c,d]))),(.ci (.sl (.u64 [y0,y1,y2,y3]))),(.ci (.sl (.u64 [(18446744069414584321:Int),(6034159408538082302:Int),(3691218898639771653:Int),(8353516859464449352:Int)]))),.iu (18446744069414584319:Int),.ii (4:Int),.pt 64 0,.v (.c (.int .u64 x)),.v (.c (.int .u64 cy)),.ii (4:Int),(.ii (i:Int)),.ii (4:Int),.ii (1:Int)] [0,64] [(eF_ [(.int .u64 o0),(.int .u64 o1),(.int .u64 o2),(.int .u64 o3)]),some (.fl [.int .u64 r0,.int .u64 r1,.int .u64 r2,.int .u64 r3,.int .u64 r4,.int .u64 r5,.int .u64 0,.int .u64 0,.int .u64 0,.int .u64 0])] 1728 [] []
def E9d:List KI:=(run B2m true 75 (⟨E9c,.normal,pS2 dF dF dF dF dF dF dF dF dF dF dF dF dF dF dF dF dF dF dF dF dF⟩:Cfg) [true]).cfg.k
theorem pC:let f:Int:=18446744073709551616;let h:Int:=0;let g:=A2 0 ((x*y2) % f) r2 h;let j:Int:=2;let k:=A2 0 (Prod.fst g) cy h;let l:Int:=4;A3 [((decide (j<l))=true),(0<=j),(j<((4:Nat):Int)),(0<=x),(x<f),(0<=y2),(y2<f),(0<=j),(j<(10:Int)),(0<=((x*y2) % f)),(0<=r2),(r2<f),(0<=h),(0<=(1:Int)),(0<=(Prod.fst g)),(0<=cy),(cy<f),(0<=h),(0<=(1:Int)),(0<=j),(j<(10:Int))]->Sg Try.prog (pS2 o0 o1 o2 o3 a b c d y0 y1 y2 y3 i x cy r0 r1 r2 r3 r4 r5) (A5 176 [0,1,2,3,4,10,11,13,14,29,30,37,38] [(.ci (.slc 0 0 4 1)),(.ci (.sl (.u64 [a,b,c,d]))),(.ci (.sl (.u64 [y0,y1,y2,y3]))),(.ci (.sl (.u64 [(18446744069414584321:Int),(6034159408538082302:Int),(3691218898639771653:Int),(8353516859464449352:Int)]))),.iu (18446744069414584319:Int),.ii l,.pt 64 0,.iu x,(.iu (wrap .u64 ((wrap .u64 (((x*y2) / f)+(Prod.snd g)))+(Prod.snd k)))),.ii l,(.ii (i:Int)),.ii l,.ii j] [0,64] [(eF_ [(.int .u64 o0),(.int .u64 o1),(.int .u64 o2),(.int .u64 o3)]),(eF_ [(.int .u64 r0),(.int .u64 r1),(.int .u64 (Prod.fst k)),(.int .u64 r3),(.int .u64 r4),(.int .u64 r5),(.int .u64 h),(.int .u64 h),(.int .u64 h),(.int .u64 h)])] 2464 [] []) .normal (E9d) (E9c):=sgA true 75 [true] T8
def pS3 (o0 o1 o2 o3 a b c d y0 y1 y2 y3 :Int) (i:Nat) (x cy r0 r1 r2 r3 r4 r5 :Int):St:=A5 176 [0,1,2,3,4,10,11,13,14,29,30,37,38] [(.ci (.slc 0 0 4 1)),(.ci (.sl (.u64 [a,b,c,d]))),(.ci (.sl (.u64 [y0,y1,y2,y3]))),(.ci (.sl (.u64 [(18446744069414584321:Int),(6034159408538082302:Int),(3691218898639771653:Int),(8353516859464449352:Int)]))),.iu (18446744069414584319:Int),.ii (4:Int),.pt 64 0,.v (.c (.int .u64 x)),.v (.c (.int .u64 cy)),.ii (4:Int),(.ii (i:Int)),.ii (4:Int),.ii (2:Int)] [0,64] [(eF_ [(.int .u64 o0),(.int .u64 o1),(.int .u64 o2),(.int .u64 o3)]),some (.fl [.int .u64 r0,.int .u64 r1,.int .u64 r2,.int .u64 r3,.int .u64 r4,.int .u64 r5,.int .u64 0,.int .u64 0,.int .u64 0,.int .u64 0])] 2464 [] []
def E9e:List KI:=(run B2m true 75 (⟨E9d,.normal,pS3 dF dF dF dF dF dF dF dF dF dF dF dF dF dF dF dF dF dF dF dF dF⟩:Cfg) [true]).cfg.k
theorem pD:let f:Int:=18446744073709551616;let h:Int:=0;let g:=A2 0 ((x*y3) % f) r3 h;let j:Int:=3;let k:=A2 0 (Prod.fst g) cy h;let l:Int:=4;A3 [((decide (j<l))=true),(0<=j),(j<((4:Nat):Int)),(0<=x),(x<f),(0<=y3),(y3<f),(0<=j),(j<(10:Int)),(0<=((x*y3) % f)),(0<=r3),(r3<f),(0<=h),(0<=(1:Int)),(0<=(Prod.fst g)),(0<=cy),(cy<f),(0<=h),(0<=(1:Int)),(0<=j),(j<(10:Int))]->Sg Try.prog (pS3 o0 o1 o2 o3 a b c d y0 y1 y2 y3 i x cy r0 r1 r2 r3 r4 r5) (A5 176 [0,1,2,3,4,10,11,13,14,29,30,37,38] [(.ci (.slc 0 0 4 1)),(.ci (.sl (.u64 [a,b,c,d]))),(.ci (.sl (.u64 [y0,y1,y2,y3]))),(.ci (.sl (.u64 [(18446744069414584321:Int),(6034159408538082302:Int),(3691218898639771653:Int),(8353516859464449352:Int)]))),.iu (18446744069414584319:Int),.ii l,.pt 64 0,.iu x,(.iu (wrap .u64 ((wrap .u64 (((x*y3) / f)+(Prod.snd g)))+(Prod.snd k)))),.ii l,(.ii (i:Int)),.ii l,.ii j] [0,64] [(eF_ [(.int .u64 o0),(.int .u64 o1),(.int .u64 o2),(.int .u64 o3)]),(eF_ [(.int .u64 r0),(.int .u64 r1),(.int .u64 r2),(.int .u64 (Prod.fst k)),(.int .u64 r4),(.int .u64 r5),(.int .u64 h),(.int .u64 h),(.int .u64 h),(.int .u64 h)])] 3200 [] []) .normal (E9e) (E9d):=sgA true 75 [true] T8
def pS4 (o0 o1 o2 o3 a b c d y0 y1 y2 y3 :Int) (i:Nat) (x cy r0 r1 r2 r3 r4 r5 :Int):St:=A5 176 [0,1,2,3,4,10,11,13,14,29,30,37,38] [(.ci (.slc 0 0 4 1)),(.ci (.sl (.u64 [a,b,c,d]))),(.ci (.sl (.u64 [y0,y1,y2,y3]))),(.ci (.sl (.u64 [(18446744069414584321:Int),(6034159408538082302:Int),(3691218898639771653:Int),(8353516859464449352:Int)]))),.iu (18446744069414584319:Int),.ii (4:Int),.pt 64 0,.v (.c (.int .u64 x)),.v (.c (.int .u64 cy)),.ii (4:Int),(.ii (i:Int)),.ii (4:Int),.ii (3:Int)] [0,64] [(eF_ [(.int .u64 o0),(.int .u64 o1),(.int .u64 o2),(.int .u64 o3)]),some (.fl [.int .u64 r0,.int .u64 r1,.int .u64 r2,.int .u64 r3,.int .u64 r4,.int .u64 r5,.int .u64 0,.int .u64 0,.int .u64 0,.int .u64 0])] 3200 [] []
def E9f:List KI:=(run B2m true 88 (⟨E9e,.normal,pS4 dF dF dF dF dF dF dF dF dF dF dF dF dF dF dF dF dF dF dF dF dF⟩:Cfg) [false]).cfg.k
theorem pE:let g:Int:=18446744073709551616;let h:Int:=18446744069414584321;let j:Int:=0;let k:Int:=4;let l:Int:=10;let m:Int:=18446744069414584319;let f:=wrap .u64 (r0*m);let n:=A2 0 r4 cy j;A3 [((decide (k<k))=false),(0<=k),(k<l),(0<=r4),(0<=cy),(cy<g),(0<=j),(0<=(1:Int)),(0<=k),(k<l),(0<=(5:Int)),((5:Int)<l),(0<=j),(0<l),(0<=j),(0<k),(0<=f),(f<g),(0<=h),(h<g),(0<=j),(0<l),(0<=((f*h) % g)),(0<=r0),(r0<g),(0<=j),(0<=(1:Int))]->Sg Try.prog (pS4 o0 o1 o2 o3 a b c d y0 y1 y2 y3 i x cy r0 r1 r2 r3 r4 r5) (A5 176 [0,1,2,3,4,10,11,14,20,23,29,30] [(.ci (.slc 0 0 4 1)),(.ci (.sl (.u64 [a,b,c,d]))),(.ci (.sl (.u64 [y0,y1,y2,y3]))),(.ci (.sl (.u64 [h,(6034159408538082302:Int),(3691218898639771653:Int),(8353516859464449352:Int)]))),.iu m,.ii k,.pt 64 0,(.iu (wrap .u64 (((f*h) / g)+(Prod.snd (A2 0 ((f*h) % g) r0 j))))),(.iu f),.ii (1:Int),.ii k,(.ii (i:Int))] [0,64] [(eF_ [(.int .u64 o0),(.int .u64 o1),(.int .u64 o2),(.int .u64 o3)]),(eF_ [(.int .u64 r0),(.int .u64 r1),(.int .u64 r2),(.int .u64 r3),(.int .u64 (Prod.fst n)),(.int .u64 (Prod.snd n)),(.int .u64 j),(.int .u64 j),(.int .u64 j),(.int .u64 j)])] 3984 [] []) .normal (E9f) (E9e):=sgA true 88 [false] T8
def pT1 (o0 o1 o2 o3 a b c d y0 y1 y2 y3 :Int) (i:Nat) (q cy r0 r1 r2 r3 r4 r5 :Int):St:=A5 176 [0,1,2,3,4,10,11,14,20,23,29,30] [(.ci (.slc 0 0 4 1)),(.ci (.sl (.u64 [a,b,c,d]))),(.ci (.sl (.u64 [y0,y1,y2,y3]))),(.ci (.sl (.u64 [(18446744069414584321:Int),(6034159408538082302:Int),(3691218898639771653:Int),(8353516859464449352:Int)]))),.iu (18446744069414584319:Int),.ii (4:Int),.pt 64 0,.v (.c (.int .u64 cy)),.v (.c (.int .u64 q)),.ii (1:Int),.ii (4:Int),(.ii (i:Int))] [0,64] [(eF_ [(.int .u64 o0),(.int .u64 o1),(.int .u64 o2),(.int .u64 o3)]),some (.fl [.int .u64 r0,.int .u64 r1,.int .u64 r2,.int .u64 r3,.int .u64 r4,.int .u64 r5,.int .u64 0,.int .u64 0,.int .u64 0,.int .u64 0])] 3984 [] []
def E9g:List KI:=(run B2m true 68 (⟨E9f,.normal,pT1 dF dF dF dF dF dF dF dF dF dF dF dF dF dF dF dF dF dF dF dF dF⟩:Cfg) [true]).cfg.k
end
section
variable (o0 o1 o2 o3 a b c d y0 y1 y2 y3:Int) (i:Nat) (q cy r0 r1 r2 r3 r4 r5:Int)
theorem pF:let g:Int:=18446744073709551616;let h:Int:=6034159408538082302;let f:=(q*h) % g;let j:Int:=0;let l:Int:=1;let m:Int:=4;let n:=A2 0 f r1 j;let k:=Prod.fst n;let o:=A2 0 k cy j;A3 [((decide (l<m))=true),(0<=l),(l<m),(0<=q),(q<g),(0<=h),(h<g),(0<=l),(l<(10:Int)),(0<=f),(0<=r1),(r1<g),(0<=j),(0<=l),(0<=k),(0<=cy),(cy<g),(0<=j),(0<=l),(0<=j),(0<(10:Int))]->Sg Try.prog (pT1 o0 o1 o2 o3 a b c d y0 y1 y2 y3 i q cy r0 r1 r2 r3 r4 r5) (A5 176 [0,1,2,3,4,10,11,14,20,23,29,30] [(.ci (.slc 0 0 4 1)),(.ci (.sl (.u64 [a,b,c,d]))),(.ci (.sl (.u64 [y0,y1,y2,y3]))),(.ci (.sl (.u64 [(18446744069414584321:Int),h,(3691218898639771653:Int),(8353516859464449352:Int)]))),.iu (18446744069414584319:Int),.ii m,.pt 64 0,(.iu (wrap .u64 ((wrap .u64 (((q*h) / g)+(Prod.snd n)))+(Prod.snd o)))),.iu q,.ii l,.ii m,(.ii (i:Int))] [0,64] [(eF_ [(.int .u64 o0),(.int .u64 o1),(.int .u64 o2),(.int .u64 o3)]),(eF_ [(.int .u64 (Prod.fst o)),(.int .u64 r1),(.int .u64 r2),(.int .u64 r3),(.int .u64 r4),(.int .u64 r5),(.int .u64 j),(.int .u64 j),(.int .u64 j),(.int .u64 j)])] 4704 [] []) .normal (E9g) (E9f):=sgA true 68 [true] T8
def pT2 (o0 o1 o2 o3 a b c d y0 y1 y2 y3 :Int) (i:Nat) (q cy r0 r1 r2 r3 r4 r5 :Int):St:=A5 176 [0,1,2,3,4,10,11,14,20,23,29,30] [(.ci (.slc 0 0 4 1)),(.ci (.sl (.u64 [a,b,c,d]))),(.ci (.sl (.u64 [y0,y1,y2,y3]))),(.ci (.sl (.u64 [(18446744069414584321:Int),(6034159408538082302:Int),(3691218898639771653:Int),(8353516859464449352:Int)]))),.iu (18446744069414584319:Int),.ii (4:Int),.pt 64 0,.v (.c (.int .u64 cy)),.v (.c (.int .u64 q)),.ii (1:Int),.ii (4:Int),(.ii (i:Int))] [0,64] [(eF_ [(.int .u64 o0),(.int .u64 o1),(.int .u64 o2),(.int .u64 o3)]),some (.fl [.int .u64 r0,.int .u64 r1,.int .u64 r2,.int .u64 r3,.int .u64 r4,.int .u64 r5,.int .u64 0,.int .u64 0,.int .u64 0,.int .u64 0])] 4704 [] []
def E9h:List KI:=(run B2m true 74 (⟨E9g,.normal,pT2 dF dF dF dF dF dF dF dF dF dF dF dF dF dF dF dF dF dF dF dF dF⟩:Cfg) [true]).cfg.k
theorem pG:let g:Int:=18446744073709551616;let h:Int:=3691218898639771653;let f:=(q*h) % g;let j:Int:=0;let l:Int:=2;let m:=0<=(1:Int);let n:Int:=4;let o:=A2 0 f r2 j;let k:=Prod.fst o;let p:=A2 0 k cy j;A3 [((decide (l<n))=true),(0<=l),(l<n),(0<=q),(q<g),(0<=h),(h<g),(0<=l),(l<(10:Int)),(0<=f),(0<=r2),(r2<g),(0<=j),m,(0<=k),(0<=cy),(cy<g),(0<=j),m,m,((1:Int)<(10:Int))]->Sg Try.prog (pT2 o0 o1 o2 o3 a b c d y0 y1 y2 y3 i q cy r0 r1 r2 r3 r4 r5) (A5 176 [0,1,2,3,4,10,11,14,20,23,29,30] [(.ci (.slc 0 0 4 1)),(.ci (.sl (.u64 [a,b,c,d]))),(.ci (.sl (.u64 [y0,y1,y2,y3]))),(.ci (.sl (.u64 [(18446744069414584321:Int),(6034159408538082302:Int),h,(8353516859464449352:Int)]))),.iu (18446744069414584319:Int),.ii n,.pt 64 0,(.iu (wrap .u64 ((wrap .u64 (((q*h) / g)+(Prod.snd o)))+(Prod.snd p)))),.iu q,.ii l,.ii n,(.ii (i:Int))] [0,64] [(eF_ [(.int .u64 o0),(.int .u64 o1),(.int .u64 o2),(.int .u64 o3)]),(eF_ [(.int .u64 r0),(.int .u64 (Prod.fst p)),(.int .u64 r2),(.int .u64 r3),(.int .u64 r4),(.int .u64 r5),(.int .u64 j),(.int .u64 j),(.int .u64 j),(.int .u64 j)])] 5472 [] []) .normal (E9h) (E9g):=sgA true 74 [true] T8
def pT3 (o0 o1 o2 o3 a b c d y0 y1 y2 y3 :Int) (i:Nat) (q cy r0 r1 r2 r3 r4 r5 :Int):St:=A5 176 [0,1,2,3,4,10,11,14,20,23,29,30] [(.ci (.slc 0 0 4 1)),(.ci (.sl (.u64 [a,b,c,d]))),(.ci (.sl (.u64 [y0,y1,y2,y3]))),(.ci (.sl (.u64 [(18446744069414584321:Int),(6034159408538082302:Int),(3691218898639771653:Int),(8353516859464449352:Int)]))),.iu (18446744069414584319:Int),.ii (4:Int),.pt 64 0,.v (.c (.int .u64 cy)),.v (.c (.int .u64 q)),.ii (2:Int),.ii (4:Int),(.ii (i:Int))] [0,64] [(eF_ [(.int .u64 o0),(.int .u64 o1),(.int .u64 o2),(.int .u64 o3)]),some (.fl [.int .u64 r0,.int .u64 r1,.int .u64 r2,.int .u64 r3,.int .u64 r4,.int .u64 r5,.int .u64 0,.int .u64 0,.int .u64 0,.int .u64 0])] 5472 [] []
def F5q:List KI:=(run B2m true 74 (⟨E9h,.normal,pT3 dF dF dF dF dF dF dF dF dF dF dF dF dF dF dF dF dF dF dF dF dF⟩:Cfg) [true]).cfg.k
theorem pH:let g:Int:=18446744073709551616;let h:Int:=8353516859464449352;let f:=(q*h) % g;let j:Int:=0;let l:Int:=3;let m:Int:=4;let n:=A2 0 f r3 j;let k:=Prod.fst n;let o:=A2 0 k cy j;A3 [((decide (l<m))=true),(0<=l),(l<m),(0<=q),(q<g),(0<=h),(h<g),(0<=l),(l<(10:Int)),(0<=f),(0<=r3),(r3<g),(0<=j),(0<=(1:Int)),(0<=k),(0<=cy),(cy<g),(0<=j),(0<=(1:Int)),(0<=(2:Int)),((2:Int)<(10:Int))]->Sg Try.prog (pT3 o0 o1 o2 o3 a b c d y0 y1 y2 y3 i q cy r0 r1 r2 r3 r4 r5) (A5 176 [0,1,2,3,4,10,11,14,20,23,29,30] [(.ci (.slc 0 0 4 1)),(.ci (.sl (.u64 [a,b,c,d]))),(.ci (.sl (.u64 [y0,y1,y2,y3]))),(.ci (.sl (.u64 [(18446744069414584321:Int),(6034159408538082302:Int),(3691218898639771653:Int),h]))),.iu (18446744069414584319:Int),.ii m,.pt 64 0,(.iu (wrap .u64 ((wrap .u64 (((q*h) / g)+(Prod.snd n)))+(Prod.snd o)))),.iu q,.ii l,.ii m,(.ii (i:Int))] [0,64] [(eF_ [(.int .u64 o0),(.int .u64 o1),(.int .u64 o2),(.int .u64 o3)]),(eF_ [(.int .u64 r0),(.int .u64 r1),(.int .u64 (Prod.fst o)),(.int .u64 r3),(.int .u64 r4),(.int .u64 r5),(.int .u64 j),(.int .u64 j),(.int .u64 j),(.int .u64 j)])] 6240 [] []) .normal (F5q) (E9h):=sgA true 74 [true] T8
def pT4 (o0 o1 o2 o3 a b c d y0 y1 y2 y3 :Int) (i:Nat) (q cy r0 r1 r2 r3 r4 r5 :Int):St:=A5 176 [0,1,2,3,4,10,11,14,20,23,29,30] [(.ci (.slc 0 0 4 1)),(.ci (.sl (.u64 [a,b,c,d]))),(.ci (.sl (.u64 [y0,y1,y2,y3]))),(.ci (.sl (.u64 [(18446744069414584321:Int),(6034159408538082302:Int),(3691218898639771653:Int),(8353516859464449352:Int)]))),.iu (18446744069414584319:Int),.ii (4:Int),.pt 64 0,.v (.c (.int .u64 cy)),.v (.c (.int .u64 q)),.ii (3:Int),.ii (4:Int),(.ii (i:Int))] [0,64] [(eF_ [(.int .u64 o0),(.int .u64 o1),(.int .u64 o2),(.int .u64 o3)]),some (.fl [.int .u64 r0,.int .u64 r1,.int .u64 r2,.int .u64 r3,.int .u64 r4,.int .u64 r5,.int .u64 0,.int .u64 0,.int .u64 0,.int .u64 0])] 6240 [] []
theorem pI:let f:Int:=4;let g:Int:=0;let h:Int:=10;let j:=A2 0 r4 cy g;A3 [((decide (f<f))=false),(0<=f),(f<h),(0<=r4),(0<=cy),(cy<(18446744073709551616:Int)),(0<=g),(0<=(1:Int)),(0<=(3:Int)),((3:Int)<h),(0<=(5:Int)),((5:Int)<h),(0<=f),(f<h)]->Sg Try.prog (pT4 o0 o1 o2 o3 a b c d y0 y1 y2 y3 i q cy r0 r1 r2 r3 r4 r5) (A5 176 [0,1,2,3,4,10,11,29,30] [(.ci (.slc 0 0 4 1)),(.ci (.sl (.u64 [a,b,c,d]))),(.ci (.sl (.u64 [y0,y1,y2,y3]))),(.ci (.sl (.u64 [(18446744069414584321:Int),(6034159408538082302:Int),(3691218898639771653:Int),(8353516859464449352:Int)]))),.iu (18446744069414584319:Int),.ii f,.pt 64 0,.ii f,(.ii (wrap .i64 ((i:Int)+1)))] [0,64] [(eF_ [(.int .u64 o0),(.int .u64 o1),(.int .u64 o2),(.int .u64 o3)]),(eF_ [(.int .u64 r0),(.int .u64 r1),(.int .u64 r2),(.int .u64 (Prod.fst j)),(.int .u64 (wrap .u64 (r5+(Prod.snd j)))),(.int .u64 r5),(.int .u64 g),(.int .u64 g),(.int .u64 g),(.int .u64 g)])] 6720 [] []) .normal (D5 B1b) (F5q):=sgA true 50 [false] T8
end
end
end S4

namespace S4

section
variable {w0:World} {F0:Nat->Prop} {K:Kp} {ac:List Act} {Q:Exit->Act->World->Prop} {cX:Ctx} {aX:Act}

theorem sPA (o0 o1 o2 o3 a b c d y0 y1 y2 y3:Int) (i:Nat) {r0 r1 r2 r3 r4 r5 x:Int} (hi:i<4) (he:List.getD [a,b,c,d] i 0=x) (hx:Lim x) (hy:Lim y0) (hr:Lim r0) (hs:Sim w0 F0 K ac (pS o0 o1 o2 o3 a b c d y0 y1 y2 y3 i r0 r1 r2 r3 r4 r5) cX aX)
  (k:∀n cy:Int,x*y0+r0+0=n+18446744073709551616*cy->Lim n->Lim cy->∀ac cY aY,Sim w0 F0 K ac (pS1 o0 o1 o2 o3 a b c d y0 y1 y2 y3 i x cy n r1 r2 r3 r4 r5) cY aY->Wq Try.prog Q E9b ac .normal aY cY.w):Wq Try.prog Q (B5 B1b) ac .normal aX cX.w:=by
 obtain ⟨x0,x1⟩:=hx;obtain ⟨yy0,yy1⟩:=hy;obtain ⟨rr0,rr1⟩:=hr;have e:=mac x0 x1 yy0 yy1 rr0 rr1 (u:=0) (by decide) (by decide)
 have sA:=@pA o0 o1 o2 o3 a b c d y0 y1 y2 y3 i r0 r1 r2 r3 r4 r5 w0 F0 K ac Q cX aX;rw[Int.toNat_natCast,he] at sA;obtain ⟨e1,l1,u1,m1⟩:=e;refine sA ?_ hs fun ac cY aY h=>k _ _ e1 l1 u1 ac cY aY h
 simp only[A3,and_true,decide_eq_true_eq];omega

theorem sPB (o0 o1 o2 o3 a b c d y0 y1 y2 y3:Int) (i:Nat) {x cy r0 r1 r2 r3 r4 r5:Int} (hx:Lim x) (hy:Lim y1) (hr:Lim r1) (hc:Lim cy) (hs:Sim w0 F0 K ac (pS1 o0 o1 o2 o3 a b c d y0 y1 y2 y3 i x cy r0 r1 r2 r3 r4 r5) cX aX)
  (k:∀n cy' : Int,x*y1+r1+cy=n+18446744073709551616*cy' -> Lim n->Lim cy' -> ∀ac cY aY,Sim w0 F0 K ac (pS2 o0 o1 o2 o3 a b c d y0 y1 y2 y3 i x cy' r0 n r2 r3 r4 r5) cY aY->Wq Try.prog Q E9c ac .normal aY cY.w):Wq Try.prog Q E9b ac .normal aX cX.w:=by
 obtain ⟨x0,x1⟩:=hx;obtain ⟨yy0,yy1⟩:=hy;obtain ⟨rr0,rr1⟩:=hr;obtain ⟨cc0,cc1⟩:=hc;obtain ⟨e1,l1,u1,m1⟩:=mac x0 x1 yy0 yy1 rr0 rr1 cc0 cc1;refine pB o0 o1 o2 o3 a b c d y0 y1 y2 y3 i x cy r0 r1 r2 r3 r4 r5 ?_ hs fun ac cY aY h=>k _ _ e1 l1 u1 ac cY aY h
 simp only[A3,and_true,decide_eq_true_eq];omega

theorem sPC (o0 o1 o2 o3 a b c d y0 y1 y2 y3:Int) (i:Nat) {x cy r0 r1 r2 r3 r4 r5:Int} (hx:Lim x) (hy:Lim y2) (hr:Lim r2) (hc:Lim cy) (hs:Sim w0 F0 K ac (pS2 o0 o1 o2 o3 a b c d y0 y1 y2 y3 i x cy r0 r1 r2 r3 r4 r5) cX aX)
  (k:∀n cy' : Int,x*y2+r2+cy=n+18446744073709551616*cy' -> Lim n->Lim cy' -> ∀ac cY aY,Sim w0 F0 K ac (pS3 o0 o1 o2 o3 a b c d y0 y1 y2 y3 i x cy' r0 r1 n r3 r4 r5) cY aY->Wq Try.prog Q E9d ac .normal aY cY.w):Wq Try.prog Q E9c ac .normal aX cX.w:=by
 obtain ⟨x0,x1⟩:=hx;obtain ⟨yy0,yy1⟩:=hy;obtain ⟨rr0,rr1⟩:=hr;obtain ⟨cc0,cc1⟩:=hc;obtain ⟨e1,l1,u1,m1⟩:=mac x0 x1 yy0 yy1 rr0 rr1 cc0 cc1;refine pC o0 o1 o2 o3 a b c d y0 y1 y2 y3 i x cy r0 r1 r2 r3 r4 r5 ?_ hs fun ac cY aY h=>k _ _ e1 l1 u1 ac cY aY h
 simp only[A3,and_true,decide_eq_true_eq];omega

theorem sPD (o0 o1 o2 o3 a b c d y0 y1 y2 y3:Int) (i:Nat) {x cy r0 r1 r2 r3 r4 r5:Int} (hx:Lim x) (hy:Lim y3) (hr:Lim r3) (hc:Lim cy) (hs:Sim w0 F0 K ac (pS3 o0 o1 o2 o3 a b c d y0 y1 y2 y3 i x cy r0 r1 r2 r3 r4 r5) cX aX)
  (k:∀n cy' : Int,x*y3+r3+cy=n+18446744073709551616*cy' -> Lim n->Lim cy' -> ∀ac cY aY,Sim w0 F0 K ac (pS4 o0 o1 o2 o3 a b c d y0 y1 y2 y3 i x cy' r0 r1 r2 n r4 r5) cY aY->Wq Try.prog Q E9e ac .normal aY cY.w):Wq Try.prog Q E9d ac .normal aX cX.w:=by
 obtain ⟨x0,x1⟩:=hx;obtain ⟨yy0,yy1⟩:=hy;obtain ⟨rr0,rr1⟩:=hr;obtain ⟨cc0,cc1⟩:=hc;obtain ⟨e1,l1,u1,m1⟩:=mac x0 x1 yy0 yy1 rr0 rr1 cc0 cc1;refine pD o0 o1 o2 o3 a b c d y0 y1 y2 y3 i x cy r0 r1 r2 r3 r4 r5 ?_ hs fun ac cY aY h=>k _ _ e1 l1 u1 ac cY aY h
 simp only[A3,and_true,decide_eq_true_eq];omega

theorem sPE (o0 o1 o2 o3 a b c d y0 y1 y2 y3:Int) (i:Nat) {x cy r0 r1 r2 r3 r4 r5:Int} (hr0:Lim r0) (hr4:Lim r4) (hc:Lim cy) (hs:Sim w0 F0 K ac (pS4 o0 o1 o2 o3 a b c d y0 y1 y2 y3 i x cy r0 r1 r2 r3 r4 r5) cX aX)
  (k:∀q cy' n4 n5:Int,r4+cy+0=n4+18446744073709551616*n5->q*18446744069414584321+r0=18446744073709551616*cy' -> Lim n4->0<=n5->n5<=1->Lim q->Lim cy' -> ∀ac cY aY,Sim w0 F0 K ac (pT1 o0 o1 o2 o3 a b c d y0 y1 y2 y3 i q cy' r0 r1 r2 r3 n4 n5) cY aY->Wq Try.prog Q E9f ac .normal aY cY.w):Wq Try.prog Q E9e ac .normal aX cX.w:=by
 obtain ⟨rr0,rr1⟩:=hr0;obtain ⟨rr4,rr5⟩:=hr4;obtain ⟨cc0,cc1⟩:=hc;obtain ⟨e1,p1,p1',q1,q1'⟩:=F2 (c:=0) rr4 rr5 cc0 cc1 (by decide) (by decide)
 have hq:=A1w (r0*18446744069414584319);have e2:=E0t (b:=18446744069414584321) hq.1 hq.2 (by decide) (by decide) rr0 rr1
 have e3:=D0d (l:=r0) rfl;obtain ⟨hq0,hq1⟩:=hq;obtain ⟨e2,⟨f1,f2⟩,f3⟩:=e2;refine pE o0 o1 o2 o3 a b c d y0 y1 y2 y3 i x cy r0 r1 r2 r3 r4 r5 ?_ hs fun ac cY aY h=>k _ _ _ _ e1 ?_ ⟨p1,p1'⟩ q1 q1' ⟨hq0,hq1⟩ f3 ac cY aY h
 ·simp only[A3,and_true,decide_eq_false_iff_not]
  omega
 ·omega

theorem sPF (o0 o1 o2 o3 a b c d y0 y1 y2 y3:Int) (i:Nat) {q cy r0 r1 r2 r3 r4 r5:Int} (hq:Lim q) (hr:Lim r1) (hc:Lim cy) (hs:Sim w0 F0 K ac (pT1 o0 o1 o2 o3 a b c d y0 y1 y2 y3 i q cy r0 r1 r2 r3 r4 r5) cX aX)
  (k:∀n cy' : Int,q*6034159408538082302+r1+cy=n+18446744073709551616*cy' -> Lim n->Lim cy' -> ∀ac cY aY,Sim w0 F0 K ac (pT2 o0 o1 o2 o3 a b c d y0 y1 y2 y3 i q cy' n r1 r2 r3 r4 r5) cY aY->Wq Try.prog Q E9g ac .normal aY cY.w):Wq Try.prog Q E9f ac .normal aX cX.w:=by
 obtain ⟨x0,x1⟩:=hq;obtain ⟨rr0,rr1⟩:=hr;obtain ⟨cc0,cc1⟩:=hc;obtain ⟨e1,l1,u1,m1⟩:=mac (b:=6034159408538082302) x0 x1 (by decide) (by decide) rr0 rr1 cc0 cc1
 refine pF o0 o1 o2 o3 a b c d y0 y1 y2 y3 i q cy r0 r1 r2 r3 r4 r5 ?_ hs fun ac cY aY h=>k _ _ e1 l1 u1 ac cY aY h
 simp only[A3,and_true,decide_eq_true_eq];omega

theorem sPG (o0 o1 o2 o3 a b c d y0 y1 y2 y3:Int) (i:Nat) {q cy r0 r1 r2 r3 r4 r5:Int} (hq:Lim q) (hr:Lim r2) (hc:Lim cy) (hs:Sim w0 F0 K ac (pT2 o0 o1 o2 o3 a b c d y0 y1 y2 y3 i q cy r0 r1 r2 r3 r4 r5) cX aX)
  (k:∀n cy' : Int,q*3691218898639771653+r2+cy=n+18446744073709551616*cy' -> Lim n->Lim cy' -> ∀ac cY aY,Sim w0 F0 K ac (pT3 o0 o1 o2 o3 a b c d y0 y1 y2 y3 i q cy' r0 n r2 r3 r4 r5) cY aY->Wq Try.prog Q E9h ac .normal aY cY.w):Wq Try.prog Q E9g ac .normal aX cX.w:=by
 obtain ⟨x0,x1⟩:=hq;obtain ⟨rr0,rr1⟩:=hr;obtain ⟨cc0,cc1⟩:=hc;obtain ⟨e1,l1,u1,m1⟩:=mac (b:=3691218898639771653) x0 x1 (by decide) (by decide) rr0 rr1 cc0 cc1
 refine pG o0 o1 o2 o3 a b c d y0 y1 y2 y3 i q cy r0 r1 r2 r3 r4 r5 ?_ hs fun ac cY aY h=>k _ _ e1 l1 u1 ac cY aY h
 simp only[A3,and_true,decide_eq_true_eq];omega

theorem sPH (o0 o1 o2 o3 a b c d y0 y1 y2 y3:Int) (i:Nat) {q cy r0 r1 r2 r3 r4 r5:Int} (hq:Lim q) (hr:Lim r3) (hc:Lim cy) (hs:Sim w0 F0 K ac (pT3 o0 o1 o2 o3 a b c d y0 y1 y2 y3 i q cy r0 r1 r2 r3 r4 r5) cX aX)
  (k:∀n cy' : Int,q*8353516859464449352+r3+cy=n+18446744073709551616*cy' -> Lim n->Lim cy' -> ∀ac cY aY,Sim w0 F0 K ac (pT4 o0 o1 o2 o3 a b c d y0 y1 y2 y3 i q cy' r0 r1 n r3 r4 r5) cY aY->Wq Try.prog Q F5q ac .normal aY cY.w):Wq Try.prog Q E9h ac .normal aX cX.w:=by
 obtain ⟨x0,x1⟩:=hq;obtain ⟨rr0,rr1⟩:=hr;obtain ⟨cc0,cc1⟩:=hc;obtain ⟨e1,l1,u1,m1⟩:=mac (b:=8353516859464449352) x0 x1 (by decide) (by decide) rr0 rr1 cc0 cc1
 refine pH o0 o1 o2 o3 a b c d y0 y1 y2 y3 i q cy r0 r1 r2 r3 r4 r5 ?_ hs fun ac cY aY h=>k _ _ e1 l1 u1 ac cY aY h
 simp only[A3,and_true,decide_eq_true_eq];omega

theorem sPI (o0 o1 o2 o3 a b c d y0 y1 y2 y3:Int) (i:Nat) {q cy r0 r1 r2 r3 r4 r5:Int} (hi:i<4) (hr4:Lim r4) (hc:Lim cy) (hs:Sim w0 F0 K ac (pT4 o0 o1 o2 o3 a b c d y0 y1 y2 y3 i q cy r0 r1 r2 r3 r4 r5) cX aX)
  (k:∀n3 c4:Int,r4+cy+0=n3+18446744073709551616*c4->Lim n3->0<=c4->c4<=1->∀ac cY aY,Sim w0 F0 K ac (pS o0 o1 o2 o3 a b c d y0 y1 y2 y3 (i+1) r0 r1 r2 n3 (wrap IntKind.u64 (r5+c4)) r5) cY aY->Wq Try.prog Q (D5 B1b) ac .normal aY cY.w):Wq Try.prog Q F5q ac .normal aX cX.w:=by
 obtain ⟨rr4,rr5⟩:=hr4;obtain ⟨cc0,cc1⟩:=hc;obtain ⟨e1,p1,p1',q1,q1'⟩:=F2 (c:=0) rr4 rr5 cc0 cc1 (by decide) (by decide)
 refine pI o0 o1 o2 o3 a b c d y0 y1 y2 y3 i q cy r0 r1 r2 r3 r4 r5 ?_ hs fun ac cY aY h=>k _ _ e1 ⟨p1,p1'⟩ q1 q1' ac cY aY (by rw[B0 (by omega) (by omega)] at h;exact h.nx _)
 simp only[A3,and_true,decide_eq_false_iff_not];omega

end

end S4

namespace S4

structure G7s (A Y i:Nat) (r0 r1 r2 r3 r4:Int):Prop where
 i4:i<=4
 h0:Lim r0
 h1:Lim r1
 h2:Lim r2
 h3:Lim r3
 h4:r4=0
 lt:D8 r0 r1 r2 r3<2*rN
 eq:∃Q:Nat,D8 r0 r1 r2 r3*((2 ^ (64*i):Nat):Int)=((A % 2 ^ (64*i):Nat):Int)*(Y:Int)+(Q:Int)*(rN:Int)

theorem E1w {A Y r i Q:Nat} {T T' q:Int} (hq:0<=q) (h:T*((2 ^ (64*i):Nat):Int)=((A % 2 ^ (64*i):Nat):Int)*(Y:Int)+(Q:Int)*(r:Int))
  (h' : 18446744073709551616*T' = T+A0 A i*(Y:Int)+q*(r:Int)) :
  ∃Q:Nat,T' * ((2 ^ (64*(i+1)):Nat):Int)=((A % 2 ^ (64*(i+1)):Nat):Int)*(Y:Int)+(Q:Int)*(r:Int):=by
 obtain ⟨q,rfl⟩:=Int.eq_ofNat_of_zero_le hq;refine ⟨Q+q*2 ^ (64*i),?_⟩
 rw[B9c];have hp:(2:Nat) ^ (64*(i+1))=2 ^ (64*i)*18446744073709551616:=by rw[Nat.mul_add,Nat.pow_add]
 rw[hp];have hl:A0 A i=((A / 2 ^ (64*i) % 18446744073709551616:Nat):Int):=rfl;rw[hl] at h'
 generalize A / 2 ^ (64*i) % 18446744073709551616=xi at *;generalize A % 2 ^ (64*i)=X at *;generalize 2 ^ (64*i)=m at *;have e1:T' * ((m*18446744073709551616:Nat):Int)=(18446744073709551616*T')*(m:Int):=by
  rw[Int.natCast_mul,Int.mul_comm (m:Int),<-Int.mul_assoc,Int.mul_comm T'];rfl
 rw[e1,h',Int.add_mul,Int.add_mul,h];push_cast
 simp only[Int.add_mul,Int.mul_assoc];have e2:(xi:Int)*((Y:Int)*(m:Int))=(m:Int)*((xi:Int)*(Y:Int)):=by rw[<-Int.mul_assoc,Int.mul_comm]
 have e3:(q:Int)*((r:Int)*(m:Int))=(q:Int)*((m:Int)*(r:Int)):=by rw[Int.mul_comm (r:Int)]
 rw[e2,e3];omega

theorem F5o {r B v T X Q:Nat} (e:v*B % r=1 % r) (h:T*B=X+Q*r):T % r=X*v % r:=by
  have h2:∀a:Nat,a*(v*B) % r=a % r:=fun a=>by rw[<-Nat.mul_mod_mod,e,Nat.mul_mod_mod,Nat.mul_one]
  calc T % r=T*(v*B) % r:=(h2 _).symm
    _=(T*B)*v % r:=by congr 1;simp only[Nat.mul_comm,Nat.mul_left_comm]
    _=X*v % r:=by rw[h,Nat.add_mul,Nat.mul_assoc Q,Nat.mul_comm r,<-Nat.mul_assoc,Nat.add_mul_mod_self_right]

theorem D5d {a b:Nat} (h:a % rN=b % rN):A3a a=A3a b:=by unfold A3a;rw[h]

theorem D4x (o0 o1 o2 o3:Int) (A Y:Nat) (hA:A<B4) (hY:Y<rN) :
  MuC Try.prog 44 0 4 1 (fl4 o0 o1 o2 o3) [u4s (A0 A 0) (A0 A 1) (A0 A 2) (A0 A 3),u4s (A0 Y 0) (A0 Y 1) (A0 Y 2) (A0 Y 3),mR,.v (.c (.int .u64 18446744069414584319))] (.fl [.ob (.fr (A3a (A*Y*C7a)))]):=by
 refine B0u (fn:=Try.f44) (c:=B2 Try.f44) Try.func44 rfl rfl fun x0 a0 hk hm hs=>?_
 obtain ⟨ey,y0,y0',y1,y1',y2,y2',y3,y3'⟩:=W4 Y (Nat.lt_trans hY (by decide))
 obtain ⟨ea,z0,z0',z1,z1',z2,z2',z3,z3'⟩:=W4 A hA;have hyr:(Y:Int)<(rN:Int):=by exact_mod_cast hY
 have hin:=@pIn o0 o1 o2 o3 (A0 A 0) (A0 A 1) (A0 A 2) (A0 A 3) (A0 Y 0) (A0 Y 1) (A0 Y 2) (A0 Y 3);have hget:∀i,i<4->List.getD [A0 A 0,A0 A 1,A0 A 2,A0 A 3] i 0=A0 A i:=by
  intro i hi;have:i=0∨i=1∨i=2∨i=3:=by omega
  rcases this with rfl | rfl | rfl | rfl<;>rfl
 have hmul:=fun z=>D0f z (A0 Y 0) (A0 Y 1) (A0 Y 2) (A0 Y 3)
 have hyn:(Y:Int)=D8 (A0 Y 0) (A0 Y 1) (A0 Y 2) (A0 Y 3):=ey;rw[<-hyn] at hmul;have hx0:∀i,0<=A0 A i:=fun i=>Int.natCast_nonneg _
 have hx1:∀i,A0 A i<18446744073709551616:=fun i=>by
  show ((A / 2 ^ (64*i) % 18446744073709551616:Nat):Int)<18446744073709551616;omega
 have hlimY0:Lim (A0 Y 0):=⟨y0,y0'⟩;have hlimY1:Lim (A0 Y 1):=⟨y1,y1'⟩;have hlimY2:Lim (A0 Y 2):=⟨y2,y2'⟩;have hlimY3:Lim (A0 Y 3):=⟨y3,y3'⟩;clear ey ea y0 y0' y1 y1' y2 y2' y3 y3' z0 z0' z1 z1' z2 z2' z3 z3';have hT4:A % 2 ^ (64*4)=A:=Nat.mod_eq_of_lt (by rw[E9o];exact hA)
 generalize A0 A 0=a at *;generalize A0 A 1=b at *;generalize A0 A 2=c at *;generalize A0 A 3=d at *;generalize A0 Y 0=v0 at *;generalize A0 Y 1=v1 at *;generalize A0 Y 2=v2 at *;generalize A0 Y 3=v3 at *;refine hin trivial hs fun ac cY aY hs1=>?_
 refine C0 (ι:={ p:Nat×Int×Int×Int×Int×Int×Int // G7s A Y p.1 p.2.1 p.2.2.1 p.2.2.2.1 p.2.2.2.2.1 p.2.2.2.2.2.1 })
  (fun p=>pS o0 o1 o2 o3 a b c d v0 v1 v2 v3 p.1.1 p.1.2.1 p.1.2.2.1 p.1.2.2.2.1 p.1.2.2.2.2.1 p.1.2.2.2.2.2.1 p.1.2.2.2.2.2.2) (fun p=>4-p.1.1) (c:=lpC B1b) (k:=lpR B1b) (by kernel_rfl) (fun p ih ac cY aY hs=>?_)
  ⟨(0,0,0,0,0,0,0),⟨by decide,⟨by decide,by decide⟩,⟨by decide,by decide⟩,⟨by decide,by decide⟩,⟨by decide,by decide⟩,rfl,by decide,0,by simp [D8,Nat.mod_one]⟩⟩ hs1
 obtain ⟨⟨i,r0,r1,r2,r3,r4,r5⟩,hI⟩:=p;simp only at ih hs hI
 obtain ⟨hi,h0,h1,h2,h3,h4,hlt,Q,hQ⟩:=hI;subst h4;by_cases h5:i<4
 ·have hround:=fun T' q hq=>E1w (A:=A) (Y:=Y) (r:=rN) (i:=i) (Q:=Q) (T:=D8 r0 r1 r2 r3) (T' := T') (q:=q) hq hQ
  have hzz:A0 A i*(Y:Int)<=18446744073709551615*(Y:Int):=Int.mul_le_mul_of_nonneg_right (by have:=hx1 i;omega) (by omega)
  have hz0:0<=A0 A i*(Y:Int):=Int.mul_nonneg (hx0 i) (by omega)
  have hlx:Lim (A0 A i):=⟨hx0 i,hx1 i⟩;refine sPA o0 o1 o2 o3 a b c d v0 v1 v2 v3 i h5 (hget i h5) hlx hlimY0 h0 hs fun a0 c0 eA la0 lc0 ac cY aY hs=>?_
  refine sPB o0 o1 o2 o3 a b c d v0 v1 v2 v3 i hlx hlimY1 h1 lc0 hs fun a1 c1 eB la1 lc1 ac cY aY hs=>?_
  refine sPC o0 o1 o2 o3 a b c d v0 v1 v2 v3 i hlx hlimY2 h2 lc1 hs fun a2 c2 eC la2 lc2 ac cY aY hs=>?_
  refine sPD o0 o1 o2 o3 a b c d v0 v1 v2 v3 i hlx hlimY3 h3 lc2 hs fun a3 c3 eD la3 lc3 ac cY aY hs=>?_
  refine sPE o0 o1 o2 o3 a b c d v0 v1 v2 v3 i la0 ⟨by decide,by decide⟩ lc3 hs fun q d0 n4 n5 eE eQ ln4 n50 n51 lq ld0 ac cY aY hs=>?_
  refine sPF o0 o1 o2 o3 a b c d v0 v1 v2 v3 i lq la1 ld0 hs fun b0 d1 eF lb0 ld1 ac cY aY hs=>?_
  refine sPG o0 o1 o2 o3 a b c d v0 v1 v2 v3 i lq la2 ld1 hs fun b1 d2 eG lb1 ld2 ac cY aY hs=>?_
  refine sPH o0 o1 o2 o3 a b c d v0 v1 v2 v3 i lq la3 ld2 hs fun b2 d3 eH lb2 ld3 ac cY aY hs=>?_
  refine sPI o0 o1 o2 o3 a b c d v0 v1 v2 v3 i h5 ln4 ld3 hs fun b3 c4 eI lb3 c40 c41 ac cY aY hs=>?_
  have hall:18446744073709551616*(D8 b0 b1 b2 b3+115792089237316195423570985008687907853269984665640564039457584007913129639936*(n5+c4))=D8 r0 r1 r2 r3+A0 A i*(Y:Int)+q*(rN:Int):=by
   rw[hmul];clear hround hmul hzz hz0 hQ ih hyr hyn;unfold D8 rN;omega
  have hlt' : D8 b0 b1 b2 b3+115792089237316195423570985008687907853269984665640564039457584007913129639936*(n5+c4)<2*rN:=by
   obtain ⟨q0,q1⟩:=lq;have:q*(rN:Int)<=18446744073709551615*(rN:Int):=Int.mul_le_mul_of_nonneg_right (by omega) (by omega)
   clear hround hmul hQ ih hyn;generalize A0 A i*(Y:Int)=z at *;generalize q*(rN:Int)=z' at *;omega
  have htop:n5+c4=0:=by
   obtain ⟨_,_⟩:=lb0;obtain ⟨_,_⟩:=lb1;obtain ⟨_,_⟩:=lb2;obtain ⟨_,_⟩:=lb3;unfold D8 rN at hlt';omega
  rw[htop,Int.mul_zero,Int.add_zero] at hall hlt'
  rw[htop] at hs;exact ih ⟨(i+1,b0,b1,b2,b3,wrap IntKind.u64 0,n5),⟨h5,lb0,lb1,lb2,lb3,rfl,hlt',hround _ q lq.1 hall⟩⟩ (by show 4-(i+1)<4-i;omega) ac cY aY hs
 ·have hi4:i=4:=by omega
  subst hi4;have hT:0<=D8 r0 r1 r2 r3:=by
   obtain ⟨_,_⟩:=h0;obtain ⟨_,_⟩:=h1;obtain ⟨_,_⟩:=h2;obtain ⟨_,_⟩:=h3;unfold D8;omega
  rw[hT4] at hQ;have hb4:(2 ^ (64*4):Nat)=B4:=E9o;rw[hb4] at hQ;have hlast:=D7g hT hQ;have hred:A3a (D8 r0 r1 r2 r3).toNat=A3a (A*Y*C7a):=D5d (F5o B1k hlast);rw[<-hred];refine A8l T8 hk hm (pX o0 o1 o2 o3 a b c d v0 v1 v2 v3 4 r0 r1 r2 r3 0 r5) rfl ?_ (fun y cs h=>h) (.inl ⟨_,_,rfl,rfl⟩) hs
  refine ⟨by decide,by decide,by decide,by decide,by decide,h0,h1,h2,h3,hlt,rfl,rfl,rfl,rfl,rfl,trivial⟩

end S4

namespace S4

theorem MuC.pre {P:Program} {f off len es:Nat} {e1 e2 e' : En} {rest:List SV} (h:MuC P f off len es e2 rest e') (hl:∃l l',e1 = .fl l∧e2 = .fl l') (hd:∀x cs,D9 x e1 cs->D9 x e2 cs):MuC P f off len es e1 rest e' := by
 intro x vs hk hm hden;obtain ⟨l,l',rfl,rfl⟩:=hl;refine h x vs hk ⟨fun p=>?_,fun p r hp=>?_,fun p q hp hn=>?_,fun p e hp hr=>?_,hm.inj,hm.own,hm.fw⟩ hden
 ·rw[<-hm.dom p]
  by_cases h0:p=0<;>simp [one,h0]
 ·by_cases h0:p=0
  ·subst h0;exact hm.fl 0 l rfl
  ·simp [one,h0] at hp
 ·by_cases h0:p=0
  ·subst h0;simp [one] at hp
  ·simp [one,h0] at hp
 ·by_cases h0:p=0
  ·subst h0
   simp only[one,if_true,Option.some.injEq] at hp;subst hp;obtain ⟨cs,ty,hc,hdd⟩:=hm.ent 0 _ rfl hr;exact ⟨cs,ty,hc,hd _ _ hdd⟩
  ·simp [one,h0] at hp

theorem F5l {x:Ctx} {o:Ob} (hk:o.k=4) {cs:List Value} (h:B8 x.D [.ob o] cs):B8 x.D [.int .u64 (A0 o.n 0),.int .u64 (A0 o.n 1),.int .u64 (A0 o.n 2),.int .u64 (A0 o.n 3)] cs:=by
 obtain ⟨c1,c2,e,⟨d,h1⟩,h2⟩:=h;have h1:c1=o.cells:=by cases d<;>exact h1
 have h2:c2=[]:=h2;subst h2 h1 e;rw[List.append_nil];unfold Ob.cells;rw[hk];exact ⟨[_],_,rfl,⟨0,rfl⟩,[_],_,rfl,⟨0,rfl⟩,[_],_,rfl,⟨0,rfl⟩,[_],_,rfl,⟨0,rfl⟩,rfl⟩

def D7y (a b c d y0 y1 y2 y3:Int):En:=.fl [.ob (.fr (A3a ((D8 a b c d).toNat*(D8 y0 y1 y2 y3).toNat*C7a)))]
def B9x:MuS:=fun off len es e rest=>
 match off,len,es,e,rest with
 | 0,4,1,.fl [.ob (.s _)],[.v (.c (.sl (.u64 [a,b,c,d]))),.v (.c (.sl (.u64 [y0,y1,y2,y3]))),.v (.c (.sl (.u64 [m0,m1,m2,m3]))),.v (.c (.int .u64 neg))]=>
  some ([Lim a,Lim b,Lim c,Lim d,Lim y0,Lim y1,Lim y2,Lim y3,D8 y0 y1 y2 y3<rN,neg=18446744069414584319,m0=18446744069414584321,m1=6034159408538082302,m2=3691218898639771653,m3=8353516859464449352],D7y a b c d y0 y1 y2 y3)
 | 0,4,1,.fl [.ob (.fr _)],[.v (.c (.sl (.u64 [a,b,c,d]))),.v (.c (.sl (.u64 [y0,y1,y2,y3]))),.v (.c (.sl (.u64 [m0,m1,m2,m3]))),.v (.c (.int .u64 neg))]=>
  some ([Lim a,Lim b,Lim c,Lim d,Lim y0,Lim y1,Lim y2,Lim y3,D8 y0 y1 y2 y3<rN,neg=18446744069414584319,m0=18446744069414584321,m1=6034159408538082302,m2=3691218898639771653,m3=8353516859464449352],D7y a b c d y0 y1 y2 y3)
 | _,_,_,_,_=>none

theorem D0g {a b c d:Int} (ha:Lim a) (hb:Lim b) (hc:Lim c) (hd:Lim d):∃n:Nat,n<B4∧D8 a b c d=(n:Int)∧A0 n 0=a∧A0 n 1=b∧A0 n 2=c∧A0 n 3=d:=by
 obtain ⟨ha,ha1⟩:=ha;obtain ⟨hb,hb1⟩:=hb;obtain ⟨hc,hc1⟩:=hc;obtain ⟨hd,hd1⟩:=hd;have h0:0<=D8 a b c d:=by unfold D8;omega
 obtain ⟨n,hn⟩:=Int.eq_ofNat_of_zero_le h0;refine ⟨n,?_,hn,V4 ha ha1 hb hb1 hc hc1 hd hd1 (by rw[<-hn];rfl)⟩
 unfold D8 at hn;unfold B4;omega

theorem D0v {o:Ob} (hk:o.k=4) {a b c d y0 y1 y2 y3 neg m0 m1 m2 m3:Int}
  (ho:A3 [Lim a,Lim b,Lim c,Lim d,Lim y0,Lim y1,Lim y2,Lim y3,D8 y0 y1 y2 y3<rN,neg=18446744069414584319,m0=18446744069414584321,m1=6034159408538082302,m2=3691218898639771653,m3=8353516859464449352]) :
  MuC Try.prog 44 0 4 1 (.fl [.ob o]) [.v (.c (.sl (.u64 [a,b,c,d]))),.v (.c (.sl (.u64 [y0,y1,y2,y3]))),.v (.c (.sl (.u64 [m0,m1,m2,m3]))),.v (.c (.int .u64 neg))] (D7y a b c d y0 y1 y2 y3):=by
 obtain ⟨h1,h2,h3,h4,h5,h6,h7,h8,h9,rfl,rfl,rfl,rfl,rfl,_⟩:=ho;obtain ⟨A,hA,eA,rfl,rfl,rfl,rfl⟩:=D0g h1 h2 h3 h4;obtain ⟨Y,hY,eY,rfl,rfl,rfl,rfl⟩:=D0g h5 h6 h7 h8;refine MuC.pre (e2:=fl4 (A0 o.n 0) (A0 o.n 1) (A0 o.n 2) (A0 o.n 3)) ?_ ⟨_,_,rfl,rfl⟩ fun x cs h=>F5l hk h
 unfold D7y;rw[eA,eY,Int.toNat_natCast,Int.toNat_natCast];rw[eY] at h9;exact D4x _ _ _ _ A Y hA (by exact_mod_cast h9)

def C8s:Env:={ B2m with mu:=fun g=>if g=44 then some (mu1 B9x) else B2m.mu g }
theorem A6q:A6 Try.prog C8s:=
 B7m T8 44 B9x (A4 Try.func44 rfl rfl) fun off len es e rest o e' h ho _ _=>by
  unfold B9x at h;split at h
  ·cases h;exact D0v rfl ho
  ·cases h;exact D0v rfl ho
  ·cases h

theorem G8c (x:U4):let b:=Ob.n (.fr x);let c:Int:=18446744069414584319;let d:Int:=18446744069414584321;let f:Int:=6034159408538082302;let g:Int:=3691218898639771653;let h:Int:=8353516859464449352;C9 C8s Try.f23 3000 [.v (.a [.ob (.fr x)])] [] [] []=(some ([(S4.Lim (A0 b 0)),(S4.Lim (A0 b 1)),(S4.Lim (A0 b 2)),(S4.Lim (A0 b 3)),(S4.Lim (14526898881837571181:Int)),(S4.Lim (3129137299524312099:Int)),(S4.Lim (419701826671360399:Int)),(S4.Lim (524908885293268753:Int)),((3294906474794265442129797520630710739278575682199800681788903916070560242797:Int)<(52435875175126190479447740508185965837690552500527637822603658699938581184513:Int)),(c=c),(d=d),(f=f),(g=g),(h=h)],((.v (.a [(.ob (.fr (S4.A3a ((((S4.D8 (A0 b 0) (A0 b 1) (A0 b 2) (A0 b 3))).toNat*3294906474794265442129797520630710739278575682199800681788903916070560242797)*C7a))))])),[]))):=by intros;kernel_rfl
theorem G6s (x:Fr):let b:=Ob.n (.s x);let c:=S4.Lim (0:Int);let d:Int:=18446744069414584319;let f:Int:=18446744069414584321;let g:Int:=6034159408538082302;let h:Int:=3691218898639771653;let i:Int:=8353516859464449352;C9 C8s Try.f22 3000 [.v (.a [.ob (.s x)])] [] [] []=(some ([(S4.Lim (A0 b 0)),(S4.Lim (A0 b 1)),(S4.Lim (A0 b 2)),(S4.Lim (A0 b 3)),(S4.Lim (1:Int)),c,c,c,((1:Int)<(52435875175126190479447740508185965837690552500527637822603658699938581184513:Int)),(d=d),(f=f),(g=g),(h=h),(i=i)],((.v (.a [(.ob (.fr (S4.A3a ((((S4.D8 (A0 b 0) (A0 b 1) (A0 b 2) (A0 b 3))).toNat*1)*C7a))))])),[]))):=by intros;kernel_rfl
end S4

namespace S4

/-- A number, taken modulo r; an element as a number. -/
def inF (a:U4):Fr:=Fin.ofNat rN a.val
def I8 (x:Fr):U4:=Fin.ofNat B4 x.val
theorem D0p (x:Fr):(I8 x).val=x.val:=Nat.mod_eq_of_lt (Nat.lt_trans x.isLt (by decide))

theorem D7h {n:Nat} (h:n<B4):Lim (A0 n 0)∧Lim (A0 n 1)∧Lim (A0 n 2)∧Lim (A0 n 3)∧(D8 (A0 n 0) (A0 n 1) (A0 n 2) (A0 n 3)).toNat=n:=by
 obtain ⟨e,a0,a1,b0,b1,c0,c1,d0,d1⟩:=W4 n h;refine ⟨⟨a0,a1⟩,⟨b0,b1⟩,⟨c0,c1⟩,⟨d0,d1⟩,?_⟩
 unfold D8;rw[<-e];exact Int.toNat_natCast n

theorem F3g {r B v s a:Nat} (e:v*B % r=1 % r) (hs:s % r=B*B % r):a*s*v % r=(a % r)*B % r:=by
  have h2:∀a:Nat,a*(v*B) % r=a % r:=fun a=>by rw[<-Nat.mul_mod_mod,e,Nat.mul_mod_mod,Nat.mul_one]
  calc a*s*v % r=(a*v)*s % r:=by congr 1;simp only[Nat.mul_comm,Nat.mul_left_comm]
    _=(a*v)*(B*B) % r:=by rw[<-Nat.mul_mod_mod,hs,Nat.mul_mod_mod]
    _=(a*B)*(v*B) % r:=by congr 1;simp only[Nat.mul_comm,Nat.mul_left_comm]
    _=a*B % r:=h2 _
    _=(a % r)*B % r:=by rw[Nat.mod_mul_mod]

theorem G7b:3294906474794265442129797520630710739278575682199800681788903916070560242797 % rN=B4*B4 % rN:=by kernel_rfl

theorem F3h (a:U4):FnD Try.prog 23 [.v (.a [.ob (.fr a)])] (.v (.a [.ob (.s (inF a))])) []:=by
 obtain ⟨h0,h1,h2,h3,hn⟩:=D7h a.isLt;refine (A7 A6q Try.func23 (G8c a) ?_).conv (fun _ _ h=>h) fun y v hd=>?_
 ·exact ⟨h0,h1,h2,h3,⟨by decide,by decide⟩,⟨by decide,by decide⟩,⟨by decide,by decide⟩,⟨by decide,by decide⟩,by decide,rfl,rfl,rfl,rfl,rfl,trivial⟩
 ·refine D0m (o:=.fr (A3a _)) (o' := .s (inF a)) rfl ?_ hd
  show (A3a _).val=_;rw[B1i];have hn:(D8 (A0 (Ob.n (Ob.fr a)) 0) (A0 (Ob.n (Ob.fr a)) 1) (A0 (Ob.n (Ob.fr a)) 2) (A0 (Ob.n (Ob.fr a)) 3)).toNat=a.val:=hn;rw[hn];exact F3g B1k G7b

theorem F5p {r B v x:Nat} (e:v*B % r=1 % r):(x*B % r)*1*v % r=x % r:=by
 rw[Nat.mul_one,Nat.mod_mul_mod,Nat.mul_assoc,Nat.mul_comm B,<-Nat.mul_mod_mod,e,Nat.mul_mod_mod,Nat.mul_one]

theorem E8z (x:Fr):FnD Try.prog 22 [.v (.a [.ob (.s x)])] (.v (.a [.ob (.fr (I8 x))])) []:=by
 obtain ⟨h0,h1,h2,h3,hn⟩:=D7h (n:=(Ob.s x).n) (Nat.lt_trans (B4a x) (by decide))
 refine (A7 A6q Try.func22 (G6s x) ?_).conv (fun _ _ h=>h) fun y v hd=>?_
 ·exact ⟨h0,h1,h2,h3,⟨by decide,by decide⟩,⟨by decide,by decide⟩,⟨by decide,by decide⟩,⟨by decide,by decide⟩,by decide,rfl,rfl,rfl,rfl,rfl,trivial⟩
 ·refine D0m (o:=.fr (A3a _)) (o' := .fr (I8 x)) (Eq.refl 4) ?_ hd
  show (A3a _).val=(I8 x).val;rw[B1i,hn,D0p];have e:(Ob.s x).n=x.val*B4 % rN:=rfl;rw[e,F5p B1k];exact Nat.mod_eq_of_lt x.isLt

end S4

namespace S4

theorem G1x (x y:Fr):let g:Int:=18446744073709551616;let h:=Ob.n (.s y);let i:=Ob.n (.s x);let j:Int:=4;let l:Int:=1;let o:=Ob.k (.s x);let p:=Ob.k (.s y);let q:=0<=(0:Int);let r:Int:=2;let t:Int:=3;let D:=A0 h 1;let F:=A0 h 2;let G:=A0 h 0;let d:=A2 0 (A0 i 0) G (0:Int);let u:=Prod.snd d;let b:=A2 0 (A0 i 1) D u;let w:=Prod.snd b;let c:=A2 0 (A0 i 2) F w;let z:=Prod.snd c;let A:=Prod.fst d;let B:=Prod.fst b;let C:=Prod.fst c;let H:=A0 h 3;let f:=Prod.fst (A2 0 (A0 i 3) H z);let m:=S4.D8 A B C f;C9 C8s Try.f47 3000 [.v (.a [.ob (.s x)]),.v (.a [.ob (.s y)])] [] [] []=(some ([q,(0<j),(0<o),q,(0<j),(0<p),(0<=(A0 i 0)),(0<=G),(G<g),q,(0<=l),q,(0<j),(0<=l),(l<j),(1<o),(0<=l),(l<j),(1<p),(0<=(A0 i 1)),(0<=D),(D<g),(0<=u),(u<=l),(0<=l),(l<j),(0<=r),(r<j),(2<o),(0<=r),(r<j),(2<p),(0<=(A0 i 2)),(0<=F),(F<g),(0<=w),(w<=l),(0<=r),(r<j),(0<=t),(t<j),(3<o),(0<=t),(t<j),(3<p),(0<=(A0 i 3)),(0<=H),(H<g),(0<=z),(z<=l),(0<=t),(t<j),(0<=A),(A<g),(0<=B),(B<g),(0<=C),(C<g),(0<=f),(f<g),(m<(104871750350252380958895481016371931675381105001055275645207317399877162369026:Int))],((.v (.a [(.ob (.s (C1k (m).toNat)))])),[]))):=by intros;kernel_rfl
theorem F4i (x y:Fr):let d:=Ob.n (.s y);let g:=Ob.n (.s x);let h:Int:=18446744073709551616;let i:Int:=4;let j:Int:=1;let m:=Ob.k (.s x);let o:=Ob.k (.s y);let p:Int:=0;let q:Int:=2;let r:Int:=3;let z:=A0 d 1;let A:=A0 d 2;let B:=A0 d 0;let f:=A2 1 (A0 g 0) B p;let t:=Prod.snd f;let b:=A2 1 (A0 g 1) z t;let u:=Prod.snd b;let c:=A2 1 (A0 g 2) A u;let w:=Prod.snd c;let C:=A0 d 3;let l:=A2 1 (A0 g 3) C w;C9 C8s Try.f48 3000 [.v (.a [.ob (.s x)]),.v (.a [.ob (.s y)])] [true] [] []=(some ([(0<=p),(0<i),(0<m),(0<=p),(0<i),(0<o),(0<=(A0 g 0)),(0<=B),(B<h),(0<=p),(0<=j),(0<=p),(0<i),(0<=j),(j<i),(1<m),(0<=j),(j<i),(1<o),(0<=(A0 g 1)),(0<=z),(z<h),(0<=t),(t<=j),(0<=j),(j<i),(0<=q),(q<i),(2<m),(0<=q),(q<i),(2<o),(0<=(A0 g 2)),(0<=A),(A<h),(0<=u),(u<=j),(0<=q),(q<i),(0<=r),(r<i),(3<m),(0<=r),(r<i),(3<o),(0<=(A0 g 3)),(0<=C),(C<h),(0<=w),(w<=j),(0<=r),(r<i),(((Prod.snd l) == p)=true)],((.v (.a [(.int .u64 (Prod.fst f)),(.int .u64 (Prod.fst b)),(.int .u64 (Prod.fst c)),(.int .u64 (Prod.fst l))])),[]))):=by intros;kernel_rfl
theorem F4j (x y:Fr):let g:Int:=18446744073709551616;let j:=Ob.n (.s y);let l:Int:=4;let m:Int:=1;let o:=Ob.n (.s x);let r:Int:=2;let t:Int:=3;let u:Int:=18446744069414584321;let w:Int:=6034159408538082302;let z:Int:=3691218898639771653;let A:Int:=8353516859464449352;let B:=Ob.k (.s x);let C:=Ob.k (.s y);let K:Int:=0;let q:=0<=K;let L:=A0 j 1;let M:=A0 j 2;let N:=A0 j 0;let f:=A2 1 (A0 o 0) N K;let i:=A2 0 (Prod.fst f) u K;let D:=Prod.snd f;let b:=A2 1 (A0 o 1) L D;let F:=Prod.snd i;let c:=A2 0 (Prod.fst b) w F;let G:=Prod.snd b;let d:=A2 1 (A0 o 2) M G;let H:=Prod.snd c;let h:=A2 0 (Prod.fst d) z H;let I:=Prod.snd d;let J:=Prod.snd h;let O:=A0 j 3;let p:=A2 1 (A0 o 3) O I;C9 C8s Try.f48 3000 [.v (.a [.ob (.s x)]),.v (.a [.ob (.s y)])] [false] [] []=(some ([q,(0<l),(0<B),q,(0<l),(0<C),(0<=(A0 o 0)),(0<=N),(N<g),q,(0<=m),q,(0<l),(0<=m),(m<l),(1<B),(0<=m),(m<l),(1<C),(0<=(A0 o 1)),(0<=L),(L<g),(0<=D),(D<=m),(0<=m),(m<l),(0<=r),(r<l),(2<B),(0<=r),(r<l),(2<C),(0<=(A0 o 2)),(0<=M),(M<g),(0<=G),(G<=m),(0<=r),(r<l),(0<=t),(t<l),(3<B),(0<=t),(t<l),(3<C),(0<=(A0 o 3)),(0<=O),(O<g),(0<=I),(I<=m),(0<=t),(t<l),(((Prod.snd p) == K)=false),q,(0<l),q,(0<l),(0<4),(0<=(Prod.fst f)),(0<=u),(u<g),q,(0<=m),q,(0<l),(0<=m),(m<l),(0<=m),(m<l),(1<4),(0<=(Prod.fst b)),(0<=w),(w<g),(0<=F),(F<=m),(0<=m),(m<l),(0<=r),(r<l),(0<=r),(r<l),(2<4),(0<=(Prod.fst d)),(0<=z),(z<g),(0<=H),(H<=m),(0<=r),(r<l),(0<=t),(t<l),(0<=t),(t<l),(3<4),(0<=(Prod.fst p)),(0<=A),(A<g),(0<=J),(J<=m),(0<=t),(t<l)],((.v (.a [(.int .u64 (Prod.fst i)),(.int .u64 (Prod.fst c)),(.int .u64 (Prod.fst h)),(.int .u64 (Prod.fst (A2 0 (Prod.fst p) A J)))])),[]))):=by intros;kernel_rfl
end S4

namespace S4

theorem E1y {x y r B:Nat}:((x+y) % r)*B % r=(x*B % r+y*B % r) % r:=by
 rw[Nat.mod_mul_mod,Nat.add_mul,<-Nat.add_mod]

theorem F7a (x y:Fr):(Ob.s (x+y)).n=((Ob.s x).n+(Ob.s y).n) % rN:=by
 exact E1y

theorem C8z {n:Nat} (x y:Fin n):x-y+y=x:=by
 apply Fin.ext
 simp only[Fin.add_def,Fin.sub_def];have:=y.isLt
 rw[Nat.mod_add_mod,show n-y.val+x.val+y.val=x.val+n from by omega,Nat.add_mod_right,Nat.mod_eq_of_lt x.isLt]

theorem F7b (x y:Fr):((Ob.s (x-y)).n+(Ob.s y).n) % rN=(Ob.s x).n:=by
 rw[<-F7a,C8z]

theorem F1v {r B v x y:Nat} (e:v*B % r=1 % r):(x*B % r+y*B % r)*v % r=(x+y) % r:=by
 rw[<-Nat.mod_mul_mod,<-Nat.add_mod,Nat.mod_mul_mod,<-Nat.add_mul,Nat.mul_assoc,Nat.mul_comm B,<-Nat.mul_mod_mod,e,Nat.mul_mod_mod,Nat.mul_one]

theorem F0c (x y:Fr):C1k ((Ob.s x).n+(Ob.s y).n)=x+y:=by
 apply Fin.ext
 have e:(Ob.s x).n=x.val*B4 % rN:=rfl;have e' : (Ob.s y).n=y.val*B4 % rN:=rfl;rw[e,e'];exact F1v B1k

theorem E9n (x y:Fr):FnD Try.prog 47 [.v (.a [.ob (.s x)]),.v (.a [.ob (.s y)])] (.v (.a [.ob (.s (x+y))])) []:=by
 have r0:=G1x x y;dsimp only at r0;have hX:=B4a x;have hY:=B4a y;have hadd:=F0c x y;obtain ⟨ex,x0,x0',x1,x1',x2,x2',x3,x3'⟩:=W4 (Ob.s x).n (Nat.lt_trans (B4a x) (by decide))
 obtain ⟨ey,y0,y0',y1,y1',y2,y2',y3,y3'⟩:=W4 (Ob.s y).n (Nat.lt_trans (B4a y) (by decide))
 generalize A0 (Ob.s x).n 0=a0 at *;generalize A0 (Ob.s x).n 1=a1 at *;generalize A0 (Ob.s x).n 2=a2 at *;generalize A0 (Ob.s x).n 3=a3 at *;generalize A0 (Ob.s y).n 0=b0 at *;generalize A0 (Ob.s y).n 1=b1 at *;generalize A0 (Ob.s y).n 2=b2 at *;generalize A0 (Ob.s y).n 3=b3 at *;obtain ⟨e0,p0,p0',c0,c0'⟩:=F2 (c:=0) x0 x0' y0 y0' (by decide) (by decide)
 obtain ⟨e1,p1,p1',c1,c1'⟩:=F2 x1 x1' y1 y1' c0 c0';obtain ⟨e2,p2,p2',c2,c2'⟩:=F2 x2 x2' y2 y2' c1 c1';obtain ⟨e3,p3,p3',c3,c3'⟩:=F2 x3 x3' y3 y3' c2 c2';generalize hq0:A2 0 a0 b0 0=q0 at *;generalize hq1:A2 0 a1 b1 q0.2=q1 at *;generalize hq2:A2 0 a2 b2 q1.2=q2 at *;generalize hq3:A2 0 a3 b3 q2.2=q3 at *;clear hq0 hq1 hq2 hq3;have hN:D8 q0.1 q1.1 q2.1 q3.1=((Ob.s x).n:Int)+((Ob.s y).n:Int):=by
  generalize (Ob.s x).n=X at *;generalize (Ob.s y).n=Y at *;unfold rN at hX hY;unfold D8;omega
 refine (A7 A6q Try.func47 r0 ?_).conv (fun _ _ h=>h) fun z v hd=>?_
 ·have hlt:D8 q0.1 q1.1 q2.1 q3.1<104871750350252380958895481016371931675381105001055275645207317399877162369026:=by
   unfold rN at hX hY;omega
  simp only[A3,and_true,Ob.k];clear hN hX hY ex ey hadd r0;and_intros<;>first | assumption | decide | omega
 ·have hN' : (D8 q0.1 q1.1 q2.1 q3.1).toNat=(Ob.s x).n+(Ob.s y).n:=by omega
  rw[hN',hadd] at hd;exact hd

theorem F1z {b:Int} (h0:0<=b) (h1:b<=1) (h:¬b=0):b=1:=by omega

theorem H3a {q0 q1 q2 q3 w0 w1 w2 w3 v0 v1 v2 v3:Int} (f0:q0+18446744069414584321+0=w0+18446744073709551616*v0) (f1:q1+6034159408538082302+v0=w1+18446744073709551616*v1)
  (f2:q2+3691218898639771653+v1=w2+18446744073709551616*v2) (f3:q3+8353516859464449352+v2=w3+18446744073709551616*v3) :
  D8 w0 w1 w2 w3+115792089237316195423570985008687907853269984665640564039457584007913129639936*v3=D8 q0 q1 q2 q3+rN:=by
 unfold D8 rN;omega

theorem C6c {a b c d:Int} (ha:Lim a) (hb:Lim b) (hc:Lim c) (hd:Lim d):0<=D8 a b c d∧D8 a b c d<115792089237316195423570985008687907853269984665640564039457584007913129639936:=by
 obtain ⟨_,_⟩:=ha;obtain ⟨_,_⟩:=hb;obtain ⟨_,_⟩:=hc;obtain ⟨_,_⟩:=hd;unfold D8;omega

theorem F7i {X Y Z:Nat} {N W v:Int} (hX:X<rN) (hY:Y<rN) (hcase:(Y<=X∧(Z:Int)=X-Y)∨(X<Y∧(Z:Int)=X+rN-Y))
  (hdiff:N-115792089237316195423570985008687907853269984665640564039457584007913129639936*1=(X:Int)-Y) (hN:0<=N∧N<115792089237316195423570985008687907853269984665640564039457584007913129639936)
  (hW:0<=W∧W<115792089237316195423570985008687907853269984665640564039457584007913129639936) (hv:0<=v∧v<=1)
  (hsum:W+115792089237316195423570985008687907853269984665640564039457584007913129639936*v=N+rN):(Z:Int)=W:=by
 obtain ⟨hN0,hN1⟩:=hN;obtain ⟨hW0,hW1⟩:=hW;obtain ⟨hv0,hv1⟩:=hv;unfold rN at *;have:v=0∨v=1:=by omega
 rcases hcase with ⟨h1,h2⟩ | ⟨h1,h2⟩
 ·exfalso;omega
 ·rcases this with rfl | rfl<;>omega

theorem E2g {X Y Z r:Nat} (_hX:X<r) (hY:Y<r) (hZ:Z<r) (h:(Z+Y) % r=X):(Y<=X∧(Z:Int)=X-Y)∨(X<Y∧(Z:Int)=X+r-Y):=by
 by_cases hl:Z+Y<r
 ·rw[Nat.mod_eq_of_lt hl] at h
  left;omega
 ·rw[Nat.mod_eq_sub_mod (by omega),Nat.mod_eq_of_lt (by omega)] at h
  right;omega

theorem E0v (x y:Fr):FnD Try.prog 48 [.v (.a [.ob (.s x)]),.v (.a [.ob (.s y)])] (.v (.a [.ob (.s (x-y))])) []:=by
 have r0:=F4i x y;dsimp only at r0;have r1:=F4j x y;dsimp only at r1;have hX:=B4a x;have hY:=B4a y;have hZ:=B4a (x-y);have hsub:=F7b x y;obtain ⟨ex,x0,x0',x1,x1',x2,x2',x3,x3'⟩:=W4 (Ob.s x).n (Nat.lt_trans (B4a x) (by decide))
 obtain ⟨ey,y0,y0',y1,y1',y2,y2',y3,y3'⟩:=W4 (Ob.s y).n (Nat.lt_trans (B4a y) (by decide))
 generalize A0 (Ob.s x).n 0=a0 at *;generalize A0 (Ob.s x).n 1=a1 at *;generalize A0 (Ob.s x).n 2=a2 at *;generalize A0 (Ob.s x).n 3=a3 at *;generalize A0 (Ob.s y).n 0=b0 at *;generalize A0 (Ob.s y).n 1=b1 at *;generalize A0 (Ob.s y).n 2=b2 at *;generalize A0 (Ob.s y).n 3=b3 at *;obtain ⟨e0,p0,p0',c0,c0'⟩:=E5 (c:=0) x0 x0' y0 y0' (by decide) (by decide)
 obtain ⟨e1,p1,p1',c1,c1'⟩:=E5 x1 x1' y1 y1' c0 c0';obtain ⟨e2,p2,p2',c2,c2'⟩:=E5 x2 x2' y2 y2' c1 c1';obtain ⟨e3,p3,p3',c3,c3'⟩:=E5 x3 x3' y3 y3' c2 c2';generalize hq0:A2 1 a0 b0 0=q0 at *;generalize hq1:A2 1 a1 b1 q0.2=q1 at *;generalize hq2:A2 1 a2 b2 q1.2=q2 at *;generalize hq3:A2 1 a3 b3 q2.2=q3 at *;clear hq0 hq1 hq2 hq3;have hcase:=E2g hX hY hZ hsub;have hdiff:D8 q0.1 q1.1 q2.1 q3.1-115792089237316195423570985008687907853269984665640564039457584007913129639936*q3.2=((Ob.s x).n:Int)-((Ob.s y).n:Int):=by
  rw[ex,ey];clear hsub hcase hX hY hZ ex ey;unfold D8;omega
 by_cases hz:q3.2=0
 ·refine (A7 A6q Try.func48 r0 ?_).conv (fun _ _ h=>h) fun z v hd=>A6u rfl (V4 p0 p0' p1 p1' p2 p2' p3 p3' ?_) hd
  ·simp only[A3,and_true,Ob.k,beq_iff_eq]
   clear hsub hX hY hZ ex ey r0 r1 hcase hdiff;and_intros<;>first | assumption | decide | omega
  ·rcases hcase with ⟨h1,h2⟩ | ⟨h1,h2⟩
   ·rw[h2,<-hdiff,hz];unfold D8;omega
   ·rw[hz] at hdiff;exfalso;unfold D8 at hdiff;clear ex ey hsub h2 e0 e1 e2 e3;omega
 ·obtain ⟨f0,s0,s0',d0,d0'⟩:=F2 (y:=18446744069414584321) (c:=0) p0 p0' (by decide) (by decide) (by decide) (by decide)
  obtain ⟨f1,s1,s1',d1,d1'⟩:=F2 (y:=6034159408538082302) p1 p1' (by decide) (by decide) d0 d0'
  obtain ⟨f2,s2,s2',d2,d2'⟩:=F2 (y:=3691218898639771653) p2 p2' (by decide) (by decide) d1 d1'
  obtain ⟨f3,s3,s3',d3,d3'⟩:=F2 (y:=8353516859464449352) p3 p3' (by decide) (by decide) d2 d2'
  generalize hw0:A2 0 q0.1 18446744069414584321 0=w0 at *;generalize hw1:A2 0 q1.1 6034159408538082302 w0.2=w1 at *;generalize hw2:A2 0 q2.1 3691218898639771653 w1.2=w2 at *;generalize hw3:A2 0 q3.1 8353516859464449352 w2.2=w3 at *;clear hw0 hw1 hw2 hw3;refine (A7 A6q Try.func48 r1 ?_).conv (fun _ _ h=>h) fun z v hd=>A6u rfl (V4 s0 s0' s1 s1' s2 s2' s3 s3' ?_) hd
  ·simp only[A3,and_true,Ob.k,beq_eq_false_iff_ne]
   clear hsub hX hY hZ ex ey r0 r1 hcase hdiff;and_intros<;>first | assumption | decide | omega
  ·have hz1:q3.2=1:=F1z c3 c3' hz
   rw[hz1] at hdiff;exact F7i hX hY hcase hdiff (C6c ⟨p0,p0'⟩ ⟨p1,p1'⟩ ⟨p2,p2'⟩ ⟨p3,p3'⟩) (C6c ⟨s0,s0'⟩ ⟨s1,s1'⟩ ⟨s2,s2'⟩ ⟨s3,s3'⟩) ⟨d3,d3'⟩ (H3a f0 f1 f2 f3)

end S4

namespace S4

def D3q:B7
 | [.v (.a [.ob (.fr a)])]=>some ([],.v (.a [.ob (.s (inF a))]),[])
 | _=>none
def gA:Env:=C8s.set (E8 C8s.fn 23 D3q)
theorem G4t:A6 Try.prog gA:=A9 A6q 23 D3q (A4 Try.func23 rfl rfl) fun args o r es h _=>by
 unfold D3q at h;split at h
 ·cases h;exact F3h _
 ·cases h
def C6j:B7
 | [.v (.a [.ob (.s x)])]=>some ([],.v (.a [.ob (.fr (I8 x))]),[])
 | _=>none
def gB:Env:=gA.set (E8 gA.fn 22 C6j)
theorem G4u:A6 Try.prog gB:=A9 G4t 22 C6j (A4 Try.func22 rfl rfl) fun args o r es h _=>by
 unfold C6j at h;split at h
 ·cases h;exact E8z _
 ·cases h
def B4e:B7
 | [.v (.a [.ob (.s x)]),.v (.a [.ob (.s y)])]=>some ([],.v (.a [.ob (.s (x*y))]),[])
 | _=>none
def gC:Env:=gB.set (E8 gB.fn 21 B4e)
theorem G4v:A6 Try.prog gC:=A9 G4u 21 B4e (A4 Try.func21 rfl rfl) fun args o r es h _=>by
 unfold B4e at h;split at h
 ·cases h;exact E2n _ _
 ·cases h
def B9t:B7
 | [.v (.a [.ob (.s x)]),.v (.a [.ob (.s y)])]=>some ([],.v (.a [.ob (.s (x+y))]),[])
 | _=>none
def gD:Env:=gC.set (E8 gC.fn 47 B9t)
theorem G4w:A6 Try.prog gD:=A9 G4v 47 B9t (A4 Try.func47 rfl rfl) fun args o r es h _=>by
 unfold B9t at h;split at h
 ·cases h;exact E9n _ _
 ·cases h
def B3c:B7
 | [.v (.a [.ob (.s x)]),.v (.a [.ob (.s y)])]=>some ([],.v (.a [.ob (.s (x-y))]),[])
 | _=>none
def gE:Env:=gD.set (E8 gD.fn 48 B3c)
theorem F8h:A6 Try.prog gE:=A9 G4w 48 B3c (A4 Try.func48 rfl rfl) fun args o r es h _=>by
 unfold B3c at h;split at h
 ·cases h;exact E0v _ _
 ·cases h
theorem G9w (x:Fr):C9 gE Try.f35 3000 [.v (.a [.ob (.s x)])] [] [] []=(some ([],((.v (.a [(.ob (.s ((0:Fr)-x)))])),[]))):=by kernel_rfl
def C5u:B7
 | [.v (.a [.ob (.s x)])]=>some ([],.v (.a [.ob (.s (0-x))]),[])
 | _=>none
def gF:Env:=gE.set (E8 gE.fn 35 C5u)
theorem F8i:A6 Try.prog gF:=A9 F8h 35 C5u (A4 Try.func35 rfl rfl) fun args o r es h _=>by
 unfold C5u at h;split at h
 ·cases h;exact A7 F8h Try.func35 (G9w _) trivial
 ·cases h
theorem frC (a:U4):C9 gF Try.f15 3000 [.v (.a [.ob (.fr a)])] [] [] []=(some ([],((.v (.a [(.ob (.fr (S4.I8 (S4.inF a))))])),[]))):=by kernel_rfl
def B2g:B7
 | [.v (.a [.ob (.fr a)])]=>some ([],.v (.a [.ob (.fr (I8 (inF a)))]),[])
 | _=>none
def gG:Env:=gF.set (E8 gF.fn 15 B2g)
theorem O3:A6 Try.prog gG:=A9 F8i 15 B2g (A4 Try.func15 rfl rfl) fun args o r es h _=>by
 unfold B2g at h;split at h
 ·cases h;exact A7 F8i Try.func15 (frC _) trivial
 ·cases h
def gH:Env:=gG
theorem G4x:A6 Try.prog gH:=O3
def gI:Env:=gH
theorem G4y:A6 Try.prog gI:=G4x
def gJ:Env:=gI
theorem G4z:A6 Try.prog gJ:=G4y
def gK:Env:=gJ
theorem D7c:A6 Try.prog gK:=G4z
end S4

namespace S4

theorem lsA (a b:U4):let c:Int:=3;let d:=c<(4:Int);let f:=A0 (Ob.n (.fr a)) 3;let g:=A0 (Ob.n (.fr b)) 3;let h:=3<(Ob.k (.fr a));let i:=3<(Ob.k (.fr b));C9 gG Try.f64 3000 [.v (.a [.ob (.fr a)]),.v (.a [.ob (.fr b)])] [true,true] [] []=(some ([((decide (c >= (0:Int)))=true),(0<=c),d,h,(0<=c),d,i,((f != g)=true),(0<=c),d,h,(0<=c),d,i],((.ci (.bool (decide (f<g)))),[]))):=by intros;kernel_rfl
theorem lsB (a b:U4):let c:Int:=2;let d:Int:=4;let f:=Ob.k (.fr a);let g:=Ob.k (.fr b);let h:=Ob.n (.fr a);let i:=Ob.n (.fr b);let j:Int:=3;C9 gG Try.f64 3000 [.v (.a [.ob (.fr a)]),.v (.a [.ob (.fr b)])] [true,false,true,true] [] []=(some ([((decide (j >= (0:Int)))=true),(0<=j),(j<d),(3<f),(0<=j),(j<d),(3<g),(((A0 h 3) != (A0 i 3))=false),((decide (c >= (0:Int)))=true),(0<=c),(c<d),(2<f),(0<=c),(c<d),(2<g),(((A0 h 2) != (A0 i 2))=true),(0<=c),(c<d),(2<f),(0<=c),(c<d),(2<g)],((.ci (.bool (decide ((A0 h 2)<(A0 i 2))))),[]))):=by intros;kernel_rfl
theorem lsC (a b:U4):let c:Int:=1;let d:Int:=4;let f:=Ob.k (.fr a);let g:=Ob.k (.fr b);let h:=Ob.n (.fr a);let i:=Ob.n (.fr b);let j:Int:=3;let l:Int:=2;C9 gG Try.f64 3000 [.v (.a [.ob (.fr a)]),.v (.a [.ob (.fr b)])] [true,false,true,false,true,true] [] []=(some ([((decide (j >= (0:Int)))=true),(0<=j),(j<d),(3<f),(0<=j),(j<d),(3<g),(((A0 h 3) != (A0 i 3))=false),((decide (l >= (0:Int)))=true),(0<=l),(l<d),(2<f),(0<=l),(l<d),(2<g),(((A0 h 2) != (A0 i 2))=false),((decide (c >= (0:Int)))=true),(0<=c),(c<d),(1<f),(0<=c),(c<d),(1<g),(((A0 h 1) != (A0 i 1))=true),(0<=c),(c<d),(1<f),(0<=c),(c<d),(1<g)],((.ci (.bool (decide ((A0 h 1)<(A0 i 1))))),[]))):=by intros;kernel_rfl
theorem lsD (a b:U4):let c:Int:=4;let d:=Ob.k (.fr a);let f:=Ob.k (.fr b);let g:=Ob.n (.fr a);let h:=Ob.n (.fr b);let i:Int:=0;let j:Int:=3;let l:Int:=2;let m:Int:=1;C9 gG Try.f64 3000 [.v (.a [.ob (.fr a)]),.v (.a [.ob (.fr b)])] [true,false,true,false,true,false,true,true] [] []=(some ([((decide (j >= i))=true),(0<=j),(j<c),(3<d),(0<=j),(j<c),(3<f),(((A0 g 3) != (A0 h 3))=false),((decide (l >= i))=true),(0<=l),(l<c),(2<d),(0<=l),(l<c),(2<f),(((A0 g 2) != (A0 h 2))=false),((decide (m >= i))=true),(0<=m),(m<c),(1<d),(0<=m),(m<c),(1<f),(((A0 g 1) != (A0 h 1))=false),((decide (i >= i))=true),(0<=i),(0<c),(0<d),(0<=i),(0<c),(0<f),(((A0 g 0) != (A0 h 0))=true),(0<=i),(0<c),(0<d),(0<=i),(0<c),(0<f)],((.ci (.bool (decide ((A0 g 0)<(A0 h 0))))),[]))):=by intros;kernel_rfl
theorem lsE (a b:U4):let c:Int:=0;let d:Int:=4;let f:=Ob.k (.fr a);let g:=Ob.k (.fr b);let h:=Ob.n (.fr a);let i:=Ob.n (.fr b);let j:Int:=3;let l:Int:=2;let m:Int:=1;C9 gG Try.f64 3000 [.v (.a [.ob (.fr a)]),.v (.a [.ob (.fr b)])] [true,false,true,false,true,false,true,false,false] [] []=(some ([((decide (j >= c))=true),(0<=j),(j<d),(3<f),(0<=j),(j<d),(3<g),(((A0 h 3) != (A0 i 3))=false),((decide (l >= c))=true),(0<=l),(l<d),(2<f),(0<=l),(l<d),(2<g),(((A0 h 2) != (A0 i 2))=false),((decide (m >= c))=true),(0<=m),(m<d),(1<f),(0<=m),(m<d),(1<g),(((A0 h 1) != (A0 i 1))=false),((decide (c >= c))=true),(0<=c),(0<d),(0<f),(0<=c),(0<d),(0<g),(((A0 h 0) != (A0 i 0))=false),((decide ((-1) >= c))=false)],((.ci (.lit false)),[]))):=by intros;kernel_rfl
theorem H1q  : C9 gG Try.f65 3000 [] [] [] []=(some ([(0<=(18446744069414584321:Int)),((18446744069414584321:Int)<(18446744073709551616:Int)),(0<=(6034159408538082302:Int)),((6034159408538082302:Int)<(18446744073709551616:Int)),(0<=(3691218898639771653:Int)),((3691218898639771653:Int)<(18446744073709551616:Int)),(0<=(8353516859464449352:Int)),((8353516859464449352:Int)<(18446744073709551616:Int))],((.v (.a [(.ob (.fr (Fin.ofNat B4 52435875175126190479447740508185965837690552500527637822603658699938581184513)))])),[]))):=by kernel_rfl
end S4

namespace S4

theorem E6e {A B:Nat} {a0 a1 a2 a3 b0 b1 b2 b3:Int} (ha:(A:Int)=D8 a0 a1 a2 a3) (hb:(B:Int)=D8 b0 b1 b2 b3) (h0:Lim a0) (h1:Lim a1) (h2:Lim a2) (_h3:Lim a3) (g0:Lim b0) (g1:Lim b1) (g2:Lim b2) (_g3:Lim b3) :
  decide (A<B)=(if a3=b3 then (if a2=b2 then (if a1=b1 then decide (a0<b0) else decide (a1<b1)) else decide (a2<b2)) else decide (a3<b3)):=by
 obtain ⟨_,_⟩:=h0;obtain ⟨_,_⟩:=h1;obtain ⟨_,_⟩:=h2;obtain ⟨_,_⟩:=g0;obtain ⟨_,_⟩:=g1;obtain ⟨_,_⟩:=g2;unfold D8 at ha hb;split
 ·split
  ·split<;>(congr 1;apply propext;omega)
  ·congr 1;apply propext;omega
 ·congr 1;apply propext;omega

theorem T9 (a:U4):Lim (A0 (Ob.fr a).n 0)∧Lim (A0 (Ob.fr a).n 1)∧Lim (A0 (Ob.fr a).n 2)∧Lim (A0 (Ob.fr a).n 3)∧((a.val:Nat):Int)=D8 (A0 (Ob.fr a).n 0) (A0 (Ob.fr a).n 1) (A0 (Ob.fr a).n 2) (A0 (Ob.fr a).n 3):=by
 obtain ⟨e,a0,a1,b0,b1,c0,c1,d0,d1⟩:=W4 a.val a.isLt;exact ⟨⟨a0,a1⟩,⟨b0,b1⟩,⟨c0,c1⟩,⟨d0,d1⟩,e⟩

theorem E6c (a b:U4):FnD Try.prog 64 [.v (.a [.ob (.fr a)]),.v (.a [.ob (.fr b)])] (.v (.c (.bool (decide (a.val<b.val))))) []:=by
 obtain ⟨h0,h1,h2,h3,ha⟩:=T9 a;obtain ⟨g0,g1,g2,g3,hb⟩:=T9 b;rw[E6e ha hb h0 h1 h2 h3 g0 g1 g2 g3];have rA:=lsA a b;dsimp only at rA;have rB:=lsB a b;dsimp only at rB;have rC:=lsC a b;dsimp only at rC;have rD:=lsD a b;dsimp only at rD;have rE:=lsE a b;dsimp only at rE;clear ha hb h0 h1 h2 h3 g0 g1 g2 g3;generalize A0 (Ob.fr a).n 0=a0 at *;generalize A0 (Ob.fr a).n 1=a1 at *;generalize A0 (Ob.fr a).n 2=a2 at *;generalize A0 (Ob.fr a).n 3=a3 at *;generalize A0 (Ob.fr b).n 0=b0 at *;generalize A0 (Ob.fr b).n 1=b1 at *;generalize A0 (Ob.fr b).n 2=b2 at *;generalize A0 (Ob.fr b).n 3=b3 at *;by_cases e3:a3=b3
 ·rw[if_pos e3]
  by_cases e2:a2=b2
  ·rw[if_pos e2]
   by_cases e1:a1=b1
   ·rw[if_pos e1]
    by_cases e0:a0=b0
    ·refine (A7 O3 Try.func64 rE ?_).conv (fun _ _ h=>h) fun y v hd=>Z2 (by simp [e0]) hd
     subst e0 e1 e2 e3;simp [A3,Ob.k]
    ·refine A7 O3 Try.func64 rD ?_
     subst e1 e2 e3;simp [A3,Ob.k,e0]
   ·rw[if_neg e1]
    refine A7 O3 Try.func64 rC ?_
    subst e2 e3;simp [A3,Ob.k,e1]
  ·rw[if_neg e2]
   refine A7 O3 Try.func64 rB ?_
   subst e3;simp [A3,Ob.k,e2]
 ·rw[if_neg e3]
  refine A7 O3 Try.func64 rA ?_
  simp [A3,Ob.k,e3]

end S4

namespace S4

def rm0 (a b:U4):Cfg:=⟨[.code (B2 Try.f66)],.normal,D6 Try.f66.ntmps [.v (.a [.ob (.fr a)]),.v (.a [.ob (.fr b)])]⟩
def C0c (a b:U4) (v0 v1 v2 v3 c :Int):St:=A5 45 [2,3,4,5,6,7] [.pt 16 0,.pt 32 0,.pt 48 0,.pt 80 0,.v (.c (.int .u64 c)),.ii (0:Int)] [16,32,48,80] [(eF_ [.ob (.fr a)]),(eF_ [.ob (.fr b)]),(eF_ [(.ob (.fr (0:U4)))]),some (.fl [.int .u64 v0,.int .u64 v1,.int .u64 v2,.int .u64 v3])] 704 [] []
def A1n:List KI:=(run gG true 42 (rm0 dF dF:Cfg) [true,true,true]).cfg.k
theorem H1s (a b:U4) {w0:World} {F0:Nat->Prop} {K:Kp} {ac:List Act} {Q:Exit->Act->World->Prop} {cX:Ctx} {aX:Act} (ho:A3 [((decide (0<(4:Int)))=true),(0<=(0:Int)),(0<(4:Int)),(0<(Ob.k (.fr a))),(0<=(0:Int)),(0<(4:Int)),(0<(Ob.k (.fr b))),(0<=(0:Int)),(0<(4:Int)),(0<=(0:Int)),(0<(4:Int)),(0<(Ob.k (.fr a))),(0<=(0:Int)),(0<(4:Int)),(0<(Ob.k (.fr b))),((decide ((A0 (Ob.n (.fr a)) 0)<(A0 (Ob.n (.fr b)) 0)))=true)]) (hs:Sim w0 F0 K ac (((rm0 a b:Cfg)).σ) cX aX) (hK:∀ac cY aY,Sim w0 F0 K ac (C0c a b (wrap .u64 ((wrap .u64 ((A0 (Ob.n (.fr a)) 0)-(A0 (Ob.n (.fr b)) 0)))-(0:Int))) (0:Int) (0:Int) (0:Int) (1:Int)) cY aY->Wq Try.prog Q (A1n) ac Exit.normal aY cY.w):Wq Try.prog Q (((rm0 a b:Cfg)).k) ac ((rm0 a b:Cfg)).x aX cX.w:=
 U5 (unroll:=true) (n:=42) (path:=[true,true,true]) (o:=⟨_,_,_,_,_,_,_⟩) O3 (by kernel_rfl) (by kernel_rfl) ho hs hK
theorem H1w (a b:U4) {w0:World} {F0:Nat->Prop} {K:Kp} {ac:List Act} {Q:Exit->Act->World->Prop} {cX:Ctx} {aX:Act} (ho:A3 [((decide (0<(4:Int)))=true),(0<=(0:Int)),(0<(4:Int)),(0<(Ob.k (.fr a))),(0<=(0:Int)),(0<(4:Int)),(0<(Ob.k (.fr b))),(0<=(0:Int)),(0<(4:Int)),(0<=(0:Int)),(0<(4:Int)),(0<(Ob.k (.fr a))),(0<=(0:Int)),(0<(4:Int)),(0<(Ob.k (.fr b))),((decide ((A0 (Ob.n (.fr a)) 0)<(A0 (Ob.n (.fr b)) 0)))=false),(0<=(0:Int)),(0<(4:Int)),(0<(Ob.k (.fr a))),(0<=(0:Int)),(0<(4:Int)),(0<(Ob.k (.fr b))),(((A0 (Ob.n (.fr a)) 0) == (A0 (Ob.n (.fr b)) 0))=true),(((0:Int)==1)=true)]) (hs:Sim w0 F0 K ac (((rm0 a b:Cfg)).σ) cX aX) (hK:∀ac cY aY,Sim w0 F0 K ac (C0c a b (wrap .u64 ((wrap .u64 ((A0 (Ob.n (.fr a)) 0)-(A0 (Ob.n (.fr b)) 0)))-(0:Int))) (0:Int) (0:Int) (0:Int) (1:Int)) cY aY->Wq Try.prog Q (A1n) ac Exit.normal aY cY.w):Wq Try.prog Q (((rm0 a b:Cfg)).k) ac ((rm0 a b:Cfg)).x aX cX.w:=
 U5 (unroll:=true) (n:=42) (path:=[true,true,false,true]) (o:=⟨_,_,_,_,_,_,_⟩) O3 (by kernel_rfl) (by kernel_rfl) ho hs hK
theorem H2a (a b:U4) {w0:World} {F0:Nat->Prop} {K:Kp} {ac:List Act} {Q:Exit->Act->World->Prop} {cX:Ctx} {aX:Act} (ho:A3 [((decide (0<(4:Int)))=true),(0<=(0:Int)),(0<(4:Int)),(0<(Ob.k (.fr a))),(0<=(0:Int)),(0<(4:Int)),(0<(Ob.k (.fr b))),(0<=(0:Int)),(0<(4:Int)),(0<=(0:Int)),(0<(4:Int)),(0<(Ob.k (.fr a))),(0<=(0:Int)),(0<(4:Int)),(0<(Ob.k (.fr b))),((decide ((A0 (Ob.n (.fr a)) 0)<(A0 (Ob.n (.fr b)) 0)))=false),(0<=(0:Int)),(0<(4:Int)),(0<(Ob.k (.fr a))),(0<=(0:Int)),(0<(4:Int)),(0<(Ob.k (.fr b))),(((A0 (Ob.n (.fr a)) 0) == (A0 (Ob.n (.fr b)) 0))=true),(((0:Int)==1)=false)]) (hs:Sim w0 F0 K ac (((rm0 a b:Cfg)).σ) cX aX) (hK:∀ac cY aY,Sim w0 F0 K ac (C0c a b (wrap .u64 ((wrap .u64 ((A0 (Ob.n (.fr a)) 0)-(A0 (Ob.n (.fr b)) 0)))-(0:Int))) (0:Int) (0:Int) (0:Int) (0:Int)) cY aY->Wq Try.prog Q (A1n) ac Exit.normal aY cY.w):Wq Try.prog Q (((rm0 a b:Cfg)).k) ac ((rm0 a b:Cfg)).x aX cX.w:=
 U5 (unroll:=true) (n:=42) (path:=[true,true,false,false]) (o:=⟨_,_,_,_,_,_,_⟩) O3 (by kernel_rfl) (by kernel_rfl) ho hs hK
theorem H2e (a b:U4) {w0:World} {F0:Nat->Prop} {K:Kp} {ac:List Act} {Q:Exit->Act->World->Prop} {cX:Ctx} {aX:Act} (ho:A3 [((decide (0<(4:Int)))=true),(0<=(0:Int)),(0<(4:Int)),(0<(Ob.k (.fr a))),(0<=(0:Int)),(0<(4:Int)),(0<(Ob.k (.fr b))),(0<=(0:Int)),(0<(4:Int)),(0<=(0:Int)),(0<(4:Int)),(0<(Ob.k (.fr a))),(0<=(0:Int)),(0<(4:Int)),(0<(Ob.k (.fr b))),((decide ((A0 (Ob.n (.fr a)) 0)<(A0 (Ob.n (.fr b)) 0)))=false),(0<=(0:Int)),(0<(4:Int)),(0<(Ob.k (.fr a))),(0<=(0:Int)),(0<(4:Int)),(0<(Ob.k (.fr b))),(((A0 (Ob.n (.fr a)) 0) == (A0 (Ob.n (.fr b)) 0))=false)]) (hs:Sim w0 F0 K ac (((rm0 a b:Cfg)).σ) cX aX) (hK:∀ac cY aY,Sim w0 F0 K ac (C0c a b (wrap .u64 ((wrap .u64 ((A0 (Ob.n (.fr a)) 0)-(A0 (Ob.n (.fr b)) 0)))-(0:Int))) (0:Int) (0:Int) (0:Int) (0:Int)) cY aY->Wq Try.prog Q (A1n) ac Exit.normal aY cY.w):Wq Try.prog Q (((rm0 a b:Cfg)).k) ac ((rm0 a b:Cfg)).x aX cX.w:=
 U5 (unroll:=true) (n:=42) (path:=[true,false,false]) (o:=⟨_,_,_,_,_,_,_⟩) O3 (by kernel_rfl) (by kernel_rfl) ho hs hK
def C0d (a b:U4) (v0 v1 v2 v3 c :Int):St:=A5 45 [2,3,4,5,6,7] [.pt 16 0,.pt 32 0,.pt 48 0,.pt 80 0,.v (.c (.int .u64 c)),.ii (1:Int)] [16,32,48,80] [(eF_ [.ob (.fr a)]),(eF_ [.ob (.fr b)]),(eF_ [(.ob (.fr (0:U4)))]),some (.fl [.int .u64 v0,.int .u64 v1,.int .u64 v2,.int .u64 v3])] 1312 [] []
def A1o:List KI:=(run gG true 25 (⟨A1n,.normal,C0c dF dF dF dF dF dF dF⟩:Cfg) [true,true,true]).cfg.k
theorem H1t (a b:U4) (v0 v1 v2 v3 c:Int) {w0:World} {F0:Nat->Prop} {K:Kp} {ac:List Act} {Q:Exit->Act->World->Prop} {cX:Ctx} {aX:Act} (ho:A3 [((decide ((1:Int)<(4:Int)))=true),(0<=(1:Int)),((1:Int)<(4:Int)),(1<(Ob.k (.fr a))),(0<=(1:Int)),((1:Int)<(4:Int)),(1<(Ob.k (.fr b))),(0<=(1:Int)),((1:Int)<(4:Int)),(0<=(1:Int)),((1:Int)<(4:Int)),(1<(Ob.k (.fr a))),(0<=(1:Int)),((1:Int)<(4:Int)),(1<(Ob.k (.fr b))),((decide ((A0 (Ob.n (.fr a)) 1)<(A0 (Ob.n (.fr b)) 1)))=true)]) (hs:Sim w0 F0 K ac (C0c a b v0 v1 v2 v3 c) cX aX) (hK:∀ac cY aY,Sim w0 F0 K ac (C0d a b v0 (wrap .u64 ((wrap .u64 ((A0 (Ob.n (.fr a)) 1)-(A0 (Ob.n (.fr b)) 1)))-c)) v2 v3 (1:Int)) cY aY->Wq Try.prog Q (A1o) ac Exit.normal aY cY.w):Wq Try.prog Q (A1n) ac .normal aX cX.w:=
 M8 (unroll:=true) (n:=25) (path:=[true,true,true]) (o:=⟨_,_,_,_,_,_,_⟩) O3 (by kernel_rfl) (by kernel_rfl) ho hs hK
theorem H1x (a b:U4) (v0 v1 v2 v3 c:Int) {w0:World} {F0:Nat->Prop} {K:Kp} {ac:List Act} {Q:Exit->Act->World->Prop} {cX:Ctx} {aX:Act} (ho:A3 [((decide ((1:Int)<(4:Int)))=true),(0<=(1:Int)),((1:Int)<(4:Int)),(1<(Ob.k (.fr a))),(0<=(1:Int)),((1:Int)<(4:Int)),(1<(Ob.k (.fr b))),(0<=(1:Int)),((1:Int)<(4:Int)),(0<=(1:Int)),((1:Int)<(4:Int)),(1<(Ob.k (.fr a))),(0<=(1:Int)),((1:Int)<(4:Int)),(1<(Ob.k (.fr b))),((decide ((A0 (Ob.n (.fr a)) 1)<(A0 (Ob.n (.fr b)) 1)))=false),(0<=(1:Int)),((1:Int)<(4:Int)),(1<(Ob.k (.fr a))),(0<=(1:Int)),((1:Int)<(4:Int)),(1<(Ob.k (.fr b))),(((A0 (Ob.n (.fr a)) 1) == (A0 (Ob.n (.fr b)) 1))=true),((c == (1:Int))=true)]) (hs:Sim w0 F0 K ac (C0c a b v0 v1 v2 v3 c) cX aX) (hK:∀ac cY aY,Sim w0 F0 K ac (C0d a b v0 (wrap .u64 ((wrap .u64 ((A0 (Ob.n (.fr a)) 1)-(A0 (Ob.n (.fr b)) 1)))-c)) v2 v3 (1:Int)) cY aY->Wq Try.prog Q (A1o) ac Exit.normal aY cY.w):Wq Try.prog Q (A1n) ac .normal aX cX.w:=
 M8 (unroll:=true) (n:=25) (path:=[true,true,false,true]) (o:=⟨_,_,_,_,_,_,_⟩) O3 (by kernel_rfl) (by kernel_rfl) ho hs hK
theorem H2b (a b:U4) (v0 v1 v2 v3 c:Int) {w0:World} {F0:Nat->Prop} {K:Kp} {ac:List Act} {Q:Exit->Act->World->Prop} {cX:Ctx} {aX:Act} (ho:A3 [((decide ((1:Int)<(4:Int)))=true),(0<=(1:Int)),((1:Int)<(4:Int)),(1<(Ob.k (.fr a))),(0<=(1:Int)),((1:Int)<(4:Int)),(1<(Ob.k (.fr b))),(0<=(1:Int)),((1:Int)<(4:Int)),(0<=(1:Int)),((1:Int)<(4:Int)),(1<(Ob.k (.fr a))),(0<=(1:Int)),((1:Int)<(4:Int)),(1<(Ob.k (.fr b))),((decide ((A0 (Ob.n (.fr a)) 1)<(A0 (Ob.n (.fr b)) 1)))=false),(0<=(1:Int)),((1:Int)<(4:Int)),(1<(Ob.k (.fr a))),(0<=(1:Int)),((1:Int)<(4:Int)),(1<(Ob.k (.fr b))),(((A0 (Ob.n (.fr a)) 1) == (A0 (Ob.n (.fr b)) 1))=true),((c == (1:Int))=false)]) (hs:Sim w0 F0 K ac (C0c a b v0 v1 v2 v3 c) cX aX) (hK:∀ac cY aY,Sim w0 F0 K ac (C0d a b v0 (wrap .u64 ((wrap .u64 ((A0 (Ob.n (.fr a)) 1)-(A0 (Ob.n (.fr b)) 1)))-c)) v2 v3 (0:Int)) cY aY->Wq Try.prog Q (A1o) ac Exit.normal aY cY.w):Wq Try.prog Q (A1n) ac .normal aX cX.w:=
 M8 (unroll:=true) (n:=25) (path:=[true,true,false,false]) (o:=⟨_,_,_,_,_,_,_⟩) O3 (by kernel_rfl) (by kernel_rfl) ho hs hK
theorem H2f (a b:U4) (v0 v1 v2 v3 c:Int) {w0:World} {F0:Nat->Prop} {K:Kp} {ac:List Act} {Q:Exit->Act->World->Prop} {cX:Ctx} {aX:Act} (ho:A3 [((decide ((1:Int)<(4:Int)))=true),(0<=(1:Int)),((1:Int)<(4:Int)),(1<(Ob.k (.fr a))),(0<=(1:Int)),((1:Int)<(4:Int)),(1<(Ob.k (.fr b))),(0<=(1:Int)),((1:Int)<(4:Int)),(0<=(1:Int)),((1:Int)<(4:Int)),(1<(Ob.k (.fr a))),(0<=(1:Int)),((1:Int)<(4:Int)),(1<(Ob.k (.fr b))),((decide ((A0 (Ob.n (.fr a)) 1)<(A0 (Ob.n (.fr b)) 1)))=false),(0<=(1:Int)),((1:Int)<(4:Int)),(1<(Ob.k (.fr a))),(0<=(1:Int)),((1:Int)<(4:Int)),(1<(Ob.k (.fr b))),(((A0 (Ob.n (.fr a)) 1) == (A0 (Ob.n (.fr b)) 1))=false)]) (hs:Sim w0 F0 K ac (C0c a b v0 v1 v2 v3 c) cX aX) (hK:∀ac cY aY,Sim w0 F0 K ac (C0d a b v0 (wrap .u64 ((wrap .u64 ((A0 (Ob.n (.fr a)) 1)-(A0 (Ob.n (.fr b)) 1)))-c)) v2 v3 (0:Int)) cY aY->Wq Try.prog Q (A1o) ac Exit.normal aY cY.w):Wq Try.prog Q (A1n) ac .normal aX cX.w:=
 M8 (unroll:=true) (n:=25) (path:=[true,false,false]) (o:=⟨_,_,_,_,_,_,_⟩) O3 (by kernel_rfl) (by kernel_rfl) ho hs hK
def C0e (a b:U4) (v0 v1 v2 v3 c :Int):St:=A5 45 [2,3,4,5,6,7] [.pt 16 0,.pt 32 0,.pt 48 0,.pt 80 0,.v (.c (.int .u64 c)),.ii (2:Int)] [16,32,48,80] [(eF_ [.ob (.fr a)]),(eF_ [.ob (.fr b)]),(eF_ [(.ob (.fr (0:U4)))]),some (.fl [.int .u64 v0,.int .u64 v1,.int .u64 v2,.int .u64 v3])] 1920 [] []
def A1p:List KI:=(run gG true 25 (⟨A1o,.normal,C0d dF dF dF dF dF dF dF⟩:Cfg) [true,true,true]).cfg.k
theorem H1u (a b:U4) (v0 v1 v2 v3 c:Int) {w0:World} {F0:Nat->Prop} {K:Kp} {ac:List Act} {Q:Exit->Act->World->Prop} {cX:Ctx} {aX:Act} (ho:A3 [((decide ((2:Int)<(4:Int)))=true),(0<=(2:Int)),((2:Int)<(4:Int)),(2<(Ob.k (.fr a))),(0<=(2:Int)),((2:Int)<(4:Int)),(2<(Ob.k (.fr b))),(0<=(2:Int)),((2:Int)<(4:Int)),(0<=(2:Int)),((2:Int)<(4:Int)),(2<(Ob.k (.fr a))),(0<=(2:Int)),((2:Int)<(4:Int)),(2<(Ob.k (.fr b))),((decide ((A0 (Ob.n (.fr a)) 2)<(A0 (Ob.n (.fr b)) 2)))=true)]) (hs:Sim w0 F0 K ac (C0d a b v0 v1 v2 v3 c) cX aX) (hK:∀ac cY aY,Sim w0 F0 K ac (C0e a b v0 v1 (wrap .u64 ((wrap .u64 ((A0 (Ob.n (.fr a)) 2)-(A0 (Ob.n (.fr b)) 2)))-c)) v3 (1:Int)) cY aY->Wq Try.prog Q (A1p) ac Exit.normal aY cY.w):Wq Try.prog Q (A1o) ac .normal aX cX.w:=
 M8 (unroll:=true) (n:=25) (path:=[true,true,true]) (o:=⟨_,_,_,_,_,_,_⟩) O3 (by kernel_rfl) (by kernel_rfl) ho hs hK
theorem H1y (a b:U4) (v0 v1 v2 v3 c:Int) {w0:World} {F0:Nat->Prop} {K:Kp} {ac:List Act} {Q:Exit->Act->World->Prop} {cX:Ctx} {aX:Act} (ho:A3 [((decide ((2:Int)<(4:Int)))=true),(0<=(2:Int)),((2:Int)<(4:Int)),(2<(Ob.k (.fr a))),(0<=(2:Int)),((2:Int)<(4:Int)),(2<(Ob.k (.fr b))),(0<=(2:Int)),((2:Int)<(4:Int)),(0<=(2:Int)),((2:Int)<(4:Int)),(2<(Ob.k (.fr a))),(0<=(2:Int)),((2:Int)<(4:Int)),(2<(Ob.k (.fr b))),((decide ((A0 (Ob.n (.fr a)) 2)<(A0 (Ob.n (.fr b)) 2)))=false),(0<=(2:Int)),((2:Int)<(4:Int)),(2<(Ob.k (.fr a))),(0<=(2:Int)),((2:Int)<(4:Int)),(2<(Ob.k (.fr b))),(((A0 (Ob.n (.fr a)) 2) == (A0 (Ob.n (.fr b)) 2))=true),((c == (1:Int))=true)]) (hs:Sim w0 F0 K ac (C0d a b v0 v1 v2 v3 c) cX aX) (hK:∀ac cY aY,Sim w0 F0 K ac (C0e a b v0 v1 (wrap .u64 ((wrap .u64 ((A0 (Ob.n (.fr a)) 2)-(A0 (Ob.n (.fr b)) 2)))-c)) v3 (1:Int)) cY aY->Wq Try.prog Q (A1p) ac Exit.normal aY cY.w):Wq Try.prog Q (A1o) ac .normal aX cX.w:=
 M8 (unroll:=true) (n:=25) (path:=[true,true,false,true]) (o:=⟨_,_,_,_,_,_,_⟩) O3 (by kernel_rfl) (by kernel_rfl) ho hs hK
theorem H2c (a b:U4) (v0 v1 v2 v3 c:Int) {w0:World} {F0:Nat->Prop} {K:Kp} {ac:List Act} {Q:Exit->Act->World->Prop} {cX:Ctx} {aX:Act} (ho:A3 [((decide ((2:Int)<(4:Int)))=true),(0<=(2:Int)),((2:Int)<(4:Int)),(2<(Ob.k (.fr a))),(0<=(2:Int)),((2:Int)<(4:Int)),(2<(Ob.k (.fr b))),(0<=(2:Int)),((2:Int)<(4:Int)),(0<=(2:Int)),((2:Int)<(4:Int)),(2<(Ob.k (.fr a))),(0<=(2:Int)),((2:Int)<(4:Int)),(2<(Ob.k (.fr b))),((decide ((A0 (Ob.n (.fr a)) 2)<(A0 (Ob.n (.fr b)) 2)))=false),(0<=(2:Int)),((2:Int)<(4:Int)),(2<(Ob.k (.fr a))),(0<=(2:Int)),((2:Int)<(4:Int)),(2<(Ob.k (.fr b))),(((A0 (Ob.n (.fr a)) 2) == (A0 (Ob.n (.fr b)) 2))=true),((c == (1:Int))=false)]) (hs:Sim w0 F0 K ac (C0d a b v0 v1 v2 v3 c) cX aX) (hK:∀ac cY aY,Sim w0 F0 K ac (C0e a b v0 v1 (wrap .u64 ((wrap .u64 ((A0 (Ob.n (.fr a)) 2)-(A0 (Ob.n (.fr b)) 2)))-c)) v3 (0:Int)) cY aY->Wq Try.prog Q (A1p) ac Exit.normal aY cY.w):Wq Try.prog Q (A1o) ac .normal aX cX.w:=
 M8 (unroll:=true) (n:=25) (path:=[true,true,false,false]) (o:=⟨_,_,_,_,_,_,_⟩) O3 (by kernel_rfl) (by kernel_rfl) ho hs hK
theorem H2g (a b:U4) (v0 v1 v2 v3 c:Int) {w0:World} {F0:Nat->Prop} {K:Kp} {ac:List Act} {Q:Exit->Act->World->Prop} {cX:Ctx} {aX:Act} (ho:A3 [((decide ((2:Int)<(4:Int)))=true),(0<=(2:Int)),((2:Int)<(4:Int)),(2<(Ob.k (.fr a))),(0<=(2:Int)),((2:Int)<(4:Int)),(2<(Ob.k (.fr b))),(0<=(2:Int)),((2:Int)<(4:Int)),(0<=(2:Int)),((2:Int)<(4:Int)),(2<(Ob.k (.fr a))),(0<=(2:Int)),((2:Int)<(4:Int)),(2<(Ob.k (.fr b))),((decide ((A0 (Ob.n (.fr a)) 2)<(A0 (Ob.n (.fr b)) 2)))=false),(0<=(2:Int)),((2:Int)<(4:Int)),(2<(Ob.k (.fr a))),(0<=(2:Int)),((2:Int)<(4:Int)),(2<(Ob.k (.fr b))),(((A0 (Ob.n (.fr a)) 2) == (A0 (Ob.n (.fr b)) 2))=false)]) (hs:Sim w0 F0 K ac (C0d a b v0 v1 v2 v3 c) cX aX) (hK:∀ac cY aY,Sim w0 F0 K ac (C0e a b v0 v1 (wrap .u64 ((wrap .u64 ((A0 (Ob.n (.fr a)) 2)-(A0 (Ob.n (.fr b)) 2)))-c)) v3 (0:Int)) cY aY->Wq Try.prog Q (A1p) ac Exit.normal aY cY.w):Wq Try.prog Q (A1o) ac .normal aX cX.w:=
 M8 (unroll:=true) (n:=25) (path:=[true,false,false]) (o:=⟨_,_,_,_,_,_,_⟩) O3 (by kernel_rfl) (by kernel_rfl) ho hs hK
def E1u (a b:U4) (v0 v1 v2 v3 c :Int):St:=A5 45 [2,3,4,5,6,7] [.pt 16 0,.pt 32 0,.pt 48 0,.pt 80 0,.v (.c (.int .u64 c)),.ii (3:Int)] [16,32,48,80] [(eF_ [.ob (.fr a)]),(eF_ [.ob (.fr b)]),(eF_ [(.ob (.fr (0:U4)))]),some (.fl [.int .u64 v0,.int .u64 v1,.int .u64 v2,.int .u64 v3])] 2528 [] []
def B3z:List KI:=(run gG true 25 (⟨A1p,.normal,C0e dF dF dF dF dF dF dF⟩:Cfg) [true,true,true]).cfg.k
theorem H1v (a b:U4) (v0 v1 v2 v3 c:Int) {w0:World} {F0:Nat->Prop} {K:Kp} {ac:List Act} {Q:Exit->Act->World->Prop} {cX:Ctx} {aX:Act} (ho:A3 [((decide ((3:Int)<(4:Int)))=true),(0<=(3:Int)),((3:Int)<(4:Int)),(3<(Ob.k (.fr a))),(0<=(3:Int)),((3:Int)<(4:Int)),(3<(Ob.k (.fr b))),(0<=(3:Int)),((3:Int)<(4:Int)),(0<=(3:Int)),((3:Int)<(4:Int)),(3<(Ob.k (.fr a))),(0<=(3:Int)),((3:Int)<(4:Int)),(3<(Ob.k (.fr b))),((decide ((A0 (Ob.n (.fr a)) 3)<(A0 (Ob.n (.fr b)) 3)))=true)]) (hs:Sim w0 F0 K ac (C0e a b v0 v1 v2 v3 c) cX aX) (hK:∀ac cY aY,Sim w0 F0 K ac (E1u a b v0 v1 v2 (wrap .u64 ((wrap .u64 ((A0 (Ob.n (.fr a)) 3)-(A0 (Ob.n (.fr b)) 3)))-c)) (1:Int)) cY aY->Wq Try.prog Q (B3z) ac Exit.normal aY cY.w):Wq Try.prog Q (A1p) ac .normal aX cX.w:=
 M8 (unroll:=true) (n:=25) (path:=[true,true,true]) (o:=⟨_,_,_,_,_,_,_⟩) O3 (by kernel_rfl) (by kernel_rfl) ho hs hK
theorem H1z (a b:U4) (v0 v1 v2 v3 c:Int) {w0:World} {F0:Nat->Prop} {K:Kp} {ac:List Act} {Q:Exit->Act->World->Prop} {cX:Ctx} {aX:Act} (ho:A3 [((decide ((3:Int)<(4:Int)))=true),(0<=(3:Int)),((3:Int)<(4:Int)),(3<(Ob.k (.fr a))),(0<=(3:Int)),((3:Int)<(4:Int)),(3<(Ob.k (.fr b))),(0<=(3:Int)),((3:Int)<(4:Int)),(0<=(3:Int)),((3:Int)<(4:Int)),(3<(Ob.k (.fr a))),(0<=(3:Int)),((3:Int)<(4:Int)),(3<(Ob.k (.fr b))),((decide ((A0 (Ob.n (.fr a)) 3)<(A0 (Ob.n (.fr b)) 3)))=false),(0<=(3:Int)),((3:Int)<(4:Int)),(3<(Ob.k (.fr a))),(0<=(3:Int)),((3:Int)<(4:Int)),(3<(Ob.k (.fr b))),(((A0 (Ob.n (.fr a)) 3) == (A0 (Ob.n (.fr b)) 3))=true),((c == (1:Int))=true)]) (hs:Sim w0 F0 K ac (C0e a b v0 v1 v2 v3 c) cX aX) (hK:∀ac cY aY,Sim w0 F0 K ac (E1u a b v0 v1 v2 (wrap .u64 ((wrap .u64 ((A0 (Ob.n (.fr a)) 3)-(A0 (Ob.n (.fr b)) 3)))-c)) (1:Int)) cY aY->Wq Try.prog Q (B3z) ac Exit.normal aY cY.w):Wq Try.prog Q (A1p) ac .normal aX cX.w:=
 M8 (unroll:=true) (n:=25) (path:=[true,true,false,true]) (o:=⟨_,_,_,_,_,_,_⟩) O3 (by kernel_rfl) (by kernel_rfl) ho hs hK
theorem H2d (a b:U4) (v0 v1 v2 v3 c:Int) {w0:World} {F0:Nat->Prop} {K:Kp} {ac:List Act} {Q:Exit->Act->World->Prop} {cX:Ctx} {aX:Act} (ho:A3 [((decide ((3:Int)<(4:Int)))=true),(0<=(3:Int)),((3:Int)<(4:Int)),(3<(Ob.k (.fr a))),(0<=(3:Int)),((3:Int)<(4:Int)),(3<(Ob.k (.fr b))),(0<=(3:Int)),((3:Int)<(4:Int)),(0<=(3:Int)),((3:Int)<(4:Int)),(3<(Ob.k (.fr a))),(0<=(3:Int)),((3:Int)<(4:Int)),(3<(Ob.k (.fr b))),((decide ((A0 (Ob.n (.fr a)) 3)<(A0 (Ob.n (.fr b)) 3)))=false),(0<=(3:Int)),((3:Int)<(4:Int)),(3<(Ob.k (.fr a))),(0<=(3:Int)),((3:Int)<(4:Int)),(3<(Ob.k (.fr b))),(((A0 (Ob.n (.fr a)) 3) == (A0 (Ob.n (.fr b)) 3))=true),((c == (1:Int))=false)]) (hs:Sim w0 F0 K ac (C0e a b v0 v1 v2 v3 c) cX aX) (hK:∀ac cY aY,Sim w0 F0 K ac (E1u a b v0 v1 v2 (wrap .u64 ((wrap .u64 ((A0 (Ob.n (.fr a)) 3)-(A0 (Ob.n (.fr b)) 3)))-c)) (0:Int)) cY aY->Wq Try.prog Q (B3z) ac Exit.normal aY cY.w):Wq Try.prog Q (A1p) ac .normal aX cX.w:=
 M8 (unroll:=true) (n:=25) (path:=[true,true,false,false]) (o:=⟨_,_,_,_,_,_,_⟩) O3 (by kernel_rfl) (by kernel_rfl) ho hs hK
theorem H2h (a b:U4) (v0 v1 v2 v3 c:Int) {w0:World} {F0:Nat->Prop} {K:Kp} {ac:List Act} {Q:Exit->Act->World->Prop} {cX:Ctx} {aX:Act} (ho:A3 [((decide ((3:Int)<(4:Int)))=true),(0<=(3:Int)),((3:Int)<(4:Int)),(3<(Ob.k (.fr a))),(0<=(3:Int)),((3:Int)<(4:Int)),(3<(Ob.k (.fr b))),(0<=(3:Int)),((3:Int)<(4:Int)),(0<=(3:Int)),((3:Int)<(4:Int)),(3<(Ob.k (.fr a))),(0<=(3:Int)),((3:Int)<(4:Int)),(3<(Ob.k (.fr b))),((decide ((A0 (Ob.n (.fr a)) 3)<(A0 (Ob.n (.fr b)) 3)))=false),(0<=(3:Int)),((3:Int)<(4:Int)),(3<(Ob.k (.fr a))),(0<=(3:Int)),((3:Int)<(4:Int)),(3<(Ob.k (.fr b))),(((A0 (Ob.n (.fr a)) 3) == (A0 (Ob.n (.fr b)) 3))=false)]) (hs:Sim w0 F0 K ac (C0e a b v0 v1 v2 v3 c) cX aX) (hK:∀ac cY aY,Sim w0 F0 K ac (E1u a b v0 v1 v2 (wrap .u64 ((wrap .u64 ((A0 (Ob.n (.fr a)) 3)-(A0 (Ob.n (.fr b)) 3)))-c)) (0:Int)) cY aY->Wq Try.prog Q (B3z) ac Exit.normal aY cY.w):Wq Try.prog Q (A1p) ac .normal aX cX.w:=
 M8 (unroll:=true) (n:=25) (path:=[true,false,false]) (o:=⟨_,_,_,_,_,_,_⟩) O3 (by kernel_rfl) (by kernel_rfl) ho hs hK
theorem F6w (a b:U4) (v0 v1 v2 v3 c:Int):C2 gG Try.f66 true 3000 (⟨B3z,.normal,E1u a b v0 v1 v2 v3 c⟩) [false] [] []=(some ([((decide ((4:Int)<(4:Int)))=false)],((.v (.a [(.int .u64 v0),(.int .u64 v1),(.int .u64 v2),(.int .u64 v3)])),[]))):=by kernel_rfl
end S4

namespace S4


theorem G3s {a b:U4} {N c:Int} (hN:0<=N∧N<115792089237316195423570985008687907853269984665640564039457584007913129639936) (_hc:c=0∨c=1)
  (h:N=(a.val:Int)-(b.val:Int)+115792089237316195423570985008687907853269984665640564039457584007913129639936*c):((a-b:U4).val:Int)=N:=by
 have ha:=a.isLt;have hb:=b.isLt;have e:(a-b:U4).val=(B4-b.val+a.val) % B4:=rfl;rw[e];unfold B4 at *;obtain ⟨_,_⟩:=hN;omega

theorem A2d {a b c:Int} (ha:Lim a) (hb:Lim b) (hc:c=0∨c=1):∃c' : Int,(c' = 0∨c' = 1)∧(a<b->c' = 1)∧(¬a<b->a=b->c=1->c' = 1)∧(¬a<b->a=b->¬c=1->c' = 0)∧(¬a<b->¬a=b->c' = 0) ∧
  wrap IntKind.u64 (wrap IntKind.u64 (a-b)-c)=a-b-c+18446744073709551616*c' := by
 obtain ⟨_,_⟩:=ha;obtain ⟨_,_⟩:=hb;rw[B1w,B1w];refine ⟨if a<b+c then 1 else 0,?_,?_,?_,?_,?_,?_⟩
 ·split<;>omega
 ·intro h;rw[if_pos (by omega)]
 ·intro h1 h2 h3;rw[if_pos (by omega)]
 ·intro h1 h2 h3;rw[if_neg (by omega)]
 ·intro h1 h2;rw[if_neg (by omega)]
 ·split<;>omega

section
variable {w0:World} {F0:Nat->Prop} {K:Kp} {ac:List Act} {Q:Exit->Act->World->Prop} {cX:Ctx} {aX:Act}

theorem H2i (a b:U4) (hs:Sim w0 F0 K ac (rm0 a b:Cfg).σ cX aX)
  (k:∀c' : Int,(c' = 0∨c' = 1)->(wrap IntKind.u64 (wrap IntKind.u64 ((A0 (Ob.n (Ob.fr a)) 0)-(A0 (Ob.n (Ob.fr b)) 0))-0))=(A0 (Ob.n (Ob.fr a)) 0)-(A0 (Ob.n (Ob.fr b)) 0)-0+18446744073709551616*c' -> ∀ac cY aY,Sim w0 F0 K ac (C0c a b (wrap IntKind.u64 (wrap IntKind.u64 ((A0 (Ob.n (Ob.fr a)) 0)-(A0 (Ob.n (Ob.fr b)) 0))-0)) 0 0 0 c') cY aY->Wq Try.prog Q A1n ac .normal aY cY.w):Wq Try.prog Q (rm0 a b:Cfg).k ac (rm0 a b:Cfg).x aX cX.w:=by
 have hA:Lim (A0 (Ob.n (Ob.fr a)) 0):=by obtain ⟨h0,h1,h2,h3,_⟩:=T9 a;assumption
 have hB:Lim (A0 (Ob.n (Ob.fr b)) 0):=by obtain ⟨h0,h1,h2,h3,_⟩:=T9 b;assumption
 obtain ⟨c',h1,hA1,hB1,hC1,hD1,e⟩:=A2d (c:=0) hA hB (.inl rfl);have sA:=@H1s a b w0 F0 K ac Q cX aX;have sB:=@H1w a b w0 F0 K ac Q cX aX;have sC:=@H2a a b w0 F0 K ac Q cX aX;have sD:=@H2e a b w0 F0 K ac Q cX aX;replace k:=k c' h1 e
 clear e hA hB;generalize (A0 (Ob.n (Ob.fr a)) 0)=x at *;generalize (A0 (Ob.n (Ob.fr b)) 0)=y at *;by_cases l1:x<y
 ·rw[hA1 l1] at k
  exact sA (by simp [A3,Ob.k,l1]) hs k
 ·by_cases l2:x=y
  ·by_cases l3:(0:Int)=1
   ·rw[hB1 l1 l2 l3] at k
    exact sB (by simp [A3,Ob.k,l2,l3]) hs k
   ·rw[hC1 l1 l2 l3] at k
    exact sC (by simp [A3,Ob.k,l2]) hs k
  ·rw[hD1 l1 l2] at k
   exact sD (by simp [A3,Ob.k,l1,l2]) hs k

theorem H2j (a b:U4) (v0 v1 v2 v3 c:Int) (hc:c=0∨c=1) (hs:Sim w0 F0 K ac (C0c a b v0 v1 v2 v3 c) cX aX)
  (k:∀c' : Int,(c' = 0∨c' = 1)->(wrap IntKind.u64 (wrap IntKind.u64 ((A0 (Ob.n (Ob.fr a)) 1)-(A0 (Ob.n (Ob.fr b)) 1))-c))=(A0 (Ob.n (Ob.fr a)) 1)-(A0 (Ob.n (Ob.fr b)) 1)-c+18446744073709551616*c' -> ∀ac cY aY,Sim w0 F0 K ac (C0d a b v0 (wrap IntKind.u64 (wrap IntKind.u64 ((A0 (Ob.n (Ob.fr a)) 1)-(A0 (Ob.n (Ob.fr b)) 1))-c)) v2 v3 c') cY aY->Wq Try.prog Q A1o ac .normal aY cY.w):Wq Try.prog Q A1n ac .normal aX cX.w:=by
 have hA:Lim (A0 (Ob.n (Ob.fr a)) 1):=by obtain ⟨h0,h1,h2,h3,_⟩:=T9 a;assumption
 have hB:Lim (A0 (Ob.n (Ob.fr b)) 1):=by obtain ⟨h0,h1,h2,h3,_⟩:=T9 b;assumption
 obtain ⟨c',h1,hA1,hB1,hC1,hD1,e⟩:=A2d (c:=c) hA hB hc;have sA:=@H1t a b v0 v1 v2 v3 c w0 F0 K ac Q cX aX;have sB:=@H1x a b v0 v1 v2 v3 c w0 F0 K ac Q cX aX;have sC:=@H2b a b v0 v1 v2 v3 c w0 F0 K ac Q cX aX;have sD:=@H2f a b v0 v1 v2 v3 c w0 F0 K ac Q cX aX;replace k:=k c' h1 e
 clear e hA hB;generalize (A0 (Ob.n (Ob.fr a)) 1)=x at *;generalize (A0 (Ob.n (Ob.fr b)) 1)=y at *;by_cases l1:x<y
 ·rw[hA1 l1] at k
  exact sA (by simp [A3,Ob.k,l1]) hs k
 ·by_cases l2:x=y
  ·by_cases l3:(c:Int)=1
   ·rw[hB1 l1 l2 l3] at k
    exact sB (by simp [A3,Ob.k,l2,l3]) hs k
   ·rw[hC1 l1 l2 l3] at k
    exact sC (by simp [A3,Ob.k,l2,l3]) hs k
  ·rw[hD1 l1 l2] at k
   exact sD (by simp [A3,Ob.k,l1,l2]) hs k

theorem H2k (a b:U4) (v0 v1 v2 v3 c:Int) (hc:c=0∨c=1) (hs:Sim w0 F0 K ac (C0d a b v0 v1 v2 v3 c) cX aX)
  (k:∀c' : Int,(c' = 0∨c' = 1)->(wrap IntKind.u64 (wrap IntKind.u64 ((A0 (Ob.n (Ob.fr a)) 2)-(A0 (Ob.n (Ob.fr b)) 2))-c))=(A0 (Ob.n (Ob.fr a)) 2)-(A0 (Ob.n (Ob.fr b)) 2)-c+18446744073709551616*c' -> ∀ac cY aY,Sim w0 F0 K ac (C0e a b v0 v1 (wrap IntKind.u64 (wrap IntKind.u64 ((A0 (Ob.n (Ob.fr a)) 2)-(A0 (Ob.n (Ob.fr b)) 2))-c)) v3 c') cY aY->Wq Try.prog Q A1p ac .normal aY cY.w):Wq Try.prog Q A1o ac .normal aX cX.w:=by
 have hA:Lim (A0 (Ob.n (Ob.fr a)) 2):=by obtain ⟨h0,h1,h2,h3,_⟩:=T9 a;assumption
 have hB:Lim (A0 (Ob.n (Ob.fr b)) 2):=by obtain ⟨h0,h1,h2,h3,_⟩:=T9 b;assumption
 obtain ⟨c',h1,hA1,hB1,hC1,hD1,e⟩:=A2d (c:=c) hA hB hc;have sA:=@H1u a b v0 v1 v2 v3 c w0 F0 K ac Q cX aX;have sB:=@H1y a b v0 v1 v2 v3 c w0 F0 K ac Q cX aX;have sC:=@H2c a b v0 v1 v2 v3 c w0 F0 K ac Q cX aX;have sD:=@H2g a b v0 v1 v2 v3 c w0 F0 K ac Q cX aX;replace k:=k c' h1 e
 clear e hA hB;generalize (A0 (Ob.n (Ob.fr a)) 2)=x at *;generalize (A0 (Ob.n (Ob.fr b)) 2)=y at *;by_cases l1:x<y
 ·rw[hA1 l1] at k
  exact sA (by simp [A3,Ob.k,l1]) hs k
 ·by_cases l2:x=y
  ·by_cases l3:(c:Int)=1
   ·rw[hB1 l1 l2 l3] at k
    exact sB (by simp [A3,Ob.k,l2,l3]) hs k
   ·rw[hC1 l1 l2 l3] at k
    exact sC (by simp [A3,Ob.k,l2,l3]) hs k
  ·rw[hD1 l1 l2] at k
   exact sD (by simp [A3,Ob.k,l1,l2]) hs k

theorem H2l (a b:U4) (v0 v1 v2 v3 c:Int) (hc:c=0∨c=1) (hs:Sim w0 F0 K ac (C0e a b v0 v1 v2 v3 c) cX aX)
  (k:∀c' : Int,(c' = 0∨c' = 1)->(wrap IntKind.u64 (wrap IntKind.u64 ((A0 (Ob.n (Ob.fr a)) 3)-(A0 (Ob.n (Ob.fr b)) 3))-c))=(A0 (Ob.n (Ob.fr a)) 3)-(A0 (Ob.n (Ob.fr b)) 3)-c+18446744073709551616*c' -> ∀ac cY aY,Sim w0 F0 K ac (E1u a b v0 v1 v2 (wrap IntKind.u64 (wrap IntKind.u64 ((A0 (Ob.n (Ob.fr a)) 3)-(A0 (Ob.n (Ob.fr b)) 3))-c)) c') cY aY->Wq Try.prog Q B3z ac .normal aY cY.w):Wq Try.prog Q A1p ac .normal aX cX.w:=by
 have hA:Lim (A0 (Ob.n (Ob.fr a)) 3):=by obtain ⟨h0,h1,h2,h3,_⟩:=T9 a;assumption
 have hB:Lim (A0 (Ob.n (Ob.fr b)) 3):=by obtain ⟨h0,h1,h2,h3,_⟩:=T9 b;assumption
 obtain ⟨c',h1,hA1,hB1,hC1,hD1,e⟩:=A2d (c:=c) hA hB hc;have sA:=@H1v a b v0 v1 v2 v3 c w0 F0 K ac Q cX aX;have sB:=@H1z a b v0 v1 v2 v3 c w0 F0 K ac Q cX aX;have sC:=@H2d a b v0 v1 v2 v3 c w0 F0 K ac Q cX aX;have sD:=@H2h a b v0 v1 v2 v3 c w0 F0 K ac Q cX aX;replace k:=k c' h1 e
 clear e hA hB;generalize (A0 (Ob.n (Ob.fr a)) 3)=x at *;generalize (A0 (Ob.n (Ob.fr b)) 3)=y at *;by_cases l1:x<y
 ·rw[hA1 l1] at k
  exact sA (by simp [A3,Ob.k,l1]) hs k
 ·by_cases l2:x=y
  ·by_cases l3:(c:Int)=1
   ·rw[hB1 l1 l2 l3] at k
    exact sB (by simp [A3,Ob.k,l2,l3]) hs k
   ·rw[hC1 l1 l2 l3] at k
    exact sC (by simp [A3,Ob.k,l2,l3]) hs k
  ·rw[hD1 l1 l2] at k
   exact sD (by simp [A3,Ob.k,l1,l2]) hs k

end

theorem C9y (a b:U4):FnD Try.prog 66 [.v (.a [.ob (.fr a)]),.v (.a [.ob (.fr b)])] (.v (.a [.ob (.fr (a-b))])) []:=by
 refine F5 (fn:=Try.f66) (c:=B2 Try.f66) Try.func66 rfl rfl fun x a0 hk hF hs=>?_
 obtain ⟨g0,g1,g2,g3,ha⟩:=T9 a;obtain ⟨h0,h1,h2,h3,hb⟩:=T9 b;refine H2i a b hs fun c0 hc0 e0 ac cY aY hs=>?_
 refine H2j a b _ _ _ _ c0 hc0 hs fun c1 hc1 e1 ac cY aY hs=>?_
 refine H2k a b _ _ _ _ c1 hc1 hs fun c2 hc2 e2 ac cY aY hs=>?_
 refine H2l a b _ _ _ _ c2 hc2 hs fun c3 hc3 e3 ac cY aY hs=>?_
 refine C7 O3 hk hF (F6w a b _ _ _ _ c3) (by simp [A3]) (fun y v hd=>?_) hs
 have l0:=A1w (wrap IntKind.u64 (A0 (Ob.n (Ob.fr a)) 0-A0 (Ob.n (Ob.fr b)) 0)-0);have l1:=A1w (wrap IntKind.u64 (A0 (Ob.n (Ob.fr a)) 1-A0 (Ob.n (Ob.fr b)) 1)-c0);have l2:=A1w (wrap IntKind.u64 (A0 (Ob.n (Ob.fr a)) 2-A0 (Ob.n (Ob.fr b)) 2)-c1);have l3:=A1w (wrap IntKind.u64 (A0 (Ob.n (Ob.fr a)) 3-A0 (Ob.n (Ob.fr b)) 3)-c2);generalize wrap IntKind.u64 (wrap IntKind.u64 (A0 (Ob.n (Ob.fr a)) 0-A0 (Ob.n (Ob.fr b)) 0)-0)=u0 at *;generalize wrap IntKind.u64 (wrap IntKind.u64 (A0 (Ob.n (Ob.fr a)) 1-A0 (Ob.n (Ob.fr b)) 1)-c0)=u1 at *;generalize wrap IntKind.u64 (wrap IntKind.u64 (A0 (Ob.n (Ob.fr a)) 2-A0 (Ob.n (Ob.fr b)) 2)-c1)=u2 at *;generalize wrap IntKind.u64 (wrap IntKind.u64 (A0 (Ob.n (Ob.fr a)) 3-A0 (Ob.n (Ob.fr b)) 3)-c2)=u3 at *;refine A6u (o:=.fr (a-b)) (Eq.refl 4) (V4 l0.1 l0.2 l1.1 l1.2 l2.1 l2.2 l3.1 l3.2 ?_) hd
 show ((a-b:U4).val:Int)=D8 u0 u1 u2 u3;have hN:D8 u0 u1 u2 u3=D8 (A0 (Ob.n (Ob.fr a)) 0) (A0 (Ob.n (Ob.fr a)) 1) (A0 (Ob.n (Ob.fr a)) 2) (A0 (Ob.n (Ob.fr a)) 3)-D8 (A0 (Ob.n (Ob.fr b)) 0) (A0 (Ob.n (Ob.fr b)) 1) (A0 (Ob.n (Ob.fr b)) 2) (A0 (Ob.n (Ob.fr b)) 3)+115792089237316195423570985008687907853269984665640564039457584007913129639936*c3:=by
  clear ha hb hd hs hk hF l0 l1 l2 l3 g0 g1 g2 g3 h0 h1 h2 h3;unfold D8;omega
 rw[<-ha,<-hb] at hN;exact G3s (C6c l0 l1 l2 l3) hc3 hN

end S4

namespace S4
section
variable {w0:World} {F0:Nat->Prop} {K:Kp} {ac:List Act} {Q:Exit->Act->World->Prop} {cX:Ctx} {aX:Act}

def B8v:B7
 | [.v (.a [.ob (.fr a)]),.v (.a [.ob (.fr b)])]=>some ([],.v (.c (.bool (decide (a.val<b.val)))),[])
 | _=>none
def A8k:B7
 | [.v (.a [.ob (.fr a)]),.v (.a [.ob (.fr b)])]=>some ([],.v (.a [.ob (.fr (a-b))]),[])
 | _=>none
def E4g:Env:=gG.set (E8 gG.fn 65 A0u)
theorem E4h:A6 Try.prog E4g:=A9 O3 65 A0u (A4 Try.func65 rfl rfl) fun args o r es h _=>by
 unfold A0u at h;split at h
 ·cases h
  refine (A7 O3 Try.func65 H1q ⟨by decide,by decide,by decide,by decide,by decide,by decide,by decide,by decide,trivial⟩).conv (fun _ _ h=>h) fun y v hd=>?_
  have e:rU=Fin.ofNat B4 52435875175126190479447740508185965837690552500527637822603658699938581184513:=by kernel_rfl
  rw[e];exact hd
 ·cases h
def E4i:Env:=E4g.set (E8 E4g.fn 64 B8v)
theorem E4j:A6 Try.prog E4i:=A9 E4h 64 B8v (A4 Try.func64 rfl rfl) fun args o r es h _=>by
 unfold B8v at h;split at h
 ·cases h;exact E6c _ _
 ·cases h
def F8g:Env:=E4i.set (E8 E4i.fn 66 A8k)
theorem E4k:A6 Try.prog F8g:=A9 E4j 66 A8k (A4 Try.func66 rfl rfl) fun args o r es h _=>by
 unfold A8k at h;split at h
 ·cases h;exact C9y _ _
 ·cases h
def F9h:Env:=F8g
theorem C4w:A6 Try.prog F9h:=E4k
def cl0 (a:U4):Cfg:=⟨[.code (B2 Try.f34)],.normal,D6 Try.f34.ntmps [.v (.a [.ob (.fr a)])]⟩
def B2f:List KI:=(run F9h false 3000 (cl0 dF:Cfg) []).cfg.k
section
variable (a:U4)
theorem G7z:let b:=(cl0 a:Cfg);(A3 [])->(Sim w0 F0 K ac (b.σ) cX aX)->(∀ac cY aY,Sim w0 F0 K ac (A5 11 [1,2] [.pt 16 0,.pt 32 0] [16,32] [(eF_ [.ob (.fr a)]),(eF_ [(.ob (.fr (0:U4)))])] 48 [] []) cY aY->Wq Try.prog Q (B2f) ac Exit.normal aY cY.w)->Wq Try.prog Q (b.k) ac b.x aX cX.w:=fun ho hs hK=>
 U5 (unroll:=false) (n:=3000) (path:=[]) (o:=⟨_,_,_,_,_,_,_⟩) C4w (by kernel_rfl) (by kernel_rfl) ho hs hK
def clS (a:U4):St:=A5 11 [1,2] [.pt 16 0,.pt 32 0] [16,32] [(eF_ [.ob (.fr a)]),(eF_ [(.ob (.fr (0:U4)))])] 48 [] []
theorem clN:A3 [((Bool.not (decide ((Fin.val a)<52435875175126190479447740508185965837690552500527637822603658699938581184513)))=true)]->Sg Try.prog (clS a) (A5 11 [1,2] [.pt 16 0,.pt 32 0] [16,32] [(eF_ [(.ob (.fr (a-S4.rU)))]),(eF_ [(.ob (.fr (0:U4)))])] 176 [] []) .normal (D5 B2f) (B5 B2f):=sgA false 3000 [true] C4w
end
theorem F2k (a:U4):C2 F9h Try.f34 false 3000 (⟨B5 B2f,.normal,clS a⟩) [false] [] []=(some ([((Bool.not (decide ((Fin.val a)<52435875175126190479447740508185965837690552500527637822603658699938581184513)))=false)],((.v (.a [.ob (.fr a)])),[]))):=by kernel_rfl
end
end S4

namespace S4

def A3y (a:U4):U4:=Fin.ofNat B4 (a.val % rN)
theorem A3z (a:U4):(A3y a).val=a.val % rN:=Nat.mod_eq_of_lt (Nat.lt_trans (Nat.mod_lt _ (by decide)) (by decide))

theorem C6x:rU.val=rN:=by kernel_rfl

theorem F1a {a:U4} (h:rN<=a.val):(a-rU).val=a.val-rN:=by
 have e:(a-rU).val=(B4-rU.val+a.val) % B4:=rfl;rw[e,C6x];have ha:=a.isLt;have hr:rN<B4:=by decide
 rw[show B4-rN+a.val=(a.val-rN)+B4 from by omega,Nat.add_mod_right,Nat.mod_eq_of_lt (by omega)]

theorem D9k (a:U4):FnD Try.prog 34 [.v (.a [.ob (.fr a)])] (.v (.a [.ob (.fr (A3y a))])) []:=by
 refine F5 (fn:=Try.f34) (c:=B2 Try.f34) Try.func34 rfl rfl fun x a0 hk hF hs=>?_
 refine G7z a trivial hs fun ac cY aY hs1=>?_
 refine C0 (ι:={ b:U4 // A3y b=A3y a }) (fun b=>clS b.1) (fun b=>b.1.val) (c:=lpC B2f) (k:=lpR B2f) (by kernel_rfl) (fun b ih ac cY aY hs=>?_) ⟨a,rfl⟩ hs1
 obtain ⟨b,hb⟩:=b;simp only at ih hs
 by_cases h:b.val<rU.val
 ·have h2:b.val<rN:=by rw[<-C6x];exact h
  unfold rN at h2;refine C7 C4w hk hF (F2k b) ⟨by simp [h2],trivial⟩ (fun y v hd=>?_) hs
  refine D0m (o:=.fr b) (o' := .fr (A3y a)) (Eq.refl 4) ?_ hd
  show b.val=(A3y a).val;rw[<-hb,A3z];rw[C6x] at h;exact (Nat.mod_eq_of_lt h).symm
 ·have h' : rN<=b.val:=by rw[C6x] at h;omega
  have h2:=h';unfold rN at h2;refine clN b ⟨by simp [h2],trivial⟩ hs fun ac cY aY hs2=>?_
  refine ih ⟨b-rU,?_⟩ ?_ ac cY aY (hs2.nx _)
  ·rw[<-hb]
   apply Fin.ext
   rw[A3z,A3z,F1a h',<-Nat.mod_eq_sub_mod h']
  ·show (b-rU).val<b.val
   rw[F1a h'];have:0<rN:=by decide
   omega

end S4

namespace S4
section
variable {w0:World} {F0:Nat->Prop} {K:Kp} {ac:List Act} {Q:Exit->Act->World->Prop} {cX:Ctx} {aX:Act}

theorem zeR (x:Fr):C9 gK Try.f25 3000 [.v (.a [.ob (.s x)])] [] [] []=(some ([],((.ci (.bool (ite (true=true) (decide (x=(0:Fr))) (Bool.not (decide (x=(0:Fr))))))),[]))):=by kernel_rfl
theorem F7y (x:Fr):FnD Try.prog 25 [.v (.a [.ob (.s x)])] (.v (.c (.bool (decide (x=0))))) []:=by
 refine (A7 D7c Try.func25 (zeR x) trivial).conv (fun _ _ h=>h) fun y v hd=>?_
 rw[if_pos rfl] at hd;exact hd
def C1c:B7
 | [.v (.a [.ob (.s x)])]=>some ([],.v (.c (.bool (decide (x=0)))),[])
 | _=>none
def gL:Env:=gK.set (E8 gK.fn 25 C1c)
theorem A3m:A6 Try.prog gL:=A9 D7c 25 C1c (A4 Try.func25 rfl rfl) fun args o r es h _=>by
 unfold C1c at h;split at h
 ·cases h;exact F7y _
 ·cases h
def B3n:List KI:=(run gL false 3000 (⟨[.code (B2 Try.f51)],.normal,D6 Try.f51.ntmps [.v (.c (.sl (.fr dF)))]⟩:Cfg) []).cfg.k
theorem H0r (a:List U4):let b:Int:=a.length;A3 [(0<=b),(b=b),(((32:Int)*b)<=(281474976710656:Int)),(b<=(9223372036854775807:Int))]->Sg Try.prog (D6 Try.f51.ntmps [.v (.c (.sl (.fr a)))]) (A5 23 [3,9,10,11] [(.ci (.slc 64 0 (b).toNat 4)),(.ci (.sl (.fr a))),(.ii b),.ii (0:Int)] [64] [(eQ_ (.s (List.replicate (b).toNat 0)))] 144 [] []) .normal (B3n) ([.code (B2 Try.f51)]):=sgA false 3000 [] A3m
def A5r:List KI:=(run gL false 3000 (⟨[.code (B2 Try.f50)],.normal,D6 Try.f50.ntmps [.v (.c (.sl (.s dF)))]⟩:Cfg) []).cfg.k
theorem H0q (a:List Fr):A3 []->Sg Try.prog (D6 Try.f50.ntmps [.v (.c (.sl (.s a)))]) (A5 37 [0,3] [(.ci (.sl (.s a))),(.ii (a.length:Int))] [] [] 80 [] []) .normal (A5r) ([.code (B2 Try.f50)]):=sgA false 3000 [] A3m
def piS (a:List U4) (N:Nat) (L:List Fr) (i:Nat):St:=A5 23 [3,9,10,11] [.v (.c (.slc 64 0 N 4)),(.ci (.sl (.fr a))),.v (.c (.int .i64 (N:Int))),.v (.c (.int .i64 (i:Int)))] [64] [some (.sq (.s L))] 144 [] []
theorem piN (a:List U4) (N:Nat) (L:List Fr) (i:Nat):let b:Int:=i;let c:Int:=(N:Nat);A3 [((decide (b<c))=true),(0<=b),(b<(a.length:Int)),(0<=b),(b<c),(0=0),((b).toNat<L.length)]->Sg Try.prog (piS a N L i) (A5 23 [3,9,10,11] [(.ci (.slc 64 0 N 4)),(.ci (.sl (.fr a))),(.ii c),(.ii (wrap .i64 (b+1)))] [64] [(eQ_ (.s (List.set L (b).toNat (S4.inF (List.getD a (b).toNat 0)))))] 384 [] []) .normal (D5 B3n) (B5 B3n):=sgA false 3000 [true] A3m
theorem F5u (a:List U4) (N:Nat) (L:List Fr) (i:Nat):C2 gL Try.f51 false 3000 (⟨B5 B3n,.normal,piS a N L i⟩) [false] [64] []=(some ([((decide ((i:Int)<((N:Nat):Int)))=false)],((.ci (.slc 0 0 N 4)),[(.sq (.s L))]))):=by kernel_rfl
def pbS (a:List Fr) (n:Nat):St:=A5 37 [0,3] [(.ci (.sl (.s a))),.v (.c (.int .i64 (n:Int)))] [] [] 80 [] []
section
variable (a:List Fr) (n:Nat)
theorem pbN:let b:=wrap .i64 (((n:Nat):Int)-1);A3 [((decide (((n:Nat):Int) > (0:Int)))=true),(0<=b),(b<(a.length:Int)),((decide ((List.getD a (b).toNat 0)=(0:Fr)))=true)]->Sg Try.prog (pbS a n) (A5 37 [0,3] [(.ci (.sl (.s a))),(.ii b)] [] [] 288 [] []) .normal (D5 A5r) (B5 A5r):=sgA false 3000 [true,true] A3m
def B4t:List KI:=(run gL false 3000 (⟨B5 A5r,.normal,pbS dF dF⟩:Cfg) [true,false]).cfg.k
theorem pbB:let b:Int:=(n:Nat);let c:=wrap .i64 (b-1);A3 [((decide (b > (0:Int)))=true),(0<=c),(c<(a.length:Int)),((decide ((List.getD a (c).toNat 0)=(0:Fr)))=false),(0<=b),(b=b),(((32:Int)*b)<=(281474976710656:Int)),(b<=(9223372036854775807:Int))]->Sg Try.prog (pbS a n) (A5 37 [0,4,23,24] [(.ci (.sl (.s a))),(.ci (.slc 256 0 (b).toNat 4)),(.ii (((b).toNat:Nat):Int)),.ii (0:Int)] [256] [(eQ_ (.fr (List.replicate (b).toNat 0)))] 336 [] []) .normal (B4t) (B5 A5r):=sgA false 3000 [true,false] A3m
theorem pbC:let b:Int:=(n:Nat);A3 [((decide (b > (0:Int)))=false),(0<=b),(b=b),(((32:Int)*b)<=(281474976710656:Int)),(b<=(9223372036854775807:Int))]->Sg Try.prog (pbS a n) (A5 37 [0,4,23,24] [(.ci (.sl (.s a))),(.ci (.slc 256 0 (b).toNat 4)),(.ii (((b).toNat:Nat):Int)),.ii (0:Int)] [256] [(eQ_ (.fr (List.replicate (b).toNat 0)))] 336 [] []) .normal (B4t) (B5 A5r):=sgA false 3000 [false] A3m
def pbT (a:List Fr) (N:Nat) (L:List U4) (i:Nat):St:=A5 37 [0,4,23,24] [(.ci (.sl (.s a))),.v (.c (.slc 256 0 N 4)),.v (.c (.int .i64 (N:Int))),.v (.c (.int .i64 (i:Int)))] [256] [some (.sq (.fr L))] 336 [] []
end
theorem pbM (a:List Fr) (N:Nat) (L:List U4) (i:Nat):let b:Int:=i;let c:Int:=(N:Nat);A3 [((decide (b<c))=true),(0<=b),(b<(a.length:Int)),(0<=b),(b<c),(0=0),((b).toNat<L.length)]->Sg Try.prog (pbT a N L i) (A5 37 [0,4,23,24] [(.ci (.sl (.s a))),(.ci (.slc 256 0 N 4)),(.ii c),(.ii (wrap .i64 (b+1)))] [256] [(eQ_ (.fr (List.set L (b).toNat (S4.I8 (List.getD a (b).toNat 0)))))] 560 [] []) .normal (D5 B4t) (B5 B4t):=sgA false 3000 [true] A3m
theorem F5t (a:List Fr) (N:Nat) (L:List U4) (i:Nat):C2 gL Try.f50 false 3000 (⟨B5 B4t,.normal,pbT a N L i⟩) [false] [256] []=(some ([((decide ((i:Int)<((N:Nat):Int)))=false)],((.ci (.slc 0 0 N 4)),[(.sq (.fr L))]))):=by kernel_rfl
end
end S4

namespace S4
section
variable {w0:World} {F0:Nat->Prop} {K:Kp} {ac:List Act} {Q:Exit->Act->World->Prop} {cX:Ctx} {aX:Act}

theorem G3p (n:Int):let b:Int:=18446744073709551616;let d:=0<=(0:Int);C9 gL Try.f28 3000 [.v (.c (.int .u64 n))] [] [] []=(some ([(0<=n),(n<b),d,(0<b),d,(0<b),d,(0<b)],((.v (.a [(.ob (.s (S4.inF (Fin.ofNat B4 ((n).toNat+0)))))])),[]))):=by intros;kernel_rfl
theorem G6z  : C9 gL Try.f20 3000 [] [] [] []=(some ([(0<=(4046931900703378731:Int)),((4046931900703378731:Int)<(18446744073709551616:Int)),(0<=(13129826145616953529:Int)),((13129826145616953529:Int)<(18446744073709551616:Int)),(0<=(15031722638446171060:Int)),((15031722638446171060:Int)<(18446744073709551616:Int)),(0<=(1631043718794977056:Int)),((1631043718794977056:Int)<(18446744073709551616:Int))],((.v (.a [(.ob (.s (S4.inF (Fin.ofNat B4 10238227357739495823651030575849232062558860180284477541189508159991286009131))))])),[]))):=by kernel_rfl
def B4c:B7
 | [.v (.c (.int .u64 n))]=>some ([0<=n,n<18446744073709551616],.v (.a [.ob (.s (Fin.ofNat rN n.toNat))]),[])
 | _=>none
/-- A root of 1 whose power of 2 to the power of 32 is 1. -/
def A7p:Fr:=Fin.ofNat rN 10238227357739495823651030575849232062558860180284477541189508159991286009131
def C0i:B7
 | []=>some ([],.v (.a [.ob (.s A7p)]),[])
 | _=>none

theorem C2k {n:Nat} (h:n<B4):inF (Fin.ofNat B4 n)=Fin.ofNat rN n:=by
 apply Fin.ext
 show (n % B4) % rN=n % rN;rw[Nat.mod_eq_of_lt h]
def dA1:Env:=gL.set (E8 gL.fn 28 B4c)
theorem F9c:A6 Try.prog dA1:=A9 A3m 28 B4c (A4 Try.func28 rfl rfl) fun args o r es h ho=>by
 unfold B4c at h;split at h
 ·rename_i n
  cases h
  obtain ⟨h1,h2,_⟩:=ho;refine (A7 A3m Try.func28 (G3p n) ⟨h1,h2,by decide,by decide,by decide,by decide,by decide,by decide,trivial⟩).conv (fun _ _ h=>h) fun y v hd=>?_
  rw[Nat.add_zero,C2k (by unfold B4;omega)] at hd
  exact hd
 ·cases h
def dA:Env:=dA1.set (E8 dA1.fn 20 C0i)
theorem C2c:A6 Try.prog dA:=A9 F9c 20 C0i (A4 Try.func20 rfl rfl) fun args o r es h _=>by
 unfold C0i at h;split at h
 ·cases h
  refine (A7 A3m Try.func20 G6z ⟨by decide,by decide,by decide,by decide,by decide,by decide,by decide,by decide,trivial⟩).conv (fun _ _ h=>h) fun y v hd=>?_
  rw[C2k (by decide)] at hd
  exact hd
 ·cases h

def nw0 (log:Int):Cfg:=⟨[.code (B2 Try.f8)],.normal,D6 Try.f8.ntmps [.v (.c (.int .i64 log))]⟩

theorem F5b (log:Int):C2 dA Try.f8 false 3000 (nw0 log) [true] [] []=(some ([((decide (log<(0:Int)))=true)],((.t [(.a [(.int .i64 (0:Int)),(.ob (.fr (0:U4)))]),(.c (.int .i64 (40:Int)))]),[]))):=by kernel_rfl
theorem F5c (log:Int):C2 dA Try.f8 false 3000 (nw0 log) [false,true] [] []=(some ([((decide (log<(0:Int)))=false),((decide (log > (16:Int)))=true)],((.t [(.a [(.int .i64 (0:Int)),(.ob (.fr (0:U4)))]),(.c (.int .i64 (40:Int)))]),[]))):=by kernel_rfl
def B3f:List KI:=(run dA false 3000 (nw0 dF:Cfg) [false,false]).cfg.k
theorem H0c (log:Int):let a:=(nw0 log:Cfg);(A3 [((decide (log<(0:Int)))=false),((decide (log > (16:Int)))=false)])->(Sim w0 F0 K ac (a.σ) cX aX)->(∀ac cY aY,Sim w0 F0 K ac (A5 25 [0,2,4,14,15] [.ii log,.pt 16 0,.pt 160 0,(.ii (wrap .i64 ((32:Int)-log))),.ii (0:Int)] [16,160] [(eF_ [(.int .i64 (0:Int)),(.ob (.fr (0:U4)))]),(eF_ [(.ob (.s S4.A7p))])] 240 [] []) cY aY->Wq Try.prog Q (B3f) ac Exit.normal aY cY.w)->Wq Try.prog Q (a.k) ac a.x aX cX.w:=fun ho hs hK=>
 U5 (unroll:=false) (n:=3000) (path:=[false,false]) (o:=⟨_,_,_,_,_,_,_⟩) C2c (by kernel_rfl) (by kernel_rfl) ho hs hK
def nwS (log :Int) (m :Int) (i:Nat) (w:Fr):St:=A5 25 [0,2,4,14,15] [.ii log,.pt 16 0,.pt 160 0,.v (.c (.int .i64 m)),.v (.c (.int .i64 (i:Int)))] [16,160] [(eF_ [(.int .i64 (0:Int)),(.ob (.fr (0:U4)))]),some (.fl [.ob (.s w)])] 240 [] []
theorem F5d (log m:Int) (i:Nat) (w:Fr):C2 dA Try.f8 false 3000 (⟨B5 B3f,.normal,nwS log m i w⟩) [false] [] []=(some ([((decide ((i:Int)<m))=false)],((.t [(.a [(.int .i64 log),(.ob (.fr (S4.I8 w)))]),(.c (.int .i64 (0:Int)))]),[]))):=by kernel_rfl
theorem nwN (log m:Int) (i:Nat) (w:Fr):A3 [((decide ((i:Int)<m))=true)]->Sg Try.prog (nwS log m i w) (A5 25 [0,2,4,14,15] [.ii log,.pt 16 0,.pt 160 0,.ii m,(.ii (wrap .i64 ((i:Int)+1)))] [16,160] [(eF_ [(.int .i64 (0:Int)),(.ob (.fr (0:U4)))]),(eF_ [(.ob (.s (w*w)))])] 352 [] []) .normal (D5 B3f) (B5 B3f):=sgA false 3000 [true] C2c

end
end S4

namespace S4

/-- So many times squared. -/
def sqN (w:Fr):Nat->Fr
 | 0=>w
 | n+1=>sqN w n*sqN w n

def K0 (log:Int):Bool:=decide (0<=log) && decide (log<=16)
def D2 (log:Int):U4:=if K0 log then I8 (sqN A7p (32-log).toNat) else 0
def E1a (log:Int):SV:=.t [.a [.int .i64 (if K0 log then log else 0),.ob (.fr (D2 log))],.c (.int .i64 (if K0 log then 0 else 40))]

theorem D7l (log:Int):FnD Try.prog 8 [.v (.c (.int .i64 log))] (E1a log) []:=by
 refine F5 (fn:=Try.f8) (c:=B2 Try.f8) Try.func8 rfl rfl fun x a hk hF hs=>?_
 by_cases h1:log<0
 ·have hn:K0 log=false:=by simp [K0];omega
  refine M3 C2c hk hF (F5b log) (by simp [A3];omega) (fun y v hd=>?_) hs
  unfold E1a D2;rw[hn];exact hd
 by_cases h2:log > 16
 ·have hn:K0 log=false:=by simp [K0];omega
  refine M3 C2c hk hF (F5c log) (by simp [A3];omega) (fun y v hd=>?_) hs
  unfold E1a D2;rw[hn];exact hd
 have hn:K0 log=true:=by simp [K0];omega
 have hw:wrap IntKind.i64 ((32:Int)-log)=32-log:=B0 (by omega) (by omega)
 refine H0c log (by simp [A3];omega) hs fun ac cY aY hs1=>?_
 rw[hw] at hs1;refine C0 (ι:={ i:Nat // (i:Int)<=32-log }) (fun i=>nwS log (32-log) i.1 (sqN A7p i.1)) (fun i=>32-i.1) (c:=lpC B3f) (k:=lpR B3f) (by kernel_rfl) (fun i ih ac cY aY hs=>?_) ⟨0,by omega⟩ hs1
 obtain ⟨i,hi⟩:=i;simp only at ih hs
 by_cases h5:(i:Int)<32-log
 ·refine nwN log (32-log) i (sqN A7p i) (by simp [A3];omega) hs fun ac cY aY hs2=>?_
  rw[B0 (by omega) (by omega)] at hs2
  exact ih ⟨i+1,by omega⟩ (by show 32-(i+1)<32-i;omega) ac cY aY (hs2.nx _)
 ·refine C7 C2c hk hF (F5d log (32-log) i (sqN A7p i)) (by simp [A3];omega) (fun y v hd=>?_) hs
  have e:(32-log).toNat=i:=by omega
  unfold E1a D2;rw[hn,e];exact hd

end S4

namespace S4
section
variable {w0:World} {F0:Nat->Prop} {K:Kp} {ac:List Act} {Q:Exit->Act->World->Prop} {cX:Ctx} {aX:Act}

def B9g:B7
 | [.v (.c (.int .i64 n))]=>some ([],E1a n,[])
 | _=>none
def dB:Env:=dA.set (E8 dA.fn 8 B9g)
theorem A9x:A6 Try.prog dB:=A9 C2c 8 B9g (A4 Try.func8 rfl rfl) fun args o r es h _=>by
 unfold B9g at h;split at h
 ·cases h;exact D7l _
 ·cases h
theorem rgA (log:Int) (w:U4):let c:=(S4.K0 log)=true;let b:=Bool.and ((ite c log (0:Int)) == log) (decide ((S4.D2 log)=w));C9 dB Try.f24 3000 [.v (.a [.int .i64 log,.ob (.fr w)])] [true] [] []=(some ([(((ite c (0:Int) (40:Int)) == (0:Int))=true)],((.ci (.bool (ite (true=true) b (Bool.not b)))),[]))):=by intros;kernel_rfl
theorem rgB (log:Int) (w:U4):C9 dB Try.f24 3000 [.v (.a [.int .i64 log,.ob (.fr w)])] [false] [] []=(some ([(((ite ((S4.K0 log)=true) (0:Int) (40:Int)) == (0:Int))=false)],((.ci (.lit false)),[]))):=by kernel_rfl
def ps0 (w:Fr) (n:Int):Cfg:=⟨[.code (B2 Try.f46)],.normal,D6 Try.f46.ntmps [.v (.a [.ob (.s w)]),.v (.c (.int .i64 n))]⟩
def ot0 (l:List Fr):Cfg:=⟨[.code (B2 Try.f29)],.normal,D6 Try.f29.ntmps [.v (.c (.sl (.s l)))]⟩
def B3r:List KI:=(run dB false 3000 (ps0 dF dF:Cfg) []).cfg.k
theorem H1k (w:Fr) (n:Int):let a:=(ps0 w n:Cfg);(A3 [(0<=n),(n=n),(((32:Int)*n)<=(281474976710656:Int)),(n<=(9223372036854775807:Int)),(0<=(1:Int)),((1:Int)<(18446744073709551616:Int))])->(Sim w0 F0 K ac (a.σ) cX aX)->(∀ac cY aY,Sim w0 F0 K ac (A5 25 [2,5,6,12,13] [.pt 16 0,(.ci (.slc 64 0 (n).toNat 4)),.pt 112 0,(.ii (((n).toNat:Nat):Int)),.ii (0:Int)] [16,64,112] [(eF_ [.ob (.s w)]),(eQ_ (.s (List.replicate (n).toNat 0))),(eF_ [(.ob (.s (Fin.ofNat rN 1)))])] 192 [] []) cY aY->Wq Try.prog Q (B3r) ac Exit.normal aY cY.w)->Wq Try.prog Q (a.k) ac a.x aX cX.w:=fun ho hs hK=>
 U5 (unroll:=false) (n:=3000) (path:=[]) (o:=⟨_,_,_,_,_,_,_⟩) A9x (by kernel_rfl) (by kernel_rfl) ho hs hK
def B3k:List KI:=(run dB false 3000 (ot0 dF:Cfg) []).cfg.k
theorem H0p (l:List Fr):let a:Int:=l.length;let b:=(ot0 l:Cfg);(A3 [(0<=a),(a=a),(((32:Int)*a)<=(281474976710656:Int)),(a<=(9223372036854775807:Int))])->(Sim w0 F0 K ac (b.σ) cX aX)->(∀ac cY aY,Sim w0 F0 K ac (A5 23 [3,9,10,11] [(.ci (.slc 64 0 (a).toNat 4)),(.ci (.sl (.s l))),(.ii a),.ii (0:Int)] [64] [(eQ_ (.fr (List.replicate (a).toNat 0)))] 144 [] []) cY aY->Wq Try.prog Q (B3k) ac Exit.normal aY cY.w)->Wq Try.prog Q (b.k) ac b.x aX cX.w:=fun ho hs hK=>
 U5 (unroll:=false) (n:=3000) (path:=[]) (o:=⟨_,_,_,_,_,_,_⟩) A9x (by kernel_rfl) (by kernel_rfl) ho hs hK
def psS (w:Fr) (N:Nat) (L:List Fr) (x:Fr) (i:Nat):St:=A5 25 [2,5,6,12,13] [.pt 16 0,.v (.c (.slc 64 0 N 4)),.pt 112 0,.v (.c (.int .i64 (N:Int))),.v (.c (.int .i64 (i:Int)))] [16,64,112] [(eF_ [.ob (.s w)]),some (.sq (.s L)),some (.fl [.ob (.s x)])] 192 [] []
theorem psN (w:Fr) (N:Nat) (L:List Fr) (x:Fr) (i:Nat):let a:Int:=i;let b:Int:=(N:Nat);A3 [((decide (a<b))=true),(0<=a),(a<b),(0=0),((a).toNat<L.length)]->Sg Try.prog (psS w N L x i) (A5 25 [2,5,6,12,13] [.pt 16 0,(.ci (.slc 64 0 N 4)),.pt 112 0,(.ii b),(.ii (wrap .i64 (a+1)))] [16,64,112] [(eF_ [.ob (.s w)]),(eQ_ (.s (List.set L (a).toNat x))),(eF_ [(.ob (.s (x*w)))])] 416 [] []) .normal (D5 B3r) (B5 B3r):=sgA false 3000 [true] A9x
theorem F5w (w:Fr) (N:Nat) (L:List Fr) (x:Fr) (i:Nat):C2 dB Try.f46 false 3000 (⟨B5 B3r,.normal,psS w N L x i⟩) [false] [64] []=(some ([((decide ((i:Int)<((N:Nat):Int)))=false)],((.ci (.slc 0 0 N 4)),[(.sq (.s L))]))):=by kernel_rfl
def otS (l:List Fr) (N:Nat) (L:List U4) (i:Nat):St:=A5 23 [3,9,10,11] [.v (.c (.slc 64 0 N 4)),(.ci (.sl (.s l))),.v (.c (.int .i64 (N:Int))),.v (.c (.int .i64 (i:Int)))] [64] [some (.sq (.fr L))] 144 [] []
theorem otN (l:List Fr) (N:Nat) (L:List U4) (i:Nat):let a:Int:=i;let b:Int:=(N:Nat);A3 [((decide (a<b))=true),(0<=a),(a<(l.length:Int)),(0<=a),(a<b),(0=0),((a).toNat<L.length)]->Sg Try.prog (otS l N L i) (A5 23 [3,9,10,11] [(.ci (.slc 64 0 N 4)),(.ci (.sl (.s l))),(.ii b),(.ii (wrap .i64 (a+1)))] [64] [(eQ_ (.fr (List.set L (a).toNat (S4.I8 (List.getD l (a).toNat 0)))))] 384 [] []) .normal (D5 B3k) (B5 B3k):=sgA false 3000 [true] A9x
theorem F5n (l:List Fr) (N:Nat) (L:List U4) (i:Nat):C2 dB Try.f29 false 3000 (⟨B5 B3k,.normal,otS l N L i⟩) [false] [64] []=(some ([((decide ((i:Int)<((N:Nat):Int)))=false)],((.ci (.slc 0 0 N 4)),[(.sq (.fr L))]))):=by kernel_rfl
end
end S4

namespace S4

/-- A row that is filled from its front. -/
theorem A3l {α:Type} (f:Nat->α) (z:α) {i N:Nat} (h:i<N):((List.range i).map f++List.replicate (N-i) z).set i (f i)=(List.range (i+1)).map f++List.replicate (N-(i+1)) z:=by
 rw[List.set_append_right _ _ (by simp)]
 have e:N-i=(N-(i+1))+1:=by omega
 rw[e,List.replicate_succ];simp [List.range_succ]

theorem A3k {α:Type} (f:Nat->α) (z:α) {i N:Nat} (h:i<=N):((List.range i).map f++List.replicate (N-i) z).length=N:=by
 simp
 omega

theorem A9a {α β:Type} (g:α->β) (l:List α) (d:α):(List.range l.length).map (fun i=>g (l.getD i d))=l.map g:=by
 apply List.ext_getElem
 ·simp
 ·intro i h1 h2
  simp at h1
  simp [List.getD,h1]


/-- How many coefficients are left of the first n, what is 0 at the end left out. -/
def A6i (l:List Fr):Nat->Nat
 | 0=>0
 | n+1=>if l.getD n 0=0 then A6i l n else n+1
def A2p (l:List Fr):List Fr:=l.take (A6i l l.length)

theorem D1t (l:List Fr):∀n,A6i l n<=n
 | 0=>Nat.le_refl _
 | n+1=>by
  show (if l.getD n 0=0 then A6i l n else n+1)<=n+1
  split
  ·exact Nat.le_succ_of_le (D1t l n)
  ·exact Nat.le_refl _

theorem E2o (l:List Fr):(A2p l).length=A6i l l.length:=by
 have:=D1t l l.length
 unfold A2p;rw[List.length_take];omega

theorem E4y (a:List U4) (hl0:a.length<=8796093022208):FnD Try.prog 51 [.v (.c (.sl (.fr a)))] (.v (.c (.slc 0 0 a.length 4))) [.sq (.s (a.map inF))]:=by
 refine F5 (fn:=Try.f51) (c:=B2 Try.f51) Try.func51 rfl rfl fun x a0 hk hF hs=>?_
 refine H0r a (by and_intros<;>first | trivial | decide | omega) hs fun ac cY aY hs1=>?_
 rw[Int.toNat_natCast] at hs1;refine C0 (ι:={ i:Nat // i<=a.length }) (fun i=>piS a a.length ((List.range i.1).map (fun i=>inF (a.getD i 0))++List.replicate (a.length-i.1) 0) i.1) (fun i=>a.length-i.1) (c:=lpC B3n) (k:=lpR B3n) (by kernel_rfl) (fun i ih ac cY aY hs=>?_) ⟨0,Nat.zero_le _⟩ hs1
 obtain ⟨i,hi⟩:=i;simp only at ih hs
 have hl:=A3k (fun i=>inF (a.getD i 0)) 0 hi
 by_cases h:i<a.length
 ·refine piN a a.length _ i ⟨by simp [h],by omega,by omega,by omega,by omega,rfl,by rw[hl];omega,trivial⟩ hs fun ac cY aY hs2=>?_
  rw[Int.toNat_natCast,A3l (fun i=>inF (a.getD i 0)) _ h,B0 (by omega) (by omega)] at hs2
  exact ih ⟨i+1,by omega⟩ (by show a.length-(i+1)<a.length-i;omega) ac cY aY (hs2.nx _)
 ·have e:i=a.length:=by omega
  rw[e,Nat.sub_self,List.replicate_zero,List.append_nil,A9a] at hs;exact C7 A3m hk hF (F5u a a.length _ a.length) ⟨by simp,trivial⟩ (fun y v hd=>hd) hs

theorem D5a {α β:Type} (g:α->β) (l:List α) (d:α) {n:Nat} (h:n<=l.length):(List.range n).map (fun i=>g (l.getD i d))=(l.take n).map g:=by
 apply List.ext_getElem
 ·simp;omega
 ·intro i h1 h2
  simp at h1
  simp [List.getD,show i<l.length from by omega]

theorem E3d (a:List Fr) (hl0:a.length<=8796093022208):FnD Try.prog 50 [.v (.c (.sl (.s a)))] (.v (.c (.slc 0 0 (A2p a).length 4))) [.sq (.fr ((A2p a).map I8))]:=by
 rw[E2o];refine F5 (fn:=Try.f50) (c:=B2 Try.f50) Try.func50 rfl rfl fun x a0 hk hF hs=>?_
 refine H0q a trivial hs fun ac cY aY hs1=>?_
 refine C0 (ι:={ n:Nat // n<=a.length∧A6i a n=A6i a a.length }) (fun n=>pbS a n.1) (fun n=>n.1) (c:=lpC A5r) (k:=lpR A5r) (by kernel_rfl) (fun n ih ac cY aY hs=>?_) ⟨a.length,Nat.le_refl _,rfl⟩ hs1
 obtain ⟨n,hn,he⟩:=n;simp only at ih hs
 -- from the second loop on
 have key:A6i a a.length=n->∀ac cY aY,Sim x.w x.F Z8 ac (pbT a n (List.replicate n 0) 0) cY aY->Wq Try.prog (A9r Try.prog Try.f50 x (.v (.c (.slc 0 0 (A6i a a.length) 4))) [.sq (.fr ((A2p a).map I8))]) B4t ac .normal aY cY.w:=by
  intro hN ac cY aY hs;have hs:Sim x.w x.F Z8 ac (pbT a n ((List.range 0).map (fun i=>I8 (a.getD i 0))++List.replicate (n-0) 0) 0) cY aY:=hs
  refine C0 (ι:={ i:Nat // i<=n }) (fun i=>pbT a n ((List.range i.1).map (fun i=>I8 (a.getD i 0))++List.replicate (n-i.1) 0) i.1) (fun i=>n-i.1) (c:=lpC B4t) (k:=lpR B4t) (by kernel_rfl) (fun i ih ac cY aY hs=>?_) ⟨0,Nat.zero_le _⟩ hs
  obtain ⟨i,hi⟩:=i;simp only at ih hs
  have hl:=A3k (fun i=>I8 (a.getD i 0)) 0 hi
  by_cases h:i<n
  ·refine pbM a n _ i ⟨by simp [h],by omega,by omega,by omega,by omega,rfl,by rw[hl];omega,trivial⟩ hs fun ac cY aY hs2=>?_
   rw[Int.toNat_natCast,A3l (fun i=>I8 (a.getD i 0)) _ h,B0 (by omega) (by omega)] at hs2
   exact ih ⟨i+1,by omega⟩ (by show n-(i+1)<n-i;omega) ac cY aY (hs2.nx _)
  ·have e:i=n:=by omega
   unfold A2p;rw[e,Nat.sub_self,List.replicate_zero,List.append_nil,D5a _ _ _ hn] at hs;rw[hN];exact C7 A3m hk hF (F5t a n _ n) ⟨by simp,trivial⟩ (fun y v hd=>hd) hs
 by_cases h0:n=0
 ·refine pbC a n (by and_intros<;>first | trivial | decide | omega | (simp only[decide_eq_false_iff_not];omega)) hs fun ac cY aY hs2=>?_
  rw[Int.toNat_natCast] at hs2;exact key (by rw[<-he,h0];rfl) ac cY aY (hs2.nx _)
 ·obtain ⟨m,rfl⟩:∃m,n=m+1:=⟨n-1,by omega⟩
  have hw:wrap IntKind.i64 (((m+1:Nat):Int)-1)=(m:Int):=by rw[B0 (by omega) (by omega)];omega
  have hT:A6i a (m+1)=if a.getD m 0=0 then A6i a m else m+1:=rfl
  by_cases hz:a.getD m 0=0
  ·refine pbN a (m+1) (by rw[hw];exact ⟨by simp only[decide_eq_true_eq];omega,by omega,by omega,by rw[Int.toNat_natCast,decide_eq_true hz],trivial⟩) hs fun ac cY aY hs2=>?_
   rw[hw] at hs2;exact ih ⟨m,by omega,by rw[<-he,hT,if_pos hz]⟩ (Nat.lt_succ_self m) ac cY aY (hs2.nx _)
  ·refine pbB a (m+1) (by rw[hw];exact ⟨by simp only[decide_eq_true_eq];omega,by omega,by omega,by rw[Int.toNat_natCast,decide_eq_false hz],by omega,rfl,by omega,by omega,trivial⟩) hs fun ac cY aY hs2=>?_
   rw[Int.toNat_natCast] at hs2;exact key (by rw[<-he,hT,if_neg hz]) ac cY aY (hs2.nx _)

end S4

namespace S4

def I4 (x:Fr):Nat->Fr
 | 0=>1
 | n+1=>I4 x n*x
theorem B1f (x:Fr) (m:Nat):∀n,I4 x (m+n)=I4 x m*I4 x n
 | 0=>(Fin.mul_one _).symm
 | n+1=>by
  show I4 x (m+n)*x=I4 x m*(I4 x n*x);rw[B1f x m n,Fin.mul_assoc]
def E9 (log:Int) (w:U4):Bool:=K0 log && decide (D2 log=w)
theorem D1d (log:Int) (w:U4):FnD Try.prog 24 [.v (.a [.int .i64 log,.ob (.fr w)])] (.v (.c (.bool (E9 log w)))) []:=by
 cases h:K0 log with
 | true=>
  refine (A7 A9x Try.func24 (rgA log w) (by rw[h];exact ⟨rfl,trivial⟩)).conv (fun _ _ h=>h) fun y v hd=>?_
  rw[h,if_pos rfl,if_pos rfl,beq_self_eq_true,Bool.true_and] at hd;unfold E9;rw[h,Bool.true_and];exact hd
 | false=>
  refine (A7 A9x Try.func24 (rgB log w) (by rw[h];exact ⟨rfl,trivial⟩)).conv (fun _ _ h=>h) fun y v hd=>?_
  unfold E9;rw[h,Bool.false_and];exact Z2 rfl hd
def A4k (w:Fr) (n:Nat):List Fr:=(List.range n).map (I4 w)
theorem D4w (w:Fr) (n:Nat) (hn:n<=8796093022208):FnD Try.prog 46 [.v (.a [.ob (.s w)]),.v (.c (.int .i64 (n:Int)))] (.v (.c (.slc 0 0 n 4))) [.sq (.s (A4k w n))]:=by
 refine F5 (fn:=Try.f46) (c:=B2 Try.f46) Try.func46 rfl rfl fun x a hk hF hs=>?_
 refine H1k w n (by and_intros<;>first | trivial | decide | omega) hs fun ac cY aY hs1=>?_
 rw[Int.toNat_natCast] at hs1;refine C0 (ι:={ i:Nat // i<=n }) (fun i=>psS w n ((List.range i.1).map (I4 w)++List.replicate (n-i.1) 0) (I4 w i.1) i.1) (fun i=>n-i.1) (c:=lpC B3r) (k:=lpR B3r) (by kernel_rfl) (fun i ih ac cY aY hs=>?_) ⟨0,Nat.zero_le _⟩ hs1
 obtain ⟨i,hi⟩:=i;simp only at ih hs
 have hl:=A3k (I4 w) 0 hi;by_cases h:i<n
 ·refine psN w n _ _ i ⟨by simp [h],by omega,by omega,rfl,by rw[hl];omega,trivial⟩ hs fun ac cY aY hs2=>?_
  rw[Int.toNat_natCast,A3l _ _ h,B0 (by omega) (by omega)] at hs2
  exact ih ⟨i+1,by omega⟩ (by show n-(i+1)<n-i;omega) ac cY aY (hs2.nx _)
 ·obtain rfl:i=n:=by omega
  rw[Nat.sub_self,List.replicate_zero,List.append_nil] at hs;exact C7 A9x hk hF (F5w w i _ _ i) ⟨by simp,trivial⟩ (fun y v hd=>hd) hs
theorem E1h (l:List Fr) (hl0:l.length<=8796093022208):FnD Try.prog 29 [.v (.c (.sl (.s l)))] (.v (.c (.slc 0 0 l.length 4))) [.sq (.fr (l.map I8))]:=by
 refine F5 (fn:=Try.f29) (c:=B2 Try.f29) Try.func29 rfl rfl fun x a hk hF hs=>?_
 refine H0p l (by and_intros<;>first | trivial | decide | omega) hs fun ac cY aY hs1=>?_
 rw[Int.toNat_natCast] at hs1;refine C0 (ι:={ i:Nat // i<=l.length }) (fun i=>otS l l.length ((List.range i.1).map (fun i=>I8 (l.getD i 0))++List.replicate (l.length-i.1) 0) i.1) (fun i=>l.length-i.1) (c:=lpC B3k) (k:=lpR B3k) (by kernel_rfl) (fun i ih ac cY aY hs=>?_) ⟨0,Nat.zero_le _⟩ hs1
 obtain ⟨i,hi⟩:=i;simp only at ih hs
 have hl:=A3k (fun i=>I8 (l.getD i 0)) 0 hi
 by_cases h:i<l.length
 ·refine otN l l.length _ i ⟨by simp [h],by omega,by omega,by omega,by omega,rfl,by rw[hl];omega,trivial⟩ hs fun ac cY aY hs2=>?_
  rw[Int.toNat_natCast,A3l (fun i=>I8 (l.getD i 0)) _ h,B0 (by omega) (by omega)] at hs2
  exact ih ⟨i+1,by omega⟩ (by show l.length-(i+1)<l.length-i;omega) ac cY aY (hs2.nx _)
 ·have e:i=l.length:=by omega
  rw[e,Nat.sub_self,List.replicate_zero,List.append_nil,A9a] at hs;exact C7 A9x hk hF (F5n l l.length _ l.length) ⟨by simp,trivial⟩ (fun y v hd=>hd) hs
theorem H2z (k:Nat) (h:k<=30):wrap IntKind.i64 ((1:Int)*((2:Int) ^ (Min.min ((wrap IntKind.u64 (k:Int))).toNat 64)))=((2 ^ k:Nat):Int)∧2 ^ k<=1073741824:=by
 have h2:(2:Nat) ^ k<=2 ^ 30:=Nat.pow_le_pow_right (by decide) h
 have h3:(2:Nat) ^ 30=1073741824:=by decide
 rw[A1x (by omega) (by omega),Int.toNat_natCast,Nat.min_eq_left (by omega),Int.one_mul]
 have e:((2:Int) ^ k)=((2 ^ k:Nat):Int):=by simp
 rw[e];generalize 2 ^ k=m at h2;rw[B0 (by omega) (by omega)]
 exact ⟨rfl,by omega⟩
theorem B8i (x:Fr):inF (I8 x)=x:=by
 apply Fin.ext
 show (I8 x).val % rN=x.val;rw[D0p,Nat.mod_eq_of_lt x.isLt]
end S4

namespace S4

def B7h:B7
 | [.v (.a [.int .i64 log,.ob (.fr w)])]=>some ([],.v (.c (.bool (E9 log w))),[])
 | _=>none
def dC1:Env:=dB.set (E8 dB.fn 24 B7h)
theorem F9d:A6 Try.prog dC1:=A9 A9x 24 B7h (A4 Try.func24 rfl rfl) fun args o r es h _=>by
 unfold B7h at h;split at h
 ·cases h;exact D1d _ _
 ·cases h
def A8x:B7
 | [.v (.a [.ob (.s w)]),.v (.c (.int .i64 n))]=>some ([0<=n,n<=8796093022208],.v (.c (.slc 0 0 n.toNat 4)),[.sq (.s (A4k w n.toNat))])
 | _=>none
def B3l:B7
 | [.v (.c (.sl (.s l)))]=>some ([l.length<=8796093022208],.v (.c (.slc 0 0 l.length 4)),[.sq (.fr (l.map I8))])
 | _=>none
def dC2:Env:=dC1.set (E8 dC1.fn 46 A8x)
theorem F9e:A6 Try.prog dC2:=A9 F9d 46 A8x (A4 Try.func46 rfl rfl) fun args o r es h ho=>by
 unfold A8x at h;split at h
 ·rename_i w n
  cases h
  obtain ⟨h0,h1,_⟩:=ho;obtain ⟨m,rfl⟩:=Int.eq_ofNat_of_zero_le h0;exact D4w w m (by omega)
 ·cases h
def dC:Env:=dC2.set (E8 dC2.fn 29 B3l)
theorem C8m:A6 Try.prog dC:=A9 F9e 29 B3l (A4 Try.func29 rfl rfl) fun args o r es h ho=>by
 unfold B3l at h;split at h
 ·cases h;exact E1h _ ho.1
 ·cases h
theorem elA (log:Int) (w:U4):C9 dC Try.f62 3000 [.v (.a [.int .i64 log,.ob (.fr w)])] [true] [] []=(some ([((Bool.not (S4.E9 log w))=true)],((.t [(.c (.val (Value.slice Option.none 0 0))),(.c (.int .i64 (40:Int)))]),[]))):=by kernel_rfl
theorem elB (log:Int) (w:U4):let b:=wrap .i64 ((1:Int)*((2:Int) ^ (Min.min (log).toNat 64)));let d:=S4.A4k (S4.inF w) (b).toNat;C9 dC Try.f62 3000 [.v (.a [.int .i64 log,.ob (.fr w)])] [false] [224] []=(some ([((Bool.not (S4.E9 log w))=false),(0<=log),(0<=b),(b<=(8796093022208:Int)),(0=0),((b).toNat=d.length),(4=4),(d.length<=8796093022208)],((.t [(.c (.slc 0 0 d.length 4)),(.c (.int .i64 (0:Int)))]),[(.sq (.fr (List.map S4.I8 d)))]))):=by intros;kernel_rfl
def A3h (log:Int) (w:U4):List U4:=if E9 log w then (A4k (inF w) (2 ^ log.toNat)).map I8 else []
theorem A0w {log:Int} {w:U4} (h:E9 log w=true):0<=log∧log<=16∧w=I8 (sqN A7p (32-log).toNat):=by
 simp only[E9,Bool.and_eq_true,decide_eq_true_eq] at h;obtain ⟨h1,h2⟩:=h;have h3:=h1;simp only[K0,Bool.and_eq_true,decide_eq_true_eq] at h1;refine ⟨h1.1,h1.2,?_⟩
 rw[<-h2];unfold D2;rw[if_pos h3]
theorem G3m {log:Int} (h0:0<=log) (h1:log<=30):wrap IntKind.i64 ((1:Int)*((2:Int) ^ (Min.min (log).toNat 64)))=((2 ^ log.toNat:Nat):Int)∧2 ^ log.toNat<=1073741824:=by
 obtain ⟨k,rfl⟩:=Int.eq_ofNat_of_zero_le h0;have h:=H2z k (by omega)
 rw[A1x (by omega) (by omega)] at h
 exact h
theorem A5t (w:Fr) (n:Nat):(A4k w n).length=n:=by simp [A4k]
theorem D9s (log:Int) (w:U4):FnD Try.prog 62 [.v (.a [.int .i64 log,.ob (.fr w)])] (.t [.c (.slc 0 0 (A3h log w).length 4),.c (.int .i64 (if E9 log w then 0 else 40))]) [.sq (.fr (A3h log w))]:=by
 cases h:E9 log w with
 | false=>
  have e:A3h log w=[]:=by unfold A3h;rw[h];rfl
  rw[e];exact (A7 C8m Try.func62 (elA log w) ⟨by rw[h];rfl,trivial⟩).nil2 rfl
 | true=>
  obtain ⟨h0,h1,_⟩:=A0w h;obtain ⟨e1,e2⟩:=G3m h0 (by omega)
  have e:A3h log w=(A4k (inF w) (2 ^ log.toNat)).map I8:=by unfold A3h;rw[h];rfl
  have r:=elB log w;dsimp only at r;rw[e1,Int.toNat_natCast,A5t] at r;rw[e,List.length_map,A5t];generalize hm:2 ^ log.toNat=m at r e2;exact A7 C8m Try.func62 r ⟨by rw[h];rfl,h0,by omega,by omega,rfl,rfl,rfl,by omega,trivial⟩
end S4

namespace S4

def B7k:B7
 | [.v (.a [.int .i64 log,.ob (.fr w)])]=>some ([],.t [.c (.slc 0 0 (A3h log w).length 4),.c (.int .i64 (if E9 log w then 0 else 40))],[.sq (.fr (A3h log w))])
 | _=>none
def dN:Env:=dC.set (E8 dC.fn 62 B7k)
theorem F8e:A6 Try.prog dN:=A9 C8m 62 B7k (A4 Try.func62 rfl rfl) fun args o r es h _=>by
 unfold B7k at h;split at h
 ·cases h;exact D9s _ _
 ·cases h
def smF (n:Int):U4:=I8 (Fin.ofNat rN n.toNat)
theorem smP (n:Int):let b:=wrap .u64 n;C9 dN Try.f18 3000 [.v (.c (.int .i64 n))] [false] [] []=(some ([((decide (n<(0:Int)))=false),(0<=b),(b<(18446744073709551616:Int))],((.v (.a [(.ob (.fr (S4.I8 (Fin.ofNat rN (b).toNat))))])),[]))):=by intros;kernel_rfl
theorem E2c (n:Int) (h0:0<=n) (h1:n<9223372036854775808):FnD Try.prog 18 [.v (.c (.int .i64 n))] (.v (.a [.ob (.fr (smF n))])) []:=by
 have r:=smP n;dsimp only at r;rw[A1x h0 (by omega)] at r
 exact A7 F8e Try.func18 r ⟨decide_eq_false (by omega),h0,by omega,trivial⟩
def C7i:B7
 | [.v (.c (.int .i64 n))]=>some ([0<=n,n<9223372036854775808],.v (.a [.ob (.fr (smF n))]),[])
 | _=>none
def dS:Env:=dN.set (E8 dN.fn 18 C7i)
theorem D6o:A6 Try.prog dS:=A9 F8e 18 C7i (A4 Try.func18 rfl rfl) fun args o r es h ho=>by
 unfold C7i at h;split at h
 ·cases h;exact E2c _ ho.1 ho.2.1
 ·cases h
def shF (w:Int):U4:=if w=0 then smF 1 else if w=1 then smF 7 else smF 49
theorem sh0 (_z:Nat):C9 dS Try.f63 3000 [.v (.c (.int .i64 0))] [true] [] []=(some ([(((0:Int)==0)=true),(0<=(1:Int)),((1:Int)<(9223372036854775808:Int))],((.v (.a [(.ob (.fr (S4.smF (1:Int))))])),[]))):=by kernel_rfl
theorem sh1 (_z:Nat):C9 dS Try.f63 3000 [.v (.c (.int .i64 1))] [false,true] [] []=(some ([(((1:Int)==0)=false),(((1:Int)==1)=true),(0<=(7:Int)),((7:Int)<(9223372036854775808:Int))],((.v (.a [(.ob (.fr (S4.smF (7:Int))))])),[]))):=by kernel_rfl
theorem sh2 (_z:Nat):let b:Int:=49;C9 dS Try.f63 3000 [.v (.c (.int .i64 2))] [false,false,true] [] []=(some ([(((2:Int)==0)=false),(((2:Int)==1)=false),(((2:Int)==2)=true),(0<=b),(b<(9223372036854775808:Int))],((.v (.a [(.ob (.fr (S4.smF b)))])),[]))):=by intros;kernel_rfl
theorem E2a (w:Int) (h0:0<=w) (h1:w<3):FnD Try.prog 63 [.v (.c (.int .i64 w))] (.v (.a [.ob (.fr (shF w))])) []:=by
 have h:w=0∨w=1∨w=2:=by omega
 rcases h with rfl | rfl | rfl
 ·exact A7 D6o Try.func63 (sh0 0) ⟨by decide,by decide,by decide,trivial⟩
 ·exact A7 D6o Try.func63 (sh1 0) ⟨by decide,by decide,by decide,by decide,trivial⟩
 ·exact A7 D6o Try.func63 (sh2 0) ⟨by decide,by decide,by decide,by decide,by decide,trivial⟩
def C7g:B7
 | [.v (.c (.int .i64 w))]=>some ([0<=w,w<3],.v (.a [.ob (.fr (shF w))]),[])
 | _=>none
def dT:Env:=dS.set (E8 dS.fn 63 C7g)
theorem A3f:A6 Try.prog dT:=A9 D6o 63 C7g (A4 Try.func63 rfl rfl) fun args o r es h ho=>by
 unfold C7g at h;split at h
 ·cases h;exact E2a _ ho.1 ho.2.1
 ·cases h
end S4

end
end Go.Proofs.Ytifiiigbedjceaa
