/- Parts of a proof, one behind the other: Ty, WMul, PMul, WRq, PRq, WTm, PTm, WRc, PRc, WPq, PPq, PPl, WIq, PIq, WPs, PPs, WPt, WSred, PSred, WStim, PStim, WSrdc, PSrdc. No conditions. -/
import Derived.Test.YtifiiigbedjceaaGreatProg
import Derived.Test.YtifiiigbedjceaaGreatTuK
open Go.IntKind (wrap)
namespace Go.Proofs.YtifiiigbedjceaaGreat
noncomputable section
section
def rZ{α:Type}:Nat->List α->List α
 | 0,_=>[]
 | n+1,l=>l++rZ n l
set_option maxRecDepth 10000 in
def EW:List (Nat×TyI):=[
 (2,⟨1,false,8,[.int .i64 0],[],none,none,(some .i64),none,[]⟩),
 (3,⟨1,false,8,[.int .i64 0],[],none,none,(some .i64),(some (.int [])),[true]⟩),
 (4,⟨1,false,1,[.lit false],[],none,none,none,none,[]⟩),
 (5,⟨1,false,1,[.int .u8 0],[],none,none,(some .u8),none,[]⟩),
 (19,⟨1,true,8,[.val (.pointer none)],[(0,1,false)],none,none,none,none,[]⟩),
 (21,⟨1,false,4,[.int .i32 0],[],none,none,(some .i32),none,[]⟩),
 (22,⟨1,false,24,[.val (.slice none 0 0)],[],none,(some 77),none,none,[]⟩),
 (23,⟨3,true,40,[.sl (.gate []),.int .i64 0,.int .i64 0],[(0,1,false),(1,1,false),(2,1,false)],none,none,none,none,[]⟩),
 (24,⟨3,true,40,[.sl (.gate []),.int .i64 0,.int .i64 0],[(0,1,false),(1,1,false),(2,1,false)],none,none,none,none,[]⟩),
 (25,⟨1,false,8,[.int .u64 0],[],none,none,(some .u64),(some (.u64 [])),[true]⟩),
 (26,⟨4,true,32,[.int .u64 0,.int .u64 0,.int .u64 0,.int .u64 0],[],(some (4,25)),none,none,none,[]⟩),
 (27,⟨4,true,32,[.ob (.fr 0)],[],(some (4,25)),none,none,(some (.fr [])),[]⟩),
 (28,⟨1,false,8,[.int .i64 0],[],none,none,(some .i64),none,[true]⟩),
 (32,⟨1,false,24,[.val (.slice none 0 0)],[],none,(some 47),none,none,[]⟩),
 (33,⟨6,true,48,[.int .u64 0,.int .u64 0,.int .u64 0,.int .u64 0,.int .u64 0,.int .u64 0],[],(some (6,25)),none,none,none,[]⟩),
 (34,⟨6,true,48,[.ob (.fp 0)],[],(some (6,25)),none,none,none,(rZ 6 [true])⟩),
 (35,⟨12,true,96,[.ob (.fp 0),.ob (.fp 0)],[(0,6,true),(6,6,true)],none,none,none,none,[]⟩),
 (36,⟨12,true,96,[.ob (.fp 0),.ob (.fp 0)],[(0,6,true),(6,6,true)],none,none,none,none,(rZ 12 [true])⟩),
 (37,⟨25,true,200,[.ob (.fp 0),.ob (.fp 0),.ob (.fp 0),.ob (.fp 0),.lit false],[(0,12,true),(12,12,true),(24,1,false)],none,none,none,none,[]⟩),
 (38,⟨25,true,200,[.ob (.fp 0),.ob (.fp 0),.ob (.fp 0),.ob (.fp 0),.lit false],[(0,12,true),(12,12,true),(24,1,false)],none,none,none,(some (.g2 [])),(rZ 24 [true]++[false])⟩),
 (39,⟨26,true,224,[.sl (.g1 []),.ob (.fp 0),.ob (.fp 0),.ob (.fp 0),.ob (.fp 0),.lit false],[(0,1,false),(1,25,true)],none,none,none,none,[]⟩),
 (40,⟨26,true,224,[.sl (.g1 []),.ob (.fp 0),.ob (.fp 0),.ob (.fp 0),.ob (.fp 0),.lit false],[(0,1,false),(1,25,true)],none,none,none,none,[]⟩),
 (43,⟨1,false,24,[.val (.slice none 0 0)],[],none,(some 27),none,(some (.frs [])),[]⟩),
 (44,⟨5,true,120,[.val (.slice none 0 0),.val (.slice none 0 0),.val (.slice none 0 0),.val (.slice none 0 0),.val (.slice none 0 0)],[],(some (5,43)),none,none,none,[]⟩),
 (45,⟨3,true,72,[.val (.slice none 0 0),.val (.slice none 0 0),.val (.slice none 0 0)],[],(some (3,43)),none,none,none,[]⟩),
 (46,⟨13,true,104,[.ob (.fp 0),.ob (.fp 0),.lit false],[(0,6,true),(6,6,true),(12,1,false)],none,none,none,none,[]⟩),
 (47,⟨13,true,104,[.ob (.fp 0),.ob (.fp 0),.lit false],[(0,6,true),(6,6,true),(12,1,false)],none,none,none,(some (.g1 [])),(rZ 12 [true]++[false])⟩),
 (48,⟨65,true,520,[.ob (.fp 0),.ob (.fp 0),.lit false,.ob (.fp 0),.ob (.fp 0),.lit false,.ob (.fp 0),.ob (.fp 0),.lit false,.ob (.fp 0),.ob (.fp 0),.lit false,.ob (.fp 0),.ob (.fp 0),.lit false],[],(some (5,47)),none,none,none,[]⟩),
 (49,⟨39,true,312,[.ob (.fp 0),.ob (.fp 0),.lit false,.ob (.fp 0),.ob (.fp 0),.lit false,.ob (.fp 0),.ob (.fp 0),.lit false],[],(some (3,47)),none,none,none,[]⟩),
 (50,⟨131,true,1048,[.int .i64 0,.int .i64 0,.ob (.fp 0),.ob (.fp 0),.lit false,.ob (.fp 0),.ob (.fp 0),.lit false,.ob (.fp 0),.ob (.fp 0),.lit false,.ob (.fp 0),.ob (.fp 0),.lit false,.ob (.fp 0),.ob (.fp 0),.lit false,.ob (.fp 0),.ob (.fp 0),.lit false,.ob (.fp 0),.ob (.fp 0),.lit false,.ob (.fp 0),.ob (.fp 0),.lit false,.ob (.fp 0),.ob (.fp 0),.ob (.fp 0),.ob (.fp 0),.lit false],[(0,1,false),(1,1,false),(2,65,true),(67,39,true),(106,25,true)],none,none,none,none,[]⟩),
 (51,⟨131,true,1048,[.int .i64 0,.int .i64 0,.ob (.fp 0),.ob (.fp 0),.lit false,.ob (.fp 0),.ob (.fp 0),.lit false,.ob (.fp 0),.ob (.fp 0),.lit false,.ob (.fp 0),.ob (.fp 0),.lit false,.ob (.fp 0),.ob (.fp 0),.lit false,.ob (.fp 0),.ob (.fp 0),.lit false,.ob (.fp 0),.ob (.fp 0),.lit false,.ob (.fp 0),.ob (.fp 0),.lit false,.ob (.fp 0),.ob (.fp 0),.ob (.fp 0),.ob (.fp 0),.lit false],[(0,1,false),(1,1,false),(2,65,true),(67,39,true),(106,25,true)],none,none,none,none,[]⟩),
 (52,⟨167,true,1480,[.int .i64 0,.int .i64 0,.val (.slice none 0 0),.val (.slice none 0 0),.val (.slice none 0 0),.val (.slice none 0 0),.val (.slice none 0 0),.val (.slice none 0 0),.val (.slice none 0 0),.val (.slice none 0 0),.sl (.g1 []),.ob (.fp 0),.ob (.fp 0),.ob (.fp 0),.ob (.fp 0),.lit false,.int .i64 0,.int .i64 0,.ob (.fp 0),.ob (.fp 0),.lit false,.ob (.fp 0),.ob (.fp 0),.lit false,.ob (.fp 0),.ob (.fp 0),.lit false,.ob (.fp 0),.ob (.fp 0),.lit false,.ob (.fp 0),.ob (.fp 0),.lit false,.ob (.fp 0),.ob (.fp 0),.lit false,.ob (.fp 0),.ob (.fp 0),.lit false,.ob (.fp 0),.ob (.fp 0),.lit false,.ob (.fp 0),.ob (.fp 0),.ob (.fp 0),.ob (.fp 0),.lit false],[(0,1,false),(1,1,false),(2,5,true),(7,3,true),(10,26,true),(36,131,true)],none,none,none,none,[]⟩),
 (53,⟨167,true,1480,[.int .i64 0,.int .i64 0,.val (.slice none 0 0),.val (.slice none 0 0),.val (.slice none 0 0),.val (.slice none 0 0),.val (.slice none 0 0),.val (.slice none 0 0),.val (.slice none 0 0),.val (.slice none 0 0),.sl (.g1 []),.ob (.fp 0),.ob (.fp 0),.ob (.fp 0),.ob (.fp 0),.lit false,.int .i64 0,.int .i64 0,.ob (.fp 0),.ob (.fp 0),.lit false,.ob (.fp 0),.ob (.fp 0),.lit false,.ob (.fp 0),.ob (.fp 0),.lit false,.ob (.fp 0),.ob (.fp 0),.lit false,.ob (.fp 0),.ob (.fp 0),.lit false,.ob (.fp 0),.ob (.fp 0),.lit false,.ob (.fp 0),.ob (.fp 0),.lit false,.ob (.fp 0),.ob (.fp 0),.lit false,.ob (.fp 0),.ob (.fp 0),.ob (.fp 0),.ob (.fp 0),.lit false],[(0,1,false),(1,1,false),(2,5,true),(7,3,true),(10,26,true),(36,131,true)],none,none,none,none,[]⟩),
 (56,⟨5,true,40,[.int .i64 0,.ob (.fr 0)],[(0,1,false),(1,4,true)],none,none,none,none,[]⟩),
 (57,⟨5,true,40,[.int .i64 0,.ob (.fr 0)],[(0,1,false),(1,4,true)],none,none,none,none,(rZ 5 [true])⟩),
 (75,⟨3,true,24,[.int .i64 0,.int .i64 0,.int .i64 0],[],(some (3,3)),none,none,none,[]⟩),
 (77,⟨23,true,184,[.ob (.fr 0),.ob (.fr 0),.ob (.fr 0),.ob (.fr 0),.ob (.fr 0),.int .i64 0,.int .i64 0,.int .i64 0],[(0,4,true),(4,4,true),(8,4,true),(12,4,true),(16,4,true),(20,3,true)],none,none,none,(some (.gate [])),[]⟩),
 (78,⟨20,true,160,[.ob (.fr 0),.ob (.fr 0),.ob (.fr 0),.ob (.fr 0),.ob (.fr 0)],[],(some (5,27)),none,none,none,[]⟩),
 (86,⟨4,true,32,[.ob (.s 0)],[],(some (4,25)),none,none,(some (.s [])),[true,true,true,true]⟩),
 (94,⟨1,false,24,[.val (.slice none 0 0)],[],none,(some 25),none,none,[]⟩),
 (97,⟨6,true,48,[.ob (.p 0)],[],(some (6,25)),none,none,none,(rZ 6 [true])⟩),
 (99,⟨18,true,144,[.ob (.p 0),.ob (.p 0),.ob (.p 0)],[(0,6,true),(6,6,true),(12,6,true)],none,none,none,(some (.pt [])),[]⟩),
 (104,⟨1,false,24,[.val (.slice none 0 0)],[],none,(some 3),none,(some (.ints [])),[]⟩),
 (107,⟨1,false,24,[.val (.slice none 0 0)],[],none,(some 144),none,none,[]⟩),
 (113,⟨12,true,96,[.ob (.p 0),.ob (.p 0)],[(0,6,true),(6,6,true)],none,none,none,none,(rZ 12 [true])⟩),
 (115,⟨36,true,288,[.ob (.p 0),.ob (.p 0),.ob (.p 0),.ob (.p 0),.ob (.p 0),.ob (.p 0)],[(0,12,true),(12,12,true),(24,12,true)],none,none,none,(some (.pt2 [])),[]⟩),
 (118,⟨1,false,24,[.val (.slice none 0 0)],[],none,(some 127),none,none,[]⟩),
 (119,⟨3,true,72,[.val (.slice none 0 0),.val (.slice none 0 0),.val (.slice none 0 0)],[],(some (3,118)),none,none,none,[]⟩),
 (122,⟨1,false,24,[.val (.slice none 0 0)],[],none,(some 86),none,none,[]⟩),
 (123,⟨3,true,72,[.val (.slice none 0 0),.val (.slice none 0 0),.val (.slice none 0 0)],[],(some (3,122)),none,none,none,[]⟩),
 (127,⟨2,true,16,[.int .i64 0,.int .i64 0],[(0,1,false),(1,1,false)],none,none,none,(some (.place [])),[]⟩),
 (144,⟨288,true,2304,(rZ 48 [.ob (.p 0)]),[],(some (16,99)),none,none,(some (.ptt [])),[]⟩),
 (156,⟨576,true,4608,(rZ 96 [.ob (.p 0)]),[],(some (16,115)),none,none,none,[]⟩),
 (160,⟨1,false,8,[.val (.map none)],[],none,none,none,none,[]⟩),
 (175,⟨1,false,24,[.val (.slice none 0 0)],[],none,(some 99),none,none,[]⟩),
 (177,⟨1,false,8,[.int .u64 0],[],none,none,(some .u64),none,[]⟩),
 (178,⟨10,true,80,[.int .u64 0,.int .u64 0,.int .u64 0,.int .u64 0,.int .u64 0,.int .u64 0,.int .u64 0,.int .u64 0,.int .u64 0,.int .u64 0],[],(some (10,25)),none,none,none,[]⟩),
 (190,⟨1,false,24,[.val (.slice none 0 0)],[],none,(some 104),none,none,[]⟩),
 (193,⟨8,true,64,[.int .u64 0,.int .u64 0,.int .u64 0,.int .u64 0,.int .u64 0,.int .u64 0,.int .u64 0,.int .u64 0],[],(some (8,25)),none,none,none,[]⟩),
 (197,⟨306,true,2448,(rZ 51 [.ob (.p 0)]),[],(some (17,99)),none,none,none,[]⟩),
 (198,⟨1,false,8,[.val (.pointer none)],[],none,none,none,none,[]⟩)]
theorem A2p:(EW.all fun r=>EV Tryz.prog r.1 r.2)=true:=by kernel_rfl
theorem mixed:Tryz.prog.follows .mixedOrders=true:=by kernel_rfl
def B4f(f:Nat):Option Func:=
 if f=40 then some Tryz.f40 else
 if f=41 then some Tryz.f41 else
 if f=42 then some Tryz.f42 else
 if f=43 then some Tryz.f43 else
 if f=85 then some Tryz.f85 else
 if f=82 then some Tryz.f82 else
 if f=73 then some Tryz.f73 else
 if f=74 then some Tryz.f74 else
 if f=63 then some Tryz.f63 else
 if f=71 then some Tryz.f71 else
 none
theorem D1y:∀f fn,B4f f=some fn->Tryz.prog.funcs[f]? = some fn∧Bl Tryz.prog f:=by
 intro f fn h;unfold B4f at h;split at h
 ·rename_i hf;cases h;subst hf;exact ⟨Tryz.func40,A2 Tryz.func40 rfl rfl⟩
 split at h
 ·rename_i hf;cases h;subst hf;exact ⟨Tryz.func41,A2 Tryz.func41 rfl rfl⟩
 split at h
 ·rename_i hf;cases h;subst hf;exact ⟨Tryz.func42,A2 Tryz.func42 rfl rfl⟩
 split at h
 ·rename_i hf;cases h;subst hf;exact ⟨Tryz.func43,A2 Tryz.func43 rfl rfl⟩
 split at h
 ·rename_i hf;cases h;subst hf;exact ⟨Tryz.func85,A2 Tryz.func85 rfl rfl⟩
 split at h
 ·rename_i hf;cases h;subst hf;exact ⟨Tryz.func82,A2 Tryz.func82 rfl rfl⟩
 split at h
 ·rename_i hf;cases h;subst hf;exact ⟨Tryz.func73,A2 Tryz.func73 rfl rfl⟩
 split at h
 ·rename_i hf;cases h;subst hf;exact ⟨Tryz.func74,A2 Tryz.func74 rfl rfl⟩
 split at h
 ·rename_i hf;cases h;subst hf;exact ⟨Tryz.func63,A2 Tryz.func63 rfl rfl⟩
 split at h
 ·rename_i hf;cases h;subst hf;exact ⟨Tryz.func71,A2 Tryz.func71 rfl rfl⟩
 cases h
def D1n(f:Nat):Option Nat:=
 if f=59 then some 0 else if f=64 then some 1 else none
theorem D8j:∀f k,D1n f=some k->∀(x y c:Int) (w:World),0<=x->0<=y->y<18446744073709551616->0<=c->c<=1 ->
  (callFunc f #[.int .u64 x,.int .u64 y,.int .u64 c]).run Tryz.prog w = .ok (.value (.tuple #[.int .u64 (A3 k x y c).1,.int .u64 (A3 k x y c).2])) w:=by
 intro f k h x y c w h1 h2 h3 h4 h5;unfold D1n at h;split at h
 ·rename_i hf;cases h;subst hf;exact D1o Tryz.func59 rfl rfl (by kernel_rfl) (by kernel_rfl) x y c w h1 h2 h4 h5
 split at h
 ·rename_i hf;cases h;subst hf;exact D1p Tryz.func64 rfl rfl (by kernel_rfl) (by kernel_rfl) x y c w h1 h2 h3 h4 h5
 cases h
def AC:D6:=⟨YT EW,fun _=>none,fun _=>none,B4f,D1n,fun _=>none⟩
theorem I1:A7 Tryz.prog AC:=
 ⟨fun t i h=>Bj EW A2p t i h,mixed,fun f s h=>(by cases h),fun f s h=>(by cases h),D1y,D8j,fun t l h=>(by cases h)⟩
end
section
theorem D3b(x y:Int):let b:Int:=4294967296;let d:Int:=4294967295;let f:=0<=(32:Int);let g:=E1 BinOp.and IntKind.u64 y d;let h:=E1 BinOp.and IntKind.u64 x d;let i:=Int.fdiv x b;let a:=wrap .u64 ((wrap .u64 (i*g))+(Int.fdiv (wrap .u64 (h*g)) b));let j:=Int.fdiv y b;C2 AC Tryz.f58 3000 [.v (.c (.int .u64 x)),.v (.c (.int .u64 y))] [] [] []=(some ([f,f,f,f,f],((.t [(.c (.int .u64 (wrap .u64 ((wrap .u64 ((wrap .u64 (i*j))+(Int.fdiv a b)))+(Int.fdiv (wrap .u64 ((E1 BinOp.and IntKind.u64 a d)+(wrap .u64 (h*j)))) b))))),(.c (.int .u64 (wrap .u64 (x*y))))]),[]))):=by intros;kernel_rfl
end
section
theorem Kz(n:Int):wrap IntKind.u64 n=n % 18446744073709551616:=rfl
theorem B1k{x:Int}(h:0<=x):E1 BinOp.and IntKind.u64 x (4294967295:Int)=x % 4294967296:=by
 obtain ⟨n,rfl⟩:=Int.eq_ofNat_of_zero_le h;show wrap IntKind.u64 ((BitVec.ofInt 64 (n:Int) &&& BitVec.ofInt 64 ((4294967295:Nat):Int)).toNat:Int)=_;rw[BitVec.ofInt_natCast,BitVec.ofInt_natCast,BitVec.toNat_and,BitVec.toNat_ofNat,BitVec.toNat_ofNat];have e:4294967295 % 2 ^ 64=2 ^ 32-1:=by decide
 rw[e,Nat.and_two_pow_sub_one_eq_mod,Kz];omega
theorem E0x(x:Int):Int.fdiv x 4294967296=x / 4294967296:=by
 exact Int.fdiv_eq_ediv_of_nonneg x A4
theorem A4w{a b:Int}(ha:0<=a)(ha1:a<4294967296)(hb:0<=b)(hb1:b<4294967296):0<=a*b∧a*b<=18446744065119617025:=by
 refine ⟨Int.mul_nonneg ha hb,?_⟩
 have:a*b<=4294967295*4294967295:=Int.mul_le_mul (by omega) (by omega) hb A4
 omega
theorem D1t{x y:Int}:x*y=(x / 4294967296)*(y / 4294967296)*18446744073709551616+((x / 4294967296)*(y % 4294967296)+(x % 4294967296)*(y / 4294967296))*4294967296+(x % 4294967296)*(y % 4294967296):=by
 have hx:x=4294967296*(x / 4294967296)+x % 4294967296:=(Int.mul_ediv_add_emod x 4294967296).symm;have hy:y=4294967296*(y / 4294967296)+y % 4294967296:=(Int.mul_ediv_add_emod y 4294967296).symm;generalize x / 4294967296=a at *;generalize x % 4294967296=b at *;generalize y / 4294967296=c at *;generalize y % 4294967296=d at *;subst hx hy;simp only[Int.add_mul,Int.mul_add];have e1:4294967296*a*(4294967296*c)=a*c*18446744073709551616:=by
  rw[Int.mul_assoc,Int.mul_left_comm a];omega
 have e2:4294967296*a*d=a*d*4294967296:=by rw[Int.mul_assoc];omega
 have e3:b*(4294967296*c)=b*c*4294967296:=by rw[Int.mul_left_comm];omega
 rw[e1,e2,e3];omega
theorem TE(x y:Int)(hx:0<=x)(hx1:x<18446744073709551616)(hy:0<=y)(hy1:y<18446744073709551616) :
  K2 Tryz.prog 58 [.v (.c (.int .u64 x)),.v (.c (.int .u64 y))] (.t [.c (.int .u64 (x*y / 18446744073709551616)),.c (.int .u64 (x*y % 18446744073709551616))]) []:=by
 refine (A6 I1 Tryz.func58 (D3b x y) (by simp [A5])).conv (fun _ _ h=>h) (fun z w hd=>?_)
 simp only[E0x] at hd;have hx2:0<=x / 4294967296∧x / 4294967296<4294967296:=by omega
 have hy2:0<=y / 4294967296∧y / 4294967296<4294967296:=by omega
 have hx3:0<=x % 4294967296∧x % 4294967296<4294967296:=by omega
 have hy3:0<=y % 4294967296∧y % 4294967296<4294967296:=by omega
 rw[B1k hx,B1k hy] at hd;have h:=D1t (x:=x) (y:=y);have m1:=A4w hx2.1 hx2.2 hy2.1 hy2.2;have m2:=A4w hx2.1 hx2.2 hy3.1 hy3.2;have m3:=A4w hx3.1 hx3.2 hy2.1 hy2.2;have m4:=A4w hx3.1 hx3.2 hy3.1 hy3.2;generalize x / 4294967296*(y / 4294967296)=d at *;generalize x / 4294967296*(y % 4294967296)=b at *;generalize x % 4294967296*(y / 4294967296)=c at *;generalize x % 4294967296*(y % 4294967296)=a at *;generalize x*y=n at *;simp only[Kz] at hd;rw[B1k (by omega)] at hd
 have e:(((d % 18446744073709551616+(b % 18446744073709551616+a % 18446744073709551616 / 4294967296) % 18446744073709551616 / 4294967296) % 18446744073709551616+((b % 18446744073709551616+a % 18446744073709551616 / 4294967296) % 18446744073709551616 % 4294967296+c % 18446744073709551616) % 18446744073709551616 / 4294967296) % 18446744073709551616)=n / 18446744073709551616:=by omega
 rw[e] at hd;exact hd
end
section
def AL:B2
 | [.v (.c (.int .u64 x)),.v (.c (.int .u64 y))]=>some ([0<=x,x<18446744073709551616,0<=y,y<18446744073709551616],.t [.c (.int .u64 (x*y / 18446744073709551616)),.c (.int .u64 (x*y % 18446744073709551616))],[])
 | _=>none
def qeA:D6:=AC.set (E0 AC.fn 58 AL)
theorem B9i:A7 Tryz.prog qeA:=
 A8 I1 58 AL (A2 Tryz.func58 rfl rfl) fun args o r es h ho=>by
  unfold AL at h;split at h
  ·cases h;exact TE _ _ ho.1 ho.2.1 ho.2.2.1 ho.2.2.2.1
  ·cases h
theorem D8e  : C2 qeA Tryz.f99 3000 [] [] [] []=(some ([(0<=(13402431016077863595:Int)),((13402431016077863595:Int)<(18446744073709551616:Int)),(0<=(2210141511517208575:Int)),((2210141511517208575:Int)<(18446744073709551616:Int)),(0<=(7435674573564081700:Int)),((7435674573564081700:Int)<(18446744073709551616:Int)),(0<=(7239337960414712511:Int)),((7239337960414712511:Int)<(18446744073709551616:Int)),(0<=(5412103778470702295:Int)),((5412103778470702295:Int)<(18446744073709551616:Int)),(0<=(1873798617647539866:Int)),((1873798617647539866:Int)<(18446744073709551616:Int))],((.v (.a [(.ob (.fp (Fin.ofNat B6 4002409555221667393417789825735904156556882819939007885332058136124031650490837864442687629129015664037894272559787)))])),[]))):=by kernel_rfl
def pU:U6:=Fin.ofNat B6 pN
def KN:B2
 | []=>some ([],.v (.a [.ob (.fp pU)]),[])
 | _=>none
theorem A7n:K2 Tryz.prog 99 [] (.v (.a [.ob (.fp pU)])) []:=
 (A6 B9i Tryz.func99 D8e (by simp [A5])).conv (fun _ _ h=>h) fun y v hd=>by
  have e:pU=Fin.ofNat B6 4002409555221667393417789825735904156556882819939007885332058136124031650490837864442687629129015664037894272559787:=by kernel_rfl
  rw[e];exact hd
def qeB:D6:=qeA.set (E0 qeA.fn 99 KN)
theorem A1i:A7 Tryz.prog qeB:=
 A8 B9i 99 KN (A2 Tryz.func99 rfl rfl) fun args o r es h ho=>by
  unfold KN at h;split at h
  ·cases h;exact A7n
  ·cases h
theorem D5o(a b c d e f:Int):let j:Int:=6;let l:Int:=18446744073709551616;let m:Int:=2210141511517208575;let n:Int:=13402431016077863595;let o:Int:=1;let p:Int:=1873798617647539866;let q:Int:=7435674573564081700;let r:Int:=5412103778470702295;let s:Int:=7239337960414712511;let u:Int:=0;let i:=Prod.snd (A3 1 a n u);let t:=Prod.snd (A3 1 b m i);let g:=A3 1 c q t;let w:Int:=2;let x:Int:=3;let y:Int:=4;let z:Int:=5;let C:=Prod.snd g;let k:=A3 1 d s C;let B:=Prod.snd k;let h:=A3 1 e r B;let A:=Prod.snd h;C2 qeB Tryz.f111 3000 [.v (.a [.int .u64 a,.int .u64 b,.int .u64 c,.int .u64 d,.int .u64 e,.int .u64 f])] [true,true,true,true,true,true,false,true] [] []=(some ([((decide (0<j))=true),(0<=u),(0<j),(0<=u),(0<j),(0<6),(0<=a),(0<=n),(n<l),(0<=u),(0<=o),(0<=u),(0<j),((decide (o<j))=true),(0<=o),(o<j),(0<=o),(o<j),(1<6),(0<=b),(0<=m),(m<l),(0<=i),(i<=o),(0<=o),(o<j),((decide (w<j))=true),(0<=w),(w<j),(0<=w),(w<j),(2<6),(0<=c),(0<=q),(q<l),(0<=t),(t<=o),(0<=w),(w<j),((decide (x<j))=true),(0<=x),(x<j),(0<=x),(x<j),(3<6),(0<=d),(0<=s),(s<l),(0<=C),(C<=o),(0<=x),(x<j),((decide (y<j))=true),(0<=y),(y<j),(0<=y),(y<j),(4<6),(0<=e),(0<=r),(r<l),(0<=B),(B<=o),(0<=y),(y<j),((decide (z<j))=true),(0<=z),(z<j),(0<=z),(z<j),(5<6),(0<=f),(0<=p),(p<l),(0<=A),(A<=o),(0<=z),(z<j),((decide (j<j))=false),(((Prod.snd (A3 1 f p A)) == u)=true)],((.v (.a [(.int .u64 (Prod.fst (A3 1 a n u))),(.int .u64 (Prod.fst (A3 1 b m i))),(.int .u64 (Prod.fst g)),(.int .u64 (Prod.fst k)),(.int .u64 (Prod.fst h)),(.int .u64 (Prod.fst (A3 1 f p A)))])),[]))):=by intros;kernel_rfl
theorem D5p(a b c d e f:Int):let j:Int:=6;let k:Int:=18446744073709551616;let l:Int:=2210141511517208575;let m:Int:=5412103778470702295;let n:Int:=1;let o:Int:=13402431016077863595;let p:Int:=7435674573564081700;let q:Int:=7239337960414712511;let r:Int:=1873798617647539866;let u:Int:=2;let w:Int:=3;let x:Int:=4;let y:Int:=5;let z:Int:=0;let h:=Prod.snd (A3 1 a o z);let s:=Prod.snd (A3 1 b l h);let g:=Prod.snd (A3 1 c p s);let i:=Prod.snd (A3 1 d q g);let t:=Prod.snd (A3 1 e m i);C2 qeB Tryz.f111 3000 [.v (.a [.int .u64 a,.int .u64 b,.int .u64 c,.int .u64 d,.int .u64 e,.int .u64 f])] [true,true,true,true,true,true,false,false] [] []=(some ([((decide (0<j))=true),(0<=z),(0<j),(0<=z),(0<j),(0<6),(0<=a),(0<=o),(o<k),(0<=z),(0<=n),(0<=z),(0<j),((decide (n<j))=true),(0<=n),(n<j),(0<=n),(n<j),(1<6),(0<=b),(0<=l),(l<k),(0<=h),(h<=n),(0<=n),(n<j),((decide (u<j))=true),(0<=u),(u<j),(0<=u),(u<j),(2<6),(0<=c),(0<=p),(p<k),(0<=s),(s<=n),(0<=u),(u<j),((decide (w<j))=true),(0<=w),(w<j),(0<=w),(w<j),(3<6),(0<=d),(0<=q),(q<k),(0<=g),(g<=n),(0<=w),(w<j),((decide (x<j))=true),(0<=x),(x<j),(0<=x),(x<j),(4<6),(0<=e),(0<=m),(m<k),(0<=i),(i<=n),(0<=x),(x<j),((decide (y<j))=true),(0<=y),(y<j),(0<=y),(y<j),(5<6),(0<=f),(0<=r),(r<k),(0<=t),(t<=n),(0<=y),(y<j),((decide (j<j))=false),(((Prod.snd (A3 1 f r t)) == z)=false)],((.v (.a [(.int .u64 a),(.int .u64 b),(.int .u64 c),(.int .u64 d),(.int .u64 e),(.int .u64 f)])),[]))):=by intros;kernel_rfl
end
section
def ER:B2
 | [.v (.a [.int .u64 a,.int .u64 b,.int .u64 c,.int .u64 d,.int .u64 e,.int .u64 f])]=>some ([0<=a,a<18446744073709551616,0<=b,b<18446744073709551616,0<=c,c<18446744073709551616,0<=d,d<18446744073709551616,0<=e,e<18446744073709551616,0<=f,f<18446744073709551616,I0 a b c d e f<2*pN],.v (.a [.ob (.p (Nv (I0 a b c d e f).toNat))]),[])
 | _=>none
theorem E0u{N:Int}(h0:0<=N)(h1:(pN:Int)<=N)(h2:N<2*pN):((Ob.p (Nv N.toNat)).n:Int)=N-pN:=by
 have e:(Ob.p (Nv N.toNat)).n=N.toNat-pN:=by
  rw[B9n];have k1:pN<=N.toNat:=by omega
  have k2:N.toNat<2*pN:=by omega
  rw[Nat.mod_eq_sub_mod k1,Nat.mod_eq_of_lt (by omega)]
 rw[e];omega
theorem E0v{N:Int}(h0:0<=N)(h1:N<(pN:Int)):((Ob.p (Nv N.toNat)).n:Int)=N:=by
 have e:(Ob.p (Nv N.toNat)).n=N.toNat:=by
  rw[B9n];exact Nat.mod_eq_of_lt (by omega)
 rw[e];omega
theorem Ci:(pN:Int)=4002409555221667393417789825735904156556882819939007885332058136124031650490837864442687629129015664037894272559787:=rfl
theorem Ao{a b c d e f:Int}(ha:0<=a)(hb:0<=b)(hc:0<=c)(hd:0<=d)(he:0<=e)(hf:0<=f):0<=I0 a b c d e f:=by unfold I0;omega
theorem D0c{a b c d e f:Int}{o1 v1 o2 v2 o3 v3 o4 v4 o5 v5 o6 v6:Int}(e1:o1=a-13402431016077863595-0+18446744073709551616*v1)(e2:o2=b-2210141511517208575-v1+18446744073709551616*v2)(e3:o3=c-7435674573564081700-v2+18446744073709551616*v3)(e4:o4=d-7239337960414712511-v3+18446744073709551616*v4)(e5:o5=e-5412103778470702295-v4+18446744073709551616*v5)(e6:o6=f-1873798617647539866-v5+18446744073709551616*v6) :
  I0 o1 o2 o3 o4 o5 o6=I0 a b c d e f-pN+39402006196394479212279040100143613805079739270465446667948293404245721771497210611414266254884915640806627990306816*v6:=by
 rw[Ci];unfold I0;omega
theorem lt6{a b c d e f:Int}(ha:0<=a)(ha1:a<18446744073709551616)(hb:0<=b)(hb1:b<18446744073709551616)(hc:0<=c)(hc1:c<18446744073709551616)(hd:0<=d)(hd1:d<18446744073709551616)(he:0<=e)(he1:e<18446744073709551616)(hf:0<=f)(hf1:f<18446744073709551616):I0 a b c d e f<39402006196394479212279040100143613805079739270465446667948293404245721771497210611414266254884915640806627990306816:=by
 unfold I0;omega
theorem VX(a b c d e f:Int)(ha:0<=a)(ha1:a<18446744073709551616)(hb:0<=b)(hb1:b<18446744073709551616)(hc:0<=c)(hc1:c<18446744073709551616)(hd:0<=d)(hd1:d<18446744073709551616)(he:0<=e)(he1:e<18446744073709551616)(hf:0<=f)(hf1:f<18446744073709551616)(hn:I0 a b c d e f<2*pN) :
  K2 Tryz.prog 111 [.v (.a [.int .u64 a,.int .u64 b,.int .u64 c,.int .u64 d,.int .u64 e,.int .u64 f])] (.v (.a [.ob (.p (Nv (I0 a b c d e f).toNat))])) []:=by
 have r0:=D5o a b c d e f;dsimp only at r0;have r1:=D5p a b c d e f;dsimp only at r1;obtain ⟨e1,o1,o1',c1,c1'⟩:=F6 (y:=13402431016077863595) (c:=0) ha ha1 A4 A4 A4 A4;obtain ⟨e2,o2,o2',c2,c2'⟩:=F6 (y:=2210141511517208575) hb hb1 A4 A4 c1 c1';obtain ⟨e3,o3,o3',c3,c3'⟩:=F6 (y:=7435674573564081700) hc hc1 A4 A4 c2 c2';obtain ⟨e4,o4,o4',c4,c4'⟩:=F6 (y:=7239337960414712511) hd hd1 A4 A4 c3 c3';obtain ⟨e5,o5,o5',c5,c5'⟩:=F6 (y:=5412103778470702295) he he1 A4 A4 c4 c4';obtain ⟨e6,o6,o6',c6,c6'⟩:=F6 (y:=1873798617647539866) hf hf1 A4 A4 c5 c5';generalize hx1:A3 1 a 13402431016077863595 0=x1 at *;generalize hx2:A3 1 b 2210141511517208575 x1.2=x2 at *;generalize hx3:A3 1 c 7435674573564081700 x2.2=x3 at *;generalize hx4:A3 1 d 7239337960414712511 x3.2=x4 at *;generalize hx5:A3 1 e 5412103778470702295 x4.2=x5 at *;generalize hx6:A3 1 f 1873798617647539866 x5.2=x6 at *;clear hx1 hx2 hx3 hx4 hx5 hx6;have hnn:=Ao ha hb hc hd he hf;have hD:=D0c e1 e2 e3 e4 e5 e6;have hO:=lt6 o1 o1' o2 o2' o3 o3' o4 o4' o5 o5' o6 o6';have hO0:=Ao o1 o2 o3 o4 o5 o6;have hp:=Ci;by_cases hz:x6.2=0
 ·refine (A6 A1i Tryz.func111 r0 ?_).conv (fun _ _ h=>h) fun y v hv=>FL rfl ?_ hv
  ·clear hD hO hO0 hn hnn e1 e2 e3 e4 e5 e6
   simp only[A5,and_true,decide_eq_true_eq,decide_eq_false_iff_not,beq_iff_eq];and_intros<;>first | assumption | decide | omega
  ·refine AI o1 o1' o2 o2' o3 o3' o4 o4' o5 o5' o6 o6' ?_
   rw[hz,Int.mul_zero,Int.add_zero] at hD;rw[hD];exact E0u hnn (by omega) hn
 ·refine (A6 A1i Tryz.func111 r1 ?_).conv (fun _ _ h=>h) fun y v hv=>FL rfl ?_ hv
  ·clear hD hO hO0 hn hnn e1 e2 e3 e4 e5 e6
   simp only[A5,and_true,decide_eq_true_eq,decide_eq_false_iff_not,beq_eq_false_iff_ne];and_intros<;>first | assumption | decide | omega
  ·refine AI ha ha1 hb hb1 hc hc1 hd hd1 he he1 hf hf1 ?_
   have:x6.2=1:=by omega
   rw[this] at hD;exact E0v hnn (by omega)
end
section
section
variable {w0:World} {F0:Nat->Prop} {K:Kp} {ac:List Act} {Q:Exit->Act->World->Prop} {cX:C0} {aX:Act}
def qeC:D6:=qeB.set (E0 qeB.fn 111 ER)
theorem Cj:A7 Tryz.prog qeC:=
 A8 A1i 111 ER (A2 Tryz.func111 rfl rfl) fun args o r es h ho=>by
  unfold ER at h;split at h
  ·cases h
   obtain ⟨h1,h2,h3,h4,h5,h6,h7,h8,h9,h10,h11,h12,h13,_⟩:=ho;exact VX _ _ _ _ _ _ h1 h2 h3 h4 h5 h6 h7 h8 h9 h10 h11 h12 h13
  ·cases h
def mc0(x y:Fp):G5:=⟨[.code (B5 Tryz.f97)],.normal,D2 Tryz.f97.ntmps [.v (.a [.ob (.p x)]),.v (.a [.ob (.p y)])]⟩
def Ju:List KI:=(run qeC false 3000 (mc0 dF dF:G5) []).cfg.k
theorem mIn(x y:Fp):let b:Int:=0;let c:=(mc0 x y:G5);(A5 [])->(Sim w0 F0 K ac (c.σ) cX aX)->(∀ac cY aY,Sim w0 F0 K ac (B0 308 [3,4,5,6,7,8,9,10,20,21] [.pt 32 0,.pt 48 0,.iu b,.iu b,.iu b,.iu b,.iu b,.iu b,(.v (.a [.ob (.p x)])),.ii b] [32,48] [(B9 [.ob (.p y)]),(B9 [(.ob (.p (0:Fp)))])] 192 [] []) cY aY->Wq Tryz.prog Q (Ju) ac Exit.normal aY cY.w)->Wq Tryz.prog Q (c.k) ac c.x aX cX.w:=fun ho hs hK=>
 DN (unroll:=false) (n:=3000) (path:=[]) (o:=⟨_,_,_,_,_,_,_⟩) Cj (by kernel_rfl) (by kernel_rfl) ho hs hK
def mS(x y:Fp)(i:Nat)(t0 t1 t2 t3 t4 t5 :Int):St:=B0 308 [3,4,5,6,7,8,9,10,20,21] [.pt 32 0,.pt 48 0,.v (.c (.int .u64 t0)),.v (.c (.int .u64 t1)),.v (.c (.int .u64 t2)),.v (.c (.int .u64 t3)),.v (.c (.int .u64 t4)),.v (.c (.int .u64 t5)),(.v (.a [.ob (.p x)])),.v (.c (.int .i64 (i:Int)))] [32,48] [(B9 [.ob (.p y)]),(B9 [(.ob (.p (0:Fp)))])] 192 [] []
theorem D2w(x y:Fp)(i:Nat)(t0 t1 t2 t3 t4 t5:Int):let b:Int:=18446744073709551616;let c:=I0 t0 t1 t2 t3 t4 t5;E2 qeC Tryz.f97 false 3000 (⟨B7 Ju,.normal,mS x y i t0 t1 t2 t3 t4 t5⟩) [false] [] []=(some ([((decide ((i:Int)<(6:Int)))=false),(0<=t0),(t0<b),(0<=t1),(t1<b),(0<=t2),(t2<b),(0<=t3),(t3<b),(0<=t4),(t4<b),(0<=t5),(t5<b),(c<(8004819110443334786835579651471808313113765639878015770664116272248063300981675728885375258258031328075788545119574:Int))],((.v (.a [(.ob (.p (Nv (c).toNat)))])),[]))):=by intros;kernel_rfl
def mS1(x y:Fp)(i:Nat)(t1 t2 t3 t4 t5 xi q up dn :Int):St:=B0 308 [3,4,6,7,8,9,10,12,16,17,19,20,21] [.pt 32 0,.pt 48 0,.iu t1,.iu t2,.iu t3,.iu t4,.iu t5,.v (.c (.int .u64 xi)),.v (.c (.int .u64 up)),.v (.c (.int .u64 q)),.v (.c (.int .u64 dn)),(.v (.a [.ob (.p x)])),(.ii (i:Int))] [32,48] [(B9 [.ob (.p y)]),(B9 [(.ob (.p (0:Fp)))])] 912 [] []
def B5e:List KI:=(run qeC false 77 (⟨B7 Ju,.normal,mS dF dF dF dF dF dF dF dF dF⟩:G5) [true]).cfg.k
theorem mA(x y:Fp)(i:Nat)(t0 t1 t2 t3 t4 t5:Int){w0:World}{F0:Nat->Prop}{K:Kp}{ac:List Act}{Q:Exit->Act->World->Prop}{cX:C0}{aX:Act}(ho:A5 [((decide ((i:Int)<(6:Int)))=true),(0<=(i:Int)),((i:Int)<(6:Int)),(0<=(0:Int)),(0<(6:Int)),(0<(Ob.k (.p y))),(0<=(A1 (Ob.n (.p x)) ((i:Int)).toNat)),((A1 (Ob.n (.p x)) ((i:Int)).toNat)<(18446744073709551616:Int)),(0<=(A1 (Ob.n (.p y)) 0)),((A1 (Ob.n (.p y)) 0)<(18446744073709551616:Int)),(0<=(((A1 (Ob.n (.p x)) ((i:Int)).toNat)*(A1 (Ob.n (.p y)) 0)) % (18446744073709551616:Int))),(0<=t0),(t0<(18446744073709551616:Int)),(0<=(0:Int)),(0<=(1:Int)),(0<=(wrap .u64 ((Prod.fst (A3 0 (((A1 (Ob.n (.p x)) ((i:Int)).toNat)*(A1 (Ob.n (.p y)) 0)) % (18446744073709551616:Int)) t0 (0:Int)))*(9940570264628428797:Int)))),((wrap .u64 ((Prod.fst (A3 0 (((A1 (Ob.n (.p x)) ((i:Int)).toNat)*(A1 (Ob.n (.p y)) 0)) % (18446744073709551616:Int)) t0 (0:Int)))*(9940570264628428797:Int)))<(18446744073709551616:Int)),(0<=(13402431016077863595:Int)),((13402431016077863595:Int)<(18446744073709551616:Int)),(0<=(((wrap .u64 ((Prod.fst (A3 0 (((A1 (Ob.n (.p x)) ((i:Int)).toNat)*(A1 (Ob.n (.p y)) 0)) % (18446744073709551616:Int)) t0 (0:Int)))*(9940570264628428797:Int)))*(13402431016077863595:Int)) % (18446744073709551616:Int))),(0<=(Prod.fst (A3 0 (((A1 (Ob.n (.p x)) ((i:Int)).toNat)*(A1 (Ob.n (.p y)) 0)) % (18446744073709551616:Int)) t0 (0:Int)))),((Prod.fst (A3 0 (((A1 (Ob.n (.p x)) ((i:Int)).toNat)*(A1 (Ob.n (.p y)) 0)) % (18446744073709551616:Int)) t0 (0:Int)))<(18446744073709551616:Int)),(0<=(0:Int)),(0<=(1:Int))])(hs:Sim w0 F0 K ac (mS x y i t0 t1 t2 t3 t4 t5) cX aX)(hK:∀ac cY aY,Sim w0 F0 K ac (mS1 x y i t1 t2 t3 t4 t5 (A1 (Ob.n (.p x)) ((i:Int)).toNat) (wrap .u64 ((Prod.fst (A3 0 (((A1 (Ob.n (.p x)) ((i:Int)).toNat)*(A1 (Ob.n (.p y)) 0)) % (18446744073709551616:Int)) t0 (0:Int)))*(9940570264628428797:Int))) (wrap .u64 ((((A1 (Ob.n (.p x)) ((i:Int)).toNat)*(A1 (Ob.n (.p y)) 0)) / (18446744073709551616:Int))+(Prod.snd (A3 0 (((A1 (Ob.n (.p x)) ((i:Int)).toNat)*(A1 (Ob.n (.p y)) 0)) % (18446744073709551616:Int)) t0 (0:Int))))) (wrap .u64 ((((wrap .u64 ((Prod.fst (A3 0 (((A1 (Ob.n (.p x)) ((i:Int)).toNat)*(A1 (Ob.n (.p y)) 0)) % (18446744073709551616:Int)) t0 (0:Int)))*(9940570264628428797:Int)))*(13402431016077863595:Int)) / (18446744073709551616:Int))+(Prod.snd (A3 0 (((wrap .u64 ((Prod.fst (A3 0 (((A1 (Ob.n (.p x)) ((i:Int)).toNat)*(A1 (Ob.n (.p y)) 0)) % (18446744073709551616:Int)) t0 (0:Int)))*(9940570264628428797:Int)))*(13402431016077863595:Int)) % (18446744073709551616:Int)) (Prod.fst (A3 0 (((A1 (Ob.n (.p x)) ((i:Int)).toNat)*(A1 (Ob.n (.p y)) 0)) % (18446744073709551616:Int)) t0 (0:Int))) (0:Int)))))) cY aY->Wq Tryz.prog Q (B5e) ac Exit.normal aY cY.w):Wq Tryz.prog Q (B7 Ju) ac .normal aX cX.w:=
 JZ (unroll:=false) (n:=77) (path:=[true]) (o:=⟨_,_,_,_,_,_,_⟩) Cj (by kernel_rfl) (by kernel_rfl) ho hs hK
def mS2(x y:Fp)(i:Nat)(n0 t2 t3 t4 t5 xi q up dn :Int):St:=B0 308 [3,4,5,7,8,9,10,12,16,17,19,20,21] [.pt 32 0,.pt 48 0,.v (.c (.int .u64 n0)),.iu t2,.iu t3,.iu t4,.iu t5,.iu xi,.v (.c (.int .u64 up)),.iu q,.v (.c (.int .u64 dn)),(.v (.a [.ob (.p x)])),(.ii (i:Int))] [32,48] [(B9 [.ob (.p y)]),(B9 [(.ob (.p (0:Fp)))])] 1936 [] []
def B5f:List KI:=(run qeC false 94 (⟨B5e,.normal,mS1 dF dF dF dF dF dF dF dF dF dF dF dF⟩:G5) []).cfg.k
theorem mB(x y:Fp)(i:Nat)(t1 t2 t3 t4 t5 xi q up dn:Int):let b:Int:=18446744073709551616;let d:=A1 (Ob.n (.p y)) 1;let f:Int:=2210141511517208575;let g:Int:=0;let h:=A3 0 ((xi*d) % b) t1 g;let a:=A3 0 (Prod.fst h) up g;let j:=0<=(1:Int);let m:=Prod.fst a;let c:=A3 0 ((q*f) % b) m g;let l:=A3 0 (Prod.fst c) dn g;A5 [j,((1:Int)<(6:Int)),(1<(Ob.k (.p y))),(0<=xi),(xi<b),(0<=d),(d<b),(0<=((xi*d) % b)),(0<=t1),(t1<b),(0<=g),j,(0<=(Prod.fst h)),(0<=up),(up<b),(0<=g),j,(0<=q),(q<b),(0<=f),(f<b),(0<=((q*f) % b)),(0<=m),(m<b),(0<=g),j,(0<=(Prod.fst c)),(0<=dn),(dn<b),(0<=g),j]->Sg Tryz.prog (mS1 x y i t1 t2 t3 t4 t5 xi q up dn) (mS2 x y i (Prod.fst l) t2 t3 t4 t5 xi q (wrap .u64 ((wrap .u64 (((xi*d) / b)+(Prod.snd h)))+(Prod.snd a))) (wrap .u64 ((wrap .u64 (((q*f) / b)+(Prod.snd c)))+(Prod.snd l)))) .normal (B5f) (B5e):=E4 false 94 [] Cj
def mS3(x y:Fp)(i:Nat)(n0 n1 t3 t4 t5 xi q up dn :Int):St:=B0 308 [3,4,5,6,8,9,10,12,16,17,19,20,21] [.pt 32 0,.pt 48 0,.iu n0,.v (.c (.int .u64 n1)),.iu t3,.iu t4,.iu t5,.iu xi,.v (.c (.int .u64 up)),.iu q,.v (.c (.int .u64 dn)),(.v (.a [.ob (.p x)])),(.ii (i:Int))] [32,48] [(B9 [.ob (.p y)]),(B9 [(.ob (.p (0:Fp)))])] 2960 [] []
def B5g:List KI:=(run qeC false 94 (⟨B5f,.normal,mS2 dF dF dF dF dF dF dF dF dF dF dF dF⟩:G5) []).cfg.k
theorem mC(x y:Fp)(i:Nat)(n0 t2 t3 t4 t5 xi q up dn:Int):let b:Int:=18446744073709551616;let d:=A1 (Ob.n (.p y)) 2;let f:Int:=7435674573564081700;let g:Int:=0;let h:=A3 0 ((xi*d) % b) t2 g;let a:=A3 0 (Prod.fst h) up g;let j:=0<=(1:Int);let m:=Prod.fst a;let c:=A3 0 ((q*f) % b) m g;let l:=A3 0 (Prod.fst c) dn g;A5 [(0<=(2:Int)),((2:Int)<(6:Int)),(2<(Ob.k (.p y))),(0<=xi),(xi<b),(0<=d),(d<b),(0<=((xi*d) % b)),(0<=t2),(t2<b),(0<=g),j,(0<=(Prod.fst h)),(0<=up),(up<b),(0<=g),j,(0<=q),(q<b),(0<=f),(f<b),(0<=((q*f) % b)),(0<=m),(m<b),(0<=g),j,(0<=(Prod.fst c)),(0<=dn),(dn<b),(0<=g),j]->Sg Tryz.prog (mS2 x y i n0 t2 t3 t4 t5 xi q up dn) (mS3 x y i n0 (Prod.fst l) t3 t4 t5 xi q (wrap .u64 ((wrap .u64 (((xi*d) / b)+(Prod.snd h)))+(Prod.snd a))) (wrap .u64 ((wrap .u64 (((q*f) / b)+(Prod.snd c)))+(Prod.snd l)))) .normal (B5g) (B5f):=E4 false 94 [] Cj
def mS4(x y:Fp)(i:Nat)(n0 n1 n2 t4 t5 xi q up dn :Int):St:=B0 308 [3,4,5,6,7,9,10,12,16,17,19,20,21] [.pt 32 0,.pt 48 0,.iu n0,.iu n1,.v (.c (.int .u64 n2)),.iu t4,.iu t5,.iu xi,.v (.c (.int .u64 up)),.iu q,.v (.c (.int .u64 dn)),(.v (.a [.ob (.p x)])),(.ii (i:Int))] [32,48] [(B9 [.ob (.p y)]),(B9 [(.ob (.p (0:Fp)))])] 3984 [] []
def B5h:List KI:=(run qeC false 94 (⟨B5g,.normal,mS3 dF dF dF dF dF dF dF dF dF dF dF dF⟩:G5) []).cfg.k
theorem mD(x y:Fp)(i:Nat)(n0 n1 t3 t4 t5 xi q up dn:Int):let b:Int:=18446744073709551616;let d:=A1 (Ob.n (.p y)) 3;let f:Int:=7239337960414712511;let g:Int:=0;let h:=A3 0 ((xi*d) % b) t3 g;let a:=A3 0 (Prod.fst h) up g;let j:=0<=(1:Int);let m:=Prod.fst a;let c:=A3 0 ((q*f) % b) m g;let l:=A3 0 (Prod.fst c) dn g;A5 [(0<=(3:Int)),((3:Int)<(6:Int)),(3<(Ob.k (.p y))),(0<=xi),(xi<b),(0<=d),(d<b),(0<=((xi*d) % b)),(0<=t3),(t3<b),(0<=g),j,(0<=(Prod.fst h)),(0<=up),(up<b),(0<=g),j,(0<=q),(q<b),(0<=f),(f<b),(0<=((q*f) % b)),(0<=m),(m<b),(0<=g),j,(0<=(Prod.fst c)),(0<=dn),(dn<b),(0<=g),j]->Sg Tryz.prog (mS3 x y i n0 n1 t3 t4 t5 xi q up dn) (mS4 x y i n0 n1 (Prod.fst l) t4 t5 xi q (wrap .u64 ((wrap .u64 (((xi*d) / b)+(Prod.snd h)))+(Prod.snd a))) (wrap .u64 ((wrap .u64 (((q*f) / b)+(Prod.snd c)))+(Prod.snd l)))) .normal (B5h) (B5g):=E4 false 94 [] Cj
def mS5(x y:Fp)(i:Nat)(n0 n1 n2 n3 t5 xi q up dn :Int):St:=B0 308 [3,4,5,6,7,8,10,12,16,17,19,20,21] [.pt 32 0,.pt 48 0,.iu n0,.iu n1,.iu n2,.v (.c (.int .u64 n3)),.iu t5,.iu xi,.v (.c (.int .u64 up)),.iu q,.v (.c (.int .u64 dn)),(.v (.a [.ob (.p x)])),(.ii (i:Int))] [32,48] [(B9 [.ob (.p y)]),(B9 [(.ob (.p (0:Fp)))])] 5008 [] []
def C4x:List KI:=(run qeC false 94 (⟨B5h,.normal,mS4 dF dF dF dF dF dF dF dF dF dF dF dF⟩:G5) []).cfg.k
theorem mE(x y:Fp)(i:Nat)(n0 n1 n2 t4 t5 xi q up dn:Int):let b:Int:=18446744073709551616;let d:=A1 (Ob.n (.p y)) 4;let f:Int:=5412103778470702295;let g:Int:=0;let h:=A3 0 ((xi*d) % b) t4 g;let a:=A3 0 (Prod.fst h) up g;let j:=0<=(1:Int);let m:=Prod.fst a;let c:=A3 0 ((q*f) % b) m g;let l:=A3 0 (Prod.fst c) dn g;A5 [(0<=(4:Int)),((4:Int)<(6:Int)),(4<(Ob.k (.p y))),(0<=xi),(xi<b),(0<=d),(d<b),(0<=((xi*d) % b)),(0<=t4),(t4<b),(0<=g),j,(0<=(Prod.fst h)),(0<=up),(up<b),(0<=g),j,(0<=q),(q<b),(0<=f),(f<b),(0<=((q*f) % b)),(0<=m),(m<b),(0<=g),j,(0<=(Prod.fst c)),(0<=dn),(dn<b),(0<=g),j]->Sg Tryz.prog (mS4 x y i n0 n1 n2 t4 t5 xi q up dn) (mS5 x y i n0 n1 n2 (Prod.fst l) t5 xi q (wrap .u64 ((wrap .u64 (((xi*d) / b)+(Prod.snd h)))+(Prod.snd a))) (wrap .u64 ((wrap .u64 (((q*f) / b)+(Prod.snd c)))+(Prod.snd l)))) .normal (C4x) (B5h):=E4 false 94 [] Cj
theorem mF(x y:Fp)(i:Nat)(n0 n1 n2 n3 t5 xi q up dn:Int):let c:Int:=18446744073709551616;let f:=A1 (Ob.n (.p y)) 5;let g:Int:=1873798617647539866;let h:Int:=0;let j:=A3 0 ((xi*f) % c) t5 h;let b:=A3 0 (Prod.fst j) up h;let l:=0<=(1:Int);let o:=Prod.fst b;let d:=A3 0 ((q*g) % c) o h;let m:=A3 0 (Prod.fst d) dn h;A5 [(0<=(5:Int)),((5:Int)<(6:Int)),(5<(Ob.k (.p y))),(0<=xi),(xi<c),(0<=f),(f<c),(0<=((xi*f) % c)),(0<=t5),(t5<c),(0<=h),l,(0<=(Prod.fst j)),(0<=up),(up<c),(0<=h),l,(0<=q),(q<c),(0<=g),(g<c),(0<=((q*g) % c)),(0<=o),(o<c),(0<=h),l,(0<=(Prod.fst d)),(0<=dn),(dn<c),(0<=h),l]->Sg Tryz.prog (mS5 x y i n0 n1 n2 n3 t5 xi q up dn) (B0 308 [3,4,5,6,7,8,9,10,20,21] [.pt 32 0,.pt 48 0,.iu n0,.iu n1,.iu n2,.iu n3,(.iu (Prod.fst m)),(.iu (wrap .u64 ((wrap .u64 ((wrap .u64 (((q*g) / c)+(Prod.snd d)))+(Prod.snd m)))+(wrap .u64 ((wrap .u64 (((xi*f) / c)+(Prod.snd j)))+(Prod.snd b)))))),(.v (.a [.ob (.p x)])),(.ii (wrap .i64 ((i:Int)+1)))] [32,48] [(B9 [.ob (.p y)]),(B9 [(.ob (.p (0:Fp)))])] 6128 [] []) .normal (D4 Ju) (C4x):=E4 false 3000 [] Cj
end
end
section
structure E1q(x y:Fp)(i:Nat)(t0 t1 t2 t3 t4 t5:Int):Prop where
 i6:i<=6
 h0:B1 t0
 h1:B1 t1
 h2:B1 t2
 h3:B1 t3
 h4:B1 t4
 h5:B1 t5
 lt:I0 t0 t1 t2 t3 t4 t5<2*pN
 eq:∃Q:Nat,I0 t0 t1 t2 t3 t4 t5*((2 ^ (64*i):Nat):Int)=(((Ob.p x).n % 2 ^ (64*i):Nat):Int)*((Ob.p y).n:Int)+(Q:Int)*(pN:Int)
theorem MF(n:Int):B1 (wrap IntKind.u64 n):=by
 unfold B1;rw[Rz];omega
theorem D3(n i:Nat):B1 (A1 n i):=by
 refine ⟨Int.natCast_nonneg _,?_⟩
 show ((n / 2 ^ (64*i) % 18446744073709551616:Nat):Int)<18446744073709551616;omega
theorem XK{T:Int}(hT:0<=T){b X Y Q r:Nat}(h:T*(b:Int)=(X:Int)*(Y:Int)+(Q:Int)*(r:Int)):T.toNat*b=X*Y+Q*r:=by
 rw[<-Int.toNat_of_nonneg hT] at h
 exact_mod_cast h
theorem D5w{t0 t1 t2 t3 t4 t5 xi y0 y1 y2 y3 y4 y5 q lo0 up0 dn0 lo1 up1 dn1 lo2 up2 dn2 lo3 up3 dn3 lo4 up4 dn4 lo5 up5 dn5 n0 n1 n2 n3 n4:Int}
  (eA:xi*y0+t0=lo0+18446744073709551616*up0) (eA' : q*13402431016077863595+lo0=18446744073709551616*dn0)
  (eB:xi*y1+t1+up0=lo1+18446744073709551616*up1) (eB' : q*2210141511517208575+lo1+dn0=n0+18446744073709551616*dn1)
  (eC:xi*y2+t2+up1=lo2+18446744073709551616*up2) (eC' : q*7435674573564081700+lo2+dn1=n1+18446744073709551616*dn2)
  (eD:xi*y3+t3+up2=lo3+18446744073709551616*up3) (eD' : q*7239337960414712511+lo3+dn2=n2+18446744073709551616*dn3)
  (eE:xi*y4+t4+up3=lo4+18446744073709551616*up4) (eE' : q*5412103778470702295+lo4+dn3=n3+18446744073709551616*dn4)
  (eF:xi*y5+t5+up4=lo5+18446744073709551616*up5) (eF' : q*1873798617647539866+lo5+dn4=n4+18446744073709551616*dn5) :
  18446744073709551616*I0 n0 n1 n2 n3 n4 (dn5+up5)=I0 t0 t1 t2 t3 t4 t5+xi*I0 y0 y1 y2 y3 y4 y5+q*(pN:Int):=by
 rw[Yb xi,Ci];have hq:q*4002409555221667393417789825735904156556882819939007885332058136124031650490837864442687629129015664037894272559787=q*13402431016077863595+18446744073709551616*(q*2210141511517208575)+340282366920938463463374607431768211456*(q*7435674573564081700)+6277101735386680763835789423207666416102355444464034512896*(q*7239337960414712511)+115792089237316195423570985008687907853269984665640564039457584007913129639936*(q*5412103778470702295)+2135987035920910082395021706169552114602704522356652769947041607822219725780640550022962086936576*(q*1873798617647539866):=by omega
 rw[hq];unfold I0;generalize xi*y0=z0 at *;generalize xi*y1=z1 at *;generalize xi*y2=z2 at *;generalize xi*y3=z3 at *;generalize xi*y4=z4 at *;generalize xi*y5=z5 at *;generalize q*13402431016077863595=p0 at *;generalize q*2210141511517208575=p1 at *;generalize q*7435674573564081700=p2 at *;generalize q*7239337960414712511=p3 at *;generalize q*5412103778470702295=p4 at *;generalize q*1873798617647539866=p5 at *;omega
theorem C0h{T T' X q Y:Int}(hT:T<2*pN)(hx:X<=18446744073709551615)(hY:Y<pN)(hY0:0<=Y)(hq:q<18446744073709551616)(hall:18446744073709551616*T' = T+X*Y+q*(pN:Int)):T' < 2*pN:=by
 have h1:X*Y<=18446744073709551615*Y:=Int.mul_le_mul_of_nonneg_right hx hY0;have h2:q*(pN:Int)<=18446744073709551615*(pN:Int):=Int.mul_le_mul_of_nonneg_right (by omega) (by omega)
 generalize X*Y=z at *;generalize q*(pN:Int)=z' at *;rw[Ci] at *;omega
theorem E6t{n0 n1 n2 n3 n4 t:Int}(h0:B1 n0)(h1:B1 n1)(h2:B1 n2)(h3:B1 n3)(h4:B1 n4)(h:I0 n0 n1 n2 n3 n4 t<2*pN):t<18446744073709551616:=by
 rw[Ci] at h;obtain ⟨h0,_⟩:=h0;obtain ⟨h1,_⟩:=h1;obtain ⟨h2,_⟩:=h2;obtain ⟨h3,_⟩:=h3;obtain ⟨h4,_⟩:=h4;unfold I0 at h;omega
section
variable {w0:World} {F0:Nat->Prop} {K:Kp} {ac:List Act} {Q:Exit->Act->World->Prop} {cX:C0} {aX:Act}
theorem D6d(x y:Fp)(i:Nat){t0 t1 t2 t3 t4 t5:Int}(hi:i<6)(h0:B1 t0)(hx:B1 (A1 (Ob.p x).n i))(hy:B1 (A1 (Ob.p y).n 0))(hs:Sim w0 F0 K ac (mS x y i t0 t1 t2 t3 t4 t5) cX aX)
  (k:∀lo up q dn:Int,A1 (Ob.p x).n i*A1 (Ob.p y).n 0+t0=lo+18446744073709551616*up->q*13402431016077863595+lo=18446744073709551616*dn->B1 lo->B1 up->B1 q->B1 dn ->
   ∀ac cY aY,Sim w0 F0 K ac (mS1 x y i t1 t2 t3 t4 t5 (A1 (Ob.p x).n i) q up dn) cY aY->Wq Tryz.prog Q B5e ac .normal aY cY.w):Wq Tryz.prog Q (B7 Ju) ac .normal aX cX.w:=by
 obtain ⟨a0,b0⟩:=h0;obtain ⟨x0,x1⟩:=hx;obtain ⟨y0,y1⟩:=hy;have e1:=A8r x0 x1 y0 y1 a0 b0;have sA:=@mA x y i t0 t1 t2 t3 t4 t5 w0 F0 K ac Q cX aX;rw[Int.toNat_natCast] at sA;generalize A1 (Ob.p x).n i=xi at *;obtain ⟨e1,l1,u1⟩:=e1;have hq:=MF ((A3 0 ((xi*A1 (Ob.p y).n 0) % 18446744073709551616) t0 0).1*9940570264628428797);have e2:=A8r (b:=13402431016077863595) hq.1 hq.2 A4 A4 l1.1 l1.2;have e3:=XW (l:=(A3 0 ((xi*A1 (Ob.p y).n 0) % 18446744073709551616) t0 0).1) rfl;refine sA ?_ hs fun ac cY aY h=>?_
 ·refine ⟨by simp only[decide_eq_true_eq];omega,by omega,by omega,A4,A4,by show (0:Nat)<6;decide,x0,x1,y0,y1,by omega,a0,b0,A4,A4,hq.1,hq.2,A4,A4,by omega,l1.1,l1.2,A4,A4,C4⟩
 ·refine k _ _ _ _ e1 ?_ l1 u1 hq e2.2.2 ac cY aY h
  have:=e2.1
  have:=e2.2.1
  omega
theorem D6e(x y:Fp)(i:Nat){t1 t2 t3 t4 t5 xi q up dn:Int}(ht:B1 t1)(hx:B1 xi)(hq:B1 q)(hu:B1 up)(hd:B1 dn)(hy:B1 (A1 (Ob.p y).n 1))(hs:Sim w0 F0 K ac (mS1 x y i t1 t2 t3 t4 t5 xi q up dn) cX aX)
  (k:∀lo up' n dn' : Int,xi*A1 (Ob.p y).n 1+t1+up=lo+18446744073709551616*up' -> q*2210141511517208575+lo+dn=n+18446744073709551616*dn' -> B1 lo->B1 up' -> B1 n->B1 dn' ->
   ∀ac cY aY,Sim w0 F0 K ac (mS2 x y i n t2 t3 t4 t5 xi q up' dn') cY aY->Wq Tryz.prog Q (B5f) ac .normal aY cY.w):Wq Tryz.prog Q (B5e) ac .normal aX cX.w:=by
 obtain ⟨e1,l1,u1,m1⟩:=mac hx.1 hx.2 hy.1 hy.2 ht.1 ht.2 hu.1 hu.2;obtain ⟨e2,l2,u2,m2⟩:=mac (b:=2210141511517208575) hq.1 hq.2 A4 A4 l1.1 l1.2 hd.1 hd.2;refine mB x y i t1 t2 t3 t4 t5 xi q up dn ?_ hs fun ac cY aY h=>?_
 ·refine ⟨A4,A4,by show 1<6;decide,hx.1,hx.2,hy.1,hy.2,by omega,ht.1,ht.2,A4,A4,m1.1,hu.1,hu.2,A4,A4,hq.1,hq.2,A4,A4,by omega,l1.1,l1.2,A4,A4,m2.1,hd.1,hd.2,A4,A4,C4⟩
 ·exact k _ _ _ _ e1 e2 l1 u1 l2 u2 ac cY aY h
theorem D6f(x y:Fp)(i:Nat){n0 t2 t3 t4 t5 xi q up dn:Int}(ht:B1 t2)(hx:B1 xi)(hq:B1 q)(hu:B1 up)(hd:B1 dn)(hy:B1 (A1 (Ob.p y).n 2))(hs:Sim w0 F0 K ac (mS2 x y i n0 t2 t3 t4 t5 xi q up dn) cX aX)
  (k:∀lo up' n dn' : Int,xi*A1 (Ob.p y).n 2+t2+up=lo+18446744073709551616*up' -> q*7435674573564081700+lo+dn=n+18446744073709551616*dn' -> B1 lo->B1 up' -> B1 n->B1 dn' ->
   ∀ac cY aY,Sim w0 F0 K ac (mS3 x y i n0 n t3 t4 t5 xi q up' dn') cY aY->Wq Tryz.prog Q (B5g) ac .normal aY cY.w):Wq Tryz.prog Q (B5f) ac .normal aX cX.w:=by
 obtain ⟨e1,l1,u1,m1⟩:=mac hx.1 hx.2 hy.1 hy.2 ht.1 ht.2 hu.1 hu.2;obtain ⟨e2,l2,u2,m2⟩:=mac (b:=7435674573564081700) hq.1 hq.2 A4 A4 l1.1 l1.2 hd.1 hd.2;refine mC x y i n0 t2 t3 t4 t5 xi q up dn ?_ hs fun ac cY aY h=>?_
 ·refine ⟨A4,A4,by show 2<6;decide,hx.1,hx.2,hy.1,hy.2,by omega,ht.1,ht.2,A4,A4,m1.1,hu.1,hu.2,A4,A4,hq.1,hq.2,A4,A4,by omega,l1.1,l1.2,A4,A4,m2.1,hd.1,hd.2,A4,A4,C4⟩
 ·exact k _ _ _ _ e1 e2 l1 u1 l2 u2 ac cY aY h
theorem D6g(x y:Fp)(i:Nat){n0 n1 t3 t4 t5 xi q up dn:Int}(ht:B1 t3)(hx:B1 xi)(hq:B1 q)(hu:B1 up)(hd:B1 dn)(hy:B1 (A1 (Ob.p y).n 3))(hs:Sim w0 F0 K ac (mS3 x y i n0 n1 t3 t4 t5 xi q up dn) cX aX)
  (k:∀lo up' n dn' : Int,xi*A1 (Ob.p y).n 3+t3+up=lo+18446744073709551616*up' -> q*7239337960414712511+lo+dn=n+18446744073709551616*dn' -> B1 lo->B1 up' -> B1 n->B1 dn' ->
   ∀ac cY aY,Sim w0 F0 K ac (mS4 x y i n0 n1 n t4 t5 xi q up' dn') cY aY->Wq Tryz.prog Q (B5h) ac .normal aY cY.w):Wq Tryz.prog Q (B5g) ac .normal aX cX.w:=by
 obtain ⟨e1,l1,u1,m1⟩:=mac hx.1 hx.2 hy.1 hy.2 ht.1 ht.2 hu.1 hu.2;obtain ⟨e2,l2,u2,m2⟩:=mac (b:=7239337960414712511) hq.1 hq.2 A4 A4 l1.1 l1.2 hd.1 hd.2;refine mD x y i n0 n1 t3 t4 t5 xi q up dn ?_ hs fun ac cY aY h=>?_
 ·refine ⟨A4,A4,by show 3<6;decide,hx.1,hx.2,hy.1,hy.2,by omega,ht.1,ht.2,A4,A4,m1.1,hu.1,hu.2,A4,A4,hq.1,hq.2,A4,A4,by omega,l1.1,l1.2,A4,A4,m2.1,hd.1,hd.2,A4,A4,C4⟩
 ·exact k _ _ _ _ e1 e2 l1 u1 l2 u2 ac cY aY h
theorem E6k(x y:Fp)(i:Nat){n0 n1 n2 t4 t5 xi q up dn:Int}(ht:B1 t4)(hx:B1 xi)(hq:B1 q)(hu:B1 up)(hd:B1 dn)(hy:B1 (A1 (Ob.p y).n 4))(hs:Sim w0 F0 K ac (mS4 x y i n0 n1 n2 t4 t5 xi q up dn) cX aX)
  (k:∀lo up' n dn' : Int,xi*A1 (Ob.p y).n 4+t4+up=lo+18446744073709551616*up' -> q*5412103778470702295+lo+dn=n+18446744073709551616*dn' -> B1 lo->B1 up' -> B1 n->B1 dn' ->
   ∀ac cY aY,Sim w0 F0 K ac (mS5 x y i n0 n1 n2 n t5 xi q up' dn') cY aY->Wq Tryz.prog Q (C4x) ac .normal aY cY.w):Wq Tryz.prog Q (B5h) ac .normal aX cX.w:=by
 obtain ⟨e1,l1,u1,m1⟩:=mac hx.1 hx.2 hy.1 hy.2 ht.1 ht.2 hu.1 hu.2;obtain ⟨e2,l2,u2,m2⟩:=mac (b:=5412103778470702295) hq.1 hq.2 A4 A4 l1.1 l1.2 hd.1 hd.2;refine mE x y i n0 n1 n2 t4 t5 xi q up dn ?_ hs fun ac cY aY h=>?_
 ·refine ⟨A4,A4,by show 4<6;decide,hx.1,hx.2,hy.1,hy.2,by omega,ht.1,ht.2,A4,A4,m1.1,hu.1,hu.2,A4,A4,hq.1,hq.2,A4,A4,by omega,l1.1,l1.2,A4,A4,m2.1,hd.1,hd.2,A4,A4,C4⟩
 ·exact k _ _ _ _ e1 e2 l1 u1 l2 u2 ac cY aY h
theorem E6l(x y:Fp)(i:Nat)(hi:i<6){n0 n1 n2 n3 t5 xi q up dn:Int}(ht:B1 t5)(hx:B1 xi)(hq:B1 q)(hu:B1 up)(hd:B1 dn)(hy:B1 (A1 (Ob.p y).n 5))(hs:Sim w0 F0 K ac (mS5 x y i n0 n1 n2 n3 t5 xi q up dn) cX aX)
  (k:∀lo up' n dn' : Int,xi*A1 (Ob.p y).n 5+t5+up=lo+18446744073709551616*up' -> q*1873798617647539866+lo+dn=n+18446744073709551616*dn' -> B1 lo->B1 up' -> B1 n->B1 dn' ->
   ∀ac cY aY,Sim w0 F0 K ac (mS x y (i+1) n0 n1 n2 n3 n (wrap IntKind.u64 (dn' + up'))) cY aY->Wq Tryz.prog Q (D4 Ju) ac .normal aY cY.w):Wq Tryz.prog Q (C4x) ac .normal aX cX.w:=by
 obtain ⟨e1,l1,u1,m1⟩:=mac hx.1 hx.2 hy.1 hy.2 ht.1 ht.2 hu.1 hu.2;obtain ⟨e2,l2,u2,m2⟩:=mac (b:=1873798617647539866) hq.1 hq.2 A4 A4 l1.1 l1.2 hd.1 hd.2;refine mF x y i n0 n1 n2 n3 t5 xi q up dn ?_ hs fun ac cY aY h=>?_
 ·refine ⟨A4,A4,by show 5<6;decide,hx.1,hx.2,hy.1,hy.2,by omega,ht.1,ht.2,A4,A4,m1.1,hu.1,hu.2,A4,A4,hq.1,hq.2,A4,A4,by omega,l1.1,l1.2,A4,A4,m2.1,hd.1,hd.2,A4,A4,C4⟩
 ·exact k _ _ _ _ e1 e2 l1 u1 l2 u2 ac cY aY ((by rw[A9 (by omega) (by omega)] at h;exact h.nx _))
end
theorem A2k(x y:Fp):K2 Tryz.prog 97 [.v (.a [.ob (.p x)]),.v (.a [.ob (.p y)])] (.v (.a [.ob (.p (x*y))])) []:=by
 refine H2 (fn:=Tryz.f97) (c:=B5 Tryz.f97) Tryz.func97 rfl rfl fun cx ca hk hF hs=>?_
 refine mIn x y trivial hs fun ac cY aY hs1=>?_
 refine C5 (ι:={ p:Nat×Int×Int×Int×Int×Int×Int // E1q x y p.1 p.2.1 p.2.2.1 p.2.2.2.1 p.2.2.2.2.1 p.2.2.2.2.2.1 p.2.2.2.2.2.2 }) (fun p=>mS x y p.1.1 p.1.2.1 p.1.2.2.1 p.1.2.2.2.1 p.1.2.2.2.2.1 p.1.2.2.2.2.2.1 p.1.2.2.2.2.2.2) (fun p=>6-p.1.1) (c:=X5 Ju) (k:=X8 Ju) (by kernel_rfl) (fun p ih ac cY aY hs=>?_)
  ⟨(0,0,0,0,0,0,0),⟨A4,⟨A4,A4⟩,⟨A4,A4⟩,⟨A4,A4⟩,⟨A4,A4⟩,⟨A4,A4⟩,⟨A4,A4⟩,A4,0,by simp [I0,Nat.mod_one]⟩⟩ hs1
 obtain ⟨⟨i,t0,t1,t2,t3,t4,t5⟩,hI⟩:=p;simp only at ih hs hI
 obtain ⟨hi,hl0,hl1,hl2,hl3,hl4,hl5,hlt,Q,hQ⟩:=hI;have ey:=(Cc (Ob.p y).n (Nat.lt_trans (LK y) A4)).1;have hyr:((Ob.p y).n:Int)<(pN:Int):=by exact_mod_cast LK y
 by_cases h5:i<6
 ·have hlx:=D3 (Ob.p x).n i
  have hly0:=D3 (Ob.p y).n 0;have hly1:=D3 (Ob.p y).n 1;have hly2:=D3 (Ob.p y).n 2;have hly3:=D3 (Ob.p y).n 3;have hly4:=D3 (Ob.p y).n 4;have hly5:=D3 (Ob.p y).n 5;have hround:=fun T' q hq=>TZ (A:=(Ob.p x).n) (Y:=(Ob.p y).n) (r:=pN) (i:=i) (Q:=Q) (T:=I0 t0 t1 t2 t3 t4 t5) (T' := T') (q:=q) hq hQ
  refine D6d x y i h5 hl0 hlx hly0 hs fun lo0 up0 q dn0 eA eA' hlo0 hup0 hq hdn0 ac cY aY hs=>?_
  refine D6e x y i hl1 hlx hq hup0 hdn0 hly1 hs fun lo1 up1 n0 dn1 eB eB' hlo1 hup1 hn0 hdn1 ac cY aY hs=>?_
  refine D6f x y i hl2 hlx hq hup1 hdn1 hly2 hs fun lo2 up2 n1 dn2 eC eC' hlo2 hup2 hn1 hdn2 ac cY aY hs=>?_
  refine D6g x y i hl3 hlx hq hup2 hdn2 hly3 hs fun lo3 up3 n2 dn3 eD eD' hlo3 hup3 hn2 hdn3 ac cY aY hs=>?_
  refine E6k x y i hl4 hlx hq hup3 hdn3 hly4 hs fun lo4 up4 n3 dn4 eE eE' hlo4 hup4 hn3 hdn4 ac cY aY hs=>?_
  refine E6l x y i h5 hl5 hlx hq hup4 hdn4 hly5 hs fun lo5 up5 n4 dn5 eF eF' hlo5 hup5 hn4 hdn5 ac cY aY hs=>?_
  have hall:=D5w eA eA' eB eB' eC eC' eD eD' eE eE' eF eF';rw[<-ey] at hall;have hlt' := C0h hlt (by have:=hlx.2;omega) hyr (by omega) hq.2 hall
  have htp:=E6t hn0 hn1 hn2 hn3 hn4 hlt';have htop:wrap IntKind.u64 (dn5+up5)=dn5+up5:=Av (by have:=hdn5.1;have:=hup5.1;omega) htp
  rw[htop] at hs;refine ih ⟨(i+1,n0,n1,n2,n3,n4,dn5+up5),⟨h5,hn0,hn1,hn2,hn3,hn4,?_,hlt',hround _ q hq.1 hall⟩⟩ (by show 6-(i+1)<6-i;omega) ac cY aY hs
  rw[<-htop];exact MF _
 ·have hi6:i=6:=by omega
  subst hi6;have hT:0<=I0 t0 t1 t2 t3 t4 t5:=Ao hl0.1 hl1.1 hl2.1 hl3.1 hl4.1 hl5.1;refine O4 Cj hk hF (D2w x y 6 t0 t1 t2 t3 t4 t5) ?_ (fun z w hd=>?_) hs
  ·refine ⟨A4,hl0.1,hl0.2,hl1.1,hl1.2,hl2.1,hl2.2,hl3.1,hl3.2,hl4.1,hl4.2,hl5.1,hl5.2,hlt,C4⟩
  ·have:Nv (I0 t0 t1 t2 t3 t4 t5).toNat=x*y:=by
    refine A8w (Q:=Q) ?_
    have hX:(Ob.p x).n % 2 ^ (64*6)=(Ob.p x).n:=Nat.mod_eq_of_lt (Nat.lt_trans (LK x) C7b);rw[hX] at hQ;have h6:(2 ^ (64*6):Nat)=B6:=A5n;rw[h6] at hQ;exact XK hT hQ
   rw[<-this];exact hd
end
section
def u6s(a b c d e f:Int):SV:=.v (.c (.sl (.u64 [a,b,c,d,e,f])))
def fl6(a b c d e f:Int):En:=.fl [.int .u64 a,.int .u64 b,.int .u64 c,.int .u64 d,.int .u64 e,.int .u64 f]
def qd6(o0 o1 o2 o3 o4 o5 a b c d e f more m0 m1 m2 m3 m4 m5:Int):G5:=⟨[.code (B5 Tryz.f94)],.normal,RQ Tryz.f94.ntmps 0 6 1 (fl6 o0 o1 o2 o3 o4 o5) [u6s a b c d e f,.v (.c (.int .u64 more)),u6s m0 m1 m2 m3 m4 m5]⟩
theorem E5v(o0 o1 o2 o3 o4 o5 a b c d e f more m0 m1 m2 m3 m4 m5:Int):let h:Int:=(6:Nat);let k:Int:=18446744073709551616;let m:Int:=1;let o:Int:=8;let p:Int:=2;let q:Int:=3;let r:Int:=4;let s:Int:=5;let u:Int:=0;let w:=A3 1 a m0 u;let i:=Prod.snd w;let x:=A3 1 b m1 i;let l:=Prod.snd x;let v:=A3 1 c m2 l;let g:=Prod.snd v;let y:=A3 1 d m3 g;let n:=Prod.snd y;let j:=A3 1 e m4 n;let t:=Prod.snd j;let z:=A3 1 f m5 t;Hf qeC Tryz.f94 true 3000 (qd6 o0 o1 o2 o3 o4 o5 a b c d e f more m0 m1 m2 m3 m4 m5) [true,true,true,true,true,true,false,true]=(some ([((decide (0<h))=true),(0<=u),(0<h),(0<=u),(0<h),(0<=a),(0<=m0),(m0<k),(0<=u),(0<=m),(0<=u),(0<o),((decide (m<h))=true),(0<=m),(m<h),(0<=m),(m<h),(0<=b),(0<=m1),(m1<k),(0<=i),(i<=m),(0<=m),(m<o),((decide (p<h))=true),(0<=p),(p<h),(0<=p),(p<h),(0<=c),(0<=m2),(m2<k),(0<=l),(l<=m),(0<=p),(p<o),((decide (q<h))=true),(0<=q),(q<h),(0<=q),(q<h),(0<=d),(0<=m3),(m3<k),(0<=g),(g<=m),(0<=q),(q<o),((decide (r<h))=true),(0<=r),(r<h),(0<=r),(r<h),(0<=e),(0<=m4),(m4<k),(0<=n),(n<=m),(0<=r),(r<o),((decide (s<h))=true),(0<=s),(s<h),(0<=s),(s<h),(0<=f),(0<=m5),(m5<k),(0<=t),(t<=m),(0<=s),(s<o),((decide ((6:Int)<h))=false),((decide (more >= (Prod.snd z)))=true),(0<=h),(h<=o)],(.fl [(.int .u64 (Prod.fst w)),(.int .u64 (Prod.fst x)),(.int .u64 (Prod.fst v)),(.int .u64 (Prod.fst y)),(.int .u64 (Prod.fst j)),(.int .u64 (Prod.fst z))]))):=by intros;kernel_rfl
theorem E5w(o0 o1 o2 o3 o4 o5 a b c d e f more m0 m1 m2 m3 m4 m5:Int):let h:Int:=(6:Nat);let i:Int:=18446744073709551616;let j:=Prod.snd (A3 1 a m0 (0:Int));let l:Int:=1;let m:=Prod.snd (A3 1 b m1 j);let g:=Prod.snd (A3 1 c m2 m);let k:=Prod.snd (A3 1 d m3 g);let n:=Prod.snd (A3 1 e m4 k);let o:Int:=2;let p:Int:=3;let q:Int:=4;let r:Int:=5;let s:=0<=(0:Int);let t:Int:=8;Hf qeC Tryz.f94 true 3000 (qd6 o0 o1 o2 o3 o4 o5 a b c d e f more m0 m1 m2 m3 m4 m5) [true,true,true,true,true,true,false,false]=(some ([((decide (0<h))=true),s,(0<h),s,(0<h),(0<=a),(0<=m0),(m0<i),s,(0<=l),s,(0<t),((decide (l<h))=true),(0<=l),(l<h),(0<=l),(l<h),(0<=b),(0<=m1),(m1<i),(0<=j),(j<=l),(0<=l),(l<t),((decide (o<h))=true),(0<=o),(o<h),(0<=o),(o<h),(0<=c),(0<=m2),(m2<i),(0<=m),(m<=l),(0<=o),(o<t),((decide (p<h))=true),(0<=p),(p<h),(0<=p),(p<h),(0<=d),(0<=m3),(m3<i),(0<=g),(g<=l),(0<=p),(p<t),((decide (q<h))=true),(0<=q),(q<h),(0<=q),(q<h),(0<=e),(0<=m4),(m4<i),(0<=k),(k<=l),(0<=q),(q<t),((decide (r<h))=true),(0<=r),(r<h),(0<=r),(r<h),(0<=f),(0<=m5),(m5<i),(0<=n),(n<=l),(0<=r),(r<t),((decide ((6:Int)<h))=false),((decide (more >= (Prod.snd (A3 1 f m5 n))))=false)],(.fl [(.int .u64 a),(.int .u64 b),(.int .u64 c),(.int .u64 d),(.int .u64 e),(.int .u64 f)]))):=by intros;kernel_rfl
end
section
theorem D5r{N:Int}(h0:0<=N)(h1:(pN:Int)<=N)(h2:N<2*pN):((DK N.toNat).val:Int)=N-pN:=by
 have e:(DK N.toNat).val=N.toNat-pN:=by
  rw[JX];have k1:pN<=N.toNat:=by omega
  have k2:N.toNat<2*pN:=by omega
  rw[Nat.mod_eq_sub_mod k1,Nat.mod_eq_of_lt (by omega)]
 rw[e];omega
theorem D5s{N:Int}(h0:0<=N)(h1:N<(pN:Int)):((DK N.toNat).val:Int)=N:=by
 have e:(DK N.toNat).val=N.toNat:=by
  rw[JX];exact Nat.mod_eq_of_lt (by omega)
 rw[e];omega
theorem A1q(o0 o1 o2 o3 o4 o5 a b c d e f:Int)(ha:B1 a)(hb:B1 b)(hc:B1 c)(hd:B1 d)(he:B1 e)(hf:B1 f)(hn:I0 a b c d e f<2*pN) :
  MuC Tryz.prog 94 0 6 1 (fl6 o0 o1 o2 o3 o4 o5) [u6s a b c d e f,.v (.c (.int .u64 0)),u6s 13402431016077863595 2210141511517208575 7435674573564081700 7239337960414712511 5412103778470702295 1873798617647539866] (.fl [.ob (.fp (DK (I0 a b c d e f).toNat))]):=by
 refine JA (fn:=Tryz.f94) (c:=B5 Tryz.f94) Tryz.func94 rfl rfl fun x ac hk hm hs=>?_
 obtain ⟨ha,ha1⟩:=ha;obtain ⟨hb,hb1⟩:=hb;obtain ⟨hc,hc1⟩:=hc;obtain ⟨hd,hd1⟩:=hd;obtain ⟨he,he1⟩:=he;obtain ⟨hf,hf1⟩:=hf;have r0:=E5v o0 o1 o2 o3 o4 o5 a b c d e f 0 13402431016077863595 2210141511517208575 7435674573564081700 7239337960414712511 5412103778470702295 1873798617647539866;dsimp only at r0;have r1:=E5w o0 o1 o2 o3 o4 o5 a b c d e f 0 13402431016077863595 2210141511517208575 7435674573564081700 7239337960414712511 5412103778470702295 1873798617647539866;dsimp only at r1;obtain ⟨e1,p1,p1',c1,c1'⟩:=F6 (y:=13402431016077863595) (c:=0) ha ha1 A4 A4 A4 A4;obtain ⟨e2,p2,p2',c2,c2'⟩:=F6 (y:=2210141511517208575) hb hb1 A4 A4 c1 c1';obtain ⟨e3,p3,p3',c3,c3'⟩:=F6 (y:=7435674573564081700) hc hc1 A4 A4 c2 c2';obtain ⟨e4,p4,p4',c4,c4'⟩:=F6 (y:=7239337960414712511) hd hd1 A4 A4 c3 c3';obtain ⟨e5,p5,p5',c5,c5'⟩:=F6 (y:=5412103778470702295) he he1 A4 A4 c4 c4';obtain ⟨e6,p6,p6',c6,c6'⟩:=F6 (y:=1873798617647539866) hf hf1 A4 A4 c5 c5';generalize hx1:A3 1 a 13402431016077863595 0=x1 at *;generalize hx2:A3 1 b 2210141511517208575 x1.2=x2 at *;generalize hx3:A3 1 c 7435674573564081700 x2.2=x3 at *;generalize hx4:A3 1 d 7239337960414712511 x3.2=x4 at *;generalize hx5:A3 1 e 5412103778470702295 x4.2=x5 at *;generalize hx6:A3 1 f 1873798617647539866 x5.2=x6 at *;clear hx1 hx2 hx3 hx4 hx5 hx6;have hnn:=Ao ha hb hc hd he hf;have hD:=D0c e1 e2 e3 e4 e5 e6;have hO:=lt6 p1 p1' p2 p2' p3 p3' p4 p4' p5 p5' p6 p6';have hO0:=Ao p1 p2 p3 p4 p5 p6;have hp:=Ci;by_cases hz:x6.2=0
 ·refine HL Cj hk hm r0 rfl ?_ (fun y cs hv=>A3c rfl ?_ hv) (.inl ⟨_,_,rfl,rfl⟩) hs
  ·clear hD hO hO0 hn hnn e1 e2 e3 e4 e5 e6
   simp only[A5,and_true,decide_eq_true_eq,decide_eq_false_iff_not];and_intros<;>first | assumption | decide | omega
  ·refine AI p1 p1' p2 p2' p3 p3' p4 p4' p5 p5' p6 p6' ?_
   rw[hz,Int.mul_zero,Int.add_zero] at hD;rw[hD];exact D5r hnn (by omega) hn
 ·refine HL Cj hk hm r1 rfl ?_ (fun y cs hv=>A3c rfl ?_ hv) (.inl ⟨_,_,rfl,rfl⟩) hs
  ·clear hD hO hO0 hn hnn e1 e2 e3 e4 e5 e6
   simp only[A5,and_true,decide_eq_true_eq,decide_eq_false_iff_not];and_intros<;>first | assumption | decide | omega
  ·refine AI ha ha1 hb hb1 hc hc1 hd hd1 he he1 hf hf1 ?_
   have:x6.2=1:=by omega
   rw[this] at hD;exact D5s hnn (by omega)
end
section
section
variable {w0:World} {F0:Nat->Prop} {K:Kp} {ac:List Act} {Q:Exit->Act->World->Prop} {cX:C0} {aX:Act}
def FX:MuS:=fun off len es e rest=>
 match off,len,es,e,rest with
 | 0,6,1,.fl [.int .u64 _,.int .u64 _,.int .u64 _,.int .u64 _,.int .u64 _,.int .u64 _],[.v (.c (.sl (.u64 [a,b,c,d,e,f]))),.v (.c (.int .u64 more)),.v (.c (.sl (.u64 [m0,m1,m2,m3,m4,m5])))]=>
  some ([B1 a,B1 b,B1 c,B1 d,B1 e,B1 f,I0 a b c d e f<2*pN,more=0,m0=13402431016077863595,m1=2210141511517208575,m2=7435674573564081700,m3=7239337960414712511,m4=5412103778470702295,m5=1873798617647539866],.fl [.ob (.fp (DK (I0 a b c d e f).toNat))])
 | _,_,_,_,_=>none
def qeD:D6:={ qeC with mu:=fun g=>if g=94 then some (mu1 FX) else qeC.mu g }
theorem W9:A7 Tryz.prog qeD:=
 OK Cj 94 FX (A2 Tryz.func94 rfl rfl) fun off len es e rest o e' h ho _ _=>by
  unfold FX at h;split at h
  ·cases h
   obtain ⟨h1,h2,h3,h4,h5,h6,h7,h8,k0,k1,k2,k3,k4,k5,_⟩:=ho;subst h8 k0 k1 k2 k3 k4 k5;exact A1q _ _ _ _ _ _ _ _ _ _ _ _ h1 h2 h3 h4 h5 h6 h7
  ·cases h
def mP:SV:=u6s 13402431016077863595 2210141511517208575 7435674573564081700 7239337960414712511 5412103778470702295 1873798617647539866
def pd6(o0 o1 o2 o3 o4 o5 a b c d e f y0 y1 y2 y3 y4 y5:Int):G5:=⟨[.code (B5 Tryz.f62)],.normal,RQ Tryz.f62.ntmps 0 6 1 (fl6 o0 o1 o2 o3 o4 o5) [u6s a b c d e f,u6s y0 y1 y2 y3 y4 y5,mP,.v (.c (.int .u64 9940570264628428797))]⟩
def KA:List KI:=(run qeD false 3000 (pd6 dF dF dF dF dF dF dF dF dF dF dF dF dF dF dF dF dF dF:G5) []).cfg.k
theorem zIn(o0 o1 o2 o3 o4 o5 a b c d e f y0 y1 y2 y3 y4 y5:Int){w0:World}{F0:Nat->Prop}{K:Kp}{ac:List Act}{Q:Exit->Act->World->Prop}{cX:C0}{aX:Act}(ho:A5 [])(hs:Sim w0 F0 K ac (((pd6 o0 o1 o2 o3 o4 o5 a b c d e f y0 y1 y2 y3 y4 y5:G5)).σ) cX aX)(hK:∀ac cY aY,Sim w0 F0 K ac (B0 176 [0,1,2,3,4,10,11,29,30] [(.ci (.slc 0 0 6 1)),(.ci (.sl (.u64 [a,b,c,d,e,f]))),(.ci (.sl (.u64 [y0,y1,y2,y3,y4,y5]))),(.ci (.sl (.u64 [(13402431016077863595:Int),(2210141511517208575:Int),(7435674573564081700:Int),(7239337960414712511:Int),(5412103778470702295:Int),(1873798617647539866:Int)]))),.iu 9940570264628428797,.ii 6,.pt 64 0,.ii 6,.ii 0] [0,64] [(B9 [(.int .u64 o0),(.int .u64 o1),(.int .u64 o2),(.int .u64 o3),(.int .u64 o4),(.int .u64 o5)]),(B9 [(.int .u64 0),(.int .u64 0),(.int .u64 0),(.int .u64 0),(.int .u64 0),(.int .u64 0),(.int .u64 0),(.int .u64 0),(.int .u64 0),(.int .u64 0)])] 112 [] []) cY aY->Wq Tryz.prog Q (KA) ac Exit.normal aY cY.w):Wq Tryz.prog Q (((pd6 o0 o1 o2 o3 o4 o5 a b c d e f y0 y1 y2 y3 y4 y5:G5)).k) ac ((pd6 o0 o1 o2 o3 o4 o5 a b c d e f y0 y1 y2 y3 y4 y5:G5)).x aX cX.w:=
 DN (unroll:=false) (n:=3000) (path:=[]) (o:=⟨_,_,_,_,_,_,_⟩) W9 (by kernel_rfl) (by kernel_rfl) ho hs hK
def zS(o0 o1 o2 o3 o4 o5 a b c d e f y0 y1 y2 y3 y4 y5 :Int)(i:Nat)(r0 r1 r2 r3 r4 r5 r6 r7 :Int):St:=B0 176 [0,1,2,3,4,10,11,29,30] [(.ci (.slc 0 0 6 1)),(.ci (.sl (.u64 [a,b,c,d,e,f]))),(.ci (.sl (.u64 [y0,y1,y2,y3,y4,y5]))),(.ci (.sl (.u64 [(13402431016077863595:Int),(2210141511517208575:Int),(7435674573564081700:Int),(7239337960414712511:Int),(5412103778470702295:Int),(1873798617647539866:Int)]))),.iu 9940570264628428797,.ii 6,.pt 64 0,.ii 6,.v (.c (.int .i64 (i:Int)))] [0,64] [(B9 [(.int .u64 o0),(.int .u64 o1),(.int .u64 o2),(.int .u64 o3),(.int .u64 o4),(.int .u64 o5)]),some (.fl [.int .u64 r0,.int .u64 r1,.int .u64 r2,.int .u64 r3,.int .u64 r4,.int .u64 r5,.int .u64 r6,.int .u64 r7,.int .u64 0,.int .u64 0])] 112 [] []
def B0z(o0 o1 o2 o3 o4 o5 a b c d e f y0 y1 y2 y3 y4 y5 :Int)(i:Nat)(x cy r0 r1 r2 r3 r4 r5 r6 r7 :Int)(h0 :Int)(h1:Nat):St:=B0 176 [0,1,2,3,4,10,11,13,14,29,30,37,38] [(.ci (.slc 0 0 6 1)),(.ci (.sl (.u64 [a,b,c,d,e,f]))),(.ci (.sl (.u64 [y0,y1,y2,y3,y4,y5]))),(.ci (.sl (.u64 [(13402431016077863595:Int),(2210141511517208575:Int),(7435674573564081700:Int),(7239337960414712511:Int),(5412103778470702295:Int),(1873798617647539866:Int)]))),.iu 9940570264628428797,.ii 6,.pt 64 0,.v (.c (.int .u64 x)),.v (.c (.int .u64 cy)),.ii 6,(.ii (i:Int)),.ii 6,.ii h0] [0,64] [(B9 [(.int .u64 o0),(.int .u64 o1),(.int .u64 o2),(.int .u64 o3),(.int .u64 o4),(.int .u64 o5)]),some (.fl [.int .u64 r0,.int .u64 r1,.int .u64 r2,.int .u64 r3,.int .u64 r4,.int .u64 r5,.int .u64 r6,.int .u64 r7,.int .u64 0,.int .u64 0])] h1 [] []
def zS1(o0 o1 o2 o3 o4 o5 a b c d e f y0 y1 y2 y3 y4 y5:Int)(i:Nat)(x cy r0 r1 r2 r3 r4 r5 r6 r7:Int):St:=B0z o0 o1 o2 o3 o4 o5 a b c d e f y0 y1 y2 y3 y4 y5 i x cy r0 r1 r2 r3 r4 r5 r6 r7 (0:Int) 992
def YZ:List KI:=(run qeD true 104 (⟨B7 KA,.normal,zS dF dF dF dF dF dF dF dF dF dF dF dF dF dF dF dF dF dF dF dF dF dF dF dF dF dF dF⟩:G5) [true,true]).cfg.k
theorem zA0(o0 o1 o2 o3 o4 o5 a b c d e f y0 y1 y2 y3 y4 y5:Int)(i:Nat)(r0 r1 r2 r3 r4 r5 r6 r7:Int){w0:World}{F0:Nat->Prop}{K:Kp}{ac:List Act}{Q:Exit->Act->World->Prop}{cX:C0}{aX:Act}(ho:A5 [((decide ((i:Int)<(6:Int)))=true),(0<=(i:Int)),((i:Int)<((6:Nat):Int)),((decide (0<(6:Int)))=true),(0<=(0:Int)),(0<((6:Nat):Int)),(0<=(List.getD [a,b,c,d,e,f] ((i:Int)).toNat 0)),((List.getD [a,b,c,d,e,f] ((i:Int)).toNat 0)<(18446744073709551616:Int)),(0<=y0),(y0<(18446744073709551616:Int)),(0<=(0:Int)),(0<(10:Int)),(0<=(((List.getD [a,b,c,d,e,f] ((i:Int)).toNat 0)*y0) % (18446744073709551616:Int))),(0<=r0),(r0<(18446744073709551616:Int)),(0<=(0:Int)),(0<=(1:Int)),(0<=(Prod.fst (A3 0 (((List.getD [a,b,c,d,e,f] ((i:Int)).toNat 0)*y0) % (18446744073709551616:Int)) r0 (0:Int)))),(0<=(0:Int)),(0<(18446744073709551616:Int)),(0<=(0:Int)),(0<=(1:Int)),(0<=(0:Int)),(0<(10:Int))])(hs:Sim w0 F0 K ac (zS o0 o1 o2 o3 o4 o5 a b c d e f y0 y1 y2 y3 y4 y5 i r0 r1 r2 r3 r4 r5 r6 r7) cX aX)(hK:∀ac cY aY,Sim w0 F0 K ac (zS1 o0 o1 o2 o3 o4 o5 a b c d e f y0 y1 y2 y3 y4 y5 i (List.getD [a,b,c,d,e,f] ((i:Int)).toNat 0) (wrap .u64 ((wrap .u64 ((((List.getD [a,b,c,d,e,f] ((i:Int)).toNat 0)*y0) / (18446744073709551616:Int))+(Prod.snd (A3 0 (((List.getD [a,b,c,d,e,f] ((i:Int)).toNat 0)*y0) % (18446744073709551616:Int)) r0 (0:Int)))))+(Prod.snd (A3 0 (Prod.fst (A3 0 (((List.getD [a,b,c,d,e,f] ((i:Int)).toNat 0)*y0) % (18446744073709551616:Int)) r0 (0:Int))) (0:Int) (0:Int))))) (Prod.fst (A3 0 (Prod.fst (A3 0 (((List.getD [a,b,c,d,e,f] ((i:Int)).toNat 0)*y0) % (18446744073709551616:Int)) r0 (0:Int))) (0:Int) (0:Int))) r1 r2 r3 r4 r5 r6 r7) cY aY->Wq Tryz.prog Q (YZ) ac Exit.normal aY cY.w):Wq Tryz.prog Q (B7 KA) ac .normal aX cX.w:=
 JZ (unroll:=true) (n:=104) (path:=[true,true]) (o:=⟨_,_,_,_,_,_,_⟩) W9 (by kernel_rfl) (by kernel_rfl) ho hs hK
theorem zX(o0 o1 o2 o3 o4 o5 a b c d e f y0 y1 y2 y3 y4 y5:Int)(i:Nat)(r0 r1 r2 r3 r4 r5 r6 r7:Int):let g:Int:=13402431016077863595;let h:Int:=6;let j:Int:=2210141511517208575;let k:Int:=7435674573564081700;let l:Int:=7239337960414712511;let m:Int:=5412103778470702295;let n:Int:=1873798617647539866;let o:=I0 r0 r1 r2 r3 r4 r5;Hf qeD Tryz.f62 true 3000 ⟨B7 KA,.normal,zS o0 o1 o2 o3 o4 o5 a b c d e f y0 y1 y2 y3 y4 y5 i r0 r1 r2 r3 r4 r5 r6 r7⟩ [false]=(some ([((decide ((i:Int)<h))=false),(0<=h),(h<=(10:Int)),(0<=h),(h<(10:Int)),(B1 r0),(B1 r1),(B1 r2),(B1 r3),(B1 r4),(B1 r5),(o<(8004819110443334786835579651471808313113765639878015770664116272248063300981675728885375258258031328075788545119574:Int)),(r6=(0:Int)),(g=g),(j=j),(k=k),(l=l),(m=m),(n=n)],(.fl [(.ob (.fp (DK (o).toNat)))]))):=by intros;kernel_rfl
def zS2(o0 o1 o2 o3 o4 o5 a b c d e f y0 y1 y2 y3 y4 y5:Int)(i:Nat)(x cy r0 r1 r2 r3 r4 r5 r6 r7:Int):St:=B0z o0 o1 o2 o3 o4 o5 a b c d e f y0 y1 y2 y3 y4 y5 i x cy r0 r1 r2 r3 r4 r5 r6 r7 (1:Int) 1728
def Za:List KI:=(run qeD true 75 (⟨YZ,.normal,zS1 dF dF dF dF dF dF dF dF dF dF dF dF dF dF dF dF dF dF dF dF dF dF dF dF dF dF dF dF dF⟩:G5) [true]).cfg.k
section
variable (o0 o1 o2 o3 o4 o5 a b c d e f y0 y1 y2 y3 y4 y5:Int) (i:Nat) (x cy r0 r1 r2 r3 r4 r5 r6 r7:Int)
theorem zA1:let g:Int:=18446744073709551616;let j:Int:=1;let l:Int:=0;let h:=A3 0 ((x*y1) % g) r1 l;let k:=A3 0 (Prod.fst h) cy l;A5 [((decide (j<(6:Int)))=true),(0<=j),(j<((6:Nat):Int)),(0<=x),(x<g),(0<=y1),(y1<g),(0<=j),(j<(10:Int)),(0<=((x*y1) % g)),(0<=r1),(r1<g),(0<=l),(0<=j),(0<=(Prod.fst h)),(0<=cy),(cy<g),(0<=l),(0<=j),(0<=j),(j<(10:Int))]->Sg Tryz.prog (zS1 o0 o1 o2 o3 o4 o5 a b c d e f y0 y1 y2 y3 y4 y5 i x cy r0 r1 r2 r3 r4 r5 r6 r7) (zS2 o0 o1 o2 o3 o4 o5 a b c d e f y0 y1 y2 y3 y4 y5 i x (wrap .u64 ((wrap .u64 (((x*y1) / g)+(Prod.snd h)))+(Prod.snd k))) r0 (Prod.fst k) r2 r3 r4 r5 r6 r7) .normal (Za) (YZ):=E4 true 75 [true] W9
def zS3(o0 o1 o2 o3 o4 o5 a b c d e f y0 y1 y2 y3 y4 y5:Int)(i:Nat)(x cy r0 r1 r2 r3 r4 r5 r6 r7:Int):St:=B0z o0 o1 o2 o3 o4 o5 a b c d e f y0 y1 y2 y3 y4 y5 i x cy r0 r1 r2 r3 r4 r5 r6 r7 (2:Int) 2464
def Zb:List KI:=(run qeD true 75 (⟨Za,.normal,zS2 dF dF dF dF dF dF dF dF dF dF dF dF dF dF dF dF dF dF dF dF dF dF dF dF dF dF dF dF dF⟩:G5) [true]).cfg.k
theorem zA2:let g:Int:=18446744073709551616;let j:Int:=2;let l:Int:=0;let h:=A3 0 ((x*y2) % g) r2 l;let k:=A3 0 (Prod.fst h) cy l;A5 [((decide (j<(6:Int)))=true),(0<=j),(j<((6:Nat):Int)),(0<=x),(x<g),(0<=y2),(y2<g),(0<=j),(j<(10:Int)),(0<=((x*y2) % g)),(0<=r2),(r2<g),(0<=l),(0<=(1:Int)),(0<=(Prod.fst h)),(0<=cy),(cy<g),(0<=l),(0<=(1:Int)),(0<=j),(j<(10:Int))]->Sg Tryz.prog (zS2 o0 o1 o2 o3 o4 o5 a b c d e f y0 y1 y2 y3 y4 y5 i x cy r0 r1 r2 r3 r4 r5 r6 r7) (zS3 o0 o1 o2 o3 o4 o5 a b c d e f y0 y1 y2 y3 y4 y5 i x (wrap .u64 ((wrap .u64 (((x*y2) / g)+(Prod.snd h)))+(Prod.snd k))) r0 r1 (Prod.fst k) r3 r4 r5 r6 r7) .normal (Zb) (Za):=E4 true 75 [true] W9
def zS4(o0 o1 o2 o3 o4 o5 a b c d e f y0 y1 y2 y3 y4 y5:Int)(i:Nat)(x cy r0 r1 r2 r3 r4 r5 r6 r7:Int):St:=B0z o0 o1 o2 o3 o4 o5 a b c d e f y0 y1 y2 y3 y4 y5 i x cy r0 r1 r2 r3 r4 r5 r6 r7 (3:Int) 3200
def Zc:List KI:=(run qeD true 75 (⟨Zb,.normal,zS3 dF dF dF dF dF dF dF dF dF dF dF dF dF dF dF dF dF dF dF dF dF dF dF dF dF dF dF dF dF⟩:G5) [true]).cfg.k
theorem zA3:let g:Int:=18446744073709551616;let j:Int:=3;let l:Int:=0;let h:=A3 0 ((x*y3) % g) r3 l;let k:=A3 0 (Prod.fst h) cy l;A5 [((decide (j<(6:Int)))=true),(0<=j),(j<((6:Nat):Int)),(0<=x),(x<g),(0<=y3),(y3<g),(0<=j),(j<(10:Int)),(0<=((x*y3) % g)),(0<=r3),(r3<g),(0<=l),(0<=(1:Int)),(0<=(Prod.fst h)),(0<=cy),(cy<g),(0<=l),(0<=(1:Int)),(0<=j),(j<(10:Int))]->Sg Tryz.prog (zS3 o0 o1 o2 o3 o4 o5 a b c d e f y0 y1 y2 y3 y4 y5 i x cy r0 r1 r2 r3 r4 r5 r6 r7) (zS4 o0 o1 o2 o3 o4 o5 a b c d e f y0 y1 y2 y3 y4 y5 i x (wrap .u64 ((wrap .u64 (((x*y3) / g)+(Prod.snd h)))+(Prod.snd k))) r0 r1 r2 (Prod.fst k) r4 r5 r6 r7) .normal (Zc) (Zb):=E4 true 75 [true] W9
def zS5(o0 o1 o2 o3 o4 o5 a b c d e f y0 y1 y2 y3 y4 y5:Int)(i:Nat)(x cy r0 r1 r2 r3 r4 r5 r6 r7:Int):St:=B0z o0 o1 o2 o3 o4 o5 a b c d e f y0 y1 y2 y3 y4 y5 i x cy r0 r1 r2 r3 r4 r5 r6 r7 (4:Int) 3936
def Zd:List KI:=(run qeD true 75 (⟨Zc,.normal,zS4 dF dF dF dF dF dF dF dF dF dF dF dF dF dF dF dF dF dF dF dF dF dF dF dF dF dF dF dF dF⟩:G5) [true]).cfg.k
theorem zA4:let g:Int:=18446744073709551616;let j:Int:=4;let l:Int:=0;let h:=A3 0 ((x*y4) % g) r4 l;let k:=A3 0 (Prod.fst h) cy l;A5 [((decide (j<(6:Int)))=true),(0<=j),(j<((6:Nat):Int)),(0<=x),(x<g),(0<=y4),(y4<g),(0<=j),(j<(10:Int)),(0<=((x*y4) % g)),(0<=r4),(r4<g),(0<=l),(0<=(1:Int)),(0<=(Prod.fst h)),(0<=cy),(cy<g),(0<=l),(0<=(1:Int)),(0<=j),(j<(10:Int))]->Sg Tryz.prog (zS4 o0 o1 o2 o3 o4 o5 a b c d e f y0 y1 y2 y3 y4 y5 i x cy r0 r1 r2 r3 r4 r5 r6 r7) (zS5 o0 o1 o2 o3 o4 o5 a b c d e f y0 y1 y2 y3 y4 y5 i x (wrap .u64 ((wrap .u64 (((x*y4) / g)+(Prod.snd h)))+(Prod.snd k))) r0 r1 r2 r3 (Prod.fst k) r5 r6 r7) .normal (Zd) (Zc):=E4 true 75 [true] W9
def zS6(o0 o1 o2 o3 o4 o5 a b c d e f y0 y1 y2 y3 y4 y5:Int)(i:Nat)(x cy r0 r1 r2 r3 r4 r5 r6 r7:Int):St:=B0z o0 o1 o2 o3 o4 o5 a b c d e f y0 y1 y2 y3 y4 y5 i x cy r0 r1 r2 r3 r4 r5 r6 r7 (5:Int) 4672
def Ze:List KI:=(run qeD true 75 (⟨Zd,.normal,zS5 dF dF dF dF dF dF dF dF dF dF dF dF dF dF dF dF dF dF dF dF dF dF dF dF dF dF dF dF dF⟩:G5) [true]).cfg.k
theorem zA5:let g:Int:=18446744073709551616;let j:Int:=5;let l:Int:=0;let h:=A3 0 ((x*y5) % g) r5 l;let k:=A3 0 (Prod.fst h) cy l;A5 [((decide (j<(6:Int)))=true),(0<=j),(j<((6:Nat):Int)),(0<=x),(x<g),(0<=y5),(y5<g),(0<=j),(j<(10:Int)),(0<=((x*y5) % g)),(0<=r5),(r5<g),(0<=l),(0<=(1:Int)),(0<=(Prod.fst h)),(0<=cy),(cy<g),(0<=l),(0<=(1:Int)),(0<=j),(j<(10:Int))]->Sg Tryz.prog (zS5 o0 o1 o2 o3 o4 o5 a b c d e f y0 y1 y2 y3 y4 y5 i x cy r0 r1 r2 r3 r4 r5 r6 r7) (zS6 o0 o1 o2 o3 o4 o5 a b c d e f y0 y1 y2 y3 y4 y5 i x (wrap .u64 ((wrap .u64 (((x*y5) / g)+(Prod.snd h)))+(Prod.snd k))) r0 r1 r2 r3 r4 (Prod.fst k) r6 r7) .normal (Ze) (Zd):=E4 true 75 [true] W9
def E1p(o0 o1 o2 o3 o4 o5 a b c d e f y0 y1 y2 y3 y4 y5 :Int)(i:Nat)(q cy r0 r1 r2 r3 r4 r5 r6 r7 :Int)(h0:Nat):St:=B0 176 [0,1,2,3,4,10,11,14,20,23,29,30] [(.ci (.slc 0 0 6 1)),(.ci (.sl (.u64 [a,b,c,d,e,f]))),(.ci (.sl (.u64 [y0,y1,y2,y3,y4,y5]))),(.ci (.sl (.u64 [(13402431016077863595:Int),(2210141511517208575:Int),(7435674573564081700:Int),(7239337960414712511:Int),(5412103778470702295:Int),(1873798617647539866:Int)]))),.iu 9940570264628428797,.ii 6,.pt 64 0,.v (.c (.int .u64 cy)),.v (.c (.int .u64 q)),.ii 1,.ii 6,(.ii (i:Int))] [0,64] [(B9 [(.int .u64 o0),(.int .u64 o1),(.int .u64 o2),(.int .u64 o3),(.int .u64 o4),(.int .u64 o5)]),some (.fl [.int .u64 r0,.int .u64 r1,.int .u64 r2,.int .u64 r3,.int .u64 r4,.int .u64 r5,.int .u64 r6,.int .u64 r7,.int .u64 0,.int .u64 0])] h0 [] []
def zT1(o0 o1 o2 o3 o4 o5 a b c d e f y0 y1 y2 y3 y4 y5:Int)(i:Nat)(q cy r0 r1 r2 r3 r4 r5 r6 r7:Int):St:=E1p o0 o1 o2 o3 o4 o5 a b c d e f y0 y1 y2 y3 y4 y5 i q cy r0 r1 r2 r3 r4 r5 r6 r7 5456
def C2b:List KI:=(run qeD true 88 (⟨Ze,.normal,zS6 dF dF dF dF dF dF dF dF dF dF dF dF dF dF dF dF dF dF dF dF dF dF dF dF dF dF dF dF dF⟩:G5) [false]).cfg.k
theorem zE:let g:=wrap .u64 (r0*(9940570264628428797:Int));let h:Int:=18446744073709551616;let j:Int:=13402431016077863595;let k:Int:=0;let l:Int:=6;let m:Int:=10;let n:=A3 0 r6 cy k;A5 [((decide (l<l))=false),(0<=l),(l<m),(0<=r6),(0<=cy),(cy<h),(0<=k),(0<=(1:Int)),(0<=l),(l<m),(0<=(7:Int)),((7:Int)<m),(0<=k),(0<m),(0<=k),(0<l),(0<=g),(g<h),(0<=j),(j<h),(0<=k),(0<m),(0<=((g*j) % h)),(0<=r0),(r0<h),(0<=k),(0<=(1:Int))]->Sg Tryz.prog (zS6 o0 o1 o2 o3 o4 o5 a b c d e f y0 y1 y2 y3 y4 y5 i x cy r0 r1 r2 r3 r4 r5 r6 r7) (zT1 o0 o1 o2 o3 o4 o5 a b c d e f y0 y1 y2 y3 y4 y5 i g (wrap .u64 (((g*j) / h)+(Prod.snd (A3 0 ((g*j) % h) r0 k)))) r0 r1 r2 r3 r4 r5 (Prod.fst n) (Prod.snd n)) .normal (C2b) (Ze):=E4 true 88 [false] W9
def zT2(o0 o1 o2 o3 o4 o5 a b c d e f y0 y1 y2 y3 y4 y5:Int)(i:Nat)(q cy r0 r1 r2 r3 r4 r5 r6 r7:Int):St:=E1p o0 o1 o2 o3 o4 o5 a b c d e f y0 y1 y2 y3 y4 y5 i q cy r0 r1 r2 r3 r4 r5 r6 r7 6176
def Zf:List KI:=(run qeD true 68 (⟨C2b,.normal,zT1 dF dF dF dF dF dF dF dF dF dF dF dF dF dF dF dF dF dF dF dF dF dF dF dF dF dF dF dF dF⟩:G5) [true]).cfg.k
end
section
variable (o0 o1 o2 o3 o4 o5 a b c d e f y0 y1 y2 y3 y4 y5:Int) (i:Nat) (q cy r0 r1 r2 r3 r4 r5 r6 r7:Int)
theorem zB1:let h:Int:=18446744073709551616;let j:Int:=2210141511517208575;let g:=(q*j) % h;let l:Int:=0;let m:Int:=1;let n:=A3 0 g r1 l;let k:=Prod.fst n;let o:=A3 0 k cy l;A5 [((decide (m<(6:Int)))=true),(0<=m),(m<(6:Int)),(0<=q),(q<h),(0<=j),(j<h),(0<=m),(m<(10:Int)),(0<=g),(0<=r1),(r1<h),(0<=l),(0<=m),(0<=k),(0<=cy),(cy<h),(0<=l),(0<=m),(0<=l),(0<(10:Int))]->Sg Tryz.prog (zT1 o0 o1 o2 o3 o4 o5 a b c d e f y0 y1 y2 y3 y4 y5 i q cy r0 r1 r2 r3 r4 r5 r6 r7) (zT2 o0 o1 o2 o3 o4 o5 a b c d e f y0 y1 y2 y3 y4 y5 i q (wrap .u64 ((wrap .u64 (((q*j) / h)+(Prod.snd n)))+(Prod.snd o))) (Prod.fst o) r1 r2 r3 r4 r5 r6 r7) .normal (Zf) (C2b):=E4 true 68 [true] W9
def C9r(o0 o1 o2 o3 o4 o5 a b c d e f y0 y1 y2 y3 y4 y5 :Int)(i:Nat)(q cy r0 r1 r2 r3 r4 r5 r6 r7 :Int)(h0 :Int)(h1:Nat):St:=B0 176 [0,1,2,3,4,10,11,14,20,23,29,30] [(.ci (.slc 0 0 6 1)),(.ci (.sl (.u64 [a,b,c,d,e,f]))),(.ci (.sl (.u64 [y0,y1,y2,y3,y4,y5]))),(.ci (.sl (.u64 [(13402431016077863595:Int),(2210141511517208575:Int),(7435674573564081700:Int),(7239337960414712511:Int),(5412103778470702295:Int),(1873798617647539866:Int)]))),.iu 9940570264628428797,.ii 6,.pt 64 0,.v (.c (.int .u64 cy)),.v (.c (.int .u64 q)),.ii h0,.ii 6,(.ii (i:Int))] [0,64] [(B9 [(.int .u64 o0),(.int .u64 o1),(.int .u64 o2),(.int .u64 o3),(.int .u64 o4),(.int .u64 o5)]),some (.fl [.int .u64 r0,.int .u64 r1,.int .u64 r2,.int .u64 r3,.int .u64 r4,.int .u64 r5,.int .u64 r6,.int .u64 r7,.int .u64 0,.int .u64 0])] h1 [] []
def zT3(o0 o1 o2 o3 o4 o5 a b c d e f y0 y1 y2 y3 y4 y5:Int)(i:Nat)(q cy r0 r1 r2 r3 r4 r5 r6 r7:Int):St:=C9r o0 o1 o2 o3 o4 o5 a b c d e f y0 y1 y2 y3 y4 y5 i q cy r0 r1 r2 r3 r4 r5 r6 r7 (2:Int) 6944
def Zg:List KI:=(run qeD true 74 (⟨Zf,.normal,zT2 dF dF dF dF dF dF dF dF dF dF dF dF dF dF dF dF dF dF dF dF dF dF dF dF dF dF dF dF dF⟩:G5) [true]).cfg.k
theorem zB2:let h:Int:=18446744073709551616;let j:Int:=7435674573564081700;let g:=(q*j) % h;let l:Int:=0;let m:Int:=2;let n:=0<=(1:Int);let o:=A3 0 g r2 l;let k:=Prod.fst o;let p:=A3 0 k cy l;A5 [((decide (m<(6:Int)))=true),(0<=m),(m<(6:Int)),(0<=q),(q<h),(0<=j),(j<h),(0<=m),(m<(10:Int)),(0<=g),(0<=r2),(r2<h),(0<=l),n,(0<=k),(0<=cy),(cy<h),(0<=l),n,n,((1:Int)<(10:Int))]->Sg Tryz.prog (zT2 o0 o1 o2 o3 o4 o5 a b c d e f y0 y1 y2 y3 y4 y5 i q cy r0 r1 r2 r3 r4 r5 r6 r7) (zT3 o0 o1 o2 o3 o4 o5 a b c d e f y0 y1 y2 y3 y4 y5 i q (wrap .u64 ((wrap .u64 (((q*j) / h)+(Prod.snd o)))+(Prod.snd p))) r0 (Prod.fst p) r2 r3 r4 r5 r6 r7) .normal (Zg) (Zf):=E4 true 74 [true] W9
def zT4(o0 o1 o2 o3 o4 o5 a b c d e f y0 y1 y2 y3 y4 y5:Int)(i:Nat)(q cy r0 r1 r2 r3 r4 r5 r6 r7:Int):St:=C9r o0 o1 o2 o3 o4 o5 a b c d e f y0 y1 y2 y3 y4 y5 i q cy r0 r1 r2 r3 r4 r5 r6 r7 (3:Int) 7712
def Zh:List KI:=(run qeD true 74 (⟨Zg,.normal,zT3 dF dF dF dF dF dF dF dF dF dF dF dF dF dF dF dF dF dF dF dF dF dF dF dF dF dF dF dF dF⟩:G5) [true]).cfg.k
theorem zB3:let h:Int:=18446744073709551616;let j:Int:=7239337960414712511;let g:=(q*j) % h;let l:Int:=0;let m:Int:=3;let n:=A3 0 g r3 l;let k:=Prod.fst n;let o:=A3 0 k cy l;A5 [((decide (m<(6:Int)))=true),(0<=m),(m<(6:Int)),(0<=q),(q<h),(0<=j),(j<h),(0<=m),(m<(10:Int)),(0<=g),(0<=r3),(r3<h),(0<=l),(0<=(1:Int)),(0<=k),(0<=cy),(cy<h),(0<=l),(0<=(1:Int)),(0<=(2:Int)),((2:Int)<(10:Int))]->Sg Tryz.prog (zT3 o0 o1 o2 o3 o4 o5 a b c d e f y0 y1 y2 y3 y4 y5 i q cy r0 r1 r2 r3 r4 r5 r6 r7) (zT4 o0 o1 o2 o3 o4 o5 a b c d e f y0 y1 y2 y3 y4 y5 i q (wrap .u64 ((wrap .u64 (((q*j) / h)+(Prod.snd n)))+(Prod.snd o))) r0 r1 (Prod.fst o) r3 r4 r5 r6 r7) .normal (Zh) (Zg):=E4 true 74 [true] W9
def zT5(o0 o1 o2 o3 o4 o5 a b c d e f y0 y1 y2 y3 y4 y5:Int)(i:Nat)(q cy r0 r1 r2 r3 r4 r5 r6 r7:Int):St:=C9r o0 o1 o2 o3 o4 o5 a b c d e f y0 y1 y2 y3 y4 y5 i q cy r0 r1 r2 r3 r4 r5 r6 r7 (4:Int) 8480
def Zi:List KI:=(run qeD true 74 (⟨Zh,.normal,zT4 dF dF dF dF dF dF dF dF dF dF dF dF dF dF dF dF dF dF dF dF dF dF dF dF dF dF dF dF dF⟩:G5) [true]).cfg.k
theorem zB4:let h:Int:=18446744073709551616;let j:Int:=5412103778470702295;let g:=(q*j) % h;let l:Int:=0;let m:Int:=4;let n:=A3 0 g r4 l;let k:=Prod.fst n;let o:=A3 0 k cy l;A5 [((decide (m<(6:Int)))=true),(0<=m),(m<(6:Int)),(0<=q),(q<h),(0<=j),(j<h),(0<=m),(m<(10:Int)),(0<=g),(0<=r4),(r4<h),(0<=l),(0<=(1:Int)),(0<=k),(0<=cy),(cy<h),(0<=l),(0<=(1:Int)),(0<=(3:Int)),((3:Int)<(10:Int))]->Sg Tryz.prog (zT4 o0 o1 o2 o3 o4 o5 a b c d e f y0 y1 y2 y3 y4 y5 i q cy r0 r1 r2 r3 r4 r5 r6 r7) (zT5 o0 o1 o2 o3 o4 o5 a b c d e f y0 y1 y2 y3 y4 y5 i q (wrap .u64 ((wrap .u64 (((q*j) / h)+(Prod.snd n)))+(Prod.snd o))) r0 r1 r2 (Prod.fst o) r4 r5 r6 r7) .normal (Zi) (Zh):=E4 true 74 [true] W9
def zT6(o0 o1 o2 o3 o4 o5 a b c d e f y0 y1 y2 y3 y4 y5:Int)(i:Nat)(q cy r0 r1 r2 r3 r4 r5 r6 r7:Int):St:=C9r o0 o1 o2 o3 o4 o5 a b c d e f y0 y1 y2 y3 y4 y5 i q cy r0 r1 r2 r3 r4 r5 r6 r7 (5:Int) 9248
def A6k:List KI:=(run qeD true 74 (⟨Zi,.normal,zT5 dF dF dF dF dF dF dF dF dF dF dF dF dF dF dF dF dF dF dF dF dF dF dF dF dF dF dF dF dF⟩:G5) [true]).cfg.k
theorem zB5:let h:Int:=18446744073709551616;let j:Int:=1873798617647539866;let g:=(q*j) % h;let l:Int:=0;let m:Int:=5;let n:=A3 0 g r5 l;let k:=Prod.fst n;let o:=A3 0 k cy l;A5 [((decide (m<(6:Int)))=true),(0<=m),(m<(6:Int)),(0<=q),(q<h),(0<=j),(j<h),(0<=m),(m<(10:Int)),(0<=g),(0<=r5),(r5<h),(0<=l),(0<=(1:Int)),(0<=k),(0<=cy),(cy<h),(0<=l),(0<=(1:Int)),(0<=(4:Int)),((4:Int)<(10:Int))]->Sg Tryz.prog (zT5 o0 o1 o2 o3 o4 o5 a b c d e f y0 y1 y2 y3 y4 y5 i q cy r0 r1 r2 r3 r4 r5 r6 r7) (zT6 o0 o1 o2 o3 o4 o5 a b c d e f y0 y1 y2 y3 y4 y5 i q (wrap .u64 ((wrap .u64 (((q*j) / h)+(Prod.snd n)))+(Prod.snd o))) r0 r1 r2 r3 (Prod.fst o) r5 r6 r7) .normal (A6k) (Zi):=E4 true 74 [true] W9
theorem zI:let g:Int:=6;let h:Int:=0;let j:Int:=10;let k:=A3 0 r6 cy h;A5 [((decide (g<g))=false),(0<=g),(g<j),(0<=r6),(0<=cy),(cy<(18446744073709551616:Int)),(0<=h),(0<=(1:Int)),(0<=(5:Int)),((5:Int)<j),(0<=(7:Int)),((7:Int)<j),(0<=g),(g<j)]->Sg Tryz.prog (zT6 o0 o1 o2 o3 o4 o5 a b c d e f y0 y1 y2 y3 y4 y5 i q cy r0 r1 r2 r3 r4 r5 r6 r7) (B0 176 [0,1,2,3,4,10,11,29,30] [(.ci (.slc 0 0 6 1)),(.ci (.sl (.u64 [a,b,c,d,e,f]))),(.ci (.sl (.u64 [y0,y1,y2,y3,y4,y5]))),(.ci (.sl (.u64 [(13402431016077863595:Int),(2210141511517208575:Int),(7435674573564081700:Int),(7239337960414712511:Int),(5412103778470702295:Int),(1873798617647539866:Int)]))),.iu 9940570264628428797,.ii g,.pt 64 0,.ii g,(.ii (wrap .i64 ((i:Int)+1)))] [0,64] [(B9 [(.int .u64 o0),(.int .u64 o1),(.int .u64 o2),(.int .u64 o3),(.int .u64 o4),(.int .u64 o5)]),(B9 [(.int .u64 r0),(.int .u64 r1),(.int .u64 r2),(.int .u64 r3),(.int .u64 r4),(.int .u64 (Prod.fst k)),(.int .u64 (wrap .u64 (r7+(Prod.snd k)))),(.int .u64 r7),(.int .u64 h),(.int .u64 h)])] 9728 [] []) .normal (D4 KA) (A6k):=E4 true 50 [false] W9
end
end
end
section
section
variable {w0:World} {F0:Nat->Prop} {K:Kp} {ac:List Act} {Q:Exit->Act->World->Prop} {cX:C0} {aX:Act}
theorem E5z(o0 o1 o2 o3 o4 o5 a b c d e f y0 y1 y2 y3 y4 y5:Int)(i:Nat){r0 r1 r2 r3 r4 r5 r6 r7 x:Int}(hi:i<6)(he:List.getD [a,b,c,d,e,f] i 0=x)(hx:B1 x)(hy:B1 y0)(hr:B1 r0)(hs:Sim w0 F0 K ac (zS o0 o1 o2 o3 o4 o5 a b c d e f y0 y1 y2 y3 y4 y5 i r0 r1 r2 r3 r4 r5 r6 r7) cX aX)
  (k:∀n cy' : Int,x*y0+r0+0=n+18446744073709551616*cy' -> B1 n->B1 cy' -> ∀ac cY aY,Sim w0 F0 K ac (zS1 o0 o1 o2 o3 o4 o5 a b c d e f y0 y1 y2 y3 y4 y5 i x cy' n r1 r2 r3 r4 r5 r6 r7) cY aY->Wq Tryz.prog Q YZ ac .normal aY cY.w):Wq Tryz.prog Q (B7 KA) ac .normal aX cX.w:=by
 obtain ⟨x0,x1⟩:=hx;obtain ⟨yy0,yy1⟩:=hy;obtain ⟨rr0,rr1⟩:=hr;have ee:=mac x0 x1 yy0 yy1 rr0 rr1 (u:=0) A4 A4;have sA:=@zA0 o0 o1 o2 o3 o4 o5 a b c d e f y0 y1 y2 y3 y4 y5 i r0 r1 r2 r3 r4 r5 r6 r7 w0 F0 K ac Q cX aX;rw[Int.toNat_natCast,he] at sA;obtain ⟨e1,l1,u1,m1⟩:=ee;refine sA ?_ hs fun ac cY aY h=>k _ _ e1 l1 u1 ac cY aY h
 simp only[A5,and_true,decide_eq_true_eq];omega
theorem E6a(o0 o1 o2 o3 o4 o5 a b c d e f y0 y1 y2 y3 y4 y5:Int)(i:Nat){x cy r0 r1 r2 r3 r4 r5 r6 r7:Int}(hx:B1 x)(hy:B1 y1)(hr:B1 r1)(hc:B1 cy)(hs:Sim w0 F0 K ac (zS1 o0 o1 o2 o3 o4 o5 a b c d e f y0 y1 y2 y3 y4 y5 i x cy r0 r1 r2 r3 r4 r5 r6 r7) cX aX)
  (k:∀n cy' : Int,x*y1+r1+cy=n+18446744073709551616*cy' -> B1 n->B1 cy' -> ∀ac cY aY,Sim w0 F0 K ac (zS2 o0 o1 o2 o3 o4 o5 a b c d e f y0 y1 y2 y3 y4 y5 i x cy' r0 n r2 r3 r4 r5 r6 r7) cY aY->Wq Tryz.prog Q Za ac .normal aY cY.w):Wq Tryz.prog Q (YZ) ac .normal aX cX.w:=by
 obtain ⟨x0,x1⟩:=hx;obtain ⟨yy0,yy1⟩:=hy;obtain ⟨rr0,rr1⟩:=hr;obtain ⟨cc0,cc1⟩:=hc;obtain ⟨e1,l1,u1,m1⟩:=mac x0 x1 yy0 yy1 rr0 rr1 cc0 cc1;refine zA1 o0 o1 o2 o3 o4 o5 a b c d e f y0 y1 y2 y3 y4 y5 i x cy r0 r1 r2 r3 r4 r5 r6 r7 ?_ hs fun ac cY aY h=>k _ _ e1 l1 u1 ac cY aY h
 simp only[A5,and_true,decide_eq_true_eq];omega
theorem E6b(o0 o1 o2 o3 o4 o5 a b c d e f y0 y1 y2 y3 y4 y5:Int)(i:Nat){x cy r0 r1 r2 r3 r4 r5 r6 r7:Int}(hx:B1 x)(hy:B1 y2)(hr:B1 r2)(hc:B1 cy)(hs:Sim w0 F0 K ac (zS2 o0 o1 o2 o3 o4 o5 a b c d e f y0 y1 y2 y3 y4 y5 i x cy r0 r1 r2 r3 r4 r5 r6 r7) cX aX)
  (k:∀n cy' : Int,x*y2+r2+cy=n+18446744073709551616*cy' -> B1 n->B1 cy' -> ∀ac cY aY,Sim w0 F0 K ac (zS3 o0 o1 o2 o3 o4 o5 a b c d e f y0 y1 y2 y3 y4 y5 i x cy' r0 r1 n r3 r4 r5 r6 r7) cY aY->Wq Tryz.prog Q Zb ac .normal aY cY.w):Wq Tryz.prog Q (Za) ac .normal aX cX.w:=by
 obtain ⟨x0,x1⟩:=hx;obtain ⟨yy0,yy1⟩:=hy;obtain ⟨rr0,rr1⟩:=hr;obtain ⟨cc0,cc1⟩:=hc;obtain ⟨e1,l1,u1,m1⟩:=mac x0 x1 yy0 yy1 rr0 rr1 cc0 cc1;refine zA2 o0 o1 o2 o3 o4 o5 a b c d e f y0 y1 y2 y3 y4 y5 i x cy r0 r1 r2 r3 r4 r5 r6 r7 ?_ hs fun ac cY aY h=>k _ _ e1 l1 u1 ac cY aY h
 simp only[A5,and_true,decide_eq_true_eq];omega
theorem E6c(o0 o1 o2 o3 o4 o5 a b c d e f y0 y1 y2 y3 y4 y5:Int)(i:Nat){x cy r0 r1 r2 r3 r4 r5 r6 r7:Int}(hx:B1 x)(hy:B1 y3)(hr:B1 r3)(hc:B1 cy)(hs:Sim w0 F0 K ac (zS3 o0 o1 o2 o3 o4 o5 a b c d e f y0 y1 y2 y3 y4 y5 i x cy r0 r1 r2 r3 r4 r5 r6 r7) cX aX)
  (k:∀n cy' : Int,x*y3+r3+cy=n+18446744073709551616*cy' -> B1 n->B1 cy' -> ∀ac cY aY,Sim w0 F0 K ac (zS4 o0 o1 o2 o3 o4 o5 a b c d e f y0 y1 y2 y3 y4 y5 i x cy' r0 r1 r2 n r4 r5 r6 r7) cY aY->Wq Tryz.prog Q Zc ac .normal aY cY.w):Wq Tryz.prog Q (Zb) ac .normal aX cX.w:=by
 obtain ⟨x0,x1⟩:=hx;obtain ⟨yy0,yy1⟩:=hy;obtain ⟨rr0,rr1⟩:=hr;obtain ⟨cc0,cc1⟩:=hc;obtain ⟨e1,l1,u1,m1⟩:=mac x0 x1 yy0 yy1 rr0 rr1 cc0 cc1;refine zA3 o0 o1 o2 o3 o4 o5 a b c d e f y0 y1 y2 y3 y4 y5 i x cy r0 r1 r2 r3 r4 r5 r6 r7 ?_ hs fun ac cY aY h=>k _ _ e1 l1 u1 ac cY aY h
 simp only[A5,and_true,decide_eq_true_eq];omega
theorem E6d(o0 o1 o2 o3 o4 o5 a b c d e f y0 y1 y2 y3 y4 y5:Int)(i:Nat){x cy r0 r1 r2 r3 r4 r5 r6 r7:Int}(hx:B1 x)(hy:B1 y4)(hr:B1 r4)(hc:B1 cy)(hs:Sim w0 F0 K ac (zS4 o0 o1 o2 o3 o4 o5 a b c d e f y0 y1 y2 y3 y4 y5 i x cy r0 r1 r2 r3 r4 r5 r6 r7) cX aX)
  (k:∀n cy' : Int,x*y4+r4+cy=n+18446744073709551616*cy' -> B1 n->B1 cy' -> ∀ac cY aY,Sim w0 F0 K ac (zS5 o0 o1 o2 o3 o4 o5 a b c d e f y0 y1 y2 y3 y4 y5 i x cy' r0 r1 r2 r3 n r5 r6 r7) cY aY->Wq Tryz.prog Q Zd ac .normal aY cY.w):Wq Tryz.prog Q (Zc) ac .normal aX cX.w:=by
 obtain ⟨x0,x1⟩:=hx;obtain ⟨yy0,yy1⟩:=hy;obtain ⟨rr0,rr1⟩:=hr;obtain ⟨cc0,cc1⟩:=hc;obtain ⟨e1,l1,u1,m1⟩:=mac x0 x1 yy0 yy1 rr0 rr1 cc0 cc1;refine zA4 o0 o1 o2 o3 o4 o5 a b c d e f y0 y1 y2 y3 y4 y5 i x cy r0 r1 r2 r3 r4 r5 r6 r7 ?_ hs fun ac cY aY h=>k _ _ e1 l1 u1 ac cY aY h
 simp only[A5,and_true,decide_eq_true_eq];omega
theorem E6e(o0 o1 o2 o3 o4 o5 a b c d e f y0 y1 y2 y3 y4 y5:Int)(i:Nat){x cy r0 r1 r2 r3 r4 r5 r6 r7:Int}(hx:B1 x)(hy:B1 y5)(hr:B1 r5)(hc:B1 cy)(hs:Sim w0 F0 K ac (zS5 o0 o1 o2 o3 o4 o5 a b c d e f y0 y1 y2 y3 y4 y5 i x cy r0 r1 r2 r3 r4 r5 r6 r7) cX aX)
  (k:∀n cy' : Int,x*y5+r5+cy=n+18446744073709551616*cy' -> B1 n->B1 cy' -> ∀ac cY aY,Sim w0 F0 K ac (zS6 o0 o1 o2 o3 o4 o5 a b c d e f y0 y1 y2 y3 y4 y5 i x cy' r0 r1 r2 r3 r4 n r6 r7) cY aY->Wq Tryz.prog Q Ze ac .normal aY cY.w):Wq Tryz.prog Q (Zd) ac .normal aX cX.w:=by
 obtain ⟨x0,x1⟩:=hx;obtain ⟨yy0,yy1⟩:=hy;obtain ⟨rr0,rr1⟩:=hr;obtain ⟨cc0,cc1⟩:=hc;obtain ⟨e1,l1,u1,m1⟩:=mac x0 x1 yy0 yy1 rr0 rr1 cc0 cc1;refine zA5 o0 o1 o2 o3 o4 o5 a b c d e f y0 y1 y2 y3 y4 y5 i x cy r0 r1 r2 r3 r4 r5 r6 r7 ?_ hs fun ac cY aY h=>k _ _ e1 l1 u1 ac cY aY h
 simp only[A5,and_true,decide_eq_true_eq];omega
theorem sQE(o0 o1 o2 o3 o4 o5 a b c d e f y0 y1 y2 y3 y4 y5:Int)(i:Nat){x cy r0 r1 r2 r3 r4 r5 r6 r7:Int}(hr0:B1 r0)(hr6:B1 r6)(hc:B1 cy)(hs:Sim w0 F0 K ac (zS6 o0 o1 o2 o3 o4 o5 a b c d e f y0 y1 y2 y3 y4 y5 i x cy r0 r1 r2 r3 r4 r5 r6 r7) cX aX)
  (k:∀q cy' n6 n7:Int,r6+cy+0=n6+18446744073709551616*n7->q*13402431016077863595+r0=18446744073709551616*cy' -> B1 n6->0<=n7->n7<=1->B1 q->B1 cy' -> ∀ac cY aY,Sim w0 F0 K ac (zT1 o0 o1 o2 o3 o4 o5 a b c d e f y0 y1 y2 y3 y4 y5 i q cy' r0 r1 r2 r3 r4 r5 n6 n7) cY aY->Wq Tryz.prog Q C2b ac .normal aY cY.w):Wq Tryz.prog Q Ze ac .normal aX cX.w:=by
 obtain ⟨rr0,rr1⟩:=hr0;obtain ⟨rr6,rr7⟩:=hr6;obtain ⟨cc0,cc1⟩:=hc;obtain ⟨e1,p1,p1',q1,q1'⟩:=G1 (c:=0) rr6 rr7 cc0 cc1 A4 A4;have hq:=MF (r0*9940570264628428797);have e2:=A8r (b:=13402431016077863595) hq.1 hq.2 A4 A4 rr0 rr1;have e3:=XW (l:=r0) rfl;obtain ⟨hq0,hq1⟩:=hq;obtain ⟨e2,⟨f1,f2⟩,f3⟩:=e2;refine zE o0 o1 o2 o3 o4 o5 a b c d e f y0 y1 y2 y3 y4 y5 i x cy r0 r1 r2 r3 r4 r5 r6 r7 ?_ hs fun ac cY aY h=>k _ _ _ _ e1 ?_ ⟨p1,p1'⟩ q1 q1' ⟨hq0,hq1⟩ f3 ac cY aY h
 ·simp only[A5,and_true,decide_eq_false_iff_not]
  omega
 ·omega
theorem E6f(o0 o1 o2 o3 o4 o5 a b c d e f y0 y1 y2 y3 y4 y5:Int)(i:Nat){q cy r0 r1 r2 r3 r4 r5 r6 r7:Int}(hq:B1 q)(hr:B1 r1)(hc:B1 cy)(hs:Sim w0 F0 K ac (zT1 o0 o1 o2 o3 o4 o5 a b c d e f y0 y1 y2 y3 y4 y5 i q cy r0 r1 r2 r3 r4 r5 r6 r7) cX aX)
  (k:∀n cy' : Int,q*2210141511517208575+r1+cy=n+18446744073709551616*cy' -> B1 n->B1 cy' -> ∀ac cY aY,Sim w0 F0 K ac (zT2 o0 o1 o2 o3 o4 o5 a b c d e f y0 y1 y2 y3 y4 y5 i q cy' n r1 r2 r3 r4 r5 r6 r7) cY aY->Wq Tryz.prog Q Zf ac .normal aY cY.w):Wq Tryz.prog Q C2b ac .normal aX cX.w:=by
 obtain ⟨x0,x1⟩:=hq;obtain ⟨rr0,rr1⟩:=hr;obtain ⟨cc0,cc1⟩:=hc;obtain ⟨e1,l1,u1,m1⟩:=mac (b:=2210141511517208575) x0 x1 A4 A4 rr0 rr1 cc0 cc1;refine zB1 o0 o1 o2 o3 o4 o5 a b c d e f y0 y1 y2 y3 y4 y5 i q cy r0 r1 r2 r3 r4 r5 r6 r7 ?_ hs fun ac cY aY h=>k _ _ e1 l1 u1 ac cY aY h
 simp only[A5,and_true,decide_eq_true_eq];omega
theorem E6g(o0 o1 o2 o3 o4 o5 a b c d e f y0 y1 y2 y3 y4 y5:Int)(i:Nat){q cy r0 r1 r2 r3 r4 r5 r6 r7:Int}(hq:B1 q)(hr:B1 r2)(hc:B1 cy)(hs:Sim w0 F0 K ac (zT2 o0 o1 o2 o3 o4 o5 a b c d e f y0 y1 y2 y3 y4 y5 i q cy r0 r1 r2 r3 r4 r5 r6 r7) cX aX)
  (k:∀n cy' : Int,q*7435674573564081700+r2+cy=n+18446744073709551616*cy' -> B1 n->B1 cy' -> ∀ac cY aY,Sim w0 F0 K ac (zT3 o0 o1 o2 o3 o4 o5 a b c d e f y0 y1 y2 y3 y4 y5 i q cy' r0 n r2 r3 r4 r5 r6 r7) cY aY->Wq Tryz.prog Q Zg ac .normal aY cY.w):Wq Tryz.prog Q Zf ac .normal aX cX.w:=by
 obtain ⟨x0,x1⟩:=hq;obtain ⟨rr0,rr1⟩:=hr;obtain ⟨cc0,cc1⟩:=hc;obtain ⟨e1,l1,u1,m1⟩:=mac (b:=7435674573564081700) x0 x1 A4 A4 rr0 rr1 cc0 cc1;refine zB2 o0 o1 o2 o3 o4 o5 a b c d e f y0 y1 y2 y3 y4 y5 i q cy r0 r1 r2 r3 r4 r5 r6 r7 ?_ hs fun ac cY aY h=>k _ _ e1 l1 u1 ac cY aY h
 simp only[A5,and_true,decide_eq_true_eq];omega
theorem E6h(o0 o1 o2 o3 o4 o5 a b c d e f y0 y1 y2 y3 y4 y5:Int)(i:Nat){q cy r0 r1 r2 r3 r4 r5 r6 r7:Int}(hq:B1 q)(hr:B1 r3)(hc:B1 cy)(hs:Sim w0 F0 K ac (zT3 o0 o1 o2 o3 o4 o5 a b c d e f y0 y1 y2 y3 y4 y5 i q cy r0 r1 r2 r3 r4 r5 r6 r7) cX aX)
  (k:∀n cy' : Int,q*7239337960414712511+r3+cy=n+18446744073709551616*cy' -> B1 n->B1 cy' -> ∀ac cY aY,Sim w0 F0 K ac (zT4 o0 o1 o2 o3 o4 o5 a b c d e f y0 y1 y2 y3 y4 y5 i q cy' r0 r1 n r3 r4 r5 r6 r7) cY aY->Wq Tryz.prog Q Zh ac .normal aY cY.w):Wq Tryz.prog Q Zg ac .normal aX cX.w:=by
 obtain ⟨x0,x1⟩:=hq;obtain ⟨rr0,rr1⟩:=hr;obtain ⟨cc0,cc1⟩:=hc;obtain ⟨e1,l1,u1,m1⟩:=mac (b:=7239337960414712511) x0 x1 A4 A4 rr0 rr1 cc0 cc1;refine zB3 o0 o1 o2 o3 o4 o5 a b c d e f y0 y1 y2 y3 y4 y5 i q cy r0 r1 r2 r3 r4 r5 r6 r7 ?_ hs fun ac cY aY h=>k _ _ e1 l1 u1 ac cY aY h
 simp only[A5,and_true,decide_eq_true_eq];omega
theorem E6i(o0 o1 o2 o3 o4 o5 a b c d e f y0 y1 y2 y3 y4 y5:Int)(i:Nat){q cy r0 r1 r2 r3 r4 r5 r6 r7:Int}(hq:B1 q)(hr:B1 r4)(hc:B1 cy)(hs:Sim w0 F0 K ac (zT4 o0 o1 o2 o3 o4 o5 a b c d e f y0 y1 y2 y3 y4 y5 i q cy r0 r1 r2 r3 r4 r5 r6 r7) cX aX)
  (k:∀n cy' : Int,q*5412103778470702295+r4+cy=n+18446744073709551616*cy' -> B1 n->B1 cy' -> ∀ac cY aY,Sim w0 F0 K ac (zT5 o0 o1 o2 o3 o4 o5 a b c d e f y0 y1 y2 y3 y4 y5 i q cy' r0 r1 r2 n r4 r5 r6 r7) cY aY->Wq Tryz.prog Q Zi ac .normal aY cY.w):Wq Tryz.prog Q Zh ac .normal aX cX.w:=by
 obtain ⟨x0,x1⟩:=hq;obtain ⟨rr0,rr1⟩:=hr;obtain ⟨cc0,cc1⟩:=hc;obtain ⟨e1,l1,u1,m1⟩:=mac (b:=5412103778470702295) x0 x1 A4 A4 rr0 rr1 cc0 cc1;refine zB4 o0 o1 o2 o3 o4 o5 a b c d e f y0 y1 y2 y3 y4 y5 i q cy r0 r1 r2 r3 r4 r5 r6 r7 ?_ hs fun ac cY aY h=>k _ _ e1 l1 u1 ac cY aY h
 simp only[A5,and_true,decide_eq_true_eq];omega
theorem E6j(o0 o1 o2 o3 o4 o5 a b c d e f y0 y1 y2 y3 y4 y5:Int)(i:Nat){q cy r0 r1 r2 r3 r4 r5 r6 r7:Int}(hq:B1 q)(hr:B1 r5)(hc:B1 cy)(hs:Sim w0 F0 K ac (zT5 o0 o1 o2 o3 o4 o5 a b c d e f y0 y1 y2 y3 y4 y5 i q cy r0 r1 r2 r3 r4 r5 r6 r7) cX aX)
  (k:∀n cy' : Int,q*1873798617647539866+r5+cy=n+18446744073709551616*cy' -> B1 n->B1 cy' -> ∀ac cY aY,Sim w0 F0 K ac (zT6 o0 o1 o2 o3 o4 o5 a b c d e f y0 y1 y2 y3 y4 y5 i q cy' r0 r1 r2 r3 n r5 r6 r7) cY aY->Wq Tryz.prog Q A6k ac .normal aY cY.w):Wq Tryz.prog Q Zi ac .normal aX cX.w:=by
 obtain ⟨x0,x1⟩:=hq;obtain ⟨rr0,rr1⟩:=hr;obtain ⟨cc0,cc1⟩:=hc;obtain ⟨e1,l1,u1,m1⟩:=mac (b:=1873798617647539866) x0 x1 A4 A4 rr0 rr1 cc0 cc1;refine zB5 o0 o1 o2 o3 o4 o5 a b c d e f y0 y1 y2 y3 y4 y5 i q cy r0 r1 r2 r3 r4 r5 r6 r7 ?_ hs fun ac cY aY h=>k _ _ e1 l1 u1 ac cY aY h
 simp only[A5,and_true,decide_eq_true_eq];omega
theorem sQI(o0 o1 o2 o3 o4 o5 a b c d e f y0 y1 y2 y3 y4 y5:Int)(i:Nat){q cy r0 r1 r2 r3 r4 r5 r6 r7:Int}(hi:i<6)(hr6:B1 r6)(hc:B1 cy)(hs:Sim w0 F0 K ac (zT6 o0 o1 o2 o3 o4 o5 a b c d e f y0 y1 y2 y3 y4 y5 i q cy r0 r1 r2 r3 r4 r5 r6 r7) cX aX)
  (k:∀n5 c6:Int,r6+cy+0=n5+18446744073709551616*c6->B1 n5->0<=c6->c6<=1->∀ac cY aY,Sim w0 F0 K ac (zS o0 o1 o2 o3 o4 o5 a b c d e f y0 y1 y2 y3 y4 y5 (i+1) r0 r1 r2 r3 r4 n5 (wrap IntKind.u64 (r7+c6)) r7) cY aY->Wq Tryz.prog Q (D4 KA) ac .normal aY cY.w):Wq Tryz.prog Q A6k ac .normal aX cX.w:=by
 obtain ⟨rr6,rr7⟩:=hr6;obtain ⟨cc0,cc1⟩:=hc;obtain ⟨e1,p1,p1',q1,q1'⟩:=G1 (c:=0) rr6 rr7 cc0 cc1 A4 A4;refine zI o0 o1 o2 o3 o4 o5 a b c d e f y0 y1 y2 y3 y4 y5 i q cy r0 r1 r2 r3 r4 r5 r6 r7 ?_ hs fun ac cY aY h=>k _ _ e1 ⟨p1,p1'⟩ q1 q1' ac cY aY (by rw[A9 (by omega) (by omega)] at h;exact h.nx _)
 simp only[A5,and_true,decide_eq_false_iff_not];omega
end
end
section
structure E1s(A Y i:Nat)(r0 r1 r2 r3 r4 r5 r6:Int):Prop where
 i6:i<=6
 h0:B1 r0
 h1:B1 r1
 h2:B1 r2
 h3:B1 r3
 h4:B1 r4
 h5:B1 r5
 h6:r6=0
 lt:I0 r0 r1 r2 r3 r4 r5<2*pN
 eq:∃Q:Nat,I0 r0 r1 r2 r3 r4 r5*((2 ^ (64*i):Nat):Int)=((A % 2 ^ (64*i):Nat):Int)*(Y:Int)+(Q:Int)*(pN:Int)
theorem B8e{r B v T X Q:Nat}(e:v*B % r=1 % r)(h:T*B=X+Q*r):T % r=X*v % r:=by
  have h2:∀a:Nat,a*(v*B) % r=a % r:=fun a=>by rw[<-Nat.mul_mod_mod,e,Nat.mul_mod_mod,Nat.mul_one]
  calc T % r=T*(v*B) % r:=(h2 _).symm
    _=(T*B)*v % r:=by congr 1;simp only[Nat.mul_comm,Nat.mul_left_comm]
    _=X*v % r:=by rw[h,Nat.add_mul,Nat.mul_assoc Q,Nat.mul_comm r,<-Nat.mul_assoc,Nat.add_mul_mod_self_right]
theorem D5x{r0 r1 r2 r3 r4 r5 xi y0 y1 y2 y3 y4 y5 q a0 c0 d0 b0 a1 c1 d1 b1 a2 c2 d2 b2 a3 c3 d3 b3 a4 c4 d4 b4 a5 c5 d5 b5 n6 n7 c6:Int}
  (eA0:xi*y0+r0+0=a0+18446744073709551616*c0) (eA1:xi*y1+r1+c0=a1+18446744073709551616*c1) (eA2:xi*y2+r2+c1=a2+18446744073709551616*c2) (eA3:xi*y3+r3+c2=a3+18446744073709551616*c3) (eA4:xi*y4+r4+c3=a4+18446744073709551616*c4) (eA5:xi*y5+r5+c4=a5+18446744073709551616*c5)
  (eE:0+c5+0=n6+18446744073709551616*n7) (eQ:q*13402431016077863595+a0=18446744073709551616*d0) (eB1:q*2210141511517208575+a1+d0=b0+18446744073709551616*d1) (eB2:q*7435674573564081700+a2+d1=b1+18446744073709551616*d2) (eB3:q*7239337960414712511+a3+d2=b2+18446744073709551616*d3) (eB4:q*5412103778470702295+a4+d3=b3+18446744073709551616*d4) (eB5:q*1873798617647539866+a5+d4=b4+18446744073709551616*d5)
  (eI:n6+d5+0=b5+18446744073709551616*c6) :
  18446744073709551616*(I0 b0 b1 b2 b3 b4 b5+39402006196394479212279040100143613805079739270465446667948293404245721771497210611414266254884915640806627990306816*(n7+c6))=I0 r0 r1 r2 r3 r4 r5+xi*I0 y0 y1 y2 y3 y4 y5+q*(pN:Int):=by
 rw[Yb xi,Ci];have hq:q*4002409555221667393417789825735904156556882819939007885332058136124031650490837864442687629129015664037894272559787=q*13402431016077863595+18446744073709551616*(q*2210141511517208575)+340282366920938463463374607431768211456*(q*7435674573564081700)+6277101735386680763835789423207666416102355444464034512896*(q*7239337960414712511)+115792089237316195423570985008687907853269984665640564039457584007913129639936*(q*5412103778470702295)+2135987035920910082395021706169552114602704522356652769947041607822219725780640550022962086936576*(q*1873798617647539866):=by omega
 rw[hq];unfold I0;generalize xi*y0=z0 at *;generalize xi*y1=z1 at *;generalize xi*y2=z2 at *;generalize xi*y3=z3 at *;generalize xi*y4=z4 at *;generalize xi*y5=z5 at *;generalize q*13402431016077863595=p0 at *;generalize q*2210141511517208575=p1 at *;generalize q*7435674573564081700=p2 at *;generalize q*7239337960414712511=p3 at *;generalize q*5412103778470702295=p4 at *;generalize q*1873798617647539866=p5 at *;omega
theorem E6u{b0 b1 b2 b3 b4 b5 t:Int}(h0:B1 b0)(h1:B1 b1)(h2:B1 b2)(h3:B1 b3)(h4:B1 b4)(h5:B1 b5)(ht:0<=t)(h:I0 b0 b1 b2 b3 b4 b5+39402006196394479212279040100143613805079739270465446667948293404245721771497210611414266254884915640806627990306816*t<2*pN):t=0:=by
 rw[Ci] at h;obtain ⟨h0,_⟩:=h0;obtain ⟨h1,_⟩:=h1;obtain ⟨h2,_⟩:=h2;obtain ⟨h3,_⟩:=h3;obtain ⟨h4,_⟩:=h4;obtain ⟨h5,_⟩:=h5;unfold I0 at h;omega
theorem Yt(o0 o1 o2 o3 o4 o5:Int)(A Y:Nat)(hA:A<B6)(hY:Y<pN) :
  MuC Tryz.prog 62 0 6 1 (fl6 o0 o1 o2 o3 o4 o5) [u6s (A1 A 0) (A1 A 1) (A1 A 2) (A1 A 3) (A1 A 4) (A1 A 5),u6s (A1 Y 0) (A1 Y 1) (A1 Y 2) (A1 Y 3) (A1 Y 4) (A1 Y 5),mP,.v (.c (.int .u64 9940570264628428797))] (.fl [.ob (.fp (DK (A*Y*pnv)))]):=by
 refine JA (fn:=Tryz.f62) (c:=B5 Tryz.f62) Tryz.func62 rfl rfl fun x0 a0 hk hm hs=>?_
 have ey:=(Cc Y (Nat.lt_trans hY A4)).1;have hyr:(Y:Int)<(pN:Int):=by exact_mod_cast hY
 have hin:=@zIn o0 o1 o2 o3 o4 o5 (A1 A 0) (A1 A 1) (A1 A 2) (A1 A 3) (A1 A 4) (A1 A 5) (A1 Y 0) (A1 Y 1) (A1 Y 2) (A1 Y 3) (A1 Y 4) (A1 Y 5);have hget:∀i,i<6->List.getD [A1 A 0,A1 A 1,A1 A 2,A1 A 3,A1 A 4,A1 A 5] i 0=A1 A i:=by
  intro i hi;have:i=0∨i=1∨i=2∨i=3∨i=4∨i=5:=by omega
  rcases this with rfl | rfl | rfl | rfl | rfl | rfl<;>rfl
 have hly0:=D3 Y 0;have hly1:=D3 Y 1;have hly2:=D3 Y 2;have hly3:=D3 Y 3;have hly4:=D3 Y 4;have hly5:=D3 Y 5;have hlxx:=fun i=>D3 A i
 have hT6:A % 2 ^ (64*6)=A:=Nat.mod_eq_of_lt (by rw[A5n];exact hA)
 generalize A1 A 0=a at *;generalize A1 A 1=b at *;generalize A1 A 2=c at *;generalize A1 A 3=d at *;generalize A1 A 4=e at *;generalize A1 A 5=f at *;generalize A1 Y 0=v0 at *;generalize A1 Y 1=v1 at *;generalize A1 Y 2=v2 at *;generalize A1 Y 3=v3 at *;generalize A1 Y 4=v4 at *;generalize A1 Y 5=v5 at *;refine hin trivial hs fun ac cY aY hs1=>?_
 refine C5 (ι:={ p:Nat×Int×Int×Int×Int×Int×Int×Int×Int // E1s A Y p.1 p.2.1 p.2.2.1 p.2.2.2.1 p.2.2.2.2.1 p.2.2.2.2.2.1 p.2.2.2.2.2.2.1 p.2.2.2.2.2.2.2.1 })
  (fun p=>zS o0 o1 o2 o3 o4 o5 a b c d e f v0 v1 v2 v3 v4 v5 p.1.1 p.1.2.1 p.1.2.2.1 p.1.2.2.2.1 p.1.2.2.2.2.1 p.1.2.2.2.2.2.1 p.1.2.2.2.2.2.2.1 p.1.2.2.2.2.2.2.2.1 p.1.2.2.2.2.2.2.2.2) (fun p=>6-p.1.1) (c:=X5 KA) (k:=X8 KA) (by kernel_rfl) (fun p ih ac cY aY hs=>?_)
  ⟨(0,0,0,0,0,0,0,0,0),⟨A4,⟨A4,A4⟩,⟨A4,A4⟩,⟨A4,A4⟩,⟨A4,A4⟩,⟨A4,A4⟩,⟨A4,A4⟩,rfl,A4,0,by simp [I0,Nat.mod_one]⟩⟩ hs1
 obtain ⟨⟨i,r0,r1,r2,r3,r4,r5,r6,r7⟩,hI⟩:=p;simp only at ih hs hI
 obtain ⟨hi,h0,h1,h2,h3,h4,h5',h6,hlt,Q,hQ⟩:=hI;subst h6;by_cases h5:i<6
 ·have hround:=fun T' q hq=>TZ (A:=A) (Y:=Y) (r:=pN) (i:=i) (Q:=Q) (T:=I0 r0 r1 r2 r3 r4 r5) (T' := T') (q:=q) hq hQ
  have hlx:=hlxx i;refine E5z o0 o1 o2 o3 o4 o5 a b c d e f v0 v1 v2 v3 v4 v5 i h5 (hget i h5) hlx hly0 h0 hs fun a0 c0 eA0 la0 lc0 ac cY aY hs=>?_
  refine E6a o0 o1 o2 o3 o4 o5 a b c d e f v0 v1 v2 v3 v4 v5 i hlx hly1 h1 lc0 hs fun a1 c1 eA1 la1 lc1 ac cY aY hs=>?_
  refine E6b o0 o1 o2 o3 o4 o5 a b c d e f v0 v1 v2 v3 v4 v5 i hlx hly2 h2 lc1 hs fun a2 c2 eA2 la2 lc2 ac cY aY hs=>?_
  refine E6c o0 o1 o2 o3 o4 o5 a b c d e f v0 v1 v2 v3 v4 v5 i hlx hly3 h3 lc2 hs fun a3 c3 eA3 la3 lc3 ac cY aY hs=>?_
  refine E6d o0 o1 o2 o3 o4 o5 a b c d e f v0 v1 v2 v3 v4 v5 i hlx hly4 h4 lc3 hs fun a4 c4 eA4 la4 lc4 ac cY aY hs=>?_
  refine E6e o0 o1 o2 o3 o4 o5 a b c d e f v0 v1 v2 v3 v4 v5 i hlx hly5 h5' lc4 hs fun a5 c5 eA5 la5 lc5 ac cY aY hs=>?_
  refine sQE o0 o1 o2 o3 o4 o5 a b c d e f v0 v1 v2 v3 v4 v5 i la0 ⟨A4,A4⟩ lc5 hs fun q d0 n6 n7 eE eQ ln6 n70 n71 lq ld0 ac cY aY hs=>?_
  refine E6f o0 o1 o2 o3 o4 o5 a b c d e f v0 v1 v2 v3 v4 v5 i lq la1 ld0 hs fun b0 d1 eB1 lb0 ld1 ac cY aY hs=>?_
  refine E6g o0 o1 o2 o3 o4 o5 a b c d e f v0 v1 v2 v3 v4 v5 i lq la2 ld1 hs fun b1 d2 eB2 lb1 ld2 ac cY aY hs=>?_
  refine E6h o0 o1 o2 o3 o4 o5 a b c d e f v0 v1 v2 v3 v4 v5 i lq la3 ld2 hs fun b2 d3 eB3 lb2 ld3 ac cY aY hs=>?_
  refine E6i o0 o1 o2 o3 o4 o5 a b c d e f v0 v1 v2 v3 v4 v5 i lq la4 ld3 hs fun b3 d4 eB4 lb3 ld4 ac cY aY hs=>?_
  refine E6j o0 o1 o2 o3 o4 o5 a b c d e f v0 v1 v2 v3 v4 v5 i lq la5 ld4 hs fun b4 d5 eB5 lb4 ld5 ac cY aY hs=>?_
  refine sQI o0 o1 o2 o3 o4 o5 a b c d e f v0 v1 v2 v3 v4 v5 i h5 ln6 ld5 hs fun b5 c6 eI lb5 c60 c61 ac cY aY hs=>?_
  have hall:=D5x eA0 eA1 eA2 eA3 eA4 eA5 eE eQ eB1 eB2 eB3 eB4 eB5 eI;rw[<-ey] at hall;have hlt' := C0h hlt (by have:=hlx.2;omega) hyr (by omega) lq.2 hall
  have htop:=E6u lb0 lb1 lb2 lb3 lb4 lb5 (by omega) hlt'
  rw[htop,Int.mul_zero,Int.add_zero] at hall hlt'
  rw[htop] at hs;exact ih ⟨(i+1,b0,b1,b2,b3,b4,b5,wrap IntKind.u64 0,n7),⟨h5,lb0,lb1,lb2,lb3,lb4,lb5,rfl,hlt',hround _ q lq.1 hall⟩⟩ (by show 6-(i+1)<6-i;omega) ac cY aY hs
 ·have hi6:i=6:=by omega
  subst hi6;have hT:0<=I0 r0 r1 r2 r3 r4 r5:=Ao h0.1 h1.1 h2.1 h3.1 h4.1 h5'.1;rw[hT6] at hQ;have hb6:(2 ^ (64*6):Nat)=B6:=A5n;rw[hb6] at hQ;have hlast:=XK hT hQ;have hred:DK (I0 r0 r1 r2 r3 r4 r5).toNat=DK (A*Y*pnv):=A1p (B8e QD hlast);rw[<-hred];refine HL W9 hk hm (zX o0 o1 o2 o3 o4 o5 a b c d e f v0 v1 v2 v3 v4 v5 6 r0 r1 r2 r3 r4 r5 0 r7) rfl ?_ (fun y cs h=>h) (.inl ⟨_,_,rfl,rfl⟩) hs
  refine ⟨A4,A4,A4,A4,A4,h0,h1,h2,h3,h4,h5',hlt,rfl,rfl,rfl,rfl,rfl,rfl,rfl,C4⟩
end
section
theorem MuC.pre{P:Program}{f off len es:Nat}{e1 e2 e' : En}{rest:List SV}(h:MuC P f off len es e2 rest e')(hl:∃l l',e1 = .fl l∧e2 = .fl l')(hd:∀x cs,C9 x e1 cs->C9 x e2 cs):MuC P f off len es e1 rest e' := by
 intro x vs hk hm hden;obtain ⟨l,l',rfl,rfl⟩:=hl;refine h x vs hk ⟨fun p=>?_,fun p r hp=>?_,fun p q hp hn=>?_,fun p e hp hr=>?_,hm.inj,hm.own,hm.fw⟩ hden
 ·rw[<-hm.dom p]
  by_cases h0:p=0<;>simp [one,h0]
 ·by_cases h0:p=0
  ·subst h0;exact hm.fl 0 l rfl
  ·simp [one,h0] at hp
 ·by_cases h0:p=0
  ·subst h0;simp [one] at hp
  ·simp [one,h0] at hp
 ·by_cases h0:p=0
  ·subst h0
   simp only[one,if_true,Option.some.injEq] at hp;subst hp;obtain ⟨cs,ty,hc,hdd⟩:=hm.ent 0 _ rfl hr;exact ⟨cs,ty,hc,hd _ _ hdd⟩
  ·simp [one,h0] at hp
def VQ(a b c d e f y0 y1 y2 y3 y4 y5:Int):En:=.fl [.ob (.fp (DK ((I0 a b c d e f).toNat*(I0 y0 y1 y2 y3 y4 y5).toNat*pnv)))]
def LP:MuS:=fun off len es e rest=>
 match off,len,es,e,rest with
 | 0,6,1,.fl [.ob (.p _)],[.v (.c (.sl (.u64 [a,b,c,d,e,f]))),.v (.c (.sl (.u64 [y0,y1,y2,y3,y4,y5]))),.v (.c (.sl (.u64 [m0,m1,m2,m3,m4,m5]))),.v (.c (.int .u64 neg))]=>
  some ([B1 a,B1 b,B1 c,B1 d,B1 e,B1 f,B1 y0,B1 y1,B1 y2,B1 y3,B1 y4,B1 y5,I0 y0 y1 y2 y3 y4 y5<pN,neg=9940570264628428797,m0=13402431016077863595,m1=2210141511517208575,m2=7435674573564081700,m3=7239337960414712511,m4=5412103778470702295,m5=1873798617647539866],VQ a b c d e f y0 y1 y2 y3 y4 y5)
 | 0,6,1,.fl [.ob (.fp _)],[.v (.c (.sl (.u64 [a,b,c,d,e,f]))),.v (.c (.sl (.u64 [y0,y1,y2,y3,y4,y5]))),.v (.c (.sl (.u64 [m0,m1,m2,m3,m4,m5]))),.v (.c (.int .u64 neg))]=>
  some ([B1 a,B1 b,B1 c,B1 d,B1 e,B1 f,B1 y0,B1 y1,B1 y2,B1 y3,B1 y4,B1 y5,I0 y0 y1 y2 y3 y4 y5<pN,neg=9940570264628428797,m0=13402431016077863595,m1=2210141511517208575,m2=7435674573564081700,m3=7239337960414712511,m4=5412103778470702295,m5=1873798617647539866],VQ a b c d e f y0 y1 y2 y3 y4 y5)
 | _,_,_,_,_=>none
theorem TQ{o:Ob}(hk:o.k=6){a b c d e f y0 y1 y2 y3 y4 y5 neg m0 m1 m2 m3 m4 m5:Int}
  (ho:A5 [B1 a,B1 b,B1 c,B1 d,B1 e,B1 f,B1 y0,B1 y1,B1 y2,B1 y3,B1 y4,B1 y5,I0 y0 y1 y2 y3 y4 y5<pN,neg=9940570264628428797,m0=13402431016077863595,m1=2210141511517208575,m2=7435674573564081700,m3=7239337960414712511,m4=5412103778470702295,m5=1873798617647539866]) :
  MuC Tryz.prog 62 0 6 1 (.fl [.ob o]) [.v (.c (.sl (.u64 [a,b,c,d,e,f]))),.v (.c (.sl (.u64 [y0,y1,y2,y3,y4,y5]))),.v (.c (.sl (.u64 [m0,m1,m2,m3,m4,m5]))),.v (.c (.int .u64 neg))] (VQ a b c d e f y0 y1 y2 y3 y4 y5):=by
 obtain ⟨h1,h2,h3,h4,h5,h6,h7,h8,h9,h10,h11,h12,h13,rfl,rfl,rfl,rfl,rfl,rfl,rfl,_⟩:=ho;obtain ⟨A,hA,eA,rfl,rfl,rfl,rfl,rfl,rfl⟩:=Yc h1 h2 h3 h4 h5 h6;obtain ⟨Y,hY,eY,rfl,rfl,rfl,rfl,rfl,rfl⟩:=Yc h7 h8 h9 h10 h11 h12;refine MuC.pre (e2:=fl6 (A1 o.n 0) (A1 o.n 1) (A1 o.n 2) (A1 o.n 3) (A1 o.n 4) (A1 o.n 5)) ?_ ⟨_,_,rfl,rfl⟩ fun x cs h=>B7s hk h
 unfold VQ;rw[eA,eY,Int.toNat_natCast,Int.toNat_natCast];rw[eY] at h13;exact Yt _ _ _ _ _ _ A Y hA (by exact_mod_cast h13)
def qeE:D6:={ qeD with mu:=fun g=>if g=62 then some (mu1 LP) else qeD.mu g }
theorem LS:A7 Tryz.prog qeE:=
 OK W9 62 LP (A2 Tryz.func62 rfl rfl) fun off len es e rest o e' h ho _ _=>by
  unfold LP at h;split at h
  ·cases h;exact TQ rfl ho
  ·cases h;exact TQ rfl ho
  ·cases h
theorem E2e(x:U6):let b:=Ob.n (.fp x);let c:Int:=13402431016077863595;let d:Int:=9940570264628428797;let f:Int:=2210141511517208575;let g:Int:=7435674573564081700;let h:Int:=7239337960414712511;let i:Int:=5412103778470702295;let j:Int:=1873798617647539866;C2 qeE Tryz.f69 3000 [.v (.a [.ob (.fp x)])] [] [] []=(some ([(B1 (A1 b 0)),(B1 (A1 b 1)),(B1 (A1 b 2)),(B1 (A1 b 3)),(B1 (A1 b 4)),(B1 (A1 b 5)),(B1 (17644856173732828998:Int)),(B1 (754043588434789617:Int)),(B1 (10224657059481499349:Int)),(B1 (7488229067341005760:Int)),(B1 (11130996698012816685:Int)),(B1 (1267921511277847466:Int)),((2708263910654730174793787626328176511836455197166317677006154293982164122222515399004018013397331347120527951271750:Int)<(4002409555221667393417789825735904156556882819939007885332058136124031650490837864442687629129015664037894272559787:Int)),(d=d),(c=c),(f=f),(g=g),(h=h),(i=i),(j=j)],((.v (.a [(.ob (.fp (DK ((((I0 (A1 b 0) (A1 b 1) (A1 b 2) (A1 b 3) (A1 b 4) (A1 b 5))).toNat*2708263910654730174793787626328176511836455197166317677006154293982164122222515399004018013397331347120527951271750)*pnv))))])),[]))):=by intros;kernel_rfl
theorem E0n(x:Fp):let b:=Ob.n (.p x);let c:=B1 (0:Int);let d:Int:=13402431016077863595;let f:Int:=9940570264628428797;let g:Int:=2210141511517208575;let h:Int:=7435674573564081700;let i:Int:=7239337960414712511;let j:Int:=5412103778470702295;let k:Int:=1873798617647539866;C2 qeE Tryz.f67 3000 [.v (.a [.ob (.p x)])] [] [] []=(some ([(B1 (A1 b 0)),(B1 (A1 b 1)),(B1 (A1 b 2)),(B1 (A1 b 3)),(B1 (A1 b 4)),(B1 (A1 b 5)),(B1 (1:Int)),c,c,c,c,c,((1:Int)<(4002409555221667393417789825735904156556882819939007885332058136124031650490837864442687629129015664037894272559787:Int)),(f=f),(d=d),(g=g),(h=h),(i=i),(j=j),(k=k)],((.v (.a [(.ob (.fp (DK ((((I0 (A1 b 0) (A1 b 1) (A1 b 2) (A1 b 3) (A1 b 4) (A1 b 5))).toNat*1)*pnv))))])),[]))):=by intros;kernel_rfl
end
section
def N6(a:U6):Fp:=Fin.ofNat pN a.val
def G9(x:Fp):U6:=Fin.ofNat B6 x.val
theorem Yk(x:Fp):(G9 x).val=x.val:=Nat.mod_eq_of_lt (Nat.lt_trans x.isLt A4)
theorem XL{n:Nat}(h:n<B6):(I0 (A1 n 0) (A1 n 1) (A1 n 2) (A1 n 3) (A1 n 4) (A1 n 5)).toNat=n:=by
 have e:=(Cc n h).1;rw[<-e];exact Int.toNat_natCast n
theorem C4a{r B v s a:Nat}(e:v*B % r=1 % r)(hs:s % r=B*B % r):a*s*v % r=(a % r)*B % r:=by
  have h2:∀a:Nat,a*(v*B) % r=a % r:=fun a=>by rw[<-Nat.mul_mod_mod,e,Nat.mul_mod_mod,Nat.mul_one]
  calc a*s*v % r=(a*v)*s % r:=by congr 1;simp only[Nat.mul_comm,Nat.mul_left_comm]
    _=(a*v)*(B*B) % r:=by rw[<-Nat.mul_mod_mod,hs,Nat.mul_mod_mod]
    _=(a*B)*(v*B) % r:=by congr 1;simp only[Nat.mul_comm,Nat.mul_left_comm]
    _=a*B % r:=h2 _
    _=(a % r)*B % r:=by rw[Nat.mod_mul_mod]
theorem E0z:2708263910654730174793787626328176511836455197166317677006154293982164122222515399004018013397331347120527951271750 % pN=B6*B6 % pN:=by kernel_rfl
theorem C4b(a:U6):K2 Tryz.prog 69 [.v (.a [.ob (.fp a)])] (.v (.a [.ob (.p (N6 a))])) []:=by
 have hn:=XL a.isLt;have hl:=fun i=>D3 a.val i
 refine (A6 LS Tryz.func69 (E2e a) ?_).conv (fun _ _ h=>h) fun y v hd=>?_
 ·exact ⟨hl 0,hl 1,hl 2,hl 3,hl 4,hl 5,⟨A4,A4⟩,⟨A4,A4⟩,⟨A4,A4⟩,⟨A4,A4⟩,⟨A4,A4⟩,⟨A4,A4⟩,A4,rfl,rfl,rfl,rfl,rfl,rfl,rfl,C4⟩
 ·refine A5h (o:=.fp (DK _)) (o' := .p (N6 a)) rfl ?_ hd
  show (DK _).val=_;rw[JX];have hn:(I0 (A1 (Ob.n (Ob.fp a)) 0) (A1 (Ob.n (Ob.fp a)) 1) (A1 (Ob.n (Ob.fp a)) 2) (A1 (Ob.n (Ob.fp a)) 3) (A1 (Ob.n (Ob.fp a)) 4) (A1 (Ob.n (Ob.fp a)) 5)).toNat=a.val:=hn;rw[hn];exact C4a QD E0z
theorem B8c{r B v x:Nat}(e:v*B % r=1 % r):(x*B % r)*1*v % r=x % r:=by
 rw[Nat.mul_one,Nat.mod_mul_mod,Nat.mul_assoc,Nat.mul_comm B,<-Nat.mul_mod_mod,e,Nat.mul_mod_mod,Nat.mul_one]
theorem B8b(x:Fp):K2 Tryz.prog 67 [.v (.a [.ob (.p x)])] (.v (.a [.ob (.fp (G9 x))])) []:=by
 have hn:=XL (n:=(Ob.p x).n) (Nat.lt_trans (LK x) A4);have hl:=fun i=>D3 (Ob.p x).n i
 refine (A6 LS Tryz.func67 (E0n x) ?_).conv (fun _ _ h=>h) fun y v hd=>?_
 ·exact ⟨hl 0,hl 1,hl 2,hl 3,hl 4,hl 5,⟨A4,A4⟩,⟨A4,A4⟩,⟨A4,A4⟩,⟨A4,A4⟩,⟨A4,A4⟩,⟨A4,A4⟩,A4,rfl,rfl,rfl,rfl,rfl,rfl,rfl,C4⟩
 ·refine A5h (o:=.fp (DK _)) (o' := .fp (G9 x)) (Eq.refl 6) ?_ hd
  show (DK _).val=(G9 x).val;rw[JX,hn,Yk];have e:(Ob.p x).n=x.val*B6 % pN:=rfl;rw[e,B8c QD];exact Nat.mod_eq_of_lt x.isLt
end
section
theorem D4f(x y:Fp):let f:=Ob.n (.p y);let g:=Ob.n (.p x);let h:Int:=18446744073709551616;let m:Int:=6;let q:Int:=1;let r:=Ob.k (.p x);let s:=Ob.k (.p y);let t:=0<=(0:Int);let u:Int:=2;let w:Int:=3;let z:Int:=4;let A:Int:=5;let M:=A1 f 2;let N:=A1 f 4;let O:=A1 f 1;let P:=A1 f 3;let Q:=A1 f 0;let j:=A3 0 (A1 g 0) Q (0:Int);let D:=Prod.snd j;let d:=A3 0 (A1 g 1) O D;let B:=Prod.snd d;let b:=A3 0 (A1 g 2) M B;let F:=Prod.snd b;let i:=A3 0 (A1 g 3) P F;let C:=Prod.snd i;let c:=A3 0 (A1 g 4) N C;let G:=Prod.snd c;let H:=Prod.fst j;let I:=Prod.fst d;let J:=Prod.fst b;let K:=Prod.fst i;let L:=Prod.fst c;let R:=A1 f 5;let l:=Prod.fst (A3 0 (A1 g 5) R G);let o:=I0 H I J K L l;C2 qeE Tryz.f98 3000 [.v (.a [.ob (.p x)]),.v (.a [.ob (.p y)])] [] [] []=(some ([t,(0<m),(0<r),t,(0<m),(0<s),(0<=(A1 g 0)),(0<=Q),(Q<h),t,(0<=q),t,(0<m),(0<=q),(q<m),(1<r),(0<=q),(q<m),(1<s),(0<=(A1 g 1)),(0<=O),(O<h),(0<=D),(D<=q),(0<=q),(q<m),(0<=u),(u<m),(2<r),(0<=u),(u<m),(2<s),(0<=(A1 g 2)),(0<=M),(M<h),(0<=B),(B<=q),(0<=u),(u<m),(0<=w),(w<m),(3<r),(0<=w),(w<m),(3<s),(0<=(A1 g 3)),(0<=P),(P<h),(0<=F),(F<=q),(0<=w),(w<m),(0<=z),(z<m),(4<r),(0<=z),(z<m),(4<s),(0<=(A1 g 4)),(0<=N),(N<h),(0<=C),(C<=q),(0<=z),(z<m),(0<=A),(A<m),(5<r),(0<=A),(A<m),(5<s),(0<=(A1 g 5)),(0<=R),(R<h),(0<=G),(G<=q),(0<=A),(A<m),(0<=H),(H<h),(0<=I),(I<h),(0<=J),(J<h),(0<=K),(K<h),(0<=L),(L<h),(0<=l),(l<h),(o<(8004819110443334786835579651471808313113765639878015770664116272248063300981675728885375258258031328075788545119574:Int))],((.v (.a [(.ob (.p (Nv (o).toNat)))])),[]))):=by intros;kernel_rfl
theorem C4z(x y:Fp):let f:=Ob.n (.p y);let g:=Ob.n (.p x);let h:Int:=18446744073709551616;let l:Int:=6;let m:Int:=1;let o:=Ob.k (.p x);let q:=Ob.k (.p y);let s:Int:=0;let t:Int:=2;let u:Int:=3;let w:Int:=4;let z:Int:=5;let G:=A1 f 2;let H:=A1 f 4;let I:=A1 f 1;let J:=A1 f 3;let K:=A1 f 0;let j:=A3 1 (A1 g 0) K s;let C:=Prod.snd j;let d:=A3 1 (A1 g 1) I C;let A:=Prod.snd d;let b:=A3 1 (A1 g 2) G A;let D:=Prod.snd b;let i:=A3 1 (A1 g 3) J D;let B:=Prod.snd i;let c:=A3 1 (A1 g 4) H B;let F:=Prod.snd c;let L:=A1 f 5;let r:=A3 1 (A1 g 5) L F;C2 qeE Tryz.f112 3000 [.v (.a [.ob (.p x)]),.v (.a [.ob (.p y)])] [true] [] []=(some ([(0<=s),(0<l),(0<o),(0<=s),(0<l),(0<q),(0<=(A1 g 0)),(0<=K),(K<h),(0<=s),(0<=m),(0<=s),(0<l),(0<=m),(m<l),(1<o),(0<=m),(m<l),(1<q),(0<=(A1 g 1)),(0<=I),(I<h),(0<=C),(C<=m),(0<=m),(m<l),(0<=t),(t<l),(2<o),(0<=t),(t<l),(2<q),(0<=(A1 g 2)),(0<=G),(G<h),(0<=A),(A<=m),(0<=t),(t<l),(0<=u),(u<l),(3<o),(0<=u),(u<l),(3<q),(0<=(A1 g 3)),(0<=J),(J<h),(0<=D),(D<=m),(0<=u),(u<l),(0<=w),(w<l),(4<o),(0<=w),(w<l),(4<q),(0<=(A1 g 4)),(0<=H),(H<h),(0<=B),(B<=m),(0<=w),(w<l),(0<=z),(z<l),(5<o),(0<=z),(z<l),(5<q),(0<=(A1 g 5)),(0<=L),(L<h),(0<=F),(F<=m),(0<=z),(z<l),(((Prod.snd r) == s)=true)],((.v (.a [(.int .u64 (Prod.fst j)),(.int .u64 (Prod.fst d)),(.int .u64 (Prod.fst b)),(.int .u64 (Prod.fst i)),(.int .u64 (Prod.fst c)),(.int .u64 (Prod.fst r))])),[]))):=by intros;kernel_rfl
theorem C5a(x y:Fp):let j:=Ob.n (.p y);let l:Int:=18446744073709551616;let m:Int:=6;let o:=Ob.n (.p x);let t:Int:=1;let z:Int:=2;let A:Int:=3;let B:Int:=4;let C:Int:=5;let D:=Ob.k (.p x);let F:=Ob.k (.p y);let G:Int:=13402431016077863595;let H:Int:=2210141511517208575;let I:Int:=5412103778470702295;let J:Int:=7435674573564081700;let K:Int:=7239337960414712511;let L:Int:=1873798617647539866;let W:Int:=0;let w:=0<=W;let X:=A1 j 2;let Y:=A1 j 3;let Z:=A1 j 0;let g:=A3 1 (A1 o 0) Z W;let r:=A3 0 (Prod.fst g) G W;let N:=Prod.snd r;let T:=Prod.snd g;let s:=A3 1 (A1 o 1) (A1 j 1) T;let c:=A3 0 (Prod.fst s) H N;let M:=Prod.snd s;let b:=A3 1 (A1 o 2) X M;let O:=Prod.snd b;let d:=A3 1 (A1 o 3) Y O;let Q:=Prod.snd d;let h:=A3 1 (A1 o 4) (A1 j 4) Q;let R:=Prod.snd c;let i:=A3 0 (Prod.fst b) J R;let S:=Prod.snd i;let q:=A3 0 (Prod.fst d) K S;let P:=Prod.snd q;let f:=A3 0 (Prod.fst h) I P;let U:=Prod.snd h;let u:=A3 1 (A1 o 5) (A1 j 5) U;let V:=Prod.snd f;C2 qeE Tryz.f112 3000 [.v (.a [.ob (.p x)]),.v (.a [.ob (.p y)])] [false] [] []=(some ([w,(0<m),(0<D),w,(0<m),(0<F),(0<=(A1 o 0)),(0<=Z),(Z<l),w,(0<=t),w,(0<m),(0<=t),(t<m),(1<D),(0<=t),(t<m),(1<F),(0<=(A1 o 1)),(0<=(A1 j 1)),((A1 j 1)<l),(0<=T),(T<=t),(0<=t),(t<m),(0<=z),(z<m),(2<D),(0<=z),(z<m),(2<F),(0<=(A1 o 2)),(0<=X),(X<l),(0<=M),(M<=t),(0<=z),(z<m),(0<=A),(A<m),(3<D),(0<=A),(A<m),(3<F),(0<=(A1 o 3)),(0<=Y),(Y<l),(0<=O),(O<=t),(0<=A),(A<m),(0<=B),(B<m),(4<D),(0<=B),(B<m),(4<F),(0<=(A1 o 4)),(0<=(A1 j 4)),((A1 j 4)<l),(0<=Q),(Q<=t),(0<=B),(B<m),(0<=C),(C<m),(5<D),(0<=C),(C<m),(5<F),(0<=(A1 o 5)),(0<=(A1 j 5)),((A1 j 5)<l),(0<=U),(U<=t),(0<=C),(C<m),(((Prod.snd u) == W)=false),w,(0<m),w,(0<m),(0<6),(0<=(Prod.fst g)),(0<=G),(G<l),w,(0<=t),w,(0<m),(0<=t),(t<m),(0<=t),(t<m),(1<6),(0<=(Prod.fst s)),(0<=H),(H<l),(0<=N),(N<=t),(0<=t),(t<m),(0<=z),(z<m),(0<=z),(z<m),(2<6),(0<=(Prod.fst b)),(0<=J),(J<l),(0<=R),(R<=t),(0<=z),(z<m),(0<=A),(A<m),(0<=A),(A<m),(3<6),(0<=(Prod.fst d)),(0<=K),(K<l),(0<=S),(S<=t),(0<=A),(A<m),(0<=B),(B<m),(0<=B),(B<m),(4<6),(0<=(Prod.fst h)),(0<=I),(I<l),(0<=P),(P<=t),(0<=B),(B<m),(0<=C),(C<m),(0<=C),(C<m),(5<6),(0<=(Prod.fst u)),(0<=L),(L<l),(0<=V),(V<=t),(0<=C),(C<m)],((.v (.a [(.int .u64 (Prod.fst r)),(.int .u64 (Prod.fst c)),(.int .u64 (Prod.fst i)),(.int .u64 (Prod.fst q)),(.int .u64 (Prod.fst f)),(.int .u64 (Prod.fst (A3 0 (Prod.fst u) L V)))])),[]))):=by intros;kernel_rfl
end
section
theorem A9j{x y r B:Nat}:((x+y) % r)*B % r=(x*B % r+y*B % r) % r:=by
 rw[Nat.mod_mul_mod,Nat.add_mul,<-Nat.add_mod]
theorem C6v(x y:Fp):(Ob.p (x+y)).n=((Ob.p x).n+(Ob.p y).n) % pN:=by
 exact A9j
theorem UO{n:Nat}(x y:Fin n):x-y+y=x:=by
 apply Fin.ext
 simp only[Fin.add_def,Fin.sub_def];have:=y.isLt
 rw[Nat.mod_add_mod,show n-y.val+x.val+y.val=x.val+n from by omega,Nat.add_mod_right,Nat.mod_eq_of_lt x.isLt]
theorem C6w(x y:Fp):((Ob.p (x-y)).n+(Ob.p y).n) % pN=(Ob.p x).n:=by
 rw[<-C6v,UO]
theorem B1g{r B v x y:Nat}(e:v*B % r=1 % r):(x*B % r+y*B % r)*v % r=(x+y) % r:=by
 rw[<-Nat.mod_mul_mod,<-Nat.add_mod,Nat.mod_mul_mod,<-Nat.add_mul,Nat.mul_assoc,Nat.mul_comm B,<-Nat.mul_mod_mod,e,Nat.mul_mod_mod,Nat.mul_one]
theorem B9m(x y:Fp):Nv ((Ob.p x).n+(Ob.p y).n)=x+y:=by
 apply Fin.ext
 have e:(Ob.p x).n=x.val*B6 % pN:=rfl;have e' : (Ob.p y).n=y.val*B6 % pN:=rfl;rw[e,e'];exact B1g QD
theorem C9w{a0 a1 a2 a3 a4 a5 b0 b1 b2 b3 b4 b5 o0 o1 o2 o3 o4 o5 v0 v1 v2 v3 v4 v5:Int}(e0:a0+b0+0=o0+18446744073709551616*v0)(e1:a1+b1+v0=o1+18446744073709551616*v1)(e2:a2+b2+v1=o2+18446744073709551616*v2)(e3:a3+b3+v2=o3+18446744073709551616*v3)(e4:a4+b4+v3=o4+18446744073709551616*v4)(e5:a5+b5+v4=o5+18446744073709551616*v5) :
  I0 o0 o1 o2 o3 o4 o5+39402006196394479212279040100143613805079739270465446667948293404245721771497210611414266254884915640806627990306816*v5=I0 a0 a1 a2 a3 a4 a5+I0 b0 b1 b2 b3 b4 b5:=by
 unfold I0;omega
theorem E1c{a0 a1 a2 a3 a4 a5 b0 b1 b2 b3 b4 b5 o0 o1 o2 o3 o4 o5 v0 v1 v2 v3 v4 v5:Int}(e0:o0=a0-b0-0+18446744073709551616*v0)(e1:o1=a1-b1-v0+18446744073709551616*v1)(e2:o2=a2-b2-v1+18446744073709551616*v2)(e3:o3=a3-b3-v2+18446744073709551616*v3)(e4:o4=a4-b4-v3+18446744073709551616*v4)(e5:o5=a5-b5-v4+18446744073709551616*v5) :
  I0 o0 o1 o2 o3 o4 o5-39402006196394479212279040100143613805079739270465446667948293404245721771497210611414266254884915640806627990306816*v5=I0 a0 a1 a2 a3 a4 a5-I0 b0 b1 b2 b3 b4 b5:=by
 unfold I0;omega
theorem A9n(x y:Fp):K2 Tryz.prog 98 [.v (.a [.ob (.p x)]),.v (.a [.ob (.p y)])] (.v (.a [.ob (.p (x+y))])) []:=by
 have r0:=D4f x y;dsimp only at r0;have hX:=LK x;have hY:=LK y;have hadd:=B9m x y;have ex:=(Cc (Ob.p x).n (Nat.lt_trans (LK x) A4)).1;have ey:=(Cc (Ob.p y).n (Nat.lt_trans (LK y) A4)).1;have x0:=D3 (Ob.p x).n 0;have x1:=D3 (Ob.p x).n 1;have x2:=D3 (Ob.p x).n 2;have x3:=D3 (Ob.p x).n 3;have x4:=D3 (Ob.p x).n 4;have x5:=D3 (Ob.p x).n 5;have y0:=D3 (Ob.p y).n 0;have y1:=D3 (Ob.p y).n 1;have y2:=D3 (Ob.p y).n 2;have y3:=D3 (Ob.p y).n 3;have y4:=D3 (Ob.p y).n 4;have y5:=D3 (Ob.p y).n 5;generalize A1 (Ob.p x).n 0=a0 at *;generalize A1 (Ob.p x).n 1=a1 at *;generalize A1 (Ob.p x).n 2=a2 at *;generalize A1 (Ob.p x).n 3=a3 at *;generalize A1 (Ob.p x).n 4=a4 at *;generalize A1 (Ob.p x).n 5=a5 at *;generalize A1 (Ob.p y).n 0=b0 at *;generalize A1 (Ob.p y).n 1=b1 at *;generalize A1 (Ob.p y).n 2=b2 at *;generalize A1 (Ob.p y).n 3=b3 at *;generalize A1 (Ob.p y).n 4=b4 at *;generalize A1 (Ob.p y).n 5=b5 at *;obtain ⟨e0,p0,p0',c0,c0'⟩:=G1 (c:=0) x0.1 x0.2 y0.1 y0.2 A4 A4;obtain ⟨e1,p1,p1',c1,c1'⟩:=G1 x1.1 x1.2 y1.1 y1.2 c0 c0';obtain ⟨e2,p2,p2',c2,c2'⟩:=G1 x2.1 x2.2 y2.1 y2.2 c1 c1';obtain ⟨e3,p3,p3',c3,c3'⟩:=G1 x3.1 x3.2 y3.1 y3.2 c2 c2';obtain ⟨e4,p4,p4',c4,c4'⟩:=G1 x4.1 x4.2 y4.1 y4.2 c3 c3';obtain ⟨e5,p5,p5',c5,c5'⟩:=G1 x5.1 x5.2 y5.1 y5.2 c4 c4';generalize hq0:A3 0 a0 b0 0=q0 at *;generalize hq1:A3 0 a1 b1 q0.2=q1 at *;generalize hq2:A3 0 a2 b2 q1.2=q2 at *;generalize hq3:A3 0 a3 b3 q2.2=q3 at *;generalize hq4:A3 0 a4 b4 q3.2=q4 at *;generalize hq5:A3 0 a5 b5 q4.2=q5 at *;clear hq0 hq1 hq2 hq3 hq4 hq5;have hS:=C9w e0 e1 e2 e3 e4 e5;rw[<-ex,<-ey] at hS;have hp:=Ci;have hO:=lt6 p0 p0' p1 p1' p2 p2' p3 p3' p4 p4' p5 p5';have hO0:=Ao p0 p1 p2 p3 p4 p5;have hv:q5.2=0:=by omega
 rw[hv,Int.mul_zero,Int.add_zero] at hS;have hlt:I0 q0.1 q1.1 q2.1 q3.1 q4.1 q5.1<2*pN:=by omega
 refine (A6 LS Tryz.func98 r0 ?_).conv (fun _ _ h=>h) fun z v hd=>?_
 ·simp only[A5,and_true,Ob.k]
  clear hS hO hO0 hX hY ex ey hadd r0 e0 e1 e2 e3 e4 e5 hp;obtain ⟨x0,x0'⟩:=x0;obtain ⟨y0,y0'⟩:=y0;obtain ⟨x1,x1'⟩:=x1;obtain ⟨y1,y1'⟩:=y1;obtain ⟨x2,x2'⟩:=x2;obtain ⟨y2,y2'⟩:=y2;obtain ⟨x3,x3'⟩:=x3;obtain ⟨y3,y3'⟩:=y3;obtain ⟨x4,x4'⟩:=x4;obtain ⟨y4,y4'⟩:=y4;obtain ⟨x5,x5'⟩:=x5;obtain ⟨y5,y5'⟩:=y5;and_intros<;>first | assumption | decide | omega
 ·have hN' : (I0 q0.1 q1.1 q2.1 q3.1 q4.1 q5.1).toNat=(Ob.p x).n+(Ob.p y).n:=by omega
  rw[hN',hadd] at hd;exact hd
theorem A2f{X Y Z r:Nat}(_hX:X<r)(hY:Y<r)(hZ:Z<r)(h:(Z+Y) % r=X):(Y<=X∧(Z:Int)=X-Y)∨(X<Y∧(Z:Int)=X+r-Y):=by
 by_cases hl:Z+Y<r
 ·rw[Nat.mod_eq_of_lt hl] at h
  left;omega
 ·rw[Nat.mod_eq_sub_mod (by omega),Nat.mod_eq_of_lt (by omega)] at h
  right;omega
theorem C0m{X Y Z:Nat}{N W v:Int}(hX:X<pN)(hY:Y<pN)(hcase:(Y<=X∧(Z:Int)=X-Y)∨(X<Y∧(Z:Int)=X+pN-Y))
  (hdiff:N-39402006196394479212279040100143613805079739270465446667948293404245721771497210611414266254884915640806627990306816*1=(X:Int)-Y) (hN1:N<39402006196394479212279040100143613805079739270465446667948293404245721771497210611414266254884915640806627990306816) (hW0:0<=W) (hW1:W<39402006196394479212279040100143613805079739270465446667948293404245721771497210611414266254884915640806627990306816) (hv0:0<=v) (hv1:v<=1)
  (hsum:W+39402006196394479212279040100143613805079739270465446667948293404245721771497210611414266254884915640806627990306816*v=N+I0 13402431016077863595 2210141511517208575 7435674573564081700 7239337960414712511 5412103778470702295 1873798617647539866):(Z:Int)=W:=by
 have hp:=Ci;have hm:I0 13402431016077863595 2210141511517208575 7435674573564081700 7239337960414712511 5412103778470702295 1873798617647539866=4002409555221667393417789825735904156556882819939007885332058136124031650490837864442687629129015664037894272559787:=by decide
 rw[hm] at hsum;have:v=0∨v=1:=by omega
 rcases hcase with ⟨h1,h2⟩ | ⟨h1,h2⟩
 ·exfalso;omega
 ·rcases this with rfl | rfl<;>omega
theorem A0c(x y:Fp):K2 Tryz.prog 112 [.v (.a [.ob (.p x)]),.v (.a [.ob (.p y)])] (.v (.a [.ob (.p (x-y))])) []:=by
 have r0:=C4z x y;dsimp only at r0;have r1:=C5a x y;dsimp only at r1;have hX:=LK x;have hY:=LK y;have hZ:=LK (x-y);have hsub:=C6w x y;have ex:=(Cc (Ob.p x).n (Nat.lt_trans (LK x) A4)).1;have ey:=(Cc (Ob.p y).n (Nat.lt_trans (LK y) A4)).1;have x0:=D3 (Ob.p x).n 0;have x1:=D3 (Ob.p x).n 1;have x2:=D3 (Ob.p x).n 2;have x3:=D3 (Ob.p x).n 3;have x4:=D3 (Ob.p x).n 4;have x5:=D3 (Ob.p x).n 5;have y0:=D3 (Ob.p y).n 0;have y1:=D3 (Ob.p y).n 1;have y2:=D3 (Ob.p y).n 2;have y3:=D3 (Ob.p y).n 3;have y4:=D3 (Ob.p y).n 4;have y5:=D3 (Ob.p y).n 5;generalize A1 (Ob.p x).n 0=a0 at *;generalize A1 (Ob.p x).n 1=a1 at *;generalize A1 (Ob.p x).n 2=a2 at *;generalize A1 (Ob.p x).n 3=a3 at *;generalize A1 (Ob.p x).n 4=a4 at *;generalize A1 (Ob.p x).n 5=a5 at *;generalize A1 (Ob.p y).n 0=b0 at *;generalize A1 (Ob.p y).n 1=b1 at *;generalize A1 (Ob.p y).n 2=b2 at *;generalize A1 (Ob.p y).n 3=b3 at *;generalize A1 (Ob.p y).n 4=b4 at *;generalize A1 (Ob.p y).n 5=b5 at *;obtain ⟨e0,p0,p0',c0,c0'⟩:=F6 (c:=0) x0.1 x0.2 y0.1 y0.2 A4 A4;obtain ⟨e1,p1,p1',c1,c1'⟩:=F6 x1.1 x1.2 y1.1 y1.2 c0 c0';obtain ⟨e2,p2,p2',c2,c2'⟩:=F6 x2.1 x2.2 y2.1 y2.2 c1 c1';obtain ⟨e3,p3,p3',c3,c3'⟩:=F6 x3.1 x3.2 y3.1 y3.2 c2 c2';obtain ⟨e4,p4,p4',c4,c4'⟩:=F6 x4.1 x4.2 y4.1 y4.2 c3 c3';obtain ⟨e5,p5,p5',c5,c5'⟩:=F6 x5.1 x5.2 y5.1 y5.2 c4 c4';generalize hq0:A3 1 a0 b0 0=q0 at *;generalize hq1:A3 1 a1 b1 q0.2=q1 at *;generalize hq2:A3 1 a2 b2 q1.2=q2 at *;generalize hq3:A3 1 a3 b3 q2.2=q3 at *;generalize hq4:A3 1 a4 b4 q3.2=q4 at *;generalize hq5:A3 1 a5 b5 q4.2=q5 at *;clear hq0 hq1 hq2 hq3 hq4 hq5;have hcase:=A2f hX hY hZ hsub;have hdiff:=E1c e0 e1 e2 e3 e4 e5;rw[<-ex,<-ey] at hdiff;have hO:=lt6 p0 p0' p1 p1' p2 p2' p3 p3' p4 p4' p5 p5';have hO0:=Ao p0 p1 p2 p3 p4 p5;have hp:=Ci;by_cases hz:q5.2=0
 ·refine (A6 LS Tryz.func112 r0 ?_).conv (fun _ _ h=>h) fun z v hd=>FL rfl (AI p0 p0' p1 p1' p2 p2' p3 p3' p4 p4' p5 p5' ?_) hd
  ·simp only[A5,and_true,Ob.k,beq_iff_eq]
   clear hsub hX hY hZ ex ey r0 r1 hcase hdiff hO hO0 hp e0 e1 e2 e3 e4 e5;obtain ⟨x0,x0'⟩:=x0;obtain ⟨y0,y0'⟩:=y0;obtain ⟨x1,x1'⟩:=x1;obtain ⟨y1,y1'⟩:=y1;obtain ⟨x2,x2'⟩:=x2;obtain ⟨y2,y2'⟩:=y2;obtain ⟨x3,x3'⟩:=x3;obtain ⟨y3,y3'⟩:=y3;obtain ⟨x4,x4'⟩:=x4;obtain ⟨y4,y4'⟩:=y4;obtain ⟨x5,x5'⟩:=x5;obtain ⟨y5,y5'⟩:=y5;and_intros<;>first | assumption | decide | omega
  ·rw[hz] at hdiff
   rcases hcase with ⟨h1,h2⟩ | ⟨h1,h2⟩<;>omega
 ·have hz1:q5.2=1:=by omega
  obtain ⟨f0,s0,s0',d0,d0'⟩:=G1 (y:=13402431016077863595) (c:=0) p0 p0' A4 A4 A4 A4;obtain ⟨f1,s1,s1',d1,d1'⟩:=G1 (y:=2210141511517208575) p1 p1' A4 A4 d0 d0';obtain ⟨f2,s2,s2',d2,d2'⟩:=G1 (y:=7435674573564081700) p2 p2' A4 A4 d1 d1';obtain ⟨f3,s3,s3',d3,d3'⟩:=G1 (y:=7239337960414712511) p3 p3' A4 A4 d2 d2';obtain ⟨f4,s4,s4',d4,d4'⟩:=G1 (y:=5412103778470702295) p4 p4' A4 A4 d3 d3';obtain ⟨f5,s5,s5',d5,d5'⟩:=G1 (y:=1873798617647539866) p5 p5' A4 A4 d4 d4';generalize hw0:A3 0 q0.1 13402431016077863595 0=w0 at *;generalize hw1:A3 0 q1.1 2210141511517208575 w0.2=w1 at *;generalize hw2:A3 0 q2.1 7435674573564081700 w1.2=w2 at *;generalize hw3:A3 0 q3.1 7239337960414712511 w2.2=w3 at *;generalize hw4:A3 0 q4.1 5412103778470702295 w3.2=w4 at *;generalize hw5:A3 0 q5.1 1873798617647539866 w4.2=w5 at *;clear hw0 hw1 hw2 hw3 hw4 hw5;have hS:=C9w f0 f1 f2 f3 f4 f5;have hW:=lt6 s0 s0' s1 s1' s2 s2' s3 s3' s4 s4' s5 s5';have hW0:=Ao s0 s1 s2 s3 s4 s5;refine (A6 LS Tryz.func112 r1 ?_).conv (fun _ _ h=>h) fun z v hd=>FL rfl (AI s0 s0' s1 s1' s2 s2' s3 s3' s4 s4' s5 s5' ?_) hd
  ·simp only[A5,and_true,Ob.k,beq_eq_false_iff_ne]
   clear hsub hX hY hZ ex ey r0 r1 hcase hdiff hO hO0 hp hS hW hW0 e0 e1 e2 e3 e4 e5 f0 f1 f2 f3 f4 f5;obtain ⟨x0,x0'⟩:=x0;obtain ⟨y0,y0'⟩:=y0;obtain ⟨x1,x1'⟩:=x1;obtain ⟨y1,y1'⟩:=y1;obtain ⟨x2,x2'⟩:=x2;obtain ⟨y2,y2'⟩:=y2;obtain ⟨x3,x3'⟩:=x3;obtain ⟨y3,y3'⟩:=y3;obtain ⟨x4,x4'⟩:=x4;obtain ⟨y4,y4'⟩:=y4;obtain ⟨x5,x5'⟩:=x5;obtain ⟨y5,y5'⟩:=y5;and_intros<;>first | assumption | decide | omega
  ·rw[hz1] at hdiff
   exact C0m hX hY hcase hdiff hO hW0 hW d5 d5' hS
end
section
def UX:B2
 | [.v (.a [.ob (.fp a)])]=>some ([],.v (.a [.ob (.p (N6 a))]),[])
 | _=>none
def D4n:D6:=qeE.set (E0 qeE.fn 69 UX)
theorem C7l:A7 Tryz.prog D4n:=A8 LS 69 UX (A2 Tryz.func69 rfl rfl) fun args o r es h _=>by
 unfold UX at h;split at h
 ·cases h;exact C4b _
 ·cases h
def Qy:B2
 | [.v (.a [.ob (.p x)])]=>some ([],.v (.a [.ob (.fp (G9 x))]),[])
 | _=>none
def D4o:D6:=D4n.set (E0 D4n.fn 67 Qy)
theorem C7m:A7 Tryz.prog D4o:=A8 C7l 67 Qy (A2 Tryz.func67 rfl rfl) fun args o r es h _=>by
 unfold Qy at h;split at h
 ·cases h;exact B8b _
 ·cases h
def IB:B2
 | [.v (.a [.ob (.p x)]),.v (.a [.ob (.p y)])]=>some ([],.v (.a [.ob (.p (x*y))]),[])
 | _=>none
def D4p:D6:=D4o.set (E0 D4o.fn 97 IB)
theorem C7n:A7 Tryz.prog D4p:=A8 C7m 97 IB (A2 Tryz.func97 rfl rfl) fun args o r es h _=>by
 unfold IB at h;split at h
 ·cases h;exact A2k _ _
 ·cases h
def LN:B2
 | [.v (.a [.ob (.p x)]),.v (.a [.ob (.p y)])]=>some ([],.v (.a [.ob (.p (x+y))]),[])
 | _=>none
def D4q:D6:=D4p.set (E0 D4p.fn 98 LN)
theorem C7o:A7 Tryz.prog D4q:=A8 C7n 98 LN (A2 Tryz.func98 rfl rfl) fun args o r es h _=>by
 unfold LN at h;split at h
 ·cases h;exact A9n _ _
 ·cases h
def HK:B2
 | [.v (.a [.ob (.p x)]),.v (.a [.ob (.p y)])]=>some ([],.v (.a [.ob (.p (x-y))]),[])
 | _=>none
def qeF:D6:=D4q.set (E0 D4q.fn 112 HK)
theorem VU:A7 Tryz.prog qeF:=A8 C7o 112 HK (A2 Tryz.func112 rfl rfl) fun args o r es h _=>by
 unfold HK at h;split at h
 ·cases h;exact A0c _ _
 ·cases h
theorem C8p(n:Int):let b:Int:=18446744073709551616;let d:=0<=(0:Int);C2 qeF Tryz.f68 3000 [.v (.c (.int .u64 n))] [] [] []=(some ([(0<=n),(n<b),d,(0<b),d,(0<b),d,(0<b),d,(0<b),d,(0<b)],((.v (.a [(.ob (.p (N6 (Fin.ofNat B6 ((n).toNat+0)))))])),[]))):=by intros;kernel_rfl
theorem D9i(x:Fp):C2 qeF Tryz.f134 3000 [.v (.a [.ob (.p x)])] [] [] []=(some ([],((.v (.a [(.ob (.p ((0:Fp)-x)))])),[]))):=by kernel_rfl
theorem D7r(x:Fp):C2 qeF Tryz.f133 3000 [.v (.a [.ob (.p x)])] [] [] []=(some ([],((.ci (.bool (ite (true=true) (decide (x=(0:Fp))) (Bool.not (decide (x=(0:Fp))))))),[]))):=by kernel_rfl
end
namespace S4
def AL:B2
 | [.v (.c (.int .u64 x)),.v (.c (.int .u64 y))]=>some ([0<=x,x<18446744073709551616,0<=y,y<18446744073709551616],.t [.c (.int .u64 (x*y / 18446744073709551616)),.c (.int .u64 (x*y % 18446744073709551616))],[])
 | _=>none
def C3l:D6:=AC.set (E0 AC.fn 58 AL)
theorem A3u:A7 Tryz.prog C3l:=
 A8 I1 58 AL (A2 Tryz.func58 rfl rfl) fun args o r es h ho=>by
  unfold AL at h;split at h
  ·cases h;exact TE _ _ ho.1 ho.2.1 ho.2.2.1 ho.2.2.2.1
  ·cases h
theorem D8f  : C2 C3l Tryz.f61 3000 [] [] [] []=(some ([(0<=(18446744069414584321:Int)),((18446744069414584321:Int)<(18446744073709551616:Int)),(0<=(6034159408538082302:Int)),((6034159408538082302:Int)<(18446744073709551616:Int)),(0<=(3691218898639771653:Int)),((3691218898639771653:Int)<(18446744073709551616:Int)),(0<=(8353516859464449352:Int)),((8353516859464449352:Int)<(18446744073709551616:Int))],((.v (.a [(.ob (.fr (Fin.ofNat B4 52435875175126190479447740508185965837690552500527637822603658699938581184513)))])),[]))):=by kernel_rfl
def rU:U4:=Fin.ofNat B4 rN
def KO:B2
 | []=>some ([],.v (.a [.ob (.fr rU)]),[])
 | _=>none
theorem A7o:K2 Tryz.prog 61 [] (.v (.a [.ob (.fr rU)])) []:=
 (A6 A3u Tryz.func61 D8f (by simp [A5])).conv (fun _ _ h=>h) fun y v hd=>by
  have e:rU=Fin.ofNat B4 (((18446744069414584321:Int)).toNat+(18446744073709551616*(((6034159408538082302:Int)).toNat+(18446744073709551616*(((3691218898639771653:Int)).toNat+(18446744073709551616*(((8353516859464449352:Int)).toNat+(18446744073709551616*0)))))))):=by kernel_rfl
  rw[e];exact hd
def B3e:D6:=C3l.set (E0 C3l.fn 61 KO)
theorem UL:A7 Tryz.prog B3e:=
 A8 A3u 61 KO (A2 Tryz.func61 rfl rfl) fun args o r es h ho=>by
  unfold KO at h;split at h
  ·cases h;exact A7o
  ·cases h
theorem D5o(a b c d:Int):let i:Int:=4;let j:Int:=18446744073709551616;let k:Int:=8353516859464449352;let l:Int:=1;let m:Int:=18446744069414584321;let n:Int:=6034159408538082302;let o:Int:=3691218898639771653;let p:Int:=2;let q:Int:=3;let s:Int:=0;let h:=A3 1 a m s;let t:=Prod.snd h;let f:=A3 1 b n t;let u:=Prod.snd f;let g:=A3 1 c o u;let r:=Prod.snd g;C2 B3e Tryz.f60 3000 [.v (.a [.int .u64 a,.int .u64 b,.int .u64 c,.int .u64 d])] [true,true,true,true,false,true] [] []=(some ([((decide (0<i))=true),(0<=s),(0<i),(0<=s),(0<i),(0<4),(0<=a),(0<=m),(m<j),(0<=s),(0<=l),(0<=s),(0<i),((decide (l<i))=true),(0<=l),(l<i),(0<=l),(l<i),(1<4),(0<=b),(0<=n),(n<j),(0<=t),(t<=l),(0<=l),(l<i),((decide (p<i))=true),(0<=p),(p<i),(0<=p),(p<i),(2<4),(0<=c),(0<=o),(o<j),(0<=u),(u<=l),(0<=p),(p<i),((decide (q<i))=true),(0<=q),(q<i),(0<=q),(q<i),(3<4),(0<=d),(0<=k),(k<j),(0<=r),(r<=l),(0<=q),(q<i),((decide (i<i))=false),(((Prod.snd (A3 1 d k r)) == s)=true)],((.v (.a [(.int .u64 (Prod.fst h)),(.int .u64 (Prod.fst f)),(.int .u64 (Prod.fst g)),(.int .u64 (Prod.fst (A3 1 d k r)))])),[]))):=by intros;kernel_rfl
theorem D5p(a b c d:Int):let h:Int:=4;let i:Int:=3691218898639771653;let j:Int:=18446744073709551616;let k:Int:=1;let l:Int:=18446744069414584321;let m:Int:=6034159408538082302;let n:Int:=8353516859464449352;let p:Int:=2;let q:Int:=3;let r:Int:=0;let g:=Prod.snd (A3 1 a l r);let f:=Prod.snd (A3 1 b m g);let o:=Prod.snd (A3 1 c i f);C2 B3e Tryz.f60 3000 [.v (.a [.int .u64 a,.int .u64 b,.int .u64 c,.int .u64 d])] [true,true,true,true,false,false] [] []=(some ([((decide (0<h))=true),(0<=r),(0<h),(0<=r),(0<h),(0<4),(0<=a),(0<=l),(l<j),(0<=r),(0<=k),(0<=r),(0<h),((decide (k<h))=true),(0<=k),(k<h),(0<=k),(k<h),(1<4),(0<=b),(0<=m),(m<j),(0<=g),(g<=k),(0<=k),(k<h),((decide (p<h))=true),(0<=p),(p<h),(0<=p),(p<h),(2<4),(0<=c),(0<=i),(i<j),(0<=f),(f<=k),(0<=p),(p<h),((decide (q<h))=true),(0<=q),(q<h),(0<=q),(q<h),(3<4),(0<=d),(0<=n),(n<j),(0<=o),(o<=k),(0<=q),(q<h),((decide (h<h))=false),(((Prod.snd (A3 1 d n o)) == r)=false)],((.v (.a [(.int .u64 a),(.int .u64 b),(.int .u64 c),(.int .u64 d)])),[]))):=by intros;kernel_rfl
end S4
namespace S4
def E5(a b c d:Int):Int:=a+18446744073709551616*b+340282366920938463463374607431768211456*c+6277101735386680763835789423207666416102355444464034512896*d
def FY:B2
 | [.v (.a [.int .u64 a,.int .u64 b,.int .u64 c,.int .u64 d])]=>some ([0<=a,a<18446744073709551616,0<=b,b<18446744073709551616,0<=c,c<18446744073709551616,0<=d,d<18446744073709551616,E5 a b c d<2*rN],.v (.a [.ob (.s (RR (E5 a b c d).toNat))]),[])
 | _=>none
theorem Yz(a b c d:Int)(ha:0<=a)(ha1:a<18446744073709551616)(hb:0<=b)(hb1:b<18446744073709551616)(hc:0<=c)(hc1:c<18446744073709551616)(hd:0<=d)(hd1:d<18446744073709551616)(hn:E5 a b c d<2*rN) :
  K2 Tryz.prog 60 [.v (.a [.int .u64 a,.int .u64 b,.int .u64 c,.int .u64 d])] (.v (.a [.ob (.s (RR (E5 a b c d).toNat))])) []:=by
 have r0:=D5o a b c d;dsimp only at r0;have r1:=D5p a b c d;dsimp only at r1;obtain ⟨e1,o1,o1',c1,c1'⟩:=F6 (y:=18446744069414584321) (c:=0) ha ha1 A4 A4 A4 A4;obtain ⟨e2,o2,o2',c2,c2'⟩:=F6 (y:=6034159408538082302) hb hb1 A4 A4 c1 c1';obtain ⟨e3,o3,o3',c3,c3'⟩:=F6 (y:=3691218898639771653) hc hc1 A4 A4 c2 c2';obtain ⟨e4,o4,o4',c4,c4'⟩:=F6 (y:=8353516859464449352) hd hd1 A4 A4 c3 c3';generalize hx1:A3 1 a 18446744069414584321 0=x1 at *;generalize hx2:A3 1 b 6034159408538082302 x1.2=x2 at *;generalize hx3:A3 1 c 3691218898639771653 x2.2=x3 at *;generalize hx4:A3 1 d 8353516859464449352 x3.2=x4 at *;clear hx1 hx2 hx3 hx4;unfold E5 rN at hn;have hnn:0<=E5 a b c d:=by unfold E5;omega
 have hN:((E5 a b c d).toNat:Int)=E5 a b c d:=Int.toNat_of_nonneg hnn;by_cases hz:x4.2=0
 ·refine (A6 UL Tryz.func60 r0 ?_).conv (fun _ _ h=>h) fun y v hv=>Jn rfl ?_ hv
  ·simp only[A5,and_true,decide_eq_true_eq,decide_eq_false_iff_not,beq_iff_eq];omega
  ·refine AH o1 o1' o2 o2' o3 o3' o4 o4' ?_
   have e:(Ob.s (RR (E5 a b c d).toNat)).n=(E5 a b c d).toNat-rN:=by
    rw[B9p];have h1:rN<=(E5 a b c d).toNat:=by unfold rN E5;omega
    have h2:(E5 a b c d).toNat<2*rN:=by unfold rN E5;omega
    rw[Nat.mod_eq_sub_mod h1,Nat.mod_eq_of_lt (by omega)]
   rw[e];unfold rN E5;omega
 ·refine (A6 UL Tryz.func60 r1 ?_).conv (fun _ _ h=>h) fun y v hv=>Jn rfl ?_ hv
  ·simp only[A5,and_true,decide_eq_true_eq,decide_eq_false_iff_not,beq_eq_false_iff_ne];omega
  ·refine AH ha ha1 hb hb1 hc hc1 hd hd1 ?_
   have e:(Ob.s (RR (E5 a b c d).toNat)).n=(E5 a b c d).toNat:=by
    rw[B9p];exact Nat.mod_eq_of_lt (by unfold rN E5;omega)
   rw[e,hN];rfl
end S4
namespace S4
section
variable {w0:World} {F0:Nat->Prop} {K:Kp} {ac:List Act} {Q:Exit->Act->World->Prop} {cX:C0} {aX:Act}
def RJ:D6:=B3e.set (E0 B3e.fn 60 FY)
theorem BJ:A7 Tryz.prog RJ:=
 A8 UL 60 FY (A2 Tryz.func60 rfl rfl) fun args o r es h ho=>by
  unfold FY at h;split at h
  ·cases h
   obtain ⟨h1,h2,h3,h4,h5,h6,h7,h8,h9,_⟩:=ho;exact Yz _ _ _ _ h1 h2 h3 h4 h5 h6 h7 h8 h9
  ·cases h
def tc0(x y:Fr):G5:=⟨[.code (B5 Tryz.f27)],.normal,D2 Tryz.f27.ntmps [.v (.a [.ob (.s x)]),.v (.a [.ob (.s y)])]⟩
def Ks:List KI:=(run RJ false 3000 (tc0 dF dF:G5) []).cfg.k
theorem tIn(x y:Fr):let b:=(tc0 x y:G5);let c:Int:=0;(A5 [])->(Sim w0 F0 K ac (b.σ) cX aX)->(∀ac cY aY,Sim w0 F0 K ac (B0 208 [3,4,5,6,7,8,18,19] [.pt 32 0,.pt 48 0,.iu c,.iu c,.iu c,.iu c,(.v (.a [.ob (.s x)])),.ii c] [32,48] [(B9 [.ob (.s y)]),(B9 [(.ob (.s (0:Fr)))])] 160 [] []) cY aY->Wq Tryz.prog Q (Ks) ac Exit.normal aY cY.w)->Wq Tryz.prog Q (b.k) ac b.x aX cX.w:=fun ho hs hK=>
 DN (unroll:=false) (n:=3000) (path:=[]) (o:=⟨_,_,_,_,_,_,_⟩) BJ (by kernel_rfl) (by kernel_rfl) ho hs hK
def tS(x y:Fr)(i:Nat)(t0 t1 t2 t3 :Int):St:=B0 208 [3,4,5,6,7,8,18,19] [.pt 32 0,.pt 48 0,.v (.c (.int .u64 t0)),.v (.c (.int .u64 t1)),.v (.c (.int .u64 t2)),.v (.c (.int .u64 t3)),(.v (.a [.ob (.s x)])),.v (.c (.int .i64 (i:Int)))] [32,48] [(B9 [.ob (.s y)]),(B9 [(.ob (.s (0:Fr)))])] 160 [] []
theorem D6u(x y:Fr)(i:Nat)(t0 t1 t2 t3:Int):let b:Int:=18446744073709551616;let c:=S4.E5 t0 t1 t2 t3;E2 RJ Tryz.f27 false 3000 (⟨B7 Ks,.normal,tS x y i t0 t1 t2 t3⟩) [false] [] []=(some ([((decide ((i:Int)<(4:Int)))=false),(0<=t0),(t0<b),(0<=t1),(t1<b),(0<=t2),(t2<b),(0<=t3),(t3<b),(c<(104871750350252380958895481016371931675381105001055275645207317399877162369026:Int))],((.v (.a [(.ob (.s (RR (c).toNat)))])),[]))):=by intros;kernel_rfl
def tS1(x y:Fr)(i:Nat)(t1 t2 t3 xi q up dn :Int):St:=B0 208 [3,4,6,7,8,10,14,15,17,18,19] [.pt 32 0,.pt 48 0,.iu t1,.iu t2,.iu t3,.v (.c (.int .u64 xi)),.v (.c (.int .u64 up)),.v (.c (.int .u64 q)),.v (.c (.int .u64 dn)),(.v (.a [.ob (.s x)])),(.ii (i:Int))] [32,48] [(B9 [.ob (.s y)]),(B9 [(.ob (.s (0:Fr)))])] 880 [] []
def C0r:List KI:=(run RJ false 77 (⟨B7 Ks,.normal,tS dF dF dF dF dF dF dF⟩:G5) [true]).cfg.k
theorem tA(x y:Fr)(i:Nat)(t0 t1 t2 t3:Int){w0:World}{F0:Nat->Prop}{K:Kp}{ac:List Act}{Q:Exit->Act->World->Prop}{cX:C0}{aX:Act}(ho:A5 [((decide ((i:Int)<(4:Int)))=true),(0<=(i:Int)),((i:Int)<(4:Int)),(0<=(0:Int)),(0<(4:Int)),(0<(Ob.k (.s y))),(0<=(A1 (Ob.n (.s x)) ((i:Int)).toNat)),((A1 (Ob.n (.s x)) ((i:Int)).toNat)<(18446744073709551616:Int)),(0<=(A1 (Ob.n (.s y)) 0)),((A1 (Ob.n (.s y)) 0)<(18446744073709551616:Int)),(0<=(((A1 (Ob.n (.s x)) ((i:Int)).toNat)*(A1 (Ob.n (.s y)) 0)) % (18446744073709551616:Int))),(0<=t0),(t0<(18446744073709551616:Int)),(0<=(0:Int)),(0<=(1:Int)),(0<=(wrap .u64 ((Prod.fst (A3 0 (((A1 (Ob.n (.s x)) ((i:Int)).toNat)*(A1 (Ob.n (.s y)) 0)) % (18446744073709551616:Int)) t0 (0:Int)))*(18446744069414584319:Int)))),((wrap .u64 ((Prod.fst (A3 0 (((A1 (Ob.n (.s x)) ((i:Int)).toNat)*(A1 (Ob.n (.s y)) 0)) % (18446744073709551616:Int)) t0 (0:Int)))*(18446744069414584319:Int)))<(18446744073709551616:Int)),(0<=(18446744069414584321:Int)),((18446744069414584321:Int)<(18446744073709551616:Int)),(0<=(((wrap .u64 ((Prod.fst (A3 0 (((A1 (Ob.n (.s x)) ((i:Int)).toNat)*(A1 (Ob.n (.s y)) 0)) % (18446744073709551616:Int)) t0 (0:Int)))*(18446744069414584319:Int)))*(18446744069414584321:Int)) % (18446744073709551616:Int))),(0<=(Prod.fst (A3 0 (((A1 (Ob.n (.s x)) ((i:Int)).toNat)*(A1 (Ob.n (.s y)) 0)) % (18446744073709551616:Int)) t0 (0:Int)))),((Prod.fst (A3 0 (((A1 (Ob.n (.s x)) ((i:Int)).toNat)*(A1 (Ob.n (.s y)) 0)) % (18446744073709551616:Int)) t0 (0:Int)))<(18446744073709551616:Int)),(0<=(0:Int)),(0<=(1:Int))])(hs:Sim w0 F0 K ac (tS x y i t0 t1 t2 t3) cX aX)(hK:∀ac cY aY,Sim w0 F0 K ac (tS1 x y i t1 t2 t3 (A1 (Ob.n (.s x)) ((i:Int)).toNat) (wrap .u64 ((Prod.fst (A3 0 (((A1 (Ob.n (.s x)) ((i:Int)).toNat)*(A1 (Ob.n (.s y)) 0)) % (18446744073709551616:Int)) t0 (0:Int)))*(18446744069414584319:Int))) (wrap .u64 ((((A1 (Ob.n (.s x)) ((i:Int)).toNat)*(A1 (Ob.n (.s y)) 0)) / (18446744073709551616:Int))+(Prod.snd (A3 0 (((A1 (Ob.n (.s x)) ((i:Int)).toNat)*(A1 (Ob.n (.s y)) 0)) % (18446744073709551616:Int)) t0 (0:Int))))) (wrap .u64 ((((wrap .u64 ((Prod.fst (A3 0 (((A1 (Ob.n (.s x)) ((i:Int)).toNat)*(A1 (Ob.n (.s y)) 0)) % (18446744073709551616:Int)) t0 (0:Int)))*(18446744069414584319:Int)))*(18446744069414584321:Int)) / (18446744073709551616:Int))+(Prod.snd (A3 0 (((wrap .u64 ((Prod.fst (A3 0 (((A1 (Ob.n (.s x)) ((i:Int)).toNat)*(A1 (Ob.n (.s y)) 0)) % (18446744073709551616:Int)) t0 (0:Int)))*(18446744069414584319:Int)))*(18446744069414584321:Int)) % (18446744073709551616:Int)) (Prod.fst (A3 0 (((A1 (Ob.n (.s x)) ((i:Int)).toNat)*(A1 (Ob.n (.s y)) 0)) % (18446744073709551616:Int)) t0 (0:Int))) (0:Int)))))) cY aY->Wq Tryz.prog Q (C0r) ac Exit.normal aY cY.w):Wq Tryz.prog Q (B7 Ks) ac .normal aX cX.w:=
 JZ (unroll:=false) (n:=77) (path:=[true]) (o:=⟨_,_,_,_,_,_,_⟩) BJ (by kernel_rfl) (by kernel_rfl) ho hs hK
def tS2(x y:Fr)(i:Nat)(n0 t2 t3 xi q up dn :Int):St:=B0 208 [3,4,5,7,8,10,14,15,17,18,19] [.pt 32 0,.pt 48 0,.v (.c (.int .u64 n0)),.iu t2,.iu t3,.iu xi,.v (.c (.int .u64 up)),.iu q,.v (.c (.int .u64 dn)),(.v (.a [.ob (.s x)])),(.ii (i:Int))] [32,48] [(B9 [.ob (.s y)]),(B9 [(.ob (.s (0:Fr)))])] 1904 [] []
def C0s:List KI:=(run RJ false 94 (⟨C0r,.normal,tS1 dF dF dF dF dF dF dF dF dF dF⟩:G5) []).cfg.k
theorem tB(x y:Fr)(i:Nat)(t1 t2 t3 xi q up dn:Int):let b:Int:=18446744073709551616;let d:=A1 (Ob.n (.s y)) 1;let f:Int:=6034159408538082302;let g:Int:=0;let h:=A3 0 ((xi*d) % b) t1 g;let a:=A3 0 (Prod.fst h) up g;let j:=0<=(1:Int);let m:=Prod.fst a;let c:=A3 0 ((q*f) % b) m g;let l:=A3 0 (Prod.fst c) dn g;A5 [j,((1:Int)<(4:Int)),(1<(Ob.k (.s y))),(0<=xi),(xi<b),(0<=d),(d<b),(0<=((xi*d) % b)),(0<=t1),(t1<b),(0<=g),j,(0<=(Prod.fst h)),(0<=up),(up<b),(0<=g),j,(0<=q),(q<b),(0<=f),(f<b),(0<=((q*f) % b)),(0<=m),(m<b),(0<=g),j,(0<=(Prod.fst c)),(0<=dn),(dn<b),(0<=g),j]->Sg Tryz.prog (tS1 x y i t1 t2 t3 xi q up dn) (tS2 x y i (Prod.fst l) t2 t3 xi q (wrap .u64 ((wrap .u64 (((xi*d) / b)+(Prod.snd h)))+(Prod.snd a))) (wrap .u64 ((wrap .u64 (((q*f) / b)+(Prod.snd c)))+(Prod.snd l)))) .normal (C0s) (C0r):=E4 false 94 [] BJ
def tS3(x y:Fr)(i:Nat)(n0 n1 t3 xi q up dn :Int):St:=B0 208 [3,4,5,6,8,10,14,15,17,18,19] [.pt 32 0,.pt 48 0,.iu n0,.v (.c (.int .u64 n1)),.iu t3,.iu xi,.v (.c (.int .u64 up)),.iu q,.v (.c (.int .u64 dn)),(.v (.a [.ob (.s x)])),(.ii (i:Int))] [32,48] [(B9 [.ob (.s y)]),(B9 [(.ob (.s (0:Fr)))])] 2928 [] []
def C9b:List KI:=(run RJ false 94 (⟨C0s,.normal,tS2 dF dF dF dF dF dF dF dF dF dF⟩:G5) []).cfg.k
theorem tC(x y:Fr)(i:Nat)(n0 t2 t3 xi q up dn:Int):let b:Int:=18446744073709551616;let d:=A1 (Ob.n (.s y)) 2;let f:Int:=3691218898639771653;let g:Int:=0;let h:=A3 0 ((xi*d) % b) t2 g;let a:=A3 0 (Prod.fst h) up g;let j:=0<=(1:Int);let m:=Prod.fst a;let c:=A3 0 ((q*f) % b) m g;let l:=A3 0 (Prod.fst c) dn g;A5 [(0<=(2:Int)),((2:Int)<(4:Int)),(2<(Ob.k (.s y))),(0<=xi),(xi<b),(0<=d),(d<b),(0<=((xi*d) % b)),(0<=t2),(t2<b),(0<=g),j,(0<=(Prod.fst h)),(0<=up),(up<b),(0<=g),j,(0<=q),(q<b),(0<=f),(f<b),(0<=((q*f) % b)),(0<=m),(m<b),(0<=g),j,(0<=(Prod.fst c)),(0<=dn),(dn<b),(0<=g),j]->Sg Tryz.prog (tS2 x y i n0 t2 t3 xi q up dn) (tS3 x y i n0 (Prod.fst l) t3 xi q (wrap .u64 ((wrap .u64 (((xi*d) / b)+(Prod.snd h)))+(Prod.snd a))) (wrap .u64 ((wrap .u64 (((q*f) / b)+(Prod.snd c)))+(Prod.snd l)))) .normal (C9b) (C0s):=E4 false 94 [] BJ
theorem tD(x y:Fr)(i:Nat)(n0 n1 t3 xi q up dn:Int):let c:Int:=18446744073709551616;let f:=A1 (Ob.n (.s y)) 3;let g:Int:=8353516859464449352;let h:Int:=0;let j:=A3 0 ((xi*f) % c) t3 h;let b:=A3 0 (Prod.fst j) up h;let l:=0<=(1:Int);let o:=Prod.fst b;let d:=A3 0 ((q*g) % c) o h;let m:=A3 0 (Prod.fst d) dn h;A5 [(0<=(3:Int)),((3:Int)<(4:Int)),(3<(Ob.k (.s y))),(0<=xi),(xi<c),(0<=f),(f<c),(0<=((xi*f) % c)),(0<=t3),(t3<c),(0<=h),l,(0<=(Prod.fst j)),(0<=up),(up<c),(0<=h),l,(0<=q),(q<c),(0<=g),(g<c),(0<=((q*g) % c)),(0<=o),(o<c),(0<=h),l,(0<=(Prod.fst d)),(0<=dn),(dn<c),(0<=h),l]->Sg Tryz.prog (tS3 x y i n0 n1 t3 xi q up dn) (B0 208 [3,4,5,6,7,8,18,19] [.pt 32 0,.pt 48 0,.iu n0,.iu n1,(.iu (Prod.fst m)),(.iu (wrap .u64 ((wrap .u64 ((wrap .u64 (((q*g) / c)+(Prod.snd d)))+(Prod.snd m)))+(wrap .u64 ((wrap .u64 (((xi*f) / c)+(Prod.snd j)))+(Prod.snd b)))))),(.v (.a [.ob (.s x)])),(.ii (wrap .i64 ((i:Int)+1)))] [32,48] [(B9 [.ob (.s y)]),(B9 [(.ob (.s (0:Fr)))])] 4048 [] []) .normal (D4 Ks) (C9b):=E4 false 3000 [] BJ
end
end S4
namespace S4
structure E1t(x y:Fr)(i:Nat)(t0 t1 t2 t3:Int):Prop where
 i4:i<=4
 h0:0<=t0∧t0<18446744073709551616
 h1:0<=t1∧t1<18446744073709551616
 h2:0<=t2∧t2<18446744073709551616
 h3:0<=t3∧t3<18446744073709551616
 lt:E5 t0 t1 t2 t3<2*rN
 eq:∃Q:Nat,E5 t0 t1 t2 t3*((2 ^ (64*i):Nat):Int)=(((Ob.s x).n % 2 ^ (64*i):Nat):Int)*((Ob.s y).n:Int)+(Q:Int)*(rN:Int)
theorem LX(x:Fr):(Ob.s x).n<rN:=Nat.mod_lt _ A4
theorem B9v{x y:Fr}{i Q:Nat}{T T' q:Int}(hq:0<=q)(h:T*((2 ^ (64*i):Nat):Int)=(((Ob.s x).n % 2 ^ (64*i):Nat):Int)*((Ob.s y).n:Int)+(Q:Int)*(rN:Int))
  (h' : 18446744073709551616*T' = T+A1 (Ob.s x).n i*((Ob.s y).n:Int)+q*(rN:Int)) :
  ∃Q:Nat,T' * ((2 ^ (64*(i+1)):Nat):Int)=(((Ob.s x).n % 2 ^ (64*(i+1)):Nat):Int)*((Ob.s y).n:Int)+(Q:Int)*(rN:Int):=by
 obtain ⟨q,rfl⟩:=Int.eq_ofNat_of_zero_le hq;refine ⟨Q+q*2 ^ (64*i),?_⟩
 rw[Qa];have hp:(2:Nat) ^ (64*(i+1))=2 ^ (64*i)*18446744073709551616:=by rw[Nat.mul_add,Nat.pow_add]
 rw[hp];have hl:A1 (Ob.s x).n i=(((Ob.s x).n / 2 ^ (64*i) % 18446744073709551616:Nat):Int):=rfl;rw[hl] at h'
 generalize (Ob.s x).n / 2 ^ (64*i) % 18446744073709551616=xi at *;generalize (Ob.s x).n % 2 ^ (64*i)=X at *;generalize (Ob.s y).n=Y at *;generalize 2 ^ (64*i)=m at *;generalize rN=r at *;have e1:T' * ((m*18446744073709551616:Nat):Int)=(18446744073709551616*T')*(m:Int):=by
  rw[Int.natCast_mul,Int.mul_comm (m:Int),<-Int.mul_assoc,Int.mul_comm T'];rfl
 rw[e1,h',Int.add_mul,Int.add_mul,h];push_cast
 simp only[Int.add_mul,Int.mul_assoc];have e2:(xi:Int)*((Y:Int)*(m:Int))=(m:Int)*((xi:Int)*(Y:Int)):=by rw[<-Int.mul_assoc,Int.mul_comm]
 have e3:(q:Int)*((r:Int)*(m:Int))=(q:Int)*((m:Int)*(r:Int)):=by rw[Int.mul_comm (r:Int)]
 rw[e2,e3];omega
theorem XZ(z a b c d:Int):z*E5 a b c d=z*a+18446744073709551616*(z*b)+340282366920938463463374607431768211456*(z*c)+6277101735386680763835789423207666416102355444464034512896*(z*d):=by
 unfold E5;simp only[Int.mul_add,Int.mul_left_comm z]
def G8(a:Int):Prop:=0<=a∧a<18446744073709551616
theorem RA(n:Int):G8 (wrap IntKind.u64 n):=by
 unfold G8;rw[Rz];omega
section
variable {w0:World} {F0:Nat->Prop} {K:Kp} {ac:List Act} {Q:Exit->Act->World->Prop} {cX:C0} {aX:Act}
theorem D6d(x y:Fr)(i:Nat){t0 t1 t2 t3:Int}(hi:i<4)(h0:G8 t0)(hx:G8 (A1 (Ob.s x).n i))(hy:G8 (A1 (Ob.s y).n 0))(hs:Sim w0 F0 K ac (tS x y i t0 t1 t2 t3) cX aX)
  (k:∀lo up q dn:Int,A1 (Ob.s x).n i*A1 (Ob.s y).n 0+t0=lo+18446744073709551616*up->q*18446744069414584321+lo=18446744073709551616*dn->G8 lo->G8 up->G8 q->G8 dn ->
   ∀ac cY aY,Sim w0 F0 K ac (tS1 x y i t1 t2 t3 (A1 (Ob.s x).n i) q up dn) cY aY->Wq Tryz.prog Q C0r ac .normal aY cY.w):Wq Tryz.prog Q (B7 Ks) ac .normal aX cX.w:=by
 obtain ⟨a0,b0⟩:=h0;obtain ⟨x0,x1⟩:=hx;obtain ⟨y0,y1⟩:=hy;have e1:=A8r x0 x1 y0 y1 a0 b0;have sA:=@tA x y i t0 t1 t2 t3 w0 F0 K ac Q cX aX;rw[Int.toNat_natCast] at sA;generalize A1 (Ob.s x).n i=xi at *;obtain ⟨e1,l1,u1⟩:=e1;have hq:=RA ((A3 0 ((xi*A1 (Ob.s y).n 0) % 18446744073709551616) t0 0).1*18446744069414584319);have e2:=A8r (b:=18446744069414584321) hq.1 hq.2 A4 A4 l1.1 l1.2;have e3:=XX (l:=(A3 0 ((xi*A1 (Ob.s y).n 0) % 18446744073709551616) t0 0).1) rfl;refine sA ?_ hs fun ac cY aY h=>?_
 ·refine ⟨by simp only[decide_eq_true_eq];omega,by omega,by omega,A4,A4,by show (0:Nat)<4;decide,x0,x1,y0,y1,by omega,a0,b0,A4,A4,hq.1,hq.2,A4,A4,by omega,l1.1,l1.2,A4,A4,C4⟩
 ·refine k _ _ _ _ e1 ?_ l1 u1 hq e2.2.2 ac cY aY h
  have:=e2.1
  have:=e2.2.1
  omega
theorem D6e(x y:Fr)(i:Nat){t1 t2 t3 xi q up dn:Int}(ht:G8 t1)(hx:G8 xi)(hq:G8 q)(hu:G8 up)(hd:G8 dn)(hy:G8 (A1 (Ob.s y).n 1))(hs:Sim w0 F0 K ac (tS1 x y i t1 t2 t3 xi q up dn) cX aX)
  (k:∀lo up' n dn' : Int,xi*A1 (Ob.s y).n 1+t1+up=lo+18446744073709551616*up' -> q*6034159408538082302+lo+dn=n+18446744073709551616*dn' -> G8 lo->G8 up' -> G8 n->G8 dn' ->
   ∀ac cY aY,Sim w0 F0 K ac (tS2 x y i n t2 t3 xi q up' dn') cY aY->Wq Tryz.prog Q (C0s) ac .normal aY cY.w):Wq Tryz.prog Q C0r ac .normal aX cX.w:=by
 obtain ⟨e1,l1,u1,m1⟩:=mac hx.1 hx.2 hy.1 hy.2 ht.1 ht.2 hu.1 hu.2;obtain ⟨e2,l2,u2,m2⟩:=mac (b:=6034159408538082302) hq.1 hq.2 A4 A4 l1.1 l1.2 hd.1 hd.2;refine tB x y i t1 t2 t3 xi q up dn ?_ hs fun ac cY aY h=>?_
 ·refine ⟨A4,A4,by show 1<4;decide,hx.1,hx.2,hy.1,hy.2,by omega,ht.1,ht.2,A4,A4,m1.1,hu.1,hu.2,A4,A4,hq.1,hq.2,A4,A4,by omega,l1.1,l1.2,A4,A4,m2.1,hd.1,hd.2,A4,A4,C4⟩
 ·exact k _ _ _ _ e1 e2 l1 u1 l2 u2 ac cY aY h
theorem D6f(x y:Fr)(i:Nat){n0 t2 t3 xi q up dn:Int}(ht:G8 t2)(hx:G8 xi)(hq:G8 q)(hu:G8 up)(hd:G8 dn)(hy:G8 (A1 (Ob.s y).n 2))(hs:Sim w0 F0 K ac (tS2 x y i n0 t2 t3 xi q up dn) cX aX)
  (k:∀lo up' n dn' : Int,xi*A1 (Ob.s y).n 2+t2+up=lo+18446744073709551616*up' -> q*3691218898639771653+lo+dn=n+18446744073709551616*dn' -> G8 lo->G8 up' -> G8 n->G8 dn' ->
   ∀ac cY aY,Sim w0 F0 K ac (tS3 x y i n0 n t3 xi q up' dn') cY aY->Wq Tryz.prog Q (C9b) ac .normal aY cY.w):Wq Tryz.prog Q C0s ac .normal aX cX.w:=by
 obtain ⟨e1,l1,u1,m1⟩:=mac hx.1 hx.2 hy.1 hy.2 ht.1 ht.2 hu.1 hu.2;obtain ⟨e2,l2,u2,m2⟩:=mac (b:=3691218898639771653) hq.1 hq.2 A4 A4 l1.1 l1.2 hd.1 hd.2;refine tC x y i n0 t2 t3 xi q up dn ?_ hs fun ac cY aY h=>?_
 ·refine ⟨A4,A4,by show 2<4;decide,hx.1,hx.2,hy.1,hy.2,by omega,ht.1,ht.2,A4,A4,m1.1,hu.1,hu.2,A4,A4,hq.1,hq.2,A4,A4,by omega,l1.1,l1.2,A4,A4,m2.1,hd.1,hd.2,A4,A4,C4⟩
 ·exact k _ _ _ _ e1 e2 l1 u1 l2 u2 ac cY aY h
theorem D6g(x y:Fr)(i:Nat)(hi:i<4){n0 n1 t3 xi q up dn:Int}(ht:G8 t3)(hx:G8 xi)(hq:G8 q)(hu:G8 up)(hd:G8 dn)(hy:G8 (A1 (Ob.s y).n 3))(hs:Sim w0 F0 K ac (tS3 x y i n0 n1 t3 xi q up dn) cX aX)
  (k:∀lo up' n dn' : Int,xi*A1 (Ob.s y).n 3+t3+up=lo+18446744073709551616*up' -> q*8353516859464449352+lo+dn=n+18446744073709551616*dn' -> G8 lo->G8 up' -> G8 n->G8 dn' ->
   ∀ac cY aY,Sim w0 F0 K ac (tS x y (i+1) n0 n1 n (wrap IntKind.u64 (dn' + up'))) cY aY->Wq Tryz.prog Q (D4 Ks) ac .normal aY cY.w):Wq Tryz.prog Q C9b ac .normal aX cX.w:=by
 obtain ⟨e1,l1,u1,m1⟩:=mac hx.1 hx.2 hy.1 hy.2 ht.1 ht.2 hu.1 hu.2;obtain ⟨e2,l2,u2,m2⟩:=mac (b:=8353516859464449352) hq.1 hq.2 A4 A4 l1.1 l1.2 hd.1 hd.2;refine tD x y i n0 n1 t3 xi q up dn ?_ hs fun ac cY aY h=>?_
 ·refine ⟨A4,A4,by show 3<4;decide,hx.1,hx.2,hy.1,hy.2,by omega,ht.1,ht.2,A4,A4,m1.1,hu.1,hu.2,A4,A4,hq.1,hq.2,A4,A4,by omega,l1.1,l1.2,A4,A4,m2.1,hd.1,hd.2,A4,A4,C4⟩
 ·exact k _ _ _ _ e1 e2 l1 u1 l2 u2 ac cY aY ((by rw[A9 (by omega) (by omega)] at h;exact h.nx _))
end
theorem A4q{T:Int}(hT:0<=T){b X Y Q r:Nat}(h:T*(b:Int)=(X:Int)*(Y:Int)+(Q:Int)*(r:Int)):T.toNat*b=X*Y+Q*r:=by
 rw[<-Int.toNat_of_nonneg hT] at h
 exact_mod_cast h
theorem B0t(x y:Fr):K2 Tryz.prog 27 [.v (.a [.ob (.s x)]),.v (.a [.ob (.s y)])] (.v (.a [.ob (.s (x*y))])) []:=by
 refine H2 (fn:=Tryz.f27) (c:=B5 Tryz.f27) Tryz.func27 rfl rfl fun cx ca hk hF hs=>?_
 refine tIn x y trivial hs fun ac cY aY hs1=>?_
 refine C5 (ι:={ p:Nat×Int×Int×Int×Int // E1t x y p.1 p.2.1 p.2.2.1 p.2.2.2.1 p.2.2.2.2 }) (fun p=>tS x y p.1.1 p.1.2.1 p.1.2.2.1 p.1.2.2.2.1 p.1.2.2.2.2) (fun p=>4-p.1.1) (c:=X5 Ks) (k:=X8 Ks) (by kernel_rfl) (fun p ih ac cY aY hs=>?_)
  ⟨(0,0,0,0,0),⟨A4,A4,A4,A4,A4,A4,0,by simp [E5,Nat.mod_one]⟩⟩ hs1
 obtain ⟨⟨i,t0,t1,t2,t3⟩,hI⟩:=p;simp only at ih hs hI
 obtain ⟨hi,⟨a0,b0⟩,⟨a1,b1⟩,⟨a2,b2⟩,⟨a3,b3⟩,hlt,Q,hQ⟩:=hI;obtain ⟨ey,y0,y0',y1,y1',y2,y2',y3,y3'⟩:=Bd (Ob.s y).n (Nat.lt_trans (LX y) A4);have hyr:((Ob.s y).n:Int)<(rN:Int):=by exact_mod_cast LX y
 by_cases h5:i<4
 ·have hx0:0<=A1 (Ob.s x).n i:=Int.natCast_nonneg _
  have hx1:A1 (Ob.s x).n i<18446744073709551616:=by
   show (((Ob.s x).n / 2 ^ (64*i) % 18446744073709551616:Nat):Int)<18446744073709551616;omega
  have hround:=fun T' q hq=>B9v (x:=x) (y:=y) (i:=i) (Q:=Q) (T:=E5 t0 t1 t2 t3) (T' := T') (q:=q) hq hQ
  have hyn:((Ob.s y).n:Int)=E5 (A1 (Ob.s y).n 0) (A1 (Ob.s y).n 1) (A1 (Ob.s y).n 2) (A1 (Ob.s y).n 3):=ey;have hzz:A1 (Ob.s x).n i*((Ob.s y).n:Int)<=18446744073709551615*((Ob.s y).n:Int):=Int.mul_le_mul_of_nonneg_right (by omega) (by omega)
  have hz0:0<=A1 (Ob.s x).n i*((Ob.s y).n:Int):=Int.mul_nonneg hx0 (by omega)
  have hmul:=XZ (A1 (Ob.s x).n i) (A1 (Ob.s y).n 0) (A1 (Ob.s y).n 1) (A1 (Ob.s y).n 2) (A1 (Ob.s y).n 3);rw[<-hyn] at hmul;refine D6d x y i h5 ⟨a0,b0⟩ ⟨hx0,hx1⟩ ⟨y0,y0'⟩ hs fun lo0 up0 q dn0 eA eQ hlo0 hup0 hq hdn0 ac cY aY hs=>?_
  refine D6e x y i ⟨a1,b1⟩ ⟨hx0,hx1⟩ hq hup0 hdn0 ⟨y1,y1'⟩ hs fun lo1 up1 n0 dn1 eB eB' hlo1 hup1 hn0 hdn1 ac cY aY hs=>?_
  refine D6f x y i ⟨a2,b2⟩ ⟨hx0,hx1⟩ hq hup1 hdn1 ⟨y2,y2'⟩ hs fun lo2 up2 n1 dn2 eC eC' hlo2 hup2 hn1 hdn2 ac cY aY hs=>?_
  refine D6g x y i h5 ⟨a3,b3⟩ ⟨hx0,hx1⟩ hq hup2 hdn2 ⟨y3,y3'⟩ hs fun lo3 up3 n2 dn3 eD eD' hlo3 hup3 hn2 hdn3 ac cY aY hs=>?_
  have hall:18446744073709551616*E5 n0 n1 n2 (dn3+up3)=E5 t0 t1 t2 t3+A1 (Ob.s x).n i*((Ob.s y).n:Int)+q*(rN:Int):=by
   rw[hmul];clear hround hmul hzz hz0 hQ ih hyr hyn ey;unfold E5 rN;omega
  have hlt' : E5 n0 n1 n2 (dn3+up3)<2*rN:=by
   obtain ⟨q0,q1⟩:=hq;have:q*(rN:Int)<=18446744073709551615*(rN:Int):=Int.mul_le_mul_of_nonneg_right (by omega) (by omega)
   clear hround hmul hQ ih hyn ey;generalize A1 (Ob.s x).n i*((Ob.s y).n:Int)=z at *;generalize q*(rN:Int)=z' at *;omega
  have htop:wrap IntKind.u64 (dn3+up3)=dn3+up3:=by
   obtain ⟨_,_⟩:=hdn3;obtain ⟨_,_⟩:=hup3;obtain ⟨_,_⟩:=hn0;obtain ⟨_,_⟩:=hn1;obtain ⟨_,_⟩:=hn2;refine Av (by omega) ?_
   unfold E5 rN at hlt';omega
  rw[htop] at hs;refine ih ⟨(i+1,n0,n1,n2,dn3+up3),⟨h5,hn0,hn1,hn2,?_,hlt',hround _ q hq.1 hall⟩⟩ (by show 4-(i+1)<4-i;omega) ac cY aY hs
  rw[<-htop];exact RA _
 ·have hi4:i=4:=by omega
  subst hi4;refine O4 BJ hk hF (D6u x y 4 t0 t1 t2 t3) ?_ (fun z w hd=>?_) hs
  ·refine ⟨A4,a0,b0,a1,b1,a2,b2,a3,b3,hlt,C4⟩
  ·have hT:0<=E5 t0 t1 t2 t3:=by unfold E5;omega
   have:RR (E5 t0 t1 t2 t3).toNat=x*y:=by
    refine B6e (Q:=Q) ?_
    have hX:(Ob.s x).n % 2 ^ (64*4)=(Ob.s x).n:=Nat.mod_eq_of_lt (Nat.lt_trans (LX x) A4);rw[hX] at hQ;have h4:(2 ^ (64*4):Nat)=B4:=B8w;rw[h4] at hQ;exact A4q hT hQ
   rw[<-this];exact hd
end S4
namespace S4
def u4s(a b c d:Int):SV:=.v (.c (.sl (.u64 [a,b,c,d])))
def fl4(a b c d:Int):En:=.fl [.int .u64 a,.int .u64 b,.int .u64 c,.int .u64 d]
def qd0(o0 o1 o2 o3 a b c d more m0 m1 m2 m3:Int):G5:=⟨[.code (B5 Tryz.f94)],.normal,RQ Tryz.f94.ntmps 0 4 1 (fl4 o0 o1 o2 o3) [u4s a b c d,.v (.c (.int .u64 more)),u4s m0 m1 m2 m3]⟩
theorem rdX(o0 o1 o2 o3 a b c d more m0 m1 m2 m3:Int):let g:Int:=(4:Nat);let i:Int:=18446744073709551616;let k:Int:=1;let l:Int:=2;let m:Int:=3;let n:Int:=0;let o:Int:=8;let q:=A3 1 a m0 n;let h:=Prod.snd q;let p:=A3 1 b m1 h;let f:=Prod.snd p;let r:=A3 1 c m2 f;let j:=Prod.snd r;let s:=A3 1 d m3 j;Hf RJ Tryz.f94 true 3000 (qd0 o0 o1 o2 o3 a b c d more m0 m1 m2 m3) [true,true,true,true,false,true]=(some ([((decide (0<g))=true),(0<=n),(0<g),(0<=n),(0<g),(0<=a),(0<=m0),(m0<i),(0<=n),(0<=k),(0<=n),(0<o),((decide (k<g))=true),(0<=k),(k<g),(0<=k),(k<g),(0<=b),(0<=m1),(m1<i),(0<=h),(h<=k),(0<=k),(k<o),((decide (l<g))=true),(0<=l),(l<g),(0<=l),(l<g),(0<=c),(0<=m2),(m2<i),(0<=f),(f<=k),(0<=l),(l<o),((decide (m<g))=true),(0<=m),(m<g),(0<=m),(m<g),(0<=d),(0<=m3),(m3<i),(0<=j),(j<=k),(0<=m),(m<o),((decide ((4:Int)<g))=false),((decide (more >= (Prod.snd s)))=true),(0<=g),(g<=o)],(.fl [(.int .u64 (Prod.fst q)),(.int .u64 (Prod.fst p)),(.int .u64 (Prod.fst r)),(.int .u64 (Prod.fst s))]))):=by intros;kernel_rfl
theorem rdY(o0 o1 o2 o3 a b c d more m0 m1 m2 m3:Int):let g:Int:=(4:Nat);let h:Int:=18446744073709551616;let i:=Prod.snd (A3 1 a m0 (0:Int));let f:=Prod.snd (A3 1 b m1 i);let j:Int:=1;let k:=Prod.snd (A3 1 c m2 f);let l:Int:=2;let m:Int:=3;let n:=0<=(0:Int);let o:Int:=8;Hf RJ Tryz.f94 true 3000 (qd0 o0 o1 o2 o3 a b c d more m0 m1 m2 m3) [true,true,true,true,false,false]=(some ([((decide (0<g))=true),n,(0<g),n,(0<g),(0<=a),(0<=m0),(m0<h),n,(0<=j),n,(0<o),((decide (j<g))=true),(0<=j),(j<g),(0<=j),(j<g),(0<=b),(0<=m1),(m1<h),(0<=i),(i<=j),(0<=j),(j<o),((decide (l<g))=true),(0<=l),(l<g),(0<=l),(l<g),(0<=c),(0<=m2),(m2<h),(0<=f),(f<=j),(0<=l),(l<o),((decide (m<g))=true),(0<=m),(m<g),(0<=m),(m<g),(0<=d),(0<=m3),(m3<h),(0<=k),(k<=j),(0<=m),(m<o),((decide ((4:Int)<g))=false),((decide (more >= (Prod.snd (A3 1 d m3 k))))=false)],(.fl [(.int .u64 a),(.int .u64 b),(.int .u64 c),(.int .u64 d)]))):=by intros;kernel_rfl
end S4
namespace S4
theorem B2b{x:C0}{o:Ob}(hk:o.k=4){a b c d:Int}(h:A1 o.n 0=a∧A1 o.n 1=b∧A1 o.n 2=c∧A1 o.n 3=d){cs:List Value}
  (hc:C6 x.D [.int .u64 a,.int .u64 b,.int .u64 c,.int .u64 d] cs):C6 x.D [.ob o] cs:=by
 obtain ⟨cs',e,h'⟩:=Jn hk h (v:=.agg cs.toArray) ⟨cs,rfl,hc⟩;have e:cs=cs' := by simpa using e
 rw[e];exact h'
def DJ(n:Nat):U4:=Fin.ofNat B4 (n % rN)
theorem JW(n:Nat):(DJ n).val=n % rN:=Nat.mod_eq_of_lt (Nat.lt_trans (Nat.mod_lt _ A4) A4)
theorem A9x(o0 o1 o2 o3 a b c d:Int)(ha:G8 a)(hb:G8 b)(hc:G8 c)(hd:G8 d)(hn:E5 a b c d<2*rN) :
  MuC Tryz.prog 94 0 4 1 (fl4 o0 o1 o2 o3) [u4s a b c d,.v (.c (.int .u64 0)),u4s 18446744069414584321 6034159408538082302 3691218898639771653 8353516859464449352] (.fl [.ob (.fr (DJ (E5 a b c d).toNat))]):=by
 refine JA (fn:=Tryz.f94) (c:=B5 Tryz.f94) Tryz.func94 rfl rfl fun x ac hk hm hs=>?_
 obtain ⟨ha,ha1⟩:=ha;obtain ⟨hb,hb1⟩:=hb;obtain ⟨hc,hc1⟩:=hc;obtain ⟨hd,hd1⟩:=hd;have r0:=rdX o0 o1 o2 o3 a b c d 0 18446744069414584321 6034159408538082302 3691218898639771653 8353516859464449352;dsimp only at r0;have r1:=rdY o0 o1 o2 o3 a b c d 0 18446744069414584321 6034159408538082302 3691218898639771653 8353516859464449352;dsimp only at r1;obtain ⟨e1,p1,p1',c1,c1'⟩:=F6 (y:=18446744069414584321) (c:=0) ha ha1 A4 A4 A4 A4;obtain ⟨e2,p2,p2',c2,c2'⟩:=F6 (y:=6034159408538082302) hb hb1 A4 A4 c1 c1';obtain ⟨e3,p3,p3',c3,c3'⟩:=F6 (y:=3691218898639771653) hc hc1 A4 A4 c2 c2';obtain ⟨e4,p4,p4',c4,c4'⟩:=F6 (y:=8353516859464449352) hd hd1 A4 A4 c3 c3';generalize hx1:A3 1 a 18446744069414584321 0=x1 at *;generalize hx2:A3 1 b 6034159408538082302 x1.2=x2 at *;generalize hx3:A3 1 c 3691218898639771653 x2.2=x3 at *;generalize hx4:A3 1 d 8353516859464449352 x3.2=x4 at *;clear hx1 hx2 hx3 hx4;unfold E5 rN at hn;have hnn:0<=E5 a b c d:=by unfold E5;omega
 have hN:((E5 a b c d).toNat:Int)=E5 a b c d:=Int.toNat_of_nonneg hnn;by_cases hz:x4.2=0
 ·refine HL BJ hk hm r0 rfl ?_ (fun y cs hv=>B2b rfl ?_ hv) (.inl ⟨_,_,rfl,rfl⟩) hs
  ·simp only[A5,and_true,decide_eq_true_eq,decide_eq_false_iff_not];omega
  ·refine AH p1 p1' p2 p2' p3 p3' p4 p4' ?_
   show ((DJ (E5 a b c d).toNat).val:Int)=_;have e:(DJ (E5 a b c d).toNat).val=(E5 a b c d).toNat-rN:=by
    rw[JW];have h1:rN<=(E5 a b c d).toNat:=by unfold rN E5;omega
    have h2:(E5 a b c d).toNat<2*rN:=by unfold rN E5;omega
    rw[Nat.mod_eq_sub_mod h1,Nat.mod_eq_of_lt (by omega)]
   rw[e];unfold rN E5;omega
 ·refine HL BJ hk hm r1 rfl ?_ (fun y cs hv=>B2b rfl ?_ hv) (.inl ⟨_,_,rfl,rfl⟩) hs
  ·simp only[A5,and_true,decide_eq_true_eq,decide_eq_false_iff_not];omega
  ·refine AH ha ha1 hb hb1 hc hc1 hd hd1 ?_
   show ((DJ (E5 a b c d).toNat).val:Int)=_;have e:(DJ (E5 a b c d).toNat).val=(E5 a b c d).toNat:=by
    rw[JW];exact Nat.mod_eq_of_lt (by unfold rN E5;omega)
   rw[e,hN];rfl
end S4
end
end Go.Proofs.YtifiiigbedjceaaGreat
