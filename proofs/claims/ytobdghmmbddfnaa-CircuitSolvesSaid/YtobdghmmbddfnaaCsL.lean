/- Parts of a proof, one behind the other: Ty, WMul, PMul, WRed, PRed, WTimes, PTimes, WReduce, PReduce, WProd, PProd, PProdL, WIo, PIo, WPlus, PPlus, WDom, WNew, WRef, PRef, WRefM, PRefM, WRefP, PRefP, WClean, PClean, WRef2, PRef2, WMulU. No conditions. -/
import Derived.Test.YtobdghmmbddfnaaProg
import Derived.Test.YtobdghmmbddfnaaCsK
open Go.IntKind (wrap)
namespace Go.Proofs.Ytobdghmmbddfnaa
noncomputable section
section

set_option maxRecDepth 10000 in
def tyRows:List (Nat×TyI):=[
 (2,⟨1,false,8,[.int .i64 0],[],none,none,(some .i64),none,[true]⟩),
 (3,⟨1,false,8,[.int .i64 0],[],none,none,(some .i64),(some (.int [])),[true]⟩),
 (4,⟨1,false,1,[.lit false],[],none,none,none,none,[false]⟩),
 (5,⟨1,false,1,[.int .u8 0],[],none,none,(some .u8),none,[true]⟩),
 (19,⟨1,true,8,[.val (.pointer none)],[(0,1,false)],none,none,none,none,[]⟩),
 (21,⟨1,false,4,[.int .i32 0],[],none,none,(some .i32),none,[true]⟩),
 (22,⟨1,false,24,[.val (.slice none 0 0)],[],none,(some 44),none,none,[]⟩),
 (24,⟨1,false,24,[.val (.slice none 0 0)],[],none,(some 39),none,none,[]⟩),
 (25,⟨3,true,40,[.sl (.gate []),.int .i64 0,.int .i64 0],[(0,1,false),(1,1,false),(2,1,false)],none,none,none,none,[]⟩),
 (26,⟨3,true,40,[.sl (.gate []),.int .i64 0,.int .i64 0],[(0,1,false),(1,1,false),(2,1,false)],none,none,none,none,[]⟩),
 (27,⟨1,false,8,[.int .i64 0],[],none,none,(some .i64),none,[true]⟩),
 (33,⟨1,false,24,[.val (.slice none 0 0)],[],none,(some 36),none,(some (.frs [])),[]⟩),
 (34,⟨1,false,8,[.int .u64 0],[],none,none,(some .u64),(some (.u64 [])),[true]⟩),
 (35,⟨4,true,32,[.int .u64 0,.int .u64 0,.int .u64 0,.int .u64 0],[],(some (4,34)),none,none,none,[true,true,true,true]⟩),
 (36,⟨4,true,32,[.ob (.fr 0)],[],(some (4,34)),none,none,(some (.fr [])),[true,true,true,true]⟩),
 (37,⟨3,true,24,[.int .i64 0,.int .i64 0,.int .i64 0],[],(some (3,3)),none,none,none,[true,true,true]⟩),
 (38,⟨23,true,184,[.ob (.fr 0),.ob (.fr 0),.ob (.fr 0),.ob (.fr 0),.ob (.fr 0),.int .i64 0,.int .i64 0,.int .i64 0],[(0,4,true),(4,4,true),(8,4,true),(12,4,true),(16,4,true),(20,3,true)],none,none,none,none,[true,true,true,true,true,true,true,true,true,true,true,true,true,true,true,true,true,true,true,true,true,true,true]⟩),
 (39,⟨23,true,184,[.ob (.fr 0),.ob (.fr 0),.ob (.fr 0),.ob (.fr 0),.ob (.fr 0),.int .i64 0,.int .i64 0,.int .i64 0],[(0,4,true),(4,4,true),(8,4,true),(12,4,true),(16,4,true),(20,3,true)],none,none,none,(some (.gate [])),[true,true,true,true,true,true,true,true,true,true,true,true,true,true,true,true,true,true,true,true,true,true,true]⟩),
 (42,⟨1,false,24,[.val (.slice none 0 0)],[],none,(some 3),none,(some (.ints [])),[]⟩),
 (43,⟨11,true,120,[.int .i64 0,.int .i64 0,.int .i64 0,.int .i64 0,.int .i64 0,.ob (.fr 0),.sl (.fr []),.sl (.int [])],[(0,1,false),(1,1,false),(2,1,false),(3,1,false),(4,1,false),(5,4,true),(9,1,false),(10,1,false)],none,none,none,none,[]⟩),
 (44,⟨11,true,120,[.int .i64 0,.int .i64 0,.int .i64 0,.int .i64 0,.int .i64 0,.ob (.fr 0),.sl (.fr []),.sl (.int [])],[(0,1,false),(1,1,false),(2,1,false),(3,1,false),(4,1,false),(5,4,true),(9,1,false),(10,1,false)],none,none,none,(some (.op [])),[]⟩),
 (56,⟨1,false,8,[.val (.pointer none)],[],none,none,none,none,[]⟩),
 (57,⟨1,false,8,[.val (.pointer none)],[],none,none,none,none,[]⟩),
 (58,⟨3,true,40,[.val (.slice none 0 0),.int .i64 0,.val (.pointer none)],[(0,1,false),(1,1,false),(2,1,false)],none,none,none,none,[]⟩),
 (59,⟨3,true,40,[.val (.slice none 0 0),.int .i64 0,.val (.pointer none)],[(0,1,false),(1,1,false),(2,1,false)],none,none,none,none,[]⟩),
 (63,⟨1,false,8,[.val (.pointer none)],[],none,none,none,none,[]⟩),
 (67,⟨4,true,80,[.val (.slice none 0 0),.val (.slice none 0 0),.val (.slice none 0 0),.lit false],[(0,1,false),(1,1,false),(2,1,false),(3,1,false)],none,none,none,none,[]⟩),
 (68,⟨4,true,80,[.val (.slice none 0 0),.val (.slice none 0 0),.val (.slice none 0 0),.lit false],[(0,1,false),(1,1,false),(2,1,false),(3,1,false)],none,none,none,none,[]⟩),
 (69,⟨3,true,56,[.val (.slice none 0 0),.val (.slice none 0 0),.lit false],[(0,1,false),(1,1,false),(2,1,false)],none,none,none,none,[]⟩),
 (70,⟨3,true,56,[.val (.slice none 0 0),.val (.slice none 0 0),.lit false],[(0,1,false),(1,1,false),(2,1,false)],none,none,none,none,[]⟩),
 (71,⟨4,true,32,[.ob (.s 0)],[],(some (4,34)),none,none,(some (.s [])),[true,true,true,true]⟩),
 (82,⟨1,false,8,[.val (.pointer none)],[],none,none,none,none,[]⟩),
 (95,⟨1,false,24,[.val (.slice none 0 0)],[],none,(some 34),none,none,[]⟩),
 (106,⟨10,true,80,[.int .u64 0,.int .u64 0,.int .u64 0,.int .u64 0,.int .u64 0,.int .u64 0,.int .u64 0,.int .u64 0,.int .u64 0,.int .u64 0],[],(some (10,34)),none,none,none,[true,true,true,true,true,true,true,true,true,true]⟩),
 (108,⟨1,false,8,[.int .u64 0],[],none,none,(some .u64),none,[true]⟩),
 (110,⟨8,true,64,[.int .u64 0,.int .u64 0,.int .u64 0,.int .u64 0,.int .u64 0,.int .u64 0,.int .u64 0,.int .u64 0],[],(some (8,34)),none,none,none,[true,true,true,true,true,true,true,true]⟩),
 (126,⟨1,false,4,[.int .u32 0],[],none,none,(some .u32),none,[true]⟩),
 (130,⟨1,false,8,[.val (.pointer none)],[],none,none,none,none,[]⟩)]

theorem tyOk:(tyRows.all fun r=>tyCheck Try.prog r.1 r.2)=true:=by kernel_rfl

theorem mixed:Try.prog.follows .mixedOrders=true:=by kernel_rfl

def inlFn (f:Nat):Option Func:=
 if f=110 then some Try.f110 else
 if f=36 then some Try.f36 else
 if f=37 then some Try.f37 else
 if f=38 then some Try.f38 else
 if f=39 then some Try.f39 else
 if f=74 then some Try.f74 else
 if f=75 then some Try.f75 else
 if f=44 then some Try.f44 else
 none

theorem inl_ok:∀f fn,inlFn f=some fn→Try.prog.funcs[f]? = some fn∧Enters Try.prog f:=by
 intro f fn h
 unfold inlFn at h
 split at h
 ·rename_i hf;cases h;subst hf;exact ⟨Try.func110,enters_of Try.func110 rfl rfl⟩
 split at h
 ·rename_i hf;cases h;subst hf;exact ⟨Try.func36,enters_of Try.func36 rfl rfl⟩
 split at h
 ·rename_i hf;cases h;subst hf;exact ⟨Try.func37,enters_of Try.func37 rfl rfl⟩
 split at h
 ·rename_i hf;cases h;subst hf;exact ⟨Try.func38,enters_of Try.func38 rfl rfl⟩
 split at h
 ·rename_i hf;cases h;subst hf;exact ⟨Try.func39,enters_of Try.func39 rfl rfl⟩
 split at h
 ·rename_i hf;cases h;subst hf;exact ⟨Try.func74,enters_of Try.func74 rfl rfl⟩
 split at h
 ·rename_i hf;cases h;subst hf;exact ⟨Try.func75,enters_of Try.func75 rfl rfl⟩
 split at h
 ·rename_i hf;cases h;subst hf;exact ⟨Try.func44,enters_of Try.func44 rfl rfl⟩
 cases h

def exFn (f:Nat):Option Nat:=
 if f=68 then some 0 else if f=70 then some 1 else none

theorem ex_ok:∀f k,exFn f=some k→∀(x y c:Int) (w:World),0≤x→0≤y→y<18446744073709551616→0≤c→c≤1 →
  (callFunc f #[.int .u64 x,.int .u64 y,.int .u64 c]).run Try.prog w = .ok (.value (.tuple #[.int .u64 (exOut k x y c).1,.int .u64 (exOut k x y c).2])) w:=by
 intro f k h x y c w h1 h2 h3 h4 h5
 unfold exFn at h
 split at h
 ·rename_i hf;cases h;subst hf;exact ex_add Try.func68 rfl rfl (by kernel_rfl) (by kernel_rfl) x y c w h1 h2 h4 h5
 split at h
 ·rename_i hf;cases h;subst hf;exact ex_sub Try.func70 rfl rfl (by kernel_rfl) (by kernel_rfl) x y c w h1 h2 h3 h4 h5
 cases h

def env0:Env:=⟨tyGet tyRows,fun _=>none,fun _=>none,inlFn,exFn,fun _=>none⟩

theorem env0_ok:EnvOk Try.prog env0:=
 ⟨fun t i h=>tyGet_ok tyRows tyOk t i h,mixed,fun f s h=>(by cases h),fun f s h=>(by cases h),inl_ok,ex_ok,fun t l h=>(by cases h)⟩

end

section

--@env env0 env0_ok
theorem mul64R (x y:Int):fnRes env0 Try.f67 3000 [.v (.c (.int .u64 x)),.v (.c (.int .u64 y))] [] [] []=(some ([(0≤(32:Int)),(0≤(32:Int)),(0≤(32:Int)),(0≤(32:Int)),(0≤(32:Int))],((.t [(.c (.int .u64 (wrap .u64 ((wrap .u64 ((wrap .u64 ((Int.fdiv x (4294967296:Int))*(Int.fdiv y (4294967296:Int))))+(Int.fdiv (wrap .u64 ((wrap .u64 ((Int.fdiv x (4294967296:Int))*(bitsOp BinOp.and IntKind.u64 y (4294967295:Int))))+(Int.fdiv (wrap .u64 ((bitsOp BinOp.and IntKind.u64 x (4294967295:Int))*(bitsOp BinOp.and IntKind.u64 y (4294967295:Int)))) (4294967296:Int)))) (4294967296:Int))))+(Int.fdiv (wrap .u64 ((bitsOp BinOp.and IntKind.u64 (wrap .u64 ((wrap .u64 ((Int.fdiv x (4294967296:Int))*(bitsOp BinOp.and IntKind.u64 y (4294967295:Int))))+(Int.fdiv (wrap .u64 ((bitsOp BinOp.and IntKind.u64 x (4294967295:Int))*(bitsOp BinOp.and IntKind.u64 y (4294967295:Int)))) (4294967296:Int)))) (4294967295:Int))+(wrap .u64 ((bitsOp BinOp.and IntKind.u64 x (4294967295:Int))*(Int.fdiv y (4294967296:Int)))))) (4294967296:Int)))))),(.c (.int .u64 (wrap .u64 (x*y))))]),[]))):=by kernel_rfl
end

section

theorem wrap_u64 (n:Int):wrap IntKind.u64 n=n % 18446744073709551616:=rfl

theorem and32 {x:Int} (h:0≤x):bitsOp BinOp.and IntKind.u64 x (4294967295:Int)=x % 4294967296:=by
 obtain ⟨n,rfl⟩:=Int.eq_ofNat_of_zero_le h
 show wrap IntKind.u64 ((BitVec.ofInt 64 (n:Int) &&& BitVec.ofInt 64 ((4294967295:Nat):Int)).toNat:Int)=_
 rw[BitVec.ofInt_natCast,BitVec.ofInt_natCast,BitVec.toNat_and,BitVec.toNat_ofNat,BitVec.toNat_ofNat]
 have e:4294967295 % 2 ^ 64=2 ^ 32-1:=by decide
 rw[e,Nat.and_two_pow_sub_one_eq_mod,wrap_u64]
 omega

theorem shr32 (x:Int):Int.fdiv x 4294967296=x / 4294967296:=by
 exact Int.fdiv_eq_ediv_of_nonneg x (by decide)

theorem mul32 {a b:Int} (ha:0≤a) (ha1:a<4294967296) (hb:0≤b) (hb1:b<4294967296):0≤a*b∧a*b≤18446744065119617025:=by
 refine ⟨Int.mul_nonneg ha hb,?_⟩
 have:a*b≤4294967295*4294967295:=Int.mul_le_mul (by omega) (by omega) hb (by decide)
 omega

/-- Four products of halves. -/
theorem halves {x y:Int}:x*y=(x / 4294967296)*(y / 4294967296)*18446744073709551616+((x / 4294967296)*(y % 4294967296)+(x % 4294967296)*(y / 4294967296))*4294967296+(x % 4294967296)*(y % 4294967296):=by
 have hx:x=4294967296*(x / 4294967296)+x % 4294967296:=(Int.mul_ediv_add_emod x 4294967296).symm
 have hy:y=4294967296*(y / 4294967296)+y % 4294967296:=(Int.mul_ediv_add_emod y 4294967296).symm
 generalize x / 4294967296=a at *
 generalize x % 4294967296=b at *
 generalize y / 4294967296=c at *
 generalize y % 4294967296=d at *
 subst hx hy
 simp only[Int.add_mul,Int.mul_add]
 have e1:4294967296*a*(4294967296*c)=a*c*18446744073709551616:=by
  rw[Int.mul_assoc,Int.mul_left_comm a]
  omega
 have e2:4294967296*a*d=a*d*4294967296:=by rw[Int.mul_assoc];omega
 have e3:b*(4294967296*c)=b*c*4294967296:=by rw[Int.mul_left_comm];omega
 rw[e1,e2,e3]
 omega

theorem mul64_fnd (x y:Int) (hx:0≤x) (hx1:x<18446744073709551616) (hy:0≤y) (hy1:y<18446744073709551616) :
  FnD Try.prog 67 [.v (.c (.int .u64 x)),.v (.c (.int .u64 y))] (.t [.c (.int .u64 (x*y / 18446744073709551616)),.c (.int .u64 (x*y % 18446744073709551616))]) []:=by
 refine (fn_sound env0_ok Try.func67 (mul64R x y) (by simp [AllP])).conv (fun _ _ h=>h) (fun z w hd=>?_)
 simp only[shr32] at hd
 have hx2:0≤x / 4294967296∧x / 4294967296<4294967296:=by omega
 have hy2:0≤y / 4294967296∧y / 4294967296<4294967296:=by omega
 have hx3:0≤x % 4294967296∧x % 4294967296<4294967296:=by omega
 have hy3:0≤y % 4294967296∧y % 4294967296<4294967296:=by omega
 rw[and32 hx,and32 hy] at hd
 have h:=halves (x:=x) (y:=y)
 have m1:=mul32 hx2.1 hx2.2 hy2.1 hy2.2
 have m2:=mul32 hx2.1 hx2.2 hy3.1 hy3.2
 have m3:=mul32 hx3.1 hx3.2 hy2.1 hy2.2
 have m4:=mul32 hx3.1 hx3.2 hy3.1 hy3.2
 generalize x / 4294967296*(y / 4294967296)=d at *
 generalize x / 4294967296*(y % 4294967296)=b at *
 generalize x % 4294967296*(y / 4294967296)=c at *
 generalize x % 4294967296*(y % 4294967296)=a at *
 generalize x*y=n at *
 simp only[wrap_u64] at hd
 rw[and32 (by omega)] at hd
 have e:(((d % 18446744073709551616+(b % 18446744073709551616+a % 18446744073709551616 / 4294967296) % 18446744073709551616 / 4294967296) % 18446744073709551616+((b % 18446744073709551616+a % 18446744073709551616 / 4294967296) % 18446744073709551616 % 4294967296+c % 18446744073709551616) % 18446744073709551616 / 4294967296) % 18446744073709551616)=n / 18446744073709551616:=by omega
 rw[e] at hd
 exact hd

end

section

def mul64Spec:FnSpec
 | [.v (.c (.int .u64 x)),.v (.c (.int .u64 y))]=>some ([0≤x,x<18446744073709551616,0≤y,y<18446744073709551616],.t [.c (.int .u64 (x*y / 18446744073709551616)),.c (.int .u64 (x*y % 18446744073709551616))],[])
 | _=>none

def envA:Env:=env0.set (addT env0.fn 67 mul64Spec)
theorem envA_ok:EnvOk Try.prog envA:=
 env_add env0_ok 67 mul64Spec (enters_of Try.func67 rfl rfl) fun args o r es h ho=>by
  unfold mul64Spec at h
  split at h
  ·cases h;exact mul64_fnd _ _ ho.1 ho.2.1 ho.2.2.1 ho.2.2.2.1
  ·cases h

--@env envA envA_ok
theorem coreR  : fnRes envA Try.f65 3000 [] [] [] []=(some ([(0≤(18446744069414584321:Int)),((18446744069414584321:Int)<(18446744073709551616:Int)),(0≤(6034159408538082302:Int)),((6034159408538082302:Int)<(18446744073709551616:Int)),(0≤(3691218898639771653:Int)),((3691218898639771653:Int)<(18446744073709551616:Int)),(0≤(8353516859464449352:Int)),((8353516859464449352:Int)<(18446744073709551616:Int))],((.v (.a [(.ob (.fr (Fin.ofNat B4 52435875175126190479447740508185965837690552500527637822603658699938581184513)))])),[]))):=by kernel_rfl

def rU:U4:=Fin.ofNat B4 rN
def coreRSpec:FnSpec
 | []=>some ([],.v (.a [.ob (.fr rU)]),[])
 | _=>none

theorem coreR_fnd:FnD Try.prog 65 [] (.v (.a [.ob (.fr rU)])) []:=
 (fn_sound envA_ok Try.func65 coreR (by simp [AllP])).conv (fun _ _ h=>h) fun y v hd=>by
  have e:rU=Fin.ofNat B4 (((18446744069414584321:Int)).toNat+(18446744073709551616*(((6034159408538082302:Int)).toNat+(18446744073709551616*(((3691218898639771653:Int)).toNat+(18446744073709551616*(((8353516859464449352:Int)).toNat+(18446744073709551616*0)))))))):=by kernel_rfl
  rw[e]
  exact hd

def envB:Env:=envA.set (addT envA.fn 65 coreRSpec)
theorem envB_ok:EnvOk Try.prog envB:=
 env_add envA_ok 65 coreRSpec (enters_of Try.func65 rfl rfl) fun args o r es h ho=>by
  unfold coreRSpec at h
  split at h
  ·cases h;exact coreR_fnd
  ·cases h

--@env envB envB_ok
theorem red0 (a b c d:Int):fnRes envB Try.f69 3000 [.v (.a [.int .u64 a,.int .u64 b,.int .u64 c,.int .u64 d])] [true,true,true,true,false,true] [] []=(some ([((decide (0<(4:Int)))=true),(0≤(0:Int)),(0<(4:Int)),(0≤(0:Int)),(0<(4:Int)),(0<4),(0≤a),(0≤(18446744069414584321:Int)),((18446744069414584321:Int)<(18446744073709551616:Int)),(0≤(0:Int)),(0≤(1:Int)),(0≤(0:Int)),(0<(4:Int)),((decide ((1:Int)<(4:Int)))=true),(0≤(1:Int)),((1:Int)<(4:Int)),(0≤(1:Int)),((1:Int)<(4:Int)),(1<4),(0≤b),(0≤(6034159408538082302:Int)),((6034159408538082302:Int)<(18446744073709551616:Int)),(0≤(Prod.snd (exOut 1 a (18446744069414584321:Int) (0:Int)))),((Prod.snd (exOut 1 a (18446744069414584321:Int) (0:Int)))≤(1:Int)),(0≤(1:Int)),((1:Int)<(4:Int)),((decide ((2:Int)<(4:Int)))=true),(0≤(2:Int)),((2:Int)<(4:Int)),(0≤(2:Int)),((2:Int)<(4:Int)),(2<4),(0≤c),(0≤(3691218898639771653:Int)),((3691218898639771653:Int)<(18446744073709551616:Int)),(0≤(Prod.snd (exOut 1 b (6034159408538082302:Int) (Prod.snd (exOut 1 a (18446744069414584321:Int) (0:Int)))))),((Prod.snd (exOut 1 b (6034159408538082302:Int) (Prod.snd (exOut 1 a (18446744069414584321:Int) (0:Int)))))≤(1:Int)),(0≤(2:Int)),((2:Int)<(4:Int)),((decide ((3:Int)<(4:Int)))=true),(0≤(3:Int)),((3:Int)<(4:Int)),(0≤(3:Int)),((3:Int)<(4:Int)),(3<4),(0≤d),(0≤(8353516859464449352:Int)),((8353516859464449352:Int)<(18446744073709551616:Int)),(0≤(Prod.snd (exOut 1 c (3691218898639771653:Int) (Prod.snd (exOut 1 b (6034159408538082302:Int) (Prod.snd (exOut 1 a (18446744069414584321:Int) (0:Int)))))))),((Prod.snd (exOut 1 c (3691218898639771653:Int) (Prod.snd (exOut 1 b (6034159408538082302:Int) (Prod.snd (exOut 1 a (18446744069414584321:Int) (0:Int)))))))≤(1:Int)),(0≤(3:Int)),((3:Int)<(4:Int)),((decide ((4:Int)<(4:Int)))=false),(((Prod.snd (exOut 1 d (8353516859464449352:Int) (Prod.snd (exOut 1 c (3691218898639771653:Int) (Prod.snd (exOut 1 b (6034159408538082302:Int) (Prod.snd (exOut 1 a (18446744069414584321:Int) (0:Int))))))))) == (0:Int))=true)],((.v (.a [(.int .u64 (Prod.fst (exOut 1 a (18446744069414584321:Int) (0:Int)))),(.int .u64 (Prod.fst (exOut 1 b (6034159408538082302:Int) (Prod.snd (exOut 1 a (18446744069414584321:Int) (0:Int)))))),(.int .u64 (Prod.fst (exOut 1 c (3691218898639771653:Int) (Prod.snd (exOut 1 b (6034159408538082302:Int) (Prod.snd (exOut 1 a (18446744069414584321:Int) (0:Int)))))))),(.int .u64 (Prod.fst (exOut 1 d (8353516859464449352:Int) (Prod.snd (exOut 1 c (3691218898639771653:Int) (Prod.snd (exOut 1 b (6034159408538082302:Int) (Prod.snd (exOut 1 a (18446744069414584321:Int) (0:Int))))))))))])),[]))):=by kernel_rfl
theorem red1 (a b c d:Int):fnRes envB Try.f69 3000 [.v (.a [.int .u64 a,.int .u64 b,.int .u64 c,.int .u64 d])] [true,true,true,true,false,false] [] []=(some ([((decide (0<(4:Int)))=true),(0≤(0:Int)),(0<(4:Int)),(0≤(0:Int)),(0<(4:Int)),(0<4),(0≤a),(0≤(18446744069414584321:Int)),((18446744069414584321:Int)<(18446744073709551616:Int)),(0≤(0:Int)),(0≤(1:Int)),(0≤(0:Int)),(0<(4:Int)),((decide ((1:Int)<(4:Int)))=true),(0≤(1:Int)),((1:Int)<(4:Int)),(0≤(1:Int)),((1:Int)<(4:Int)),(1<4),(0≤b),(0≤(6034159408538082302:Int)),((6034159408538082302:Int)<(18446744073709551616:Int)),(0≤(Prod.snd (exOut 1 a (18446744069414584321:Int) (0:Int)))),((Prod.snd (exOut 1 a (18446744069414584321:Int) (0:Int)))≤(1:Int)),(0≤(1:Int)),((1:Int)<(4:Int)),((decide ((2:Int)<(4:Int)))=true),(0≤(2:Int)),((2:Int)<(4:Int)),(0≤(2:Int)),((2:Int)<(4:Int)),(2<4),(0≤c),(0≤(3691218898639771653:Int)),((3691218898639771653:Int)<(18446744073709551616:Int)),(0≤(Prod.snd (exOut 1 b (6034159408538082302:Int) (Prod.snd (exOut 1 a (18446744069414584321:Int) (0:Int)))))),((Prod.snd (exOut 1 b (6034159408538082302:Int) (Prod.snd (exOut 1 a (18446744069414584321:Int) (0:Int)))))≤(1:Int)),(0≤(2:Int)),((2:Int)<(4:Int)),((decide ((3:Int)<(4:Int)))=true),(0≤(3:Int)),((3:Int)<(4:Int)),(0≤(3:Int)),((3:Int)<(4:Int)),(3<4),(0≤d),(0≤(8353516859464449352:Int)),((8353516859464449352:Int)<(18446744073709551616:Int)),(0≤(Prod.snd (exOut 1 c (3691218898639771653:Int) (Prod.snd (exOut 1 b (6034159408538082302:Int) (Prod.snd (exOut 1 a (18446744069414584321:Int) (0:Int)))))))),((Prod.snd (exOut 1 c (3691218898639771653:Int) (Prod.snd (exOut 1 b (6034159408538082302:Int) (Prod.snd (exOut 1 a (18446744069414584321:Int) (0:Int)))))))≤(1:Int)),(0≤(3:Int)),((3:Int)<(4:Int)),((decide ((4:Int)<(4:Int)))=false),(((Prod.snd (exOut 1 d (8353516859464449352:Int) (Prod.snd (exOut 1 c (3691218898639771653:Int) (Prod.snd (exOut 1 b (6034159408538082302:Int) (Prod.snd (exOut 1 a (18446744069414584321:Int) (0:Int))))))))) == (0:Int))=false)],((.v (.a [(.int .u64 a),(.int .u64 b),(.int .u64 c),(.int .u64 d)])),[]))):=by kernel_rfl
end

section

def num4 (a b c d:Int):Int:=a+18446744073709551616*b+340282366920938463463374607431768211456*c+6277101735386680763835789423207666416102355444464034512896*d

def reducedSpec:FnSpec
 | [.v (.a [.int .u64 a,.int .u64 b,.int .u64 c,.int .u64 d])]=>some ([0≤a,a<18446744073709551616,0≤b,b<18446744073709551616,0≤c,c<18446744073709551616,0≤d,d<18446744073709551616,num4 a b c d<2*rN],.v (.a [.ob (.s (redS (num4 a b c d).toNat))]),[])
 | _=>none

theorem reduced_fnd (a b c d:Int) (ha:0≤a) (ha1:a<18446744073709551616) (hb:0≤b) (hb1:b<18446744073709551616) (hc:0≤c) (hc1:c<18446744073709551616) (hd:0≤d) (hd1:d<18446744073709551616) (hn:num4 a b c d<2*rN) :
  FnD Try.prog 69 [.v (.a [.int .u64 a,.int .u64 b,.int .u64 c,.int .u64 d])] (.v (.a [.ob (.s (redS (num4 a b c d).toNat))])) []:=by
 have r0:=red0 a b c d
 have r1:=red1 a b c d
 obtain ⟨e1,o1,o1',c1,c1'⟩:=sub_step (y:=18446744069414584321) (c:=0) ha ha1 (by decide) (by decide) (by decide) (by decide)
 obtain ⟨e2,o2,o2',c2,c2'⟩:=sub_step (y:=6034159408538082302) hb hb1 (by decide) (by decide) c1 c1'
 obtain ⟨e3,o3,o3',c3,c3'⟩:=sub_step (y:=3691218898639771653) hc hc1 (by decide) (by decide) c2 c2'
 obtain ⟨e4,o4,o4',c4,c4'⟩:=sub_step (y:=8353516859464449352) hd hd1 (by decide) (by decide) c3 c3'
 generalize hx1:exOut 1 a 18446744069414584321 0=x1 at *
 generalize hx2:exOut 1 b 6034159408538082302 x1.2=x2 at *
 generalize hx3:exOut 1 c 3691218898639771653 x2.2=x3 at *
 generalize hx4:exOut 1 d 8353516859464449352 x3.2=x4 at *
 clear hx1 hx2 hx3 hx4
 unfold num4 rN at hn
 have hnn:0≤num4 a b c d:=by unfold num4;omega
 have hN:((num4 a b c d).toNat:Int)=num4 a b c d:=Int.toNat_of_nonneg hnn
 by_cases hz:x4.2=0
 ·refine (fn_sound envB_ok Try.func69 r0 ?_).conv (fun _ _ h=>h) fun y v hv=>ints_ob rfl ?_ hv
  ·simp only[AllP,and_true,decide_eq_true_eq,decide_eq_false_iff_not,beq_iff_eq];omega
  ·refine limbsAre4 o1 o1' o2 o2' o3 o3' o4 o4' ?_
   have e:(Ob.s (redS (num4 a b c d).toNat)).n=(num4 a b c d).toNat-rN:=by
    rw[redS_n]
    have h1:rN≤(num4 a b c d).toNat:=by unfold rN num4;omega
    have h2:(num4 a b c d).toNat<2*rN:=by unfold rN num4;omega
    rw[Nat.mod_eq_sub_mod h1,Nat.mod_eq_of_lt (by omega)]
   rw[e]
   unfold rN num4
   omega
 ·refine (fn_sound envB_ok Try.func69 r1 ?_).conv (fun _ _ h=>h) fun y v hv=>ints_ob rfl ?_ hv
  ·simp only[AllP,and_true,decide_eq_true_eq,decide_eq_false_iff_not,beq_eq_false_iff_ne];omega
  ·refine limbsAre4 ha ha1 hb hb1 hc hc1 hd hd1 ?_
   have e:(Ob.s (redS (num4 a b c d).toNat)).n=(num4 a b c d).toNat:=by
    rw[redS_n]
    exact Nat.mod_eq_of_lt (by unfold rN num4;omega)
   rw[e,hN]
   rfl

end

section
section
variable {w0:World} {F0:Nat→Prop} {K:Kp} {ac:List Act} {Q:Exit→Act→World→Prop} {cX:Ctx} {aX:Act}

def envC:Env:=envB.set (addT envB.fn 69 reducedSpec)
theorem envC_ok:EnvOk Try.prog envC:=
 env_add envB_ok 69 reducedSpec (enters_of Try.func69 rfl rfl) fun args o r es h ho=>by
  unfold reducedSpec at h
  split at h
  ·cases h
   obtain ⟨h1,h2,h3,h4,h5,h6,h7,h8,h9,_⟩:=ho
   exact reduced_fnd _ _ _ _ h1 h2 h3 h4 h5 h6 h7 h8 h9
  ·cases h

def tc0 (x y:Fr):Cfg:=⟨[.code (bodyOf Try.f30)],.normal,initSt Try.f30.ntmps [.v (.a [.ob (.s x)]),.v (.a [.ob (.s y)])]⟩

--@env envC envC_ok
def tIn_k:List KI:=(run envC false 3000 ((fun (x y:Fr)=>(tc0 x y:Cfg)) default default) []).cfg.k
theorem tIn (x y:Fr) (ho:AllP []) (hs:Sim w0 F0 K ac (((tc0 x y:Cfg)).σ) cX aX) (hK:∀ac cY aY,Sim w0 F0 K ac (mkSt 208 [3,4,5,6,7,8,18,19] [.pt 32 0,.pt 48 0,.iu (0:Int),.iu (0:Int),.iu (0:Int),.iu (0:Int),(.v (.a [.ob (.s x)])),.ii (0:Int)] [32,48] [(eF [.ob (.s y)]),(eF [(.ob (.s (0:Fr)))])] 160 [] []) cY aY→Wq Try.prog Q (tIn_k) ac Exit.normal aY cY.w):Wq Try.prog Q (((tc0 x y:Cfg)).k) ac ((tc0 x y:Cfg)).x aX cX.w:=
 run_at (unroll:=false) (n:=3000) (path:=[]) (o:=⟨_,_,_,_,_,_,_⟩) envC_ok (by kernel_rfl) (by kernel_rfl) ho hs hK
def tS (x y:Fr) (i:Nat) (t0 t1 t2 t3:Int):St:=mkSt 208 [3,4,5,6,7,8,18,19] [.pt 32 0,.pt 48 0,.v (.c (.int .u64 t0)),.v (.c (.int .u64 t1)),.v (.c (.int .u64 t2)),.v (.c (.int .u64 t3)),(.v (.a [.ob (.s x)])),.v (.c (.int .i64 (i:Int)))] [32,48] [(eF [.ob (.s y)]),(eF [(.ob (.s (0:Fr)))])] 160 [] []
theorem tX_end (x y:Fr) (i:Nat) (t0 t1 t2 t3:Int):runEnd envC Try.f30 false 3000 (⟨lpIn tIn_k,.normal,tS x y i t0 t1 t2 t3⟩) [false] [] []=(some ([((decide ((i:Int)<(4:Int)))=false),(0≤t0),(t0<(18446744073709551616:Int)),(0≤t1),(t1<(18446744073709551616:Int)),(0≤t2),(t2<(18446744073709551616:Int)),(0≤t3),(t3<(18446744073709551616:Int)),((num4 t0 t1 t2 t3)<(104871750350252380958895481016371931675381105001055275645207317399877162369026:Int))],((.v (.a [(.ob (.s (redS ((num4 t0 t1 t2 t3)).toNat)))])),[]))):=by kernel_rfl
def tA_k:List KI:=(run envC false 77 ((fun (x y:Fr) (i:Nat) (t0 t1 t2 t3:Int)=>(⟨lpIn tIn_k,.normal,tS x y i t0 t1 t2 t3⟩:Cfg)) default default default default default default default) [true]).cfg.k
theorem tA (x y:Fr) (i:Nat) (t0 t1 t2 t3:Int) {w0:World} {F0:Nat→Prop} {K:Kp} {ac:List Act} {Q:Exit→Act→World→Prop} {cX:Ctx} {aX:Act} (ho:AllP [((decide ((i:Int)<(4:Int)))=true),(0≤(i:Int)),((i:Int)<(4:Int)),(0≤(0:Int)),(0<(4:Int)),(0<(Ob.k (.s y))),(0≤(limb (Ob.n (.s x)) ((i:Int)).toNat)),((limb (Ob.n (.s x)) ((i:Int)).toNat)<(18446744073709551616:Int)),(0≤(limb (Ob.n (.s y)) 0)),((limb (Ob.n (.s y)) 0)<(18446744073709551616:Int)),(0≤(((limb (Ob.n (.s x)) ((i:Int)).toNat)*(limb (Ob.n (.s y)) 0)) % (18446744073709551616:Int))),(0≤t0),(t0<(18446744073709551616:Int)),(0≤(0:Int)),(0≤(1:Int)),(0≤(wrap .u64 ((Prod.fst (exOut 0 (((limb (Ob.n (.s x)) ((i:Int)).toNat)*(limb (Ob.n (.s y)) 0)) % (18446744073709551616:Int)) t0 (0:Int)))*(18446744069414584319:Int)))),((wrap .u64 ((Prod.fst (exOut 0 (((limb (Ob.n (.s x)) ((i:Int)).toNat)*(limb (Ob.n (.s y)) 0)) % (18446744073709551616:Int)) t0 (0:Int)))*(18446744069414584319:Int)))<(18446744073709551616:Int)),(0≤(18446744069414584321:Int)),((18446744069414584321:Int)<(18446744073709551616:Int)),(0≤(((wrap .u64 ((Prod.fst (exOut 0 (((limb (Ob.n (.s x)) ((i:Int)).toNat)*(limb (Ob.n (.s y)) 0)) % (18446744073709551616:Int)) t0 (0:Int)))*(18446744069414584319:Int)))*(18446744069414584321:Int)) % (18446744073709551616:Int))),(0≤(Prod.fst (exOut 0 (((limb (Ob.n (.s x)) ((i:Int)).toNat)*(limb (Ob.n (.s y)) 0)) % (18446744073709551616:Int)) t0 (0:Int)))),((Prod.fst (exOut 0 (((limb (Ob.n (.s x)) ((i:Int)).toNat)*(limb (Ob.n (.s y)) 0)) % (18446744073709551616:Int)) t0 (0:Int)))<(18446744073709551616:Int)),(0≤(0:Int)),(0≤(1:Int))]) (hs:Sim w0 F0 K ac (tS x y i t0 t1 t2 t3) cX aX) (hK:∀ac cY aY,Sim w0 F0 K ac (mkSt 208 [3,4,6,7,8,10,14,15,17,18,19] [.pt 32 0,.pt 48 0,.iu t1,.iu t2,.iu t3,(.iu (limb (Ob.n (.s x)) ((i:Int)).toNat)),(.iu (wrap .u64 ((((limb (Ob.n (.s x)) ((i:Int)).toNat)*(limb (Ob.n (.s y)) 0)) / (18446744073709551616:Int))+(Prod.snd (exOut 0 (((limb (Ob.n (.s x)) ((i:Int)).toNat)*(limb (Ob.n (.s y)) 0)) % (18446744073709551616:Int)) t0 (0:Int)))))),(.iu (wrap .u64 ((Prod.fst (exOut 0 (((limb (Ob.n (.s x)) ((i:Int)).toNat)*(limb (Ob.n (.s y)) 0)) % (18446744073709551616:Int)) t0 (0:Int)))*(18446744069414584319:Int)))),(.iu (wrap .u64 ((((wrap .u64 ((Prod.fst (exOut 0 (((limb (Ob.n (.s x)) ((i:Int)).toNat)*(limb (Ob.n (.s y)) 0)) % (18446744073709551616:Int)) t0 (0:Int)))*(18446744069414584319:Int)))*(18446744069414584321:Int)) / (18446744073709551616:Int))+(Prod.snd (exOut 0 (((wrap .u64 ((Prod.fst (exOut 0 (((limb (Ob.n (.s x)) ((i:Int)).toNat)*(limb (Ob.n (.s y)) 0)) % (18446744073709551616:Int)) t0 (0:Int)))*(18446744069414584319:Int)))*(18446744069414584321:Int)) % (18446744073709551616:Int)) (Prod.fst (exOut 0 (((limb (Ob.n (.s x)) ((i:Int)).toNat)*(limb (Ob.n (.s y)) 0)) % (18446744073709551616:Int)) t0 (0:Int))) (0:Int)))))),(.v (.a [.ob (.s x)])),(.ii (i:Int))] [32,48] [(eF [.ob (.s y)]),(eF [(.ob (.s (0:Fr)))])] 880 [] []) cY aY→Wq Try.prog Q (tA_k) ac Exit.normal aY cY.w):Wq Try.prog Q (lpIn tIn_k) ac .normal aX cX.w:=
 run_at2 (unroll:=false) (n:=77) (path:=[true]) (o:=⟨_,_,_,_,_,_,_⟩) envC_ok (by kernel_rfl) (by kernel_rfl) ho hs hK
def tS1 (x y:Fr) (i:Nat) (t1 t2 t3 xi q up dn:Int):St:=mkSt 208 [3,4,6,7,8,10,14,15,17,18,19] [.pt 32 0,.pt 48 0,.iu t1,.iu t2,.iu t3,.v (.c (.int .u64 xi)),.v (.c (.int .u64 up)),.v (.c (.int .u64 q)),.v (.c (.int .u64 dn)),(.v (.a [.ob (.s x)])),(.ii (i:Int))] [32,48] [(eF [.ob (.s y)]),(eF [(.ob (.s (0:Fr)))])] 880 [] []
def tB_k:List KI:=(run envC false 94 ((fun (x y:Fr) (i:Nat) (t1 t2 t3 xi q up dn:Int)=>(⟨tA_k,.normal,tS1 x y i t1 t2 t3 xi q up dn⟩:Cfg)) default default default default default default default default default default) []).cfg.k
theorem tB (x y:Fr) (i:Nat) (t1 t2 t3 xi q up dn:Int) (ho:AllP [(0≤(1:Int)),((1:Int)<(4:Int)),(1<(Ob.k (.s y))),(0≤xi),(xi<(18446744073709551616:Int)),(0≤(limb (Ob.n (.s y)) 1)),((limb (Ob.n (.s y)) 1)<(18446744073709551616:Int)),(0≤((xi*(limb (Ob.n (.s y)) 1)) % (18446744073709551616:Int))),(0≤t1),(t1<(18446744073709551616:Int)),(0≤(0:Int)),(0≤(1:Int)),(0≤(Prod.fst (exOut 0 ((xi*(limb (Ob.n (.s y)) 1)) % (18446744073709551616:Int)) t1 (0:Int)))),(0≤up),(up<(18446744073709551616:Int)),(0≤(0:Int)),(0≤(1:Int)),(0≤q),(q<(18446744073709551616:Int)),(0≤(6034159408538082302:Int)),((6034159408538082302:Int)<(18446744073709551616:Int)),(0≤((q*(6034159408538082302:Int)) % (18446744073709551616:Int))),(0≤(Prod.fst (exOut 0 (Prod.fst (exOut 0 ((xi*(limb (Ob.n (.s y)) 1)) % (18446744073709551616:Int)) t1 (0:Int))) up (0:Int)))),((Prod.fst (exOut 0 (Prod.fst (exOut 0 ((xi*(limb (Ob.n (.s y)) 1)) % (18446744073709551616:Int)) t1 (0:Int))) up (0:Int)))<(18446744073709551616:Int)),(0≤(0:Int)),(0≤(1:Int)),(0≤(Prod.fst (exOut 0 ((q*(6034159408538082302:Int)) % (18446744073709551616:Int)) (Prod.fst (exOut 0 (Prod.fst (exOut 0 ((xi*(limb (Ob.n (.s y)) 1)) % (18446744073709551616:Int)) t1 (0:Int))) up (0:Int))) (0:Int)))),(0≤dn),(dn<(18446744073709551616:Int)),(0≤(0:Int)),(0≤(1:Int))]):Sg Try.prog (tS1 x y i t1 t2 t3 xi q up dn) (mkSt 208 [3,4,5,7,8,10,14,15,17,18,19] [.pt 32 0,.pt 48 0,(.iu (Prod.fst (exOut 0 (Prod.fst (exOut 0 ((q*(6034159408538082302:Int)) % (18446744073709551616:Int)) (Prod.fst (exOut 0 (Prod.fst (exOut 0 ((xi*(limb (Ob.n (.s y)) 1)) % (18446744073709551616:Int)) t1 (0:Int))) up (0:Int))) (0:Int))) dn (0:Int)))),.iu t2,.iu t3,.iu xi,(.iu (wrap .u64 ((wrap .u64 (((xi*(limb (Ob.n (.s y)) 1)) / (18446744073709551616:Int))+(Prod.snd (exOut 0 ((xi*(limb (Ob.n (.s y)) 1)) % (18446744073709551616:Int)) t1 (0:Int)))))+(Prod.snd (exOut 0 (Prod.fst (exOut 0 ((xi*(limb (Ob.n (.s y)) 1)) % (18446744073709551616:Int)) t1 (0:Int))) up (0:Int)))))),.iu q,(.iu (wrap .u64 ((wrap .u64 (((q*(6034159408538082302:Int)) / (18446744073709551616:Int))+(Prod.snd (exOut 0 ((q*(6034159408538082302:Int)) % (18446744073709551616:Int)) (Prod.fst (exOut 0 (Prod.fst (exOut 0 ((xi*(limb (Ob.n (.s y)) 1)) % (18446744073709551616:Int)) t1 (0:Int))) up (0:Int))) (0:Int)))))+(Prod.snd (exOut 0 (Prod.fst (exOut 0 ((q*(6034159408538082302:Int)) % (18446744073709551616:Int)) (Prod.fst (exOut 0 (Prod.fst (exOut 0 ((xi*(limb (Ob.n (.s y)) 1)) % (18446744073709551616:Int)) t1 (0:Int))) up (0:Int))) (0:Int))) dn (0:Int)))))),(.v (.a [.ob (.s x)])),(.ii (i:Int))] [32,48] [(eF [.ob (.s y)]),(eF [(.ob (.s (0:Fr)))])] 1904 [] []) .normal (tB_k) (tA_k):=fun hs hK=>
 run_at2 (unroll:=false) (n:=94) (path:=[]) (o:=⟨_,_,_,_,_,_,_⟩) envC_ok (by kernel_rfl) (by kernel_rfl) ho hs hK
def tS2 (x y:Fr) (i:Nat) (n0 t2 t3 xi q up dn:Int):St:=mkSt 208 [3,4,5,7,8,10,14,15,17,18,19] [.pt 32 0,.pt 48 0,.v (.c (.int .u64 n0)),.iu t2,.iu t3,.iu xi,.v (.c (.int .u64 up)),.iu q,.v (.c (.int .u64 dn)),(.v (.a [.ob (.s x)])),(.ii (i:Int))] [32,48] [(eF [.ob (.s y)]),(eF [(.ob (.s (0:Fr)))])] 1904 [] []
def tC_k:List KI:=(run envC false 94 ((fun (x y:Fr) (i:Nat) (n0 t2 t3 xi q up dn:Int)=>(⟨tB_k,.normal,tS2 x y i n0 t2 t3 xi q up dn⟩:Cfg)) default default default default default default default default default default) []).cfg.k
theorem tC (x y:Fr) (i:Nat) (n0 t2 t3 xi q up dn:Int) (ho:AllP [(0≤(2:Int)),((2:Int)<(4:Int)),(2<(Ob.k (.s y))),(0≤xi),(xi<(18446744073709551616:Int)),(0≤(limb (Ob.n (.s y)) 2)),((limb (Ob.n (.s y)) 2)<(18446744073709551616:Int)),(0≤((xi*(limb (Ob.n (.s y)) 2)) % (18446744073709551616:Int))),(0≤t2),(t2<(18446744073709551616:Int)),(0≤(0:Int)),(0≤(1:Int)),(0≤(Prod.fst (exOut 0 ((xi*(limb (Ob.n (.s y)) 2)) % (18446744073709551616:Int)) t2 (0:Int)))),(0≤up),(up<(18446744073709551616:Int)),(0≤(0:Int)),(0≤(1:Int)),(0≤q),(q<(18446744073709551616:Int)),(0≤(3691218898639771653:Int)),((3691218898639771653:Int)<(18446744073709551616:Int)),(0≤((q*(3691218898639771653:Int)) % (18446744073709551616:Int))),(0≤(Prod.fst (exOut 0 (Prod.fst (exOut 0 ((xi*(limb (Ob.n (.s y)) 2)) % (18446744073709551616:Int)) t2 (0:Int))) up (0:Int)))),((Prod.fst (exOut 0 (Prod.fst (exOut 0 ((xi*(limb (Ob.n (.s y)) 2)) % (18446744073709551616:Int)) t2 (0:Int))) up (0:Int)))<(18446744073709551616:Int)),(0≤(0:Int)),(0≤(1:Int)),(0≤(Prod.fst (exOut 0 ((q*(3691218898639771653:Int)) % (18446744073709551616:Int)) (Prod.fst (exOut 0 (Prod.fst (exOut 0 ((xi*(limb (Ob.n (.s y)) 2)) % (18446744073709551616:Int)) t2 (0:Int))) up (0:Int))) (0:Int)))),(0≤dn),(dn<(18446744073709551616:Int)),(0≤(0:Int)),(0≤(1:Int))]):Sg Try.prog (tS2 x y i n0 t2 t3 xi q up dn) (mkSt 208 [3,4,5,6,8,10,14,15,17,18,19] [.pt 32 0,.pt 48 0,.iu n0,(.iu (Prod.fst (exOut 0 (Prod.fst (exOut 0 ((q*(3691218898639771653:Int)) % (18446744073709551616:Int)) (Prod.fst (exOut 0 (Prod.fst (exOut 0 ((xi*(limb (Ob.n (.s y)) 2)) % (18446744073709551616:Int)) t2 (0:Int))) up (0:Int))) (0:Int))) dn (0:Int)))),.iu t3,.iu xi,(.iu (wrap .u64 ((wrap .u64 (((xi*(limb (Ob.n (.s y)) 2)) / (18446744073709551616:Int))+(Prod.snd (exOut 0 ((xi*(limb (Ob.n (.s y)) 2)) % (18446744073709551616:Int)) t2 (0:Int)))))+(Prod.snd (exOut 0 (Prod.fst (exOut 0 ((xi*(limb (Ob.n (.s y)) 2)) % (18446744073709551616:Int)) t2 (0:Int))) up (0:Int)))))),.iu q,(.iu (wrap .u64 ((wrap .u64 (((q*(3691218898639771653:Int)) / (18446744073709551616:Int))+(Prod.snd (exOut 0 ((q*(3691218898639771653:Int)) % (18446744073709551616:Int)) (Prod.fst (exOut 0 (Prod.fst (exOut 0 ((xi*(limb (Ob.n (.s y)) 2)) % (18446744073709551616:Int)) t2 (0:Int))) up (0:Int))) (0:Int)))))+(Prod.snd (exOut 0 (Prod.fst (exOut 0 ((q*(3691218898639771653:Int)) % (18446744073709551616:Int)) (Prod.fst (exOut 0 (Prod.fst (exOut 0 ((xi*(limb (Ob.n (.s y)) 2)) % (18446744073709551616:Int)) t2 (0:Int))) up (0:Int))) (0:Int))) dn (0:Int)))))),(.v (.a [.ob (.s x)])),(.ii (i:Int))] [32,48] [(eF [.ob (.s y)]),(eF [(.ob (.s (0:Fr)))])] 2928 [] []) .normal (tC_k) (tB_k):=fun hs hK=>
 run_at2 (unroll:=false) (n:=94) (path:=[]) (o:=⟨_,_,_,_,_,_,_⟩) envC_ok (by kernel_rfl) (by kernel_rfl) ho hs hK
def tS3 (x y:Fr) (i:Nat) (n0 n1 t3 xi q up dn:Int):St:=mkSt 208 [3,4,5,6,8,10,14,15,17,18,19] [.pt 32 0,.pt 48 0,.iu n0,.v (.c (.int .u64 n1)),.iu t3,.iu xi,.v (.c (.int .u64 up)),.iu q,.v (.c (.int .u64 dn)),(.v (.a [.ob (.s x)])),(.ii (i:Int))] [32,48] [(eF [.ob (.s y)]),(eF [(.ob (.s (0:Fr)))])] 2928 [] []
theorem tD (x y:Fr) (i:Nat) (n0 n1 t3 xi q up dn:Int) (ho:AllP [(0≤(3:Int)),((3:Int)<(4:Int)),(3<(Ob.k (.s y))),(0≤xi),(xi<(18446744073709551616:Int)),(0≤(limb (Ob.n (.s y)) 3)),((limb (Ob.n (.s y)) 3)<(18446744073709551616:Int)),(0≤((xi*(limb (Ob.n (.s y)) 3)) % (18446744073709551616:Int))),(0≤t3),(t3<(18446744073709551616:Int)),(0≤(0:Int)),(0≤(1:Int)),(0≤(Prod.fst (exOut 0 ((xi*(limb (Ob.n (.s y)) 3)) % (18446744073709551616:Int)) t3 (0:Int)))),(0≤up),(up<(18446744073709551616:Int)),(0≤(0:Int)),(0≤(1:Int)),(0≤q),(q<(18446744073709551616:Int)),(0≤(8353516859464449352:Int)),((8353516859464449352:Int)<(18446744073709551616:Int)),(0≤((q*(8353516859464449352:Int)) % (18446744073709551616:Int))),(0≤(Prod.fst (exOut 0 (Prod.fst (exOut 0 ((xi*(limb (Ob.n (.s y)) 3)) % (18446744073709551616:Int)) t3 (0:Int))) up (0:Int)))),((Prod.fst (exOut 0 (Prod.fst (exOut 0 ((xi*(limb (Ob.n (.s y)) 3)) % (18446744073709551616:Int)) t3 (0:Int))) up (0:Int)))<(18446744073709551616:Int)),(0≤(0:Int)),(0≤(1:Int)),(0≤(Prod.fst (exOut 0 ((q*(8353516859464449352:Int)) % (18446744073709551616:Int)) (Prod.fst (exOut 0 (Prod.fst (exOut 0 ((xi*(limb (Ob.n (.s y)) 3)) % (18446744073709551616:Int)) t3 (0:Int))) up (0:Int))) (0:Int)))),(0≤dn),(dn<(18446744073709551616:Int)),(0≤(0:Int)),(0≤(1:Int))]):Sg Try.prog (tS3 x y i n0 n1 t3 xi q up dn) (mkSt 208 [3,4,5,6,7,8,18,19] [.pt 32 0,.pt 48 0,.iu n0,.iu n1,(.iu (Prod.fst (exOut 0 (Prod.fst (exOut 0 ((q*(8353516859464449352:Int)) % (18446744073709551616:Int)) (Prod.fst (exOut 0 (Prod.fst (exOut 0 ((xi*(limb (Ob.n (.s y)) 3)) % (18446744073709551616:Int)) t3 (0:Int))) up (0:Int))) (0:Int))) dn (0:Int)))),(.iu (wrap .u64 ((wrap .u64 ((wrap .u64 (((q*(8353516859464449352:Int)) / (18446744073709551616:Int))+(Prod.snd (exOut 0 ((q*(8353516859464449352:Int)) % (18446744073709551616:Int)) (Prod.fst (exOut 0 (Prod.fst (exOut 0 ((xi*(limb (Ob.n (.s y)) 3)) % (18446744073709551616:Int)) t3 (0:Int))) up (0:Int))) (0:Int)))))+(Prod.snd (exOut 0 (Prod.fst (exOut 0 ((q*(8353516859464449352:Int)) % (18446744073709551616:Int)) (Prod.fst (exOut 0 (Prod.fst (exOut 0 ((xi*(limb (Ob.n (.s y)) 3)) % (18446744073709551616:Int)) t3 (0:Int))) up (0:Int))) (0:Int))) dn (0:Int)))))+(wrap .u64 ((wrap .u64 (((xi*(limb (Ob.n (.s y)) 3)) / (18446744073709551616:Int))+(Prod.snd (exOut 0 ((xi*(limb (Ob.n (.s y)) 3)) % (18446744073709551616:Int)) t3 (0:Int)))))+(Prod.snd (exOut 0 (Prod.fst (exOut 0 ((xi*(limb (Ob.n (.s y)) 3)) % (18446744073709551616:Int)) t3 (0:Int))) up (0:Int)))))))),(.v (.a [.ob (.s x)])),(.ii (wrap .i64 ((i:Int)+1)))] [32,48] [(eF [.ob (.s y)]),(eF [(.ob (.s (0:Fr)))])] 4048 [] []) .normal (lpBk tIn_k) (tC_k):=fun hs hK=>
 run_at2 (unroll:=false) (n:=3000) (path:=[]) (o:=⟨_,_,_,_,_,_,_⟩) envC_ok (by kernel_rfl) (by kernel_rfl) ho hs hK
end
end

section

/-- Ahead of the i-th round. -/
structure TInv (x y:Fr) (i:Nat) (t0 t1 t2 t3:Int):Prop where
 i4:i≤4
 h0:0≤t0∧t0<18446744073709551616
 h1:0≤t1∧t1<18446744073709551616
 h2:0≤t2∧t2<18446744073709551616
 h3:0≤t3∧t3<18446744073709551616
 lt:num4 t0 t1 t2 t3<2*rN
 eq:∃Q:Nat,num4 t0 t1 t2 t3*((2 ^ (64*i):Nat):Int)=(((Ob.s x).n % 2 ^ (64*i):Nat):Int)*((Ob.s y).n:Int)+(Q:Int)*(rN:Int)

theorem s_lt (x:Fr):(Ob.s x).n<rN:=Nat.mod_lt _ (by decide)

theorem round_eq {x y:Fr} {i Q:Nat} {T T' q:Int} (hq:0≤q) (h:T*((2 ^ (64*i):Nat):Int)=(((Ob.s x).n % 2 ^ (64*i):Nat):Int)*((Ob.s y).n:Int)+(Q:Int)*(rN:Int))
  (h' : 18446744073709551616*T' = T+limb (Ob.s x).n i*((Ob.s y).n:Int)+q*(rN:Int)) :
  ∃Q:Nat,T' * ((2 ^ (64*(i+1)):Nat):Int)=(((Ob.s x).n % 2 ^ (64*(i+1)):Nat):Int)*((Ob.s y).n:Int)+(Q:Int)*(rN:Int):=by
 obtain ⟨q,rfl⟩:=Int.eq_ofNat_of_zero_le hq
 refine ⟨Q+q*2 ^ (64*i),?_⟩
 rw[mod_next]
 have hp:(2:Nat) ^ (64*(i+1))=2 ^ (64*i)*18446744073709551616:=by rw[Nat.mul_add,Nat.pow_add]
 rw[hp]
 have hl:limb (Ob.s x).n i=(((Ob.s x).n / 2 ^ (64*i) % 18446744073709551616:Nat):Int):=rfl
 rw[hl] at h'
 generalize (Ob.s x).n / 2 ^ (64*i) % 18446744073709551616=xi at *
 generalize (Ob.s x).n % 2 ^ (64*i)=X at *
 generalize (Ob.s y).n=Y at *
 generalize 2 ^ (64*i)=m at *
 generalize rN=r at *
 have e1:T' * ((m*18446744073709551616:Nat):Int)=(18446744073709551616*T')*(m:Int):=by
  rw[Int.natCast_mul,Int.mul_comm (m:Int),←Int.mul_assoc,Int.mul_comm T'];rfl
 rw[e1,h',Int.add_mul,Int.add_mul,h]
 push_cast
 simp only[Int.add_mul,Int.mul_assoc]
 have e2:(xi:Int)*((Y:Int)*(m:Int))=(m:Int)*((xi:Int)*(Y:Int)):=by rw[←Int.mul_assoc,Int.mul_comm]
 have e3:(q:Int)*((r:Int)*(m:Int))=(q:Int)*((m:Int)*(r:Int)):=by rw[Int.mul_comm (r:Int)]
 rw[e2,e3]
 omega

theorem num4_mul (z a b c d:Int):z*num4 a b c d=z*a+18446744073709551616*(z*b)+340282366920938463463374607431768211456*(z*c)+6277101735386680763835789423207666416102355444464034512896*(z*d):=by
 unfold num4
 simp only[Int.mul_add,Int.mul_left_comm z]

def Lim (a:Int):Prop:=0≤a∧a<18446744073709551616

theorem wrap_lim (n:Int):Lim (wrap IntKind.u64 n):=by
 unfold Lim
 rw[wrapU]
 omega

section
variable {w0:World} {F0:Nat→Prop} {K:Kp} {ac:List Act} {Q:Exit→Act→World→Prop} {cX:Ctx} {aX:Act}

theorem segA (x y:Fr) (i:Nat) {t0 t1 t2 t3:Int} (hi:i<4) (h0:Lim t0) (hx:Lim (limb (Ob.s x).n i)) (hy:Lim (limb (Ob.s y).n 0)) (hs:Sim w0 F0 K ac (tS x y i t0 t1 t2 t3) cX aX)
  (k:∀lo up q dn:Int,limb (Ob.s x).n i*limb (Ob.s y).n 0+t0=lo+18446744073709551616*up→q*18446744069414584321+lo=18446744073709551616*dn→Lim lo→Lim up→Lim q→Lim dn →
   ∀ac cY aY,Sim w0 F0 K ac (tS1 x y i t1 t2 t3 (limb (Ob.s x).n i) q up dn) cY aY→Wq Try.prog Q tA_k ac .normal aY cY.w):Wq Try.prog Q (lpIn tIn_k) ac .normal aX cX.w:=by
 obtain ⟨a0,b0⟩:=h0
 obtain ⟨x0,x1⟩:=hx
 obtain ⟨y0,y1⟩:=hy
 have e1:=mac1 x0 x1 y0 y1 a0 b0
 have sA:=@tA x y i t0 t1 t2 t3 w0 F0 K ac Q cX aX
 rw[Int.toNat_natCast] at sA
 generalize limb (Ob.s x).n i=xi at *
 obtain ⟨e1,l1,u1⟩:=e1
 have hq:=wrap_lim ((exOut 0 ((xi*limb (Ob.s y).n 0) % 18446744073709551616) t0 0).1*18446744069414584319)
 have e2:=mac1 (b:=18446744069414584321) hq.1 hq.2 (by decide) (by decide) l1.1 l1.2
 have e3:=negR_low (l:=(exOut 0 ((xi*limb (Ob.s y).n 0) % 18446744073709551616) t0 0).1) rfl
 refine sA ?_ hs fun ac cY aY h=>?_
 ·refine ⟨by simp only[decide_eq_true_eq];omega,by omega,by omega,by decide,by decide,by show (0:Nat)<4;decide,x0,x1,y0,y1,by omega,a0,b0,by decide,by decide,hq.1,hq.2,by decide,by decide,by omega,l1.1,l1.2,by decide,by decide,trivial⟩
 ·refine k _ _ _ _ e1 ?_ l1 u1 hq e2.2.2 ac cY aY h
  have:=e2.1
  have:=e2.2.1
  omega

theorem segB (x y:Fr) (i:Nat) {t1 t2 t3 xi q up dn:Int} (ht:Lim t1) (hx:Lim xi) (hq:Lim q) (hu:Lim up) (hd:Lim dn) (hy:Lim (limb (Ob.s y).n 1)) (hs:Sim w0 F0 K ac (tS1 x y i t1 t2 t3 xi q up dn) cX aX)
  (k:∀lo up' n dn' : Int,xi*limb (Ob.s y).n 1+t1+up=lo+18446744073709551616*up' → q*6034159408538082302+lo+dn=n+18446744073709551616*dn' → Lim lo→Lim up' → Lim n→Lim dn' →
   ∀ac cY aY,Sim w0 F0 K ac (tS2 x y i n t2 t3 xi q up' dn') cY aY→Wq Try.prog Q (tB_k) ac .normal aY cY.w):Wq Try.prog Q tA_k ac .normal aX cX.w:=by
 obtain ⟨e1,l1,u1,m1⟩:=mac hx.1 hx.2 hy.1 hy.2 ht.1 ht.2 hu.1 hu.2
 obtain ⟨e2,l2,u2,m2⟩:=mac (b:=6034159408538082302) hq.1 hq.2 (by decide) (by decide) l1.1 l1.2 hd.1 hd.2
 refine tB x y i t1 t2 t3 xi q up dn ?_ hs fun ac cY aY h=>?_
 ·refine ⟨by decide,by decide,by show 1<4;decide,hx.1,hx.2,hy.1,hy.2,by omega,ht.1,ht.2,by decide,by decide,m1.1,hu.1,hu.2,by decide,by decide,hq.1,hq.2,by decide,by decide,by omega,l1.1,l1.2,by decide,by decide,m2.1,hd.1,hd.2,by decide,by decide,trivial⟩
 ·exact k _ _ _ _ e1 e2 l1 u1 l2 u2 ac cY aY h

theorem segC (x y:Fr) (i:Nat) {n0 t2 t3 xi q up dn:Int} (ht:Lim t2) (hx:Lim xi) (hq:Lim q) (hu:Lim up) (hd:Lim dn) (hy:Lim (limb (Ob.s y).n 2)) (hs:Sim w0 F0 K ac (tS2 x y i n0 t2 t3 xi q up dn) cX aX)
  (k:∀lo up' n dn' : Int,xi*limb (Ob.s y).n 2+t2+up=lo+18446744073709551616*up' → q*3691218898639771653+lo+dn=n+18446744073709551616*dn' → Lim lo→Lim up' → Lim n→Lim dn' →
   ∀ac cY aY,Sim w0 F0 K ac (tS3 x y i n0 n t3 xi q up' dn') cY aY→Wq Try.prog Q (tC_k) ac .normal aY cY.w):Wq Try.prog Q tB_k ac .normal aX cX.w:=by
 obtain ⟨e1,l1,u1,m1⟩:=mac hx.1 hx.2 hy.1 hy.2 ht.1 ht.2 hu.1 hu.2
 obtain ⟨e2,l2,u2,m2⟩:=mac (b:=3691218898639771653) hq.1 hq.2 (by decide) (by decide) l1.1 l1.2 hd.1 hd.2
 refine tC x y i n0 t2 t3 xi q up dn ?_ hs fun ac cY aY h=>?_
 ·refine ⟨by decide,by decide,by show 2<4;decide,hx.1,hx.2,hy.1,hy.2,by omega,ht.1,ht.2,by decide,by decide,m1.1,hu.1,hu.2,by decide,by decide,hq.1,hq.2,by decide,by decide,by omega,l1.1,l1.2,by decide,by decide,m2.1,hd.1,hd.2,by decide,by decide,trivial⟩
 ·exact k _ _ _ _ e1 e2 l1 u1 l2 u2 ac cY aY h

theorem segD (x y:Fr) (i:Nat) (hi:i<4) {n0 n1 t3 xi q up dn:Int} (ht:Lim t3) (hx:Lim xi) (hq:Lim q) (hu:Lim up) (hd:Lim dn) (hy:Lim (limb (Ob.s y).n 3)) (hs:Sim w0 F0 K ac (tS3 x y i n0 n1 t3 xi q up dn) cX aX)
  (k:∀lo up' n dn' : Int,xi*limb (Ob.s y).n 3+t3+up=lo+18446744073709551616*up' → q*8353516859464449352+lo+dn=n+18446744073709551616*dn' → Lim lo→Lim up' → Lim n→Lim dn' →
   ∀ac cY aY,Sim w0 F0 K ac (tS x y (i+1) n0 n1 n (wrap IntKind.u64 (dn' + up'))) cY aY→Wq Try.prog Q (lpBk tIn_k) ac .normal aY cY.w):Wq Try.prog Q tC_k ac .normal aX cX.w:=by
 obtain ⟨e1,l1,u1,m1⟩:=mac hx.1 hx.2 hy.1 hy.2 ht.1 ht.2 hu.1 hu.2
 obtain ⟨e2,l2,u2,m2⟩:=mac (b:=8353516859464449352) hq.1 hq.2 (by decide) (by decide) l1.1 l1.2 hd.1 hd.2
 refine tD x y i n0 n1 t3 xi q up dn ?_ hs fun ac cY aY h=>?_
 ·refine ⟨by decide,by decide,by show 3<4;decide,hx.1,hx.2,hy.1,hy.2,by omega,ht.1,ht.2,by decide,by decide,m1.1,hu.1,hu.2,by decide,by decide,hq.1,hq.2,by decide,by decide,by omega,l1.1,l1.2,by decide,by decide,m2.1,hd.1,hd.2,by decide,by decide,trivial⟩
 ·exact k _ _ _ _ e1 e2 l1 u1 l2 u2 ac cY aY ((by rw[wrap_id (by omega) (by omega)] at h;exact h.nx _))

end

theorem last_eq {T:Int} (hT:0≤T) {b X Y Q r:Nat} (h:T*(b:Int)=(X:Int)*(Y:Int)+(Q:Int)*(r:Int)):T.toNat*b=X*Y+Q*r:=by
 rw[←Int.toNat_of_nonneg hT] at h
 exact_mod_cast h

theorem times_fnd (x y:Fr):FnD Try.prog 30 [.v (.a [.ob (.s x)]),.v (.a [.ob (.s y)])] (.v (.a [.ob (.s (x*y))])) []:=by
 refine fn_start (fn:=Try.f30) (c:=bodyOf Try.f30) Try.func30 rfl rfl fun cx ca hk hF hs=>?_
 refine tIn x y trivial hs fun ac cY aY hs1=>?_
 refine loop_rule (ι:={ p:Nat×Int×Int×Int×Int // TInv x y p.1 p.2.1 p.2.2.1 p.2.2.2.1 p.2.2.2.2 }) (fun p=>tS x y p.1.1 p.1.2.1 p.1.2.2.1 p.1.2.2.2.1 p.1.2.2.2.2) (fun p=>4-p.1.1) (c:=lpC tIn_k) (k:=lpR tIn_k) (by kernel_rfl) (fun p ih ac cY aY hs=>?_)
  ⟨(0,0,0,0,0),⟨by decide,by decide,by decide,by decide,by decide,by decide,0,by simp [num4,Nat.mod_one]⟩⟩ hs1
 obtain ⟨⟨i,t0,t1,t2,t3⟩,hI⟩:=p
 simp only at ih hs hI
 obtain ⟨hi,⟨a0,b0⟩,⟨a1,b1⟩,⟨a2,b2⟩,⟨a3,b3⟩,hlt,Q,hQ⟩:=hI
 obtain ⟨ey,y0,y0',y1,y1',y2,y2',y3,y3'⟩:=limbsOf4 (Ob.s y).n (Nat.lt_trans (s_lt y) (by decide))
 have hyr:((Ob.s y).n:Int)<(rN:Int):=by exact_mod_cast s_lt y
 by_cases h5:i<4
 ·have hx0:0≤limb (Ob.s x).n i:=Int.natCast_nonneg _
  have hx1:limb (Ob.s x).n i<18446744073709551616:=by
   show (((Ob.s x).n / 2 ^ (64*i) % 18446744073709551616:Nat):Int)<18446744073709551616
   omega
  have hround:=fun T' q hq=>round_eq (x:=x) (y:=y) (i:=i) (Q:=Q) (T:=num4 t0 t1 t2 t3) (T' := T') (q:=q) hq hQ
  have hyn:((Ob.s y).n:Int)=num4 (limb (Ob.s y).n 0) (limb (Ob.s y).n 1) (limb (Ob.s y).n 2) (limb (Ob.s y).n 3):=ey
  have hzz:limb (Ob.s x).n i*((Ob.s y).n:Int)≤18446744073709551615*((Ob.s y).n:Int):=Int.mul_le_mul_of_nonneg_right (by omega) (by omega)
  have hz0:0≤limb (Ob.s x).n i*((Ob.s y).n:Int):=Int.mul_nonneg hx0 (by omega)
  have hmul:=num4_mul (limb (Ob.s x).n i) (limb (Ob.s y).n 0) (limb (Ob.s y).n 1) (limb (Ob.s y).n 2) (limb (Ob.s y).n 3)
  rw[←hyn] at hmul
  refine segA x y i h5 ⟨a0,b0⟩ ⟨hx0,hx1⟩ ⟨y0,y0'⟩ hs fun lo0 up0 q dn0 eA eQ hlo0 hup0 hq hdn0 ac cY aY hs=>?_
  refine segB x y i ⟨a1,b1⟩ ⟨hx0,hx1⟩ hq hup0 hdn0 ⟨y1,y1'⟩ hs fun lo1 up1 n0 dn1 eB eB' hlo1 hup1 hn0 hdn1 ac cY aY hs=>?_
  refine segC x y i ⟨a2,b2⟩ ⟨hx0,hx1⟩ hq hup1 hdn1 ⟨y2,y2'⟩ hs fun lo2 up2 n1 dn2 eC eC' hlo2 hup2 hn1 hdn2 ac cY aY hs=>?_
  refine segD x y i h5 ⟨a3,b3⟩ ⟨hx0,hx1⟩ hq hup2 hdn2 ⟨y3,y3'⟩ hs fun lo3 up3 n2 dn3 eD eD' hlo3 hup3 hn2 hdn3 ac cY aY hs=>?_
  have hall:18446744073709551616*num4 n0 n1 n2 (dn3+up3)=num4 t0 t1 t2 t3+limb (Ob.s x).n i*((Ob.s y).n:Int)+q*(rN:Int):=by
   rw[hmul]
   clear hround hmul hzz hz0 hQ ih hyr hyn ey
   unfold num4 rN
   omega
  have hlt' : num4 n0 n1 n2 (dn3+up3)<2*rN:=by
   obtain ⟨q0,q1⟩:=hq
   have:q*(rN:Int)≤18446744073709551615*(rN:Int):=Int.mul_le_mul_of_nonneg_right (by omega) (by omega)
   clear hround hmul hQ ih hyn ey
   generalize limb (Ob.s x).n i*((Ob.s y).n:Int)=z at *
   generalize q*(rN:Int)=z' at *
   omega
  have htop:wrap IntKind.u64 (dn3+up3)=dn3+up3:=by
   obtain ⟨_,_⟩:=hdn3
   obtain ⟨_,_⟩:=hup3
   obtain ⟨_,_⟩:=hn0
   obtain ⟨_,_⟩:=hn1
   obtain ⟨_,_⟩:=hn2
   refine wrap_u (by omega) ?_
   unfold num4 rN at hlt'
   omega
  rw[htop] at hs
  refine ih ⟨(i+1,n0,n1,n2,dn3+up3),⟨h5,hn0,hn1,hn2,?_,hlt',hround _ q hq.1 hall⟩⟩ (by show 4-(i+1)<4-i;omega) ac cY aY hs
  rw[←htop]
  exact wrap_lim _
 ·have hi4:i=4:=by omega
  subst hi4
  refine run_end envC_ok hk hF (tX_end x y 4 t0 t1 t2 t3) ?_ (fun z w hd=>?_) hs
  ·refine ⟨by decide,a0,b0,a1,b1,a2,b2,a3,b3,hlt,trivial⟩
  ·have hT:0≤num4 t0 t1 t2 t3:=by unfold num4;omega
   have:redS (num4 t0 t1 t2 t3).toNat=x*y:=by
    refine mont_out (Q:=Q) ?_
    have hX:(Ob.s x).n % 2 ^ (64*4)=(Ob.s x).n:=Nat.mod_eq_of_lt (Nat.lt_trans (s_lt x) (by decide))
    rw[hX] at hQ
    have h4:(2 ^ (64*4):Nat)=B4:=pow4'
    rw[h4] at hQ
    exact last_eq hT hQ
   rw[←this]
   exact hd

end

section

def u4s (a b c d:Int):SV:=.v (.c (.sl (.u64 [a,b,c,d])))
def fl4 (a b c d:Int):En:=.fl [.int .u64 a,.int .u64 b,.int .u64 c,.int .u64 d]

def qd0 (o0 o1 o2 o3 a b c d more m0 m1 m2 m3:Int):Cfg:=⟨[.code (bodyOf Try.f101)],.normal,muSt Try.f101.ntmps 0 4 1 (fl4 o0 o1 o2 o3) [u4s a b c d,.v (.c (.int .u64 more)),u4s m0 m1 m2 m3]⟩

--@env envC envC_ok
--@unroll true
theorem rdX (o0 o1 o2 o3 a b c d more m0 m1 m2 m3:Int):muEnd envC Try.f101 true 3000 (qd0 o0 o1 o2 o3 a b c d more m0 m1 m2 m3) [true,true,true,true,false,true]=(some ([((decide (0<((4:Nat):Int)))=true),(0≤(0:Int)),(0<((4:Nat):Int)),(0≤(0:Int)),(0<((4:Nat):Int)),(0≤a),(0≤m0),(m0<(18446744073709551616:Int)),(0≤(0:Int)),(0≤(1:Int)),(0≤(0:Int)),(0<(8:Int)),((decide ((1:Int)<((4:Nat):Int)))=true),(0≤(1:Int)),((1:Int)<((4:Nat):Int)),(0≤(1:Int)),((1:Int)<((4:Nat):Int)),(0≤b),(0≤m1),(m1<(18446744073709551616:Int)),(0≤(Prod.snd (exOut 1 a m0 (0:Int)))),((Prod.snd (exOut 1 a m0 (0:Int)))≤(1:Int)),(0≤(1:Int)),((1:Int)<(8:Int)),((decide ((2:Int)<((4:Nat):Int)))=true),(0≤(2:Int)),((2:Int)<((4:Nat):Int)),(0≤(2:Int)),((2:Int)<((4:Nat):Int)),(0≤c),(0≤m2),(m2<(18446744073709551616:Int)),(0≤(Prod.snd (exOut 1 b m1 (Prod.snd (exOut 1 a m0 (0:Int)))))),((Prod.snd (exOut 1 b m1 (Prod.snd (exOut 1 a m0 (0:Int)))))≤(1:Int)),(0≤(2:Int)),((2:Int)<(8:Int)),((decide ((3:Int)<((4:Nat):Int)))=true),(0≤(3:Int)),((3:Int)<((4:Nat):Int)),(0≤(3:Int)),((3:Int)<((4:Nat):Int)),(0≤d),(0≤m3),(m3<(18446744073709551616:Int)),(0≤(Prod.snd (exOut 1 c m2 (Prod.snd (exOut 1 b m1 (Prod.snd (exOut 1 a m0 (0:Int)))))))),((Prod.snd (exOut 1 c m2 (Prod.snd (exOut 1 b m1 (Prod.snd (exOut 1 a m0 (0:Int)))))))≤(1:Int)),(0≤(3:Int)),((3:Int)<(8:Int)),((decide ((4:Int)<((4:Nat):Int)))=false),((decide (more ≥ (Prod.snd (exOut 1 d m3 (Prod.snd (exOut 1 c m2 (Prod.snd (exOut 1 b m1 (Prod.snd (exOut 1 a m0 (0:Int)))))))))))=true),(0≤(Prod.snd (IntKind.i64,((4:Nat):Int)))),((Prod.snd (IntKind.i64,((4:Nat):Int)))≤(8:Int))],(.fl [(.int .u64 (Prod.fst (exOut 1 a m0 (0:Int)))),(.int .u64 (Prod.fst (exOut 1 b m1 (Prod.snd (exOut 1 a m0 (0:Int)))))),(.int .u64 (Prod.fst (exOut 1 c m2 (Prod.snd (exOut 1 b m1 (Prod.snd (exOut 1 a m0 (0:Int)))))))),(.int .u64 (Prod.fst (exOut 1 d m3 (Prod.snd (exOut 1 c m2 (Prod.snd (exOut 1 b m1 (Prod.snd (exOut 1 a m0 (0:Int))))))))))]))):=by kernel_rfl
theorem rdY (o0 o1 o2 o3 a b c d more m0 m1 m2 m3:Int):muEnd envC Try.f101 true 3000 (qd0 o0 o1 o2 o3 a b c d more m0 m1 m2 m3) [true,true,true,true,false,false]=(some ([((decide (0<((4:Nat):Int)))=true),(0≤(0:Int)),(0<((4:Nat):Int)),(0≤(0:Int)),(0<((4:Nat):Int)),(0≤a),(0≤m0),(m0<(18446744073709551616:Int)),(0≤(0:Int)),(0≤(1:Int)),(0≤(0:Int)),(0<(8:Int)),((decide ((1:Int)<((4:Nat):Int)))=true),(0≤(1:Int)),((1:Int)<((4:Nat):Int)),(0≤(1:Int)),((1:Int)<((4:Nat):Int)),(0≤b),(0≤m1),(m1<(18446744073709551616:Int)),(0≤(Prod.snd (exOut 1 a m0 (0:Int)))),((Prod.snd (exOut 1 a m0 (0:Int)))≤(1:Int)),(0≤(1:Int)),((1:Int)<(8:Int)),((decide ((2:Int)<((4:Nat):Int)))=true),(0≤(2:Int)),((2:Int)<((4:Nat):Int)),(0≤(2:Int)),((2:Int)<((4:Nat):Int)),(0≤c),(0≤m2),(m2<(18446744073709551616:Int)),(0≤(Prod.snd (exOut 1 b m1 (Prod.snd (exOut 1 a m0 (0:Int)))))),((Prod.snd (exOut 1 b m1 (Prod.snd (exOut 1 a m0 (0:Int)))))≤(1:Int)),(0≤(2:Int)),((2:Int)<(8:Int)),((decide ((3:Int)<((4:Nat):Int)))=true),(0≤(3:Int)),((3:Int)<((4:Nat):Int)),(0≤(3:Int)),((3:Int)<((4:Nat):Int)),(0≤d),(0≤m3),(m3<(18446744073709551616:Int)),(0≤(Prod.snd (exOut 1 c m2 (Prod.snd (exOut 1 b m1 (Prod.snd (exOut 1 a m0 (0:Int)))))))),((Prod.snd (exOut 1 c m2 (Prod.snd (exOut 1 b m1 (Prod.snd (exOut 1 a m0 (0:Int)))))))≤(1:Int)),(0≤(3:Int)),((3:Int)<(8:Int)),((decide ((4:Int)<((4:Nat):Int)))=false),((decide (more ≥ (Prod.snd (exOut 1 d m3 (Prod.snd (exOut 1 c m2 (Prod.snd (exOut 1 b m1 (Prod.snd (exOut 1 a m0 (0:Int)))))))))))=false)],(.fl [(.int .u64 a),(.int .u64 b),(.int .u64 c),(.int .u64 d)]))):=by kernel_rfl
end

section

theorem cat_ob {x:Ctx} {o:Ob} (hk:o.k=4) {a b c d:Int} (h:limb o.n 0=a∧limb o.n 1=b∧limb o.n 2=c∧limb o.n 3=d) {cs:List Value}
  (hc:catL x.D [.int .u64 a,.int .u64 b,.int .u64 c,.int .u64 d] cs):catL x.D [.ob o] cs:=by
 obtain ⟨cs',e,h'⟩:=ints_ob hk h (v:=.agg cs.toArray) ⟨cs,rfl,hc⟩
 have e:cs=cs' := by simpa using e
 rw[e]
 exact h'

def redU (n:Nat):U4:=Fin.ofNat B4 (n % rN)
theorem redU_val (n:Nat):(redU n).val=n % rN:=Nat.mod_eq_of_lt (Nat.lt_trans (Nat.mod_lt _ (by decide)) (by decide))

theorem reduce_mu (o0 o1 o2 o3 a b c d:Int) (ha:Lim a) (hb:Lim b) (hc:Lim c) (hd:Lim d) (hn:num4 a b c d<2*rN) :
  MuC Try.prog 101 0 4 1 (fl4 o0 o1 o2 o3) [u4s a b c d,.v (.c (.int .u64 0)),u4s 18446744069414584321 6034159408538082302 3691218898639771653 8353516859464449352] (.fl [.ob (.fr (redU (num4 a b c d).toNat))]):=by
 refine mu_start (fn:=Try.f101) (c:=bodyOf Try.f101) Try.func101 rfl rfl fun x ac hk hm hs=>?_
 obtain ⟨ha,ha1⟩:=ha
 obtain ⟨hb,hb1⟩:=hb
 obtain ⟨hc,hc1⟩:=hc
 obtain ⟨hd,hd1⟩:=hd
 have r0:=rdX o0 o1 o2 o3 a b c d 0 18446744069414584321 6034159408538082302 3691218898639771653 8353516859464449352
 have r1:=rdY o0 o1 o2 o3 a b c d 0 18446744069414584321 6034159408538082302 3691218898639771653 8353516859464449352
 obtain ⟨e1,p1,p1',c1,c1'⟩:=sub_step (y:=18446744069414584321) (c:=0) ha ha1 (by decide) (by decide) (by decide) (by decide)
 obtain ⟨e2,p2,p2',c2,c2'⟩:=sub_step (y:=6034159408538082302) hb hb1 (by decide) (by decide) c1 c1'
 obtain ⟨e3,p3,p3',c3,c3'⟩:=sub_step (y:=3691218898639771653) hc hc1 (by decide) (by decide) c2 c2'
 obtain ⟨e4,p4,p4',c4,c4'⟩:=sub_step (y:=8353516859464449352) hd hd1 (by decide) (by decide) c3 c3'
 generalize hx1:exOut 1 a 18446744069414584321 0=x1 at *
 generalize hx2:exOut 1 b 6034159408538082302 x1.2=x2 at *
 generalize hx3:exOut 1 c 3691218898639771653 x2.2=x3 at *
 generalize hx4:exOut 1 d 8353516859464449352 x3.2=x4 at *
 clear hx1 hx2 hx3 hx4
 unfold num4 rN at hn
 have hnn:0≤num4 a b c d:=by unfold num4;omega
 have hN:((num4 a b c d).toNat:Int)=num4 a b c d:=Int.toNat_of_nonneg hnn
 by_cases hz:x4.2=0
 ·refine mu_end envC_ok hk hm r0 rfl ?_ (fun y cs hv=>cat_ob rfl ?_ hv) (.inl ⟨_,_,rfl,rfl⟩) hs
  ·simp only[AllP,and_true,decide_eq_true_eq,decide_eq_false_iff_not];omega
  ·refine limbsAre4 p1 p1' p2 p2' p3 p3' p4 p4' ?_
   show ((redU (num4 a b c d).toNat).val:Int)=_
   have e:(redU (num4 a b c d).toNat).val=(num4 a b c d).toNat-rN:=by
    rw[redU_val]
    have h1:rN≤(num4 a b c d).toNat:=by unfold rN num4;omega
    have h2:(num4 a b c d).toNat<2*rN:=by unfold rN num4;omega
    rw[Nat.mod_eq_sub_mod h1,Nat.mod_eq_of_lt (by omega)]
   rw[e]
   unfold rN num4
   omega
 ·refine mu_end envC_ok hk hm r1 rfl ?_ (fun y cs hv=>cat_ob rfl ?_ hv) (.inl ⟨_,_,rfl,rfl⟩) hs
  ·simp only[AllP,and_true,decide_eq_true_eq,decide_eq_false_iff_not];omega
  ·refine limbsAre4 ha ha1 hb hb1 hc hc1 hd hd1 ?_
   show ((redU (num4 a b c d).toNat).val:Int)=_
   have e:(redU (num4 a b c d).toNat).val=(num4 a b c d).toNat:=by
    rw[redU_val]
    exact Nat.mod_eq_of_lt (by unfold rN num4;omega)
   rw[e,hN]
   rfl

end

section
section
variable {w0:World} {F0:Nat→Prop} {K:Kp} {ac:List Act} {Q:Exit→Act→World→Prop} {cX:Ctx} {aX:Act}

def reduceSpec:MuS:=fun off len es e rest=>
 match off,len,es,e,rest with
 | 0,4,1,.fl [.int .u64 _,.int .u64 _,.int .u64 _,.int .u64 _],[.v (.c (.sl (.u64 [a,b,c,d]))),.v (.c (.int .u64 more)),.v (.c (.sl (.u64 [m0,m1,m2,m3])))]=>
  some ([Lim a,Lim b,Lim c,Lim d,num4 a b c d<2*rN,more=0,m0=18446744069414584321,m1=6034159408538082302,m2=3691218898639771653,m3=8353516859464449352],.fl [.ob (.fr (redU (num4 a b c d).toNat))])
 | _,_,_,_,_=>none

def envE:Env:={ envC with mu:=fun g=>if g=101 then some (mu1 reduceSpec) else envC.mu g }
theorem envE_ok:EnvOk Try.prog envE:=
 env_mu envC_ok 101 reduceSpec (enters_of Try.func101 rfl rfl) fun off len es e rest o e' h ho _ _=>by
  unfold reduceSpec at h
  split at h
  ·cases h
   obtain ⟨h1,h2,h3,h4,h5,h6,h7,h8,h9,h10,_⟩:=ho
   subst h6 h7 h8 h9 h10
   exact reduce_mu _ _ _ _ _ _ _ _ h1 h2 h3 h4 h5
  ·cases h

def mR:SV:=u4s 18446744069414584321 6034159408538082302 3691218898639771653 8353516859464449352
def pd0 (o0 o1 o2 o3 a b c d y0 y1 y2 y3:Int):Cfg:=⟨[.code (bodyOf Try.f66)],.normal,muSt Try.f66.ntmps 0 4 1 (fl4 o0 o1 o2 o3) [u4s a b c d,u4s y0 y1 y2 y3,mR,.v (.c (.int .u64 18446744069414584319))]⟩

--@env envE envE_ok
def pIn_k:List KI:=(run envE false 3000 ((fun (o0 o1 o2 o3 a b c d y0 y1 y2 y3:Int)=>(pd0 o0 o1 o2 o3 a b c d y0 y1 y2 y3:Cfg)) default default default default default default default default default default default default) []).cfg.k
theorem pIn (o0 o1 o2 o3 a b c d y0 y1 y2 y3:Int) {w0:World} {F0:Nat→Prop} {K:Kp} {ac:List Act} {Q:Exit→Act→World→Prop} {cX:Ctx} {aX:Act} (ho:AllP []) (hs:Sim w0 F0 K ac (((pd0 o0 o1 o2 o3 a b c d y0 y1 y2 y3:Cfg)).σ) cX aX) (hK:∀ac cY aY,Sim w0 F0 K ac (mkSt 176 [0,1,2,3,4,10,11,29,30] [(.ci (.slc 0 0 4 1)),(.ci (.sl (.u64 [a,b,c,d]))),(.ci (.sl (.u64 [y0,y1,y2,y3]))),(.ci (.sl (.u64 [(18446744069414584321:Int),(6034159408538082302:Int),(3691218898639771653:Int),(8353516859464449352:Int)]))),.iu (18446744069414584319:Int),.ii (4:Int),.pt 64 0,.ii (4:Int),.ii (0:Int)] [0,64] [(eF [(.int .u64 o0),(.int .u64 o1),(.int .u64 o2),(.int .u64 o3)]),(eF [(.int .u64 (0:Int)),(.int .u64 (0:Int)),(.int .u64 (0:Int)),(.int .u64 (0:Int)),(.int .u64 (0:Int)),(.int .u64 (0:Int)),(.int .u64 (0:Int)),(.int .u64 (0:Int)),(.int .u64 (0:Int)),(.int .u64 (0:Int))])] 112 [] []) cY aY→Wq Try.prog Q (pIn_k) ac Exit.normal aY cY.w):Wq Try.prog Q (((pd0 o0 o1 o2 o3 a b c d y0 y1 y2 y3:Cfg)).k) ac ((pd0 o0 o1 o2 o3 a b c d y0 y1 y2 y3:Cfg)).x aX cX.w:=
 run_at (unroll:=false) (n:=3000) (path:=[]) (o:=⟨_,_,_,_,_,_,_⟩) envE_ok (by kernel_rfl) (by kernel_rfl) ho hs hK
def pS (o0 o1 o2 o3 a b c d y0 y1 y2 y3:Int) (i:Nat) (r0 r1 r2 r3 r4 r5:Int):St:=mkSt 176 [0,1,2,3,4,10,11,29,30] [(.ci (.slc 0 0 4 1)),(.ci (.sl (.u64 [a,b,c,d]))),(.ci (.sl (.u64 [y0,y1,y2,y3]))),(.ci (.sl (.u64 [(18446744069414584321:Int),(6034159408538082302:Int),(3691218898639771653:Int),(8353516859464449352:Int)]))),.iu (18446744069414584319:Int),.ii (4:Int),.pt 64 0,.ii (4:Int),.v (.c (.int .i64 (i:Int)))] [0,64] [(eF [(.int .u64 o0),(.int .u64 o1),(.int .u64 o2),(.int .u64 o3)]),some (.fl [.int .u64 r0,.int .u64 r1,.int .u64 r2,.int .u64 r3,.int .u64 r4,.int .u64 r5,.int .u64 0,.int .u64 0,.int .u64 0,.int .u64 0])] 112 [] []
--@unroll true
def pA_k:List KI:=(run envE true 104 ((fun (o0 o1 o2 o3 a b c d y0 y1 y2 y3:Int) (i:Nat) (r0 r1 r2 r3 r4 r5:Int)=>(⟨lpIn pIn_k,.normal,pS o0 o1 o2 o3 a b c d y0 y1 y2 y3 i r0 r1 r2 r3 r4 r5⟩:Cfg)) default default default default default default default default default default default default default default default default default default default) [true,true]).cfg.k
theorem pA (o0 o1 o2 o3 a b c d y0 y1 y2 y3:Int) (i:Nat) (r0 r1 r2 r3 r4 r5:Int) {w0:World} {F0:Nat→Prop} {K:Kp} {ac:List Act} {Q:Exit→Act→World→Prop} {cX:Ctx} {aX:Act} (ho:AllP [((decide ((i:Int)<(4:Int)))=true),(0≤(i:Int)),((i:Int)<((4:Nat):Int)),((decide (0<(4:Int)))=true),(0≤(0:Int)),(0<((4:Nat):Int)),(0≤(List.getD [a,b,c,d] ((i:Int)).toNat 0)),((List.getD [a,b,c,d] ((i:Int)).toNat 0)<(18446744073709551616:Int)),(0≤y0),(y0<(18446744073709551616:Int)),(0≤(0:Int)),(0<(10:Int)),(0≤(((List.getD [a,b,c,d] ((i:Int)).toNat 0)*y0) % (18446744073709551616:Int))),(0≤r0),(r0<(18446744073709551616:Int)),(0≤(0:Int)),(0≤(1:Int)),(0≤(Prod.fst (exOut 0 (((List.getD [a,b,c,d] ((i:Int)).toNat 0)*y0) % (18446744073709551616:Int)) r0 (0:Int)))),(0≤(0:Int)),(0<(18446744073709551616:Int)),(0≤(0:Int)),(0≤(1:Int)),(0≤(0:Int)),(0<(10:Int))]) (hs:Sim w0 F0 K ac (pS o0 o1 o2 o3 a b c d y0 y1 y2 y3 i r0 r1 r2 r3 r4 r5) cX aX) (hK:∀ac cY aY,Sim w0 F0 K ac (mkSt 176 [0,1,2,3,4,10,11,13,14,29,30,37,38] [(.ci (.slc 0 0 4 1)),(.ci (.sl (.u64 [a,b,c,d]))),(.ci (.sl (.u64 [y0,y1,y2,y3]))),(.ci (.sl (.u64 [(18446744069414584321:Int),(6034159408538082302:Int),(3691218898639771653:Int),(8353516859464449352:Int)]))),.iu (18446744069414584319:Int),.ii (4:Int),.pt 64 0,(.iu (List.getD [a,b,c,d] ((i:Int)).toNat 0)),(.iu (wrap .u64 ((wrap .u64 ((((List.getD [a,b,c,d] ((i:Int)).toNat 0)*y0) / (18446744073709551616:Int))+(Prod.snd (exOut 0 (((List.getD [a,b,c,d] ((i:Int)).toNat 0)*y0) % (18446744073709551616:Int)) r0 (0:Int)))))+(Prod.snd (exOut 0 (Prod.fst (exOut 0 (((List.getD [a,b,c,d] ((i:Int)).toNat 0)*y0) % (18446744073709551616:Int)) r0 (0:Int))) (0:Int) (0:Int)))))),.ii (4:Int),(.ii (i:Int)),.ii (4:Int),.ii (0:Int)] [0,64] [(eF [(.int .u64 o0),(.int .u64 o1),(.int .u64 o2),(.int .u64 o3)]),(eF [(.int .u64 (Prod.fst (exOut 0 (Prod.fst (exOut 0 (((List.getD [a,b,c,d] ((i:Int)).toNat 0)*y0) % (18446744073709551616:Int)) r0 (0:Int))) (0:Int) (0:Int)))),(.int .u64 r1),(.int .u64 r2),(.int .u64 r3),(.int .u64 r4),(.int .u64 r5),(.int .u64 (0:Int)),(.int .u64 (0:Int)),(.int .u64 (0:Int)),(.int .u64 (0:Int))])] 992 [] []) cY aY→Wq Try.prog Q (pA_k) ac Exit.normal aY cY.w):Wq Try.prog Q (lpIn pIn_k) ac .normal aX cX.w:=
 run_at2 (unroll:=true) (n:=104) (path:=[true,true]) (o:=⟨_,_,_,_,_,_,_⟩) envE_ok (by kernel_rfl) (by kernel_rfl) ho hs hK
theorem pX (o0 o1 o2 o3 a b c d y0 y1 y2 y3:Int) (i:Nat) (r0 r1 r2 r3 r4 r5:Int):muEnd envE Try.f66 true 3000 ⟨lpIn pIn_k,.normal,pS o0 o1 o2 o3 a b c d y0 y1 y2 y3 i r0 r1 r2 r3 r4 r5⟩ [false]=(some ([((decide ((i:Int)<(4:Int)))=false),(0≤(4:Int)),((4:Int)≤(10:Int)),(0≤(4:Int)),((4:Int)<(10:Int)),(Lim r0),(Lim r1),(Lim r2),(Lim r3),((num4 r0 r1 r2 r3)<(104871750350252380958895481016371931675381105001055275645207317399877162369026:Int)),(r4=(0:Int)),((18446744069414584321:Int)=(18446744069414584321:Int)),((6034159408538082302:Int)=(6034159408538082302:Int)),((3691218898639771653:Int)=(3691218898639771653:Int)),((8353516859464449352:Int)=(8353516859464449352:Int))],(.fl [(.ob (.fr (redU ((num4 r0 r1 r2 r3)).toNat)))]))):=by kernel_rfl
def pS1 (o0 o1 o2 o3 a b c d y0 y1 y2 y3:Int) (i:Nat) (x cy r0 r1 r2 r3 r4 r5:Int):St:=mkSt 176 [0,1,2,3,4,10,11,13,14,29,30,37,38] [(.ci (.slc 0 0 4 1)),(.ci (.sl (.u64 [a,b,c,d]))),(.ci (.sl (.u64 [y0,y1,y2,y3]))),(.ci (.sl (.u64 [(18446744069414584321:Int),(6034159408538082302:Int),(3691218898639771653:Int),(8353516859464449352:Int)]))),.iu (18446744069414584319:Int),.ii (4:Int),.pt 64 0,.v (.c (.int .u64 x)),.v (.c (.int .u64 cy)),.ii (4:Int),(.ii (i:Int)),.ii (4:Int),.ii (0:Int)] [0,64] [(eF [(.int .u64 o0),(.int .u64 o1),(.int .u64 o2),(.int .u64 o3)]),some (.fl [.int .u64 r0,.int .u64 r1,.int .u64 r2,.int .u64 r3,.int .u64 r4,.int .u64 r5,.int .u64 0,.int .u64 0,.int .u64 0,.int .u64 0])] 992 [] []
def pB_k:List KI:=(run envE true 75 ((fun (o0 o1 o2 o3 a b c d y0 y1 y2 y3:Int) (i:Nat) (x cy r0 r1 r2 r3 r4 r5:Int)=>(⟨pA_k,.normal,pS1 o0 o1 o2 o3 a b c d y0 y1 y2 y3 i x cy r0 r1 r2 r3 r4 r5⟩:Cfg)) default default default default default default default default default default default default default default default default default default default default default) [true]).cfg.k
section
variable (o0 o1 o2 o3 a b c d y0 y1 y2 y3:Int) (i:Nat) (x cy r0 r1 r2 r3 r4 r5:Int)
theorem pB (ho:AllP [((decide ((1:Int)<(4:Int)))=true),(0≤(1:Int)),((1:Int)<((4:Nat):Int)),(0≤x),(x<(18446744073709551616:Int)),(0≤y1),(y1<(18446744073709551616:Int)),(0≤(1:Int)),((1:Int)<(10:Int)),(0≤((x*y1) % (18446744073709551616:Int))),(0≤r1),(r1<(18446744073709551616:Int)),(0≤(0:Int)),(0≤(1:Int)),(0≤(Prod.fst (exOut 0 ((x*y1) % (18446744073709551616:Int)) r1 (0:Int)))),(0≤cy),(cy<(18446744073709551616:Int)),(0≤(0:Int)),(0≤(1:Int)),(0≤(1:Int)),((1:Int)<(10:Int))]):Sg Try.prog (pS1 o0 o1 o2 o3 a b c d y0 y1 y2 y3 i x cy r0 r1 r2 r3 r4 r5) (mkSt 176 [0,1,2,3,4,10,11,13,14,29,30,37,38] [(.ci (.slc 0 0 4 1)),(.ci (.sl (.u64 [a,b,c,d]))),(.ci (.sl (.u64 [y0,y1,y2,y3]))),(.ci (.sl (.u64 [(18446744069414584321:Int),(6034159408538082302:Int),(3691218898639771653:Int),(8353516859464449352:Int)]))),.iu (18446744069414584319:Int),.ii (4:Int),.pt 64 0,.iu x,(.iu (wrap .u64 ((wrap .u64 (((x*y1) / (18446744073709551616:Int))+(Prod.snd (exOut 0 ((x*y1) % (18446744073709551616:Int)) r1 (0:Int)))))+(Prod.snd (exOut 0 (Prod.fst (exOut 0 ((x*y1) % (18446744073709551616:Int)) r1 (0:Int))) cy (0:Int)))))),.ii (4:Int),(.ii (i:Int)),.ii (4:Int),.ii (1:Int)] [0,64] [(eF [(.int .u64 o0),(.int .u64 o1),(.int .u64 o2),(.int .u64 o3)]),(eF [(.int .u64 r0),(.int .u64 (Prod.fst (exOut 0 (Prod.fst (exOut 0 ((x*y1) % (18446744073709551616:Int)) r1 (0:Int))) cy (0:Int)))),(.int .u64 r2),(.int .u64 r3),(.int .u64 r4),(.int .u64 r5),(.int .u64 (0:Int)),(.int .u64 (0:Int)),(.int .u64 (0:Int)),(.int .u64 (0:Int))])] 1728 [] []) .normal (pB_k) (pA_k):=fun hs hK=>
 run_at2 (unroll:=true) (n:=75) (path:=[true]) (o:=⟨_,_,_,_,_,_,_⟩) envE_ok (by kernel_rfl) (by kernel_rfl) ho hs hK
def pS2 (o0 o1 o2 o3 a b c d y0 y1 y2 y3:Int) (i:Nat) (x cy r0 r1 r2 r3 r4 r5:Int):St:=mkSt 176 [0,1,2,3,4,10,11,13,14,29,30,37,38] [(.ci (.slc 0 0 4 1)),(.ci (.sl (.u64 [a,b,c,d]))),(.ci (.sl (.u64 [y0,y1,y2,y3]))),(.ci (.sl (.u64 [(18446744069414584321:Int),(6034159408538082302:Int),(3691218898639771653:Int),(8353516859464449352:Int)]))),.iu (18446744069414584319:Int),.ii (4:Int),.pt 64 0,.v (.c (.int .u64 x)),.v (.c (.int .u64 cy)),.ii (4:Int),(.ii (i:Int)),.ii (4:Int),.ii (1:Int)] [0,64] [(eF [(.int .u64 o0),(.int .u64 o1),(.int .u64 o2),(.int .u64 o3)]),some (.fl [.int .u64 r0,.int .u64 r1,.int .u64 r2,.int .u64 r3,.int .u64 r4,.int .u64 r5,.int .u64 0,.int .u64 0,.int .u64 0,.int .u64 0])] 1728 [] []
def pC_k:List KI:=(run envE true 75 ((fun (o0 o1 o2 o3 a b c d y0 y1 y2 y3:Int) (i:Nat) (x cy r0 r1 r2 r3 r4 r5:Int)=>(⟨pB_k,.normal,pS2 o0 o1 o2 o3 a b c d y0 y1 y2 y3 i x cy r0 r1 r2 r3 r4 r5⟩:Cfg)) default default default default default default default default default default default default default default default default default default default default default) [true]).cfg.k
theorem pC (ho:AllP [((decide ((2:Int)<(4:Int)))=true),(0≤(2:Int)),((2:Int)<((4:Nat):Int)),(0≤x),(x<(18446744073709551616:Int)),(0≤y2),(y2<(18446744073709551616:Int)),(0≤(2:Int)),((2:Int)<(10:Int)),(0≤((x*y2) % (18446744073709551616:Int))),(0≤r2),(r2<(18446744073709551616:Int)),(0≤(0:Int)),(0≤(1:Int)),(0≤(Prod.fst (exOut 0 ((x*y2) % (18446744073709551616:Int)) r2 (0:Int)))),(0≤cy),(cy<(18446744073709551616:Int)),(0≤(0:Int)),(0≤(1:Int)),(0≤(2:Int)),((2:Int)<(10:Int))]):Sg Try.prog (pS2 o0 o1 o2 o3 a b c d y0 y1 y2 y3 i x cy r0 r1 r2 r3 r4 r5) (mkSt 176 [0,1,2,3,4,10,11,13,14,29,30,37,38] [(.ci (.slc 0 0 4 1)),(.ci (.sl (.u64 [a,b,c,d]))),(.ci (.sl (.u64 [y0,y1,y2,y3]))),(.ci (.sl (.u64 [(18446744069414584321:Int),(6034159408538082302:Int),(3691218898639771653:Int),(8353516859464449352:Int)]))),.iu (18446744069414584319:Int),.ii (4:Int),.pt 64 0,.iu x,(.iu (wrap .u64 ((wrap .u64 (((x*y2) / (18446744073709551616:Int))+(Prod.snd (exOut 0 ((x*y2) % (18446744073709551616:Int)) r2 (0:Int)))))+(Prod.snd (exOut 0 (Prod.fst (exOut 0 ((x*y2) % (18446744073709551616:Int)) r2 (0:Int))) cy (0:Int)))))),.ii (4:Int),(.ii (i:Int)),.ii (4:Int),.ii (2:Int)] [0,64] [(eF [(.int .u64 o0),(.int .u64 o1),(.int .u64 o2),(.int .u64 o3)]),(eF [(.int .u64 r0),(.int .u64 r1),(.int .u64 (Prod.fst (exOut 0 (Prod.fst (exOut 0 ((x*y2) % (18446744073709551616:Int)) r2 (0:Int))) cy (0:Int)))),(.int .u64 r3),(.int .u64 r4),(.int .u64 r5),(.int .u64 (0:Int)),(.int .u64 (0:Int)),(.int .u64 (0:Int)),(.int .u64 (0:Int))])] 2464 [] []) .normal (pC_k) (pB_k):=fun hs hK=>
 run_at2 (unroll:=true) (n:=75) (path:=[true]) (o:=⟨_,_,_,_,_,_,_⟩) envE_ok (by kernel_rfl) (by kernel_rfl) ho hs hK
def pS3 (o0 o1 o2 o3 a b c d y0 y1 y2 y3:Int) (i:Nat) (x cy r0 r1 r2 r3 r4 r5:Int):St:=mkSt 176 [0,1,2,3,4,10,11,13,14,29,30,37,38] [(.ci (.slc 0 0 4 1)),(.ci (.sl (.u64 [a,b,c,d]))),(.ci (.sl (.u64 [y0,y1,y2,y3]))),(.ci (.sl (.u64 [(18446744069414584321:Int),(6034159408538082302:Int),(3691218898639771653:Int),(8353516859464449352:Int)]))),.iu (18446744069414584319:Int),.ii (4:Int),.pt 64 0,.v (.c (.int .u64 x)),.v (.c (.int .u64 cy)),.ii (4:Int),(.ii (i:Int)),.ii (4:Int),.ii (2:Int)] [0,64] [(eF [(.int .u64 o0),(.int .u64 o1),(.int .u64 o2),(.int .u64 o3)]),some (.fl [.int .u64 r0,.int .u64 r1,.int .u64 r2,.int .u64 r3,.int .u64 r4,.int .u64 r5,.int .u64 0,.int .u64 0,.int .u64 0,.int .u64 0])] 2464 [] []
def pD_k:List KI:=(run envE true 75 ((fun (o0 o1 o2 o3 a b c d y0 y1 y2 y3:Int) (i:Nat) (x cy r0 r1 r2 r3 r4 r5:Int)=>(⟨pC_k,.normal,pS3 o0 o1 o2 o3 a b c d y0 y1 y2 y3 i x cy r0 r1 r2 r3 r4 r5⟩:Cfg)) default default default default default default default default default default default default default default default default default default default default default) [true]).cfg.k
theorem pD (ho:AllP [((decide ((3:Int)<(4:Int)))=true),(0≤(3:Int)),((3:Int)<((4:Nat):Int)),(0≤x),(x<(18446744073709551616:Int)),(0≤y3),(y3<(18446744073709551616:Int)),(0≤(3:Int)),((3:Int)<(10:Int)),(0≤((x*y3) % (18446744073709551616:Int))),(0≤r3),(r3<(18446744073709551616:Int)),(0≤(0:Int)),(0≤(1:Int)),(0≤(Prod.fst (exOut 0 ((x*y3) % (18446744073709551616:Int)) r3 (0:Int)))),(0≤cy),(cy<(18446744073709551616:Int)),(0≤(0:Int)),(0≤(1:Int)),(0≤(3:Int)),((3:Int)<(10:Int))]):Sg Try.prog (pS3 o0 o1 o2 o3 a b c d y0 y1 y2 y3 i x cy r0 r1 r2 r3 r4 r5) (mkSt 176 [0,1,2,3,4,10,11,13,14,29,30,37,38] [(.ci (.slc 0 0 4 1)),(.ci (.sl (.u64 [a,b,c,d]))),(.ci (.sl (.u64 [y0,y1,y2,y3]))),(.ci (.sl (.u64 [(18446744069414584321:Int),(6034159408538082302:Int),(3691218898639771653:Int),(8353516859464449352:Int)]))),.iu (18446744069414584319:Int),.ii (4:Int),.pt 64 0,.iu x,(.iu (wrap .u64 ((wrap .u64 (((x*y3) / (18446744073709551616:Int))+(Prod.snd (exOut 0 ((x*y3) % (18446744073709551616:Int)) r3 (0:Int)))))+(Prod.snd (exOut 0 (Prod.fst (exOut 0 ((x*y3) % (18446744073709551616:Int)) r3 (0:Int))) cy (0:Int)))))),.ii (4:Int),(.ii (i:Int)),.ii (4:Int),.ii (3:Int)] [0,64] [(eF [(.int .u64 o0),(.int .u64 o1),(.int .u64 o2),(.int .u64 o3)]),(eF [(.int .u64 r0),(.int .u64 r1),(.int .u64 r2),(.int .u64 (Prod.fst (exOut 0 (Prod.fst (exOut 0 ((x*y3) % (18446744073709551616:Int)) r3 (0:Int))) cy (0:Int)))),(.int .u64 r4),(.int .u64 r5),(.int .u64 (0:Int)),(.int .u64 (0:Int)),(.int .u64 (0:Int)),(.int .u64 (0:Int))])] 3200 [] []) .normal (pD_k) (pC_k):=fun hs hK=>
 run_at2 (unroll:=true) (n:=75) (path:=[true]) (o:=⟨_,_,_,_,_,_,_⟩) envE_ok (by kernel_rfl) (by kernel_rfl) ho hs hK
def pS4 (o0 o1 o2 o3 a b c d y0 y1 y2 y3:Int) (i:Nat) (x cy r0 r1 r2 r3 r4 r5:Int):St:=mkSt 176 [0,1,2,3,4,10,11,13,14,29,30,37,38] [(.ci (.slc 0 0 4 1)),(.ci (.sl (.u64 [a,b,c,d]))),(.ci (.sl (.u64 [y0,y1,y2,y3]))),(.ci (.sl (.u64 [(18446744069414584321:Int),(6034159408538082302:Int),(3691218898639771653:Int),(8353516859464449352:Int)]))),.iu (18446744069414584319:Int),.ii (4:Int),.pt 64 0,.v (.c (.int .u64 x)),.v (.c (.int .u64 cy)),.ii (4:Int),(.ii (i:Int)),.ii (4:Int),.ii (3:Int)] [0,64] [(eF [(.int .u64 o0),(.int .u64 o1),(.int .u64 o2),(.int .u64 o3)]),some (.fl [.int .u64 r0,.int .u64 r1,.int .u64 r2,.int .u64 r3,.int .u64 r4,.int .u64 r5,.int .u64 0,.int .u64 0,.int .u64 0,.int .u64 0])] 3200 [] []
def pE_k:List KI:=(run envE true 88 ((fun (o0 o1 o2 o3 a b c d y0 y1 y2 y3:Int) (i:Nat) (x cy r0 r1 r2 r3 r4 r5:Int)=>(⟨pD_k,.normal,pS4 o0 o1 o2 o3 a b c d y0 y1 y2 y3 i x cy r0 r1 r2 r3 r4 r5⟩:Cfg)) default default default default default default default default default default default default default default default default default default default default default) [false]).cfg.k
theorem pE (ho:AllP [((decide ((4:Int)<(4:Int)))=false),(0≤(4:Int)),((4:Int)<(10:Int)),(0≤r4),(0≤cy),(cy<(18446744073709551616:Int)),(0≤(0:Int)),(0≤(1:Int)),(0≤(4:Int)),((4:Int)<(10:Int)),(0≤(5:Int)),((5:Int)<(10:Int)),(0≤(0:Int)),(0<(10:Int)),(0≤(0:Int)),(0<(4:Int)),(0≤(wrap .u64 (r0*(18446744069414584319:Int)))),((wrap .u64 (r0*(18446744069414584319:Int)))<(18446744073709551616:Int)),(0≤(18446744069414584321:Int)),((18446744069414584321:Int)<(18446744073709551616:Int)),(0≤(0:Int)),(0<(10:Int)),(0≤(((wrap .u64 (r0*(18446744069414584319:Int)))*(18446744069414584321:Int)) % (18446744073709551616:Int))),(0≤r0),(r0<(18446744073709551616:Int)),(0≤(0:Int)),(0≤(1:Int))]):Sg Try.prog (pS4 o0 o1 o2 o3 a b c d y0 y1 y2 y3 i x cy r0 r1 r2 r3 r4 r5) (mkSt 176 [0,1,2,3,4,10,11,14,20,23,29,30] [(.ci (.slc 0 0 4 1)),(.ci (.sl (.u64 [a,b,c,d]))),(.ci (.sl (.u64 [y0,y1,y2,y3]))),(.ci (.sl (.u64 [(18446744069414584321:Int),(6034159408538082302:Int),(3691218898639771653:Int),(8353516859464449352:Int)]))),.iu (18446744069414584319:Int),.ii (4:Int),.pt 64 0,(.iu (wrap .u64 ((((wrap .u64 (r0*(18446744069414584319:Int)))*(18446744069414584321:Int)) / (18446744073709551616:Int))+(Prod.snd (exOut 0 (((wrap .u64 (r0*(18446744069414584319:Int)))*(18446744069414584321:Int)) % (18446744073709551616:Int)) r0 (0:Int)))))),(.iu (wrap .u64 (r0*(18446744069414584319:Int)))),.ii (1:Int),.ii (4:Int),(.ii (i:Int))] [0,64] [(eF [(.int .u64 o0),(.int .u64 o1),(.int .u64 o2),(.int .u64 o3)]),(eF [(.int .u64 r0),(.int .u64 r1),(.int .u64 r2),(.int .u64 r3),(.int .u64 (Prod.fst (exOut 0 r4 cy (0:Int)))),(.int .u64 (Prod.snd (exOut 0 r4 cy (0:Int)))),(.int .u64 (0:Int)),(.int .u64 (0:Int)),(.int .u64 (0:Int)),(.int .u64 (0:Int))])] 3984 [] []) .normal (pE_k) (pD_k):=fun hs hK=>
 run_at2 (unroll:=true) (n:=88) (path:=[false]) (o:=⟨_,_,_,_,_,_,_⟩) envE_ok (by kernel_rfl) (by kernel_rfl) ho hs hK
def pT1 (o0 o1 o2 o3 a b c d y0 y1 y2 y3:Int) (i:Nat) (q cy r0 r1 r2 r3 r4 r5:Int):St:=mkSt 176 [0,1,2,3,4,10,11,14,20,23,29,30] [(.ci (.slc 0 0 4 1)),(.ci (.sl (.u64 [a,b,c,d]))),(.ci (.sl (.u64 [y0,y1,y2,y3]))),(.ci (.sl (.u64 [(18446744069414584321:Int),(6034159408538082302:Int),(3691218898639771653:Int),(8353516859464449352:Int)]))),.iu (18446744069414584319:Int),.ii (4:Int),.pt 64 0,.v (.c (.int .u64 cy)),.v (.c (.int .u64 q)),.ii (1:Int),.ii (4:Int),(.ii (i:Int))] [0,64] [(eF [(.int .u64 o0),(.int .u64 o1),(.int .u64 o2),(.int .u64 o3)]),some (.fl [.int .u64 r0,.int .u64 r1,.int .u64 r2,.int .u64 r3,.int .u64 r4,.int .u64 r5,.int .u64 0,.int .u64 0,.int .u64 0,.int .u64 0])] 3984 [] []
def pF_k:List KI:=(run envE true 68 ((fun (o0 o1 o2 o3 a b c d y0 y1 y2 y3:Int) (i:Nat) (q cy r0 r1 r2 r3 r4 r5:Int)=>(⟨pE_k,.normal,pT1 o0 o1 o2 o3 a b c d y0 y1 y2 y3 i q cy r0 r1 r2 r3 r4 r5⟩:Cfg)) default default default default default default default default default default default default default default default default default default default default default) [true]).cfg.k
end
section
variable (o0 o1 o2 o3 a b c d y0 y1 y2 y3:Int) (i:Nat) (q cy r0 r1 r2 r3 r4 r5:Int)
theorem pF (ho:AllP [((decide ((1:Int)<(4:Int)))=true),(0≤(1:Int)),((1:Int)<(4:Int)),(0≤q),(q<(18446744073709551616:Int)),(0≤(6034159408538082302:Int)),((6034159408538082302:Int)<(18446744073709551616:Int)),(0≤(1:Int)),((1:Int)<(10:Int)),(0≤((q*(6034159408538082302:Int)) % (18446744073709551616:Int))),(0≤r1),(r1<(18446744073709551616:Int)),(0≤(0:Int)),(0≤(1:Int)),(0≤(Prod.fst (exOut 0 ((q*(6034159408538082302:Int)) % (18446744073709551616:Int)) r1 (0:Int)))),(0≤cy),(cy<(18446744073709551616:Int)),(0≤(0:Int)),(0≤(1:Int)),(0≤(0:Int)),(0<(10:Int))]):Sg Try.prog (pT1 o0 o1 o2 o3 a b c d y0 y1 y2 y3 i q cy r0 r1 r2 r3 r4 r5) (mkSt 176 [0,1,2,3,4,10,11,14,20,23,29,30] [(.ci (.slc 0 0 4 1)),(.ci (.sl (.u64 [a,b,c,d]))),(.ci (.sl (.u64 [y0,y1,y2,y3]))),(.ci (.sl (.u64 [(18446744069414584321:Int),(6034159408538082302:Int),(3691218898639771653:Int),(8353516859464449352:Int)]))),.iu (18446744069414584319:Int),.ii (4:Int),.pt 64 0,(.iu (wrap .u64 ((wrap .u64 (((q*(6034159408538082302:Int)) / (18446744073709551616:Int))+(Prod.snd (exOut 0 ((q*(6034159408538082302:Int)) % (18446744073709551616:Int)) r1 (0:Int)))))+(Prod.snd (exOut 0 (Prod.fst (exOut 0 ((q*(6034159408538082302:Int)) % (18446744073709551616:Int)) r1 (0:Int))) cy (0:Int)))))),.iu q,.ii (1:Int),.ii (4:Int),(.ii (i:Int))] [0,64] [(eF [(.int .u64 o0),(.int .u64 o1),(.int .u64 o2),(.int .u64 o3)]),(eF [(.int .u64 (Prod.fst (exOut 0 (Prod.fst (exOut 0 ((q*(6034159408538082302:Int)) % (18446744073709551616:Int)) r1 (0:Int))) cy (0:Int)))),(.int .u64 r1),(.int .u64 r2),(.int .u64 r3),(.int .u64 r4),(.int .u64 r5),(.int .u64 (0:Int)),(.int .u64 (0:Int)),(.int .u64 (0:Int)),(.int .u64 (0:Int))])] 4704 [] []) .normal (pF_k) (pE_k):=fun hs hK=>
 run_at2 (unroll:=true) (n:=68) (path:=[true]) (o:=⟨_,_,_,_,_,_,_⟩) envE_ok (by kernel_rfl) (by kernel_rfl) ho hs hK
def pT2 (o0 o1 o2 o3 a b c d y0 y1 y2 y3:Int) (i:Nat) (q cy r0 r1 r2 r3 r4 r5:Int):St:=mkSt 176 [0,1,2,3,4,10,11,14,20,23,29,30] [(.ci (.slc 0 0 4 1)),(.ci (.sl (.u64 [a,b,c,d]))),(.ci (.sl (.u64 [y0,y1,y2,y3]))),(.ci (.sl (.u64 [(18446744069414584321:Int),(6034159408538082302:Int),(3691218898639771653:Int),(8353516859464449352:Int)]))),.iu (18446744069414584319:Int),.ii (4:Int),.pt 64 0,.v (.c (.int .u64 cy)),.v (.c (.int .u64 q)),.ii (1:Int),.ii (4:Int),(.ii (i:Int))] [0,64] [(eF [(.int .u64 o0),(.int .u64 o1),(.int .u64 o2),(.int .u64 o3)]),some (.fl [.int .u64 r0,.int .u64 r1,.int .u64 r2,.int .u64 r3,.int .u64 r4,.int .u64 r5,.int .u64 0,.int .u64 0,.int .u64 0,.int .u64 0])] 4704 [] []
def pG_k:List KI:=(run envE true 74 ((fun (o0 o1 o2 o3 a b c d y0 y1 y2 y3:Int) (i:Nat) (q cy r0 r1 r2 r3 r4 r5:Int)=>(⟨pF_k,.normal,pT2 o0 o1 o2 o3 a b c d y0 y1 y2 y3 i q cy r0 r1 r2 r3 r4 r5⟩:Cfg)) default default default default default default default default default default default default default default default default default default default default default) [true]).cfg.k
theorem pG (ho:AllP [((decide ((2:Int)<(4:Int)))=true),(0≤(2:Int)),((2:Int)<(4:Int)),(0≤q),(q<(18446744073709551616:Int)),(0≤(3691218898639771653:Int)),((3691218898639771653:Int)<(18446744073709551616:Int)),(0≤(2:Int)),((2:Int)<(10:Int)),(0≤((q*(3691218898639771653:Int)) % (18446744073709551616:Int))),(0≤r2),(r2<(18446744073709551616:Int)),(0≤(0:Int)),(0≤(1:Int)),(0≤(Prod.fst (exOut 0 ((q*(3691218898639771653:Int)) % (18446744073709551616:Int)) r2 (0:Int)))),(0≤cy),(cy<(18446744073709551616:Int)),(0≤(0:Int)),(0≤(1:Int)),(0≤(1:Int)),((1:Int)<(10:Int))]):Sg Try.prog (pT2 o0 o1 o2 o3 a b c d y0 y1 y2 y3 i q cy r0 r1 r2 r3 r4 r5) (mkSt 176 [0,1,2,3,4,10,11,14,20,23,29,30] [(.ci (.slc 0 0 4 1)),(.ci (.sl (.u64 [a,b,c,d]))),(.ci (.sl (.u64 [y0,y1,y2,y3]))),(.ci (.sl (.u64 [(18446744069414584321:Int),(6034159408538082302:Int),(3691218898639771653:Int),(8353516859464449352:Int)]))),.iu (18446744069414584319:Int),.ii (4:Int),.pt 64 0,(.iu (wrap .u64 ((wrap .u64 (((q*(3691218898639771653:Int)) / (18446744073709551616:Int))+(Prod.snd (exOut 0 ((q*(3691218898639771653:Int)) % (18446744073709551616:Int)) r2 (0:Int)))))+(Prod.snd (exOut 0 (Prod.fst (exOut 0 ((q*(3691218898639771653:Int)) % (18446744073709551616:Int)) r2 (0:Int))) cy (0:Int)))))),.iu q,.ii (2:Int),.ii (4:Int),(.ii (i:Int))] [0,64] [(eF [(.int .u64 o0),(.int .u64 o1),(.int .u64 o2),(.int .u64 o3)]),(eF [(.int .u64 r0),(.int .u64 (Prod.fst (exOut 0 (Prod.fst (exOut 0 ((q*(3691218898639771653:Int)) % (18446744073709551616:Int)) r2 (0:Int))) cy (0:Int)))),(.int .u64 r2),(.int .u64 r3),(.int .u64 r4),(.int .u64 r5),(.int .u64 (0:Int)),(.int .u64 (0:Int)),(.int .u64 (0:Int)),(.int .u64 (0:Int))])] 5472 [] []) .normal (pG_k) (pF_k):=fun hs hK=>
 run_at2 (unroll:=true) (n:=74) (path:=[true]) (o:=⟨_,_,_,_,_,_,_⟩) envE_ok (by kernel_rfl) (by kernel_rfl) ho hs hK
def pT3 (o0 o1 o2 o3 a b c d y0 y1 y2 y3:Int) (i:Nat) (q cy r0 r1 r2 r3 r4 r5:Int):St:=mkSt 176 [0,1,2,3,4,10,11,14,20,23,29,30] [(.ci (.slc 0 0 4 1)),(.ci (.sl (.u64 [a,b,c,d]))),(.ci (.sl (.u64 [y0,y1,y2,y3]))),(.ci (.sl (.u64 [(18446744069414584321:Int),(6034159408538082302:Int),(3691218898639771653:Int),(8353516859464449352:Int)]))),.iu (18446744069414584319:Int),.ii (4:Int),.pt 64 0,.v (.c (.int .u64 cy)),.v (.c (.int .u64 q)),.ii (2:Int),.ii (4:Int),(.ii (i:Int))] [0,64] [(eF [(.int .u64 o0),(.int .u64 o1),(.int .u64 o2),(.int .u64 o3)]),some (.fl [.int .u64 r0,.int .u64 r1,.int .u64 r2,.int .u64 r3,.int .u64 r4,.int .u64 r5,.int .u64 0,.int .u64 0,.int .u64 0,.int .u64 0])] 5472 [] []
def pH_k:List KI:=(run envE true 74 ((fun (o0 o1 o2 o3 a b c d y0 y1 y2 y3:Int) (i:Nat) (q cy r0 r1 r2 r3 r4 r5:Int)=>(⟨pG_k,.normal,pT3 o0 o1 o2 o3 a b c d y0 y1 y2 y3 i q cy r0 r1 r2 r3 r4 r5⟩:Cfg)) default default default default default default default default default default default default default default default default default default default default default) [true]).cfg.k
theorem pH (ho:AllP [((decide ((3:Int)<(4:Int)))=true),(0≤(3:Int)),((3:Int)<(4:Int)),(0≤q),(q<(18446744073709551616:Int)),(0≤(8353516859464449352:Int)),((8353516859464449352:Int)<(18446744073709551616:Int)),(0≤(3:Int)),((3:Int)<(10:Int)),(0≤((q*(8353516859464449352:Int)) % (18446744073709551616:Int))),(0≤r3),(r3<(18446744073709551616:Int)),(0≤(0:Int)),(0≤(1:Int)),(0≤(Prod.fst (exOut 0 ((q*(8353516859464449352:Int)) % (18446744073709551616:Int)) r3 (0:Int)))),(0≤cy),(cy<(18446744073709551616:Int)),(0≤(0:Int)),(0≤(1:Int)),(0≤(2:Int)),((2:Int)<(10:Int))]):Sg Try.prog (pT3 o0 o1 o2 o3 a b c d y0 y1 y2 y3 i q cy r0 r1 r2 r3 r4 r5) (mkSt 176 [0,1,2,3,4,10,11,14,20,23,29,30] [(.ci (.slc 0 0 4 1)),(.ci (.sl (.u64 [a,b,c,d]))),(.ci (.sl (.u64 [y0,y1,y2,y3]))),(.ci (.sl (.u64 [(18446744069414584321:Int),(6034159408538082302:Int),(3691218898639771653:Int),(8353516859464449352:Int)]))),.iu (18446744069414584319:Int),.ii (4:Int),.pt 64 0,(.iu (wrap .u64 ((wrap .u64 (((q*(8353516859464449352:Int)) / (18446744073709551616:Int))+(Prod.snd (exOut 0 ((q*(8353516859464449352:Int)) % (18446744073709551616:Int)) r3 (0:Int)))))+(Prod.snd (exOut 0 (Prod.fst (exOut 0 ((q*(8353516859464449352:Int)) % (18446744073709551616:Int)) r3 (0:Int))) cy (0:Int)))))),.iu q,.ii (3:Int),.ii (4:Int),(.ii (i:Int))] [0,64] [(eF [(.int .u64 o0),(.int .u64 o1),(.int .u64 o2),(.int .u64 o3)]),(eF [(.int .u64 r0),(.int .u64 r1),(.int .u64 (Prod.fst (exOut 0 (Prod.fst (exOut 0 ((q*(8353516859464449352:Int)) % (18446744073709551616:Int)) r3 (0:Int))) cy (0:Int)))),(.int .u64 r3),(.int .u64 r4),(.int .u64 r5),(.int .u64 (0:Int)),(.int .u64 (0:Int)),(.int .u64 (0:Int)),(.int .u64 (0:Int))])] 6240 [] []) .normal (pH_k) (pG_k):=fun hs hK=>
 run_at2 (unroll:=true) (n:=74) (path:=[true]) (o:=⟨_,_,_,_,_,_,_⟩) envE_ok (by kernel_rfl) (by kernel_rfl) ho hs hK
def pT4 (o0 o1 o2 o3 a b c d y0 y1 y2 y3:Int) (i:Nat) (q cy r0 r1 r2 r3 r4 r5:Int):St:=mkSt 176 [0,1,2,3,4,10,11,14,20,23,29,30] [(.ci (.slc 0 0 4 1)),(.ci (.sl (.u64 [a,b,c,d]))),(.ci (.sl (.u64 [y0,y1,y2,y3]))),(.ci (.sl (.u64 [(18446744069414584321:Int),(6034159408538082302:Int),(3691218898639771653:Int),(8353516859464449352:Int)]))),.iu (18446744069414584319:Int),.ii (4:Int),.pt 64 0,.v (.c (.int .u64 cy)),.v (.c (.int .u64 q)),.ii (3:Int),.ii (4:Int),(.ii (i:Int))] [0,64] [(eF [(.int .u64 o0),(.int .u64 o1),(.int .u64 o2),(.int .u64 o3)]),some (.fl [.int .u64 r0,.int .u64 r1,.int .u64 r2,.int .u64 r3,.int .u64 r4,.int .u64 r5,.int .u64 0,.int .u64 0,.int .u64 0,.int .u64 0])] 6240 [] []
theorem pI (ho:AllP [((decide ((4:Int)<(4:Int)))=false),(0≤(4:Int)),((4:Int)<(10:Int)),(0≤r4),(0≤cy),(cy<(18446744073709551616:Int)),(0≤(0:Int)),(0≤(1:Int)),(0≤(3:Int)),((3:Int)<(10:Int)),(0≤(5:Int)),((5:Int)<(10:Int)),(0≤(4:Int)),((4:Int)<(10:Int))]):Sg Try.prog (pT4 o0 o1 o2 o3 a b c d y0 y1 y2 y3 i q cy r0 r1 r2 r3 r4 r5) (mkSt 176 [0,1,2,3,4,10,11,29,30] [(.ci (.slc 0 0 4 1)),(.ci (.sl (.u64 [a,b,c,d]))),(.ci (.sl (.u64 [y0,y1,y2,y3]))),(.ci (.sl (.u64 [(18446744069414584321:Int),(6034159408538082302:Int),(3691218898639771653:Int),(8353516859464449352:Int)]))),.iu (18446744069414584319:Int),.ii (4:Int),.pt 64 0,.ii (4:Int),(.ii (wrap .i64 ((i:Int)+1)))] [0,64] [(eF [(.int .u64 o0),(.int .u64 o1),(.int .u64 o2),(.int .u64 o3)]),(eF [(.int .u64 r0),(.int .u64 r1),(.int .u64 r2),(.int .u64 (Prod.fst (exOut 0 r4 cy (0:Int)))),(.int .u64 (wrap .u64 (r5+(Prod.snd (exOut 0 r4 cy (0:Int)))))),(.int .u64 r5),(.int .u64 (0:Int)),(.int .u64 (0:Int)),(.int .u64 (0:Int)),(.int .u64 (0:Int))])] 6720 [] []) .normal (lpBk pIn_k) (pH_k):=fun hs hK=>
 run_at2 (unroll:=true) (n:=50) (path:=[false]) (o:=⟨_,_,_,_,_,_,_⟩) envE_ok (by kernel_rfl) (by kernel_rfl) ho hs hK
end
end
end

section

section
variable {w0:World} {F0:Nat→Prop} {K:Kp} {ac:List Act} {Q:Exit→Act→World→Prop} {cX:Ctx} {aX:Act}

theorem sPA (o0 o1 o2 o3 a b c d y0 y1 y2 y3:Int) (i:Nat) {r0 r1 r2 r3 r4 r5 x:Int} (hi:i<4) (he:List.getD [a,b,c,d] i 0=x) (hx:Lim x) (hy:Lim y0) (hr:Lim r0) (hs:Sim w0 F0 K ac (pS o0 o1 o2 o3 a b c d y0 y1 y2 y3 i r0 r1 r2 r3 r4 r5) cX aX)
  (k:∀n cy:Int,x*y0+r0+0=n+18446744073709551616*cy→Lim n→Lim cy→∀ac cY aY,Sim w0 F0 K ac (pS1 o0 o1 o2 o3 a b c d y0 y1 y2 y3 i x cy n r1 r2 r3 r4 r5) cY aY→Wq Try.prog Q pA_k ac .normal aY cY.w):Wq Try.prog Q (lpIn pIn_k) ac .normal aX cX.w:=by
 obtain ⟨x0,x1⟩:=hx
 obtain ⟨yy0,yy1⟩:=hy
 obtain ⟨rr0,rr1⟩:=hr
 have e:=mac x0 x1 yy0 yy1 rr0 rr1 (u:=0) (by decide) (by decide)
 have sA:=@pA o0 o1 o2 o3 a b c d y0 y1 y2 y3 i r0 r1 r2 r3 r4 r5 w0 F0 K ac Q cX aX
 rw[Int.toNat_natCast,he] at sA
 obtain ⟨e1,l1,u1,m1⟩:=e
 refine sA ?_ hs fun ac cY aY h=>k _ _ e1 l1 u1 ac cY aY h
 simp only[AllP,and_true,decide_eq_true_eq]
 omega

theorem sPB (o0 o1 o2 o3 a b c d y0 y1 y2 y3:Int) (i:Nat) {x cy r0 r1 r2 r3 r4 r5:Int} (hx:Lim x) (hy:Lim y1) (hr:Lim r1) (hc:Lim cy) (hs:Sim w0 F0 K ac (pS1 o0 o1 o2 o3 a b c d y0 y1 y2 y3 i x cy r0 r1 r2 r3 r4 r5) cX aX)
  (k:∀n cy' : Int,x*y1+r1+cy=n+18446744073709551616*cy' → Lim n→Lim cy' → ∀ac cY aY,Sim w0 F0 K ac (pS2 o0 o1 o2 o3 a b c d y0 y1 y2 y3 i x cy' r0 n r2 r3 r4 r5) cY aY→Wq Try.prog Q pB_k ac .normal aY cY.w):Wq Try.prog Q pA_k ac .normal aX cX.w:=by
 obtain ⟨x0,x1⟩:=hx
 obtain ⟨yy0,yy1⟩:=hy
 obtain ⟨rr0,rr1⟩:=hr
 obtain ⟨cc0,cc1⟩:=hc
 obtain ⟨e1,l1,u1,m1⟩:=mac x0 x1 yy0 yy1 rr0 rr1 cc0 cc1
 refine pB o0 o1 o2 o3 a b c d y0 y1 y2 y3 i x cy r0 r1 r2 r3 r4 r5 ?_ hs fun ac cY aY h=>k _ _ e1 l1 u1 ac cY aY h
 simp only[AllP,and_true,decide_eq_true_eq]
 omega

theorem sPC (o0 o1 o2 o3 a b c d y0 y1 y2 y3:Int) (i:Nat) {x cy r0 r1 r2 r3 r4 r5:Int} (hx:Lim x) (hy:Lim y2) (hr:Lim r2) (hc:Lim cy) (hs:Sim w0 F0 K ac (pS2 o0 o1 o2 o3 a b c d y0 y1 y2 y3 i x cy r0 r1 r2 r3 r4 r5) cX aX)
  (k:∀n cy' : Int,x*y2+r2+cy=n+18446744073709551616*cy' → Lim n→Lim cy' → ∀ac cY aY,Sim w0 F0 K ac (pS3 o0 o1 o2 o3 a b c d y0 y1 y2 y3 i x cy' r0 r1 n r3 r4 r5) cY aY→Wq Try.prog Q pC_k ac .normal aY cY.w):Wq Try.prog Q pB_k ac .normal aX cX.w:=by
 obtain ⟨x0,x1⟩:=hx
 obtain ⟨yy0,yy1⟩:=hy
 obtain ⟨rr0,rr1⟩:=hr
 obtain ⟨cc0,cc1⟩:=hc
 obtain ⟨e1,l1,u1,m1⟩:=mac x0 x1 yy0 yy1 rr0 rr1 cc0 cc1
 refine pC o0 o1 o2 o3 a b c d y0 y1 y2 y3 i x cy r0 r1 r2 r3 r4 r5 ?_ hs fun ac cY aY h=>k _ _ e1 l1 u1 ac cY aY h
 simp only[AllP,and_true,decide_eq_true_eq]
 omega

theorem sPD (o0 o1 o2 o3 a b c d y0 y1 y2 y3:Int) (i:Nat) {x cy r0 r1 r2 r3 r4 r5:Int} (hx:Lim x) (hy:Lim y3) (hr:Lim r3) (hc:Lim cy) (hs:Sim w0 F0 K ac (pS3 o0 o1 o2 o3 a b c d y0 y1 y2 y3 i x cy r0 r1 r2 r3 r4 r5) cX aX)
  (k:∀n cy' : Int,x*y3+r3+cy=n+18446744073709551616*cy' → Lim n→Lim cy' → ∀ac cY aY,Sim w0 F0 K ac (pS4 o0 o1 o2 o3 a b c d y0 y1 y2 y3 i x cy' r0 r1 r2 n r4 r5) cY aY→Wq Try.prog Q pD_k ac .normal aY cY.w):Wq Try.prog Q pC_k ac .normal aX cX.w:=by
 obtain ⟨x0,x1⟩:=hx
 obtain ⟨yy0,yy1⟩:=hy
 obtain ⟨rr0,rr1⟩:=hr
 obtain ⟨cc0,cc1⟩:=hc
 obtain ⟨e1,l1,u1,m1⟩:=mac x0 x1 yy0 yy1 rr0 rr1 cc0 cc1
 refine pD o0 o1 o2 o3 a b c d y0 y1 y2 y3 i x cy r0 r1 r2 r3 r4 r5 ?_ hs fun ac cY aY h=>k _ _ e1 l1 u1 ac cY aY h
 simp only[AllP,and_true,decide_eq_true_eq]
 omega

theorem sPE (o0 o1 o2 o3 a b c d y0 y1 y2 y3:Int) (i:Nat) {x cy r0 r1 r2 r3 r4 r5:Int} (hr0:Lim r0) (hr4:Lim r4) (hc:Lim cy) (hs:Sim w0 F0 K ac (pS4 o0 o1 o2 o3 a b c d y0 y1 y2 y3 i x cy r0 r1 r2 r3 r4 r5) cX aX)
  (k:∀q cy' n4 n5:Int,r4+cy+0=n4+18446744073709551616*n5→q*18446744069414584321+r0=18446744073709551616*cy' → Lim n4→0≤n5→n5≤1→Lim q→Lim cy' → ∀ac cY aY,Sim w0 F0 K ac (pT1 o0 o1 o2 o3 a b c d y0 y1 y2 y3 i q cy' r0 r1 r2 r3 n4 n5) cY aY→Wq Try.prog Q pE_k ac .normal aY cY.w):Wq Try.prog Q pD_k ac .normal aX cX.w:=by
 obtain ⟨rr0,rr1⟩:=hr0
 obtain ⟨rr4,rr5⟩:=hr4
 obtain ⟨cc0,cc1⟩:=hc
 obtain ⟨e1,p1,p1',q1,q1'⟩:=add_step (c:=0) rr4 rr5 cc0 cc1 (by decide) (by decide)
 have hq:=wrap_lim (r0*18446744069414584319)
 have e2:=mac1 (b:=18446744069414584321) hq.1 hq.2 (by decide) (by decide) rr0 rr1
 have e3:=negR_low (l:=r0) rfl
 obtain ⟨hq0,hq1⟩:=hq
 obtain ⟨e2,⟨f1,f2⟩,f3⟩:=e2
 refine pE o0 o1 o2 o3 a b c d y0 y1 y2 y3 i x cy r0 r1 r2 r3 r4 r5 ?_ hs fun ac cY aY h=>k _ _ _ _ e1 ?_ ⟨p1,p1'⟩ q1 q1' ⟨hq0,hq1⟩ f3 ac cY aY h
 ·simp only[AllP,and_true,decide_eq_false_iff_not]
  omega
 ·omega

theorem sPF (o0 o1 o2 o3 a b c d y0 y1 y2 y3:Int) (i:Nat) {q cy r0 r1 r2 r3 r4 r5:Int} (hq:Lim q) (hr:Lim r1) (hc:Lim cy) (hs:Sim w0 F0 K ac (pT1 o0 o1 o2 o3 a b c d y0 y1 y2 y3 i q cy r0 r1 r2 r3 r4 r5) cX aX)
  (k:∀n cy' : Int,q*6034159408538082302+r1+cy=n+18446744073709551616*cy' → Lim n→Lim cy' → ∀ac cY aY,Sim w0 F0 K ac (pT2 o0 o1 o2 o3 a b c d y0 y1 y2 y3 i q cy' n r1 r2 r3 r4 r5) cY aY→Wq Try.prog Q pF_k ac .normal aY cY.w):Wq Try.prog Q pE_k ac .normal aX cX.w:=by
 obtain ⟨x0,x1⟩:=hq
 obtain ⟨rr0,rr1⟩:=hr
 obtain ⟨cc0,cc1⟩:=hc
 obtain ⟨e1,l1,u1,m1⟩:=mac (b:=6034159408538082302) x0 x1 (by decide) (by decide) rr0 rr1 cc0 cc1
 refine pF o0 o1 o2 o3 a b c d y0 y1 y2 y3 i q cy r0 r1 r2 r3 r4 r5 ?_ hs fun ac cY aY h=>k _ _ e1 l1 u1 ac cY aY h
 simp only[AllP,and_true,decide_eq_true_eq]
 omega

theorem sPG (o0 o1 o2 o3 a b c d y0 y1 y2 y3:Int) (i:Nat) {q cy r0 r1 r2 r3 r4 r5:Int} (hq:Lim q) (hr:Lim r2) (hc:Lim cy) (hs:Sim w0 F0 K ac (pT2 o0 o1 o2 o3 a b c d y0 y1 y2 y3 i q cy r0 r1 r2 r3 r4 r5) cX aX)
  (k:∀n cy' : Int,q*3691218898639771653+r2+cy=n+18446744073709551616*cy' → Lim n→Lim cy' → ∀ac cY aY,Sim w0 F0 K ac (pT3 o0 o1 o2 o3 a b c d y0 y1 y2 y3 i q cy' r0 n r2 r3 r4 r5) cY aY→Wq Try.prog Q pG_k ac .normal aY cY.w):Wq Try.prog Q pF_k ac .normal aX cX.w:=by
 obtain ⟨x0,x1⟩:=hq
 obtain ⟨rr0,rr1⟩:=hr
 obtain ⟨cc0,cc1⟩:=hc
 obtain ⟨e1,l1,u1,m1⟩:=mac (b:=3691218898639771653) x0 x1 (by decide) (by decide) rr0 rr1 cc0 cc1
 refine pG o0 o1 o2 o3 a b c d y0 y1 y2 y3 i q cy r0 r1 r2 r3 r4 r5 ?_ hs fun ac cY aY h=>k _ _ e1 l1 u1 ac cY aY h
 simp only[AllP,and_true,decide_eq_true_eq]
 omega

theorem sPH (o0 o1 o2 o3 a b c d y0 y1 y2 y3:Int) (i:Nat) {q cy r0 r1 r2 r3 r4 r5:Int} (hq:Lim q) (hr:Lim r3) (hc:Lim cy) (hs:Sim w0 F0 K ac (pT3 o0 o1 o2 o3 a b c d y0 y1 y2 y3 i q cy r0 r1 r2 r3 r4 r5) cX aX)
  (k:∀n cy' : Int,q*8353516859464449352+r3+cy=n+18446744073709551616*cy' → Lim n→Lim cy' → ∀ac cY aY,Sim w0 F0 K ac (pT4 o0 o1 o2 o3 a b c d y0 y1 y2 y3 i q cy' r0 r1 n r3 r4 r5) cY aY→Wq Try.prog Q pH_k ac .normal aY cY.w):Wq Try.prog Q pG_k ac .normal aX cX.w:=by
 obtain ⟨x0,x1⟩:=hq
 obtain ⟨rr0,rr1⟩:=hr
 obtain ⟨cc0,cc1⟩:=hc
 obtain ⟨e1,l1,u1,m1⟩:=mac (b:=8353516859464449352) x0 x1 (by decide) (by decide) rr0 rr1 cc0 cc1
 refine pH o0 o1 o2 o3 a b c d y0 y1 y2 y3 i q cy r0 r1 r2 r3 r4 r5 ?_ hs fun ac cY aY h=>k _ _ e1 l1 u1 ac cY aY h
 simp only[AllP,and_true,decide_eq_true_eq]
 omega

theorem sPI (o0 o1 o2 o3 a b c d y0 y1 y2 y3:Int) (i:Nat) {q cy r0 r1 r2 r3 r4 r5:Int} (hi:i<4) (hr4:Lim r4) (hc:Lim cy) (hs:Sim w0 F0 K ac (pT4 o0 o1 o2 o3 a b c d y0 y1 y2 y3 i q cy r0 r1 r2 r3 r4 r5) cX aX)
  (k:∀n3 c4:Int,r4+cy+0=n3+18446744073709551616*c4→Lim n3→0≤c4→c4≤1→∀ac cY aY,Sim w0 F0 K ac (pS o0 o1 o2 o3 a b c d y0 y1 y2 y3 (i+1) r0 r1 r2 n3 (wrap IntKind.u64 (r5+c4)) r5) cY aY→Wq Try.prog Q (lpBk pIn_k) ac .normal aY cY.w):Wq Try.prog Q pH_k ac .normal aX cX.w:=by
 obtain ⟨rr4,rr5⟩:=hr4
 obtain ⟨cc0,cc1⟩:=hc
 obtain ⟨e1,p1,p1',q1,q1'⟩:=add_step (c:=0) rr4 rr5 cc0 cc1 (by decide) (by decide)
 refine pI o0 o1 o2 o3 a b c d y0 y1 y2 y3 i q cy r0 r1 r2 r3 r4 r5 ?_ hs fun ac cY aY h=>k _ _ e1 ⟨p1,p1'⟩ q1 q1' ac cY aY (by rw[wrap_id (by omega) (by omega)] at h;exact h.nx _)
 simp only[AllP,and_true,decide_eq_false_iff_not]
 omega

end

end

section

structure PInv (A Y i:Nat) (r0 r1 r2 r3 r4:Int):Prop where
 i4:i≤4
 h0:Lim r0
 h1:Lim r1
 h2:Lim r2
 h3:Lim r3
 h4:r4=0
 lt:num4 r0 r1 r2 r3<2*rN
 eq:∃Q:Nat,num4 r0 r1 r2 r3*((2 ^ (64*i):Nat):Int)=((A % 2 ^ (64*i):Nat):Int)*(Y:Int)+(Q:Int)*(rN:Int)

theorem round_eqN {A Y r i Q:Nat} {T T' q:Int} (hq:0≤q) (h:T*((2 ^ (64*i):Nat):Int)=((A % 2 ^ (64*i):Nat):Int)*(Y:Int)+(Q:Int)*(r:Int))
  (h' : 18446744073709551616*T' = T+limb A i*(Y:Int)+q*(r:Int)) :
  ∃Q:Nat,T' * ((2 ^ (64*(i+1)):Nat):Int)=((A % 2 ^ (64*(i+1)):Nat):Int)*(Y:Int)+(Q:Int)*(r:Int):=by
 obtain ⟨q,rfl⟩:=Int.eq_ofNat_of_zero_le hq
 refine ⟨Q+q*2 ^ (64*i),?_⟩
 rw[mod_next]
 have hp:(2:Nat) ^ (64*(i+1))=2 ^ (64*i)*18446744073709551616:=by rw[Nat.mul_add,Nat.pow_add]
 rw[hp]
 have hl:limb A i=((A / 2 ^ (64*i) % 18446744073709551616:Nat):Int):=rfl
 rw[hl] at h'
 generalize A / 2 ^ (64*i) % 18446744073709551616=xi at *
 generalize A % 2 ^ (64*i)=X at *
 generalize 2 ^ (64*i)=m at *
 have e1:T' * ((m*18446744073709551616:Nat):Int)=(18446744073709551616*T')*(m:Int):=by
  rw[Int.natCast_mul,Int.mul_comm (m:Int),←Int.mul_assoc,Int.mul_comm T'];rfl
 rw[e1,h',Int.add_mul,Int.add_mul,h]
 push_cast
 simp only[Int.add_mul,Int.mul_assoc]
 have e2:(xi:Int)*((Y:Int)*(m:Int))=(m:Int)*((xi:Int)*(Y:Int)):=by rw[←Int.mul_assoc,Int.mul_comm]
 have e3:(q:Int)*((r:Int)*(m:Int))=(q:Int)*((m:Int)*(r:Int)):=by rw[Int.mul_comm (r:Int)]
 rw[e2,e3]
 omega

theorem out_abs {r B v T X Q:Nat} (e:v*B % r=1 % r) (h:T*B=X+Q*r):T % r=X*v % r:=by
  have h2:∀a:Nat,a*(v*B) % r=a % r:=fun a=>by rw[←Nat.mul_mod_mod,e,Nat.mul_mod_mod,Nat.mul_one]
  calc T % r=T*(v*B) % r:=(h2 _).symm
    _=(T*B)*v % r:=by congr 1;simp only[Nat.mul_comm,Nat.mul_left_comm]
    _=X*v % r:=by rw[h,Nat.add_mul,Nat.mul_assoc Q,Nat.mul_comm r,←Nat.mul_assoc,Nat.add_mul_mod_self_right]

theorem redU_congr {a b:Nat} (h:a % rN=b % rN):redU a=redU b:=by unfold redU;rw[h]

theorem product_mu (o0 o1 o2 o3:Int) (A Y:Nat) (hA:A<B4) (hY:Y<rN) :
  MuC Try.prog 66 0 4 1 (fl4 o0 o1 o2 o3) [u4s (limb A 0) (limb A 1) (limb A 2) (limb A 3),u4s (limb Y 0) (limb Y 1) (limb Y 2) (limb Y 3),mR,.v (.c (.int .u64 18446744069414584319))] (.fl [.ob (.fr (redU (A*Y*rinv)))]):=by
 refine mu_start (fn:=Try.f66) (c:=bodyOf Try.f66) Try.func66 rfl rfl fun x0 a0 hk hm hs=>?_
 obtain ⟨ey,y0,y0',y1,y1',y2,y2',y3,y3'⟩:=limbsOf4 Y (Nat.lt_trans hY (by decide))
 obtain ⟨ea,z0,z0',z1,z1',z2,z2',z3,z3'⟩:=limbsOf4 A hA
 have hyr:(Y:Int)<(rN:Int):=by exact_mod_cast hY
 have hin:=@pIn o0 o1 o2 o3 (limb A 0) (limb A 1) (limb A 2) (limb A 3) (limb Y 0) (limb Y 1) (limb Y 2) (limb Y 3)
 have hget:∀i,i<4→List.getD [limb A 0,limb A 1,limb A 2,limb A 3] i 0=limb A i:=by
  intro i hi
  have:i=0∨i=1∨i=2∨i=3:=by omega
  rcases this with rfl | rfl | rfl | rfl<;>rfl
 have hmul:=fun z=>num4_mul z (limb Y 0) (limb Y 1) (limb Y 2) (limb Y 3)
 have hyn:(Y:Int)=num4 (limb Y 0) (limb Y 1) (limb Y 2) (limb Y 3):=ey
 rw[←hyn] at hmul
 have hx0:∀i,0≤limb A i:=fun i=>Int.natCast_nonneg _
 have hx1:∀i,limb A i<18446744073709551616:=fun i=>by
  show ((A / 2 ^ (64*i) % 18446744073709551616:Nat):Int)<18446744073709551616
  omega
 have hlimY0:Lim (limb Y 0):=⟨y0,y0'⟩
 have hlimY1:Lim (limb Y 1):=⟨y1,y1'⟩
 have hlimY2:Lim (limb Y 2):=⟨y2,y2'⟩
 have hlimY3:Lim (limb Y 3):=⟨y3,y3'⟩
 clear ey ea y0 y0' y1 y1' y2 y2' y3 y3' z0 z0' z1 z1' z2 z2' z3 z3'
 have hT4:A % 2 ^ (64*4)=A:=Nat.mod_eq_of_lt (by rw[pow4'];exact hA)
 generalize limb A 0=a at *
 generalize limb A 1=b at *
 generalize limb A 2=c at *
 generalize limb A 3=d at *
 generalize limb Y 0=v0 at *
 generalize limb Y 1=v1 at *
 generalize limb Y 2=v2 at *
 generalize limb Y 3=v3 at *
 refine hin trivial hs fun ac cY aY hs1=>?_
 refine loop_rule (ι:={ p:Nat×Int×Int×Int×Int×Int×Int // PInv A Y p.1 p.2.1 p.2.2.1 p.2.2.2.1 p.2.2.2.2.1 p.2.2.2.2.2.1 })
  (fun p=>pS o0 o1 o2 o3 a b c d v0 v1 v2 v3 p.1.1 p.1.2.1 p.1.2.2.1 p.1.2.2.2.1 p.1.2.2.2.2.1 p.1.2.2.2.2.2.1 p.1.2.2.2.2.2.2) (fun p=>4-p.1.1) (c:=lpC pIn_k) (k:=lpR pIn_k) (by kernel_rfl) (fun p ih ac cY aY hs=>?_)
  ⟨(0,0,0,0,0,0,0),⟨by decide,⟨by decide,by decide⟩,⟨by decide,by decide⟩,⟨by decide,by decide⟩,⟨by decide,by decide⟩,rfl,by decide,0,by simp [num4,Nat.mod_one]⟩⟩ hs1
 obtain ⟨⟨i,r0,r1,r2,r3,r4,r5⟩,hI⟩:=p
 simp only at ih hs hI
 obtain ⟨hi,h0,h1,h2,h3,h4,hlt,Q,hQ⟩:=hI
 subst h4
 by_cases h5:i<4
 ·have hround:=fun T' q hq=>round_eqN (A:=A) (Y:=Y) (r:=rN) (i:=i) (Q:=Q) (T:=num4 r0 r1 r2 r3) (T' := T') (q:=q) hq hQ
  have hzz:limb A i*(Y:Int)≤18446744073709551615*(Y:Int):=Int.mul_le_mul_of_nonneg_right (by have:=hx1 i;omega) (by omega)
  have hz0:0≤limb A i*(Y:Int):=Int.mul_nonneg (hx0 i) (by omega)
  have hlx:Lim (limb A i):=⟨hx0 i,hx1 i⟩
  refine sPA o0 o1 o2 o3 a b c d v0 v1 v2 v3 i h5 (hget i h5) hlx hlimY0 h0 hs fun a0 c0 eA la0 lc0 ac cY aY hs=>?_
  refine sPB o0 o1 o2 o3 a b c d v0 v1 v2 v3 i hlx hlimY1 h1 lc0 hs fun a1 c1 eB la1 lc1 ac cY aY hs=>?_
  refine sPC o0 o1 o2 o3 a b c d v0 v1 v2 v3 i hlx hlimY2 h2 lc1 hs fun a2 c2 eC la2 lc2 ac cY aY hs=>?_
  refine sPD o0 o1 o2 o3 a b c d v0 v1 v2 v3 i hlx hlimY3 h3 lc2 hs fun a3 c3 eD la3 lc3 ac cY aY hs=>?_
  refine sPE o0 o1 o2 o3 a b c d v0 v1 v2 v3 i la0 ⟨by decide,by decide⟩ lc3 hs fun q d0 n4 n5 eE eQ ln4 n50 n51 lq ld0 ac cY aY hs=>?_
  refine sPF o0 o1 o2 o3 a b c d v0 v1 v2 v3 i lq la1 ld0 hs fun b0 d1 eF lb0 ld1 ac cY aY hs=>?_
  refine sPG o0 o1 o2 o3 a b c d v0 v1 v2 v3 i lq la2 ld1 hs fun b1 d2 eG lb1 ld2 ac cY aY hs=>?_
  refine sPH o0 o1 o2 o3 a b c d v0 v1 v2 v3 i lq la3 ld2 hs fun b2 d3 eH lb2 ld3 ac cY aY hs=>?_
  refine sPI o0 o1 o2 o3 a b c d v0 v1 v2 v3 i h5 ln4 ld3 hs fun b3 c4 eI lb3 c40 c41 ac cY aY hs=>?_
  have hall:18446744073709551616*(num4 b0 b1 b2 b3+115792089237316195423570985008687907853269984665640564039457584007913129639936*(n5+c4))=num4 r0 r1 r2 r3+limb A i*(Y:Int)+q*(rN:Int):=by
   rw[hmul]
   clear hround hmul hzz hz0 hQ ih hyr hyn
   unfold num4 rN
   omega
  have hlt' : num4 b0 b1 b2 b3+115792089237316195423570985008687907853269984665640564039457584007913129639936*(n5+c4)<2*rN:=by
   obtain ⟨q0,q1⟩:=lq
   have:q*(rN:Int)≤18446744073709551615*(rN:Int):=Int.mul_le_mul_of_nonneg_right (by omega) (by omega)
   clear hround hmul hQ ih hyn
   generalize limb A i*(Y:Int)=z at *
   generalize q*(rN:Int)=z' at *
   omega
  have htop:n5+c4=0:=by
   obtain ⟨_,_⟩:=lb0
   obtain ⟨_,_⟩:=lb1
   obtain ⟨_,_⟩:=lb2
   obtain ⟨_,_⟩:=lb3
   unfold num4 rN at hlt'
   omega
  rw[htop,Int.mul_zero,Int.add_zero] at hall hlt'
  rw[htop] at hs
  exact ih ⟨(i+1,b0,b1,b2,b3,wrap IntKind.u64 0,n5),⟨h5,lb0,lb1,lb2,lb3,rfl,hlt',hround _ q lq.1 hall⟩⟩ (by show 4-(i+1)<4-i;omega) ac cY aY hs
 ·have hi4:i=4:=by omega
  subst hi4
  have hT:0≤num4 r0 r1 r2 r3:=by
   obtain ⟨_,_⟩:=h0
   obtain ⟨_,_⟩:=h1
   obtain ⟨_,_⟩:=h2
   obtain ⟨_,_⟩:=h3
   unfold num4
   omega
  rw[hT4] at hQ
  have hb4:(2 ^ (64*4):Nat)=B4:=pow4'
  rw[hb4] at hQ
  have hlast:=last_eq hT hQ
  have hred:redU (num4 r0 r1 r2 r3).toNat=redU (A*Y*rinv):=redU_congr (out_abs rinv_B4 hlast)
  rw[←hred]
  refine mu_end envE_ok hk hm (pX o0 o1 o2 o3 a b c d v0 v1 v2 v3 4 r0 r1 r2 r3 0 r5) rfl ?_ (fun y cs h=>h) (.inl ⟨_,_,rfl,rfl⟩) hs
  refine ⟨by decide,by decide,by decide,by decide,by decide,h0,h1,h2,h3,hlt,rfl,rfl,rfl,rfl,rfl,trivial⟩

end

section

theorem MuC.pre {P:Program} {f off len es:Nat} {e1 e2 e' : En} {rest:List SV} (h:MuC P f off len es e2 rest e') (hl:∃l l',e1 = .fl l∧e2 = .fl l') (hd:∀x cs,denEn x e1 cs→denEn x e2 cs):MuC P f off len es e1 rest e' := by
 intro x vs hk hm hden
 obtain ⟨l,l',rfl,rfl⟩:=hl
 refine h x vs hk ⟨fun p=>?_,fun p r hp=>?_,fun p q hp hn=>?_,fun p e hp hr=>?_,hm.inj,hm.own,hm.fw⟩ hden
 ·rw[←hm.dom p]
  by_cases h0:p=0<;>simp [one,h0]
 ·by_cases h0:p=0
  ·subst h0;exact hm.fl 0 l rfl
  ·simp [one,h0] at hp
 ·by_cases h0:p=0
  ·subst h0;simp [one] at hp
  ·simp [one,h0] at hp
 ·by_cases h0:p=0
  ·subst h0
   simp only[one,if_true,Option.some.injEq] at hp
   subst hp
   obtain ⟨cs,ty,hc,hdd⟩:=hm.ent 0 _ rfl hr
   exact ⟨cs,ty,hc,hd _ _ hdd⟩
  ·simp [one,h0] at hp

theorem ob_ints {x:Ctx} {o:Ob} (hk:o.k=4) {cs:List Value} (h:catL x.D [.ob o] cs):catL x.D [.int .u64 (limb o.n 0),.int .u64 (limb o.n 1),.int .u64 (limb o.n 2),.int .u64 (limb o.n 3)] cs:=by
 obtain ⟨c1,c2,e,⟨d,h1⟩,h2⟩:=h
 have h1:c1=o.cells:=by cases d<;>exact h1
 have h2:c2=[]:=h2
 subst h2 h1 e
 rw[List.append_nil]
 unfold Ob.cells
 rw[hk]
 exact ⟨[_],_,rfl,⟨0,rfl⟩,[_],_,rfl,⟨0,rfl⟩,[_],_,rfl,⟨0,rfl⟩,[_],_,rfl,⟨0,rfl⟩,rfl⟩

def prodE (a b c d y0 y1 y2 y3:Int):En:=.fl [.ob (.fr (redU ((num4 a b c d).toNat*(num4 y0 y1 y2 y3).toNat*rinv)))]
def prodSpec:MuS:=fun off len es e rest=>
 match off,len,es,e,rest with
 | 0,4,1,.fl [.ob (.s _)],[.v (.c (.sl (.u64 [a,b,c,d]))),.v (.c (.sl (.u64 [y0,y1,y2,y3]))),.v (.c (.sl (.u64 [m0,m1,m2,m3]))),.v (.c (.int .u64 neg))]=>
  some ([Lim a,Lim b,Lim c,Lim d,Lim y0,Lim y1,Lim y2,Lim y3,num4 y0 y1 y2 y3<rN,neg=18446744069414584319,m0=18446744069414584321,m1=6034159408538082302,m2=3691218898639771653,m3=8353516859464449352],prodE a b c d y0 y1 y2 y3)
 | 0,4,1,.fl [.ob (.fr _)],[.v (.c (.sl (.u64 [a,b,c,d]))),.v (.c (.sl (.u64 [y0,y1,y2,y3]))),.v (.c (.sl (.u64 [m0,m1,m2,m3]))),.v (.c (.int .u64 neg))]=>
  some ([Lim a,Lim b,Lim c,Lim d,Lim y0,Lim y1,Lim y2,Lim y3,num4 y0 y1 y2 y3<rN,neg=18446744069414584319,m0=18446744069414584321,m1=6034159408538082302,m2=3691218898639771653,m3=8353516859464449352],prodE a b c d y0 y1 y2 y3)
 | _,_,_,_,_=>none

theorem num4_nat {a b c d:Int} (ha:Lim a) (hb:Lim b) (hc:Lim c) (hd:Lim d):∃n:Nat,n<B4∧num4 a b c d=(n:Int)∧limb n 0=a∧limb n 1=b∧limb n 2=c∧limb n 3=d:=by
 obtain ⟨ha,ha1⟩:=ha
 obtain ⟨hb,hb1⟩:=hb
 obtain ⟨hc,hc1⟩:=hc
 obtain ⟨hd,hd1⟩:=hd
 have h0:0≤num4 a b c d:=by unfold num4;omega
 obtain ⟨n,hn⟩:=Int.eq_ofNat_of_zero_le h0
 refine ⟨n,?_,hn,limbsAre4 ha ha1 hb hb1 hc hc1 hd hd1 (by rw[←hn];rfl)⟩
 unfold num4 at hn
 unfold B4
 omega

theorem prod_use {o:Ob} (hk:o.k=4) {a b c d y0 y1 y2 y3 neg m0 m1 m2 m3:Int}
  (ho:AllP [Lim a,Lim b,Lim c,Lim d,Lim y0,Lim y1,Lim y2,Lim y3,num4 y0 y1 y2 y3<rN,neg=18446744069414584319,m0=18446744069414584321,m1=6034159408538082302,m2=3691218898639771653,m3=8353516859464449352]) :
  MuC Try.prog 66 0 4 1 (.fl [.ob o]) [.v (.c (.sl (.u64 [a,b,c,d]))),.v (.c (.sl (.u64 [y0,y1,y2,y3]))),.v (.c (.sl (.u64 [m0,m1,m2,m3]))),.v (.c (.int .u64 neg))] (prodE a b c d y0 y1 y2 y3):=by
 obtain ⟨h1,h2,h3,h4,h5,h6,h7,h8,h9,rfl,rfl,rfl,rfl,rfl,_⟩:=ho
 obtain ⟨A,hA,eA,rfl,rfl,rfl,rfl⟩:=num4_nat h1 h2 h3 h4
 obtain ⟨Y,hY,eY,rfl,rfl,rfl,rfl⟩:=num4_nat h5 h6 h7 h8
 refine MuC.pre (e2:=fl4 (limb o.n 0) (limb o.n 1) (limb o.n 2) (limb o.n 3)) ?_ ⟨_,_,rfl,rfl⟩ fun x cs h=>ob_ints hk h
 unfold prodE
 rw[eA,eY,Int.toNat_natCast,Int.toNat_natCast]
 rw[eY] at h9
 exact product_mu _ _ _ _ A Y hA (by exact_mod_cast h9)

def envF:Env:={ envE with mu:=fun g=>if g=66 then some (mu1 prodSpec) else envE.mu g }
theorem envF_ok:EnvOk Try.prog envF:=
 env_mu envE_ok 66 prodSpec (enters_of Try.func66 rfl rfl) fun off len es e rest o e' h ho _ _=>by
  unfold prodSpec at h
  split at h
  ·cases h;exact prod_use rfl ho
  ·cases h;exact prod_use rfl ho
  ·cases h

--@env envF envF_ok
theorem inS0 (x:U4):fnRes envF Try.f29 3000 [.v (.a [.ob (.fr x)])] [] [] []=(some ([(Lim (limb (Ob.n (.fr x)) 0)),(Lim (limb (Ob.n (.fr x)) 1)),(Lim (limb (Ob.n (.fr x)) 2)),(Lim (limb (Ob.n (.fr x)) 3)),(Lim (14526898881837571181:Int)),(Lim (3129137299524312099:Int)),(Lim (419701826671360399:Int)),(Lim (524908885293268753:Int)),((3294906474794265442129797520630710739278575682199800681788903916070560242797:Int)<(52435875175126190479447740508185965837690552500527637822603658699938581184513:Int)),((18446744069414584319:Int)=(18446744069414584319:Int)),((18446744069414584321:Int)=(18446744069414584321:Int)),((6034159408538082302:Int)=(6034159408538082302:Int)),((3691218898639771653:Int)=(3691218898639771653:Int)),((8353516859464449352:Int)=(8353516859464449352:Int))],((.v (.a [(.ob (.fr (redU ((((num4 (limb (Ob.n (.fr x)) 0) (limb (Ob.n (.fr x)) 1) (limb (Ob.n (.fr x)) 2) (limb (Ob.n (.fr x)) 3))).toNat*3294906474794265442129797520630710739278575682199800681788903916070560242797)*rinv))))])),[]))):=by kernel_rfl
theorem outS0 (x:Fr):fnRes envF Try.f76 3000 [.v (.a [.ob (.s x)])] [] [] []=(some ([(Lim (limb (Ob.n (.s x)) 0)),(Lim (limb (Ob.n (.s x)) 1)),(Lim (limb (Ob.n (.s x)) 2)),(Lim (limb (Ob.n (.s x)) 3)),(Lim (1:Int)),(Lim (0:Int)),(Lim (0:Int)),(Lim (0:Int)),((1:Int)<(52435875175126190479447740508185965837690552500527637822603658699938581184513:Int)),((18446744069414584319:Int)=(18446744069414584319:Int)),((18446744069414584321:Int)=(18446744069414584321:Int)),((6034159408538082302:Int)=(6034159408538082302:Int)),((3691218898639771653:Int)=(3691218898639771653:Int)),((8353516859464449352:Int)=(8353516859464449352:Int))],((.v (.a [(.ob (.fr (redU ((((num4 (limb (Ob.n (.s x)) 0) (limb (Ob.n (.s x)) 1) (limb (Ob.n (.s x)) 2) (limb (Ob.n (.s x)) 3))).toNat*1)*rinv))))])),[]))):=by kernel_rfl
end

section

/-- A number, taken modulo r; an element as a number. -/
def inF (a:U4):Fr:=Fin.ofNat rN a.val
def outF (x:Fr):U4:=Fin.ofNat B4 x.val
theorem outF_val (x:Fr):(outF x).val=x.val:=Nat.mod_eq_of_lt (Nat.lt_trans x.isLt (by decide))

theorem lims_of {n:Nat} (h:n<B4):Lim (limb n 0)∧Lim (limb n 1)∧Lim (limb n 2)∧Lim (limb n 3)∧(num4 (limb n 0) (limb n 1) (limb n 2) (limb n 3)).toNat=n:=by
 obtain ⟨e,a0,a1,b0,b1,c0,c1,d0,d1⟩:=limbsOf4 n h
 refine ⟨⟨a0,a1⟩,⟨b0,b1⟩,⟨c0,c1⟩,⟨d0,d1⟩,?_⟩
 unfold num4
 rw[←e]
 exact Int.toNat_natCast n

theorem inS_abs {r B v s a:Nat} (e:v*B % r=1 % r) (hs:s % r=B*B % r):a*s*v % r=(a % r)*B % r:=by
  have h2:∀a:Nat,a*(v*B) % r=a % r:=fun a=>by rw[←Nat.mul_mod_mod,e,Nat.mul_mod_mod,Nat.mul_one]
  calc a*s*v % r=(a*v)*s % r:=by congr 1;simp only[Nat.mul_comm,Nat.mul_left_comm]
    _=(a*v)*(B*B) % r:=by rw[←Nat.mul_mod_mod,hs,Nat.mul_mod_mod]
    _=(a*B)*(v*B) % r:=by congr 1;simp only[Nat.mul_comm,Nat.mul_left_comm]
    _=a*B % r:=h2 _
    _=(a % r)*B % r:=by rw[Nat.mod_mul_mod]

theorem sq_B4:3294906474794265442129797520630710739278575682199800681788903916070560242797 % rN=B4*B4 % rN:=by kernel_rfl

theorem inS_fnd (a:U4):FnD Try.prog 29 [.v (.a [.ob (.fr a)])] (.v (.a [.ob (.s (inF a))])) []:=by
 obtain ⟨h0,h1,h2,h3,hn⟩:=lims_of a.isLt
 refine (fn_sound envF_ok Try.func29 (inS0 a) ?_).conv (fun _ _ h=>h) fun y v hd=>?_
 ·exact ⟨h0,h1,h2,h3,⟨by decide,by decide⟩,⟨by decide,by decide⟩,⟨by decide,by decide⟩,⟨by decide,by decide⟩,by decide,rfl,rfl,rfl,rfl,rfl,trivial⟩
 ·refine ob_ob (o:=.fr (redU _)) (o' := .s (inF a)) rfl ?_ hd
  show (redU _).val=_
  rw[redU_val]
  have hn:(num4 (limb (Ob.n (Ob.fr a)) 0) (limb (Ob.n (Ob.fr a)) 1) (limb (Ob.n (Ob.fr a)) 2) (limb (Ob.n (Ob.fr a)) 3)).toNat=a.val:=hn
  rw[hn]
  exact inS_abs rinv_B4 sq_B4

theorem out_one {r B v x:Nat} (e:v*B % r=1 % r):(x*B % r)*1*v % r=x % r:=by
 rw[Nat.mul_one,Nat.mod_mul_mod,Nat.mul_assoc,Nat.mul_comm B,←Nat.mul_mod_mod,e,Nat.mul_mod_mod,Nat.mul_one]

theorem outS_fnd (x:Fr):FnD Try.prog 76 [.v (.a [.ob (.s x)])] (.v (.a [.ob (.fr (outF x))])) []:=by
 obtain ⟨h0,h1,h2,h3,hn⟩:=lims_of (n:=(Ob.s x).n) (Nat.lt_trans (s_lt x) (by decide))
 refine (fn_sound envF_ok Try.func76 (outS0 x) ?_).conv (fun _ _ h=>h) fun y v hd=>?_
 ·exact ⟨h0,h1,h2,h3,⟨by decide,by decide⟩,⟨by decide,by decide⟩,⟨by decide,by decide⟩,⟨by decide,by decide⟩,by decide,rfl,rfl,rfl,rfl,rfl,trivial⟩
 ·refine ob_ob (o:=.fr (redU _)) (o' := .fr (outF x)) (Eq.refl 4) ?_ hd
  show (redU _).val=(outF x).val
  rw[redU_val,hn,outF_val]
  have e:(Ob.s x).n=x.val*B4 % rN:=rfl
  rw[e,out_one rinv_B4]
  exact Nat.mod_eq_of_lt x.isLt

end

section

--@env envF envF_ok
theorem plusS0 (x y:Fr):fnRes envF Try.f31 3000 [.v (.a [.ob (.s x)]),.v (.a [.ob (.s y)])] [] [] []=(some ([(0≤(0:Int)),(0<(4:Int)),(0<(Ob.k (.s x))),(0≤(0:Int)),(0<(4:Int)),(0<(Ob.k (.s y))),(0≤(limb (Ob.n (.s x)) 0)),(0≤(limb (Ob.n (.s y)) 0)),((limb (Ob.n (.s y)) 0)<(18446744073709551616:Int)),(0≤(0:Int)),(0≤(1:Int)),(0≤(0:Int)),(0<(4:Int)),(0≤(1:Int)),((1:Int)<(4:Int)),(1<(Ob.k (.s x))),(0≤(1:Int)),((1:Int)<(4:Int)),(1<(Ob.k (.s y))),(0≤(limb (Ob.n (.s x)) 1)),(0≤(limb (Ob.n (.s y)) 1)),((limb (Ob.n (.s y)) 1)<(18446744073709551616:Int)),(0≤(Prod.snd (exOut 0 (limb (Ob.n (.s x)) 0) (limb (Ob.n (.s y)) 0) (0:Int)))),((Prod.snd (exOut 0 (limb (Ob.n (.s x)) 0) (limb (Ob.n (.s y)) 0) (0:Int)))≤(1:Int)),(0≤(1:Int)),((1:Int)<(4:Int)),(0≤(2:Int)),((2:Int)<(4:Int)),(2<(Ob.k (.s x))),(0≤(2:Int)),((2:Int)<(4:Int)),(2<(Ob.k (.s y))),(0≤(limb (Ob.n (.s x)) 2)),(0≤(limb (Ob.n (.s y)) 2)),((limb (Ob.n (.s y)) 2)<(18446744073709551616:Int)),(0≤(Prod.snd (exOut 0 (limb (Ob.n (.s x)) 1) (limb (Ob.n (.s y)) 1) (Prod.snd (exOut 0 (limb (Ob.n (.s x)) 0) (limb (Ob.n (.s y)) 0) (0:Int)))))),((Prod.snd (exOut 0 (limb (Ob.n (.s x)) 1) (limb (Ob.n (.s y)) 1) (Prod.snd (exOut 0 (limb (Ob.n (.s x)) 0) (limb (Ob.n (.s y)) 0) (0:Int)))))≤(1:Int)),(0≤(2:Int)),((2:Int)<(4:Int)),(0≤(3:Int)),((3:Int)<(4:Int)),(3<(Ob.k (.s x))),(0≤(3:Int)),((3:Int)<(4:Int)),(3<(Ob.k (.s y))),(0≤(limb (Ob.n (.s x)) 3)),(0≤(limb (Ob.n (.s y)) 3)),((limb (Ob.n (.s y)) 3)<(18446744073709551616:Int)),(0≤(Prod.snd (exOut 0 (limb (Ob.n (.s x)) 2) (limb (Ob.n (.s y)) 2) (Prod.snd (exOut 0 (limb (Ob.n (.s x)) 1) (limb (Ob.n (.s y)) 1) (Prod.snd (exOut 0 (limb (Ob.n (.s x)) 0) (limb (Ob.n (.s y)) 0) (0:Int)))))))),((Prod.snd (exOut 0 (limb (Ob.n (.s x)) 2) (limb (Ob.n (.s y)) 2) (Prod.snd (exOut 0 (limb (Ob.n (.s x)) 1) (limb (Ob.n (.s y)) 1) (Prod.snd (exOut 0 (limb (Ob.n (.s x)) 0) (limb (Ob.n (.s y)) 0) (0:Int)))))))≤(1:Int)),(0≤(3:Int)),((3:Int)<(4:Int)),(0≤(Prod.fst (exOut 0 (limb (Ob.n (.s x)) 0) (limb (Ob.n (.s y)) 0) (0:Int)))),((Prod.fst (exOut 0 (limb (Ob.n (.s x)) 0) (limb (Ob.n (.s y)) 0) (0:Int)))<(18446744073709551616:Int)),(0≤(Prod.fst (exOut 0 (limb (Ob.n (.s x)) 1) (limb (Ob.n (.s y)) 1) (Prod.snd (exOut 0 (limb (Ob.n (.s x)) 0) (limb (Ob.n (.s y)) 0) (0:Int)))))),((Prod.fst (exOut 0 (limb (Ob.n (.s x)) 1) (limb (Ob.n (.s y)) 1) (Prod.snd (exOut 0 (limb (Ob.n (.s x)) 0) (limb (Ob.n (.s y)) 0) (0:Int)))))<(18446744073709551616:Int)),(0≤(Prod.fst (exOut 0 (limb (Ob.n (.s x)) 2) (limb (Ob.n (.s y)) 2) (Prod.snd (exOut 0 (limb (Ob.n (.s x)) 1) (limb (Ob.n (.s y)) 1) (Prod.snd (exOut 0 (limb (Ob.n (.s x)) 0) (limb (Ob.n (.s y)) 0) (0:Int)))))))),((Prod.fst (exOut 0 (limb (Ob.n (.s x)) 2) (limb (Ob.n (.s y)) 2) (Prod.snd (exOut 0 (limb (Ob.n (.s x)) 1) (limb (Ob.n (.s y)) 1) (Prod.snd (exOut 0 (limb (Ob.n (.s x)) 0) (limb (Ob.n (.s y)) 0) (0:Int)))))))<(18446744073709551616:Int)),(0≤(Prod.fst (exOut 0 (limb (Ob.n (.s x)) 3) (limb (Ob.n (.s y)) 3) (Prod.snd (exOut 0 (limb (Ob.n (.s x)) 2) (limb (Ob.n (.s y)) 2) (Prod.snd (exOut 0 (limb (Ob.n (.s x)) 1) (limb (Ob.n (.s y)) 1) (Prod.snd (exOut 0 (limb (Ob.n (.s x)) 0) (limb (Ob.n (.s y)) 0) (0:Int)))))))))),((Prod.fst (exOut 0 (limb (Ob.n (.s x)) 3) (limb (Ob.n (.s y)) 3) (Prod.snd (exOut 0 (limb (Ob.n (.s x)) 2) (limb (Ob.n (.s y)) 2) (Prod.snd (exOut 0 (limb (Ob.n (.s x)) 1) (limb (Ob.n (.s y)) 1) (Prod.snd (exOut 0 (limb (Ob.n (.s x)) 0) (limb (Ob.n (.s y)) 0) (0:Int)))))))))<(18446744073709551616:Int)),((num4 (Prod.fst (exOut 0 (limb (Ob.n (.s x)) 0) (limb (Ob.n (.s y)) 0) (0:Int))) (Prod.fst (exOut 0 (limb (Ob.n (.s x)) 1) (limb (Ob.n (.s y)) 1) (Prod.snd (exOut 0 (limb (Ob.n (.s x)) 0) (limb (Ob.n (.s y)) 0) (0:Int))))) (Prod.fst (exOut 0 (limb (Ob.n (.s x)) 2) (limb (Ob.n (.s y)) 2) (Prod.snd (exOut 0 (limb (Ob.n (.s x)) 1) (limb (Ob.n (.s y)) 1) (Prod.snd (exOut 0 (limb (Ob.n (.s x)) 0) (limb (Ob.n (.s y)) 0) (0:Int))))))) (Prod.fst (exOut 0 (limb (Ob.n (.s x)) 3) (limb (Ob.n (.s y)) 3) (Prod.snd (exOut 0 (limb (Ob.n (.s x)) 2) (limb (Ob.n (.s y)) 2) (Prod.snd (exOut 0 (limb (Ob.n (.s x)) 1) (limb (Ob.n (.s y)) 1) (Prod.snd (exOut 0 (limb (Ob.n (.s x)) 0) (limb (Ob.n (.s y)) 0) (0:Int))))))))))<(104871750350252380958895481016371931675381105001055275645207317399877162369026:Int))],((.v (.a [(.ob (.s (redS ((num4 (Prod.fst (exOut 0 (limb (Ob.n (.s x)) 0) (limb (Ob.n (.s y)) 0) (0:Int))) (Prod.fst (exOut 0 (limb (Ob.n (.s x)) 1) (limb (Ob.n (.s y)) 1) (Prod.snd (exOut 0 (limb (Ob.n (.s x)) 0) (limb (Ob.n (.s y)) 0) (0:Int))))) (Prod.fst (exOut 0 (limb (Ob.n (.s x)) 2) (limb (Ob.n (.s y)) 2) (Prod.snd (exOut 0 (limb (Ob.n (.s x)) 1) (limb (Ob.n (.s y)) 1) (Prod.snd (exOut 0 (limb (Ob.n (.s x)) 0) (limb (Ob.n (.s y)) 0) (0:Int))))))) (Prod.fst (exOut 0 (limb (Ob.n (.s x)) 3) (limb (Ob.n (.s y)) 3) (Prod.snd (exOut 0 (limb (Ob.n (.s x)) 2) (limb (Ob.n (.s y)) 2) (Prod.snd (exOut 0 (limb (Ob.n (.s x)) 1) (limb (Ob.n (.s y)) 1) (Prod.snd (exOut 0 (limb (Ob.n (.s x)) 0) (limb (Ob.n (.s y)) 0) (0:Int))))))))))).toNat)))])),[]))):=by kernel_rfl
theorem minusS0 (x y:Fr):fnRes envF Try.f32 3000 [.v (.a [.ob (.s x)]),.v (.a [.ob (.s y)])] [true] [] []=(some ([(0≤(0:Int)),(0<(4:Int)),(0<(Ob.k (.s x))),(0≤(0:Int)),(0<(4:Int)),(0<(Ob.k (.s y))),(0≤(limb (Ob.n (.s x)) 0)),(0≤(limb (Ob.n (.s y)) 0)),((limb (Ob.n (.s y)) 0)<(18446744073709551616:Int)),(0≤(0:Int)),(0≤(1:Int)),(0≤(0:Int)),(0<(4:Int)),(0≤(1:Int)),((1:Int)<(4:Int)),(1<(Ob.k (.s x))),(0≤(1:Int)),((1:Int)<(4:Int)),(1<(Ob.k (.s y))),(0≤(limb (Ob.n (.s x)) 1)),(0≤(limb (Ob.n (.s y)) 1)),((limb (Ob.n (.s y)) 1)<(18446744073709551616:Int)),(0≤(Prod.snd (exOut 1 (limb (Ob.n (.s x)) 0) (limb (Ob.n (.s y)) 0) (0:Int)))),((Prod.snd (exOut 1 (limb (Ob.n (.s x)) 0) (limb (Ob.n (.s y)) 0) (0:Int)))≤(1:Int)),(0≤(1:Int)),((1:Int)<(4:Int)),(0≤(2:Int)),((2:Int)<(4:Int)),(2<(Ob.k (.s x))),(0≤(2:Int)),((2:Int)<(4:Int)),(2<(Ob.k (.s y))),(0≤(limb (Ob.n (.s x)) 2)),(0≤(limb (Ob.n (.s y)) 2)),((limb (Ob.n (.s y)) 2)<(18446744073709551616:Int)),(0≤(Prod.snd (exOut 1 (limb (Ob.n (.s x)) 1) (limb (Ob.n (.s y)) 1) (Prod.snd (exOut 1 (limb (Ob.n (.s x)) 0) (limb (Ob.n (.s y)) 0) (0:Int)))))),((Prod.snd (exOut 1 (limb (Ob.n (.s x)) 1) (limb (Ob.n (.s y)) 1) (Prod.snd (exOut 1 (limb (Ob.n (.s x)) 0) (limb (Ob.n (.s y)) 0) (0:Int)))))≤(1:Int)),(0≤(2:Int)),((2:Int)<(4:Int)),(0≤(3:Int)),((3:Int)<(4:Int)),(3<(Ob.k (.s x))),(0≤(3:Int)),((3:Int)<(4:Int)),(3<(Ob.k (.s y))),(0≤(limb (Ob.n (.s x)) 3)),(0≤(limb (Ob.n (.s y)) 3)),((limb (Ob.n (.s y)) 3)<(18446744073709551616:Int)),(0≤(Prod.snd (exOut 1 (limb (Ob.n (.s x)) 2) (limb (Ob.n (.s y)) 2) (Prod.snd (exOut 1 (limb (Ob.n (.s x)) 1) (limb (Ob.n (.s y)) 1) (Prod.snd (exOut 1 (limb (Ob.n (.s x)) 0) (limb (Ob.n (.s y)) 0) (0:Int)))))))),((Prod.snd (exOut 1 (limb (Ob.n (.s x)) 2) (limb (Ob.n (.s y)) 2) (Prod.snd (exOut 1 (limb (Ob.n (.s x)) 1) (limb (Ob.n (.s y)) 1) (Prod.snd (exOut 1 (limb (Ob.n (.s x)) 0) (limb (Ob.n (.s y)) 0) (0:Int)))))))≤(1:Int)),(0≤(3:Int)),((3:Int)<(4:Int)),(((Prod.snd (exOut 1 (limb (Ob.n (.s x)) 3) (limb (Ob.n (.s y)) 3) (Prod.snd (exOut 1 (limb (Ob.n (.s x)) 2) (limb (Ob.n (.s y)) 2) (Prod.snd (exOut 1 (limb (Ob.n (.s x)) 1) (limb (Ob.n (.s y)) 1) (Prod.snd (exOut 1 (limb (Ob.n (.s x)) 0) (limb (Ob.n (.s y)) 0) (0:Int))))))))) == (0:Int))=true)],((.v (.a [(.int .u64 (Prod.fst (exOut 1 (limb (Ob.n (.s x)) 0) (limb (Ob.n (.s y)) 0) (0:Int)))),(.int .u64 (Prod.fst (exOut 1 (limb (Ob.n (.s x)) 1) (limb (Ob.n (.s y)) 1) (Prod.snd (exOut 1 (limb (Ob.n (.s x)) 0) (limb (Ob.n (.s y)) 0) (0:Int)))))),(.int .u64 (Prod.fst (exOut 1 (limb (Ob.n (.s x)) 2) (limb (Ob.n (.s y)) 2) (Prod.snd (exOut 1 (limb (Ob.n (.s x)) 1) (limb (Ob.n (.s y)) 1) (Prod.snd (exOut 1 (limb (Ob.n (.s x)) 0) (limb (Ob.n (.s y)) 0) (0:Int)))))))),(.int .u64 (Prod.fst (exOut 1 (limb (Ob.n (.s x)) 3) (limb (Ob.n (.s y)) 3) (Prod.snd (exOut 1 (limb (Ob.n (.s x)) 2) (limb (Ob.n (.s y)) 2) (Prod.snd (exOut 1 (limb (Ob.n (.s x)) 1) (limb (Ob.n (.s y)) 1) (Prod.snd (exOut 1 (limb (Ob.n (.s x)) 0) (limb (Ob.n (.s y)) 0) (0:Int))))))))))])),[]))):=by kernel_rfl
theorem minusS1 (x y:Fr):fnRes envF Try.f32 3000 [.v (.a [.ob (.s x)]),.v (.a [.ob (.s y)])] [false] [] []=(some ([(0≤(0:Int)),(0<(4:Int)),(0<(Ob.k (.s x))),(0≤(0:Int)),(0<(4:Int)),(0<(Ob.k (.s y))),(0≤(limb (Ob.n (.s x)) 0)),(0≤(limb (Ob.n (.s y)) 0)),((limb (Ob.n (.s y)) 0)<(18446744073709551616:Int)),(0≤(0:Int)),(0≤(1:Int)),(0≤(0:Int)),(0<(4:Int)),(0≤(1:Int)),((1:Int)<(4:Int)),(1<(Ob.k (.s x))),(0≤(1:Int)),((1:Int)<(4:Int)),(1<(Ob.k (.s y))),(0≤(limb (Ob.n (.s x)) 1)),(0≤(limb (Ob.n (.s y)) 1)),((limb (Ob.n (.s y)) 1)<(18446744073709551616:Int)),(0≤(Prod.snd (exOut 1 (limb (Ob.n (.s x)) 0) (limb (Ob.n (.s y)) 0) (0:Int)))),((Prod.snd (exOut 1 (limb (Ob.n (.s x)) 0) (limb (Ob.n (.s y)) 0) (0:Int)))≤(1:Int)),(0≤(1:Int)),((1:Int)<(4:Int)),(0≤(2:Int)),((2:Int)<(4:Int)),(2<(Ob.k (.s x))),(0≤(2:Int)),((2:Int)<(4:Int)),(2<(Ob.k (.s y))),(0≤(limb (Ob.n (.s x)) 2)),(0≤(limb (Ob.n (.s y)) 2)),((limb (Ob.n (.s y)) 2)<(18446744073709551616:Int)),(0≤(Prod.snd (exOut 1 (limb (Ob.n (.s x)) 1) (limb (Ob.n (.s y)) 1) (Prod.snd (exOut 1 (limb (Ob.n (.s x)) 0) (limb (Ob.n (.s y)) 0) (0:Int)))))),((Prod.snd (exOut 1 (limb (Ob.n (.s x)) 1) (limb (Ob.n (.s y)) 1) (Prod.snd (exOut 1 (limb (Ob.n (.s x)) 0) (limb (Ob.n (.s y)) 0) (0:Int)))))≤(1:Int)),(0≤(2:Int)),((2:Int)<(4:Int)),(0≤(3:Int)),((3:Int)<(4:Int)),(3<(Ob.k (.s x))),(0≤(3:Int)),((3:Int)<(4:Int)),(3<(Ob.k (.s y))),(0≤(limb (Ob.n (.s x)) 3)),(0≤(limb (Ob.n (.s y)) 3)),((limb (Ob.n (.s y)) 3)<(18446744073709551616:Int)),(0≤(Prod.snd (exOut 1 (limb (Ob.n (.s x)) 2) (limb (Ob.n (.s y)) 2) (Prod.snd (exOut 1 (limb (Ob.n (.s x)) 1) (limb (Ob.n (.s y)) 1) (Prod.snd (exOut 1 (limb (Ob.n (.s x)) 0) (limb (Ob.n (.s y)) 0) (0:Int)))))))),((Prod.snd (exOut 1 (limb (Ob.n (.s x)) 2) (limb (Ob.n (.s y)) 2) (Prod.snd (exOut 1 (limb (Ob.n (.s x)) 1) (limb (Ob.n (.s y)) 1) (Prod.snd (exOut 1 (limb (Ob.n (.s x)) 0) (limb (Ob.n (.s y)) 0) (0:Int)))))))≤(1:Int)),(0≤(3:Int)),((3:Int)<(4:Int)),(((Prod.snd (exOut 1 (limb (Ob.n (.s x)) 3) (limb (Ob.n (.s y)) 3) (Prod.snd (exOut 1 (limb (Ob.n (.s x)) 2) (limb (Ob.n (.s y)) 2) (Prod.snd (exOut 1 (limb (Ob.n (.s x)) 1) (limb (Ob.n (.s y)) 1) (Prod.snd (exOut 1 (limb (Ob.n (.s x)) 0) (limb (Ob.n (.s y)) 0) (0:Int))))))))) == (0:Int))=false),(0≤(0:Int)),(0<(4:Int)),(0≤(0:Int)),(0<(4:Int)),(0<4),(0≤(Prod.fst (exOut 1 (limb (Ob.n (.s x)) 0) (limb (Ob.n (.s y)) 0) (0:Int)))),(0≤(18446744069414584321:Int)),((18446744069414584321:Int)<(18446744073709551616:Int)),(0≤(0:Int)),(0≤(1:Int)),(0≤(0:Int)),(0<(4:Int)),(0≤(1:Int)),((1:Int)<(4:Int)),(0≤(1:Int)),((1:Int)<(4:Int)),(1<4),(0≤(Prod.fst (exOut 1 (limb (Ob.n (.s x)) 1) (limb (Ob.n (.s y)) 1) (Prod.snd (exOut 1 (limb (Ob.n (.s x)) 0) (limb (Ob.n (.s y)) 0) (0:Int)))))),(0≤(6034159408538082302:Int)),((6034159408538082302:Int)<(18446744073709551616:Int)),(0≤(Prod.snd (exOut 0 (Prod.fst (exOut 1 (limb (Ob.n (.s x)) 0) (limb (Ob.n (.s y)) 0) (0:Int))) (18446744069414584321:Int) (0:Int)))),((Prod.snd (exOut 0 (Prod.fst (exOut 1 (limb (Ob.n (.s x)) 0) (limb (Ob.n (.s y)) 0) (0:Int))) (18446744069414584321:Int) (0:Int)))≤(1:Int)),(0≤(1:Int)),((1:Int)<(4:Int)),(0≤(2:Int)),((2:Int)<(4:Int)),(0≤(2:Int)),((2:Int)<(4:Int)),(2<4),(0≤(Prod.fst (exOut 1 (limb (Ob.n (.s x)) 2) (limb (Ob.n (.s y)) 2) (Prod.snd (exOut 1 (limb (Ob.n (.s x)) 1) (limb (Ob.n (.s y)) 1) (Prod.snd (exOut 1 (limb (Ob.n (.s x)) 0) (limb (Ob.n (.s y)) 0) (0:Int)))))))),(0≤(3691218898639771653:Int)),((3691218898639771653:Int)<(18446744073709551616:Int)),(0≤(Prod.snd (exOut 0 (Prod.fst (exOut 1 (limb (Ob.n (.s x)) 1) (limb (Ob.n (.s y)) 1) (Prod.snd (exOut 1 (limb (Ob.n (.s x)) 0) (limb (Ob.n (.s y)) 0) (0:Int))))) (6034159408538082302:Int) (Prod.snd (exOut 0 (Prod.fst (exOut 1 (limb (Ob.n (.s x)) 0) (limb (Ob.n (.s y)) 0) (0:Int))) (18446744069414584321:Int) (0:Int)))))),((Prod.snd (exOut 0 (Prod.fst (exOut 1 (limb (Ob.n (.s x)) 1) (limb (Ob.n (.s y)) 1) (Prod.snd (exOut 1 (limb (Ob.n (.s x)) 0) (limb (Ob.n (.s y)) 0) (0:Int))))) (6034159408538082302:Int) (Prod.snd (exOut 0 (Prod.fst (exOut 1 (limb (Ob.n (.s x)) 0) (limb (Ob.n (.s y)) 0) (0:Int))) (18446744069414584321:Int) (0:Int)))))≤(1:Int)),(0≤(2:Int)),((2:Int)<(4:Int)),(0≤(3:Int)),((3:Int)<(4:Int)),(0≤(3:Int)),((3:Int)<(4:Int)),(3<4),(0≤(Prod.fst (exOut 1 (limb (Ob.n (.s x)) 3) (limb (Ob.n (.s y)) 3) (Prod.snd (exOut 1 (limb (Ob.n (.s x)) 2) (limb (Ob.n (.s y)) 2) (Prod.snd (exOut 1 (limb (Ob.n (.s x)) 1) (limb (Ob.n (.s y)) 1) (Prod.snd (exOut 1 (limb (Ob.n (.s x)) 0) (limb (Ob.n (.s y)) 0) (0:Int)))))))))),(0≤(8353516859464449352:Int)),((8353516859464449352:Int)<(18446744073709551616:Int)),(0≤(Prod.snd (exOut 0 (Prod.fst (exOut 1 (limb (Ob.n (.s x)) 2) (limb (Ob.n (.s y)) 2) (Prod.snd (exOut 1 (limb (Ob.n (.s x)) 1) (limb (Ob.n (.s y)) 1) (Prod.snd (exOut 1 (limb (Ob.n (.s x)) 0) (limb (Ob.n (.s y)) 0) (0:Int))))))) (3691218898639771653:Int) (Prod.snd (exOut 0 (Prod.fst (exOut 1 (limb (Ob.n (.s x)) 1) (limb (Ob.n (.s y)) 1) (Prod.snd (exOut 1 (limb (Ob.n (.s x)) 0) (limb (Ob.n (.s y)) 0) (0:Int))))) (6034159408538082302:Int) (Prod.snd (exOut 0 (Prod.fst (exOut 1 (limb (Ob.n (.s x)) 0) (limb (Ob.n (.s y)) 0) (0:Int))) (18446744069414584321:Int) (0:Int)))))))),((Prod.snd (exOut 0 (Prod.fst (exOut 1 (limb (Ob.n (.s x)) 2) (limb (Ob.n (.s y)) 2) (Prod.snd (exOut 1 (limb (Ob.n (.s x)) 1) (limb (Ob.n (.s y)) 1) (Prod.snd (exOut 1 (limb (Ob.n (.s x)) 0) (limb (Ob.n (.s y)) 0) (0:Int))))))) (3691218898639771653:Int) (Prod.snd (exOut 0 (Prod.fst (exOut 1 (limb (Ob.n (.s x)) 1) (limb (Ob.n (.s y)) 1) (Prod.snd (exOut 1 (limb (Ob.n (.s x)) 0) (limb (Ob.n (.s y)) 0) (0:Int))))) (6034159408538082302:Int) (Prod.snd (exOut 0 (Prod.fst (exOut 1 (limb (Ob.n (.s x)) 0) (limb (Ob.n (.s y)) 0) (0:Int))) (18446744069414584321:Int) (0:Int)))))))≤(1:Int)),(0≤(3:Int)),((3:Int)<(4:Int))],((.v (.a [(.int .u64 (Prod.fst (exOut 0 (Prod.fst (exOut 1 (limb (Ob.n (.s x)) 0) (limb (Ob.n (.s y)) 0) (0:Int))) (18446744069414584321:Int) (0:Int)))),(.int .u64 (Prod.fst (exOut 0 (Prod.fst (exOut 1 (limb (Ob.n (.s x)) 1) (limb (Ob.n (.s y)) 1) (Prod.snd (exOut 1 (limb (Ob.n (.s x)) 0) (limb (Ob.n (.s y)) 0) (0:Int))))) (6034159408538082302:Int) (Prod.snd (exOut 0 (Prod.fst (exOut 1 (limb (Ob.n (.s x)) 0) (limb (Ob.n (.s y)) 0) (0:Int))) (18446744069414584321:Int) (0:Int)))))),(.int .u64 (Prod.fst (exOut 0 (Prod.fst (exOut 1 (limb (Ob.n (.s x)) 2) (limb (Ob.n (.s y)) 2) (Prod.snd (exOut 1 (limb (Ob.n (.s x)) 1) (limb (Ob.n (.s y)) 1) (Prod.snd (exOut 1 (limb (Ob.n (.s x)) 0) (limb (Ob.n (.s y)) 0) (0:Int))))))) (3691218898639771653:Int) (Prod.snd (exOut 0 (Prod.fst (exOut 1 (limb (Ob.n (.s x)) 1) (limb (Ob.n (.s y)) 1) (Prod.snd (exOut 1 (limb (Ob.n (.s x)) 0) (limb (Ob.n (.s y)) 0) (0:Int))))) (6034159408538082302:Int) (Prod.snd (exOut 0 (Prod.fst (exOut 1 (limb (Ob.n (.s x)) 0) (limb (Ob.n (.s y)) 0) (0:Int))) (18446744069414584321:Int) (0:Int)))))))),(.int .u64 (Prod.fst (exOut 0 (Prod.fst (exOut 1 (limb (Ob.n (.s x)) 3) (limb (Ob.n (.s y)) 3) (Prod.snd (exOut 1 (limb (Ob.n (.s x)) 2) (limb (Ob.n (.s y)) 2) (Prod.snd (exOut 1 (limb (Ob.n (.s x)) 1) (limb (Ob.n (.s y)) 1) (Prod.snd (exOut 1 (limb (Ob.n (.s x)) 0) (limb (Ob.n (.s y)) 0) (0:Int))))))))) (8353516859464449352:Int) (Prod.snd (exOut 0 (Prod.fst (exOut 1 (limb (Ob.n (.s x)) 2) (limb (Ob.n (.s y)) 2) (Prod.snd (exOut 1 (limb (Ob.n (.s x)) 1) (limb (Ob.n (.s y)) 1) (Prod.snd (exOut 1 (limb (Ob.n (.s x)) 0) (limb (Ob.n (.s y)) 0) (0:Int))))))) (3691218898639771653:Int) (Prod.snd (exOut 0 (Prod.fst (exOut 1 (limb (Ob.n (.s x)) 1) (limb (Ob.n (.s y)) 1) (Prod.snd (exOut 1 (limb (Ob.n (.s x)) 0) (limb (Ob.n (.s y)) 0) (0:Int))))) (6034159408538082302:Int) (Prod.snd (exOut 0 (Prod.fst (exOut 1 (limb (Ob.n (.s x)) 0) (limb (Ob.n (.s y)) 0) (0:Int))) (18446744069414584321:Int) (0:Int))))))))))])),[]))):=by kernel_rfl
end

section

theorem s_add_abs {x y r B:Nat}:((x+y) % r)*B % r=(x*B % r+y*B % r) % r:=by
 rw[Nat.mod_mul_mod,Nat.add_mul,←Nat.add_mod]

theorem s_add_n (x y:Fr):(Ob.s (x+y)).n=((Ob.s x).n+(Ob.s y).n) % rN:=by
 exact s_add_abs

theorem fin_sub_add {n:Nat} (x y:Fin n):x-y+y=x:=by
 apply Fin.ext
 simp only[Fin.add_def,Fin.sub_def]
 have:=y.isLt
 rw[Nat.mod_add_mod,show n-y.val+x.val+y.val=x.val+n from by omega,Nat.add_mod_right,Nat.mod_eq_of_lt x.isLt]

theorem s_sub_n (x y:Fr):((Ob.s (x-y)).n+(Ob.s y).n) % rN=(Ob.s x).n:=by
 rw[←s_add_n,fin_sub_add]

theorem add_abs {r B v x y:Nat} (e:v*B % r=1 % r):(x*B % r+y*B % r)*v % r=(x+y) % r:=by
 rw[←Nat.mod_mul_mod,←Nat.add_mod,Nat.mod_mul_mod,←Nat.add_mul,Nat.mul_assoc,Nat.mul_comm B,←Nat.mul_mod_mod,e,Nat.mul_mod_mod,Nat.mul_one]

theorem redS_add (x y:Fr):redS ((Ob.s x).n+(Ob.s y).n)=x+y:=by
 apply Fin.ext
 have e:(Ob.s x).n=x.val*B4 % rN:=rfl
 have e' : (Ob.s y).n=y.val*B4 % rN:=rfl
 rw[e,e']
 exact add_abs rinv_B4

theorem plus_fnd (x y:Fr):FnD Try.prog 31 [.v (.a [.ob (.s x)]),.v (.a [.ob (.s y)])] (.v (.a [.ob (.s (x+y))])) []:=by
 have r0:=plusS0 x y
 have hX:=s_lt x
 have hY:=s_lt y
 have hadd:=redS_add x y
 obtain ⟨ex,x0,x0',x1,x1',x2,x2',x3,x3'⟩:=limbsOf4 (Ob.s x).n (Nat.lt_trans (s_lt x) (by decide))
 obtain ⟨ey,y0,y0',y1,y1',y2,y2',y3,y3'⟩:=limbsOf4 (Ob.s y).n (Nat.lt_trans (s_lt y) (by decide))
 generalize limb (Ob.s x).n 0=a0 at *
 generalize limb (Ob.s x).n 1=a1 at *
 generalize limb (Ob.s x).n 2=a2 at *
 generalize limb (Ob.s x).n 3=a3 at *
 generalize limb (Ob.s y).n 0=b0 at *
 generalize limb (Ob.s y).n 1=b1 at *
 generalize limb (Ob.s y).n 2=b2 at *
 generalize limb (Ob.s y).n 3=b3 at *
 obtain ⟨e0,p0,p0',c0,c0'⟩:=add_step (c:=0) x0 x0' y0 y0' (by decide) (by decide)
 obtain ⟨e1,p1,p1',c1,c1'⟩:=add_step x1 x1' y1 y1' c0 c0'
 obtain ⟨e2,p2,p2',c2,c2'⟩:=add_step x2 x2' y2 y2' c1 c1'
 obtain ⟨e3,p3,p3',c3,c3'⟩:=add_step x3 x3' y3 y3' c2 c2'
 generalize hq0:exOut 0 a0 b0 0=q0 at *
 generalize hq1:exOut 0 a1 b1 q0.2=q1 at *
 generalize hq2:exOut 0 a2 b2 q1.2=q2 at *
 generalize hq3:exOut 0 a3 b3 q2.2=q3 at *
 clear hq0 hq1 hq2 hq3
 have hN:num4 q0.1 q1.1 q2.1 q3.1=((Ob.s x).n:Int)+((Ob.s y).n:Int):=by
  generalize (Ob.s x).n=X at *
  generalize (Ob.s y).n=Y at *
  unfold rN at hX hY
  unfold num4
  omega
 refine (fn_sound envF_ok Try.func31 r0 ?_).conv (fun _ _ h=>h) fun z v hd=>?_
 ·have hlt:num4 q0.1 q1.1 q2.1 q3.1<104871750350252380958895481016371931675381105001055275645207317399877162369026:=by
   unfold rN at hX hY
   omega
  simp only[AllP,and_true,Ob.k]
  clear hN hX hY ex ey hadd r0
  and_intros<;>first | assumption | decide | omega
 ·have hN' : (num4 q0.1 q1.1 q2.1 q3.1).toNat=(Ob.s x).n+(Ob.s y).n:=by omega
  rw[hN',hadd] at hd
  exact hd

theorem bit_one {b:Int} (h0:0≤b) (h1:b≤1) (h:¬b=0):b=1:=by omega

theorem sum4 {q0 q1 q2 q3 w0 w1 w2 w3 v0 v1 v2 v3:Int} (f0:q0+18446744069414584321+0=w0+18446744073709551616*v0) (f1:q1+6034159408538082302+v0=w1+18446744073709551616*v1)
  (f2:q2+3691218898639771653+v1=w2+18446744073709551616*v2) (f3:q3+8353516859464449352+v2=w3+18446744073709551616*v3) :
  num4 w0 w1 w2 w3+115792089237316195423570985008687907853269984665640564039457584007913129639936*v3=num4 q0 q1 q2 q3+rN:=by
 unfold num4 rN
 omega

theorem num4_lt {a b c d:Int} (ha:Lim a) (hb:Lim b) (hc:Lim c) (hd:Lim d):0≤num4 a b c d∧num4 a b c d<115792089237316195423570985008687907853269984665640564039457584007913129639936:=by
 obtain ⟨_,_⟩:=ha
 obtain ⟨_,_⟩:=hb
 obtain ⟨_,_⟩:=hc
 obtain ⟨_,_⟩:=hd
 unfold num4
 omega

theorem sub_fin {X Y Z:Nat} {N W v:Int} (hX:X<rN) (hY:Y<rN) (hcase:(Y≤X∧(Z:Int)=X-Y)∨(X<Y∧(Z:Int)=X+rN-Y))
  (hdiff:N-115792089237316195423570985008687907853269984665640564039457584007913129639936*1=(X:Int)-Y) (hN:0≤N∧N<115792089237316195423570985008687907853269984665640564039457584007913129639936)
  (hW:0≤W∧W<115792089237316195423570985008687907853269984665640564039457584007913129639936) (hv:0≤v∧v≤1)
  (hsum:W+115792089237316195423570985008687907853269984665640564039457584007913129639936*v=N+rN):(Z:Int)=W:=by
 obtain ⟨hN0,hN1⟩:=hN
 obtain ⟨hW0,hW1⟩:=hW
 obtain ⟨hv0,hv1⟩:=hv
 unfold rN at *
 have:v=0∨v=1:=by omega
 rcases hcase with ⟨h1,h2⟩ | ⟨h1,h2⟩
 ·exfalso;omega
 ·rcases this with rfl | rfl<;>omega

theorem sub_cases {X Y Z r:Nat} (_hX:X<r) (hY:Y<r) (hZ:Z<r) (h:(Z+Y) % r=X):(Y≤X∧(Z:Int)=X-Y)∨(X<Y∧(Z:Int)=X+r-Y):=by
 by_cases hl:Z+Y<r
 ·rw[Nat.mod_eq_of_lt hl] at h
  left;omega
 ·rw[Nat.mod_eq_sub_mod (by omega),Nat.mod_eq_of_lt (by omega)] at h
  right;omega

theorem minus_fnd (x y:Fr):FnD Try.prog 32 [.v (.a [.ob (.s x)]),.v (.a [.ob (.s y)])] (.v (.a [.ob (.s (x-y))])) []:=by
 have r0:=minusS0 x y
 have r1:=minusS1 x y
 have hX:=s_lt x
 have hY:=s_lt y
 have hZ:=s_lt (x-y)
 have hsub:=s_sub_n x y
 obtain ⟨ex,x0,x0',x1,x1',x2,x2',x3,x3'⟩:=limbsOf4 (Ob.s x).n (Nat.lt_trans (s_lt x) (by decide))
 obtain ⟨ey,y0,y0',y1,y1',y2,y2',y3,y3'⟩:=limbsOf4 (Ob.s y).n (Nat.lt_trans (s_lt y) (by decide))
 generalize limb (Ob.s x).n 0=a0 at *
 generalize limb (Ob.s x).n 1=a1 at *
 generalize limb (Ob.s x).n 2=a2 at *
 generalize limb (Ob.s x).n 3=a3 at *
 generalize limb (Ob.s y).n 0=b0 at *
 generalize limb (Ob.s y).n 1=b1 at *
 generalize limb (Ob.s y).n 2=b2 at *
 generalize limb (Ob.s y).n 3=b3 at *
 obtain ⟨e0,p0,p0',c0,c0'⟩:=sub_step (c:=0) x0 x0' y0 y0' (by decide) (by decide)
 obtain ⟨e1,p1,p1',c1,c1'⟩:=sub_step x1 x1' y1 y1' c0 c0'
 obtain ⟨e2,p2,p2',c2,c2'⟩:=sub_step x2 x2' y2 y2' c1 c1'
 obtain ⟨e3,p3,p3',c3,c3'⟩:=sub_step x3 x3' y3 y3' c2 c2'
 generalize hq0:exOut 1 a0 b0 0=q0 at *
 generalize hq1:exOut 1 a1 b1 q0.2=q1 at *
 generalize hq2:exOut 1 a2 b2 q1.2=q2 at *
 generalize hq3:exOut 1 a3 b3 q2.2=q3 at *
 clear hq0 hq1 hq2 hq3
 have hcase:=sub_cases hX hY hZ hsub
 have hdiff:num4 q0.1 q1.1 q2.1 q3.1-115792089237316195423570985008687907853269984665640564039457584007913129639936*q3.2=((Ob.s x).n:Int)-((Ob.s y).n:Int):=by
  rw[ex,ey]
  clear hsub hcase hX hY hZ ex ey
  unfold num4
  omega
 by_cases hz:q3.2=0
 ·refine (fn_sound envF_ok Try.func32 r0 ?_).conv (fun _ _ h=>h) fun z v hd=>ints_ob rfl (limbsAre4 p0 p0' p1 p1' p2 p2' p3 p3' ?_) hd
  ·simp only[AllP,and_true,Ob.k,beq_iff_eq]
   clear hsub hX hY hZ ex ey r0 r1 hcase hdiff
   and_intros<;>first | assumption | decide | omega
  ·rcases hcase with ⟨h1,h2⟩ | ⟨h1,h2⟩
   ·rw[h2,←hdiff,hz];unfold num4;omega
   ·rw[hz] at hdiff;exfalso;unfold num4 at hdiff;clear ex ey hsub h2 e0 e1 e2 e3;omega
 ·obtain ⟨f0,s0,s0',d0,d0'⟩:=add_step (y:=18446744069414584321) (c:=0) p0 p0' (by decide) (by decide) (by decide) (by decide)
  obtain ⟨f1,s1,s1',d1,d1'⟩:=add_step (y:=6034159408538082302) p1 p1' (by decide) (by decide) d0 d0'
  obtain ⟨f2,s2,s2',d2,d2'⟩:=add_step (y:=3691218898639771653) p2 p2' (by decide) (by decide) d1 d1'
  obtain ⟨f3,s3,s3',d3,d3'⟩:=add_step (y:=8353516859464449352) p3 p3' (by decide) (by decide) d2 d2'
  generalize hw0:exOut 0 q0.1 18446744069414584321 0=w0 at *
  generalize hw1:exOut 0 q1.1 6034159408538082302 w0.2=w1 at *
  generalize hw2:exOut 0 q2.1 3691218898639771653 w1.2=w2 at *
  generalize hw3:exOut 0 q3.1 8353516859464449352 w2.2=w3 at *
  clear hw0 hw1 hw2 hw3
  refine (fn_sound envF_ok Try.func32 r1 ?_).conv (fun _ _ h=>h) fun z v hd=>ints_ob rfl (limbsAre4 s0 s0' s1 s1' s2 s2' s3 s3' ?_) hd
  ·simp only[AllP,and_true,Ob.k,beq_eq_false_iff_ne]
   clear hsub hX hY hZ ex ey r0 r1 hcase hdiff
   and_intros<;>first | assumption | decide | omega
  ·have hz1:q3.2=1:=bit_one c3 c3' hz
   rw[hz1] at hdiff
   exact sub_fin hX hY hcase hdiff (num4_lt ⟨p0,p0'⟩ ⟨p1,p1'⟩ ⟨p2,p2'⟩ ⟨p3,p3'⟩) (num4_lt ⟨s0,s0'⟩ ⟨s1,s1'⟩ ⟨s2,s2'⟩ ⟨s3,s3'⟩) ⟨d3,d3'⟩ (sum4 f0 f1 f2 f3)

end

section

def inSpec:FnSpec
 | [.v (.a [.ob (.fr a)])]=>some ([],.v (.a [.ob (.s (inF a))]),[])
 | _=>none
def outSpec:FnSpec
 | [.v (.a [.ob (.s x)])]=>some ([],.v (.a [.ob (.fr (outF x))]),[])
 | _=>none
def timesSpec:FnSpec
 | [.v (.a [.ob (.s x)]),.v (.a [.ob (.s y)])]=>some ([],.v (.a [.ob (.s (x*y))]),[])
 | _=>none
def plusSpec:FnSpec
 | [.v (.a [.ob (.s x)]),.v (.a [.ob (.s y)])]=>some ([],.v (.a [.ob (.s (x+y))]),[])
 | _=>none
def minusSpec:FnSpec
 | [.v (.a [.ob (.s x)]),.v (.a [.ob (.s y)])]=>some ([],.v (.a [.ob (.s (x-y))]),[])
 | _=>none

def envG1:Env:=envF.set (addT envF.fn 29 inSpec)
theorem envG1_ok:EnvOk Try.prog envG1:=env_add envF_ok 29 inSpec (enters_of Try.func29 rfl rfl) fun args o r es h _=>by
 unfold inSpec at h
 split at h
 ·cases h;exact inS_fnd _
 ·cases h
def envG2:Env:=envG1.set (addT envG1.fn 76 outSpec)
theorem envG2_ok:EnvOk Try.prog envG2:=env_add envG1_ok 76 outSpec (enters_of Try.func76 rfl rfl) fun args o r es h _=>by
 unfold outSpec at h
 split at h
 ·cases h;exact outS_fnd _
 ·cases h
def envG3:Env:=envG2.set (addT envG2.fn 30 timesSpec)
theorem envG3_ok:EnvOk Try.prog envG3:=env_add envG2_ok 30 timesSpec (enters_of Try.func30 rfl rfl) fun args o r es h _=>by
 unfold timesSpec at h
 split at h
 ·cases h;exact times_fnd _ _
 ·cases h
def envG4:Env:=envG3.set (addT envG3.fn 31 plusSpec)
theorem envG4_ok:EnvOk Try.prog envG4:=env_add envG3_ok 31 plusSpec (enters_of Try.func31 rfl rfl) fun args o r es h _=>by
 unfold plusSpec at h
 split at h
 ·cases h;exact plus_fnd _ _
 ·cases h
def envG:Env:=envG4.set (addT envG4.fn 32 minusSpec)
theorem envG_ok:EnvOk Try.prog envG:=env_add envG4_ok 32 minusSpec (enters_of Try.func32 rfl rfl) fun args o r es h _=>by
 unfold minusSpec at h
 split at h
 ·cases h;exact minus_fnd _ _
 ·cases h

--@env envG envG_ok
theorem smallR (n:Int):fnRes envG Try.f77 3000 [.v (.c (.int .u64 n))] [] [] []=(some ([(0≤n),(n<(18446744073709551616:Int)),(0≤(0:Int)),(0<(18446744073709551616:Int)),(0≤(0:Int)),(0<(18446744073709551616:Int)),(0≤(0:Int)),(0<(18446744073709551616:Int))],((.v (.a [(.ob (.s (inF (Fin.ofNat B4 ((n).toNat+0)))))])),[]))):=by kernel_rfl
theorem negR0 (x:Fr):fnRes envG Try.f78 3000 [.v (.a [.ob (.s x)])] [] [] []=(some ([],((.v (.a [(.ob (.s ((0:Fr)-x)))])),[]))):=by kernel_rfl
theorem zeroR (x:Fr):fnRes envG Try.f33 3000 [.v (.a [.ob (.s x)])] [] [] []=(some ([],((.ci (.bool (ite (true=true) (decide (x=(0:Fr))) (Bool.not (decide (x=(0:Fr))))))),[]))):=by kernel_rfl
end

section

def smallSpec:FnSpec
 | [.v (.c (.int .u64 n))]=>some ([0≤n,n<18446744073709551616],.v (.a [.ob (.s (Fin.ofNat rN n.toNat))]),[])
 | _=>none
def negSpec:FnSpec
 | [.v (.a [.ob (.s x)])]=>some ([],.v (.a [.ob (.s (0-x))]),[])
 | _=>none
def zeroSpec:FnSpec
 | [.v (.a [.ob (.s x)])]=>some ([],.v (.c (.bool (decide (x=0)))),[])
 | _=>none
theorem inF_ofNat {n:Nat} (h:n<B4):inF (Fin.ofNat B4 n)=Fin.ofNat rN n:=by
 apply Fin.ext
 show (n % B4) % rN=n % rN
 rw[Nat.mod_eq_of_lt h]

def envH1:Env:=envG.set (addT envG.fn 77 smallSpec)
theorem envH1_ok:EnvOk Try.prog envH1:=env_add envG_ok 77 smallSpec (enters_of Try.func77 rfl rfl) fun args o r es h ho=>by
 unfold smallSpec at h
 split at h
 ·rename_i n
  cases h
  obtain ⟨h1,h2,_⟩:=ho
  refine (fn_sound envG_ok Try.func77 (smallR n) ⟨h1,h2,by decide,by decide,by decide,by decide,by decide,by decide,trivial⟩).conv (fun _ _ h=>h) fun y v hd=>?_
  rw[Nat.add_zero,inF_ofNat (by unfold B4;omega)] at hd
  exact hd
 ·cases h
def envH2:Env:=envH1.set (addT envH1.fn 78 negSpec)
theorem envH2_ok:EnvOk Try.prog envH2:=env_add envH1_ok 78 negSpec (enters_of Try.func78 rfl rfl) fun args o r es h _=>by
 unfold negSpec at h
 split at h
 ·cases h;exact fn_sound envG_ok Try.func78 (negR0 _) trivial
 ·cases h
def envH3:Env:=envH2.set (addT envH2.fn 33 zeroSpec)
theorem envH3_ok:EnvOk Try.prog envH3:=env_add envH2_ok 33 zeroSpec (enters_of Try.func33 rfl rfl) fun args o r es h _=>by
 unfold zeroSpec at h
 split at h
 ·cases h
  refine (fn_sound envG_ok Try.func33 (zeroR _) trivial).conv (fun _ _ h=>h) fun y v hd=>?_
  rw[if_pos rfl] at hd
  exact hd
 ·cases h
def envH:Env:=envH3
theorem envH_ok:EnvOk Try.prog envH:=envH3_ok
end

section

--@env envH envH_ok
theorem lsA (a b:U4):fnRes envH Try.f41 3000 [.v (.a [.ob (.fr a)]),.v (.a [.ob (.fr b)])] [true,true] [] []=(some ([((decide ((3:Int) ≥ (0:Int)))=true),(0≤(3:Int)),((3:Int)<(4:Int)),(3<(Ob.k (.fr a))),(0≤(3:Int)),((3:Int)<(4:Int)),(3<(Ob.k (.fr b))),(((limb (Ob.n (.fr a)) 3) != (limb (Ob.n (.fr b)) 3))=true),(0≤(3:Int)),((3:Int)<(4:Int)),(3<(Ob.k (.fr a))),(0≤(3:Int)),((3:Int)<(4:Int)),(3<(Ob.k (.fr b)))],((.ci (.bool (decide ((limb (Ob.n (.fr a)) 3)<(limb (Ob.n (.fr b)) 3))))),[]))):=by kernel_rfl
theorem lsB (a b:U4):fnRes envH Try.f41 3000 [.v (.a [.ob (.fr a)]),.v (.a [.ob (.fr b)])] [true,false,true,true] [] []=(some ([((decide ((3:Int) ≥ (0:Int)))=true),(0≤(3:Int)),((3:Int)<(4:Int)),(3<(Ob.k (.fr a))),(0≤(3:Int)),((3:Int)<(4:Int)),(3<(Ob.k (.fr b))),(((limb (Ob.n (.fr a)) 3) != (limb (Ob.n (.fr b)) 3))=false),((decide ((2:Int) ≥ (0:Int)))=true),(0≤(2:Int)),((2:Int)<(4:Int)),(2<(Ob.k (.fr a))),(0≤(2:Int)),((2:Int)<(4:Int)),(2<(Ob.k (.fr b))),(((limb (Ob.n (.fr a)) 2) != (limb (Ob.n (.fr b)) 2))=true),(0≤(2:Int)),((2:Int)<(4:Int)),(2<(Ob.k (.fr a))),(0≤(2:Int)),((2:Int)<(4:Int)),(2<(Ob.k (.fr b)))],((.ci (.bool (decide ((limb (Ob.n (.fr a)) 2)<(limb (Ob.n (.fr b)) 2))))),[]))):=by kernel_rfl
theorem lsC (a b:U4):fnRes envH Try.f41 3000 [.v (.a [.ob (.fr a)]),.v (.a [.ob (.fr b)])] [true,false,true,false,true,true] [] []=(some ([((decide ((3:Int) ≥ (0:Int)))=true),(0≤(3:Int)),((3:Int)<(4:Int)),(3<(Ob.k (.fr a))),(0≤(3:Int)),((3:Int)<(4:Int)),(3<(Ob.k (.fr b))),(((limb (Ob.n (.fr a)) 3) != (limb (Ob.n (.fr b)) 3))=false),((decide ((2:Int) ≥ (0:Int)))=true),(0≤(2:Int)),((2:Int)<(4:Int)),(2<(Ob.k (.fr a))),(0≤(2:Int)),((2:Int)<(4:Int)),(2<(Ob.k (.fr b))),(((limb (Ob.n (.fr a)) 2) != (limb (Ob.n (.fr b)) 2))=false),((decide ((1:Int) ≥ (0:Int)))=true),(0≤(1:Int)),((1:Int)<(4:Int)),(1<(Ob.k (.fr a))),(0≤(1:Int)),((1:Int)<(4:Int)),(1<(Ob.k (.fr b))),(((limb (Ob.n (.fr a)) 1) != (limb (Ob.n (.fr b)) 1))=true),(0≤(1:Int)),((1:Int)<(4:Int)),(1<(Ob.k (.fr a))),(0≤(1:Int)),((1:Int)<(4:Int)),(1<(Ob.k (.fr b)))],((.ci (.bool (decide ((limb (Ob.n (.fr a)) 1)<(limb (Ob.n (.fr b)) 1))))),[]))):=by kernel_rfl
theorem lsD (a b:U4):fnRes envH Try.f41 3000 [.v (.a [.ob (.fr a)]),.v (.a [.ob (.fr b)])] [true,false,true,false,true,false,true,true] [] []=(some ([((decide ((3:Int) ≥ (0:Int)))=true),(0≤(3:Int)),((3:Int)<(4:Int)),(3<(Ob.k (.fr a))),(0≤(3:Int)),((3:Int)<(4:Int)),(3<(Ob.k (.fr b))),(((limb (Ob.n (.fr a)) 3) != (limb (Ob.n (.fr b)) 3))=false),((decide ((2:Int) ≥ (0:Int)))=true),(0≤(2:Int)),((2:Int)<(4:Int)),(2<(Ob.k (.fr a))),(0≤(2:Int)),((2:Int)<(4:Int)),(2<(Ob.k (.fr b))),(((limb (Ob.n (.fr a)) 2) != (limb (Ob.n (.fr b)) 2))=false),((decide ((1:Int) ≥ (0:Int)))=true),(0≤(1:Int)),((1:Int)<(4:Int)),(1<(Ob.k (.fr a))),(0≤(1:Int)),((1:Int)<(4:Int)),(1<(Ob.k (.fr b))),(((limb (Ob.n (.fr a)) 1) != (limb (Ob.n (.fr b)) 1))=false),((decide ((0:Int) ≥ (0:Int)))=true),(0≤(0:Int)),(0<(4:Int)),(0<(Ob.k (.fr a))),(0≤(0:Int)),(0<(4:Int)),(0<(Ob.k (.fr b))),(((limb (Ob.n (.fr a)) 0) != (limb (Ob.n (.fr b)) 0))=true),(0≤(0:Int)),(0<(4:Int)),(0<(Ob.k (.fr a))),(0≤(0:Int)),(0<(4:Int)),(0<(Ob.k (.fr b)))],((.ci (.bool (decide ((limb (Ob.n (.fr a)) 0)<(limb (Ob.n (.fr b)) 0))))),[]))):=by kernel_rfl
theorem lsE (a b:U4):fnRes envH Try.f41 3000 [.v (.a [.ob (.fr a)]),.v (.a [.ob (.fr b)])] [true,false,true,false,true,false,true,false,false] [] []=(some ([((decide ((3:Int) ≥ (0:Int)))=true),(0≤(3:Int)),((3:Int)<(4:Int)),(3<(Ob.k (.fr a))),(0≤(3:Int)),((3:Int)<(4:Int)),(3<(Ob.k (.fr b))),(((limb (Ob.n (.fr a)) 3) != (limb (Ob.n (.fr b)) 3))=false),((decide ((2:Int) ≥ (0:Int)))=true),(0≤(2:Int)),((2:Int)<(4:Int)),(2<(Ob.k (.fr a))),(0≤(2:Int)),((2:Int)<(4:Int)),(2<(Ob.k (.fr b))),(((limb (Ob.n (.fr a)) 2) != (limb (Ob.n (.fr b)) 2))=false),((decide ((1:Int) ≥ (0:Int)))=true),(0≤(1:Int)),((1:Int)<(4:Int)),(1<(Ob.k (.fr a))),(0≤(1:Int)),((1:Int)<(4:Int)),(1<(Ob.k (.fr b))),(((limb (Ob.n (.fr a)) 1) != (limb (Ob.n (.fr b)) 1))=false),((decide ((0:Int) ≥ (0:Int)))=true),(0≤(0:Int)),(0<(4:Int)),(0<(Ob.k (.fr a))),(0≤(0:Int)),(0<(4:Int)),(0<(Ob.k (.fr b))),(((limb (Ob.n (.fr a)) 0) != (limb (Ob.n (.fr b)) 0))=false),((decide ((-1) ≥ (0:Int)))=false)],((.ci (.lit false)),[]))):=by kernel_rfl
theorem refR  : fnRes envH Try.f42 3000 [] [] [] []=(some ([(0≤(18446744069414584321:Int)),((18446744069414584321:Int)<(18446744073709551616:Int)),(0≤(6034159408538082302:Int)),((6034159408538082302:Int)<(18446744073709551616:Int)),(0≤(3691218898639771653:Int)),((3691218898639771653:Int)<(18446744073709551616:Int)),(0≤(8353516859464449352:Int)),((8353516859464449352:Int)<(18446744073709551616:Int))],((.v (.a [(.ob (.fr (Fin.ofNat B4 52435875175126190479447740508185965837690552500527637822603658699938581184513)))])),[]))):=by kernel_rfl
end

section

theorem lt_limbs {A B:Nat} {a0 a1 a2 a3 b0 b1 b2 b3:Int} (ha:(A:Int)=num4 a0 a1 a2 a3) (hb:(B:Int)=num4 b0 b1 b2 b3) (h0:Lim a0) (h1:Lim a1) (h2:Lim a2) (_h3:Lim a3) (g0:Lim b0) (g1:Lim b1) (g2:Lim b2) (_g3:Lim b3) :
  decide (A<B)=(if a3=b3 then (if a2=b2 then (if a1=b1 then decide (a0<b0) else decide (a1<b1)) else decide (a2<b2)) else decide (a3<b3)):=by
 obtain ⟨_,_⟩:=h0
 obtain ⟨_,_⟩:=h1
 obtain ⟨_,_⟩:=h2
 obtain ⟨_,_⟩:=g0
 obtain ⟨_,_⟩:=g1
 obtain ⟨_,_⟩:=g2
 unfold num4 at ha hb
 split
 ·split
  ·split<;>(congr 1;apply propext;omega)
  ·congr 1;apply propext;omega
 ·congr 1;apply propext;omega

theorem fr_lims (a:U4):Lim (limb (Ob.fr a).n 0)∧Lim (limb (Ob.fr a).n 1)∧Lim (limb (Ob.fr a).n 2)∧Lim (limb (Ob.fr a).n 3)∧((a.val:Nat):Int)=num4 (limb (Ob.fr a).n 0) (limb (Ob.fr a).n 1) (limb (Ob.fr a).n 2) (limb (Ob.fr a).n 3):=by
 obtain ⟨e,a0,a1,b0,b1,c0,c1,d0,d1⟩:=limbsOf4 a.val a.isLt
 exact ⟨⟨a0,a1⟩,⟨b0,b1⟩,⟨c0,c1⟩,⟨d0,d1⟩,e⟩

theorem less_fnd (a b:U4):FnD Try.prog 41 [.v (.a [.ob (.fr a)]),.v (.a [.ob (.fr b)])] (.v (.c (.bool (decide (a.val<b.val))))) []:=by
 obtain ⟨h0,h1,h2,h3,ha⟩:=fr_lims a
 obtain ⟨g0,g1,g2,g3,hb⟩:=fr_lims b
 rw[lt_limbs ha hb h0 h1 h2 h3 g0 g1 g2 g3]
 have rA:=lsA a b
 have rB:=lsB a b
 have rC:=lsC a b
 have rD:=lsD a b
 have rE:=lsE a b
 clear ha hb h0 h1 h2 h3 g0 g1 g2 g3
 generalize limb (Ob.fr a).n 0=a0 at *
 generalize limb (Ob.fr a).n 1=a1 at *
 generalize limb (Ob.fr a).n 2=a2 at *
 generalize limb (Ob.fr a).n 3=a3 at *
 generalize limb (Ob.fr b).n 0=b0 at *
 generalize limb (Ob.fr b).n 1=b1 at *
 generalize limb (Ob.fr b).n 2=b2 at *
 generalize limb (Ob.fr b).n 3=b3 at *
 by_cases e3:a3=b3
 ·rw[if_pos e3]
  by_cases e2:a2=b2
  ·rw[if_pos e2]
   by_cases e1:a1=b1
   ·rw[if_pos e1]
    by_cases e0:a0=b0
    ·refine (fn_sound envH_ok Try.func41 rE ?_).conv (fun _ _ h=>h) fun y v hd=>lit_bool (by simp [e0]) hd
     subst e0 e1 e2 e3
     simp [AllP,Ob.k]
    ·refine fn_sound envH_ok Try.func41 rD ?_
     subst e1 e2 e3
     simp [AllP,Ob.k,e0]
   ·rw[if_neg e1]
    refine fn_sound envH_ok Try.func41 rC ?_
    subst e2 e3
    simp [AllP,Ob.k,e1]
  ·rw[if_neg e2]
   refine fn_sound envH_ok Try.func41 rB ?_
   subst e3
   simp [AllP,Ob.k,e2]
 ·rw[if_neg e3]
  refine fn_sound envH_ok Try.func41 rA ?_
  simp [AllP,Ob.k,e3]

end

section

def rm0 (a b:U4):Cfg:=⟨[.code (bodyOf Try.f43)],.normal,initSt Try.f43.ntmps [.v (.a [.ob (.fr a)]),.v (.a [.ob (.fr b)])]⟩
--@env envH envH_ok
--@unroll true
def rmA0_k:List KI:=(run envH true 42 ((fun (a b:U4)=>(rm0 a b:Cfg)) default default) [true,true,true]).cfg.k
theorem rmA0 (a b:U4) {w0:World} {F0:Nat→Prop} {K:Kp} {ac:List Act} {Q:Exit→Act→World→Prop} {cX:Ctx} {aX:Act} (ho:AllP [((decide (0<(4:Int)))=true),(0≤(0:Int)),(0<(4:Int)),(0<(Ob.k (.fr a))),(0≤(0:Int)),(0<(4:Int)),(0<(Ob.k (.fr b))),(0≤(0:Int)),(0<(4:Int)),(0≤(0:Int)),(0<(4:Int)),(0<(Ob.k (.fr a))),(0≤(0:Int)),(0<(4:Int)),(0<(Ob.k (.fr b))),((decide ((limb (Ob.n (.fr a)) 0)<(limb (Ob.n (.fr b)) 0)))=true)]) (hs:Sim w0 F0 K ac (((rm0 a b:Cfg)).σ) cX aX) (hK:∀ac cY aY,Sim w0 F0 K ac (mkSt 45 [2,3,4,5,6,7] [.pt 16 0,.pt 32 0,.pt 48 0,.pt 80 0,.iu (1:Int),.ii (0:Int)] [16,32,48,80] [(eF [.ob (.fr a)]),(eF [.ob (.fr b)]),(eF [(.ob (.fr (0:U4)))]),(eF [(.int .u64 (wrap .u64 ((wrap .u64 ((limb (Ob.n (.fr a)) 0)-(limb (Ob.n (.fr b)) 0)))-(0:Int)))),(.int .u64 (0:Int)),(.int .u64 (0:Int)),(.int .u64 (0:Int))])] 704 [] []) cY aY→Wq Try.prog Q (rmA0_k) ac Exit.normal aY cY.w):Wq Try.prog Q (((rm0 a b:Cfg)).k) ac ((rm0 a b:Cfg)).x aX cX.w:=
 run_at (unroll:=true) (n:=42) (path:=[true,true,true]) (o:=⟨_,_,_,_,_,_,_⟩) envH_ok (by kernel_rfl) (by kernel_rfl) ho hs hK
theorem rmB0 (a b:U4) {w0:World} {F0:Nat→Prop} {K:Kp} {ac:List Act} {Q:Exit→Act→World→Prop} {cX:Ctx} {aX:Act} (ho:AllP [((decide (0<(4:Int)))=true),(0≤(0:Int)),(0<(4:Int)),(0<(Ob.k (.fr a))),(0≤(0:Int)),(0<(4:Int)),(0<(Ob.k (.fr b))),(0≤(0:Int)),(0<(4:Int)),(0≤(0:Int)),(0<(4:Int)),(0<(Ob.k (.fr a))),(0≤(0:Int)),(0<(4:Int)),(0<(Ob.k (.fr b))),((decide ((limb (Ob.n (.fr a)) 0)<(limb (Ob.n (.fr b)) 0)))=false),(0≤(0:Int)),(0<(4:Int)),(0<(Ob.k (.fr a))),(0≤(0:Int)),(0<(4:Int)),(0<(Ob.k (.fr b))),(((limb (Ob.n (.fr a)) 0) == (limb (Ob.n (.fr b)) 0))=true),(((0:Int)==1)=true)]) (hs:Sim w0 F0 K ac (((rm0 a b:Cfg)).σ) cX aX) (hK:∀ac cY aY,Sim w0 F0 K ac (mkSt 45 [2,3,4,5,6,7] [.pt 16 0,.pt 32 0,.pt 48 0,.pt 80 0,.iu (1:Int),.ii (0:Int)] [16,32,48,80] [(eF [.ob (.fr a)]),(eF [.ob (.fr b)]),(eF [(.ob (.fr (0:U4)))]),(eF [(.int .u64 (wrap .u64 ((wrap .u64 ((limb (Ob.n (.fr a)) 0)-(limb (Ob.n (.fr b)) 0)))-(0:Int)))),(.int .u64 (0:Int)),(.int .u64 (0:Int)),(.int .u64 (0:Int))])] 704 [] []) cY aY→Wq Try.prog Q (rmA0_k) ac Exit.normal aY cY.w):Wq Try.prog Q (((rm0 a b:Cfg)).k) ac ((rm0 a b:Cfg)).x aX cX.w:=
 run_at (unroll:=true) (n:=42) (path:=[true,true,false,true]) (o:=⟨_,_,_,_,_,_,_⟩) envH_ok (by kernel_rfl) (by kernel_rfl) ho hs hK
theorem rmC0 (a b:U4) {w0:World} {F0:Nat→Prop} {K:Kp} {ac:List Act} {Q:Exit→Act→World→Prop} {cX:Ctx} {aX:Act} (ho:AllP [((decide (0<(4:Int)))=true),(0≤(0:Int)),(0<(4:Int)),(0<(Ob.k (.fr a))),(0≤(0:Int)),(0<(4:Int)),(0<(Ob.k (.fr b))),(0≤(0:Int)),(0<(4:Int)),(0≤(0:Int)),(0<(4:Int)),(0<(Ob.k (.fr a))),(0≤(0:Int)),(0<(4:Int)),(0<(Ob.k (.fr b))),((decide ((limb (Ob.n (.fr a)) 0)<(limb (Ob.n (.fr b)) 0)))=false),(0≤(0:Int)),(0<(4:Int)),(0<(Ob.k (.fr a))),(0≤(0:Int)),(0<(4:Int)),(0<(Ob.k (.fr b))),(((limb (Ob.n (.fr a)) 0) == (limb (Ob.n (.fr b)) 0))=true),(((0:Int)==1)=false)]) (hs:Sim w0 F0 K ac (((rm0 a b:Cfg)).σ) cX aX) (hK:∀ac cY aY,Sim w0 F0 K ac (mkSt 45 [2,3,4,5,6,7] [.pt 16 0,.pt 32 0,.pt 48 0,.pt 80 0,.iu (0:Int),.ii (0:Int)] [16,32,48,80] [(eF [.ob (.fr a)]),(eF [.ob (.fr b)]),(eF [(.ob (.fr (0:U4)))]),(eF [(.int .u64 (wrap .u64 ((wrap .u64 ((limb (Ob.n (.fr a)) 0)-(limb (Ob.n (.fr b)) 0)))-(0:Int)))),(.int .u64 (0:Int)),(.int .u64 (0:Int)),(.int .u64 (0:Int))])] 704 [] []) cY aY→Wq Try.prog Q (rmA0_k) ac Exit.normal aY cY.w):Wq Try.prog Q (((rm0 a b:Cfg)).k) ac ((rm0 a b:Cfg)).x aX cX.w:=
 run_at (unroll:=true) (n:=42) (path:=[true,true,false,false]) (o:=⟨_,_,_,_,_,_,_⟩) envH_ok (by kernel_rfl) (by kernel_rfl) ho hs hK
theorem rmD0 (a b:U4) {w0:World} {F0:Nat→Prop} {K:Kp} {ac:List Act} {Q:Exit→Act→World→Prop} {cX:Ctx} {aX:Act} (ho:AllP [((decide (0<(4:Int)))=true),(0≤(0:Int)),(0<(4:Int)),(0<(Ob.k (.fr a))),(0≤(0:Int)),(0<(4:Int)),(0<(Ob.k (.fr b))),(0≤(0:Int)),(0<(4:Int)),(0≤(0:Int)),(0<(4:Int)),(0<(Ob.k (.fr a))),(0≤(0:Int)),(0<(4:Int)),(0<(Ob.k (.fr b))),((decide ((limb (Ob.n (.fr a)) 0)<(limb (Ob.n (.fr b)) 0)))=false),(0≤(0:Int)),(0<(4:Int)),(0<(Ob.k (.fr a))),(0≤(0:Int)),(0<(4:Int)),(0<(Ob.k (.fr b))),(((limb (Ob.n (.fr a)) 0) == (limb (Ob.n (.fr b)) 0))=false)]) (hs:Sim w0 F0 K ac (((rm0 a b:Cfg)).σ) cX aX) (hK:∀ac cY aY,Sim w0 F0 K ac (mkSt 45 [2,3,4,5,6,7] [.pt 16 0,.pt 32 0,.pt 48 0,.pt 80 0,.iu (0:Int),.ii (0:Int)] [16,32,48,80] [(eF [.ob (.fr a)]),(eF [.ob (.fr b)]),(eF [(.ob (.fr (0:U4)))]),(eF [(.int .u64 (wrap .u64 ((wrap .u64 ((limb (Ob.n (.fr a)) 0)-(limb (Ob.n (.fr b)) 0)))-(0:Int)))),(.int .u64 (0:Int)),(.int .u64 (0:Int)),(.int .u64 (0:Int))])] 704 [] []) cY aY→Wq Try.prog Q (rmA0_k) ac Exit.normal aY cY.w):Wq Try.prog Q (((rm0 a b:Cfg)).k) ac ((rm0 a b:Cfg)).x aX cX.w:=
 run_at (unroll:=true) (n:=42) (path:=[true,false,false]) (o:=⟨_,_,_,_,_,_,_⟩) envH_ok (by kernel_rfl) (by kernel_rfl) ho hs hK
def rmS1 (a b:U4) (v0 v1 v2 v3 c:Int):St:=mkSt 45 [2,3,4,5,6,7] [.pt 16 0,.pt 32 0,.pt 48 0,.pt 80 0,.v (.c (.int .u64 c)),.ii (0:Int)] [16,32,48,80] [(eF [.ob (.fr a)]),(eF [.ob (.fr b)]),(eF [(.ob (.fr (0:U4)))]),some (.fl [.int .u64 v0,.int .u64 v1,.int .u64 v2,.int .u64 v3])] 704 [] []
def rmA1_k:List KI:=(run envH true 25 ((fun (a b:U4) (v0 v1 v2 v3 c:Int)=>(⟨rmA0_k,.normal,rmS1 a b v0 v1 v2 v3 c⟩:Cfg)) default default default default default default default) [true,true,true]).cfg.k
theorem rmA1 (a b:U4) (v0 v1 v2 v3 c:Int) {w0:World} {F0:Nat→Prop} {K:Kp} {ac:List Act} {Q:Exit→Act→World→Prop} {cX:Ctx} {aX:Act} (ho:AllP [((decide ((1:Int)<(4:Int)))=true),(0≤(1:Int)),((1:Int)<(4:Int)),(1<(Ob.k (.fr a))),(0≤(1:Int)),((1:Int)<(4:Int)),(1<(Ob.k (.fr b))),(0≤(1:Int)),((1:Int)<(4:Int)),(0≤(1:Int)),((1:Int)<(4:Int)),(1<(Ob.k (.fr a))),(0≤(1:Int)),((1:Int)<(4:Int)),(1<(Ob.k (.fr b))),((decide ((limb (Ob.n (.fr a)) 1)<(limb (Ob.n (.fr b)) 1)))=true)]) (hs:Sim w0 F0 K ac (rmS1 a b v0 v1 v2 v3 c) cX aX) (hK:∀ac cY aY,Sim w0 F0 K ac (mkSt 45 [2,3,4,5,6,7] [.pt 16 0,.pt 32 0,.pt 48 0,.pt 80 0,.iu (1:Int),.ii (1:Int)] [16,32,48,80] [(eF [.ob (.fr a)]),(eF [.ob (.fr b)]),(eF [(.ob (.fr (0:U4)))]),(eF [(.int .u64 v0),(.int .u64 (wrap .u64 ((wrap .u64 ((limb (Ob.n (.fr a)) 1)-(limb (Ob.n (.fr b)) 1)))-c))),(.int .u64 v2),(.int .u64 v3)])] 1312 [] []) cY aY→Wq Try.prog Q (rmA1_k) ac Exit.normal aY cY.w):Wq Try.prog Q (rmA0_k) ac .normal aX cX.w:=
 run_at2 (unroll:=true) (n:=25) (path:=[true,true,true]) (o:=⟨_,_,_,_,_,_,_⟩) envH_ok (by kernel_rfl) (by kernel_rfl) ho hs hK
theorem rmB1 (a b:U4) (v0 v1 v2 v3 c:Int) {w0:World} {F0:Nat→Prop} {K:Kp} {ac:List Act} {Q:Exit→Act→World→Prop} {cX:Ctx} {aX:Act} (ho:AllP [((decide ((1:Int)<(4:Int)))=true),(0≤(1:Int)),((1:Int)<(4:Int)),(1<(Ob.k (.fr a))),(0≤(1:Int)),((1:Int)<(4:Int)),(1<(Ob.k (.fr b))),(0≤(1:Int)),((1:Int)<(4:Int)),(0≤(1:Int)),((1:Int)<(4:Int)),(1<(Ob.k (.fr a))),(0≤(1:Int)),((1:Int)<(4:Int)),(1<(Ob.k (.fr b))),((decide ((limb (Ob.n (.fr a)) 1)<(limb (Ob.n (.fr b)) 1)))=false),(0≤(1:Int)),((1:Int)<(4:Int)),(1<(Ob.k (.fr a))),(0≤(1:Int)),((1:Int)<(4:Int)),(1<(Ob.k (.fr b))),(((limb (Ob.n (.fr a)) 1) == (limb (Ob.n (.fr b)) 1))=true),((c == (1:Int))=true)]) (hs:Sim w0 F0 K ac (rmS1 a b v0 v1 v2 v3 c) cX aX) (hK:∀ac cY aY,Sim w0 F0 K ac (mkSt 45 [2,3,4,5,6,7] [.pt 16 0,.pt 32 0,.pt 48 0,.pt 80 0,.iu (1:Int),.ii (1:Int)] [16,32,48,80] [(eF [.ob (.fr a)]),(eF [.ob (.fr b)]),(eF [(.ob (.fr (0:U4)))]),(eF [(.int .u64 v0),(.int .u64 (wrap .u64 ((wrap .u64 ((limb (Ob.n (.fr a)) 1)-(limb (Ob.n (.fr b)) 1)))-c))),(.int .u64 v2),(.int .u64 v3)])] 1312 [] []) cY aY→Wq Try.prog Q (rmA1_k) ac Exit.normal aY cY.w):Wq Try.prog Q (rmA0_k) ac .normal aX cX.w:=
 run_at2 (unroll:=true) (n:=25) (path:=[true,true,false,true]) (o:=⟨_,_,_,_,_,_,_⟩) envH_ok (by kernel_rfl) (by kernel_rfl) ho hs hK
theorem rmC1 (a b:U4) (v0 v1 v2 v3 c:Int) {w0:World} {F0:Nat→Prop} {K:Kp} {ac:List Act} {Q:Exit→Act→World→Prop} {cX:Ctx} {aX:Act} (ho:AllP [((decide ((1:Int)<(4:Int)))=true),(0≤(1:Int)),((1:Int)<(4:Int)),(1<(Ob.k (.fr a))),(0≤(1:Int)),((1:Int)<(4:Int)),(1<(Ob.k (.fr b))),(0≤(1:Int)),((1:Int)<(4:Int)),(0≤(1:Int)),((1:Int)<(4:Int)),(1<(Ob.k (.fr a))),(0≤(1:Int)),((1:Int)<(4:Int)),(1<(Ob.k (.fr b))),((decide ((limb (Ob.n (.fr a)) 1)<(limb (Ob.n (.fr b)) 1)))=false),(0≤(1:Int)),((1:Int)<(4:Int)),(1<(Ob.k (.fr a))),(0≤(1:Int)),((1:Int)<(4:Int)),(1<(Ob.k (.fr b))),(((limb (Ob.n (.fr a)) 1) == (limb (Ob.n (.fr b)) 1))=true),((c == (1:Int))=false)]) (hs:Sim w0 F0 K ac (rmS1 a b v0 v1 v2 v3 c) cX aX) (hK:∀ac cY aY,Sim w0 F0 K ac (mkSt 45 [2,3,4,5,6,7] [.pt 16 0,.pt 32 0,.pt 48 0,.pt 80 0,.iu (0:Int),.ii (1:Int)] [16,32,48,80] [(eF [.ob (.fr a)]),(eF [.ob (.fr b)]),(eF [(.ob (.fr (0:U4)))]),(eF [(.int .u64 v0),(.int .u64 (wrap .u64 ((wrap .u64 ((limb (Ob.n (.fr a)) 1)-(limb (Ob.n (.fr b)) 1)))-c))),(.int .u64 v2),(.int .u64 v3)])] 1312 [] []) cY aY→Wq Try.prog Q (rmA1_k) ac Exit.normal aY cY.w):Wq Try.prog Q (rmA0_k) ac .normal aX cX.w:=
 run_at2 (unroll:=true) (n:=25) (path:=[true,true,false,false]) (o:=⟨_,_,_,_,_,_,_⟩) envH_ok (by kernel_rfl) (by kernel_rfl) ho hs hK
theorem rmD1 (a b:U4) (v0 v1 v2 v3 c:Int) {w0:World} {F0:Nat→Prop} {K:Kp} {ac:List Act} {Q:Exit→Act→World→Prop} {cX:Ctx} {aX:Act} (ho:AllP [((decide ((1:Int)<(4:Int)))=true),(0≤(1:Int)),((1:Int)<(4:Int)),(1<(Ob.k (.fr a))),(0≤(1:Int)),((1:Int)<(4:Int)),(1<(Ob.k (.fr b))),(0≤(1:Int)),((1:Int)<(4:Int)),(0≤(1:Int)),((1:Int)<(4:Int)),(1<(Ob.k (.fr a))),(0≤(1:Int)),((1:Int)<(4:Int)),(1<(Ob.k (.fr b))),((decide ((limb (Ob.n (.fr a)) 1)<(limb (Ob.n (.fr b)) 1)))=false),(0≤(1:Int)),((1:Int)<(4:Int)),(1<(Ob.k (.fr a))),(0≤(1:Int)),((1:Int)<(4:Int)),(1<(Ob.k (.fr b))),(((limb (Ob.n (.fr a)) 1) == (limb (Ob.n (.fr b)) 1))=false)]) (hs:Sim w0 F0 K ac (rmS1 a b v0 v1 v2 v3 c) cX aX) (hK:∀ac cY aY,Sim w0 F0 K ac (mkSt 45 [2,3,4,5,6,7] [.pt 16 0,.pt 32 0,.pt 48 0,.pt 80 0,.iu (0:Int),.ii (1:Int)] [16,32,48,80] [(eF [.ob (.fr a)]),(eF [.ob (.fr b)]),(eF [(.ob (.fr (0:U4)))]),(eF [(.int .u64 v0),(.int .u64 (wrap .u64 ((wrap .u64 ((limb (Ob.n (.fr a)) 1)-(limb (Ob.n (.fr b)) 1)))-c))),(.int .u64 v2),(.int .u64 v3)])] 1312 [] []) cY aY→Wq Try.prog Q (rmA1_k) ac Exit.normal aY cY.w):Wq Try.prog Q (rmA0_k) ac .normal aX cX.w:=
 run_at2 (unroll:=true) (n:=25) (path:=[true,false,false]) (o:=⟨_,_,_,_,_,_,_⟩) envH_ok (by kernel_rfl) (by kernel_rfl) ho hs hK
def rmS2 (a b:U4) (v0 v1 v2 v3 c:Int):St:=mkSt 45 [2,3,4,5,6,7] [.pt 16 0,.pt 32 0,.pt 48 0,.pt 80 0,.v (.c (.int .u64 c)),.ii (1:Int)] [16,32,48,80] [(eF [.ob (.fr a)]),(eF [.ob (.fr b)]),(eF [(.ob (.fr (0:U4)))]),some (.fl [.int .u64 v0,.int .u64 v1,.int .u64 v2,.int .u64 v3])] 1312 [] []
def rmA2_k:List KI:=(run envH true 25 ((fun (a b:U4) (v0 v1 v2 v3 c:Int)=>(⟨rmA1_k,.normal,rmS2 a b v0 v1 v2 v3 c⟩:Cfg)) default default default default default default default) [true,true,true]).cfg.k
theorem rmA2 (a b:U4) (v0 v1 v2 v3 c:Int) {w0:World} {F0:Nat→Prop} {K:Kp} {ac:List Act} {Q:Exit→Act→World→Prop} {cX:Ctx} {aX:Act} (ho:AllP [((decide ((2:Int)<(4:Int)))=true),(0≤(2:Int)),((2:Int)<(4:Int)),(2<(Ob.k (.fr a))),(0≤(2:Int)),((2:Int)<(4:Int)),(2<(Ob.k (.fr b))),(0≤(2:Int)),((2:Int)<(4:Int)),(0≤(2:Int)),((2:Int)<(4:Int)),(2<(Ob.k (.fr a))),(0≤(2:Int)),((2:Int)<(4:Int)),(2<(Ob.k (.fr b))),((decide ((limb (Ob.n (.fr a)) 2)<(limb (Ob.n (.fr b)) 2)))=true)]) (hs:Sim w0 F0 K ac (rmS2 a b v0 v1 v2 v3 c) cX aX) (hK:∀ac cY aY,Sim w0 F0 K ac (mkSt 45 [2,3,4,5,6,7] [.pt 16 0,.pt 32 0,.pt 48 0,.pt 80 0,.iu (1:Int),.ii (2:Int)] [16,32,48,80] [(eF [.ob (.fr a)]),(eF [.ob (.fr b)]),(eF [(.ob (.fr (0:U4)))]),(eF [(.int .u64 v0),(.int .u64 v1),(.int .u64 (wrap .u64 ((wrap .u64 ((limb (Ob.n (.fr a)) 2)-(limb (Ob.n (.fr b)) 2)))-c))),(.int .u64 v3)])] 1920 [] []) cY aY→Wq Try.prog Q (rmA2_k) ac Exit.normal aY cY.w):Wq Try.prog Q (rmA1_k) ac .normal aX cX.w:=
 run_at2 (unroll:=true) (n:=25) (path:=[true,true,true]) (o:=⟨_,_,_,_,_,_,_⟩) envH_ok (by kernel_rfl) (by kernel_rfl) ho hs hK
theorem rmB2 (a b:U4) (v0 v1 v2 v3 c:Int) {w0:World} {F0:Nat→Prop} {K:Kp} {ac:List Act} {Q:Exit→Act→World→Prop} {cX:Ctx} {aX:Act} (ho:AllP [((decide ((2:Int)<(4:Int)))=true),(0≤(2:Int)),((2:Int)<(4:Int)),(2<(Ob.k (.fr a))),(0≤(2:Int)),((2:Int)<(4:Int)),(2<(Ob.k (.fr b))),(0≤(2:Int)),((2:Int)<(4:Int)),(0≤(2:Int)),((2:Int)<(4:Int)),(2<(Ob.k (.fr a))),(0≤(2:Int)),((2:Int)<(4:Int)),(2<(Ob.k (.fr b))),((decide ((limb (Ob.n (.fr a)) 2)<(limb (Ob.n (.fr b)) 2)))=false),(0≤(2:Int)),((2:Int)<(4:Int)),(2<(Ob.k (.fr a))),(0≤(2:Int)),((2:Int)<(4:Int)),(2<(Ob.k (.fr b))),(((limb (Ob.n (.fr a)) 2) == (limb (Ob.n (.fr b)) 2))=true),((c == (1:Int))=true)]) (hs:Sim w0 F0 K ac (rmS2 a b v0 v1 v2 v3 c) cX aX) (hK:∀ac cY aY,Sim w0 F0 K ac (mkSt 45 [2,3,4,5,6,7] [.pt 16 0,.pt 32 0,.pt 48 0,.pt 80 0,.iu (1:Int),.ii (2:Int)] [16,32,48,80] [(eF [.ob (.fr a)]),(eF [.ob (.fr b)]),(eF [(.ob (.fr (0:U4)))]),(eF [(.int .u64 v0),(.int .u64 v1),(.int .u64 (wrap .u64 ((wrap .u64 ((limb (Ob.n (.fr a)) 2)-(limb (Ob.n (.fr b)) 2)))-c))),(.int .u64 v3)])] 1920 [] []) cY aY→Wq Try.prog Q (rmA2_k) ac Exit.normal aY cY.w):Wq Try.prog Q (rmA1_k) ac .normal aX cX.w:=
 run_at2 (unroll:=true) (n:=25) (path:=[true,true,false,true]) (o:=⟨_,_,_,_,_,_,_⟩) envH_ok (by kernel_rfl) (by kernel_rfl) ho hs hK
theorem rmC2 (a b:U4) (v0 v1 v2 v3 c:Int) {w0:World} {F0:Nat→Prop} {K:Kp} {ac:List Act} {Q:Exit→Act→World→Prop} {cX:Ctx} {aX:Act} (ho:AllP [((decide ((2:Int)<(4:Int)))=true),(0≤(2:Int)),((2:Int)<(4:Int)),(2<(Ob.k (.fr a))),(0≤(2:Int)),((2:Int)<(4:Int)),(2<(Ob.k (.fr b))),(0≤(2:Int)),((2:Int)<(4:Int)),(0≤(2:Int)),((2:Int)<(4:Int)),(2<(Ob.k (.fr a))),(0≤(2:Int)),((2:Int)<(4:Int)),(2<(Ob.k (.fr b))),((decide ((limb (Ob.n (.fr a)) 2)<(limb (Ob.n (.fr b)) 2)))=false),(0≤(2:Int)),((2:Int)<(4:Int)),(2<(Ob.k (.fr a))),(0≤(2:Int)),((2:Int)<(4:Int)),(2<(Ob.k (.fr b))),(((limb (Ob.n (.fr a)) 2) == (limb (Ob.n (.fr b)) 2))=true),((c == (1:Int))=false)]) (hs:Sim w0 F0 K ac (rmS2 a b v0 v1 v2 v3 c) cX aX) (hK:∀ac cY aY,Sim w0 F0 K ac (mkSt 45 [2,3,4,5,6,7] [.pt 16 0,.pt 32 0,.pt 48 0,.pt 80 0,.iu (0:Int),.ii (2:Int)] [16,32,48,80] [(eF [.ob (.fr a)]),(eF [.ob (.fr b)]),(eF [(.ob (.fr (0:U4)))]),(eF [(.int .u64 v0),(.int .u64 v1),(.int .u64 (wrap .u64 ((wrap .u64 ((limb (Ob.n (.fr a)) 2)-(limb (Ob.n (.fr b)) 2)))-c))),(.int .u64 v3)])] 1920 [] []) cY aY→Wq Try.prog Q (rmA2_k) ac Exit.normal aY cY.w):Wq Try.prog Q (rmA1_k) ac .normal aX cX.w:=
 run_at2 (unroll:=true) (n:=25) (path:=[true,true,false,false]) (o:=⟨_,_,_,_,_,_,_⟩) envH_ok (by kernel_rfl) (by kernel_rfl) ho hs hK
theorem rmD2 (a b:U4) (v0 v1 v2 v3 c:Int) {w0:World} {F0:Nat→Prop} {K:Kp} {ac:List Act} {Q:Exit→Act→World→Prop} {cX:Ctx} {aX:Act} (ho:AllP [((decide ((2:Int)<(4:Int)))=true),(0≤(2:Int)),((2:Int)<(4:Int)),(2<(Ob.k (.fr a))),(0≤(2:Int)),((2:Int)<(4:Int)),(2<(Ob.k (.fr b))),(0≤(2:Int)),((2:Int)<(4:Int)),(0≤(2:Int)),((2:Int)<(4:Int)),(2<(Ob.k (.fr a))),(0≤(2:Int)),((2:Int)<(4:Int)),(2<(Ob.k (.fr b))),((decide ((limb (Ob.n (.fr a)) 2)<(limb (Ob.n (.fr b)) 2)))=false),(0≤(2:Int)),((2:Int)<(4:Int)),(2<(Ob.k (.fr a))),(0≤(2:Int)),((2:Int)<(4:Int)),(2<(Ob.k (.fr b))),(((limb (Ob.n (.fr a)) 2) == (limb (Ob.n (.fr b)) 2))=false)]) (hs:Sim w0 F0 K ac (rmS2 a b v0 v1 v2 v3 c) cX aX) (hK:∀ac cY aY,Sim w0 F0 K ac (mkSt 45 [2,3,4,5,6,7] [.pt 16 0,.pt 32 0,.pt 48 0,.pt 80 0,.iu (0:Int),.ii (2:Int)] [16,32,48,80] [(eF [.ob (.fr a)]),(eF [.ob (.fr b)]),(eF [(.ob (.fr (0:U4)))]),(eF [(.int .u64 v0),(.int .u64 v1),(.int .u64 (wrap .u64 ((wrap .u64 ((limb (Ob.n (.fr a)) 2)-(limb (Ob.n (.fr b)) 2)))-c))),(.int .u64 v3)])] 1920 [] []) cY aY→Wq Try.prog Q (rmA2_k) ac Exit.normal aY cY.w):Wq Try.prog Q (rmA1_k) ac .normal aX cX.w:=
 run_at2 (unroll:=true) (n:=25) (path:=[true,false,false]) (o:=⟨_,_,_,_,_,_,_⟩) envH_ok (by kernel_rfl) (by kernel_rfl) ho hs hK
def rmS3 (a b:U4) (v0 v1 v2 v3 c:Int):St:=mkSt 45 [2,3,4,5,6,7] [.pt 16 0,.pt 32 0,.pt 48 0,.pt 80 0,.v (.c (.int .u64 c)),.ii (2:Int)] [16,32,48,80] [(eF [.ob (.fr a)]),(eF [.ob (.fr b)]),(eF [(.ob (.fr (0:U4)))]),some (.fl [.int .u64 v0,.int .u64 v1,.int .u64 v2,.int .u64 v3])] 1920 [] []
def rmA3_k:List KI:=(run envH true 25 ((fun (a b:U4) (v0 v1 v2 v3 c:Int)=>(⟨rmA2_k,.normal,rmS3 a b v0 v1 v2 v3 c⟩:Cfg)) default default default default default default default) [true,true,true]).cfg.k
theorem rmA3 (a b:U4) (v0 v1 v2 v3 c:Int) {w0:World} {F0:Nat→Prop} {K:Kp} {ac:List Act} {Q:Exit→Act→World→Prop} {cX:Ctx} {aX:Act} (ho:AllP [((decide ((3:Int)<(4:Int)))=true),(0≤(3:Int)),((3:Int)<(4:Int)),(3<(Ob.k (.fr a))),(0≤(3:Int)),((3:Int)<(4:Int)),(3<(Ob.k (.fr b))),(0≤(3:Int)),((3:Int)<(4:Int)),(0≤(3:Int)),((3:Int)<(4:Int)),(3<(Ob.k (.fr a))),(0≤(3:Int)),((3:Int)<(4:Int)),(3<(Ob.k (.fr b))),((decide ((limb (Ob.n (.fr a)) 3)<(limb (Ob.n (.fr b)) 3)))=true)]) (hs:Sim w0 F0 K ac (rmS3 a b v0 v1 v2 v3 c) cX aX) (hK:∀ac cY aY,Sim w0 F0 K ac (mkSt 45 [2,3,4,5,6,7] [.pt 16 0,.pt 32 0,.pt 48 0,.pt 80 0,.iu (1:Int),.ii (3:Int)] [16,32,48,80] [(eF [.ob (.fr a)]),(eF [.ob (.fr b)]),(eF [(.ob (.fr (0:U4)))]),(eF [(.int .u64 v0),(.int .u64 v1),(.int .u64 v2),(.int .u64 (wrap .u64 ((wrap .u64 ((limb (Ob.n (.fr a)) 3)-(limb (Ob.n (.fr b)) 3)))-c)))])] 2528 [] []) cY aY→Wq Try.prog Q (rmA3_k) ac Exit.normal aY cY.w):Wq Try.prog Q (rmA2_k) ac .normal aX cX.w:=
 run_at2 (unroll:=true) (n:=25) (path:=[true,true,true]) (o:=⟨_,_,_,_,_,_,_⟩) envH_ok (by kernel_rfl) (by kernel_rfl) ho hs hK
theorem rmB3 (a b:U4) (v0 v1 v2 v3 c:Int) {w0:World} {F0:Nat→Prop} {K:Kp} {ac:List Act} {Q:Exit→Act→World→Prop} {cX:Ctx} {aX:Act} (ho:AllP [((decide ((3:Int)<(4:Int)))=true),(0≤(3:Int)),((3:Int)<(4:Int)),(3<(Ob.k (.fr a))),(0≤(3:Int)),((3:Int)<(4:Int)),(3<(Ob.k (.fr b))),(0≤(3:Int)),((3:Int)<(4:Int)),(0≤(3:Int)),((3:Int)<(4:Int)),(3<(Ob.k (.fr a))),(0≤(3:Int)),((3:Int)<(4:Int)),(3<(Ob.k (.fr b))),((decide ((limb (Ob.n (.fr a)) 3)<(limb (Ob.n (.fr b)) 3)))=false),(0≤(3:Int)),((3:Int)<(4:Int)),(3<(Ob.k (.fr a))),(0≤(3:Int)),((3:Int)<(4:Int)),(3<(Ob.k (.fr b))),(((limb (Ob.n (.fr a)) 3) == (limb (Ob.n (.fr b)) 3))=true),((c == (1:Int))=true)]) (hs:Sim w0 F0 K ac (rmS3 a b v0 v1 v2 v3 c) cX aX) (hK:∀ac cY aY,Sim w0 F0 K ac (mkSt 45 [2,3,4,5,6,7] [.pt 16 0,.pt 32 0,.pt 48 0,.pt 80 0,.iu (1:Int),.ii (3:Int)] [16,32,48,80] [(eF [.ob (.fr a)]),(eF [.ob (.fr b)]),(eF [(.ob (.fr (0:U4)))]),(eF [(.int .u64 v0),(.int .u64 v1),(.int .u64 v2),(.int .u64 (wrap .u64 ((wrap .u64 ((limb (Ob.n (.fr a)) 3)-(limb (Ob.n (.fr b)) 3)))-c)))])] 2528 [] []) cY aY→Wq Try.prog Q (rmA3_k) ac Exit.normal aY cY.w):Wq Try.prog Q (rmA2_k) ac .normal aX cX.w:=
 run_at2 (unroll:=true) (n:=25) (path:=[true,true,false,true]) (o:=⟨_,_,_,_,_,_,_⟩) envH_ok (by kernel_rfl) (by kernel_rfl) ho hs hK
theorem rmC3 (a b:U4) (v0 v1 v2 v3 c:Int) {w0:World} {F0:Nat→Prop} {K:Kp} {ac:List Act} {Q:Exit→Act→World→Prop} {cX:Ctx} {aX:Act} (ho:AllP [((decide ((3:Int)<(4:Int)))=true),(0≤(3:Int)),((3:Int)<(4:Int)),(3<(Ob.k (.fr a))),(0≤(3:Int)),((3:Int)<(4:Int)),(3<(Ob.k (.fr b))),(0≤(3:Int)),((3:Int)<(4:Int)),(0≤(3:Int)),((3:Int)<(4:Int)),(3<(Ob.k (.fr a))),(0≤(3:Int)),((3:Int)<(4:Int)),(3<(Ob.k (.fr b))),((decide ((limb (Ob.n (.fr a)) 3)<(limb (Ob.n (.fr b)) 3)))=false),(0≤(3:Int)),((3:Int)<(4:Int)),(3<(Ob.k (.fr a))),(0≤(3:Int)),((3:Int)<(4:Int)),(3<(Ob.k (.fr b))),(((limb (Ob.n (.fr a)) 3) == (limb (Ob.n (.fr b)) 3))=true),((c == (1:Int))=false)]) (hs:Sim w0 F0 K ac (rmS3 a b v0 v1 v2 v3 c) cX aX) (hK:∀ac cY aY,Sim w0 F0 K ac (mkSt 45 [2,3,4,5,6,7] [.pt 16 0,.pt 32 0,.pt 48 0,.pt 80 0,.iu (0:Int),.ii (3:Int)] [16,32,48,80] [(eF [.ob (.fr a)]),(eF [.ob (.fr b)]),(eF [(.ob (.fr (0:U4)))]),(eF [(.int .u64 v0),(.int .u64 v1),(.int .u64 v2),(.int .u64 (wrap .u64 ((wrap .u64 ((limb (Ob.n (.fr a)) 3)-(limb (Ob.n (.fr b)) 3)))-c)))])] 2528 [] []) cY aY→Wq Try.prog Q (rmA3_k) ac Exit.normal aY cY.w):Wq Try.prog Q (rmA2_k) ac .normal aX cX.w:=
 run_at2 (unroll:=true) (n:=25) (path:=[true,true,false,false]) (o:=⟨_,_,_,_,_,_,_⟩) envH_ok (by kernel_rfl) (by kernel_rfl) ho hs hK
theorem rmD3 (a b:U4) (v0 v1 v2 v3 c:Int) {w0:World} {F0:Nat→Prop} {K:Kp} {ac:List Act} {Q:Exit→Act→World→Prop} {cX:Ctx} {aX:Act} (ho:AllP [((decide ((3:Int)<(4:Int)))=true),(0≤(3:Int)),((3:Int)<(4:Int)),(3<(Ob.k (.fr a))),(0≤(3:Int)),((3:Int)<(4:Int)),(3<(Ob.k (.fr b))),(0≤(3:Int)),((3:Int)<(4:Int)),(0≤(3:Int)),((3:Int)<(4:Int)),(3<(Ob.k (.fr a))),(0≤(3:Int)),((3:Int)<(4:Int)),(3<(Ob.k (.fr b))),((decide ((limb (Ob.n (.fr a)) 3)<(limb (Ob.n (.fr b)) 3)))=false),(0≤(3:Int)),((3:Int)<(4:Int)),(3<(Ob.k (.fr a))),(0≤(3:Int)),((3:Int)<(4:Int)),(3<(Ob.k (.fr b))),(((limb (Ob.n (.fr a)) 3) == (limb (Ob.n (.fr b)) 3))=false)]) (hs:Sim w0 F0 K ac (rmS3 a b v0 v1 v2 v3 c) cX aX) (hK:∀ac cY aY,Sim w0 F0 K ac (mkSt 45 [2,3,4,5,6,7] [.pt 16 0,.pt 32 0,.pt 48 0,.pt 80 0,.iu (0:Int),.ii (3:Int)] [16,32,48,80] [(eF [.ob (.fr a)]),(eF [.ob (.fr b)]),(eF [(.ob (.fr (0:U4)))]),(eF [(.int .u64 v0),(.int .u64 v1),(.int .u64 v2),(.int .u64 (wrap .u64 ((wrap .u64 ((limb (Ob.n (.fr a)) 3)-(limb (Ob.n (.fr b)) 3)))-c)))])] 2528 [] []) cY aY→Wq Try.prog Q (rmA3_k) ac Exit.normal aY cY.w):Wq Try.prog Q (rmA2_k) ac .normal aX cX.w:=
 run_at2 (unroll:=true) (n:=25) (path:=[true,false,false]) (o:=⟨_,_,_,_,_,_,_⟩) envH_ok (by kernel_rfl) (by kernel_rfl) ho hs hK
def rmS4 (a b:U4) (v0 v1 v2 v3 c:Int):St:=mkSt 45 [2,3,4,5,6,7] [.pt 16 0,.pt 32 0,.pt 48 0,.pt 80 0,.v (.c (.int .u64 c)),.ii (3:Int)] [16,32,48,80] [(eF [.ob (.fr a)]),(eF [.ob (.fr b)]),(eF [(.ob (.fr (0:U4)))]),some (.fl [.int .u64 v0,.int .u64 v1,.int .u64 v2,.int .u64 v3])] 2528 [] []
theorem rmX_end (a b:U4) (v0 v1 v2 v3 c:Int):runEnd envH Try.f43 true 3000 (⟨rmA3_k,.normal,rmS4 a b v0 v1 v2 v3 c⟩) [false] [] []=(some ([((decide ((4:Int)<(4:Int)))=false)],((.v (.a [(.int .u64 v0),(.int .u64 v1),(.int .u64 v2),(.int .u64 v3)])),[]))):=by kernel_rfl
end

section


theorem sub_u4 {a b:U4} {N c:Int} (hN:0≤N∧N<115792089237316195423570985008687907853269984665640564039457584007913129639936) (_hc:c=0∨c=1)
  (h:N=(a.val:Int)-(b.val:Int)+115792089237316195423570985008687907853269984665640564039457584007913129639936*c):((a-b:U4).val:Int)=N:=by
 have ha:=a.isLt
 have hb:=b.isLt
 have e:(a-b:U4).val=(B4-b.val+a.val) % B4:=rfl
 rw[e]
 unfold B4 at *
 obtain ⟨_,_⟩:=hN
 omega

theorem borrow_step {a b c:Int} (ha:Lim a) (hb:Lim b) (hc:c=0∨c=1):∃c' : Int,(c' = 0∨c' = 1)∧(a<b→c' = 1)∧(¬a<b→a=b→c=1→c' = 1)∧(¬a<b→a=b→¬c=1→c' = 0)∧(¬a<b→¬a=b→c' = 0) ∧
  wrap IntKind.u64 (wrap IntKind.u64 (a-b)-c)=a-b-c+18446744073709551616*c' := by
 obtain ⟨_,_⟩:=ha
 obtain ⟨_,_⟩:=hb
 rw[wrapU,wrapU]
 refine ⟨if a<b+c then 1 else 0,?_,?_,?_,?_,?_,?_⟩
 ·split<;>omega
 ·intro h;rw[if_pos (by omega)]
 ·intro h1 h2 h3;rw[if_pos (by omega)]
 ·intro h1 h2 h3;rw[if_neg (by omega)]
 ·intro h1 h2;rw[if_neg (by omega)]
 ·split<;>omega

section
variable {w0:World} {F0:Nat→Prop} {K:Kp} {ac:List Act} {Q:Exit→Act→World→Prop} {cX:Ctx} {aX:Act}

theorem rmT0 (a b:U4) (hs:Sim w0 F0 K ac (rm0 a b:Cfg).σ cX aX)
  (k:∀c' : Int,(c' = 0∨c' = 1)→(wrap IntKind.u64 (wrap IntKind.u64 ((limb (Ob.n (Ob.fr a)) 0)-(limb (Ob.n (Ob.fr b)) 0))-0))=(limb (Ob.n (Ob.fr a)) 0)-(limb (Ob.n (Ob.fr b)) 0)-0+18446744073709551616*c' → ∀ac cY aY,Sim w0 F0 K ac (rmS1 a b (wrap IntKind.u64 (wrap IntKind.u64 ((limb (Ob.n (Ob.fr a)) 0)-(limb (Ob.n (Ob.fr b)) 0))-0)) 0 0 0 c') cY aY→Wq Try.prog Q rmA0_k ac .normal aY cY.w):Wq Try.prog Q (rm0 a b:Cfg).k ac (rm0 a b:Cfg).x aX cX.w:=by
 have hA:Lim (limb (Ob.n (Ob.fr a)) 0):=by obtain ⟨h0,h1,h2,h3,_⟩:=fr_lims a;assumption
 have hB:Lim (limb (Ob.n (Ob.fr b)) 0):=by obtain ⟨h0,h1,h2,h3,_⟩:=fr_lims b;assumption
 obtain ⟨c',h1,hA1,hB1,hC1,hD1,e⟩:=borrow_step (c:=0) hA hB (.inl rfl)
 have sA:=@rmA0 a b w0 F0 K ac Q cX aX
 have sB:=@rmB0 a b w0 F0 K ac Q cX aX
 have sC:=@rmC0 a b w0 F0 K ac Q cX aX
 have sD:=@rmD0 a b w0 F0 K ac Q cX aX
 replace k:=k c' h1 e
 clear e hA hB
 generalize (limb (Ob.n (Ob.fr a)) 0)=x at *
 generalize (limb (Ob.n (Ob.fr b)) 0)=y at *
 by_cases l1:x<y
 ·rw[hA1 l1] at k
  exact sA (by simp [AllP,Ob.k,l1]) hs k
 ·by_cases l2:x=y
  ·by_cases l3:(0:Int)=1
   ·rw[hB1 l1 l2 l3] at k
    exact sB (by simp [AllP,Ob.k,l2,l3]) hs k
   ·rw[hC1 l1 l2 l3] at k
    exact sC (by simp [AllP,Ob.k,l2]) hs k
  ·rw[hD1 l1 l2] at k
   exact sD (by simp [AllP,Ob.k,l1,l2]) hs k

theorem rmT1 (a b:U4) (v0 v1 v2 v3 c:Int) (hc:c=0∨c=1) (hs:Sim w0 F0 K ac (rmS1 a b v0 v1 v2 v3 c) cX aX)
  (k:∀c' : Int,(c' = 0∨c' = 1)→(wrap IntKind.u64 (wrap IntKind.u64 ((limb (Ob.n (Ob.fr a)) 1)-(limb (Ob.n (Ob.fr b)) 1))-c))=(limb (Ob.n (Ob.fr a)) 1)-(limb (Ob.n (Ob.fr b)) 1)-c+18446744073709551616*c' → ∀ac cY aY,Sim w0 F0 K ac (rmS2 a b v0 (wrap IntKind.u64 (wrap IntKind.u64 ((limb (Ob.n (Ob.fr a)) 1)-(limb (Ob.n (Ob.fr b)) 1))-c)) v2 v3 c') cY aY→Wq Try.prog Q rmA1_k ac .normal aY cY.w):Wq Try.prog Q rmA0_k ac .normal aX cX.w:=by
 have hA:Lim (limb (Ob.n (Ob.fr a)) 1):=by obtain ⟨h0,h1,h2,h3,_⟩:=fr_lims a;assumption
 have hB:Lim (limb (Ob.n (Ob.fr b)) 1):=by obtain ⟨h0,h1,h2,h3,_⟩:=fr_lims b;assumption
 obtain ⟨c',h1,hA1,hB1,hC1,hD1,e⟩:=borrow_step (c:=c) hA hB hc
 have sA:=@rmA1 a b v0 v1 v2 v3 c w0 F0 K ac Q cX aX
 have sB:=@rmB1 a b v0 v1 v2 v3 c w0 F0 K ac Q cX aX
 have sC:=@rmC1 a b v0 v1 v2 v3 c w0 F0 K ac Q cX aX
 have sD:=@rmD1 a b v0 v1 v2 v3 c w0 F0 K ac Q cX aX
 replace k:=k c' h1 e
 clear e hA hB
 generalize (limb (Ob.n (Ob.fr a)) 1)=x at *
 generalize (limb (Ob.n (Ob.fr b)) 1)=y at *
 by_cases l1:x<y
 ·rw[hA1 l1] at k
  exact sA (by simp [AllP,Ob.k,l1]) hs k
 ·by_cases l2:x=y
  ·by_cases l3:(c:Int)=1
   ·rw[hB1 l1 l2 l3] at k
    exact sB (by simp [AllP,Ob.k,l2,l3]) hs k
   ·rw[hC1 l1 l2 l3] at k
    exact sC (by simp [AllP,Ob.k,l2,l3]) hs k
  ·rw[hD1 l1 l2] at k
   exact sD (by simp [AllP,Ob.k,l1,l2]) hs k

theorem rmT2 (a b:U4) (v0 v1 v2 v3 c:Int) (hc:c=0∨c=1) (hs:Sim w0 F0 K ac (rmS2 a b v0 v1 v2 v3 c) cX aX)
  (k:∀c' : Int,(c' = 0∨c' = 1)→(wrap IntKind.u64 (wrap IntKind.u64 ((limb (Ob.n (Ob.fr a)) 2)-(limb (Ob.n (Ob.fr b)) 2))-c))=(limb (Ob.n (Ob.fr a)) 2)-(limb (Ob.n (Ob.fr b)) 2)-c+18446744073709551616*c' → ∀ac cY aY,Sim w0 F0 K ac (rmS3 a b v0 v1 (wrap IntKind.u64 (wrap IntKind.u64 ((limb (Ob.n (Ob.fr a)) 2)-(limb (Ob.n (Ob.fr b)) 2))-c)) v3 c') cY aY→Wq Try.prog Q rmA2_k ac .normal aY cY.w):Wq Try.prog Q rmA1_k ac .normal aX cX.w:=by
 have hA:Lim (limb (Ob.n (Ob.fr a)) 2):=by obtain ⟨h0,h1,h2,h3,_⟩:=fr_lims a;assumption
 have hB:Lim (limb (Ob.n (Ob.fr b)) 2):=by obtain ⟨h0,h1,h2,h3,_⟩:=fr_lims b;assumption
 obtain ⟨c',h1,hA1,hB1,hC1,hD1,e⟩:=borrow_step (c:=c) hA hB hc
 have sA:=@rmA2 a b v0 v1 v2 v3 c w0 F0 K ac Q cX aX
 have sB:=@rmB2 a b v0 v1 v2 v3 c w0 F0 K ac Q cX aX
 have sC:=@rmC2 a b v0 v1 v2 v3 c w0 F0 K ac Q cX aX
 have sD:=@rmD2 a b v0 v1 v2 v3 c w0 F0 K ac Q cX aX
 replace k:=k c' h1 e
 clear e hA hB
 generalize (limb (Ob.n (Ob.fr a)) 2)=x at *
 generalize (limb (Ob.n (Ob.fr b)) 2)=y at *
 by_cases l1:x<y
 ·rw[hA1 l1] at k
  exact sA (by simp [AllP,Ob.k,l1]) hs k
 ·by_cases l2:x=y
  ·by_cases l3:(c:Int)=1
   ·rw[hB1 l1 l2 l3] at k
    exact sB (by simp [AllP,Ob.k,l2,l3]) hs k
   ·rw[hC1 l1 l2 l3] at k
    exact sC (by simp [AllP,Ob.k,l2,l3]) hs k
  ·rw[hD1 l1 l2] at k
   exact sD (by simp [AllP,Ob.k,l1,l2]) hs k

theorem rmT3 (a b:U4) (v0 v1 v2 v3 c:Int) (hc:c=0∨c=1) (hs:Sim w0 F0 K ac (rmS3 a b v0 v1 v2 v3 c) cX aX)
  (k:∀c' : Int,(c' = 0∨c' = 1)→(wrap IntKind.u64 (wrap IntKind.u64 ((limb (Ob.n (Ob.fr a)) 3)-(limb (Ob.n (Ob.fr b)) 3))-c))=(limb (Ob.n (Ob.fr a)) 3)-(limb (Ob.n (Ob.fr b)) 3)-c+18446744073709551616*c' → ∀ac cY aY,Sim w0 F0 K ac (rmS4 a b v0 v1 v2 (wrap IntKind.u64 (wrap IntKind.u64 ((limb (Ob.n (Ob.fr a)) 3)-(limb (Ob.n (Ob.fr b)) 3))-c)) c') cY aY→Wq Try.prog Q rmA3_k ac .normal aY cY.w):Wq Try.prog Q rmA2_k ac .normal aX cX.w:=by
 have hA:Lim (limb (Ob.n (Ob.fr a)) 3):=by obtain ⟨h0,h1,h2,h3,_⟩:=fr_lims a;assumption
 have hB:Lim (limb (Ob.n (Ob.fr b)) 3):=by obtain ⟨h0,h1,h2,h3,_⟩:=fr_lims b;assumption
 obtain ⟨c',h1,hA1,hB1,hC1,hD1,e⟩:=borrow_step (c:=c) hA hB hc
 have sA:=@rmA3 a b v0 v1 v2 v3 c w0 F0 K ac Q cX aX
 have sB:=@rmB3 a b v0 v1 v2 v3 c w0 F0 K ac Q cX aX
 have sC:=@rmC3 a b v0 v1 v2 v3 c w0 F0 K ac Q cX aX
 have sD:=@rmD3 a b v0 v1 v2 v3 c w0 F0 K ac Q cX aX
 replace k:=k c' h1 e
 clear e hA hB
 generalize (limb (Ob.n (Ob.fr a)) 3)=x at *
 generalize (limb (Ob.n (Ob.fr b)) 3)=y at *
 by_cases l1:x<y
 ·rw[hA1 l1] at k
  exact sA (by simp [AllP,Ob.k,l1]) hs k
 ·by_cases l2:x=y
  ·by_cases l3:(c:Int)=1
   ·rw[hB1 l1 l2 l3] at k
    exact sB (by simp [AllP,Ob.k,l2,l3]) hs k
   ·rw[hC1 l1 l2 l3] at k
    exact sC (by simp [AllP,Ob.k,l2,l3]) hs k
  ·rw[hD1 l1 l2] at k
   exact sD (by simp [AllP,Ob.k,l1,l2]) hs k

end

theorem minus79_fnd (a b:U4):FnD Try.prog 43 [.v (.a [.ob (.fr a)]),.v (.a [.ob (.fr b)])] (.v (.a [.ob (.fr (a-b))])) []:=by
 refine fn_start (fn:=Try.f43) (c:=bodyOf Try.f43) Try.func43 rfl rfl fun x a0 hk hF hs=>?_
 obtain ⟨g0,g1,g2,g3,ha⟩:=fr_lims a
 obtain ⟨h0,h1,h2,h3,hb⟩:=fr_lims b
 refine rmT0 a b hs fun c0 hc0 e0 ac cY aY hs=>?_
 refine rmT1 a b _ _ _ _ c0 hc0 hs fun c1 hc1 e1 ac cY aY hs=>?_
 refine rmT2 a b _ _ _ _ c1 hc1 hs fun c2 hc2 e2 ac cY aY hs=>?_
 refine rmT3 a b _ _ _ _ c2 hc2 hs fun c3 hc3 e3 ac cY aY hs=>?_
 refine run_end2 envH_ok hk hF (rmX_end a b _ _ _ _ c3) (by simp [AllP]) (fun y v hd=>?_) hs
 have l0:=wrap_lim (wrap IntKind.u64 (limb (Ob.n (Ob.fr a)) 0-limb (Ob.n (Ob.fr b)) 0)-0)
 have l1:=wrap_lim (wrap IntKind.u64 (limb (Ob.n (Ob.fr a)) 1-limb (Ob.n (Ob.fr b)) 1)-c0)
 have l2:=wrap_lim (wrap IntKind.u64 (limb (Ob.n (Ob.fr a)) 2-limb (Ob.n (Ob.fr b)) 2)-c1)
 have l3:=wrap_lim (wrap IntKind.u64 (limb (Ob.n (Ob.fr a)) 3-limb (Ob.n (Ob.fr b)) 3)-c2)
 generalize wrap IntKind.u64 (wrap IntKind.u64 (limb (Ob.n (Ob.fr a)) 0-limb (Ob.n (Ob.fr b)) 0)-0)=u0 at *
 generalize wrap IntKind.u64 (wrap IntKind.u64 (limb (Ob.n (Ob.fr a)) 1-limb (Ob.n (Ob.fr b)) 1)-c0)=u1 at *
 generalize wrap IntKind.u64 (wrap IntKind.u64 (limb (Ob.n (Ob.fr a)) 2-limb (Ob.n (Ob.fr b)) 2)-c1)=u2 at *
 generalize wrap IntKind.u64 (wrap IntKind.u64 (limb (Ob.n (Ob.fr a)) 3-limb (Ob.n (Ob.fr b)) 3)-c2)=u3 at *
 refine ints_ob (o:=.fr (a-b)) (Eq.refl 4) (limbsAre4 l0.1 l0.2 l1.1 l1.2 l2.1 l2.2 l3.1 l3.2 ?_) hd
 show ((a-b:U4).val:Int)=num4 u0 u1 u2 u3
 have hN:num4 u0 u1 u2 u3=num4 (limb (Ob.n (Ob.fr a)) 0) (limb (Ob.n (Ob.fr a)) 1) (limb (Ob.n (Ob.fr a)) 2) (limb (Ob.n (Ob.fr a)) 3)-num4 (limb (Ob.n (Ob.fr b)) 0) (limb (Ob.n (Ob.fr b)) 1) (limb (Ob.n (Ob.fr b)) 2) (limb (Ob.n (Ob.fr b)) 3)+115792089237316195423570985008687907853269984665640564039457584007913129639936*c3:=by
  clear ha hb hd hs hk hF l0 l1 l2 l3 g0 g1 g2 g3 h0 h1 h2 h3
  unfold num4
  omega
 rw[←ha,←hb] at hN
 exact sub_u4 (num4_lt l0 l1 l2 l3) hc3 hN

end

section

def rp0 (a b:U4):Cfg:=⟨[.code (bodyOf Try.f102)],.normal,initSt Try.f102.ntmps [.v (.a [.ob (.fr a)]),.v (.a [.ob (.fr b)])]⟩
--@env envH envH_ok
--@unroll true
def rpA0_k:List KI:=(run envH true 42 ((fun (a b:U4)=>(rp0 a b:Cfg)) default default) [true,true,true]).cfg.k
theorem rpA0 (a b:U4) {w0:World} {F0:Nat→Prop} {K:Kp} {ac:List Act} {Q:Exit→Act→World→Prop} {cX:Ctx} {aX:Act} (ho:AllP [((decide (0<(4:Int)))=true),(0≤(0:Int)),(0<(4:Int)),(0<(Ob.k (.fr a))),(0≤(0:Int)),(0<(4:Int)),(0<(Ob.k (.fr b))),(0≤(0:Int)),(0<(4:Int)),(0≤(0:Int)),(0<(4:Int)),(0≤(0:Int)),(0<(4:Int)),(0<(Ob.k (.fr a))),((decide ((wrap .u64 ((wrap .u64 ((limb (Ob.n (.fr a)) 0)+(limb (Ob.n (.fr b)) 0)))+(0:Int)))<(limb (Ob.n (.fr a)) 0)))=true)]) (hs:Sim w0 F0 K ac (((rp0 a b:Cfg)).σ) cX aX) (hK:∀ac cY aY,Sim w0 F0 K ac (mkSt 45 [2,3,4,5,6,7] [.pt 16 0,.pt 32 0,.pt 48 0,.pt 80 0,.iu (1:Int),.ii (0:Int)] [16,32,48,80] [(eF [.ob (.fr a)]),(eF [.ob (.fr b)]),(eF [(.ob (.fr (0:U4)))]),(eF [(.int .u64 (wrap .u64 ((wrap .u64 ((limb (Ob.n (.fr a)) 0)+(limb (Ob.n (.fr b)) 0)))+(0:Int)))),(.int .u64 (0:Int)),(.int .u64 (0:Int)),(.int .u64 (0:Int))])] 704 [] []) cY aY→Wq Try.prog Q (rpA0_k) ac Exit.normal aY cY.w):Wq Try.prog Q (((rp0 a b:Cfg)).k) ac ((rp0 a b:Cfg)).x aX cX.w:=
 run_at (unroll:=true) (n:=42) (path:=[true,true,true]) (o:=⟨_,_,_,_,_,_,_⟩) envH_ok (by kernel_rfl) (by kernel_rfl) ho hs hK
theorem rpB0 (a b:U4) {w0:World} {F0:Nat→Prop} {K:Kp} {ac:List Act} {Q:Exit→Act→World→Prop} {cX:Ctx} {aX:Act} (ho:AllP [((decide (0<(4:Int)))=true),(0≤(0:Int)),(0<(4:Int)),(0<(Ob.k (.fr a))),(0≤(0:Int)),(0<(4:Int)),(0<(Ob.k (.fr b))),(0≤(0:Int)),(0<(4:Int)),(0≤(0:Int)),(0<(4:Int)),(0≤(0:Int)),(0<(4:Int)),(0<(Ob.k (.fr a))),((decide ((wrap .u64 ((wrap .u64 ((limb (Ob.n (.fr a)) 0)+(limb (Ob.n (.fr b)) 0)))+(0:Int)))<(limb (Ob.n (.fr a)) 0)))=false),(0≤(0:Int)),(0<(4:Int)),(0≤(0:Int)),(0<(4:Int)),(0<(Ob.k (.fr a))),(((wrap .u64 ((wrap .u64 ((limb (Ob.n (.fr a)) 0)+(limb (Ob.n (.fr b)) 0)))+(0:Int))) == (limb (Ob.n (.fr a)) 0))=true),(((0:Int)==1)=true)]) (hs:Sim w0 F0 K ac (((rp0 a b:Cfg)).σ) cX aX) (hK:∀ac cY aY,Sim w0 F0 K ac (mkSt 45 [2,3,4,5,6,7] [.pt 16 0,.pt 32 0,.pt 48 0,.pt 80 0,.iu (1:Int),.ii (0:Int)] [16,32,48,80] [(eF [.ob (.fr a)]),(eF [.ob (.fr b)]),(eF [(.ob (.fr (0:U4)))]),(eF [(.int .u64 (wrap .u64 ((wrap .u64 ((limb (Ob.n (.fr a)) 0)+(limb (Ob.n (.fr b)) 0)))+(0:Int)))),(.int .u64 (0:Int)),(.int .u64 (0:Int)),(.int .u64 (0:Int))])] 704 [] []) cY aY→Wq Try.prog Q (rpA0_k) ac Exit.normal aY cY.w):Wq Try.prog Q (((rp0 a b:Cfg)).k) ac ((rp0 a b:Cfg)).x aX cX.w:=
 run_at (unroll:=true) (n:=42) (path:=[true,true,false,true]) (o:=⟨_,_,_,_,_,_,_⟩) envH_ok (by kernel_rfl) (by kernel_rfl) ho hs hK
theorem rpC0 (a b:U4) {w0:World} {F0:Nat→Prop} {K:Kp} {ac:List Act} {Q:Exit→Act→World→Prop} {cX:Ctx} {aX:Act} (ho:AllP [((decide (0<(4:Int)))=true),(0≤(0:Int)),(0<(4:Int)),(0<(Ob.k (.fr a))),(0≤(0:Int)),(0<(4:Int)),(0<(Ob.k (.fr b))),(0≤(0:Int)),(0<(4:Int)),(0≤(0:Int)),(0<(4:Int)),(0≤(0:Int)),(0<(4:Int)),(0<(Ob.k (.fr a))),((decide ((wrap .u64 ((wrap .u64 ((limb (Ob.n (.fr a)) 0)+(limb (Ob.n (.fr b)) 0)))+(0:Int)))<(limb (Ob.n (.fr a)) 0)))=false),(0≤(0:Int)),(0<(4:Int)),(0≤(0:Int)),(0<(4:Int)),(0<(Ob.k (.fr a))),(((wrap .u64 ((wrap .u64 ((limb (Ob.n (.fr a)) 0)+(limb (Ob.n (.fr b)) 0)))+(0:Int))) == (limb (Ob.n (.fr a)) 0))=true),(((0:Int)==1)=false)]) (hs:Sim w0 F0 K ac (((rp0 a b:Cfg)).σ) cX aX) (hK:∀ac cY aY,Sim w0 F0 K ac (mkSt 45 [2,3,4,5,6,7] [.pt 16 0,.pt 32 0,.pt 48 0,.pt 80 0,.iu (0:Int),.ii (0:Int)] [16,32,48,80] [(eF [.ob (.fr a)]),(eF [.ob (.fr b)]),(eF [(.ob (.fr (0:U4)))]),(eF [(.int .u64 (wrap .u64 ((wrap .u64 ((limb (Ob.n (.fr a)) 0)+(limb (Ob.n (.fr b)) 0)))+(0:Int)))),(.int .u64 (0:Int)),(.int .u64 (0:Int)),(.int .u64 (0:Int))])] 704 [] []) cY aY→Wq Try.prog Q (rpA0_k) ac Exit.normal aY cY.w):Wq Try.prog Q (((rp0 a b:Cfg)).k) ac ((rp0 a b:Cfg)).x aX cX.w:=
 run_at (unroll:=true) (n:=42) (path:=[true,true,false,false]) (o:=⟨_,_,_,_,_,_,_⟩) envH_ok (by kernel_rfl) (by kernel_rfl) ho hs hK
theorem rpD0 (a b:U4) {w0:World} {F0:Nat→Prop} {K:Kp} {ac:List Act} {Q:Exit→Act→World→Prop} {cX:Ctx} {aX:Act} (ho:AllP [((decide (0<(4:Int)))=true),(0≤(0:Int)),(0<(4:Int)),(0<(Ob.k (.fr a))),(0≤(0:Int)),(0<(4:Int)),(0<(Ob.k (.fr b))),(0≤(0:Int)),(0<(4:Int)),(0≤(0:Int)),(0<(4:Int)),(0≤(0:Int)),(0<(4:Int)),(0<(Ob.k (.fr a))),((decide ((wrap .u64 ((wrap .u64 ((limb (Ob.n (.fr a)) 0)+(limb (Ob.n (.fr b)) 0)))+(0:Int)))<(limb (Ob.n (.fr a)) 0)))=false),(0≤(0:Int)),(0<(4:Int)),(0≤(0:Int)),(0<(4:Int)),(0<(Ob.k (.fr a))),(((wrap .u64 ((wrap .u64 ((limb (Ob.n (.fr a)) 0)+(limb (Ob.n (.fr b)) 0)))+(0:Int))) == (limb (Ob.n (.fr a)) 0))=false)]) (hs:Sim w0 F0 K ac (((rp0 a b:Cfg)).σ) cX aX) (hK:∀ac cY aY,Sim w0 F0 K ac (mkSt 45 [2,3,4,5,6,7] [.pt 16 0,.pt 32 0,.pt 48 0,.pt 80 0,.iu (0:Int),.ii (0:Int)] [16,32,48,80] [(eF [.ob (.fr a)]),(eF [.ob (.fr b)]),(eF [(.ob (.fr (0:U4)))]),(eF [(.int .u64 (wrap .u64 ((wrap .u64 ((limb (Ob.n (.fr a)) 0)+(limb (Ob.n (.fr b)) 0)))+(0:Int)))),(.int .u64 (0:Int)),(.int .u64 (0:Int)),(.int .u64 (0:Int))])] 704 [] []) cY aY→Wq Try.prog Q (rpA0_k) ac Exit.normal aY cY.w):Wq Try.prog Q (((rp0 a b:Cfg)).k) ac ((rp0 a b:Cfg)).x aX cX.w:=
 run_at (unroll:=true) (n:=42) (path:=[true,false,false]) (o:=⟨_,_,_,_,_,_,_⟩) envH_ok (by kernel_rfl) (by kernel_rfl) ho hs hK
def rpS1 (a b:U4) (v0 v1 v2 v3 c:Int):St:=mkSt 45 [2,3,4,5,6,7] [.pt 16 0,.pt 32 0,.pt 48 0,.pt 80 0,.v (.c (.int .u64 c)),.ii (0:Int)] [16,32,48,80] [(eF [.ob (.fr a)]),(eF [.ob (.fr b)]),(eF [(.ob (.fr (0:U4)))]),some (.fl [.int .u64 v0,.int .u64 v1,.int .u64 v2,.int .u64 v3])] 704 [] []
def rpA1_k:List KI:=(run envH true 25 ((fun (a b:U4) (v0 v1 v2 v3 c:Int)=>(⟨rpA0_k,.normal,rpS1 a b v0 v1 v2 v3 c⟩:Cfg)) default default default default default default default) [true,true,true]).cfg.k
theorem rpA1 (a b:U4) (v0 v1 v2 v3 c:Int) {w0:World} {F0:Nat→Prop} {K:Kp} {ac:List Act} {Q:Exit→Act→World→Prop} {cX:Ctx} {aX:Act} (ho:AllP [((decide ((1:Int)<(4:Int)))=true),(0≤(1:Int)),((1:Int)<(4:Int)),(1<(Ob.k (.fr a))),(0≤(1:Int)),((1:Int)<(4:Int)),(1<(Ob.k (.fr b))),(0≤(1:Int)),((1:Int)<(4:Int)),(0≤(1:Int)),((1:Int)<(4:Int)),(0≤(1:Int)),((1:Int)<(4:Int)),(1<(Ob.k (.fr a))),((decide ((wrap .u64 ((wrap .u64 ((limb (Ob.n (.fr a)) 1)+(limb (Ob.n (.fr b)) 1)))+c))<(limb (Ob.n (.fr a)) 1)))=true)]) (hs:Sim w0 F0 K ac (rpS1 a b v0 v1 v2 v3 c) cX aX) (hK:∀ac cY aY,Sim w0 F0 K ac (mkSt 45 [2,3,4,5,6,7] [.pt 16 0,.pt 32 0,.pt 48 0,.pt 80 0,.iu (1:Int),.ii (1:Int)] [16,32,48,80] [(eF [.ob (.fr a)]),(eF [.ob (.fr b)]),(eF [(.ob (.fr (0:U4)))]),(eF [(.int .u64 v0),(.int .u64 (wrap .u64 ((wrap .u64 ((limb (Ob.n (.fr a)) 1)+(limb (Ob.n (.fr b)) 1)))+c))),(.int .u64 v2),(.int .u64 v3)])] 1312 [] []) cY aY→Wq Try.prog Q (rpA1_k) ac Exit.normal aY cY.w):Wq Try.prog Q (rpA0_k) ac .normal aX cX.w:=
 run_at2 (unroll:=true) (n:=25) (path:=[true,true,true]) (o:=⟨_,_,_,_,_,_,_⟩) envH_ok (by kernel_rfl) (by kernel_rfl) ho hs hK
theorem rpB1 (a b:U4) (v0 v1 v2 v3 c:Int) {w0:World} {F0:Nat→Prop} {K:Kp} {ac:List Act} {Q:Exit→Act→World→Prop} {cX:Ctx} {aX:Act} (ho:AllP [((decide ((1:Int)<(4:Int)))=true),(0≤(1:Int)),((1:Int)<(4:Int)),(1<(Ob.k (.fr a))),(0≤(1:Int)),((1:Int)<(4:Int)),(1<(Ob.k (.fr b))),(0≤(1:Int)),((1:Int)<(4:Int)),(0≤(1:Int)),((1:Int)<(4:Int)),(0≤(1:Int)),((1:Int)<(4:Int)),(1<(Ob.k (.fr a))),((decide ((wrap .u64 ((wrap .u64 ((limb (Ob.n (.fr a)) 1)+(limb (Ob.n (.fr b)) 1)))+c))<(limb (Ob.n (.fr a)) 1)))=false),(0≤(1:Int)),((1:Int)<(4:Int)),(0≤(1:Int)),((1:Int)<(4:Int)),(1<(Ob.k (.fr a))),(((wrap .u64 ((wrap .u64 ((limb (Ob.n (.fr a)) 1)+(limb (Ob.n (.fr b)) 1)))+c)) == (limb (Ob.n (.fr a)) 1))=true),((c == (1:Int))=true)]) (hs:Sim w0 F0 K ac (rpS1 a b v0 v1 v2 v3 c) cX aX) (hK:∀ac cY aY,Sim w0 F0 K ac (mkSt 45 [2,3,4,5,6,7] [.pt 16 0,.pt 32 0,.pt 48 0,.pt 80 0,.iu (1:Int),.ii (1:Int)] [16,32,48,80] [(eF [.ob (.fr a)]),(eF [.ob (.fr b)]),(eF [(.ob (.fr (0:U4)))]),(eF [(.int .u64 v0),(.int .u64 (wrap .u64 ((wrap .u64 ((limb (Ob.n (.fr a)) 1)+(limb (Ob.n (.fr b)) 1)))+c))),(.int .u64 v2),(.int .u64 v3)])] 1312 [] []) cY aY→Wq Try.prog Q (rpA1_k) ac Exit.normal aY cY.w):Wq Try.prog Q (rpA0_k) ac .normal aX cX.w:=
 run_at2 (unroll:=true) (n:=25) (path:=[true,true,false,true]) (o:=⟨_,_,_,_,_,_,_⟩) envH_ok (by kernel_rfl) (by kernel_rfl) ho hs hK
theorem rpC1 (a b:U4) (v0 v1 v2 v3 c:Int) {w0:World} {F0:Nat→Prop} {K:Kp} {ac:List Act} {Q:Exit→Act→World→Prop} {cX:Ctx} {aX:Act} (ho:AllP [((decide ((1:Int)<(4:Int)))=true),(0≤(1:Int)),((1:Int)<(4:Int)),(1<(Ob.k (.fr a))),(0≤(1:Int)),((1:Int)<(4:Int)),(1<(Ob.k (.fr b))),(0≤(1:Int)),((1:Int)<(4:Int)),(0≤(1:Int)),((1:Int)<(4:Int)),(0≤(1:Int)),((1:Int)<(4:Int)),(1<(Ob.k (.fr a))),((decide ((wrap .u64 ((wrap .u64 ((limb (Ob.n (.fr a)) 1)+(limb (Ob.n (.fr b)) 1)))+c))<(limb (Ob.n (.fr a)) 1)))=false),(0≤(1:Int)),((1:Int)<(4:Int)),(0≤(1:Int)),((1:Int)<(4:Int)),(1<(Ob.k (.fr a))),(((wrap .u64 ((wrap .u64 ((limb (Ob.n (.fr a)) 1)+(limb (Ob.n (.fr b)) 1)))+c)) == (limb (Ob.n (.fr a)) 1))=true),((c == (1:Int))=false)]) (hs:Sim w0 F0 K ac (rpS1 a b v0 v1 v2 v3 c) cX aX) (hK:∀ac cY aY,Sim w0 F0 K ac (mkSt 45 [2,3,4,5,6,7] [.pt 16 0,.pt 32 0,.pt 48 0,.pt 80 0,.iu (0:Int),.ii (1:Int)] [16,32,48,80] [(eF [.ob (.fr a)]),(eF [.ob (.fr b)]),(eF [(.ob (.fr (0:U4)))]),(eF [(.int .u64 v0),(.int .u64 (wrap .u64 ((wrap .u64 ((limb (Ob.n (.fr a)) 1)+(limb (Ob.n (.fr b)) 1)))+c))),(.int .u64 v2),(.int .u64 v3)])] 1312 [] []) cY aY→Wq Try.prog Q (rpA1_k) ac Exit.normal aY cY.w):Wq Try.prog Q (rpA0_k) ac .normal aX cX.w:=
 run_at2 (unroll:=true) (n:=25) (path:=[true,true,false,false]) (o:=⟨_,_,_,_,_,_,_⟩) envH_ok (by kernel_rfl) (by kernel_rfl) ho hs hK
theorem rpD1 (a b:U4) (v0 v1 v2 v3 c:Int) {w0:World} {F0:Nat→Prop} {K:Kp} {ac:List Act} {Q:Exit→Act→World→Prop} {cX:Ctx} {aX:Act} (ho:AllP [((decide ((1:Int)<(4:Int)))=true),(0≤(1:Int)),((1:Int)<(4:Int)),(1<(Ob.k (.fr a))),(0≤(1:Int)),((1:Int)<(4:Int)),(1<(Ob.k (.fr b))),(0≤(1:Int)),((1:Int)<(4:Int)),(0≤(1:Int)),((1:Int)<(4:Int)),(0≤(1:Int)),((1:Int)<(4:Int)),(1<(Ob.k (.fr a))),((decide ((wrap .u64 ((wrap .u64 ((limb (Ob.n (.fr a)) 1)+(limb (Ob.n (.fr b)) 1)))+c))<(limb (Ob.n (.fr a)) 1)))=false),(0≤(1:Int)),((1:Int)<(4:Int)),(0≤(1:Int)),((1:Int)<(4:Int)),(1<(Ob.k (.fr a))),(((wrap .u64 ((wrap .u64 ((limb (Ob.n (.fr a)) 1)+(limb (Ob.n (.fr b)) 1)))+c)) == (limb (Ob.n (.fr a)) 1))=false)]) (hs:Sim w0 F0 K ac (rpS1 a b v0 v1 v2 v3 c) cX aX) (hK:∀ac cY aY,Sim w0 F0 K ac (mkSt 45 [2,3,4,5,6,7] [.pt 16 0,.pt 32 0,.pt 48 0,.pt 80 0,.iu (0:Int),.ii (1:Int)] [16,32,48,80] [(eF [.ob (.fr a)]),(eF [.ob (.fr b)]),(eF [(.ob (.fr (0:U4)))]),(eF [(.int .u64 v0),(.int .u64 (wrap .u64 ((wrap .u64 ((limb (Ob.n (.fr a)) 1)+(limb (Ob.n (.fr b)) 1)))+c))),(.int .u64 v2),(.int .u64 v3)])] 1312 [] []) cY aY→Wq Try.prog Q (rpA1_k) ac Exit.normal aY cY.w):Wq Try.prog Q (rpA0_k) ac .normal aX cX.w:=
 run_at2 (unroll:=true) (n:=25) (path:=[true,false,false]) (o:=⟨_,_,_,_,_,_,_⟩) envH_ok (by kernel_rfl) (by kernel_rfl) ho hs hK
def rpS2 (a b:U4) (v0 v1 v2 v3 c:Int):St:=mkSt 45 [2,3,4,5,6,7] [.pt 16 0,.pt 32 0,.pt 48 0,.pt 80 0,.v (.c (.int .u64 c)),.ii (1:Int)] [16,32,48,80] [(eF [.ob (.fr a)]),(eF [.ob (.fr b)]),(eF [(.ob (.fr (0:U4)))]),some (.fl [.int .u64 v0,.int .u64 v1,.int .u64 v2,.int .u64 v3])] 1312 [] []
def rpA2_k:List KI:=(run envH true 25 ((fun (a b:U4) (v0 v1 v2 v3 c:Int)=>(⟨rpA1_k,.normal,rpS2 a b v0 v1 v2 v3 c⟩:Cfg)) default default default default default default default) [true,true,true]).cfg.k
theorem rpA2 (a b:U4) (v0 v1 v2 v3 c:Int) {w0:World} {F0:Nat→Prop} {K:Kp} {ac:List Act} {Q:Exit→Act→World→Prop} {cX:Ctx} {aX:Act} (ho:AllP [((decide ((2:Int)<(4:Int)))=true),(0≤(2:Int)),((2:Int)<(4:Int)),(2<(Ob.k (.fr a))),(0≤(2:Int)),((2:Int)<(4:Int)),(2<(Ob.k (.fr b))),(0≤(2:Int)),((2:Int)<(4:Int)),(0≤(2:Int)),((2:Int)<(4:Int)),(0≤(2:Int)),((2:Int)<(4:Int)),(2<(Ob.k (.fr a))),((decide ((wrap .u64 ((wrap .u64 ((limb (Ob.n (.fr a)) 2)+(limb (Ob.n (.fr b)) 2)))+c))<(limb (Ob.n (.fr a)) 2)))=true)]) (hs:Sim w0 F0 K ac (rpS2 a b v0 v1 v2 v3 c) cX aX) (hK:∀ac cY aY,Sim w0 F0 K ac (mkSt 45 [2,3,4,5,6,7] [.pt 16 0,.pt 32 0,.pt 48 0,.pt 80 0,.iu (1:Int),.ii (2:Int)] [16,32,48,80] [(eF [.ob (.fr a)]),(eF [.ob (.fr b)]),(eF [(.ob (.fr (0:U4)))]),(eF [(.int .u64 v0),(.int .u64 v1),(.int .u64 (wrap .u64 ((wrap .u64 ((limb (Ob.n (.fr a)) 2)+(limb (Ob.n (.fr b)) 2)))+c))),(.int .u64 v3)])] 1920 [] []) cY aY→Wq Try.prog Q (rpA2_k) ac Exit.normal aY cY.w):Wq Try.prog Q (rpA1_k) ac .normal aX cX.w:=
 run_at2 (unroll:=true) (n:=25) (path:=[true,true,true]) (o:=⟨_,_,_,_,_,_,_⟩) envH_ok (by kernel_rfl) (by kernel_rfl) ho hs hK
theorem rpB2 (a b:U4) (v0 v1 v2 v3 c:Int) {w0:World} {F0:Nat→Prop} {K:Kp} {ac:List Act} {Q:Exit→Act→World→Prop} {cX:Ctx} {aX:Act} (ho:AllP [((decide ((2:Int)<(4:Int)))=true),(0≤(2:Int)),((2:Int)<(4:Int)),(2<(Ob.k (.fr a))),(0≤(2:Int)),((2:Int)<(4:Int)),(2<(Ob.k (.fr b))),(0≤(2:Int)),((2:Int)<(4:Int)),(0≤(2:Int)),((2:Int)<(4:Int)),(0≤(2:Int)),((2:Int)<(4:Int)),(2<(Ob.k (.fr a))),((decide ((wrap .u64 ((wrap .u64 ((limb (Ob.n (.fr a)) 2)+(limb (Ob.n (.fr b)) 2)))+c))<(limb (Ob.n (.fr a)) 2)))=false),(0≤(2:Int)),((2:Int)<(4:Int)),(0≤(2:Int)),((2:Int)<(4:Int)),(2<(Ob.k (.fr a))),(((wrap .u64 ((wrap .u64 ((limb (Ob.n (.fr a)) 2)+(limb (Ob.n (.fr b)) 2)))+c)) == (limb (Ob.n (.fr a)) 2))=true),((c == (1:Int))=true)]) (hs:Sim w0 F0 K ac (rpS2 a b v0 v1 v2 v3 c) cX aX) (hK:∀ac cY aY,Sim w0 F0 K ac (mkSt 45 [2,3,4,5,6,7] [.pt 16 0,.pt 32 0,.pt 48 0,.pt 80 0,.iu (1:Int),.ii (2:Int)] [16,32,48,80] [(eF [.ob (.fr a)]),(eF [.ob (.fr b)]),(eF [(.ob (.fr (0:U4)))]),(eF [(.int .u64 v0),(.int .u64 v1),(.int .u64 (wrap .u64 ((wrap .u64 ((limb (Ob.n (.fr a)) 2)+(limb (Ob.n (.fr b)) 2)))+c))),(.int .u64 v3)])] 1920 [] []) cY aY→Wq Try.prog Q (rpA2_k) ac Exit.normal aY cY.w):Wq Try.prog Q (rpA1_k) ac .normal aX cX.w:=
 run_at2 (unroll:=true) (n:=25) (path:=[true,true,false,true]) (o:=⟨_,_,_,_,_,_,_⟩) envH_ok (by kernel_rfl) (by kernel_rfl) ho hs hK
theorem rpC2 (a b:U4) (v0 v1 v2 v3 c:Int) {w0:World} {F0:Nat→Prop} {K:Kp} {ac:List Act} {Q:Exit→Act→World→Prop} {cX:Ctx} {aX:Act} (ho:AllP [((decide ((2:Int)<(4:Int)))=true),(0≤(2:Int)),((2:Int)<(4:Int)),(2<(Ob.k (.fr a))),(0≤(2:Int)),((2:Int)<(4:Int)),(2<(Ob.k (.fr b))),(0≤(2:Int)),((2:Int)<(4:Int)),(0≤(2:Int)),((2:Int)<(4:Int)),(0≤(2:Int)),((2:Int)<(4:Int)),(2<(Ob.k (.fr a))),((decide ((wrap .u64 ((wrap .u64 ((limb (Ob.n (.fr a)) 2)+(limb (Ob.n (.fr b)) 2)))+c))<(limb (Ob.n (.fr a)) 2)))=false),(0≤(2:Int)),((2:Int)<(4:Int)),(0≤(2:Int)),((2:Int)<(4:Int)),(2<(Ob.k (.fr a))),(((wrap .u64 ((wrap .u64 ((limb (Ob.n (.fr a)) 2)+(limb (Ob.n (.fr b)) 2)))+c)) == (limb (Ob.n (.fr a)) 2))=true),((c == (1:Int))=false)]) (hs:Sim w0 F0 K ac (rpS2 a b v0 v1 v2 v3 c) cX aX) (hK:∀ac cY aY,Sim w0 F0 K ac (mkSt 45 [2,3,4,5,6,7] [.pt 16 0,.pt 32 0,.pt 48 0,.pt 80 0,.iu (0:Int),.ii (2:Int)] [16,32,48,80] [(eF [.ob (.fr a)]),(eF [.ob (.fr b)]),(eF [(.ob (.fr (0:U4)))]),(eF [(.int .u64 v0),(.int .u64 v1),(.int .u64 (wrap .u64 ((wrap .u64 ((limb (Ob.n (.fr a)) 2)+(limb (Ob.n (.fr b)) 2)))+c))),(.int .u64 v3)])] 1920 [] []) cY aY→Wq Try.prog Q (rpA2_k) ac Exit.normal aY cY.w):Wq Try.prog Q (rpA1_k) ac .normal aX cX.w:=
 run_at2 (unroll:=true) (n:=25) (path:=[true,true,false,false]) (o:=⟨_,_,_,_,_,_,_⟩) envH_ok (by kernel_rfl) (by kernel_rfl) ho hs hK
theorem rpD2 (a b:U4) (v0 v1 v2 v3 c:Int) {w0:World} {F0:Nat→Prop} {K:Kp} {ac:List Act} {Q:Exit→Act→World→Prop} {cX:Ctx} {aX:Act} (ho:AllP [((decide ((2:Int)<(4:Int)))=true),(0≤(2:Int)),((2:Int)<(4:Int)),(2<(Ob.k (.fr a))),(0≤(2:Int)),((2:Int)<(4:Int)),(2<(Ob.k (.fr b))),(0≤(2:Int)),((2:Int)<(4:Int)),(0≤(2:Int)),((2:Int)<(4:Int)),(0≤(2:Int)),((2:Int)<(4:Int)),(2<(Ob.k (.fr a))),((decide ((wrap .u64 ((wrap .u64 ((limb (Ob.n (.fr a)) 2)+(limb (Ob.n (.fr b)) 2)))+c))<(limb (Ob.n (.fr a)) 2)))=false),(0≤(2:Int)),((2:Int)<(4:Int)),(0≤(2:Int)),((2:Int)<(4:Int)),(2<(Ob.k (.fr a))),(((wrap .u64 ((wrap .u64 ((limb (Ob.n (.fr a)) 2)+(limb (Ob.n (.fr b)) 2)))+c)) == (limb (Ob.n (.fr a)) 2))=false)]) (hs:Sim w0 F0 K ac (rpS2 a b v0 v1 v2 v3 c) cX aX) (hK:∀ac cY aY,Sim w0 F0 K ac (mkSt 45 [2,3,4,5,6,7] [.pt 16 0,.pt 32 0,.pt 48 0,.pt 80 0,.iu (0:Int),.ii (2:Int)] [16,32,48,80] [(eF [.ob (.fr a)]),(eF [.ob (.fr b)]),(eF [(.ob (.fr (0:U4)))]),(eF [(.int .u64 v0),(.int .u64 v1),(.int .u64 (wrap .u64 ((wrap .u64 ((limb (Ob.n (.fr a)) 2)+(limb (Ob.n (.fr b)) 2)))+c))),(.int .u64 v3)])] 1920 [] []) cY aY→Wq Try.prog Q (rpA2_k) ac Exit.normal aY cY.w):Wq Try.prog Q (rpA1_k) ac .normal aX cX.w:=
 run_at2 (unroll:=true) (n:=25) (path:=[true,false,false]) (o:=⟨_,_,_,_,_,_,_⟩) envH_ok (by kernel_rfl) (by kernel_rfl) ho hs hK
def rpS3 (a b:U4) (v0 v1 v2 v3 c:Int):St:=mkSt 45 [2,3,4,5,6,7] [.pt 16 0,.pt 32 0,.pt 48 0,.pt 80 0,.v (.c (.int .u64 c)),.ii (2:Int)] [16,32,48,80] [(eF [.ob (.fr a)]),(eF [.ob (.fr b)]),(eF [(.ob (.fr (0:U4)))]),some (.fl [.int .u64 v0,.int .u64 v1,.int .u64 v2,.int .u64 v3])] 1920 [] []
def rpA3_k:List KI:=(run envH true 25 ((fun (a b:U4) (v0 v1 v2 v3 c:Int)=>(⟨rpA2_k,.normal,rpS3 a b v0 v1 v2 v3 c⟩:Cfg)) default default default default default default default) [true,true,true]).cfg.k
theorem rpA3 (a b:U4) (v0 v1 v2 v3 c:Int) {w0:World} {F0:Nat→Prop} {K:Kp} {ac:List Act} {Q:Exit→Act→World→Prop} {cX:Ctx} {aX:Act} (ho:AllP [((decide ((3:Int)<(4:Int)))=true),(0≤(3:Int)),((3:Int)<(4:Int)),(3<(Ob.k (.fr a))),(0≤(3:Int)),((3:Int)<(4:Int)),(3<(Ob.k (.fr b))),(0≤(3:Int)),((3:Int)<(4:Int)),(0≤(3:Int)),((3:Int)<(4:Int)),(0≤(3:Int)),((3:Int)<(4:Int)),(3<(Ob.k (.fr a))),((decide ((wrap .u64 ((wrap .u64 ((limb (Ob.n (.fr a)) 3)+(limb (Ob.n (.fr b)) 3)))+c))<(limb (Ob.n (.fr a)) 3)))=true)]) (hs:Sim w0 F0 K ac (rpS3 a b v0 v1 v2 v3 c) cX aX) (hK:∀ac cY aY,Sim w0 F0 K ac (mkSt 45 [2,3,4,5,6,7] [.pt 16 0,.pt 32 0,.pt 48 0,.pt 80 0,.iu (1:Int),.ii (3:Int)] [16,32,48,80] [(eF [.ob (.fr a)]),(eF [.ob (.fr b)]),(eF [(.ob (.fr (0:U4)))]),(eF [(.int .u64 v0),(.int .u64 v1),(.int .u64 v2),(.int .u64 (wrap .u64 ((wrap .u64 ((limb (Ob.n (.fr a)) 3)+(limb (Ob.n (.fr b)) 3)))+c)))])] 2528 [] []) cY aY→Wq Try.prog Q (rpA3_k) ac Exit.normal aY cY.w):Wq Try.prog Q (rpA2_k) ac .normal aX cX.w:=
 run_at2 (unroll:=true) (n:=25) (path:=[true,true,true]) (o:=⟨_,_,_,_,_,_,_⟩) envH_ok (by kernel_rfl) (by kernel_rfl) ho hs hK
theorem rpB3 (a b:U4) (v0 v1 v2 v3 c:Int) {w0:World} {F0:Nat→Prop} {K:Kp} {ac:List Act} {Q:Exit→Act→World→Prop} {cX:Ctx} {aX:Act} (ho:AllP [((decide ((3:Int)<(4:Int)))=true),(0≤(3:Int)),((3:Int)<(4:Int)),(3<(Ob.k (.fr a))),(0≤(3:Int)),((3:Int)<(4:Int)),(3<(Ob.k (.fr b))),(0≤(3:Int)),((3:Int)<(4:Int)),(0≤(3:Int)),((3:Int)<(4:Int)),(0≤(3:Int)),((3:Int)<(4:Int)),(3<(Ob.k (.fr a))),((decide ((wrap .u64 ((wrap .u64 ((limb (Ob.n (.fr a)) 3)+(limb (Ob.n (.fr b)) 3)))+c))<(limb (Ob.n (.fr a)) 3)))=false),(0≤(3:Int)),((3:Int)<(4:Int)),(0≤(3:Int)),((3:Int)<(4:Int)),(3<(Ob.k (.fr a))),(((wrap .u64 ((wrap .u64 ((limb (Ob.n (.fr a)) 3)+(limb (Ob.n (.fr b)) 3)))+c)) == (limb (Ob.n (.fr a)) 3))=true),((c == (1:Int))=true)]) (hs:Sim w0 F0 K ac (rpS3 a b v0 v1 v2 v3 c) cX aX) (hK:∀ac cY aY,Sim w0 F0 K ac (mkSt 45 [2,3,4,5,6,7] [.pt 16 0,.pt 32 0,.pt 48 0,.pt 80 0,.iu (1:Int),.ii (3:Int)] [16,32,48,80] [(eF [.ob (.fr a)]),(eF [.ob (.fr b)]),(eF [(.ob (.fr (0:U4)))]),(eF [(.int .u64 v0),(.int .u64 v1),(.int .u64 v2),(.int .u64 (wrap .u64 ((wrap .u64 ((limb (Ob.n (.fr a)) 3)+(limb (Ob.n (.fr b)) 3)))+c)))])] 2528 [] []) cY aY→Wq Try.prog Q (rpA3_k) ac Exit.normal aY cY.w):Wq Try.prog Q (rpA2_k) ac .normal aX cX.w:=
 run_at2 (unroll:=true) (n:=25) (path:=[true,true,false,true]) (o:=⟨_,_,_,_,_,_,_⟩) envH_ok (by kernel_rfl) (by kernel_rfl) ho hs hK
theorem rpC3 (a b:U4) (v0 v1 v2 v3 c:Int) {w0:World} {F0:Nat→Prop} {K:Kp} {ac:List Act} {Q:Exit→Act→World→Prop} {cX:Ctx} {aX:Act} (ho:AllP [((decide ((3:Int)<(4:Int)))=true),(0≤(3:Int)),((3:Int)<(4:Int)),(3<(Ob.k (.fr a))),(0≤(3:Int)),((3:Int)<(4:Int)),(3<(Ob.k (.fr b))),(0≤(3:Int)),((3:Int)<(4:Int)),(0≤(3:Int)),((3:Int)<(4:Int)),(0≤(3:Int)),((3:Int)<(4:Int)),(3<(Ob.k (.fr a))),((decide ((wrap .u64 ((wrap .u64 ((limb (Ob.n (.fr a)) 3)+(limb (Ob.n (.fr b)) 3)))+c))<(limb (Ob.n (.fr a)) 3)))=false),(0≤(3:Int)),((3:Int)<(4:Int)),(0≤(3:Int)),((3:Int)<(4:Int)),(3<(Ob.k (.fr a))),(((wrap .u64 ((wrap .u64 ((limb (Ob.n (.fr a)) 3)+(limb (Ob.n (.fr b)) 3)))+c)) == (limb (Ob.n (.fr a)) 3))=true),((c == (1:Int))=false)]) (hs:Sim w0 F0 K ac (rpS3 a b v0 v1 v2 v3 c) cX aX) (hK:∀ac cY aY,Sim w0 F0 K ac (mkSt 45 [2,3,4,5,6,7] [.pt 16 0,.pt 32 0,.pt 48 0,.pt 80 0,.iu (0:Int),.ii (3:Int)] [16,32,48,80] [(eF [.ob (.fr a)]),(eF [.ob (.fr b)]),(eF [(.ob (.fr (0:U4)))]),(eF [(.int .u64 v0),(.int .u64 v1),(.int .u64 v2),(.int .u64 (wrap .u64 ((wrap .u64 ((limb (Ob.n (.fr a)) 3)+(limb (Ob.n (.fr b)) 3)))+c)))])] 2528 [] []) cY aY→Wq Try.prog Q (rpA3_k) ac Exit.normal aY cY.w):Wq Try.prog Q (rpA2_k) ac .normal aX cX.w:=
 run_at2 (unroll:=true) (n:=25) (path:=[true,true,false,false]) (o:=⟨_,_,_,_,_,_,_⟩) envH_ok (by kernel_rfl) (by kernel_rfl) ho hs hK
theorem rpD3 (a b:U4) (v0 v1 v2 v3 c:Int) {w0:World} {F0:Nat→Prop} {K:Kp} {ac:List Act} {Q:Exit→Act→World→Prop} {cX:Ctx} {aX:Act} (ho:AllP [((decide ((3:Int)<(4:Int)))=true),(0≤(3:Int)),((3:Int)<(4:Int)),(3<(Ob.k (.fr a))),(0≤(3:Int)),((3:Int)<(4:Int)),(3<(Ob.k (.fr b))),(0≤(3:Int)),((3:Int)<(4:Int)),(0≤(3:Int)),((3:Int)<(4:Int)),(0≤(3:Int)),((3:Int)<(4:Int)),(3<(Ob.k (.fr a))),((decide ((wrap .u64 ((wrap .u64 ((limb (Ob.n (.fr a)) 3)+(limb (Ob.n (.fr b)) 3)))+c))<(limb (Ob.n (.fr a)) 3)))=false),(0≤(3:Int)),((3:Int)<(4:Int)),(0≤(3:Int)),((3:Int)<(4:Int)),(3<(Ob.k (.fr a))),(((wrap .u64 ((wrap .u64 ((limb (Ob.n (.fr a)) 3)+(limb (Ob.n (.fr b)) 3)))+c)) == (limb (Ob.n (.fr a)) 3))=false)]) (hs:Sim w0 F0 K ac (rpS3 a b v0 v1 v2 v3 c) cX aX) (hK:∀ac cY aY,Sim w0 F0 K ac (mkSt 45 [2,3,4,5,6,7] [.pt 16 0,.pt 32 0,.pt 48 0,.pt 80 0,.iu (0:Int),.ii (3:Int)] [16,32,48,80] [(eF [.ob (.fr a)]),(eF [.ob (.fr b)]),(eF [(.ob (.fr (0:U4)))]),(eF [(.int .u64 v0),(.int .u64 v1),(.int .u64 v2),(.int .u64 (wrap .u64 ((wrap .u64 ((limb (Ob.n (.fr a)) 3)+(limb (Ob.n (.fr b)) 3)))+c)))])] 2528 [] []) cY aY→Wq Try.prog Q (rpA3_k) ac Exit.normal aY cY.w):Wq Try.prog Q (rpA2_k) ac .normal aX cX.w:=
 run_at2 (unroll:=true) (n:=25) (path:=[true,false,false]) (o:=⟨_,_,_,_,_,_,_⟩) envH_ok (by kernel_rfl) (by kernel_rfl) ho hs hK
def rpS4 (a b:U4) (v0 v1 v2 v3 c:Int):St:=mkSt 45 [2,3,4,5,6,7] [.pt 16 0,.pt 32 0,.pt 48 0,.pt 80 0,.v (.c (.int .u64 c)),.ii (3:Int)] [16,32,48,80] [(eF [.ob (.fr a)]),(eF [.ob (.fr b)]),(eF [(.ob (.fr (0:U4)))]),some (.fl [.int .u64 v0,.int .u64 v1,.int .u64 v2,.int .u64 v3])] 2528 [] []
theorem rpX_end (a b:U4) (v0 v1 v2 v3 c:Int):runEnd envH Try.f102 true 3000 (⟨rpA3_k,.normal,rpS4 a b v0 v1 v2 v3 c⟩) [false] [] []=(some ([((decide ((4:Int)<(4:Int)))=false)],((.v (.a [(.int .u64 v0),(.int .u64 v1),(.int .u64 v2),(.int .u64 v3)])),[]))):=by kernel_rfl
end

section

theorem add_u4 {a b:U4} {N c:Int} (hN:0≤N∧N<115792089237316195423570985008687907853269984665640564039457584007913129639936) (_hc:c=0∨c=1)
  (h:N+115792089237316195423570985008687907853269984665640564039457584007913129639936*c=(a.val:Int)+(b.val:Int)):((a+b:U4).val:Int)=N:=by
 have ha:=a.isLt
 have hb:=b.isLt
 have e:(a+b:U4).val=(a.val+b.val) % B4:=rfl
 rw[e]
 unfold B4 at *
 obtain ⟨_,_⟩:=hN
 omega

theorem carry_step {a b c:Int} (ha:Lim a) (hb:Lim b) (hc:c=0∨c=1):∃c' : Int,(c' = 0∨c' = 1)∧(wrap IntKind.u64 (wrap IntKind.u64 (a+b)+c)<a→c' = 1)∧(¬wrap IntKind.u64 (wrap IntKind.u64 (a+b)+c)<a→wrap IntKind.u64 (wrap IntKind.u64 (a+b)+c)=a→c=1→c' = 1) ∧
  (¬wrap IntKind.u64 (wrap IntKind.u64 (a+b)+c)<a→wrap IntKind.u64 (wrap IntKind.u64 (a+b)+c)=a→¬c=1→c' = 0)∧(¬wrap IntKind.u64 (wrap IntKind.u64 (a+b)+c)<a→¬wrap IntKind.u64 (wrap IntKind.u64 (a+b)+c)=a→c' = 0) ∧
  wrap IntKind.u64 (wrap IntKind.u64 (a+b)+c)+18446744073709551616*c' = a+b+c:=by
 obtain ⟨_,_⟩:=ha
 obtain ⟨_,_⟩:=hb
 rw[wrapU,wrapU]
 refine ⟨if 18446744073709551616≤a+b+c then 1 else 0,?_,?_,?_,?_,?_,?_⟩
 ·split<;>omega
 ·intro h;rw[if_pos (by omega)]
 ·intro h1 h2 h3;rw[if_pos (by omega)]
 ·intro h1 h2 h3;rw[if_neg (by omega)]
 ·intro h1 h2;rw[if_neg (by omega)]
 ·split<;>omega

section
variable {w0:World} {F0:Nat→Prop} {K:Kp} {ac:List Act} {Q:Exit→Act→World→Prop} {cX:Ctx} {aX:Act}

theorem rpT0 (a b:U4) (hs:Sim w0 F0 K ac (rp0 a b:Cfg).σ cX aX)
  (k:∀c' : Int,(c' = 0∨c' = 1)→(wrap IntKind.u64 (wrap IntKind.u64 ((limb (Ob.n (Ob.fr a)) 0)+(limb (Ob.n (Ob.fr b)) 0))+0))+18446744073709551616*c' = (limb (Ob.n (Ob.fr a)) 0)+(limb (Ob.n (Ob.fr b)) 0)+0→∀ac cY aY,Sim w0 F0 K ac (rpS1 a b (wrap IntKind.u64 (wrap IntKind.u64 ((limb (Ob.n (Ob.fr a)) 0)+(limb (Ob.n (Ob.fr b)) 0))+0)) 0 0 0 c') cY aY→Wq Try.prog Q rpA0_k ac .normal aY cY.w):Wq Try.prog Q (rp0 a b:Cfg).k ac (rp0 a b:Cfg).x aX cX.w:=by
 have hA:Lim (limb (Ob.n (Ob.fr a)) 0):=by obtain ⟨h0,h1,h2,h3,_⟩:=fr_lims a;assumption
 have hB:Lim (limb (Ob.n (Ob.fr b)) 0):=by obtain ⟨h0,h1,h2,h3,_⟩:=fr_lims b;assumption
 obtain ⟨c',h1,hA1,hB1,hC1,hD1,e⟩:=carry_step (c:=0) hA hB (.inl rfl)
 have sA:=@rpA0 a b w0 F0 K ac Q cX aX
 have sB:=@rpB0 a b w0 F0 K ac Q cX aX
 have sC:=@rpC0 a b w0 F0 K ac Q cX aX
 have sD:=@rpD0 a b w0 F0 K ac Q cX aX
 replace k:=k c' h1 e
 clear e hA hB
 generalize (wrap IntKind.u64 (wrap IntKind.u64 ((limb (Ob.n (Ob.fr a)) 0)+(limb (Ob.n (Ob.fr b)) 0))+0))=x at *
 generalize (limb (Ob.n (Ob.fr a)) 0)=y at *
 by_cases l1:x<y
 ·rw[hA1 l1] at k
  exact sA (by simp [AllP,Ob.k,l1]) hs k
 ·by_cases l2:x=y
  ·by_cases l3:(0:Int)=1
   ·rw[hB1 l1 l2 l3] at k
    exact sB (by simp [AllP,Ob.k,l2,l3]) hs k
   ·rw[hC1 l1 l2 l3] at k
    exact sC (by simp [AllP,Ob.k,l2]) hs k
  ·rw[hD1 l1 l2] at k
   exact sD (by simp [AllP,Ob.k,l1,l2]) hs k

theorem rpT1 (a b:U4) (v0 v1 v2 v3 c:Int) (hc:c=0∨c=1) (hs:Sim w0 F0 K ac (rpS1 a b v0 v1 v2 v3 c) cX aX)
  (k:∀c' : Int,(c' = 0∨c' = 1)→(wrap IntKind.u64 (wrap IntKind.u64 ((limb (Ob.n (Ob.fr a)) 1)+(limb (Ob.n (Ob.fr b)) 1))+c))+18446744073709551616*c' = (limb (Ob.n (Ob.fr a)) 1)+(limb (Ob.n (Ob.fr b)) 1)+c→∀ac cY aY,Sim w0 F0 K ac (rpS2 a b v0 (wrap IntKind.u64 (wrap IntKind.u64 ((limb (Ob.n (Ob.fr a)) 1)+(limb (Ob.n (Ob.fr b)) 1))+c)) v2 v3 c') cY aY→Wq Try.prog Q rpA1_k ac .normal aY cY.w):Wq Try.prog Q rpA0_k ac .normal aX cX.w:=by
 have hA:Lim (limb (Ob.n (Ob.fr a)) 1):=by obtain ⟨h0,h1,h2,h3,_⟩:=fr_lims a;assumption
 have hB:Lim (limb (Ob.n (Ob.fr b)) 1):=by obtain ⟨h0,h1,h2,h3,_⟩:=fr_lims b;assumption
 obtain ⟨c',h1,hA1,hB1,hC1,hD1,e⟩:=carry_step (c:=c) hA hB hc
 have sA:=@rpA1 a b v0 v1 v2 v3 c w0 F0 K ac Q cX aX
 have sB:=@rpB1 a b v0 v1 v2 v3 c w0 F0 K ac Q cX aX
 have sC:=@rpC1 a b v0 v1 v2 v3 c w0 F0 K ac Q cX aX
 have sD:=@rpD1 a b v0 v1 v2 v3 c w0 F0 K ac Q cX aX
 replace k:=k c' h1 e
 clear e hA hB
 generalize (wrap IntKind.u64 (wrap IntKind.u64 ((limb (Ob.n (Ob.fr a)) 1)+(limb (Ob.n (Ob.fr b)) 1))+c))=x at *
 generalize (limb (Ob.n (Ob.fr a)) 1)=y at *
 by_cases l1:x<y
 ·rw[hA1 l1] at k
  exact sA (by simp [AllP,Ob.k,l1]) hs k
 ·by_cases l2:x=y
  ·by_cases l3:(c:Int)=1
   ·rw[hB1 l1 l2 l3] at k
    exact sB (by simp [AllP,Ob.k,l2,l3]) hs k
   ·rw[hC1 l1 l2 l3] at k
    exact sC (by simp [AllP,Ob.k,l2,l3]) hs k
  ·rw[hD1 l1 l2] at k
   exact sD (by simp [AllP,Ob.k,l1,l2]) hs k

theorem rpT2 (a b:U4) (v0 v1 v2 v3 c:Int) (hc:c=0∨c=1) (hs:Sim w0 F0 K ac (rpS2 a b v0 v1 v2 v3 c) cX aX)
  (k:∀c' : Int,(c' = 0∨c' = 1)→(wrap IntKind.u64 (wrap IntKind.u64 ((limb (Ob.n (Ob.fr a)) 2)+(limb (Ob.n (Ob.fr b)) 2))+c))+18446744073709551616*c' = (limb (Ob.n (Ob.fr a)) 2)+(limb (Ob.n (Ob.fr b)) 2)+c→∀ac cY aY,Sim w0 F0 K ac (rpS3 a b v0 v1 (wrap IntKind.u64 (wrap IntKind.u64 ((limb (Ob.n (Ob.fr a)) 2)+(limb (Ob.n (Ob.fr b)) 2))+c)) v3 c') cY aY→Wq Try.prog Q rpA2_k ac .normal aY cY.w):Wq Try.prog Q rpA1_k ac .normal aX cX.w:=by
 have hA:Lim (limb (Ob.n (Ob.fr a)) 2):=by obtain ⟨h0,h1,h2,h3,_⟩:=fr_lims a;assumption
 have hB:Lim (limb (Ob.n (Ob.fr b)) 2):=by obtain ⟨h0,h1,h2,h3,_⟩:=fr_lims b;assumption
 obtain ⟨c',h1,hA1,hB1,hC1,hD1,e⟩:=carry_step (c:=c) hA hB hc
 have sA:=@rpA2 a b v0 v1 v2 v3 c w0 F0 K ac Q cX aX
 have sB:=@rpB2 a b v0 v1 v2 v3 c w0 F0 K ac Q cX aX
 have sC:=@rpC2 a b v0 v1 v2 v3 c w0 F0 K ac Q cX aX
 have sD:=@rpD2 a b v0 v1 v2 v3 c w0 F0 K ac Q cX aX
 replace k:=k c' h1 e
 clear e hA hB
 generalize (wrap IntKind.u64 (wrap IntKind.u64 ((limb (Ob.n (Ob.fr a)) 2)+(limb (Ob.n (Ob.fr b)) 2))+c))=x at *
 generalize (limb (Ob.n (Ob.fr a)) 2)=y at *
 by_cases l1:x<y
 ·rw[hA1 l1] at k
  exact sA (by simp [AllP,Ob.k,l1]) hs k
 ·by_cases l2:x=y
  ·by_cases l3:(c:Int)=1
   ·rw[hB1 l1 l2 l3] at k
    exact sB (by simp [AllP,Ob.k,l2,l3]) hs k
   ·rw[hC1 l1 l2 l3] at k
    exact sC (by simp [AllP,Ob.k,l2,l3]) hs k
  ·rw[hD1 l1 l2] at k
   exact sD (by simp [AllP,Ob.k,l1,l2]) hs k

theorem rpT3 (a b:U4) (v0 v1 v2 v3 c:Int) (hc:c=0∨c=1) (hs:Sim w0 F0 K ac (rpS3 a b v0 v1 v2 v3 c) cX aX)
  (k:∀c' : Int,(c' = 0∨c' = 1)→(wrap IntKind.u64 (wrap IntKind.u64 ((limb (Ob.n (Ob.fr a)) 3)+(limb (Ob.n (Ob.fr b)) 3))+c))+18446744073709551616*c' = (limb (Ob.n (Ob.fr a)) 3)+(limb (Ob.n (Ob.fr b)) 3)+c→∀ac cY aY,Sim w0 F0 K ac (rpS4 a b v0 v1 v2 (wrap IntKind.u64 (wrap IntKind.u64 ((limb (Ob.n (Ob.fr a)) 3)+(limb (Ob.n (Ob.fr b)) 3))+c)) c') cY aY→Wq Try.prog Q rpA3_k ac .normal aY cY.w):Wq Try.prog Q rpA2_k ac .normal aX cX.w:=by
 have hA:Lim (limb (Ob.n (Ob.fr a)) 3):=by obtain ⟨h0,h1,h2,h3,_⟩:=fr_lims a;assumption
 have hB:Lim (limb (Ob.n (Ob.fr b)) 3):=by obtain ⟨h0,h1,h2,h3,_⟩:=fr_lims b;assumption
 obtain ⟨c',h1,hA1,hB1,hC1,hD1,e⟩:=carry_step (c:=c) hA hB hc
 have sA:=@rpA3 a b v0 v1 v2 v3 c w0 F0 K ac Q cX aX
 have sB:=@rpB3 a b v0 v1 v2 v3 c w0 F0 K ac Q cX aX
 have sC:=@rpC3 a b v0 v1 v2 v3 c w0 F0 K ac Q cX aX
 have sD:=@rpD3 a b v0 v1 v2 v3 c w0 F0 K ac Q cX aX
 replace k:=k c' h1 e
 clear e hA hB
 generalize (wrap IntKind.u64 (wrap IntKind.u64 ((limb (Ob.n (Ob.fr a)) 3)+(limb (Ob.n (Ob.fr b)) 3))+c))=x at *
 generalize (limb (Ob.n (Ob.fr a)) 3)=y at *
 by_cases l1:x<y
 ·rw[hA1 l1] at k
  exact sA (by simp [AllP,Ob.k,l1]) hs k
 ·by_cases l2:x=y
  ·by_cases l3:(c:Int)=1
   ·rw[hB1 l1 l2 l3] at k
    exact sB (by simp [AllP,Ob.k,l2,l3]) hs k
   ·rw[hC1 l1 l2 l3] at k
    exact sC (by simp [AllP,Ob.k,l2,l3]) hs k
  ·rw[hD1 l1 l2] at k
   exact sD (by simp [AllP,Ob.k,l1,l2]) hs k

end

theorem plus105_fnd (a b:U4):FnD Try.prog 102 [.v (.a [.ob (.fr a)]),.v (.a [.ob (.fr b)])] (.v (.a [.ob (.fr (a+b))])) []:=by
 refine fn_start (fn:=Try.f102) (c:=bodyOf Try.f102) Try.func102 rfl rfl fun x a0 hk hF hs=>?_
 obtain ⟨g0,g1,g2,g3,ha⟩:=fr_lims a
 obtain ⟨h0,h1,h2,h3,hb⟩:=fr_lims b
 refine rpT0 a b hs fun c0 hc0 e0 ac cY aY hs=>?_
 refine rpT1 a b _ _ _ _ c0 hc0 hs fun c1 hc1 e1 ac cY aY hs=>?_
 refine rpT2 a b _ _ _ _ c1 hc1 hs fun c2 hc2 e2 ac cY aY hs=>?_
 refine rpT3 a b _ _ _ _ c2 hc2 hs fun c3 hc3 e3 ac cY aY hs=>?_
 refine run_end2 envH_ok hk hF (rpX_end a b _ _ _ _ c3) (by simp [AllP]) (fun y v hd=>?_) hs
 have l0:Lim (wrap IntKind.u64 (wrap IntKind.u64 (limb (Ob.n (Ob.fr a)) 0+limb (Ob.n (Ob.fr b)) 0)+0)):=wrap_lim _
 have l1:Lim (wrap IntKind.u64 (wrap IntKind.u64 (limb (Ob.n (Ob.fr a)) 1+limb (Ob.n (Ob.fr b)) 1)+c0)):=wrap_lim _
 have l2:Lim (wrap IntKind.u64 (wrap IntKind.u64 (limb (Ob.n (Ob.fr a)) 2+limb (Ob.n (Ob.fr b)) 2)+c1)):=wrap_lim _
 have l3:Lim (wrap IntKind.u64 (wrap IntKind.u64 (limb (Ob.n (Ob.fr a)) 3+limb (Ob.n (Ob.fr b)) 3)+c2)):=wrap_lim _
 generalize wrap IntKind.u64 (wrap IntKind.u64 (limb (Ob.n (Ob.fr a)) 0+limb (Ob.n (Ob.fr b)) 0)+0)=u0 at *
 generalize wrap IntKind.u64 (wrap IntKind.u64 (limb (Ob.n (Ob.fr a)) 1+limb (Ob.n (Ob.fr b)) 1)+c0)=u1 at *
 generalize wrap IntKind.u64 (wrap IntKind.u64 (limb (Ob.n (Ob.fr a)) 2+limb (Ob.n (Ob.fr b)) 2)+c1)=u2 at *
 generalize wrap IntKind.u64 (wrap IntKind.u64 (limb (Ob.n (Ob.fr a)) 3+limb (Ob.n (Ob.fr b)) 3)+c2)=u3 at *
 refine ints_ob (o:=.fr (a+b)) (Eq.refl 4) (limbsAre4 l0.1 l0.2 l1.1 l1.2 l2.1 l2.2 l3.1 l3.2 ?_) hd
 show ((a+b:U4).val:Int)=num4 u0 u1 u2 u3
 have hN:num4 u0 u1 u2 u3+115792089237316195423570985008687907853269984665640564039457584007913129639936*c3=num4 (limb (Ob.n (Ob.fr a)) 0) (limb (Ob.n (Ob.fr a)) 1) (limb (Ob.n (Ob.fr a)) 2) (limb (Ob.n (Ob.fr a)) 3)+num4 (limb (Ob.n (Ob.fr b)) 0) (limb (Ob.n (Ob.fr b)) 1) (limb (Ob.n (Ob.fr b)) 2) (limb (Ob.n (Ob.fr b)) 3):=by
  clear ha hb hd hs hk hF l0 l1 l2 l3 g0 g1 g2 g3 h0 h1 h2 h3
  unfold num4
  omega
 rw[←ha,←hb] at hN
 exact add_u4 (num4_lt l0 l1 l2 l3) hc3 hN

end

section
section
variable {w0:World} {F0:Nat→Prop} {K:Kp} {ac:List Act} {Q:Exit→Act→World→Prop} {cX:Ctx} {aX:Act}

def lessSpec:FnSpec
 | [.v (.a [.ob (.fr a)]),.v (.a [.ob (.fr b)])]=>some ([],.v (.c (.bool (decide (a.val<b.val)))),[])
 | _=>none
def minusUSpec:FnSpec
 | [.v (.a [.ob (.fr a)]),.v (.a [.ob (.fr b)])]=>some ([],.v (.a [.ob (.fr (a-b))]),[])
 | _=>none
def plusUSpec:FnSpec
 | [.v (.a [.ob (.fr a)]),.v (.a [.ob (.fr b)])]=>some ([],.v (.a [.ob (.fr (a+b))]),[])
 | _=>none

def envI1:Env:=envH.set (addT envH.fn 42 coreRSpec)
theorem envI1_ok:EnvOk Try.prog envI1:=env_add envH_ok 42 coreRSpec (enters_of Try.func42 rfl rfl) fun args o r es h _=>by
 unfold coreRSpec at h
 split at h
 ·cases h
  refine (fn_sound envH_ok Try.func42 refR ⟨by decide,by decide,by decide,by decide,by decide,by decide,by decide,by decide,trivial⟩).conv (fun _ _ h=>h) fun y v hd=>?_
  have e:rU=Fin.ofNat B4 52435875175126190479447740508185965837690552500527637822603658699938581184513:=by kernel_rfl
  rw[e]
  exact hd
 ·cases h
def envI2:Env:=envI1.set (addT envI1.fn 41 lessSpec)
theorem envI2_ok:EnvOk Try.prog envI2:=env_add envI1_ok 41 lessSpec (enters_of Try.func41 rfl rfl) fun args o r es h _=>by
 unfold lessSpec at h
 split at h
 ·cases h;exact less_fnd _ _
 ·cases h
def envI3:Env:=envI2.set (addT envI2.fn 43 minusUSpec)
theorem envI3_ok:EnvOk Try.prog envI3:=env_add envI2_ok 43 minusUSpec (enters_of Try.func43 rfl rfl) fun args o r es h _=>by
 unfold minusUSpec at h
 split at h
 ·cases h;exact minus79_fnd _ _
 ·cases h
def envI:Env:=envI3.set (addT envI3.fn 102 plusUSpec)
theorem envI_ok:EnvOk Try.prog envI:=env_add envI3_ok 102 plusUSpec (enters_of Try.func102 rfl rfl) fun args o r es h _=>by
 unfold plusUSpec at h
 split at h
 ·cases h;exact plus105_fnd _ _
 ·cases h

def cl0 (a:U4):Cfg:=⟨[.code (bodyOf Try.f21)],.normal,initSt Try.f21.ntmps [.v (.a [.ob (.fr a)])]⟩
--@env envI envI_ok
def clIn_k:List KI:=(run envI false 3000 ((fun (a:U4)=>(cl0 a:Cfg)) default) []).cfg.k
section
variable (a:U4)
theorem clIn (ho:AllP []) (hs:Sim w0 F0 K ac (((cl0 a:Cfg)).σ) cX aX) (hK:∀ac cY aY,Sim w0 F0 K ac (mkSt 11 [1,2] [.pt 16 0,.pt 32 0] [16,32] [(eF [.ob (.fr a)]),(eF [(.ob (.fr (0:U4)))])] 48 [] []) cY aY→Wq Try.prog Q (clIn_k) ac Exit.normal aY cY.w):Wq Try.prog Q (((cl0 a:Cfg)).k) ac ((cl0 a:Cfg)).x aX cX.w:=
 run_at (unroll:=false) (n:=3000) (path:=[]) (o:=⟨_,_,_,_,_,_,_⟩) envI_ok (by kernel_rfl) (by kernel_rfl) ho hs hK
def clS (a:U4):St:=mkSt 11 [1,2] [.pt 16 0,.pt 32 0] [16,32] [(eF [.ob (.fr a)]),(eF [(.ob (.fr (0:U4)))])] 48 [] []
theorem clN (ho:AllP [((Bool.not (decide ((Fin.val a)<52435875175126190479447740508185965837690552500527637822603658699938581184513)))=true)]):Sg Try.prog (clS a) (mkSt 11 [1,2] [.pt 16 0,.pt 32 0] [16,32] [(eF [(.ob (.fr (a-rU)))]),(eF [(.ob (.fr (0:U4)))])] 176 [] []) .normal (lpBk clIn_k) (lpIn clIn_k):=fun hs hK=>
 run_at2 (unroll:=false) (n:=3000) (path:=[true]) (o:=⟨_,_,_,_,_,_,_⟩) envI_ok (by kernel_rfl) (by kernel_rfl) ho hs hK
end
theorem clX_end (a:U4):runEnd envI Try.f21 false 3000 (⟨lpIn clIn_k,.normal,clS a⟩) [false] [] []=(some ([((Bool.not (decide ((Fin.val a)<52435875175126190479447740508185965837690552500527637822603658699938581184513)))=false)],((.v (.a [.ob (.fr a)])),[]))):=by kernel_rfl
end
end

section

def cleanU (a:U4):U4:=Fin.ofNat B4 (a.val % rN)
theorem cleanU_val (a:U4):(cleanU a).val=a.val % rN:=Nat.mod_eq_of_lt (Nat.lt_trans (Nat.mod_lt _ (by decide)) (by decide))

theorem rU_val:rU.val=rN:=by kernel_rfl

theorem sub_rU {a:U4} (h:rN≤a.val):(a-rU).val=a.val-rN:=by
 have e:(a-rU).val=(B4-rU.val+a.val) % B4:=rfl
 rw[e,rU_val]
 have ha:=a.isLt
 have hr:rN<B4:=by decide
 rw[show B4-rN+a.val=(a.val-rN)+B4 from by omega,Nat.add_mod_right,Nat.mod_eq_of_lt (by omega)]

theorem clean_fnd (a:U4):FnD Try.prog 21 [.v (.a [.ob (.fr a)])] (.v (.a [.ob (.fr (cleanU a))])) []:=by
 refine fn_start (fn:=Try.f21) (c:=bodyOf Try.f21) Try.func21 rfl rfl fun x a0 hk hF hs=>?_
 refine clIn a trivial hs fun ac cY aY hs1=>?_
 refine loop_rule (ι:={ b:U4 // cleanU b=cleanU a }) (fun b=>clS b.1) (fun b=>b.1.val) (c:=lpC clIn_k) (k:=lpR clIn_k) (by kernel_rfl) (fun b ih ac cY aY hs=>?_) ⟨a,rfl⟩ hs1
 obtain ⟨b,hb⟩:=b
 simp only at ih hs
 by_cases h:b.val<rU.val
 ·have h2:b.val<rN:=by rw[←rU_val];exact h
  unfold rN at h2
  refine run_end2 envI_ok hk hF (clX_end b) ⟨by simp [h2],trivial⟩ (fun y v hd=>?_) hs
  refine ob_ob (o:=.fr b) (o' := .fr (cleanU a)) (Eq.refl 4) ?_ hd
  show b.val=(cleanU a).val
  rw[←hb,cleanU_val]
  rw[rU_val] at h
  exact (Nat.mod_eq_of_lt h).symm
 ·have h' : rN≤b.val:=by rw[rU_val] at h;omega
  have h2:=h'
  unfold rN at h2
  refine clN b ⟨by simp [h2],trivial⟩ hs fun ac cY aY hs2=>?_
  refine ih ⟨b-rU,?_⟩ ?_ ac cY aY (hs2.nx _)
  ·rw[←hb]
   apply Fin.ext
   rw[cleanU_val,cleanU_val,sub_rU h',←Nat.mod_eq_sub_mod h']
  ·show (b-rU).val<b.val
   rw[sub_rU h']
   have:0<rN:=by decide
   omega

end

section

def cleanSpec:FnSpec
 | [.v (.a [.ob (.fr a)])]=>some ([],.v (.a [.ob (.fr (cleanU a))]),[])
 | _=>none
def envJ:Env:=envI.set (addT envI.fn 21 cleanSpec)
theorem envJ_ok:EnvOk Try.prog envJ:=env_add envI_ok 21 cleanSpec (enters_of Try.func21 rfl rfl) fun args o r es h _=>by
 unfold cleanSpec at h
 split at h
 ·cases h;exact clean_fnd _
 ·cases h

--@env envJ envJ_ok
theorem addR (a b:U4):fnRes envJ Try.f72 3000 [.v (.a [.ob (.fr a)]),.v (.a [.ob (.fr b)])] [] [] []=(some ([],((.v (.a [(.ob (.fr (cleanU (a+b))))])),[]))):=by kernel_rfl
theorem negA (a:U4):fnRes envJ Try.f34 3000 [.v (.a [.ob (.fr a)])] [true] [] []=(some ([((ite (true=true) (decide (a=(0:U4))) (Bool.not (decide (a=(0:U4)))))=true)],((.v (.a [.ob (.fr a)])),[]))):=by kernel_rfl
theorem negB (a:U4):fnRes envJ Try.f34 3000 [.v (.a [.ob (.fr a)])] [false] [] []=(some ([((ite (true=true) (decide (a=(0:U4))) (Bool.not (decide (a=(0:U4)))))=false)],((.v (.a [(.ob (.fr (rU-a)))])),[]))):=by kernel_rfl
theorem bitR (a:U4) (i:Int):fnRes envJ Try.f103 3000 [.v (.a [.ob (.fr a)]),.v (.c (.int .i64 i))] [] [] []=(some ([((64:Int)≠(0:Int)),(0≤(wrap .i64 (Int.tdiv i (64:Int)))),((wrap .i64 (Int.tdiv i (64:Int)))<(4:Int)),((0+(((wrap .i64 (Int.tdiv i (64:Int)))).toNat*1))<(Ob.k (.fr a))),((64:Int)≠(0:Int)),(0≤(wrap .u64 (Int.tmod i (64:Int)))),((2:Int)≠(0:Int))],((.iu (Int.tmod (Int.fdiv (limb (Ob.n (.fr a)) (0+(((wrap .i64 (Int.tdiv i (64:Int)))).toNat*1))) ((2:Int) ^ (Min.min ((wrap .u64 (Int.tmod i (64:Int)))).toNat 64))) (2:Int))),[]))):=by kernel_rfl
end

section

theorem bit_nat (n i:Nat):n / 2 ^ (64*(i / 64)) % 18446744073709551616 / 2 ^ (i % 64) % 2=n / 2 ^ i % 2:=by
 have h64:18446744073709551616=2 ^ (i % 64)*(2*2 ^ (63-i % 64)):=by
  rw[←Nat.pow_succ',←Nat.pow_add,show i % 64+(63-i % 64+1)=64 from by omega]
 rw[h64,Nat.mod_mul_right_div_self,Nat.mod_mul_right_mod,Nat.div_div_eq_div_mul,←Nat.pow_add,show 64*(i / 64)+i % 64=i from Nat.div_add_mod i 64]

def bitV (a:U4) (i:Nat):Int:=((a.val / 2 ^ i % 2:Nat):Int)

theorem bit_fnd (a:U4) (i:Nat) (hi:i<256):FnD Try.prog 103 [.v (.a [.ob (.fr a)]),.v (.c (.int .i64 (i:Int)))] (.v (.c (.int .u64 (bitV a i)))) []:=by
 have e1:wrap IntKind.i64 (Int.tdiv (i:Int) 64)=((i / 64:Nat):Int):=by
  rw[show Int.tdiv (i:Int) 64=((i / 64:Nat):Int) from by rw[Int.tdiv_eq_ediv_of_nonneg (by omega)];omega]
  exact wrap_id (by omega) (by omega)
 have e2:wrap IntKind.u64 (Int.tmod (i:Int) 64)=((i % 64:Nat):Int):=by
  rw[show Int.tmod (i:Int) 64=((i % 64:Nat):Int) from by rw[Int.tmod_eq_emod_of_nonneg (by omega)];omega,wrapU]
  omega
 have r:=bitR a (i:Int)
 rw[e1,e2,Int.toNat_natCast,Int.toNat_natCast] at r
 refine (fn_sound envJ_ok Try.func103 r ?_).conv (fun _ _ h=>h) fun y v hd=>?_
 ·refine ⟨by decide,by omega,by omega,by show 0+i / 64*1<4;omega,by decide,by omega,by decide,trivial⟩
 ·have e3:Min.min (i % 64) 64=i % 64:=by omega
  have e4:0+i / 64*1=i / 64:=by omega
  rw[e3,e4] at hd
  have hl:limb (Ob.n (Ob.fr a)) (i / 64)=((a.val / 2 ^ (64*(i / 64)) % 18446744073709551616:Nat):Int):=rfl
  rw[hl] at hd
  have e5:Int.tmod (Int.fdiv ((a.val / 2 ^ (64*(i / 64)) % 18446744073709551616:Nat):Int) ((2:Int) ^ (i % 64))) 2=bitV a i:=by
   unfold bitV
   rw[←bit_nat a.val i]
   generalize a.val / 2 ^ (64*(i / 64)) % 18446744073709551616=m
   have hp:((2:Int) ^ (i % 64))=((2 ^ (i % 64):Nat):Int):=by simp
   rw[hp,Int.fdiv_eq_ediv_of_nonneg _ (Int.natCast_nonneg _),←Int.natCast_ediv,Int.tmod_eq_emod_of_nonneg (Int.natCast_nonneg _)]
   rfl
  rw[e5] at hd
  exact hd

end

section
section
variable {w0:World} {F0:Nat→Prop} {K:Kp} {ac:List Act} {Q:Exit→Act→World→Prop} {cX:Ctx} {aX:Act}

def addUSpec:FnSpec
 | [.v (.a [.ob (.fr a)]),.v (.a [.ob (.fr b)])]=>some ([],.v (.a [.ob (.fr (cleanU (a+b)))]),[])
 | _=>none
def bitSpec:FnSpec
 | [.v (.a [.ob (.fr a)]),.v (.c (.int .i64 i))]=>some ([0≤i,i<256],.v (.c (.int .u64 (bitV a i.toNat))),[])
 | _=>none
def envK1:Env:=envJ.set (addT envJ.fn 72 addUSpec)
theorem envK1_ok:EnvOk Try.prog envK1:=env_add envJ_ok 72 addUSpec (enters_of Try.func72 rfl rfl) fun args o r es h _=>by
 unfold addUSpec at h
 split at h
 ·cases h;exact fn_sound envJ_ok Try.func72 (addR _ _) trivial
 ·cases h
def envK:Env:=envK1.set (addT envK1.fn 103 bitSpec)
theorem envK_ok:EnvOk Try.prog envK:=env_add envK1_ok 103 bitSpec (enters_of Try.func103 rfl rfl) fun args o r es h ho=>by
 unfold bitSpec at h
 split at h
 ·cases h
  obtain ⟨h1,h2,_⟩:=ho
  obtain ⟨i,rfl⟩:=Int.eq_ofNat_of_zero_le h1
  exact bit_fnd _ i (by omega)
 ·cases h

def mu0 (a b:U4):Cfg:=⟨[.code (bodyOf Try.f73)],.normal,initSt Try.f73.ntmps [.v (.a [.ob (.fr a)]),.v (.a [.ob (.fr b)])]⟩
--@env envK envK_ok
def muIn_k:List KI:=(run envK false 3000 ((fun (a b:U4)=>(mu0 a b:Cfg)) default default) []).cfg.k
theorem muIn (a b:U4) (ho:AllP []) (hs:Sim w0 F0 K ac (((mu0 a b:Cfg)).σ) cX aX) (hK:∀ac cY aY,Sim w0 F0 K ac (mkSt 23 [2,3,4,5,6] [.pt 16 0,.pt 32 0,.pt 48 0,.pt 80 0,.ii (255:Int)] [16,32,48,80] [(eF [.ob (.fr a)]),(eF [.ob (.fr b)]),(eF [(.ob (.fr (0:U4)))]),(eF [(.ob (.fr (0:U4)))])] 128 [] []) cY aY→Wq Try.prog Q (muIn_k) ac Exit.normal aY cY.w):Wq Try.prog Q (((mu0 a b:Cfg)).k) ac ((mu0 a b:Cfg)).x aX cX.w:=
 run_at (unroll:=false) (n:=3000) (path:=[]) (o:=⟨_,_,_,_,_,_,_⟩) envK_ok (by kernel_rfl) (by kernel_rfl) ho hs hK
def muS (a b o:U4) (i:Int):St:=mkSt 23 [2,3,4,5,6] [.pt 16 0,.pt 32 0,.pt 48 0,.pt 80 0,.v (.c (.int .i64 i))] [16,32,48,80] [(eF [.ob (.fr a)]),(eF [.ob (.fr b)]),(eF [(.ob (.fr (0:U4)))]),some (.fl [.ob (.fr o)])] 128 [] []
section
variable (a b o:U4) (i:Int)
theorem muA (ho:AllP [((decide (i ≥ (0:Int)))=true),(0≤i),(i<(256:Int)),(((bitV a (i).toNat) == (1:Int))=true)]):Sg Try.prog (muS a b o i) (mkSt 23 [2,3,4,5,6] [.pt 16 0,.pt 32 0,.pt 48 0,.pt 80 0,(.ii (wrap .i64 (i-1)))] [16,32,48,80] [(eF [.ob (.fr a)]),(eF [.ob (.fr b)]),(eF [(.ob (.fr (0:U4)))]),(eF [(.ob (.fr (cleanU ((cleanU (o+o))+b))))])] 400 [] []) .normal (lpBk muIn_k) (lpIn muIn_k):=fun hs hK=>
 run_at2 (unroll:=false) (n:=3000) (path:=[true,true]) (o:=⟨_,_,_,_,_,_,_⟩) envK_ok (by kernel_rfl) (by kernel_rfl) ho hs hK
theorem muB (ho:AllP [((decide (i ≥ (0:Int)))=true),(0≤i),(i<(256:Int)),(((bitV a (i).toNat) == (1:Int))=false)]):Sg Try.prog (muS a b o i) (mkSt 23 [2,3,4,5,6] [.pt 16 0,.pt 32 0,.pt 48 0,.pt 80 0,(.ii (wrap .i64 (i-1)))] [16,32,48,80] [(eF [.ob (.fr a)]),(eF [.ob (.fr b)]),(eF [(.ob (.fr (0:U4)))]),(eF [(.ob (.fr (cleanU (o+o))))])] 336 [] []) .normal (lpBk muIn_k) (lpIn muIn_k):=fun hs hK=>
 run_at2 (unroll:=false) (n:=3000) (path:=[true,false]) (o:=⟨_,_,_,_,_,_,_⟩) envK_ok (by kernel_rfl) (by kernel_rfl) ho hs hK
end
theorem muX_end (a b o:U4) (i:Int):runEnd envK Try.f73 false 3000 (⟨lpIn muIn_k,.normal,muS a b o i⟩) [false] [] []=(some ([((decide (i ≥ (0:Int)))=false)],((.v (.a [.ob (.fr o)])),[]))):=by kernel_rfl
end
end

end
end Go.Proofs.Ytobdghmmbddfnaa
