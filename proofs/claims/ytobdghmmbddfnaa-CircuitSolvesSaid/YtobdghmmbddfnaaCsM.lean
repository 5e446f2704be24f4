/- Parts of a proof, one behind the other: PMulU, WRight, PRight, WSize, PSize, Hz, WHa, WQa, PQa, WQb, WQc, WPow, PPow, WRa, PRa, PQm, PRm, WRb, WRc, WRd, WRe. No conditions. -/
import Derived.Test.YtobdghmmbddfnaaCsL
open Go.IntKind (wrap)
namespace Go.Proofs.Ytobdghmmbddfnaa
noncomputable section
section

theorem clean_add_val {x y:U4} (hx:x.val<rN) (hy:y.val<rN):(cleanU (x+y)).val=(x.val+y.val) % rN:=by
 rw[cleanU_val]
 have e:(x+y:U4).val=(x.val+y.val) % B4:=rfl
 have hr:rN+rN<B4:=by decide
 rw[e,Nat.mod_eq_of_lt (a:=x.val+y.val) (by omega)]

theorem half_step (n j:Nat):n / 2 ^ j=2*(n / 2 ^ (j+1))+n / 2 ^ j % 2:=by
 rw[Nat.pow_succ,←Nat.div_div_eq_div_mul]
 omega

theorem dbl_mod {r p q b:Nat} (x:Nat) (hx:x=p*b % r) (_hq:q=0∨q=1):((x+x) % r+q*b) % r=(2*p+q)*b % r:=by
 subst hx
 rw[Nat.mod_add_mod,←Nat.two_mul,Nat.add_mod,Nat.mul_mod_mod,←Nat.add_mod]
 congr 1
 rw[Nat.add_mul,Nat.mul_assoc]

theorem mulU_fnd (a b:U4) (hb:b.val<rN):FnD Try.prog 73 [.v (.a [.ob (.fr a)]),.v (.a [.ob (.fr b)])] (.v (.a [.ob (.fr (Fin.ofNat B4 (a.val*b.val % rN)))])) []:=by
 refine fn_start (fn:=Try.f73) (c:=bodyOf Try.f73) Try.func73 rfl rfl fun x a0 hk hF hs=>?_
 refine muIn a b trivial hs fun ac cY aY hs1=>?_
 refine loop_rule (ι:={ p:Int×U4 // -1≤p.1∧p.1≤255∧p.2.val=a.val / 2 ^ (p.1+1).toNat*b.val % rN }) (fun p=>muS a b p.1.2 p.1.1) (fun p=>(p.1.1+1).toNat) (c:=lpC muIn_k) (k:=lpR muIn_k) (by kernel_rfl) (fun p ih ac cY aY hs=>?_)
  ⟨(255,0),by decide,by decide,by
   show (0:Nat)=a.val / 2 ^ 256*b.val % rN
   have ha:a.val<2 ^ 256:=a.isLt
   rw[Nat.div_eq_of_lt ha,Nat.zero_mul,Nat.zero_mod]⟩ hs1
 obtain ⟨⟨i,o⟩,hi1,hi2,ho⟩:=p
 simp only at ih hs ho hi1 hi2
 have hor:o.val<rN:=by rw[ho];exact Nat.mod_lt _ (by decide)
 by_cases h:0≤i
 ·obtain ⟨j,rfl⟩:=Int.eq_ofNat_of_zero_le h
  have e1:((j:Int)+1).toNat=j+1:=by omega
  rw[e1] at ho
  have hd:=clean_add_val hor hor
  have hdr:(cleanU (o+o)).val<rN:=by rw[hd];exact Nat.mod_lt _ (by decide)
  have hhs:=half_step a.val j
  have e2:((j:Int)-1+1).toNat=j:=by omega
  by_cases hbit:a.val / 2 ^ j % 2=1
  ·refine muA a b o j ⟨by simp,by omega,by omega,by simp [bitV,hbit],trivial⟩ hs fun ac cY aY hs2=>?_
   rw[wrap_id (by omega) (by omega)] at hs2
   refine ih ⟨((j:Int)-1,cleanU (cleanU (o+o)+b)),by omega,by omega,?_⟩ (by show ((j:Int)-1+1).toNat<((j:Int)+1).toNat;omega) ac cY aY (hs2.nx _)
   show (cleanU (cleanU (o+o)+b)).val=a.val / 2 ^ ((j:Int)-1+1).toNat*b.val % rN
   rw[e2,clean_add_val hdr hb,hd,hhs,hbit]
   have:=dbl_mod (q:=1) o.val ho (.inr rfl)
   rw[Nat.one_mul] at this
   exact this
  ·have hbit0:a.val / 2 ^ j % 2=0:=by omega
   refine muB a b o j ⟨by simp,by omega,by omega,by simp [bitV,hbit0],trivial⟩ hs fun ac cY aY hs2=>?_
   rw[wrap_id (by omega) (by omega)] at hs2
   refine ih ⟨((j:Int)-1,cleanU (o+o)),by omega,by omega,?_⟩ (by show ((j:Int)-1+1).toNat<((j:Int)+1).toNat;omega) ac cY aY (hs2.nx _)
   show (cleanU (o+o)).val=a.val / 2 ^ ((j:Int)-1+1).toNat*b.val % rN
   rw[e2,hd,hhs,hbit0]
   have:=dbl_mod (q:=0) o.val ho (.inl rfl)
   rw[Nat.zero_mul,Nat.add_zero,Nat.mod_mod] at this
   exact this
 ·have hi:i = -1:=by omega
  subst hi
  refine run_end2 envK_ok hk hF (muX_end a b o (-1)) ⟨by decide,trivial⟩ (fun y v hd=>?_) hs
  refine ob_ob (o:=.fr o) (o' := .fr (Fin.ofNat B4 (a.val*b.val % rN))) (Eq.refl 4) ?_ hd
  show o.val=(a.val*b.val % rN) % B4
  rw[Nat.mod_eq_of_lt (a:=a.val*b.val % rN) (Nat.lt_trans (Nat.mod_lt _ (by decide)) (by decide)),ho]
  show a.val / 2 ^ 0*b.val % rN=_
  rw[Nat.pow_zero,Nat.div_one]

end

section
section
variable {w0:World} {F0:Nat→Prop} {K:Kp} {ac:List Act} {Q:Exit→Act→World→Prop} {cX:Ctx} {aX:Act}

def circV (l:List GateD) (p v:Int):SV:=.v (.a [.sl (.gate l),.int .i64 p,.int .i64 v])

def rc0 (l:List GateD) (p v:Int):Cfg:=⟨[.code (bodyOf Try.f17)],.normal,initSt Try.f17.ntmps [circV l p v]⟩

--@env env0 env0_ok
def rIn_k:List KI:=(run env0 false 3000 ((fun (l:List GateD) (p v:Int)=>(rc0 l p v:Cfg)) default default default) [false,false,false,false]).cfg.k
theorem rIn (l:List GateD) (p v:Int) (ho:AllP [((decide ((l.length:Int) > (4096:Int)))=false),((decide (p<(0:Int)))=false),((decide (p > (l.length:Int)))=false),((decide (v<(0:Int)))=false)]) (hs:Sim w0 F0 K ac (((rc0 l p v:Cfg)).σ) cX aX) (hK:∀ac cY aY,Sim w0 F0 K ac (mkSt 19 [0,1,7,8] [(.ci (.sl (.gate l))),(.ci (.clo 37 [(16,0)])),(.ii (l.length:Int)),.ii (0:Int)] [16] [(eF [(.sl (.gate l)),(.int .i64 p),(.int .i64 v)])] 560 [[],[]] [([],9),([],30)]) cY aY→Wq Try.prog Q (rIn_k) ac Exit.normal aY cY.w):Wq Try.prog Q (((rc0 l p v:Cfg)).k) ac ((rc0 l p v:Cfg)).x aX cX.w:=
 run_at (unroll:=false) (n:=3000) (path:=[false,false,false,false]) (o:=⟨_,_,_,_,_,_,_⟩) env0_ok (by kernel_rfl) (by kernel_rfl) ho hs hK

def rS (l:List GateD) (p v:Int) (i:Nat):St:=mkSt 19 [0,1,7,8] [(.ci (.sl (.gate l))),(.ci (.clo 37 [(16,0)])),(.ii (l.length:Int)),.v (.c (.int .i64 (i:Int)))] [16] [(eF [(.sl (.gate l)),(.int .i64 p),(.int .i64 v)])] 560 [[],[]] [([],9),([],30)]
theorem rE1_end (l:List GateD) (p v:Int):runEnd env0 Try.f17 false 3000 (rc0 l p v) [true,false,false] [] []=(some ([((decide ((l.length:Int) > (4096:Int)))=true)],((.ci (.lit false)),[]))):=by kernel_rfl
theorem rE2_end (l:List GateD) (p v:Int):runEnd env0 Try.f17 false 3000 (rc0 l p v) [false,true,false] [] []=(some ([((decide ((l.length:Int) > (4096:Int)))=false),((decide (p<(0:Int)))=true)],((.ci (.lit false)),[]))):=by kernel_rfl
theorem rE3_end (l:List GateD) (p v:Int):runEnd env0 Try.f17 false 3000 (rc0 l p v) [false,false,true] [] []=(some ([((decide ((l.length:Int) > (4096:Int)))=false),((decide (p<(0:Int)))=false),((decide (p > (l.length:Int)))=true)],((.ci (.lit false)),[]))):=by kernel_rfl
theorem rE4_end (l:List GateD) (p v:Int):runEnd env0 Try.f17 false 3000 (rc0 l p v) [false,false,false,true] [] []=(some ([((decide ((l.length:Int) > (4096:Int)))=false),((decide (p<(0:Int)))=false),((decide (p > (l.length:Int)))=false),((decide (v<(0:Int)))=true)],((.ci (.lit false)),[]))):=by kernel_rfl
--@unroll true
theorem rX_end (l:List GateD) (p v:Int) (i:Nat):runEnd env0 Try.f17 true 3000 (⟨lpIn rIn_k,.normal,rS l p v i⟩) [false] [] []=(some ([((decide ((i:Int)<(l.length:Int)))=false)],((.ci (.bool (Bool.not (decide ((-1) ≥ (0:Int)))))),[]))):=by kernel_rfl
theorem rA1_end (l:List GateD) (p v:Int) (i:Nat):runEnd env0 Try.f17 true 3000 (⟨lpIn rIn_k,.normal,rS l p v i⟩) [true,true,true,true] [] []=(some ([((decide ((i:Int)<(l.length:Int)))=true),(0≤(i:Int)),((i:Int)<(l.length:Int)),((decide (0<(3:Int)))=true),(0≤(0:Int)),(0<(3:Int)),((decide ((GateD.a (List.getD l ((i:Int)).toNat gate0))<(-1)))=true),((decide ((0:Int) ≥ (0:Int)))=true)],((.ci (.bool (Bool.not (decide ((i:Int) ≥ (0:Int)))))),[]))):=by kernel_rfl
theorem rC1_end (l:List GateD) (p v:Int) (i:Nat):runEnd env0 Try.f17 true 3000 (⟨lpIn rIn_k,.normal,rS l p v i⟩) [true,true,false,true,true] [] []=(some ([((decide ((i:Int)<(l.length:Int)))=true),(0≤(i:Int)),((i:Int)<(l.length:Int)),((decide (0<(3:Int)))=true),(0≤(0:Int)),(0<(3:Int)),((decide ((GateD.a (List.getD l ((i:Int)).toNat gate0))<(-1)))=false),((decide ((GateD.a (List.getD l ((i:Int)).toNat gate0)) ≥ v))=true),((decide ((0:Int) ≥ (0:Int)))=true)],((.ci (.bool (Bool.not (decide ((i:Int) ≥ (0:Int)))))),[]))):=by kernel_rfl
theorem rA2_end (l:List GateD) (p v:Int) (i:Nat):runEnd env0 Try.f17 true 3000 (⟨lpIn rIn_k,.normal,rS l p v i⟩) [true,true,false,false,true,true,true] [] []=(some ([((decide ((i:Int)<(l.length:Int)))=true),(0≤(i:Int)),((i:Int)<(l.length:Int)),((decide (0<(3:Int)))=true),(0≤(0:Int)),(0<(3:Int)),((decide ((GateD.a (List.getD l ((i:Int)).toNat gate0))<(-1)))=false),((decide ((GateD.a (List.getD l ((i:Int)).toNat gate0)) ≥ v))=false),((decide ((1:Int)<(3:Int)))=true),(0≤(1:Int)),((1:Int)<(3:Int)),((decide ((GateD.b (List.getD l ((i:Int)).toNat gate0))<(-1)))=true),((decide ((1:Int) ≥ (0:Int)))=true)],((.ci (.bool (Bool.not (decide ((i:Int) ≥ (0:Int)))))),[]))):=by kernel_rfl
theorem rC2_end (l:List GateD) (p v:Int) (i:Nat):runEnd env0 Try.f17 true 3000 (⟨lpIn rIn_k,.normal,rS l p v i⟩) [true,true,false,false,true,false,true,true] [] []=(some ([((decide ((i:Int)<(l.length:Int)))=true),(0≤(i:Int)),((i:Int)<(l.length:Int)),((decide (0<(3:Int)))=true),(0≤(0:Int)),(0<(3:Int)),((decide ((GateD.a (List.getD l ((i:Int)).toNat gate0))<(-1)))=false),((decide ((GateD.a (List.getD l ((i:Int)).toNat gate0)) ≥ v))=false),((decide ((1:Int)<(3:Int)))=true),(0≤(1:Int)),((1:Int)<(3:Int)),((decide ((GateD.b (List.getD l ((i:Int)).toNat gate0))<(-1)))=false),((decide ((GateD.b (List.getD l ((i:Int)).toNat gate0)) ≥ v))=true),((decide ((1:Int) ≥ (0:Int)))=true)],((.ci (.bool (Bool.not (decide ((i:Int) ≥ (0:Int)))))),[]))):=by kernel_rfl
theorem rA3_end (l:List GateD) (p v:Int) (i:Nat):runEnd env0 Try.f17 true 3000 (⟨lpIn rIn_k,.normal,rS l p v i⟩) [true,true,false,false,true,false,false,true,true,true] [] []=(some ([((decide ((i:Int)<(l.length:Int)))=true),(0≤(i:Int)),((i:Int)<(l.length:Int)),((decide (0<(3:Int)))=true),(0≤(0:Int)),(0<(3:Int)),((decide ((GateD.a (List.getD l ((i:Int)).toNat gate0))<(-1)))=false),((decide ((GateD.a (List.getD l ((i:Int)).toNat gate0)) ≥ v))=false),((decide ((1:Int)<(3:Int)))=true),(0≤(1:Int)),((1:Int)<(3:Int)),((decide ((GateD.b (List.getD l ((i:Int)).toNat gate0))<(-1)))=false),((decide ((GateD.b (List.getD l ((i:Int)).toNat gate0)) ≥ v))=false),((decide ((2:Int)<(3:Int)))=true),(0≤(2:Int)),((2:Int)<(3:Int)),((decide ((GateD.c (List.getD l ((i:Int)).toNat gate0))<(-1)))=true),((decide ((2:Int) ≥ (0:Int)))=true)],((.ci (.bool (Bool.not (decide ((i:Int) ≥ (0:Int)))))),[]))):=by kernel_rfl
theorem rC3_end (l:List GateD) (p v:Int) (i:Nat):runEnd env0 Try.f17 true 3000 (⟨lpIn rIn_k,.normal,rS l p v i⟩) [true,true,false,false,true,false,false,true,false,true,true] [] []=(some ([((decide ((i:Int)<(l.length:Int)))=true),(0≤(i:Int)),((i:Int)<(l.length:Int)),((decide (0<(3:Int)))=true),(0≤(0:Int)),(0<(3:Int)),((decide ((GateD.a (List.getD l ((i:Int)).toNat gate0))<(-1)))=false),((decide ((GateD.a (List.getD l ((i:Int)).toNat gate0)) ≥ v))=false),((decide ((1:Int)<(3:Int)))=true),(0≤(1:Int)),((1:Int)<(3:Int)),((decide ((GateD.b (List.getD l ((i:Int)).toNat gate0))<(-1)))=false),((decide ((GateD.b (List.getD l ((i:Int)).toNat gate0)) ≥ v))=false),((decide ((2:Int)<(3:Int)))=true),(0≤(2:Int)),((2:Int)<(3:Int)),((decide ((GateD.c (List.getD l ((i:Int)).toNat gate0))<(-1)))=false),((decide ((GateD.c (List.getD l ((i:Int)).toNat gate0)) ≥ v))=true),((decide ((2:Int) ≥ (0:Int)))=true)],((.ci (.bool (Bool.not (decide ((i:Int) ≥ (0:Int)))))),[]))):=by kernel_rfl
theorem rNx (l:List GateD) (p v:Int) (i:Nat) (ho:AllP [((decide ((i:Int)<(l.length:Int)))=true),(0≤(i:Int)),((i:Int)<(l.length:Int)),((decide (0<(3:Int)))=true),(0≤(0:Int)),(0<(3:Int)),((decide ((GateD.a (List.getD l ((i:Int)).toNat gate0))<(-1)))=false),((decide ((GateD.a (List.getD l ((i:Int)).toNat gate0)) ≥ v))=false),((decide ((1:Int)<(3:Int)))=true),(0≤(1:Int)),((1:Int)<(3:Int)),((decide ((GateD.b (List.getD l ((i:Int)).toNat gate0))<(-1)))=false),((decide ((GateD.b (List.getD l ((i:Int)).toNat gate0)) ≥ v))=false),((decide ((2:Int)<(3:Int)))=true),(0≤(2:Int)),((2:Int)<(3:Int)),((decide ((GateD.c (List.getD l ((i:Int)).toNat gate0))<(-1)))=false),((decide ((GateD.c (List.getD l ((i:Int)).toNat gate0)) ≥ v))=false),((decide ((3:Int)<(3:Int)))=false),((decide ((-1) ≥ (0:Int)))=false)]):Sg Try.prog (rS l p v i) (mkSt 19 [0,1,7,8] [(.ci (.sl (.gate l))),(.ci (.clo 37 [(16,0)])),(.ii (l.length:Int)),(.ii (wrap .i64 ((i:Int)+1)))] [16] [(eF [(.sl (.gate l)),(.int .i64 p),(.int .i64 v)])] 1952 [[],[]] [([],9),([],30)]) .normal (lpBk rIn_k) (lpIn rIn_k):=fun hs hK=>
 run_at2 (unroll:=true) (n:=235) (path:=[true,true,false,false,true,false,false,true,false,false,false,false]) (o:=⟨_,_,_,_,_,_,_⟩) env0_ok (by kernel_rfl) (by kernel_rfl) ho hs hK
end
end

set_option linter.unusedSimpArgs false
section

def wireB (v x:Int):Bool:=decide (-1≤x) && decide (x<v)
def gateB (v:Int) (g:GateD):Bool:=wireB v g.a && wireB v g.b && wireB v g.c
/-- Which circuits may be. -/
def rightB (l:List GateD) (p v:Int):Bool:=decide (l.length≤4096) && decide (0≤p) && decide (p≤l.length) && decide (0≤v) && l.all (gateB v)

theorem right_fnd (l:List GateD) (p v:Int):FnD Try.prog 17 [circV l p v] (.v (.c (.bool (rightB l p v)))) []:=by
 refine fn_start (fn:=Try.f17) (c:=bodyOf Try.f17) Try.func17 rfl rfl fun x a hk hF hs=>?_
 by_cases h1:(l.length:Int) > 4096
 ·exact run_end env0_ok hk hF (rE1_end l p v) (by simp [AllP];omega) (fun y w hd=>lit_bool (by simp [rightB];omega) hd) hs
 by_cases h2:p<0
 ·exact run_end env0_ok hk hF (rE2_end l p v) (by simp [AllP];omega) (fun y w hd=>lit_bool (by simp [rightB];omega) hd) hs
 by_cases h3:p > (l.length:Int)
 ·exact run_end env0_ok hk hF (rE3_end l p v) (by simp [AllP];omega) (fun y w hd=>lit_bool (by simp [rightB];omega) hd) hs
 by_cases h4:v<0
 ·exact run_end env0_ok hk hF (rE4_end l p v) (by simp [AllP];omega) (fun y w hd=>lit_bool (by simp [rightB];omega) hd) hs
 refine rIn l p v (by simp [AllP];omega) hs fun ac y b hs1=>?_
 have hb:rightB l p v=l.all (gateB v):=by
  simp only[rightB,show decide (l.length≤4096)=true from by simp;omega,show decide (0≤p)=true from by simp;omega,show decide (p≤(l.length:Int))=true from by simp;omega,show decide (0≤v)=true from by simp;omega,Bool.true_and]
 refine loop_rule (ι:={ i:Nat // i≤l.length∧rightB l p v=(l.drop i).all (gateB v) }) (fun i=>rS l p v i.1) (fun i=>l.length-i.1) (c:=lpC rIn_k) (k:=lpR rIn_k) (by kernel_rfl) (fun i ih ac y b hs=>?_) ⟨0,Nat.zero_le _,by rw[hb];rfl⟩ hs1
 obtain ⟨i,hi,hall⟩:=i
 simp only at ih hs
 by_cases h5:i<l.length
 ·rw[all_drop (gateB v) gate0 l i h5] at hall
  have hg:∃g,g=l.getD i gate0:=⟨_,rfl⟩
  obtain ⟨g,hg⟩:=hg
  rw[←hg] at hall
  unfold gateB at hall
  clear hi
  by_cases a1:g.a < -1
  ·have w:wireB v g.a=false:=by simp only[wireB,Bool.and_eq_false_iff,decide_eq_false_iff_not];omega
   exact run_end env0_ok hk hF (rA1_end l p v i) (by simp only[AllP,and_true,decide_eq_true_eq,decide_eq_false_iff_not,Int.toNat_natCast,wrap01,wrap12,wrap23,←hg];omega) (fun y w' hd=>by
    rw[show rightB l p v = !(decide ((i:Int) ≥ 0)) from by rw[hall,w];simp];exact hd) hs
  by_cases c1:g.a ≥ v
  ·have w:wireB v g.a=false:=by simp only[wireB,Bool.and_eq_false_iff,decide_eq_false_iff_not];omega
   exact run_end env0_ok hk hF (rC1_end l p v i) (by simp only[AllP,and_true,decide_eq_true_eq,decide_eq_false_iff_not,Int.toNat_natCast,wrap01,wrap12,wrap23,←hg];omega) (fun y w' hd=>by
    rw[show rightB l p v = !(decide ((i:Int) ≥ 0)) from by rw[hall,w];simp];exact hd) hs
  have w1:wireB v g.a=true:=by simp only[wireB,Bool.and_eq_true,decide_eq_true_eq];omega
  by_cases a2:g.b < -1
  ·have w:wireB v g.b=false:=by simp only[wireB,Bool.and_eq_false_iff,decide_eq_false_iff_not];omega
   exact run_end env0_ok hk hF (rA2_end l p v i) (by simp only[AllP,and_true,decide_eq_true_eq,decide_eq_false_iff_not,Int.toNat_natCast,wrap01,wrap12,wrap23,←hg];omega) (fun y w' hd=>by
    rw[show rightB l p v = !(decide ((i:Int) ≥ 0)) from by rw[hall,w];simp];exact hd) hs
  by_cases c2:g.b ≥ v
  ·have w:wireB v g.b=false:=by simp only[wireB,Bool.and_eq_false_iff,decide_eq_false_iff_not];omega
   exact run_end env0_ok hk hF (rC2_end l p v i) (by simp only[AllP,and_true,decide_eq_true_eq,decide_eq_false_iff_not,Int.toNat_natCast,wrap01,wrap12,wrap23,←hg];omega) (fun y w' hd=>by
    rw[show rightB l p v = !(decide ((i:Int) ≥ 0)) from by rw[hall,w];simp];exact hd) hs
  have w2:wireB v g.b=true:=by simp only[wireB,Bool.and_eq_true,decide_eq_true_eq];omega
  by_cases a3:g.c < -1
  ·have w:wireB v g.c=false:=by simp only[wireB,Bool.and_eq_false_iff,decide_eq_false_iff_not];omega
   exact run_end env0_ok hk hF (rA3_end l p v i) (by simp only[AllP,and_true,decide_eq_true_eq,decide_eq_false_iff_not,Int.toNat_natCast,wrap01,wrap12,wrap23,←hg];omega) (fun y w' hd=>by
    rw[show rightB l p v = !(decide ((i:Int) ≥ 0)) from by rw[hall,w];simp];exact hd) hs
  by_cases c3:g.c ≥ v
  ·have w:wireB v g.c=false:=by simp only[wireB,Bool.and_eq_false_iff,decide_eq_false_iff_not];omega
   exact run_end env0_ok hk hF (rC3_end l p v i) (by simp only[AllP,and_true,decide_eq_true_eq,decide_eq_false_iff_not,Int.toNat_natCast,wrap01,wrap12,wrap23,←hg];omega) (fun y w' hd=>by
    rw[show rightB l p v = !(decide ((i:Int) ≥ 0)) from by rw[hall,w];simp];exact hd) hs
  have w3:wireB v g.c=true:=by simp only[wireB,Bool.and_eq_true,decide_eq_true_eq];omega
  refine rNx l p v i (by simp only[AllP,and_true,decide_eq_true_eq,decide_eq_false_iff_not,Int.toNat_natCast,wrap01,wrap12,wrap23,←hg];omega) hs fun ac y b hs2=>?_
  rw[wrap_id (by omega) (by omega)] at hs2
  exact ih ⟨i+1,h5,by rw[hall,w1,w2,w3];rfl⟩ (by show l.length-(i+1)<l.length-i;omega) ac y b (hs2.nx _)
 ·exact run_end env0_ok hk hF (rX_end l p v i) (by simp [AllP];omega) (fun y w hd=>by
   rw[show rightB l p v = !(decide (-(1:Int) ≥ 0)) from by rw[hall,List.drop_eq_nil_of_le (by omega)];rfl];exact hd) hs
end

section
section
variable {w0:World} {F0:Nat→Prop} {K:Kp} {ac:List Act} {Q:Exit→Act→World→Prop} {cX:Ctx} {aX:Act}

def rightSpec:FnSpec
 | [.v (.a [.sl (.gate l),.int .i64 p,.int .i64 v])]=>some ([],.v (.c (.bool (rightB l p v))),[])
 | _=>none

def env1:Env:=env0.set (addT env0.fn 17 rightSpec)

theorem env1_ok:EnvOk Try.prog env1:=
 env_add env0_ok 17 rightSpec (enters_of Try.func17 rfl rfl) fun args o r es h _=>by
  unfold rightSpec at h
  split at h
  ·cases h;exact right_fnd _ _ _
  ·cases h

def qc0 (l:List GateD) (p v:Int):Cfg:=⟨[.code (bodyOf Try.f18)],.normal,initSt Try.f18.ntmps [circV l p v]⟩

--@env env1 env1_ok
def qIn_k:List KI:=(run env1 false 3000 ((fun (l:List GateD) (p v:Int)=>(qc0 l p v:Cfg)) default default default) []).cfg.k
theorem qIn (l:List GateD) (p v:Int) (ho:AllP []) (hs:Sim w0 F0 K ac (((qc0 l p v:Cfg)).σ) cX aX) (hK:∀ac cY aY,Sim w0 F0 K ac (mkSt 51 [1,8,9,10] [.pt 16 0,(.ci (.sl (.gate l))),(.ii (l.length:Int)),.ii (0:Int)] [16] [(eF [(.sl (.gate l)),(.int .i64 p),(.int .i64 v)])] 112 [] []) cY aY→Wq Try.prog Q (qIn_k) ac Exit.normal aY cY.w):Wq Try.prog Q (((qc0 l p v:Cfg)).k) ac ((qc0 l p v:Cfg)).x aX cX.w:=
 run_at (unroll:=false) (n:=3000) (path:=[]) (o:=⟨_,_,_,_,_,_,_⟩) env1_ok (by kernel_rfl) (by kernel_rfl) ho hs hK
def qS (l:List GateD) (p v:Int) (i:Nat):St:=mkSt 51 [1,8,9,10] [.pt 16 0,(.ci (.sl (.gate l))),(.ii (l.length:Int)),.v (.c (.int .i64 (i:Int)))] [16] [(eF [(.sl (.gate l)),(.int .i64 p),(.int .i64 v)])] 112 [] []
theorem qX1_end (l:List GateD) (p v:Int) (i:Nat):runEnd env1 Try.f18 false 3000 (⟨lpIn qIn_k,.normal,qS l p v i⟩) [false,true,true,true] [] []=(some ([((decide ((i:Int)<(l.length:Int)))=false),((decide ((l.length:Int)≤(4096:Int)))=true),((decide (p ≥ (0:Int)))=true),((decide (p≤(l.length:Int)))=true)],((.ci (.bool (decide (v ≥ (0:Int))))),[]))):=by kernel_rfl
theorem qX2_end (l:List GateD) (p v:Int) (i:Nat):runEnd env1 Try.f18 false 3000 (⟨lpIn qIn_k,.normal,qS l p v i⟩) [false,true,true,false] [] []=(some ([((decide ((i:Int)<(l.length:Int)))=false),((decide ((l.length:Int)≤(4096:Int)))=true),((decide (p ≥ (0:Int)))=true),((decide (p≤(l.length:Int)))=false)],((.ci (.lit false)),[]))):=by kernel_rfl
theorem qX3_end (l:List GateD) (p v:Int) (i:Nat):runEnd env1 Try.f18 false 3000 (⟨lpIn qIn_k,.normal,qS l p v i⟩) [false,true,false,false] [] []=(some ([((decide ((i:Int)<(l.length:Int)))=false),((decide ((l.length:Int)≤(4096:Int)))=true),((decide (p ≥ (0:Int)))=false)],((.ci (.lit false)),[]))):=by kernel_rfl
theorem qX4_end (l:List GateD) (p v:Int) (i:Nat):runEnd env1 Try.f18 false 3000 (⟨lpIn qIn_k,.normal,qS l p v i⟩) [false,false,false,false] [] []=(some ([((decide ((i:Int)<(l.length:Int)))=false),((decide ((l.length:Int)≤(4096:Int)))=false)],((.ci (.lit false)),[]))):=by kernel_rfl
--@unroll true
theorem qA1_end (l:List GateD) (p v:Int) (i:Nat):runEnd env1 Try.f18 true 3000 (⟨lpIn qIn_k,.normal,qS l p v i⟩) [true,true,true] [] []=(some ([((decide ((i:Int)<(l.length:Int)))=true),(0≤(i:Int)),((i:Int)<(l.length:Int)),((decide (0<(3:Int)))=true),(0≤(0:Int)),(0<(3:Int)),((decide ((GateD.a (List.getD l ((i:Int)).toNat gate0))<(-1)))=true)],((.ci (.lit false)),[]))):=by kernel_rfl
theorem qC1_end (l:List GateD) (p v:Int) (i:Nat):runEnd env1 Try.f18 true 3000 (⟨lpIn qIn_k,.normal,qS l p v i⟩) [true,true,false,true] [] []=(some ([((decide ((i:Int)<(l.length:Int)))=true),(0≤(i:Int)),((i:Int)<(l.length:Int)),((decide (0<(3:Int)))=true),(0≤(0:Int)),(0<(3:Int)),((decide ((GateD.a (List.getD l ((i:Int)).toNat gate0))<(-1)))=false),((decide ((GateD.a (List.getD l ((i:Int)).toNat gate0)) ≥ v))=true)],((.ci (.lit false)),[]))):=by kernel_rfl
theorem qA2_end (l:List GateD) (p v:Int) (i:Nat):runEnd env1 Try.f18 true 3000 (⟨lpIn qIn_k,.normal,qS l p v i⟩) [true,true,false,false,true,true] [] []=(some ([((decide ((i:Int)<(l.length:Int)))=true),(0≤(i:Int)),((i:Int)<(l.length:Int)),((decide (0<(3:Int)))=true),(0≤(0:Int)),(0<(3:Int)),((decide ((GateD.a (List.getD l ((i:Int)).toNat gate0))<(-1)))=false),((decide ((GateD.a (List.getD l ((i:Int)).toNat gate0)) ≥ v))=false),((decide ((1:Int)<(3:Int)))=true),(0≤(1:Int)),((1:Int)<(3:Int)),((decide ((GateD.b (List.getD l ((i:Int)).toNat gate0))<(-1)))=true)],((.ci (.lit false)),[]))):=by kernel_rfl
theorem qC2_end (l:List GateD) (p v:Int) (i:Nat):runEnd env1 Try.f18 true 3000 (⟨lpIn qIn_k,.normal,qS l p v i⟩) [true,true,false,false,true,false,true] [] []=(some ([((decide ((i:Int)<(l.length:Int)))=true),(0≤(i:Int)),((i:Int)<(l.length:Int)),((decide (0<(3:Int)))=true),(0≤(0:Int)),(0<(3:Int)),((decide ((GateD.a (List.getD l ((i:Int)).toNat gate0))<(-1)))=false),((decide ((GateD.a (List.getD l ((i:Int)).toNat gate0)) ≥ v))=false),((decide ((1:Int)<(3:Int)))=true),(0≤(1:Int)),((1:Int)<(3:Int)),((decide ((GateD.b (List.getD l ((i:Int)).toNat gate0))<(-1)))=false),((decide ((GateD.b (List.getD l ((i:Int)).toNat gate0)) ≥ v))=true)],((.ci (.lit false)),[]))):=by kernel_rfl
theorem qA3_end (l:List GateD) (p v:Int) (i:Nat):runEnd env1 Try.f18 true 3000 (⟨lpIn qIn_k,.normal,qS l p v i⟩) [true,true,false,false,true,false,false,true,true] [] []=(some ([((decide ((i:Int)<(l.length:Int)))=true),(0≤(i:Int)),((i:Int)<(l.length:Int)),((decide (0<(3:Int)))=true),(0≤(0:Int)),(0<(3:Int)),((decide ((GateD.a (List.getD l ((i:Int)).toNat gate0))<(-1)))=false),((decide ((GateD.a (List.getD l ((i:Int)).toNat gate0)) ≥ v))=false),((decide ((1:Int)<(3:Int)))=true),(0≤(1:Int)),((1:Int)<(3:Int)),((decide ((GateD.b (List.getD l ((i:Int)).toNat gate0))<(-1)))=false),((decide ((GateD.b (List.getD l ((i:Int)).toNat gate0)) ≥ v))=false),((decide ((2:Int)<(3:Int)))=true),(0≤(2:Int)),((2:Int)<(3:Int)),((decide ((GateD.c (List.getD l ((i:Int)).toNat gate0))<(-1)))=true)],((.ci (.lit false)),[]))):=by kernel_rfl
theorem qC3_end (l:List GateD) (p v:Int) (i:Nat):runEnd env1 Try.f18 true 3000 (⟨lpIn qIn_k,.normal,qS l p v i⟩) [true,true,false,false,true,false,false,true,false,true] [] []=(some ([((decide ((i:Int)<(l.length:Int)))=true),(0≤(i:Int)),((i:Int)<(l.length:Int)),((decide (0<(3:Int)))=true),(0≤(0:Int)),(0<(3:Int)),((decide ((GateD.a (List.getD l ((i:Int)).toNat gate0))<(-1)))=false),((decide ((GateD.a (List.getD l ((i:Int)).toNat gate0)) ≥ v))=false),((decide ((1:Int)<(3:Int)))=true),(0≤(1:Int)),((1:Int)<(3:Int)),((decide ((GateD.b (List.getD l ((i:Int)).toNat gate0))<(-1)))=false),((decide ((GateD.b (List.getD l ((i:Int)).toNat gate0)) ≥ v))=false),((decide ((2:Int)<(3:Int)))=true),(0≤(2:Int)),((2:Int)<(3:Int)),((decide ((GateD.c (List.getD l ((i:Int)).toNat gate0))<(-1)))=false),((decide ((GateD.c (List.getD l ((i:Int)).toNat gate0)) ≥ v))=true)],((.ci (.lit false)),[]))):=by kernel_rfl
theorem qNx (l:List GateD) (p v:Int) (i:Nat) (ho:AllP [((decide ((i:Int)<(l.length:Int)))=true),(0≤(i:Int)),((i:Int)<(l.length:Int)),((decide (0<(3:Int)))=true),(0≤(0:Int)),(0<(3:Int)),((decide ((GateD.a (List.getD l ((i:Int)).toNat gate0))<(-1)))=false),((decide ((GateD.a (List.getD l ((i:Int)).toNat gate0)) ≥ v))=false),((decide ((1:Int)<(3:Int)))=true),(0≤(1:Int)),((1:Int)<(3:Int)),((decide ((GateD.b (List.getD l ((i:Int)).toNat gate0))<(-1)))=false),((decide ((GateD.b (List.getD l ((i:Int)).toNat gate0)) ≥ v))=false),((decide ((2:Int)<(3:Int)))=true),(0≤(2:Int)),((2:Int)<(3:Int)),((decide ((GateD.c (List.getD l ((i:Int)).toNat gate0))<(-1)))=false),((decide ((GateD.c (List.getD l ((i:Int)).toNat gate0)) ≥ v))=false),((decide ((3:Int)<(3:Int)))=false)]):Sg Try.prog (qS l p v i) (mkSt 51 [1,8,9,10] [.pt 16 0,(.ci (.sl (.gate l))),(.ii (l.length:Int)),(.ii (wrap .i64 ((i:Int)+1)))] [16] [(eF [(.sl (.gate l)),(.int .i64 p),(.int .i64 v)])] 912 [] []) .normal (lpBk qIn_k) (lpIn qIn_k):=fun hs hK=>
 run_at2 (unroll:=true) (n:=138) (path:=[true,true,false,false,true,false,false,true,false,false,false]) (o:=⟨_,_,_,_,_,_,_⟩) env1_ok (by kernel_rfl) (by kernel_rfl) ho hs hK
end
end

set_option linter.unusedSimpArgs false
section

theorem right18_fnd (l:List GateD) (p v:Int):FnD Try.prog 18 [circV l p v] (.v (.c (.bool (rightB l p v)))) []:=by
 refine fn_start (fn:=Try.f18) (c:=bodyOf Try.f18) Try.func18 rfl rfl fun x a hk hF hs=>?_
 refine qIn l p v trivial hs fun ac y b hs1=>?_
 have hlen:l.length≤maxLen:=sl_len (q:=.gate l) (hs1.t 8)
 unfold maxLen at hlen
 refine loop_rule (ι:={ i:Nat // i≤l.length∧l.all (gateB v)=(l.drop i).all (gateB v) }) (fun i=>qS l p v i.1) (fun i=>l.length-i.1) (c:=lpC qIn_k) (k:=lpR qIn_k) (by kernel_rfl) (fun i ih ac y b hs=>?_) ⟨0,Nat.zero_le _,rfl⟩ hs1
 obtain ⟨i,hi,hall⟩:=i
 simp only at ih hs
 by_cases h5:i<l.length
 ·rw[all_drop (gateB v) gate0 l i h5] at hall
  have hg:∃g,g=l.getD i gate0:=⟨_,rfl⟩
  obtain ⟨g,hg⟩:=hg
  rw[←hg] at hall
  have hgb:gateB v g=(wireB v g.a && wireB v g.b && wireB v g.c):=rfl
  rw[hgb] at hall
  clear hi
  by_cases a1:g.a < -1
  ·have w:wireB v g.a=false:=by simp only[wireB,Bool.and_eq_false_iff,decide_eq_false_iff_not];omega
   exact run_end env1_ok hk hF (qA1_end l p v i) (by simp only[AllP,and_true,decide_eq_true_eq,decide_eq_false_iff_not,Int.toNat_natCast,wrap01,wrap12,wrap23,←hg];omega) (fun y w' hd=>lit_bool (by simp [rightB,hall,w]) hd) hs
  by_cases c1:g.a ≥ v
  ·have w:wireB v g.a=false:=by simp only[wireB,Bool.and_eq_false_iff,decide_eq_false_iff_not];omega
   exact run_end env1_ok hk hF (qC1_end l p v i) (by simp only[AllP,and_true,decide_eq_true_eq,decide_eq_false_iff_not,Int.toNat_natCast,wrap01,wrap12,wrap23,←hg];omega) (fun y w' hd=>lit_bool (by simp [rightB,hall,w]) hd) hs
  have w1:wireB v g.a=true:=by simp only[wireB,Bool.and_eq_true,decide_eq_true_eq];omega
  by_cases a2:g.b < -1
  ·have w:wireB v g.b=false:=by simp only[wireB,Bool.and_eq_false_iff,decide_eq_false_iff_not];omega
   exact run_end env1_ok hk hF (qA2_end l p v i) (by simp only[AllP,and_true,decide_eq_true_eq,decide_eq_false_iff_not,Int.toNat_natCast,wrap01,wrap12,wrap23,←hg];omega) (fun y w' hd=>lit_bool (by simp [rightB,hall,w]) hd) hs
  by_cases c2:g.b ≥ v
  ·have w:wireB v g.b=false:=by simp only[wireB,Bool.and_eq_false_iff,decide_eq_false_iff_not];omega
   exact run_end env1_ok hk hF (qC2_end l p v i) (by simp only[AllP,and_true,decide_eq_true_eq,decide_eq_false_iff_not,Int.toNat_natCast,wrap01,wrap12,wrap23,←hg];omega) (fun y w' hd=>lit_bool (by simp [rightB,hall,w]) hd) hs
  have w2:wireB v g.b=true:=by simp only[wireB,Bool.and_eq_true,decide_eq_true_eq];omega
  by_cases a3:g.c < -1
  ·have w:wireB v g.c=false:=by simp only[wireB,Bool.and_eq_false_iff,decide_eq_false_iff_not];omega
   exact run_end env1_ok hk hF (qA3_end l p v i) (by simp only[AllP,and_true,decide_eq_true_eq,decide_eq_false_iff_not,Int.toNat_natCast,wrap01,wrap12,wrap23,←hg];omega) (fun y w' hd=>lit_bool (by simp [rightB,hall,w]) hd) hs
  by_cases c3:g.c ≥ v
  ·have w:wireB v g.c=false:=by simp only[wireB,Bool.and_eq_false_iff,decide_eq_false_iff_not];omega
   exact run_end env1_ok hk hF (qC3_end l p v i) (by simp only[AllP,and_true,decide_eq_true_eq,decide_eq_false_iff_not,Int.toNat_natCast,wrap01,wrap12,wrap23,←hg];omega) (fun y w' hd=>lit_bool (by simp [rightB,hall,w]) hd) hs
  have w3:wireB v g.c=true:=by simp only[wireB,Bool.and_eq_true,decide_eq_true_eq];omega
  refine qNx l p v i (by simp only[AllP,and_true,decide_eq_true_eq,decide_eq_false_iff_not,Int.toNat_natCast,wrap01,wrap12,wrap23,←hg];omega) hs fun ac y b hs2=>?_
  rw[wrap_id (by omega) (by omega)] at hs2
  exact ih ⟨i+1,h5,by rw[hall,w1,w2,w3];rfl⟩ (by show l.length-(i+1)<l.length-i;omega) ac y b (hs2.nx _)
 ·have hall:l.all (gateB v)=true:=by rw[hall,List.drop_eq_nil_of_le (by omega)];rfl
  have hrb:rightB l p v=(decide (l.length≤4096) && decide (0≤p) && decide (p≤l.length) && decide (0≤v)):=by simp [rightB,hall]
  by_cases k1:l.length≤4096
  ·by_cases k2:0≤p
   ·by_cases k3:p≤l.length
    ·refine run_end env1_ok hk hF (qX1_end l p v i) (by simp only[AllP,and_true,decide_eq_true_eq,decide_eq_false_iff_not];omega) (fun y w hd=>?_) hs
     rw[show rightB l p v=decide (v ≥ (0:Int)) from by rw[hrb];simp [k1,k2,k3]];exact hd
    ·exact run_end env1_ok hk hF (qX2_end l p v i) (by simp only[AllP,and_true,decide_eq_true_eq,decide_eq_false_iff_not];omega) (fun y w hd=>lit_bool (by rw[hrb];simp [k3]) hd) hs
   ·exact run_end env1_ok hk hF (qX3_end l p v i) (by simp only[AllP,and_true,decide_eq_true_eq,decide_eq_false_iff_not];omega) (fun y w hd=>lit_bool (by rw[hrb];simp [k2]) hd) hs
  ·exact run_end env1_ok hk hF (qX4_end l p v i) (by simp only[AllP,and_true,decide_eq_true_eq,decide_eq_false_iff_not];omega) (fun y w hd=>lit_bool (by rw[hrb];simp [k1]) hd) hs

end

section

def mulU (a b:U4):U4:=Fin.ofNat B4 (a.val*b.val % rN)
theorem outF_lt (x:Fr):(outF x).val<rN:=by rw[outF_val];exact x.isLt
theorem in_out (x:Fr):inF (outF x)=x:=by
 apply Fin.ext
 show (outF x).val % rN=x.val
 rw[outF_val,Nat.mod_eq_of_lt x.isLt]
theorem out_in {a:U4} (h:a.val<rN):outF (inF a)=a:=by
 apply Fin.ext
 rw[outF_val]
 exact Nat.mod_eq_of_lt h
theorem mulU_out (x y:Fr):mulU (outF x) (outF y)=outF (x*y):=by
 apply Fin.ext
 rw[outF_val]
 show ((outF x).val*(outF y).val % rN) % B4=(x*y).val
 rw[outF_val,outF_val]
 exact Nat.mod_eq_of_lt (Nat.lt_trans (Nat.mod_lt _ (by decide)) (by decide))
theorem clean_out (a:U4):cleanU a=outF (inF a):=by
 apply Fin.ext
 rw[cleanU_val,outF_val]
 rfl
theorem addU_out (x y:Fr):cleanU (outF x+outF y)=outF (x+y):=by
 apply Fin.ext
 rw[clean_add_val (outF_lt x) (outF_lt y),outF_val,outF_val,outF_val]
 rfl
theorem outF_zero (x:Fr):outF x=0↔x=0:=by
 refine ⟨fun e=>Fin.ext ?_,fun e=>?_⟩
 ·have:=congrArg Fin.val e
  rw[outF_val] at this
  exact this
 ·subst e
  apply Fin.ext
  rw[outF_val]
  rfl
theorem neg_arith {r B n:Nat} (h0:0<n) (h:n<r) (hb:r<B):(B-n+r) % B=(r-n) % r:=by
 rw[Nat.mod_eq_of_lt (a:=r-n) (by omega),show B-n+r=(r-n)+B from by omega,Nat.add_mod_right,Nat.mod_eq_of_lt (by omega)]
theorem negU_val {x:Fr} (h:x≠0):rU-outF x=outF (0-x):=by
 apply Fin.ext
 have hx:0<x.val:=Nat.pos_of_ne_zero fun e=>h (Fin.ext e)
 have hlt:=x.isLt
 have e1:(rU-outF x).val=(B4-(outF x).val+rU.val) % B4:=rfl
 have e2:(0-x).val=(rN-x.val+(0:Fr).val) % rN:=rfl
 have e3:(0:Fr).val=0:=rfl
 have hb:rN<B4:=by decide
 rw[e1,outF_val,outF_val,e2,e3,rU_val,Nat.add_zero]
 exact neg_arith hx hlt hb
theorem refNeg_out (x:Fr):FnD Try.prog 34 [.v (.a [.ob (.fr (outF x))])] (.v (.a [.ob (.fr (outF (0-x)))])) []:=by
 by_cases h:x=0
 ·subst h
  have e:outF (0:Fr)=0:=by apply Fin.ext;rw[outF_val];rfl
  have e2:(0:Fr)-0=0:=Fin.ext (by show (rN-0+0) % rN=0;rw[Nat.add_zero,Nat.sub_zero,Nat.mod_self])
  have r:=negA (outF 0)
  rw[e2]
  exact fn_sound envJ_ok Try.func34 r ⟨by rw[if_pos rfl,e];rfl,trivial⟩
 ·have r:=negB (outF x)
  rw[negU_val h] at r
  have hne:outF x≠0:=fun e=>h (Fin.ext (by have:=congrArg Fin.val e;rw[outF_val] at this;exact this))
  exact fn_sound envJ_ok Try.func34 r ⟨by rw[if_pos rfl,decide_eq_false hne],trivial⟩
theorem refNeg_fnd (a:U4) (h:a.val<rN):FnD Try.prog 34 [.v (.a [.ob (.fr a)])] (.v (.a [.ob (.fr (outF (0-inF a)))])) []:=by
 have:=refNeg_out (inF a)
 rw[out_in h] at this
 exact this

/-- What lies on a wire. -/
def wireF (l:List U4) (i:Int):Fr:=if i<0 then 0 else inF (l.getD i.toNat 0)
end

section

def hA:Env:=envK.or env1
theorem hA_ok:EnvOk Try.prog hA:=env_or envK_ok env1_ok
def right18Spec:FnSpec
 | [.v (.a [.sl (.gate l),.int .i64 p,.int .i64 v])]=>some ([],.v (.c (.bool (rightB l p v))),[])
 | _=>none
def hB:Env:=hA.set (addT hA.fn 18 right18Spec)
theorem hB_ok:EnvOk Try.prog hB:=env_add hA_ok 18 right18Spec (enters_of Try.func18 rfl rfl) fun args o r es h _=>by
 unfold right18Spec at h
 split at h
 ·cases h;exact right18_fnd _ _ _
 ·cases h
def mulUSpec:FnSpec
 | [.v (.a [.ob (.fr a)]),.v (.a [.ob (.fr b)])]=>some ([b.val<rN],.v (.a [.ob (.fr (mulU a b))]),[])
 | _=>none
def hC:Env:=hB.set (addT hB.fn 73 mulUSpec)
theorem hC_ok:EnvOk Try.prog hC:=env_add hB_ok 73 mulUSpec (enters_of Try.func73 rfl rfl) fun args o r es h ho=>by
 unfold mulUSpec at h
 split at h
 ·cases h;exact mulU_fnd _ _ ho.1
 ·cases h
def negSpec34:FnSpec
 | [.v (.a [.ob (.fr a)])]=>some ([a.val<rN],.v (.a [.ob (.fr (outF (0-inF a)))]),[])
 | _=>none
def hD:Env:=hC.set (addT hC.fn 34 negSpec34)
theorem hD_ok:EnvOk Try.prog hD:=env_add hC_ok 34 negSpec34 (enters_of Try.func34 rfl rfl) fun args o r es h ho=>by
 unfold negSpec34 at h
 split at h
 ·cases h;exact refNeg_fnd _ ho.1
 ·cases h
--@env hD hD_ok
theorem wrA (l:List U4) (i:Int):fnRes hD Try.f71 3000 [.v (.c (.sl (.fr l))),.v (.c (.int .i64 i))] [true] [] []=(some ([((decide (i<(0:Int)))=true)],((.v (.a [(.ob (.fr (0:U4)))])),[]))):=by kernel_rfl
theorem wrB (l:List U4) (i:Int):fnRes hD Try.f71 3000 [.v (.c (.sl (.fr l))),.v (.c (.int .i64 i))] [false] [] []=(some ([((decide (i<(0:Int)))=false),(0≤i),(i<(l.length:Int))],((.v (.a [(.ob (.fr (cleanU (l.getD i.toNat 0))))])),[]))):=by kernel_rfl
theorem wiA (l:List U4) (i:Int):fnRes hD Try.f28 3000 [.v (.c (.int .i64 i)),.v (.c (.rp (.frs [l]) 0 0))] [true] [] []=(some ([((decide (i<(0:Int)))=true)],((.v (.a [(.ob (.s (0:Fr)))])),[]))):=by kernel_rfl
theorem wiB (l:List U4) (i:Int):fnRes hD Try.f28 3000 [.v (.c (.int .i64 i)),.v (.c (.rp (.frs [l]) 0 0))] [false] [] []=(some ([((decide (i<(0:Int)))=false),(0≤i),(i<(l.length:Int))],((.v (.a [(.ob (.s (inF (l.getD i.toNat 0))))])),[]))):=by kernel_rfl
end

section
section
variable {w0:World} {F0:Nat→Prop} {K:Kp} {ac:List Act} {Q:Exit→Act→World→Prop} {cX:Ctx} {aX:Act}

--@env hD hD_ok
--@unroll true
theorem ck1 (a b c m:Int) (k:U4) (ks:List U4) (vs:List Int) (n:Int):fnRes hD Try.f23 3000 [.v (.a [.int .i64 1,.int .i64 a,.int .i64 b,.int .i64 c,.int .i64 m,.ob (.fr k),.sl (.fr ks),.sl (.int vs)]),.v (.c (.int .i64 n))] [true,true,false,false] [] []=(some ([(((1:Int)==1)=true),(((1:Int)==1)=true),((decide (0<(0:Int)))=false),((decide ((-1) ≥ (0:Int)))=false)],((.ii (0:Int)),[]))):=by kernel_rfl
theorem ck3 (a b c m:Int) (k:U4) (ks:List U4) (vs:List Int) (n:Int):fnRes hD Try.f23 3000 [.v (.a [.int .i64 3,.int .i64 a,.int .i64 b,.int .i64 c,.int .i64 m,.ob (.fr k),.sl (.fr ks),.sl (.int vs)]),.v (.c (.int .i64 n))] [false,true,false,false] [] []=(some ([(((3:Int)==1)=false),(((3:Int)==3)=true),((decide (0<(0:Int)))=false),((decide ((-1) ≥ (0:Int)))=false)],((.ii (0:Int)),[]))):=by kernel_rfl
theorem ck6A (a b c m:Int) (k:U4) (ks:List U4) (vs:List Int) (n:Int):fnRes hD Try.f23 3000 [.v (.a [.int .i64 6,.int .i64 a,.int .i64 b,.int .i64 c,.int .i64 m,.ob (.fr k),.sl (.fr ks),.sl (.int vs)]),.v (.c (.int .i64 n))] [false,false,true,true,true] [] []=(some ([(((6:Int)==1)=false),(((6:Int)==3)=false),(((6:Int)==6)=true),((decide ((vs.length:Int)<(1:Int)))=true)],((.ii (3:Int)),[]))):=by kernel_rfl
theorem ck6B (a b c m:Int) (k:U4) (ks:List U4) (vs:List Int) (n:Int):fnRes hD Try.f23 3000 [.v (.a [.int .i64 6,.int .i64 a,.int .i64 b,.int .i64 c,.int .i64 m,.ob (.fr k),.sl (.fr ks),.sl (.int vs)]),.v (.c (.int .i64 n))] [false,false,true,false,true] [] []=(some ([(((6:Int)==1)=false),(((6:Int)==3)=false),(((6:Int)==6)=true),((decide ((vs.length:Int)<(1:Int)))=false),((decide ((vs.length:Int) > (64:Int)))=true)],((.ii (3:Int)),[]))):=by kernel_rfl
theorem ck6C (a b c m:Int) (k:U4) (ks:List U4) (vs:List Int) (n:Int):fnRes hD Try.f23 3000 [.v (.a [.int .i64 6,.int .i64 a,.int .i64 b,.int .i64 c,.int .i64 m,.ob (.fr k),.sl (.fr ks),.sl (.int vs)]),.v (.c (.int .i64 n))] [false,false,true,false,false,true] [] []=(some ([(((6:Int)==1)=false),(((6:Int)==3)=false),(((6:Int)==6)=true),((decide ((vs.length:Int)<(1:Int)))=false),((decide ((vs.length:Int) > (64:Int)))=false),(((ks.length:Int) != (vs.length:Int))=true)],((.ii (3:Int)),[]))):=by kernel_rfl
theorem ck10A (a b c m:Int) (k:U4) (ks:List U4) (vs:List Int) (n:Int):fnRes hD Try.f23 3000 [.v (.a [.int .i64 10,.int .i64 a,.int .i64 b,.int .i64 c,.int .i64 m,.ob (.fr k),.sl (.fr ks),.sl (.int vs)]),.v (.c (.int .i64 n))] [false,false,false,false,false,false,false,false,false,false,true,true] [] []=(some ([(((10:Int)==1)=false),(((10:Int)==3)=false),(((10:Int)==6)=false),(((10:Int)==8)=false),(((10:Int)==4)=false),(((10:Int)==5)=false),(((10:Int)==11)=false),(((10:Int)==2)=false),(((10:Int)==7)=false),(((10:Int)==9)=false),(((10:Int)==10)=true),((1*8)≤140737488355328),(1≤maxLen),(1=1),((decide (m<(1:Int)))=true)],((.ii (62:Int)),[]))):=by kernel_rfl
theorem ck10B (a b c m:Int) (k:U4) (ks:List U4) (vs:List Int) (n:Int):fnRes hD Try.f23 3000 [.v (.a [.int .i64 10,.int .i64 a,.int .i64 b,.int .i64 c,.int .i64 m,.ob (.fr k),.sl (.fr ks),.sl (.int vs)]),.v (.c (.int .i64 n))] [false,false,false,false,false,false,false,false,false,false,true,false,true] [] []=(some ([(((10:Int)==1)=false),(((10:Int)==3)=false),(((10:Int)==6)=false),(((10:Int)==8)=false),(((10:Int)==4)=false),(((10:Int)==5)=false),(((10:Int)==11)=false),(((10:Int)==2)=false),(((10:Int)==7)=false),(((10:Int)==9)=false),(((10:Int)==10)=true),((1*8)≤140737488355328),(1≤maxLen),(1=1),((decide (m<(1:Int)))=false),((decide (m > (254:Int)))=true)],((.ii (62:Int)),[]))):=by kernel_rfl
theorem ck2al (a b c m:Int) (k:U4) (ks:List U4) (vs:List Int) (n:Int):fnRes hD Try.f23 3000 [.v (.a [.int .i64 2,.int .i64 a,.int .i64 b,.int .i64 c,.int .i64 m,.ob (.fr k),.sl (.fr ks),.sl (.int vs)]),.v (.c (.int .i64 n))] [false,false,false,false,false,false,false,true,true,true,true,true] [] []=(some ([(((2:Int)==1)=false),(((2:Int)==3)=false),(((2:Int)==6)=false),(((2:Int)==8)=false),(((2:Int)==4)=false),(((2:Int)==5)=false),(((2:Int)==11)=false),(((2:Int)==2)=true),(((2:Int)==2)=true),((1*8)≤140737488355328),(1≤maxLen),(1=1),((decide (0<((1:Nat):Int)))=true),(0≤(0:Int)),(0<((1:Nat):Int)),(0=0),(0<1),((decide (a<(0:Int)))=true),((decide ((0:Int) ≥ (0:Int)))=true)],((.ii (60:Int)),[]))):=by kernel_rfl
theorem ck2ag (a b c m:Int) (k:U4) (ks:List U4) (vs:List Int) (n:Int):fnRes hD Try.f23 3000 [.v (.a [.int .i64 2,.int .i64 a,.int .i64 b,.int .i64 c,.int .i64 m,.ob (.fr k),.sl (.fr ks),.sl (.int vs)]),.v (.c (.int .i64 n))] [false,false,false,false,false,false,false,true,true,true,false,true,true] [] []=(some ([(((2:Int)==1)=false),(((2:Int)==3)=false),(((2:Int)==6)=false),(((2:Int)==8)=false),(((2:Int)==4)=false),(((2:Int)==5)=false),(((2:Int)==11)=false),(((2:Int)==2)=true),(((2:Int)==2)=true),((1*8)≤140737488355328),(1≤maxLen),(1=1),((decide (0<((1:Nat):Int)))=true),(0≤(0:Int)),(0<((1:Nat):Int)),(0=0),(0<1),((decide (a<(0:Int)))=false),((decide (a ≥ n))=true),((decide ((0:Int) ≥ (0:Int)))=true)],((.ii (60:Int)),[]))):=by kernel_rfl
theorem ck2k (a b c m:Int) (k:U4) (ks:List U4) (vs:List Int) (n:Int):fnRes hD Try.f23 3000 [.v (.a [.int .i64 2,.int .i64 a,.int .i64 b,.int .i64 c,.int .i64 m,.ob (.fr k),.sl (.fr ks),.sl (.int vs)]),.v (.c (.int .i64 n))] [false,false,false,false,false,false,false,true,true,true,false,false,false,false] [] []=(some ([(((2:Int)==1)=false),(((2:Int)==3)=false),(((2:Int)==6)=false),(((2:Int)==8)=false),(((2:Int)==4)=false),(((2:Int)==5)=false),(((2:Int)==11)=false),(((2:Int)==2)=true),(((2:Int)==2)=true),((1*8)≤140737488355328),(1≤maxLen),(1=1),((decide (0<((1:Nat):Int)))=true),(0≤(0:Int)),(0<((1:Nat):Int)),(0=0),(0<1),((decide (a<(0:Int)))=false),((decide (a ≥ n))=false),((decide ((1:Int)<((1:Nat):Int)))=false),((decide ((-1) ≥ (0:Int)))=false)],((.ii (0:Int)),[]))):=by kernel_rfl
theorem ck7al (a b c m:Int) (k:U4) (ks:List U4) (vs:List Int) (n:Int):fnRes hD Try.f23 3000 [.v (.a [.int .i64 7,.int .i64 a,.int .i64 b,.int .i64 c,.int .i64 m,.ob (.fr k),.sl (.fr ks),.sl (.int vs)]),.v (.c (.int .i64 n))] [false,false,false,false,false,false,false,false,true,true,true,true,true] [] []=(some ([(((7:Int)==1)=false),(((7:Int)==3)=false),(((7:Int)==6)=false),(((7:Int)==8)=false),(((7:Int)==4)=false),(((7:Int)==5)=false),(((7:Int)==11)=false),(((7:Int)==2)=false),(((7:Int)==7)=true),(((7:Int)==7)=true),((1*8)≤140737488355328),(1≤maxLen),(1=1),((decide (0<((1:Nat):Int)))=true),(0≤(0:Int)),(0<((1:Nat):Int)),(0=0),(0<1),((decide (a<(0:Int)))=true),((decide ((0:Int) ≥ (0:Int)))=true)],((.ii (60:Int)),[]))):=by kernel_rfl
theorem ck7ag (a b c m:Int) (k:U4) (ks:List U4) (vs:List Int) (n:Int):fnRes hD Try.f23 3000 [.v (.a [.int .i64 7,.int .i64 a,.int .i64 b,.int .i64 c,.int .i64 m,.ob (.fr k),.sl (.fr ks),.sl (.int vs)]),.v (.c (.int .i64 n))] [false,false,false,false,false,false,false,false,true,true,true,false,true,true] [] []=(some ([(((7:Int)==1)=false),(((7:Int)==3)=false),(((7:Int)==6)=false),(((7:Int)==8)=false),(((7:Int)==4)=false),(((7:Int)==5)=false),(((7:Int)==11)=false),(((7:Int)==2)=false),(((7:Int)==7)=true),(((7:Int)==7)=true),((1*8)≤140737488355328),(1≤maxLen),(1=1),((decide (0<((1:Nat):Int)))=true),(0≤(0:Int)),(0<((1:Nat):Int)),(0=0),(0<1),((decide (a<(0:Int)))=false),((decide (a ≥ n))=true),((decide ((0:Int) ≥ (0:Int)))=true)],((.ii (60:Int)),[]))):=by kernel_rfl
theorem ck7k (a b c m:Int) (k:U4) (ks:List U4) (vs:List Int) (n:Int):fnRes hD Try.f23 3000 [.v (.a [.int .i64 7,.int .i64 a,.int .i64 b,.int .i64 c,.int .i64 m,.ob (.fr k),.sl (.fr ks),.sl (.int vs)]),.v (.c (.int .i64 n))] [false,false,false,false,false,false,false,false,true,true,true,false,false,false,false] [] []=(some ([(((7:Int)==1)=false),(((7:Int)==3)=false),(((7:Int)==6)=false),(((7:Int)==8)=false),(((7:Int)==4)=false),(((7:Int)==5)=false),(((7:Int)==11)=false),(((7:Int)==2)=false),(((7:Int)==7)=true),(((7:Int)==7)=true),((1*8)≤140737488355328),(1≤maxLen),(1=1),((decide (0<((1:Nat):Int)))=true),(0≤(0:Int)),(0<((1:Nat):Int)),(0=0),(0<1),((decide (a<(0:Int)))=false),((decide (a ≥ n))=false),((decide ((1:Int)<((1:Nat):Int)))=false),((decide ((-1) ≥ (0:Int)))=false)],((.ii (0:Int)),[]))):=by kernel_rfl
theorem ck9al (a b c m:Int) (k:U4) (ks:List U4) (vs:List Int) (n:Int):fnRes hD Try.f23 3000 [.v (.a [.int .i64 9,.int .i64 a,.int .i64 b,.int .i64 c,.int .i64 m,.ob (.fr k),.sl (.fr ks),.sl (.int vs)]),.v (.c (.int .i64 n))] [false,false,false,false,false,false,false,false,false,true,true,true,true] [] []=(some ([(((9:Int)==1)=false),(((9:Int)==3)=false),(((9:Int)==6)=false),(((9:Int)==8)=false),(((9:Int)==4)=false),(((9:Int)==5)=false),(((9:Int)==11)=false),(((9:Int)==2)=false),(((9:Int)==7)=false),(((9:Int)==9)=true),((1*8)≤140737488355328),(1≤maxLen),(1=1),((decide (0<((1:Nat):Int)))=true),(0≤(0:Int)),(0<((1:Nat):Int)),(0=0),(0<1),((decide (a<(0:Int)))=true),((decide ((0:Int) ≥ (0:Int)))=true)],((.ii (60:Int)),[]))):=by kernel_rfl
theorem ck9ag (a b c m:Int) (k:U4) (ks:List U4) (vs:List Int) (n:Int):fnRes hD Try.f23 3000 [.v (.a [.int .i64 9,.int .i64 a,.int .i64 b,.int .i64 c,.int .i64 m,.ob (.fr k),.sl (.fr ks),.sl (.int vs)]),.v (.c (.int .i64 n))] [false,false,false,false,false,false,false,false,false,true,true,false,true,true] [] []=(some ([(((9:Int)==1)=false),(((9:Int)==3)=false),(((9:Int)==6)=false),(((9:Int)==8)=false),(((9:Int)==4)=false),(((9:Int)==5)=false),(((9:Int)==11)=false),(((9:Int)==2)=false),(((9:Int)==7)=false),(((9:Int)==9)=true),((1*8)≤140737488355328),(1≤maxLen),(1=1),((decide (0<((1:Nat):Int)))=true),(0≤(0:Int)),(0<((1:Nat):Int)),(0=0),(0<1),((decide (a<(0:Int)))=false),((decide (a ≥ n))=true),((decide ((0:Int) ≥ (0:Int)))=true)],((.ii (60:Int)),[]))):=by kernel_rfl
theorem ck9k (a b c m:Int) (k:U4) (ks:List U4) (vs:List Int) (n:Int):fnRes hD Try.f23 3000 [.v (.a [.int .i64 9,.int .i64 a,.int .i64 b,.int .i64 c,.int .i64 m,.ob (.fr k),.sl (.fr ks),.sl (.int vs)]),.v (.c (.int .i64 n))] [false,false,false,false,false,false,false,false,false,true,true,false,false,false,false] [] []=(some ([(((9:Int)==1)=false),(((9:Int)==3)=false),(((9:Int)==6)=false),(((9:Int)==8)=false),(((9:Int)==4)=false),(((9:Int)==5)=false),(((9:Int)==11)=false),(((9:Int)==2)=false),(((9:Int)==7)=false),(((9:Int)==9)=true),((1*8)≤140737488355328),(1≤maxLen),(1=1),((decide (0<((1:Nat):Int)))=true),(0≤(0:Int)),(0<((1:Nat):Int)),(0=0),(0<1),((decide (a<(0:Int)))=false),((decide (a ≥ n))=false),((decide ((1:Int)<((1:Nat):Int)))=false),((decide ((-1) ≥ (0:Int)))=false)],((.ii (0:Int)),[]))):=by kernel_rfl
theorem ck4bl (a b c m:Int) (k:U4) (ks:List U4) (vs:List Int) (n:Int):fnRes hD Try.f23 3000 [.v (.a [.int .i64 4,.int .i64 a,.int .i64 b,.int .i64 c,.int .i64 m,.ob (.fr k),.sl (.fr ks),.sl (.int vs)]),.v (.c (.int .i64 n))] [false,false,false,false,true,true,true,true,true] [] []=(some ([(((4:Int)==1)=false),(((4:Int)==3)=false),(((4:Int)==6)=false),(((4:Int)==8)=false),(((4:Int)==4)=true),(((4:Int)==4)=true),((1*8)≤140737488355328),(1≤maxLen),(1=1),(((1+1)*8)≤140737488355328),((1+1)≤maxLen),(1=1),(1=1),((decide (0<(((1+1):Nat):Int)))=true),(0≤(0:Int)),(0<(((1+1):Nat):Int)),(0=0),(0<([b]++[a]).length),((decide ((List.getD ([b]++[a]) 0 (0:Int))<(0:Int)))=true),((decide ((0:Int) ≥ (0:Int)))=true)],((.ii (60:Int)),[]))):=by kernel_rfl
theorem ck4bg (a b c m:Int) (k:U4) (ks:List U4) (vs:List Int) (n:Int):fnRes hD Try.f23 3000 [.v (.a [.int .i64 4,.int .i64 a,.int .i64 b,.int .i64 c,.int .i64 m,.ob (.fr k),.sl (.fr ks),.sl (.int vs)]),.v (.c (.int .i64 n))] [false,false,false,false,true,true,true,false,true,true] [] []=(some ([(((4:Int)==1)=false),(((4:Int)==3)=false),(((4:Int)==6)=false),(((4:Int)==8)=false),(((4:Int)==4)=true),(((4:Int)==4)=true),((1*8)≤140737488355328),(1≤maxLen),(1=1),(((1+1)*8)≤140737488355328),((1+1)≤maxLen),(1=1),(1=1),((decide (0<(((1+1):Nat):Int)))=true),(0≤(0:Int)),(0<(((1+1):Nat):Int)),(0=0),(0<([b]++[a]).length),((decide ((List.getD ([b]++[a]) 0 (0:Int))<(0:Int)))=false),((decide ((List.getD ([b]++[a]) 0 (0:Int)) ≥ n))=true),((decide ((0:Int) ≥ (0:Int)))=true)],((.ii (60:Int)),[]))):=by kernel_rfl
theorem ck4al (a b c m:Int) (k:U4) (ks:List U4) (vs:List Int) (n:Int):fnRes hD Try.f23 3000 [.v (.a [.int .i64 4,.int .i64 a,.int .i64 b,.int .i64 c,.int .i64 m,.ob (.fr k),.sl (.fr ks),.sl (.int vs)]),.v (.c (.int .i64 n))] [false,false,false,false,true,true,true,false,false,true,true,true] [] []=(some ([(((4:Int)==1)=false),(((4:Int)==3)=false),(((4:Int)==6)=false),(((4:Int)==8)=false),(((4:Int)==4)=true),(((4:Int)==4)=true),((1*8)≤140737488355328),(1≤maxLen),(1=1),(((1+1)*8)≤140737488355328),((1+1)≤maxLen),(1=1),(1=1),((decide (0<(((1+1):Nat):Int)))=true),(0≤(0:Int)),(0<(((1+1):Nat):Int)),(0=0),(0<([b]++[a]).length),((decide ((List.getD ([b]++[a]) 0 (0:Int))<(0:Int)))=false),((decide ((List.getD ([b]++[a]) 0 (0:Int)) ≥ n))=false),((decide ((1:Int)<(((1+1):Nat):Int)))=true),(0≤(1:Int)),((1:Int)<(((1+1):Nat):Int)),(0=0),(1<([b]++[a]).length),((decide ((List.getD ([b]++[a]) 1 (0:Int))<(0:Int)))=true),((decide ((1:Int) ≥ (0:Int)))=true)],((.ii (60:Int)),[]))):=by kernel_rfl
theorem ck4ag (a b c m:Int) (k:U4) (ks:List U4) (vs:List Int) (n:Int):fnRes hD Try.f23 3000 [.v (.a [.int .i64 4,.int .i64 a,.int .i64 b,.int .i64 c,.int .i64 m,.ob (.fr k),.sl (.fr ks),.sl (.int vs)]),.v (.c (.int .i64 n))] [false,false,false,false,true,true,true,false,false,true,false,true,true] [] []=(some ([(((4:Int)==1)=false),(((4:Int)==3)=false),(((4:Int)==6)=false),(((4:Int)==8)=false),(((4:Int)==4)=true),(((4:Int)==4)=true),((1*8)≤140737488355328),(1≤maxLen),(1=1),(((1+1)*8)≤140737488355328),((1+1)≤maxLen),(1=1),(1=1),((decide (0<(((1+1):Nat):Int)))=true),(0≤(0:Int)),(0<(((1+1):Nat):Int)),(0=0),(0<([b]++[a]).length),((decide ((List.getD ([b]++[a]) 0 (0:Int))<(0:Int)))=false),((decide ((List.getD ([b]++[a]) 0 (0:Int)) ≥ n))=false),((decide ((1:Int)<(((1+1):Nat):Int)))=true),(0≤(1:Int)),((1:Int)<(((1+1):Nat):Int)),(0=0),(1<([b]++[a]).length),((decide ((List.getD ([b]++[a]) 1 (0:Int))<(0:Int)))=false),((decide ((List.getD ([b]++[a]) 1 (0:Int)) ≥ n))=true),((decide ((1:Int) ≥ (0:Int)))=true)],((.ii (60:Int)),[]))):=by kernel_rfl
theorem ck4k (a b c m:Int) (k:U4) (ks:List U4) (vs:List Int) (n:Int):fnRes hD Try.f23 3000 [.v (.a [.int .i64 4,.int .i64 a,.int .i64 b,.int .i64 c,.int .i64 m,.ob (.fr k),.sl (.fr ks),.sl (.int vs)]),.v (.c (.int .i64 n))] [false,false,false,false,true,true,true,false,false,true,false,false,false,false] [] []=(some ([(((4:Int)==1)=false),(((4:Int)==3)=false),(((4:Int)==6)=false),(((4:Int)==8)=false),(((4:Int)==4)=true),(((4:Int)==4)=true),((1*8)≤140737488355328),(1≤maxLen),(1=1),(((1+1)*8)≤140737488355328),((1+1)≤maxLen),(1=1),(1=1),((decide (0<(((1+1):Nat):Int)))=true),(0≤(0:Int)),(0<(((1+1):Nat):Int)),(0=0),(0<([b]++[a]).length),((decide ((List.getD ([b]++[a]) 0 (0:Int))<(0:Int)))=false),((decide ((List.getD ([b]++[a]) 0 (0:Int)) ≥ n))=false),((decide ((1:Int)<(((1+1):Nat):Int)))=true),(0≤(1:Int)),((1:Int)<(((1+1):Nat):Int)),(0=0),(1<([b]++[a]).length),((decide ((List.getD ([b]++[a]) 1 (0:Int))<(0:Int)))=false),((decide ((List.getD ([b]++[a]) 1 (0:Int)) ≥ n))=false),((decide ((2:Int)<(((1+1):Nat):Int)))=false),((decide ((-1) ≥ (0:Int)))=false)],((.ii (0:Int)),[]))):=by kernel_rfl
theorem ck5bl (a b c m:Int) (k:U4) (ks:List U4) (vs:List Int) (n:Int):fnRes hD Try.f23 3000 [.v (.a [.int .i64 5,.int .i64 a,.int .i64 b,.int .i64 c,.int .i64 m,.ob (.fr k),.sl (.fr ks),.sl (.int vs)]),.v (.c (.int .i64 n))] [false,false,false,false,false,true,true,true,true,true] [] []=(some ([(((5:Int)==1)=false),(((5:Int)==3)=false),(((5:Int)==6)=false),(((5:Int)==8)=false),(((5:Int)==4)=false),(((5:Int)==5)=true),(((5:Int)==5)=true),((1*8)≤140737488355328),(1≤maxLen),(1=1),(((1+1)*8)≤140737488355328),((1+1)≤maxLen),(1=1),(1=1),((decide (0<(((1+1):Nat):Int)))=true),(0≤(0:Int)),(0<(((1+1):Nat):Int)),(0=0),(0<([b]++[a]).length),((decide ((List.getD ([b]++[a]) 0 (0:Int))<(0:Int)))=true),((decide ((0:Int) ≥ (0:Int)))=true)],((.ii (60:Int)),[]))):=by kernel_rfl
theorem ck5bg (a b c m:Int) (k:U4) (ks:List U4) (vs:List Int) (n:Int):fnRes hD Try.f23 3000 [.v (.a [.int .i64 5,.int .i64 a,.int .i64 b,.int .i64 c,.int .i64 m,.ob (.fr k),.sl (.fr ks),.sl (.int vs)]),.v (.c (.int .i64 n))] [false,false,false,false,false,true,true,true,false,true,true] [] []=(some ([(((5:Int)==1)=false),(((5:Int)==3)=false),(((5:Int)==6)=false),(((5:Int)==8)=false),(((5:Int)==4)=false),(((5:Int)==5)=true),(((5:Int)==5)=true),((1*8)≤140737488355328),(1≤maxLen),(1=1),(((1+1)*8)≤140737488355328),((1+1)≤maxLen),(1=1),(1=1),((decide (0<(((1+1):Nat):Int)))=true),(0≤(0:Int)),(0<(((1+1):Nat):Int)),(0=0),(0<([b]++[a]).length),((decide ((List.getD ([b]++[a]) 0 (0:Int))<(0:Int)))=false),((decide ((List.getD ([b]++[a]) 0 (0:Int)) ≥ n))=true),((decide ((0:Int) ≥ (0:Int)))=true)],((.ii (60:Int)),[]))):=by kernel_rfl
theorem ck5al (a b c m:Int) (k:U4) (ks:List U4) (vs:List Int) (n:Int):fnRes hD Try.f23 3000 [.v (.a [.int .i64 5,.int .i64 a,.int .i64 b,.int .i64 c,.int .i64 m,.ob (.fr k),.sl (.fr ks),.sl (.int vs)]),.v (.c (.int .i64 n))] [false,false,false,false,false,true,true,true,false,false,true,true,true] [] []=(some ([(((5:Int)==1)=false),(((5:Int)==3)=false),(((5:Int)==6)=false),(((5:Int)==8)=false),(((5:Int)==4)=false),(((5:Int)==5)=true),(((5:Int)==5)=true),((1*8)≤140737488355328),(1≤maxLen),(1=1),(((1+1)*8)≤140737488355328),((1+1)≤maxLen),(1=1),(1=1),((decide (0<(((1+1):Nat):Int)))=true),(0≤(0:Int)),(0<(((1+1):Nat):Int)),(0=0),(0<([b]++[a]).length),((decide ((List.getD ([b]++[a]) 0 (0:Int))<(0:Int)))=false),((decide ((List.getD ([b]++[a]) 0 (0:Int)) ≥ n))=false),((decide ((1:Int)<(((1+1):Nat):Int)))=true),(0≤(1:Int)),((1:Int)<(((1+1):Nat):Int)),(0=0),(1<([b]++[a]).length),((decide ((List.getD ([b]++[a]) 1 (0:Int))<(0:Int)))=true),((decide ((1:Int) ≥ (0:Int)))=true)],((.ii (60:Int)),[]))):=by kernel_rfl
theorem ck5ag (a b c m:Int) (k:U4) (ks:List U4) (vs:List Int) (n:Int):fnRes hD Try.f23 3000 [.v (.a [.int .i64 5,.int .i64 a,.int .i64 b,.int .i64 c,.int .i64 m,.ob (.fr k),.sl (.fr ks),.sl (.int vs)]),.v (.c (.int .i64 n))] [false,false,false,false,false,true,true,true,false,false,true,false,true,true] [] []=(some ([(((5:Int)==1)=false),(((5:Int)==3)=false),(((5:Int)==6)=false),(((5:Int)==8)=false),(((5:Int)==4)=false),(((5:Int)==5)=true),(((5:Int)==5)=true),((1*8)≤140737488355328),(1≤maxLen),(1=1),(((1+1)*8)≤140737488355328),((1+1)≤maxLen),(1=1),(1=1),((decide (0<(((1+1):Nat):Int)))=true),(0≤(0:Int)),(0<(((1+1):Nat):Int)),(0=0),(0<([b]++[a]).length),((decide ((List.getD ([b]++[a]) 0 (0:Int))<(0:Int)))=false),((decide ((List.getD ([b]++[a]) 0 (0:Int)) ≥ n))=false),((decide ((1:Int)<(((1+1):Nat):Int)))=true),(0≤(1:Int)),((1:Int)<(((1+1):Nat):Int)),(0=0),(1<([b]++[a]).length),((decide ((List.getD ([b]++[a]) 1 (0:Int))<(0:Int)))=false),((decide ((List.getD ([b]++[a]) 1 (0:Int)) ≥ n))=true),((decide ((1:Int) ≥ (0:Int)))=true)],((.ii (60:Int)),[]))):=by kernel_rfl
theorem ck5k (a b c m:Int) (k:U4) (ks:List U4) (vs:List Int) (n:Int):fnRes hD Try.f23 3000 [.v (.a [.int .i64 5,.int .i64 a,.int .i64 b,.int .i64 c,.int .i64 m,.ob (.fr k),.sl (.fr ks),.sl (.int vs)]),.v (.c (.int .i64 n))] [false,false,false,false,false,true,true,true,false,false,true,false,false,false,false] [] []=(some ([(((5:Int)==1)=false),(((5:Int)==3)=false),(((5:Int)==6)=false),(((5:Int)==8)=false),(((5:Int)==4)=false),(((5:Int)==5)=true),(((5:Int)==5)=true),((1*8)≤140737488355328),(1≤maxLen),(1=1),(((1+1)*8)≤140737488355328),((1+1)≤maxLen),(1=1),(1=1),((decide (0<(((1+1):Nat):Int)))=true),(0≤(0:Int)),(0<(((1+1):Nat):Int)),(0=0),(0<([b]++[a]).length),((decide ((List.getD ([b]++[a]) 0 (0:Int))<(0:Int)))=false),((decide ((List.getD ([b]++[a]) 0 (0:Int)) ≥ n))=false),((decide ((1:Int)<(((1+1):Nat):Int)))=true),(0≤(1:Int)),((1:Int)<(((1+1):Nat):Int)),(0=0),(1<([b]++[a]).length),((decide ((List.getD ([b]++[a]) 1 (0:Int))<(0:Int)))=false),((decide ((List.getD ([b]++[a]) 1 (0:Int)) ≥ n))=false),((decide ((2:Int)<(((1+1):Nat):Int)))=false),((decide ((-1) ≥ (0:Int)))=false)],((.ii (0:Int)),[]))):=by kernel_rfl
theorem ck11bl (a b c m:Int) (k:U4) (ks:List U4) (vs:List Int) (n:Int):fnRes hD Try.f23 3000 [.v (.a [.int .i64 11,.int .i64 a,.int .i64 b,.int .i64 c,.int .i64 m,.ob (.fr k),.sl (.fr ks),.sl (.int vs)]),.v (.c (.int .i64 n))] [false,false,false,false,false,false,true,true,true,true] [] []=(some ([(((11:Int)==1)=false),(((11:Int)==3)=false),(((11:Int)==6)=false),(((11:Int)==8)=false),(((11:Int)==4)=false),(((11:Int)==5)=false),(((11:Int)==11)=true),((1*8)≤140737488355328),(1≤maxLen),(1=1),(((1+1)*8)≤140737488355328),((1+1)≤maxLen),(1=1),(1=1),((decide (0<(((1+1):Nat):Int)))=true),(0≤(0:Int)),(0<(((1+1):Nat):Int)),(0=0),(0<([b]++[a]).length),((decide ((List.getD ([b]++[a]) 0 (0:Int))<(0:Int)))=true),((decide ((0:Int) ≥ (0:Int)))=true)],((.ii (60:Int)),[]))):=by kernel_rfl
theorem ck11bg (a b c m:Int) (k:U4) (ks:List U4) (vs:List Int) (n:Int):fnRes hD Try.f23 3000 [.v (.a [.int .i64 11,.int .i64 a,.int .i64 b,.int .i64 c,.int .i64 m,.ob (.fr k),.sl (.fr ks),.sl (.int vs)]),.v (.c (.int .i64 n))] [false,false,false,false,false,false,true,true,false,true,true] [] []=(some ([(((11:Int)==1)=false),(((11:Int)==3)=false),(((11:Int)==6)=false),(((11:Int)==8)=false),(((11:Int)==4)=false),(((11:Int)==5)=false),(((11:Int)==11)=true),((1*8)≤140737488355328),(1≤maxLen),(1=1),(((1+1)*8)≤140737488355328),((1+1)≤maxLen),(1=1),(1=1),((decide (0<(((1+1):Nat):Int)))=true),(0≤(0:Int)),(0<(((1+1):Nat):Int)),(0=0),(0<([b]++[a]).length),((decide ((List.getD ([b]++[a]) 0 (0:Int))<(0:Int)))=false),((decide ((List.getD ([b]++[a]) 0 (0:Int)) ≥ n))=true),((decide ((0:Int) ≥ (0:Int)))=true)],((.ii (60:Int)),[]))):=by kernel_rfl
theorem ck11al (a b c m:Int) (k:U4) (ks:List U4) (vs:List Int) (n:Int):fnRes hD Try.f23 3000 [.v (.a [.int .i64 11,.int .i64 a,.int .i64 b,.int .i64 c,.int .i64 m,.ob (.fr k),.sl (.fr ks),.sl (.int vs)]),.v (.c (.int .i64 n))] [false,false,false,false,false,false,true,true,false,false,true,true,true] [] []=(some ([(((11:Int)==1)=false),(((11:Int)==3)=false),(((11:Int)==6)=false),(((11:Int)==8)=false),(((11:Int)==4)=false),(((11:Int)==5)=false),(((11:Int)==11)=true),((1*8)≤140737488355328),(1≤maxLen),(1=1),(((1+1)*8)≤140737488355328),((1+1)≤maxLen),(1=1),(1=1),((decide (0<(((1+1):Nat):Int)))=true),(0≤(0:Int)),(0<(((1+1):Nat):Int)),(0=0),(0<([b]++[a]).length),((decide ((List.getD ([b]++[a]) 0 (0:Int))<(0:Int)))=false),((decide ((List.getD ([b]++[a]) 0 (0:Int)) ≥ n))=false),((decide ((1:Int)<(((1+1):Nat):Int)))=true),(0≤(1:Int)),((1:Int)<(((1+1):Nat):Int)),(0=0),(1<([b]++[a]).length),((decide ((List.getD ([b]++[a]) 1 (0:Int))<(0:Int)))=true),((decide ((1:Int) ≥ (0:Int)))=true)],((.ii (60:Int)),[]))):=by kernel_rfl
theorem ck11ag (a b c m:Int) (k:U4) (ks:List U4) (vs:List Int) (n:Int):fnRes hD Try.f23 3000 [.v (.a [.int .i64 11,.int .i64 a,.int .i64 b,.int .i64 c,.int .i64 m,.ob (.fr k),.sl (.fr ks),.sl (.int vs)]),.v (.c (.int .i64 n))] [false,false,false,false,false,false,true,true,false,false,true,false,true,true] [] []=(some ([(((11:Int)==1)=false),(((11:Int)==3)=false),(((11:Int)==6)=false),(((11:Int)==8)=false),(((11:Int)==4)=false),(((11:Int)==5)=false),(((11:Int)==11)=true),((1*8)≤140737488355328),(1≤maxLen),(1=1),(((1+1)*8)≤140737488355328),((1+1)≤maxLen),(1=1),(1=1),((decide (0<(((1+1):Nat):Int)))=true),(0≤(0:Int)),(0<(((1+1):Nat):Int)),(0=0),(0<([b]++[a]).length),((decide ((List.getD ([b]++[a]) 0 (0:Int))<(0:Int)))=false),((decide ((List.getD ([b]++[a]) 0 (0:Int)) ≥ n))=false),((decide ((1:Int)<(((1+1):Nat):Int)))=true),(0≤(1:Int)),((1:Int)<(((1+1):Nat):Int)),(0=0),(1<([b]++[a]).length),((decide ((List.getD ([b]++[a]) 1 (0:Int))<(0:Int)))=false),((decide ((List.getD ([b]++[a]) 1 (0:Int)) ≥ n))=true),((decide ((1:Int) ≥ (0:Int)))=true)],((.ii (60:Int)),[]))):=by kernel_rfl
theorem ck11k (a b c m:Int) (k:U4) (ks:List U4) (vs:List Int) (n:Int):fnRes hD Try.f23 3000 [.v (.a [.int .i64 11,.int .i64 a,.int .i64 b,.int .i64 c,.int .i64 m,.ob (.fr k),.sl (.fr ks),.sl (.int vs)]),.v (.c (.int .i64 n))] [false,false,false,false,false,false,true,true,false,false,true,false,false,false,false] [] []=(some ([(((11:Int)==1)=false),(((11:Int)==3)=false),(((11:Int)==6)=false),(((11:Int)==8)=false),(((11:Int)==4)=false),(((11:Int)==5)=false),(((11:Int)==11)=true),((1*8)≤140737488355328),(1≤maxLen),(1=1),(((1+1)*8)≤140737488355328),((1+1)≤maxLen),(1=1),(1=1),((decide (0<(((1+1):Nat):Int)))=true),(0≤(0:Int)),(0<(((1+1):Nat):Int)),(0=0),(0<([b]++[a]).length),((decide ((List.getD ([b]++[a]) 0 (0:Int))<(0:Int)))=false),((decide ((List.getD ([b]++[a]) 0 (0:Int)) ≥ n))=false),((decide ((1:Int)<(((1+1):Nat):Int)))=true),(0≤(1:Int)),((1:Int)<(((1+1):Nat):Int)),(0=0),(1<([b]++[a]).length),((decide ((List.getD ([b]++[a]) 1 (0:Int))<(0:Int)))=false),((decide ((List.getD ([b]++[a]) 1 (0:Int)) ≥ n))=false),((decide ((2:Int)<(((1+1):Nat):Int)))=false),((decide ((-1) ≥ (0:Int)))=false)],((.ii (0:Int)),[]))):=by kernel_rfl
theorem ck8cl (a b c m:Int) (k:U4) (ks:List U4) (vs:List Int) (n:Int):fnRes hD Try.f23 3000 [.v (.a [.int .i64 8,.int .i64 a,.int .i64 b,.int .i64 c,.int .i64 m,.ob (.fr k),.sl (.fr ks),.sl (.int vs)]),.v (.c (.int .i64 n))] [false,false,false,true,true,true,true] [] []=(some ([(((8:Int)==1)=false),(((8:Int)==3)=false),(((8:Int)==6)=false),(((8:Int)==8)=true),((1*8)≤140737488355328),(1≤maxLen),(1=1),(((1+1)*8)≤140737488355328),((1+1)≤maxLen),(1=1),(1=1),(((([c]++[b]).length+1)*8)≤140737488355328),((([c]++[b]).length+1)≤maxLen),((1+1)=([c]++[b]).length),(1=1),((decide (0<(((([c]++[b]).length+1):Nat):Int)))=true),(0≤(0:Int)),(0<(((([c]++[b]).length+1):Nat):Int)),(0=0),(0<(([c]++[b])++[a]).length),((decide ((List.getD (([c]++[b])++[a]) 0 (0:Int))<(0:Int)))=true),((decide ((0:Int) ≥ (0:Int)))=true)],((.ii (60:Int)),[]))):=by kernel_rfl
theorem ck8cg (a b c m:Int) (k:U4) (ks:List U4) (vs:List Int) (n:Int):fnRes hD Try.f23 3000 [.v (.a [.int .i64 8,.int .i64 a,.int .i64 b,.int .i64 c,.int .i64 m,.ob (.fr k),.sl (.fr ks),.sl (.int vs)]),.v (.c (.int .i64 n))] [false,false,false,true,true,false,true,true] [] []=(some ([(((8:Int)==1)=false),(((8:Int)==3)=false),(((8:Int)==6)=false),(((8:Int)==8)=true),((1*8)≤140737488355328),(1≤maxLen),(1=1),(((1+1)*8)≤140737488355328),((1+1)≤maxLen),(1=1),(1=1),(((([c]++[b]).length+1)*8)≤140737488355328),((([c]++[b]).length+1)≤maxLen),((1+1)=([c]++[b]).length),(1=1),((decide (0<(((([c]++[b]).length+1):Nat):Int)))=true),(0≤(0:Int)),(0<(((([c]++[b]).length+1):Nat):Int)),(0=0),(0<(([c]++[b])++[a]).length),((decide ((List.getD (([c]++[b])++[a]) 0 (0:Int))<(0:Int)))=false),((decide ((List.getD (([c]++[b])++[a]) 0 (0:Int)) ≥ n))=true),((decide ((0:Int) ≥ (0:Int)))=true)],((.ii (60:Int)),[]))):=by kernel_rfl
theorem ck8bl (a b c m:Int) (k:U4) (ks:List U4) (vs:List Int) (n:Int):fnRes hD Try.f23 3000 [.v (.a [.int .i64 8,.int .i64 a,.int .i64 b,.int .i64 c,.int .i64 m,.ob (.fr k),.sl (.fr ks),.sl (.int vs)]),.v (.c (.int .i64 n))] [false,false,false,true,true,false,false,true,true,true] [] []=(some ([(((8:Int)==1)=false),(((8:Int)==3)=false),(((8:Int)==6)=false),(((8:Int)==8)=true),((1*8)≤140737488355328),(1≤maxLen),(1=1),(((1+1)*8)≤140737488355328),((1+1)≤maxLen),(1=1),(1=1),(((([c]++[b]).length+1)*8)≤140737488355328),((([c]++[b]).length+1)≤maxLen),((1+1)=([c]++[b]).length),(1=1),((decide (0<(((([c]++[b]).length+1):Nat):Int)))=true),(0≤(0:Int)),(0<(((([c]++[b]).length+1):Nat):Int)),(0=0),(0<(([c]++[b])++[a]).length),((decide ((List.getD (([c]++[b])++[a]) 0 (0:Int))<(0:Int)))=false),((decide ((List.getD (([c]++[b])++[a]) 0 (0:Int)) ≥ n))=false),((decide ((1:Int)<(((([c]++[b]).length+1):Nat):Int)))=true),(0≤(1:Int)),((1:Int)<(((([c]++[b]).length+1):Nat):Int)),(0=0),(1<(([c]++[b])++[a]).length),((decide ((List.getD (([c]++[b])++[a]) 1 (0:Int))<(0:Int)))=true),((decide ((1:Int) ≥ (0:Int)))=true)],((.ii (60:Int)),[]))):=by kernel_rfl
theorem ck8bg (a b c m:Int) (k:U4) (ks:List U4) (vs:List Int) (n:Int):fnRes hD Try.f23 3000 [.v (.a [.int .i64 8,.int .i64 a,.int .i64 b,.int .i64 c,.int .i64 m,.ob (.fr k),.sl (.fr ks),.sl (.int vs)]),.v (.c (.int .i64 n))] [false,false,false,true,true,false,false,true,false,true,true] [] []=(some ([(((8:Int)==1)=false),(((8:Int)==3)=false),(((8:Int)==6)=false),(((8:Int)==8)=true),((1*8)≤140737488355328),(1≤maxLen),(1=1),(((1+1)*8)≤140737488355328),((1+1)≤maxLen),(1=1),(1=1),(((([c]++[b]).length+1)*8)≤140737488355328),((([c]++[b]).length+1)≤maxLen),((1+1)=([c]++[b]).length),(1=1),((decide (0<(((([c]++[b]).length+1):Nat):Int)))=true),(0≤(0:Int)),(0<(((([c]++[b]).length+1):Nat):Int)),(0=0),(0<(([c]++[b])++[a]).length),((decide ((List.getD (([c]++[b])++[a]) 0 (0:Int))<(0:Int)))=false),((decide ((List.getD (([c]++[b])++[a]) 0 (0:Int)) ≥ n))=false),((decide ((1:Int)<(((([c]++[b]).length+1):Nat):Int)))=true),(0≤(1:Int)),((1:Int)<(((([c]++[b]).length+1):Nat):Int)),(0=0),(1<(([c]++[b])++[a]).length),((decide ((List.getD (([c]++[b])++[a]) 1 (0:Int))<(0:Int)))=false),((decide ((List.getD (([c]++[b])++[a]) 1 (0:Int)) ≥ n))=true),((decide ((1:Int) ≥ (0:Int)))=true)],((.ii (60:Int)),[]))):=by kernel_rfl
theorem ck8al (a b c m:Int) (k:U4) (ks:List U4) (vs:List Int) (n:Int):fnRes hD Try.f23 3000 [.v (.a [.int .i64 8,.int .i64 a,.int .i64 b,.int .i64 c,.int .i64 m,.ob (.fr k),.sl (.fr ks),.sl (.int vs)]),.v (.c (.int .i64 n))] [false,false,false,true,true,false,false,true,false,false,true,true,true] [] []=(some ([(((8:Int)==1)=false),(((8:Int)==3)=false),(((8:Int)==6)=false),(((8:Int)==8)=true),((1*8)≤140737488355328),(1≤maxLen),(1=1),(((1+1)*8)≤140737488355328),((1+1)≤maxLen),(1=1),(1=1),(((([c]++[b]).length+1)*8)≤140737488355328),((([c]++[b]).length+1)≤maxLen),((1+1)=([c]++[b]).length),(1=1),((decide (0<(((([c]++[b]).length+1):Nat):Int)))=true),(0≤(0:Int)),(0<(((([c]++[b]).length+1):Nat):Int)),(0=0),(0<(([c]++[b])++[a]).length),((decide ((List.getD (([c]++[b])++[a]) 0 (0:Int))<(0:Int)))=false),((decide ((List.getD (([c]++[b])++[a]) 0 (0:Int)) ≥ n))=false),((decide ((1:Int)<(((([c]++[b]).length+1):Nat):Int)))=true),(0≤(1:Int)),((1:Int)<(((([c]++[b]).length+1):Nat):Int)),(0=0),(1<(([c]++[b])++[a]).length),((decide ((List.getD (([c]++[b])++[a]) 1 (0:Int))<(0:Int)))=false),((decide ((List.getD (([c]++[b])++[a]) 1 (0:Int)) ≥ n))=false),((decide ((2:Int)<(((([c]++[b]).length+1):Nat):Int)))=true),(0≤(2:Int)),((2:Int)<(((([c]++[b]).length+1):Nat):Int)),(0=0),(2<(([c]++[b])++[a]).length),((decide ((List.getD (([c]++[b])++[a]) 2 (0:Int))<(0:Int)))=true),((decide ((2:Int) ≥ (0:Int)))=true)],((.ii (60:Int)),[]))):=by kernel_rfl
theorem ck8ag (a b c m:Int) (k:U4) (ks:List U4) (vs:List Int) (n:Int):fnRes hD Try.f23 3000 [.v (.a [.int .i64 8,.int .i64 a,.int .i64 b,.int .i64 c,.int .i64 m,.ob (.fr k),.sl (.fr ks),.sl (.int vs)]),.v (.c (.int .i64 n))] [false,false,false,true,true,false,false,true,false,false,true,false,true,true] [] []=(some ([(((8:Int)==1)=false),(((8:Int)==3)=false),(((8:Int)==6)=false),(((8:Int)==8)=true),((1*8)≤140737488355328),(1≤maxLen),(1=1),(((1+1)*8)≤140737488355328),((1+1)≤maxLen),(1=1),(1=1),(((([c]++[b]).length+1)*8)≤140737488355328),((([c]++[b]).length+1)≤maxLen),((1+1)=([c]++[b]).length),(1=1),((decide (0<(((([c]++[b]).length+1):Nat):Int)))=true),(0≤(0:Int)),(0<(((([c]++[b]).length+1):Nat):Int)),(0=0),(0<(([c]++[b])++[a]).length),((decide ((List.getD (([c]++[b])++[a]) 0 (0:Int))<(0:Int)))=false),((decide ((List.getD (([c]++[b])++[a]) 0 (0:Int)) ≥ n))=false),((decide ((1:Int)<(((([c]++[b]).length+1):Nat):Int)))=true),(0≤(1:Int)),((1:Int)<(((([c]++[b]).length+1):Nat):Int)),(0=0),(1<(([c]++[b])++[a]).length),((decide ((List.getD (([c]++[b])++[a]) 1 (0:Int))<(0:Int)))=false),((decide ((List.getD (([c]++[b])++[a]) 1 (0:Int)) ≥ n))=false),((decide ((2:Int)<(((([c]++[b]).length+1):Nat):Int)))=true),(0≤(2:Int)),((2:Int)<(((([c]++[b]).length+1):Nat):Int)),(0=0),(2<(([c]++[b])++[a]).length),((decide ((List.getD (([c]++[b])++[a]) 2 (0:Int))<(0:Int)))=false),((decide ((List.getD (([c]++[b])++[a]) 2 (0:Int)) ≥ n))=true),((decide ((2:Int) ≥ (0:Int)))=true)],((.ii (60:Int)),[]))):=by kernel_rfl
theorem ck8k (a b c m:Int) (k:U4) (ks:List U4) (vs:List Int) (n:Int):fnRes hD Try.f23 3000 [.v (.a [.int .i64 8,.int .i64 a,.int .i64 b,.int .i64 c,.int .i64 m,.ob (.fr k),.sl (.fr ks),.sl (.int vs)]),.v (.c (.int .i64 n))] [false,false,false,true,true,false,false,true,false,false,true,false,false,false,false] [] []=(some ([(((8:Int)==1)=false),(((8:Int)==3)=false),(((8:Int)==6)=false),(((8:Int)==8)=true),((1*8)≤140737488355328),(1≤maxLen),(1=1),(((1+1)*8)≤140737488355328),((1+1)≤maxLen),(1=1),(1=1),(((([c]++[b]).length+1)*8)≤140737488355328),((([c]++[b]).length+1)≤maxLen),((1+1)=([c]++[b]).length),(1=1),((decide (0<(((([c]++[b]).length+1):Nat):Int)))=true),(0≤(0:Int)),(0<(((([c]++[b]).length+1):Nat):Int)),(0=0),(0<(([c]++[b])++[a]).length),((decide ((List.getD (([c]++[b])++[a]) 0 (0:Int))<(0:Int)))=false),((decide ((List.getD (([c]++[b])++[a]) 0 (0:Int)) ≥ n))=false),((decide ((1:Int)<(((([c]++[b]).length+1):Nat):Int)))=true),(0≤(1:Int)),((1:Int)<(((([c]++[b]).length+1):Nat):Int)),(0=0),(1<(([c]++[b])++[a]).length),((decide ((List.getD (([c]++[b])++[a]) 1 (0:Int))<(0:Int)))=false),((decide ((List.getD (([c]++[b])++[a]) 1 (0:Int)) ≥ n))=false),((decide ((2:Int)<(((([c]++[b]).length+1):Nat):Int)))=true),(0≤(2:Int)),((2:Int)<(((([c]++[b]).length+1):Nat):Int)),(0=0),(2<(([c]++[b])++[a]).length),((decide ((List.getD (([c]++[b])++[a]) 2 (0:Int))<(0:Int)))=false),((decide ((List.getD (([c]++[b])++[a]) 2 (0:Int)) ≥ n))=false),((decide ((3:Int)<(((([c]++[b]).length+1):Nat):Int)))=false),((decide ((-1) ≥ (0:Int)))=false)],((.ii (0:Int)),[]))):=by kernel_rfl
theorem ck10al (a b c m:Int) (k:U4) (ks:List U4) (vs:List Int) (n:Int):fnRes hD Try.f23 3000 [.v (.a [.int .i64 10,.int .i64 a,.int .i64 b,.int .i64 c,.int .i64 m,.ob (.fr k),.sl (.fr ks),.sl (.int vs)]),.v (.c (.int .i64 n))] [false,false,false,false,false,false,false,false,false,false,true,false,false,true,true,true] [] []=(some ([(((10:Int)==1)=false),(((10:Int)==3)=false),(((10:Int)==6)=false),(((10:Int)==8)=false),(((10:Int)==4)=false),(((10:Int)==5)=false),(((10:Int)==11)=false),(((10:Int)==2)=false),(((10:Int)==7)=false),(((10:Int)==9)=false),(((10:Int)==10)=true),((1*8)≤140737488355328),(1≤maxLen),(1=1),((decide (m<(1:Int)))=false),((decide (m > (254:Int)))=false),((decide (0<((1:Nat):Int)))=true),(0≤(0:Int)),(0<((1:Nat):Int)),(0=0),(0<1),((decide (a<(0:Int)))=true),((decide ((0:Int) ≥ (0:Int)))=true)],((.ii (60:Int)),[]))):=by kernel_rfl
theorem ck10ag (a b c m:Int) (k:U4) (ks:List U4) (vs:List Int) (n:Int):fnRes hD Try.f23 3000 [.v (.a [.int .i64 10,.int .i64 a,.int .i64 b,.int .i64 c,.int .i64 m,.ob (.fr k),.sl (.fr ks),.sl (.int vs)]),.v (.c (.int .i64 n))] [false,false,false,false,false,false,false,false,false,false,true,false,false,true,false,true,true] [] []=(some ([(((10:Int)==1)=false),(((10:Int)==3)=false),(((10:Int)==6)=false),(((10:Int)==8)=false),(((10:Int)==4)=false),(((10:Int)==5)=false),(((10:Int)==11)=false),(((10:Int)==2)=false),(((10:Int)==7)=false),(((10:Int)==9)=false),(((10:Int)==10)=true),((1*8)≤140737488355328),(1≤maxLen),(1=1),((decide (m<(1:Int)))=false),((decide (m > (254:Int)))=false),((decide (0<((1:Nat):Int)))=true),(0≤(0:Int)),(0<((1:Nat):Int)),(0=0),(0<1),((decide (a<(0:Int)))=false),((decide (a ≥ n))=true),((decide ((0:Int) ≥ (0:Int)))=true)],((.ii (60:Int)),[]))):=by kernel_rfl
theorem ck10k (a b c m:Int) (k:U4) (ks:List U4) (vs:List Int) (n:Int):fnRes hD Try.f23 3000 [.v (.a [.int .i64 10,.int .i64 a,.int .i64 b,.int .i64 c,.int .i64 m,.ob (.fr k),.sl (.fr ks),.sl (.int vs)]),.v (.c (.int .i64 n))] [false,false,false,false,false,false,false,false,false,false,true,false,false,true,false,false,false,false] [] []=(some ([(((10:Int)==1)=false),(((10:Int)==3)=false),(((10:Int)==6)=false),(((10:Int)==8)=false),(((10:Int)==4)=false),(((10:Int)==5)=false),(((10:Int)==11)=false),(((10:Int)==2)=false),(((10:Int)==7)=false),(((10:Int)==9)=false),(((10:Int)==10)=true),((1*8)≤140737488355328),(1≤maxLen),(1=1),((decide (m<(1:Int)))=false),((decide (m > (254:Int)))=false),((decide (0<((1:Nat):Int)))=true),(0≤(0:Int)),(0<((1:Nat):Int)),(0=0),(0<1),((decide (a<(0:Int)))=false),((decide (a ≥ n))=false),((decide ((1:Int)<((1:Nat):Int)))=false),((decide ((-1) ≥ (0:Int)))=false)],((.ii (0:Int)),[]))):=by kernel_rfl
theorem ckX (t:Int) (a b c m:Int) (k:U4) (ks:List U4) (vs:List Int) (n:Int):fnRes hD Try.f23 3000 [.v (.a [.int .i64 t,.int .i64 a,.int .i64 b,.int .i64 c,.int .i64 m,.ob (.fr k),.sl (.fr ks),.sl (.int vs)]),.v (.c (.int .i64 n))] [false,false,false,false,false,false,false,false,false,false,false] [] []=(some ([((t == (1:Int))=false),((t == (3:Int))=false),((t == (6:Int))=false),((t == (8:Int))=false),((t == (4:Int))=false),((t == (5:Int))=false),((t == (11:Int))=false),((t == (2:Int))=false),((t == (7:Int))=false),((t == (9:Int))=false),((t == (10:Int))=false)],((.ii (61:Int)),[]))):=by kernel_rfl
--@unroll false
def ckq_k:List KI:=(run hD false 3000 ((fun (a b c m:Int) (k:U4) (ks:List U4) (vs:List Int) (n:Int)=>(⟨[.code (bodyOf Try.f23)],.normal,initSt Try.f23.ntmps [.v (.a [.int .i64 6,.int .i64 a,.int .i64 b,.int .i64 c,.int .i64 m,.ob (.fr k),.sl (.fr ks),.sl (.int vs)]),.v (.c (.int .i64 n))]⟩:Cfg)) default default default default default default default default) [false,false,true,false,false,false]).cfg.k
theorem ckq (a b c m:Int) (k:U4) (ks:List U4) (vs:List Int) (n:Int) (ho:AllP [(((6:Int)==1)=false),(((6:Int)==3)=false),(((6:Int)==6)=true),((decide ((vs.length:Int)<(1:Int)))=false),((decide ((vs.length:Int) > (64:Int)))=false),(((ks.length:Int) != (vs.length:Int))=false)]):Sg Try.prog (initSt Try.f23.ntmps [.v (.a [.int .i64 6,.int .i64 a,.int .i64 b,.int .i64 c,.int .i64 m,.ob (.fr k),.sl (.fr ks),.sl (.int vs)]),.v (.c (.int .i64 n))]) (mkSt 19 [0,1,7,8] [(.ci (.sl (.int vs))),(.ci (.clo 44 [(32,0)])),(.ii (vs.length:Int)),.ii (0:Int)] [32] [(eF [(.int .i64 n)])] 656 [[],[]] [([],9),([],74)]) .normal (ckq_k) ([.code (bodyOf Try.f23)]):=fun hs hK=>
 run_at2 (unroll:=false) (n:=3000) (path:=[false,false,true,false,false,false]) (o:=⟨_,_,_,_,_,_,_⟩) hD_ok (by kernel_rfl) (by kernel_rfl) ho hs hK
def ckqS (_a _b _c _m:Int) (_k:U4) (_ks:List U4) (vs:List Int) (n:Int) (i:Int):St:=mkSt 19 [0,1,7,8] [(.ci (.sl (.int vs))),(.ci (.clo 44 [(32,0)])),(.ii (vs.length:Int)),.v (.c (.int .i64 i))] [32] [(eF [(.int .i64 n)])] 656 [[],[]] [([],9),([],74)]
theorem ckqA_end (a b c m:Int) (k:U4) (ks:List U4) (vs:List Int) (n:Int) (i:Int):runEnd hD Try.f23 false 3000 (⟨lpIn ckq_k,.normal,ckqS a b c m k ks vs n i⟩) [true,true,true] [] []=(some ([((decide (i<(vs.length:Int)))=true),(0≤i),(i<(vs.length:Int)),((decide ((vs.getD i.toNat 0)<(0:Int)))=true),((decide (i ≥ (0:Int)))=true)],((.ii (60:Int)),[]))):=by kernel_rfl
theorem ckqB_end (a b c m:Int) (k:U4) (ks:List U4) (vs:List Int) (n:Int) (i:Int):runEnd hD Try.f23 false 3000 (⟨lpIn ckq_k,.normal,ckqS a b c m k ks vs n i⟩) [true,false,true,true] [] []=(some ([((decide (i<(vs.length:Int)))=true),(0≤i),(i<(vs.length:Int)),((decide ((vs.getD i.toNat 0)<(0:Int)))=false),((decide ((vs.getD i.toNat 0) ≥ n))=true),((decide (i ≥ (0:Int)))=true)],((.ii (60:Int)),[]))):=by kernel_rfl
theorem ckqC_end (a b c m:Int) (k:U4) (ks:List U4) (vs:List Int) (n:Int) (i:Int):runEnd hD Try.f23 false 3000 (⟨lpIn ckq_k,.normal,ckqS a b c m k ks vs n i⟩) [false,false] [] []=(some ([((decide (i<(vs.length:Int)))=false),((decide ((-1) ≥ (0:Int)))=false)],((.ii (0:Int)),[]))):=by kernel_rfl
theorem ckqN (a b c m:Int) (k:U4) (ks:List U4) (vs:List Int) (n:Int) (i:Int) (ho:AllP [((decide (i<(vs.length:Int)))=true),(0≤i),(i<(vs.length:Int)),((decide ((vs.getD i.toNat 0)<(0:Int)))=false),((decide ((vs.getD i.toNat 0) ≥ n))=false)]):Sg Try.prog (ckqS a b c m k ks vs n i) (mkSt 19 [0,1,7,8] [(.ci (.sl (.int vs))),(.ci (.clo 44 [(32,0)])),(.ii (vs.length:Int)),(.ii (wrap .i64 (i+1)))] [32] [(eF [(.int .i64 n)])] 960 [[],[]] [([],9),([],74)]) .normal (lpBk ckq_k) (lpIn ckq_k):=fun hs hK=>
 run_at2 (unroll:=false) (n:=3000) (path:=[true,false,false]) (o:=⟨_,_,_,_,_,_,_⟩) hD_ok (by kernel_rfl) (by kernel_rfl) ho hs hK
end
end

set_option linter.unusedSimpArgs false
section

def inV (n v:Int):Bool:=decide (0≤v) && decide (v<n)
/-- Is an operation right, so many variables being there? -/
def checkE (t a b c m:Int) (_:U4) (ks:List U4) (vs:List Int) (n:Int):Int:=
 if t=1∨t=3 then 0
 else if t=6 then (if vs.length<1∨vs.length > 64∨ks.length≠vs.length then 3 else if vs.all (inV n) then 0 else 60)
 else if t=8 then (if inV n c∧inV n b∧inV n a then 0 else 60)
 else if t=4∨t=5∨t=11 then (if inV n b∧inV n a then 0 else 60)
 else if t=2∨t=7∨t=9 then (if inV n a then 0 else 60)
 else if t=10 then (if m<1∨m > 254 then 62 else if inV n a then 0 else 60)
 else 61

theorem checkLin_fnd (a b c m:Int) (k:U4) (ks:List U4) (vs:List Int) (n:Int) (h1:1≤vs.length) (h2:vs.length≤64) (h3:ks.length=vs.length):FnD Try.prog 23 [.v (.a [.int .i64 6,.int .i64 a,.int .i64 b,.int .i64 c,.int .i64 m,.ob (.fr k),.sl (.fr ks),.sl (.int vs)]),.v (.c (.int .i64 n))] (.v (.c (.int .i64 (checkE 6 a b c m k ks vs n)))) []:=by
 have e:checkE 6 a b c m k ks vs n=if vs.all (inV n) then 0 else 60:=by
  unfold checkE
  rw[if_neg (by decide),if_pos rfl,if_neg (by omega)]
 rw[e]
 refine fn_start (fn:=Try.f23) (c:=bodyOf Try.f23) Try.func23 rfl rfl fun x0 a0 hk hF hs0=>?_
 refine ckq a b c m k ks vs n (by simp [AllP]<;>omega) hs0 fun ac cY aY hs1=>?_
 refine loop_rule (ι:={ i:Nat // i≤vs.length∧vs.all (inV n)=(vs.drop i).all (inV n) }) (fun i=>ckqS a b c m k ks vs n (i.1:Int)) (fun i=>vs.length-i.1) (c:=lpC ckq_k) (k:=lpR ckq_k) (by kernel_rfl) (fun i ih ac cY aY hs=>?_) ⟨0,Nat.zero_le _,rfl⟩ (hs1.nx _)
 obtain ⟨i,hi,he⟩:=i
 simp only at ih hs
 rw[he]
 by_cases h:i<vs.length
 ·rw[all_drop (inV n) 0 vs i h] at he ⊢
  obtain ⟨v,hv⟩:∃v,v=vs.getD i 0:=⟨_,rfl⟩
  rw[←hv] at he ⊢
  by_cases g1:v<0
  ·have w:inV n v=false:=by simp [inV]<;>omega
   rw[w]
   exact run_end2 hD_ok hk hF (ckqA_end a b c m k ks vs n i) (by simp only[AllP,Int.toNat_natCast,←hv];simp<;>omega) (fun y w hd=>hd) hs
  by_cases g2:v ≥ n
  ·have w:inV n v=false:=by simp [inV]<;>omega
   rw[w]
   exact run_end2 hD_ok hk hF (ckqB_end a b c m k ks vs n i) (by simp only[AllP,Int.toNat_natCast,←hv];simp<;>omega) (fun y w hd=>hd) hs
  have w:inV n v=true:=by simp [inV]<;>omega
  rw[w,Bool.true_and] at he ⊢
  refine ckqN a b c m k ks vs n i (by simp only[AllP,Int.toNat_natCast,←hv];simp<;>omega) hs fun ac cU aU hs2=>?_
  rw[wrap_id (by omega) (by omega)] at hs2
  rw[←he]
  exact ih ⟨i+1,h,he⟩ (by show vs.length-(i+1)<vs.length-i;omega) ac cU aU (hs2.nx _)
 ·rw[List.drop_eq_nil_of_le (by omega)]
  exact run_end2 hD_ok hk hF (ckqC_end a b c m k ks vs n i) (by simp [AllP]<;>omega) (fun y w hd=>hd) hs

theorem check_fnd (t:Int) (a b c m:Int) (k:U4) (ks:List U4) (vs:List Int) (n:Int):FnD Try.prog 23 [.v (.a [.int .i64 t,.int .i64 a,.int .i64 b,.int .i64 c,.int .i64 m,.ob (.fr k),.sl (.fr ks),.sl (.int vs)]),.v (.c (.int .i64 n))] (.v (.c (.int .i64 (checkE t a b c m k ks vs n)))) []:=by
 by_cases h1:t=1
 ·subst h1
  have e:checkE 1 a b c m k ks vs n=0:=by simp [checkE,inV]<;>omega
  rw[e];exact fn_sound hD_ok Try.func23 (ck1 a b c m k ks vs n) (by simp [AllP,maxLen]<;>omega)
 by_cases h3:t=3
 ·subst h3
  have e:checkE 3 a b c m k ks vs n=0:=by simp [checkE,inV]<;>omega
  rw[e];exact fn_sound hD_ok Try.func23 (ck3 a b c m k ks vs n) (by simp [AllP,maxLen]<;>omega)
 by_cases h6:t=6
 ·subst h6
  by_cases ck6A:(vs.length:Int)<1
  ·have e:checkE 6 a b c m k ks vs n=3:=by unfold checkE;rw[if_neg (by decide),if_pos rfl,if_pos (by omega)]
   rw[e];exact fn_sound hD_ok Try.func23 (Go.Proofs.Ytobdghmmbddfnaa.ck6A a b c m k ks vs n) (by simp [AllP,maxLen]<;>omega)
  by_cases ck6B:(vs.length:Int) > 64
  ·have e:checkE 6 a b c m k ks vs n=3:=by unfold checkE;rw[if_neg (by decide),if_pos rfl,if_pos (by omega)]
   rw[e];exact fn_sound hD_ok Try.func23 (Go.Proofs.Ytobdghmmbddfnaa.ck6B a b c m k ks vs n) (by simp [AllP,maxLen]<;>omega)
  by_cases ck6C:ks.length≠vs.length
  ·have e:checkE 6 a b c m k ks vs n=3:=by unfold checkE;rw[if_neg (by decide),if_pos rfl,if_pos (by omega)]
   rw[e];exact fn_sound hD_ok Try.func23 (Go.Proofs.Ytobdghmmbddfnaa.ck6C a b c m k ks vs n) (by simp [AllP,maxLen]<;>omega)
  exact checkLin_fnd a b c m k ks vs n (by omega) (by omega) (by omega)
 by_cases h8:t=8
 ·subst h8
  by_cases cl:c<0
  ·have e:checkE 8 a b c m k ks vs n=60:=by simp [checkE,inV]<;>omega
   rw[e];exact fn_sound hD_ok Try.func23 (ck8cl a b c m k ks vs n) (by simp [AllP,maxLen]<;>omega)
  by_cases cg:c ≥ n
  ·have e:checkE 8 a b c m k ks vs n=60:=by simp [checkE,inV]<;>omega
   rw[e];exact fn_sound hD_ok Try.func23 (ck8cg a b c m k ks vs n) (by simp [AllP,maxLen]<;>omega)
  by_cases bl:b<0
  ·have e:checkE 8 a b c m k ks vs n=60:=by simp [checkE,inV]<;>omega
   rw[e];exact fn_sound hD_ok Try.func23 (ck8bl a b c m k ks vs n) (by simp [AllP,maxLen]<;>omega)
  by_cases bg:b ≥ n
  ·have e:checkE 8 a b c m k ks vs n=60:=by simp [checkE,inV]<;>omega
   rw[e];exact fn_sound hD_ok Try.func23 (ck8bg a b c m k ks vs n) (by simp [AllP,maxLen]<;>omega)
  by_cases al:a<0
  ·have e:checkE 8 a b c m k ks vs n=60:=by simp [checkE,inV]<;>omega
   rw[e];exact fn_sound hD_ok Try.func23 (ck8al a b c m k ks vs n) (by simp [AllP,maxLen]<;>omega)
  by_cases ag:a ≥ n
  ·have e:checkE 8 a b c m k ks vs n=60:=by simp [checkE,inV]<;>omega
   rw[e];exact fn_sound hD_ok Try.func23 (ck8ag a b c m k ks vs n) (by simp [AllP,maxLen]<;>omega)
  have e:checkE 8 a b c m k ks vs n=0:=by simp [checkE,inV]<;>omega
  rw[e];exact fn_sound hD_ok Try.func23 (ck8k a b c m k ks vs n) (by simp [AllP,maxLen]<;>omega)
 by_cases h4:t=4
 ·subst h4
  by_cases bl:b<0
  ·have e:checkE 4 a b c m k ks vs n=60:=by simp [checkE,inV]<;>omega
   rw[e];exact fn_sound hD_ok Try.func23 (ck4bl a b c m k ks vs n) (by simp [AllP,maxLen]<;>omega)
  by_cases bg:b ≥ n
  ·have e:checkE 4 a b c m k ks vs n=60:=by simp [checkE,inV]<;>omega
   rw[e];exact fn_sound hD_ok Try.func23 (ck4bg a b c m k ks vs n) (by simp [AllP,maxLen]<;>omega)
  by_cases al:a<0
  ·have e:checkE 4 a b c m k ks vs n=60:=by simp [checkE,inV]<;>omega
   rw[e];exact fn_sound hD_ok Try.func23 (ck4al a b c m k ks vs n) (by simp [AllP,maxLen]<;>omega)
  by_cases ag:a ≥ n
  ·have e:checkE 4 a b c m k ks vs n=60:=by simp [checkE,inV]<;>omega
   rw[e];exact fn_sound hD_ok Try.func23 (ck4ag a b c m k ks vs n) (by simp [AllP,maxLen]<;>omega)
  have e:checkE 4 a b c m k ks vs n=0:=by simp [checkE,inV]<;>omega
  rw[e];exact fn_sound hD_ok Try.func23 (ck4k a b c m k ks vs n) (by simp [AllP,maxLen]<;>omega)
 by_cases h5:t=5
 ·subst h5
  by_cases bl:b<0
  ·have e:checkE 5 a b c m k ks vs n=60:=by simp [checkE,inV]<;>omega
   rw[e];exact fn_sound hD_ok Try.func23 (ck5bl a b c m k ks vs n) (by simp [AllP,maxLen]<;>omega)
  by_cases bg:b ≥ n
  ·have e:checkE 5 a b c m k ks vs n=60:=by simp [checkE,inV]<;>omega
   rw[e];exact fn_sound hD_ok Try.func23 (ck5bg a b c m k ks vs n) (by simp [AllP,maxLen]<;>omega)
  by_cases al:a<0
  ·have e:checkE 5 a b c m k ks vs n=60:=by simp [checkE,inV]<;>omega
   rw[e];exact fn_sound hD_ok Try.func23 (ck5al a b c m k ks vs n) (by simp [AllP,maxLen]<;>omega)
  by_cases ag:a ≥ n
  ·have e:checkE 5 a b c m k ks vs n=60:=by simp [checkE,inV]<;>omega
   rw[e];exact fn_sound hD_ok Try.func23 (ck5ag a b c m k ks vs n) (by simp [AllP,maxLen]<;>omega)
  have e:checkE 5 a b c m k ks vs n=0:=by simp [checkE,inV]<;>omega
  rw[e];exact fn_sound hD_ok Try.func23 (ck5k a b c m k ks vs n) (by simp [AllP,maxLen]<;>omega)
 by_cases h11:t=11
 ·subst h11
  by_cases bl:b<0
  ·have e:checkE 11 a b c m k ks vs n=60:=by simp [checkE,inV]<;>omega
   rw[e];exact fn_sound hD_ok Try.func23 (ck11bl a b c m k ks vs n) (by simp [AllP,maxLen]<;>omega)
  by_cases bg:b ≥ n
  ·have e:checkE 11 a b c m k ks vs n=60:=by simp [checkE,inV]<;>omega
   rw[e];exact fn_sound hD_ok Try.func23 (ck11bg a b c m k ks vs n) (by simp [AllP,maxLen]<;>omega)
  by_cases al:a<0
  ·have e:checkE 11 a b c m k ks vs n=60:=by simp [checkE,inV]<;>omega
   rw[e];exact fn_sound hD_ok Try.func23 (ck11al a b c m k ks vs n) (by simp [AllP,maxLen]<;>omega)
  by_cases ag:a ≥ n
  ·have e:checkE 11 a b c m k ks vs n=60:=by simp [checkE,inV]<;>omega
   rw[e];exact fn_sound hD_ok Try.func23 (ck11ag a b c m k ks vs n) (by simp [AllP,maxLen]<;>omega)
  have e:checkE 11 a b c m k ks vs n=0:=by simp [checkE,inV]<;>omega
  rw[e];exact fn_sound hD_ok Try.func23 (ck11k a b c m k ks vs n) (by simp [AllP,maxLen]<;>omega)
 by_cases h2:t=2
 ·subst h2
  by_cases al:a<0
  ·have e:checkE 2 a b c m k ks vs n=60:=by simp [checkE,inV]<;>omega
   rw[e];exact fn_sound hD_ok Try.func23 (ck2al a b c m k ks vs n) (by simp [AllP,maxLen]<;>omega)
  by_cases ag:a ≥ n
  ·have e:checkE 2 a b c m k ks vs n=60:=by simp [checkE,inV]<;>omega
   rw[e];exact fn_sound hD_ok Try.func23 (ck2ag a b c m k ks vs n) (by simp [AllP,maxLen]<;>omega)
  have e:checkE 2 a b c m k ks vs n=0:=by simp [checkE,inV]<;>omega
  rw[e];exact fn_sound hD_ok Try.func23 (ck2k a b c m k ks vs n) (by simp [AllP,maxLen]<;>omega)
 by_cases h7:t=7
 ·subst h7
  by_cases al:a<0
  ·have e:checkE 7 a b c m k ks vs n=60:=by simp [checkE,inV]<;>omega
   rw[e];exact fn_sound hD_ok Try.func23 (ck7al a b c m k ks vs n) (by simp [AllP,maxLen]<;>omega)
  by_cases ag:a ≥ n
  ·have e:checkE 7 a b c m k ks vs n=60:=by simp [checkE,inV]<;>omega
   rw[e];exact fn_sound hD_ok Try.func23 (ck7ag a b c m k ks vs n) (by simp [AllP,maxLen]<;>omega)
  have e:checkE 7 a b c m k ks vs n=0:=by simp [checkE,inV]<;>omega
  rw[e];exact fn_sound hD_ok Try.func23 (ck7k a b c m k ks vs n) (by simp [AllP,maxLen]<;>omega)
 by_cases h9:t=9
 ·subst h9
  by_cases al:a<0
  ·have e:checkE 9 a b c m k ks vs n=60:=by simp [checkE,inV]<;>omega
   rw[e];exact fn_sound hD_ok Try.func23 (ck9al a b c m k ks vs n) (by simp [AllP,maxLen]<;>omega)
  by_cases ag:a ≥ n
  ·have e:checkE 9 a b c m k ks vs n=60:=by simp [checkE,inV]<;>omega
   rw[e];exact fn_sound hD_ok Try.func23 (ck9ag a b c m k ks vs n) (by simp [AllP,maxLen]<;>omega)
  have e:checkE 9 a b c m k ks vs n=0:=by simp [checkE,inV]<;>omega
  rw[e];exact fn_sound hD_ok Try.func23 (ck9k a b c m k ks vs n) (by simp [AllP,maxLen]<;>omega)
 by_cases h10:t=10
 ·subst h10
  by_cases ck10A:m<1
  ·have e:checkE 10 a b c m k ks vs n=62:=by simp [checkE,inV]<;>omega
   rw[e];exact fn_sound hD_ok Try.func23 (Go.Proofs.Ytobdghmmbddfnaa.ck10A a b c m k ks vs n) (by simp [AllP,maxLen]<;>omega)
  by_cases ck10B:m > 254
  ·have e:checkE 10 a b c m k ks vs n=62:=by simp [checkE,inV]<;>omega
   rw[e];exact fn_sound hD_ok Try.func23 (Go.Proofs.Ytobdghmmbddfnaa.ck10B a b c m k ks vs n) (by simp [AllP,maxLen]<;>omega)
  by_cases al:a<0
  ·have e:checkE 10 a b c m k ks vs n=60:=by simp [checkE,inV]<;>omega
   rw[e];exact fn_sound hD_ok Try.func23 (ck10al a b c m k ks vs n) (by simp [AllP,maxLen]<;>omega)
  by_cases ag:a ≥ n
  ·have e:checkE 10 a b c m k ks vs n=60:=by simp [checkE,inV]<;>omega
   rw[e];exact fn_sound hD_ok Try.func23 (ck10ag a b c m k ks vs n) (by simp [AllP,maxLen]<;>omega)
  have e:checkE 10 a b c m k ks vs n=0:=by simp [checkE,inV]<;>omega
  rw[e];exact fn_sound hD_ok Try.func23 (ck10k a b c m k ks vs n) (by simp [AllP,maxLen]<;>omega)
 have e:checkE t a b c m k ks vs n=61:=by simp [checkE, *]
 rw[e];exact fn_sound hD_ok Try.func23 (ckX t a b c m k ks vs n) (by simp [AllP, *])
end

section

/-- One, and what is one less than none. -/
def oneU:U4:=1
def mF:Fr:=0-1
def mO:U4:=outF mF
def smallU (n:Int):U4:=if n=1 then oneU else mO
theorem outF_one:outF 1=oneU:=by decide +kernel
theorem fnd_eq {P:Program} {f:Nat} {args:List SV} {r r' : SV} {es:List En} (h:FnD P f args r es) (e:r=r'):FnD P f args r' es:=e ▸ h
--@env hD hD_ok
theorem q77 (n:Int):fnRes hD Try.f77 3000 [.v (.c (.int .u64 n))] [] [] []=(some ([(0≤n),(n<(18446744073709551616:Int)),(0≤(0:Int)),(0<(18446744073709551616:Int)),(0≤(0:Int)),(0<(18446744073709551616:Int)),(0≤(0:Int)),(0<(18446744073709551616:Int))],((.v (.a [(.ob (.s (inF (Fin.ofNat B4 ((n).toNat+0)))))])),[]))):=by kernel_rfl
theorem q78 (x:Fr):fnRes hD Try.f78 3000 [.v (.a [.ob (.s x)])] [] [] []=(some ([],((.v (.a [(.ob (.s ((0:Fr)-x)))])),[]))):=by kernel_rfl
theorem q40 (x:U4):fnRes hD Try.f40 3000 [.v (.a [.ob (.fr x)])] [] [] []=(some ([],((.v (.a [(.ob (.fr (outF (inF x))))])),[]))):=by kernel_rfl
theorem q80 (x y:U4):fnRes hD Try.f80 3000 [.v (.a [.ob (.fr x)]),.v (.a [.ob (.fr y)])] [] [] []=(some ([],((.v (.a [(.ob (.fr (outF ((inF x)+(inF y)))))])),[]))):=by kernel_rfl
theorem q81 (x y:U4):fnRes hD Try.f81 3000 [.v (.a [.ob (.fr x)]),.v (.a [.ob (.fr y)])] [] [] []=(some ([],((.v (.a [(.ob (.fr (outF ((inF x)*(inF y)))))])),[]))):=by kernel_rfl
theorem q88 (x y:U4):fnRes hD Try.f88 3000 [.v (.a [.ob (.fr x)]),.v (.a [.ob (.fr y)])] [] [] []=(some ([],((.v (.a [(.ob (.fr (outF ((inF x)-(inF y)))))])),[]))):=by kernel_rfl
theorem q63  : fnRes hD Try.f63 3000 [] [] [] []=(some ([(0≤(1:Int)),((1:Int)<(18446744073709551616:Int)),(0≤(0:Int)),(0<(18446744073709551616:Int)),(0≤(0:Int)),(0<(18446744073709551616:Int)),(0≤(0:Int)),(0<(18446744073709551616:Int))],((.v (.a [(.ob (.fr (Fin.ofNat B4 1)))])),[]))):=by kernel_rfl
theorem q64 (a b c:Int):fnRes hD Try.f64 3000 [.v (.c (.int .i64 a)),.v (.c (.int .i64 b)),.v (.c (.int .i64 c))] [] [] []=(some ([(0≤(0:Int)),(0<(3:Int)),(0≤(1:Int)),((1:Int)<(3:Int)),(0≤(2:Int)),((2:Int)<(3:Int))],((.v (.a [(.int .i64 a),(.int .i64 b),(.int .i64 c)])),[]))):=by kernel_rfl
theorem q72 (x y:U4):fnRes hD Try.f72 3000 [.v (.a [.ob (.fr x)]),.v (.a [.ob (.fr y)])] [] [] []=(some ([],((.v (.a [(.ob (.fr (cleanU (x+y))))])),[]))):=by kernel_rfl
theorem q105  : fnRes hD Try.f105 3000 [.v (.c (.int .i64 (-1)))] [false] [] []=(some ([((decide ((-1) ≥ (0:Int)))=false),(0≤(1:Int)),((1:Int)<(18446744073709551616:Int)),(0≤(0:Int)),(0<(18446744073709551616:Int)),(0≤(0:Int)),(0<(18446744073709551616:Int)),(0≤(0:Int)),(0<(18446744073709551616:Int))],((.v (.a [(.ob (.fr (rU-(Fin.ofNat B4 1))))])),[]))):=by kernel_rfl
theorem small77_fnd:FnD Try.prog 77 [.v (.c (.int .u64 1))] (.v (.a [.ob (.s 1)])) []:=fnd_eq (fn_sound hD_ok Try.func77 (q77 1) (by simp [AllP])) (by kernel_rfl)
theorem small105_fnd:FnD Try.prog 105 [.v (.c (.int .i64 (-1)))] (.v (.a [.ob (.fr mO)])) []:=fnd_eq (fn_sound hD_ok Try.func105 q105 (by simp [AllP])) (by kernel_rfl)
theorem one63_fnd:FnD Try.prog 63 [] (.v (.a [.ob (.fr oneU)])) []:=fnd_eq (fn_sound hD_ok Try.func63 q63 (by simp [AllP])) (by kernel_rfl)
theorem wires64_fnd (a b c:Int):FnD Try.prog 64 [.v (.c (.int .i64 a)),.v (.c (.int .i64 b)),.v (.c (.int .i64 c))] (.v (.a [.int .i64 a,.int .i64 b,.int .i64 c])) []:=fn_sound hD_ok Try.func64 (q64 a b c) (by simp [AllP])
def small77Spec:FnSpec
 | [.v (.c (.int .u64 n))]=>some ([n=1],.v (.a [.ob (.s 1)]),[])
 | _=>none
def iA1:Env:=hD.set (addT hD.fn 77 small77Spec)
theorem iA1_ok:EnvOk Try.prog iA1:=env_add hD_ok 77 small77Spec (enters_of Try.func77 rfl rfl) fun args o r es h ho=>by
 unfold small77Spec at h
 split at h
 ·cases h;exact (by obtain ⟨rfl,_⟩:=ho;exact small77_fnd)
 ·cases h
def neg78Spec:FnSpec
 | [.v (.a [.ob (.s x)])]=>some ([],.v (.a [.ob (.s (0-x))]),[])
 | _=>none
def iA2:Env:=iA1.set (addT iA1.fn 78 neg78Spec)
theorem iA2_ok:EnvOk Try.prog iA2:=env_add iA1_ok 78 neg78Spec (enters_of Try.func78 rfl rfl) fun args o r es h _=>by
 unfold neg78Spec at h
 split at h
 ·cases h;exact fn_sound hD_ok Try.func78 (q78 _) trivial
 ·cases h
def cl40Spec:FnSpec
 | [.v (.a [.ob (.fr a)])]=>some ([],.v (.a [.ob (.fr (outF (inF a)))]),[])
 | _=>none
def iA3:Env:=iA2.set (addT iA2.fn 40 cl40Spec)
theorem iA3_ok:EnvOk Try.prog iA3:=env_add iA2_ok 40 cl40Spec (enters_of Try.func40 rfl rfl) fun args o r es h _=>by
 unfold cl40Spec at h
 split at h
 ·cases h;exact fn_sound hD_ok Try.func40 (q40 _) trivial
 ·cases h
def add80Spec:FnSpec
 | [.v (.a [.ob (.fr a)]),.v (.a [.ob (.fr b)])]=>some ([],.v (.a [.ob (.fr (outF (inF a+inF b)))]),[])
 | _=>none
def iA4:Env:=iA3.set (addT iA3.fn 80 add80Spec)
theorem iA4_ok:EnvOk Try.prog iA4:=env_add iA3_ok 80 add80Spec (enters_of Try.func80 rfl rfl) fun args o r es h _=>by
 unfold add80Spec at h
 split at h
 ·cases h;exact fn_sound hD_ok Try.func80 (q80 _ _) trivial
 ·cases h
def mul81Spec:FnSpec
 | [.v (.a [.ob (.fr a)]),.v (.a [.ob (.fr b)])]=>some ([],.v (.a [.ob (.fr (outF (inF a*inF b)))]),[])
 | _=>none
def iA5:Env:=iA4.set (addT iA4.fn 81 mul81Spec)
theorem iA5_ok:EnvOk Try.prog iA5:=env_add iA4_ok 81 mul81Spec (enters_of Try.func81 rfl rfl) fun args o r es h _=>by
 unfold mul81Spec at h
 split at h
 ·cases h;exact fn_sound hD_ok Try.func81 (q81 _ _) trivial
 ·cases h
def sub88Spec:FnSpec
 | [.v (.a [.ob (.fr a)]),.v (.a [.ob (.fr b)])]=>some ([],.v (.a [.ob (.fr (outF (inF a-inF b)))]),[])
 | _=>none
def iA6:Env:=iA5.set (addT iA5.fn 88 sub88Spec)
theorem iA6_ok:EnvOk Try.prog iA6:=env_add iA5_ok 88 sub88Spec (enters_of Try.func88 rfl rfl) fun args o r es h _=>by
 unfold sub88Spec at h
 split at h
 ·cases h;exact fn_sound hD_ok Try.func88 (q88 _ _) trivial
 ·cases h
def one63Spec:FnSpec
 | []=>some ([],.v (.a [.ob (.fr oneU)]),[])
 | _=>none
def iA7:Env:=iA6.set (addT iA6.fn 63 one63Spec)
theorem iA7_ok:EnvOk Try.prog iA7:=env_add iA6_ok 63 one63Spec (enters_of Try.func63 rfl rfl) fun args o r es h _=>by
 unfold one63Spec at h
 split at h
 ·cases h;exact one63_fnd
 ·cases h
def wires64Spec:FnSpec
 | [.v (.c (.int .i64 a)),.v (.c (.int .i64 b)),.v (.c (.int .i64 c))]=>some ([],.v (.a [.int .i64 a,.int .i64 b,.int .i64 c]),[])
 | _=>none
def iA8:Env:=iA7.set (addT iA7.fn 64 wires64Spec)
theorem iA8_ok:EnvOk Try.prog iA8:=env_add iA7_ok 64 wires64Spec (enters_of Try.func64 rfl rfl) fun args o r es h _=>by
 unfold wires64Spec at h
 split at h
 ·cases h;exact wires64_fnd _ _ _
 ·cases h
def add72Spec:FnSpec
 | [.v (.a [.ob (.fr a)]),.v (.a [.ob (.fr b)])]=>some ([],.v (.a [.ob (.fr (cleanU (a+b)))]),[])
 | _=>none
def iA9:Env:=iA8.set (addT iA8.fn 72 add72Spec)
theorem iA9_ok:EnvOk Try.prog iA9:=env_add iA8_ok 72 add72Spec (enters_of Try.func72 rfl rfl) fun args o r es h _=>by
 unfold add72Spec at h
 split at h
 ·cases h;exact fn_sound hD_ok Try.func72 (q72 _ _) trivial
 ·cases h
def small105Spec:FnSpec
 | [.v (.c (.int .i64 n))]=>some ([n = -1],.v (.a [.ob (.fr mO)]),[])
 | _=>none
def iA:Env:=iA9.set (addT iA9.fn 105 small105Spec)
theorem iA_ok:EnvOk Try.prog iA:=env_add iA9_ok 105 small105Spec (enters_of Try.func105 rfl rfl) fun args o r es h ho=>by
 unfold small105Spec at h
 split at h
 ·cases h;exact (by obtain ⟨rfl,_⟩:=ho;exact small105_fnd)
 ·cases h
--@env iA iA_ok
theorem q50 (x:U4):fnRes iA Try.f50 3000 [.v (.a [.ob (.fr x)])] [] [] []=(some ([],((.v (.a [(.ob (.fr (outF ((0:Fr)-(inF x)))))])),[]))):=by kernel_rfl
theorem q45A  : fnRes iA Try.f45 3000 [.v (.c (.int .i64 1))] [false] [] []=(some ([((decide ((1:Int)<(0:Int)))=false),((1:Int)=(1:Int))],((.v (.a [(.ob (.fr (outF (1:Fr))))])),[]))):=by kernel_rfl
theorem q45B  : fnRes iA Try.f45 3000 [.v (.c (.int .i64 (-1)))] [true] [] []=(some ([((decide ((-1)<(0:Int)))=true),((1:Int)=(1:Int))],((.v (.a [(.ob (.fr (outF ((0:Fr)-(1:Fr)))))])),[]))):=by kernel_rfl
theorem q97  : fnRes iA Try.f97 3000 [] [] [] []=(some ([((-1)=(-1))],((.v (.a [.ob (.fr mO)])),[]))):=by kernel_rfl
theorem q107 (x y:U4):fnRes iA Try.f107 3000 [.v (.a [.ob (.fr x)]),.v (.a [.ob (.fr y)])] [] [] []=(some ([((Fin.val y)<rN)],((.v (.a [(.ob (.fr (cleanU (x+(outF ((0:Fr)-(inF y)))))))])),[]))):=by kernel_rfl
theorem small45_fnd (n:Int) (h:n=1∨n = -1):FnD Try.prog 45 [.v (.c (.int .i64 n))] (.v (.a [.ob (.fr (smallU n))])) []:=by
 rcases h with rfl | rfl
 ·exact fnd_eq (fn_sound iA_ok Try.func45 q45A ⟨by decide,rfl,trivial⟩) (by show SV.v (.a [.ob (.fr (outF 1))])=SV.v (.a [.ob (.fr oneU)]);rw[outF_one])
 ·exact fnd_eq (fn_sound iA_ok Try.func45 q45B ⟨by decide,rfl,trivial⟩) (by kernel_rfl)
def neg50Spec:FnSpec
 | [.v (.a [.ob (.fr a)])]=>some ([],.v (.a [.ob (.fr (outF (0-inF a)))]),[])
 | _=>none
def iB1:Env:=iA.set (addT iA.fn 50 neg50Spec)
theorem iB1_ok:EnvOk Try.prog iB1:=env_add iA_ok 50 neg50Spec (enters_of Try.func50 rfl rfl) fun args o r es h _=>by
 unfold neg50Spec at h
 split at h
 ·cases h;exact fn_sound iA_ok Try.func50 (q50 _) trivial
 ·cases h
def small45Spec:FnSpec
 | [.v (.c (.int .i64 n))]=>some ([n=1∨n = -1],.v (.a [.ob (.fr (smallU n))]),[])
 | _=>none
def iB2:Env:=iB1.set (addT iB1.fn 45 small45Spec)
theorem iB2_ok:EnvOk Try.prog iB2:=env_add iB1_ok 45 small45Spec (enters_of Try.func45 rfl rfl) fun args o r es h ho=>by
 unfold small45Spec at h
 split at h
 ·cases h;exact small45_fnd _ ho.1
 ·cases h
def sub107Spec:FnSpec
 | [.v (.a [.ob (.fr a)]),.v (.a [.ob (.fr b)])]=>some ([b.val<rN],.v (.a [.ob (.fr (cleanU (a+outF (0-inF b))))]),[])
 | _=>none
def iB3:Env:=iB2.set (addT iB2.fn 107 sub107Spec)
theorem iB3_ok:EnvOk Try.prog iB3:=env_add iB2_ok 107 sub107Spec (enters_of Try.func107 rfl rfl) fun args o r es h ho=>by
 unfold sub107Spec at h
 split at h
 ·cases h;exact fn_sound iA_ok Try.func107 (q107 _ _) ⟨ho.1,trivial⟩
 ·cases h
def minus97Spec:FnSpec
 | []=>some ([],.v (.a [.ob (.fr mO)]),[])
 | _=>none
def iB:Env:=iB3.set (addT iB3.fn 97 minus97Spec)
theorem iB_ok:EnvOk Try.prog iB:=env_add iB3_ok 97 minus97Spec (enters_of Try.func97 rfl rfl) fun args o r es h _=>by
 unfold minus97Spec at h
 split at h
 ·cases h;exact fn_sound iA_ok Try.func97 q97 ⟨rfl,trivial⟩
 ·cases h
--@env iB iB_ok
theorem q24  : fnRes iB Try.f24 3000 [] [] [] []=(some ([(Or ((1:Int)=(1:Int)) ((1:Int)=(-1)))],((.v (.a [(.ob (.fr (smallU (1:Int))))])),[]))):=by kernel_rfl
theorem q55  : fnRes iB Try.f55 3000 [] [] [] []=(some ([(Or ((-1)=(1:Int)) ((-1)=(-1)))],((.v (.a [(.ob (.fr (smallU (-1))))])),[]))):=by kernel_rfl
def one24Spec:FnSpec
 | []=>some ([],.v (.a [.ob (.fr oneU)]),[])
 | _=>none
def iC1:Env:=iB.set (addT iB.fn 24 one24Spec)
theorem iC1_ok:EnvOk Try.prog iC1:=env_add iB_ok 24 one24Spec (enters_of Try.func24 rfl rfl) fun args o r es h _=>by
 unfold one24Spec at h
 split at h
 ·cases h;exact fn_sound iB_ok Try.func24 q24 ⟨.inl rfl,trivial⟩
 ·cases h
def minus55Spec:FnSpec
 | []=>some ([],.v (.a [.ob (.fr mO)]),[])
 | _=>none
def iC2:Env:=iC1.set (addT iC1.fn 55 minus55Spec)
theorem iC2_ok:EnvOk Try.prog iC2:=env_add iC1_ok 55 minus55Spec (enters_of Try.func55 rfl rfl) fun args o r es h _=>by
 unfold minus55Spec at h
 split at h
 ·cases h;exact fn_sound iB_ok Try.func55 q55 ⟨.inr rfl,trivial⟩
 ·cases h
def checkSpec:FnSpec
 | [.v (.a [.int .i64 t,.int .i64 a,.int .i64 b,.int .i64 c,.int .i64 m,.ob (.fr k),.sl (.fr ks),.sl (.int vs)]),.v (.c (.int .i64 n))]=>some ([],.v (.c (.int .i64 (checkE t a b c m k ks vs n))),[])
 | _=>none
def iC:Env:=iC2.set (addT iC2.fn 23 checkSpec)
theorem iC_ok:EnvOk Try.prog iC:=env_add iC2_ok 23 checkSpec (enters_of Try.func23 rfl rfl) fun args o r es h _=>by
 unfold checkSpec at h
 split at h
 ·cases h;exact check_fnd _ _ _ _ _ _ _ _ _
 ·cases h
end

section
section
variable {w0:World} {F0:Nat→Prop} {K:Kp} {ac:List Act} {Q:Exit→Act→World→Prop} {cX:Ctx} {aX:Act}

/-- Stepped into besides: what goes through operations. -/
def addI (T:Nat→Option Func) (g:Nat) (fn:Func):Nat→Option Func:=fun f=>if f=g then some fn else T f
theorem inl_add {R:Nat→Func→Prop} {S:Nat→Func→Prop} {T:Nat→Option Func} (h:∀f fn,T f=some fn→R f fn∧S f fn) {g:Nat} {fn:Func} (h1:R g fn) (h2:S g fn):∀f fn',addI T g fn f=some fn' → R f fn' ∧ S f fn' := by
 intro f fn' hf
 unfold addI at hf
 split at hf
 ·rename_i e;subst e;cases hf;exact ⟨h1,h2⟩
 ·exact h f fn' hf
def iD:Env:={ iC with inl:=(addI (addI (addI (addI (addI (addI (addI (addI (addI (addI (addI (addI (addI (addI (addI (addI (addI (addI (addI (addI (addI (addI iC.inl 25 Try.f25) 46 Try.f46) 49 Try.f49) 51 Try.f51) 52 Try.f52) 53 Try.f53) 54 Try.f54) 56 Try.f56) 57 Try.f57) 58 Try.f58) 59 Try.f59) 60 Try.f60) 47 Try.f47) 48 Try.f48) 79 Try.f79) 82 Try.f82) 83 Try.f83) 84 Try.f84) 85 Try.f85) 87 Try.f87) 89 Try.f89) 90 Try.f90) }
theorem iD_ok:EnvOk Try.prog iD:=⟨iC_ok.ty,iC_ok.mixed,iC_ok.fn,iC_ok.mu,(inl_add (inl_add (inl_add (inl_add (inl_add (inl_add (inl_add (inl_add (inl_add (inl_add (inl_add (inl_add (inl_add (inl_add (inl_add (inl_add (inl_add (inl_add (inl_add (inl_add (inl_add (inl_add iC_ok.inl Try.func25 (enters_of Try.func25 rfl rfl)) Try.func46 (enters_of Try.func46 rfl rfl)) Try.func49 (enters_of Try.func49 rfl rfl)) Try.func51 (enters_of Try.func51 rfl rfl)) Try.func52 (enters_of Try.func52 rfl rfl)) Try.func53 (enters_of Try.func53 rfl rfl)) Try.func54 (enters_of Try.func54 rfl rfl)) Try.func56 (enters_of Try.func56 rfl rfl)) Try.func57 (enters_of Try.func57 rfl rfl)) Try.func58 (enters_of Try.func58 rfl rfl)) Try.func59 (enters_of Try.func59 rfl rfl)) Try.func60 (enters_of Try.func60 rfl rfl)) Try.func47 (enters_of Try.func47 rfl rfl)) Try.func48 (enters_of Try.func48 rfl rfl)) Try.func79 (enters_of Try.func79 rfl rfl)) Try.func82 (enters_of Try.func82 rfl rfl)) Try.func83 (enters_of Try.func83 rfl rfl)) Try.func84 (enters_of Try.func84 rfl rfl)) Try.func85 (enters_of Try.func85 rfl rfl)) Try.func87 (enters_of Try.func87 rfl rfl)) Try.func89 (enters_of Try.func89 rfl rfl)) Try.func90 (enters_of Try.func90 rfl rfl)),iC_ok.ex,iC_ok.inv⟩
--@env iD iD_ok
theorem cpL (l:List OpD):fnRes iD Try.f9 3000 [.v (.c (.sl (.op l)))] [true] [] []=(some ([((decide ((l.length:Int) > (1000:Int)))=true)],((.t [(.a [(.sl (.gate ([]:List GateD))),(.int .i64 (0:Int)),(.int .i64 (0:Int))]),(.c (.int .i64 (2:Int))),(.c (.int .i64 (0:Int)))]),[]))):=by kernel_rfl
def cpA_k:List KI:=(run iD false 3000 ((fun (l:List OpD)=>(⟨[.code (bodyOf Try.f9)],.normal,initSt Try.f9.ntmps [.v (.c (.sl (.op l)))]⟩:Cfg)) default) [false]).cfg.k
theorem cpA (l:List OpD) (ho:AllP [((decide ((l.length:Int) > (1000:Int)))=false)]):Sg Try.prog (initSt Try.f9.ntmps [.v (.c (.sl (.op l)))]) (mkSt 77 [2,5,6,16,17,18] [.pt 16 0,.pt 128 0,(.ci (.val (Value.slice Option.none 0 0))),(.ci (.sl (.op l))),(.ii (l.length:Int)),.ii (0:Int)] [16,128] [(eF [(.sl (.gate ([]:List GateD))),(.int .i64 (0:Int)),(.int .i64 (0:Int))]),(eF [(.val (Value.slice Option.none 0 0)),(.int .i64 (0:Int)),(.val (Value.pointer Option.none))])] 224 [] []) .normal (cpA_k) ([.code (bodyOf Try.f9)]):=fun hs hK=>
 run_at2 (unroll:=false) (n:=3000) (path:=[false]) (o:=⟨_,_,_,_,_,_,_⟩) iD_ok (by kernel_rfl) (by kernel_rfl) ho hs hK
end
end

section
section
variable {w0:World} {F0:Nat→Prop} {K:Kp} {ac:List Act} {Q:Exit→Act→World→Prop} {cX:Ctx} {aX:Act}

def mulUSpecL:FnSpec
 | [.v (.a [.ob (.fr a)]),.v (.a [.ob (.fr b)])]=>some ([b.val<rN],.v (.a [.ob (.fr (mulU a b))]),[])
 | _=>none
def envL:Env:=envK.set (addT envK.fn 73 mulUSpecL)
theorem envL_ok:EnvOk Try.prog envL:=env_add envK_ok 73 mulUSpecL (enters_of Try.func73 rfl rfl) fun args o r es h ho=>by
 unfold mulUSpecL at h
 split at h
 ·cases h;exact mulU_fnd _ _ ho.1
 ·cases h

def pw0 (a b:U4):Cfg:=⟨[.code (bodyOf Try.f109)],.normal,initSt Try.f109.ntmps [.v (.a [.ob (.fr a)]),.v (.a [.ob (.fr b)])]⟩
--@env envL envL_ok
def pwIn_k:List KI:=(run envL false 3000 ((fun (a b:U4)=>(pw0 a b:Cfg)) default default) []).cfg.k
theorem pwIn (a b:U4) (ho:AllP [(0≤(1:Int)),((1:Int)<(18446744073709551616:Int)),(0≤(0:Int)),(0<(18446744073709551616:Int)),(0≤(0:Int)),(0<(18446744073709551616:Int)),(0≤(0:Int)),(0<(18446744073709551616:Int))]) (hs:Sim w0 F0 K ac (((pw0 a b:Cfg)).σ) cX aX) (hK:∀ac cY aY,Sim w0 F0 K ac (mkSt 23 [2,3,4,5,6] [.pt 16 0,.pt 32 0,.pt 48 0,.pt 80 0,.ii (255:Int)] [16,32,48,80] [(eF [.ob (.fr a)]),(eF [.ob (.fr b)]),(eF [(.ob (.fr (0:U4)))]),(eF [(.ob (.fr (Fin.ofNat B4 1)))])] 128 [] []) cY aY→Wq Try.prog Q (pwIn_k) ac Exit.normal aY cY.w):Wq Try.prog Q (((pw0 a b:Cfg)).k) ac ((pw0 a b:Cfg)).x aX cX.w:=
 run_at (unroll:=false) (n:=3000) (path:=[]) (o:=⟨_,_,_,_,_,_,_⟩) envL_ok (by kernel_rfl) (by kernel_rfl) ho hs hK
def pwrS (a b o:U4) (i:Int):St:=mkSt 23 [2,3,4,5,6] [.pt 16 0,.pt 32 0,.pt 48 0,.pt 80 0,.v (.c (.int .i64 i))] [16,32,48,80] [(eF [.ob (.fr a)]),(eF [.ob (.fr b)]),(eF [(.ob (.fr (0:U4)))]),some (.fl [.ob (.fr o)])] 128 [] []
section
variable (a b o:U4) (i:Int)
theorem pwA (ho:AllP [((decide (i ≥ (0:Int)))=true),((Fin.val o)<rN),(0≤i),(i<(256:Int)),(((bitV b (i).toNat) == (1:Int))=true),((Fin.val a)<rN)]):Sg Try.prog (pwrS a b o i) (mkSt 23 [2,3,4,5,6] [.pt 16 0,.pt 32 0,.pt 48 0,.pt 80 0,(.ii (wrap .i64 (i-1)))] [16,32,48,80] [(eF [.ob (.fr a)]),(eF [.ob (.fr b)]),(eF [(.ob (.fr (0:U4)))]),(eF [(.ob (.fr (mulU (mulU o o) a)))])] 400 [] []) .normal (lpBk pwIn_k) (lpIn pwIn_k):=fun hs hK=>
 run_at2 (unroll:=false) (n:=3000) (path:=[true,true]) (o:=⟨_,_,_,_,_,_,_⟩) envL_ok (by kernel_rfl) (by kernel_rfl) ho hs hK
theorem pwB (ho:AllP [((decide (i ≥ (0:Int)))=true),((Fin.val o)<rN),(0≤i),(i<(256:Int)),(((bitV b (i).toNat) == (1:Int))=false)]):Sg Try.prog (pwrS a b o i) (mkSt 23 [2,3,4,5,6] [.pt 16 0,.pt 32 0,.pt 48 0,.pt 80 0,(.ii (wrap .i64 (i-1)))] [16,32,48,80] [(eF [.ob (.fr a)]),(eF [.ob (.fr b)]),(eF [(.ob (.fr (0:U4)))]),(eF [(.ob (.fr (mulU o o)))])] 336 [] []) .normal (lpBk pwIn_k) (lpIn pwIn_k):=fun hs hK=>
 run_at2 (unroll:=false) (n:=3000) (path:=[true,false]) (o:=⟨_,_,_,_,_,_,_⟩) envL_ok (by kernel_rfl) (by kernel_rfl) ho hs hK
end
theorem pwX_end (a b o:U4) (i:Int):runEnd envL Try.f109 false 3000 (⟨lpIn pwIn_k,.normal,pwrS a b o i⟩) [false] [] []=(some ([((decide (i ≥ (0:Int)))=false)],((.v (.a [.ob (.fr o)])),[]))):=by kernel_rfl
end
end

section

def powN (x:Fr):Nat→Fr
 | 0=>1
 | n+1=>powN x n*x

theorem powN_add (x:Fr) (m:Nat):∀n,powN x (m+n)=powN x m*powN x n
 | 0=>(Fin.mul_one _).symm
 | n+1=>by
  show powN x (m+n)*x=powN x m*(powN x n*x)
  rw[powN_add x m n,Fin.mul_assoc]

theorem out_one1:outF 1=Fin.ofNat B4 1:=by
 apply Fin.ext
 rw[outF_val]
 rfl

theorem pow103_fnd (x:Fr) (e:U4):FnD Try.prog 109 [.v (.a [.ob (.fr (outF x))]),.v (.a [.ob (.fr e)])] (.v (.a [.ob (.fr (outF (powN x e.val)))])) []:=by
 refine fn_start (fn:=Try.f109) (c:=bodyOf Try.f109) Try.func109 rfl rfl fun cx a0 hk hF hs=>?_
 refine pwIn (outF x) e ⟨by decide,by decide,by decide,by decide,by decide,by decide,by decide,by decide,trivial⟩ hs fun ac cY aY hs1=>?_
 rw[←out_one1] at hs1
 refine loop_rule (ι:={ p:Int×Fr // -1≤p.1∧p.1≤255∧p.2=powN x (e.val / 2 ^ (p.1+1).toNat) }) (fun p=>pwrS (outF x) e (outF p.1.2) p.1.1) (fun p=>(p.1.1+1).toNat) (c:=lpC pwIn_k) (k:=lpR pwIn_k) (by kernel_rfl) (fun p ih ac cY aY hs=>?_)
  ⟨(255,1),by decide,by decide,by
   show (1:Fr)=powN x (e.val / 2 ^ 256)
   have he:e.val<2 ^ 256:=e.isLt
   rw[Nat.div_eq_of_lt he];rfl⟩ hs1
 obtain ⟨⟨i,o⟩,hi1,hi2,ho⟩:=p
 simp only at ih hs ho hi1 hi2
 by_cases h:0≤i
 ·obtain ⟨j,rfl⟩:=Int.eq_ofNat_of_zero_le h
  have e1:((j:Int)+1).toNat=j+1:=by omega
  rw[e1] at ho
  have hhs:=half_step e.val j
  have e2:((j:Int)-1+1).toNat=j:=by omega
  by_cases hbit:e.val / 2 ^ j % 2=1
  ·refine pwA (outF x) e (outF o) j ⟨by simp,outF_lt o,by omega,by omega,by simp [bitV,hbit],outF_lt x,trivial⟩ hs fun ac cY aY hs2=>?_
   rw[wrap_id (by omega) (by omega),mulU_out,mulU_out] at hs2
   refine ih ⟨((j:Int)-1,o*o*x),by omega,by omega,?_⟩ (by show ((j:Int)-1+1).toNat<((j:Int)+1).toNat;omega) ac cY aY (hs2.nx _)
   show o*o*x=powN x (e.val / 2 ^ ((j:Int)-1+1).toNat)
   rw[e2,hhs,hbit,Nat.two_mul]
   show _=powN x (e.val / 2 ^ (j+1)+e.val / 2 ^ (j+1))*x
   rw[powN_add,←ho]
  ·have hbit0:e.val / 2 ^ j % 2=0:=by omega
   refine pwB (outF x) e (outF o) j ⟨by simp,outF_lt o,by omega,by omega,by simp [bitV,hbit0],trivial⟩ hs fun ac cY aY hs2=>?_
   rw[wrap_id (by omega) (by omega),mulU_out] at hs2
   refine ih ⟨((j:Int)-1,o*o),by omega,by omega,?_⟩ (by show ((j:Int)-1+1).toNat<((j:Int)+1).toNat;omega) ac cY aY (hs2.nx _)
   show o*o=powN x (e.val / 2 ^ ((j:Int)-1+1).toNat)
   rw[e2,hhs,hbit0,Nat.add_zero,Nat.two_mul,powN_add,←ho]
 ·have hi:i = -1:=by omega
  subst hi
  refine run_end2 envL_ok hk hF (pwX_end (outF x) e (outF o) (-1)) ⟨by decide,trivial⟩ (fun y v hd=>?_) hs
  have:o=powN x e.val:=by
   rw[ho]
   show powN x (e.val / 2 ^ 0)=_
   rw[Nat.pow_zero,Nat.div_one]
  rw[←this]
  exact hd

end

section
section
variable {w0:World} {F0:Nat→Prop} {K:Kp} {ac:List Act} {Q:Exit→Act→World→Prop} {cX:Ctx} {aX:Act}

--@env iC iC_ok
theorem thA (v n:Int):fnRes iC Try.f91 3000 [.v (.c (.int .i64 v)),.v (.c (.int .i64 n))] [true] [] []=(some ([((decide (v ≥ (0:Int)))=true)],((.ci (.bool (decide (v<n)))),[]))):=by kernel_rfl
theorem thB (v n:Int):fnRes iC Try.f91 3000 [.v (.c (.int .i64 v)),.v (.c (.int .i64 n))] [false] [] []=(some ([((decide (v ≥ (0:Int)))=false)],((.ci (.lit false)),[]))):=by kernel_rfl
theorem there_fnd (v n:Int):FnD Try.prog 91 [.v (.c (.int .i64 v)),.v (.c (.int .i64 n))] (.v (.c (.bool (inV n v)))) []:=by
 by_cases h:0≤v
 ·have e:inV n v=decide (v<n):=by unfold inV;rw[decide_eq_true h,Bool.true_and]
  rw[e]
  exact fn_sound iC_ok Try.func91 (thA v n) ⟨decide_eq_true (by omega),trivial⟩
 ·have e:inV n v=false:=by unfold inV;rw[decide_eq_false h,Bool.false_and]
  exact (fn_sound iC_ok Try.func91 (thB v n) ⟨decide_eq_false (by omega),trivial⟩).conv (fun _ _ h=>h) fun y v hd=>lit_bool e.symm hd
def thereSpec:FnSpec
 | [.v (.c (.int .i64 v)),.v (.c (.int .i64 n))]=>some ([],.v (.c (.bool (inV n v))),[])
 | _=>none
def rA:Env:=iC.set (addT iC.fn 91 thereSpec)
theorem rA_ok:EnvOk Try.prog rA:=env_add iC_ok 91 thereSpec (enters_of Try.func91 rfl rfl) fun args o r es h _=>by
 unfold thereSpec at h
 split at h
 ·cases h;exact there_fnd _ _
 ·cases h
--@env rA rA_ok
theorem rk1 (a b c m:Int) (k:U4) (ks:List U4) (vs:List Int) (n:Int):fnRes rA Try.f61 3000 [.v (.a [.int .i64 1,.int .i64 a,.int .i64 b,.int .i64 c,.int .i64 m,.ob (.fr k),.sl (.fr ks),.sl (.int vs)]),.v (.c (.int .i64 n))] [true,true] [] []=(some ([(((1:Int)==1)=true),(((1:Int)==1)=true)],((.ii (0:Int)),[]))):=by kernel_rfl
theorem rk3 (a b c m:Int) (k:U4) (ks:List U4) (vs:List Int) (n:Int):fnRes rA Try.f61 3000 [.v (.a [.int .i64 3,.int .i64 a,.int .i64 b,.int .i64 c,.int .i64 m,.ob (.fr k),.sl (.fr ks),.sl (.int vs)]),.v (.c (.int .i64 n))] [false,true] [] []=(some ([(((3:Int)==1)=false),(((3:Int)==3)=true)],((.ii (0:Int)),[]))):=by kernel_rfl
theorem rk8a (a b c m:Int) (k:U4) (ks:List U4) (vs:List Int) (n:Int):fnRes rA Try.f61 3000 [.v (.a [.int .i64 8,.int .i64 a,.int .i64 b,.int .i64 c,.int .i64 m,.ob (.fr k),.sl (.fr ks),.sl (.int vs)]),.v (.c (.int .i64 n))] [false,false,false,true,false,false] [] []=(some ([(((8:Int)==1)=false),(((8:Int)==3)=false),(((8:Int)==6)=false),(((8:Int)==8)=true),((inV n a)=false)],((.ii (60:Int)),[]))):=by kernel_rfl
theorem rk8b (a b c m:Int) (k:U4) (ks:List U4) (vs:List Int) (n:Int):fnRes rA Try.f61 3000 [.v (.a [.int .i64 8,.int .i64 a,.int .i64 b,.int .i64 c,.int .i64 m,.ob (.fr k),.sl (.fr ks),.sl (.int vs)]),.v (.c (.int .i64 n))] [false,false,false,true,true,false] [] []=(some ([(((8:Int)==1)=false),(((8:Int)==3)=false),(((8:Int)==6)=false),(((8:Int)==8)=true),((inV n a)=true),((inV n b)=false)],((.ii (60:Int)),[]))):=by kernel_rfl
theorem rk8c (a b c m:Int) (k:U4) (ks:List U4) (vs:List Int) (n:Int):fnRes rA Try.f61 3000 [.v (.a [.int .i64 8,.int .i64 a,.int .i64 b,.int .i64 c,.int .i64 m,.ob (.fr k),.sl (.fr ks),.sl (.int vs)]),.v (.c (.int .i64 n))] [false,false,false,true,true,true,true] [] []=(some ([(((8:Int)==1)=false),(((8:Int)==3)=false),(((8:Int)==6)=false),(((8:Int)==8)=true),((inV n a)=true),((inV n b)=true),((Bool.not (inV n c))=true)],((.ii (60:Int)),[]))):=by kernel_rfl
theorem rk8k (a b c m:Int) (k:U4) (ks:List U4) (vs:List Int) (n:Int):fnRes rA Try.f61 3000 [.v (.a [.int .i64 8,.int .i64 a,.int .i64 b,.int .i64 c,.int .i64 m,.ob (.fr k),.sl (.fr ks),.sl (.int vs)]),.v (.c (.int .i64 n))] [false,false,false,true,true,true,false] [] []=(some ([(((8:Int)==1)=false),(((8:Int)==3)=false),(((8:Int)==6)=false),(((8:Int)==8)=true),((inV n a)=true),((inV n b)=true),((Bool.not (inV n c))=false)],((.ii (0:Int)),[]))):=by kernel_rfl
theorem rk4a (a b c m:Int) (k:U4) (ks:List U4) (vs:List Int) (n:Int):fnRes rA Try.f61 3000 [.v (.a [.int .i64 4,.int .i64 a,.int .i64 b,.int .i64 c,.int .i64 m,.ob (.fr k),.sl (.fr ks),.sl (.int vs)]),.v (.c (.int .i64 n))] [false,false,false,false,true,true,false] [] []=(some ([(((4:Int)==1)=false),(((4:Int)==3)=false),(((4:Int)==6)=false),(((4:Int)==8)=false),(((4:Int)==4)=true),(((4:Int)==4)=true),((inV n a)=false)],((.ii (60:Int)),[]))):=by kernel_rfl
theorem rk4b (a b c m:Int) (k:U4) (ks:List U4) (vs:List Int) (n:Int):fnRes rA Try.f61 3000 [.v (.a [.int .i64 4,.int .i64 a,.int .i64 b,.int .i64 c,.int .i64 m,.ob (.fr k),.sl (.fr ks),.sl (.int vs)]),.v (.c (.int .i64 n))] [false,false,false,false,true,true,true,true] [] []=(some ([(((4:Int)==1)=false),(((4:Int)==3)=false),(((4:Int)==6)=false),(((4:Int)==8)=false),(((4:Int)==4)=true),(((4:Int)==4)=true),((inV n a)=true),((Bool.not (inV n b))=true)],((.ii (60:Int)),[]))):=by kernel_rfl
theorem rk4k (a b c m:Int) (k:U4) (ks:List U4) (vs:List Int) (n:Int):fnRes rA Try.f61 3000 [.v (.a [.int .i64 4,.int .i64 a,.int .i64 b,.int .i64 c,.int .i64 m,.ob (.fr k),.sl (.fr ks),.sl (.int vs)]),.v (.c (.int .i64 n))] [false,false,false,false,true,true,true,false] [] []=(some ([(((4:Int)==1)=false),(((4:Int)==3)=false),(((4:Int)==6)=false),(((4:Int)==8)=false),(((4:Int)==4)=true),(((4:Int)==4)=true),((inV n a)=true),((Bool.not (inV n b))=false)],((.ii (0:Int)),[]))):=by kernel_rfl
theorem rk5a (a b c m:Int) (k:U4) (ks:List U4) (vs:List Int) (n:Int):fnRes rA Try.f61 3000 [.v (.a [.int .i64 5,.int .i64 a,.int .i64 b,.int .i64 c,.int .i64 m,.ob (.fr k),.sl (.fr ks),.sl (.int vs)]),.v (.c (.int .i64 n))] [false,false,false,false,false,true,true,false] [] []=(some ([(((5:Int)==1)=false),(((5:Int)==3)=false),(((5:Int)==6)=false),(((5:Int)==8)=false),(((5:Int)==4)=false),(((5:Int)==5)=true),(((5:Int)==5)=true),((inV n a)=false)],((.ii (60:Int)),[]))):=by kernel_rfl
theorem rk5b (a b c m:Int) (k:U4) (ks:List U4) (vs:List Int) (n:Int):fnRes rA Try.f61 3000 [.v (.a [.int .i64 5,.int .i64 a,.int .i64 b,.int .i64 c,.int .i64 m,.ob (.fr k),.sl (.fr ks),.sl (.int vs)]),.v (.c (.int .i64 n))] [false,false,false,false,false,true,true,true,true] [] []=(some ([(((5:Int)==1)=false),(((5:Int)==3)=false),(((5:Int)==6)=false),(((5:Int)==8)=false),(((5:Int)==4)=false),(((5:Int)==5)=true),(((5:Int)==5)=true),((inV n a)=true),((Bool.not (inV n b))=true)],((.ii (60:Int)),[]))):=by kernel_rfl
theorem rk5k (a b c m:Int) (k:U4) (ks:List U4) (vs:List Int) (n:Int):fnRes rA Try.f61 3000 [.v (.a [.int .i64 5,.int .i64 a,.int .i64 b,.int .i64 c,.int .i64 m,.ob (.fr k),.sl (.fr ks),.sl (.int vs)]),.v (.c (.int .i64 n))] [false,false,false,false,false,true,true,true,false] [] []=(some ([(((5:Int)==1)=false),(((5:Int)==3)=false),(((5:Int)==6)=false),(((5:Int)==8)=false),(((5:Int)==4)=false),(((5:Int)==5)=true),(((5:Int)==5)=true),((inV n a)=true),((Bool.not (inV n b))=false)],((.ii (0:Int)),[]))):=by kernel_rfl
theorem rk11a (a b c m:Int) (k:U4) (ks:List U4) (vs:List Int) (n:Int):fnRes rA Try.f61 3000 [.v (.a [.int .i64 11,.int .i64 a,.int .i64 b,.int .i64 c,.int .i64 m,.ob (.fr k),.sl (.fr ks),.sl (.int vs)]),.v (.c (.int .i64 n))] [false,false,false,false,false,false,true,false] [] []=(some ([(((11:Int)==1)=false),(((11:Int)==3)=false),(((11:Int)==6)=false),(((11:Int)==8)=false),(((11:Int)==4)=false),(((11:Int)==5)=false),(((11:Int)==11)=true),((inV n a)=false)],((.ii (60:Int)),[]))):=by kernel_rfl
theorem rk11b (a b c m:Int) (k:U4) (ks:List U4) (vs:List Int) (n:Int):fnRes rA Try.f61 3000 [.v (.a [.int .i64 11,.int .i64 a,.int .i64 b,.int .i64 c,.int .i64 m,.ob (.fr k),.sl (.fr ks),.sl (.int vs)]),.v (.c (.int .i64 n))] [false,false,false,false,false,false,true,true,true] [] []=(some ([(((11:Int)==1)=false),(((11:Int)==3)=false),(((11:Int)==6)=false),(((11:Int)==8)=false),(((11:Int)==4)=false),(((11:Int)==5)=false),(((11:Int)==11)=true),((inV n a)=true),((Bool.not (inV n b))=true)],((.ii (60:Int)),[]))):=by kernel_rfl
theorem rk11k (a b c m:Int) (k:U4) (ks:List U4) (vs:List Int) (n:Int):fnRes rA Try.f61 3000 [.v (.a [.int .i64 11,.int .i64 a,.int .i64 b,.int .i64 c,.int .i64 m,.ob (.fr k),.sl (.fr ks),.sl (.int vs)]),.v (.c (.int .i64 n))] [false,false,false,false,false,false,true,true,false] [] []=(some ([(((11:Int)==1)=false),(((11:Int)==3)=false),(((11:Int)==6)=false),(((11:Int)==8)=false),(((11:Int)==4)=false),(((11:Int)==5)=false),(((11:Int)==11)=true),((inV n a)=true),((Bool.not (inV n b))=false)],((.ii (0:Int)),[]))):=by kernel_rfl
theorem rk2a (a b c m:Int) (k:U4) (ks:List U4) (vs:List Int) (n:Int):fnRes rA Try.f61 3000 [.v (.a [.int .i64 2,.int .i64 a,.int .i64 b,.int .i64 c,.int .i64 m,.ob (.fr k),.sl (.fr ks),.sl (.int vs)]),.v (.c (.int .i64 n))] [false,false,false,false,false,false,false,false,true,true,true] [] []=(some ([(((2:Int)==1)=false),(((2:Int)==3)=false),(((2:Int)==6)=false),(((2:Int)==8)=false),(((2:Int)==4)=false),(((2:Int)==5)=false),(((2:Int)==11)=false),(((2:Int)==10)=false),(((2:Int)==2)=true),(((2:Int)==2)=true),((Bool.not (inV n a))=true)],((.ii (60:Int)),[]))):=by kernel_rfl
theorem rk2k (a b c m:Int) (k:U4) (ks:List U4) (vs:List Int) (n:Int):fnRes rA Try.f61 3000 [.v (.a [.int .i64 2,.int .i64 a,.int .i64 b,.int .i64 c,.int .i64 m,.ob (.fr k),.sl (.fr ks),.sl (.int vs)]),.v (.c (.int .i64 n))] [false,false,false,false,false,false,false,false,true,true,false] [] []=(some ([(((2:Int)==1)=false),(((2:Int)==3)=false),(((2:Int)==6)=false),(((2:Int)==8)=false),(((2:Int)==4)=false),(((2:Int)==5)=false),(((2:Int)==11)=false),(((2:Int)==10)=false),(((2:Int)==2)=true),(((2:Int)==2)=true),((Bool.not (inV n a))=false)],((.ii (0:Int)),[]))):=by kernel_rfl
theorem rk7a (a b c m:Int) (k:U4) (ks:List U4) (vs:List Int) (n:Int):fnRes rA Try.f61 3000 [.v (.a [.int .i64 7,.int .i64 a,.int .i64 b,.int .i64 c,.int .i64 m,.ob (.fr k),.sl (.fr ks),.sl (.int vs)]),.v (.c (.int .i64 n))] [false,false,false,false,false,false,false,false,false,true,true,true] [] []=(some ([(((7:Int)==1)=false),(((7:Int)==3)=false),(((7:Int)==6)=false),(((7:Int)==8)=false),(((7:Int)==4)=false),(((7:Int)==5)=false),(((7:Int)==11)=false),(((7:Int)==10)=false),(((7:Int)==2)=false),(((7:Int)==7)=true),(((7:Int)==7)=true),((Bool.not (inV n a))=true)],((.ii (60:Int)),[]))):=by kernel_rfl
theorem rk7k (a b c m:Int) (k:U4) (ks:List U4) (vs:List Int) (n:Int):fnRes rA Try.f61 3000 [.v (.a [.int .i64 7,.int .i64 a,.int .i64 b,.int .i64 c,.int .i64 m,.ob (.fr k),.sl (.fr ks),.sl (.int vs)]),.v (.c (.int .i64 n))] [false,false,false,false,false,false,false,false,false,true,true,false] [] []=(some ([(((7:Int)==1)=false),(((7:Int)==3)=false),(((7:Int)==6)=false),(((7:Int)==8)=false),(((7:Int)==4)=false),(((7:Int)==5)=false),(((7:Int)==11)=false),(((7:Int)==10)=false),(((7:Int)==2)=false),(((7:Int)==7)=true),(((7:Int)==7)=true),((Bool.not (inV n a))=false)],((.ii (0:Int)),[]))):=by kernel_rfl
theorem rk9a (a b c m:Int) (k:U4) (ks:List U4) (vs:List Int) (n:Int):fnRes rA Try.f61 3000 [.v (.a [.int .i64 9,.int .i64 a,.int .i64 b,.int .i64 c,.int .i64 m,.ob (.fr k),.sl (.fr ks),.sl (.int vs)]),.v (.c (.int .i64 n))] [false,false,false,false,false,false,false,false,false,false,true,true] [] []=(some ([(((9:Int)==1)=false),(((9:Int)==3)=false),(((9:Int)==6)=false),(((9:Int)==8)=false),(((9:Int)==4)=false),(((9:Int)==5)=false),(((9:Int)==11)=false),(((9:Int)==10)=false),(((9:Int)==2)=false),(((9:Int)==7)=false),(((9:Int)==9)=true),((Bool.not (inV n a))=true)],((.ii (60:Int)),[]))):=by kernel_rfl
theorem rk9k (a b c m:Int) (k:U4) (ks:List U4) (vs:List Int) (n:Int):fnRes rA Try.f61 3000 [.v (.a [.int .i64 9,.int .i64 a,.int .i64 b,.int .i64 c,.int .i64 m,.ob (.fr k),.sl (.fr ks),.sl (.int vs)]),.v (.c (.int .i64 n))] [false,false,false,false,false,false,false,false,false,false,true,false] [] []=(some ([(((9:Int)==1)=false),(((9:Int)==3)=false),(((9:Int)==6)=false),(((9:Int)==8)=false),(((9:Int)==4)=false),(((9:Int)==5)=false),(((9:Int)==11)=false),(((9:Int)==10)=false),(((9:Int)==2)=false),(((9:Int)==7)=false),(((9:Int)==9)=true),((Bool.not (inV n a))=false)],((.ii (0:Int)),[]))):=by kernel_rfl
theorem rk10A (a b c m:Int) (k:U4) (ks:List U4) (vs:List Int) (n:Int):fnRes rA Try.f61 3000 [.v (.a [.int .i64 10,.int .i64 a,.int .i64 b,.int .i64 c,.int .i64 m,.ob (.fr k),.sl (.fr ks),.sl (.int vs)]),.v (.c (.int .i64 n))] [false,false,false,false,false,false,false,true,true] [] []=(some ([(((10:Int)==1)=false),(((10:Int)==3)=false),(((10:Int)==6)=false),(((10:Int)==8)=false),(((10:Int)==4)=false),(((10:Int)==5)=false),(((10:Int)==11)=false),(((10:Int)==10)=true),((decide (m<(1:Int)))=true)],((.ii (62:Int)),[]))):=by kernel_rfl
theorem rk10B (a b c m:Int) (k:U4) (ks:List U4) (vs:List Int) (n:Int):fnRes rA Try.f61 3000 [.v (.a [.int .i64 10,.int .i64 a,.int .i64 b,.int .i64 c,.int .i64 m,.ob (.fr k),.sl (.fr ks),.sl (.int vs)]),.v (.c (.int .i64 n))] [false,false,false,false,false,false,false,true,false,true] [] []=(some ([(((10:Int)==1)=false),(((10:Int)==3)=false),(((10:Int)==6)=false),(((10:Int)==8)=false),(((10:Int)==4)=false),(((10:Int)==5)=false),(((10:Int)==11)=false),(((10:Int)==10)=true),((decide (m<(1:Int)))=false),((decide (m > (254:Int)))=true)],((.ii (62:Int)),[]))):=by kernel_rfl
theorem rk10a (a b c m:Int) (k:U4) (ks:List U4) (vs:List Int) (n:Int):fnRes rA Try.f61 3000 [.v (.a [.int .i64 10,.int .i64 a,.int .i64 b,.int .i64 c,.int .i64 m,.ob (.fr k),.sl (.fr ks),.sl (.int vs)]),.v (.c (.int .i64 n))] [false,false,false,false,false,false,false,true,false,false,true] [] []=(some ([(((10:Int)==1)=false),(((10:Int)==3)=false),(((10:Int)==6)=false),(((10:Int)==8)=false),(((10:Int)==4)=false),(((10:Int)==5)=false),(((10:Int)==11)=false),(((10:Int)==10)=true),((decide (m<(1:Int)))=false),((decide (m > (254:Int)))=false),((Bool.not (inV n a))=true)],((.ii (60:Int)),[]))):=by kernel_rfl
theorem rk10k (a b c m:Int) (k:U4) (ks:List U4) (vs:List Int) (n:Int):fnRes rA Try.f61 3000 [.v (.a [.int .i64 10,.int .i64 a,.int .i64 b,.int .i64 c,.int .i64 m,.ob (.fr k),.sl (.fr ks),.sl (.int vs)]),.v (.c (.int .i64 n))] [false,false,false,false,false,false,false,true,false,false,false] [] []=(some ([(((10:Int)==1)=false),(((10:Int)==3)=false),(((10:Int)==6)=false),(((10:Int)==8)=false),(((10:Int)==4)=false),(((10:Int)==5)=false),(((10:Int)==11)=false),(((10:Int)==10)=true),((decide (m<(1:Int)))=false),((decide (m > (254:Int)))=false),((Bool.not (inV n a))=false)],((.ii (0:Int)),[]))):=by kernel_rfl
theorem rk6A (a b c m:Int) (k:U4) (ks:List U4) (vs:List Int) (n:Int):fnRes rA Try.f61 3000 [.v (.a [.int .i64 6,.int .i64 a,.int .i64 b,.int .i64 c,.int .i64 m,.ob (.fr k),.sl (.fr ks),.sl (.int vs)]),.v (.c (.int .i64 n))] [false,false,true,true,true] [] []=(some ([(((6:Int)==1)=false),(((6:Int)==3)=false),(((6:Int)==6)=true),((decide ((vs.length:Int)<(1:Int)))=true)],((.ii (3:Int)),[]))):=by kernel_rfl
theorem rk6B (a b c m:Int) (k:U4) (ks:List U4) (vs:List Int) (n:Int):fnRes rA Try.f61 3000 [.v (.a [.int .i64 6,.int .i64 a,.int .i64 b,.int .i64 c,.int .i64 m,.ob (.fr k),.sl (.fr ks),.sl (.int vs)]),.v (.c (.int .i64 n))] [false,false,true,false,true] [] []=(some ([(((6:Int)==1)=false),(((6:Int)==3)=false),(((6:Int)==6)=true),((decide ((vs.length:Int)<(1:Int)))=false),((decide ((vs.length:Int) > (64:Int)))=true)],((.ii (3:Int)),[]))):=by kernel_rfl
theorem rk6C (a b c m:Int) (k:U4) (ks:List U4) (vs:List Int) (n:Int):fnRes rA Try.f61 3000 [.v (.a [.int .i64 6,.int .i64 a,.int .i64 b,.int .i64 c,.int .i64 m,.ob (.fr k),.sl (.fr ks),.sl (.int vs)]),.v (.c (.int .i64 n))] [false,false,true,false,false,true] [] []=(some ([(((6:Int)==1)=false),(((6:Int)==3)=false),(((6:Int)==6)=true),((decide ((vs.length:Int)<(1:Int)))=false),((decide ((vs.length:Int) > (64:Int)))=false),(((ks.length:Int) != (vs.length:Int))=true)],((.ii (3:Int)),[]))):=by kernel_rfl
theorem rkX (t:Int) (a b c m:Int) (k:U4) (ks:List U4) (vs:List Int) (n:Int):fnRes rA Try.f61 3000 [.v (.a [.int .i64 t,.int .i64 a,.int .i64 b,.int .i64 c,.int .i64 m,.ob (.fr k),.sl (.fr ks),.sl (.int vs)]),.v (.c (.int .i64 n))] [false,false,false,false,false,false,false,false,false,false,false] [] []=(some ([((t == (1:Int))=false),((t == (3:Int))=false),((t == (6:Int))=false),((t == (8:Int))=false),((t == (4:Int))=false),((t == (5:Int))=false),((t == (11:Int))=false),((t == (10:Int))=false),((t == (2:Int))=false),((t == (7:Int))=false),((t == (9:Int))=false)],((.ii (61:Int)),[]))):=by kernel_rfl
def rkl_k:List KI:=(run rA false 3000 ((fun (a b c m:Int) (k:U4) (ks:List U4) (vs:List Int) (n:Int)=>(⟨[.code (bodyOf Try.f61)],.normal,initSt Try.f61.ntmps [.v (.a [.int .i64 6,.int .i64 a,.int .i64 b,.int .i64 c,.int .i64 m,.ob (.fr k),.sl (.fr ks),.sl (.int vs)]),.v (.c (.int .i64 n))]⟩:Cfg)) default default default default default default default default) [false,false,true,false,false,false]).cfg.k
theorem rkl (a b c m:Int) (k:U4) (ks:List U4) (vs:List Int) (n:Int) (ho:AllP [(((6:Int)==1)=false),(((6:Int)==3)=false),(((6:Int)==6)=true),((decide ((vs.length:Int)<(1:Int)))=false),((decide ((vs.length:Int) > (64:Int)))=false),(((ks.length:Int) != (vs.length:Int))=false)]):Sg Try.prog (initSt Try.f61.ntmps [.v (.a [.int .i64 6,.int .i64 a,.int .i64 b,.int .i64 c,.int .i64 m,.ob (.fr k),.sl (.fr ks),.sl (.int vs)]),.v (.c (.int .i64 n))]) (mkSt 104 [1,5,35,36,37] [.ii n,(.ci (.lit true)),(.ci (.sl (.int vs))),(.ii (vs.length:Int)),.ii (0:Int)] [] [] 560 [] []) .normal (rkl_k) ([.code (bodyOf Try.f61)]):=fun hs hK=>
 run_at2 (unroll:=false) (n:=3000) (path:=[false,false,true,false,false,false]) (o:=⟨_,_,_,_,_,_,_⟩) rA_ok (by kernel_rfl) (by kernel_rfl) ho hs hK
def rklS (_a _b _c _m:Int) (_k:U4) (_ks:List U4) (vs:List Int) (n:Int) (i:Int) (ok:Bool):St:=mkSt 104 [1,5,35,36,37] [.ii n,.v (.c (.bool ok)),(.ci (.sl (.int vs))),(.ii (vs.length:Int)),.v (.c (.int .i64 i))] [] [] 560 [] []
section
variable (a b c m:Int) (k:U4) (ks:List U4) (vs:List Int) (n:Int) (i:Int) (ok:Bool)
theorem rklA (ho:AllP [((decide (i<(vs.length:Int)))=true),(0≤i),(i<(vs.length:Int)),(ok=true)]):Sg Try.prog (rklS a b c m k ks vs n i ok) (mkSt 104 [1,5,35,36,37] [.ii n,(.ci (.bool (inV n (vs.getD i.toNat 0)))),(.ci (.sl (.int vs))),(.ii (vs.length:Int)),(.ii (wrap .i64 (i+1)))] [] [] 768 [] []) .normal (lpBk rkl_k) (lpIn rkl_k):=fun hs hK=>
 run_at2 (unroll:=false) (n:=3000) (path:=[true,true]) (o:=⟨_,_,_,_,_,_,_⟩) rA_ok (by kernel_rfl) (by kernel_rfl) ho hs hK
theorem rklB (ho:AllP [((decide (i<(vs.length:Int)))=true),(0≤i),(i<(vs.length:Int)),(ok=false)]):Sg Try.prog (rklS a b c m k ks vs n i ok) (mkSt 104 [1,5,35,36,37] [.ii n,(.ci (.lit false)),(.ci (.sl (.int vs))),(.ii (vs.length:Int)),(.ii (wrap .i64 (i+1)))] [] [] 768 [] []) .normal (lpBk rkl_k) (lpIn rkl_k):=fun hs hK=>
 run_at2 (unroll:=false) (n:=3000) (path:=[true,false]) (o:=⟨_,_,_,_,_,_,_⟩) rA_ok (by kernel_rfl) (by kernel_rfl) ho hs hK
end
theorem rklX_end (a b c m:Int) (k:U4) (ks:List U4) (vs:List Int) (n:Int) (i:Int) (ok:Bool):runEnd rA Try.f61 false 3000 (⟨lpIn rkl_k,.normal,rklS a b c m k ks vs n i ok⟩) [false,true] [] []=(some ([((decide (i<(vs.length:Int)))=false),((Bool.not ok)=true)],((.ii (60:Int)),[]))):=by kernel_rfl
theorem rklY_end (a b c m:Int) (k:U4) (ks:List U4) (vs:List Int) (n:Int) (i:Int) (ok:Bool):runEnd rA Try.f61 false 3000 (⟨lpIn rkl_k,.normal,rklS a b c m k ks vs n i ok⟩) [false,false] [] []=(some ([((decide (i<(vs.length:Int)))=false),((Bool.not ok)=false)],((.ii (0:Int)),[]))):=by kernel_rfl
end
end

set_option linter.unusedSimpArgs false
section

theorem refLin_fnd (a b c m:Int) (k:U4) (ks:List U4) (vs:List Int) (n:Int) (h1:1≤vs.length) (h2:vs.length≤64) (h3:ks.length=vs.length):FnD Try.prog 61 [.v (.a [.int .i64 6,.int .i64 a,.int .i64 b,.int .i64 c,.int .i64 m,.ob (.fr k),.sl (.fr ks),.sl (.int vs)]),.v (.c (.int .i64 n))] (.v (.c (.int .i64 (checkE 6 a b c m k ks vs n)))) []:=by
 have e:checkE 6 a b c m k ks vs n=if vs.all (inV n) then 0 else 60:=by
  unfold checkE
  rw[if_neg (by decide),if_pos rfl,if_neg (by omega)]
 rw[e]
 refine fn_start (fn:=Try.f61) (c:=bodyOf Try.f61) Try.func61 rfl rfl fun x0 a0 hk hF hs0=>?_
 refine rkl a b c m k ks vs n (by simp [AllP]<;>omega) hs0 fun ac cY aY hs1=>?_
 have hs2:Sim x0.w x0.F kAll ac (rklS a b c m k ks vs n ((0:Nat):Int) true) cY aY:=hs1.slots ⟨fun _ h=>h,fun _ h=>lit_bool rfl h,fun _ h=>h,fun _ h=>h,fun _ h=>h,trivial⟩
 refine loop_rule (ι:={ s:Nat×Bool // s.1≤vs.length∧vs.all (inV n)=(s.2 && (vs.drop s.1).all (inV n)) }) (fun s=>rklS a b c m k ks vs n (s.1.1:Int) s.1.2) (fun s=>vs.length-s.1.1) (c:=lpC rkl_k) (k:=lpR rkl_k) (by kernel_rfl) (fun s ih ac cY aY hs=>?_) ⟨(0,true),Nat.zero_le _,rfl⟩ hs2
 obtain ⟨⟨i,ok⟩,hi,he⟩:=s
 simp only at ih hs hi he
 rw[he]
 by_cases h:i<vs.length
 ·rw[all_drop (inV n) 0 vs i h] at he ⊢
  have w1:wrap IntKind.i64 ((i:Int)+1)=((i+1:Nat):Int):=by rw[wrap_id (by omega) (by omega)];omega
  rw[←he]
  cases ok with
  | true=>
   refine rklA a b c m k ks vs n i true ⟨decide_eq_true (by omega),by omega,by omega,rfl,trivial⟩ hs fun ac cU aU hs3=>?_
   rw[w1,Int.toNat_natCast] at hs3
   exact ih ⟨(i+1,inV n (vs.getD i 0)),h,by rw[he,Bool.true_and]⟩ (by show vs.length-(i+1)<vs.length-i;omega) ac cU aU (hs3.nx _)
  | false=>
   refine rklB a b c m k ks vs n i false ⟨decide_eq_true (by omega),by omega,by omega,rfl,trivial⟩ hs fun ac cU aU hs3=>?_
   rw[w1] at hs3
   have hs4:Sim x0.w x0.F kAll ac (rklS a b c m k ks vs n ((i+1:Nat):Int) false) cU aU:=(hs3.nx _).slots ⟨fun _ h=>h,fun _ h=>lit_bool rfl h,fun _ h=>h,fun _ h=>h,fun _ h=>h,trivial⟩
   exact ih ⟨(i+1,false),h,by rw[he,Bool.false_and,Bool.false_and]⟩ (by show vs.length-(i+1)<vs.length-i;omega) ac cU aU hs4
 ·rw[List.drop_eq_nil_of_le (by omega)]
  cases ok with
  | true=>exact run_end2 rA_ok hk hF (rklY_end a b c m k ks vs n i true) ⟨decide_eq_false (by omega),rfl,trivial⟩ (fun y v hd=>hd) hs
  | false=>exact run_end2 rA_ok hk hF (rklX_end a b c m k ks vs n i false) ⟨decide_eq_false (by omega),rfl,trivial⟩ (fun y v hd=>hd) hs

theorem refCheck_fnd (t:Int) (a b c m:Int) (k:U4) (ks:List U4) (vs:List Int) (n:Int):FnD Try.prog 61 [.v (.a [.int .i64 t,.int .i64 a,.int .i64 b,.int .i64 c,.int .i64 m,.ob (.fr k),.sl (.fr ks),.sl (.int vs)]),.v (.c (.int .i64 n))] (.v (.c (.int .i64 (checkE t a b c m k ks vs n)))) []:=by
 by_cases h1:t=1
 ·subst h1
  have e:checkE 1 a b c m k ks vs n=0:=by simp [checkE, *]<;>omega
  rw[e];exact fn_sound rA_ok Try.func61 (rk1 a b c m k ks vs n) (by simp [AllP, *]<;>omega)
 by_cases h3:t=3
 ·subst h3
  have e:checkE 3 a b c m k ks vs n=0:=by simp [checkE, *]<;>omega
  rw[e];exact fn_sound rA_ok Try.func61 (rk3 a b c m k ks vs n) (by simp [AllP, *]<;>omega)
 by_cases h6:t=6
 ·subst h6
  by_cases qrk6A:(vs.length:Int)<1
  ·have e:checkE 6 a b c m k ks vs n=3:=by unfold checkE;rw[if_neg (by decide),if_pos rfl,if_pos (by omega)]
   rw[e];exact fn_sound rA_ok Try.func61 (rk6A a b c m k ks vs n) (by simp [AllP, *]<;>omega)
  by_cases qrk6B:(vs.length:Int) > 64
  ·have e:checkE 6 a b c m k ks vs n=3:=by unfold checkE;rw[if_neg (by decide),if_pos rfl,if_pos (by omega)]
   rw[e];exact fn_sound rA_ok Try.func61 (rk6B a b c m k ks vs n) (by simp [AllP, *]<;>omega)
  by_cases qrk6C:ks.length≠vs.length
  ·have e:checkE 6 a b c m k ks vs n=3:=by unfold checkE;rw[if_neg (by decide),if_pos rfl,if_pos (by omega)]
   rw[e];exact fn_sound rA_ok Try.func61 (rk6C a b c m k ks vs n) (by simp [AllP, *]<;>omega)
  exact refLin_fnd a b c m k ks vs n (by omega) (by omega) (by omega)
 by_cases h8:t=8
 ·subst h8
  by_cases qrk8a:inV n a=false
  ·have e:checkE 8 a b c m k ks vs n=60:=by simp [checkE, *]<;>omega
   rw[e];exact fn_sound rA_ok Try.func61 (rk8a a b c m k ks vs n) (by simp [AllP, *]<;>omega)
  rw[Bool.not_eq_false] at qrk8a
  by_cases qrk8b:inV n b=false
  ·have e:checkE 8 a b c m k ks vs n=60:=by simp [checkE, *]<;>omega
   rw[e];exact fn_sound rA_ok Try.func61 (rk8b a b c m k ks vs n) (by simp [AllP, *]<;>omega)
  rw[Bool.not_eq_false] at qrk8b
  by_cases qrk8c:inV n c=false
  ·have e:checkE 8 a b c m k ks vs n=60:=by simp [checkE, *]<;>omega
   rw[e];exact fn_sound rA_ok Try.func61 (rk8c a b c m k ks vs n) (by simp [AllP, *]<;>omega)
  rw[Bool.not_eq_false] at qrk8c
  have e:checkE 8 a b c m k ks vs n=0:=by simp [checkE, *]<;>omega
  rw[e];exact fn_sound rA_ok Try.func61 (rk8k a b c m k ks vs n) (by simp [AllP, *]<;>omega)
 by_cases h4:t=4
 ·subst h4
  by_cases qrk4a:inV n a=false
  ·have e:checkE 4 a b c m k ks vs n=60:=by simp [checkE, *]<;>omega
   rw[e];exact fn_sound rA_ok Try.func61 (rk4a a b c m k ks vs n) (by simp [AllP, *]<;>omega)
  rw[Bool.not_eq_false] at qrk4a
  by_cases qrk4b:inV n b=false
  ·have e:checkE 4 a b c m k ks vs n=60:=by simp [checkE, *]<;>omega
   rw[e];exact fn_sound rA_ok Try.func61 (rk4b a b c m k ks vs n) (by simp [AllP, *]<;>omega)
  rw[Bool.not_eq_false] at qrk4b
  have e:checkE 4 a b c m k ks vs n=0:=by simp [checkE, *]<;>omega
  rw[e];exact fn_sound rA_ok Try.func61 (rk4k a b c m k ks vs n) (by simp [AllP, *]<;>omega)
 by_cases h5:t=5
 ·subst h5
  by_cases qrk5a:inV n a=false
  ·have e:checkE 5 a b c m k ks vs n=60:=by simp [checkE, *]<;>omega
   rw[e];exact fn_sound rA_ok Try.func61 (rk5a a b c m k ks vs n) (by simp [AllP, *]<;>omega)
  rw[Bool.not_eq_false] at qrk5a
  by_cases qrk5b:inV n b=false
  ·have e:checkE 5 a b c m k ks vs n=60:=by simp [checkE, *]<;>omega
   rw[e];exact fn_sound rA_ok Try.func61 (rk5b a b c m k ks vs n) (by simp [AllP, *]<;>omega)
  rw[Bool.not_eq_false] at qrk5b
  have e:checkE 5 a b c m k ks vs n=0:=by simp [checkE, *]<;>omega
  rw[e];exact fn_sound rA_ok Try.func61 (rk5k a b c m k ks vs n) (by simp [AllP, *]<;>omega)
 by_cases h11:t=11
 ·subst h11
  by_cases qrk11a:inV n a=false
  ·have e:checkE 11 a b c m k ks vs n=60:=by simp [checkE, *]<;>omega
   rw[e];exact fn_sound rA_ok Try.func61 (rk11a a b c m k ks vs n) (by simp [AllP, *]<;>omega)
  rw[Bool.not_eq_false] at qrk11a
  by_cases qrk11b:inV n b=false
  ·have e:checkE 11 a b c m k ks vs n=60:=by simp [checkE, *]<;>omega
   rw[e];exact fn_sound rA_ok Try.func61 (rk11b a b c m k ks vs n) (by simp [AllP, *]<;>omega)
  rw[Bool.not_eq_false] at qrk11b
  have e:checkE 11 a b c m k ks vs n=0:=by simp [checkE, *]<;>omega
  rw[e];exact fn_sound rA_ok Try.func61 (rk11k a b c m k ks vs n) (by simp [AllP, *]<;>omega)
 by_cases h2:t=2
 ·subst h2
  by_cases qrk2a:inV n a=false
  ·have e:checkE 2 a b c m k ks vs n=60:=by simp [checkE, *]<;>omega
   rw[e];exact fn_sound rA_ok Try.func61 (rk2a a b c m k ks vs n) (by simp [AllP, *]<;>omega)
  rw[Bool.not_eq_false] at qrk2a
  have e:checkE 2 a b c m k ks vs n=0:=by simp [checkE, *]<;>omega
  rw[e];exact fn_sound rA_ok Try.func61 (rk2k a b c m k ks vs n) (by simp [AllP, *]<;>omega)
 by_cases h7:t=7
 ·subst h7
  by_cases qrk7a:inV n a=false
  ·have e:checkE 7 a b c m k ks vs n=60:=by simp [checkE, *]<;>omega
   rw[e];exact fn_sound rA_ok Try.func61 (rk7a a b c m k ks vs n) (by simp [AllP, *]<;>omega)
  rw[Bool.not_eq_false] at qrk7a
  have e:checkE 7 a b c m k ks vs n=0:=by simp [checkE, *]<;>omega
  rw[e];exact fn_sound rA_ok Try.func61 (rk7k a b c m k ks vs n) (by simp [AllP, *]<;>omega)
 by_cases h9:t=9
 ·subst h9
  by_cases qrk9a:inV n a=false
  ·have e:checkE 9 a b c m k ks vs n=60:=by simp [checkE, *]<;>omega
   rw[e];exact fn_sound rA_ok Try.func61 (rk9a a b c m k ks vs n) (by simp [AllP, *]<;>omega)
  rw[Bool.not_eq_false] at qrk9a
  have e:checkE 9 a b c m k ks vs n=0:=by simp [checkE, *]<;>omega
  rw[e];exact fn_sound rA_ok Try.func61 (rk9k a b c m k ks vs n) (by simp [AllP, *]<;>omega)
 by_cases h10:t=10
 ·subst h10
  by_cases qrk10A:m<1
  ·have e:checkE 10 a b c m k ks vs n=62:=by simp [checkE, *]<;>omega
   rw[e];exact fn_sound rA_ok Try.func61 (rk10A a b c m k ks vs n) (by simp [AllP, *]<;>omega)
  by_cases qrk10B:m > 254
  ·have e:checkE 10 a b c m k ks vs n=62:=by simp [checkE, *]<;>omega
   rw[e];exact fn_sound rA_ok Try.func61 (rk10B a b c m k ks vs n) (by simp [AllP, *]<;>omega)
  by_cases qrk10a:inV n a=false
  ·have e:checkE 10 a b c m k ks vs n=60:=by simp [checkE, *]<;>omega
   rw[e];exact fn_sound rA_ok Try.func61 (rk10a a b c m k ks vs n) (by simp [AllP, *]<;>omega)
  rw[Bool.not_eq_false] at qrk10a
  have e:checkE 10 a b c m k ks vs n=0:=by simp [checkE, *]<;>omega
  rw[e];exact fn_sound rA_ok Try.func61 (rk10k a b c m k ks vs n) (by simp [AllP, *]<;>omega)
 have e:checkE t a b c m k ks vs n=61:=by simp [checkE, *]
 rw[e];exact fn_sound rA_ok Try.func61 (rkX t a b c m k ks vs n) (by simp [AllP, *])
end

section

def boolG (a:Int):GateD:=⟨oneU,mO,0,0,0,a,a,-1⟩
def sumG (k:U4) (a:Int) (q:U4) (c v:Int):GateD:=⟨0,outF (inF k),outF (inF q),mO,0,a,c,v⟩
def prodG (a c v:Int):GateD:=⟨oneU,0,0,mO,0,a,c,v⟩
def equalG (a c:Int):GateD:=⟨0,oneU,mO,0,0,a,c,-1⟩
def constG (k:U4) (v:Int):GateD:=⟨0,oneU,0,0,outF (0-inF k),v,-1,-1⟩
def linG (k:U4) (a v:Int):GateD:=⟨0,outF (inF k),0,mO,0,a,-1,v⟩
def zeroG (m v:Int):GateD:=⟨0,mO,0,mO,oneU,m,-1,v⟩
def zeroH (a v:Int):GateD:=⟨oneU,0,0,0,0,a,v,-1⟩
def toldG (a:Int):GateD:=⟨0,oneU,0,0,0,a,-1,-1⟩
def linL (n:Int) (ks:List U4) (vs:List Int):Nat→List GateD
 | 0=>[sumG (ks.getD 0 0) (vs.getD 0 0) (ks.getD 1 0) (vs.getD 1 0) n]
 | t+1=>linL n ks vs t++[sumG oneU (n+(t:Int)) (ks.getD (t+2) 0) (vs.getD (t+2) 0) (n+(t:Int)+1)]
def pwS:Nat→U4
 | 0=>oneU
 | t+1=>outF (inF (pwS t)+inF (pwS t))
def bitB (f:Int):Nat→List GateD
 | 0=>[]
 | t+1=>bitB f t++[boolG (f+(t:Int))]
def lastV (f N:Int):Nat→Int
 | 0=>f
 | t+1=>f+N+(t:Int)
def bitS (f N:Int):Nat→List GateD
 | 0=>[]
 | t+1=>bitS f N t++[sumG oneU (lastV f N t) (pwS (t+1)) (f+((t+1:Nat):Int)) (f+N+(t:Int))]
def bitG (f a:Int) (N:Nat):List GateD:=bitB f N++bitS f (N:Int) (N-1)++[equalG (lastV f (N:Int) (N-1)) a]
/-- The gates that an operation makes, so many variables being there; and how many variables it makes. -/
def gatesOf (n t a b c m:Int) (k:U4) (ks:List U4) (vs:List Int):List GateD:=
 if t=3 then [constG k n] else if t=4 then [sumG oneU a oneU b n] else if t=5 then [prodG a b n]
 else if t=6 then (if vs.length=1 then [linG (ks.getD 0 0) (vs.getD 0 0) n] else linL n ks vs (vs.length-2))
 else if t=7 then [boolG a] else if t=8 then [boolG a,sumG oneU b mO c n,prodG a n (n+1),sumG oneU (n+1) oneU c (n+2)]
 else if t=9 then [prodG a n (n+1),zeroG (n+1) (n+2),zeroH a (n+2)]
 else if t=10 then bitG n a m.toNat else if t=11 then [equalG a b] else []
def nvOf (t m:Int) (vs:List Int):Int:=
 if t=1∨t=3∨t=4∨t=5 then 1 else if t=6 then (if vs.length=1 then 1 else (vs.length:Int)-1)
 else if t=8∨t=9 then 3 else if t=10 then 2*m-1 else 0
/-- A gate more, as long as there may be more. -/
def pushG (G:List GateD) (g:GateD):List GateD:=if G.length≤4096 then G++[g] else G
def pushGs (G gs:List GateD):List GateD:=gs.foldl pushG G
theorem pushGs_app (G x y:List GateD):pushGs G (x++y)=pushGs (pushGs G x) y:=List.foldl_append
theorem push1 {G:List GateD} {g:GateD} (h:G.length≤4096):G++[g]=pushGs G [g]:=(if_pos h).symm
theorem push0 {G:List GateD} {g:GateD} (h:¬G.length≤4096):G=pushGs G [g]:=(if_neg h).symm
theorem pushT {G:List GateD} {g:GateD} (h:G.length≤4096):pushG G g=G++[g]:=if_pos h
theorem pushF {G:List GateD} {g:GateD} (h:¬G.length≤4096):pushG G g=G:=if_neg h
theorem push_none:∀{gs G:List GateD},¬G.length≤4096→pushGs G gs=G
 | [],_,_=>rfl
 | g::gs,G,h=>by
  show pushGs (pushG G g) gs=G
  rw[show pushG G g=G from if_neg h]
  exact push_none h
theorem pushG_len {G:List GateD} {g:GateD} (h:G.length≤4097):(pushG G g).length≤4097:=by
 unfold pushG
 split
 ·simp;omega
 ·exact h
theorem pushGs_len:∀{gs G:List GateD},G.length≤4097→(pushGs G gs).length≤4097
 | [],_,h=>h
 | g::gs,G,h=>pushGs_len (gs:=gs) (G:=pushG G g) (pushG_len h)
/-- One operation's check, gates and variables. -/
def chkO (o:OpD) (n:Int):Int:=checkE o.tag o.a o.b o.c o.n o.k o.ks o.vars n
def gatesO (n:Int) (o:OpD):List GateD:=gatesOf n o.tag o.a o.b o.c o.n o.k o.ks o.vars
def nvO (o:OpD):Int:=nvOf o.tag o.n o.vars
def tellO (o:OpD):List GateD:=if o.tag=2 then [toldG o.a] else []
/-- Operations one by one: what is told, gates, how many variables; or the first that is wrong. -/
def compL:List OpD→List GateD→List GateD→Int→Int→(List GateD×List GateD×Int) ⊕ (Int×Int)
 | [],T,G,n,_=>.inl (T,G,n)
 | o::r,T,G,n,i=>if chkO o n=0 then compL r (T++tellO o) (pushGs G (gatesO n o)) (n+nvO o) (i+1) else .inr (chkO o n,i)
/-- Gates, how many are told, how many variables; the error; which operation. -/
def compE:(List GateD×List GateD×Int) ⊕ (Int×Int)→(List GateD×Int×Int)×Int×Int
 | .inr (e,i)=>(([],0,0),e,i)
 | .inl (T,G,n)=>if T.length+G.length > 4096∨T.length > 64 then (([],0,0),2,0) else ((T++G,(T.length:Int),n),0,0)
def compR (l:List OpD):(List GateD×Int×Int)×Int×Int:=if l.length > 1000 then (([],0,0),2,0) else compE (compL l [] [] 0 0)

theorem chk_lin {a b c m:Int} {k:U4} {ks:List U4} {vs:List Int} {n:Int} (h:checkE 6 a b c m k ks vs n=0):1≤vs.length∧vs.length≤64∧ks.length=vs.length:=by
 unfold checkE at h
 rw[if_neg (by decide),if_pos rfl] at h
 split at h
 ·cases h
 ·omega
theorem chk_bits {a b c m:Int} {k:U4} {ks:List U4} {vs:List Int} {n:Int} (h:checkE 10 a b c m k ks vs n=0):1≤m∧m≤254:=by
 unfold checkE at h
 rw[if_neg (by decide),if_neg (by decide),if_neg (by decide),if_neg (by decide),if_neg (by decide),if_pos rfl] at h
 split at h
 ·cases h
 ·omega
theorem nv_bound {o:OpD} {n:Int} (h:chkO o n=0):0≤nvO o∧nvO o≤508:=by
 obtain ⟨t,a,b,c,m,k,ks,vs⟩:=o
 unfold nvO nvOf
 unfold chkO at h
 dsimp only at h ⊢
 split
 ·omega
 split
 ·rename_i e
  subst e
  have:=chk_lin h
  split<;>omega
 split
 ·omega
 split
 ·rename_i e
  subst e
  have:=chk_bits h
  omega
 ·omega
end

section

/-- The value of a variable. -/
def vF (W:List Fr) (x:Int):Fr:=W.getD x.toNat 0
def linS (W:List Fr) (ks:List U4) (vs:List Int):Nat→Fr
 | 0=>inF (ks.getD 0 0)*vF W (vs.getD 0 0)+inF (ks.getD 1 0)*vF W (vs.getD 1 0)
 | t+1=>linS W ks vs t+inF (ks.getD (t+2) 0)*vF W (vs.getD (t+2) 0)
def linW (W:List Fr) (ks:List U4) (vs:List Int):Nat→List Fr
 | 0=>[linS W ks vs 0]
 | t+1=>linW W ks vs t++[linS W ks vs (t+1)]
def bitF (x:Fr) (j:Nat):Fr:=if x.val / 2 ^ j % 2=1 then 1 else 0
def bitW (x:Fr):Nat→List Fr
 | 0=>[]
 | t+1=>bitW x t++[bitF x t]
def pwF:Nat→Fr
 | 0=>1
 | t+1=>pwF t+pwF t
def accF (x:Fr):Nat→Fr
 | 0=>bitF x 0
 | t+1=>accF x t+pwF (t+1)*bitF x (t+1)
def accW (x:Fr):Nat→List Fr
 | 0=>[]
 | t+1=>accW x t++[accF x (t+1)]
/-- The reference's inverse. -/
def invP (x:Fr):Fr:=powN x (rN-2)
/-- The values of the variables that an operation makes, x being the input; whether it is not met. -/
def valsOf (W:List Fr) (x:Fr) (t a b c m:Int) (k:U4) (ks:List U4) (vs:List Int):List Fr:=
 if t=1 then [x] else if t=3 then [inF k] else if t=4 then [vF W a+vF W b] else if t=5 then [vF W a*vF W b]
 else if t=6 then (if vs.length=1 then [inF (ks.getD 0 0)*vF W (vs.getD 0 0)] else linW W ks vs (vs.length-2))
 else if t=8 then [vF W b-vF W c,vF W a*(vF W b-vF W c),vF W a*(vF W b-vF W c)+vF W c]
 else if t=9 then [invP (vF W a),vF W a*invP (vF W a),1-vF W a*invP (vF W a)]
 else if t=10 then bitW (vF W a) m.toNat++accW (vF W a) (m.toNat-1) else []
def notBit (x:Fr):Bool:=!(decide (x=1) || decide (x=0))
def wrongOf (W:List Fr) (t a b m:Int):Bool:=
 if t=7∨t=8 then notBit (vF W a) else if t=10 then decide (accF (vF W a) (m.toNat-1)≠vF W a) else if t=11 then decide (vF W a≠vF W b) else false

theorem mO_in:inF mO=mF:=in_out mF
theorem oneU_in:inF oneU=1:=by rw[←outF_one];exact in_out 1
theorem cl_one:outF (inF oneU)=oneU:=by rw[oneU_in,outF_one]
theorem cl_mO:outF (inF mO)=mO:=by rw[mO_in];rfl
theorem cl_out (x:Fr):outF (inF (outF x))=outF x:=by rw[in_out]
theorem mul_one_out (x:Fr):mulU oneU (outF x)=outF x:=by
 rw[←outF_one,mulU_out]
 exact congrArg outF (Fin.ext (by show 1 % rN*x.val % rN=x.val;rw[show 1 % rN=1 from by decide +kernel,Nat.one_mul,Nat.mod_eq_of_lt x.isLt]))
theorem pwS_out:∀t,pwS t=outF (pwF t)
 | 0=>outF_one.symm
 | t+1=>by
  show outF (inF (pwS t)+inF (pwS t))=_
  rw[pwS_out t,in_out];rfl
theorem getV {W:List Fr} {x:Int}:(W.map outF).getD x.toNat 0=outF (vF W x):=by
 unfold vF
 rw[List.getD_eq_getElem?_getD,List.getD_eq_getElem?_getD,List.getElem?_map]
 cases W[x.toNat]? with
 | none=>exact ((outF_zero 0).2 rfl).symm
 | some y=>rfl
theorem linL_len (n:Int) (ks:List U4) (vs:List Int):∀t,(linL n ks vs t).length=t+1
 | 0=>rfl
 | t+1=>by show (linL n ks vs t++[_]).length=_;rw[List.length_append,linL_len n ks vs t];rfl
theorem linW_len (W:List Fr) (ks:List U4) (vs:List Int):∀t,(linW W ks vs t).length=t+1
 | 0=>rfl
 | t+1=>by show (linW W ks vs t++[_]).length=_;rw[List.length_append,linW_len W ks vs t];rfl
theorem bitW_len (x:Fr):∀t,(bitW x t).length=t
 | 0=>rfl
 | t+1=>by show (bitW x t++[_]).length=_;rw[List.length_append,bitW_len x t];rfl
theorem accW_len (x:Fr):∀t,(accW x t).length=t
 | 0=>rfl
 | t+1=>by show (accW x t++[_]).length=_;rw[List.length_append,accW_len x t];rfl
end

section
section
variable {w0:World} {F0:Nat→Prop} {K:Kp} {ac:List Act} {Q:Exit→Act→World→Prop} {cX:Ctx} {aX:Act}

theorem pow109_fnd (a e:U4) (h:a.val<rN):FnD Try.prog 109 [.v (.a [.ob (.fr a)]),.v (.a [.ob (.fr e)])] (.v (.a [.ob (.fr (outF (powN (inF a) e.val)))])) []:=by
 have:=pow103_fnd (inF a) e
 rw[out_in h] at this
 exact this
theorem bit103_fnd (a:U4) (i:Int) (h0:0≤i) (hi:i<256):FnD Try.prog 103 [.v (.a [.ob (.fr a)]),.v (.c (.int .i64 i))] (.v (.c (.int .u64 (bitV a i.toNat)))) []:=by
 have:=bit_fnd a i.toNat (by omega)
 rw[Int.toNat_of_nonneg h0] at this
 exact this
def pow109Spec:FnSpec
 | [.v (.a [.ob (.fr a)]),.v (.a [.ob (.fr e)])]=>some ([a.val<rN],.v (.a [.ob (.fr (outF (powN (inF a) e.val)))]),[])
 | _=>none
def rB1:Env:=rA.set (addT rA.fn 109 pow109Spec)
theorem rB1_ok:EnvOk Try.prog rB1:=env_add rA_ok 109 pow109Spec (enters_of Try.func109 rfl rfl) fun args o r es h ho=>by
 unfold pow109Spec at h
 split at h
 ·cases h;exact pow109_fnd _ _ ho.1
 ·cases h
def bit103Spec:FnSpec
 | [.v (.a [.ob (.fr a)]),.v (.c (.int .i64 i))]=>some ([0≤i,i<256],.v (.c (.int .u64 (bitV a i.toNat))),[])
 | _=>none
def rB2:Env:=rB1.set (addT rB1.fn 103 bit103Spec)
theorem rB2_ok:EnvOk Try.prog rB2:=env_add rB1_ok 103 bit103Spec (enters_of Try.func103 rfl rfl) fun args o r es h ho=>by
 unfold bit103Spec at h
 split at h
 ·cases h;exact bit103_fnd _ _ ho.1 ho.2.1
 ·cases h
--@env rB2 rB2_ok
def r106_k:List KI:=(run rB2 false 3000 ((fun (a:U4)=>(⟨[.code (bodyOf Try.f106)],.normal,initSt Try.f106.ntmps [.v (.a [.ob (.fr a)])]⟩:Cfg)) default) []).cfg.k
theorem r106 (a:U4) (ho:AllP [(0≤(0:Int)),(0<(4:Int)),(0<4),(0≤(0:Int)),(0<(4:Int))]):Sg Try.prog (initSt Try.f106.ntmps [.v (.a [.ob (.fr a)])]) (mkSt 12 [2,9,10] [.pt 32 0,(.v (.a [.ob (.fr a)])),(.v (.a [(.int .u64 (18446744069414584319:Int)),(.int .u64 (6034159408538082302:Int)),(.int .u64 (3691218898639771653:Int)),(.int .u64 (8353516859464449352:Int))]))] [32] [(eF [(.ob (.fr (0:U4)))])] 208 [] []) .normal (r106_k) ([.code (bodyOf Try.f106)]):=fun hs hK=>
 run_at2 (unroll:=false) (n:=3000) (path:=[]) (o:=⟨_,_,_,_,_,_,_⟩) rB2_ok (by kernel_rfl) (by kernel_rfl) ho hs hK
def eI:U4:=Fin.ofNat B4 (rN-2)
def r106S (a:U4):St:=mkSt 12 [2,9,10] [.pt 32 0,(.v (.a [.ob (.fr a)])),.v (.a [.ob (.fr eI)])] [32] [(eF [(.ob (.fr (0:U4)))])] 208 [] []
theorem r106e_end (a:U4):runEnd rB2 Try.f106 false 3000 (⟨r106_k,.normal,r106S a⟩) [] [] []=(some ([((Fin.val a)<rN)],((.v (.a [(.ob (.fr (outF (powN (inF a) 52435875175126190479447740508185965837690552500527637822603658699938581184511))))])),[]))):=by kernel_rfl


theorem inv106_fnd (a:U4) (h:a.val<rN):FnD Try.prog 106 [.v (.a [.ob (.fr a)])] (.v (.a [.ob (.fr (outF (invP (inF a))))])) []:=by
 refine fn_start (fn:=Try.f106) (c:=bodyOf Try.f106) Try.func106 rfl rfl fun x0 a0 hk hF hs0=>?_
 refine r106 a (by simp [AllP]) hs0 fun ac cY aY hs1=>?_
 have hs2:Sim x0.w x0.F kAll ac (r106S a) cY aY:=hs1.slots ⟨fun _ h=>h,fun _ h=>h,fun _ h=>ints_ob (o:=.fr eI) rfl ⟨by kernel_rfl,by kernel_rfl,by kernel_rfl,by kernel_rfl⟩ h,trivial⟩
 exact run_end2 rB2_ok hk hF (r106e_end a) ⟨h,trivial⟩ (fun y v hd=>hd) hs2
def refCheckSpec:FnSpec
 | [.v (.a [.int .i64 t,.int .i64 a,.int .i64 b,.int .i64 c,.int .i64 m,.ob (.fr k),.sl (.fr ks),.sl (.int vs)]),.v (.c (.int .i64 n))]=>some ([],.v (.c (.int .i64 (checkE t a b c m k ks vs n))),[])
 | _=>none
def rB3:Env:=rB2.set (addT rB2.fn 61 refCheckSpec)
theorem rB3_ok:EnvOk Try.prog rB3:=env_add rB2_ok 61 refCheckSpec (enters_of Try.func61 rfl rfl) fun args o r es h _=>by
 unfold refCheckSpec at h
 split at h
 ·cases h;exact refCheck_fnd _ _ _ _ _ _ _ _ _
 ·cases h
def inv106Spec:FnSpec
 | [.v (.a [.ob (.fr a)])]=>some ([a.val<rN],.v (.a [.ob (.fr (outF (invP (inF a))))]),[])
 | _=>none
def rB:Env:=rB3.set (addT rB3.fn 106 inv106Spec)
theorem rB_ok:EnvOk Try.prog rB:=env_add rB3_ok 106 inv106Spec (enters_of Try.func106 rfl rfl) fun args o r es h ho=>by
 unfold inv106Spec at h
 split at h
 ·cases h;exact inv106_fnd _ ho.1
 ·cases h
def rC:Env:={ rB with inl:=addI (addI (addI (addI (addI (addI (addI (addI (addI rB.inl 62 Try.f62) 92 Try.f92) 93 Try.f93) 94 Try.f94) 95 Try.f95) 96 Try.f96) 98 Try.f98) 99 Try.f99) 100 Try.f100 }
theorem rC_ok:EnvOk Try.prog rC:=⟨rB_ok.ty,rB_ok.mixed,rB_ok.fn,rB_ok.mu,(inl_add (inl_add (inl_add (inl_add (inl_add (inl_add (inl_add (inl_add (inl_add rB_ok.inl Try.func62 (enters_of Try.func62 rfl rfl)) Try.func92 (enters_of Try.func92 rfl rfl)) Try.func93 (enters_of Try.func93 rfl rfl)) Try.func94 (enters_of Try.func94 rfl rfl)) Try.func95 (enters_of Try.func95 rfl rfl)) Try.func96 (enters_of Try.func96 rfl rfl)) Try.func98 (enters_of Try.func98 rfl rfl)) Try.func99 (enters_of Try.func99 rfl rfl)) Try.func100 (enters_of Try.func100 rfl rfl)),rB_ok.ex,rB_ok.inv⟩
end
end

section
section
variable {w0:World} {F0:Nat→Prop} {K:Kp} {ac:List Act} {Q:Exit→Act→World→Prop} {cX:Ctx} {aX:Act}

--@env rC rC_ok
def alA_k:List KI:=(run rC false 3000 ((fun (l:List OpD) (I:List U4)=>(⟨[.code (bodyOf Try.f26)],.normal,initSt Try.f26.ntmps [.v (.c (.sl (.op l))),.v (.c (.sl (.fr I)))]⟩:Cfg)) default default) [false]).cfg.k
theorem alA (l:List OpD) (I:List U4) (ho:AllP [((decide ((l.length:Int) > (1000:Int)))=false)]):Sg Try.prog (initSt Try.f26.ntmps [.v (.c (.sl (.op l))),.v (.c (.sl (.fr I)))]) (mkSt 56 [8,9,21,22,23] [.pt 112 0,(.ii (-1)),(.ci (.sl (.op l))),(.ii (l.length:Int)),.ii (0:Int)] [112] [(eF [(.val (Value.slice Option.none 0 0)),(.val (Value.slice Option.none 0 0)),.sl (.fr I),(.lit false)])] 256 [] []) .normal (alA_k) ([.code (bodyOf Try.f26)]):=fun hs hK=>
 run_at2 (unroll:=false) (n:=3000) (path:=[false]) (o:=⟨_,_,_,_,_,_,_⟩) rC_ok (by kernel_rfl) (by kernel_rfl) ho hs hK
end
end

section
section
variable {w0:World} {F0:Nat→Prop} {K:Kp} {ac:List Act} {Q:Exit→Act→World→Prop} {cX:Ctx} {aX:Act}

def rvS (l:List OpD) (G:List GateD) (V J:List U4) (wr:Bool) (ms i:Int):St:=mkSt 56 [8,9,21,22,23] [.v (.c (.ptr 112 0)),.v (.c (.int .i64 ms)),.v (.c (.sl (.op l))),.v (.c (.int .i64 (l.length:Int))),.v (.c (.int .i64 i))] [32,64,112] [some (.sq (.gate G)),some (.sq (.fr V)),some (.fl [.slc 32 0 G.length 23,.slc 64 0 V.length 4,.sl (.fr J),.bool wr])] 256 [] []
--@env rC rC_ok
def alB_k:List KI:=(run rC false 28 ((fun (l:List OpD) (G:List GateD) (V J:List U4) (wr:Bool) (ms i:Int)=>(⟨lpIn alA_k,.normal,rvS l G V J wr ms i⟩:Cfg)) default default default default default default default) [true,false]).cfg.k
theorem alB (l:List OpD) (G:List GateD) (V J:List U4) (wr:Bool) (ms i:Int) (ho:AllP [((decide (i<(l.length:Int)))=true),(0≤i),(i<(l.length:Int)),(((checkE (OpD.tag (List.getD l (i).toNat op0)) (OpD.a (List.getD l (i).toNat op0)) (OpD.b (List.getD l (i).toNat op0)) (OpD.c (List.getD l (i).toNat op0)) (OpD.n (List.getD l (i).toNat op0)) (OpD.k (List.getD l (i).toNat op0)) (OpD.ks (List.getD l (i).toNat op0)) (OpD.vars (List.getD l (i).toNat op0)) (V.length:Int)) != (0:Int))=false)]):Sg Try.prog (rvS l G V J wr ms i) (mkSt 56 [8,9,10,11,21,22,23] [.pt 112 0,.ii ms,.ii i,.pt 320 0,(.ci (.sl (.op l))),(.ii (l.length:Int)),.ii i] [32,64,112,320] [(eQ (.gate G)),(eQ (.fr V)),(eF [(.slc 32 0 G.length 23),(.slc 64 0 V.length 4),.sl (.fr J),(.bool wr)]),(eF [(.int .i64 (OpD.tag (List.getD l (i).toNat op0))),(.int .i64 (OpD.a (List.getD l (i).toNat op0))),(.int .i64 (OpD.b (List.getD l (i).toNat op0))),(.int .i64 (OpD.c (List.getD l (i).toNat op0))),(.int .i64 (OpD.n (List.getD l (i).toNat op0))),(.ob (.fr (OpD.k (List.getD l (i).toNat op0)))),(.sl (.fr (OpD.ks (List.getD l (i).toNat op0)))),(.sl (.int (OpD.vars (List.getD l (i).toNat op0))))])] 528 [] []) .normal (alB_k) (lpIn alA_k):=fun hs hK=>
 run_at2 (unroll:=false) (n:=28) (path:=[true,false]) (o:=⟨_,_,_,_,_,_,_⟩) rC_ok (by kernel_rfl) (by kernel_rfl) ho hs hK
theorem alE_end (l:List OpD) (G:List GateD) (V J:List U4) (wr:Bool) (ms i:Int):runEnd rC Try.f26 false 3000 (⟨lpIn alA_k,.normal,rvS l G V J wr ms i⟩) [true,true] [112,32,64] []=(some ([((decide (i<(l.length:Int)))=true),(0≤i),(i<(l.length:Int)),(((checkE (OpD.tag (List.getD l (i).toNat op0)) (OpD.a (List.getD l (i).toNat op0)) (OpD.b (List.getD l (i).toNat op0)) (OpD.c (List.getD l (i).toNat op0)) (OpD.n (List.getD l (i).toNat op0)) (OpD.k (List.getD l (i).toNat op0)) (OpD.ks (List.getD l (i).toNat op0)) (OpD.vars (List.getD l (i).toNat op0)) (V.length:Int)) != (0:Int))=true)],((.t [(.c (.ptr 0 0)),(.c (.int .i64 (checkE (OpD.tag (List.getD l (i).toNat op0)) (OpD.a (List.getD l (i).toNat op0)) (OpD.b (List.getD l (i).toNat op0)) (OpD.c (List.getD l (i).toNat op0)) (OpD.n (List.getD l (i).toNat op0)) (OpD.k (List.getD l (i).toNat op0)) (OpD.ks (List.getD l (i).toNat op0)) (OpD.vars (List.getD l (i).toNat op0)) (V.length:Int)))),(.c (.int .i64 i)),(.c (.int .i64 ms))]),[(.fl [(.slc 1 0 G.length 23),(.slc 2 0 V.length 4),.sl (.fr J),(.bool wr)]),(.sq (.gate G)),(.sq (.fr V))]))):=by kernel_rfl
theorem alX_end (l:List OpD) (G:List GateD) (V J:List U4) (wr:Bool) (ms i:Int):runEnd rC Try.f26 false 3000 (⟨lpIn alA_k,.normal,rvS l G V J wr ms i⟩) [false] [112,32,64] []=(some ([((decide (i<(l.length:Int)))=false)],((.t [(.c (.ptr 0 0)),(.c (.int .i64 (0:Int))),(.c (.int .i64 (0:Int))),(.c (.int .i64 ms))]),[(.fl [(.slc 1 0 G.length 23),(.slc 2 0 V.length 4),.sl (.fr J),(.bool wr)]),(.sq (.gate G)),(.sq (.fr V))]))):=by kernel_rfl
def rvO (l:List OpD) (G:List GateD) (V J:List U4) (wr:Bool) (ms i:Int) (t:Int) (a b c m:Int) (k:U4) (ks:List U4) (vs:List Int):St:=mkSt 56 [8,9,10,11,21,22,23] [.pt 112 0,.ii ms,.ii i,.pt 320 0,(.ci (.sl (.op l))),(.ii (l.length:Int)),.ii i] [32,64,112,320] [(eQ (.gate G)),(eQ (.fr V)),(eF [(.slc 32 0 G.length 23),(.slc 64 0 V.length 4),.sl (.fr J),(.bool wr)]),some (.fl [.int .i64 t,.int .i64 a,.int .i64 b,.int .i64 c,.int .i64 m,.ob (.fr k),.sl (.fr ks),.sl (.int vs)])] 528 [] []
def alR_k:List KI:=(run rC false 79 ((fun (l:List OpD) (G:List GateD) (V J:List U4) (wr:Bool) (ms i:Int) (a b c m:Int) (k:U4) (ks:List U4) (vs:List Int)=>(⟨alB_k,.normal,rvO l G V J wr ms i 2 a b c m k ks vs⟩:Cfg)) default default default default default default default default default default default default default default) [false,false,false,false,false,false,false,false,false,false]).cfg.k
section
variable (l:List OpD) (G:List GateD) (V J:List U4) (wr:Bool) (ms i:Int) (a b c m:Int) (k:U4) (ks:List U4) (vs:List Int)
theorem alR (ho:AllP [(((2:Int)==1)=false),(((2:Int)==3)=false),(((2:Int)==4)=false),(((2:Int)==5)=false),(((2:Int)==6)=false),(((2:Int)==7)=false),(((2:Int)==8)=false),(((2:Int)==9)=false),(((2:Int)==10)=false),(((2:Int)==11)=false)]):Sg Try.prog (rvO l G V J wr ms i 2 a b c m k ks vs) (mkSt 56 [8,9,10,21,22,23] [.pt 112 0,.ii ms,.ii i,(.ci (.sl (.op l))),(.ii (l.length:Int)),.ii i] [32,64,112] [(eQ (.gate G)),(eQ (.fr V)),(eF [(.slc 32 0 G.length 23),(.slc 64 0 V.length 4),.sl (.fr J),(.bool wr)])] 928 [] []) .normal (alR_k) (alB_k):=fun hs hK=>
 run_at2 (unroll:=false) (n:=79) (path:=[false,false,false,false,false,false,false,false,false,false]) (o:=⟨_,_,_,_,_,_,_⟩) rC_ok (by kernel_rfl) (by kernel_rfl) ho hs hK
theorem al1 (ho:AllP [(((1:Int)==1)=true),((decide ((J.length:Int) > (0:Int)))=true),(0≤(0:Int)),(0<(J.length:Int)),(0≤(1:Int)),((1:Int)≤(J.length:Int)),(((V.length+1)*32)≤140737488355328),((V.length+1)≤maxLen),(V.length=V.length),(1=1)]):Sg Try.prog (rvO l G V J wr ms i 1 a b c m k ks vs) (mkSt 56 [8,9,10,21,22,23] [.pt 112 0,.ii ms,.ii i,(.ci (.sl (.op l))),(.ii (l.length:Int)),.ii i] [32,64,112] [(eQ (.gate G)),(eQ (.fr (V++[(cleanU (J.getD 0 0))]))),(eF [(.slc 32 0 G.length 23),(.slc 64 0 (V.length+1) 4),(.sl (.fr (List.take (J.length-1) (List.drop 1 J)))),(.bool wr)])] 1408 [] []) .normal (alR_k) (alB_k):=fun hs hK=>
 run_at2 (unroll:=false) (n:=87) (path:=[true,true]) (o:=⟨_,_,_,_,_,_,_⟩) rC_ok (by kernel_rfl) (by kernel_rfl) ho hs hK
theorem al1e (ho:AllP [(((1:Int)==1)=true),((decide ((J.length:Int) > (0:Int)))=false),(((V.length+1)*32)≤140737488355328),((V.length+1)≤maxLen),(V.length=V.length),(1=1)]):Sg Try.prog (rvO l G V J wr ms i 1 a b c m k ks vs) (mkSt 56 [8,9,10,21,22,23] [.pt 112 0,.ii ms,.ii i,(.ci (.sl (.op l))),(.ii (l.length:Int)),.ii i] [32,64,112] [(eQ (.gate G)),(eQ (.fr (V++[(0:U4)]))),(eF [(.slc 32 0 G.length 23),(.slc 64 0 (V.length+1) 4),.sl (.fr J),(.bool wr)])] 1136 [] []) .normal (alR_k) (alB_k):=fun hs hK=>
 run_at2 (unroll:=false) (n:=66) (path:=[true,false]) (o:=⟨_,_,_,_,_,_,_⟩) rC_ok (by kernel_rfl) (by kernel_rfl) ho hs hK
theorem al3 (ho:AllP [(((3:Int)==1)=false),(((3:Int)==3)=true),(((V.length+1)*32)≤140737488355328),((V.length+1)≤maxLen),(V.length=V.length),(1=1),((Fin.val (cleanU k))<rN),(((G.length+1)*184)≤140737488355328),((G.length+1)≤maxLen),(G.length=G.length),(1=1)]):Sg Try.prog (rvO l G V J wr ms i 3 a b c m k ks vs) (mkSt 56 [8,9,10,21,22,23] [.pt 112 0,.ii ms,.ii i,(.ci (.sl (.op l))),(.ii (l.length:Int)),.ii i] [32,64,112] [(eQ (.gate (G++[(GateD.mk 0 oneU 0 0 (outF ((0:Fr)-(inF (cleanU k)))) (wrap .i64 ((((V.length+1):Nat):Int)-1)) (-1) (-1))]))),(eQ (.fr (V++[(cleanU k)]))),(eF [(.slc 32 0 (G.length+1) 23),(.slc 64 0 (V.length+1) 4),.sl (.fr J),(.bool wr)])] 1376 [] []) .normal (alR_k) (alB_k):=fun hs hK=>
 run_at2 (unroll:=false) (n:=65) (path:=[false,true]) (o:=⟨_,_,_,_,_,_,_⟩) rC_ok (by kernel_rfl) (by kernel_rfl) ho hs hK
theorem al4 (ho:AllP [(((4:Int)==1)=false),(((4:Int)==3)=false),(((4:Int)==4)=true),(0≤a),(a<(V.length:Int)),(0=0),((a).toNat<V.length),((Fin.val (V.getD a.toNat 0))<rN),(0≤b),(b<(V.length:Int)),(0=0),((b).toNat<V.length),((Fin.val (V.getD b.toNat 0))<rN),(((V.length+1)*32)≤140737488355328),((V.length+1)≤maxLen),(V.length=V.length),(1=1),(((G.length+1)*184)≤140737488355328),((G.length+1)≤maxLen),(G.length=G.length),(1=1)]):Sg Try.prog (rvO l G V J wr ms i 4 a b c m k ks vs) (mkSt 56 [8,9,10,21,22,23] [.pt 112 0,.ii ms,.ii i,(.ci (.sl (.op l))),(.ii (l.length:Int)),.ii i] [32,64,112] [(eQ (.gate (G++[(GateD.mk 0 oneU oneU mO 0 a b (wrap .i64 ((((V.length+1):Nat):Int)-1)))]))),(eQ (.fr (V++[(cleanU ((mulU oneU (V.getD a.toNat 0))+(mulU oneU (V.getD b.toNat 0))))]))),(eF [(.slc 32 0 (G.length+1) 23),(.slc 64 0 (V.length+1) 4),.sl (.fr J),(.bool wr)])] 1952 [] []) .normal (alR_k) (alB_k):=fun hs hK=>
 run_at2 (unroll:=false) (n:=86) (path:=[false,false,true]) (o:=⟨_,_,_,_,_,_,_⟩) rC_ok (by kernel_rfl) (by kernel_rfl) ho hs hK
theorem al5 (ho:AllP [(((5:Int)==1)=false),(((5:Int)==3)=false),(((5:Int)==4)=false),(((5:Int)==5)=true),(0≤a),(a<(V.length:Int)),(0=0),((a).toNat<V.length),(0≤b),(b<(V.length:Int)),(0=0),((b).toNat<V.length),((Fin.val (V.getD b.toNat 0))<rN),(((V.length+1)*32)≤140737488355328),((V.length+1)≤maxLen),(V.length=V.length),(1=1),(((G.length+1)*184)≤140737488355328),((G.length+1)≤maxLen),(G.length=G.length),(1=1)]):Sg Try.prog (rvO l G V J wr ms i 5 a b c m k ks vs) (mkSt 56 [8,9,10,21,22,23] [.pt 112 0,.ii ms,.ii i,(.ci (.sl (.op l))),(.ii (l.length:Int)),.ii i] [32,64,112] [(eQ (.gate (G++[(GateD.mk oneU 0 0 mO 0 a b (wrap .i64 ((((V.length+1):Nat):Int)-1)))]))),(eQ (.fr (V++[(mulU (V.getD a.toNat 0) (V.getD b.toNat 0))]))),(eF [(.slc 32 0 (G.length+1) 23),(.slc 64 0 (V.length+1) 4),.sl (.fr J),(.bool wr)])] 1760 [] []) .normal (alR_k) (alB_k):=fun hs hK=>
 run_at2 (unroll:=false) (n:=87) (path:=[false,false,false,true]) (o:=⟨_,_,_,_,_,_,_⟩) rC_ok (by kernel_rfl) (by kernel_rfl) ho hs hK
theorem al6 (ho:AllP [(((6:Int)==1)=false),(((6:Int)==3)=false),(((6:Int)==4)=false),(((6:Int)==5)=false),(((6:Int)==6)=true),(0≤(0:Int)),(0<(ks.length:Int)),(((vs.length:Int) == (1:Int))=true),(0≤(0:Int)),(0<(vs.length:Int)),(0≤(vs.getD 0 0)),((vs.getD 0 0)<(V.length:Int)),(0=0),(((vs.getD 0 0)).toNat<V.length),((Fin.val (List.getD V ((vs.getD 0 0)).toNat 0))<rN),(((V.length+1)*32)≤140737488355328),((V.length+1)≤maxLen),(V.length=V.length),(1=1),(0≤(0:Int)),(0<(vs.length:Int)),(((G.length+1)*184)≤140737488355328),((G.length+1)≤maxLen),(G.length=G.length),(1=1)]):Sg Try.prog (rvO l G V J wr ms i 6 a b c m k ks vs) (mkSt 56 [8,9,10,21,22,23] [.pt 112 0,.ii ms,.ii i,(.ci (.sl (.op l))),(.ii (l.length:Int)),.ii i] [32,64,112] [(eQ (.gate (G++[(GateD.mk 0 (cleanU (ks.getD 0 0)) (0:U4) mO (0:U4) (vs.getD 0 0) (-1) (wrap .i64 ((((V.length+1):Nat):Int)-1)))]))),(eQ (.fr (V++[(mulU (cleanU (ks.getD 0 0)) (List.getD V ((vs.getD 0 0)).toNat 0))]))),(eF [(.slc 32 0 (G.length+1) 23),(.slc 64 0 (V.length+1) 4),.sl (.fr J),(.bool wr)])] 1872 [] []) .normal (alR_k) (alB_k):=fun hs hK=>
 run_at2 (unroll:=false) (n:=105) (path:=[false,false,false,false,true,true]) (o:=⟨_,_,_,_,_,_,_⟩) rC_ok (by kernel_rfl) (by kernel_rfl) ho hs hK
theorem al7x (ho:AllP [(((7:Int)==1)=false),(((7:Int)==3)=false),(((7:Int)==4)=false),(((7:Int)==5)=false),(((7:Int)==6)=false),(((7:Int)==7)=true),(((G.length+1)*184)≤140737488355328),((G.length+1)≤maxLen),(G.length=G.length),(1=1),(0≤a),(a<(V.length:Int)),(0=0),((a).toNat<V.length),((ite (false=true) (decide ((V.getD a.toNat 0)=oneU)) (Bool.not (decide ((V.getD a.toNat 0)=oneU))))=false)]):Sg Try.prog (rvO l G V J wr ms i 7 a b c m k ks vs) (mkSt 56 [8,9,10,21,22,23] [.pt 112 0,.ii ms,.ii i,(.ci (.sl (.op l))),(.ii (l.length:Int)),.ii i] [32,64,112] [(eQ (.gate (G++[(GateD.mk oneU mO 0 0 0 a a (-1))]))),(eQ (.fr V)),(eF [(.slc 32 0 (G.length+1) 23),(.slc 64 0 V.length 4),.sl (.fr J),(.bool wr)])] 1424 [] []) .normal (alR_k) (alB_k):=fun hs hK=>
 run_at2 (unroll:=false) (n:=67) (path:=[false,false,false,false,false,true,false]) (o:=⟨_,_,_,_,_,_,_⟩) rC_ok (by kernel_rfl) (by kernel_rfl) ho hs hK
theorem al8x (ho:AllP [(((8:Int)==1)=false),(((8:Int)==3)=false),(((8:Int)==4)=false),(((8:Int)==5)=false),(((8:Int)==6)=false),(((8:Int)==7)=false),(((8:Int)==8)=true),(((G.length+1)*184)≤140737488355328),((G.length+1)≤maxLen),(G.length=G.length),(1=1),(0≤a),(a<(V.length:Int)),(0=0),((a).toNat<V.length),((ite (false=true) (decide ((V.getD a.toNat 0)=oneU)) (Bool.not (decide ((V.getD a.toNat 0)=oneU))))=false),(0≤b),(b<(V.length:Int)),(0=0),((b).toNat<V.length),((Fin.val (V.getD b.toNat 0))<rN),(0≤c),(c<(V.length:Int)),(0=0),((c).toNat<V.length),((Fin.val (V.getD c.toNat 0))<rN),(((V.length+1)*32)≤140737488355328),((V.length+1)≤maxLen),(V.length=V.length),(1=1),((((G++[(GateD.mk oneU mO 0 0 0 a a (-1))]).length+1)*184)≤140737488355328),(((G++[(GateD.mk oneU mO 0 0 0 a a (-1))]).length+1)≤maxLen),((G.length+1)=(G++[(GateD.mk oneU mO 0 0 0 a a (-1))]).length),(1=1),(0≤a),(a<(((V.length+1):Nat):Int)),(0=0),((a).toNat<(V++[(cleanU ((mulU oneU (V.getD b.toNat 0))+(mulU mO (V.getD c.toNat 0))))]).length),(0≤(wrap .i64 ((((V.length+1):Nat):Int)-1))),((wrap .i64 ((((V.length+1):Nat):Int)-1))<(((V.length+1):Nat):Int)),(0=0),(((wrap .i64 ((((V.length+1):Nat):Int)-1))).toNat<(V++[(cleanU ((mulU oneU (V.getD b.toNat 0))+(mulU mO (V.getD c.toNat 0))))]).length),((Fin.val (List.getD (V++[(cleanU ((mulU oneU (V.getD b.toNat 0))+(mulU mO (V.getD c.toNat 0))))]) ((wrap .i64 ((((V.length+1):Nat):Int)-1))).toNat 0))<rN),((((V++[(cleanU ((mulU oneU (V.getD b.toNat 0))+(mulU mO (V.getD c.toNat 0))))]).length+1)*32)≤140737488355328),(((V++[(cleanU ((mulU oneU (V.getD b.toNat 0))+(mulU mO (V.getD c.toNat 0))))]).length+1)≤maxLen),((V.length+1)=(V++[(cleanU ((mulU oneU (V.getD b.toNat 0))+(mulU mO (V.getD c.toNat 0))))]).length),(1=1),(((((G++[(GateD.mk oneU mO 0 0 0 a a (-1))])++[(GateD.mk 0 oneU mO mO 0 b c (wrap .i64 ((((V.length+1):Nat):Int)-1)))]).length+1)*184)≤140737488355328),((((G++[(GateD.mk oneU mO 0 0 0 a a (-1))])++[(GateD.mk 0 oneU mO mO 0 b c (wrap .i64 ((((V.length+1):Nat):Int)-1)))]).length+1)≤maxLen),(((G++[(GateD.mk oneU mO 0 0 0 a a (-1))]).length+1)=((G++[(GateD.mk oneU mO 0 0 0 a a (-1))])++[(GateD.mk 0 oneU mO mO 0 b c (wrap .i64 ((((V.length+1):Nat):Int)-1)))]).length),(1=1),(0≤(wrap .i64 (((((V++[(cleanU ((mulU oneU (V.getD b.toNat 0))+(mulU mO (V.getD c.toNat 0))))]).length+1):Nat):Int)-1))),((wrap .i64 (((((V++[(cleanU ((mulU oneU (V.getD b.toNat 0))+(mulU mO (V.getD c.toNat 0))))]).length+1):Nat):Int)-1))<((((V++[(cleanU ((mulU oneU (V.getD b.toNat 0))+(mulU mO (V.getD c.toNat 0))))]).length+1):Nat):Int)),(0=0),(((wrap .i64 (((((V++[(cleanU ((mulU oneU (V.getD b.toNat 0))+(mulU mO (V.getD c.toNat 0))))]).length+1):Nat):Int)-1))).toNat<((V++[(cleanU ((mulU oneU (V.getD b.toNat 0))+(mulU mO (V.getD c.toNat 0))))])++[(mulU (List.getD (V++[(cleanU ((mulU oneU (V.getD b.toNat 0))+(mulU mO (V.getD c.toNat 0))))]) (a).toNat 0) (List.getD (V++[(cleanU ((mulU oneU (V.getD b.toNat 0))+(mulU mO (V.getD c.toNat 0))))]) ((wrap .i64 ((((V.length+1):Nat):Int)-1))).toNat 0))]).length),((Fin.val (List.getD ((V++[(cleanU ((mulU oneU (V.getD b.toNat 0))+(mulU mO (V.getD c.toNat 0))))])++[(mulU (List.getD (V++[(cleanU ((mulU oneU (V.getD b.toNat 0))+(mulU mO (V.getD c.toNat 0))))]) (a).toNat 0) (List.getD (V++[(cleanU ((mulU oneU (V.getD b.toNat 0))+(mulU mO (V.getD c.toNat 0))))]) ((wrap .i64 ((((V.length+1):Nat):Int)-1))).toNat 0))]) ((wrap .i64 (((((V++[(cleanU ((mulU oneU (V.getD b.toNat 0))+(mulU mO (V.getD c.toNat 0))))]).length+1):Nat):Int)-1))).toNat 0))<rN),(0≤c),(c<((((V++[(cleanU ((mulU oneU (V.getD b.toNat 0))+(mulU mO (V.getD c.toNat 0))))]).length+1):Nat):Int)),(0=0),((c).toNat<((V++[(cleanU ((mulU oneU (V.getD b.toNat 0))+(mulU mO (V.getD c.toNat 0))))])++[(mulU (List.getD (V++[(cleanU ((mulU oneU (V.getD b.toNat 0))+(mulU mO (V.getD c.toNat 0))))]) (a).toNat 0) (List.getD (V++[(cleanU ((mulU oneU (V.getD b.toNat 0))+(mulU mO (V.getD c.toNat 0))))]) ((wrap .i64 ((((V.length+1):Nat):Int)-1))).toNat 0))]).length),((Fin.val (List.getD ((V++[(cleanU ((mulU oneU (V.getD b.toNat 0))+(mulU mO (V.getD c.toNat 0))))])++[(mulU (List.getD (V++[(cleanU ((mulU oneU (V.getD b.toNat 0))+(mulU mO (V.getD c.toNat 0))))]) (a).toNat 0) (List.getD (V++[(cleanU ((mulU oneU (V.getD b.toNat 0))+(mulU mO (V.getD c.toNat 0))))]) ((wrap .i64 ((((V.length+1):Nat):Int)-1))).toNat 0))]) (c).toNat 0))<rN),(((((V++[(cleanU ((mulU oneU (V.getD b.toNat 0))+(mulU mO (V.getD c.toNat 0))))])++[(mulU (List.getD (V++[(cleanU ((mulU oneU (V.getD b.toNat 0))+(mulU mO (V.getD c.toNat 0))))]) (a).toNat 0) (List.getD (V++[(cleanU ((mulU oneU (V.getD b.toNat 0))+(mulU mO (V.getD c.toNat 0))))]) ((wrap .i64 ((((V.length+1):Nat):Int)-1))).toNat 0))]).length+1)*32)≤140737488355328),((((V++[(cleanU ((mulU oneU (V.getD b.toNat 0))+(mulU mO (V.getD c.toNat 0))))])++[(mulU (List.getD (V++[(cleanU ((mulU oneU (V.getD b.toNat 0))+(mulU mO (V.getD c.toNat 0))))]) (a).toNat 0) (List.getD (V++[(cleanU ((mulU oneU (V.getD b.toNat 0))+(mulU mO (V.getD c.toNat 0))))]) ((wrap .i64 ((((V.length+1):Nat):Int)-1))).toNat 0))]).length+1)≤maxLen),(((V++[(cleanU ((mulU oneU (V.getD b.toNat 0))+(mulU mO (V.getD c.toNat 0))))]).length+1)=((V++[(cleanU ((mulU oneU (V.getD b.toNat 0))+(mulU mO (V.getD c.toNat 0))))])++[(mulU (List.getD (V++[(cleanU ((mulU oneU (V.getD b.toNat 0))+(mulU mO (V.getD c.toNat 0))))]) (a).toNat 0) (List.getD (V++[(cleanU ((mulU oneU (V.getD b.toNat 0))+(mulU mO (V.getD c.toNat 0))))]) ((wrap .i64 ((((V.length+1):Nat):Int)-1))).toNat 0))]).length),(1=1),((((((G++[(GateD.mk oneU mO 0 0 0 a a (-1))])++[(GateD.mk 0 oneU mO mO 0 b c (wrap .i64 ((((V.length+1):Nat):Int)-1)))])++[(GateD.mk oneU 0 0 mO 0 a (wrap .i64 ((((V.length+1):Nat):Int)-1)) (wrap .i64 (((((V++[(cleanU ((mulU oneU (V.getD b.toNat 0))+(mulU mO (V.getD c.toNat 0))))]).length+1):Nat):Int)-1)))]).length+1)*184)≤140737488355328),(((((G++[(GateD.mk oneU mO 0 0 0 a a (-1))])++[(GateD.mk 0 oneU mO mO 0 b c (wrap .i64 ((((V.length+1):Nat):Int)-1)))])++[(GateD.mk oneU 0 0 mO 0 a (wrap .i64 ((((V.length+1):Nat):Int)-1)) (wrap .i64 (((((V++[(cleanU ((mulU oneU (V.getD b.toNat 0))+(mulU mO (V.getD c.toNat 0))))]).length+1):Nat):Int)-1)))]).length+1)≤maxLen),((((G++[(GateD.mk oneU mO 0 0 0 a a (-1))])++[(GateD.mk 0 oneU mO mO 0 b c (wrap .i64 ((((V.length+1):Nat):Int)-1)))]).length+1)=(((G++[(GateD.mk oneU mO 0 0 0 a a (-1))])++[(GateD.mk 0 oneU mO mO 0 b c (wrap .i64 ((((V.length+1):Nat):Int)-1)))])++[(GateD.mk oneU 0 0 mO 0 a (wrap .i64 ((((V.length+1):Nat):Int)-1)) (wrap .i64 (((((V++[(cleanU ((mulU oneU (V.getD b.toNat 0))+(mulU mO (V.getD c.toNat 0))))]).length+1):Nat):Int)-1)))]).length),(1=1)]):Sg Try.prog (rvO l G V J wr ms i 8 a b c m k ks vs) (mkSt 56 [8,9,10,21,22,23] [.pt 112 0,.ii ms,.ii i,(.ci (.sl (.op l))),(.ii (l.length:Int)),.ii i] [32,64,112] [(eQ (.gate ((((G++[(GateD.mk oneU mO 0 0 0 a a (-1))])++[(GateD.mk 0 oneU mO mO 0 b c (wrap .i64 ((((V.length+1):Nat):Int)-1)))])++[(GateD.mk oneU 0 0 mO 0 a (wrap .i64 ((((V.length+1):Nat):Int)-1)) (wrap .i64 (((((V++[(cleanU ((mulU oneU (V.getD b.toNat 0))+(mulU mO (V.getD c.toNat 0))))]).length+1):Nat):Int)-1)))])++[(GateD.mk 0 oneU oneU mO 0 (wrap .i64 (((((V++[(cleanU ((mulU oneU (V.getD b.toNat 0))+(mulU mO (V.getD c.toNat 0))))]).length+1):Nat):Int)-1)) c (wrap .i64 ((((((V++[(cleanU ((mulU oneU (V.getD b.toNat 0))+(mulU mO (V.getD c.toNat 0))))])++[(mulU (List.getD (V++[(cleanU ((mulU oneU (V.getD b.toNat 0))+(mulU mO (V.getD c.toNat 0))))]) (a).toNat 0) (List.getD (V++[(cleanU ((mulU oneU (V.getD b.toNat 0))+(mulU mO (V.getD c.toNat 0))))]) ((wrap .i64 ((((V.length+1):Nat):Int)-1))).toNat 0))]).length+1):Nat):Int)-1)))]))),(eQ (.fr (((V++[(cleanU ((mulU oneU (V.getD b.toNat 0))+(mulU mO (V.getD c.toNat 0))))])++[(mulU (List.getD (V++[(cleanU ((mulU oneU (V.getD b.toNat 0))+(mulU mO (V.getD c.toNat 0))))]) (a).toNat 0) (List.getD (V++[(cleanU ((mulU oneU (V.getD b.toNat 0))+(mulU mO (V.getD c.toNat 0))))]) ((wrap .i64 ((((V.length+1):Nat):Int)-1))).toNat 0))])++[(cleanU ((mulU oneU (List.getD ((V++[(cleanU ((mulU oneU (V.getD b.toNat 0))+(mulU mO (V.getD c.toNat 0))))])++[(mulU (List.getD (V++[(cleanU ((mulU oneU (V.getD b.toNat 0))+(mulU mO (V.getD c.toNat 0))))]) (a).toNat 0) (List.getD (V++[(cleanU ((mulU oneU (V.getD b.toNat 0))+(mulU mO (V.getD c.toNat 0))))]) ((wrap .i64 ((((V.length+1):Nat):Int)-1))).toNat 0))]) ((wrap .i64 (((((V++[(cleanU ((mulU oneU (V.getD b.toNat 0))+(mulU mO (V.getD c.toNat 0))))]).length+1):Nat):Int)-1))).toNat 0))+(mulU oneU (List.getD ((V++[(cleanU ((mulU oneU (V.getD b.toNat 0))+(mulU mO (V.getD c.toNat 0))))])++[(mulU (List.getD (V++[(cleanU ((mulU oneU (V.getD b.toNat 0))+(mulU mO (V.getD c.toNat 0))))]) (a).toNat 0) (List.getD (V++[(cleanU ((mulU oneU (V.getD b.toNat 0))+(mulU mO (V.getD c.toNat 0))))]) ((wrap .i64 ((((V.length+1):Nat):Int)-1))).toNat 0))]) (c).toNat 0))))]))),(eF [(.slc 32 0 ((((G++[(GateD.mk oneU mO 0 0 0 a a (-1))])++[(GateD.mk 0 oneU mO mO 0 b c (wrap .i64 ((((V.length+1):Nat):Int)-1)))])++[(GateD.mk oneU 0 0 mO 0 a (wrap .i64 ((((V.length+1):Nat):Int)-1)) (wrap .i64 (((((V++[(cleanU ((mulU oneU (V.getD b.toNat 0))+(mulU mO (V.getD c.toNat 0))))]).length+1):Nat):Int)-1)))]).length+1) 23),(.slc 64 0 (((V++[(cleanU ((mulU oneU (V.getD b.toNat 0))+(mulU mO (V.getD c.toNat 0))))])++[(mulU (List.getD (V++[(cleanU ((mulU oneU (V.getD b.toNat 0))+(mulU mO (V.getD c.toNat 0))))]) (a).toNat 0) (List.getD (V++[(cleanU ((mulU oneU (V.getD b.toNat 0))+(mulU mO (V.getD c.toNat 0))))]) ((wrap .i64 ((((V.length+1):Nat):Int)-1))).toNat 0))]).length+1) 4),.sl (.fr J),(.bool wr)])] 4992 [] []) .normal (alR_k) (alB_k):=fun hs hK=>
 run_at2 (unroll:=false) (n:=222) (path:=[false,false,false,false,false,false,true,false]) (o:=⟨_,_,_,_,_,_,_⟩) rC_ok (by kernel_rfl) (by kernel_rfl) ho hs hK
theorem al7y (ho:AllP [(((7:Int)==1)=false),(((7:Int)==3)=false),(((7:Int)==4)=false),(((7:Int)==5)=false),(((7:Int)==6)=false),(((7:Int)==7)=true),(((G.length+1)*184)≤140737488355328),((G.length+1)≤maxLen),(G.length=G.length),(1=1),(0≤a),(a<(V.length:Int)),(0=0),((a).toNat<V.length),((ite (false=true) (decide ((V.getD a.toNat 0)=oneU)) (Bool.not (decide ((V.getD a.toNat 0)=oneU))))=true),(0≤a),(a<(V.length:Int)),(0=0),((a).toNat<V.length),((ite (false=true) (decide ((V.getD a.toNat 0)=(0:U4))) (Bool.not (decide ((V.getD a.toNat 0)=(0:U4)))))=true)]):Sg Try.prog (rvO l G V J wr ms i 7 a b c m k ks vs) (mkSt 56 [8,9,10,21,22,23] [.pt 112 0,.ii ms,.ii i,(.ci (.sl (.op l))),(.ii (l.length:Int)),.ii i] [32,64,112] [(eQ (.gate (G++[(GateD.mk oneU mO 0 0 0 a a (-1))]))),(eQ (.fr V)),(eF [(.slc 32 0 (G.length+1) 23),(.slc 64 0 V.length 4),.sl (.fr J),(.lit true)])] 1488 [] []) .normal (alR_k) (alB_k):=fun hs hK=>
 run_at2 (unroll:=false) (n:=72) (path:=[false,false,false,false,false,true,true,true]) (o:=⟨_,_,_,_,_,_,_⟩) rC_ok (by kernel_rfl) (by kernel_rfl) ho hs hK
theorem al8y (ho:AllP [(((8:Int)==1)=false),(((8:Int)==3)=false),(((8:Int)==4)=false),(((8:Int)==5)=false),(((8:Int)==6)=false),(((8:Int)==7)=false),(((8:Int)==8)=true),(((G.length+1)*184)≤140737488355328),((G.length+1)≤maxLen),(G.length=G.length),(1=1),(0≤a),(a<(V.length:Int)),(0=0),((a).toNat<V.length),((ite (false=true) (decide ((V.getD a.toNat 0)=oneU)) (Bool.not (decide ((V.getD a.toNat 0)=oneU))))=true),(0≤a),(a<(V.length:Int)),(0=0),((a).toNat<V.length),((ite (false=true) (decide ((V.getD a.toNat 0)=(0:U4))) (Bool.not (decide ((V.getD a.toNat 0)=(0:U4)))))=true),(0≤b),(b<(V.length:Int)),(0=0),((b).toNat<V.length),((Fin.val (V.getD b.toNat 0))<rN),(0≤c),(c<(V.length:Int)),(0=0),((c).toNat<V.length),((Fin.val (V.getD c.toNat 0))<rN),(((V.length+1)*32)≤140737488355328),((V.length+1)≤maxLen),(V.length=V.length),(1=1),((((G++[(GateD.mk oneU mO 0 0 0 a a (-1))]).length+1)*184)≤140737488355328),(((G++[(GateD.mk oneU mO 0 0 0 a a (-1))]).length+1)≤maxLen),((G.length+1)=(G++[(GateD.mk oneU mO 0 0 0 a a (-1))]).length),(1=1),(0≤a),(a<(((V.length+1):Nat):Int)),(0=0),((a).toNat<(V++[(cleanU ((mulU oneU (V.getD b.toNat 0))+(mulU mO (V.getD c.toNat 0))))]).length),(0≤(wrap .i64 ((((V.length+1):Nat):Int)-1))),((wrap .i64 ((((V.length+1):Nat):Int)-1))<(((V.length+1):Nat):Int)),(0=0),(((wrap .i64 ((((V.length+1):Nat):Int)-1))).toNat<(V++[(cleanU ((mulU oneU (V.getD b.toNat 0))+(mulU mO (V.getD c.toNat 0))))]).length),((Fin.val (List.getD (V++[(cleanU ((mulU oneU (V.getD b.toNat 0))+(mulU mO (V.getD c.toNat 0))))]) ((wrap .i64 ((((V.length+1):Nat):Int)-1))).toNat 0))<rN),((((V++[(cleanU ((mulU oneU (V.getD b.toNat 0))+(mulU mO (V.getD c.toNat 0))))]).length+1)*32)≤140737488355328),(((V++[(cleanU ((mulU oneU (V.getD b.toNat 0))+(mulU mO (V.getD c.toNat 0))))]).length+1)≤maxLen),((V.length+1)=(V++[(cleanU ((mulU oneU (V.getD b.toNat 0))+(mulU mO (V.getD c.toNat 0))))]).length),(1=1),(((((G++[(GateD.mk oneU mO 0 0 0 a a (-1))])++[(GateD.mk 0 oneU mO mO 0 b c (wrap .i64 ((((V.length+1):Nat):Int)-1)))]).length+1)*184)≤140737488355328),((((G++[(GateD.mk oneU mO 0 0 0 a a (-1))])++[(GateD.mk 0 oneU mO mO 0 b c (wrap .i64 ((((V.length+1):Nat):Int)-1)))]).length+1)≤maxLen),(((G++[(GateD.mk oneU mO 0 0 0 a a (-1))]).length+1)=((G++[(GateD.mk oneU mO 0 0 0 a a (-1))])++[(GateD.mk 0 oneU mO mO 0 b c (wrap .i64 ((((V.length+1):Nat):Int)-1)))]).length),(1=1),(0≤(wrap .i64 (((((V++[(cleanU ((mulU oneU (V.getD b.toNat 0))+(mulU mO (V.getD c.toNat 0))))]).length+1):Nat):Int)-1))),((wrap .i64 (((((V++[(cleanU ((mulU oneU (V.getD b.toNat 0))+(mulU mO (V.getD c.toNat 0))))]).length+1):Nat):Int)-1))<((((V++[(cleanU ((mulU oneU (V.getD b.toNat 0))+(mulU mO (V.getD c.toNat 0))))]).length+1):Nat):Int)),(0=0),(((wrap .i64 (((((V++[(cleanU ((mulU oneU (V.getD b.toNat 0))+(mulU mO (V.getD c.toNat 0))))]).length+1):Nat):Int)-1))).toNat<((V++[(cleanU ((mulU oneU (V.getD b.toNat 0))+(mulU mO (V.getD c.toNat 0))))])++[(mulU (List.getD (V++[(cleanU ((mulU oneU (V.getD b.toNat 0))+(mulU mO (V.getD c.toNat 0))))]) (a).toNat 0) (List.getD (V++[(cleanU ((mulU oneU (V.getD b.toNat 0))+(mulU mO (V.getD c.toNat 0))))]) ((wrap .i64 ((((V.length+1):Nat):Int)-1))).toNat 0))]).length),((Fin.val (List.getD ((V++[(cleanU ((mulU oneU (V.getD b.toNat 0))+(mulU mO (V.getD c.toNat 0))))])++[(mulU (List.getD (V++[(cleanU ((mulU oneU (V.getD b.toNat 0))+(mulU mO (V.getD c.toNat 0))))]) (a).toNat 0) (List.getD (V++[(cleanU ((mulU oneU (V.getD b.toNat 0))+(mulU mO (V.getD c.toNat 0))))]) ((wrap .i64 ((((V.length+1):Nat):Int)-1))).toNat 0))]) ((wrap .i64 (((((V++[(cleanU ((mulU oneU (V.getD b.toNat 0))+(mulU mO (V.getD c.toNat 0))))]).length+1):Nat):Int)-1))).toNat 0))<rN),(0≤c),(c<((((V++[(cleanU ((mulU oneU (V.getD b.toNat 0))+(mulU mO (V.getD c.toNat 0))))]).length+1):Nat):Int)),(0=0),((c).toNat<((V++[(cleanU ((mulU oneU (V.getD b.toNat 0))+(mulU mO (V.getD c.toNat 0))))])++[(mulU (List.getD (V++[(cleanU ((mulU oneU (V.getD b.toNat 0))+(mulU mO (V.getD c.toNat 0))))]) (a).toNat 0) (List.getD (V++[(cleanU ((mulU oneU (V.getD b.toNat 0))+(mulU mO (V.getD c.toNat 0))))]) ((wrap .i64 ((((V.length+1):Nat):Int)-1))).toNat 0))]).length),((Fin.val (List.getD ((V++[(cleanU ((mulU oneU (V.getD b.toNat 0))+(mulU mO (V.getD c.toNat 0))))])++[(mulU (List.getD (V++[(cleanU ((mulU oneU (V.getD b.toNat 0))+(mulU mO (V.getD c.toNat 0))))]) (a).toNat 0) (List.getD (V++[(cleanU ((mulU oneU (V.getD b.toNat 0))+(mulU mO (V.getD c.toNat 0))))]) ((wrap .i64 ((((V.length+1):Nat):Int)-1))).toNat 0))]) (c).toNat 0))<rN),(((((V++[(cleanU ((mulU oneU (V.getD b.toNat 0))+(mulU mO (V.getD c.toNat 0))))])++[(mulU (List.getD (V++[(cleanU ((mulU oneU (V.getD b.toNat 0))+(mulU mO (V.getD c.toNat 0))))]) (a).toNat 0) (List.getD (V++[(cleanU ((mulU oneU (V.getD b.toNat 0))+(mulU mO (V.getD c.toNat 0))))]) ((wrap .i64 ((((V.length+1):Nat):Int)-1))).toNat 0))]).length+1)*32)≤140737488355328),((((V++[(cleanU ((mulU oneU (V.getD b.toNat 0))+(mulU mO (V.getD c.toNat 0))))])++[(mulU (List.getD (V++[(cleanU ((mulU oneU (V.getD b.toNat 0))+(mulU mO (V.getD c.toNat 0))))]) (a).toNat 0) (List.getD (V++[(cleanU ((mulU oneU (V.getD b.toNat 0))+(mulU mO (V.getD c.toNat 0))))]) ((wrap .i64 ((((V.length+1):Nat):Int)-1))).toNat 0))]).length+1)≤maxLen),(((V++[(cleanU ((mulU oneU (V.getD b.toNat 0))+(mulU mO (V.getD c.toNat 0))))]).length+1)=((V++[(cleanU ((mulU oneU (V.getD b.toNat 0))+(mulU mO (V.getD c.toNat 0))))])++[(mulU (List.getD (V++[(cleanU ((mulU oneU (V.getD b.toNat 0))+(mulU mO (V.getD c.toNat 0))))]) (a).toNat 0) (List.getD (V++[(cleanU ((mulU oneU (V.getD b.toNat 0))+(mulU mO (V.getD c.toNat 0))))]) ((wrap .i64 ((((V.length+1):Nat):Int)-1))).toNat 0))]).length),(1=1),((((((G++[(GateD.mk oneU mO 0 0 0 a a (-1))])++[(GateD.mk 0 oneU mO mO 0 b c (wrap .i64 ((((V.length+1):Nat):Int)-1)))])++[(GateD.mk oneU 0 0 mO 0 a (wrap .i64 ((((V.length+1):Nat):Int)-1)) (wrap .i64 (((((V++[(cleanU ((mulU oneU (V.getD b.toNat 0))+(mulU mO (V.getD c.toNat 0))))]).length+1):Nat):Int)-1)))]).length+1)*184)≤140737488355328),(((((G++[(GateD.mk oneU mO 0 0 0 a a (-1))])++[(GateD.mk 0 oneU mO mO 0 b c (wrap .i64 ((((V.length+1):Nat):Int)-1)))])++[(GateD.mk oneU 0 0 mO 0 a (wrap .i64 ((((V.length+1):Nat):Int)-1)) (wrap .i64 (((((V++[(cleanU ((mulU oneU (V.getD b.toNat 0))+(mulU mO (V.getD c.toNat 0))))]).length+1):Nat):Int)-1)))]).length+1)≤maxLen),((((G++[(GateD.mk oneU mO 0 0 0 a a (-1))])++[(GateD.mk 0 oneU mO mO 0 b c (wrap .i64 ((((V.length+1):Nat):Int)-1)))]).length+1)=(((G++[(GateD.mk oneU mO 0 0 0 a a (-1))])++[(GateD.mk 0 oneU mO mO 0 b c (wrap .i64 ((((V.length+1):Nat):Int)-1)))])++[(GateD.mk oneU 0 0 mO 0 a (wrap .i64 ((((V.length+1):Nat):Int)-1)) (wrap .i64 (((((V++[(cleanU ((mulU oneU (V.getD b.toNat 0))+(mulU mO (V.getD c.toNat 0))))]).length+1):Nat):Int)-1)))]).length),(1=1)]):Sg Try.prog (rvO l G V J wr ms i 8 a b c m k ks vs) (mkSt 56 [8,9,10,21,22,23] [.pt 112 0,.ii ms,.ii i,(.ci (.sl (.op l))),(.ii (l.length:Int)),.ii i] [32,64,112] [(eQ (.gate ((((G++[(GateD.mk oneU mO 0 0 0 a a (-1))])++[(GateD.mk 0 oneU mO mO 0 b c (wrap .i64 ((((V.length+1):Nat):Int)-1)))])++[(GateD.mk oneU 0 0 mO 0 a (wrap .i64 ((((V.length+1):Nat):Int)-1)) (wrap .i64 (((((V++[(cleanU ((mulU oneU (V.getD b.toNat 0))+(mulU mO (V.getD c.toNat 0))))]).length+1):Nat):Int)-1)))])++[(GateD.mk 0 oneU oneU mO 0 (wrap .i64 (((((V++[(cleanU ((mulU oneU (V.getD b.toNat 0))+(mulU mO (V.getD c.toNat 0))))]).length+1):Nat):Int)-1)) c (wrap .i64 ((((((V++[(cleanU ((mulU oneU (V.getD b.toNat 0))+(mulU mO (V.getD c.toNat 0))))])++[(mulU (List.getD (V++[(cleanU ((mulU oneU (V.getD b.toNat 0))+(mulU mO (V.getD c.toNat 0))))]) (a).toNat 0) (List.getD (V++[(cleanU ((mulU oneU (V.getD b.toNat 0))+(mulU mO (V.getD c.toNat 0))))]) ((wrap .i64 ((((V.length+1):Nat):Int)-1))).toNat 0))]).length+1):Nat):Int)-1)))]))),(eQ (.fr (((V++[(cleanU ((mulU oneU (V.getD b.toNat 0))+(mulU mO (V.getD c.toNat 0))))])++[(mulU (List.getD (V++[(cleanU ((mulU oneU (V.getD b.toNat 0))+(mulU mO (V.getD c.toNat 0))))]) (a).toNat 0) (List.getD (V++[(cleanU ((mulU oneU (V.getD b.toNat 0))+(mulU mO (V.getD c.toNat 0))))]) ((wrap .i64 ((((V.length+1):Nat):Int)-1))).toNat 0))])++[(cleanU ((mulU oneU (List.getD ((V++[(cleanU ((mulU oneU (V.getD b.toNat 0))+(mulU mO (V.getD c.toNat 0))))])++[(mulU (List.getD (V++[(cleanU ((mulU oneU (V.getD b.toNat 0))+(mulU mO (V.getD c.toNat 0))))]) (a).toNat 0) (List.getD (V++[(cleanU ((mulU oneU (V.getD b.toNat 0))+(mulU mO (V.getD c.toNat 0))))]) ((wrap .i64 ((((V.length+1):Nat):Int)-1))).toNat 0))]) ((wrap .i64 (((((V++[(cleanU ((mulU oneU (V.getD b.toNat 0))+(mulU mO (V.getD c.toNat 0))))]).length+1):Nat):Int)-1))).toNat 0))+(mulU oneU (List.getD ((V++[(cleanU ((mulU oneU (V.getD b.toNat 0))+(mulU mO (V.getD c.toNat 0))))])++[(mulU (List.getD (V++[(cleanU ((mulU oneU (V.getD b.toNat 0))+(mulU mO (V.getD c.toNat 0))))]) (a).toNat 0) (List.getD (V++[(cleanU ((mulU oneU (V.getD b.toNat 0))+(mulU mO (V.getD c.toNat 0))))]) ((wrap .i64 ((((V.length+1):Nat):Int)-1))).toNat 0))]) (c).toNat 0))))]))),(eF [(.slc 32 0 ((((G++[(GateD.mk oneU mO 0 0 0 a a (-1))])++[(GateD.mk 0 oneU mO mO 0 b c (wrap .i64 ((((V.length+1):Nat):Int)-1)))])++[(GateD.mk oneU 0 0 mO 0 a (wrap .i64 ((((V.length+1):Nat):Int)-1)) (wrap .i64 (((((V++[(cleanU ((mulU oneU (V.getD b.toNat 0))+(mulU mO (V.getD c.toNat 0))))]).length+1):Nat):Int)-1)))]).length+1) 23),(.slc 64 0 (((V++[(cleanU ((mulU oneU (V.getD b.toNat 0))+(mulU mO (V.getD c.toNat 0))))])++[(mulU (List.getD (V++[(cleanU ((mulU oneU (V.getD b.toNat 0))+(mulU mO (V.getD c.toNat 0))))]) (a).toNat 0) (List.getD (V++[(cleanU ((mulU oneU (V.getD b.toNat 0))+(mulU mO (V.getD c.toNat 0))))]) ((wrap .i64 ((((V.length+1):Nat):Int)-1))).toNat 0))]).length+1) 4),.sl (.fr J),(.lit true)])] 5056 [] []) .normal (alR_k) (alB_k):=fun hs hK=>
 run_at2 (unroll:=false) (n:=227) (path:=[false,false,false,false,false,false,true,true,true]) (o:=⟨_,_,_,_,_,_,_⟩) rC_ok (by kernel_rfl) (by kernel_rfl) ho hs hK
theorem al7z (ho:AllP [(((7:Int)==1)=false),(((7:Int)==3)=false),(((7:Int)==4)=false),(((7:Int)==5)=false),(((7:Int)==6)=false),(((7:Int)==7)=true),(((G.length+1)*184)≤140737488355328),((G.length+1)≤maxLen),(G.length=G.length),(1=1),(0≤a),(a<(V.length:Int)),(0=0),((a).toNat<V.length),((ite (false=true) (decide ((V.getD a.toNat 0)=oneU)) (Bool.not (decide ((V.getD a.toNat 0)=oneU))))=true),(0≤a),(a<(V.length:Int)),(0=0),((a).toNat<V.length),((ite (false=true) (decide ((V.getD a.toNat 0)=(0:U4))) (Bool.not (decide ((V.getD a.toNat 0)=(0:U4)))))=false)]):Sg Try.prog (rvO l G V J wr ms i 7 a b c m k ks vs) (mkSt 56 [8,9,10,21,22,23] [.pt 112 0,.ii ms,.ii i,(.ci (.sl (.op l))),(.ii (l.length:Int)),.ii i] [32,64,112] [(eQ (.gate (G++[(GateD.mk oneU mO 0 0 0 a a (-1))]))),(eQ (.fr V)),(eF [(.slc 32 0 (G.length+1) 23),(.slc 64 0 V.length 4),.sl (.fr J),(.bool wr)])] 1424 [] []) .normal (alR_k) (alB_k):=fun hs hK=>
 run_at2 (unroll:=false) (n:=67) (path:=[false,false,false,false,false,true,true,false]) (o:=⟨_,_,_,_,_,_,_⟩) rC_ok (by kernel_rfl) (by kernel_rfl) ho hs hK
theorem al8z (ho:AllP [(((8:Int)==1)=false),(((8:Int)==3)=false),(((8:Int)==4)=false),(((8:Int)==5)=false),(((8:Int)==6)=false),(((8:Int)==7)=false),(((8:Int)==8)=true),(((G.length+1)*184)≤140737488355328),((G.length+1)≤maxLen),(G.length=G.length),(1=1),(0≤a),(a<(V.length:Int)),(0=0),((a).toNat<V.length),((ite (false=true) (decide ((V.getD a.toNat 0)=oneU)) (Bool.not (decide ((V.getD a.toNat 0)=oneU))))=true),(0≤a),(a<(V.length:Int)),(0=0),((a).toNat<V.length),((ite (false=true) (decide ((V.getD a.toNat 0)=(0:U4))) (Bool.not (decide ((V.getD a.toNat 0)=(0:U4)))))=false),(0≤b),(b<(V.length:Int)),(0=0),((b).toNat<V.length),((Fin.val (V.getD b.toNat 0))<rN),(0≤c),(c<(V.length:Int)),(0=0),((c).toNat<V.length),((Fin.val (V.getD c.toNat 0))<rN),(((V.length+1)*32)≤140737488355328),((V.length+1)≤maxLen),(V.length=V.length),(1=1),((((G++[(GateD.mk oneU mO 0 0 0 a a (-1))]).length+1)*184)≤140737488355328),(((G++[(GateD.mk oneU mO 0 0 0 a a (-1))]).length+1)≤maxLen),((G.length+1)=(G++[(GateD.mk oneU mO 0 0 0 a a (-1))]).length),(1=1),(0≤a),(a<(((V.length+1):Nat):Int)),(0=0),((a).toNat<(V++[(cleanU ((mulU oneU (V.getD b.toNat 0))+(mulU mO (V.getD c.toNat 0))))]).length),(0≤(wrap .i64 ((((V.length+1):Nat):Int)-1))),((wrap .i64 ((((V.length+1):Nat):Int)-1))<(((V.length+1):Nat):Int)),(0=0),(((wrap .i64 ((((V.length+1):Nat):Int)-1))).toNat<(V++[(cleanU ((mulU oneU (V.getD b.toNat 0))+(mulU mO (V.getD c.toNat 0))))]).length),((Fin.val (List.getD (V++[(cleanU ((mulU oneU (V.getD b.toNat 0))+(mulU mO (V.getD c.toNat 0))))]) ((wrap .i64 ((((V.length+1):Nat):Int)-1))).toNat 0))<rN),((((V++[(cleanU ((mulU oneU (V.getD b.toNat 0))+(mulU mO (V.getD c.toNat 0))))]).length+1)*32)≤140737488355328),(((V++[(cleanU ((mulU oneU (V.getD b.toNat 0))+(mulU mO (V.getD c.toNat 0))))]).length+1)≤maxLen),((V.length+1)=(V++[(cleanU ((mulU oneU (V.getD b.toNat 0))+(mulU mO (V.getD c.toNat 0))))]).length),(1=1),(((((G++[(GateD.mk oneU mO 0 0 0 a a (-1))])++[(GateD.mk 0 oneU mO mO 0 b c (wrap .i64 ((((V.length+1):Nat):Int)-1)))]).length+1)*184)≤140737488355328),((((G++[(GateD.mk oneU mO 0 0 0 a a (-1))])++[(GateD.mk 0 oneU mO mO 0 b c (wrap .i64 ((((V.length+1):Nat):Int)-1)))]).length+1)≤maxLen),(((G++[(GateD.mk oneU mO 0 0 0 a a (-1))]).length+1)=((G++[(GateD.mk oneU mO 0 0 0 a a (-1))])++[(GateD.mk 0 oneU mO mO 0 b c (wrap .i64 ((((V.length+1):Nat):Int)-1)))]).length),(1=1),(0≤(wrap .i64 (((((V++[(cleanU ((mulU oneU (V.getD b.toNat 0))+(mulU mO (V.getD c.toNat 0))))]).length+1):Nat):Int)-1))),((wrap .i64 (((((V++[(cleanU ((mulU oneU (V.getD b.toNat 0))+(mulU mO (V.getD c.toNat 0))))]).length+1):Nat):Int)-1))<((((V++[(cleanU ((mulU oneU (V.getD b.toNat 0))+(mulU mO (V.getD c.toNat 0))))]).length+1):Nat):Int)),(0=0),(((wrap .i64 (((((V++[(cleanU ((mulU oneU (V.getD b.toNat 0))+(mulU mO (V.getD c.toNat 0))))]).length+1):Nat):Int)-1))).toNat<((V++[(cleanU ((mulU oneU (V.getD b.toNat 0))+(mulU mO (V.getD c.toNat 0))))])++[(mulU (List.getD (V++[(cleanU ((mulU oneU (V.getD b.toNat 0))+(mulU mO (V.getD c.toNat 0))))]) (a).toNat 0) (List.getD (V++[(cleanU ((mulU oneU (V.getD b.toNat 0))+(mulU mO (V.getD c.toNat 0))))]) ((wrap .i64 ((((V.length+1):Nat):Int)-1))).toNat 0))]).length),((Fin.val (List.getD ((V++[(cleanU ((mulU oneU (V.getD b.toNat 0))+(mulU mO (V.getD c.toNat 0))))])++[(mulU (List.getD (V++[(cleanU ((mulU oneU (V.getD b.toNat 0))+(mulU mO (V.getD c.toNat 0))))]) (a).toNat 0) (List.getD (V++[(cleanU ((mulU oneU (V.getD b.toNat 0))+(mulU mO (V.getD c.toNat 0))))]) ((wrap .i64 ((((V.length+1):Nat):Int)-1))).toNat 0))]) ((wrap .i64 (((((V++[(cleanU ((mulU oneU (V.getD b.toNat 0))+(mulU mO (V.getD c.toNat 0))))]).length+1):Nat):Int)-1))).toNat 0))<rN),(0≤c),(c<((((V++[(cleanU ((mulU oneU (V.getD b.toNat 0))+(mulU mO (V.getD c.toNat 0))))]).length+1):Nat):Int)),(0=0),((c).toNat<((V++[(cleanU ((mulU oneU (V.getD b.toNat 0))+(mulU mO (V.getD c.toNat 0))))])++[(mulU (List.getD (V++[(cleanU ((mulU oneU (V.getD b.toNat 0))+(mulU mO (V.getD c.toNat 0))))]) (a).toNat 0) (List.getD (V++[(cleanU ((mulU oneU (V.getD b.toNat 0))+(mulU mO (V.getD c.toNat 0))))]) ((wrap .i64 ((((V.length+1):Nat):Int)-1))).toNat 0))]).length),((Fin.val (List.getD ((V++[(cleanU ((mulU oneU (V.getD b.toNat 0))+(mulU mO (V.getD c.toNat 0))))])++[(mulU (List.getD (V++[(cleanU ((mulU oneU (V.getD b.toNat 0))+(mulU mO (V.getD c.toNat 0))))]) (a).toNat 0) (List.getD (V++[(cleanU ((mulU oneU (V.getD b.toNat 0))+(mulU mO (V.getD c.toNat 0))))]) ((wrap .i64 ((((V.length+1):Nat):Int)-1))).toNat 0))]) (c).toNat 0))<rN),(((((V++[(cleanU ((mulU oneU (V.getD b.toNat 0))+(mulU mO (V.getD c.toNat 0))))])++[(mulU (List.getD (V++[(cleanU ((mulU oneU (V.getD b.toNat 0))+(mulU mO (V.getD c.toNat 0))))]) (a).toNat 0) (List.getD (V++[(cleanU ((mulU oneU (V.getD b.toNat 0))+(mulU mO (V.getD c.toNat 0))))]) ((wrap .i64 ((((V.length+1):Nat):Int)-1))).toNat 0))]).length+1)*32)≤140737488355328),((((V++[(cleanU ((mulU oneU (V.getD b.toNat 0))+(mulU mO (V.getD c.toNat 0))))])++[(mulU (List.getD (V++[(cleanU ((mulU oneU (V.getD b.toNat 0))+(mulU mO (V.getD c.toNat 0))))]) (a).toNat 0) (List.getD (V++[(cleanU ((mulU oneU (V.getD b.toNat 0))+(mulU mO (V.getD c.toNat 0))))]) ((wrap .i64 ((((V.length+1):Nat):Int)-1))).toNat 0))]).length+1)≤maxLen),(((V++[(cleanU ((mulU oneU (V.getD b.toNat 0))+(mulU mO (V.getD c.toNat 0))))]).length+1)=((V++[(cleanU ((mulU oneU (V.getD b.toNat 0))+(mulU mO (V.getD c.toNat 0))))])++[(mulU (List.getD (V++[(cleanU ((mulU oneU (V.getD b.toNat 0))+(mulU mO (V.getD c.toNat 0))))]) (a).toNat 0) (List.getD (V++[(cleanU ((mulU oneU (V.getD b.toNat 0))+(mulU mO (V.getD c.toNat 0))))]) ((wrap .i64 ((((V.length+1):Nat):Int)-1))).toNat 0))]).length),(1=1),((((((G++[(GateD.mk oneU mO 0 0 0 a a (-1))])++[(GateD.mk 0 oneU mO mO 0 b c (wrap .i64 ((((V.length+1):Nat):Int)-1)))])++[(GateD.mk oneU 0 0 mO 0 a (wrap .i64 ((((V.length+1):Nat):Int)-1)) (wrap .i64 (((((V++[(cleanU ((mulU oneU (V.getD b.toNat 0))+(mulU mO (V.getD c.toNat 0))))]).length+1):Nat):Int)-1)))]).length+1)*184)≤140737488355328),(((((G++[(GateD.mk oneU mO 0 0 0 a a (-1))])++[(GateD.mk 0 oneU mO mO 0 b c (wrap .i64 ((((V.length+1):Nat):Int)-1)))])++[(GateD.mk oneU 0 0 mO 0 a (wrap .i64 ((((V.length+1):Nat):Int)-1)) (wrap .i64 (((((V++[(cleanU ((mulU oneU (V.getD b.toNat 0))+(mulU mO (V.getD c.toNat 0))))]).length+1):Nat):Int)-1)))]).length+1)≤maxLen),((((G++[(GateD.mk oneU mO 0 0 0 a a (-1))])++[(GateD.mk 0 oneU mO mO 0 b c (wrap .i64 ((((V.length+1):Nat):Int)-1)))]).length+1)=(((G++[(GateD.mk oneU mO 0 0 0 a a (-1))])++[(GateD.mk 0 oneU mO mO 0 b c (wrap .i64 ((((V.length+1):Nat):Int)-1)))])++[(GateD.mk oneU 0 0 mO 0 a (wrap .i64 ((((V.length+1):Nat):Int)-1)) (wrap .i64 (((((V++[(cleanU ((mulU oneU (V.getD b.toNat 0))+(mulU mO (V.getD c.toNat 0))))]).length+1):Nat):Int)-1)))]).length),(1=1)]):Sg Try.prog (rvO l G V J wr ms i 8 a b c m k ks vs) (mkSt 56 [8,9,10,21,22,23] [.pt 112 0,.ii ms,.ii i,(.ci (.sl (.op l))),(.ii (l.length:Int)),.ii i] [32,64,112] [(eQ (.gate ((((G++[(GateD.mk oneU mO 0 0 0 a a (-1))])++[(GateD.mk 0 oneU mO mO 0 b c (wrap .i64 ((((V.length+1):Nat):Int)-1)))])++[(GateD.mk oneU 0 0 mO 0 a (wrap .i64 ((((V.length+1):Nat):Int)-1)) (wrap .i64 (((((V++[(cleanU ((mulU oneU (V.getD b.toNat 0))+(mulU mO (V.getD c.toNat 0))))]).length+1):Nat):Int)-1)))])++[(GateD.mk 0 oneU oneU mO 0 (wrap .i64 (((((V++[(cleanU ((mulU oneU (V.getD b.toNat 0))+(mulU mO (V.getD c.toNat 0))))]).length+1):Nat):Int)-1)) c (wrap .i64 ((((((V++[(cleanU ((mulU oneU (V.getD b.toNat 0))+(mulU mO (V.getD c.toNat 0))))])++[(mulU (List.getD (V++[(cleanU ((mulU oneU (V.getD b.toNat 0))+(mulU mO (V.getD c.toNat 0))))]) (a).toNat 0) (List.getD (V++[(cleanU ((mulU oneU (V.getD b.toNat 0))+(mulU mO (V.getD c.toNat 0))))]) ((wrap .i64 ((((V.length+1):Nat):Int)-1))).toNat 0))]).length+1):Nat):Int)-1)))]))),(eQ (.fr (((V++[(cleanU ((mulU oneU (V.getD b.toNat 0))+(mulU mO (V.getD c.toNat 0))))])++[(mulU (List.getD (V++[(cleanU ((mulU oneU (V.getD b.toNat 0))+(mulU mO (V.getD c.toNat 0))))]) (a).toNat 0) (List.getD (V++[(cleanU ((mulU oneU (V.getD b.toNat 0))+(mulU mO (V.getD c.toNat 0))))]) ((wrap .i64 ((((V.length+1):Nat):Int)-1))).toNat 0))])++[(cleanU ((mulU oneU (List.getD ((V++[(cleanU ((mulU oneU (V.getD b.toNat 0))+(mulU mO (V.getD c.toNat 0))))])++[(mulU (List.getD (V++[(cleanU ((mulU oneU (V.getD b.toNat 0))+(mulU mO (V.getD c.toNat 0))))]) (a).toNat 0) (List.getD (V++[(cleanU ((mulU oneU (V.getD b.toNat 0))+(mulU mO (V.getD c.toNat 0))))]) ((wrap .i64 ((((V.length+1):Nat):Int)-1))).toNat 0))]) ((wrap .i64 (((((V++[(cleanU ((mulU oneU (V.getD b.toNat 0))+(mulU mO (V.getD c.toNat 0))))]).length+1):Nat):Int)-1))).toNat 0))+(mulU oneU (List.getD ((V++[(cleanU ((mulU oneU (V.getD b.toNat 0))+(mulU mO (V.getD c.toNat 0))))])++[(mulU (List.getD (V++[(cleanU ((mulU oneU (V.getD b.toNat 0))+(mulU mO (V.getD c.toNat 0))))]) (a).toNat 0) (List.getD (V++[(cleanU ((mulU oneU (V.getD b.toNat 0))+(mulU mO (V.getD c.toNat 0))))]) ((wrap .i64 ((((V.length+1):Nat):Int)-1))).toNat 0))]) (c).toNat 0))))]))),(eF [(.slc 32 0 ((((G++[(GateD.mk oneU mO 0 0 0 a a (-1))])++[(GateD.mk 0 oneU mO mO 0 b c (wrap .i64 ((((V.length+1):Nat):Int)-1)))])++[(GateD.mk oneU 0 0 mO 0 a (wrap .i64 ((((V.length+1):Nat):Int)-1)) (wrap .i64 (((((V++[(cleanU ((mulU oneU (V.getD b.toNat 0))+(mulU mO (V.getD c.toNat 0))))]).length+1):Nat):Int)-1)))]).length+1) 23),(.slc 64 0 (((V++[(cleanU ((mulU oneU (V.getD b.toNat 0))+(mulU mO (V.getD c.toNat 0))))])++[(mulU (List.getD (V++[(cleanU ((mulU oneU (V.getD b.toNat 0))+(mulU mO (V.getD c.toNat 0))))]) (a).toNat 0) (List.getD (V++[(cleanU ((mulU oneU (V.getD b.toNat 0))+(mulU mO (V.getD c.toNat 0))))]) ((wrap .i64 ((((V.length+1):Nat):Int)-1))).toNat 0))]).length+1) 4),.sl (.fr J),(.bool wr)])] 4992 [] []) .normal (alR_k) (alB_k):=fun hs hK=>
 run_at2 (unroll:=false) (n:=222) (path:=[false,false,false,false,false,false,true,true,false]) (o:=⟨_,_,_,_,_,_,_⟩) rC_ok (by kernel_rfl) (by kernel_rfl) ho hs hK
theorem al9 (ho:AllP [(((9:Int)==1)=false),(((9:Int)==3)=false),(((9:Int)==4)=false),(((9:Int)==5)=false),(((9:Int)==6)=false),(((9:Int)==7)=false),(((9:Int)==8)=false),(((9:Int)==9)=true),(0≤a),(a<(V.length:Int)),(0=0),((a).toNat<V.length),((Fin.val (V.getD a.toNat 0))<rN),(((V.length+1)*32)≤140737488355328),((V.length+1)≤maxLen),(V.length=V.length),(1=1),(0≤a),(a<(((V.length+1):Nat):Int)),(0=0),((a).toNat<(V++[(outF (invP (inF (V.getD a.toNat 0))))]).length),(0≤(wrap .i64 ((((V.length+1):Nat):Int)-1))),((wrap .i64 ((((V.length+1):Nat):Int)-1))<(((V.length+1):Nat):Int)),(0=0),(((wrap .i64 ((((V.length+1):Nat):Int)-1))).toNat<(V++[(outF (invP (inF (V.getD a.toNat 0))))]).length),((Fin.val (List.getD (V++[(outF (invP (inF (V.getD a.toNat 0))))]) ((wrap .i64 ((((V.length+1):Nat):Int)-1))).toNat 0))<rN),((((V++[(outF (invP (inF (V.getD a.toNat 0))))]).length+1)*32)≤140737488355328),(((V++[(outF (invP (inF (V.getD a.toNat 0))))]).length+1)≤maxLen),((V.length+1)=(V++[(outF (invP (inF (V.getD a.toNat 0))))]).length),(1=1),(((G.length+1)*184)≤140737488355328),((G.length+1)≤maxLen),(G.length=G.length),(1=1),(0≤(wrap .i64 (((((V++[(outF (invP (inF (V.getD a.toNat 0))))]).length+1):Nat):Int)-1))),((wrap .i64 (((((V++[(outF (invP (inF (V.getD a.toNat 0))))]).length+1):Nat):Int)-1))<((((V++[(outF (invP (inF (V.getD a.toNat 0))))]).length+1):Nat):Int)),(0=0),(((wrap .i64 (((((V++[(outF (invP (inF (V.getD a.toNat 0))))]).length+1):Nat):Int)-1))).toNat<((V++[(outF (invP (inF (V.getD a.toNat 0))))])++[(mulU (List.getD (V++[(outF (invP (inF (V.getD a.toNat 0))))]) (a).toNat 0) (List.getD (V++[(outF (invP (inF (V.getD a.toNat 0))))]) ((wrap .i64 ((((V.length+1):Nat):Int)-1))).toNat 0))]).length),((Fin.val (List.getD ((V++[(outF (invP (inF (V.getD a.toNat 0))))])++[(mulU (List.getD (V++[(outF (invP (inF (V.getD a.toNat 0))))]) (a).toNat 0) (List.getD (V++[(outF (invP (inF (V.getD a.toNat 0))))]) ((wrap .i64 ((((V.length+1):Nat):Int)-1))).toNat 0))]) ((wrap .i64 (((((V++[(outF (invP (inF (V.getD a.toNat 0))))]).length+1):Nat):Int)-1))).toNat 0))<rN),(((((V++[(outF (invP (inF (V.getD a.toNat 0))))])++[(mulU (List.getD (V++[(outF (invP (inF (V.getD a.toNat 0))))]) (a).toNat 0) (List.getD (V++[(outF (invP (inF (V.getD a.toNat 0))))]) ((wrap .i64 ((((V.length+1):Nat):Int)-1))).toNat 0))]).length+1)*32)≤140737488355328),((((V++[(outF (invP (inF (V.getD a.toNat 0))))])++[(mulU (List.getD (V++[(outF (invP (inF (V.getD a.toNat 0))))]) (a).toNat 0) (List.getD (V++[(outF (invP (inF (V.getD a.toNat 0))))]) ((wrap .i64 ((((V.length+1):Nat):Int)-1))).toNat 0))]).length+1)≤maxLen),(((V++[(outF (invP (inF (V.getD a.toNat 0))))]).length+1)=((V++[(outF (invP (inF (V.getD a.toNat 0))))])++[(mulU (List.getD (V++[(outF (invP (inF (V.getD a.toNat 0))))]) (a).toNat 0) (List.getD (V++[(outF (invP (inF (V.getD a.toNat 0))))]) ((wrap .i64 ((((V.length+1):Nat):Int)-1))).toNat 0))]).length),(1=1),((((G++[(GateD.mk oneU 0 0 mO 0 a (wrap .i64 ((((V.length+1):Nat):Int)-1)) (wrap .i64 (((((V++[(outF (invP (inF (V.getD a.toNat 0))))]).length+1):Nat):Int)-1)))]).length+1)*184)≤140737488355328),(((G++[(GateD.mk oneU 0 0 mO 0 a (wrap .i64 ((((V.length+1):Nat):Int)-1)) (wrap .i64 (((((V++[(outF (invP (inF (V.getD a.toNat 0))))]).length+1):Nat):Int)-1)))]).length+1)≤maxLen),((G.length+1)=(G++[(GateD.mk oneU 0 0 mO 0 a (wrap .i64 ((((V.length+1):Nat):Int)-1)) (wrap .i64 (((((V++[(outF (invP (inF (V.getD a.toNat 0))))]).length+1):Nat):Int)-1)))]).length),(1=1),(((((G++[(GateD.mk oneU 0 0 mO 0 a (wrap .i64 ((((V.length+1):Nat):Int)-1)) (wrap .i64 (((((V++[(outF (invP (inF (V.getD a.toNat 0))))]).length+1):Nat):Int)-1)))])++[(GateD.mk 0 mO 0 mO oneU (wrap .i64 (((((V++[(outF (invP (inF (V.getD a.toNat 0))))]).length+1):Nat):Int)-1)) (-1) (wrap .i64 ((((((V++[(outF (invP (inF (V.getD a.toNat 0))))])++[(mulU (List.getD (V++[(outF (invP (inF (V.getD a.toNat 0))))]) (a).toNat 0) (List.getD (V++[(outF (invP (inF (V.getD a.toNat 0))))]) ((wrap .i64 ((((V.length+1):Nat):Int)-1))).toNat 0))]).length+1):Nat):Int)-1)))]).length+1)*184)≤140737488355328),((((G++[(GateD.mk oneU 0 0 mO 0 a (wrap .i64 ((((V.length+1):Nat):Int)-1)) (wrap .i64 (((((V++[(outF (invP (inF (V.getD a.toNat 0))))]).length+1):Nat):Int)-1)))])++[(GateD.mk 0 mO 0 mO oneU (wrap .i64 (((((V++[(outF (invP (inF (V.getD a.toNat 0))))]).length+1):Nat):Int)-1)) (-1) (wrap .i64 ((((((V++[(outF (invP (inF (V.getD a.toNat 0))))])++[(mulU (List.getD (V++[(outF (invP (inF (V.getD a.toNat 0))))]) (a).toNat 0) (List.getD (V++[(outF (invP (inF (V.getD a.toNat 0))))]) ((wrap .i64 ((((V.length+1):Nat):Int)-1))).toNat 0))]).length+1):Nat):Int)-1)))]).length+1)≤maxLen),(((G++[(GateD.mk oneU 0 0 mO 0 a (wrap .i64 ((((V.length+1):Nat):Int)-1)) (wrap .i64 (((((V++[(outF (invP (inF (V.getD a.toNat 0))))]).length+1):Nat):Int)-1)))]).length+1)=((G++[(GateD.mk oneU 0 0 mO 0 a (wrap .i64 ((((V.length+1):Nat):Int)-1)) (wrap .i64 (((((V++[(outF (invP (inF (V.getD a.toNat 0))))]).length+1):Nat):Int)-1)))])++[(GateD.mk 0 mO 0 mO oneU (wrap .i64 (((((V++[(outF (invP (inF (V.getD a.toNat 0))))]).length+1):Nat):Int)-1)) (-1) (wrap .i64 ((((((V++[(outF (invP (inF (V.getD a.toNat 0))))])++[(mulU (List.getD (V++[(outF (invP (inF (V.getD a.toNat 0))))]) (a).toNat 0) (List.getD (V++[(outF (invP (inF (V.getD a.toNat 0))))]) ((wrap .i64 ((((V.length+1):Nat):Int)-1))).toNat 0))]).length+1):Nat):Int)-1)))]).length),(1=1)]):Sg Try.prog (rvO l G V J wr ms i 9 a b c m k ks vs) (mkSt 56 [8,9,10,21,22,23] [.pt 112 0,.ii ms,.ii i,(.ci (.sl (.op l))),(.ii (l.length:Int)),.ii i] [32,64,112] [(eQ (.gate (((G++[(GateD.mk oneU 0 0 mO 0 a (wrap .i64 ((((V.length+1):Nat):Int)-1)) (wrap .i64 (((((V++[(outF (invP (inF (V.getD a.toNat 0))))]).length+1):Nat):Int)-1)))])++[(GateD.mk 0 mO 0 mO oneU (wrap .i64 (((((V++[(outF (invP (inF (V.getD a.toNat 0))))]).length+1):Nat):Int)-1)) (-1) (wrap .i64 ((((((V++[(outF (invP (inF (V.getD a.toNat 0))))])++[(mulU (List.getD (V++[(outF (invP (inF (V.getD a.toNat 0))))]) (a).toNat 0) (List.getD (V++[(outF (invP (inF (V.getD a.toNat 0))))]) ((wrap .i64 ((((V.length+1):Nat):Int)-1))).toNat 0))]).length+1):Nat):Int)-1)))])++[(GateD.mk oneU 0 0 0 0 a (wrap .i64 ((((((V++[(outF (invP (inF (V.getD a.toNat 0))))])++[(mulU (List.getD (V++[(outF (invP (inF (V.getD a.toNat 0))))]) (a).toNat 0) (List.getD (V++[(outF (invP (inF (V.getD a.toNat 0))))]) ((wrap .i64 ((((V.length+1):Nat):Int)-1))).toNat 0))]).length+1):Nat):Int)-1)) (-1))]))),(eQ (.fr (((V++[(outF (invP (inF (V.getD a.toNat 0))))])++[(mulU (List.getD (V++[(outF (invP (inF (V.getD a.toNat 0))))]) (a).toNat 0) (List.getD (V++[(outF (invP (inF (V.getD a.toNat 0))))]) ((wrap .i64 ((((V.length+1):Nat):Int)-1))).toNat 0))])++[(cleanU (oneU+(outF ((0:Fr)-(inF (List.getD ((V++[(outF (invP (inF (V.getD a.toNat 0))))])++[(mulU (List.getD (V++[(outF (invP (inF (V.getD a.toNat 0))))]) (a).toNat 0) (List.getD (V++[(outF (invP (inF (V.getD a.toNat 0))))]) ((wrap .i64 ((((V.length+1):Nat):Int)-1))).toNat 0))]) ((wrap .i64 (((((V++[(outF (invP (inF (V.getD a.toNat 0))))]).length+1):Nat):Int)-1))).toNat 0))))))]))),(eF [(.slc 32 0 (((G++[(GateD.mk oneU 0 0 mO 0 a (wrap .i64 ((((V.length+1):Nat):Int)-1)) (wrap .i64 (((((V++[(outF (invP (inF (V.getD a.toNat 0))))]).length+1):Nat):Int)-1)))])++[(GateD.mk 0 mO 0 mO oneU (wrap .i64 (((((V++[(outF (invP (inF (V.getD a.toNat 0))))]).length+1):Nat):Int)-1)) (-1) (wrap .i64 ((((((V++[(outF (invP (inF (V.getD a.toNat 0))))])++[(mulU (List.getD (V++[(outF (invP (inF (V.getD a.toNat 0))))]) (a).toNat 0) (List.getD (V++[(outF (invP (inF (V.getD a.toNat 0))))]) ((wrap .i64 ((((V.length+1):Nat):Int)-1))).toNat 0))]).length+1):Nat):Int)-1)))]).length+1) 23),(.slc 64 0 (((V++[(outF (invP (inF (V.getD a.toNat 0))))])++[(mulU (List.getD (V++[(outF (invP (inF (V.getD a.toNat 0))))]) (a).toNat 0) (List.getD (V++[(outF (invP (inF (V.getD a.toNat 0))))]) ((wrap .i64 ((((V.length+1):Nat):Int)-1))).toNat 0))]).length+1) 4),.sl (.fr J),(.bool wr)])] 3440 [] []) .normal (alR_k) (alB_k):=fun hs hK=>
 run_at2 (unroll:=false) (n:=178) (path:=[false,false,false,false,false,false,false,true]) (o:=⟨_,_,_,_,_,_,_⟩) rC_ok (by kernel_rfl) (by kernel_rfl) ho hs hK
theorem al11x (ho:AllP [(((11:Int)==1)=false),(((11:Int)==3)=false),(((11:Int)==4)=false),(((11:Int)==5)=false),(((11:Int)==6)=false),(((11:Int)==7)=false),(((11:Int)==8)=false),(((11:Int)==9)=false),(((11:Int)==10)=false),(((11:Int)==11)=true),(((G.length+1)*184)≤140737488355328),((G.length+1)≤maxLen),(G.length=G.length),(1=1),(0≤a),(a<(V.length:Int)),(0=0),((a).toNat<V.length),(0≤b),(b<(V.length:Int)),(0=0),((b).toNat<V.length),((ite (false=true) (decide ((V.getD a.toNat 0)=(V.getD b.toNat 0))) (Bool.not (decide ((V.getD a.toNat 0)=(V.getD b.toNat 0)))))=true)]):Sg Try.prog (rvO l G V J wr ms i 11 a b c m k ks vs) (mkSt 56 [8,9,10,21,22,23] [.pt 112 0,.ii ms,.ii i,(.ci (.sl (.op l))),(.ii (l.length:Int)),.ii i] [32,64,112] [(eQ (.gate (G++[(GateD.mk 0 oneU mO 0 0 a b (-1))]))),(eQ (.fr V)),(eF [(.slc 32 0 (G.length+1) 23),(.slc 64 0 V.length 4),.sl (.fr J),(.lit true)])] 1568 [] []) .normal (alR_k) (alB_k):=fun hs hK=>
 run_at2 (unroll:=false) (n:=98) (path:=[false,false,false,false,false,false,false,false,false,true,true]) (o:=⟨_,_,_,_,_,_,_⟩) rC_ok (by kernel_rfl) (by kernel_rfl) ho hs hK
theorem al11y (ho:AllP [(((11:Int)==1)=false),(((11:Int)==3)=false),(((11:Int)==4)=false),(((11:Int)==5)=false),(((11:Int)==6)=false),(((11:Int)==7)=false),(((11:Int)==8)=false),(((11:Int)==9)=false),(((11:Int)==10)=false),(((11:Int)==11)=true),(((G.length+1)*184)≤140737488355328),((G.length+1)≤maxLen),(G.length=G.length),(1=1),(0≤a),(a<(V.length:Int)),(0=0),((a).toNat<V.length),(0≤b),(b<(V.length:Int)),(0=0),((b).toNat<V.length),((ite (false=true) (decide ((V.getD a.toNat 0)=(V.getD b.toNat 0))) (Bool.not (decide ((V.getD a.toNat 0)=(V.getD b.toNat 0)))))=false)]):Sg Try.prog (rvO l G V J wr ms i 11 a b c m k ks vs) (mkSt 56 [8,9,10,21,22,23] [.pt 112 0,.ii ms,.ii i,(.ci (.sl (.op l))),(.ii (l.length:Int)),.ii i] [32,64,112] [(eQ (.gate (G++[(GateD.mk 0 oneU mO 0 0 a b (-1))]))),(eQ (.fr V)),(eF [(.slc 32 0 (G.length+1) 23),(.slc 64 0 V.length 4),.sl (.fr J),(.bool wr)])] 1504 [] []) .normal (alR_k) (alB_k):=fun hs hK=>
 run_at2 (unroll:=false) (n:=93) (path:=[false,false,false,false,false,false,false,false,false,true,false]) (o:=⟨_,_,_,_,_,_,_⟩) rC_ok (by kernel_rfl) (by kernel_rfl) ho hs hK
end
end
end

section
section
variable {w0:World} {F0:Nat→Prop} {K:Kp} {ac:List Act} {Q:Exit→Act→World→Prop} {cX:Ctx} {aX:Act}

--@env rC rC_ok
def al6a_k:List KI:=(run rC false 3000 ((fun (l:List OpD) (G:List GateD) (V J:List U4) (wr:Bool) (ms i:Int) (a b c m:Int) (k:U4) (ks:List U4) (vs:List Int)=>(⟨alB_k,.normal,rvO l G V J wr ms i 6 a b c m k ks vs⟩:Cfg)) default default default default default default default default default default default default default default) [false,false,false,false,true,false]).cfg.k
theorem al6a (l:List OpD) (G:List GateD) (V J:List U4) (wr:Bool) (ms i:Int) (a b c m:Int) (k:U4) (ks:List U4) (vs:List Int) (ho:AllP [(((6:Int)==1)=false),(((6:Int)==3)=false),(((6:Int)==4)=false),(((6:Int)==5)=false),(((6:Int)==6)=true),(0≤(0:Int)),(0<(ks.length:Int)),(((vs.length:Int) == (1:Int))=false),(0≤(0:Int)),(0<(vs.length:Int)),(0≤(1:Int)),((1:Int)<(ks.length:Int)),(0≤(1:Int)),((1:Int)<(vs.length:Int)),(0≤(vs.getD 0 0)),((vs.getD 0 0)<(V.length:Int)),(0=0),(((vs.getD 0 0)).toNat<V.length),((Fin.val (List.getD V ((vs.getD 0 0)).toNat 0))<rN),(0≤(vs.getD 1 0)),((vs.getD 1 0)<(V.length:Int)),(0=0),(((vs.getD 1 0)).toNat<V.length),((Fin.val (List.getD V ((vs.getD 1 0)).toNat 0))<rN),(((V.length+1)*32)≤140737488355328),((V.length+1)≤maxLen),(V.length=V.length),(1=1),(((G.length+1)*184)≤140737488355328),((G.length+1)≤maxLen),(G.length=G.length),(1=1)]):Sg Try.prog (rvO l G V J wr ms i 6 a b c m k ks vs) (mkSt 87 [0,3,6,7] [.pt 112 0,.pt 800 0,(.ii (wrap .i64 ((((V.length+1):Nat):Int)-1))),.ii (2:Int)] [32,64,112,800] [(eQ (.gate (G++[(GateD.mk 0 (cleanU (ks.getD 0 0)) (cleanU (ks.getD 1 0)) mO (0:U4) (vs.getD 0 0) (vs.getD 1 0) (wrap .i64 ((((V.length+1):Nat):Int)-1)))]))),(eQ (.fr (V++[(cleanU ((mulU (cleanU (ks.getD 0 0)) (List.getD V ((vs.getD 0 0)).toNat 0))+(mulU (cleanU (ks.getD 1 0)) (List.getD V ((vs.getD 1 0)).toNat 0))))]))),(eF [(.slc 32 0 (G.length+1) 23),(.slc 64 0 (V.length+1) 4),.sl (.fr J),(.bool wr)]),(eF [(.int .i64 (6:Int)),(.int .i64 a),(.int .i64 b),(.int .i64 c),(.int .i64 m),.ob (.fr k),.sl (.fr ks),.sl (.int vs)])] 2416 [[],[8,9,10,21,22,23]] [([],138),([.pt 112 0,.ii ms,.ii i,(.ci (.sl (.op l))),(.ii (l.length:Int)),.ii i],56)]) .normal (al6a_k) (alB_k):=fun hs hK=>
 run_at2 (unroll:=false) (n:=3000) (path:=[false,false,false,false,true,false]) (o:=⟨_,_,_,_,_,_,_⟩) rC_ok (by kernel_rfl) (by kernel_rfl) ho hs hK
def r6S (l:List OpD) (G:List GateD) (V J:List U4) (wr:Bool) (ms i:Int) (a b c m:Int) (k:U4) (ks:List U4) (vs:List Int) (v j:Int):St:=mkSt 87 [0,3,6,7] [.pt 112 0,.pt 800 0,.v (.c (.int .i64 v)),.v (.c (.int .i64 j))] [32,64,112,800] [some (.sq (.gate G)),some (.sq (.fr V)),some (.fl [.slc 32 0 G.length 23,.slc 64 0 V.length 4,.sl (.fr J),.bool wr]),(eF [(.int .i64 (6:Int)),(.int .i64 a),(.int .i64 b),(.int .i64 c),(.int .i64 m),.ob (.fr k),.sl (.fr ks),.sl (.int vs)])] 2416 [[],[8,9,10,21,22,23]] [([],138),([.pt 112 0,.ii ms,.ii i,(.ci (.sl (.op l))),(.ii (l.length:Int)),.ii i],56)]
section
variable (l:List OpD) (G:List GateD) (V J:List U4) (wr:Bool) (ms i:Int) (a b c m:Int) (k:U4) (ks:List U4) (vs:List Int) (v j:Int)
theorem al6n (ho:AllP [((decide (j<(vs.length:Int)))=true),(0≤j),(j<(ks.length:Int)),(0≤j),(j<(vs.length:Int)),(0≤v),(v<(V.length:Int)),(0=0),((v).toNat<V.length),((Fin.val (V.getD v.toNat 0))<rN),(0≤(vs.getD j.toNat 0)),((vs.getD j.toNat 0)<(V.length:Int)),(0=0),(((vs.getD j.toNat 0)).toNat<V.length),((Fin.val (List.getD V ((vs.getD j.toNat 0)).toNat 0))<rN),(((V.length+1)*32)≤140737488355328),((V.length+1)≤maxLen),(V.length=V.length),(1=1),(((G.length+1)*184)≤140737488355328),((G.length+1)≤maxLen),(G.length=G.length),(1=1)]):Sg Try.prog (r6S l G V J wr ms i a b c m k ks vs v j) (mkSt 87 [0,3,6,7] [.pt 112 0,.pt 800 0,(.ii (wrap .i64 ((((V.length+1):Nat):Int)-1))),(.ii (wrap .i64 (j+1)))] [32,64,112,800] [(eQ (.gate (G++[(GateD.mk 0 oneU (cleanU (ks.getD j.toNat 0)) mO (0:U4) v (vs.getD j.toNat 0) (wrap .i64 ((((V.length+1):Nat):Int)-1)))]))),(eQ (.fr (V++[(cleanU ((mulU oneU (V.getD v.toNat 0))+(mulU (cleanU (ks.getD j.toNat 0)) (List.getD V ((vs.getD j.toNat 0)).toNat 0))))]))),(eF [(.slc 32 0 (G.length+1) 23),(.slc 64 0 (V.length+1) 4),.sl (.fr J),(.bool wr)]),(eF [(.int .i64 (6:Int)),(.int .i64 a),(.int .i64 b),(.int .i64 c),(.int .i64 m),.ob (.fr k),.sl (.fr ks),.sl (.int vs)])] 3936 [[],[8,9,10,21,22,23]] [([],138),([.pt 112 0,.ii ms,.ii i,(.ci (.sl (.op l))),(.ii (l.length:Int)),.ii i],56)]) .normal (lpBk al6a_k) (lpIn al6a_k):=fun hs hK=>
 run_at2 (unroll:=false) (n:=3000) (path:=[true]) (o:=⟨_,_,_,_,_,_,_⟩) rC_ok (by kernel_rfl) (by kernel_rfl) ho hs hK
theorem al6x (ho:AllP [((decide (j<(vs.length:Int)))=false)]):Sg Try.prog (r6S l G V J wr ms i a b c m k ks vs v j) (mkSt 56 [8,9,10,21,22,23] [.pt 112 0,.ii ms,.ii i,(.ci (.sl (.op l))),(.ii (l.length:Int)),.ii i] [32,64,112] [(eQ (.gate G)),(eQ (.fr V)),(eF [(.slc 32 0 G.length 23),(.slc 64 0 V.length 4),.sl (.fr J),(.bool wr)])] 2496 [] []) .normal (alR_k) (lpIn al6a_k):=fun hs hK=>
 run_at2 (unroll:=false) (n:=19) (path:=[false]) (o:=⟨_,_,_,_,_,_,_⟩) rC_ok (by kernel_rfl) (by kernel_rfl) ho hs hK
def al10a_k:List KI:=(run rC false 3000 ((fun (l:List OpD) (G:List GateD) (V J:List U4) (wr:Bool) (ms i:Int) (a b c m:Int) (k:U4) (ks:List U4) (vs:List Int)=>(⟨alB_k,.normal,rvO l G V J wr ms i 10 a b c m k ks vs⟩:Cfg)) default default default default default default default default default default default default default default) [false,false,false,false,false,false,false,false,true]).cfg.k
end
theorem al10a (l:List OpD) (G:List GateD) (V J:List U4) (wr:Bool) (ms i:Int) (a b c m:Int) (k:U4) (ks:List U4) (vs:List Int) (ho:AllP [(((10:Int)==1)=false),(((10:Int)==3)=false),(((10:Int)==4)=false),(((10:Int)==5)=false),(((10:Int)==6)=false),(((10:Int)==7)=false),(((10:Int)==8)=false),(((10:Int)==9)=false),(((10:Int)==10)=true)]):Sg Try.prog (rvO l G V J wr ms i 10 a b c m k ks vs) (mkSt 68 [0,1,2,6,7] [.pt 112 0,.ii a,.ii m,(.ii (V.length:Int)),.ii (0:Int)] [32,64,112] [(eQ (.gate G)),(eQ (.fr V)),(eF [(.slc 32 0 G.length 23),(.slc 64 0 V.length 4),.sl (.fr J),(.bool wr)])] 1088 [[],[8,9,10,21,22,23]] [([],138),([.pt 112 0,.ii ms,.ii i,(.ci (.sl (.op l))),(.ii (l.length:Int)),.ii i],56)]) .normal (al10a_k) (alB_k):=fun hs hK=>
 run_at2 (unroll:=false) (n:=3000) (path:=[false,false,false,false,false,false,false,false,true]) (o:=⟨_,_,_,_,_,_,_⟩) rC_ok (by kernel_rfl) (by kernel_rfl) ho hs hK
def r10S (l:List OpD) (G:List GateD) (V J:List U4) (wr:Bool) (ms i:Int) (a b c m:Int) (k:U4) (ks:List U4) (vs:List Int) (f j:Int):St:=mkSt 68 [0,1,2,6,7] [.pt 112 0,.ii a,.ii m,.v (.c (.int .i64 f)),.v (.c (.int .i64 j))] [32,64,112] [some (.sq (.gate G)),some (.sq (.fr V)),some (.fl [.slc 32 0 G.length 23,.slc 64 0 V.length 4,.sl (.fr J),.bool wr])] 1088 [[],[8,9,10,21,22,23]] [([],138),([.pt 112 0,.ii ms,.ii i,(.ci (.sl (.op l))),(.ii (l.length:Int)),.ii i],56)]
section
variable (l:List OpD) (G:List GateD) (V J:List U4) (wr:Bool) (ms i:Int) (a b c m:Int) (k:U4) (ks:List U4) (vs:List Int) (f j:Int)
theorem al10n (ho:AllP [((decide (j<m))=true),(0≤a),(a<(V.length:Int)),(0=0),((a).toNat<V.length),(0≤j),(j<(256:Int)),(0≤(bitV (V.getD a.toNat 0) (j).toNat)),((bitV (V.getD a.toNat 0) (j).toNat)<(18446744073709551616:Int)),(0≤(0:Int)),(0<(18446744073709551616:Int)),(0≤(0:Int)),(0<(18446744073709551616:Int)),(0≤(0:Int)),(0<(18446744073709551616:Int)),(((V.length+1)*32)≤140737488355328),((V.length+1)≤maxLen),(V.length=V.length),(1=1)]):Sg Try.prog (r10S l G V J wr ms i a b c m k ks vs f j) (mkSt 68 [0,1,2,6,7] [.pt 112 0,.ii a,.ii m,.ii f,(.ii (wrap .i64 (j+1)))] [32,64,112] [(eQ (.gate G)),(eQ (.fr (V++[(Fin.ofNat B4 (((bitV (V.getD a.toNat 0) (j).toNat)).toNat+0))]))),(eF [(.slc 32 0 G.length 23),(.slc 64 0 (V.length+1) 4),.sl (.fr J),(.bool wr)])] 1712 [[],[8,9,10,21,22,23]] [([],138),([.pt 112 0,.ii ms,.ii i,(.ci (.sl (.op l))),(.ii (l.length:Int)),.ii i],56)]) .normal (lpBk al10a_k) (lpIn al10a_k):=fun hs hK=>
 run_at2 (unroll:=false) (n:=3000) (path:=[true]) (o:=⟨_,_,_,_,_,_,_⟩) rC_ok (by kernel_rfl) (by kernel_rfl) ho hs hK
def al10b_k:List KI:=(run rC false 3000 ((fun (l:List OpD) (G:List GateD) (V J:List U4) (wr:Bool) (ms i:Int) (a b c m:Int) (k:U4) (ks:List U4) (vs:List Int) (f j:Int)=>(⟨lpIn al10a_k,.normal,r10S l G V J wr ms i a b c m k ks vs f j⟩:Cfg)) default default default default default default default default default default default default default default default default) [false]).cfg.k
theorem al10b (ho:AllP [((decide (j<m))=false)]):Sg Try.prog (r10S l G V J wr ms i a b c m k ks vs f j) (mkSt 68 [0,1,2,6,9] [.pt 112 0,.ii a,.ii m,.ii f,.ii (0:Int)] [32,64,112] [(eQ (.gate G)),(eQ (.fr V)),(eF [(.slc 32 0 G.length 23),(.slc 64 0 V.length 4),.sl (.fr J),(.bool wr)])] 1152 [[],[8,9,10,21,22,23]] [([],138),([.pt 112 0,.ii ms,.ii i,(.ci (.sl (.op l))),(.ii (l.length:Int)),.ii i],56)]) .normal (al10b_k) (lpIn al10a_k):=fun hs hK=>
 run_at2 (unroll:=false) (n:=3000) (path:=[false]) (o:=⟨_,_,_,_,_,_,_⟩) rC_ok (by kernel_rfl) (by kernel_rfl) ho hs hK
def r10T (l:List OpD) (G:List GateD) (V J:List U4) (wr:Bool) (ms i:Int) (a b c m:Int) (k:U4) (ks:List U4) (vs:List Int) (f j:Int):St:=mkSt 68 [0,1,2,6,9] [.pt 112 0,.ii a,.ii m,.ii f,.v (.c (.int .i64 j))] [32,64,112] [some (.sq (.gate G)),some (.sq (.fr V)),some (.fl [.slc 32 0 G.length 23,.slc 64 0 V.length 4,.sl (.fr J),.bool wr])] 1152 [[],[8,9,10,21,22,23]] [([],138),([.pt 112 0,.ii ms,.ii i,(.ci (.sl (.op l))),(.ii (l.length:Int)),.ii i],56)]
theorem al10mx (ho:AllP [((decide (j<m))=true),(((G.length+1)*184)≤140737488355328),((G.length+1)≤maxLen),(G.length=G.length),(1=1),(0≤(wrap .i64 (f+j))),((wrap .i64 (f+j))<(V.length:Int)),(0=0),(((wrap .i64 (f+j))).toNat<V.length),((ite (false=true) (decide ((List.getD V ((wrap .i64 (f+j))).toNat 0)=oneU)) (Bool.not (decide ((List.getD V ((wrap .i64 (f+j))).toNat 0)=oneU))))=false)]):Sg Try.prog (r10T l G V J wr ms i a b c m k ks vs f j) (mkSt 68 [0,1,2,6,9] [.pt 112 0,.ii a,.ii m,.ii f,(.ii (wrap .i64 (j+1)))] [32,64,112] [(eQ (.gate (G++[(GateD.mk oneU mO 0 0 0 (wrap .i64 (f+j)) (wrap .i64 (f+j)) (-1))]))),(eQ (.fr V)),(eF [(.slc 32 0 (G.length+1) 23),(.slc 64 0 V.length 4),.sl (.fr J),(.bool wr)])] 1888 [[],[8,9,10,21,22,23]] [([],138),([.pt 112 0,.ii ms,.ii i,(.ci (.sl (.op l))),(.ii (l.length:Int)),.ii i],56)]) .normal (lpBk al10b_k) (lpIn al10b_k):=fun hs hK=>
 run_at2 (unroll:=false) (n:=3000) (path:=[true,false]) (o:=⟨_,_,_,_,_,_,_⟩) rC_ok (by kernel_rfl) (by kernel_rfl) ho hs hK
theorem al10mz (ho:AllP [((decide (j<m))=true),(((G.length+1)*184)≤140737488355328),((G.length+1)≤maxLen),(G.length=G.length),(1=1),(0≤(wrap .i64 (f+j))),((wrap .i64 (f+j))<(V.length:Int)),(0=0),(((wrap .i64 (f+j))).toNat<V.length),((ite (false=true) (decide ((List.getD V ((wrap .i64 (f+j))).toNat 0)=oneU)) (Bool.not (decide ((List.getD V ((wrap .i64 (f+j))).toNat 0)=oneU))))=true),(0≤(wrap .i64 (f+j))),((wrap .i64 (f+j))<(V.length:Int)),(0=0),(((wrap .i64 (f+j))).toNat<V.length),((ite (false=true) (decide ((List.getD V ((wrap .i64 (f+j))).toNat 0)=(0:U4))) (Bool.not (decide ((List.getD V ((wrap .i64 (f+j))).toNat 0)=(0:U4)))))=false)]):Sg Try.prog (r10T l G V J wr ms i a b c m k ks vs f j) (mkSt 68 [0,1,2,6,9] [.pt 112 0,.ii a,.ii m,.ii f,(.ii (wrap .i64 (j+1)))] [32,64,112] [(eQ (.gate (G++[(GateD.mk oneU mO 0 0 0 (wrap .i64 (f+j)) (wrap .i64 (f+j)) (-1))]))),(eQ (.fr V)),(eF [(.slc 32 0 (G.length+1) 23),(.slc 64 0 V.length 4),.sl (.fr J),(.bool wr)])] 1888 [[],[8,9,10,21,22,23]] [([],138),([.pt 112 0,.ii ms,.ii i,(.ci (.sl (.op l))),(.ii (l.length:Int)),.ii i],56)]) .normal (lpBk al10b_k) (lpIn al10b_k):=fun hs hK=>
 run_at2 (unroll:=false) (n:=3000) (path:=[true,true,false]) (o:=⟨_,_,_,_,_,_,_⟩) rC_ok (by kernel_rfl) (by kernel_rfl) ho hs hK
def al10c_k:List KI:=(run rC false 3000 ((fun (l:List OpD) (G:List GateD) (V J:List U4) (wr:Bool) (ms i:Int) (a b c m:Int) (k:U4) (ks:List U4) (vs:List Int) (f j:Int)=>(⟨lpIn al10b_k,.normal,r10T l G V J wr ms i a b c m k ks vs f j⟩:Cfg)) default default default default default default default default default default default default default default default default) [false]).cfg.k
theorem al10c (ho:AllP [((decide (j<m))=false)]):Sg Try.prog (r10T l G V J wr ms i a b c m k ks vs f j) (mkSt 68 [0,1,2,6,10,11,12] [.pt 112 0,.ii a,.ii m,.ii f,.ii f,.pt 1248 0,.ii (1:Int)] [32,64,112,1248] [(eQ (.gate G)),(eQ (.fr V)),(eF [(.slc 32 0 G.length 23),(.slc 64 0 V.length 4),.sl (.fr J),(.bool wr)]),(eF [.ob (.fr oneU)])] 1296 [[],[8,9,10,21,22,23]] [([],138),([.pt 112 0,.ii ms,.ii i,(.ci (.sl (.op l))),(.ii (l.length:Int)),.ii i],56)]) .normal (al10c_k) (lpIn al10b_k):=fun hs hK=>
 run_at2 (unroll:=false) (n:=3000) (path:=[false]) (o:=⟨_,_,_,_,_,_,_⟩) rC_ok (by kernel_rfl) (by kernel_rfl) ho hs hK
def r10U (l:List OpD) (G:List GateD) (V J:List U4) (wr:Bool) (ms i:Int) (a b c m:Int) (k:U4) (ks:List U4) (vs:List Int) (f j v:Int) (pw:U4):St:=mkSt 68 [0,1,2,6,10,11,12] [.pt 112 0,.ii a,.ii m,.ii f,.v (.c (.int .i64 v)),.pt 1248 0,.v (.c (.int .i64 j))] [32,64,112,1248] [some (.sq (.gate G)),some (.sq (.fr V)),some (.fl [.slc 32 0 G.length 23,.slc 64 0 V.length 4,.sl (.fr J),.bool wr]),some (.fl [.ob (.fr pw)])] 1296 [[],[8,9,10,21,22,23]] [([],138),([.pt 112 0,.ii ms,.ii i,(.ci (.sl (.op l))),(.ii (l.length:Int)),.ii i],56)]
end
section
variable (l:List OpD) (G:List GateD) (V J:List U4) (wr:Bool) (ms i:Int) (a b c m:Int) (k:U4) (ks:List U4) (vs:List Int) (f j v:Int) (pw:U4)
theorem al10o (ho:AllP [((decide (j<m))=true),(0≤v),(v<(V.length:Int)),(0=0),((v).toNat<V.length),((Fin.val (V.getD v.toNat 0))<rN),(0≤(wrap .i64 (f+j))),((wrap .i64 (f+j))<(V.length:Int)),(0=0),(((wrap .i64 (f+j))).toNat<V.length),((Fin.val (List.getD V ((wrap .i64 (f+j))).toNat 0))<rN),(((V.length+1)*32)≤140737488355328),((V.length+1)≤maxLen),(V.length=V.length),(1=1),(((G.length+1)*184)≤140737488355328),((G.length+1)≤maxLen),(G.length=G.length),(1=1)]):Sg Try.prog (r10U l G V J wr ms i a b c m k ks vs f j v pw) (mkSt 68 [0,1,2,6,10,11,12] [.pt 112 0,.ii a,.ii m,.ii f,(.ii (wrap .i64 ((((V.length+1):Nat):Int)-1))),.pt 1248 0,(.ii (wrap .i64 (j+1)))] [32,64,112,1248] [(eQ (.gate (G++[(GateD.mk 0 oneU (cleanU (pw+pw)) mO (0:U4) v (wrap .i64 (f+j)) (wrap .i64 ((((V.length+1):Nat):Int)-1)))]))),(eQ (.fr (V++[(cleanU ((mulU oneU (V.getD v.toNat 0))+(mulU (cleanU (pw+pw)) (List.getD V ((wrap .i64 (f+j))).toNat 0))))]))),(eF [(.slc 32 0 (G.length+1) 23),(.slc 64 0 (V.length+1) 4),.sl (.fr J),(.bool wr)]),(eF [(.ob (.fr (cleanU (pw+pw))))])] 2736 [[],[8,9,10,21,22,23]] [([],138),([.pt 112 0,.ii ms,.ii i,(.ci (.sl (.op l))),(.ii (l.length:Int)),.ii i],56)]) .normal (lpBk al10c_k) (lpIn al10c_k):=fun hs hK=>
 run_at2 (unroll:=false) (n:=3000) (path:=[true]) (o:=⟨_,_,_,_,_,_,_⟩) rC_ok (by kernel_rfl) (by kernel_rfl) ho hs hK
theorem al10x (ho:AllP [((decide (j<m))=false),(((G.length+1)*184)≤140737488355328),((G.length+1)≤maxLen),(G.length=G.length),(1=1),(0≤v),(v<(V.length:Int)),(0=0),((v).toNat<V.length),(0≤a),(a<(V.length:Int)),(0=0),((a).toNat<V.length),((ite (false=true) (decide ((V.getD v.toNat 0)=(V.getD a.toNat 0))) (Bool.not (decide ((V.getD v.toNat 0)=(V.getD a.toNat 0)))))=true)]):Sg Try.prog (r10U l G V J wr ms i a b c m k ks vs f j v pw) (mkSt 56 [8,9,10,21,22,23] [.pt 112 0,.ii ms,.ii i,(.ci (.sl (.op l))),(.ii (l.length:Int)),.ii i] [32,64,112] [(eQ (.gate (G++[(GateD.mk 0 oneU mO 0 0 v a (-1))]))),(eQ (.fr V)),(eF [(.slc 32 0 (G.length+1) 23),(.slc 64 0 V.length 4),.sl (.fr J),(.lit true)])] 1952 [] []) .normal (alR_k) (lpIn al10c_k):=fun hs hK=>
 run_at2 (unroll:=false) (n:=35) (path:=[false,true]) (o:=⟨_,_,_,_,_,_,_⟩) rC_ok (by kernel_rfl) (by kernel_rfl) ho hs hK
theorem al10y (ho:AllP [((decide (j<m))=false),(((G.length+1)*184)≤140737488355328),((G.length+1)≤maxLen),(G.length=G.length),(1=1),(0≤v),(v<(V.length:Int)),(0=0),((v).toNat<V.length),(0≤a),(a<(V.length:Int)),(0=0),((a).toNat<V.length),((ite (false=true) (decide ((V.getD v.toNat 0)=(V.getD a.toNat 0))) (Bool.not (decide ((V.getD v.toNat 0)=(V.getD a.toNat 0)))))=false)]):Sg Try.prog (r10U l G V J wr ms i a b c m k ks vs f j v pw) (mkSt 56 [8,9,10,21,22,23] [.pt 112 0,.ii ms,.ii i,(.ci (.sl (.op l))),(.ii (l.length:Int)),.ii i] [32,64,112] [(eQ (.gate (G++[(GateD.mk 0 oneU mO 0 0 v a (-1))]))),(eQ (.fr V)),(eF [(.slc 32 0 (G.length+1) 23),(.slc 64 0 V.length 4),.sl (.fr J),(.bool wr)])] 1888 [] []) .normal (alR_k) (lpIn al10c_k):=fun hs hK=>
 run_at2 (unroll:=false) (n:=30) (path:=[false,false]) (o:=⟨_,_,_,_,_,_,_⟩) rC_ok (by kernel_rfl) (by kernel_rfl) ho hs hK
def rvT (l:List OpD) (G:List GateD) (V J:List U4) (wr:Bool) (ms i:Int):St:=mkSt 56 [8,9,10,21,22,23] [.v (.c (.ptr 112 0)),.v (.c (.int .i64 ms)),.v (.c (.int .i64 i)),.v (.c (.sl (.op l))),.v (.c (.int .i64 (l.length:Int))),.v (.c (.int .i64 i))] [32,64,112] [some (.sq (.gate G)),some (.sq (.fr V)),some (.fl [.slc 32 0 G.length 23,.slc 64 0 V.length 4,.sl (.fr J),.bool wr])] 928 [] []
end
section
variable (l:List OpD) (G:List GateD) (V J:List U4) (wr:Bool) (ms i:Int)
theorem alTa (ho:AllP [(wr=true),((decide (ms<(0:Int)))=true)]):Sg Try.prog (rvT l G V J wr ms i) (mkSt 56 [8,9,21,22,23] [.pt 112 0,.ii i,(.ci (.sl (.op l))),(.ii (l.length:Int)),(.ii (wrap .i64 (i+1)))] [32,64,112] [(eQ (.gate G)),(eQ (.fr V)),(eF [(.slc 32 0 G.length 23),(.slc 64 0 V.length 4),.sl (.fr J),(.bool wr)])] 1120 [] []) .normal (lpBk alA_k) (alR_k):=fun hs hK=>
 run_at2 (unroll:=false) (n:=3000) (path:=[true,true]) (o:=⟨_,_,_,_,_,_,_⟩) rC_ok (by kernel_rfl) (by kernel_rfl) ho hs hK
theorem alTb (ho:AllP [(wr=true),((decide (ms<(0:Int)))=false)]):Sg Try.prog (rvT l G V J wr ms i) (mkSt 56 [8,9,21,22,23] [.pt 112 0,.ii ms,(.ci (.sl (.op l))),(.ii (l.length:Int)),(.ii (wrap .i64 (i+1)))] [32,64,112] [(eQ (.gate G)),(eQ (.fr V)),(eF [(.slc 32 0 G.length 23),(.slc 64 0 V.length 4),.sl (.fr J),(.bool wr)])] 1088 [] []) .normal (lpBk alA_k) (alR_k):=fun hs hK=>
 run_at2 (unroll:=false) (n:=3000) (path:=[true,false]) (o:=⟨_,_,_,_,_,_,_⟩) rC_ok (by kernel_rfl) (by kernel_rfl) ho hs hK
theorem alTc (ho:AllP [(wr=false)]):Sg Try.prog (rvT l G V J wr ms i) (mkSt 56 [8,9,21,22,23] [.pt 112 0,.ii ms,(.ci (.sl (.op l))),(.ii (l.length:Int)),(.ii (wrap .i64 (i+1)))] [32,64,112] [(eQ (.gate G)),(eQ (.fr V)),(eF [(.slc 32 0 G.length 23),(.slc 64 0 V.length 4),.sl (.fr J),(.bool wr)])] 1088 [] []) .normal (lpBk alA_k) (alR_k):=fun hs hK=>
 run_at2 (unroll:=false) (n:=3000) (path:=[false]) (o:=⟨_,_,_,_,_,_,_⟩) rC_ok (by kernel_rfl) (by kernel_rfl) ho hs hK
end
end
end

end
end Go.Proofs.Ytobdghmmbddfnaa
