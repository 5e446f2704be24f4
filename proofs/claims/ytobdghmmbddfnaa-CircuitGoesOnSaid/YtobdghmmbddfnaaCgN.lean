/- Parts of a proof, one behind the other: PQh, PQi, PQj, PQk, PQl, PRf, WRg, PRg, PSm, WRh, PRh, WHb, WRi, WHc, PHc. No conditions. -/
import Derived.Test.YtobdghmmbddfnaaCgM
open Go.IntKind (wrap)
namespace Go.Proofs.Ytobdghmmbddfnaa
noncomputable section
set_option linter.unusedSimpArgs false
set_option linter.unusedVariables false
section

section
variable {l:List OpD} {T G:List GateD} {n i a b c m:Int} {k:U4} {ks:List U4} {vs:List Int} {w0:World} {F0:Nat→Prop} {K:Kp} {ac:List Act} {Q:Exit→Act→World→Prop} {cX:Ctx} {aX:Act}

theorem cpT1 (h1:0≤n) (h2:n≤600000) (h3:0≤i) (h4:i≤1000) (h5:G.length≤4097) (h6:T.length≤1000) (hs:Sim w0 F0 K ac (cO l T G n i 1 a b c m k ks vs) cX aX)
  (hK:∀ac cY aY,Sim w0 F0 K ac (cS l T (pushGs G (gatesOf n 1 a b c m k ks vs)) (n+nvOf 1 m vs) (i+1)) cY aY→Wq Try.prog Q (lpBk cpA_k) ac .normal aY cY.w):Wq Try.prog Q cpB_k ac .normal aX cX.w:=by
 have wi:wrap IntKind.i64 (i+1)=i+1:=wrap_id (by omega) (by omega)
 have w1:wrap IntKind.i64 (n+1)=n+1:=wrap_id (by omega) (by omega)
 have w2:wrap IntKind.i64 (n+1-1)=n:=by rw[wrap_id (by omega) (by omega)];omega
 refine cp1 l T G n i a b c m k ks vs (by simp only[AllP,maxLen,decide_eq_true_eq,decide_eq_false_iff_not,List.length_append,List.length_cons,List.length_nil,beq_iff_eq,bne_iff_ne,bne_eq_false_iff_eq,beq_eq_false_iff_ne,Int.toNat_natCast];and_intros<;>first | rfl | exact True.intro | omega) hs fun ac cU aU hs2=>hK _ _ _ ?_
 rw[w1,wi] at hs2
 exact hs2.nx _

theorem cpT3 (h1:0≤n) (h2:n≤600000) (h3:0≤i) (h4:i≤1000) (h5:G.length≤4097) (h6:T.length≤1000) (hs:Sim w0 F0 K ac (cO l T G n i 3 a b c m k ks vs) cX aX)
  (hK:∀ac cY aY,Sim w0 F0 K ac (cS l T (pushGs G (gatesOf n 3 a b c m k ks vs)) (n+nvOf 3 m vs) (i+1)) cY aY→Wq Try.prog Q (lpBk cpA_k) ac .normal aY cY.w):Wq Try.prog Q cpB_k ac .normal aX cX.w:=by
 have wi:wrap IntKind.i64 (i+1)=i+1:=wrap_id (by omega) (by omega)
 have w1:wrap IntKind.i64 (n+1)=n+1:=wrap_id (by omega) (by omega)
 have w2:wrap IntKind.i64 (n+1-1)=n:=by rw[wrap_id (by omega) (by omega)];omega
 by_cases hg:G.length≤4096
 ·have e:pushGs G (gatesOf n 3 a b c m k ks vs)=G++[constG k n]:=(push1 hg).symm
  have e2:(G++[constG k n]).length=G.length+1:=by simp
  refine cp3 l T G n i a b c m k ks vs (by simp only[AllP,maxLen,decide_eq_true_eq,decide_eq_false_iff_not,List.length_append,List.length_cons,List.length_nil,beq_iff_eq,bne_iff_ne,bne_eq_false_iff_eq,beq_eq_false_iff_ne,Int.toNat_natCast];and_intros<;>first | rfl | exact True.intro | omega) hs fun ac cU aU hs2=>hK _ _ _ ?_
  rw[w1,w2,wi] at hs2
  rw[e]
  unfold cS
  rw[e2]
  exact hs2.nx _
 ·have e:pushGs G (gatesOf n 3 a b c m k ks vs)=G:=(push0 hg).symm
  refine cp3z l T G n i a b c m k ks vs (by simp only[AllP,maxLen,decide_eq_true_eq,decide_eq_false_iff_not,List.length_append,List.length_cons,List.length_nil,beq_iff_eq,bne_iff_ne,bne_eq_false_iff_eq,beq_eq_false_iff_ne,Int.toNat_natCast];and_intros<;>first | rfl | exact True.intro | omega) hs fun ac cU aU hs2=>hK _ _ _ ?_
  rw[w1,wi] at hs2
  rw[e]
  exact hs2.nx _

theorem cpT4 (h1:0≤n) (h2:n≤600000) (h3:0≤i) (h4:i≤1000) (h5:G.length≤4097) (h6:T.length≤1000) (hs:Sim w0 F0 K ac (cO l T G n i 4 a b c m k ks vs) cX aX)
  (hK:∀ac cY aY,Sim w0 F0 K ac (cS l T (pushGs G (gatesOf n 4 a b c m k ks vs)) (n+nvOf 4 m vs) (i+1)) cY aY→Wq Try.prog Q (lpBk cpA_k) ac .normal aY cY.w):Wq Try.prog Q cpB_k ac .normal aX cX.w:=by
 have wi:wrap IntKind.i64 (i+1)=i+1:=wrap_id (by omega) (by omega)
 have w1:wrap IntKind.i64 (n+1)=n+1:=wrap_id (by omega) (by omega)
 have w2:wrap IntKind.i64 (n+1-1)=n:=by rw[wrap_id (by omega) (by omega)];omega
 by_cases hg:G.length≤4096
 ·have e:pushGs G (gatesOf n 4 a b c m k ks vs)=G++[sumG oneU a oneU b n]:=(push1 hg).symm
  have e2:(G++[sumG oneU a oneU b n]).length=G.length+1:=by simp
  refine cp4 l T G n i a b c m k ks vs (by simp only[AllP,maxLen,decide_eq_true_eq,decide_eq_false_iff_not,List.length_append,List.length_cons,List.length_nil,beq_iff_eq,bne_iff_ne,bne_eq_false_iff_eq,beq_eq_false_iff_ne,Int.toNat_natCast];and_intros<;>first | rfl | exact True.intro | omega) hs fun ac cU aU hs2=>hK _ _ _ ?_
  rw[w1,w2,wi] at hs2
  rw[e]
  unfold cS
  rw[e2]
  exact hs2.nx _
 ·have e:pushGs G (gatesOf n 4 a b c m k ks vs)=G:=(push0 hg).symm
  refine cp4z l T G n i a b c m k ks vs (by simp only[AllP,maxLen,decide_eq_true_eq,decide_eq_false_iff_not,List.length_append,List.length_cons,List.length_nil,beq_iff_eq,bne_iff_ne,bne_eq_false_iff_eq,beq_eq_false_iff_ne,Int.toNat_natCast];and_intros<;>first | rfl | exact True.intro | omega) hs fun ac cU aU hs2=>hK _ _ _ ?_
  rw[w1,wi] at hs2
  rw[e]
  exact hs2.nx _

theorem cpT5 (h1:0≤n) (h2:n≤600000) (h3:0≤i) (h4:i≤1000) (h5:G.length≤4097) (h6:T.length≤1000) (hs:Sim w0 F0 K ac (cO l T G n i 5 a b c m k ks vs) cX aX)
  (hK:∀ac cY aY,Sim w0 F0 K ac (cS l T (pushGs G (gatesOf n 5 a b c m k ks vs)) (n+nvOf 5 m vs) (i+1)) cY aY→Wq Try.prog Q (lpBk cpA_k) ac .normal aY cY.w):Wq Try.prog Q cpB_k ac .normal aX cX.w:=by
 have wi:wrap IntKind.i64 (i+1)=i+1:=wrap_id (by omega) (by omega)
 have w1:wrap IntKind.i64 (n+1)=n+1:=wrap_id (by omega) (by omega)
 have w2:wrap IntKind.i64 (n+1-1)=n:=by rw[wrap_id (by omega) (by omega)];omega
 by_cases hg:G.length≤4096
 ·have e:pushGs G (gatesOf n 5 a b c m k ks vs)=G++[prodG a b n]:=(push1 hg).symm
  have e2:(G++[prodG a b n]).length=G.length+1:=by simp
  refine cp5 l T G n i a b c m k ks vs (by simp only[AllP,maxLen,decide_eq_true_eq,decide_eq_false_iff_not,List.length_append,List.length_cons,List.length_nil,beq_iff_eq,bne_iff_ne,bne_eq_false_iff_eq,beq_eq_false_iff_ne,Int.toNat_natCast];and_intros<;>first | rfl | exact True.intro | omega) hs fun ac cU aU hs2=>hK _ _ _ ?_
  rw[w1,w2,wi] at hs2
  rw[e]
  unfold cS
  rw[e2]
  exact hs2.nx _
 ·have e:pushGs G (gatesOf n 5 a b c m k ks vs)=G:=(push0 hg).symm
  refine cp5z l T G n i a b c m k ks vs (by simp only[AllP,maxLen,decide_eq_true_eq,decide_eq_false_iff_not,List.length_append,List.length_cons,List.length_nil,beq_iff_eq,bne_iff_ne,bne_eq_false_iff_eq,beq_eq_false_iff_ne,Int.toNat_natCast];and_intros<;>first | rfl | exact True.intro | omega) hs fun ac cU aU hs2=>hK _ _ _ ?_
  rw[w1,wi] at hs2
  rw[e]
  exact hs2.nx _

theorem cpT7 (h1:0≤n) (h2:n≤600000) (h3:0≤i) (h4:i≤1000) (h5:G.length≤4097) (h6:T.length≤1000) (hs:Sim w0 F0 K ac (cO l T G n i 7 a b c m k ks vs) cX aX)
  (hK:∀ac cY aY,Sim w0 F0 K ac (cS l T (pushGs G (gatesOf n 7 a b c m k ks vs)) (n+nvOf 7 m vs) (i+1)) cY aY→Wq Try.prog Q (lpBk cpA_k) ac .normal aY cY.w):Wq Try.prog Q cpB_k ac .normal aX cX.w:=by
 have wi:wrap IntKind.i64 (i+1)=i+1:=wrap_id (by omega) (by omega)
 have w1:wrap IntKind.i64 (n+1)=n+1:=wrap_id (by omega) (by omega)
 have w2:wrap IntKind.i64 (n+1-1)=n:=by rw[wrap_id (by omega) (by omega)];omega
 rw[show n+nvOf 7 m vs=n from Int.add_zero n] at hK
 by_cases hg:G.length≤4096
 ·have e:pushGs G (gatesOf n 7 a b c m k ks vs)=G++[boolG a]:=(push1 hg).symm
  have e2:(G++[boolG a]).length=G.length+1:=by simp
  refine cp7 l T G n i a b c m k ks vs (by simp only[AllP,maxLen,decide_eq_true_eq,decide_eq_false_iff_not,List.length_append,List.length_cons,List.length_nil,beq_iff_eq,bne_iff_ne,bne_eq_false_iff_eq,beq_eq_false_iff_ne,Int.toNat_natCast];and_intros<;>first | rfl | exact True.intro | omega) hs fun ac cU aU hs2=>hK _ _ _ ?_
  rw[wi] at hs2
  rw[e]
  unfold cS
  rw[e2]
  exact hs2.nx _
 ·have e:pushGs G (gatesOf n 7 a b c m k ks vs)=G:=(push0 hg).symm
  refine cp7z l T G n i a b c m k ks vs (by simp only[AllP,maxLen,decide_eq_true_eq,decide_eq_false_iff_not,List.length_append,List.length_cons,List.length_nil,beq_iff_eq,bne_iff_ne,bne_eq_false_iff_eq,beq_eq_false_iff_ne,Int.toNat_natCast];and_intros<;>first | rfl | exact True.intro | omega) hs fun ac cU aU hs2=>hK _ _ _ ?_
  rw[wi] at hs2
  rw[e]
  exact hs2.nx _

theorem cpT11 (h1:0≤n) (h2:n≤600000) (h3:0≤i) (h4:i≤1000) (h5:G.length≤4097) (h6:T.length≤1000) (hs:Sim w0 F0 K ac (cO l T G n i 11 a b c m k ks vs) cX aX)
  (hK:∀ac cY aY,Sim w0 F0 K ac (cS l T (pushGs G (gatesOf n 11 a b c m k ks vs)) (n+nvOf 11 m vs) (i+1)) cY aY→Wq Try.prog Q (lpBk cpA_k) ac .normal aY cY.w):Wq Try.prog Q cpB_k ac .normal aX cX.w:=by
 have wi:wrap IntKind.i64 (i+1)=i+1:=wrap_id (by omega) (by omega)
 have w1:wrap IntKind.i64 (n+1)=n+1:=wrap_id (by omega) (by omega)
 have w2:wrap IntKind.i64 (n+1-1)=n:=by rw[wrap_id (by omega) (by omega)];omega
 rw[show n+nvOf 11 m vs=n from Int.add_zero n] at hK
 by_cases hg:G.length≤4096
 ·have e:pushGs G (gatesOf n 11 a b c m k ks vs)=G++[equalG a b]:=(push1 hg).symm
  have e2:(G++[equalG a b]).length=G.length+1:=by simp
  refine cp11 l T G n i a b c m k ks vs (by simp only[AllP,maxLen,decide_eq_true_eq,decide_eq_false_iff_not,List.length_append,List.length_cons,List.length_nil,beq_iff_eq,bne_iff_ne,bne_eq_false_iff_eq,beq_eq_false_iff_ne,Int.toNat_natCast];and_intros<;>first | rfl | exact True.intro | omega) hs fun ac cU aU hs2=>hK _ _ _ ?_
  rw[wi] at hs2
  rw[e]
  unfold cS
  rw[e2]
  exact hs2.nx _
 ·have e:pushGs G (gatesOf n 11 a b c m k ks vs)=G:=(push0 hg).symm
  refine cp11z l T G n i a b c m k ks vs (by simp only[AllP,maxLen,decide_eq_true_eq,decide_eq_false_iff_not,List.length_append,List.length_cons,List.length_nil,beq_iff_eq,bne_iff_ne,bne_eq_false_iff_eq,beq_eq_false_iff_ne,Int.toNat_natCast];and_intros<;>first | rfl | exact True.intro | omega) hs fun ac cU aU hs2=>hK _ _ _ ?_
  rw[wi] at hs2
  rw[e]
  exact hs2.nx _

theorem cpT2 (h1:0≤n) (h2:n≤600000) (h3:0≤i) (h4:i≤1000) (h5:G.length≤4097) (h6:T.length≤1000) (hs:Sim w0 F0 K ac (cO l T G n i 2 a b c m k ks vs) cX aX)
  (hK:∀ac cY aY,Sim w0 F0 K ac (cS l (T++[toldG a]) G n (i+1)) cY aY→Wq Try.prog Q (lpBk cpA_k) ac .normal aY cY.w):Wq Try.prog Q cpB_k ac .normal aX cX.w:=by
 have wi:wrap IntKind.i64 (i+1)=i+1:=wrap_id (by omega) (by omega)
 have e2:(T++[toldG a]).length=T.length+1:=by simp
 refine cp2 l T G n i a b c m k ks vs (by simp only[AllP,maxLen,decide_eq_true_eq,decide_eq_false_iff_not,List.length_append,List.length_cons,List.length_nil,beq_iff_eq,bne_iff_ne,bne_eq_false_iff_eq,beq_eq_false_iff_ne,Int.toNat_natCast];and_intros<;>first | rfl | exact True.intro | omega) hs fun ac cU aU hs2=>hK _ _ _ ?_
 rw[wi] at hs2
 unfold cS
 rw[e2]
 exact hs2.nx _

theorem cpT9 (h1:0≤n) (h2:n≤600000) (h3:0≤i) (h4:i≤1000) (h5:G.length≤4097) (h6:T.length≤1000) (hs:Sim w0 F0 K ac (cO l T G n i 9 a b c m k ks vs) cX aX)
  (hK:∀ac cY aY,Sim w0 F0 K ac (cS l T (pushGs G (gatesOf n 9 a b c m k ks vs)) (n+nvOf 9 m vs) (i+1)) cY aY→Wq Try.prog Q (lpBk cpA_k) ac .normal aY cY.w):Wq Try.prog Q cpB_k ac .normal aX cX.w:=by
 have wi:wrap IntKind.i64 (i+1)=i+1:=wrap_id (by omega) (by omega)
 have w1:wrap IntKind.i64 (n+1)=n+1:=wrap_id (by omega) (by omega)
 have w2:wrap IntKind.i64 (n+1-1)=n:=by rw[wrap_id (by omega) (by omega)];omega
 have w3:wrap IntKind.i64 (n+1+1)=n+1+1:=wrap_id (by omega) (by omega)
 have w4:wrap IntKind.i64 (n+1+1-1)=n+1:=by rw[wrap_id (by omega) (by omega)];omega
 have w5:wrap IntKind.i64 (n+1+1+1)=n+3:=by rw[wrap_id (by omega) (by omega)];omega
 have w6:wrap IntKind.i64 (n+3-1)=n+2:=by rw[wrap_id (by omega) (by omega)];omega
 have eg:gatesOf n 9 a b c m k ks vs=[prodG a n (n+1),zeroG (n+1) (n+2),zeroH a (n+2)]:=rfl
 rw[eg] at hK
 rw[show n+nvOf 9 m vs=n+3 from rfl] at hK
 by_cases c0:G.length≤4094
 ·have e:pushGs G [prodG a n (n+1),zeroG (n+1) (n+2),zeroH a (n+2)]=(((G++[prodG a n (n+1)])++[zeroG (n+1) (n+2)])++[zeroH a (n+2)]):=(show pushGs G [prodG a n (n+1),zeroG (n+1) (n+2),zeroH a (n+2)]=pushG (pushG (pushG (G) (prodG a n (n+1))) (zeroG (n+1) (n+2))) (zeroH a (n+2)) from rfl).trans (by rw[pushT (G:=G) (g:=prodG a n (n+1)) (by omega),pushT (G:=(G++[prodG a n (n+1)])) (g:=zeroG (n+1) (n+2)) (by simp only[List.length_append,List.length_cons,List.length_nil];omega),pushT (G:=((G++[prodG a n (n+1)])++[zeroG (n+1) (n+2)])) (g:=zeroH a (n+2)) (by simp only[List.length_append,List.length_cons,List.length_nil];omega)])
  refine cp9 l T G n i a b c m k ks vs (by simp only[AllP,maxLen,decide_eq_true_eq,decide_eq_false_iff_not,List.length_append,List.length_cons,List.length_nil,beq_iff_eq,bne_iff_ne,bne_eq_false_iff_eq,beq_eq_false_iff_ne,Int.toNat_natCast];and_intros<;>first | rfl | exact True.intro | omega) hs fun ac cU aU hs2=>hK _ _ _ ?_
  rw[w1,w2,w3,w4,w5,w6,wi] at hs2
  rw[e]
  unfold cS
  rw[show (((G++[prodG a n (n+1)])++[zeroG (n+1) (n+2)])++[zeroH a (n+2)]).length=((G++[prodG a n (n+1)])++[zeroG (n+1) (n+2)]).length+1 from by simp only[List.length_append,List.length_cons,List.length_nil]]
  exact hs2.nx _
 by_cases c1:G.length=4095
 ·have e:pushGs G [prodG a n (n+1),zeroG (n+1) (n+2),zeroH a (n+2)]=((G++[prodG a n (n+1)])++[zeroG (n+1) (n+2)]):=(show pushGs G [prodG a n (n+1),zeroG (n+1) (n+2),zeroH a (n+2)]=pushG (pushG (pushG (G) (prodG a n (n+1))) (zeroG (n+1) (n+2))) (zeroH a (n+2)) from rfl).trans (by rw[pushT (G:=G) (g:=prodG a n (n+1)) (by omega),pushT (G:=(G++[prodG a n (n+1)])) (g:=zeroG (n+1) (n+2)) (by simp only[List.length_append,List.length_cons,List.length_nil];omega),pushF (G:=((G++[prodG a n (n+1)])++[zeroG (n+1) (n+2)])) (g:=zeroH a (n+2)) (by simp only[List.length_append,List.length_cons,List.length_nil];omega)])
  refine cp9y l T G n i a b c m k ks vs (by simp only[AllP,maxLen,decide_eq_true_eq,decide_eq_false_iff_not,List.length_append,List.length_cons,List.length_nil,beq_iff_eq,bne_iff_ne,bne_eq_false_iff_eq,beq_eq_false_iff_ne,Int.toNat_natCast];and_intros<;>first | rfl | exact True.intro | omega) hs fun ac cU aU hs2=>hK _ _ _ ?_
  rw[w1,w2,w3,w4,w5,w6,wi] at hs2
  rw[e]
  unfold cS
  rw[show ((G++[prodG a n (n+1)])++[zeroG (n+1) (n+2)]).length=(G++[prodG a n (n+1)]).length+1 from by simp only[List.length_append,List.length_cons,List.length_nil]]
  exact hs2.nx _
 by_cases c2:G.length=4096
 ·have e:pushGs G [prodG a n (n+1),zeroG (n+1) (n+2),zeroH a (n+2)]=(G++[prodG a n (n+1)]):=(show pushGs G [prodG a n (n+1),zeroG (n+1) (n+2),zeroH a (n+2)]=pushG (pushG (pushG (G) (prodG a n (n+1))) (zeroG (n+1) (n+2))) (zeroH a (n+2)) from rfl).trans (by rw[pushT (G:=G) (g:=prodG a n (n+1)) (by omega),pushF (G:=(G++[prodG a n (n+1)])) (g:=zeroG (n+1) (n+2)) (by simp only[List.length_append,List.length_cons,List.length_nil];omega),pushF (G:=(G++[prodG a n (n+1)])) (g:=zeroH a (n+2)) (by simp only[List.length_append,List.length_cons,List.length_nil];omega)])
  refine cp9x l T G n i a b c m k ks vs (by simp only[AllP,maxLen,decide_eq_true_eq,decide_eq_false_iff_not,List.length_append,List.length_cons,List.length_nil,beq_iff_eq,bne_iff_ne,bne_eq_false_iff_eq,beq_eq_false_iff_ne,Int.toNat_natCast];and_intros<;>first | rfl | exact True.intro | omega) hs fun ac cU aU hs2=>hK _ _ _ ?_
  rw[w1,w2,w3,w4,w5,wi] at hs2
  rw[e]
  unfold cS
  rw[show (G++[prodG a n (n+1)]).length=G.length+1 from by simp only[List.length_append,List.length_cons,List.length_nil]]
  exact hs2.nx _
 have e:pushGs G [prodG a n (n+1),zeroG (n+1) (n+2),zeroH a (n+2)]=G:=(show pushGs G [prodG a n (n+1),zeroG (n+1) (n+2),zeroH a (n+2)]=pushG (pushG (pushG (G) (prodG a n (n+1))) (zeroG (n+1) (n+2))) (zeroH a (n+2)) from rfl).trans (by rw[pushF (G:=G) (g:=prodG a n (n+1)) (by omega),pushF (G:=G) (g:=zeroG (n+1) (n+2)) (by omega),pushF (G:=G) (g:=zeroH a (n+2)) (by omega)])
 refine cp9z l T G n i a b c m k ks vs (by simp only[AllP,maxLen,decide_eq_true_eq,decide_eq_false_iff_not,List.length_append,List.length_cons,List.length_nil,beq_iff_eq,bne_iff_ne,bne_eq_false_iff_eq,beq_eq_false_iff_ne,Int.toNat_natCast];and_intros<;>first | rfl | exact True.intro | omega) hs fun ac cU aU hs2=>hK _ _ _ ?_
 rw[w1,w3,w5,wi] at hs2
 rw[e]
 exact hs2.nx _

end
end

set_option linter.unusedSimpArgs false
set_option linter.unusedVariables false
section

section
variable {l:List OpD} {T G:List GateD} {n i a b c m:Int} {k:U4} {ks:List U4} {vs:List Int} {w0:World} {F0:Nat→Prop} {K:Kp} {ac:List Act} {Q:Exit→Act→World→Prop} {cX:Ctx} {aX:Act}

theorem cpT6 (h1:0≤n) (h2:n≤600000) (h3:0≤i) (h4:i≤1000) (h5:G.length≤4097) (h6:T.length≤1000) (hv:1≤vs.length) (hv2:vs.length≤64) (hk:ks.length=vs.length) (hs:Sim w0 F0 K ac (cO l T G n i 6 a b c m k ks vs) cX aX)
  (hK:∀ac cY aY,Sim w0 F0 K ac (cS l T (pushGs G (gatesOf n 6 a b c m k ks vs)) (n+nvOf 6 m vs) (i+1)) cY aY→Wq Try.prog Q (lpBk cpA_k) ac .normal aY cY.w):Wq Try.prog Q cpB_k ac .normal aX cX.w:=by
 have wi:wrap IntKind.i64 (i+1)=i+1:=wrap_id (by omega) (by omega)
 have w1:wrap IntKind.i64 (n+1)=n+1:=wrap_id (by omega) (by omega)
 have w2:wrap IntKind.i64 (n+1-1)=n:=by rw[wrap_id (by omega) (by omega)];omega
 by_cases hl:vs.length=1
 ·have eg:gatesOf n 6 a b c m k ks vs=[linG (ks.getD 0 0) (vs.getD 0 0) n]:=if_pos hl
  have en:nvOf 6 m vs=1:=if_pos hl
  rw[eg,en] at hK
  by_cases hg:G.length≤4096
  ·refine cp6 l T G n i a b c m k ks vs (by simp only[AllP,maxLen,decide_eq_true_eq,decide_eq_false_iff_not,List.length_append,List.length_cons,List.length_nil,beq_iff_eq,bne_iff_ne,bne_eq_false_iff_eq,beq_eq_false_iff_ne,Int.toNat_natCast];and_intros<;>first | rfl | exact True.intro | omega) hs fun ac cU aU hs2=>hK _ _ _ ?_
   rw[w1,w2,wi] at hs2
   rw[←push1 hg]
   unfold cS
   rw[show (G++[linG (ks.getD 0 0) (vs.getD 0 0) n]).length=G.length+1 from by simp]
   exact hs2.nx _
  ·refine cp6z l T G n i a b c m k ks vs (by simp only[AllP,maxLen,decide_eq_true_eq,decide_eq_false_iff_not,List.length_append,List.length_cons,List.length_nil,beq_iff_eq,bne_iff_ne,bne_eq_false_iff_eq,beq_eq_false_iff_ne,Int.toNat_natCast];and_intros<;>first | rfl | exact True.intro | omega) hs fun ac cU aU hs2=>hK _ _ _ ?_
   rw[w1,wi] at hs2
   rw[←push0 hg]
   exact hs2.nx _
 ·have eg:gatesOf n 6 a b c m k ks vs=linL n ks vs (vs.length-2):=if_neg hl
  have en:nvOf 6 m vs=(vs.length:Int)-1:=if_neg hl
  rw[eg,en] at hK
  have loop:∀ac cY aY,Sim w0 F0 K ac (c6S l T (pushGs G (linL n ks vs 0)) (n+((0:Nat):Int)+1) i a b c m k ks vs (n+((0:Nat):Int)) ((0+2:Nat):Int)) cY aY→Wq Try.prog Q cp6a_k ac .normal aY cY.w:=by
   intro ac cY aY hs1
   refine loop_rule (ι:={ t:Nat // t+2≤vs.length }) (fun t=>c6S l T (pushGs G (linL n ks vs t.1)) (n+(t.1:Int)+1) i a b c m k ks vs (n+(t.1:Int)) ((t.1+2:Nat):Int)) (fun t=>vs.length-t.1) (c:=lpC cp6a_k) (k:=lpR cp6a_k) (by kernel_rfl) (fun t ih ac cY aY hs=>?_) ⟨0,by omega⟩ hs1
   obtain ⟨t,ht⟩:=t
   simp only at ih hs
   have x1:wrap IntKind.i64 (n+(t:Int)+1+1)=n+((t+1:Nat):Int)+1:=by rw[wrap_id (by omega) (by omega)];omega
   have x2:wrap IntKind.i64 (n+((t+1:Nat):Int)+1-1)=n+((t+1:Nat):Int):=by rw[wrap_id (by omega) (by omega)];omega
   have x3:wrap IntKind.i64 (((t+2:Nat):Int)+1)=((t+1+2:Nat):Int):=by rw[wrap_id (by omega) (by omega)];omega
   have hgl:=pushGs_len (gs:=linL n ks vs t) h5
   by_cases h:t+2<vs.length
   ·have ep:pushGs G (linL n ks vs (t+1))=pushG (pushGs G (linL n ks vs t)) (sumG oneU (n+(t:Int)) (ks.getD (t+2) 0) (vs.getD (t+2) 0) (n+((t+1:Nat):Int))):=by
     rw[show n+((t+1:Nat):Int)=n+(t:Int)+1 from by omega]
     exact pushGs_app ..
    generalize pushGs G (linL n ks vs t)=H at *
    by_cases hg:H.length≤4096
    ·refine cp6n l T H _ i a b c m k ks vs _ _ (by simp only[AllP,maxLen,decide_eq_true_eq,decide_eq_false_iff_not,List.length_append,List.length_cons,List.length_nil,beq_iff_eq,bne_iff_ne,bne_eq_false_iff_eq,beq_eq_false_iff_ne,Int.toNat_natCast];and_intros<;>first | rfl | exact True.intro | omega) hs fun ac cU aU hs2=>?_
     rw[Int.toNat_natCast,x1,x2,x3] at hs2
     refine ih ⟨t+1,by omega⟩ (by show vs.length-(t+1)<vs.length-t;omega) ac cU aU ?_
     rw[pushT hg] at ep
     show Sim w0 F0 K ac (c6S l T (pushGs G (linL n ks vs (t+1))) _ i a b c m k ks vs _ _) cU aU
     rw[ep]
     unfold c6S
     rw[show (H++[sumG oneU (n+(t:Int)) (ks.getD (t+2) 0) (vs.getD (t+2) 0) (n+((t+1:Nat):Int))]).length=H.length+1 from by simp]
     exact hs2.nx _
    ·refine cp6nz l T H _ i a b c m k ks vs _ _ (by simp only[AllP,maxLen,decide_eq_true_eq,decide_eq_false_iff_not,List.length_append,List.length_cons,List.length_nil,beq_iff_eq,bne_iff_ne,bne_eq_false_iff_eq,beq_eq_false_iff_ne,Int.toNat_natCast];and_intros<;>first | rfl | exact True.intro | omega) hs fun ac cU aU hs2=>?_
     rw[x1,x2,x3] at hs2
     refine ih ⟨t+1,by omega⟩ (by show vs.length-(t+1)<vs.length-t;omega) ac cU aU ?_
     rw[pushF hg] at ep
     show Sim w0 F0 K ac (c6S l T (pushGs G (linL n ks vs (t+1))) _ i a b c m k ks vs _ _) cU aU
     rw[ep]
     exact hs2.nx _
   ·have et:vs.length-2=t:=by omega
    rw[et] at hK
    refine cp6x l T _ _ i a b c m k ks vs _ _ (by simp only[AllP,maxLen,decide_eq_true_eq,decide_eq_false_iff_not,List.length_append,List.length_cons,List.length_nil,beq_iff_eq,bne_iff_ne,bne_eq_false_iff_eq,beq_eq_false_iff_ne,Int.toNat_natCast];and_intros<;>first | rfl | exact True.intro | omega) hs fun ac cU aU hs2=>hK _ _ _ ?_
    rw[wi] at hs2
    rw[show n+((vs.length:Int)-1)=n+(t:Int)+1 from by omega]
    exact hs2.nx _
  have e0:pushGs G (linL n ks vs 0)=pushG G (sumG (ks.getD 0 0) (vs.getD 0 0) (ks.getD 1 0) (vs.getD 1 0) n):=rfl
  by_cases hg:G.length≤4096
  ·refine cp6a l T G n i a b c m k ks vs (by simp only[AllP,maxLen,decide_eq_true_eq,decide_eq_false_iff_not,List.length_append,List.length_cons,List.length_nil,beq_iff_eq,bne_iff_ne,bne_eq_false_iff_eq,beq_eq_false_iff_ne,Int.toNat_natCast];and_intros<;>first | rfl | exact True.intro | omega) hs fun ac cU aU hs2=>loop _ _ _ ?_
   rw[w1,w2] at hs2
   rw[e0,pushT hg,show n+((0:Nat):Int)=n from by omega]
   unfold c6S
   rw[show (G++[sumG (ks.getD 0 0) (vs.getD 0 0) (ks.getD 1 0) (vs.getD 1 0) n]).length=G.length+1 from by simp]
   exact hs2.nx _
  ·refine cp6az l T G n i a b c m k ks vs (by simp only[AllP,maxLen,decide_eq_true_eq,decide_eq_false_iff_not,List.length_append,List.length_cons,List.length_nil,beq_iff_eq,bne_iff_ne,bne_eq_false_iff_eq,beq_eq_false_iff_ne,Int.toNat_natCast];and_intros<;>first | rfl | exact True.intro | omega) hs fun ac cU aU hs2=>loop _ _ _ ?_
   rw[w1,w2] at hs2
   rw[e0,pushF hg,show n+((0:Nat):Int)=n from by omega]
   exact hs2.nx _

end
end

set_option linter.unusedSimpArgs false
set_option linter.unusedVariables false
section

section
variable {l:List OpD} {T G:List GateD} {n i a b c m:Int} {k:U4} {ks:List U4} {vs:List Int} {w0:World} {F0:Nat→Prop} {K:Kp} {ac:List Act} {Q:Exit→Act→World→Prop} {cX:Ctx} {aX:Act}

theorem cpT10 {N:Nat} (h1:0≤n) (h2:n≤600000) (h3:0≤i) (h4:i≤1000) (h5:G.length≤4097) (h6:T.length≤1000) (hN:1≤N) (hN2:N≤254) (hm:m=(N:Int)) (hs:Sim w0 F0 K ac (cO l T G n i 10 a b c m k ks vs) cX aX)
  (hK:∀ac cY aY,Sim w0 F0 K ac (cS l T (pushGs G (gatesOf n 10 a b c m k ks vs)) (n+nvOf 10 m vs) (i+1)) cY aY→Wq Try.prog Q (lpBk cpA_k) ac .normal aY cY.w):Wq Try.prog Q cpB_k ac .normal aX cX.w:=by
 have wi:wrap IntKind.i64 (i+1)=i+1:=wrap_id (by omega) (by omega)
 have eg:gatesOf n 10 a b c m k ks vs=bitB n N++bitS n (N:Int) (N-1)++[equalG (lastV n (N:Int) (N-1)) a]:=by
  rw[hm];exact congrArg (bitG n a) (Int.toNat_natCast N)
 have en:nvOf 10 m vs=2*(N:Int)-1:=by rw[hm];rfl
 rw[eg,en] at hK
 -- the last sums
 have loop3:∀ac cY aY,Sim w0 F0 K ac (c10U l T (pushGs (pushGs G (bitB n N)) (bitS n (N:Int) 0)) (n+(N:Int)+((0:Nat):Int)) i a b c m k ks vs n ((0+1:Nat):Int) (lastV n (N:Int) 0) (pwS 0)) cY aY→Wq Try.prog Q cp10c_k ac .normal aY cY.w:=by
  intro ac cY aY hs1
  refine loop_rule (ι:={ t:Nat // t+1≤N }) (fun t=>c10U l T (pushGs (pushGs G (bitB n N)) (bitS n (N:Int) t.1)) (n+(N:Int)+(t.1:Int)) i a b c m k ks vs n ((t.1+1:Nat):Int) (lastV n (N:Int) t.1) (pwS t.1)) (fun t=>N-t.1) (c:=lpC cp10c_k) (k:=lpR cp10c_k) (by kernel_rfl) (fun t ih ac cY aY hs=>?_) ⟨0,by omega⟩ hs1
  obtain ⟨t,ht⟩:=t
  simp only at ih hs
  have x0:wrap IntKind.i64 (n+(N:Int)+(t:Int)+1)=n+(N:Int)+((t+1:Nat):Int):=by rw[wrap_id (by omega) (by omega)];omega
  have x1:wrap IntKind.i64 (n+(N:Int)+((t+1:Nat):Int)-1)=n+(N:Int)+(t:Int):=by rw[wrap_id (by omega) (by omega)];omega
  have x2:wrap IntKind.i64 (n+((t+1:Nat):Int))=n+((t+1:Nat):Int):=wrap_id (by omega) (by omega)
  have x3:wrap IntKind.i64 (((t+1:Nat):Int)+1)=((t+1+1:Nat):Int):=by rw[wrap_id (by omega) (by omega)];omega
  have hgl:=pushGs_len (gs:=bitS n (N:Int) t) (pushGs_len (gs:=bitB n N) h5)
  by_cases h:t+1<N
  ·have ep:pushGs (pushGs G (bitB n N)) (bitS n (N:Int) (t+1))=pushG (pushGs (pushGs G (bitB n N)) (bitS n (N:Int) t)) (sumG oneU (lastV n (N:Int) t) (pwS (t+1)) (n+((t+1:Nat):Int)) (n+(N:Int)+(t:Int))):=pushGs_app ..
   generalize pushGs (pushGs G (bitB n N)) (bitS n (N:Int) t)=H at *
   by_cases hg:H.length≤4096
   ·refine cp10o l T H _ i a b c m k ks vs _ _ _ _ (by simp only[AllP,maxLen,decide_eq_true_eq,decide_eq_false_iff_not,List.length_append,List.length_cons,List.length_nil,beq_iff_eq,bne_iff_ne,bne_eq_false_iff_eq,beq_eq_false_iff_ne,Int.toNat_natCast];and_intros<;>first | rfl | exact True.intro | omega) hs fun ac cU aU hs2=>?_
    rw[x0,x1,x2,x3] at hs2
    refine ih ⟨t+1,by omega⟩ (by show N-(t+1)<N-t;omega) ac cU aU ?_
    rw[pushT hg] at ep
    show Sim w0 F0 K ac (c10U l T (pushGs (pushGs G (bitB n N)) (bitS n (N:Int) (t+1))) _ i a b c m k ks vs _ _ _ _) cU aU
    rw[ep]
    unfold c10U
    rw[show (H++[sumG oneU (lastV n (N:Int) t) (pwS (t+1)) (n+((t+1:Nat):Int)) (n+(N:Int)+(t:Int))]).length=H.length+1 from by simp]
    exact hs2.nx _
   ·refine cp10oz l T H _ i a b c m k ks vs _ _ _ _ (by simp only[AllP,maxLen,decide_eq_true_eq,decide_eq_false_iff_not,List.length_append,List.length_cons,List.length_nil,beq_iff_eq,bne_iff_ne,bne_eq_false_iff_eq,beq_eq_false_iff_ne,Int.toNat_natCast];and_intros<;>first | rfl | exact True.intro | omega) hs fun ac cU aU hs2=>?_
    rw[x0,x1,x3] at hs2
    refine ih ⟨t+1,by omega⟩ (by show N-(t+1)<N-t;omega) ac cU aU ?_
    rw[pushF hg] at ep
    show Sim w0 F0 K ac (c10U l T (pushGs (pushGs G (bitB n N)) (bitS n (N:Int) (t+1))) _ i a b c m k ks vs _ _ _ _) cU aU
    rw[ep]
    exact hs2.nx _
  ·have et:t=N-1:=by omega
   have ep:pushGs G (bitB n N++bitS n (N:Int) (N-1)++[equalG (lastV n (N:Int) (N-1)) a])=pushG (pushGs (pushGs G (bitB n N)) (bitS n (N:Int) t)) (equalG (lastV n (N:Int) t) a):=by
    rw[pushGs_app,pushGs_app,et];rfl
   rw[ep] at hK
   rw[show n+(2*(N:Int)-1)=n+(N:Int)+(t:Int) from by omega] at hK
   generalize pushGs (pushGs G (bitB n N)) (bitS n (N:Int) t)=H at *
   by_cases hg:H.length≤4096
   ·refine cp10x l T H _ i a b c m k ks vs _ _ _ _ (by simp only[AllP,maxLen,decide_eq_true_eq,decide_eq_false_iff_not,List.length_append,List.length_cons,List.length_nil,beq_iff_eq,bne_iff_ne,bne_eq_false_iff_eq,beq_eq_false_iff_ne,Int.toNat_natCast];and_intros<;>first | rfl | exact True.intro | omega) hs fun ac cU aU hs2=>hK _ _ _ ?_
    rw[wi] at hs2
    rw[pushT hg]
    unfold cS
    rw[show (H++[equalG (lastV n (N:Int) t) a]).length=H.length+1 from by simp]
    exact hs2.nx _
   ·refine cp10xz l T H _ i a b c m k ks vs _ _ _ _ (by simp only[AllP,maxLen,decide_eq_true_eq,decide_eq_false_iff_not,List.length_append,List.length_cons,List.length_nil,beq_iff_eq,bne_iff_ne,bne_eq_false_iff_eq,beq_eq_false_iff_ne,Int.toNat_natCast];and_intros<;>first | rfl | exact True.intro | omega) hs fun ac cU aU hs2=>hK _ _ _ ?_
    rw[wi] at hs2
    rw[pushF hg]
    exact hs2.nx _
 -- each bit is one
 have loop2:∀ac cY aY,Sim w0 F0 K ac (c10T l T (pushGs G (bitB n 0)) (n+(N:Int)) i a b c m k ks vs n ((0:Nat):Int)) cY aY→Wq Try.prog Q cp10b_k ac .normal aY cY.w:=by
  intro ac cY aY hs1
  refine loop_rule (ι:={ t:Nat // t≤N }) (fun t=>c10T l T (pushGs G (bitB n t.1)) (n+(N:Int)) i a b c m k ks vs n (t.1:Int)) (fun t=>N-t.1) (c:=lpC cp10b_k) (k:=lpR cp10b_k) (by kernel_rfl) (fun t ih ac cY aY hs=>?_) ⟨0,by omega⟩ hs1
  obtain ⟨t,ht⟩:=t
  simp only at ih hs
  have x2:wrap IntKind.i64 (n+(t:Int))=n+(t:Int):=wrap_id (by omega) (by omega)
  have x3:wrap IntKind.i64 ((t:Int)+1)=((t+1:Nat):Int):=by rw[wrap_id (by omega) (by omega)];omega
  have hgl:=pushGs_len (gs:=bitB n t) h5
  by_cases h:t<N
  ·have ep:pushGs G (bitB n (t+1))=pushG (pushGs G (bitB n t)) (boolG (n+(t:Int))):=pushGs_app ..
   generalize pushGs G (bitB n t)=H at *
   by_cases hg:H.length≤4096
   ·refine cp10m l T H _ i a b c m k ks vs _ _ (by simp only[AllP,maxLen,decide_eq_true_eq,decide_eq_false_iff_not,List.length_append,List.length_cons,List.length_nil,beq_iff_eq,bne_iff_ne,bne_eq_false_iff_eq,beq_eq_false_iff_ne,Int.toNat_natCast];and_intros<;>first | rfl | exact True.intro | omega) hs fun ac cU aU hs2=>?_
    rw[x2,x3] at hs2
    refine ih ⟨t+1,by omega⟩ (by show N-(t+1)<N-t;omega) ac cU aU ?_
    rw[pushT hg] at ep
    show Sim w0 F0 K ac (c10T l T (pushGs G (bitB n (t+1))) _ i a b c m k ks vs _ _) cU aU
    rw[ep]
    unfold c10T
    rw[show (H++[boolG (n+(t:Int))]).length=H.length+1 from by simp]
    exact hs2.nx _
   ·refine cp10mz l T H _ i a b c m k ks vs _ _ (by simp only[AllP,maxLen,decide_eq_true_eq,decide_eq_false_iff_not,List.length_append,List.length_cons,List.length_nil,beq_iff_eq,bne_iff_ne,bne_eq_false_iff_eq,beq_eq_false_iff_ne,Int.toNat_natCast];and_intros<;>first | rfl | exact True.intro | omega) hs fun ac cU aU hs2=>?_
    rw[x3] at hs2
    refine ih ⟨t+1,by omega⟩ (by show N-(t+1)<N-t;omega) ac cU aU ?_
    rw[pushF hg] at ep
    show Sim w0 F0 K ac (c10T l T (pushGs G (bitB n (t+1))) _ i a b c m k ks vs _ _) cU aU
    rw[ep]
    exact hs2.nx _
  ·have et:t=N:=by omega
   subst et
   refine cp10c l T _ _ i a b c m k ks vs _ _ (by simp only[AllP,maxLen,decide_eq_true_eq,decide_eq_false_iff_not,List.length_append,List.length_cons,List.length_nil,beq_iff_eq,bne_iff_ne,bne_eq_false_iff_eq,beq_eq_false_iff_ne,Int.toNat_natCast];and_intros<;>first | rfl | exact True.intro | omega) hs fun ac cU aU hs2=>loop3 _ _ _ ?_
   rw[show n+(t:Int)+((0:Nat):Int)=n+(t:Int) from by omega]
   exact hs2.nx _
 -- the bits
 have loop1:∀ac cY aY,Sim w0 F0 K ac (c10S l T G (n+((0:Nat):Int)) i a b c m k ks vs n ((0:Nat):Int)) cY aY→Wq Try.prog Q cp10a_k ac .normal aY cY.w:=by
  intro ac cY aY hs1
  refine loop_rule (ι:={ t:Nat // t≤N }) (fun t=>c10S l T G (n+(t.1:Int)) i a b c m k ks vs n (t.1:Int)) (fun t=>N-t.1) (c:=lpC cp10a_k) (k:=lpR cp10a_k) (by kernel_rfl) (fun t ih ac cY aY hs=>?_) ⟨0,by omega⟩ hs1
  obtain ⟨t,ht⟩:=t
  simp only at ih hs
  have x2:wrap IntKind.i64 (n+(t:Int)+1)=n+((t+1:Nat):Int):=by rw[wrap_id (by omega) (by omega)];omega
  have x3:wrap IntKind.i64 ((t:Int)+1)=((t+1:Nat):Int):=by rw[wrap_id (by omega) (by omega)];omega
  by_cases h:t<N
  ·refine cp10n l T G _ i a b c m k ks vs _ _ (by simp only[AllP,maxLen,decide_eq_true_eq,decide_eq_false_iff_not,List.length_append,List.length_cons,List.length_nil,beq_iff_eq,bne_iff_ne,bne_eq_false_iff_eq,beq_eq_false_iff_ne,Int.toNat_natCast];and_intros<;>first | rfl | exact True.intro | omega) hs fun ac cU aU hs2=>?_
   rw[x2,x3] at hs2
   exact ih ⟨t+1,by omega⟩ (by show N-(t+1)<N-t;omega) ac cU aU (hs2.nx _)
  ·have et:t=N:=by omega
   subst et
   refine cp10b l T G _ i a b c m k ks vs _ _ (by simp only[AllP,maxLen,decide_eq_true_eq,decide_eq_false_iff_not,List.length_append,List.length_cons,List.length_nil,beq_iff_eq,bne_iff_ne,bne_eq_false_iff_eq,beq_eq_false_iff_ne,Int.toNat_natCast];and_intros<;>first | rfl | exact True.intro | omega) hs fun ac cU aU hs2=>loop2 _ _ _ ?_
   exact hs2.nx _
 refine cp10a l T G n i a b c m k ks vs (by simp only[AllP,maxLen,decide_eq_true_eq,decide_eq_false_iff_not,List.length_append,List.length_cons,List.length_nil,beq_iff_eq,bne_iff_ne,bne_eq_false_iff_eq,beq_eq_false_iff_ne,Int.toNat_natCast];and_intros<;>first | rfl | exact True.intro | omega) hs fun ac cU aU hs2=>loop1 _ _ _ ?_
 rw[show n+((0:Nat):Int)=n from by omega]
 exact hs2.nx _

end
end

set_option linter.unusedSimpArgs false
set_option linter.unusedVariables false
section
section
variable {w0:World} {F0:Nat→Prop} {K:Kp} {ac:List Act} {Q:Exit→Act→World→Prop} {cX:Ctx} {aX:Act}

theorem c8allY (l:List OpD) (T G:List GateD) (n i:Int) (a b c m:Int) (k:U4) (ks:List U4) (vs:List Int) (v:Int):(runs8.map fun r=>(runAt iD false 3000 (c8C l T G n i a b c m k ks vs v r.1 r.2) [true,false] [2,5,6,16,17,18] [16,32,64,128] [],(run iD false 3000 (c8C l T G n i a b c m k ks vs v r.1 r.2) [true,false]).cfg.k)) =
  List.replicate 6 (runAt iD false 3000 (c8C l T G n i a b c m k ks vs v [0,1,2,3,4,5,8,9] [7,10]) [true,false] [2,5,6,16,17,18] [16,32,64,128] [],lpBk cpA_k):=by kernel_rfl
theorem c8allZ (l:List OpD) (T G:List GateD) (n i:Int) (a b c m:Int) (k:U4) (ks:List U4) (vs:List Int) (v:Int):(runs8.map fun r=>(runAt iD false 3000 (c8C l T G n i a b c m k ks vs v r.1 r.2) [false,false] [2,5,6,16,17,18] [16,32,64,128] [],(run iD false 3000 (c8C l T G n i a b c m k ks vs v r.1 r.2) [false,false]).cfg.k)) =
  List.replicate 6 (runAt iD false 3000 (c8C l T G n i a b c m k ks vs v [0,1,2,3,4,5,8,9] [7,10]) [false,false] [2,5,6,16,17,18] [16,32,64,128] [],lpBk cpA_k):=by kernel_rfl
theorem of_runs {env:Env} {n:Nat} {path:List Bool} {tl ml:List Nat} {ftl:List (List Nat)} {C:List Nat×List Nat→Cfg} {o:Option At} {k:List KI} (h:(runs8.map fun r=>(runAt env false n (C r) path tl ml ftl,(run env false n (C r) path).cfg.k))=List.replicate 6 (o,k)) {r:List Nat×List Nat} (hr:r∈runs8) :
  runAt env false n (C r) path tl ml ftl=o∧(run env false n (C r) path).cfg.k=k:=by
 have h1:(runAt env false n (C r) path tl ml ftl,(run env false n (C r) path).cfg.k)∈List.replicate 6 (o,k):=by rw[←h];exact List.mem_map.2 ⟨r,hr,rfl⟩
 have h2:=List.eq_of_mem_replicate h1
 exact ⟨congrArg Prod.fst h2,congrArg Prod.snd h2⟩
theorem cp8bR {r:List Nat×List Nat} (hr:r∈runs8) (l:List OpD) (T G:List GateD) (n i:Int) (a b c m:Int) (k:U4) (ks:List U4) (vs:List Int) (v:Int) (ho:AllP [((decide ((G.length:Int)≤(4096:Int)))=true),(((G.length+1)*184)≤140737488355328),((G.length+1)≤maxLen),(G.length=G.length),(1=1),((decide ((((G.length+1):Nat):Int)≤(4096:Int)))=true),((((G++[(GateD.mk oneU 0 0 mO 0 a v (wrap .i64 ((wrap .i64 (n+1))-1)))]).length+1)*184)≤140737488355328),(((G++[(GateD.mk oneU 0 0 mO 0 a v (wrap .i64 ((wrap .i64 (n+1))-1)))]).length+1)≤maxLen),((G.length+1)=(G++[(GateD.mk oneU 0 0 mO 0 a v (wrap .i64 ((wrap .i64 (n+1))-1)))]).length),(1=1)]) (hs:Sim w0 F0 K ac (drawSt iD (anyOps cp8a_k) r.1 (c8S l T G n i a b c m k ks vs v)) cX aX) (hK:∀ac cY aY,Sim w0 F0 K ac (mkSt 77 [2,5,6,16,17,18] [.pt 16 0,.pt 128 0,(.ci (.slc 32 0 T.length 23)),(.ci (.sl (.op l))),(.ii (l.length:Int)),(.ii (wrap .i64 (i+1)))] [16,32,64,128] [(eF [(.sl (.gate ([]:List GateD))),(.int .i64 (0:Int)),(.int .i64 (0:Int))]),(eQ (.gate T)),(eQ (.gate ((G++[(GateD.mk oneU 0 0 mO 0 a v (wrap .i64 ((wrap .i64 (n+1))-1)))])++[(GateD.mk 0 (outF (inF oneU)) (outF (inF oneU)) mO (0:U4) (wrap .i64 ((wrap .i64 (n+1))-1)) c (wrap .i64 ((wrap .i64 ((wrap .i64 (n+1))+1))-1)))]))),(eF [(.slc 64 0 ((G++[(GateD.mk oneU 0 0 mO 0 a v (wrap .i64 ((wrap .i64 (n+1))-1)))]).length+1) 23),(.int .i64 (wrap .i64 ((wrap .i64 (n+1))+1))),(.val (Value.pointer Option.none))])] 4736 [] []) cY aY→Wq Try.prog Q (lpBk cpA_k) ac Exit.normal aY cY.w):Wq Try.prog Q (.ops ((anyOps cp8a_k).extract 0 7) 6 [] :: .any (anyOps cp8a_k) 6 (pickI (anyOps cp8a_k) r.2)::anyRest cp8a_k) ac .normal aX cX.w:=
 run_at (env:=iD) iD_ok (c:=c8C l T G n i a b c m k ks vs v r.1 r.2) ((of_runs (C:=fun r=>c8C l T G n i a b c m k ks vs v r.1 r.2) (c8all l T G n i a b c m k ks vs v) hr).1.trans (cp8b_at l T G n i a b c m k ks vs v)) (of_runs (C:=fun r=>c8C l T G n i a b c m k ks vs v r.1 r.2) (c8all l T G n i a b c m k ks vs v) hr).2 ho hs hK
theorem cp8byR {r:List Nat×List Nat} (hr:r∈runs8) (l:List OpD) (T G:List GateD) (n i:Int) (a b c m:Int) (k:U4) (ks:List U4) (vs:List Int) (v:Int) (ho:AllP [((decide ((G.length:Int)≤(4096:Int)))=true),(((G.length+1)*184)≤140737488355328),((G.length+1)≤maxLen),(G.length=G.length),(1=1),((decide ((((G.length+1):Nat):Int)≤(4096:Int)))=false)]) (hs:Sim w0 F0 K ac (drawSt iD (anyOps cp8a_k) r.1 (c8S l T G n i a b c m k ks vs v)) cX aX) (hK:∀ac cY aY,Sim w0 F0 K ac (mkSt 77 [2,5,6,16,17,18] [.pt 16 0,.pt 128 0,(.ci (.slc 32 0 T.length 23)),(.ci (.sl (.op l))),(.ii (l.length:Int)),(.ii (wrap .i64 (i+1)))] [16,32,64,128] [(eF [(.sl (.gate ([]:List GateD))),(.int .i64 (0:Int)),(.int .i64 (0:Int))]),(eQ (.gate T)),(eQ (.gate (G++[(GateD.mk oneU 0 0 mO 0 a v (wrap .i64 ((wrap .i64 (n+1))-1)))]))),(eF [(.slc 64 0 (G.length+1) 23),(.int .i64 (wrap .i64 ((wrap .i64 (n+1))+1))),(.val (Value.pointer Option.none))])] 4560 [] []) cY aY→Wq Try.prog Q (lpBk cpA_k) ac Exit.normal aY cY.w):Wq Try.prog Q (.ops ((anyOps cp8a_k).extract 0 7) 6 [] :: .any (anyOps cp8a_k) 6 (pickI (anyOps cp8a_k) r.2)::anyRest cp8a_k) ac .normal aX cX.w:=
 run_at (env:=iD) iD_ok (c:=c8C l T G n i a b c m k ks vs v r.1 r.2) ((of_runs (C:=fun r=>c8C l T G n i a b c m k ks vs v r.1 r.2) (c8allY l T G n i a b c m k ks vs v) hr).1.trans (cp8by_at l T G n i a b c m k ks vs v)) (of_runs (C:=fun r=>c8C l T G n i a b c m k ks vs v r.1 r.2) (c8allY l T G n i a b c m k ks vs v) hr).2 ho hs hK
theorem cp8bzR {r:List Nat×List Nat} (hr:r∈runs8) (l:List OpD) (T G:List GateD) (n i:Int) (a b c m:Int) (k:U4) (ks:List U4) (vs:List Int) (v:Int) (ho:AllP [((decide ((G.length:Int)≤(4096:Int)))=false),((decide ((G.length:Int)≤(4096:Int)))=false)]) (hs:Sim w0 F0 K ac (drawSt iD (anyOps cp8a_k) r.1 (c8S l T G n i a b c m k ks vs v)) cX aX) (hK:∀ac cY aY,Sim w0 F0 K ac (mkSt 77 [2,5,6,16,17,18] [.pt 16 0,.pt 128 0,(.ci (.slc 32 0 T.length 23)),(.ci (.sl (.op l))),(.ii (l.length:Int)),(.ii (wrap .i64 (i+1)))] [16,32,64,128] [(eF [(.sl (.gate ([]:List GateD))),(.int .i64 (0:Int)),(.int .i64 (0:Int))]),(eQ (.gate T)),(eQ (.gate G)),(eF [(.slc 64 0 G.length 23),(.int .i64 (wrap .i64 ((wrap .i64 (n+1))+1))),(.val (Value.pointer Option.none))])] 4384 [] []) cY aY→Wq Try.prog Q (lpBk cpA_k) ac Exit.normal aY cY.w):Wq Try.prog Q (.ops ((anyOps cp8a_k).extract 0 7) 6 [] :: .any (anyOps cp8a_k) 6 (pickI (anyOps cp8a_k) r.2)::anyRest cp8a_k) ac .normal aX cX.w:=
 run_at (env:=iD) iD_ok (c:=c8C l T G n i a b c m k ks vs v r.1 r.2) ((of_runs (C:=fun r=>c8C l T G n i a b c m k ks vs v r.1 r.2) (c8allZ l T G n i a b c m k ks vs v) hr).1.trans (cp8bz_at l T G n i a b c m k ks vs v)) (of_runs (C:=fun r=>c8C l T G n i a b c m k ks vs v r.1 r.2) (c8allZ l T G n i a b c m k ks vs v) hr).2 ho hs hK
theorem c8get:∃oc,(anyOps cp8a_k)[6]? = some oc∧oc.guard=none:=by
 have h:6<(anyOps cp8a_k).size:=by rw[c8size];decide
 refine ⟨(anyOps cp8a_k)[6],Array.getElem?_eq_getElem h,?_⟩
 have g:=c8g
 rw[Array.getElem?_eq_getElem h] at g
 simpa using g

section
variable {l:List OpD} {T G:List GateD} {n i a b c m v:Int} {k:U4} {ks:List U4} {vs:List Int} {w0:World} {F0:Nat→Prop} {K:Kp} {ac:List Act} {Q:Exit→Act→World→Prop} {cX:Ctx} {aX:Act}

theorem cp8c (h1:0≤n) (h2:n≤600001) (h3:0≤i) (h4:i≤1000) (h5:G.length≤4097) (h6:T.length≤1000) (hs:Sim w0 F0 K ac (c8S l T G n i a b c m k ks vs v) cX aX)
  (hK:∀ac cY aY,Sim w0 F0 K ac (cS l T (pushGs G [prodG a v n,sumG oneU n oneU c (n+1)]) (n+2) (i+1)) cY aY→Wq Try.prog Q (lpBk cpA_k) ac .normal aY cY.w):Wq Try.prog Q cp8a_k ac .normal aX cX.w:=by
 have wi:wrap IntKind.i64 (i+1)=i+1:=wrap_id (by omega) (by omega)
 have w1:wrap IntKind.i64 (n+1)=n+1:=wrap_id (by omega) (by omega)
 have w2:wrap IntKind.i64 (n+1-1)=n:=by rw[wrap_id (by omega) (by omega)];omega
 have w3:wrap IntKind.i64 (n+1+1)=n+2:=by rw[wrap_id (by omega) (by omega)];omega
 have w4:wrap IntKind.i64 (n+2-1)=n+1:=by rw[wrap_id (by omega) (by omega)];omega
 obtain ⟨oc,ho1,ho2⟩:=c8get
 rw[c8k]
 refine split8 (ops:=anyOps cp8a_k) (σ:=c8S l T G n i a b c m k ks vs v) (id:=18) (k:=anyRest cp8a_k) iD_ok hs c8size c8anc c8ok ho1 ho2 (c8run l T G n i a b c m k ks vs v) ?_
 intro r hr y a' hs'
 by_cases g1:G.length≤4095
 ·refine cp8bR hr l T G n i a b c m k ks vs v (by simp only[AllP,maxLen,decide_eq_true_eq,decide_eq_false_iff_not,List.length_append,List.length_cons,List.length_nil,beq_iff_eq,bne_iff_ne,bne_eq_false_iff_eq,beq_eq_false_iff_ne,Int.toNat_natCast];and_intros<;>first | rfl | refine True.intro | omega) hs' fun ac cU aU hs2=>hK _ _ _ ?_
  rw[w1,w2,w3,w4,wi] at hs2
  rw[(show pushGs G [prodG a v n,sumG oneU n oneU c (n+1)]=pushG (pushG G (prodG a v n)) (sumG oneU n oneU c (n+1)) from rfl),pushT (show G.length≤4096 by omega),pushT (G:=G++[prodG a v n]) (by simp;omega)]
  unfold cS
  rw[show ((G++[prodG a v n])++[sumG oneU n oneU c (n+1)]).length=(G++[prodG a v n]).length+1 from by simp]
  exact hs2.nx _
 by_cases g2:G.length=4096
 ·refine cp8byR hr l T G n i a b c m k ks vs v (by simp only[AllP,maxLen,decide_eq_true_eq,decide_eq_false_iff_not,List.length_append,List.length_cons,List.length_nil,beq_iff_eq,bne_iff_ne,bne_eq_false_iff_eq,beq_eq_false_iff_ne,Int.toNat_natCast];and_intros<;>first | rfl | refine True.intro | omega) hs' fun ac cU aU hs2=>hK _ _ _ ?_
  rw[w1,w2,w3,wi] at hs2
  rw[(show pushGs G [prodG a v n,sumG oneU n oneU c (n+1)]=pushG (pushG G (prodG a v n)) (sumG oneU n oneU c (n+1)) from rfl),pushT (show G.length≤4096 by omega),pushF (G:=G++[prodG a v n]) (by simp;omega)]
  unfold cS
  rw[show (G++[prodG a v n]).length=G.length+1 from by simp]
  exact hs2.nx _
 ·refine cp8bzR hr l T G n i a b c m k ks vs v (by simp only[AllP,maxLen,decide_eq_true_eq,decide_eq_false_iff_not,List.length_append,List.length_cons,List.length_nil,beq_iff_eq,bne_iff_ne,bne_eq_false_iff_eq,beq_eq_false_iff_ne,Int.toNat_natCast];and_intros<;>first | rfl | refine True.intro | omega) hs' fun ac cU aU hs2=>hK _ _ _ ?_
  rw[w1,w3,wi] at hs2
  rw[push_none (by omega)]
  exact hs2.nx _

theorem cpT8 (h1:0≤n) (h2:n≤600000) (h3:0≤i) (h4:i≤1000) (h5:G.length≤4097) (h6:T.length≤1000) (hs:Sim w0 F0 K ac (cO l T G n i 8 a b c m k ks vs) cX aX)
  (hK:∀ac cY aY,Sim w0 F0 K ac (cS l T (pushGs G (gatesOf n 8 a b c m k ks vs)) (n+nvOf 8 m vs) (i+1)) cY aY→Wq Try.prog Q (lpBk cpA_k) ac .normal aY cY.w):Wq Try.prog Q cpB_k ac .normal aX cX.w:=by
 have w1:wrap IntKind.i64 (n+1)=n+1:=wrap_id (by omega) (by omega)
 have w2:wrap IntKind.i64 (n+1-1)=n:=by rw[wrap_id (by omega) (by omega)];omega
 have eg:gatesOf n 8 a b c m k ks vs=[boolG a,sumG oneU b mO c n]++[prodG a n (n+1),sumG oneU (n+1) oneU c (n+2)]:=rfl
 rw[eg,pushGs_app,show n+nvOf 8 m vs=n+3 from rfl] at hK
 have go:∀ac cY aY,Sim w0 F0 K ac (c8S l T (pushGs G [boolG a,sumG oneU b mO c n]) (n+1) i a b c m k ks vs n) cY aY→Wq Try.prog Q cp8a_k ac .normal aY cY.w:=fun ac cY aY hs3=>
  cp8c (by omega) (by omega) h3 h4 (pushGs_len h5) h6 hs3 fun ac cU aU hs4=>hK _ _ _ (by
   rw[show n+1+1=n+2 from by omega,show n+1+2=n+3 from by omega] at hs4
   exact hs4)
 by_cases g1:G.length≤4095
 ·refine cp8a l T G n i a b c m k ks vs (by simp only[AllP,maxLen,decide_eq_true_eq,decide_eq_false_iff_not,List.length_append,List.length_cons,List.length_nil,beq_iff_eq,bne_iff_ne,bne_eq_false_iff_eq,beq_eq_false_iff_ne,Int.toNat_natCast];and_intros<;>first | rfl | exact True.intro | omega) hs fun ac cU aU hs2=>go _ _ _ ?_
  rw[w1,w2] at hs2
  rw[(show pushGs G [boolG a,sumG oneU b mO c n]=pushG (pushG G (boolG a)) (sumG oneU b mO c n) from rfl),pushT (show G.length≤4096 by omega),pushT (G:=G++[boolG a]) (by simp;omega)]
  unfold c8S
  rw[show ((G++[boolG a])++[sumG oneU b mO c n]).length=(G++[boolG a]).length+1 from by simp]
  exact hs2.nx _
 by_cases g2:G.length=4096
 ·refine cp8ay l T G n i a b c m k ks vs (by simp only[AllP,maxLen,decide_eq_true_eq,decide_eq_false_iff_not,List.length_append,List.length_cons,List.length_nil,beq_iff_eq,bne_iff_ne,bne_eq_false_iff_eq,beq_eq_false_iff_ne,Int.toNat_natCast];and_intros<;>first | rfl | exact True.intro | omega) hs fun ac cU aU hs2=>go _ _ _ ?_
  rw[w1,w2] at hs2
  rw[(show pushGs G [boolG a,sumG oneU b mO c n]=pushG (pushG G (boolG a)) (sumG oneU b mO c n) from rfl),pushT (show G.length≤4096 by omega),pushF (G:=G++[boolG a]) (by simp;omega)]
  unfold c8S
  rw[show (G++[boolG a]).length=G.length+1 from by simp]
  exact hs2.nx _
 ·refine cp8az l T G n i a b c m k ks vs (by simp only[AllP,maxLen,decide_eq_true_eq,decide_eq_false_iff_not,List.length_append,List.length_cons,List.length_nil,beq_iff_eq,bne_iff_ne,bne_eq_false_iff_eq,beq_eq_false_iff_ne,Int.toNat_natCast];and_intros<;>first | rfl | exact True.intro | omega) hs fun ac cU aU hs2=>go _ _ _ ?_
  rw[w1,w2] at hs2
  rw[push_none (by omega)]
  exact hs2.nx _

end
end
end

set_option linter.unusedSimpArgs false
set_option linter.unusedVariables false
section

/-- What a circuit, an error and a place are told as. -/
def compSV (r:(List GateD×Int×Int)×Int×Int):SV:=.t [.a [.sl (.gate r.1.1),.int .i64 r.1.2.1,.int .i64 r.1.2.2],.c (.int .i64 r.2.1),.c (.int .i64 r.2.2)]
theorem drop_getO (L:List OpD) {i:Nat} (h:i<L.length):L.drop i=L.getD i op0::L.drop (i+1):=by
 rw[List.drop_eq_getElem_cons h,List.getD_eq_getElem?_getD,List.getElem?_eq_getElem h,Option.getD_some]

theorem comp_fnd (l:List OpD):FnD Try.prog 9 [.v (.c (.sl (.op l)))] (compSV (compR l)) []:=by
 by_cases hL:l.length > 1000
 ·have e:compR l=(([],0,0),2,0):=if_pos hL
  rw[e]
  exact fn_sound iD_ok Try.func9 (cpL l) (by simp only[AllP,maxLen,decide_eq_true_eq,decide_eq_false_iff_not,List.length_append,List.length_cons,List.length_nil,beq_iff_eq,bne_iff_ne,bne_eq_false_iff_eq,beq_eq_false_iff_ne,Int.toNat_natCast];and_intros<;>first | rfl | exact True.intro | omega)
 have e0:compR l=compE (compL l [] [] 0 0):=if_neg hL
 rw[e0]
 refine fn_start (fn:=Try.f9) (c:=bodyOf Try.f9) Try.func9 rfl rfl fun x0 a0 hk hF hs0=>?_
 refine cpA l (by simp only[AllP,maxLen,decide_eq_true_eq,decide_eq_false_iff_not,List.length_append,List.length_cons,List.length_nil,beq_iff_eq,bne_iff_ne,bne_eq_false_iff_eq,beq_eq_false_iff_ne,Int.toNat_natCast];and_intros<;>first | rfl | exact True.intro | omega) hs0 fun ac cY aY hs1=>?_
 have hs2:=hs1.nilRow (p:=32) (svs' := [.v (.c (.ptr 16 0)),.v (.c (.ptr 128 0)),.v (.c (.slc 32 0 0 23)),.v (.c (.sl (.op l))),.v (.c (.int .i64 (l.length:Int))),.v (.c (.int .i64 0))])
  (ml' := [16,32,128]) (ens' := [some (.fl [.sl (.gate []),.int .i64 0,.int .i64 0]),some (.sq (.gate [])),some (.fl [.val (.slice none 0 0),.int .i64 0,.val (.pointer none)])]) (q:=.gate []) (by decide) (by decide) rfl
  (fun r=>by
   simp only[look]
   by_cases h1:r=16
   ·subst h1;rfl
   by_cases h2:r=32
   ·subst h2;rfl
   by_cases h3:r=128
   ·subst h3;rfl
   simp only[h1,h2,h3,if_false])
  ⟨.inl rfl,.inl rfl,.inr ⟨23,rfl,rfl⟩,.inl rfl,.inl rfl,.inl rfl,trivial⟩
 have hs3:=hs2.nilBlk (p:=64) (z:=128) (l' := [.slc 64 0 0 23,.int .i64 0,.val (.pointer none)]) (ml' := [16,32,64,128]) (ens' := [some (.fl [.sl (.gate []),.int .i64 0,.int .i64 0]),some (.sq (.gate [])),some (.sq (.gate [])),some (.fl [.slc 64 0 0 23,.int .i64 0,.val (.pointer none)])]) (q:=.gate []) (by decide) (by decide) rfl rfl
  ⟨.inr (.inl ⟨23,rfl,rfl⟩),.inl rfl,.inl rfl,trivial⟩
  (fun r=>by
   simp only[look]
   by_cases h1:r=16
   ·subst h1;rfl
   by_cases h2:r=32
   ·subst h2;rfl
   by_cases h4:r=64
   ·subst h4;rfl
   by_cases h3:r=128
   ·subst h3;rfl
   simp only[h1,h2,h3,h4,if_false])
 have hs4:Sim x0.w x0.F kAll ac (cS l [] [] 0 ((0:Nat):Int)) (nilCtx (nilCtx cY 32) 64) aY:=hs3
 clear hs1 hs2 hs3
 change Wq Try.prog _ _ _ _ _ (nilCtx (nilCtx cY 32) 64).w
 refine loop_rule (ι:={ s:Nat×List GateD×List GateD×Int // s.1≤l.length∧s.2.1.length≤s.1∧s.2.2.1.length≤4097∧0≤s.2.2.2∧s.2.2.2≤508*(s.1:Int)∧compL (l.drop s.1) s.2.1 s.2.2.1 s.2.2.2 (s.1:Int)=compL l [] [] 0 0 })
  (fun s=>cS l s.1.2.1 s.1.2.2.1 s.1.2.2.2 (s.1.1:Int)) (fun s=>l.length-s.1.1) (c:=lpC cpA_k) (k:=lpR cpA_k) (by kernel_rfl) (fun s ih ac cY aY hs=>?_) ⟨(0,[],[],0),Nat.zero_le _,Nat.zero_le _,Nat.zero_le _,Int.le_refl _,Int.le_refl _,rfl⟩ hs4
 obtain ⟨⟨i,T,G,n⟩,hi,hT,hG,hn,hn2,he⟩:=s
 simp only at ih hs hi hT hG hn hn2 he
 rw[←he]
 by_cases h:i<l.length
 ·obtain ⟨o,ho⟩:∃o,o=l.getD i op0:=⟨_,rfl⟩
  rw[drop_getO l h,←ho] at he ⊢
  by_cases hc:chkO o n=0
  ·have e1:compL (o::l.drop (i+1)) T G n (i:Int)=compL (l.drop (i+1)) (T++tellO o) (pushGs G (gatesO n o)) (n+nvO o) ((i:Int)+1):=if_pos hc
   rw[e1] at he ⊢
   have hnv:=nv_bound hc
   refine cpB l T G n i (by rw[Int.toNat_natCast,←ho];exact ⟨decide_eq_true (by omega),by omega,by omega,by show (chkO o n != 0)=false;rw[hc];rfl,trivial⟩) hs fun ac cU aU hs2=>?_
   rw[Int.toNat_natCast,←ho] at hs2
   obtain ⟨t,a,b,c,m,k,ks,vs⟩:=o
   have hs3:Sim x0.w x0.F kAll ac (cO l T G n i t a b c m k ks vs) cU aU:=hs2.nx _
   have fin:∀ac cY aY,Sim x0.w x0.F kAll ac (cS l (T++tellO ⟨t,a,b,c,m,k,ks,vs⟩) (pushGs G (gatesOf n t a b c m k ks vs)) (n+nvOf t m vs) ((i:Int)+1)) cY aY→Wq Try.prog _ (lpBk cpA_k) ac .normal aY cY.w:=fun ac cY aY hs4=>by
    refine ih ⟨(i+1,T++tellO ⟨t,a,b,c,m,k,ks,vs⟩,pushGs G (gatesOf n t a b c m k ks vs),n+nvOf t m vs),?_,?_,?_,?_,?_,?_⟩ (by show l.length-(i+1)<l.length-i;omega) ac cY aY hs4
    ·show i+1≤l.length;omega
    ·show (T++tellO _).length≤i+1
     rw[List.length_append]
     have:(tellO ⟨t,a,b,c,m,k,ks,vs⟩).length≤1:=by unfold tellO;split<;>simp
     omega
    ·exact pushGs_len hG
    ·have h1:0≤nvOf t m vs:=hnv.1
     show 0≤n+nvOf t m vs
     omega
    ·have h1:nvOf t m vs≤508:=hnv.2
     show n+nvOf t m vs≤508*((i+1:Nat):Int)
     omega
    ·exact he
   rw[he] at *
   have hc' : checkE t a b c m k ks vs n=0:=hc
   have b2:n≤600000:=by omega
   have b3:(0:Int)≤i:=by omega
   have b4:(i:Int)≤1000:=by omega
   have b6:T.length≤1000:=by omega
   have nt:∀{t:Int} {a b c m:Int} {k:U4} {ks:List U4} {vs:List Int},t≠2→T++tellO ⟨t,a,b,c,m,k,ks,vs⟩=T:=fun ht=>by unfold tellO;rw[if_neg ht,List.append_nil]
   by_cases g1:t=1
   ·subst g1;rw[nt (by decide)] at fin;exact cpT1 hn b2 b3 b4 hG b6 hs3 fin
   by_cases g2:t=2
   ·subst g2
    refine cpT2 hn b2 b3 b4 hG b6 hs3 fun ac cY aY hs4=>fin ac cY aY ?_
    rw[show n+nvOf 2 m vs=n from Int.add_zero n]
    exact hs4
   by_cases g3:t=3
   ·subst g3;rw[nt (by decide)] at fin;exact cpT3 hn b2 b3 b4 hG b6 hs3 fin
   by_cases g4:t=4
   ·subst g4;rw[nt (by decide)] at fin;exact cpT4 hn b2 b3 b4 hG b6 hs3 fin
   by_cases g5:t=5
   ·subst g5;rw[nt (by decide)] at fin;exact cpT5 hn b2 b3 b4 hG b6 hs3 fin
   by_cases g6:t=6
   ·subst g6;rw[nt (by decide)] at fin
    obtain ⟨q1,q2,q3⟩:=chk_lin hc'
    exact cpT6 hn b2 b3 b4 hG b6 q1 q2 q3 hs3 fin
   by_cases g7:t=7
   ·subst g7;rw[nt (by decide)] at fin;exact cpT7 hn b2 b3 b4 hG b6 hs3 fin
   by_cases g8:t=8
   ·subst g8;rw[nt (by decide)] at fin;exact cpT8 hn b2 b3 b4 hG b6 hs3 fin
   by_cases g9:t=9
   ·subst g9;rw[nt (by decide)] at fin;exact cpT9 hn b2 b3 b4 hG b6 hs3 fin
   by_cases g10:t=10
   ·subst g10;rw[nt (by decide)] at fin
    obtain ⟨q1,q2⟩:=chk_bits hc'
    exact cpT10 (N:=m.toNat) hn b2 b3 b4 hG b6 (by omega) (by omega) (by omega) hs3 fin
   by_cases g11:t=11
   ·subst g11;rw[nt (by decide)] at fin;exact cpT11 hn b2 b3 b4 hG b6 hs3 fin
   ·exfalso
    have:checkE t a b c m k ks vs n=61:=by simp [checkE, *]
    rw[this] at hc'
    cases hc'
  ·have e1:compL (o::l.drop (i+1)) T G n (i:Int) = .inr (chkO o n,(i:Int)):=if_neg hc
   rw[e1]
   refine run_end2 iD_ok hk hF (cpE_end l T G n i) (by rw[Int.toNat_natCast,←ho];exact ⟨decide_eq_true (by omega),by omega,by omega,by show (chkO o n != 0)=true;exact bne_iff_ne.2 hc,trivial⟩) (fun y v hd=>?_) hs
   rw[Int.toNat_natCast,←ho] at hd
   exact hd
 ·have e1:compL (l.drop i) T G n (i:Int) = .inl (T,G,n):=by rw[List.drop_eq_nil_of_le (by omega)];rfl
  rw[e1]
  have w0:wrap IntKind.i64 ((T.length:Int)+(G.length:Int))=(T.length:Int)+(G.length:Int):=wrap_id (by omega) (by omega)
  by_cases c1:T.length+G.length > 4096
  ·rw[show compE (.inl (T,G,n))=(([],0,0),2,0) from if_pos (.inl c1)]
   exact run_end2 iD_ok hk hF (cpX1_end l T G n i) (by rw[w0];exact ⟨decide_eq_false (by omega),decide_eq_true (by omega),trivial⟩) (fun y v hd=>hd) hs
  by_cases c2:T.length > 64
  ·rw[show compE (.inl (T,G,n))=(([],0,0),2,0) from if_pos (.inr c2)]
   exact run_end2 iD_ok hk hF (cpX2_end l T G n i) (by rw[w0];exact ⟨decide_eq_false (by omega),decide_eq_false (by omega),decide_eq_true (by omega),trivial⟩) (fun y v hd=>hd) hs
  ·rw[show compE (.inl (T,G,n))=((T++G,(T.length:Int),n),0,0) from if_neg (by omega)]
   exact run_end2 iD_ok hk hF (cpX3_end l T G n i) (by rw[w0];exact ⟨decide_eq_false (by omega),decide_eq_false (by omega),decide_eq_false (by omega),by omega,by simp only[maxLen];omega,rfl,rfl,by simp,trivial⟩) (fun y v hd=>hd) hs

end

set_option linter.unusedSimpArgs false
set_option linter.unusedVariables false
section

/-- What operations made: gates, values, inputs that are left, whether one was not met. -/
structure BD where
 g:List GateD
 w:List Fr
 j:List U4
 wr:Bool
def BD.es (B:BD):List En:=[.fl [.slc 1 0 B.g.length 23,.slc 2 0 (B.w.map outF).length 4,.sl (.fr B.j),.bool B.wr],.sq (.gate B.g),.sq (.fr (B.w.map outF))]
def inX (J:List U4):Fr:=if 0<J.length then inF (J.getD 0 0) else 0
def nextJ (J:List U4):List U4:=if 0<J.length then (J.drop 1).take (J.length-1) else J
/-- One operation more. -/
def opB (B:BD) (o:OpD):BD:=⟨B.g++gatesO (B.w.length:Int) o,B.w++valsOf B.w (inX B.j) o.tag o.a o.b o.c o.n o.k o.ks o.vars,if o.tag=1 then nextJ B.j else B.j,B.wr || wrongOf B.w o.tag o.a o.b o.n⟩
/-- Operations one by one: what they made, the error, the first that is wrong, the first that is not met. -/
def refL:List OpD→BD→Int→Int→BD×Int×Int×Int
 | [],B,ms,_=>(B,0,0,ms)
 | o::r,B,ms,i=>if chkO o (B.w.length:Int)=0 then refL r (opB B o) (if (opB B o).wr=true∧ms<0 then i else ms) (i+1) else (B,chkO o (B.w.length:Int),i,ms)
def refA (l:List OpD) (I:List U4):BD×Int×Int×Int:=if l.length > 1000 then (⟨[],[],I,false⟩,2,0,-1) else refL l ⟨[],[],I,false⟩ (-1) 0
def refSV (r:BD×Int×Int×Int):SV:=.t [.c (.ptr 0 0),.c (.int .i64 r.2.1),.c (.int .i64 r.2.2.1),.c (.int .i64 r.2.2.2)]

theorem nv_vals (W:List Fr) (x:Fr) {o:OpD} {n:Int} (h:chkO o n=0):((valsOf W x o.tag o.a o.b o.c o.n o.k o.ks o.vars).length:Int)=nvO o:=by
 obtain ⟨t,a,b,c,m,k,ks,vs⟩:=o
 unfold nvO nvOf valsOf
 unfold chkO at h
 dsimp only at h ⊢
 by_cases g1:t=1
 ·subst g1;rfl
 by_cases g3:t=3
 ·subst g3;rfl
 by_cases g4:t=4
 ·subst g4;rfl
 by_cases g5:t=5
 ·subst g5;rfl
 by_cases g6:t=6
 ·subst g6
  obtain ⟨q1,q2,q3⟩:=chk_lin h
  show (((if vs.length=1 then [inF (ks.getD 0 0)*vF W (vs.getD 0 0)] else linW W ks vs (vs.length-2)).length:Nat):Int)=if vs.length=1 then 1 else (vs.length:Int)-1
  by_cases hl:vs.length=1
  ·rw[if_pos hl,if_pos hl];rfl
  ·rw[if_neg hl,if_neg hl,linW_len];omega
 by_cases g8:t=8
 ·subst g8;rfl
 by_cases g9:t=9
 ·subst g9;rfl
 by_cases g10:t=10
 ·subst g10
  obtain ⟨q1,q2⟩:=chk_bits h
  show (((bitW (vF W a) m.toNat++accW (vF W a) (m.toNat-1)).length:Nat):Int)=2*m-1
  rw[List.length_append,bitW_len,accW_len]
  omega
 ·simp [*]
theorem inV_get {n v:Int} (h:inV n v=true):0≤v∧v<n:=by
 unfold inV at h
 simp only[Bool.and_eq_true,decide_eq_true_eq] at h
 exact h
theorem chk_a {t a b c m:Int} {k:U4} {ks:List U4} {vs:List Int} {n:Int} (h:checkE t a b c m k ks vs n=0) (ht:t=4∨t=5∨t=7∨t=8∨t=9∨t=10∨t=11):0≤a∧a<n:=by
 apply inV_get
 cases hv:inV n a with
 | true=>rfl
 | false=>
  exfalso
  rcases ht with rfl | rfl | rfl | rfl | rfl | rfl | rfl<;>simp [checkE,hv] at h
  split at h<;>simp at h
theorem chk_b {t a b c m:Int} {k:U4} {ks:List U4} {vs:List Int} {n:Int} (h:checkE t a b c m k ks vs n=0) (ht:t=4∨t=5∨t=8∨t=11):0≤b∧b<n:=by
 apply inV_get
 cases hv:inV n b with
 | true=>rfl
 | false=>
  exfalso
  rcases ht with rfl | rfl | rfl | rfl<;>simp [checkE,hv] at h
theorem chk_c {a b c m:Int} {k:U4} {ks:List U4} {vs:List Int} {n:Int} (h:checkE 8 a b c m k ks vs n=0):0≤c∧c<n:=by
 apply inV_get
 cases hv:inV n c with
 | true=>rfl
 | false=>exfalso;simp [checkE,hv] at h
theorem chk_vs {a b c m:Int} {k:U4} {ks:List U4} {vs:List Int} {n:Int} (h:checkE 6 a b c m k ks vs n=0):∀j,j<vs.length→0≤vs.getD j 0∧vs.getD j 0<n:=by
 obtain ⟨q1,q2,q3⟩:=chk_lin h
 unfold checkE at h
 rw[if_neg (by decide),if_pos rfl,if_neg (by omega)] at h
 intro j hj
 cases hv:vs.all (inV n) with
 | false=>rw[hv] at h;simp at h
 | true=>
  have:=List.all_eq_true.1 hv (vs.getD j 0) (by rw[List.getD_eq_getElem?_getD,List.getElem?_eq_getElem hj];exact List.getElem_mem hj)
  exact inV_get this

end

section
section
variable {w0:World} {F0:Nat→Prop} {K:Kp} {ac:List Act} {Q:Exit→Act→World→Prop} {cX:Ctx} {aX:Act}

theorem nil_sl {x:Ctx} {v:Value} (h:denS x (.v (.c (.val (.slice none 0 0)))) v):denS x (.v (.c (.sl (.fr [])))) v:=by
 obtain ⟨_,d,h⟩:=h
 have h:[v]=[Value.slice none 0 0]:=by cases d<;>exact h.1
 exact ⟨rfl,1,.inl ⟨none,0,h,rfl⟩⟩
section
variable (l:List OpD) (T:List GateD) (i:Int)
end
def toldL (l:List OpD):List GateD:=l.flatMap tellO
def allNilSpec:FnSpec
 | [.v (.c (.sl (.op l))),.v (.c (.val (.slice none 0 0)))]=>some ([],refSV (refA l []),[.fl [.slc 1 0 (refA l []).1.g.length 23,.slc 2 0 ((refA l []).1.w.map outF).length 4,.sl (.fr (refA l []).1.j),.bool (refA l []).1.wr],.sq (.gate (refA l []).1.g),.sq (.fr ((refA l []).1.w.map outF))])
 | _=>none
def rE1:Env:=rB.set (addT rB.fn 26 allNilSpec)
def toldSpec:FnSpec
 | [.v (.c (.sl (.op l)))]=>some ([l.length≤1000],.v (.c (.slc 0 0 (toldL l).length 23)),[.sq (.gate (toldL l))])
 | _=>none
def rE:Env:=rE1.set (addT rE1.fn 27 toldSpec)
end
end

set_option linter.unusedSimpArgs false
set_option linter.unusedVariables false
section

theorem pushG_cap {G:List GateD} {a:GateD} (h:G.length≤4097):pushG G a=(G++[a]).take 4097:=by
 unfold pushG
 split
 ·rw[List.take_of_length_le (by rw[List.length_append];show G.length+1≤4097;omega)]
 ·rw[List.take_append_of_le_length (by omega),List.take_of_length_le h]
theorem pushGs_cap:∀{g G:List GateD},G.length≤4097→pushGs G g=(G++g).take 4097
 | [],G,h=>by rw[List.append_nil,List.take_of_length_le h];rfl
 | a::g,G,h=>by
  show pushGs (pushG G a) g=_
  rw[pushGs_cap (pushG_len h),pushG_cap h]
  by_cases h2:G.length≤4096
  ·rw[List.take_of_length_le (l:=G++[a]) (by rw[List.length_append];show G.length+1≤4097;omega),List.append_assoc];rfl
  ·have e:G.length=4097:=by omega
   rw[List.take_append_of_le_length (l₁:=G) (by omega),List.take_of_length_le (l:=G) h,List.take_append_of_le_length (by omega),List.take_append_of_le_length (by omega)]

theorem ref_comp:∀(l:List OpD) (T:List GateD) (B:BD) (ms i:Int),
  compL l T (pushGs [] B.g) (B.w.length:Int) i=if (refL l B ms i).2.1≠0 then .inr ((refL l B ms i).2.1,(refL l B ms i).2.2.1) else .inl (T++toldL l,pushGs [] (refL l B ms i).1.g,((refL l B ms i).1.w.length:Int))
 | [],T,B,ms,i=>by
  rw[if_neg (by show ¬(0:Int)≠0;simp)]
  show Sum.inl (T,_,_)=Sum.inl (T++[],_,_)
  rw[List.append_nil]
  rfl
 | o::r,T,B,ms,i=>by
  by_cases hc:chkO o (B.w.length:Int)=0
  ·have e1:compL (o::r) T (pushGs [] B.g) (B.w.length:Int) i=compL r (T++tellO o) (pushGs (pushGs [] B.g) (gatesO (B.w.length:Int) o)) ((B.w.length:Int)+nvO o) (i+1):=if_pos hc
   have e2:refL (o::r) B ms i=refL r (opB B o) (if (opB B o).wr=true∧ms<0 then i else ms) (i+1):=if_pos hc
   rw[e1,e2,←pushGs_app]
   have e3:(B.w.length:Int)+nvO o=((opB B o).w.length:Int):=by
    have:=nv_vals B.w (inX B.j) hc
    show _=((B.w++valsOf B.w (inX B.j) o.tag o.a o.b o.c o.n o.k o.ks o.vars).length:Int)
    rw[List.length_append]
    omega
   rw[e3]
   have ih:=ref_comp r (T++tellO o) (opB B o) (if (opB B o).wr=true∧ms<0 then i else ms) (i+1)
   rw[List.append_assoc] at ih
   exact ih
  ·have e1:compL (o::r) T (pushGs [] B.g) (B.w.length:Int) i = .inr (chkO o (B.w.length:Int),i):=if_neg hc
   have e2:refL (o::r) B ms i=(B,chkO o (B.w.length:Int),i,ms):=if_neg hc
   rw[e1,e2,if_pos hc]

end

section

def b0 (I:List U4):BD:=⟨[],[],I,false⟩
/-- Operations one by one, until one is not met. -/
def solL:List OpD→BD→Int→BD ⊕ Int
 | [],B,_=>.inl B
 | o::r,B,i=>if (opB B o).wr=true then .inr i else solL r (opB B o) (i+1)
/-- How many are inputs. -/
def nIn:List OpD→Nat
 | []=>0
 | o::r=>(if o.tag=1 then 1 else 0)+nIn r
def solE:BD ⊕ Int→List Fr×Int×Int
 | .inl B=>(B.w,0,0)
 | .inr i=>([],70,i)
/-- The values of all variables, the error, which operation. -/
def solR (l:List OpD) (I:List U4):List Fr×Int×Int:=
 if (compR l).2.1≠0 then ([],(compR l).2.1,(compR l).2.2) else if nIn l≠I.length then ([],3,0) else solE (solL l (b0 I) 0)
def solSV (r:List Fr×Int×Int):SV:=.t [.c (.sl (.fr (r.1.map outF))),.c (.int .i64 r.2.1),.c (.int .i64 r.2.2)]

/-- Operations that are right, one after the other; what they made. -/
def okL:List OpD→BD→Prop
 | [],_=>True
 | o::r,B=>chkO o (B.w.length:Int)=0∧okL r (opB B o)
def finL (l:List OpD) (B:BD):BD:=l.foldl opB B
theorem finL_cons (o:OpD) (r:List OpD) (B:BD):finL (o::r) B=finL r (opB B o):=rfl
theorem refL_pos {o:OpD} {r:List OpD} {B:BD} {ms i:Int} (hc:chkO o (B.w.length:Int)=0):refL (o::r) B ms i=refL r (opB B o) (if (opB B o).wr=true∧ms<0 then i else ms) (i+1):=if_pos hc
theorem refL_neg {o:OpD} {r:List OpD} {B:BD} {ms i:Int} (hc:¬chkO o (B.w.length:Int)=0):refL (o::r) B ms i=(B,chkO o (B.w.length:Int),i,ms):=if_neg hc
theorem refL_ok:∀(l:List OpD) (B:BD) (ms i:Int),(refL l B ms i).2.1=0→okL l B∧(refL l B ms i).1=finL l B
 | [],_,_,_,_=>⟨trivial,rfl⟩
 | o::r,B,ms,i,h=>by
  by_cases hc:chkO o (B.w.length:Int)=0
  ·rw[refL_pos hc] at h ⊢
   obtain ⟨h1,h2⟩:=refL_ok r (opB B o) _ _ h
   exact ⟨⟨hc,h1⟩,h2⟩
  ·rw[refL_neg hc] at h
   exact absurd h hc
theorem refL_of_ok:∀(l:List OpD) (B:BD) (ms i:Int),okL l B→(refL l B ms i).2.1=0∧(refL l B ms i).1=finL l B
 | [],_,_,_,_=>⟨rfl,rfl⟩
 | o::r,B,ms,i,h=>by
  rw[refL_pos h.1]
  exact refL_of_ok r (opB B o) _ _ h.2
theorem refL_ms:∀(l:List OpD) (B:BD) (ms i:Int),okL l B→0≤ms→(refL l B ms i).2.2.2=ms
 | [],_,_,_,_,_=>rfl
 | o::r,B,ms,i,h,hm=>by
  rw[refL_pos h.1,if_neg fun h=>by omega]
  exact refL_ms r (opB B o) _ _ h.2 hm
/-- The reference goes on behind what is not met. -/
theorem ref_sol:∀(l:List OpD) (B:BD) (i:Int),okL l B→0≤i→(∃k,solL l B i = .inr k∧0≤k∧(refL l B (-1) i).2.2.2=k)∨(solL l B i = .inl (finL l B)∧(refL l B (-1) i).2.2.2 = -1)
 | [],B,i,_,_=>.inr ⟨rfl,rfl⟩
 | o::r,B,i,h,hi=>by
  rw[refL_pos h.1]
  by_cases hw:(opB B o).wr=true
  ·rw[if_pos ⟨hw,by decide⟩]
   exact .inl ⟨i,if_pos hw,hi,refL_ms r _ _ _ h.2 hi⟩
  ·rw[if_neg fun h=>hw h.1]
   have e:solL (o::r) B i=solL r (opB B o) (i+1):=if_neg hw
   rw[e]
   exact ref_sol r (opB B o) (i+1) h.2 (by omega)

/-- Alike but for inputs. -/
def alike (A B:BD):Prop:=A.g=B.g∧A.w.length=B.w.length
theorem alike_op {A B:BD} {o:OpD} (h:alike A B) (hc:chkO o (A.w.length:Int)=0):alike (opB A o) (opB B o):=by
 have hc2:chkO o (B.w.length:Int)=0:=h.2 ▸ hc
 have v1:=nv_vals A.w (inX A.j) hc
 have v2:=nv_vals B.w (inX B.j) hc2
 refine ⟨?_,?_⟩
 ·show A.g++gatesO (A.w.length:Int) o=B.g++gatesO (B.w.length:Int) o
  rw[h.1,h.2]
 ·show (A.w++valsOf A.w (inX A.j) o.tag o.a o.b o.c o.n o.k o.ks o.vars).length=(B.w++valsOf B.w (inX B.j) o.tag o.a o.b o.c o.n o.k o.ks o.vars).length
  rw[List.length_append,List.length_append,h.2]
  omega
theorem alike_all:∀(l:List OpD) (A B:BD),alike A B→okL l A→okL l B∧alike (finL l A) (finL l B)
 | [],_,_,h,_=>⟨trivial,h⟩
 | o::r,A,B,h,hk=>by
  have h2:=alike_op h hk.1
  obtain ⟨h3,h4⟩:=alike_all r _ _ h2 hk.2
  exact ⟨⟨h.2 ▸ hk.1,h3⟩,h4⟩
theorem finL_g:∀(l:List OpD) (B:BD),B.g.length≤(finL l B).g.length
 | [],_=>Nat.le_refl _
 | o::r,B=>by
  have h1:=finL_g r (opB B o)
  have h2:(opB B o).g.length=B.g.length+(gatesO (B.w.length:Int) o).length:=List.length_append
  show _≤(finL r (opB B o)).g.length
  omega
theorem finL_w:∀(l:List OpD) (B:BD),okL l B→(finL l B).w.length≤B.w.length+508*l.length
 | [],_,_=>Nat.le_refl _
 | o::r,B,h=>by
  have h1:=finL_w r (opB B o) h.2
  have h2:=nv_vals B.w (inX B.j) h.1
  have h4:=nv_bound h.1
  have h3:(opB B o).w.length=B.w.length+(valsOf B.w (inX B.j) o.tag o.a o.b o.c o.n o.k o.ks o.vars).length:=List.length_append
  show (finL r (opB B o)).w.length≤_
  rw[List.length_cons]
  omega
theorem okL_app:∀(l r:List OpD) (B:BD),okL (l++r) B↔okL l B∧okL r (finL l B)
 | [],_,_=>⟨fun h=>⟨trivial,h⟩,fun h=>h.2⟩
 | o::l,r,B=>by
  show chkO o (B.w.length:Int)=0∧okL (l++r) (opB B o)↔(chkO o (B.w.length:Int)=0∧okL l (opB B o))∧okL r (finL l (opB B o))
  rw[okL_app l r (opB B o),and_assoc]
theorem finL_app (l r:List OpD) (B:BD):finL (l++r) B=finL r (finL l B):=List.foldl_append
theorem toldL_app (l r:List OpD):toldL (l++r)=toldL l++toldL r:=List.flatMap_append

/-- When the gates of operations are told, and as what. -/
theorem comp_ok {l:List OpD} (h:(compR l).2.1=0):l.length≤1000∧okL l (b0 [])∧(toldL l).length+(finL l (b0 [])).g.length≤4096∧(toldL l).length≤64∧compR l=((toldL l++(finL l (b0 [])).g,((toldL l).length:Int),((finL l (b0 [])).w.length:Int)),0,0):=by
 unfold compR at h ⊢
 split at h
 ·cases h
 rename_i hl
 rw[if_neg hl]
 have e:compL l [] [] 0 0=_:=ref_comp l [] (b0 []) (-1) 0
 rw[e] at h ⊢
 split at h
 ·rename_i h1
  exact absurd h h1
 rename_i h1
 obtain ⟨k1,k2⟩:=refL_ok l (b0 []) (-1) 0 (Decidable.not_not.1 h1)
 rw[if_neg h1]
 rw[k2,pushGs_cap (Nat.zero_le _),List.nil_append,List.nil_append] at h ⊢
 have h2:¬((toldL l).length+((finL l (b0 [])).g.take 4097).length > 4096∨(toldL l).length > 64):=fun h2=>by
  rw[show compE (.inl (toldL l,(finL l (b0 [])).g.take 4097,((finL l (b0 [])).w.length:Int)))=(([],0,0),2,0) from if_pos h2] at h
  cases h
 rw[List.length_take] at h2
 have h3:(finL l (b0 [])).g.length≤4096:=by omega
 rw[List.take_of_length_le (l:=(finL l (b0 [])).g) (by omega)]
 refine ⟨by omega,k1,by omega,by omega,?_⟩
 exact if_neg (by omega)
theorem comp_of {l:List OpD} (h1:l.length≤1000) (h2:okL l (b0 [])) (h3:(toldL l).length+(finL l (b0 [])).g.length≤4096) (h4:(toldL l).length≤64):(compR l).2.1=0:=by
 unfold compR
 rw[if_neg (by omega)]
 have e:compL l [] [] 0 0=_:=ref_comp l [] (b0 []) (-1) 0
 obtain ⟨k1,k2⟩:=refL_of_ok l (b0 []) (-1) 0 h2
 rw[e,if_neg (not_not_intro k1),k2,pushGs_cap (Nat.zero_le _),List.nil_append,List.nil_append,List.take_of_length_le (by omega)]
 unfold compE
 dsimp only
 rw[if_neg (by omega)]

theorem nIn_le:∀l:List OpD,nIn l≤l.length
 | []=>Nat.le_refl _
 | o::r=>by
  have:=nIn_le r
  show (if o.tag=1 then 1 else 0)+nIn r≤r.length+1
  split<;>omega
theorem nIn_app:∀l r:List OpD,nIn (l++r)=nIn l+nIn r
 | [],r=>(Nat.zero_add _).symm
 | o::l,r=>by
  show (if o.tag=1 then 1 else 0)+nIn (l++r)=(if o.tag=1 then 1 else 0)+nIn l+nIn r
  rw[nIn_app l r,Nat.add_assoc]
end

section
section
variable {w0:World} {F0:Nat→Prop} {K:Kp} {ac:List Act} {Q:Exit→Act→World→Prop} {cX:Ctx} {aX:Act}

def rF:Env:={ iC with inl:=addI iC.inl 22 Try.f22 }
theorem rF_ok:EnvOk Try.prog rF:=⟨iC_ok.ty,iC_ok.mixed,iC_ok.fn,iC_ok.mu,inl_add iC_ok.inl Try.func22 (enters_of Try.func22 rfl rfl),iC_ok.ex,iC_ok.inv⟩
--@env rF rF_ok
def owA_k:List KI:=(run rF false 3000 ((fun (l:List OpD)=>(⟨[.code (bodyOf Try.f8)],.normal,initSt Try.f8.ntmps [.v (.c (.sl (.op l)))]⟩:Cfg)) default) [true]).cfg.k
section
variable (l:List OpD)
theorem owA (ho:AllP [(((0+l.length)*120)≤140737488355328),((0+l.length)≤maxLen),(0=0),((decide ((((0+l.length):Nat):Int)≤(1000:Int)))=true),(0=0),(11=11),(0≤(ite ((20:Int)<(((0+l.length):Nat):Int)) (20:Int) (((0+l.length):Nat):Int))),((ite ((20:Int)<(((0+l.length):Nat):Int)) (20:Int) (((0+l.length):Nat):Int))≤(((0+l.length):Nat):Int))]):Sg Try.prog (initSt Try.f8.ntmps [.v (.c (.sl (.op l)))]) (mkSt 49 [0,14,15] [(.ci (.slc 32 0 ((ite ((20:Int)<(((0+l.length):Nat):Int)) (20:Int) (((0+l.length):Nat):Int))).toNat 11)),(.ii ((((ite ((20:Int)<(((0+l.length):Nat):Int)) (20:Int) (((0+l.length):Nat):Int))).toNat:Nat):Int)),.ii (0:Int)] [32] [(eQ (.op l))] 288 [[]] [([],7)]) .normal (owA_k) ([.code (bodyOf Try.f8)]):=fun hs hK=>
 run_at2 (unroll:=false) (n:=3000) (path:=[true]) (o:=⟨_,_,_,_,_,_,_⟩) rF_ok (by kernel_rfl) (by kernel_rfl) ho hs hK
theorem owB (ho:AllP [(((0+l.length)*120)≤140737488355328),((0+l.length)≤maxLen),(0=0),((decide ((((0+l.length):Nat):Int)≤(1000:Int)))=false)]):Sg Try.prog (initSt Try.f8.ntmps [.v (.c (.sl (.op l)))]) (mkSt 49 [0,14,15] [(.ci (.slc 32 0 (0+l.length) 11)),(.ii (((0+l.length):Nat):Int)),.ii (0:Int)] [32] [(eQ (.op l))] 192 [[]] [([],7)]) .normal (owA_k) ([.code (bodyOf Try.f8)]):=fun hs hK=>
 run_at2 (unroll:=false) (n:=3000) (path:=[false]) (o:=⟨_,_,_,_,_,_,_⟩) rF_ok (by kernel_rfl) (by kernel_rfl) ho hs hK
def owS (m:List OpD) (i:Int):St:=mkSt 49 [0,14,15] [.v (.c (.slc 32 0 m.length 11)),.v (.c (.int .i64 (m.length:Int))),.v (.c (.int .i64 i))] [32] [some (.sq (.op m))] 288 [[]] [([],7)]
end
section
variable (m:List OpD) (i:Int)
theorem owC (ho:AllP [((decide (i<(m.length:Int)))=true),(0≤i),(i<(m.length:Int)),(0=0),((i).toNat<m.length),(((OpD.tag (List.getD m (i).toNat op0)) == (10:Int))=true),((i).toNat<m.length),((decide ((OpD.n (List.getD m (i).toNat op0)) > (40:Int)))=true),((i).toNat<m.length),((decide ((OpD.n (List.getD m (i).toNat op0))<(254:Int)))=true),((decide (i > (3:Int)))=true),((i).toNat<m.length)]):Sg Try.prog (owS m i) (mkSt 49 [0,14,15] [(.ci (.slc 32 0 m.length 11)),(.ii (m.length:Int)),(.ii (wrap .i64 (i+1)))] [32] [(eQ (.op (List.set m (i).toNat (OpD.mk (OpD.tag (List.getD m (i).toNat op0)) (OpD.a (List.getD m (i).toNat op0)) (OpD.b (List.getD m (i).toNat op0)) (OpD.c (List.getD m (i).toNat op0)) (40:Int) (OpD.k (List.getD m (i).toNat op0)) (OpD.ks (List.getD m (i).toNat op0)) (OpD.vars (List.getD m (i).toNat op0))))))] 864 [[]] [([],7)]) .normal (lpBk owA_k) (lpIn owA_k):=fun hs hK=>
 run_at2 (unroll:=false) (n:=3000) (path:=[true,true,true,true,true]) (o:=⟨_,_,_,_,_,_,_⟩) rF_ok (by kernel_rfl) (by kernel_rfl) ho hs hK
theorem owD (ho:AllP [((decide (i<(m.length:Int)))=true),(0≤i),(i<(m.length:Int)),(0=0),((i).toNat<m.length),(((OpD.tag (List.getD m (i).toNat op0)) == (10:Int))=true),((i).toNat<m.length),((decide ((OpD.n (List.getD m (i).toNat op0)) > (40:Int)))=true),((i).toNat<m.length),((decide ((OpD.n (List.getD m (i).toNat op0))<(254:Int)))=true),((decide (i > (3:Int)))=false)]):Sg Try.prog (owS m i) (mkSt 49 [0,14,15] [(.ci (.slc 32 0 m.length 11)),(.ii (m.length:Int)),(.ii (wrap .i64 (i+1)))] [32] [(eQ (.op m))] 800 [[]] [([],7)]) .normal (lpBk owA_k) (lpIn owA_k):=fun hs hK=>
 run_at2 (unroll:=false) (n:=3000) (path:=[true,true,true,true,false]) (o:=⟨_,_,_,_,_,_,_⟩) rF_ok (by kernel_rfl) (by kernel_rfl) ho hs hK
theorem owE (ho:AllP [((decide (i<(m.length:Int)))=true),(0≤i),(i<(m.length:Int)),(0=0),((i).toNat<m.length),(((OpD.tag (List.getD m (i).toNat op0)) == (10:Int))=true),((i).toNat<m.length),((decide ((OpD.n (List.getD m (i).toNat op0)) > (40:Int)))=true),((i).toNat<m.length),((decide ((OpD.n (List.getD m (i).toNat op0))<(254:Int)))=false)]):Sg Try.prog (owS m i) (mkSt 49 [0,14,15] [(.ci (.slc 32 0 m.length 11)),(.ii (m.length:Int)),(.ii (wrap .i64 (i+1)))] [32] [(eQ (.op m))] 800 [[]] [([],7)]) .normal (lpBk owA_k) (lpIn owA_k):=fun hs hK=>
 run_at2 (unroll:=false) (n:=3000) (path:=[true,true,true,false]) (o:=⟨_,_,_,_,_,_,_⟩) rF_ok (by kernel_rfl) (by kernel_rfl) ho hs hK
theorem owF (ho:AllP [((decide (i<(m.length:Int)))=true),(0≤i),(i<(m.length:Int)),(0=0),((i).toNat<m.length),(((OpD.tag (List.getD m (i).toNat op0)) == (10:Int))=true),((i).toNat<m.length),((decide ((OpD.n (List.getD m (i).toNat op0)) > (40:Int)))=false)]):Sg Try.prog (owS m i) (mkSt 49 [0,14,15] [(.ci (.slc 32 0 m.length 11)),(.ii (m.length:Int)),(.ii (wrap .i64 (i+1)))] [32] [(eQ (.op m))] 800 [[]] [([],7)]) .normal (lpBk owA_k) (lpIn owA_k):=fun hs hK=>
 run_at2 (unroll:=false) (n:=3000) (path:=[true,true,false,false]) (o:=⟨_,_,_,_,_,_,_⟩) rF_ok (by kernel_rfl) (by kernel_rfl) ho hs hK
theorem owG (ho:AllP [((decide (i<(m.length:Int)))=true),(0≤i),(i<(m.length:Int)),(0=0),((i).toNat<m.length),(((OpD.tag (List.getD m (i).toNat op0)) == (10:Int))=false)]):Sg Try.prog (owS m i) (mkSt 49 [0,14,15] [(.ci (.slc 32 0 m.length 11)),(.ii (m.length:Int)),(.ii (wrap .i64 (i+1)))] [32] [(eQ (.op m))] 800 [[]] [([],7)]) .normal (lpBk owA_k) (lpIn owA_k):=fun hs hK=>
 run_at2 (unroll:=false) (n:=3000) (path:=[true,false,false,false]) (o:=⟨_,_,_,_,_,_,_⟩) rF_ok (by kernel_rfl) (by kernel_rfl) ho hs hK
end
theorem owX_end (m:List OpD) (i:Int):runEnd rF Try.f8 false 3000 (⟨lpIn owA_k,.normal,owS m i⟩) [false] [] [32]=(some ([((decide (i<(m.length:Int)))=false),(m.length=m.length)],((.ci (.sl (.op m))),[]))):=by kernel_rfl
end
end

set_option linter.unusedSimpArgs false
set_option linter.unusedVariables false
section

def fewO (i:Nat) (o:OpD):OpD:=if o.tag=10∧o.n > 40∧o.n<254∧3<i then ⟨o.tag,o.a,o.b,o.c,40,o.k,o.ks,o.vars⟩ else o
def fewL:Nat→List OpD→List OpD
 | _,[]=>[]
 | i,o::r=>fewO i o::fewL (i+1) r
theorem fewL_len:∀(i:Nat) (l:List OpD),(fewL i l).length=l.length
 | _,[]=>rfl
 | i,_::r=>congrArg (· + 1) (fewL_len (i+1) r)
def ownL (l:List OpD):List OpD:=fewL 0 (if l.length≤1000 then l.take 20 else l)

theorem getD_mid (P:List OpD) (o:OpD) (R:List OpD):(P++o::R).getD P.length op0=o:=by simp [List.getD]
theorem set_mid (P:List OpD) (o u:OpD) (R:List OpD):(P++o::R).set P.length u=P++u::R:=by simp

theorem few_loop {x0:Ctx} (M:List OpD) (hM:M.length*120≤140737488355328) (hk:∀p,x0.k p = .no) (hF:∀b,x0.F b→b<x0.w.heap.size) {Q:Exit→Act→World→Prop} {ac:List Act} {cY:Ctx} {aY:Act}
  (hX:∀(ac:List Act) (cY:Ctx) (aY:Act),Sim x0.w x0.F kAll ac (owS (fewL 0 M) (M.length:Int)) cY aY→Wq Try.prog Q (lpIn owA_k) ac .normal aY cY.w)
  (hs1:Sim x0.w x0.F kAll ac (owS M 0) cY aY):Wq Try.prog Q owA_k ac .normal aY cY.w:=by
 refine loop_rule (ι:={ s:List OpD×List OpD // s.1.length+s.2.length=M.length∧fewL 0 M=s.1++fewL s.1.length s.2 }) (fun s=>owS (s.1.1++s.1.2) (s.1.1.length:Int)) (fun s=>s.1.2.length) (c:=lpC owA_k) (k:=lpR owA_k) (by kernel_rfl) (fun s ih ac cY aY hs=>?_) ⟨([],M),by simp,rfl⟩ hs1
 obtain ⟨⟨P,R⟩,hl,he⟩:=s
 simp only at ih hs hl he
 cases R with
 | nil=>
  have e:P++[]=fewL 0 M:=by rw[he];rfl
  have e2:P.length=M.length:=by simpa using hl
  rw[e,e2] at hs
  exact hX ac cY aY hs
 | cons o R=>
  rw[List.length_cons] at hl
  have wi:wrap IntKind.i64 ((P.length:Int)+1)=((P.length+1:Nat):Int):=by rw[wrap_id (by omega) (by omega)];omega
  have hlen:(P++o::R).length=M.length:=by rw[List.length_append,List.length_cons];omega
  have step:∀(u:OpD),fewO P.length o=u→∀(ac:List Act) (cU:Ctx) (aU:Act),Sim x0.w x0.F kAll ac (owS (P++u::R) ((P.length+1:Nat):Int)) cU aU→Wq Try.prog Q (lpBk owA_k) ac .normal aU cU.w:=by
   intro u hu ac cU aU h
   refine ih ⟨(P++[u],R),by rw[List.length_append];show P.length+1+R.length=_;omega,?_⟩ (by show R.length<R.length+1;omega) ac cU aU ?_
   ·rw[he,List.length_append,List.append_assoc]
    show P++(fewO P.length o::fewL (P.length+1) R)=_
    rw[hu]
    rfl
   ·show Sim x0.w x0.F kAll ac (owS ((P++[u])++R) (((P++[u]).length:Nat):Int)) cU aU
    rw[List.append_assoc,List.length_append]
    exact h
  have g:(P++o::R).getD ((P.length:Int)).toNat op0=o:=by rw[Int.toNat_natCast];exact getD_mid P o R
  have hi:(P.length:Int)<((P++o::R).length:Int):=by omega
  have hi2:((P.length:Int)).toNat<(P++o::R).length:=by omega
  by_cases c1:o.tag=10
  ·by_cases c2:o.n > 40
   ·by_cases c3:o.n<254
    ·by_cases c4:3<P.length
     ·refine owC (P++o::R) P.length (by rw[g];exact ⟨decide_eq_true hi,by omega,hi,rfl,hi2,beq_iff_eq.2 c1,hi2,decide_eq_true c2,hi2,decide_eq_true c3,decide_eq_true (by omega),hi2,trivial⟩) hs fun ac cU aU hs2=>?_
      rw[g,wi,Int.toNat_natCast,set_mid] at hs2
      refine step _ (if_pos ⟨c1,c2,c3,c4⟩) ac cU aU ?_
      have hs3:=hs2.nx 288
      have el:(P++o::R).length=(P++(⟨o.tag,o.a,o.b,o.c,40,o.k,o.ks,o.vars⟩:OpD)::R).length:=by rw[List.length_append,List.length_append];rfl
      rw[el] at hs3
      exact hs3
     ·refine owD (P++o::R) P.length (by rw[g];exact ⟨decide_eq_true hi,by omega,hi,rfl,hi2,beq_iff_eq.2 c1,hi2,decide_eq_true c2,hi2,decide_eq_true c3,decide_eq_false (by omega),trivial⟩) hs fun ac cU aU hs2=>?_
      rw[wi] at hs2
      exact step _ (if_neg fun h=>c4 h.2.2.2) ac cU aU (hs2.nx 288)
    ·refine owE (P++o::R) P.length (by rw[g];exact ⟨decide_eq_true hi,by omega,hi,rfl,hi2,beq_iff_eq.2 c1,hi2,decide_eq_true c2,hi2,decide_eq_false c3,trivial⟩) hs fun ac cU aU hs2=>?_
     rw[wi] at hs2
     exact step _ (if_neg fun h=>c3 h.2.2.1) ac cU aU (hs2.nx 288)
   ·refine owF (P++o::R) P.length (by rw[g];exact ⟨decide_eq_true hi,by omega,hi,rfl,hi2,beq_iff_eq.2 c1,hi2,decide_eq_false c2,trivial⟩) hs fun ac cU aU hs2=>?_
    rw[wi] at hs2
    exact step _ (if_neg fun h=>c2 h.2.1) ac cU aU (hs2.nx 288)
  ·refine owG (P++o::R) P.length (by rw[g];exact ⟨decide_eq_true hi,by omega,hi,rfl,hi2,beq_eq_false_iff_ne.2 c1,trivial⟩) hs fun ac cU aU hs2=>?_
   rw[wi] at hs2
   exact step _ (if_neg fun h=>c1 h.1) ac cU aU (hs2.nx 288)

theorem own_fnd (l:List OpD) (hl:l.length*120≤140737488355328):FnD Try.prog 8 [.v (.c (.sl (.op l)))] (.v (.c (.sl (.op (ownL l))))) []:=by
 refine fn_start (fn:=Try.f8) (c:=bodyOf Try.f8) Try.func8 rfl rfl fun x0 a0 hk hF hs0=>?_
 have fin:∀(M:List OpD),M.length*120≤140737488355328→fewL 0 M=ownL l→∀(ac:List Act) (cY:Ctx) (aY:Act),Sim x0.w x0.F kAll ac (owS M 0) cY aY→Wq Try.prog (Post Try.prog Try.f8 x0 (.v (.c (.sl (.op (ownL l))))) []) owA_k ac .normal aY cY.w:=by
  intro M hM hM2 ac cY aY hs
  refine few_loop M hM hk hF (fun ac cY aY hs=>?_) hs
  rw[hM2] at hs
  exact run_end2 rF_ok hk hF (owX_end (ownL l) M.length) ⟨decide_eq_false (by rw[←hM2,fewL_len];omega),rfl,trivial⟩ (fun y v hd=>hd) hs
 by_cases h:l.length≤1000
 ·refine owA l ⟨by omega,by simp only[maxLen];omega,rfl,decide_eq_true (by omega),rfl,rfl,by split<;>omega,by split<;>omega,trivial⟩ hs0 fun ac cY aY hs1=>?_
  have e:(if (20:Int)<((0+l.length:Nat):Int) then (20:Int) else ((0+l.length:Nat):Int)).toNat=(l.take 20).length:=by rw[List.length_take];split<;>omega
  rw[e] at hs1
  have hs2:=Sim.subRow (ens' := [some (.sq (.op (l.take 20)))]) hs1 (z:=32) (q:=.op l) (q' := .op (l.take 20)) rfl (by show (l.take 20).length≤l.length;rw[List.length_take];omega) rfl (fun i hi=>?_) (fun r=>by simp only[look];split<;>rfl)
  ·exact fin (l.take 20) (by rw[List.length_take];omega) (by unfold ownL;rw[if_pos h]) ac cY aY (hs2.nx 288)
  ·have hi:i<(l.take 20).length:=hi
   rw[List.length_take] at hi
   show ((l.take 20).getD i op0).its=(l.getD i op0).its
   congr 1
   simp [List.getD,List.getElem?_take,show i<20 by omega]
 ·refine owB l ⟨by omega,by simp only[maxLen];omega,rfl,decide_eq_false (by omega),trivial⟩ hs0 fun ac cY aY hs1=>?_
  rw[Nat.zero_add] at hs1
  exact fin l hl (by unfold ownL;rw[if_neg h]) ac cY aY (hs1.nx 288)
end

section

/-- An input. -/
def opI:OpD:=⟨1,0,0,0,0,0,[],[]⟩
--@env hD hD_ok
--@unroll true
theorem ckI (n:Int):fnRes hD Try.f23 3000 [.v (.a opI.its),.v (.c (.int .i64 n))] [true,true,false,false] [] []=(some ([(((1:Int)==1)=true),(((1:Int)==1)=true),((decide (0<(0:Int)))=false),((decide ((-1) ≥ (0:Int)))=false)],((.ii (0:Int)),[]))):=by kernel_rfl
theorem checkI_fnd (n:Int):FnD Try.prog 23 [.v (.a opI.its),.v (.c (.int .i64 n))] (.v (.c (.int .i64 0))) []:=fn_sound hD_ok Try.func23 (ckI n) (by simp [AllP])
def checkISpec:FnSpec
 | [.v (.a [.int .i64 t,.int .i64 a,.int .i64 b,.int .i64 c,.int .i64 m,.ob (.fr k),.sl (.fr []),.sl (.int [])]),.v (.c (.int .i64 n))]=>some ([t=1,a=0,b=0,c=0,m=0,k=0],.v (.c (.int .i64 0)),[])
 | _=>none
def hE:Env:=hD.set (addT hD.fn 23 checkISpec)
theorem hE_ok:EnvOk Try.prog hE:=env_add hD_ok 23 checkISpec (enters_of Try.func23 rfl rfl) fun args o r es h ho=>by
 unfold checkISpec at h
 split at h
 ·cases h;exact (by obtain ⟨rfl,rfl,rfl,rfl,rfl,rfl,_⟩:=ho;exact checkI_fnd _)
 ·cases h
/-- Stepped into besides: what an operation does. -/
def inlC (T:Nat→Option Func) (f:Nat):Option Func:=if f=25 then some Try.f25 else if f=46 then some Try.f46 else T f
def hF:Env:={ hE with inl:=inlC hE.inl }
theorem hF_ok:EnvOk Try.prog hF:=by
 refine ⟨hE_ok.ty,hE_ok.mixed,hE_ok.fn,hE_ok.mu,fun f fn h=>?_,hE_ok.ex,hE_ok.inv⟩
 have h:inlC hE.inl f=some fn:=h
 unfold inlC at h
 split at h
 ·rename_i hf;cases h;subst hf;exact ⟨Try.func25,enters_of Try.func25 rfl rfl⟩
 split at h
 ·rename_i hf;cases h;subst hf;exact ⟨Try.func46,enters_of Try.func46 rfl rfl⟩
 exact hE_ok.inl f fn h
--@env hF hF_ok
theorem cpI  : fnRes hF Try.f9 3000 [.v (.c (.sl (.op [opI])))] [false,true,false,false,true,false,false,false] [1328] []=(some ([((decide ((1:Int) > (1000:Int)))=false),((decide (0<(1:Int)))=true),(0≤(0:Int)),(0<(1:Int)),((1:Int)=(1:Int)),((0:Int)=(0:Int)),((0:Int)=(0:Int)),((0:Int)=(0:Int)),((0:Int)=(0:Int)),((OpD.k opI)=(0:U4)),(((0:Int) != (0:Int))=false),(((1:Int)==2)=false),(((1:Int)==1)=true),((decide ((1:Int)<(1:Int)))=false),((decide ((0:Int) > (4096:Int)))=false),((decide ((0:Int) > (64:Int)))=false),(0≤140737488355328),(0≤maxLen)],((.t [(.a [(.slc 0 0 0 23),(.int .i64 (0:Int)),(.int .i64 (1:Int))]),(.c (.int .i64 (0:Int))),(.c (.int .i64 (0:Int)))]),[(.sq (.gate ([]:List GateD)))]))):=by kernel_rfl
theorem compI_fnd:FnD Try.prog 9 [.v (.c (.sl (.op [opI])))] (.t [.a [.slc 0 0 0 23,.int .i64 0,.int .i64 1],.c (.int .i64 0),.c (.int .i64 0)]) [.sq (.gate [])]:=fn_sound hF_ok Try.func9 cpI (by simp [AllP,opI,maxLen])
def compISpec:FnSpec
 | [.v (.c (.sl (.op [⟨t,a,b,c,m,k,[],[]⟩])))]=>some ([t=1,a=0,b=0,c=0,m=0,k=0],.t [.a [.slc 0 0 0 23,.int .i64 0,.int .i64 1],.c (.int .i64 0),.c (.int .i64 0)],[.sq (.gate [])])
 | _=>none
def hG:Env:=hD.set (addT hD.fn 9 compISpec)
theorem hG_ok:EnvOk Try.prog hG:=env_add hD_ok 9 compISpec (enters_of Try.func9 rfl rfl) fun args o r es h ho=>by
 unfold compISpec at h
 split at h
 ·cases h;exact (by obtain ⟨rfl,rfl,rfl,rfl,rfl,rfl,_⟩:=ho;exact compI_fnd)
 ·cases h
--@env hG hG_ok
--@unroll false
theorem alI  : fnRes hG Try.f11 3000 [] [true,true] [] []=(some ([(0=0),(1=1),(11=11),((1:Int)=(1:Int)),((0:Int)=(0:Int)),((0:Int)=(0:Int)),((0:Int)=(0:Int)),((0:Int)=(0:Int)),((0:U4)=(0:U4)),(((0:Int)==0)=true)],((.ci (.bool ((1:Int)==1))),[]))):=by kernel_rfl
end

section
section
variable {w0:World} {F0:Nat→Prop} {K:Kp} {ac:List Act} {Q:Exit→Act→World→Prop} {cX:Ctx} {aX:Act}

theorem aliveC_fnd:FnD Try.prog 11 [] (.v (.c (.bool true))) []:=(fn_sound hG_ok Try.func11 alI (by simp [AllP])).conv (fun _ _ h=>h) fun _ _ hd=>hd
end
end

section
section
variable {w0:World} {F0:Nat→Prop} {K:Kp} {ac:List Act} {Q:Exit→Act→World→Prop} {cX:Ctx} {aX:Act}

theorem wire_fnd (l:List U4) (i:Int) (h:i<l.length):FnD Try.prog 71 [.v (.c (.sl (.fr l))),.v (.c (.int .i64 i))] (.v (.a [.ob (.fr (outF (wireF l i)))])) []:=by
 by_cases h0:i<0
 ·have e:wireF l i=0:=if_pos h0
  have r:=wrA l i
  rw[e,(outF_zero 0).2 rfl]
  exact fn_sound hD_ok Try.func71 r ⟨decide_eq_true h0,trivial⟩
 ·have e:wireF l i=inF (l.getD i.toNat 0):=if_neg h0
  have r:=wrB l i
  rw[clean_out] at r
  rw[e]
  exact fn_sound hD_ok Try.func71 r ⟨decide_eq_false h0,by omega,h,trivial⟩
theorem wire2_fnd (l:List U4) (i:Int) (h:i<l.length):FnD Try.prog 28 [.v (.c (.int .i64 i)),.v (.c (.rp (.frs [l]) 0 0))] (.v (.a [.ob (.s (wireF l i))])) []:=by
 by_cases h0:i<0
 ·have e:wireF l i=0:=if_pos h0
  rw[e]
  exact fn_sound hD_ok Try.func28 (wiA l i) ⟨decide_eq_true h0,trivial⟩
 ·have e:wireF l i=inF (l.getD i.toNat 0):=if_neg h0
  rw[e]
  exact fn_sound hD_ok Try.func28 (wiB l i) ⟨decide_eq_false h0,by omega,h,trivial⟩
def wireSpec:FnSpec
 | [.v (.c (.sl (.fr l))),.v (.c (.int .i64 i))]=>some ([i<l.length],.v (.a [.ob (.fr (outF (wireF l i)))]),[])
 | _=>none
def hwA:Env:=hD.set (addT hD.fn 71 wireSpec)
theorem hwA_ok:EnvOk Try.prog hwA:=env_add hD_ok 71 wireSpec (enters_of Try.func71 rfl rfl) fun args o r es h ho=>by
 unfold wireSpec at h
 split at h
 ·cases h;exact wire_fnd _ _ ho.1
 ·cases h
def wireSpec2:FnSpec
 | [.v (.c (.int .i64 i)),.v (.c (.rp (.frs [l]) 0 0))]=>some ([i<l.length],.v (.a [.ob (.s (wireF l i))]),[])
 | _=>none
def hwB:Env:=hwA.set (addT hwA.fn 28 wireSpec2)
theorem hwB_ok:EnvOk Try.prog hwB:=env_add hwA_ok 28 wireSpec2 (enters_of Try.func28 rfl rfl) fun args o r es h ho=>by
 unfold wireSpec2 at h
 split at h
 ·cases h;exact wire2_fnd _ _ ho.1
 ·cases h
--@env hwB hwB_ok
theorem hoA (l:List GateD) (p v:Int) (V P:List U4):fnRes hwB Try.f15 3000 [circV l p v,.v (.c (.sl (.fr V))),.v (.c (.sl (.fr P)))] [true] [] []=(some ([((Bool.not (rightB l p v))=true)],((.t [(.c (.int .i64 (0:Int))),(.c (.int .i64 (1:Int)))]),[]))):=by kernel_rfl
theorem hoB (l:List GateD) (p v:Int) (V P:List U4):fnRes hwB Try.f15 3000 [circV l p v,.v (.c (.sl (.fr V))),.v (.c (.sl (.fr P)))] [false,true,true] [] []=(some ([((Bool.not (rightB l p v))=false),(((V.length:Int) != v)=true)],((.t [(.c (.int .i64 (0:Int))),(.c (.int .i64 (3:Int)))]),[]))):=by kernel_rfl
theorem hoC (l:List GateD) (p v:Int) (V P:List U4):fnRes hwB Try.f15 3000 [circV l p v,.v (.c (.sl (.fr V))),.v (.c (.sl (.fr P)))] [false,false,true] [] []=(some ([((Bool.not (rightB l p v))=false),(((V.length:Int) != v)=false),(((P.length:Int) != p)=true)],((.t [(.c (.int .i64 (0:Int))),(.c (.int .i64 (3:Int)))]),[]))):=by kernel_rfl
def hs_k:List KI:=(run hwB false 3000 ((fun (l:List GateD) (p v:Int) (V P:List U4)=>(⟨[.code (bodyOf Try.f15)],.normal,initSt Try.f15.ntmps [circV l p v,.v (.c (.sl (.fr V))),.v (.c (.sl (.fr P)))]⟩:Cfg)) default default default default default) [false,false,false]).cfg.k
theorem hs (l:List GateD) (p v:Int) (V P:List U4) (ho:AllP [((Bool.not (rightB l p v))=false),(((V.length:Int) != v)=false),(((P.length:Int) != p)=false)]):Sg Try.prog (initSt Try.f15.ntmps [circV l p v,.v (.c (.sl (.fr V))),.v (.c (.sl (.fr P)))]) (mkSt 101 [2,3,8,34,35,36] [(.ci (.sl (.fr P))),.pt 16 0,(.ci (.clo 28 [(32,0)])),(.ci (.sl (.gate l))),(.ii (l.length:Int)),.ii (0:Int)] [16,32] [(eF [(.sl (.gate l)),(.int .i64 p),(.int .i64 v)]),(eF [.sl (.fr V)])] 448 [] []) .normal (hs_k) ([.code (bodyOf Try.f15)]):=fun hs hK=>
 run_at2 (unroll:=false) (n:=3000) (path:=[false,false,false]) (o:=⟨_,_,_,_,_,_,_⟩) hwB_ok (by kernel_rfl) (by kernel_rfl) ho hs hK
def hsS (l:List GateD) (p v:Int) (V P:List U4) (i:Int):St:=mkSt 101 [2,3,8,34,35,36] [(.ci (.sl (.fr P))),.pt 16 0,(.ci (.clo 28 [(32,0)])),(.ci (.sl (.gate l))),(.ii (l.length:Int)),.v (.c (.int .i64 i))] [16,32] [(eF [(.sl (.gate l)),(.int .i64 p),(.int .i64 v)]),(eF [.sl (.fr V)])] 448 [] []
section
variable (l:List GateD) (p v:Int) (V P:List U4) (i:Int)
theorem hsN (ho:AllP [((decide (i<(l.length:Int)))=true),(0≤i),(i<(l.length:Int)),(0≤(0:Int)),(0<(3:Int)),((GateD.a (List.getD l (i).toNat gate0))<(V.length:Int)),(0≤(1:Int)),((1:Int)<(3:Int)),((GateD.b (List.getD l (i).toNat gate0))<(V.length:Int)),(0≤(2:Int)),((2:Int)<(3:Int)),((GateD.c (List.getD l (i).toNat gate0))<(V.length:Int)),((decide (i<p))=true),(0≤i),(i<(P.length:Int)),((Bool.not (decide (((((((((inF (GateD.qm (List.getD l (i).toNat gate0)))*(wireF V (GateD.a (List.getD l (i).toNat gate0))))*(wireF V (GateD.b (List.getD l (i).toNat gate0))))+((inF (GateD.ql (List.getD l (i).toNat gate0)))*(wireF V (GateD.a (List.getD l (i).toNat gate0)))))+((inF (GateD.qr (List.getD l (i).toNat gate0)))*(wireF V (GateD.b (List.getD l (i).toNat gate0)))))+((inF (GateD.qo (List.getD l (i).toNat gate0)))*(wireF V (GateD.c (List.getD l (i).toNat gate0)))))+(inF (GateD.qc (List.getD l (i).toNat gate0))))-(inF (P.getD i.toNat 0)))=(0:Fr))))=false)]):Sg Try.prog (hsS l p v V P i) (mkSt 101 [2,3,8,34,35,36] [(.ci (.sl (.fr P))),.pt 16 0,(.ci (.clo 28 [(32,0)])),(.ci (.sl (.gate l))),(.ii (l.length:Int)),(.ii (wrap .i64 (i+1)))] [16,32] [(eF [(.sl (.gate l)),(.int .i64 p),(.int .i64 v)]),(eF [.sl (.fr V)])] 1664 [] []) .normal (lpBk hs_k) (lpIn hs_k):=fun hs hK=>
 run_at2 (unroll:=false) (n:=3000) (path:=[true,true,false]) (o:=⟨_,_,_,_,_,_,_⟩) hwB_ok (by kernel_rfl) (by kernel_rfl) ho hs hK
theorem hsM (ho:AllP [((decide (i<(l.length:Int)))=true),(0≤i),(i<(l.length:Int)),(0≤(0:Int)),(0<(3:Int)),((GateD.a (List.getD l (i).toNat gate0))<(V.length:Int)),(0≤(1:Int)),((1:Int)<(3:Int)),((GateD.b (List.getD l (i).toNat gate0))<(V.length:Int)),(0≤(2:Int)),((2:Int)<(3:Int)),((GateD.c (List.getD l (i).toNat gate0))<(V.length:Int)),((decide (i<p))=false),((Bool.not (decide ((((((((inF (GateD.qm (List.getD l (i).toNat gate0)))*(wireF V (GateD.a (List.getD l (i).toNat gate0))))*(wireF V (GateD.b (List.getD l (i).toNat gate0))))+((inF (GateD.ql (List.getD l (i).toNat gate0)))*(wireF V (GateD.a (List.getD l (i).toNat gate0)))))+((inF (GateD.qr (List.getD l (i).toNat gate0)))*(wireF V (GateD.b (List.getD l (i).toNat gate0)))))+((inF (GateD.qo (List.getD l (i).toNat gate0)))*(wireF V (GateD.c (List.getD l (i).toNat gate0)))))+(inF (GateD.qc (List.getD l (i).toNat gate0))))=(0:Fr))))=false)]):Sg Try.prog (hsS l p v V P i) (mkSt 101 [2,3,8,34,35,36] [(.ci (.sl (.fr P))),.pt 16 0,(.ci (.clo 28 [(32,0)])),(.ci (.sl (.gate l))),(.ii (l.length:Int)),(.ii (wrap .i64 (i+1)))] [16,32] [(eF [(.sl (.gate l)),(.int .i64 p),(.int .i64 v)]),(eF [.sl (.fr V)])] 1536 [] []) .normal (lpBk hs_k) (lpIn hs_k):=fun hs hK=>
 run_at2 (unroll:=false) (n:=3000) (path:=[true,false,false]) (o:=⟨_,_,_,_,_,_,_⟩) hwB_ok (by kernel_rfl) (by kernel_rfl) ho hs hK
end
theorem hsE_end (l:List GateD) (p v:Int) (V P:List U4) (i:Int):runEnd hwB Try.f15 false 3000 (⟨lpIn hs_k,.normal,hsS l p v V P i⟩) [true,true,true] [] []=(some ([((decide (i<(l.length:Int)))=true),(0≤i),(i<(l.length:Int)),(0≤(0:Int)),(0<(3:Int)),((GateD.a (List.getD l (i).toNat gate0))<(V.length:Int)),(0≤(1:Int)),((1:Int)<(3:Int)),((GateD.b (List.getD l (i).toNat gate0))<(V.length:Int)),(0≤(2:Int)),((2:Int)<(3:Int)),((GateD.c (List.getD l (i).toNat gate0))<(V.length:Int)),((decide (i<p))=true),(0≤i),(i<(P.length:Int)),((Bool.not (decide (((((((((inF (GateD.qm (List.getD l (i).toNat gate0)))*(wireF V (GateD.a (List.getD l (i).toNat gate0))))*(wireF V (GateD.b (List.getD l (i).toNat gate0))))+((inF (GateD.ql (List.getD l (i).toNat gate0)))*(wireF V (GateD.a (List.getD l (i).toNat gate0)))))+((inF (GateD.qr (List.getD l (i).toNat gate0)))*(wireF V (GateD.b (List.getD l (i).toNat gate0)))))+((inF (GateD.qo (List.getD l (i).toNat gate0)))*(wireF V (GateD.c (List.getD l (i).toNat gate0)))))+(inF (GateD.qc (List.getD l (i).toNat gate0))))-(inF (P.getD i.toNat 0)))=(0:Fr))))=true)],((.t [(.c (.int .i64 i)),(.c (.int .i64 (70:Int)))]),[]))):=by kernel_rfl
theorem hsF_end (l:List GateD) (p v:Int) (V P:List U4) (i:Int):runEnd hwB Try.f15 false 3000 (⟨lpIn hs_k,.normal,hsS l p v V P i⟩) [true,false,true] [] []=(some ([((decide (i<(l.length:Int)))=true),(0≤i),(i<(l.length:Int)),(0≤(0:Int)),(0<(3:Int)),((GateD.a (List.getD l (i).toNat gate0))<(V.length:Int)),(0≤(1:Int)),((1:Int)<(3:Int)),((GateD.b (List.getD l (i).toNat gate0))<(V.length:Int)),(0≤(2:Int)),((2:Int)<(3:Int)),((GateD.c (List.getD l (i).toNat gate0))<(V.length:Int)),((decide (i<p))=false),((Bool.not (decide ((((((((inF (GateD.qm (List.getD l (i).toNat gate0)))*(wireF V (GateD.a (List.getD l (i).toNat gate0))))*(wireF V (GateD.b (List.getD l (i).toNat gate0))))+((inF (GateD.ql (List.getD l (i).toNat gate0)))*(wireF V (GateD.a (List.getD l (i).toNat gate0)))))+((inF (GateD.qr (List.getD l (i).toNat gate0)))*(wireF V (GateD.b (List.getD l (i).toNat gate0)))))+((inF (GateD.qo (List.getD l (i).toNat gate0)))*(wireF V (GateD.c (List.getD l (i).toNat gate0)))))+(inF (GateD.qc (List.getD l (i).toNat gate0))))=(0:Fr))))=true)],((.t [(.c (.int .i64 i)),(.c (.int .i64 (70:Int)))]),[]))):=by kernel_rfl
theorem hsX_end (l:List GateD) (p v:Int) (V P:List U4) (i:Int):runEnd hwB Try.f15 false 3000 (⟨lpIn hs_k,.normal,hsS l p v V P i⟩) [false] [] []=(some ([((decide (i<(l.length:Int)))=false)],((.t [(.c (.int .i64 (0:Int))),(.c (.int .i64 (0:Int)))]),[]))):=by kernel_rfl
end
end

section

/-- What a gate adds up to; whether it is met. -/
def gvF (g:GateD) (V:List U4):Fr:=inF g.qm*wireF V g.a*wireF V g.b+inF g.ql*wireF V g.a+inF g.qr*wireF V g.b+inF g.qo*wireF V g.c+inF g.qc
def metB (V P:List U4) (p:Int) (g:GateD) (i:Nat):Bool:=if (i:Int)<p then decide (gvF g V-inF (P.getD i 0)=0) else decide (gvF g V=0)
/-- The first gate that is not met. -/
def missF (V P:List U4) (p:Int):List GateD→Nat→Int×Int
 | [],_=>(0,0)
 | g::l,i=>if metB V P p g i then missF V P p l (i+1) else ((i:Int),70)
def holdR (l:List GateD) (p v:Int) (V P:List U4):Int×Int:=if rightB l p v then if (V.length:Int)=v∧(P.length:Int)=p then missF V P p l 0 else (0,3) else (0,1)
theorem missF_drop (V P:List U4) (p:Int) (l:List GateD) (i:Nat) (h:i<l.length):missF V P p (l.drop i) i=if metB V P p (l.getD i gate0) i then missF V P p (l.drop (i+1)) (i+1) else ((i:Int),70):=by
 rw[List.drop_eq_getElem_cons h]
 have e:l.getD i gate0=l[i]:=by simp [List.getD,h]
 rw[e]
 rfl
theorem right_parts {l:List GateD} {p v:Int} (h:rightB l p v=true):l.length≤4096∧∀i,i<l.length→(l.getD i gate0).a<v∧(l.getD i gate0).b<v∧(l.getD i gate0).c<v:=by
 unfold rightB at h
 simp only[Bool.and_eq_true,decide_eq_true_eq] at h
 obtain ⟨⟨⟨⟨h1,h2⟩,h3⟩,h4⟩,h5⟩:=h
 refine ⟨h1,fun i hi=>?_⟩
 have hm:l.getD i gate0∈l:=by
  have e:l.getD i gate0=l[i]:=by simp [List.getD,hi]
  rw[e]
  exact List.getElem_mem _
 have hg:=List.all_eq_true.1 h5 _ hm
 unfold gateB wireB at hg
 simp only[Bool.and_eq_true,decide_eq_true_eq] at hg
 exact ⟨hg.1.1.2,hg.1.2.2,hg.2.2⟩

theorem holds_fnd (l:List GateD) (p v:Int) (V P:List U4):FnD Try.prog 15 [circV l p v,.v (.c (.sl (.fr V))),.v (.c (.sl (.fr P)))] (.t [.c (.int .i64 (holdR l p v V P).1),.c (.int .i64 (holdR l p v V P).2)]) []:=by
 by_cases hr:rightB l p v=true
 ·by_cases h1:(V.length:Int)=v
  ·by_cases h2:(P.length:Int)=p
   ·have eR:holdR l p v V P=missF V P p l 0:=by unfold holdR;rw[if_pos hr,if_pos ⟨h1,h2⟩]
    rw[eR]
    obtain ⟨hl,hw⟩:=right_parts hr
    refine fn_start (fn:=Try.f15) (c:=bodyOf Try.f15) Try.func15 rfl rfl fun x0 a0 hk hF hs0=>?_
    refine hs l p v V P ⟨by rw[hr];rfl,by simp [h1],by simp [h2],trivial⟩ hs0 fun ac cY aY hs1=>?_
    refine loop_rule (ι:={ i:Nat // i≤l.length∧missF V P p (l.drop i) i=missF V P p l 0 }) (fun i=>hsS l p v V P (i.1:Int)) (fun i=>l.length-i.1) (c:=lpC hs_k) (k:=lpR hs_k) (by kernel_rfl) (fun i ih ac cY aY hs=>?_) ⟨0,Nat.zero_le _,rfl⟩ (hs1.nx _)
    obtain ⟨i,hi,he⟩:=i
    simp only at ih hs
    by_cases hin:i<l.length
    ·obtain ⟨w1,w2,w3⟩:=hw i hin
     rw[missF_drop V P p l i hin] at he
     have ew:wrap IntKind.i64 ((i:Int)+1)=((i+1:Nat):Int):=by rw[wrap_id (by omega) (by omega)];omega
     by_cases hp:(i:Int)<p
     ·by_cases hz:gvF (l.getD i gate0) V-inF (P.getD i 0)=0
      ·have hm:metB V P p (l.getD i gate0) i=true:=by unfold metB;rw[if_pos hp];exact decide_eq_true hz
       rw[hm,if_pos rfl] at he
       refine hsN l p v V P i ⟨decide_eq_true (by omega),by omega,by omega,by decide,by decide,by rw[Int.toNat_natCast];omega,by decide,by decide,by rw[Int.toNat_natCast];omega,by decide,by decide,by rw[Int.toNat_natCast];omega,decide_eq_true hp,by omega,by omega,by rw[Int.toNat_natCast];exact congrArg Bool.not (decide_eq_true hz),trivial⟩ hs fun ac cU aU hs2=>?_
       rw[ew] at hs2
       exact ih ⟨i+1,hin,he⟩ (by show l.length-(i+1)<l.length-i;omega) ac cU aU (hs2.nx _)
      ·have hm:metB V P p (l.getD i gate0) i=false:=by unfold metB;rw[if_pos hp];exact decide_eq_false hz
       rw[hm,if_neg Bool.false_ne_true] at he
       rw[←he]
       exact run_end2 hwB_ok hk hF (hsE_end l p v V P i) ⟨decide_eq_true (by omega),by omega,by omega,by decide,by decide,by rw[Int.toNat_natCast];omega,by decide,by decide,by rw[Int.toNat_natCast];omega,by decide,by decide,by rw[Int.toNat_natCast];omega,decide_eq_true hp,by omega,by omega,by rw[Int.toNat_natCast];exact congrArg Bool.not (decide_eq_false hz),trivial⟩ (fun y w hd=>hd) hs
     ·by_cases hz:gvF (l.getD i gate0) V=0
      ·have hm:metB V P p (l.getD i gate0) i=true:=by unfold metB;rw[if_neg hp];exact decide_eq_true hz
       rw[hm,if_pos rfl] at he
       refine hsM l p v V P i ⟨decide_eq_true (by omega),by omega,by omega,by decide,by decide,by rw[Int.toNat_natCast];omega,by decide,by decide,by rw[Int.toNat_natCast];omega,by decide,by decide,by rw[Int.toNat_natCast];omega,decide_eq_false hp,by rw[Int.toNat_natCast];exact congrArg Bool.not (decide_eq_true hz),trivial⟩ hs fun ac cU aU hs2=>?_
       rw[ew] at hs2
       exact ih ⟨i+1,hin,he⟩ (by show l.length-(i+1)<l.length-i;omega) ac cU aU (hs2.nx _)
      ·have hm:metB V P p (l.getD i gate0) i=false:=by unfold metB;rw[if_neg hp];exact decide_eq_false hz
       rw[hm,if_neg Bool.false_ne_true] at he
       rw[←he]
       exact run_end2 hwB_ok hk hF (hsF_end l p v V P i) ⟨decide_eq_true (by omega),by omega,by omega,by decide,by decide,by rw[Int.toNat_natCast];omega,by decide,by decide,by rw[Int.toNat_natCast];omega,by decide,by decide,by rw[Int.toNat_natCast];omega,decide_eq_false hp,by rw[Int.toNat_natCast];exact congrArg Bool.not (decide_eq_false hz),trivial⟩ (fun y w hd=>hd) hs
    ·obtain rfl:i=l.length:=by omega
     rw[List.drop_length] at he
     rw[←he]
     exact run_end2 hwB_ok hk hF (hsX_end l p v V P _) ⟨decide_eq_false (by omega),trivial⟩ (fun y w hd=>hd) hs
   ·have eR:holdR l p v V P=(0,3):=by unfold holdR;rw[if_pos hr,if_neg fun h=>h2 h.2]
    rw[eR]
    exact fn_sound hwB_ok Try.func15 (hoC l p v V P) ⟨by rw[hr];rfl,by simp [h1],by simpa using h2,trivial⟩
  ·have eR:holdR l p v V P=(0,3):=by unfold holdR;rw[if_pos hr,if_neg fun h=>h1 h.1]
   rw[eR]
   exact fn_sound hwB_ok Try.func15 (hoB l p v V P) ⟨by rw[hr];rfl,by simpa using h1,trivial⟩
 ·have hr:rightB l p v=false:=Bool.eq_false_iff.2 hr
  have eR:holdR l p v V P=(0,1):=by unfold holdR;rw[hr];rfl
  rw[eR]
  exact fn_sound hwB_ok Try.func15 (hoA l p v V P) ⟨by rw[hr];rfl,trivial⟩

end

end
end Go.Proofs.Ytobdghmmbddfnaa
