/- Parts of a proof, one behind the other: PRb, PRc, PRd, PRe, WRf, WQd, WQe, WQf, WQg, PQg, WQh, PQh, PQi, PQj, PQk, PQl, PRf, WRg, PRg, PSm, WRh, PRh, WHb, WRi, WHc, PHc, WHd. No conditions. -/
import Derived.Test.YtobdghmmbddfnaaCsM
open Go.IntKind (wrap)
namespace Go.Proofs.Ytobdghmmbddfnaa
noncomputable section
set_option linter.unusedSimpArgs false
set_option linter.unusedVariables false
section

theorem outF_same (x y:Fr):outF x=outF y↔x=y:=⟨fun h=>by rw[←in_out x,h,in_out],fun h=>by rw[h]⟩
theorem outF_is1 (x:Fr):outF x=oneU↔x=1:=by rw[←outF_one];exact outF_same x 1
section
variable {l:List OpD} {G:List GateD} {W:List Fr} {J J2:List U4} {wr:Bool} {x:Fr} {ms i a b c m:Int} {k:U4} {ks:List U4} {vs:List Int} {w0:World} {F0:Nat→Prop} {K:Kp} {ac:List Act} {Q:Exit→Act→World→Prop} {cX:Ctx} {aX:Act}

theorem toBool {nt nx:Nat} {tl:List Nat} {svs:List SV} {A B:Option En} {p q:It} {s:It} (hs:Sim w0 F0 K ac (mkSt nt tl svs [32,64,112] [A,B,some (.fl [p,q,s,.lit true])] nx [] []) cX aX):Sim w0 F0 K ac (mkSt nt tl svs [32,64,112] [A,B,some (.fl [p,q,s,.bool true])] nx [] []) cX aX:=
 hs.reBlk (z:=112) (l' := [p,q,s,.bool true]) rfl ⟨.inl rfl,.inl rfl,.inl rfl,.inr ⟨true,rfl,rfl⟩,trivial⟩ fun r=>by
  simp only[look]
  by_cases h1:r=32
  ·subst h1;rfl
  by_cases h2:r=64
  ·subst h2;rfl
  by_cases h3:r=112
  ·subst h3;rfl
  simp only[h1,h2,h3,if_false]

theorem alT1 (h1:W.length≤600000) (h2:G.length≤600000) (hx:(0<J.length∧x=inF (J.getD 0 0)∧J2=(J.drop 1).take (J.length-1))∨(J.length=0∧x=0∧J2=J)) (hs:Sim w0 F0 K ac (rvO l G (W.map outF) J wr ms i 1 a b c m k ks vs) cX aX)
  (hK:∀ac cY aY,Sim w0 F0 K ac (rvT l (G++gatesOf (W.length:Int) 1 a b c m k ks vs) ((W++valsOf W x 1 a b c m k ks vs).map outF) J2 (wr || wrongOf W 1 a b m) ms i) cY aY→Wq Try.prog Q alR_k ac .normal aY cY.w):Wq Try.prog Q alB_k ac .normal aX cX.w:=by
 have wv:wrap IntKind.i64 (((W.length+1:Nat):Int)-1)=(W.length:Int):=by rw[wrap_id (by omega) (by omega)];omega
 rw[show gatesOf (W.length:Int) 1 a b c m k ks vs=[] from rfl,List.append_nil,show valsOf W x 1 a b c m k ks vs=[x] from rfl,show (wr || wrongOf W 1 a b m)=wr from Bool.or_false wr] at hK
 rcases hx with ⟨hj,hx,hJ⟩ | ⟨hj,hx,hJ⟩
 ·refine al1 l G (W.map outF) J wr ms i a b c m k ks vs (by simp only[AllP,maxLen,decide_eq_true_eq,decide_eq_false_iff_not,List.length_append,List.length_cons,List.length_nil,List.length_map,beq_iff_eq,bne_iff_ne,bne_eq_false_iff_eq,beq_eq_false_iff_ne,Int.toNat_natCast,getV,clean_out,Bool.false_eq_true,if_false,outF_is1,outF_zero,outF_same,Bool.not_eq_true',Bool.not_eq_false'];and_intros<;>first | rfl | exact True.intro | omega | exact outF_lt _ | assumption) hs fun ac cU aU hs2=>hK _ _ _ ?_
  rw[List.length_map,clean_out,←hx,←hJ] at hs2
  unfold rvT
  rw[show ((W++[x]).map outF).length=W.length+1 from by simp,List.map_append]
  exact hs2.nx _
 ·refine al1e l G (W.map outF) J wr ms i a b c m k ks vs (by simp only[AllP,maxLen,decide_eq_true_eq,decide_eq_false_iff_not,List.length_append,List.length_cons,List.length_nil,List.length_map,beq_iff_eq,bne_iff_ne,bne_eq_false_iff_eq,beq_eq_false_iff_ne,Int.toNat_natCast,getV,clean_out,Bool.false_eq_true,if_false,outF_is1,outF_zero,outF_same,Bool.not_eq_true',Bool.not_eq_false'];and_intros<;>first | rfl | exact True.intro | omega | exact outF_lt _ | assumption) hs fun ac cU aU hs2=>hK _ _ _ ?_
  rw[List.length_map] at hs2
  unfold rvT
  rw[show ((W++[x]).map outF).length=W.length+1 from by simp,List.map_append,hx,hJ,show [(0:Fr)].map outF=[0] from congrArg (fun y=>[y]) ((outF_zero 0).2 rfl)]
  exact hs2.nx _

theorem alT2 (h1:W.length≤600000) (h2:G.length≤600000) (hs:Sim w0 F0 K ac (rvO l G (W.map outF) J wr ms i 2 a b c m k ks vs) cX aX)
  (hK:∀ac cY aY,Sim w0 F0 K ac (rvT l (G++gatesOf (W.length:Int) 2 a b c m k ks vs) ((W++valsOf W x 2 a b c m k ks vs).map outF) J (wr || wrongOf W 2 a b m) ms i) cY aY→Wq Try.prog Q alR_k ac .normal aY cY.w):Wq Try.prog Q alB_k ac .normal aX cX.w:=by
 have wv:wrap IntKind.i64 (((W.length+1:Nat):Int)-1)=(W.length:Int):=by rw[wrap_id (by omega) (by omega)];omega
 rw[show gatesOf (W.length:Int) 2 a b c m k ks vs=[] from rfl,List.append_nil,show valsOf W x 2 a b c m k ks vs=[] from rfl,List.append_nil,show (wr || wrongOf W 2 a b m)=wr from Bool.or_false wr] at hK
 refine alR l G (W.map outF) J wr ms i a b c m k ks vs (by simp only[AllP,maxLen,decide_eq_true_eq,decide_eq_false_iff_not,List.length_append,List.length_cons,List.length_nil,List.length_map,beq_iff_eq,bne_iff_ne,bne_eq_false_iff_eq,beq_eq_false_iff_ne,Int.toNat_natCast,getV,clean_out,Bool.false_eq_true,if_false,outF_is1,outF_zero,outF_same,Bool.not_eq_true',Bool.not_eq_false'];and_intros<;>first | rfl | exact True.intro | omega | exact outF_lt _ | assumption) hs fun ac cU aU hs2=>hK _ _ _ ?_
 exact hs2.nx _

theorem alT3 (h1:W.length≤600000) (h2:G.length≤600000) (hs:Sim w0 F0 K ac (rvO l G (W.map outF) J wr ms i 3 a b c m k ks vs) cX aX)
  (hK:∀ac cY aY,Sim w0 F0 K ac (rvT l (G++gatesOf (W.length:Int) 3 a b c m k ks vs) ((W++valsOf W x 3 a b c m k ks vs).map outF) J (wr || wrongOf W 3 a b m) ms i) cY aY→Wq Try.prog Q alR_k ac .normal aY cY.w):Wq Try.prog Q alB_k ac .normal aX cX.w:=by
 have wv:wrap IntKind.i64 (((W.length+1:Nat):Int)-1)=(W.length:Int):=by rw[wrap_id (by omega) (by omega)];omega
 have eg:gatesOf (W.length:Int) 3 a b c m k ks vs=[⟨0,oneU,0,0,outF (0-inF k),(W.length:Int),-1,-1⟩]:=rfl
 rw[eg,show valsOf W x 3 a b c m k ks vs=[inF k] from rfl,show (wr || wrongOf W 3 a b m)=wr from Bool.or_false wr] at hK
 refine al3 l G (W.map outF) J wr ms i a b c m k ks vs (by simp only[AllP,maxLen,decide_eq_true_eq,decide_eq_false_iff_not,List.length_append,List.length_cons,List.length_nil,List.length_map,beq_iff_eq,bne_iff_ne,bne_eq_false_iff_eq,beq_eq_false_iff_ne,Int.toNat_natCast,getV,clean_out,Bool.false_eq_true,if_false,outF_is1,outF_zero,outF_same,Bool.not_eq_true',Bool.not_eq_false'];and_intros<;>first | rfl | exact True.intro | omega | exact outF_lt _ | assumption) hs fun ac cU aU hs2=>hK _ _ _ ?_
 rw[List.length_map,wv,clean_out,in_out] at hs2
 unfold rvT
 rw[show (G++[(⟨0,oneU,0,0,outF (0-inF k),(W.length:Int),-1,-1⟩:GateD)]).length=G.length+1 from by simp,show ((W++[inF k]).map outF).length=W.length+1 from by simp,List.map_append]
 exact hs2.nx _

theorem alT4 (h1:W.length≤600000) (h2:G.length≤600000) (ia:0≤a∧a<(W.length:Int)) (ib:0≤b∧b<(W.length:Int)) (hs:Sim w0 F0 K ac (rvO l G (W.map outF) J wr ms i 4 a b c m k ks vs) cX aX)
  (hK:∀ac cY aY,Sim w0 F0 K ac (rvT l (G++gatesOf (W.length:Int) 4 a b c m k ks vs) ((W++valsOf W x 4 a b c m k ks vs).map outF) J (wr || wrongOf W 4 a b m) ms i) cY aY→Wq Try.prog Q alR_k ac .normal aY cY.w):Wq Try.prog Q alB_k ac .normal aX cX.w:=by
 have wv:wrap IntKind.i64 (((W.length+1:Nat):Int)-1)=(W.length:Int):=by rw[wrap_id (by omega) (by omega)];omega
 have eg:gatesOf (W.length:Int) 4 a b c m k ks vs=[⟨0,oneU,oneU,mO,0,a,b,(W.length:Int)⟩]:=congrArg (fun u=>[(⟨0,u,u,mO,0,a,b,(W.length:Int)⟩:GateD)]) cl_one
 rw[eg,show valsOf W x 4 a b c m k ks vs=[vF W a+vF W b] from rfl,show (wr || wrongOf W 4 a b m)=wr from Bool.or_false wr] at hK
 refine al4 l G (W.map outF) J wr ms i a b c m k ks vs (by simp only[AllP,maxLen,decide_eq_true_eq,decide_eq_false_iff_not,List.length_append,List.length_cons,List.length_nil,List.length_map,beq_iff_eq,bne_iff_ne,bne_eq_false_iff_eq,beq_eq_false_iff_ne,Int.toNat_natCast,getV,clean_out,Bool.false_eq_true,if_false,outF_is1,outF_zero,outF_same,Bool.not_eq_true',Bool.not_eq_false'];and_intros<;>first | rfl | exact True.intro | omega | exact outF_lt _ | assumption) hs fun ac cU aU hs2=>hK _ _ _ ?_
 rw[List.length_map,wv,getV,getV,mul_one_out,mul_one_out,addU_out] at hs2
 unfold rvT
 rw[show (G++[(⟨0,oneU,oneU,mO,0,a,b,(W.length:Int)⟩:GateD)]).length=G.length+1 from by simp,show ((W++[vF W a+vF W b]).map outF).length=W.length+1 from by simp,List.map_append]
 exact hs2.nx _

theorem alT5 (h1:W.length≤600000) (h2:G.length≤600000) (ia:0≤a∧a<(W.length:Int)) (ib:0≤b∧b<(W.length:Int)) (hs:Sim w0 F0 K ac (rvO l G (W.map outF) J wr ms i 5 a b c m k ks vs) cX aX)
  (hK:∀ac cY aY,Sim w0 F0 K ac (rvT l (G++gatesOf (W.length:Int) 5 a b c m k ks vs) ((W++valsOf W x 5 a b c m k ks vs).map outF) J (wr || wrongOf W 5 a b m) ms i) cY aY→Wq Try.prog Q alR_k ac .normal aY cY.w):Wq Try.prog Q alB_k ac .normal aX cX.w:=by
 have wv:wrap IntKind.i64 (((W.length+1:Nat):Int)-1)=(W.length:Int):=by rw[wrap_id (by omega) (by omega)];omega
 have eg:gatesOf (W.length:Int) 5 a b c m k ks vs=[⟨oneU,0,0,mO,0,a,b,(W.length:Int)⟩]:=rfl
 rw[eg,show valsOf W x 5 a b c m k ks vs=[vF W a*vF W b] from rfl,show (wr || wrongOf W 5 a b m)=wr from Bool.or_false wr] at hK
 refine al5 l G (W.map outF) J wr ms i a b c m k ks vs (by simp only[AllP,maxLen,decide_eq_true_eq,decide_eq_false_iff_not,List.length_append,List.length_cons,List.length_nil,List.length_map,beq_iff_eq,bne_iff_ne,bne_eq_false_iff_eq,beq_eq_false_iff_ne,Int.toNat_natCast,getV,clean_out,Bool.false_eq_true,if_false,outF_is1,outF_zero,outF_same,Bool.not_eq_true',Bool.not_eq_false'];and_intros<;>first | rfl | exact True.intro | omega | exact outF_lt _ | assumption) hs fun ac cU aU hs2=>hK _ _ _ ?_
 rw[List.length_map,wv,getV,getV,mulU_out] at hs2
 unfold rvT
 rw[show (G++[(⟨oneU,0,0,mO,0,a,b,(W.length:Int)⟩:GateD)]).length=G.length+1 from by simp,show ((W++[vF W a*vF W b]).map outF).length=W.length+1 from by simp,List.map_append]
 exact hs2.nx _

theorem alT7 (h1:W.length≤600000) (h2:G.length≤600000) (ia:0≤a∧a<(W.length:Int)) (hs:Sim w0 F0 K ac (rvO l G (W.map outF) J wr ms i 7 a b c m k ks vs) cX aX)
  (hK:∀ac cY aY,Sim w0 F0 K ac (rvT l (G++gatesOf (W.length:Int) 7 a b c m k ks vs) ((W++valsOf W x 7 a b c m k ks vs).map outF) J (wr || wrongOf W 7 a b m) ms i) cY aY→Wq Try.prog Q alR_k ac .normal aY cY.w):Wq Try.prog Q alB_k ac .normal aX cX.w:=by
 have wv:wrap IntKind.i64 (((W.length+1:Nat):Int)-1)=(W.length:Int):=by rw[wrap_id (by omega) (by omega)];omega
 rw[show gatesOf (W.length:Int) 7 a b c m k ks vs=[⟨oneU,mO,0,0,0,a,a,-1⟩] from rfl,show valsOf W x 7 a b c m k ks vs=[] from rfl,List.append_nil,show wrongOf W 7 a b m=notBit (vF W a) from rfl] at hK
 have el:(G++[(⟨oneU,mO,0,0,0,a,a,-1⟩:GateD)]).length=G.length+1:=by simp
 by_cases c1:vF W a=1
 ·rw[show (wr || notBit (vF W a))=wr from by unfold notBit;rw[decide_eq_true c1];exact Bool.or_false wr] at hK
  refine al7x l G (W.map outF) J wr ms i a b c m k ks vs (by simp only[AllP,maxLen,decide_eq_true_eq,decide_eq_false_iff_not,List.length_append,List.length_cons,List.length_nil,List.length_map,beq_iff_eq,bne_iff_ne,bne_eq_false_iff_eq,beq_eq_false_iff_ne,Int.toNat_natCast,getV,clean_out,Bool.false_eq_true,if_false,outF_is1,outF_zero,outF_same,Bool.not_eq_true',Bool.not_eq_false'];and_intros<;>first | rfl | exact True.intro | omega | exact outF_lt _ | assumption) hs fun ac cU aU hs2=>hK _ _ _ ?_
  unfold rvT
  rw[el]
  exact hs2.nx _
 by_cases c0:vF W a=0
 ·rw[show (wr || notBit (vF W a))=wr from by unfold notBit;rw[decide_eq_true c0,Bool.or_true];exact Bool.or_false wr] at hK
  refine al7z l G (W.map outF) J wr ms i a b c m k ks vs (by simp only[AllP,maxLen,decide_eq_true_eq,decide_eq_false_iff_not,List.length_append,List.length_cons,List.length_nil,List.length_map,beq_iff_eq,bne_iff_ne,bne_eq_false_iff_eq,beq_eq_false_iff_ne,Int.toNat_natCast,getV,clean_out,Bool.false_eq_true,if_false,outF_is1,outF_zero,outF_same,Bool.not_eq_true',Bool.not_eq_false'];and_intros<;>first | rfl | exact True.intro | omega | exact outF_lt _ | assumption) hs fun ac cU aU hs2=>hK _ _ _ ?_
  unfold rvT
  rw[el]
  exact hs2.nx _
 ·rw[show (wr || notBit (vF W a))=true from by unfold notBit;rw[decide_eq_false c1,decide_eq_false c0];exact Bool.or_true wr] at hK
  refine al7y l G (W.map outF) J wr ms i a b c m k ks vs (by simp only[AllP,maxLen,decide_eq_true_eq,decide_eq_false_iff_not,List.length_append,List.length_cons,List.length_nil,List.length_map,beq_iff_eq,bne_iff_ne,bne_eq_false_iff_eq,beq_eq_false_iff_ne,Int.toNat_natCast,getV,clean_out,Bool.false_eq_true,if_false,outF_is1,outF_zero,outF_same,Bool.not_eq_true',Bool.not_eq_false'];and_intros<;>first | rfl | exact True.intro | omega | exact outF_lt _ | assumption) hs fun ac cU aU hs2=>hK _ _ _ ?_
  unfold rvT
  rw[el]
  exact (toBool hs2).nx _

theorem alT11 (h1:W.length≤600000) (h2:G.length≤600000) (ia:0≤a∧a<(W.length:Int)) (ib:0≤b∧b<(W.length:Int)) (hs:Sim w0 F0 K ac (rvO l G (W.map outF) J wr ms i 11 a b c m k ks vs) cX aX)
  (hK:∀ac cY aY,Sim w0 F0 K ac (rvT l (G++gatesOf (W.length:Int) 11 a b c m k ks vs) ((W++valsOf W x 11 a b c m k ks vs).map outF) J (wr || wrongOf W 11 a b m) ms i) cY aY→Wq Try.prog Q alR_k ac .normal aY cY.w):Wq Try.prog Q alB_k ac .normal aX cX.w:=by
 have wv:wrap IntKind.i64 (((W.length+1:Nat):Int)-1)=(W.length:Int):=by rw[wrap_id (by omega) (by omega)];omega
 rw[show gatesOf (W.length:Int) 11 a b c m k ks vs=[⟨0,oneU,mO,0,0,a,b,-1⟩] from rfl,show valsOf W x 11 a b c m k ks vs=[] from rfl,List.append_nil,show wrongOf W 11 a b m=decide (vF W a≠vF W b) from rfl] at hK
 have el:(G++[(⟨0,oneU,mO,0,0,a,b,-1⟩:GateD)]).length=G.length+1:=by simp
 by_cases c1:vF W a=vF W b
 ·rw[show (wr || decide (vF W a≠vF W b))=wr from by rw[decide_eq_false (not_not_intro c1)];exact Bool.or_false wr] at hK
  refine al11y l G (W.map outF) J wr ms i a b c m k ks vs (by simp only[AllP,maxLen,decide_eq_true_eq,decide_eq_false_iff_not,List.length_append,List.length_cons,List.length_nil,List.length_map,beq_iff_eq,bne_iff_ne,bne_eq_false_iff_eq,beq_eq_false_iff_ne,Int.toNat_natCast,getV,clean_out,Bool.false_eq_true,if_false,outF_is1,outF_zero,outF_same,Bool.not_eq_true',Bool.not_eq_false'];and_intros<;>first | rfl | exact True.intro | omega | exact outF_lt _ | assumption) hs fun ac cU aU hs2=>hK _ _ _ ?_
  unfold rvT
  rw[el]
  exact hs2.nx _
 ·rw[show (wr || decide (vF W a≠vF W b))=true from by rw[decide_eq_true c1];exact Bool.or_true wr] at hK
  refine al11x l G (W.map outF) J wr ms i a b c m k ks vs (by simp only[AllP,maxLen,decide_eq_true_eq,decide_eq_false_iff_not,List.length_append,List.length_cons,List.length_nil,List.length_map,beq_iff_eq,bne_iff_ne,bne_eq_false_iff_eq,beq_eq_false_iff_ne,Int.toNat_natCast,getV,clean_out,Bool.false_eq_true,if_false,outF_is1,outF_zero,outF_same,Bool.not_eq_true',Bool.not_eq_false'];and_intros<;>first | rfl | exact True.intro | omega | exact outF_lt _ | assumption) hs fun ac cU aU hs2=>hK _ _ _ ?_
  unfold rvT
  rw[el]
  exact (toBool hs2).nx _

end
end

set_option linter.unusedSimpArgs false
set_option linter.unusedVariables false
section

theorem mapA (W:List Fr) (y:Fr):W.map outF++[outF y]=(W++[y]).map outF:=(List.map_append (l₁:=W) (l₂:=[y])).symm
theorem vF_app {W:List Fr} {y:Fr} {x:Int} (h:0≤x∧x<(W.length:Int)):vF (W++[y]) x=vF W x:=by
 unfold vF
 rw[List.getD_eq_getElem?_getD,List.getElem?_append_left (by omega),←List.getD_eq_getElem?_getD]
theorem vF_apps {W U:List Fr} {x:Int} (h:0≤x∧x<(W.length:Int)):vF (W++U) x=vF W x:=by
 unfold vF
 rw[List.getD_eq_getElem?_getD,List.getElem?_append_left (by omega),←List.getD_eq_getElem?_getD]
theorem vF_new (W:List Fr) (y:Fr):vF (W++[y]) (W.length:Int)=y:=by
 unfold vF
 rw[Int.toNat_natCast,List.getD_eq_getElem?_getD,List.getElem?_append_right (Nat.le_refl _),Nat.sub_self]
 rfl
section
variable {l:List OpD} {G:List GateD} {W:List Fr} {J J2:List U4} {wr:Bool} {x:Fr} {ms i a b c m:Int} {k:U4} {ks:List U4} {vs:List Int} {w0:World} {F0:Nat→Prop} {K:Kp} {ac:List Act} {Q:Exit→Act→World→Prop} {cX:Ctx} {aX:Act}

theorem alT6 (h1:W.length≤600000) (h2:G.length≤600000) (hv:1≤vs.length) (hv2:vs.length≤64) (hk:ks.length=vs.length) (hin:∀j,j<vs.length→0≤vs.getD j 0∧vs.getD j 0<(W.length:Int)) (hs:Sim w0 F0 K ac (rvO l G (W.map outF) J wr ms i 6 a b c m k ks vs) cX aX)
  (hK:∀ac cY aY,Sim w0 F0 K ac (rvT l (G++gatesOf (W.length:Int) 6 a b c m k ks vs) ((W++valsOf W x 6 a b c m k ks vs).map outF) J (wr || wrongOf W 6 a b m) ms i) cY aY→Wq Try.prog Q alR_k ac .normal aY cY.w):Wq Try.prog Q alB_k ac .normal aX cX.w:=by
 have wv:wrap IntKind.i64 (((W.length+1:Nat):Int)-1)=(W.length:Int):=by rw[wrap_id (by omega) (by omega)];omega
 rw[show (wr || wrongOf W 6 a b m)=wr from Bool.or_false wr] at hK
 have i0:=hin 0 (by omega)
 by_cases hl:vs.length=1
 ·have eg:gatesOf (W.length:Int) 6 a b c m k ks vs=[⟨0,outF (inF (ks.getD 0 0)),0,mO,0,vs.getD 0 0,-1,(W.length:Int)⟩]:=if_pos hl
  have ev:valsOf W x 6 a b c m k ks vs=[inF (ks.getD 0 0)*vF W (vs.getD 0 0)]:=if_pos hl
  rw[eg,ev] at hK
  refine al6 l G (W.map outF) J wr ms i a b c m k ks vs (by simp only[AllP,maxLen,decide_eq_true_eq,decide_eq_false_iff_not,List.length_append,List.length_cons,List.length_nil,List.length_map,beq_iff_eq,bne_iff_ne,bne_eq_false_iff_eq,beq_eq_false_iff_ne,Int.toNat_natCast,getV,clean_out,Bool.false_eq_true,if_false,outF_is1,outF_zero,outF_same,Bool.not_eq_true',Bool.not_eq_false'];and_intros<;>first | rfl | exact True.intro | omega | exact outF_lt _ | assumption) hs fun ac cU aU hs2=>hK _ _ _ ?_
  rw[List.length_map,wv,getV,clean_out,mulU_out] at hs2
  unfold rvT
  rw[show (G++[(⟨0,outF (inF (ks.getD 0 0)),0,mO,0,vs.getD 0 0,-1,(W.length:Int)⟩:GateD)]).length=G.length+1 from by simp,show ((W++[inF (ks.getD 0 0)*vF W (vs.getD 0 0)]).map outF).length=W.length+1 from by simp,List.map_append]
  exact hs2.nx _
 ·have i1:=hin 1 (by omega)
  have eg:gatesOf (W.length:Int) 6 a b c m k ks vs=linL (W.length:Int) ks vs (vs.length-2):=if_neg hl
  have ev:valsOf W x 6 a b c m k ks vs=linW W ks vs (vs.length-2):=if_neg hl
  rw[eg,ev] at hK
  have last:∀t,vF (W++linW W ks vs t) ((W.length:Int)+(t:Int))=linS W ks vs t:=by
   intro t
   cases t with
   | zero=>rw[show (W.length:Int)+((0:Nat):Int)=(W.length:Int) from by omega];exact vF_new W _
   | succ t=>
    have h:=vF_new (W++linW W ks vs t) (linS W ks vs (t+1))
    rw[List.length_append,linW_len,List.append_assoc] at h
    rw[show (W.length:Int)+((t+1:Nat):Int)=((W.length+(t+1):Nat):Int) from by omega]
    exact h
  have loop:∀ac cY aY,Sim w0 F0 K ac (r6S l (G++linL (W.length:Int) ks vs 0) ((W++linW W ks vs 0).map outF) J wr ms i a b c m k ks vs ((W.length:Int)+((0:Nat):Int)) ((0+2:Nat):Int)) cY aY→Wq Try.prog Q al6a_k ac .normal aY cY.w:=by
   intro ac cY aY hs1
   refine loop_rule (ι:={ t:Nat // t+2≤vs.length }) (fun t=>r6S l (G++linL (W.length:Int) ks vs t.1) ((W++linW W ks vs t.1).map outF) J wr ms i a b c m k ks vs ((W.length:Int)+(t.1:Int)) ((t.1+2:Nat):Int)) (fun t=>vs.length-t.1) (c:=lpC al6a_k) (k:=lpR al6a_k) (by kernel_rfl) (fun t ih ac cY aY hs=>?_) ⟨0,by omega⟩ hs1
   obtain ⟨t,ht⟩:=t
   simp only at ih hs
   by_cases h:t+2<vs.length
   ·have ij:=hin (t+2) h
    have lG:(G++linL (W.length:Int) ks vs t).length=G.length+(t+1):=by rw[List.length_append,linL_len]
    have lW:(W++linW W ks vs t).length=W.length+(t+1):=by rw[List.length_append,linW_len]
    have x1:wrap IntKind.i64 (((W.length+(t+1)+1:Nat):Int)-1)=(W.length:Int)+((t+1:Nat):Int):=by rw[wrap_id (by omega) (by omega)];omega
    have x3:wrap IntKind.i64 (((t+2:Nat):Int)+1)=((t+1+2:Nat):Int):=by rw[wrap_id (by omega) (by omega)];omega
    have e1:=last t
    have e2:vF (W++linW W ks vs t) (vs.getD (t+2) 0)=vF W (vs.getD (t+2) 0):=vF_apps ij
    refine al6n l (G++linL (W.length:Int) ks vs t) ((W++linW W ks vs t).map outF) J wr ms i a b c m k ks vs _ _ (by rw[List.length_map,lG,lW];exact (by simp only[AllP,maxLen,decide_eq_true_eq,decide_eq_false_iff_not,List.length_append,List.length_cons,List.length_nil,List.length_map,beq_iff_eq,bne_iff_ne,bne_eq_false_iff_eq,beq_eq_false_iff_ne,Int.toNat_natCast,getV,clean_out,Bool.false_eq_true,if_false,outF_is1,outF_zero,outF_same,Bool.not_eq_true',Bool.not_eq_false'];and_intros<;>first | rfl | exact True.intro | omega | exact outF_lt _ | assumption)) hs fun ac cU aU hs2=>?_
    rw[List.length_map,lG,lW,x1,x3,Int.toNat_natCast,getV,getV,e1,e2,clean_out,mul_one_out,mulU_out,addU_out] at hs2
    refine ih ⟨t+1,by omega⟩ (by show vs.length-(t+1)<vs.length-t;omega) ac cU aU ?_
    show Sim w0 F0 K ac (r6S l (G++(linL (W.length:Int) ks vs t++[sumG oneU ((W.length:Int)+(t:Int)) (ks.getD (t+2) 0) (vs.getD (t+2) 0) ((W.length:Int)+(t:Int)+1)])) ((W++(linW W ks vs t++[linS W ks vs (t+1)])).map outF) J wr ms i a b c m k ks vs ((W.length:Int)+((t+1:Nat):Int)) ((t+1+2:Nat):Int)) cU aU
    rw[←List.append_assoc,←List.append_assoc,←mapA,show (W.length:Int)+(t:Int)+1=(W.length:Int)+((t+1:Nat):Int) from by omega]
    unfold r6S sumG
    rw[cl_one,List.length_append (bs:=[_]),lG,List.length_append (bs:=[outF _]),List.length_map,lW]
    exact hs2.nx _
   ·have et:vs.length-2=t:=by omega
    rw[et] at hK
    refine al6x l _ _ J wr ms i a b c m k ks vs _ _ (by simp only[AllP,maxLen,decide_eq_true_eq,decide_eq_false_iff_not,List.length_append,List.length_cons,List.length_nil,List.length_map,beq_iff_eq,bne_iff_ne,bne_eq_false_iff_eq,beq_eq_false_iff_ne,Int.toNat_natCast,getV,clean_out,Bool.false_eq_true,if_false,outF_is1,outF_zero,outF_same,Bool.not_eq_true',Bool.not_eq_false'];and_intros<;>first | rfl | exact True.intro | omega | exact outF_lt _ | assumption) hs fun ac cU aU hs2=>hK _ _ _ ?_
    exact hs2.nx _
  refine al6a l G (W.map outF) J wr ms i a b c m k ks vs (by simp only[AllP,maxLen,decide_eq_true_eq,decide_eq_false_iff_not,List.length_append,List.length_cons,List.length_nil,List.length_map,beq_iff_eq,bne_iff_ne,bne_eq_false_iff_eq,beq_eq_false_iff_ne,Int.toNat_natCast,getV,clean_out,Bool.false_eq_true,if_false,outF_is1,outF_zero,outF_same,Bool.not_eq_true',Bool.not_eq_false'];and_intros<;>first | rfl | exact True.intro | omega | exact outF_lt _ | assumption) hs fun ac cU aU hs2=>loop _ _ _ ?_
  rw[List.length_map,wv,getV,getV,clean_out,clean_out,mulU_out,mulU_out,addU_out] at hs2
  rw[show (W.length:Int)+((0:Nat):Int)=(W.length:Int) from by omega]
  show Sim w0 F0 K ac (r6S l (G++[sumG (ks.getD 0 0) (vs.getD 0 0) (ks.getD 1 0) (vs.getD 1 0) (W.length:Int)]) ((W++[linS W ks vs 0]).map outF) J wr ms i a b c m k ks vs (W.length:Int) ((0+2:Nat):Int)) cU aU
  rw[←mapA]
  unfold r6S
  rw[List.length_append (bs:=[_]),List.length_append (bs:=[outF _]),List.length_map]
  exact hs2.nx _
end
end

set_option linter.unusedSimpArgs false
set_option linter.unusedVariables false
section

theorem bit_out (x:Fr) (t:Nat):Fin.ofNat B4 ((bitV (outF x) t).toNat+0)=outF (bitF x t):=by
 have e:(bitV (outF x) t).toNat=x.val / 2 ^ t % 2:=by unfold bitV;rw[outF_val,Int.toNat_natCast]
 rw[e]
 unfold bitF
 have h:x.val / 2 ^ t % 2<2:=Nat.mod_lt _ (by decide)
 by_cases h1:x.val / 2 ^ t % 2=1
 ·rw[if_pos h1,h1,outF_one];rfl
 ·rw[if_neg h1,show x.val / 2 ^ t % 2=0 from by omega,(outF_zero 0).2 rfl];rfl
theorem bitV_pos (u:U4) (t:Nat):0≤bitV u t∧bitV u t<18446744073709551616:=by
 have h:u.val / 2 ^ t % 2<2:=Nat.mod_lt _ (by decide)
 unfold bitV
 omega
theorem bitF_01 (x:Fr) (t:Nat):bitF x t=1∨bitF x t=0:=by unfold bitF;split<;>simp
theorem getA {α:Type} (z:α) (U:List α) (A B:List α) (n:Nat) (h:n<A.length):(U++(A++B)).getD (U.length+n) z=A.getD n z:=by
 rw[List.getD_eq_getElem?_getD,List.getElem?_append_right (by omega),Nat.add_sub_cancel_left,List.getElem?_append_left h,←List.getD_eq_getElem?_getD]
theorem bitW_get (x:Fr):∀(t j:Nat),j<t→(bitW x t).getD j 0=bitF x j
 | 0,j,h=>by omega
 | t+1,j,h=>by
  show (bitW x t++[bitF x t]).getD j 0=_
  by_cases h1:j<t
  ·rw[List.getD_eq_getElem?_getD,List.getElem?_append_left (by rw[bitW_len];exact h1),←List.getD_eq_getElem?_getD]
   exact bitW_get x t j h1
  ·have:j=t:=by omega
   subst this
   rw[List.getD_eq_getElem?_getD,List.getElem?_append_right (by rw[bitW_len];exact Nat.le_refl _),bitW_len,Nat.sub_self]
   rfl
theorem bit_at (W:List Fr) (x:Fr) (N t j:Nat) (h:j<N):vF (W++(bitW x N++accW x t)) ((W.length:Int)+(j:Int))=bitF x j:=by
 unfold vF
 rw[show ((W.length:Int)+(j:Int)).toNat=W.length+j from by omega,getA _ _ _ _ _ (by rw[bitW_len];exact h),bitW_get x N j h]
theorem acc_at (W:List Fr) (x:Fr) (N t:Nat) (h:1≤N):vF (W++(bitW x N++accW x t)) (lastV (W.length:Int) (N:Int) t)=accF x t:=by
 cases t with
 | zero=>
  have:=bit_at W x N 0 0 h
  rw[show (W.length:Int)+((0:Nat):Int)=(W.length:Int) from by omega] at this
  exact this
 | succ t=>
  have e:vF ((W++(bitW x N++accW x t))++[accF x (t+1)]) (((W++(bitW x N++accW x t)).length:Nat):Int)=accF x (t+1):=vF_new _ _
  rw[List.length_append,List.length_append,bitW_len,accW_len,List.append_assoc,List.append_assoc] at e
  rw[show lastV (W.length:Int) (N:Int) (t+1)=((W.length+(N+t):Nat):Int) from by show (W.length:Int)+(N:Int)+(t:Int)=_;omega]
  exact e

section
variable {l:List OpD} {G:List GateD} {W:List Fr} {J J2:List U4} {wr:Bool} {x:Fr} {ms i a b c m:Int} {k:U4} {ks:List U4} {vs:List Int} {w0:World} {F0:Nat→Prop} {K:Kp} {ac:List Act} {Q:Exit→Act→World→Prop} {cX:Ctx} {aX:Act}

theorem bitB_len (f:Int):∀t,(bitB f t).length=t
 | 0=>rfl
 | t+1=>by show (bitB f t++[_]).length=_;rw[List.length_append,bitB_len f t];rfl
theorem bitS_len (f N:Int):∀t,(bitS f N t).length=t
 | 0=>rfl
 | t+1=>by show (bitS f N t++[_]).length=_;rw[List.length_append,bitS_len f N t];rfl

theorem alT10 {N:Nat} (h1:W.length≤600000) (h2:G.length≤600000) (hN:1≤N) (hN2:N≤254) (hm:m=(N:Int)) (ia:0≤a∧a<(W.length:Int)) (hs:Sim w0 F0 K ac (rvO l G (W.map outF) J wr ms i 10 a b c m k ks vs) cX aX)
  (hK:∀ac cY aY,Sim w0 F0 K ac (rvT l (G++gatesOf (W.length:Int) 10 a b c m k ks vs) ((W++valsOf W x 10 a b c m k ks vs).map outF) J (wr || wrongOf W 10 a b m) ms i) cY aY→Wq Try.prog Q alR_k ac .normal aY cY.w):Wq Try.prog Q alB_k ac .normal aX cX.w:=by
 have eg:gatesOf (W.length:Int) 10 a b c m k ks vs=bitB (W.length:Int) N++bitS (W.length:Int) (N:Int) (N-1)++[equalG (lastV (W.length:Int) (N:Int) (N-1)) a]:=by
  rw[hm];exact congrArg (bitG (W.length:Int) a) (Int.toNat_natCast N)
 have ev:valsOf W x 10 a b c m k ks vs=bitW (vF W a) N++accW (vF W a) (N-1):=by
  rw[hm];exact congrArg (fun n=>bitW (vF W a) n++accW (vF W a) (n-1)) (Int.toNat_natCast N)
 have ew:wrongOf W 10 a b m=decide (accF (vF W a) (N-1)≠vF W a):=by
  rw[hm];exact congrArg (fun n=>decide (accF (vF W a) (n-1)≠vF W a)) (Int.toNat_natCast N)
 rw[eg,ev,ew] at hK
 have h01:¬(0:Fr)=1:=by decide +kernel
 obtain ⟨y,hy⟩:∃y,y=vF W a:=⟨_,rfl⟩
 rw[←hy] at hK
 have ya:∀U,vF (W++U) a=y:=fun U=>(vF_apps ia).trans hy.symm
 -- the last sums
 have loop3:∀ac cY aY,Sim w0 F0 K ac (r10U l (G++(bitB (W.length:Int) N++bitS (W.length:Int) (N:Int) 0)) ((W++(bitW y N++accW y 0)).map outF) J wr ms i a b c m k ks vs (W.length:Int) ((0+1:Nat):Int) (lastV (W.length:Int) (N:Int) 0) (pwS 0)) cY aY→Wq Try.prog Q al10c_k ac .normal aY cY.w:=by
  intro ac cY aY hs1
  refine loop_rule (ι:={ t:Nat // t+1≤N }) (fun t=>r10U l (G++(bitB (W.length:Int) N++bitS (W.length:Int) (N:Int) t.1)) ((W++(bitW y N++accW y t.1)).map outF) J wr ms i a b c m k ks vs (W.length:Int) ((t.1+1:Nat):Int) (lastV (W.length:Int) (N:Int) t.1) (pwS t.1)) (fun t=>N-t.1) (c:=lpC al10c_k) (k:=lpR al10c_k) (by kernel_rfl) (fun t ih ac cY aY hs=>?_) ⟨0,by omega⟩ hs1
  obtain ⟨t,ht⟩:=t
  simp only at ih hs
  have lG:(G++(bitB (W.length:Int) N++bitS (W.length:Int) (N:Int) t)).length=G.length+(N+t):=by rw[List.length_append,List.length_append,bitB_len,bitS_len]
  have lW:(W++(bitW y N++accW y t)).length=W.length+(N+t):=by rw[List.length_append,List.length_append,bitW_len,accW_len]
  have la:0≤lastV (W.length:Int) (N:Int) t∧lastV (W.length:Int) (N:Int) t<(W.length:Int)+(N:Int)+(t:Int):=by cases t<;>(simp only[lastV];omega)
  have e1:=acc_at W y N t hN
  by_cases h:t+1<N
  ·have x0:wrap IntKind.i64 ((W.length:Int)+((t+1:Nat):Int))=(W.length:Int)+((t+1:Nat):Int):=wrap_id (by omega) (by omega)
   have x1:wrap IntKind.i64 (((W.length+(N+t)+1:Nat):Int)-1)=(W.length:Int)+(N:Int)+(t:Int):=by rw[wrap_id (by omega) (by omega)];omega
   have x3:wrap IntKind.i64 (((t+1:Nat):Int)+1)=((t+1+1:Nat):Int):=by rw[wrap_id (by omega) (by omega)];omega
   have e2:=bit_at W y N t (t+1) h
   refine al10o l _ _ J wr ms i a b c m k ks vs _ _ _ _ (by rw[List.length_map,lG,lW,x0];exact (by simp only[AllP,maxLen,decide_eq_true_eq,decide_eq_false_iff_not,List.length_append,List.length_cons,List.length_nil,List.length_map,beq_iff_eq,bne_iff_ne,bne_eq_false_iff_eq,beq_eq_false_iff_ne,Int.toNat_natCast,getV,clean_out,Bool.false_eq_true,if_false,outF_is1,outF_zero,outF_same,Bool.not_eq_true',Bool.not_eq_false'];and_intros<;>first | rfl | exact True.intro | omega | exact outF_lt _ | assumption)) hs fun ac cU aU hs2=>?_
   rw[List.length_map,lG,lW,x0,x1,x3,getV,getV,e1,e2,pwS_out,addU_out,mul_one_out,mulU_out,addU_out] at hs2
   refine ih ⟨t+1,by omega⟩ (by show N-(t+1)<N-t;omega) ac cU aU ?_
   show Sim w0 F0 K ac (r10U l (G++(bitB (W.length:Int) N++(bitS (W.length:Int) (N:Int) t++[sumG oneU (lastV (W.length:Int) (N:Int) t) (pwS (t+1)) ((W.length:Int)+((t+1:Nat):Int)) ((W.length:Int)+(N:Int)+(t:Int))]))) ((W++(bitW y N++(accW y t++[accF y (t+1)]))).map outF) J wr ms i a b c m k ks vs (W.length:Int) ((t+1+1:Nat):Int) ((W.length:Int)+(N:Int)+(t:Int)) (pwS (t+1))) cU aU
   rw[←List.append_assoc (bs:=bitS _ _ _),←List.append_assoc,←List.append_assoc (bs:=accW _ _),←List.append_assoc W,←mapA,pwS_out (t+1)]
   unfold r10U sumG
   rw[cl_one,cl_out,List.length_append (bs:=[_]),lG,List.length_append (bs:=[outF _]),List.length_map,lW]
   exact hs2.nx _
  ·have et:N-1=t:=by omega
   rw[et] at hK
   have ey:vF (W++(bitW y N++accW y t)) a=y:=ya _
   have ea:vF (W++(bitW y N++accW y t)) (lastV (W.length:Int) (N:Int) t)=accF y t:=e1
   by_cases hq:accF y t=y
   ·rw[show (wr || decide (accF y t≠y))=wr from by rw[decide_eq_false (not_not_intro hq)];exact Bool.or_false wr] at hK
    refine al10y l _ _ J wr ms i a b c m k ks vs _ _ _ _ (by rw[List.length_map,lG,lW,getV,getV,ea,ey,hq];exact (by simp only[AllP,maxLen,decide_eq_true_eq,decide_eq_false_iff_not,List.length_append,List.length_cons,List.length_nil,List.length_map,beq_iff_eq,bne_iff_ne,bne_eq_false_iff_eq,beq_eq_false_iff_ne,Int.toNat_natCast,getV,clean_out,Bool.false_eq_true,if_false,outF_is1,outF_zero,outF_same,Bool.not_eq_true',Bool.not_eq_false'];and_intros<;>first | rfl | exact True.intro | omega | exact outF_lt _ | assumption)) hs fun ac cU aU hs2=>hK _ _ _ ?_
    rw[←List.append_assoc G]
    unfold rvT equalG
    rw[List.length_append (bs:=[_])]
    exact hs2.nx _
   ·rw[show (wr || decide (accF y t≠y))=true from by rw[decide_eq_true hq];exact Bool.or_true wr] at hK
    refine al10x l _ _ J wr ms i a b c m k ks vs _ _ _ _ (by rw[List.length_map,lG,lW,getV,getV,ea,ey];exact (by simp only[AllP,maxLen,decide_eq_true_eq,decide_eq_false_iff_not,List.length_append,List.length_cons,List.length_nil,List.length_map,beq_iff_eq,bne_iff_ne,bne_eq_false_iff_eq,beq_eq_false_iff_ne,Int.toNat_natCast,getV,clean_out,Bool.false_eq_true,if_false,outF_is1,outF_zero,outF_same,Bool.not_eq_true',Bool.not_eq_false'];and_intros<;>first | rfl | exact True.intro | omega | exact outF_lt _ | assumption)) hs fun ac cU aU hs2=>hK _ _ _ ?_
    rw[←List.append_assoc G]
    unfold rvT equalG
    rw[List.length_append (bs:=[_])]
    exact (toBool hs2).nx _
 -- each bit is one
 have loop2:∀ac cY aY,Sim w0 F0 K ac (r10T l (G++bitB (W.length:Int) 0) ((W++bitW y N).map outF) J wr ms i a b c m k ks vs (W.length:Int) ((0:Nat):Int)) cY aY→Wq Try.prog Q al10b_k ac .normal aY cY.w:=by
  intro ac cY aY hs1
  refine loop_rule (ι:={ t:Nat // t≤N }) (fun t=>r10T l (G++bitB (W.length:Int) t.1) ((W++bitW y N).map outF) J wr ms i a b c m k ks vs (W.length:Int) (t.1:Int)) (fun t=>N-t.1) (c:=lpC al10b_k) (k:=lpR al10b_k) (by kernel_rfl) (fun t ih ac cY aY hs=>?_) ⟨0,by omega⟩ hs1
  obtain ⟨t,ht⟩:=t
  simp only at ih hs
  have lG:(G++bitB (W.length:Int) t).length=G.length+t:=by rw[List.length_append,bitB_len]
  have lW:(W++bitW y N).length=W.length+N:=by rw[List.length_append,bitW_len]
  by_cases h:t<N
  ·have x2:wrap IntKind.i64 ((W.length:Int)+(t:Int))=(W.length:Int)+(t:Int):=wrap_id (by omega) (by omega)
   have x3:wrap IntKind.i64 ((t:Int)+1)=((t+1:Nat):Int):=by rw[wrap_id (by omega) (by omega)];omega
   have e2:vF (W++bitW y N) ((W.length:Int)+(t:Int))=bitF y t:=by
    have:=bit_at W y N 0 t h
    rwa [show bitW y N++accW y 0=bitW y N from List.append_nil _] at this
   have next:∀cU aU,Sim w0 F0 K ac (r10T l ((G++bitB (W.length:Int) t)++[boolG ((W.length:Int)+(t:Int))]) ((W++bitW y N).map outF) J wr ms i a b c m k ks vs (W.length:Int) ((t+1:Nat):Int)) cU aU→Wq Try.prog Q (lpBk al10b_k) ac .normal aU cU.w:=fun cU aU hs3=>by
    refine ih ⟨t+1,by omega⟩ (by show N-(t+1)<N-t;omega) ac cU aU ?_
    rw[List.append_assoc] at hs3
    exact hs3
   rcases bitF_01 y t with hb | hb
   ·refine al10mx l _ _ J wr ms i a b c m k ks vs _ _ (by rw[List.length_map,lG,lW,x2,getV,e2,hb];exact (by simp only[AllP,maxLen,decide_eq_true_eq,decide_eq_false_iff_not,List.length_append,List.length_cons,List.length_nil,List.length_map,beq_iff_eq,bne_iff_ne,bne_eq_false_iff_eq,beq_eq_false_iff_ne,Int.toNat_natCast,getV,clean_out,Bool.false_eq_true,if_false,outF_is1,outF_zero,outF_same,Bool.not_eq_true',Bool.not_eq_false'];and_intros<;>first | rfl | exact True.intro | omega | exact outF_lt _ | assumption)) hs fun ac cU aU hs2=>?_
    refine ih ⟨t+1,by omega⟩ (by show N-(t+1)<N-t;omega) ac cU aU ?_
    rw[x2,x3] at hs2
    show Sim w0 F0 K ac (r10T l (G++(bitB (W.length:Int) t++[boolG ((W.length:Int)+(t:Int))])) ((W++bitW y N).map outF) J wr ms i a b c m k ks vs (W.length:Int) ((t+1:Nat):Int)) cU aU
    rw[←List.append_assoc]
    unfold r10T boolG
    rw[List.length_append (bs:=[_])]
    exact hs2.nx _
   ·refine al10mz l _ _ J wr ms i a b c m k ks vs _ _ (by rw[List.length_map,lG,lW,x2,getV,e2,hb];exact (by simp only[AllP,maxLen,decide_eq_true_eq,decide_eq_false_iff_not,List.length_append,List.length_cons,List.length_nil,List.length_map,beq_iff_eq,bne_iff_ne,bne_eq_false_iff_eq,beq_eq_false_iff_ne,Int.toNat_natCast,getV,clean_out,Bool.false_eq_true,if_false,outF_is1,outF_zero,outF_same,Bool.not_eq_true',Bool.not_eq_false'];and_intros<;>first | rfl | exact True.intro | omega | exact outF_lt _ | assumption)) hs fun ac cU aU hs2=>?_
    refine ih ⟨t+1,by omega⟩ (by show N-(t+1)<N-t;omega) ac cU aU ?_
    rw[x2,x3] at hs2
    show Sim w0 F0 K ac (r10T l (G++(bitB (W.length:Int) t++[boolG ((W.length:Int)+(t:Int))])) ((W++bitW y N).map outF) J wr ms i a b c m k ks vs (W.length:Int) ((t+1:Nat):Int)) cU aU
    rw[←List.append_assoc]
    unfold r10T boolG
    rw[List.length_append (bs:=[_])]
    exact hs2.nx _
  ·have et:t=N:=by omega
   subst et
   refine al10c l _ _ J wr ms i a b c m k ks vs _ _ (by simp only[AllP,maxLen,decide_eq_true_eq,decide_eq_false_iff_not,List.length_append,List.length_cons,List.length_nil,List.length_map,beq_iff_eq,bne_iff_ne,bne_eq_false_iff_eq,beq_eq_false_iff_ne,Int.toNat_natCast,getV,clean_out,Bool.false_eq_true,if_false,outF_is1,outF_zero,outF_same,Bool.not_eq_true',Bool.not_eq_false'];and_intros<;>first | rfl | exact True.intro | omega | exact outF_lt _ | assumption) hs fun ac cU aU hs2=>loop3 _ _ _ ?_
   rw[show bitB (W.length:Int) t++bitS (W.length:Int) (t:Int) 0=bitB (W.length:Int) t from List.append_nil _,show bitW y t++accW y 0=bitW y t from List.append_nil _]
   exact hs2.nx _
 -- the bits
 have loop1:∀ac cY aY,Sim w0 F0 K ac (r10S l G ((W++bitW y 0).map outF) J wr ms i a b c m k ks vs (W.length:Int) ((0:Nat):Int)) cY aY→Wq Try.prog Q al10a_k ac .normal aY cY.w:=by
  intro ac cY aY hs1
  refine loop_rule (ι:={ t:Nat // t≤N }) (fun t=>r10S l G ((W++bitW y t.1).map outF) J wr ms i a b c m k ks vs (W.length:Int) (t.1:Int)) (fun t=>N-t.1) (c:=lpC al10a_k) (k:=lpR al10a_k) (by kernel_rfl) (fun t ih ac cY aY hs=>?_) ⟨0,by omega⟩ hs1
  obtain ⟨t,ht⟩:=t
  simp only at ih hs
  have lW:(W++bitW y t).length=W.length+t:=by rw[List.length_append,bitW_len]
  obtain ⟨bv1,bv2⟩:=bitV_pos (outF (vF (W++bitW y t) a)) t
  by_cases h:t<N
  ·have x3:wrap IntKind.i64 ((t:Int)+1)=((t+1:Nat):Int):=by rw[wrap_id (by omega) (by omega)];omega
   refine al10n l _ _ J wr ms i a b c m k ks vs _ _ (by rw[List.length_map,lW];exact (by simp only[AllP,maxLen,decide_eq_true_eq,decide_eq_false_iff_not,List.length_append,List.length_cons,List.length_nil,List.length_map,beq_iff_eq,bne_iff_ne,bne_eq_false_iff_eq,beq_eq_false_iff_ne,Int.toNat_natCast,getV,clean_out,Bool.false_eq_true,if_false,outF_is1,outF_zero,outF_same,Bool.not_eq_true',Bool.not_eq_false'];and_intros<;>first | rfl | exact True.intro | omega | exact outF_lt _ | assumption)) hs fun ac cU aU hs2=>?_
   rw[List.length_map,lW,x3,getV,ya,Int.toNat_natCast,bit_out] at hs2
   refine ih ⟨t+1,by omega⟩ (by show N-(t+1)<N-t;omega) ac cU aU ?_
   show Sim w0 F0 K ac (r10S l G ((W++(bitW y t++[bitF y t])).map outF) J wr ms i a b c m k ks vs (W.length:Int) ((t+1:Nat):Int)) cU aU
   rw[←List.append_assoc,←mapA]
   unfold r10S
   rw[List.length_append (bs:=[outF _]),List.length_map,lW]
   exact hs2.nx _
  ·have et:t=N:=by omega
   subst et
   refine al10b l _ _ J wr ms i a b c m k ks vs _ _ (by simp only[AllP,maxLen,decide_eq_true_eq,decide_eq_false_iff_not,List.length_append,List.length_cons,List.length_nil,List.length_map,beq_iff_eq,bne_iff_ne,bne_eq_false_iff_eq,beq_eq_false_iff_ne,Int.toNat_natCast,getV,clean_out,Bool.false_eq_true,if_false,outF_is1,outF_zero,outF_same,Bool.not_eq_true',Bool.not_eq_false'];and_intros<;>first | rfl | exact True.intro | omega | exact outF_lt _ | assumption) hs fun ac cU aU hs2=>loop2 _ _ _ ?_
   rw[show G++bitB (W.length:Int) 0=G from List.append_nil _]
   exact hs2.nx _
 refine al10a l G (W.map outF) J wr ms i a b c m k ks vs (by simp only[AllP,maxLen,decide_eq_true_eq,decide_eq_false_iff_not,List.length_append,List.length_cons,List.length_nil,List.length_map,beq_iff_eq,bne_iff_ne,bne_eq_false_iff_eq,beq_eq_false_iff_ne,Int.toNat_natCast,getV,clean_out,Bool.false_eq_true,if_false,outF_is1,outF_zero,outF_same,Bool.not_eq_true',Bool.not_eq_false'];and_intros<;>first | rfl | exact True.intro | omega | exact outF_lt _ | assumption) hs fun ac cU aU hs2=>loop1 _ _ _ ?_
 rw[List.length_map] at hs2
 rw[show W++bitW y 0=W from List.append_nil _]
 unfold r10S
 rw[List.length_map]
 exact hs2.nx _
end
end

set_option linter.unusedSimpArgs false
set_option linter.unusedVariables false
section

section
variable {r:Nat} [NeZero r]
theorem one_add_neg (m:Fin r):(1:Fin r)+(0-m)=1-m:=by grind
theorem one_mul_add (b c o:Fin r) (h:o=0-1):b+o*c=b-c:=by subst h;grind
end
theorem one_sub_out (m:Fr):cleanU (oneU+outF (0-m))=outF (1-m):=by
 rw[←outF_one,addU_out]
 exact congrArg outF (one_add_neg m)
theorem mOmul_out (y:Fr):mulU mO (outF y)=outF (mF*y):=mulU_out mF y
theorem minus_out (y z:Fr):outF (y+mF*z)=outF (y-z):=congrArg outF (one_mul_add y z mF rfl)
theorem vF_new1 (W:List Fr) (y z:Fr):vF ((W++[y])++[z]) ((W.length+1:Nat):Int)=z:=by
 have:=vF_new (W++[y]) z
 rw[List.length_append] at this
 exact this

section
variable {l:List OpD} {G:List GateD} {W:List Fr} {J J2:List U4} {wr:Bool} {x:Fr} {ms i a b c m:Int} {k:U4} {ks:List U4} {vs:List Int} {w0:World} {F0:Nat→Prop} {K:Kp} {ac:List Act} {Q:Exit→Act→World→Prop} {cX:Ctx} {aX:Act}

theorem alT9 (h1:W.length≤600000) (h2:G.length≤600000) (ia:0≤a∧a<(W.length:Int)) (hs:Sim w0 F0 K ac (rvO l G (W.map outF) J wr ms i 9 a b c m k ks vs) cX aX)
  (hK:∀ac cY aY,Sim w0 F0 K ac (rvT l (G++gatesOf (W.length:Int) 9 a b c m k ks vs) ((W++valsOf W x 9 a b c m k ks vs).map outF) J (wr || wrongOf W 9 a b m) ms i) cY aY→Wq Try.prog Q alR_k ac .normal aY cY.w):Wq Try.prog Q alB_k ac .normal aX cX.w:=by
 have w0' : wrap IntKind.i64 (((W.length+1:Nat):Int)-1)=(W.length:Int):=by rw[wrap_id (by omega) (by omega)];omega
 have w1' : wrap IntKind.i64 (((W.length+1+1:Nat):Int)-1)=((W.length+1:Nat):Int):=by rw[wrap_id (by omega) (by omega)];omega
 have w2' : wrap IntKind.i64 (((W.length+1+1+1:Nat):Int)-1)=((W.length+1+1:Nat):Int):=by rw[wrap_id (by omega) (by omega)];omega
 have va1:∀y,vF (W++[y]) a=vF W a:=fun y=>vF_app ia
 have va2:∀y z,vF ((W++[y])++[z]) a=vF W a:=fun y z=>(vF_app (by simp only[List.length_append,List.length_cons,List.length_nil];omega)).trans (va1 y)
 have eg:gatesOf (W.length:Int) 9 a b c m k ks vs=[⟨oneU,0,0,mO,0,a,(W.length:Int),((W.length+1:Nat):Int)⟩,⟨0,mO,0,mO,oneU,((W.length+1:Nat):Int),-1,((W.length+1+1:Nat):Int)⟩,⟨oneU,0,0,0,0,a,((W.length+1+1:Nat):Int),-1⟩]:=rfl
 rw[eg,show valsOf W x 9 a b c m k ks vs=[invP (vF W a),vF W a*invP (vF W a),1-vF W a*invP (vF W a)] from rfl,show (wr || wrongOf W 9 a b m)=wr from Bool.or_false wr] at hK
 refine al9 l G (W.map outF) J wr ms i a b c m k ks vs (by simp only[AllP,maxLen,decide_eq_true_eq,decide_eq_false_iff_not,List.length_append,List.length_cons,List.length_nil,List.length_map,beq_iff_eq,bne_iff_ne,bne_eq_false_iff_eq,beq_eq_false_iff_ne,getV,clean_out,Nat.zero_add,in_out,mul_one_out,mOmul_out,addU_out,minus_out,mapA,va1,va2,one_sub_out,vF_new,vF_new1,mulU_out,w0',w1',w2',Bool.false_eq_true,if_false,outF_is1,outF_zero,outF_same,Bool.not_eq_true',Bool.not_eq_false'];and_intros<;>first | exact True.intro | exact outF_lt _ | omega | assumption | rfl) hs fun ac cU aU hs2=>hK _ _ _ ?_
 simp only[List.length_map,List.length_append,List.length_cons,List.length_nil,Nat.zero_add,getV,in_out,mapA,va1,va2,vF_new,vF_new1,mulU_out,one_sub_out,w0',w1',w2'] at hs2
 unfold rvT
 simp only[List.map_append,List.map_cons,List.map_nil,List.length_append,List.length_cons,List.length_nil,List.length_map,Nat.zero_add,List.append_assoc,List.cons_append,List.nil_append] at hs2 ⊢
 exact hs2.nx _

theorem alT8 (h1:W.length≤600000) (h2:G.length≤600000) (ia:0≤a∧a<(W.length:Int)) (ib:0≤b∧b<(W.length:Int)) (ic:0≤c∧c<(W.length:Int)) (hs:Sim w0 F0 K ac (rvO l G (W.map outF) J wr ms i 8 a b c m k ks vs) cX aX)
  (hK:∀ac cY aY,Sim w0 F0 K ac (rvT l (G++gatesOf (W.length:Int) 8 a b c m k ks vs) ((W++valsOf W x 8 a b c m k ks vs).map outF) J (wr || wrongOf W 8 a b m) ms i) cY aY→Wq Try.prog Q alR_k ac .normal aY cY.w):Wq Try.prog Q alB_k ac .normal aX cX.w:=by
 have w0' : wrap IntKind.i64 (((W.length+1:Nat):Int)-1)=(W.length:Int):=by rw[wrap_id (by omega) (by omega)];omega
 have w1' : wrap IntKind.i64 (((W.length+1+1:Nat):Int)-1)=((W.length+1:Nat):Int):=by rw[wrap_id (by omega) (by omega)];omega
 have w2' : wrap IntKind.i64 (((W.length+1+1+1:Nat):Int)-1)=((W.length+1+1:Nat):Int):=by rw[wrap_id (by omega) (by omega)];omega
 have v1:∀{q:Int},0≤q∧q<(W.length:Int)→∀y,vF (W++[y]) q=vF W q:=fun h y=>vF_app h
 have v2:∀{q:Int},0≤q∧q<(W.length:Int)→∀y z,vF ((W++[y])++[z]) q=vF W q:=fun h y z=>(vF_app (by simp only[List.length_append,List.length_cons,List.length_nil];omega)).trans (v1 h y)
 have va1:=v1 ia
 have vc1:=v1 ic
 have vc2:=v2 ic
 have h01:¬(0:Fr)=1:=by decide +kernel
 have eg:gatesOf (W.length:Int) 8 a b c m k ks vs=[⟨oneU,mO,0,0,0,a,a,-1⟩,⟨0,oneU,mO,mO,0,b,c,(W.length:Int)⟩,⟨oneU,0,0,mO,0,a,(W.length:Int),((W.length+1:Nat):Int)⟩,⟨0,oneU,oneU,mO,0,((W.length+1:Nat):Int),c,((W.length+1+1:Nat):Int)⟩]:=by
  show [boolG a,sumG oneU b mO c _,prodG a _ _,sumG oneU _ oneU c _]=_
  unfold boolG sumG prodG
  rw[cl_one,cl_mO]
  rfl
 rw[eg,show valsOf W x 8 a b c m k ks vs=[vF W b-vF W c,vF W a*(vF W b-vF W c),vF W a*(vF W b-vF W c)+vF W c] from rfl,show wrongOf W 8 a b m=notBit (vF W a) from rfl] at hK
 by_cases c1:vF W a=1
 ·rw[show (wr || notBit (vF W a))=wr from by unfold notBit;rw[decide_eq_true c1];exact Bool.or_false wr] at hK
  refine al8x l G (W.map outF) J wr ms i a b c m k ks vs (by simp only[AllP,maxLen,decide_eq_true_eq,decide_eq_false_iff_not,List.length_append,List.length_cons,List.length_nil,List.length_map,beq_iff_eq,bne_iff_ne,bne_eq_false_iff_eq,beq_eq_false_iff_ne,getV,clean_out,Nat.zero_add,in_out,mul_one_out,mOmul_out,addU_out,minus_out,mapA,va1,vc1,vc2,vF_new,vF_new1,mulU_out,w0',w1',w2',Bool.false_eq_true,if_false,outF_is1,outF_zero,outF_same,Bool.not_eq_true',Bool.not_eq_false'];and_intros<;>first | exact True.intro | exact outF_lt _ | omega | assumption | rfl) hs fun ac cU aU hs2=>hK _ _ _ ?_
  simp only[List.length_map,List.length_append,List.length_cons,List.length_nil,Nat.zero_add,getV,in_out,mul_one_out,mOmul_out,addU_out,minus_out,mapA,va1,vc1,vc2,vF_new,vF_new1,mulU_out,w0',w1',w2'] at hs2
  unfold rvT
  simp only[List.map_append,List.map_cons,List.map_nil,List.length_append,List.length_cons,List.length_nil,List.length_map,Nat.zero_add,List.append_assoc,List.cons_append,List.nil_append] at hs2 ⊢
  exact hs2.nx _
 by_cases c0:vF W a=0
 ·rw[show (wr || notBit (vF W a))=wr from by unfold notBit;rw[decide_eq_true c0,Bool.or_true];exact Bool.or_false wr] at hK
  refine al8z l G (W.map outF) J wr ms i a b c m k ks vs (by simp only[AllP,maxLen,decide_eq_true_eq,decide_eq_false_iff_not,List.length_append,List.length_cons,List.length_nil,List.length_map,beq_iff_eq,bne_iff_ne,bne_eq_false_iff_eq,beq_eq_false_iff_ne,getV,clean_out,Nat.zero_add,in_out,mul_one_out,mOmul_out,addU_out,minus_out,mapA,va1,vc1,vc2,vF_new,vF_new1,mulU_out,w0',w1',w2',Bool.false_eq_true,if_false,outF_is1,outF_zero,outF_same,Bool.not_eq_true',Bool.not_eq_false'];and_intros<;>first | exact True.intro | exact outF_lt _ | omega | assumption | rfl) hs fun ac cU aU hs2=>hK _ _ _ ?_
  simp only[List.length_map,List.length_append,List.length_cons,List.length_nil,Nat.zero_add,getV,in_out,mul_one_out,mOmul_out,addU_out,minus_out,mapA,va1,vc1,vc2,vF_new,vF_new1,mulU_out,w0',w1',w2'] at hs2
  unfold rvT
  simp only[List.map_append,List.map_cons,List.map_nil,List.length_append,List.length_cons,List.length_nil,List.length_map,Nat.zero_add,List.append_assoc,List.cons_append,List.nil_append] at hs2 ⊢
  exact hs2.nx _
 ·rw[show (wr || notBit (vF W a))=true from by unfold notBit;rw[decide_eq_false c1,decide_eq_false c0];exact Bool.or_true wr] at hK
  refine al8y l G (W.map outF) J wr ms i a b c m k ks vs (by simp only[AllP,maxLen,decide_eq_true_eq,decide_eq_false_iff_not,List.length_append,List.length_cons,List.length_nil,List.length_map,beq_iff_eq,bne_iff_ne,bne_eq_false_iff_eq,beq_eq_false_iff_ne,getV,clean_out,Nat.zero_add,in_out,mul_one_out,mOmul_out,addU_out,minus_out,mapA,va1,vc1,vc2,vF_new,vF_new1,mulU_out,w0',w1',w2',Bool.false_eq_true,if_false,outF_is1,outF_zero,outF_same,Bool.not_eq_true',Bool.not_eq_false'];and_intros<;>first | exact True.intro | exact outF_lt _ | omega | assumption | rfl) hs fun ac cU aU hs2=>hK _ _ _ ?_
  simp only[List.length_map,List.length_append,List.length_cons,List.length_nil,Nat.zero_add,getV,in_out,mul_one_out,mOmul_out,addU_out,minus_out,mapA,va1,vc1,vc2,vF_new,vF_new1,mulU_out,w0',w1',w2'] at hs2
  unfold rvT
  simp only[List.map_append,List.map_cons,List.map_nil,List.length_append,List.length_cons,List.length_nil,List.length_map,Nat.zero_add,List.append_assoc,List.cons_append,List.nil_append] at hs2 ⊢
  exact (toBool hs2).nx _
end
end

section
section
variable {w0:World} {F0:Nat→Prop} {K:Kp} {ac:List Act} {Q:Exit→Act→World→Prop} {cX:Ctx} {aX:Act}

--@env rC rC_ok
def alL_k:List KI:=(run rC false 26 ((fun (l:List OpD) (I:List U4)=>(⟨[.code (bodyOf Try.f26)],.normal,initSt Try.f26.ntmps [.v (.c (.sl (.op l))),.v (.c (.sl (.fr I)))]⟩:Cfg)) default default) [true]).cfg.k
theorem alL (l:List OpD) (I:List U4) (ho:AllP [((decide ((l.length:Int) > (1000:Int)))=true)]):Sg Try.prog (initSt Try.f26.ntmps [.v (.c (.sl (.op l))),.v (.c (.sl (.fr I)))]) (mkSt 56 [8,9] [.pt 112 0,(.ii (-1))] [112] [(eF [(.val (Value.slice Option.none 0 0)),(.val (Value.slice Option.none 0 0)),.sl (.fr I),(.lit false)])] 208 [] []) .normal (alL_k) ([.code (bodyOf Try.f26)]):=fun hs hK=>
 run_at2 (unroll:=false) (n:=26) (path:=[true]) (o:=⟨_,_,_,_,_,_,_⟩) rC_ok (by kernel_rfl) (by kernel_rfl) ho hs hK
def alLS (I:List U4):St:=mkSt 56 [8,9] [.pt 112 0,(.ii (-1))] [32,64,112] [some (.sq (.gate [])),some (.sq (.fr [])),some (.fl [.slc 32 0 0 23,.slc 64 0 0 4,.sl (.fr I),.bool false])] 208 [] []
theorem alM_end (I:List U4):runEnd rC Try.f26 false 3000 (⟨alL_k,.normal,alLS I⟩) [] [112,32,64] []=(some ([],((.t [(.c (.ptr 0 0)),(.c (.int .i64 (2:Int))),(.c (.int .i64 (0:Int))),(.c (.int .i64 (-1)))]),[(.fl [(.slc 1 0 0 23),(.slc 2 0 0 4),.sl (.fr I),(.bool false)]),(.sq (.gate ([]:List GateD))),(.sq (.fr ([]:List U4)))]))):=by kernel_rfl
end
end

section
section
variable {w0:World} {F0:Nat→Prop} {K:Kp} {ac:List Act} {Q:Exit→Act→World→Prop} {cX:Ctx} {aX:Act}

def cS (l:List OpD) (T G:List GateD) (n i:Int):St:=mkSt 77 [2,5,6,16,17,18] [.v (.c (.ptr 16 0)),.v (.c (.ptr 128 0)),.v (.c (.slc 32 0 T.length 23)),.v (.c (.sl (.op l))),.v (.c (.int .i64 (l.length:Int))),.v (.c (.int .i64 i))] [16,32,64,128] [some (.fl [.sl (.gate []),.int .i64 0,.int .i64 0]),some (.sq (.gate T)),some (.sq (.gate G)),some (.fl [.slc 64 0 G.length 23,.int .i64 n,.val (.pointer none)])] 224 [] []
--@env iD iD_ok
def cpB_k:List KI:=(run iD false 28 ((fun (l:List OpD) (T G:List GateD) (n i:Int)=>(⟨lpIn cpA_k,.normal,cS l T G n i⟩:Cfg)) default default default default default) [true,false]).cfg.k
theorem cpB (l:List OpD) (T G:List GateD) (n i:Int) (ho:AllP [((decide (i<(l.length:Int)))=true),(0≤i),(i<(l.length:Int)),(((checkE (OpD.tag (List.getD l (i).toNat op0)) (OpD.a (List.getD l (i).toNat op0)) (OpD.b (List.getD l (i).toNat op0)) (OpD.c (List.getD l (i).toNat op0)) (OpD.n (List.getD l (i).toNat op0)) (OpD.k (List.getD l (i).toNat op0)) (OpD.ks (List.getD l (i).toNat op0)) (OpD.vars (List.getD l (i).toNat op0)) n) != (0:Int))=false)]):Sg Try.prog (cS l T G n i) (mkSt 77 [2,5,6,8,16,17,18] [.pt 16 0,.pt 128 0,(.ci (.slc 32 0 T.length 23)),.pt 288 0,(.ci (.sl (.op l))),(.ii (l.length:Int)),.ii i] [16,32,64,128,288] [(eF [(.sl (.gate ([]:List GateD))),(.int .i64 (0:Int)),(.int .i64 (0:Int))]),(eQ (.gate T)),(eQ (.gate G)),(eF [(.slc 64 0 G.length 23),(.int .i64 n),(.val (Value.pointer Option.none))]),(eF [(.int .i64 (OpD.tag (List.getD l (i).toNat op0))),(.int .i64 (OpD.a (List.getD l (i).toNat op0))),(.int .i64 (OpD.b (List.getD l (i).toNat op0))),(.int .i64 (OpD.c (List.getD l (i).toNat op0))),(.int .i64 (OpD.n (List.getD l (i).toNat op0))),(.ob (.fr (OpD.k (List.getD l (i).toNat op0)))),(.sl (.fr (OpD.ks (List.getD l (i).toNat op0)))),(.sl (.int (OpD.vars (List.getD l (i).toNat op0))))])] 480 [] []) .normal (cpB_k) (lpIn cpA_k):=fun hs hK=>
 run_at2 (unroll:=false) (n:=28) (path:=[true,false]) (o:=⟨_,_,_,_,_,_,_⟩) iD_ok (by kernel_rfl) (by kernel_rfl) ho hs hK
theorem cpE_end (l:List OpD) (T G:List GateD) (n i:Int):runEnd iD Try.f9 false 3000 (⟨lpIn cpA_k,.normal,cS l T G n i⟩) [true,true] [] []=(some ([((decide (i<(l.length:Int)))=true),(0≤i),(i<(l.length:Int)),(((checkE (OpD.tag (List.getD l (i).toNat op0)) (OpD.a (List.getD l (i).toNat op0)) (OpD.b (List.getD l (i).toNat op0)) (OpD.c (List.getD l (i).toNat op0)) (OpD.n (List.getD l (i).toNat op0)) (OpD.k (List.getD l (i).toNat op0)) (OpD.ks (List.getD l (i).toNat op0)) (OpD.vars (List.getD l (i).toNat op0)) n) != (0:Int))=true)],((.t [(.a [(.sl (.gate ([]:List GateD))),(.int .i64 (0:Int)),(.int .i64 (0:Int))]),(.c (.int .i64 (checkE (OpD.tag (List.getD l (i).toNat op0)) (OpD.a (List.getD l (i).toNat op0)) (OpD.b (List.getD l (i).toNat op0)) (OpD.c (List.getD l (i).toNat op0)) (OpD.n (List.getD l (i).toNat op0)) (OpD.k (List.getD l (i).toNat op0)) (OpD.ks (List.getD l (i).toNat op0)) (OpD.vars (List.getD l (i).toNat op0)) n))),(.c (.int .i64 i))]),[]))):=by kernel_rfl
def cO (l:List OpD) (T G:List GateD) (n i:Int) (t:Int) (a b c m:Int) (k:U4) (ks:List U4) (vs:List Int):St:=mkSt 77 [2,5,6,8,16,17,18] [.pt 16 0,.pt 128 0,(.ci (.slc 32 0 T.length 23)),.pt 288 0,(.ci (.sl (.op l))),(.ii (l.length:Int)),.ii i] [16,32,64,128,288] [(eF [(.sl (.gate ([]:List GateD))),(.int .i64 (0:Int)),(.int .i64 (0:Int))]),(eQ (.gate T)),(eQ (.gate G)),(eF [(.slc 64 0 G.length 23),(.int .i64 n),(.val (Value.pointer Option.none))]),some (.fl [.int .i64 t,.int .i64 a,.int .i64 b,.int .i64 c,.int .i64 m,.ob (.fr k),.sl (.fr ks),.sl (.int vs)])] 480 [] []
section
variable (l:List OpD) (T G:List GateD) (n i:Int) (a b c m:Int) (k:U4) (ks:List U4) (vs:List Int)
theorem cp1 (ho:AllP [(((1:Int)==2)=false),(((1:Int)==1)=true)]):Sg Try.prog (cO l T G n i 1 a b c m k ks vs) (mkSt 77 [2,5,6,16,17,18] [.pt 16 0,.pt 128 0,(.ci (.slc 32 0 T.length 23)),(.ci (.sl (.op l))),(.ii (l.length:Int)),(.ii (wrap .i64 (i+1)))] [16,32,64,128] [(eF [(.sl (.gate ([]:List GateD))),(.int .i64 (0:Int)),(.int .i64 (0:Int))]),(eQ (.gate T)),(eQ (.gate G)),(eF [(.slc 64 0 G.length 23),(.int .i64 (wrap .i64 (n+1))),(.val (Value.pointer Option.none))])] 1008 [] []) .normal (lpBk cpA_k) (cpB_k):=fun hs hK=>
 run_at2 (unroll:=false) (n:=3000) (path:=[false,true]) (o:=⟨_,_,_,_,_,_,_⟩) iD_ok (by kernel_rfl) (by kernel_rfl) ho hs hK
theorem cp3 (ho:AllP [(((3:Int)==2)=false),(((3:Int)==1)=false),(((3:Int)==3)=true),((decide ((G.length:Int)≤(4096:Int)))=true),(((G.length+1)*184)≤140737488355328),((G.length+1)≤maxLen),(G.length=G.length),(1=1)]):Sg Try.prog (cO l T G n i 3 a b c m k ks vs) (mkSt 77 [2,5,6,16,17,18] [.pt 16 0,.pt 128 0,(.ci (.slc 32 0 T.length 23)),(.ci (.sl (.op l))),(.ii (l.length:Int)),(.ii (wrap .i64 (i+1)))] [16,32,64,128] [(eF [(.sl (.gate ([]:List GateD))),(.int .i64 (0:Int)),(.int .i64 (0:Int))]),(eQ (.gate T)),(eQ (.gate (G++[(GateD.mk 0 oneU 0 0 (outF ((0:Fr)-(inF k))) (wrap .i64 ((wrap .i64 (n+1))-1)) (-1) (-1))]))),(eF [(.slc 64 0 (G.length+1) 23),(.int .i64 (wrap .i64 (n+1))),(.val (Value.pointer Option.none))])] 1504 [] []) .normal (lpBk cpA_k) (cpB_k):=fun hs hK=>
 run_at2 (unroll:=false) (n:=3000) (path:=[false,false,true,true]) (o:=⟨_,_,_,_,_,_,_⟩) iD_ok (by kernel_rfl) (by kernel_rfl) ho hs hK
theorem cp4 (ho:AllP [(((4:Int)==2)=false),(((4:Int)==1)=false),(((4:Int)==3)=false),(((4:Int)==4)=true),((decide ((G.length:Int)≤(4096:Int)))=true),(((G.length+1)*184)≤140737488355328),((G.length+1)≤maxLen),(G.length=G.length),(1=1)]):Sg Try.prog (cO l T G n i 4 a b c m k ks vs) (mkSt 77 [2,5,6,16,17,18] [.pt 16 0,.pt 128 0,(.ci (.slc 32 0 T.length 23)),(.ci (.sl (.op l))),(.ii (l.length:Int)),(.ii (wrap .i64 (i+1)))] [16,32,64,128] [(eF [(.sl (.gate ([]:List GateD))),(.int .i64 (0:Int)),(.int .i64 (0:Int))]),(eQ (.gate T)),(eQ (.gate (G++[(GateD.mk 0 (outF (inF oneU)) (outF (inF oneU)) mO (0:U4) a b (wrap .i64 ((wrap .i64 (n+1))-1)))]))),(eF [(.slc 64 0 (G.length+1) 23),(.int .i64 (wrap .i64 (n+1))),(.val (Value.pointer Option.none))])] 1824 [] []) .normal (lpBk cpA_k) (cpB_k):=fun hs hK=>
 run_at2 (unroll:=false) (n:=3000) (path:=[false,false,false,true,true]) (o:=⟨_,_,_,_,_,_,_⟩) iD_ok (by kernel_rfl) (by kernel_rfl) ho hs hK
theorem cp5 (ho:AllP [(((5:Int)==2)=false),(((5:Int)==1)=false),(((5:Int)==3)=false),(((5:Int)==4)=false),(((5:Int)==5)=true),((decide ((G.length:Int)≤(4096:Int)))=true),(((G.length+1)*184)≤140737488355328),((G.length+1)≤maxLen),(G.length=G.length),(1=1)]):Sg Try.prog (cO l T G n i 5 a b c m k ks vs) (mkSt 77 [2,5,6,16,17,18] [.pt 16 0,.pt 128 0,(.ci (.slc 32 0 T.length 23)),(.ci (.sl (.op l))),(.ii (l.length:Int)),(.ii (wrap .i64 (i+1)))] [16,32,64,128] [(eF [(.sl (.gate ([]:List GateD))),(.int .i64 (0:Int)),(.int .i64 (0:Int))]),(eQ (.gate T)),(eQ (.gate (G++[(GateD.mk oneU 0 0 mO 0 a b (wrap .i64 ((wrap .i64 (n+1))-1)))]))),(eF [(.slc 64 0 (G.length+1) 23),(.int .i64 (wrap .i64 (n+1))),(.val (Value.pointer Option.none))])] 1728 [] []) .normal (lpBk cpA_k) (cpB_k):=fun hs hK=>
 run_at2 (unroll:=false) (n:=3000) (path:=[false,false,false,false,true,true]) (o:=⟨_,_,_,_,_,_,_⟩) iD_ok (by kernel_rfl) (by kernel_rfl) ho hs hK
theorem cp6 (ho:AllP [(((6:Int)==2)=false),(((6:Int)==1)=false),(((6:Int)==3)=false),(((6:Int)==4)=false),(((6:Int)==5)=false),(((6:Int)==6)=true),(((vs.length:Int) == (1:Int))=true),(0≤(0:Int)),(0<(ks.length:Int)),(0≤(0:Int)),(0<(vs.length:Int)),((decide ((G.length:Int)≤(4096:Int)))=true),(((G.length+1)*184)≤140737488355328),((G.length+1)≤maxLen),(G.length=G.length),(1=1)]):Sg Try.prog (cO l T G n i 6 a b c m k ks vs) (mkSt 77 [2,5,6,16,17,18] [.pt 16 0,.pt 128 0,(.ci (.slc 32 0 T.length 23)),(.ci (.sl (.op l))),(.ii (l.length:Int)),(.ii (wrap .i64 (i+1)))] [16,32,64,128] [(eF [(.sl (.gate ([]:List GateD))),(.int .i64 (0:Int)),(.int .i64 (0:Int))]),(eQ (.gate T)),(eQ (.gate (G++[(GateD.mk 0 (outF (inF (ks.getD 0 0))) (0:U4) mO (0:U4) (vs.getD 0 0) (-1) (wrap .i64 ((wrap .i64 (n+1))-1)))]))),(eF [(.slc 64 0 (G.length+1) 23),(.int .i64 (wrap .i64 (n+1))),(.val (Value.pointer Option.none))])] 1904 [] []) .normal (lpBk cpA_k) (cpB_k):=fun hs hK=>
 run_at2 (unroll:=false) (n:=3000) (path:=[false,false,false,false,false,true,true,true]) (o:=⟨_,_,_,_,_,_,_⟩) iD_ok (by kernel_rfl) (by kernel_rfl) ho hs hK
theorem cp7 (ho:AllP [(((7:Int)==2)=false),(((7:Int)==1)=false),(((7:Int)==3)=false),(((7:Int)==4)=false),(((7:Int)==5)=false),(((7:Int)==6)=false),(((7:Int)==7)=true),((decide ((G.length:Int)≤(4096:Int)))=true),(((G.length+1)*184)≤140737488355328),((G.length+1)≤maxLen),(G.length=G.length),(1=1)]):Sg Try.prog (cO l T G n i 7 a b c m k ks vs) (mkSt 77 [2,5,6,16,17,18] [.pt 16 0,.pt 128 0,(.ci (.slc 32 0 T.length 23)),(.ci (.sl (.op l))),(.ii (l.length:Int)),(.ii (wrap .i64 (i+1)))] [16,32,64,128] [(eF [(.sl (.gate ([]:List GateD))),(.int .i64 (0:Int)),(.int .i64 (0:Int))]),(eQ (.gate T)),(eQ (.gate (G++[(GateD.mk oneU mO 0 0 0 a a (-1))]))),(eF [(.slc 64 0 (G.length+1) 23),(.int .i64 n),(.val (Value.pointer Option.none))])] 1568 [] []) .normal (lpBk cpA_k) (cpB_k):=fun hs hK=>
 run_at2 (unroll:=false) (n:=3000) (path:=[false,false,false,false,false,false,true,true,false]) (o:=⟨_,_,_,_,_,_,_⟩) iD_ok (by kernel_rfl) (by kernel_rfl) ho hs hK
theorem cp9 (ho:AllP [(((9:Int)==2)=false),(((9:Int)==1)=false),(((9:Int)==3)=false),(((9:Int)==4)=false),(((9:Int)==5)=false),(((9:Int)==6)=false),(((9:Int)==7)=false),(((9:Int)==8)=false),(((9:Int)==9)=true),((decide ((G.length:Int)≤(4096:Int)))=true),(((G.length+1)*184)≤140737488355328),((G.length+1)≤maxLen),(G.length=G.length),(1=1),((decide ((((G.length+1):Nat):Int)≤(4096:Int)))=true),((((G++[(GateD.mk oneU 0 0 mO 0 a (wrap .i64 ((wrap .i64 (n+1))-1)) (wrap .i64 ((wrap .i64 ((wrap .i64 (n+1))+1))-1)))]).length+1)*184)≤140737488355328),(((G++[(GateD.mk oneU 0 0 mO 0 a (wrap .i64 ((wrap .i64 (n+1))-1)) (wrap .i64 ((wrap .i64 ((wrap .i64 (n+1))+1))-1)))]).length+1)≤maxLen),((G.length+1)=(G++[(GateD.mk oneU 0 0 mO 0 a (wrap .i64 ((wrap .i64 (n+1))-1)) (wrap .i64 ((wrap .i64 ((wrap .i64 (n+1))+1))-1)))]).length),(1=1),((decide (((((G++[(GateD.mk oneU 0 0 mO 0 a (wrap .i64 ((wrap .i64 (n+1))-1)) (wrap .i64 ((wrap .i64 ((wrap .i64 (n+1))+1))-1)))]).length+1):Nat):Int)≤(4096:Int)))=true),(((((G++[(GateD.mk oneU 0 0 mO 0 a (wrap .i64 ((wrap .i64 (n+1))-1)) (wrap .i64 ((wrap .i64 ((wrap .i64 (n+1))+1))-1)))])++[(GateD.mk 0 mO 0 mO oneU (wrap .i64 ((wrap .i64 ((wrap .i64 (n+1))+1))-1)) (-1) (wrap .i64 ((wrap .i64 ((wrap .i64 ((wrap .i64 (n+1))+1))+1))-1)))]).length+1)*184)≤140737488355328),((((G++[(GateD.mk oneU 0 0 mO 0 a (wrap .i64 ((wrap .i64 (n+1))-1)) (wrap .i64 ((wrap .i64 ((wrap .i64 (n+1))+1))-1)))])++[(GateD.mk 0 mO 0 mO oneU (wrap .i64 ((wrap .i64 ((wrap .i64 (n+1))+1))-1)) (-1) (wrap .i64 ((wrap .i64 ((wrap .i64 ((wrap .i64 (n+1))+1))+1))-1)))]).length+1)≤maxLen),(((G++[(GateD.mk oneU 0 0 mO 0 a (wrap .i64 ((wrap .i64 (n+1))-1)) (wrap .i64 ((wrap .i64 ((wrap .i64 (n+1))+1))-1)))]).length+1)=((G++[(GateD.mk oneU 0 0 mO 0 a (wrap .i64 ((wrap .i64 (n+1))-1)) (wrap .i64 ((wrap .i64 ((wrap .i64 (n+1))+1))-1)))])++[(GateD.mk 0 mO 0 mO oneU (wrap .i64 ((wrap .i64 ((wrap .i64 (n+1))+1))-1)) (-1) (wrap .i64 ((wrap .i64 ((wrap .i64 ((wrap .i64 (n+1))+1))+1))-1)))]).length),(1=1)]):Sg Try.prog (cO l T G n i 9 a b c m k ks vs) (mkSt 77 [2,5,6,16,17,18] [.pt 16 0,.pt 128 0,(.ci (.slc 32 0 T.length 23)),(.ci (.sl (.op l))),(.ii (l.length:Int)),(.ii (wrap .i64 (i+1)))] [16,32,64,128] [(eF [(.sl (.gate ([]:List GateD))),(.int .i64 (0:Int)),(.int .i64 (0:Int))]),(eQ (.gate T)),(eQ (.gate (((G++[(GateD.mk oneU 0 0 mO 0 a (wrap .i64 ((wrap .i64 (n+1))-1)) (wrap .i64 ((wrap .i64 ((wrap .i64 (n+1))+1))-1)))])++[(GateD.mk 0 mO 0 mO oneU (wrap .i64 ((wrap .i64 ((wrap .i64 (n+1))+1))-1)) (-1) (wrap .i64 ((wrap .i64 ((wrap .i64 ((wrap .i64 (n+1))+1))+1))-1)))])++[(GateD.mk oneU 0 0 0 0 a (wrap .i64 ((wrap .i64 ((wrap .i64 ((wrap .i64 (n+1))+1))+1))-1)) (-1))]))),(eF [(.slc 64 0 (((G++[(GateD.mk oneU 0 0 mO 0 a (wrap .i64 ((wrap .i64 (n+1))-1)) (wrap .i64 ((wrap .i64 ((wrap .i64 (n+1))+1))-1)))])++[(GateD.mk 0 mO 0 mO oneU (wrap .i64 ((wrap .i64 ((wrap .i64 (n+1))+1))-1)) (-1) (wrap .i64 ((wrap .i64 ((wrap .i64 ((wrap .i64 (n+1))+1))+1))-1)))]).length+1) 23),(.int .i64 (wrap .i64 ((wrap .i64 ((wrap .i64 (n+1))+1))+1))),(.val (Value.pointer Option.none))])] 3488 [] []) .normal (lpBk cpA_k) (cpB_k):=fun hs hK=>
 run_at2 (unroll:=false) (n:=3000) (path:=[false,false,false,false,false,false,false,false,true,true,true,true]) (o:=⟨_,_,_,_,_,_,_⟩) iD_ok (by kernel_rfl) (by kernel_rfl) ho hs hK
theorem cp11 (ho:AllP [(((11:Int)==2)=false),(((11:Int)==1)=false),(((11:Int)==3)=false),(((11:Int)==4)=false),(((11:Int)==5)=false),(((11:Int)==6)=false),(((11:Int)==7)=false),(((11:Int)==8)=false),(((11:Int)==9)=false),(((11:Int)==10)=false),(((11:Int)==11)=true),((decide ((G.length:Int)≤(4096:Int)))=true),(((G.length+1)*184)≤140737488355328),((G.length+1)≤maxLen),(G.length=G.length),(1=1)]):Sg Try.prog (cO l T G n i 11 a b c m k ks vs) (mkSt 77 [2,5,6,16,17,18] [.pt 16 0,.pt 128 0,(.ci (.slc 32 0 T.length 23)),(.ci (.sl (.op l))),(.ii (l.length:Int)),(.ii (wrap .i64 (i+1)))] [16,32,64,128] [(eF [(.sl (.gate ([]:List GateD))),(.int .i64 (0:Int)),(.int .i64 (0:Int))]),(eQ (.gate T)),(eQ (.gate (G++[(GateD.mk 0 oneU mO 0 0 a b (-1))]))),(eF [(.slc 64 0 (G.length+1) 23),(.int .i64 n),(.val (Value.pointer Option.none))])] 1696 [] []) .normal (lpBk cpA_k) (cpB_k):=fun hs hK=>
 run_at2 (unroll:=false) (n:=3000) (path:=[false,false,false,false,false,false,false,false,false,false,true,true,false]) (o:=⟨_,_,_,_,_,_,_⟩) iD_ok (by kernel_rfl) (by kernel_rfl) ho hs hK
theorem cp2 (ho:AllP [(((2:Int)==2)=true),(((T.length+1)*184)≤140737488355328),((T.length+1)≤maxLen),(T.length=T.length),(1=1),(((2:Int)==1)=false),(((2:Int)==3)=false),(((2:Int)==4)=false),(((2:Int)==5)=false),(((2:Int)==6)=false),(((2:Int)==7)=false),(((2:Int)==8)=false),(((2:Int)==9)=false),(((2:Int)==10)=false),(((2:Int)==11)=false)]):Sg Try.prog (cO l T G n i 2 a b c m k ks vs) (mkSt 77 [2,5,6,16,17,18] [.pt 16 0,.pt 128 0,(.ci (.slc 32 0 (T.length+1) 23)),(.ci (.sl (.op l))),(.ii (l.length:Int)),(.ii (wrap .i64 (i+1)))] [16,32,64,128] [(eF [(.sl (.gate ([]:List GateD))),(.int .i64 (0:Int)),(.int .i64 (0:Int))]),(eQ (.gate (T++[(GateD.mk 0 oneU 0 0 0 a (-1) (-1))]))),(eQ (.gate G)),(eF [(.slc 64 0 G.length 23),(.int .i64 n),(.val (Value.pointer Option.none))])] 1104 [] []) .normal (lpBk cpA_k) (cpB_k):=fun hs hK=>
 run_at2 (unroll:=false) (n:=3000) (path:=[true,false,false,false,false,false,false,false,false,false,false]) (o:=⟨_,_,_,_,_,_,_⟩) iD_ok (by kernel_rfl) (by kernel_rfl) ho hs hK
theorem cp3z (ho:AllP [(((3:Int)==2)=false),(((3:Int)==1)=false),(((3:Int)==3)=true),((decide ((G.length:Int)≤(4096:Int)))=false)]):Sg Try.prog (cO l T G n i 3 a b c m k ks vs) (mkSt 77 [2,5,6,16,17,18] [.pt 16 0,.pt 128 0,(.ci (.slc 32 0 T.length 23)),(.ci (.sl (.op l))),(.ii (l.length:Int)),(.ii (wrap .i64 (i+1)))] [16,32,64,128] [(eF [(.sl (.gate ([]:List GateD))),(.int .i64 (0:Int)),(.int .i64 (0:Int))]),(eQ (.gate T)),(eQ (.gate G)),(eF [(.slc 64 0 G.length 23),(.int .i64 (wrap .i64 (n+1))),(.val (Value.pointer Option.none))])] 1328 [] []) .normal (lpBk cpA_k) (cpB_k):=fun hs hK=>
 run_at2 (unroll:=false) (n:=3000) (path:=[false,false,true,false]) (o:=⟨_,_,_,_,_,_,_⟩) iD_ok (by kernel_rfl) (by kernel_rfl) ho hs hK
theorem cp4z (ho:AllP [(((4:Int)==2)=false),(((4:Int)==1)=false),(((4:Int)==3)=false),(((4:Int)==4)=true),((decide ((G.length:Int)≤(4096:Int)))=false)]):Sg Try.prog (cO l T G n i 4 a b c m k ks vs) (mkSt 77 [2,5,6,16,17,18] [.pt 16 0,.pt 128 0,(.ci (.slc 32 0 T.length 23)),(.ci (.sl (.op l))),(.ii (l.length:Int)),(.ii (wrap .i64 (i+1)))] [16,32,64,128] [(eF [(.sl (.gate ([]:List GateD))),(.int .i64 (0:Int)),(.int .i64 (0:Int))]),(eQ (.gate T)),(eQ (.gate G)),(eF [(.slc 64 0 G.length 23),(.int .i64 (wrap .i64 (n+1))),(.val (Value.pointer Option.none))])] 1648 [] []) .normal (lpBk cpA_k) (cpB_k):=fun hs hK=>
 run_at2 (unroll:=false) (n:=3000) (path:=[false,false,false,true,false]) (o:=⟨_,_,_,_,_,_,_⟩) iD_ok (by kernel_rfl) (by kernel_rfl) ho hs hK
theorem cp5z (ho:AllP [(((5:Int)==2)=false),(((5:Int)==1)=false),(((5:Int)==3)=false),(((5:Int)==4)=false),(((5:Int)==5)=true),((decide ((G.length:Int)≤(4096:Int)))=false)]):Sg Try.prog (cO l T G n i 5 a b c m k ks vs) (mkSt 77 [2,5,6,16,17,18] [.pt 16 0,.pt 128 0,(.ci (.slc 32 0 T.length 23)),(.ci (.sl (.op l))),(.ii (l.length:Int)),(.ii (wrap .i64 (i+1)))] [16,32,64,128] [(eF [(.sl (.gate ([]:List GateD))),(.int .i64 (0:Int)),(.int .i64 (0:Int))]),(eQ (.gate T)),(eQ (.gate G)),(eF [(.slc 64 0 G.length 23),(.int .i64 (wrap .i64 (n+1))),(.val (Value.pointer Option.none))])] 1552 [] []) .normal (lpBk cpA_k) (cpB_k):=fun hs hK=>
 run_at2 (unroll:=false) (n:=3000) (path:=[false,false,false,false,true,false]) (o:=⟨_,_,_,_,_,_,_⟩) iD_ok (by kernel_rfl) (by kernel_rfl) ho hs hK
theorem cp6z (ho:AllP [(((6:Int)==2)=false),(((6:Int)==1)=false),(((6:Int)==3)=false),(((6:Int)==4)=false),(((6:Int)==5)=false),(((6:Int)==6)=true),(((vs.length:Int) == (1:Int))=true),(0≤(0:Int)),(0<(ks.length:Int)),(0≤(0:Int)),(0<(vs.length:Int)),((decide ((G.length:Int)≤(4096:Int)))=false)]):Sg Try.prog (cO l T G n i 6 a b c m k ks vs) (mkSt 77 [2,5,6,16,17,18] [.pt 16 0,.pt 128 0,(.ci (.slc 32 0 T.length 23)),(.ci (.sl (.op l))),(.ii (l.length:Int)),(.ii (wrap .i64 (i+1)))] [16,32,64,128] [(eF [(.sl (.gate ([]:List GateD))),(.int .i64 (0:Int)),(.int .i64 (0:Int))]),(eQ (.gate T)),(eQ (.gate G)),(eF [(.slc 64 0 G.length 23),(.int .i64 (wrap .i64 (n+1))),(.val (Value.pointer Option.none))])] 1728 [] []) .normal (lpBk cpA_k) (cpB_k):=fun hs hK=>
 run_at2 (unroll:=false) (n:=3000) (path:=[false,false,false,false,false,true,true,false]) (o:=⟨_,_,_,_,_,_,_⟩) iD_ok (by kernel_rfl) (by kernel_rfl) ho hs hK
theorem cp7z (ho:AllP [(((7:Int)==2)=false),(((7:Int)==1)=false),(((7:Int)==3)=false),(((7:Int)==4)=false),(((7:Int)==5)=false),(((7:Int)==6)=false),(((7:Int)==7)=true),((decide ((G.length:Int)≤(4096:Int)))=false)]):Sg Try.prog (cO l T G n i 7 a b c m k ks vs) (mkSt 77 [2,5,6,16,17,18] [.pt 16 0,.pt 128 0,(.ci (.slc 32 0 T.length 23)),(.ci (.sl (.op l))),(.ii (l.length:Int)),(.ii (wrap .i64 (i+1)))] [16,32,64,128] [(eF [(.sl (.gate ([]:List GateD))),(.int .i64 (0:Int)),(.int .i64 (0:Int))]),(eQ (.gate T)),(eQ (.gate G)),(eF [(.slc 64 0 G.length 23),(.int .i64 n),(.val (Value.pointer Option.none))])] 1392 [] []) .normal (lpBk cpA_k) (cpB_k):=fun hs hK=>
 run_at2 (unroll:=false) (n:=3000) (path:=[false,false,false,false,false,false,true,false,false]) (o:=⟨_,_,_,_,_,_,_⟩) iD_ok (by kernel_rfl) (by kernel_rfl) ho hs hK
theorem cp9y (ho:AllP [(((9:Int)==2)=false),(((9:Int)==1)=false),(((9:Int)==3)=false),(((9:Int)==4)=false),(((9:Int)==5)=false),(((9:Int)==6)=false),(((9:Int)==7)=false),(((9:Int)==8)=false),(((9:Int)==9)=true),((decide ((G.length:Int)≤(4096:Int)))=true),(((G.length+1)*184)≤140737488355328),((G.length+1)≤maxLen),(G.length=G.length),(1=1),((decide ((((G.length+1):Nat):Int)≤(4096:Int)))=true),((((G++[(GateD.mk oneU 0 0 mO 0 a (wrap .i64 ((wrap .i64 (n+1))-1)) (wrap .i64 ((wrap .i64 ((wrap .i64 (n+1))+1))-1)))]).length+1)*184)≤140737488355328),(((G++[(GateD.mk oneU 0 0 mO 0 a (wrap .i64 ((wrap .i64 (n+1))-1)) (wrap .i64 ((wrap .i64 ((wrap .i64 (n+1))+1))-1)))]).length+1)≤maxLen),((G.length+1)=(G++[(GateD.mk oneU 0 0 mO 0 a (wrap .i64 ((wrap .i64 (n+1))-1)) (wrap .i64 ((wrap .i64 ((wrap .i64 (n+1))+1))-1)))]).length),(1=1),((decide (((((G++[(GateD.mk oneU 0 0 mO 0 a (wrap .i64 ((wrap .i64 (n+1))-1)) (wrap .i64 ((wrap .i64 ((wrap .i64 (n+1))+1))-1)))]).length+1):Nat):Int)≤(4096:Int)))=false)]):Sg Try.prog (cO l T G n i 9 a b c m k ks vs) (mkSt 77 [2,5,6,16,17,18] [.pt 16 0,.pt 128 0,(.ci (.slc 32 0 T.length 23)),(.ci (.sl (.op l))),(.ii (l.length:Int)),(.ii (wrap .i64 (i+1)))] [16,32,64,128] [(eF [(.sl (.gate ([]:List GateD))),(.int .i64 (0:Int)),(.int .i64 (0:Int))]),(eQ (.gate T)),(eQ (.gate ((G++[(GateD.mk oneU 0 0 mO 0 a (wrap .i64 ((wrap .i64 (n+1))-1)) (wrap .i64 ((wrap .i64 ((wrap .i64 (n+1))+1))-1)))])++[(GateD.mk 0 mO 0 mO oneU (wrap .i64 ((wrap .i64 ((wrap .i64 (n+1))+1))-1)) (-1) (wrap .i64 ((wrap .i64 ((wrap .i64 ((wrap .i64 (n+1))+1))+1))-1)))]))),(eF [(.slc 64 0 ((G++[(GateD.mk oneU 0 0 mO 0 a (wrap .i64 ((wrap .i64 (n+1))-1)) (wrap .i64 ((wrap .i64 ((wrap .i64 (n+1))+1))-1)))]).length+1) 23),(.int .i64 (wrap .i64 ((wrap .i64 ((wrap .i64 (n+1))+1))+1))),(.val (Value.pointer Option.none))])] 3312 [] []) .normal (lpBk cpA_k) (cpB_k):=fun hs hK=>
 run_at2 (unroll:=false) (n:=3000) (path:=[false,false,false,false,false,false,false,false,true,true,true,false]) (o:=⟨_,_,_,_,_,_,_⟩) iD_ok (by kernel_rfl) (by kernel_rfl) ho hs hK
theorem cp9x (ho:AllP [(((9:Int)==2)=false),(((9:Int)==1)=false),(((9:Int)==3)=false),(((9:Int)==4)=false),(((9:Int)==5)=false),(((9:Int)==6)=false),(((9:Int)==7)=false),(((9:Int)==8)=false),(((9:Int)==9)=true),((decide ((G.length:Int)≤(4096:Int)))=true),(((G.length+1)*184)≤140737488355328),((G.length+1)≤maxLen),(G.length=G.length),(1=1),((decide ((((G.length+1):Nat):Int)≤(4096:Int)))=false),((decide ((((G.length+1):Nat):Int)≤(4096:Int)))=false)]):Sg Try.prog (cO l T G n i 9 a b c m k ks vs) (mkSt 77 [2,5,6,16,17,18] [.pt 16 0,.pt 128 0,(.ci (.slc 32 0 T.length 23)),(.ci (.sl (.op l))),(.ii (l.length:Int)),(.ii (wrap .i64 (i+1)))] [16,32,64,128] [(eF [(.sl (.gate ([]:List GateD))),(.int .i64 (0:Int)),(.int .i64 (0:Int))]),(eQ (.gate T)),(eQ (.gate (G++[(GateD.mk oneU 0 0 mO 0 a (wrap .i64 ((wrap .i64 (n+1))-1)) (wrap .i64 ((wrap .i64 ((wrap .i64 (n+1))+1))-1)))]))),(eF [(.slc 64 0 (G.length+1) 23),(.int .i64 (wrap .i64 ((wrap .i64 ((wrap .i64 (n+1))+1))+1))),(.val (Value.pointer Option.none))])] 3136 [] []) .normal (lpBk cpA_k) (cpB_k):=fun hs hK=>
 run_at2 (unroll:=false) (n:=3000) (path:=[false,false,false,false,false,false,false,false,true,true,false,false]) (o:=⟨_,_,_,_,_,_,_⟩) iD_ok (by kernel_rfl) (by kernel_rfl) ho hs hK
theorem cp9z (ho:AllP [(((9:Int)==2)=false),(((9:Int)==1)=false),(((9:Int)==3)=false),(((9:Int)==4)=false),(((9:Int)==5)=false),(((9:Int)==6)=false),(((9:Int)==7)=false),(((9:Int)==8)=false),(((9:Int)==9)=true),((decide ((G.length:Int)≤(4096:Int)))=false),((decide ((G.length:Int)≤(4096:Int)))=false),((decide ((G.length:Int)≤(4096:Int)))=false)]):Sg Try.prog (cO l T G n i 9 a b c m k ks vs) (mkSt 77 [2,5,6,16,17,18] [.pt 16 0,.pt 128 0,(.ci (.slc 32 0 T.length 23)),(.ci (.sl (.op l))),(.ii (l.length:Int)),(.ii (wrap .i64 (i+1)))] [16,32,64,128] [(eF [(.sl (.gate ([]:List GateD))),(.int .i64 (0:Int)),(.int .i64 (0:Int))]),(eQ (.gate T)),(eQ (.gate G)),(eF [(.slc 64 0 G.length 23),(.int .i64 (wrap .i64 ((wrap .i64 ((wrap .i64 (n+1))+1))+1))),(.val (Value.pointer Option.none))])] 2960 [] []) .normal (lpBk cpA_k) (cpB_k):=fun hs hK=>
 run_at2 (unroll:=false) (n:=3000) (path:=[false,false,false,false,false,false,false,false,true,false,false,false]) (o:=⟨_,_,_,_,_,_,_⟩) iD_ok (by kernel_rfl) (by kernel_rfl) ho hs hK
theorem cp11z (ho:AllP [(((11:Int)==2)=false),(((11:Int)==1)=false),(((11:Int)==3)=false),(((11:Int)==4)=false),(((11:Int)==5)=false),(((11:Int)==6)=false),(((11:Int)==7)=false),(((11:Int)==8)=false),(((11:Int)==9)=false),(((11:Int)==10)=false),(((11:Int)==11)=true),((decide ((G.length:Int)≤(4096:Int)))=false)]):Sg Try.prog (cO l T G n i 11 a b c m k ks vs) (mkSt 77 [2,5,6,16,17,18] [.pt 16 0,.pt 128 0,(.ci (.slc 32 0 T.length 23)),(.ci (.sl (.op l))),(.ii (l.length:Int)),(.ii (wrap .i64 (i+1)))] [16,32,64,128] [(eF [(.sl (.gate ([]:List GateD))),(.int .i64 (0:Int)),(.int .i64 (0:Int))]),(eQ (.gate T)),(eQ (.gate G)),(eF [(.slc 64 0 G.length 23),(.int .i64 n),(.val (Value.pointer Option.none))])] 1520 [] []) .normal (lpBk cpA_k) (cpB_k):=fun hs hK=>
 run_at2 (unroll:=false) (n:=3000) (path:=[false,false,false,false,false,false,false,false,false,false,true,false,false]) (o:=⟨_,_,_,_,_,_,_⟩) iD_ok (by kernel_rfl) (by kernel_rfl) ho hs hK
end
end
end

section
section
variable {w0:World} {F0:Nat→Prop} {K:Kp} {ac:List Act} {Q:Exit→Act→World→Prop} {cX:Ctx} {aX:Act}

--@env iD iD_ok
def cp6a_k:List KI:=(run iD false 3000 ((fun (l:List OpD) (T G:List GateD) (n i:Int) (a b c m:Int) (k:U4) (ks:List U4) (vs:List Int)=>(⟨cpB_k,.normal,cO l T G n i 6 a b c m k ks vs⟩:Cfg)) default default default default default default default default default default default default) [false,false,false,false,false,true,false,true]).cfg.k
theorem cp6a (l:List OpD) (T G:List GateD) (n i:Int) (a b c m:Int) (k:U4) (ks:List U4) (vs:List Int) (ho:AllP [(((6:Int)==2)=false),(((6:Int)==1)=false),(((6:Int)==3)=false),(((6:Int)==4)=false),(((6:Int)==5)=false),(((6:Int)==6)=true),(((vs.length:Int) == (1:Int))=false),(0≤(0:Int)),(0<(ks.length:Int)),(0≤(0:Int)),(0<(vs.length:Int)),(0≤(1:Int)),((1:Int)<(ks.length:Int)),(0≤(1:Int)),((1:Int)<(vs.length:Int)),((decide ((G.length:Int)≤(4096:Int)))=true),(((G.length+1)*184)≤140737488355328),((G.length+1)≤maxLen),(G.length=G.length),(1=1)]):Sg Try.prog (cO l T G n i 6 a b c m k ks vs) (mkSt 72 [0,3,7,8] [.pt 128 0,.pt 800 0,(.ii (wrap .i64 ((wrap .i64 (n+1))-1))),.ii (2:Int)] [16,32,64,128,800] [(eF [(.sl (.gate ([]:List GateD))),(.int .i64 (0:Int)),(.int .i64 (0:Int))]),(eQ (.gate T)),(eQ (.gate (G++[(GateD.mk 0 (outF (inF (ks.getD 0 0))) (outF (inF (ks.getD 1 0))) mO (0:U4) (vs.getD 0 0) (vs.getD 1 0) (wrap .i64 ((wrap .i64 (n+1))-1)))]))),(eF [(.slc 64 0 (G.length+1) 23),(.int .i64 (wrap .i64 (n+1))),(.val (Value.pointer Option.none))]),(eF [(.int .i64 (6:Int)),(.int .i64 a),(.int .i64 b),(.int .i64 c),(.int .i64 m),.ob (.fr k),.sl (.fr ks),.sl (.int vs)])] 2176 [[],[2,5,6,16,17,18]] [([],105),([.pt 16 0,.pt 128 0,(.ci (.slc 32 0 T.length 23)),(.ci (.sl (.op l))),(.ii (l.length:Int)),.ii i],77)]) .normal (cp6a_k) (cpB_k):=fun hs hK=>
 run_at2 (unroll:=false) (n:=3000) (path:=[false,false,false,false,false,true,false,true]) (o:=⟨_,_,_,_,_,_,_⟩) iD_ok (by kernel_rfl) (by kernel_rfl) ho hs hK
def c6S (l:List OpD) (T G:List GateD) (n i:Int) (a b c m:Int) (k:U4) (ks:List U4) (vs:List Int) (v j:Int):St:=mkSt 72 [0,3,7,8] [.pt 128 0,.pt 800 0,.v (.c (.int .i64 v)),.v (.c (.int .i64 j))] [16,32,64,128,800] [(eF [(.sl (.gate ([]:List GateD))),(.int .i64 (0:Int)),(.int .i64 (0:Int))]),(eQ (.gate T)),some (.sq (.gate G)),some (.fl [.slc 64 0 G.length 23,.int .i64 n,.val (.pointer none)]),(eF [(.int .i64 (6:Int)),(.int .i64 a),(.int .i64 b),(.int .i64 c),(.int .i64 m),.ob (.fr k),.sl (.fr ks),.sl (.int vs)])] 2176 [[],[2,5,6,16,17,18]] [([],105),([.pt 16 0,.pt 128 0,(.ci (.slc 32 0 T.length 23)),(.ci (.sl (.op l))),(.ii (l.length:Int)),.ii i],77)]
section
variable (l:List OpD) (T G:List GateD) (n i:Int) (a b c m:Int) (k:U4) (ks:List U4) (vs:List Int) (v j:Int)
theorem cp6n (ho:AllP [((decide (j<(vs.length:Int)))=true),(0≤j),(j<(ks.length:Int)),(0≤j),(j<(vs.length:Int)),((decide ((G.length:Int)≤(4096:Int)))=true),(((G.length+1)*184)≤140737488355328),((G.length+1)≤maxLen),(G.length=G.length),(1=1)]):Sg Try.prog (c6S l T G n i a b c m k ks vs v j) (mkSt 72 [0,3,7,8] [.pt 128 0,.pt 800 0,(.ii (wrap .i64 ((wrap .i64 (n+1))-1))),(.ii (wrap .i64 (j+1)))] [16,32,64,128,800] [(eF [(.sl (.gate ([]:List GateD))),(.int .i64 (0:Int)),(.int .i64 (0:Int))]),(eQ (.gate T)),(eQ (.gate (G++[(GateD.mk 0 (outF (inF oneU)) (outF (inF (ks.getD j.toNat 0))) mO (0:U4) v (vs.getD j.toNat 0) (wrap .i64 ((wrap .i64 (n+1))-1)))]))),(eF [(.slc 64 0 (G.length+1) 23),(.int .i64 (wrap .i64 (n+1))),(.val (Value.pointer Option.none))]),(eF [(.int .i64 (6:Int)),(.int .i64 a),(.int .i64 b),(.int .i64 c),(.int .i64 m),.ob (.fr k),.sl (.fr ks),.sl (.int vs)])] 3520 [[],[2,5,6,16,17,18]] [([],105),([.pt 16 0,.pt 128 0,(.ci (.slc 32 0 T.length 23)),(.ci (.sl (.op l))),(.ii (l.length:Int)),.ii i],77)]) .normal (lpBk cp6a_k) (lpIn cp6a_k):=fun hs hK=>
 run_at2 (unroll:=false) (n:=3000) (path:=[true,true]) (o:=⟨_,_,_,_,_,_,_⟩) iD_ok (by kernel_rfl) (by kernel_rfl) ho hs hK
theorem cp6x (ho:AllP [((decide (j<(vs.length:Int)))=false)]):Sg Try.prog (c6S l T G n i a b c m k ks vs v j) (mkSt 77 [2,5,6,16,17,18] [.pt 16 0,.pt 128 0,(.ci (.slc 32 0 T.length 23)),(.ci (.sl (.op l))),(.ii (l.length:Int)),(.ii (wrap .i64 (i+1)))] [16,32,64,128] [(eF [(.sl (.gate ([]:List GateD))),(.int .i64 (0:Int)),(.int .i64 (0:Int))]),(eQ (.gate T)),(eQ (.gate G)),(eF [(.slc 64 0 G.length 23),(.int .i64 n),(.val (Value.pointer Option.none))])] 2288 [] []) .normal (lpBk cpA_k) (lpIn cp6a_k):=fun hs hK=>
 run_at2 (unroll:=false) (n:=3000) (path:=[false]) (o:=⟨_,_,_,_,_,_,_⟩) iD_ok (by kernel_rfl) (by kernel_rfl) ho hs hK
def cp10a_k:List KI:=(run iD false 3000 ((fun (l:List OpD) (T G:List GateD) (n i:Int) (a b c m:Int) (k:U4) (ks:List U4) (vs:List Int)=>(⟨cpB_k,.normal,cO l T G n i 10 a b c m k ks vs⟩:Cfg)) default default default default default default default default default default default default) [false,false,false,false,false,false,false,false,false,true]).cfg.k
end
theorem cp10a (l:List OpD) (T G:List GateD) (n i:Int) (a b c m:Int) (k:U4) (ks:List U4) (vs:List Int) (ho:AllP [(((10:Int)==2)=false),(((10:Int)==1)=false),(((10:Int)==3)=false),(((10:Int)==4)=false),(((10:Int)==5)=false),(((10:Int)==6)=false),(((10:Int)==7)=false),(((10:Int)==8)=false),(((10:Int)==9)=false),(((10:Int)==10)=true)]):Sg Try.prog (cO l T G n i 10 a b c m k ks vs) (mkSt 59 [0,2,4,6,16,17] [.pt 128 0,.ii m,.pt 976 0,.ii n,.ii m,.ii (0:Int)] [16,32,64,128,976] [(eF [(.sl (.gate ([]:List GateD))),(.int .i64 (0:Int)),(.int .i64 (0:Int))]),(eQ (.gate T)),(eQ (.gate G)),(eF [(.slc 64 0 G.length 23),(.int .i64 n),(.val (Value.pointer Option.none))]),(eF [(.int .i64 a)])] 1104 [[],[2,5,6,16,17,18]] [([],105),([.pt 16 0,.pt 128 0,(.ci (.slc 32 0 T.length 23)),(.ci (.sl (.op l))),(.ii (l.length:Int)),.ii i],77)]) .normal (cp10a_k) (cpB_k):=fun hs hK=>
 run_at2 (unroll:=false) (n:=3000) (path:=[false,false,false,false,false,false,false,false,false,true]) (o:=⟨_,_,_,_,_,_,_⟩) iD_ok (by kernel_rfl) (by kernel_rfl) ho hs hK
def c10S (l:List OpD) (T G:List GateD) (n i:Int) (a b c m:Int) (k:U4) (ks:List U4) (vs:List Int) (f j:Int):St:=mkSt 59 [0,2,4,6,16,17] [.pt 128 0,.ii m,.pt 976 0,.v (.c (.int .i64 f)),.ii m,.v (.c (.int .i64 j))] [16,32,64,128,976] [(eF [(.sl (.gate ([]:List GateD))),(.int .i64 (0:Int)),(.int .i64 (0:Int))]),(eQ (.gate T)),some (.sq (.gate G)),some (.fl [.slc 64 0 G.length 23,.int .i64 n,.val (.pointer none)]),(eF [(.int .i64 a)])] 1104 [[],[2,5,6,16,17,18]] [([],105),([.pt 16 0,.pt 128 0,(.ci (.slc 32 0 T.length 23)),(.ci (.sl (.op l))),(.ii (l.length:Int)),.ii i],77)]
section
variable (l:List OpD) (T G:List GateD) (n i:Int) (a b c m:Int) (k:U4) (ks:List U4) (vs:List Int) (f j:Int)
theorem cp10n (ho:AllP [((decide (j<m))=true)]):Sg Try.prog (c10S l T G n i a b c m k ks vs f j) (mkSt 59 [0,2,4,6,16,17] [.pt 128 0,.ii m,.pt 976 0,.ii f,.ii m,(.ii (wrap .i64 (j+1)))] [16,32,64,128,976] [(eF [(.sl (.gate ([]:List GateD))),(.int .i64 (0:Int)),(.int .i64 (0:Int))]),(eQ (.gate T)),(eQ (.gate G)),(eF [(.slc 64 0 G.length 23),(.int .i64 (wrap .i64 (n+1))),(.val (Value.pointer Option.none))]),(eF [(.int .i64 a)])] 1552 [[],[2,5,6,16,17,18]] [([],105),([.pt 16 0,.pt 128 0,(.ci (.slc 32 0 T.length 23)),(.ci (.sl (.op l))),(.ii (l.length:Int)),.ii i],77)]) .normal (lpBk cp10a_k) (lpIn cp10a_k):=fun hs hK=>
 run_at2 (unroll:=false) (n:=3000) (path:=[true]) (o:=⟨_,_,_,_,_,_,_⟩) iD_ok (by kernel_rfl) (by kernel_rfl) ho hs hK
def cp10b_k:List KI:=(run iD false 3000 ((fun (l:List OpD) (T G:List GateD) (n i:Int) (a b c m:Int) (k:U4) (ks:List U4) (vs:List Int) (f j:Int)=>(⟨lpIn cp10a_k,.normal,c10S l T G n i a b c m k ks vs f j⟩:Cfg)) default default default default default default default default default default default default default default) [false]).cfg.k
theorem cp10b (ho:AllP [((decide (j<m))=false)]):Sg Try.prog (c10S l T G n i a b c m k ks vs f j) (mkSt 59 [0,2,4,6,24,25] [.pt 128 0,.ii m,.pt 976 0,.ii f,.ii m,.ii (0:Int)] [16,32,64,128,976] [(eF [(.sl (.gate ([]:List GateD))),(.int .i64 (0:Int)),(.int .i64 (0:Int))]),(eQ (.gate T)),(eQ (.gate G)),(eF [(.slc 64 0 G.length 23),(.int .i64 n),(.val (Value.pointer Option.none))]),(eF [(.int .i64 a)])] 1152 [[],[2,5,6,16,17,18]] [([],105),([.pt 16 0,.pt 128 0,(.ci (.slc 32 0 T.length 23)),(.ci (.sl (.op l))),(.ii (l.length:Int)),.ii i],77)]) .normal (cp10b_k) (lpIn cp10a_k):=fun hs hK=>
 run_at2 (unroll:=false) (n:=3000) (path:=[false]) (o:=⟨_,_,_,_,_,_,_⟩) iD_ok (by kernel_rfl) (by kernel_rfl) ho hs hK
def c10T (l:List OpD) (T G:List GateD) (n i:Int) (a b c m:Int) (k:U4) (ks:List U4) (vs:List Int) (f j:Int):St:=mkSt 59 [0,2,4,6,24,25] [.pt 128 0,.ii m,.pt 976 0,.ii f,.ii m,.v (.c (.int .i64 j))] [16,32,64,128,976] [(eF [(.sl (.gate ([]:List GateD))),(.int .i64 (0:Int)),(.int .i64 (0:Int))]),(eQ (.gate T)),some (.sq (.gate G)),some (.fl [.slc 64 0 G.length 23,.int .i64 n,.val (.pointer none)]),(eF [(.int .i64 a)])] 1152 [[],[2,5,6,16,17,18]] [([],105),([.pt 16 0,.pt 128 0,(.ci (.slc 32 0 T.length 23)),(.ci (.sl (.op l))),(.ii (l.length:Int)),.ii i],77)]
theorem cp10m (ho:AllP [((decide (j<m))=true),((decide ((G.length:Int)≤(4096:Int)))=true),(((G.length+1)*184)≤140737488355328),((G.length+1)≤maxLen),(G.length=G.length),(1=1)]):Sg Try.prog (c10T l T G n i a b c m k ks vs f j) (mkSt 59 [0,2,4,6,24,25] [.pt 128 0,.ii m,.pt 976 0,.ii f,.ii m,(.ii (wrap .i64 (j+1)))] [16,32,64,128,976] [(eF [(.sl (.gate ([]:List GateD))),(.int .i64 (0:Int)),(.int .i64 (0:Int))]),(eQ (.gate T)),(eQ (.gate (G++[(GateD.mk oneU mO 0 0 0 (wrap .i64 (f+j)) (wrap .i64 (f+j)) (-1))]))),(eF [(.slc 64 0 (G.length+1) 23),(.int .i64 n),(.val (Value.pointer Option.none))]),(eF [(.int .i64 a)])] 1984 [[],[2,5,6,16,17,18]] [([],105),([.pt 16 0,.pt 128 0,(.ci (.slc 32 0 T.length 23)),(.ci (.sl (.op l))),(.ii (l.length:Int)),.ii i],77)]) .normal (lpBk cp10b_k) (lpIn cp10b_k):=fun hs hK=>
 run_at2 (unroll:=false) (n:=3000) (path:=[true,true,false]) (o:=⟨_,_,_,_,_,_,_⟩) iD_ok (by kernel_rfl) (by kernel_rfl) ho hs hK
def cp10c_k:List KI:=(run iD false 3000 ((fun (l:List OpD) (T G:List GateD) (n i:Int) (a b c m:Int) (k:U4) (ks:List U4) (vs:List Int) (f j:Int)=>(⟨lpIn cp10b_k,.normal,c10T l T G n i a b c m k ks vs f j⟩:Cfg)) default default default default default default default default default default default default default default) [false]).cfg.k
theorem cp10c (ho:AllP [((decide (j<m))=false)]):Sg Try.prog (c10T l T G n i a b c m k ks vs f j) (mkSt 59 [0,2,4,6,9,10,11] [.pt 128 0,.ii m,.pt 976 0,.ii f,.pt 1200 0,.pt 1216 0,.ii (1:Int)] [16,32,64,128,976,1200,1216] [(eF [(.sl (.gate ([]:List GateD))),(.int .i64 (0:Int)),(.int .i64 (0:Int))]),(eQ (.gate T)),(eQ (.gate G)),(eF [(.slc 64 0 G.length 23),(.int .i64 n),(.val (Value.pointer Option.none))]),(eF [(.int .i64 a)]),(eF [(.int .i64 f)]),(eF [.ob (.fr oneU)])] 1280 [[],[2,5,6,16,17,18]] [([],105),([.pt 16 0,.pt 128 0,(.ci (.slc 32 0 T.length 23)),(.ci (.sl (.op l))),(.ii (l.length:Int)),.ii i],77)]) .normal (cp10c_k) (lpIn cp10b_k):=fun hs hK=>
 run_at2 (unroll:=false) (n:=3000) (path:=[false]) (o:=⟨_,_,_,_,_,_,_⟩) iD_ok (by kernel_rfl) (by kernel_rfl) ho hs hK
def c10U (l:List OpD) (T G:List GateD) (n i:Int) (a b c m:Int) (k:U4) (ks:List U4) (vs:List Int) (f j v:Int) (pw:U4):St:=mkSt 59 [0,2,4,6,9,10,11] [.pt 128 0,.ii m,.pt 976 0,.ii f,.pt 1200 0,.pt 1216 0,.v (.c (.int .i64 j))] [16,32,64,128,976,1200,1216] [(eF [(.sl (.gate ([]:List GateD))),(.int .i64 (0:Int)),(.int .i64 (0:Int))]),(eQ (.gate T)),some (.sq (.gate G)),some (.fl [.slc 64 0 G.length 23,.int .i64 n,.val (.pointer none)]),(eF [(.int .i64 a)]),some (.fl [.int .i64 v]),some (.fl [.ob (.fr pw)])] 1280 [[],[2,5,6,16,17,18]] [([],105),([.pt 16 0,.pt 128 0,(.ci (.slc 32 0 T.length 23)),(.ci (.sl (.op l))),(.ii (l.length:Int)),.ii i],77)]
end
section
variable (l:List OpD) (T G:List GateD) (n i:Int) (a b c m:Int) (k:U4) (ks:List U4) (vs:List Int) (f j v:Int) (pw:U4)
theorem cp10o (ho:AllP [((decide (j<m))=true),((decide ((G.length:Int)≤(4096:Int)))=true),(((G.length+1)*184)≤140737488355328),((G.length+1)≤maxLen),(G.length=G.length),(1=1)]):Sg Try.prog (c10U l T G n i a b c m k ks vs f j v pw) (mkSt 59 [0,2,4,6,9,10,11] [.pt 128 0,.ii m,.pt 976 0,.ii f,.pt 1200 0,.pt 1216 0,(.ii (wrap .i64 (j+1)))] [16,32,64,128,976,1200,1216] [(eF [(.sl (.gate ([]:List GateD))),(.int .i64 (0:Int)),(.int .i64 (0:Int))]),(eQ (.gate T)),(eQ (.gate (G++[(GateD.mk 0 (outF (inF oneU)) (outF (inF (outF ((inF pw)+(inF pw))))) mO (0:U4) v (wrap .i64 (f+j)) (wrap .i64 ((wrap .i64 (n+1))-1)))]))),(eF [(.slc 64 0 (G.length+1) 23),(.int .i64 (wrap .i64 (n+1))),(.val (Value.pointer Option.none))]),(eF [(.int .i64 a)]),(eF [(.int .i64 (wrap .i64 ((wrap .i64 (n+1))-1)))]),(eF [(.ob (.fr (outF ((inF pw)+(inF pw)))))])] 2560 [[],[2,5,6,16,17,18]] [([],105),([.pt 16 0,.pt 128 0,(.ci (.slc 32 0 T.length 23)),(.ci (.sl (.op l))),(.ii (l.length:Int)),.ii i],77)]) .normal (lpBk cp10c_k) (lpIn cp10c_k):=fun hs hK=>
 run_at2 (unroll:=false) (n:=3000) (path:=[true,true]) (o:=⟨_,_,_,_,_,_,_⟩) iD_ok (by kernel_rfl) (by kernel_rfl) ho hs hK
theorem cp10x (ho:AllP [((decide (j<m))=false),((decide ((G.length:Int)≤(4096:Int)))=true),(((G.length+1)*184)≤140737488355328),((G.length+1)≤maxLen),(G.length=G.length),(1=1)]):Sg Try.prog (c10U l T G n i a b c m k ks vs f j v pw) (mkSt 77 [2,5,6,16,17,18] [.pt 16 0,.pt 128 0,(.ci (.slc 32 0 T.length 23)),(.ci (.sl (.op l))),(.ii (l.length:Int)),(.ii (wrap .i64 (i+1)))] [16,32,64,128] [(eF [(.sl (.gate ([]:List GateD))),(.int .i64 (0:Int)),(.int .i64 (0:Int))]),(eQ (.gate T)),(eQ (.gate (G++[(GateD.mk 0 oneU mO 0 0 v a (-1))]))),(eF [(.slc 64 0 (G.length+1) 23),(.int .i64 n),(.val (Value.pointer Option.none))])] 2064 [] []) .normal (lpBk cpA_k) (lpIn cp10c_k):=fun hs hK=>
 run_at2 (unroll:=false) (n:=3000) (path:=[false,true,false]) (o:=⟨_,_,_,_,_,_,_⟩) iD_ok (by kernel_rfl) (by kernel_rfl) ho hs hK
end
theorem cp6az (l:List OpD) (T G:List GateD) (n i:Int) (a b c m:Int) (k:U4) (ks:List U4) (vs:List Int) (ho:AllP [(((6:Int)==2)=false),(((6:Int)==1)=false),(((6:Int)==3)=false),(((6:Int)==4)=false),(((6:Int)==5)=false),(((6:Int)==6)=true),(((vs.length:Int) == (1:Int))=false),(0≤(0:Int)),(0<(ks.length:Int)),(0≤(0:Int)),(0<(vs.length:Int)),(0≤(1:Int)),((1:Int)<(ks.length:Int)),(0≤(1:Int)),((1:Int)<(vs.length:Int)),((decide ((G.length:Int)≤(4096:Int)))=false)]):Sg Try.prog (cO l T G n i 6 a b c m k ks vs) (mkSt 72 [0,3,7,8] [.pt 128 0,.pt 800 0,(.ii (wrap .i64 ((wrap .i64 (n+1))-1))),.ii (2:Int)] [16,32,64,128,800] [(eF [(.sl (.gate ([]:List GateD))),(.int .i64 (0:Int)),(.int .i64 (0:Int))]),(eQ (.gate T)),(eQ (.gate G)),(eF [(.slc 64 0 G.length 23),(.int .i64 (wrap .i64 (n+1))),(.val (Value.pointer Option.none))]),(eF [(.int .i64 (6:Int)),(.int .i64 a),(.int .i64 b),(.int .i64 c),(.int .i64 m),.ob (.fr k),.sl (.fr ks),.sl (.int vs)])] 2000 [[],[2,5,6,16,17,18]] [([],105),([.pt 16 0,.pt 128 0,(.ci (.slc 32 0 T.length 23)),(.ci (.sl (.op l))),(.ii (l.length:Int)),.ii i],77)]) .normal (cp6a_k) (cpB_k):=fun hs hK=>
 run_at2 (unroll:=false) (n:=3000) (path:=[false,false,false,false,false,true,false,false]) (o:=⟨_,_,_,_,_,_,_⟩) iD_ok (by kernel_rfl) (by kernel_rfl) ho hs hK
theorem cp6nz (l:List OpD) (T G:List GateD) (n i:Int) (a b c m:Int) (k:U4) (ks:List U4) (vs:List Int) (v j:Int) (ho:AllP [((decide (j<(vs.length:Int)))=true),(0≤j),(j<(ks.length:Int)),(0≤j),(j<(vs.length:Int)),((decide ((G.length:Int)≤(4096:Int)))=false)]):Sg Try.prog (c6S l T G n i a b c m k ks vs v j) (mkSt 72 [0,3,7,8] [.pt 128 0,.pt 800 0,(.ii (wrap .i64 ((wrap .i64 (n+1))-1))),(.ii (wrap .i64 (j+1)))] [16,32,64,128,800] [(eF [(.sl (.gate ([]:List GateD))),(.int .i64 (0:Int)),(.int .i64 (0:Int))]),(eQ (.gate T)),(eQ (.gate G)),(eF [(.slc 64 0 G.length 23),(.int .i64 (wrap .i64 (n+1))),(.val (Value.pointer Option.none))]),(eF [(.int .i64 (6:Int)),(.int .i64 a),(.int .i64 b),(.int .i64 c),(.int .i64 m),.ob (.fr k),.sl (.fr ks),.sl (.int vs)])] 3344 [[],[2,5,6,16,17,18]] [([],105),([.pt 16 0,.pt 128 0,(.ci (.slc 32 0 T.length 23)),(.ci (.sl (.op l))),(.ii (l.length:Int)),.ii i],77)]) .normal (lpBk cp6a_k) (lpIn cp6a_k):=fun hs hK=>
 run_at2 (unroll:=false) (n:=3000) (path:=[true,false]) (o:=⟨_,_,_,_,_,_,_⟩) iD_ok (by kernel_rfl) (by kernel_rfl) ho hs hK
theorem cp10mz (l:List OpD) (T G:List GateD) (n i:Int) (a b c m:Int) (k:U4) (ks:List U4) (vs:List Int) (f j:Int) (ho:AllP [((decide (j<m))=true),((decide ((G.length:Int)≤(4096:Int)))=false)]):Sg Try.prog (c10T l T G n i a b c m k ks vs f j) (mkSt 59 [0,2,4,6,24,25] [.pt 128 0,.ii m,.pt 976 0,.ii f,.ii m,(.ii (wrap .i64 (j+1)))] [16,32,64,128,976] [(eF [(.sl (.gate ([]:List GateD))),(.int .i64 (0:Int)),(.int .i64 (0:Int))]),(eQ (.gate T)),(eQ (.gate G)),(eF [(.slc 64 0 G.length 23),(.int .i64 n),(.val (Value.pointer Option.none))]),(eF [(.int .i64 a)])] 1808 [[],[2,5,6,16,17,18]] [([],105),([.pt 16 0,.pt 128 0,(.ci (.slc 32 0 T.length 23)),(.ci (.sl (.op l))),(.ii (l.length:Int)),.ii i],77)]) .normal (lpBk cp10b_k) (lpIn cp10b_k):=fun hs hK=>
 run_at2 (unroll:=false) (n:=3000) (path:=[true,false,false]) (o:=⟨_,_,_,_,_,_,_⟩) iD_ok (by kernel_rfl) (by kernel_rfl) ho hs hK
section
variable (l:List OpD) (T G:List GateD) (n i:Int) (a b c m:Int) (k:U4) (ks:List U4) (vs:List Int) (f j v:Int) (pw:U4)
theorem cp10oz (ho:AllP [((decide (j<m))=true),((decide ((G.length:Int)≤(4096:Int)))=false)]):Sg Try.prog (c10U l T G n i a b c m k ks vs f j v pw) (mkSt 59 [0,2,4,6,9,10,11] [.pt 128 0,.ii m,.pt 976 0,.ii f,.pt 1200 0,.pt 1216 0,(.ii (wrap .i64 (j+1)))] [16,32,64,128,976,1200,1216] [(eF [(.sl (.gate ([]:List GateD))),(.int .i64 (0:Int)),(.int .i64 (0:Int))]),(eQ (.gate T)),(eQ (.gate G)),(eF [(.slc 64 0 G.length 23),(.int .i64 (wrap .i64 (n+1))),(.val (Value.pointer Option.none))]),(eF [(.int .i64 a)]),(eF [(.int .i64 (wrap .i64 ((wrap .i64 (n+1))-1)))]),(eF [(.ob (.fr (outF ((inF pw)+(inF pw)))))])] 2384 [[],[2,5,6,16,17,18]] [([],105),([.pt 16 0,.pt 128 0,(.ci (.slc 32 0 T.length 23)),(.ci (.sl (.op l))),(.ii (l.length:Int)),.ii i],77)]) .normal (lpBk cp10c_k) (lpIn cp10c_k):=fun hs hK=>
 run_at2 (unroll:=false) (n:=3000) (path:=[true,false]) (o:=⟨_,_,_,_,_,_,_⟩) iD_ok (by kernel_rfl) (by kernel_rfl) ho hs hK
theorem cp10xz (ho:AllP [((decide (j<m))=false),((decide ((G.length:Int)≤(4096:Int)))=false)]):Sg Try.prog (c10U l T G n i a b c m k ks vs f j v pw) (mkSt 77 [2,5,6,16,17,18] [.pt 16 0,.pt 128 0,(.ci (.slc 32 0 T.length 23)),(.ci (.sl (.op l))),(.ii (l.length:Int)),(.ii (wrap .i64 (i+1)))] [16,32,64,128] [(eF [(.sl (.gate ([]:List GateD))),(.int .i64 (0:Int)),(.int .i64 (0:Int))]),(eQ (.gate T)),(eQ (.gate G)),(eF [(.slc 64 0 G.length 23),(.int .i64 n),(.val (Value.pointer Option.none))])] 1888 [] []) .normal (lpBk cpA_k) (lpIn cp10c_k):=fun hs hK=>
 run_at2 (unroll:=false) (n:=3000) (path:=[false,false,false]) (o:=⟨_,_,_,_,_,_,_⟩) iD_ok (by kernel_rfl) (by kernel_rfl) ho hs hK
end
end
end

section
section
variable {w0:World} {F0:Nat→Prop} {K:Kp} {ac:List Act} {Q:Exit→Act→World→Prop} {cX:Ctx} {aX:Act}

--@env iD iD_ok
def cp8a_k:List KI:=(run iD false 206 ((fun (l:List OpD) (T G:List GateD) (n i:Int) (a b c m:Int) (k:U4) (ks:List U4) (vs:List Int)=>(⟨cpB_k,.normal,cO l T G n i 8 a b c m k ks vs⟩:Cfg)) default default default default default default default default default default default default) [false,false,false,false,false,false,false,true,true,false,true]).cfg.k
section
variable (l:List OpD) (T G:List GateD) (n i:Int) (a b c m:Int) (k:U4) (ks:List U4) (vs:List Int)
theorem cp8a (ho:AllP [(((8:Int)==2)=false),(((8:Int)==1)=false),(((8:Int)==3)=false),(((8:Int)==4)=false),(((8:Int)==5)=false),(((8:Int)==6)=false),(((8:Int)==7)=false),(((8:Int)==8)=true),((decide ((G.length:Int)≤(4096:Int)))=true),(((G.length+1)*184)≤140737488355328),((G.length+1)≤maxLen),(G.length=G.length),(1=1),((decide ((((G.length+1):Nat):Int)≤(4096:Int)))=true),((((G++[(GateD.mk oneU mO 0 0 0 a a (-1))]).length+1)*184)≤140737488355328),(((G++[(GateD.mk oneU mO 0 0 0 a a (-1))]).length+1)≤maxLen),((G.length+1)=(G++[(GateD.mk oneU mO 0 0 0 a a (-1))]).length),(1=1)]):Sg Try.prog (cO l T G n i 8 a b c m k ks vs) (mkSt 105 [0,3,5] [.pt 128 0,.pt 560 0,(.ii (wrap .i64 ((wrap .i64 (n+1))-1)))] [16,32,64,128,560] [(eF [(.sl (.gate ([]:List GateD))),(.int .i64 (0:Int)),(.int .i64 (0:Int))]),(eQ (.gate T)),(eQ (.gate ((G++[(GateD.mk oneU mO 0 0 0 a a (-1))])++[(GateD.mk 0 (outF (inF oneU)) (outF (inF mO)) mO (0:U4) b c (wrap .i64 ((wrap .i64 (n+1))-1)))]))),(eF [(.slc 64 0 ((G++[(GateD.mk oneU mO 0 0 0 a a (-1))]).length+1) 23),(.int .i64 (wrap .i64 (n+1))),(.val (Value.pointer Option.none))]),(eF [(.int .i64 (8:Int)),(.int .i64 a),(.int .i64 b),(.int .i64 c),(.int .i64 m),.ob (.fr k),.sl (.fr ks),.sl (.int vs)])] 2688 [[2,5,6,16,17,18]] [([.pt 16 0,.pt 128 0,(.ci (.slc 32 0 T.length 23)),(.ci (.sl (.op l))),(.ii (l.length:Int)),.ii i],77)]) .normal (cp8a_k) (cpB_k):=fun hs hK=>
 run_at2 (unroll:=false) (n:=206) (path:=[false,false,false,false,false,false,false,true,true,false,true]) (o:=⟨_,_,_,_,_,_,_⟩) iD_ok (by kernel_rfl) (by kernel_rfl) ho hs hK
def c8S (l:List OpD) (T G:List GateD) (n i:Int) (a b c m:Int) (k:U4) (ks:List U4) (vs:List Int) (v:Int):St:=mkSt 105 [0,3,5] [.pt 128 0,.pt 560 0,.v (.c (.int .i64 v))] [16,32,64,128,560] [(eF [(.sl (.gate ([]:List GateD))),(.int .i64 (0:Int)),(.int .i64 (0:Int))]),(eQ (.gate T)),some (.sq (.gate G)),some (.fl [.slc 64 0 G.length 23,.int .i64 n,.val (.pointer none)]),(eF [(.int .i64 (8:Int)),(.int .i64 a),(.int .i64 b),(.int .i64 c),(.int .i64 m),.ob (.fr k),.sl (.fr ks),.sl (.int vs)])] 2688 [[2,5,6,16,17,18]] [([.pt 16 0,.pt 128 0,(.ci (.slc 32 0 T.length 23)),(.ci (.sl (.op l))),(.ii (l.length:Int)),.ii i],77)]
theorem cp8ay (ho:AllP [(((8:Int)==2)=false),(((8:Int)==1)=false),(((8:Int)==3)=false),(((8:Int)==4)=false),(((8:Int)==5)=false),(((8:Int)==6)=false),(((8:Int)==7)=false),(((8:Int)==8)=true),((decide ((G.length:Int)≤(4096:Int)))=true),(((G.length+1)*184)≤140737488355328),((G.length+1)≤maxLen),(G.length=G.length),(1=1),((decide ((((G.length+1):Nat):Int)≤(4096:Int)))=false)]):Sg Try.prog (cO l T G n i 8 a b c m k ks vs) (mkSt 105 [0,3,5] [.pt 128 0,.pt 560 0,(.ii (wrap .i64 ((wrap .i64 (n+1))-1)))] [16,32,64,128,560] [(eF [(.sl (.gate ([]:List GateD))),(.int .i64 (0:Int)),(.int .i64 (0:Int))]),(eQ (.gate T)),(eQ (.gate (G++[(GateD.mk oneU mO 0 0 0 a a (-1))]))),(eF [(.slc 64 0 (G.length+1) 23),(.int .i64 (wrap .i64 (n+1))),(.val (Value.pointer Option.none))]),(eF [(.int .i64 (8:Int)),(.int .i64 a),(.int .i64 b),(.int .i64 c),(.int .i64 m),.ob (.fr k),.sl (.fr ks),.sl (.int vs)])] 2512 [[2,5,6,16,17,18]] [([.pt 16 0,.pt 128 0,(.ci (.slc 32 0 T.length 23)),(.ci (.sl (.op l))),(.ii (l.length:Int)),.ii i],77)]) .normal (cp8a_k) (cpB_k):=fun hs hK=>
 run_at2 (unroll:=false) (n:=206) (path:=[false,false,false,false,false,false,false,true,true,false,false]) (o:=⟨_,_,_,_,_,_,_⟩) iD_ok (by kernel_rfl) (by kernel_rfl) ho hs hK
theorem cp8az (ho:AllP [(((8:Int)==2)=false),(((8:Int)==1)=false),(((8:Int)==3)=false),(((8:Int)==4)=false),(((8:Int)==5)=false),(((8:Int)==6)=false),(((8:Int)==7)=false),(((8:Int)==8)=true),((decide ((G.length:Int)≤(4096:Int)))=false),((decide ((G.length:Int)≤(4096:Int)))=false)]):Sg Try.prog (cO l T G n i 8 a b c m k ks vs) (mkSt 105 [0,3,5] [.pt 128 0,.pt 560 0,(.ii (wrap .i64 ((wrap .i64 (n+1))-1)))] [16,32,64,128,560] [(eF [(.sl (.gate ([]:List GateD))),(.int .i64 (0:Int)),(.int .i64 (0:Int))]),(eQ (.gate T)),(eQ (.gate G)),(eF [(.slc 64 0 G.length 23),(.int .i64 (wrap .i64 (n+1))),(.val (Value.pointer Option.none))]),(eF [(.int .i64 (8:Int)),(.int .i64 a),(.int .i64 b),(.int .i64 c),(.int .i64 m),.ob (.fr k),.sl (.fr ks),.sl (.int vs)])] 2336 [[2,5,6,16,17,18]] [([.pt 16 0,.pt 128 0,(.ci (.slc 32 0 T.length 23)),(.ci (.sl (.op l))),(.ii (l.length:Int)),.ii i],77)]) .normal (cp8a_k) (cpB_k):=fun hs hK=>
 run_at2 (unroll:=false) (n:=206) (path:=[false,false,false,false,false,false,false,true,false,false,false]) (o:=⟨_,_,_,_,_,_,_⟩) iD_ok (by kernel_rfl) (by kernel_rfl) ho hs hK
end
end
end

section
section
variable {w0:World} {F0:Nat→Prop} {K:Kp} {ac:List Act} {Q:Exit→Act→World→Prop} {cX:Ctx} {aX:Act}

--@env iD iD_ok
def c8C (l:List OpD) (T G:List GateD) (n i:Int) (a b c m:Int) (k:U4) (ks:List U4) (vs:List Int) (v:Int) (D R:List Nat):Cfg:=⟨.ops ((anyOps cp8a_k).extract 0 7) 6 [] :: .any (anyOps cp8a_k) 6 (pickI (anyOps cp8a_k) R)::anyRest cp8a_k,.normal,drawSt iD (anyOps cp8a_k) D (c8S l T G n i a b c m k ks vs v)⟩
theorem cp8b_at (l:List OpD) (T G:List GateD) (n i:Int) (a b c m:Int) (k:U4) (ks:List U4) (vs:List Int) (v:Int):runAt iD false 3000 ((⟨.ops ((anyOps cp8a_k).extract 0 7) 6 [] :: .any (anyOps cp8a_k) 6 (pickI (anyOps cp8a_k) [7,10])::anyRest cp8a_k,.normal,drawSt iD (anyOps cp8a_k) [0,1,2,3,4,5,8,9] (c8S l T G n i a b c m k ks vs v)⟩:Cfg)) [true,true] [2,5,6,16,17,18] [16,32,64,128] []=some ⟨[((decide ((G.length:Int)≤(4096:Int)))=true),(((G.length+1)*184)≤140737488355328),((G.length+1)≤maxLen),(G.length=G.length),(1=1),((decide ((((G.length+1):Nat):Int)≤(4096:Int)))=true),((((G++[(GateD.mk oneU (0:U4) (0:U4) mO (0:U4) a v (wrap IntKind.i64 ((wrap IntKind.i64 (n+(1:Int)))-(1:Int))))]).length+1)*184)≤140737488355328),(((G++[(GateD.mk oneU (0:U4) (0:U4) mO (0:U4) a v (wrap IntKind.i64 ((wrap IntKind.i64 (n+(1:Int)))-(1:Int))))]).length+1)≤maxLen),((G.length+1)=(G++[(GateD.mk oneU (0:U4) (0:U4) mO (0:U4) a v (wrap IntKind.i64 ((wrap IntKind.i64 (n+(1:Int)))-(1:Int))))]).length),(1=1)],Exit.normal,[(SV.v (V1.c (It.ptr 16 0))),(SV.v (V1.c (It.ptr 128 0))),(SV.v (V1.c (It.slc 32 0 T.length 23))),(SV.v (V1.c (It.sl (.op l)))),(SV.v (V1.c (It.int IntKind.i64 (l.length:Int)))),(SV.v (V1.c (It.int IntKind.i64 (wrap IntKind.i64 (i+(1:Int))))))],[(Option.some (En.fl [(It.sl (.gate ([]:List GateD))),(It.int IntKind.i64 (0:Int)),(It.int IntKind.i64 (0:Int))])),(Option.some (En.sq (.gate T))),(Option.some (En.sq (.gate ((G++[(GateD.mk oneU (0:U4) (0:U4) mO (0:U4) a v (wrap IntKind.i64 ((wrap IntKind.i64 (n+(1:Int)))-(1:Int))))])++[(GateD.mk (0:U4) (outF (inF oneU)) (outF (inF oneU)) mO (0:U4) (wrap IntKind.i64 ((wrap IntKind.i64 (n+(1:Int)))-(1:Int))) c (wrap IntKind.i64 ((wrap IntKind.i64 ((wrap IntKind.i64 (n+(1:Int)))+(1:Int)))-(1:Int))))])))),(Option.some (En.fl [(It.slc 64 0 ((G++[(GateD.mk oneU (0:U4) (0:U4) mO (0:U4) a v (wrap IntKind.i64 ((wrap IntKind.i64 (n+(1:Int)))-(1:Int))))]).length+1) 23),(It.int IntKind.i64 (wrap IntKind.i64 ((wrap IntKind.i64 (n+(1:Int)))+(1:Int)))),(It.val (Value.pointer Option.none))]))],77,4736,[]⟩:=by kernel_rfl
theorem cp8by_at (l:List OpD) (T G:List GateD) (n i:Int) (a b c m:Int) (k:U4) (ks:List U4) (vs:List Int) (v:Int):runAt iD false 3000 ((⟨.ops ((anyOps cp8a_k).extract 0 7) 6 [] :: .any (anyOps cp8a_k) 6 (pickI (anyOps cp8a_k) [7,10])::anyRest cp8a_k,.normal,drawSt iD (anyOps cp8a_k) [0,1,2,3,4,5,8,9] (c8S l T G n i a b c m k ks vs v)⟩:Cfg)) [true,false] [2,5,6,16,17,18] [16,32,64,128] []=some ⟨[((decide ((G.length:Int)≤(4096:Int)))=true),(((G.length+1)*184)≤140737488355328),((G.length+1)≤maxLen),(G.length=G.length),(1=1),((decide ((((G.length+1):Nat):Int)≤(4096:Int)))=false)],Exit.normal,[(SV.v (V1.c (It.ptr 16 0))),(SV.v (V1.c (It.ptr 128 0))),(SV.v (V1.c (It.slc 32 0 T.length 23))),(SV.v (V1.c (It.sl (.op l)))),(SV.v (V1.c (It.int IntKind.i64 (l.length:Int)))),(SV.v (V1.c (It.int IntKind.i64 (wrap IntKind.i64 (i+(1:Int))))))],[(Option.some (En.fl [(It.sl (.gate ([]:List GateD))),(It.int IntKind.i64 (0:Int)),(It.int IntKind.i64 (0:Int))])),(Option.some (En.sq (.gate T))),(Option.some (En.sq (.gate (G++[(GateD.mk oneU (0:U4) (0:U4) mO (0:U4) a v (wrap IntKind.i64 ((wrap IntKind.i64 (n+(1:Int)))-(1:Int))))])))),(Option.some (En.fl [(It.slc 64 0 (G.length+1) 23),(It.int IntKind.i64 (wrap IntKind.i64 ((wrap IntKind.i64 (n+(1:Int)))+(1:Int)))),(It.val (Value.pointer Option.none))]))],77,4560,[]⟩:=by kernel_rfl
theorem cp8bz_at (l:List OpD) (T G:List GateD) (n i:Int) (a b c m:Int) (k:U4) (ks:List U4) (vs:List Int) (v:Int):runAt iD false 3000 ((⟨.ops ((anyOps cp8a_k).extract 0 7) 6 [] :: .any (anyOps cp8a_k) 6 (pickI (anyOps cp8a_k) [7,10])::anyRest cp8a_k,.normal,drawSt iD (anyOps cp8a_k) [0,1,2,3,4,5,8,9] (c8S l T G n i a b c m k ks vs v)⟩:Cfg)) [false,false] [2,5,6,16,17,18] [16,32,64,128] []=some ⟨[((decide ((G.length:Int)≤(4096:Int)))=false),((decide ((G.length:Int)≤(4096:Int)))=false)],Exit.normal,[(SV.v (V1.c (It.ptr 16 0))),(SV.v (V1.c (It.ptr 128 0))),(SV.v (V1.c (It.slc 32 0 T.length 23))),(SV.v (V1.c (It.sl (.op l)))),(SV.v (V1.c (It.int IntKind.i64 (l.length:Int)))),(SV.v (V1.c (It.int IntKind.i64 (wrap IntKind.i64 (i+(1:Int))))))],[(Option.some (En.fl [(It.sl (.gate ([]:List GateD))),(It.int IntKind.i64 (0:Int)),(It.int IntKind.i64 (0:Int))])),(Option.some (En.sq (.gate T))),(Option.some (En.sq (.gate G))),(Option.some (En.fl [(It.slc 64 0 G.length 23),(It.int IntKind.i64 (wrap IntKind.i64 ((wrap IntKind.i64 (n+(1:Int)))+(1:Int)))),(It.val (Value.pointer Option.none))]))],77,4384,[]⟩:=by kernel_rfl
end
end

section

def runs8:List (List Nat×List Nat):=[([1,2,3,4,5],[0,7,8,9,10]),([0,1,2,3,4,5],[7,8,9,10]),([1,2,3,4,5,8],[0,7,9,10]),([0,1,2,3,4,5,8],[7,9,10]),([1,2,3,4,5,8,9],[0,7,10]),([0,1,2,3,4,5,8,9],[7,10])]
/-- What binds the operations of such a region. -/
def anc8:List Nat:=[0,0,0,0,8,0,62,126,0,256,1023]
/-- A region of that form splits so. -/
theorem split8 {P:Program} {w0:World} {F0:Nat→Prop} {K:Kp} {aq:List Act} {env:Env} {ops:Array Oper} {Q:Exit→Act→World→Prop} {x:Ctx} {a:Act} (hE:EnvOk P env) {id:Nat} {oc:Oper} {σ:St} {k:List KI} (hs:Sim w0 F0 K aq σ x a)
  (hn:ops.size=11) (hA:ancs ops.toList []=anc8) (hok:drawOkX env ops (ancs ops.toList []) 6 ops.toList 0=true) (hcc:ops[6]? = some oc) (hg:oc.guard=none)
  (hrun:(runs8.map fun r=>(drawRun env [] ops.toList (ancs ops.toList []) [] [] σ.nx (pickI ops r.1) σ).map (·.1))=List.replicate 6 (some []))
  (h:∀r∈runs8,∀y a',Sim w0 F0 K aq (drawSt env ops r.1 σ) y a' → Wq P Q (.ops (ops.extract 0 7) 6 [] :: .any ops 6 (pickI ops r.2)::k) aq .normal a' y.w) :
  Wq P Q (.code (.region id ops true)::k) aq .normal a x.w:=by
 refine Wq.split (runs:=runs8.map fun r=>(pickI ops r.1,pickI ops r.2,drawSt env ops r.1 σ)) hE hs hok hcc hg ?_ ?_ ?_ ?_ ?_
 ·intro r hr
  obtain ⟨q,hq,rfl⟩:=List.mem_map.1 hr
  refine splitOk_of ?_ ?_ ?_ ?_
  ·exact (by decide:∀q∈runs8,q.1.Pairwise fun a b=>a<b) q hq
  ·exact (by decide:∀q∈runs8,q.2.Pairwise fun a b=>a<b) q hq
  ·exact (by decide:∀q∈runs8,6 ∉ q.1∧6 ∉ q.2) q hq
  ·rw[hn]
   exact (by decide:∀q∈runs8,∀i,i<11→i≠6→(i∈q.2↔i ∉ q.1)) q hq
 ·intro b h1 h2 h3
  rw[hA,hn] at h1
  rw[hA] at h3
  rw[hn]
  have t (j:Nat) (hj:(anc8.getD 6 0).testBit j=true):=h3 j hj
  have b1:=t 1 (by decide);have b2:=t 2 (by decide);have b3:=t 3 (by decide);have b4:=t 4 (by decide);have b5:=t 5 (by decide)
  have nb (i:Nat) (hi:i<11) (hj:(anc8.getD i 0).testBit 6=true):b i=false:=by
   cases hh:b i with
   | false=>rfl
   | true=>have:=h1 i hi hh 6 hj;rw[h2] at this;cases this
  have b7:=nb 7 (by decide) (by decide);have b10:=nb 10 (by decide) (by decide)
  have fin (q:List Nat×List Nat) (hq:q∈runs8) (hb:∀i,i<11→(b i=true↔i∈q.1)):∃r∈runs8.map (fun r=>(pickI ops r.1,pickI ops r.2,drawSt env ops r.1 σ)),∀i,i<11→(b i=true↔∃o,(i,o)∈r.1):=
   ⟨_,List.mem_map.2 ⟨q,hq,rfl⟩,fun i hi=>by rw[hb i hi];exact (pick_ex (by omega)).symm⟩
  have all (q:List Nat×List Nat) (e0:b 0=decide (0∈q.1)) (e1:decide (1∈q.1)=true) (e2:decide (2∈q.1)=true) (e3:decide (3∈q.1)=true) (e4:decide (4∈q.1)=true) (e5:decide (5∈q.1)=true) (e6:decide (6∈q.1)=false) (e7:decide (7∈q.1)=false)
    (e8:b 8=decide (8∈q.1)) (e9:b 9=decide (9∈q.1)) (e10:decide (10∈q.1)=false):∀i,i<11→(b i=true↔i∈q.1):=by
   intro i hi
   match i,hi with
   | 0,_=>rw[e0];exact decide_eq_true_iff
   | 1,_=>rw[b1];exact ⟨fun _=>of_decide_eq_true e1,fun _=>rfl⟩
   | 2,_=>rw[b2];exact ⟨fun _=>of_decide_eq_true e2,fun _=>rfl⟩
   | 3,_=>rw[b3];exact ⟨fun _=>of_decide_eq_true e3,fun _=>rfl⟩
   | 4,_=>rw[b4];exact ⟨fun _=>of_decide_eq_true e4,fun _=>rfl⟩
   | 5,_=>rw[b5];exact ⟨fun _=>of_decide_eq_true e5,fun _=>rfl⟩
   | 6,_=>rw[h2];exact ⟨fun h=>(by cases h),fun h=>absurd h (of_decide_eq_false e6)⟩
   | 7,_=>rw[b7];exact ⟨fun h=>(by cases h),fun h=>absurd h (of_decide_eq_false e7)⟩
   | 8,_=>rw[e8];exact decide_eq_true_iff
   | 9,_=>rw[e9];exact decide_eq_true_iff
   | 10,_=>rw[b10];exact ⟨fun h=>(by cases h),fun h=>absurd h (of_decide_eq_false e10)⟩
  cases h0:b 0<;>cases h8:b 8<;>cases h9:b 9
  ·exact fin _ (by decide) (all ([1,2,3,4,5],[0,7,8,9,10]) h0 rfl rfl rfl rfl rfl rfl rfl h8 h9 rfl)
  ·have:=h1 9 (by decide) h9 8 (by decide);rw[h8] at this;cases this
  ·exact fin _ (by decide) (all ([1,2,3,4,5,8],[0,7,9,10]) h0 rfl rfl rfl rfl rfl rfl rfl h8 h9 rfl)
  ·exact fin _ (by decide) (all ([1,2,3,4,5,8,9],[0,7,10]) h0 rfl rfl rfl rfl rfl rfl rfl h8 h9 rfl)
  ·exact fin _ (by decide) (all ([0,1,2,3,4,5],[7,8,9,10]) h0 rfl rfl rfl rfl rfl rfl rfl h8 h9 rfl)
  ·have:=h1 9 (by decide) h9 8 (by decide);rw[h8] at this;cases this
  ·exact fin _ (by decide) (all ([0,1,2,3,4,5,8],[7,9,10]) h0 rfl rfl rfl rfl rfl rfl rfl h8 h9 rfl)
  ·exact fin _ (by decide) (all ([0,1,2,3,4,5,8,9],[7,10]) h0 rfl rfl rfl rfl rfl rfl rfl h8 h9 rfl)
 ·rw[hA]
  refine ⟨_,List.mem_map.2 ⟨([0,1,2,3,4,5,8,9],[7,10]),by decide,rfl⟩,fun i o hi hne hb=>pick_mem.2 ⟨?_,hi⟩⟩
  have hlt:i<11:=by have:=(Array.getElem?_eq_some_iff.1 hi).1;omega
  exact (by decide:∀i,i<11→i≠6→(anc8.getD i 0).testBit 6=false→i∈[0,1,2,3,4,5,8,9]) i hlt hne hb
 ·intro r hr
  obtain ⟨q,hq,rfl⟩:=List.mem_map.1 hr
  have h1:(drawRun env [] ops.toList (ancs ops.toList []) [] [] σ.nx (pickI ops q.1) σ).map (·.1)∈List.replicate 6 (some []):=by
   rw[←hrun]
   exact List.mem_map.2 ⟨q,hq,rfl⟩
  exact ⟨[],drawSt_is (List.eq_of_mem_replicate h1),trivial⟩
 ·intro r hr y a' hs'
  obtain ⟨q,hq,rfl⟩:=List.mem_map.1 hr
  exact h q hq y a' hs'

theorem c8k:cp8a_k = .code (.region 18 (anyOps cp8a_k) true)::anyRest cp8a_k:=by kernel_rfl
theorem c8size:(anyOps cp8a_k).size=11:=by kernel_rfl
theorem c8anc:ancs (anyOps cp8a_k).toList []=anc8:=by kernel_rfl
theorem c8ok:drawOkX iD (anyOps cp8a_k) (ancs (anyOps cp8a_k).toList []) 6 (anyOps cp8a_k).toList 0=true:=by kernel_rfl
theorem c8g:((anyOps cp8a_k)[6]?.bind (·.guard)).isNone=true:=by kernel_rfl
theorem c8run (l:List OpD) (T G:List GateD) (n i:Int) (a b c m:Int) (k:U4) (ks:List U4) (vs:List Int) (v:Int):(runs8.map fun r=>(drawRun iD [] (anyOps cp8a_k).toList (ancs (anyOps cp8a_k).toList []) [] [] (c8S l T G n i a b c m k ks vs v).nx (pickI (anyOps cp8a_k) r.1) (c8S l T G n i a b c m k ks vs v)).map (·.1))=List.replicate 6 (some []):=by kernel_rfl
theorem c8all (l:List OpD) (T G:List GateD) (n i:Int) (a b c m:Int) (k:U4) (ks:List U4) (vs:List Int) (v:Int):(runs8.map fun r=>(runAt iD false 3000 (c8C l T G n i a b c m k ks vs v r.1 r.2) [true,true] [2,5,6,16,17,18] [16,32,64,128] [],(run iD false 3000 (c8C l T G n i a b c m k ks vs v r.1 r.2) [true,true]).cfg.k)) =
  List.replicate 6 (runAt iD false 3000 (c8C l T G n i a b c m k ks vs v [0,1,2,3,4,5,8,9] [7,10]) [true,true] [2,5,6,16,17,18] [16,32,64,128] [],lpBk cpA_k):=by kernel_rfl
end

section

--@env iD iD_ok
theorem cpX1_end (l:List OpD) (T G:List GateD) (n i:Int):runEnd iD Try.f9 false 3000 (⟨lpIn cpA_k,.normal,cS l T G n i⟩) [false,true] [] []=(some ([((decide (i<(l.length:Int)))=false),((decide ((wrap .i64 ((T.length:Int)+(G.length:Int))) > (4096:Int)))=true)],((.t [(.a [(.sl (.gate ([]:List GateD))),(.int .i64 (0:Int)),(.int .i64 (0:Int))]),(.c (.int .i64 (2:Int))),(.c (.int .i64 (0:Int)))]),[]))):=by kernel_rfl
theorem cpX2_end (l:List OpD) (T G:List GateD) (n i:Int):runEnd iD Try.f9 false 3000 (⟨lpIn cpA_k,.normal,cS l T G n i⟩) [false,false,true] [] []=(some ([((decide (i<(l.length:Int)))=false),((decide ((wrap .i64 ((T.length:Int)+(G.length:Int))) > (4096:Int)))=false),((decide ((T.length:Int) > (64:Int)))=true)],((.t [(.a [(.sl (.gate ([]:List GateD))),(.int .i64 (0:Int)),(.int .i64 (0:Int))]),(.c (.int .i64 (2:Int))),(.c (.int .i64 (0:Int)))]),[]))):=by kernel_rfl
theorem cpX3_end (l:List OpD) (T G:List GateD) (n i:Int):runEnd iD Try.f9 false 3000 (⟨lpIn cpA_k,.normal,cS l T G n i⟩) [false,false,false] [] [32]=(some ([((decide (i<(l.length:Int)))=false),((decide ((wrap .i64 ((T.length:Int)+(G.length:Int))) > (4096:Int)))=false),((decide ((T.length:Int) > (64:Int)))=false),(((T.length+G.length)*184)≤140737488355328),((T.length+G.length)≤maxLen),(T.length=T.length),(G.length=G.length),((T.length+G.length)=(T++G).length)],((.t [(.a [(.sl (.gate (T++G))),(.int .i64 (T.length:Int)),(.int .i64 n)]),(.c (.int .i64 (0:Int))),(.c (.int .i64 (0:Int)))]),[]))):=by kernel_rfl
end

set_option linter.unusedSimpArgs false
set_option linter.unusedVariables false
section

section
variable {l:List OpD} {T G:List GateD} {n i a b c m:Int} {k:U4} {ks:List U4} {vs:List Int} {w0:World} {F0:Nat→Prop} {K:Kp} {ac:List Act} {Q:Exit→Act→World→Prop} {cX:Ctx} {aX:Act}

theorem cpT1 (h1:0≤n) (h2:n≤600000) (h3:0≤i) (h4:i≤1000) (h5:G.length≤4097) (h6:T.length≤1000) (hs:Sim w0 F0 K ac (cO l T G n i 1 a b c m k ks vs) cX aX)
  (hK:∀ac cY aY,Sim w0 F0 K ac (cS l T (pushGs G (gatesOf n 1 a b c m k ks vs)) (n+nvOf 1 m vs) (i+1)) cY aY→Wq Try.prog Q (lpBk cpA_k) ac .normal aY cY.w):Wq Try.prog Q cpB_k ac .normal aX cX.w:=by
 have wi:wrap IntKind.i64 (i+1)=i+1:=wrap_id (by omega) (by omega)
 have w1:wrap IntKind.i64 (n+1)=n+1:=wrap_id (by omega) (by omega)
 have w2:wrap IntKind.i64 (n+1-1)=n:=by rw[wrap_id (by omega) (by omega)];omega
 refine cp1 l T G n i a b c m k ks vs (by simp only[AllP,maxLen,decide_eq_true_eq,decide_eq_false_iff_not,List.length_append,List.length_cons,List.length_nil,beq_iff_eq,bne_iff_ne,bne_eq_false_iff_eq,beq_eq_false_iff_ne,Int.toNat_natCast];and_intros<;>first | rfl | exact True.intro | omega) hs fun ac cU aU hs2=>hK _ _ _ ?_
 rw[w1,wi] at hs2
 exact hs2.nx _

theorem cpT3 (h1:0≤n) (h2:n≤600000) (h3:0≤i) (h4:i≤1000) (h5:G.length≤4097) (h6:T.length≤1000) (hs:Sim w0 F0 K ac (cO l T G n i 3 a b c m k ks vs) cX aX)
  (hK:∀ac cY aY,Sim w0 F0 K ac (cS l T (pushGs G (gatesOf n 3 a b c m k ks vs)) (n+nvOf 3 m vs) (i+1)) cY aY→Wq Try.prog Q (lpBk cpA_k) ac .normal aY cY.w):Wq Try.prog Q cpB_k ac .normal aX cX.w:=by
 have wi:wrap IntKind.i64 (i+1)=i+1:=wrap_id (by omega) (by omega)
 have w1:wrap IntKind.i64 (n+1)=n+1:=wrap_id (by omega) (by omega)
 have w2:wrap IntKind.i64 (n+1-1)=n:=by rw[wrap_id (by omega) (by omega)];omega
 by_cases hg:G.length≤4096
 ·have e:pushGs G (gatesOf n 3 a b c m k ks vs)=G++[constG k n]:=(push1 hg).symm
  have e2:(G++[constG k n]).length=G.length+1:=by simp
  refine cp3 l T G n i a b c m k ks vs (by simp only[AllP,maxLen,decide_eq_true_eq,decide_eq_false_iff_not,List.length_append,List.length_cons,List.length_nil,beq_iff_eq,bne_iff_ne,bne_eq_false_iff_eq,beq_eq_false_iff_ne,Int.toNat_natCast];and_intros<;>first | rfl | exact True.intro | omega) hs fun ac cU aU hs2=>hK _ _ _ ?_
  rw[w1,w2,wi] at hs2
  rw[e]
  unfold cS
  rw[e2]
  exact hs2.nx _
 ·have e:pushGs G (gatesOf n 3 a b c m k ks vs)=G:=(push0 hg).symm
  refine cp3z l T G n i a b c m k ks vs (by simp only[AllP,maxLen,decide_eq_true_eq,decide_eq_false_iff_not,List.length_append,List.length_cons,List.length_nil,beq_iff_eq,bne_iff_ne,bne_eq_false_iff_eq,beq_eq_false_iff_ne,Int.toNat_natCast];and_intros<;>first | rfl | exact True.intro | omega) hs fun ac cU aU hs2=>hK _ _ _ ?_
  rw[w1,wi] at hs2
  rw[e]
  exact hs2.nx _

theorem cpT4 (h1:0≤n) (h2:n≤600000) (h3:0≤i) (h4:i≤1000) (h5:G.length≤4097) (h6:T.length≤1000) (hs:Sim w0 F0 K ac (cO l T G n i 4 a b c m k ks vs) cX aX)
  (hK:∀ac cY aY,Sim w0 F0 K ac (cS l T (pushGs G (gatesOf n 4 a b c m k ks vs)) (n+nvOf 4 m vs) (i+1)) cY aY→Wq Try.prog Q (lpBk cpA_k) ac .normal aY cY.w):Wq Try.prog Q cpB_k ac .normal aX cX.w:=by
 have wi:wrap IntKind.i64 (i+1)=i+1:=wrap_id (by omega) (by omega)
 have w1:wrap IntKind.i64 (n+1)=n+1:=wrap_id (by omega) (by omega)
 have w2:wrap IntKind.i64 (n+1-1)=n:=by rw[wrap_id (by omega) (by omega)];omega
 by_cases hg:G.length≤4096
 ·have e:pushGs G (gatesOf n 4 a b c m k ks vs)=G++[sumG oneU a oneU b n]:=(push1 hg).symm
  have e2:(G++[sumG oneU a oneU b n]).length=G.length+1:=by simp
  refine cp4 l T G n i a b c m k ks vs (by simp only[AllP,maxLen,decide_eq_true_eq,decide_eq_false_iff_not,List.length_append,List.length_cons,List.length_nil,beq_iff_eq,bne_iff_ne,bne_eq_false_iff_eq,beq_eq_false_iff_ne,Int.toNat_natCast];and_intros<;>first | rfl | exact True.intro | omega) hs fun ac cU aU hs2=>hK _ _ _ ?_
  rw[w1,w2,wi] at hs2
  rw[e]
  unfold cS
  rw[e2]
  exact hs2.nx _
 ·have e:pushGs G (gatesOf n 4 a b c m k ks vs)=G:=(push0 hg).symm
  refine cp4z l T G n i a b c m k ks vs (by simp only[AllP,maxLen,decide_eq_true_eq,decide_eq_false_iff_not,List.length_append,List.length_cons,List.length_nil,beq_iff_eq,bne_iff_ne,bne_eq_false_iff_eq,beq_eq_false_iff_ne,Int.toNat_natCast];and_intros<;>first | rfl | exact True.intro | omega) hs fun ac cU aU hs2=>hK _ _ _ ?_
  rw[w1,wi] at hs2
  rw[e]
  exact hs2.nx _

theorem cpT5 (h1:0≤n) (h2:n≤600000) (h3:0≤i) (h4:i≤1000) (h5:G.length≤4097) (h6:T.length≤1000) (hs:Sim w0 F0 K ac (cO l T G n i 5 a b c m k ks vs) cX aX)
  (hK:∀ac cY aY,Sim w0 F0 K ac (cS l T (pushGs G (gatesOf n 5 a b c m k ks vs)) (n+nvOf 5 m vs) (i+1)) cY aY→Wq Try.prog Q (lpBk cpA_k) ac .normal aY cY.w):Wq Try.prog Q cpB_k ac .normal aX cX.w:=by
 have wi:wrap IntKind.i64 (i+1)=i+1:=wrap_id (by omega) (by omega)
 have w1:wrap IntKind.i64 (n+1)=n+1:=wrap_id (by omega) (by omega)
 have w2:wrap IntKind.i64 (n+1-1)=n:=by rw[wrap_id (by omega) (by omega)];omega
 by_cases hg:G.length≤4096
 ·have e:pushGs G (gatesOf n 5 a b c m k ks vs)=G++[prodG a b n]:=(push1 hg).symm
  have e2:(G++[prodG a b n]).length=G.length+1:=by simp
  refine cp5 l T G n i a b c m k ks vs (by simp only[AllP,maxLen,decide_eq_true_eq,decide_eq_false_iff_not,List.length_append,List.length_cons,List.length_nil,beq_iff_eq,bne_iff_ne,bne_eq_false_iff_eq,beq_eq_false_iff_ne,Int.toNat_natCast];and_intros<;>first | rfl | exact True.intro | omega) hs fun ac cU aU hs2=>hK _ _ _ ?_
  rw[w1,w2,wi] at hs2
  rw[e]
  unfold cS
  rw[e2]
  exact hs2.nx _
 ·have e:pushGs G (gatesOf n 5 a b c m k ks vs)=G:=(push0 hg).symm
  refine cp5z l T G n i a b c m k ks vs (by simp only[AllP,maxLen,decide_eq_true_eq,decide_eq_false_iff_not,List.length_append,List.length_cons,List.length_nil,beq_iff_eq,bne_iff_ne,bne_eq_false_iff_eq,beq_eq_false_iff_ne,Int.toNat_natCast];and_intros<;>first | rfl | exact True.intro | omega) hs fun ac cU aU hs2=>hK _ _ _ ?_
  rw[w1,wi] at hs2
  rw[e]
  exact hs2.nx _

theorem cpT7 (h1:0≤n) (h2:n≤600000) (h3:0≤i) (h4:i≤1000) (h5:G.length≤4097) (h6:T.length≤1000) (hs:Sim w0 F0 K ac (cO l T G n i 7 a b c m k ks vs) cX aX)
  (hK:∀ac cY aY,Sim w0 F0 K ac (cS l T (pushGs G (gatesOf n 7 a b c m k ks vs)) (n+nvOf 7 m vs) (i+1)) cY aY→Wq Try.prog Q (lpBk cpA_k) ac .normal aY cY.w):Wq Try.prog Q cpB_k ac .normal aX cX.w:=by
 have wi:wrap IntKind.i64 (i+1)=i+1:=wrap_id (by omega) (by omega)
 have w1:wrap IntKind.i64 (n+1)=n+1:=wrap_id (by omega) (by omega)
 have w2:wrap IntKind.i64 (n+1-1)=n:=by rw[wrap_id (by omega) (by omega)];omega
 rw[show n+nvOf 7 m vs=n from Int.add_zero n] at hK
 by_cases hg:G.length≤4096
 ·have e:pushGs G (gatesOf n 7 a b c m k ks vs)=G++[boolG a]:=(push1 hg).symm
  have e2:(G++[boolG a]).length=G.length+1:=by simp
  refine cp7 l T G n i a b c m k ks vs (by simp only[AllP,maxLen,decide_eq_true_eq,decide_eq_false_iff_not,List.length_append,List.length_cons,List.length_nil,beq_iff_eq,bne_iff_ne,bne_eq_false_iff_eq,beq_eq_false_iff_ne,Int.toNat_natCast];and_intros<;>first | rfl | exact True.intro | omega) hs fun ac cU aU hs2=>hK _ _ _ ?_
  rw[wi] at hs2
  rw[e]
  unfold cS
  rw[e2]
  exact hs2.nx _
 ·have e:pushGs G (gatesOf n 7 a b c m k ks vs)=G:=(push0 hg).symm
  refine cp7z l T G n i a b c m k ks vs (by simp only[AllP,maxLen,decide_eq_true_eq,decide_eq_false_iff_not,List.length_append,List.length_cons,List.length_nil,beq_iff_eq,bne_iff_ne,bne_eq_false_iff_eq,beq_eq_false_iff_ne,Int.toNat_natCast];and_intros<;>first | rfl | exact True.intro | omega) hs fun ac cU aU hs2=>hK _ _ _ ?_
  rw[wi] at hs2
  rw[e]
  exact hs2.nx _

theorem cpT11 (h1:0≤n) (h2:n≤600000) (h3:0≤i) (h4:i≤1000) (h5:G.length≤4097) (h6:T.length≤1000) (hs:Sim w0 F0 K ac (cO l T G n i 11 a b c m k ks vs) cX aX)
  (hK:∀ac cY aY,Sim w0 F0 K ac (cS l T (pushGs G (gatesOf n 11 a b c m k ks vs)) (n+nvOf 11 m vs) (i+1)) cY aY→Wq Try.prog Q (lpBk cpA_k) ac .normal aY cY.w):Wq Try.prog Q cpB_k ac .normal aX cX.w:=by
 have wi:wrap IntKind.i64 (i+1)=i+1:=wrap_id (by omega) (by omega)
 have w1:wrap IntKind.i64 (n+1)=n+1:=wrap_id (by omega) (by omega)
 have w2:wrap IntKind.i64 (n+1-1)=n:=by rw[wrap_id (by omega) (by omega)];omega
 rw[show n+nvOf 11 m vs=n from Int.add_zero n] at hK
 by_cases hg:G.length≤4096
 ·have e:pushGs G (gatesOf n 11 a b c m k ks vs)=G++[equalG a b]:=(push1 hg).symm
  have e2:(G++[equalG a b]).length=G.length+1:=by simp
  refine cp11 l T G n i a b c m k ks vs (by simp only[AllP,maxLen,decide_eq_true_eq,decide_eq_false_iff_not,List.length_append,List.length_cons,List.length_nil,beq_iff_eq,bne_iff_ne,bne_eq_false_iff_eq,beq_eq_false_iff_ne,Int.toNat_natCast];and_intros<;>first | rfl | exact True.intro | omega) hs fun ac cU aU hs2=>hK _ _ _ ?_
  rw[wi] at hs2
  rw[e]
  unfold cS
  rw[e2]
  exact hs2.nx _
 ·have e:pushGs G (gatesOf n 11 a b c m k ks vs)=G:=(push0 hg).symm
  refine cp11z l T G n i a b c m k ks vs (by simp only[AllP,maxLen,decide_eq_true_eq,decide_eq_false_iff_not,List.length_append,List.length_cons,List.length_nil,beq_iff_eq,bne_iff_ne,bne_eq_false_iff_eq,beq_eq_false_iff_ne,Int.toNat_natCast];and_intros<;>first | rfl | exact True.intro | omega) hs fun ac cU aU hs2=>hK _ _ _ ?_
  rw[wi] at hs2
  rw[e]
  exact hs2.nx _

theorem cpT2 (h1:0≤n) (h2:n≤600000) (h3:0≤i) (h4:i≤1000) (h5:G.length≤4097) (h6:T.length≤1000) (hs:Sim w0 F0 K ac (cO l T G n i 2 a b c m k ks vs) cX aX)
  (hK:∀ac cY aY,Sim w0 F0 K ac (cS l (T++[toldG a]) G n (i+1)) cY aY→Wq Try.prog Q (lpBk cpA_k) ac .normal aY cY.w):Wq Try.prog Q cpB_k ac .normal aX cX.w:=by
 have wi:wrap IntKind.i64 (i+1)=i+1:=wrap_id (by omega) (by omega)
 have e2:(T++[toldG a]).length=T.length+1:=by simp
 refine cp2 l T G n i a b c m k ks vs (by simp only[AllP,maxLen,decide_eq_true_eq,decide_eq_false_iff_not,List.length_append,List.length_cons,List.length_nil,beq_iff_eq,bne_iff_ne,bne_eq_false_iff_eq,beq_eq_false_iff_ne,Int.toNat_natCast];and_intros<;>first | rfl | exact True.intro | omega) hs fun ac cU aU hs2=>hK _ _ _ ?_
 rw[wi] at hs2
 unfold cS
 rw[e2]
 exact hs2.nx _

theorem cpT9 (h1:0≤n) (h2:n≤600000) (h3:0≤i) (h4:i≤1000) (h5:G.length≤4097) (h6:T.length≤1000) (hs:Sim w0 F0 K ac (cO l T G n i 9 a b c m k ks vs) cX aX)
  (hK:∀ac cY aY,Sim w0 F0 K ac (cS l T (pushGs G (gatesOf n 9 a b c m k ks vs)) (n+nvOf 9 m vs) (i+1)) cY aY→Wq Try.prog Q (lpBk cpA_k) ac .normal aY cY.w):Wq Try.prog Q cpB_k ac .normal aX cX.w:=by
 have wi:wrap IntKind.i64 (i+1)=i+1:=wrap_id (by omega) (by omega)
 have w1:wrap IntKind.i64 (n+1)=n+1:=wrap_id (by omega) (by omega)
 have w2:wrap IntKind.i64 (n+1-1)=n:=by rw[wrap_id (by omega) (by omega)];omega
 have w3:wrap IntKind.i64 (n+1+1)=n+1+1:=wrap_id (by omega) (by omega)
 have w4:wrap IntKind.i64 (n+1+1-1)=n+1:=by rw[wrap_id (by omega) (by omega)];omega
 have w5:wrap IntKind.i64 (n+1+1+1)=n+3:=by rw[wrap_id (by omega) (by omega)];omega
 have w6:wrap IntKind.i64 (n+3-1)=n+2:=by rw[wrap_id (by omega) (by omega)];omega
 have eg:gatesOf n 9 a b c m k ks vs=[prodG a n (n+1),zeroG (n+1) (n+2),zeroH a (n+2)]:=rfl
 rw[eg] at hK
 rw[show n+nvOf 9 m vs=n+3 from rfl] at hK
 by_cases c0:G.length≤4094
 ·have e:pushGs G [prodG a n (n+1),zeroG (n+1) (n+2),zeroH a (n+2)]=(((G++[prodG a n (n+1)])++[zeroG (n+1) (n+2)])++[zeroH a (n+2)]):=(show pushGs G [prodG a n (n+1),zeroG (n+1) (n+2),zeroH a (n+2)]=pushG (pushG (pushG (G) (prodG a n (n+1))) (zeroG (n+1) (n+2))) (zeroH a (n+2)) from rfl).trans (by rw[pushT (G:=G) (g:=prodG a n (n+1)) (by omega),pushT (G:=(G++[prodG a n (n+1)])) (g:=zeroG (n+1) (n+2)) (by simp only[List.length_append,List.length_cons,List.length_nil];omega),pushT (G:=((G++[prodG a n (n+1)])++[zeroG (n+1) (n+2)])) (g:=zeroH a (n+2)) (by simp only[List.length_append,List.length_cons,List.length_nil];omega)])
  refine cp9 l T G n i a b c m k ks vs (by simp only[AllP,maxLen,decide_eq_true_eq,decide_eq_false_iff_not,List.length_append,List.length_cons,List.length_nil,beq_iff_eq,bne_iff_ne,bne_eq_false_iff_eq,beq_eq_false_iff_ne,Int.toNat_natCast];and_intros<;>first | rfl | exact True.intro | omega) hs fun ac cU aU hs2=>hK _ _ _ ?_
  rw[w1,w2,w3,w4,w5,w6,wi] at hs2
  rw[e]
  unfold cS
  rw[show (((G++[prodG a n (n+1)])++[zeroG (n+1) (n+2)])++[zeroH a (n+2)]).length=((G++[prodG a n (n+1)])++[zeroG (n+1) (n+2)]).length+1 from by simp only[List.length_append,List.length_cons,List.length_nil]]
  exact hs2.nx _
 by_cases c1:G.length=4095
 ·have e:pushGs G [prodG a n (n+1),zeroG (n+1) (n+2),zeroH a (n+2)]=((G++[prodG a n (n+1)])++[zeroG (n+1) (n+2)]):=(show pushGs G [prodG a n (n+1),zeroG (n+1) (n+2),zeroH a (n+2)]=pushG (pushG (pushG (G) (prodG a n (n+1))) (zeroG (n+1) (n+2))) (zeroH a (n+2)) from rfl).trans (by rw[pushT (G:=G) (g:=prodG a n (n+1)) (by omega),pushT (G:=(G++[prodG a n (n+1)])) (g:=zeroG (n+1) (n+2)) (by simp only[List.length_append,List.length_cons,List.length_nil];omega),pushF (G:=((G++[prodG a n (n+1)])++[zeroG (n+1) (n+2)])) (g:=zeroH a (n+2)) (by simp only[List.length_append,List.length_cons,List.length_nil];omega)])
  refine cp9y l T G n i a b c m k ks vs (by simp only[AllP,maxLen,decide_eq_true_eq,decide_eq_false_iff_not,List.length_append,List.length_cons,List.length_nil,beq_iff_eq,bne_iff_ne,bne_eq_false_iff_eq,beq_eq_false_iff_ne,Int.toNat_natCast];and_intros<;>first | rfl | exact True.intro | omega) hs fun ac cU aU hs2=>hK _ _ _ ?_
  rw[w1,w2,w3,w4,w5,w6,wi] at hs2
  rw[e]
  unfold cS
  rw[show ((G++[prodG a n (n+1)])++[zeroG (n+1) (n+2)]).length=(G++[prodG a n (n+1)]).length+1 from by simp only[List.length_append,List.length_cons,List.length_nil]]
  exact hs2.nx _
 by_cases c2:G.length=4096
 ·have e:pushGs G [prodG a n (n+1),zeroG (n+1) (n+2),zeroH a (n+2)]=(G++[prodG a n (n+1)]):=(show pushGs G [prodG a n (n+1),zeroG (n+1) (n+2),zeroH a (n+2)]=pushG (pushG (pushG (G) (prodG a n (n+1))) (zeroG (n+1) (n+2))) (zeroH a (n+2)) from rfl).trans (by rw[pushT (G:=G) (g:=prodG a n (n+1)) (by omega),pushF (G:=(G++[prodG a n (n+1)])) (g:=zeroG (n+1) (n+2)) (by simp only[List.length_append,List.length_cons,List.length_nil];omega),pushF (G:=(G++[prodG a n (n+1)])) (g:=zeroH a (n+2)) (by simp only[List.length_append,List.length_cons,List.length_nil];omega)])
  refine cp9x l T G n i a b c m k ks vs (by simp only[AllP,maxLen,decide_eq_true_eq,decide_eq_false_iff_not,List.length_append,List.length_cons,List.length_nil,beq_iff_eq,bne_iff_ne,bne_eq_false_iff_eq,beq_eq_false_iff_ne,Int.toNat_natCast];and_intros<;>first | rfl | exact True.intro | omega) hs fun ac cU aU hs2=>hK _ _ _ ?_
  rw[w1,w2,w3,w4,w5,wi] at hs2
  rw[e]
  unfold cS
  rw[show (G++[prodG a n (n+1)]).length=G.length+1 from by simp only[List.length_append,List.length_cons,List.length_nil]]
  exact hs2.nx _
 have e:pushGs G [prodG a n (n+1),zeroG (n+1) (n+2),zeroH a (n+2)]=G:=(show pushGs G [prodG a n (n+1),zeroG (n+1) (n+2),zeroH a (n+2)]=pushG (pushG (pushG (G) (prodG a n (n+1))) (zeroG (n+1) (n+2))) (zeroH a (n+2)) from rfl).trans (by rw[pushF (G:=G) (g:=prodG a n (n+1)) (by omega),pushF (G:=G) (g:=zeroG (n+1) (n+2)) (by omega),pushF (G:=G) (g:=zeroH a (n+2)) (by omega)])
 refine cp9z l T G n i a b c m k ks vs (by simp only[AllP,maxLen,decide_eq_true_eq,decide_eq_false_iff_not,List.length_append,List.length_cons,List.length_nil,beq_iff_eq,bne_iff_ne,bne_eq_false_iff_eq,beq_eq_false_iff_ne,Int.toNat_natCast];and_intros<;>first | rfl | exact True.intro | omega) hs fun ac cU aU hs2=>hK _ _ _ ?_
 rw[w1,w3,w5,wi] at hs2
 rw[e]
 exact hs2.nx _

end
end

set_option linter.unusedSimpArgs false
set_option linter.unusedVariables false
section

section
variable {l:List OpD} {T G:List GateD} {n i a b c m:Int} {k:U4} {ks:List U4} {vs:List Int} {w0:World} {F0:Nat→Prop} {K:Kp} {ac:List Act} {Q:Exit→Act→World→Prop} {cX:Ctx} {aX:Act}

theorem cpT6 (h1:0≤n) (h2:n≤600000) (h3:0≤i) (h4:i≤1000) (h5:G.length≤4097) (h6:T.length≤1000) (hv:1≤vs.length) (hv2:vs.length≤64) (hk:ks.length=vs.length) (hs:Sim w0 F0 K ac (cO l T G n i 6 a b c m k ks vs) cX aX)
  (hK:∀ac cY aY,Sim w0 F0 K ac (cS l T (pushGs G (gatesOf n 6 a b c m k ks vs)) (n+nvOf 6 m vs) (i+1)) cY aY→Wq Try.prog Q (lpBk cpA_k) ac .normal aY cY.w):Wq Try.prog Q cpB_k ac .normal aX cX.w:=by
 have wi:wrap IntKind.i64 (i+1)=i+1:=wrap_id (by omega) (by omega)
 have w1:wrap IntKind.i64 (n+1)=n+1:=wrap_id (by omega) (by omega)
 have w2:wrap IntKind.i64 (n+1-1)=n:=by rw[wrap_id (by omega) (by omega)];omega
 by_cases hl:vs.length=1
 ·have eg:gatesOf n 6 a b c m k ks vs=[linG (ks.getD 0 0) (vs.getD 0 0) n]:=if_pos hl
  have en:nvOf 6 m vs=1:=if_pos hl
  rw[eg,en] at hK
  by_cases hg:G.length≤4096
  ·refine cp6 l T G n i a b c m k ks vs (by simp only[AllP,maxLen,decide_eq_true_eq,decide_eq_false_iff_not,List.length_append,List.length_cons,List.length_nil,beq_iff_eq,bne_iff_ne,bne_eq_false_iff_eq,beq_eq_false_iff_ne,Int.toNat_natCast];and_intros<;>first | rfl | exact True.intro | omega) hs fun ac cU aU hs2=>hK _ _ _ ?_
   rw[w1,w2,wi] at hs2
   rw[←push1 hg]
   unfold cS
   rw[show (G++[linG (ks.getD 0 0) (vs.getD 0 0) n]).length=G.length+1 from by simp]
   exact hs2.nx _
  ·refine cp6z l T G n i a b c m k ks vs (by simp only[AllP,maxLen,decide_eq_true_eq,decide_eq_false_iff_not,List.length_append,List.length_cons,List.length_nil,beq_iff_eq,bne_iff_ne,bne_eq_false_iff_eq,beq_eq_false_iff_ne,Int.toNat_natCast];and_intros<;>first | rfl | exact True.intro | omega) hs fun ac cU aU hs2=>hK _ _ _ ?_
   rw[w1,wi] at hs2
   rw[←push0 hg]
   exact hs2.nx _
 ·have eg:gatesOf n 6 a b c m k ks vs=linL n ks vs (vs.length-2):=if_neg hl
  have en:nvOf 6 m vs=(vs.length:Int)-1:=if_neg hl
  rw[eg,en] at hK
  have loop:∀ac cY aY,Sim w0 F0 K ac (c6S l T (pushGs G (linL n ks vs 0)) (n+((0:Nat):Int)+1) i a b c m k ks vs (n+((0:Nat):Int)) ((0+2:Nat):Int)) cY aY→Wq Try.prog Q cp6a_k ac .normal aY cY.w:=by
   intro ac cY aY hs1
   refine loop_rule (ι:={ t:Nat // t+2≤vs.length }) (fun t=>c6S l T (pushGs G (linL n ks vs t.1)) (n+(t.1:Int)+1) i a b c m k ks vs (n+(t.1:Int)) ((t.1+2:Nat):Int)) (fun t=>vs.length-t.1) (c:=lpC cp6a_k) (k:=lpR cp6a_k) (by kernel_rfl) (fun t ih ac cY aY hs=>?_) ⟨0,by omega⟩ hs1
   obtain ⟨t,ht⟩:=t
   simp only at ih hs
   have x1:wrap IntKind.i64 (n+(t:Int)+1+1)=n+((t+1:Nat):Int)+1:=by rw[wrap_id (by omega) (by omega)];omega
   have x2:wrap IntKind.i64 (n+((t+1:Nat):Int)+1-1)=n+((t+1:Nat):Int):=by rw[wrap_id (by omega) (by omega)];omega
   have x3:wrap IntKind.i64 (((t+2:Nat):Int)+1)=((t+1+2:Nat):Int):=by rw[wrap_id (by omega) (by omega)];omega
   have hgl:=pushGs_len (gs:=linL n ks vs t) h5
   by_cases h:t+2<vs.length
   ·have ep:pushGs G (linL n ks vs (t+1))=pushG (pushGs G (linL n ks vs t)) (sumG oneU (n+(t:Int)) (ks.getD (t+2) 0) (vs.getD (t+2) 0) (n+((t+1:Nat):Int))):=by
     rw[show n+((t+1:Nat):Int)=n+(t:Int)+1 from by omega]
     exact pushGs_app ..
    generalize pushGs G (linL n ks vs t)=H at *
    by_cases hg:H.length≤4096
    ·refine cp6n l T H _ i a b c m k ks vs _ _ (by simp only[AllP,maxLen,decide_eq_true_eq,decide_eq_false_iff_not,List.length_append,List.length_cons,List.length_nil,beq_iff_eq,bne_iff_ne,bne_eq_false_iff_eq,beq_eq_false_iff_ne,Int.toNat_natCast];and_intros<;>first | rfl | exact True.intro | omega) hs fun ac cU aU hs2=>?_
     rw[Int.toNat_natCast,x1,x2,x3] at hs2
     refine ih ⟨t+1,by omega⟩ (by show vs.length-(t+1)<vs.length-t;omega) ac cU aU ?_
     rw[pushT hg] at ep
     show Sim w0 F0 K ac (c6S l T (pushGs G (linL n ks vs (t+1))) _ i a b c m k ks vs _ _) cU aU
     rw[ep]
     unfold c6S
     rw[show (H++[sumG oneU (n+(t:Int)) (ks.getD (t+2) 0) (vs.getD (t+2) 0) (n+((t+1:Nat):Int))]).length=H.length+1 from by simp]
     exact hs2.nx _
    ·refine cp6nz l T H _ i a b c m k ks vs _ _ (by simp only[AllP,maxLen,decide_eq_true_eq,decide_eq_false_iff_not,List.length_append,List.length_cons,List.length_nil,beq_iff_eq,bne_iff_ne,bne_eq_false_iff_eq,beq_eq_false_iff_ne,Int.toNat_natCast];and_intros<;>first | rfl | exact True.intro | omega) hs fun ac cU aU hs2=>?_
     rw[x1,x2,x3] at hs2
     refine ih ⟨t+1,by omega⟩ (by show vs.length-(t+1)<vs.length-t;omega) ac cU aU ?_
     rw[pushF hg] at ep
     show Sim w0 F0 K ac (c6S l T (pushGs G (linL n ks vs (t+1))) _ i a b c m k ks vs _ _) cU aU
     rw[ep]
     exact hs2.nx _
   ·have et:vs.length-2=t:=by omega
    rw[et] at hK
    refine cp6x l T _ _ i a b c m k ks vs _ _ (by simp only[AllP,maxLen,decide_eq_true_eq,decide_eq_false_iff_not,List.length_append,List.length_cons,List.length_nil,beq_iff_eq,bne_iff_ne,bne_eq_false_iff_eq,beq_eq_false_iff_ne,Int.toNat_natCast];and_intros<;>first | rfl | exact True.intro | omega) hs fun ac cU aU hs2=>hK _ _ _ ?_
    rw[wi] at hs2
    rw[show n+((vs.length:Int)-1)=n+(t:Int)+1 from by omega]
    exact hs2.nx _
  have e0:pushGs G (linL n ks vs 0)=pushG G (sumG (ks.getD 0 0) (vs.getD 0 0) (ks.getD 1 0) (vs.getD 1 0) n):=rfl
  by_cases hg:G.length≤4096
  ·refine cp6a l T G n i a b c m k ks vs (by simp only[AllP,maxLen,decide_eq_true_eq,decide_eq_false_iff_not,List.length_append,List.length_cons,List.length_nil,beq_iff_eq,bne_iff_ne,bne_eq_false_iff_eq,beq_eq_false_iff_ne,Int.toNat_natCast];and_intros<;>first | rfl | exact True.intro | omega) hs fun ac cU aU hs2=>loop _ _ _ ?_
   rw[w1,w2] at hs2
   rw[e0,pushT hg,show n+((0:Nat):Int)=n from by omega]
   unfold c6S
   rw[show (G++[sumG (ks.getD 0 0) (vs.getD 0 0) (ks.getD 1 0) (vs.getD 1 0) n]).length=G.length+1 from by simp]
   exact hs2.nx _
  ·refine cp6az l T G n i a b c m k ks vs (by simp only[AllP,maxLen,decide_eq_true_eq,decide_eq_false_iff_not,List.length_append,List.length_cons,List.length_nil,beq_iff_eq,bne_iff_ne,bne_eq_false_iff_eq,beq_eq_false_iff_ne,Int.toNat_natCast];and_intros<;>first | rfl | exact True.intro | omega) hs fun ac cU aU hs2=>loop _ _ _ ?_
   rw[w1,w2] at hs2
   rw[e0,pushF hg,show n+((0:Nat):Int)=n from by omega]
   exact hs2.nx _

end
end

set_option linter.unusedSimpArgs false
set_option linter.unusedVariables false
section

section
variable {l:List OpD} {T G:List GateD} {n i a b c m:Int} {k:U4} {ks:List U4} {vs:List Int} {w0:World} {F0:Nat→Prop} {K:Kp} {ac:List Act} {Q:Exit→Act→World→Prop} {cX:Ctx} {aX:Act}

theorem cpT10 {N:Nat} (h1:0≤n) (h2:n≤600000) (h3:0≤i) (h4:i≤1000) (h5:G.length≤4097) (h6:T.length≤1000) (hN:1≤N) (hN2:N≤254) (hm:m=(N:Int)) (hs:Sim w0 F0 K ac (cO l T G n i 10 a b c m k ks vs) cX aX)
  (hK:∀ac cY aY,Sim w0 F0 K ac (cS l T (pushGs G (gatesOf n 10 a b c m k ks vs)) (n+nvOf 10 m vs) (i+1)) cY aY→Wq Try.prog Q (lpBk cpA_k) ac .normal aY cY.w):Wq Try.prog Q cpB_k ac .normal aX cX.w:=by
 have wi:wrap IntKind.i64 (i+1)=i+1:=wrap_id (by omega) (by omega)
 have eg:gatesOf n 10 a b c m k ks vs=bitB n N++bitS n (N:Int) (N-1)++[equalG (lastV n (N:Int) (N-1)) a]:=by
  rw[hm];exact congrArg (bitG n a) (Int.toNat_natCast N)
 have en:nvOf 10 m vs=2*(N:Int)-1:=by rw[hm];rfl
 rw[eg,en] at hK
 -- the last sums
 have loop3:∀ac cY aY,Sim w0 F0 K ac (c10U l T (pushGs (pushGs G (bitB n N)) (bitS n (N:Int) 0)) (n+(N:Int)+((0:Nat):Int)) i a b c m k ks vs n ((0+1:Nat):Int) (lastV n (N:Int) 0) (pwS 0)) cY aY→Wq Try.prog Q cp10c_k ac .normal aY cY.w:=by
  intro ac cY aY hs1
  refine loop_rule (ι:={ t:Nat // t+1≤N }) (fun t=>c10U l T (pushGs (pushGs G (bitB n N)) (bitS n (N:Int) t.1)) (n+(N:Int)+(t.1:Int)) i a b c m k ks vs n ((t.1+1:Nat):Int) (lastV n (N:Int) t.1) (pwS t.1)) (fun t=>N-t.1) (c:=lpC cp10c_k) (k:=lpR cp10c_k) (by kernel_rfl) (fun t ih ac cY aY hs=>?_) ⟨0,by omega⟩ hs1
  obtain ⟨t,ht⟩:=t
  simp only at ih hs
  have x0:wrap IntKind.i64 (n+(N:Int)+(t:Int)+1)=n+(N:Int)+((t+1:Nat):Int):=by rw[wrap_id (by omega) (by omega)];omega
  have x1:wrap IntKind.i64 (n+(N:Int)+((t+1:Nat):Int)-1)=n+(N:Int)+(t:Int):=by rw[wrap_id (by omega) (by omega)];omega
  have x2:wrap IntKind.i64 (n+((t+1:Nat):Int))=n+((t+1:Nat):Int):=wrap_id (by omega) (by omega)
  have x3:wrap IntKind.i64 (((t+1:Nat):Int)+1)=((t+1+1:Nat):Int):=by rw[wrap_id (by omega) (by omega)];omega
  have hgl:=pushGs_len (gs:=bitS n (N:Int) t) (pushGs_len (gs:=bitB n N) h5)
  by_cases h:t+1<N
  ·have ep:pushGs (pushGs G (bitB n N)) (bitS n (N:Int) (t+1))=pushG (pushGs (pushGs G (bitB n N)) (bitS n (N:Int) t)) (sumG oneU (lastV n (N:Int) t) (pwS (t+1)) (n+((t+1:Nat):Int)) (n+(N:Int)+(t:Int))):=pushGs_app ..
   generalize pushGs (pushGs G (bitB n N)) (bitS n (N:Int) t)=H at *
   by_cases hg:H.length≤4096
   ·refine cp10o l T H _ i a b c m k ks vs _ _ _ _ (by simp only[AllP,maxLen,decide_eq_true_eq,decide_eq_false_iff_not,List.length_append,List.length_cons,List.length_nil,beq_iff_eq,bne_iff_ne,bne_eq_false_iff_eq,beq_eq_false_iff_ne,Int.toNat_natCast];and_intros<;>first | rfl | exact True.intro | omega) hs fun ac cU aU hs2=>?_
    rw[x0,x1,x2,x3] at hs2
    refine ih ⟨t+1,by omega⟩ (by show N-(t+1)<N-t;omega) ac cU aU ?_
    rw[pushT hg] at ep
    show Sim w0 F0 K ac (c10U l T (pushGs (pushGs G (bitB n N)) (bitS n (N:Int) (t+1))) _ i a b c m k ks vs _ _ _ _) cU aU
    rw[ep]
    unfold c10U
    rw[show (H++[sumG oneU (lastV n (N:Int) t) (pwS (t+1)) (n+((t+1:Nat):Int)) (n+(N:Int)+(t:Int))]).length=H.length+1 from by simp]
    exact hs2.nx _
   ·refine cp10oz l T H _ i a b c m k ks vs _ _ _ _ (by simp only[AllP,maxLen,decide_eq_true_eq,decide_eq_false_iff_not,List.length_append,List.length_cons,List.length_nil,beq_iff_eq,bne_iff_ne,bne_eq_false_iff_eq,beq_eq_false_iff_ne,Int.toNat_natCast];and_intros<;>first | rfl | exact True.intro | omega) hs fun ac cU aU hs2=>?_
    rw[x0,x1,x3] at hs2
    refine ih ⟨t+1,by omega⟩ (by show N-(t+1)<N-t;omega) ac cU aU ?_
    rw[pushF hg] at ep
    show Sim w0 F0 K ac (c10U l T (pushGs (pushGs G (bitB n N)) (bitS n (N:Int) (t+1))) _ i a b c m k ks vs _ _ _ _) cU aU
    rw[ep]
    exact hs2.nx _
  ·have et:t=N-1:=by omega
   have ep:pushGs G (bitB n N++bitS n (N:Int) (N-1)++[equalG (lastV n (N:Int) (N-1)) a])=pushG (pushGs (pushGs G (bitB n N)) (bitS n (N:Int) t)) (equalG (lastV n (N:Int) t) a):=by
    rw[pushGs_app,pushGs_app,et];rfl
   rw[ep] at hK
   rw[show n+(2*(N:Int)-1)=n+(N:Int)+(t:Int) from by omega] at hK
   generalize pushGs (pushGs G (bitB n N)) (bitS n (N:Int) t)=H at *
   by_cases hg:H.length≤4096
   ·refine cp10x l T H _ i a b c m k ks vs _ _ _ _ (by simp only[AllP,maxLen,decide_eq_true_eq,decide_eq_false_iff_not,List.length_append,List.length_cons,List.length_nil,beq_iff_eq,bne_iff_ne,bne_eq_false_iff_eq,beq_eq_false_iff_ne,Int.toNat_natCast];and_intros<;>first | rfl | exact True.intro | omega) hs fun ac cU aU hs2=>hK _ _ _ ?_
    rw[wi] at hs2
    rw[pushT hg]
    unfold cS
    rw[show (H++[equalG (lastV n (N:Int) t) a]).length=H.length+1 from by simp]
    exact hs2.nx _
   ·refine cp10xz l T H _ i a b c m k ks vs _ _ _ _ (by simp only[AllP,maxLen,decide_eq_true_eq,decide_eq_false_iff_not,List.length_append,List.length_cons,List.length_nil,beq_iff_eq,bne_iff_ne,bne_eq_false_iff_eq,beq_eq_false_iff_ne,Int.toNat_natCast];and_intros<;>first | rfl | exact True.intro | omega) hs fun ac cU aU hs2=>hK _ _ _ ?_
    rw[wi] at hs2
    rw[pushF hg]
    exact hs2.nx _
 -- each bit is one
 have loop2:∀ac cY aY,Sim w0 F0 K ac (c10T l T (pushGs G (bitB n 0)) (n+(N:Int)) i a b c m k ks vs n ((0:Nat):Int)) cY aY→Wq Try.prog Q cp10b_k ac .normal aY cY.w:=by
  intro ac cY aY hs1
  refine loop_rule (ι:={ t:Nat // t≤N }) (fun t=>c10T l T (pushGs G (bitB n t.1)) (n+(N:Int)) i a b c m k ks vs n (t.1:Int)) (fun t=>N-t.1) (c:=lpC cp10b_k) (k:=lpR cp10b_k) (by kernel_rfl) (fun t ih ac cY aY hs=>?_) ⟨0,by omega⟩ hs1
  obtain ⟨t,ht⟩:=t
  simp only at ih hs
  have x2:wrap IntKind.i64 (n+(t:Int))=n+(t:Int):=wrap_id (by omega) (by omega)
  have x3:wrap IntKind.i64 ((t:Int)+1)=((t+1:Nat):Int):=by rw[wrap_id (by omega) (by omega)];omega
  have hgl:=pushGs_len (gs:=bitB n t) h5
  by_cases h:t<N
  ·have ep:pushGs G (bitB n (t+1))=pushG (pushGs G (bitB n t)) (boolG (n+(t:Int))):=pushGs_app ..
   generalize pushGs G (bitB n t)=H at *
   by_cases hg:H.length≤4096
   ·refine cp10m l T H _ i a b c m k ks vs _ _ (by simp only[AllP,maxLen,decide_eq_true_eq,decide_eq_false_iff_not,List.length_append,List.length_cons,List.length_nil,beq_iff_eq,bne_iff_ne,bne_eq_false_iff_eq,beq_eq_false_iff_ne,Int.toNat_natCast];and_intros<;>first | rfl | exact True.intro | omega) hs fun ac cU aU hs2=>?_
    rw[x2,x3] at hs2
    refine ih ⟨t+1,by omega⟩ (by show N-(t+1)<N-t;omega) ac cU aU ?_
    rw[pushT hg] at ep
    show Sim w0 F0 K ac (c10T l T (pushGs G (bitB n (t+1))) _ i a b c m k ks vs _ _) cU aU
    rw[ep]
    unfold c10T
    rw[show (H++[boolG (n+(t:Int))]).length=H.length+1 from by simp]
    exact hs2.nx _
   ·refine cp10mz l T H _ i a b c m k ks vs _ _ (by simp only[AllP,maxLen,decide_eq_true_eq,decide_eq_false_iff_not,List.length_append,List.length_cons,List.length_nil,beq_iff_eq,bne_iff_ne,bne_eq_false_iff_eq,beq_eq_false_iff_ne,Int.toNat_natCast];and_intros<;>first | rfl | exact True.intro | omega) hs fun ac cU aU hs2=>?_
    rw[x3] at hs2
    refine ih ⟨t+1,by omega⟩ (by show N-(t+1)<N-t;omega) ac cU aU ?_
    rw[pushF hg] at ep
    show Sim w0 F0 K ac (c10T l T (pushGs G (bitB n (t+1))) _ i a b c m k ks vs _ _) cU aU
    rw[ep]
    exact hs2.nx _
  ·have et:t=N:=by omega
   subst et
   refine cp10c l T _ _ i a b c m k ks vs _ _ (by simp only[AllP,maxLen,decide_eq_true_eq,decide_eq_false_iff_not,List.length_append,List.length_cons,List.length_nil,beq_iff_eq,bne_iff_ne,bne_eq_false_iff_eq,beq_eq_false_iff_ne,Int.toNat_natCast];and_intros<;>first | rfl | exact True.intro | omega) hs fun ac cU aU hs2=>loop3 _ _ _ ?_
   rw[show n+(t:Int)+((0:Nat):Int)=n+(t:Int) from by omega]
   exact hs2.nx _
 -- the bits
 have loop1:∀ac cY aY,Sim w0 F0 K ac (c10S l T G (n+((0:Nat):Int)) i a b c m k ks vs n ((0:Nat):Int)) cY aY→Wq Try.prog Q cp10a_k ac .normal aY cY.w:=by
  intro ac cY aY hs1
  refine loop_rule (ι:={ t:Nat // t≤N }) (fun t=>c10S l T G (n+(t.1:Int)) i a b c m k ks vs n (t.1:Int)) (fun t=>N-t.1) (c:=lpC cp10a_k) (k:=lpR cp10a_k) (by kernel_rfl) (fun t ih ac cY aY hs=>?_) ⟨0,by omega⟩ hs1
  obtain ⟨t,ht⟩:=t
  simp only at ih hs
  have x2:wrap IntKind.i64 (n+(t:Int)+1)=n+((t+1:Nat):Int):=by rw[wrap_id (by omega) (by omega)];omega
  have x3:wrap IntKind.i64 ((t:Int)+1)=((t+1:Nat):Int):=by rw[wrap_id (by omega) (by omega)];omega
  by_cases h:t<N
  ·refine cp10n l T G _ i a b c m k ks vs _ _ (by simp only[AllP,maxLen,decide_eq_true_eq,decide_eq_false_iff_not,List.length_append,List.length_cons,List.length_nil,beq_iff_eq,bne_iff_ne,bne_eq_false_iff_eq,beq_eq_false_iff_ne,Int.toNat_natCast];and_intros<;>first | rfl | exact True.intro | omega) hs fun ac cU aU hs2=>?_
   rw[x2,x3] at hs2
   exact ih ⟨t+1,by omega⟩ (by show N-(t+1)<N-t;omega) ac cU aU (hs2.nx _)
  ·have et:t=N:=by omega
   subst et
   refine cp10b l T G _ i a b c m k ks vs _ _ (by simp only[AllP,maxLen,decide_eq_true_eq,decide_eq_false_iff_not,List.length_append,List.length_cons,List.length_nil,beq_iff_eq,bne_iff_ne,bne_eq_false_iff_eq,beq_eq_false_iff_ne,Int.toNat_natCast];and_intros<;>first | rfl | exact True.intro | omega) hs fun ac cU aU hs2=>loop2 _ _ _ ?_
   exact hs2.nx _
 refine cp10a l T G n i a b c m k ks vs (by simp only[AllP,maxLen,decide_eq_true_eq,decide_eq_false_iff_not,List.length_append,List.length_cons,List.length_nil,beq_iff_eq,bne_iff_ne,bne_eq_false_iff_eq,beq_eq_false_iff_ne,Int.toNat_natCast];and_intros<;>first | rfl | exact True.intro | omega) hs fun ac cU aU hs2=>loop1 _ _ _ ?_
 rw[show n+((0:Nat):Int)=n from by omega]
 exact hs2.nx _

end
end

set_option linter.unusedSimpArgs false
set_option linter.unusedVariables false
section
section
variable {w0:World} {F0:Nat→Prop} {K:Kp} {ac:List Act} {Q:Exit→Act→World→Prop} {cX:Ctx} {aX:Act}

theorem c8allY (l:List OpD) (T G:List GateD) (n i:Int) (a b c m:Int) (k:U4) (ks:List U4) (vs:List Int) (v:Int):(runs8.map fun r=>(runAt iD false 3000 (c8C l T G n i a b c m k ks vs v r.1 r.2) [true,false] [2,5,6,16,17,18] [16,32,64,128] [],(run iD false 3000 (c8C l T G n i a b c m k ks vs v r.1 r.2) [true,false]).cfg.k)) =
  List.replicate 6 (runAt iD false 3000 (c8C l T G n i a b c m k ks vs v [0,1,2,3,4,5,8,9] [7,10]) [true,false] [2,5,6,16,17,18] [16,32,64,128] [],lpBk cpA_k):=by kernel_rfl
theorem c8allZ (l:List OpD) (T G:List GateD) (n i:Int) (a b c m:Int) (k:U4) (ks:List U4) (vs:List Int) (v:Int):(runs8.map fun r=>(runAt iD false 3000 (c8C l T G n i a b c m k ks vs v r.1 r.2) [false,false] [2,5,6,16,17,18] [16,32,64,128] [],(run iD false 3000 (c8C l T G n i a b c m k ks vs v r.1 r.2) [false,false]).cfg.k)) =
  List.replicate 6 (runAt iD false 3000 (c8C l T G n i a b c m k ks vs v [0,1,2,3,4,5,8,9] [7,10]) [false,false] [2,5,6,16,17,18] [16,32,64,128] [],lpBk cpA_k):=by kernel_rfl
theorem of_runs {env:Env} {n:Nat} {path:List Bool} {tl ml:List Nat} {ftl:List (List Nat)} {C:List Nat×List Nat→Cfg} {o:Option At} {k:List KI} (h:(runs8.map fun r=>(runAt env false n (C r) path tl ml ftl,(run env false n (C r) path).cfg.k))=List.replicate 6 (o,k)) {r:List Nat×List Nat} (hr:r∈runs8) :
  runAt env false n (C r) path tl ml ftl=o∧(run env false n (C r) path).cfg.k=k:=by
 have h1:(runAt env false n (C r) path tl ml ftl,(run env false n (C r) path).cfg.k)∈List.replicate 6 (o,k):=by rw[←h];exact List.mem_map.2 ⟨r,hr,rfl⟩
 have h2:=List.eq_of_mem_replicate h1
 exact ⟨congrArg Prod.fst h2,congrArg Prod.snd h2⟩
theorem cp8bR {r:List Nat×List Nat} (hr:r∈runs8) (l:List OpD) (T G:List GateD) (n i:Int) (a b c m:Int) (k:U4) (ks:List U4) (vs:List Int) (v:Int) (ho:AllP [((decide ((G.length:Int)≤(4096:Int)))=true),(((G.length+1)*184)≤140737488355328),((G.length+1)≤maxLen),(G.length=G.length),(1=1),((decide ((((G.length+1):Nat):Int)≤(4096:Int)))=true),((((G++[(GateD.mk oneU 0 0 mO 0 a v (wrap .i64 ((wrap .i64 (n+1))-1)))]).length+1)*184)≤140737488355328),(((G++[(GateD.mk oneU 0 0 mO 0 a v (wrap .i64 ((wrap .i64 (n+1))-1)))]).length+1)≤maxLen),((G.length+1)=(G++[(GateD.mk oneU 0 0 mO 0 a v (wrap .i64 ((wrap .i64 (n+1))-1)))]).length),(1=1)]) (hs:Sim w0 F0 K ac (drawSt iD (anyOps cp8a_k) r.1 (c8S l T G n i a b c m k ks vs v)) cX aX) (hK:∀ac cY aY,Sim w0 F0 K ac (mkSt 77 [2,5,6,16,17,18] [.pt 16 0,.pt 128 0,(.ci (.slc 32 0 T.length 23)),(.ci (.sl (.op l))),(.ii (l.length:Int)),(.ii (wrap .i64 (i+1)))] [16,32,64,128] [(eF [(.sl (.gate ([]:List GateD))),(.int .i64 (0:Int)),(.int .i64 (0:Int))]),(eQ (.gate T)),(eQ (.gate ((G++[(GateD.mk oneU 0 0 mO 0 a v (wrap .i64 ((wrap .i64 (n+1))-1)))])++[(GateD.mk 0 (outF (inF oneU)) (outF (inF oneU)) mO (0:U4) (wrap .i64 ((wrap .i64 (n+1))-1)) c (wrap .i64 ((wrap .i64 ((wrap .i64 (n+1))+1))-1)))]))),(eF [(.slc 64 0 ((G++[(GateD.mk oneU 0 0 mO 0 a v (wrap .i64 ((wrap .i64 (n+1))-1)))]).length+1) 23),(.int .i64 (wrap .i64 ((wrap .i64 (n+1))+1))),(.val (Value.pointer Option.none))])] 4736 [] []) cY aY→Wq Try.prog Q (lpBk cpA_k) ac Exit.normal aY cY.w):Wq Try.prog Q (.ops ((anyOps cp8a_k).extract 0 7) 6 [] :: .any (anyOps cp8a_k) 6 (pickI (anyOps cp8a_k) r.2)::anyRest cp8a_k) ac .normal aX cX.w:=
 run_at (env:=iD) iD_ok (c:=c8C l T G n i a b c m k ks vs v r.1 r.2) ((of_runs (C:=fun r=>c8C l T G n i a b c m k ks vs v r.1 r.2) (c8all l T G n i a b c m k ks vs v) hr).1.trans (cp8b_at l T G n i a b c m k ks vs v)) (of_runs (C:=fun r=>c8C l T G n i a b c m k ks vs v r.1 r.2) (c8all l T G n i a b c m k ks vs v) hr).2 ho hs hK
theorem cp8byR {r:List Nat×List Nat} (hr:r∈runs8) (l:List OpD) (T G:List GateD) (n i:Int) (a b c m:Int) (k:U4) (ks:List U4) (vs:List Int) (v:Int) (ho:AllP [((decide ((G.length:Int)≤(4096:Int)))=true),(((G.length+1)*184)≤140737488355328),((G.length+1)≤maxLen),(G.length=G.length),(1=1),((decide ((((G.length+1):Nat):Int)≤(4096:Int)))=false)]) (hs:Sim w0 F0 K ac (drawSt iD (anyOps cp8a_k) r.1 (c8S l T G n i a b c m k ks vs v)) cX aX) (hK:∀ac cY aY,Sim w0 F0 K ac (mkSt 77 [2,5,6,16,17,18] [.pt 16 0,.pt 128 0,(.ci (.slc 32 0 T.length 23)),(.ci (.sl (.op l))),(.ii (l.length:Int)),(.ii (wrap .i64 (i+1)))] [16,32,64,128] [(eF [(.sl (.gate ([]:List GateD))),(.int .i64 (0:Int)),(.int .i64 (0:Int))]),(eQ (.gate T)),(eQ (.gate (G++[(GateD.mk oneU 0 0 mO 0 a v (wrap .i64 ((wrap .i64 (n+1))-1)))]))),(eF [(.slc 64 0 (G.length+1) 23),(.int .i64 (wrap .i64 ((wrap .i64 (n+1))+1))),(.val (Value.pointer Option.none))])] 4560 [] []) cY aY→Wq Try.prog Q (lpBk cpA_k) ac Exit.normal aY cY.w):Wq Try.prog Q (.ops ((anyOps cp8a_k).extract 0 7) 6 [] :: .any (anyOps cp8a_k) 6 (pickI (anyOps cp8a_k) r.2)::anyRest cp8a_k) ac .normal aX cX.w:=
 run_at (env:=iD) iD_ok (c:=c8C l T G n i a b c m k ks vs v r.1 r.2) ((of_runs (C:=fun r=>c8C l T G n i a b c m k ks vs v r.1 r.2) (c8allY l T G n i a b c m k ks vs v) hr).1.trans (cp8by_at l T G n i a b c m k ks vs v)) (of_runs (C:=fun r=>c8C l T G n i a b c m k ks vs v r.1 r.2) (c8allY l T G n i a b c m k ks vs v) hr).2 ho hs hK
theorem cp8bzR {r:List Nat×List Nat} (hr:r∈runs8) (l:List OpD) (T G:List GateD) (n i:Int) (a b c m:Int) (k:U4) (ks:List U4) (vs:List Int) (v:Int) (ho:AllP [((decide ((G.length:Int)≤(4096:Int)))=false),((decide ((G.length:Int)≤(4096:Int)))=false)]) (hs:Sim w0 F0 K ac (drawSt iD (anyOps cp8a_k) r.1 (c8S l T G n i a b c m k ks vs v)) cX aX) (hK:∀ac cY aY,Sim w0 F0 K ac (mkSt 77 [2,5,6,16,17,18] [.pt 16 0,.pt 128 0,(.ci (.slc 32 0 T.length 23)),(.ci (.sl (.op l))),(.ii (l.length:Int)),(.ii (wrap .i64 (i+1)))] [16,32,64,128] [(eF [(.sl (.gate ([]:List GateD))),(.int .i64 (0:Int)),(.int .i64 (0:Int))]),(eQ (.gate T)),(eQ (.gate G)),(eF [(.slc 64 0 G.length 23),(.int .i64 (wrap .i64 ((wrap .i64 (n+1))+1))),(.val (Value.pointer Option.none))])] 4384 [] []) cY aY→Wq Try.prog Q (lpBk cpA_k) ac Exit.normal aY cY.w):Wq Try.prog Q (.ops ((anyOps cp8a_k).extract 0 7) 6 [] :: .any (anyOps cp8a_k) 6 (pickI (anyOps cp8a_k) r.2)::anyRest cp8a_k) ac .normal aX cX.w:=
 run_at (env:=iD) iD_ok (c:=c8C l T G n i a b c m k ks vs v r.1 r.2) ((of_runs (C:=fun r=>c8C l T G n i a b c m k ks vs v r.1 r.2) (c8allZ l T G n i a b c m k ks vs v) hr).1.trans (cp8bz_at l T G n i a b c m k ks vs v)) (of_runs (C:=fun r=>c8C l T G n i a b c m k ks vs v r.1 r.2) (c8allZ l T G n i a b c m k ks vs v) hr).2 ho hs hK
theorem c8get:∃oc,(anyOps cp8a_k)[6]? = some oc∧oc.guard=none:=by
 have h:6<(anyOps cp8a_k).size:=by rw[c8size];decide
 refine ⟨(anyOps cp8a_k)[6],Array.getElem?_eq_getElem h,?_⟩
 have g:=c8g
 rw[Array.getElem?_eq_getElem h] at g
 simpa using g

section
variable {l:List OpD} {T G:List GateD} {n i a b c m v:Int} {k:U4} {ks:List U4} {vs:List Int} {w0:World} {F0:Nat→Prop} {K:Kp} {ac:List Act} {Q:Exit→Act→World→Prop} {cX:Ctx} {aX:Act}

theorem cp8c (h1:0≤n) (h2:n≤600001) (h3:0≤i) (h4:i≤1000) (h5:G.length≤4097) (h6:T.length≤1000) (hs:Sim w0 F0 K ac (c8S l T G n i a b c m k ks vs v) cX aX)
  (hK:∀ac cY aY,Sim w0 F0 K ac (cS l T (pushGs G [prodG a v n,sumG oneU n oneU c (n+1)]) (n+2) (i+1)) cY aY→Wq Try.prog Q (lpBk cpA_k) ac .normal aY cY.w):Wq Try.prog Q cp8a_k ac .normal aX cX.w:=by
 have wi:wrap IntKind.i64 (i+1)=i+1:=wrap_id (by omega) (by omega)
 have w1:wrap IntKind.i64 (n+1)=n+1:=wrap_id (by omega) (by omega)
 have w2:wrap IntKind.i64 (n+1-1)=n:=by rw[wrap_id (by omega) (by omega)];omega
 have w3:wrap IntKind.i64 (n+1+1)=n+2:=by rw[wrap_id (by omega) (by omega)];omega
 have w4:wrap IntKind.i64 (n+2-1)=n+1:=by rw[wrap_id (by omega) (by omega)];omega
 obtain ⟨oc,ho1,ho2⟩:=c8get
 rw[c8k]
 refine split8 (ops:=anyOps cp8a_k) (σ:=c8S l T G n i a b c m k ks vs v) (id:=18) (k:=anyRest cp8a_k) iD_ok hs c8size c8anc c8ok ho1 ho2 (c8run l T G n i a b c m k ks vs v) ?_
 intro r hr y a' hs'
 by_cases g1:G.length≤4095
 ·refine cp8bR hr l T G n i a b c m k ks vs v (by simp only[AllP,maxLen,decide_eq_true_eq,decide_eq_false_iff_not,List.length_append,List.length_cons,List.length_nil,beq_iff_eq,bne_iff_ne,bne_eq_false_iff_eq,beq_eq_false_iff_ne,Int.toNat_natCast];and_intros<;>first | rfl | refine True.intro | omega) hs' fun ac cU aU hs2=>hK _ _ _ ?_
  rw[w1,w2,w3,w4,wi] at hs2
  rw[(show pushGs G [prodG a v n,sumG oneU n oneU c (n+1)]=pushG (pushG G (prodG a v n)) (sumG oneU n oneU c (n+1)) from rfl),pushT (show G.length≤4096 by omega),pushT (G:=G++[prodG a v n]) (by simp;omega)]
  unfold cS
  rw[show ((G++[prodG a v n])++[sumG oneU n oneU c (n+1)]).length=(G++[prodG a v n]).length+1 from by simp]
  exact hs2.nx _
 by_cases g2:G.length=4096
 ·refine cp8byR hr l T G n i a b c m k ks vs v (by simp only[AllP,maxLen,decide_eq_true_eq,decide_eq_false_iff_not,List.length_append,List.length_cons,List.length_nil,beq_iff_eq,bne_iff_ne,bne_eq_false_iff_eq,beq_eq_false_iff_ne,Int.toNat_natCast];and_intros<;>first | rfl | refine True.intro | omega) hs' fun ac cU aU hs2=>hK _ _ _ ?_
  rw[w1,w2,w3,wi] at hs2
  rw[(show pushGs G [prodG a v n,sumG oneU n oneU c (n+1)]=pushG (pushG G (prodG a v n)) (sumG oneU n oneU c (n+1)) from rfl),pushT (show G.length≤4096 by omega),pushF (G:=G++[prodG a v n]) (by simp;omega)]
  unfold cS
  rw[show (G++[prodG a v n]).length=G.length+1 from by simp]
  exact hs2.nx _
 ·refine cp8bzR hr l T G n i a b c m k ks vs v (by simp only[AllP,maxLen,decide_eq_true_eq,decide_eq_false_iff_not,List.length_append,List.length_cons,List.length_nil,beq_iff_eq,bne_iff_ne,bne_eq_false_iff_eq,beq_eq_false_iff_ne,Int.toNat_natCast];and_intros<;>first | rfl | refine True.intro | omega) hs' fun ac cU aU hs2=>hK _ _ _ ?_
  rw[w1,w3,wi] at hs2
  rw[push_none (by omega)]
  exact hs2.nx _

theorem cpT8 (h1:0≤n) (h2:n≤600000) (h3:0≤i) (h4:i≤1000) (h5:G.length≤4097) (h6:T.length≤1000) (hs:Sim w0 F0 K ac (cO l T G n i 8 a b c m k ks vs) cX aX)
  (hK:∀ac cY aY,Sim w0 F0 K ac (cS l T (pushGs G (gatesOf n 8 a b c m k ks vs)) (n+nvOf 8 m vs) (i+1)) cY aY→Wq Try.prog Q (lpBk cpA_k) ac .normal aY cY.w):Wq Try.prog Q cpB_k ac .normal aX cX.w:=by
 have w1:wrap IntKind.i64 (n+1)=n+1:=wrap_id (by omega) (by omega)
 have w2:wrap IntKind.i64 (n+1-1)=n:=by rw[wrap_id (by omega) (by omega)];omega
 have eg:gatesOf n 8 a b c m k ks vs=[boolG a,sumG oneU b mO c n]++[prodG a n (n+1),sumG oneU (n+1) oneU c (n+2)]:=rfl
 rw[eg,pushGs_app,show n+nvOf 8 m vs=n+3 from rfl] at hK
 have go:∀ac cY aY,Sim w0 F0 K ac (c8S l T (pushGs G [boolG a,sumG oneU b mO c n]) (n+1) i a b c m k ks vs n) cY aY→Wq Try.prog Q cp8a_k ac .normal aY cY.w:=fun ac cY aY hs3=>
  cp8c (by omega) (by omega) h3 h4 (pushGs_len h5) h6 hs3 fun ac cU aU hs4=>hK _ _ _ (by
   rw[show n+1+1=n+2 from by omega,show n+1+2=n+3 from by omega] at hs4
   exact hs4)
 by_cases g1:G.length≤4095
 ·refine cp8a l T G n i a b c m k ks vs (by simp only[AllP,maxLen,decide_eq_true_eq,decide_eq_false_iff_not,List.length_append,List.length_cons,List.length_nil,beq_iff_eq,bne_iff_ne,bne_eq_false_iff_eq,beq_eq_false_iff_ne,Int.toNat_natCast];and_intros<;>first | rfl | exact True.intro | omega) hs fun ac cU aU hs2=>go _ _ _ ?_
  rw[w1,w2] at hs2
  rw[(show pushGs G [boolG a,sumG oneU b mO c n]=pushG (pushG G (boolG a)) (sumG oneU b mO c n) from rfl),pushT (show G.length≤4096 by omega),pushT (G:=G++[boolG a]) (by simp;omega)]
  unfold c8S
  rw[show ((G++[boolG a])++[sumG oneU b mO c n]).length=(G++[boolG a]).length+1 from by simp]
  exact hs2.nx _
 by_cases g2:G.length=4096
 ·refine cp8ay l T G n i a b c m k ks vs (by simp only[AllP,maxLen,decide_eq_true_eq,decide_eq_false_iff_not,List.length_append,List.length_cons,List.length_nil,beq_iff_eq,bne_iff_ne,bne_eq_false_iff_eq,beq_eq_false_iff_ne,Int.toNat_natCast];and_intros<;>first | rfl | exact True.intro | omega) hs fun ac cU aU hs2=>go _ _ _ ?_
  rw[w1,w2] at hs2
  rw[(show pushGs G [boolG a,sumG oneU b mO c n]=pushG (pushG G (boolG a)) (sumG oneU b mO c n) from rfl),pushT (show G.length≤4096 by omega),pushF (G:=G++[boolG a]) (by simp;omega)]
  unfold c8S
  rw[show (G++[boolG a]).length=G.length+1 from by simp]
  exact hs2.nx _
 ·refine cp8az l T G n i a b c m k ks vs (by simp only[AllP,maxLen,decide_eq_true_eq,decide_eq_false_iff_not,List.length_append,List.length_cons,List.length_nil,beq_iff_eq,bne_iff_ne,bne_eq_false_iff_eq,beq_eq_false_iff_ne,Int.toNat_natCast];and_intros<;>first | rfl | exact True.intro | omega) hs fun ac cU aU hs2=>go _ _ _ ?_
  rw[w1,w2] at hs2
  rw[push_none (by omega)]
  exact hs2.nx _

end
end
end

set_option linter.unusedSimpArgs false
set_option linter.unusedVariables false
section

/-- What a circuit, an error and a place are told as. -/
def compSV (r:(List GateD×Int×Int)×Int×Int):SV:=.t [.a [.sl (.gate r.1.1),.int .i64 r.1.2.1,.int .i64 r.1.2.2],.c (.int .i64 r.2.1),.c (.int .i64 r.2.2)]
theorem drop_getO (L:List OpD) {i:Nat} (h:i<L.length):L.drop i=L.getD i op0::L.drop (i+1):=by
 rw[List.drop_eq_getElem_cons h,List.getD_eq_getElem?_getD,List.getElem?_eq_getElem h,Option.getD_some]

theorem comp_fnd (l:List OpD):FnD Try.prog 9 [.v (.c (.sl (.op l)))] (compSV (compR l)) []:=by
 by_cases hL:l.length > 1000
 ·have e:compR l=(([],0,0),2,0):=if_pos hL
  rw[e]
  exact fn_sound iD_ok Try.func9 (cpL l) (by simp only[AllP,maxLen,decide_eq_true_eq,decide_eq_false_iff_not,List.length_append,List.length_cons,List.length_nil,beq_iff_eq,bne_iff_ne,bne_eq_false_iff_eq,beq_eq_false_iff_ne,Int.toNat_natCast];and_intros<;>first | rfl | exact True.intro | omega)
 have e0:compR l=compE (compL l [] [] 0 0):=if_neg hL
 rw[e0]
 refine fn_start (fn:=Try.f9) (c:=bodyOf Try.f9) Try.func9 rfl rfl fun x0 a0 hk hF hs0=>?_
 refine cpA l (by simp only[AllP,maxLen,decide_eq_true_eq,decide_eq_false_iff_not,List.length_append,List.length_cons,List.length_nil,beq_iff_eq,bne_iff_ne,bne_eq_false_iff_eq,beq_eq_false_iff_ne,Int.toNat_natCast];and_intros<;>first | rfl | exact True.intro | omega) hs0 fun ac cY aY hs1=>?_
 have hs2:=hs1.nilRow (p:=32) (svs' := [.v (.c (.ptr 16 0)),.v (.c (.ptr 128 0)),.v (.c (.slc 32 0 0 23)),.v (.c (.sl (.op l))),.v (.c (.int .i64 (l.length:Int))),.v (.c (.int .i64 0))])
  (ml' := [16,32,128]) (ens' := [some (.fl [.sl (.gate []),.int .i64 0,.int .i64 0]),some (.sq (.gate [])),some (.fl [.val (.slice none 0 0),.int .i64 0,.val (.pointer none)])]) (q:=.gate []) (by decide) (by decide) rfl
  (fun r=>by
   simp only[look]
   by_cases h1:r=16
   ·subst h1;rfl
   by_cases h2:r=32
   ·subst h2;rfl
   by_cases h3:r=128
   ·subst h3;rfl
   simp only[h1,h2,h3,if_false])
  ⟨.inl rfl,.inl rfl,.inr ⟨23,rfl,rfl⟩,.inl rfl,.inl rfl,.inl rfl,trivial⟩
 have hs3:=hs2.nilBlk (p:=64) (z:=128) (l' := [.slc 64 0 0 23,.int .i64 0,.val (.pointer none)]) (ml' := [16,32,64,128]) (ens' := [some (.fl [.sl (.gate []),.int .i64 0,.int .i64 0]),some (.sq (.gate [])),some (.sq (.gate [])),some (.fl [.slc 64 0 0 23,.int .i64 0,.val (.pointer none)])]) (q:=.gate []) (by decide) (by decide) rfl rfl
  ⟨.inr (.inl ⟨23,rfl,rfl⟩),.inl rfl,.inl rfl,trivial⟩
  (fun r=>by
   simp only[look]
   by_cases h1:r=16
   ·subst h1;rfl
   by_cases h2:r=32
   ·subst h2;rfl
   by_cases h4:r=64
   ·subst h4;rfl
   by_cases h3:r=128
   ·subst h3;rfl
   simp only[h1,h2,h3,h4,if_false])
 have hs4:Sim x0.w x0.F kAll ac (cS l [] [] 0 ((0:Nat):Int)) (nilCtx (nilCtx cY 32) 64) aY:=hs3
 clear hs1 hs2 hs3
 change Wq Try.prog _ _ _ _ _ (nilCtx (nilCtx cY 32) 64).w
 refine loop_rule (ι:={ s:Nat×List GateD×List GateD×Int // s.1≤l.length∧s.2.1.length≤s.1∧s.2.2.1.length≤4097∧0≤s.2.2.2∧s.2.2.2≤508*(s.1:Int)∧compL (l.drop s.1) s.2.1 s.2.2.1 s.2.2.2 (s.1:Int)=compL l [] [] 0 0 })
  (fun s=>cS l s.1.2.1 s.1.2.2.1 s.1.2.2.2 (s.1.1:Int)) (fun s=>l.length-s.1.1) (c:=lpC cpA_k) (k:=lpR cpA_k) (by kernel_rfl) (fun s ih ac cY aY hs=>?_) ⟨(0,[],[],0),Nat.zero_le _,Nat.zero_le _,Nat.zero_le _,Int.le_refl _,Int.le_refl _,rfl⟩ hs4
 obtain ⟨⟨i,T,G,n⟩,hi,hT,hG,hn,hn2,he⟩:=s
 simp only at ih hs hi hT hG hn hn2 he
 rw[←he]
 by_cases h:i<l.length
 ·obtain ⟨o,ho⟩:∃o,o=l.getD i op0:=⟨_,rfl⟩
  rw[drop_getO l h,←ho] at he ⊢
  by_cases hc:chkO o n=0
  ·have e1:compL (o::l.drop (i+1)) T G n (i:Int)=compL (l.drop (i+1)) (T++tellO o) (pushGs G (gatesO n o)) (n+nvO o) ((i:Int)+1):=if_pos hc
   rw[e1] at he ⊢
   have hnv:=nv_bound hc
   refine cpB l T G n i (by rw[Int.toNat_natCast,←ho];exact ⟨decide_eq_true (by omega),by omega,by omega,by show (chkO o n != 0)=false;rw[hc];rfl,trivial⟩) hs fun ac cU aU hs2=>?_
   rw[Int.toNat_natCast,←ho] at hs2
   obtain ⟨t,a,b,c,m,k,ks,vs⟩:=o
   have hs3:Sim x0.w x0.F kAll ac (cO l T G n i t a b c m k ks vs) cU aU:=hs2.nx _
   have fin:∀ac cY aY,Sim x0.w x0.F kAll ac (cS l (T++tellO ⟨t,a,b,c,m,k,ks,vs⟩) (pushGs G (gatesOf n t a b c m k ks vs)) (n+nvOf t m vs) ((i:Int)+1)) cY aY→Wq Try.prog _ (lpBk cpA_k) ac .normal aY cY.w:=fun ac cY aY hs4=>by
    refine ih ⟨(i+1,T++tellO ⟨t,a,b,c,m,k,ks,vs⟩,pushGs G (gatesOf n t a b c m k ks vs),n+nvOf t m vs),?_,?_,?_,?_,?_,?_⟩ (by show l.length-(i+1)<l.length-i;omega) ac cY aY hs4
    ·show i+1≤l.length;omega
    ·show (T++tellO _).length≤i+1
     rw[List.length_append]
     have:(tellO ⟨t,a,b,c,m,k,ks,vs⟩).length≤1:=by unfold tellO;split<;>simp
     omega
    ·exact pushGs_len hG
    ·have h1:0≤nvOf t m vs:=hnv.1
     show 0≤n+nvOf t m vs
     omega
    ·have h1:nvOf t m vs≤508:=hnv.2
     show n+nvOf t m vs≤508*((i+1:Nat):Int)
     omega
    ·exact he
   rw[he] at *
   have hc' : checkE t a b c m k ks vs n=0:=hc
   have b2:n≤600000:=by omega
   have b3:(0:Int)≤i:=by omega
   have b4:(i:Int)≤1000:=by omega
   have b6:T.length≤1000:=by omega
   have nt:∀{t:Int} {a b c m:Int} {k:U4} {ks:List U4} {vs:List Int},t≠2→T++tellO ⟨t,a,b,c,m,k,ks,vs⟩=T:=fun ht=>by unfold tellO;rw[if_neg ht,List.append_nil]
   by_cases g1:t=1
   ·subst g1;rw[nt (by decide)] at fin;exact cpT1 hn b2 b3 b4 hG b6 hs3 fin
   by_cases g2:t=2
   ·subst g2
    refine cpT2 hn b2 b3 b4 hG b6 hs3 fun ac cY aY hs4=>fin ac cY aY ?_
    rw[show n+nvOf 2 m vs=n from Int.add_zero n]
    exact hs4
   by_cases g3:t=3
   ·subst g3;rw[nt (by decide)] at fin;exact cpT3 hn b2 b3 b4 hG b6 hs3 fin
   by_cases g4:t=4
   ·subst g4;rw[nt (by decide)] at fin;exact cpT4 hn b2 b3 b4 hG b6 hs3 fin
   by_cases g5:t=5
   ·subst g5;rw[nt (by decide)] at fin;exact cpT5 hn b2 b3 b4 hG b6 hs3 fin
   by_cases g6:t=6
   ·subst g6;rw[nt (by decide)] at fin
    obtain ⟨q1,q2,q3⟩:=chk_lin hc'
    exact cpT6 hn b2 b3 b4 hG b6 q1 q2 q3 hs3 fin
   by_cases g7:t=7
   ·subst g7;rw[nt (by decide)] at fin;exact cpT7 hn b2 b3 b4 hG b6 hs3 fin
   by_cases g8:t=8
   ·subst g8;rw[nt (by decide)] at fin;exact cpT8 hn b2 b3 b4 hG b6 hs3 fin
   by_cases g9:t=9
   ·subst g9;rw[nt (by decide)] at fin;exact cpT9 hn b2 b3 b4 hG b6 hs3 fin
   by_cases g10:t=10
   ·subst g10;rw[nt (by decide)] at fin
    obtain ⟨q1,q2⟩:=chk_bits hc'
    exact cpT10 (N:=m.toNat) hn b2 b3 b4 hG b6 (by omega) (by omega) (by omega) hs3 fin
   by_cases g11:t=11
   ·subst g11;rw[nt (by decide)] at fin;exact cpT11 hn b2 b3 b4 hG b6 hs3 fin
   ·exfalso
    have:checkE t a b c m k ks vs n=61:=by simp [checkE, *]
    rw[this] at hc'
    cases hc'
  ·have e1:compL (o::l.drop (i+1)) T G n (i:Int) = .inr (chkO o n,(i:Int)):=if_neg hc
   rw[e1]
   refine run_end2 iD_ok hk hF (cpE_end l T G n i) (by rw[Int.toNat_natCast,←ho];exact ⟨decide_eq_true (by omega),by omega,by omega,by show (chkO o n != 0)=true;exact bne_iff_ne.2 hc,trivial⟩) (fun y v hd=>?_) hs
   rw[Int.toNat_natCast,←ho] at hd
   exact hd
 ·have e1:compL (l.drop i) T G n (i:Int) = .inl (T,G,n):=by rw[List.drop_eq_nil_of_le (by omega)];rfl
  rw[e1]
  have w0:wrap IntKind.i64 ((T.length:Int)+(G.length:Int))=(T.length:Int)+(G.length:Int):=wrap_id (by omega) (by omega)
  by_cases c1:T.length+G.length > 4096
  ·rw[show compE (.inl (T,G,n))=(([],0,0),2,0) from if_pos (.inl c1)]
   exact run_end2 iD_ok hk hF (cpX1_end l T G n i) (by rw[w0];exact ⟨decide_eq_false (by omega),decide_eq_true (by omega),trivial⟩) (fun y v hd=>hd) hs
  by_cases c2:T.length > 64
  ·rw[show compE (.inl (T,G,n))=(([],0,0),2,0) from if_pos (.inr c2)]
   exact run_end2 iD_ok hk hF (cpX2_end l T G n i) (by rw[w0];exact ⟨decide_eq_false (by omega),decide_eq_false (by omega),decide_eq_true (by omega),trivial⟩) (fun y v hd=>hd) hs
  ·rw[show compE (.inl (T,G,n))=((T++G,(T.length:Int),n),0,0) from if_neg (by omega)]
   exact run_end2 iD_ok hk hF (cpX3_end l T G n i) (by rw[w0];exact ⟨decide_eq_false (by omega),decide_eq_false (by omega),decide_eq_false (by omega),by omega,by simp only[maxLen];omega,rfl,rfl,by simp,trivial⟩) (fun y v hd=>hd) hs

end

set_option linter.unusedSimpArgs false
set_option linter.unusedVariables false
section

/-- What operations made: gates, values, inputs that are left, whether one was not met. -/
structure BD where
 g:List GateD
 w:List Fr
 j:List U4
 wr:Bool
def BD.es (B:BD):List En:=[.fl [.slc 1 0 B.g.length 23,.slc 2 0 (B.w.map outF).length 4,.sl (.fr B.j),.bool B.wr],.sq (.gate B.g),.sq (.fr (B.w.map outF))]
def inX (J:List U4):Fr:=if 0<J.length then inF (J.getD 0 0) else 0
def nextJ (J:List U4):List U4:=if 0<J.length then (J.drop 1).take (J.length-1) else J
/-- One operation more. -/
def opB (B:BD) (o:OpD):BD:=⟨B.g++gatesO (B.w.length:Int) o,B.w++valsOf B.w (inX B.j) o.tag o.a o.b o.c o.n o.k o.ks o.vars,if o.tag=1 then nextJ B.j else B.j,B.wr || wrongOf B.w o.tag o.a o.b o.n⟩
/-- Operations one by one: what they made, the error, the first that is wrong, the first that is not met. -/
def refL:List OpD→BD→Int→Int→BD×Int×Int×Int
 | [],B,ms,_=>(B,0,0,ms)
 | o::r,B,ms,i=>if chkO o (B.w.length:Int)=0 then refL r (opB B o) (if (opB B o).wr=true∧ms<0 then i else ms) (i+1) else (B,chkO o (B.w.length:Int),i,ms)
def refA (l:List OpD) (I:List U4):BD×Int×Int×Int:=if l.length > 1000 then (⟨[],[],I,false⟩,2,0,-1) else refL l ⟨[],[],I,false⟩ (-1) 0
def refSV (r:BD×Int×Int×Int):SV:=.t [.c (.ptr 0 0),.c (.int .i64 r.2.1),.c (.int .i64 r.2.2.1),.c (.int .i64 r.2.2.2)]

theorem nv_vals (W:List Fr) (x:Fr) {o:OpD} {n:Int} (h:chkO o n=0):((valsOf W x o.tag o.a o.b o.c o.n o.k o.ks o.vars).length:Int)=nvO o:=by
 obtain ⟨t,a,b,c,m,k,ks,vs⟩:=o
 unfold nvO nvOf valsOf
 unfold chkO at h
 dsimp only at h ⊢
 by_cases g1:t=1
 ·subst g1;rfl
 by_cases g3:t=3
 ·subst g3;rfl
 by_cases g4:t=4
 ·subst g4;rfl
 by_cases g5:t=5
 ·subst g5;rfl
 by_cases g6:t=6
 ·subst g6
  obtain ⟨q1,q2,q3⟩:=chk_lin h
  show (((if vs.length=1 then [inF (ks.getD 0 0)*vF W (vs.getD 0 0)] else linW W ks vs (vs.length-2)).length:Nat):Int)=if vs.length=1 then 1 else (vs.length:Int)-1
  by_cases hl:vs.length=1
  ·rw[if_pos hl,if_pos hl];rfl
  ·rw[if_neg hl,if_neg hl,linW_len];omega
 by_cases g8:t=8
 ·subst g8;rfl
 by_cases g9:t=9
 ·subst g9;rfl
 by_cases g10:t=10
 ·subst g10
  obtain ⟨q1,q2⟩:=chk_bits h
  show (((bitW (vF W a) m.toNat++accW (vF W a) (m.toNat-1)).length:Nat):Int)=2*m-1
  rw[List.length_append,bitW_len,accW_len]
  omega
 ·simp [*]
theorem gates_len (n:Int) {o:OpD} {v:Int} (h:chkO o v=0):(gatesO n o).length≤508:=by
 obtain ⟨t,a,b,c,m,k,ks,vs⟩:=o
 have h' : checkE t a b c m k ks vs v=0:=h
 show (gatesOf n t a b c m k ks vs).length≤508
 by_cases g3:t=3
 ·subst g3;show 1≤508;decide
 by_cases g4:t=4
 ·subst g4;show 1≤508;decide
 by_cases g5:t=5
 ·subst g5;show 1≤508;decide
 by_cases g6:t=6
 ·subst g6
  obtain ⟨q1,q2,q3⟩:=chk_lin h'
  show (if vs.length=1 then [linG (ks.getD 0 0) (vs.getD 0 0) n] else linL n ks vs (vs.length-2)).length≤508
  by_cases hl:vs.length=1
  ·rw[if_pos hl];show 1≤508;decide
  ·rw[if_neg hl,linL_len];omega
 by_cases g7:t=7
 ·subst g7;show 1≤508;decide
 by_cases g8:t=8
 ·subst g8;show 4≤508;decide
 by_cases g9:t=9
 ·subst g9;show 3≤508;decide
 by_cases g10:t=10
 ·subst g10
  obtain ⟨q1,q2⟩:=chk_bits h'
  show (bitB n m.toNat++bitS n (m.toNat:Int) (m.toNat-1)++[equalG (lastV n (m.toNat:Int) (m.toNat-1)) a]).length≤508
  rw[List.length_append,List.length_append,bitB_len,bitS_len]
  show m.toNat+(m.toNat-1)+1≤508
  omega
 by_cases g11:t=11
 ·subst g11;show 1≤508;decide
 ·unfold gatesOf
  rw[if_neg g3,if_neg g4,if_neg g5,if_neg g6,if_neg g7,if_neg g8,if_neg g9,if_neg g10,if_neg g11]
  exact Nat.zero_le _

theorem inV_get {n v:Int} (h:inV n v=true):0≤v∧v<n:=by
 unfold inV at h
 simp only[Bool.and_eq_true,decide_eq_true_eq] at h
 exact h
theorem chk_a {t a b c m:Int} {k:U4} {ks:List U4} {vs:List Int} {n:Int} (h:checkE t a b c m k ks vs n=0) (ht:t=4∨t=5∨t=7∨t=8∨t=9∨t=10∨t=11):0≤a∧a<n:=by
 apply inV_get
 cases hv:inV n a with
 | true=>rfl
 | false=>
  exfalso
  rcases ht with rfl | rfl | rfl | rfl | rfl | rfl | rfl<;>simp [checkE,hv] at h
  split at h<;>simp at h
theorem chk_b {t a b c m:Int} {k:U4} {ks:List U4} {vs:List Int} {n:Int} (h:checkE t a b c m k ks vs n=0) (ht:t=4∨t=5∨t=8∨t=11):0≤b∧b<n:=by
 apply inV_get
 cases hv:inV n b with
 | true=>rfl
 | false=>
  exfalso
  rcases ht with rfl | rfl | rfl | rfl<;>simp [checkE,hv] at h
theorem chk_c {a b c m:Int} {k:U4} {ks:List U4} {vs:List Int} {n:Int} (h:checkE 8 a b c m k ks vs n=0):0≤c∧c<n:=by
 apply inV_get
 cases hv:inV n c with
 | true=>rfl
 | false=>exfalso;simp [checkE,hv] at h
theorem chk_vs {a b c m:Int} {k:U4} {ks:List U4} {vs:List Int} {n:Int} (h:checkE 6 a b c m k ks vs n=0):∀j,j<vs.length→0≤vs.getD j 0∧vs.getD j 0<n:=by
 obtain ⟨q1,q2,q3⟩:=chk_lin h
 unfold checkE at h
 rw[if_neg (by decide),if_pos rfl,if_neg (by omega)] at h
 intro j hj
 cases hv:vs.all (inV n) with
 | false=>rw[hv] at h;simp at h
 | true=>
  have:=List.all_eq_true.1 hv (vs.getD j 0) (by rw[List.getD_eq_getElem?_getD,List.getElem?_eq_getElem hj];exact List.getElem_mem hj)
  exact inV_get this

theorem all_fnd (l:List OpD) (I:List U4):FnD Try.prog 26 [.v (.c (.sl (.op l))),.v (.c (.sl (.fr I)))] (refSV (refA l I)) (refA l I).1.es:=by
 have nilB:∀{nt nx:Nat} {tl:List Nat} {svs:List SV} {w0:World} {F0:Nat→Prop} {K:Kp} {ac:List Act} {x:Ctx} {a:Act},Sim w0 F0 K ac (mkSt nt tl svs [112] [some (.fl [.val (.slice none 0 0),.val (.slice none 0 0),.sl (.fr I),.lit false])] nx [] []) x a →
   ∃y:Ctx,y.w=x.w∧Sim w0 F0 K ac (mkSt nt tl svs [32,64,112] [some (.sq (.gate [])),some (.sq (.fr [])),some (.fl [.slc 32 0 0 23,.slc 64 0 0 4,.sl (.fr I),.bool false])] nx [] []) y a:=by
  intro nt nx tl svs w0 F0 K ac x a hs
  have hs2:=hs.nilBlk (p:=32) (z:=112) (l' := [.slc 32 0 0 23,.val (.slice none 0 0),.sl (.fr I),.bool false]) (ml' := [32,112]) (ens' := [some (.sq (.gate [])),some (.fl [.slc 32 0 0 23,.val (.slice none 0 0),.sl (.fr I),.bool false])]) (q:=.gate []) rfl (by decide) rfl rfl
   ⟨.inr (.inl ⟨23,rfl,rfl⟩),.inl rfl,.inl rfl,.inr (.inr ⟨false,rfl,rfl⟩),trivial⟩
   (fun r=>by
    simp only[look]
    by_cases h1:r=32
    ·subst h1;rfl
    by_cases h2:r=112
    ·subst h2;rfl
    simp only[h1,h2,if_false])
  have hs3:=hs2.nilBlk (p:=64) (z:=112) (l' := [.slc 32 0 0 23,.slc 64 0 0 4,.sl (.fr I),.bool false]) (ml' := [32,64,112]) (ens' := [some (.sq (.gate [])),some (.sq (.fr [])),some (.fl [.slc 32 0 0 23,.slc 64 0 0 4,.sl (.fr I),.bool false])]) (q:=.fr []) rfl (by decide) rfl rfl
   ⟨.inl rfl,.inr (.inl ⟨4,rfl,rfl⟩),.inl rfl,.inl rfl,trivial⟩
   (fun r=>by
    simp only[look]
    by_cases h1:r=32
    ·subst h1;rfl
    by_cases h3:r=64
    ·subst h3;rfl
    by_cases h2:r=112
    ·subst h2;rfl
    simp only[h1,h2,h3,if_false])
  exact ⟨nilCtx (nilCtx x 32) 64,rfl,hs3⟩
 refine fn_start (fn:=Try.f26) (c:=bodyOf Try.f26) Try.func26 rfl rfl fun x0 a0 hk hF hs0=>?_
 by_cases hL:l.length > 1000
 ·have e:refA l I=(⟨[],[],I,false⟩,2,0,-1):=if_pos hL
  rw[e]
  refine alL l I ⟨decide_eq_true (by omega),trivial⟩ hs0 fun ac cY aY hs1=>?_
  obtain ⟨y,hy,hs2⟩:=nilB hs1
  rw[←hy]
  exact run_end2 rC_ok hk hF (alM_end I) trivial (fun y v hd=>hd) (show Sim x0.w x0.F kAll ac (alLS I) y aY from hs2)
 have e0:refA l I=refL l ⟨[],[],I,false⟩ (-1) 0:=if_neg hL
 rw[e0]
 refine alA l I ⟨decide_eq_false (by omega),trivial⟩ hs0 fun ac cY aY hs1=>?_
 obtain ⟨y,hy,hs2⟩:=nilB hs1
 rw[←hy]
 clear hs1
 have hs4:Sim x0.w x0.F kAll ac (rvS l [] (([]:List Fr).map outF) I false (-1) ((0:Nat):Int)) y aY:=hs2
 clear hs2
 obtain ⟨R,hR⟩:∃R,R=refL l ⟨[],[],I,false⟩ (-1) 0:=⟨_,rfl⟩
 rw[←hR]
 refine loop_rule (ι:={ s:Nat×BD×Int // s.1≤l.length∧(s.2.1.w.length:Int)≤508*(s.1:Int)∧s.2.1.g.length≤508*s.1∧R=refL (l.drop s.1) s.2.1 s.2.2 (s.1:Int) })
  (fun s=>rvS l s.1.2.1.g (s.1.2.1.w.map outF) s.1.2.1.j s.1.2.1.wr s.1.2.2 (s.1.1:Int)) (fun s=>l.length-s.1.1) (c:=lpC alA_k) (k:=lpR alA_k) (by kernel_rfl) (fun s ih ac cY aY hs=>?_) ⟨(0,⟨[],[],I,false⟩,-1),Nat.zero_le _,Int.le_refl _,Nat.zero_le _,hR⟩ hs4
 obtain ⟨⟨i,⟨G,W,J,wr⟩,ms⟩,hi,hW,hG,he⟩:=s
 simp only at ih hs hi hW hG he
 by_cases h:i<l.length
 ·obtain ⟨o,ho⟩:∃o,o=l.getD i op0:=⟨_,rfl⟩
  rw[drop_getO l h,←ho] at he
  by_cases hc:chkO o (W.length:Int)=0
  ·have e1:R=refL (l.drop (i+1)) (opB ⟨G,W,J,wr⟩ o) (if (opB ⟨G,W,J,wr⟩ o).wr=true∧ms<0 then (i:Int) else ms) ((i:Int)+1):=he.trans (if_pos hc)
   have hvl:=nv_vals W (inX J) hc
   have hnv:=nv_bound hc
   have hgl:=gates_len (W.length:Int) hc
   refine alB l G (W.map outF) J wr ms i (by rw[Int.toNat_natCast,←ho,List.length_map];exact ⟨decide_eq_true (by omega),by omega,by omega,by show (chkO o (W.length:Int) != 0)=false;rw[hc];rfl,trivial⟩) hs fun ac cU aU hs2=>?_
   rw[Int.toNat_natCast,←ho] at hs2
   obtain ⟨B',hB'⟩:∃B',B' = opB ⟨G,W,J,wr⟩ o:=⟨_,rfl⟩
   rw[←hB'] at e1
   have lw:(B'.w.length:Int)≤508*((i+1:Nat):Int):=by
    rw[hB']
    show ((W++valsOf W (inX J) o.tag o.a o.b o.c o.n o.k o.ks o.vars).length:Int)≤_
    rw[List.length_append]
    omega
   have lg:B'.g.length≤508*(i+1):=by
    rw[hB']
    show (G++gatesO (W.length:Int) o).length≤_
    rw[List.length_append]
    omega
   have wi:wrap IntKind.i64 ((i:Int)+1)=((i+1:Nat):Int):=by rw[wrap_id (by omega) (by omega)];omega
   have done:∀ac cY aY,Sim x0.w x0.F kAll ac (rvT l B'.g (B'.w.map outF) B'.j B'.wr ms i) cY aY→Wq Try.prog (Post Try.prog Try.f26 x0 (refSV R) R.1.es) alR_k ac .normal aY cY.w:=by
    intro ac cY aY hs3
    by_cases c1:B'.wr=true
    ·by_cases c2:ms<0
     ·refine alTa l _ _ _ _ ms i ⟨c1,decide_eq_true c2,trivial⟩ hs3 fun ac cV aV hs4=>?_
      rw[wi] at hs4
      exact ih ⟨(i+1,B',(i:Int)),by omega,lw,lg,by rw[e1,if_pos ⟨c1,c2⟩];rfl⟩ (by show l.length-(i+1)<l.length-i;omega) ac cV aV (hs4.nx _)
     ·refine alTb l _ _ _ _ ms i ⟨c1,decide_eq_false c2,trivial⟩ hs3 fun ac cV aV hs4=>?_
      rw[wi] at hs4
      exact ih ⟨(i+1,B',ms),by omega,lw,lg,by rw[e1,if_neg (fun h=>c2 h.2)];rfl⟩ (by show l.length-(i+1)<l.length-i;omega) ac cV aV (hs4.nx _)
    ·rw[Bool.not_eq_true] at c1
     refine alTc l _ _ _ _ ms i ⟨c1,trivial⟩ hs3 fun ac cV aV hs4=>?_
     rw[wi] at hs4
     exact ih ⟨(i+1,B',ms),by omega,lw,lg,by rw[e1,if_neg (fun h=>by rw[c1] at h;cases h.1)];rfl⟩ (by show l.length-(i+1)<l.length-i;omega) ac cV aV (hs4.nx _)
   obtain ⟨t,a,b,c,m,k,ks,vs⟩:=o
   have hs3:Sim x0.w x0.F kAll ac (rvO l G (W.map outF) J wr ms i t a b c m k ks vs) cU aU:=hs2.nx _
   have hc' : checkE t a b c m k ks vs (W.length:Int)=0:=hc
   have bW:W.length≤600000:=by omega
   have bG:G.length≤600000:=by omega
   have hJ:t≠1→B'.j=J:=fun ht=>by rw[hB'];exact if_neg ht
   have fin:∀ac cY aY,Sim x0.w x0.F kAll ac (rvT l (G++gatesOf (W.length:Int) t a b c m k ks vs) ((W++valsOf W (inX J) t a b c m k ks vs).map outF) B'.j (wr || wrongOf W t a b m) ms i) cY aY→Wq Try.prog (Post Try.prog Try.f26 x0 (refSV R) R.1.es) alR_k ac .normal aY cY.w:=fun ac cY aY hs4=>by
    refine done ac cY aY ?_
    have h4:Sim x0.w x0.F kAll ac (rvT l (opB ⟨G,W,J,wr⟩ ⟨t,a,b,c,m,k,ks,vs⟩).g ((opB ⟨G,W,J,wr⟩ ⟨t,a,b,c,m,k,ks,vs⟩).w.map outF) B'.j (opB ⟨G,W,J,wr⟩ ⟨t,a,b,c,m,k,ks,vs⟩).wr ms i) cY aY:=hs4
    rw[←hB'] at h4
    exact h4
   by_cases g1:t=1
   ·subst g1
    refine alT1 (x:=inX J) (J2:=B'.j) bW bG ?_ hs3 fin
    rw[hB']
    show (0<J.length∧inX J=inF (J.getD 0 0)∧nextJ J=(J.drop 1).take (J.length-1))∨(J.length=0∧inX J=0∧nextJ J=J)
    by_cases hj:0<J.length
    ·exact .inl ⟨hj,if_pos hj,if_pos hj⟩
    ·exact .inr ⟨by omega,if_neg hj,if_neg hj⟩
   rw[hJ g1] at fin
   by_cases g2:t=2
   ·subst g2;exact alT2 bW bG hs3 fin
   by_cases g3:t=3
   ·subst g3;exact alT3 bW bG hs3 fin
   by_cases g4:t=4
   ·subst g4;exact alT4 bW bG (chk_a hc' (by simp)) (chk_b hc' (by simp)) hs3 fin
   by_cases g5:t=5
   ·subst g5;exact alT5 bW bG (chk_a hc' (by simp)) (chk_b hc' (by simp)) hs3 fin
   by_cases g6:t=6
   ·subst g6
    obtain ⟨q1,q2,q3⟩:=chk_lin hc'
    exact alT6 bW bG q1 q2 q3 (chk_vs hc') hs3 fin
   by_cases g7:t=7
   ·subst g7;exact alT7 bW bG (chk_a hc' (by simp)) hs3 fin
   by_cases g8:t=8
   ·subst g8;exact alT8 bW bG (chk_a hc' (by simp)) (chk_b hc' (by simp)) (chk_c hc') hs3 fin
   by_cases g9:t=9
   ·subst g9;exact alT9 bW bG (chk_a hc' (by simp)) hs3 fin
   by_cases g10:t=10
   ·subst g10
    obtain ⟨q1,q2⟩:=chk_bits hc'
    exact alT10 (N:=m.toNat) bW bG (by omega) (by omega) (by omega) (chk_a hc' (by simp)) hs3 fin
   by_cases g11:t=11
   ·subst g11;exact alT11 bW bG (chk_a hc' (by simp)) (chk_b hc' (by simp)) hs3 fin
   ·exfalso
    have:checkE t a b c m k ks vs (W.length:Int)=61:=by simp [checkE, *]
    rw[this] at hc'
    cases hc'
  ·have e1:R=(⟨G,W,J,wr⟩,chkO o (W.length:Int),(i:Int),ms):=he.trans (if_neg hc)
   rw[e1]
   refine run_end2 rC_ok hk hF (alE_end l G (W.map outF) J wr ms i) (by rw[Int.toNat_natCast,←ho,List.length_map];exact ⟨decide_eq_true (by omega),by omega,by omega,by show (chkO o (W.length:Int) != 0)=true;exact bne_iff_ne.2 hc,trivial⟩) (fun y v hd=>?_) hs
   rw[Int.toNat_natCast,←ho,List.length_map] at hd
   exact hd
 ·have e1:R=(⟨G,W,J,wr⟩,0,0,ms):=by rw[he,List.drop_eq_nil_of_le (by omega)];rfl
  rw[e1]
  exact run_end2 rC_ok hk hF (alX_end l G (W.map outF) J wr ms i) ⟨decide_eq_false (by omega),trivial⟩ (fun y v hd=>hd) hs

end

section
section
variable {w0:World} {F0:Nat→Prop} {K:Kp} {ac:List Act} {Q:Exit→Act→World→Prop} {cX:Ctx} {aX:Act}

theorem nil_sl {x:Ctx} {v:Value} (h:denS x (.v (.c (.val (.slice none 0 0)))) v):denS x (.v (.c (.sl (.fr [])))) v:=by
 obtain ⟨_,d,h⟩:=h
 have h:[v]=[Value.slice none 0 0]:=by cases d<;>exact h.1
 exact ⟨rfl,1,.inl ⟨none,0,h,rfl⟩⟩
theorem allNil_fnd (l:List OpD):FnD Try.prog 26 [.v (.c (.sl (.op l))),.v (.c (.val (.slice none 0 0)))] (refSV (refA l [])) (refA l []).1.es:=
 (all_fnd l []).conv (fun x vs h=>by
  cases h with
  | cons h1 h2=>cases h2 with
   | cons h2 h3=>exact .cons h1 (.cons (nil_sl h2) h3)) fun _ _ h=>h
--@env rB rB_ok
def tlA_k:List KI:=(run rB false 3000 ((fun (l:List OpD)=>(⟨[.code (bodyOf Try.f27)],.normal,initSt Try.f27.ntmps [.v (.c (.sl (.op l)))]⟩:Cfg)) default) []).cfg.k
theorem tlA (l:List OpD) (ho:AllP []):Sg Try.prog (initSt Try.f27.ntmps [.v (.c (.sl (.op l)))]) (mkSt 26 [3,7,8,9] [(.ci (.slc 32 0 0 23)),(.ci (.sl (.op l))),(.ii (l.length:Int)),.ii (0:Int)] [32] [(eQ (.gate ([]:List GateD)))] 112 [] []) .normal (tlA_k) ([.code (bodyOf Try.f27)]):=fun hs hK=>
 run_at2 (unroll:=false) (n:=3000) (path:=[]) (o:=⟨_,_,_,_,_,_,_⟩) rB_ok (by kernel_rfl) (by kernel_rfl) ho hs hK
def tlS (l:List OpD) (T:List GateD) (i:Int):St:=mkSt 26 [3,7,8,9] [.v (.c (.slc 32 0 T.length 23)),(.ci (.sl (.op l))),(.ii (l.length:Int)),.v (.c (.int .i64 i))] [32] [some (.sq (.gate T))] 112 [] []
section
variable (l:List OpD) (T:List GateD) (i:Int)
theorem tlB (ho:AllP [((decide (i<(l.length:Int)))=true),(0≤i),(i<(l.length:Int)),(((OpD.tag (List.getD l (i).toNat op0)) == (2:Int))=true),(((T.length+1)*184)≤140737488355328),((T.length+1)≤maxLen),(T.length=T.length),(1=1)]):Sg Try.prog (tlS l T i) (mkSt 26 [3,7,8,9] [(.ci (.slc 32 0 (T.length+1) 23)),(.ci (.sl (.op l))),(.ii (l.length:Int)),(.ii (wrap .i64 (i+1)))] [32] [(eQ (.gate (T++[(GateD.mk 0 oneU 0 0 0 (OpD.a (List.getD l (i).toNat op0)) (-1) (-1))])))] 416 [] []) .normal (lpBk tlA_k) (lpIn tlA_k):=fun hs hK=>
 run_at2 (unroll:=false) (n:=3000) (path:=[true,true]) (o:=⟨_,_,_,_,_,_,_⟩) rB_ok (by kernel_rfl) (by kernel_rfl) ho hs hK
theorem tlC (ho:AllP [((decide (i<(l.length:Int)))=true),(0≤i),(i<(l.length:Int)),(((OpD.tag (List.getD l (i).toNat op0)) == (2:Int))=false)]):Sg Try.prog (tlS l T i) (mkSt 26 [3,7,8,9] [(.ci (.slc 32 0 T.length 23)),(.ci (.sl (.op l))),(.ii (l.length:Int)),(.ii (wrap .i64 (i+1)))] [32] [(eQ (.gate T))] 272 [] []) .normal (lpBk tlA_k) (lpIn tlA_k):=fun hs hK=>
 run_at2 (unroll:=false) (n:=3000) (path:=[true,false]) (o:=⟨_,_,_,_,_,_,_⟩) rB_ok (by kernel_rfl) (by kernel_rfl) ho hs hK
end
theorem tlX_end (l:List OpD) (T:List GateD) (i:Int):runEnd rB Try.f27 false 3000 (⟨lpIn tlA_k,.normal,tlS l T i⟩) [false] [32] []=(some ([((decide (i<(l.length:Int)))=false)],((.ci (.slc 0 0 T.length 23)),[(.sq (.gate T))]))):=by kernel_rfl
def toldL (l:List OpD):List GateD:=l.flatMap tellO
theorem toldL_len:∀l:List OpD,(toldL l).length≤l.length
 | []=>Nat.le_refl _
 | o::l=>by
  show (tellO o++toldL l).length≤_
  have:(tellO o).length≤1:=by unfold tellO;split<;>simp
  have:=toldL_len l
  rw[List.length_append,List.length_cons]
  omega
theorem told_fnd (l:List OpD) (hl:l.length≤1000):FnD Try.prog 27 [.v (.c (.sl (.op l)))] (.v (.c (.slc 0 0 (toldL l).length 23))) [.sq (.gate (toldL l))]:=by
 refine fn_start (fn:=Try.f27) (c:=bodyOf Try.f27) Try.func27 rfl rfl fun x0 a0 hk hF hs0=>?_
 refine tlA l trivial hs0 fun ac cY aY hs1=>?_
 refine loop_rule (ι:={ s:Nat×List GateD // s.1≤l.length∧s.2.length≤s.1∧toldL l=s.2++toldL (l.drop s.1) }) (fun s=>tlS l s.1.2 (s.1.1:Int)) (fun s=>l.length-s.1.1) (c:=lpC tlA_k) (k:=lpR tlA_k) (by kernel_rfl) (fun s ih ac cY aY hs=>?_) ⟨(0,[]),Nat.zero_le _,Nat.zero_le _,rfl⟩ (hs1.nx _)
 obtain ⟨⟨i,T⟩,hi,hT,he⟩:=s
 simp only at ih hs hi hT he
 by_cases h:i<l.length
 ·have wi:wrap IntKind.i64 ((i:Int)+1)=((i+1:Nat):Int):=by rw[wrap_id (by omega) (by omega)];omega
  obtain ⟨o,ho⟩:∃o,o=l.getD i op0:=⟨_,rfl⟩
  rw[drop_getO l h,←ho] at he
  have he2:toldL l=(T++tellO o)++toldL (l.drop (i+1)):=by rw[List.append_assoc];exact he
  by_cases c2:o.tag=2
  ·refine tlB l T i (by rw[Int.toNat_natCast,←ho];exact ⟨decide_eq_true (by omega),by omega,by omega,beq_iff_eq.2 c2,by omega,by simp only[maxLen];omega,rfl,rfl,trivial⟩) hs fun ac cU aU hs2=>?_
   rw[wi,Int.toNat_natCast,←ho] at hs2
   have e1:tellO o=[toldG o.a]:=if_pos c2
   have hs3:Sim x0.w x0.F kAll ac (tlS l (T++[toldG o.a]) ((i+1:Nat):Int)) cU aU:=by
    unfold tlS
    rw[List.length_append]
    exact hs2.nx _
   exact ih ⟨(i+1,T++[toldG o.a]),by omega,by rw[List.length_append];show T.length+1≤i+1;omega,by rw[←e1];exact he2⟩ (by show l.length-(i+1)<l.length-i;omega) ac cU aU hs3
  ·refine tlC l T i (by rw[Int.toNat_natCast,←ho];exact ⟨decide_eq_true (by omega),by omega,by omega,beq_eq_false_iff_ne.2 c2,trivial⟩) hs fun ac cU aU hs2=>?_
   rw[wi] at hs2
   exact ih ⟨(i+1,T),by omega,by show T.length≤i+1;omega,by rw[he2,show tellO o=[] from if_neg c2,List.append_nil]⟩ (by show l.length-(i+1)<l.length-i;omega) ac cU aU (hs2.nx _)
 ·rw[show toldL l=T from by rw[he,List.drop_eq_nil_of_le (by omega)];exact List.append_nil _]
  exact run_end2 rB_ok hk hF (tlX_end l T i) ⟨decide_eq_false (by omega),trivial⟩ (fun y v hd=>hd) hs
def allNilSpec:FnSpec
 | [.v (.c (.sl (.op l))),.v (.c (.val (.slice none 0 0)))]=>some ([],refSV (refA l []),[.fl [.slc 1 0 (refA l []).1.g.length 23,.slc 2 0 ((refA l []).1.w.map outF).length 4,.sl (.fr (refA l []).1.j),.bool (refA l []).1.wr],.sq (.gate (refA l []).1.g),.sq (.fr ((refA l []).1.w.map outF))])
 | _=>none
def rE1:Env:=rB.set (addT rB.fn 26 allNilSpec)
theorem rE1_ok:EnvOk Try.prog rE1:=env_add rB_ok 26 allNilSpec (enters_of Try.func26 rfl rfl) fun args o r es h _=>by
 unfold allNilSpec at h
 split at h
 ·cases h;exact allNil_fnd _
 ·cases h
def toldSpec:FnSpec
 | [.v (.c (.sl (.op l)))]=>some ([l.length≤1000],.v (.c (.slc 0 0 (toldL l).length 23)),[.sq (.gate (toldL l))])
 | _=>none
def rE:Env:=rE1.set (addT rE1.fn 27 toldSpec)
theorem rE_ok:EnvOk Try.prog rE:=env_add rE1_ok 27 toldSpec (enters_of Try.func27 rfl rfl) fun args o r es h ho=>by
 unfold toldSpec at h
 split at h
 ·cases h;exact told_fnd _ ho.1
 ·cases h
--@env rE rE_ok
theorem r10A (l:List OpD):fnRes rE Try.f10 3000 [.v (.c (.sl (.op l)))] [true] [] []=(some ([(((Prod.fst (Prod.snd (refA l ([]:List U4)))) != (0:Int))=true)],((.t [(.a [(.sl (.gate ([]:List GateD))),(.int .i64 (0:Int)),(.int .i64 (0:Int))]),(.c (.int .i64 (Prod.fst (Prod.snd (refA l ([]:List U4)))))),(.c (.int .i64 (Prod.fst (Prod.snd (Prod.snd (refA l ([]:List U4)))))))]),[]))):=by kernel_rfl
theorem r10B (l:List OpD):fnRes rE Try.f10 3000 [.v (.c (.sl (.op l)))] [false,true] [] []=(some ([(((Prod.fst (Prod.snd (refA l ([]:List U4)))) != (0:Int))=false),(l.length≤1000),((decide ((((toldL l).length:Nat):Int) > (64:Int)))=true)],((.t [(.a [(.sl (.gate ([]:List GateD))),(.int .i64 (0:Int)),(.int .i64 (0:Int))]),(.c (.int .i64 (2:Int))),(.c (.int .i64 (0:Int)))]),[]))):=by kernel_rfl
theorem r10C (l:List OpD):fnRes rE Try.f10 3000 [.v (.c (.sl (.op l)))] [false,false,true] [] []=(some ([(((Prod.fst (Prod.snd (refA l ([]:List U4)))) != (0:Int))=false),(l.length≤1000),((decide ((((toldL l).length:Nat):Int) > (64:Int)))=false),((decide ((wrap .i64 ((((toldL l).length:Nat):Int)+(((BD.g (Prod.fst (refA l ([]:List U4)))).length:Nat):Int))) > (4096:Int)))=true)],((.t [(.a [(.sl (.gate ([]:List GateD))),(.int .i64 (0:Int)),(.int .i64 (0:Int))]),(.c (.int .i64 (2:Int))),(.c (.int .i64 (0:Int)))]),[]))):=by kernel_rfl
theorem r10D (l:List OpD):fnRes rE Try.f10 3000 [.v (.c (.sl (.op l)))] [false,false,false] [] [288]=(some ([(((Prod.fst (Prod.snd (refA l ([]:List U4)))) != (0:Int))=false),(l.length≤1000),((decide ((((toldL l).length:Nat):Int) > (64:Int)))=false),((decide ((wrap .i64 ((((toldL l).length:Nat):Int)+(((BD.g (Prod.fst (refA l ([]:List U4)))).length:Nat):Int))) > (4096:Int)))=false),((((toldL l).length+(BD.g (Prod.fst (refA l ([]:List U4)))).length)*184)≤140737488355328),(((toldL l).length+(BD.g (Prod.fst (refA l ([]:List U4)))).length)≤maxLen),((toldL l).length=(toldL l).length),((BD.g (Prod.fst (refA l ([]:List U4)))).length=(BD.g (Prod.fst (refA l ([]:List U4)))).length),(((toldL l).length+(BD.g (Prod.fst (refA l ([]:List U4)))).length)=((toldL l)++(BD.g (Prod.fst (refA l ([]:List U4))))).length)],((.t [(.a [(.sl (.gate ((toldL l)++(BD.g (Prod.fst (refA l ([]:List U4))))))),(.int .i64 (((toldL l).length:Nat):Int)),(.int .i64 (((List.map outF (BD.w (Prod.fst (refA l ([]:List U4))))).length:Nat):Int))]),(.c (.int .i64 (0:Int))),(.c (.int .i64 (0:Int)))]),[]))):=by kernel_rfl
end
end

set_option linter.unusedSimpArgs false
set_option linter.unusedVariables false
section

theorem pushG_cap {G:List GateD} {a:GateD} (h:G.length≤4097):pushG G a=(G++[a]).take 4097:=by
 unfold pushG
 split
 ·rw[List.take_of_length_le (by rw[List.length_append];show G.length+1≤4097;omega)]
 ·rw[List.take_append_of_le_length (by omega),List.take_of_length_le h]
theorem pushGs_cap:∀{g G:List GateD},G.length≤4097→pushGs G g=(G++g).take 4097
 | [],G,h=>by rw[List.append_nil,List.take_of_length_le h];rfl
 | a::g,G,h=>by
  show pushGs (pushG G a) g=_
  rw[pushGs_cap (pushG_len h),pushG_cap h]
  by_cases h2:G.length≤4096
  ·rw[List.take_of_length_le (l:=G++[a]) (by rw[List.length_append];show G.length+1≤4097;omega),List.append_assoc];rfl
  ·have e:G.length=4097:=by omega
   rw[List.take_append_of_le_length (l₁:=G) (by omega),List.take_of_length_le (l:=G) h,List.take_append_of_le_length (by omega),List.take_append_of_le_length (by omega)]

theorem ref_comp:∀(l:List OpD) (T:List GateD) (B:BD) (ms i:Int),
  compL l T (pushGs [] B.g) (B.w.length:Int) i=if (refL l B ms i).2.1≠0 then .inr ((refL l B ms i).2.1,(refL l B ms i).2.2.1) else .inl (T++toldL l,pushGs [] (refL l B ms i).1.g,((refL l B ms i).1.w.length:Int))
 | [],T,B,ms,i=>by
  rw[if_neg (by show ¬(0:Int)≠0;simp)]
  show Sum.inl (T,_,_)=Sum.inl (T++[],_,_)
  rw[List.append_nil]
  rfl
 | o::r,T,B,ms,i=>by
  by_cases hc:chkO o (B.w.length:Int)=0
  ·have e1:compL (o::r) T (pushGs [] B.g) (B.w.length:Int) i=compL r (T++tellO o) (pushGs (pushGs [] B.g) (gatesO (B.w.length:Int) o)) ((B.w.length:Int)+nvO o) (i+1):=if_pos hc
   have e2:refL (o::r) B ms i=refL r (opB B o) (if (opB B o).wr=true∧ms<0 then i else ms) (i+1):=if_pos hc
   rw[e1,e2,←pushGs_app]
   have e3:(B.w.length:Int)+nvO o=((opB B o).w.length:Int):=by
    have:=nv_vals B.w (inX B.j) hc
    show _=((B.w++valsOf B.w (inX B.j) o.tag o.a o.b o.c o.n o.k o.ks o.vars).length:Int)
    rw[List.length_append]
    omega
   rw[e3]
   have ih:=ref_comp r (T++tellO o) (opB B o) (if (opB B o).wr=true∧ms<0 then i else ms) (i+1)
   rw[List.append_assoc] at ih
   exact ih
  ·have e1:compL (o::r) T (pushGs [] B.g) (B.w.length:Int) i = .inr (chkO o (B.w.length:Int),i):=if_neg hc
   have e2:refL (o::r) B ms i=(B,chkO o (B.w.length:Int),i,ms):=if_neg hc
   rw[e1,e2,if_pos hc]

theorem refCompile_fnd (l:List OpD):FnD Try.prog 10 [.v (.c (.sl (.op l)))] (compSV (compR l)) []:=by
 by_cases hL:l.length > 1000
 ·have e:refA l []=(⟨[],[],[],false⟩,2,0,-1):=if_pos hL
  have r:=r10A l
  rw[e] at r
  rw[show compR l=(([],0,0),2,0) from if_pos hL]
  exact fn_sound rE_ok Try.func10 r ⟨rfl,trivial⟩
 have e0:compR l=compE (compL l [] [] 0 0):=if_neg hL
 have e1:refA l []=refL l ⟨[],[],[],false⟩ (-1) 0:=if_neg hL
 have e2:=ref_comp l [] ⟨[],[],[],false⟩ (-1) 0
 rw[←e1] at e2
 have e2' : compL l [] [] 0 0=_:=e2
 rw[e0,e2']
 by_cases c0:(refA l []).2.1=0
 ·rw[if_neg (not_not_intro c0),List.nil_append]
  have hT:=toldL_len l
  have hg:((refA l []).1.g.length:Int)≤508*1000:=by
   have key:∀(l:List OpD) (B:BD) (ms i:Int),(refL l B ms i).1.g.length≤B.g.length+508*l.length:=by
    intro l
    induction l with
    | nil=>intro B ms i;exact Nat.le_refl _
    | cons o r ih=>
     intro B ms i
     by_cases hc:chkO o (B.w.length:Int)=0
     ·rw[show refL (o::r) B ms i=refL r (opB B o) (if (opB B o).wr=true∧ms<0 then i else ms) (i+1) from if_pos hc]
      have:=ih (opB B o) (if (opB B o).wr=true∧ms<0 then i else ms) (i+1)
      have h2:=gates_len (B.w.length:Int) hc
      have h3:(opB B o).g.length=B.g.length+(gatesO (B.w.length:Int) o).length:=List.length_append
      rw[List.length_cons]
      omega
     ·rw[show refL (o::r) B ms i=(B,chkO o (B.w.length:Int),i,ms) from if_neg hc]
      show B.g.length≤_
      omega
   have:=key l ⟨[],[],[],false⟩ (-1) 0
   rw[←e1] at this
   have:(refA l []).1.g.length≤0+508*l.length:=this
   omega
  have ecap:pushGs [] (refA l []).1.g=(refA l []).1.g.take 4097:=pushGs_cap (Nat.zero_le _)
  have hw:wrap IntKind.i64 (((toldL l).length:Int)+((refA l []).1.g.length:Int))=((toldL l).length:Int)+((refA l []).1.g.length:Int):=wrap_id (by omega) (by omega)
  have z:((refA l []).2.1 != 0)=false:=by rw[c0];rfl
  by_cases c1:(toldL l).length > 64
  ·rw[show compE (.inl (toldL l,pushGs [] (refA l []).1.g,((refA l []).1.w.length:Int)))=(([],0,0),2,0) from if_pos (.inr c1)]
   exact fn_sound rE_ok Try.func10 (r10B l) ⟨z,by omega,decide_eq_true (by omega),trivial⟩
  by_cases c2:(toldL l).length+(refA l []).1.g.length > 4096
  ·rw[show compE (.inl (toldL l,pushGs [] (refA l []).1.g,((refA l []).1.w.length:Int)))=(([],0,0),2,0) from if_pos (.inl (by rw[ecap,List.length_take];omega))]
   exact fn_sound rE_ok Try.func10 (r10C l) ⟨z,by omega,decide_eq_false (by omega),by rw[hw];exact decide_eq_true (by omega),trivial⟩
  ·have eg:pushGs [] (refA l []).1.g=(refA l []).1.g:=by rw[ecap,List.take_of_length_le (by omega)]
   rw[eg,show compE (.inl (toldL l,(refA l []).1.g,((refA l []).1.w.length:Int)))=((toldL l++(refA l []).1.g,((toldL l).length:Int),((refA l []).1.w.length:Int)),0,0) from if_neg (by omega)]
   have r:=r10D l
   rw[List.length_map] at r
   exact fn_sound rE_ok Try.func10 r (by rw[hw];exact ⟨z,by omega,decide_eq_false (by omega),decide_eq_false (by omega),by omega,by simp only[maxLen];omega,rfl,rfl,by simp,trivial⟩)
 ·rw[if_pos c0]
  exact fn_sound rE_ok Try.func10 (r10A l) ⟨bne_iff_ne.2 c0,trivial⟩
end

section

def b0 (I:List U4):BD:=⟨[],[],I,false⟩
/-- Operations one by one, until one is not met. -/
def solL:List OpD→BD→Int→BD ⊕ Int
 | [],B,_=>.inl B
 | o::r,B,i=>if (opB B o).wr=true then .inr i else solL r (opB B o) (i+1)
/-- How many are inputs. -/
def nIn:List OpD→Nat
 | []=>0
 | o::r=>(if o.tag=1 then 1 else 0)+nIn r
def solE:BD ⊕ Int→List Fr×Int×Int
 | .inl B=>(B.w,0,0)
 | .inr i=>([],70,i)
/-- The values of all variables, the error, which operation. -/
def solR (l:List OpD) (I:List U4):List Fr×Int×Int:=
 if (compR l).2.1≠0 then ([],(compR l).2.1,(compR l).2.2) else if nIn l≠I.length then ([],3,0) else solE (solL l (b0 I) 0)
def solSV (r:List Fr×Int×Int):SV:=.t [.c (.sl (.fr (r.1.map outF))),.c (.int .i64 r.2.1),.c (.int .i64 r.2.2)]

/-- Operations that are right, one after the other; what they made. -/
def okL:List OpD→BD→Prop
 | [],_=>True
 | o::r,B=>chkO o (B.w.length:Int)=0∧okL r (opB B o)
def finL (l:List OpD) (B:BD):BD:=l.foldl opB B
theorem finL_cons (o:OpD) (r:List OpD) (B:BD):finL (o::r) B=finL r (opB B o):=rfl
theorem refL_pos {o:OpD} {r:List OpD} {B:BD} {ms i:Int} (hc:chkO o (B.w.length:Int)=0):refL (o::r) B ms i=refL r (opB B o) (if (opB B o).wr=true∧ms<0 then i else ms) (i+1):=if_pos hc
theorem refL_neg {o:OpD} {r:List OpD} {B:BD} {ms i:Int} (hc:¬chkO o (B.w.length:Int)=0):refL (o::r) B ms i=(B,chkO o (B.w.length:Int),i,ms):=if_neg hc
theorem refL_ok:∀(l:List OpD) (B:BD) (ms i:Int),(refL l B ms i).2.1=0→okL l B∧(refL l B ms i).1=finL l B
 | [],_,_,_,_=>⟨trivial,rfl⟩
 | o::r,B,ms,i,h=>by
  by_cases hc:chkO o (B.w.length:Int)=0
  ·rw[refL_pos hc] at h ⊢
   obtain ⟨h1,h2⟩:=refL_ok r (opB B o) _ _ h
   exact ⟨⟨hc,h1⟩,h2⟩
  ·rw[refL_neg hc] at h
   exact absurd h hc
theorem refL_of_ok:∀(l:List OpD) (B:BD) (ms i:Int),okL l B→(refL l B ms i).2.1=0∧(refL l B ms i).1=finL l B
 | [],_,_,_,_=>⟨rfl,rfl⟩
 | o::r,B,ms,i,h=>by
  rw[refL_pos h.1]
  exact refL_of_ok r (opB B o) _ _ h.2
theorem refL_ms:∀(l:List OpD) (B:BD) (ms i:Int),okL l B→0≤ms→(refL l B ms i).2.2.2=ms
 | [],_,_,_,_,_=>rfl
 | o::r,B,ms,i,h,hm=>by
  rw[refL_pos h.1,if_neg fun h=>by omega]
  exact refL_ms r (opB B o) _ _ h.2 hm
/-- The reference goes on behind what is not met. -/
theorem ref_sol:∀(l:List OpD) (B:BD) (i:Int),okL l B→0≤i→(∃k,solL l B i = .inr k∧0≤k∧(refL l B (-1) i).2.2.2=k)∨(solL l B i = .inl (finL l B)∧(refL l B (-1) i).2.2.2 = -1)
 | [],B,i,_,_=>.inr ⟨rfl,rfl⟩
 | o::r,B,i,h,hi=>by
  rw[refL_pos h.1]
  by_cases hw:(opB B o).wr=true
  ·rw[if_pos ⟨hw,by decide⟩]
   exact .inl ⟨i,if_pos hw,hi,refL_ms r _ _ _ h.2 hi⟩
  ·rw[if_neg fun h=>hw h.1]
   have e:solL (o::r) B i=solL r (opB B o) (i+1):=if_neg hw
   rw[e]
   exact ref_sol r (opB B o) (i+1) h.2 (by omega)

/-- Alike but for inputs. -/
def alike (A B:BD):Prop:=A.g=B.g∧A.w.length=B.w.length
theorem alike_op {A B:BD} {o:OpD} (h:alike A B) (hc:chkO o (A.w.length:Int)=0):alike (opB A o) (opB B o):=by
 have hc2:chkO o (B.w.length:Int)=0:=h.2 ▸ hc
 have v1:=nv_vals A.w (inX A.j) hc
 have v2:=nv_vals B.w (inX B.j) hc2
 refine ⟨?_,?_⟩
 ·show A.g++gatesO (A.w.length:Int) o=B.g++gatesO (B.w.length:Int) o
  rw[h.1,h.2]
 ·show (A.w++valsOf A.w (inX A.j) o.tag o.a o.b o.c o.n o.k o.ks o.vars).length=(B.w++valsOf B.w (inX B.j) o.tag o.a o.b o.c o.n o.k o.ks o.vars).length
  rw[List.length_append,List.length_append,h.2]
  omega
theorem alike_all:∀(l:List OpD) (A B:BD),alike A B→okL l A→okL l B∧alike (finL l A) (finL l B)
 | [],_,_,h,_=>⟨trivial,h⟩
 | o::r,A,B,h,hk=>by
  have h2:=alike_op h hk.1
  obtain ⟨h3,h4⟩:=alike_all r _ _ h2 hk.2
  exact ⟨⟨h.2 ▸ hk.1,h3⟩,h4⟩
theorem finL_g:∀(l:List OpD) (B:BD),B.g.length≤(finL l B).g.length
 | [],_=>Nat.le_refl _
 | o::r,B=>by
  have h1:=finL_g r (opB B o)
  have h2:(opB B o).g.length=B.g.length+(gatesO (B.w.length:Int) o).length:=List.length_append
  show _≤(finL r (opB B o)).g.length
  omega
theorem finL_w:∀(l:List OpD) (B:BD),okL l B→(finL l B).w.length≤B.w.length+508*l.length
 | [],_,_=>Nat.le_refl _
 | o::r,B,h=>by
  have h1:=finL_w r (opB B o) h.2
  have h2:=nv_vals B.w (inX B.j) h.1
  have h4:=nv_bound h.1
  have h3:(opB B o).w.length=B.w.length+(valsOf B.w (inX B.j) o.tag o.a o.b o.c o.n o.k o.ks o.vars).length:=List.length_append
  show (finL r (opB B o)).w.length≤_
  rw[List.length_cons]
  omega
/-- When the gates of operations are told, and as what. -/
theorem comp_ok {l:List OpD} (h:(compR l).2.1=0):l.length≤1000∧okL l (b0 [])∧(toldL l).length+(finL l (b0 [])).g.length≤4096∧(toldL l).length≤64∧compR l=((toldL l++(finL l (b0 [])).g,((toldL l).length:Int),((finL l (b0 [])).w.length:Int)),0,0):=by
 unfold compR at h ⊢
 split at h
 ·cases h
 rename_i hl
 rw[if_neg hl]
 have e:compL l [] [] 0 0=_:=ref_comp l [] (b0 []) (-1) 0
 rw[e] at h ⊢
 split at h
 ·rename_i h1
  exact absurd h h1
 rename_i h1
 obtain ⟨k1,k2⟩:=refL_ok l (b0 []) (-1) 0 (Decidable.not_not.1 h1)
 rw[if_neg h1]
 rw[k2,pushGs_cap (Nat.zero_le _),List.nil_append,List.nil_append] at h ⊢
 have h2:¬((toldL l).length+((finL l (b0 [])).g.take 4097).length > 4096∨(toldL l).length > 64):=fun h2=>by
  rw[show compE (.inl (toldL l,(finL l (b0 [])).g.take 4097,((finL l (b0 [])).w.length:Int)))=(([],0,0),2,0) from if_pos h2] at h
  cases h
 rw[List.length_take] at h2
 have h3:(finL l (b0 [])).g.length≤4096:=by omega
 rw[List.take_of_length_le (l:=(finL l (b0 [])).g) (by omega)]
 refine ⟨by omega,k1,by omega,by omega,?_⟩
 exact if_neg (by omega)
theorem nIn_le:∀l:List OpD,nIn l≤l.length
 | []=>Nat.le_refl _
 | o::r=>by
  have:=nIn_le r
  show (if o.tag=1 then 1 else 0)+nIn r≤r.length+1
  split<;>omega
end

section
section
variable {w0:World} {F0:Nat→Prop} {K:Kp} {ac:List Act} {Q:Exit→Act→World→Prop} {cX:Ctx} {aX:Act}

def rF:Env:={ iC with inl:=addI iC.inl 22 Try.f22 }
theorem rF_ok:EnvOk Try.prog rF:=⟨iC_ok.ty,iC_ok.mixed,iC_ok.fn,iC_ok.mu,inl_add iC_ok.inl Try.func22 (enters_of Try.func22 rfl rfl),iC_ok.ex,iC_ok.inv⟩
--@env rF rF_ok
def owA_k:List KI:=(run rF false 3000 ((fun (l:List OpD)=>(⟨[.code (bodyOf Try.f8)],.normal,initSt Try.f8.ntmps [.v (.c (.sl (.op l)))]⟩:Cfg)) default) [true]).cfg.k
section
variable (l:List OpD)
theorem owA (ho:AllP [(((0+l.length)*120)≤140737488355328),((0+l.length)≤maxLen),(0=0),((decide ((((0+l.length):Nat):Int)≤(1000:Int)))=true),(0=0),(11=11),(0≤(ite ((20:Int)<(((0+l.length):Nat):Int)) (20:Int) (((0+l.length):Nat):Int))),((ite ((20:Int)<(((0+l.length):Nat):Int)) (20:Int) (((0+l.length):Nat):Int))≤(((0+l.length):Nat):Int))]):Sg Try.prog (initSt Try.f8.ntmps [.v (.c (.sl (.op l)))]) (mkSt 49 [0,14,15] [(.ci (.slc 32 0 ((ite ((20:Int)<(((0+l.length):Nat):Int)) (20:Int) (((0+l.length):Nat):Int))).toNat 11)),(.ii ((((ite ((20:Int)<(((0+l.length):Nat):Int)) (20:Int) (((0+l.length):Nat):Int))).toNat:Nat):Int)),.ii (0:Int)] [32] [(eQ (.op l))] 288 [[]] [([],7)]) .normal (owA_k) ([.code (bodyOf Try.f8)]):=fun hs hK=>
 run_at2 (unroll:=false) (n:=3000) (path:=[true]) (o:=⟨_,_,_,_,_,_,_⟩) rF_ok (by kernel_rfl) (by kernel_rfl) ho hs hK
theorem owB (ho:AllP [(((0+l.length)*120)≤140737488355328),((0+l.length)≤maxLen),(0=0),((decide ((((0+l.length):Nat):Int)≤(1000:Int)))=false)]):Sg Try.prog (initSt Try.f8.ntmps [.v (.c (.sl (.op l)))]) (mkSt 49 [0,14,15] [(.ci (.slc 32 0 (0+l.length) 11)),(.ii (((0+l.length):Nat):Int)),.ii (0:Int)] [32] [(eQ (.op l))] 192 [[]] [([],7)]) .normal (owA_k) ([.code (bodyOf Try.f8)]):=fun hs hK=>
 run_at2 (unroll:=false) (n:=3000) (path:=[false]) (o:=⟨_,_,_,_,_,_,_⟩) rF_ok (by kernel_rfl) (by kernel_rfl) ho hs hK
def owS (m:List OpD) (i:Int):St:=mkSt 49 [0,14,15] [.v (.c (.slc 32 0 m.length 11)),.v (.c (.int .i64 (m.length:Int))),.v (.c (.int .i64 i))] [32] [some (.sq (.op m))] 288 [[]] [([],7)]
end
section
variable (m:List OpD) (i:Int)
theorem owC (ho:AllP [((decide (i<(m.length:Int)))=true),(0≤i),(i<(m.length:Int)),(0=0),((i).toNat<m.length),(((OpD.tag (List.getD m (i).toNat op0)) == (10:Int))=true),((i).toNat<m.length),((decide ((OpD.n (List.getD m (i).toNat op0)) > (40:Int)))=true),((i).toNat<m.length),((decide ((OpD.n (List.getD m (i).toNat op0))<(254:Int)))=true),((decide (i > (3:Int)))=true),((i).toNat<m.length)]):Sg Try.prog (owS m i) (mkSt 49 [0,14,15] [(.ci (.slc 32 0 m.length 11)),(.ii (m.length:Int)),(.ii (wrap .i64 (i+1)))] [32] [(eQ (.op (List.set m (i).toNat (OpD.mk (OpD.tag (List.getD m (i).toNat op0)) (OpD.a (List.getD m (i).toNat op0)) (OpD.b (List.getD m (i).toNat op0)) (OpD.c (List.getD m (i).toNat op0)) (40:Int) (OpD.k (List.getD m (i).toNat op0)) (OpD.ks (List.getD m (i).toNat op0)) (OpD.vars (List.getD m (i).toNat op0))))))] 864 [[]] [([],7)]) .normal (lpBk owA_k) (lpIn owA_k):=fun hs hK=>
 run_at2 (unroll:=false) (n:=3000) (path:=[true,true,true,true,true]) (o:=⟨_,_,_,_,_,_,_⟩) rF_ok (by kernel_rfl) (by kernel_rfl) ho hs hK
theorem owD (ho:AllP [((decide (i<(m.length:Int)))=true),(0≤i),(i<(m.length:Int)),(0=0),((i).toNat<m.length),(((OpD.tag (List.getD m (i).toNat op0)) == (10:Int))=true),((i).toNat<m.length),((decide ((OpD.n (List.getD m (i).toNat op0)) > (40:Int)))=true),((i).toNat<m.length),((decide ((OpD.n (List.getD m (i).toNat op0))<(254:Int)))=true),((decide (i > (3:Int)))=false)]):Sg Try.prog (owS m i) (mkSt 49 [0,14,15] [(.ci (.slc 32 0 m.length 11)),(.ii (m.length:Int)),(.ii (wrap .i64 (i+1)))] [32] [(eQ (.op m))] 800 [[]] [([],7)]) .normal (lpBk owA_k) (lpIn owA_k):=fun hs hK=>
 run_at2 (unroll:=false) (n:=3000) (path:=[true,true,true,true,false]) (o:=⟨_,_,_,_,_,_,_⟩) rF_ok (by kernel_rfl) (by kernel_rfl) ho hs hK
theorem owE (ho:AllP [((decide (i<(m.length:Int)))=true),(0≤i),(i<(m.length:Int)),(0=0),((i).toNat<m.length),(((OpD.tag (List.getD m (i).toNat op0)) == (10:Int))=true),((i).toNat<m.length),((decide ((OpD.n (List.getD m (i).toNat op0)) > (40:Int)))=true),((i).toNat<m.length),((decide ((OpD.n (List.getD m (i).toNat op0))<(254:Int)))=false)]):Sg Try.prog (owS m i) (mkSt 49 [0,14,15] [(.ci (.slc 32 0 m.length 11)),(.ii (m.length:Int)),(.ii (wrap .i64 (i+1)))] [32] [(eQ (.op m))] 800 [[]] [([],7)]) .normal (lpBk owA_k) (lpIn owA_k):=fun hs hK=>
 run_at2 (unroll:=false) (n:=3000) (path:=[true,true,true,false]) (o:=⟨_,_,_,_,_,_,_⟩) rF_ok (by kernel_rfl) (by kernel_rfl) ho hs hK
theorem owF (ho:AllP [((decide (i<(m.length:Int)))=true),(0≤i),(i<(m.length:Int)),(0=0),((i).toNat<m.length),(((OpD.tag (List.getD m (i).toNat op0)) == (10:Int))=true),((i).toNat<m.length),((decide ((OpD.n (List.getD m (i).toNat op0)) > (40:Int)))=false)]):Sg Try.prog (owS m i) (mkSt 49 [0,14,15] [(.ci (.slc 32 0 m.length 11)),(.ii (m.length:Int)),(.ii (wrap .i64 (i+1)))] [32] [(eQ (.op m))] 800 [[]] [([],7)]) .normal (lpBk owA_k) (lpIn owA_k):=fun hs hK=>
 run_at2 (unroll:=false) (n:=3000) (path:=[true,true,false,false]) (o:=⟨_,_,_,_,_,_,_⟩) rF_ok (by kernel_rfl) (by kernel_rfl) ho hs hK
theorem owG (ho:AllP [((decide (i<(m.length:Int)))=true),(0≤i),(i<(m.length:Int)),(0=0),((i).toNat<m.length),(((OpD.tag (List.getD m (i).toNat op0)) == (10:Int))=false)]):Sg Try.prog (owS m i) (mkSt 49 [0,14,15] [(.ci (.slc 32 0 m.length 11)),(.ii (m.length:Int)),(.ii (wrap .i64 (i+1)))] [32] [(eQ (.op m))] 800 [[]] [([],7)]) .normal (lpBk owA_k) (lpIn owA_k):=fun hs hK=>
 run_at2 (unroll:=false) (n:=3000) (path:=[true,false,false,false]) (o:=⟨_,_,_,_,_,_,_⟩) rF_ok (by kernel_rfl) (by kernel_rfl) ho hs hK
end
theorem owX_end (m:List OpD) (i:Int):runEnd rF Try.f8 false 3000 (⟨lpIn owA_k,.normal,owS m i⟩) [false] [] [32]=(some ([((decide (i<(m.length:Int)))=false),(m.length=m.length)],((.ci (.sl (.op m))),[]))):=by kernel_rfl
end
end

set_option linter.unusedSimpArgs false
set_option linter.unusedVariables false
section

def fewO (i:Nat) (o:OpD):OpD:=if o.tag=10∧o.n > 40∧o.n<254∧3<i then ⟨o.tag,o.a,o.b,o.c,40,o.k,o.ks,o.vars⟩ else o
def fewL:Nat→List OpD→List OpD
 | _,[]=>[]
 | i,o::r=>fewO i o::fewL (i+1) r
theorem fewL_len:∀(i:Nat) (l:List OpD),(fewL i l).length=l.length
 | _,[]=>rfl
 | i,_::r=>congrArg (· + 1) (fewL_len (i+1) r)
def ownL (l:List OpD):List OpD:=fewL 0 (if l.length≤1000 then l.take 20 else l)

theorem getD_mid (P:List OpD) (o:OpD) (R:List OpD):(P++o::R).getD P.length op0=o:=by simp [List.getD]
theorem set_mid (P:List OpD) (o u:OpD) (R:List OpD):(P++o::R).set P.length u=P++u::R:=by simp

theorem few_loop {x0:Ctx} (M:List OpD) (hM:M.length*120≤140737488355328) (hk:∀p,x0.k p = .no) (hF:∀b,x0.F b→b<x0.w.heap.size) {Q:Exit→Act→World→Prop} {ac:List Act} {cY:Ctx} {aY:Act}
  (hX:∀(ac:List Act) (cY:Ctx) (aY:Act),Sim x0.w x0.F kAll ac (owS (fewL 0 M) (M.length:Int)) cY aY→Wq Try.prog Q (lpIn owA_k) ac .normal aY cY.w)
  (hs1:Sim x0.w x0.F kAll ac (owS M 0) cY aY):Wq Try.prog Q owA_k ac .normal aY cY.w:=by
 refine loop_rule (ι:={ s:List OpD×List OpD // s.1.length+s.2.length=M.length∧fewL 0 M=s.1++fewL s.1.length s.2 }) (fun s=>owS (s.1.1++s.1.2) (s.1.1.length:Int)) (fun s=>s.1.2.length) (c:=lpC owA_k) (k:=lpR owA_k) (by kernel_rfl) (fun s ih ac cY aY hs=>?_) ⟨([],M),by simp,rfl⟩ hs1
 obtain ⟨⟨P,R⟩,hl,he⟩:=s
 simp only at ih hs hl he
 cases R with
 | nil=>
  have e:P++[]=fewL 0 M:=by rw[he];rfl
  have e2:P.length=M.length:=by simpa using hl
  rw[e,e2] at hs
  exact hX ac cY aY hs
 | cons o R=>
  rw[List.length_cons] at hl
  have wi:wrap IntKind.i64 ((P.length:Int)+1)=((P.length+1:Nat):Int):=by rw[wrap_id (by omega) (by omega)];omega
  have hlen:(P++o::R).length=M.length:=by rw[List.length_append,List.length_cons];omega
  have step:∀(u:OpD),fewO P.length o=u→∀(ac:List Act) (cU:Ctx) (aU:Act),Sim x0.w x0.F kAll ac (owS (P++u::R) ((P.length+1:Nat):Int)) cU aU→Wq Try.prog Q (lpBk owA_k) ac .normal aU cU.w:=by
   intro u hu ac cU aU h
   refine ih ⟨(P++[u],R),by rw[List.length_append];show P.length+1+R.length=_;omega,?_⟩ (by show R.length<R.length+1;omega) ac cU aU ?_
   ·rw[he,List.length_append,List.append_assoc]
    show P++(fewO P.length o::fewL (P.length+1) R)=_
    rw[hu]
    rfl
   ·show Sim x0.w x0.F kAll ac (owS ((P++[u])++R) (((P++[u]).length:Nat):Int)) cU aU
    rw[List.append_assoc,List.length_append]
    exact h
  have g:(P++o::R).getD ((P.length:Int)).toNat op0=o:=by rw[Int.toNat_natCast];exact getD_mid P o R
  have hi:(P.length:Int)<((P++o::R).length:Int):=by omega
  have hi2:((P.length:Int)).toNat<(P++o::R).length:=by omega
  by_cases c1:o.tag=10
  ·by_cases c2:o.n > 40
   ·by_cases c3:o.n<254
    ·by_cases c4:3<P.length
     ·refine owC (P++o::R) P.length (by rw[g];exact ⟨decide_eq_true hi,by omega,hi,rfl,hi2,beq_iff_eq.2 c1,hi2,decide_eq_true c2,hi2,decide_eq_true c3,decide_eq_true (by omega),hi2,trivial⟩) hs fun ac cU aU hs2=>?_
      rw[g,wi,Int.toNat_natCast,set_mid] at hs2
      refine step _ (if_pos ⟨c1,c2,c3,c4⟩) ac cU aU ?_
      have hs3:=hs2.nx 288
      have el:(P++o::R).length=(P++(⟨o.tag,o.a,o.b,o.c,40,o.k,o.ks,o.vars⟩:OpD)::R).length:=by rw[List.length_append,List.length_append];rfl
      rw[el] at hs3
      exact hs3
     ·refine owD (P++o::R) P.length (by rw[g];exact ⟨decide_eq_true hi,by omega,hi,rfl,hi2,beq_iff_eq.2 c1,hi2,decide_eq_true c2,hi2,decide_eq_true c3,decide_eq_false (by omega),trivial⟩) hs fun ac cU aU hs2=>?_
      rw[wi] at hs2
      exact step _ (if_neg fun h=>c4 h.2.2.2) ac cU aU (hs2.nx 288)
    ·refine owE (P++o::R) P.length (by rw[g];exact ⟨decide_eq_true hi,by omega,hi,rfl,hi2,beq_iff_eq.2 c1,hi2,decide_eq_true c2,hi2,decide_eq_false c3,trivial⟩) hs fun ac cU aU hs2=>?_
     rw[wi] at hs2
     exact step _ (if_neg fun h=>c3 h.2.2.1) ac cU aU (hs2.nx 288)
   ·refine owF (P++o::R) P.length (by rw[g];exact ⟨decide_eq_true hi,by omega,hi,rfl,hi2,beq_iff_eq.2 c1,hi2,decide_eq_false c2,trivial⟩) hs fun ac cU aU hs2=>?_
    rw[wi] at hs2
    exact step _ (if_neg fun h=>c2 h.2.1) ac cU aU (hs2.nx 288)
  ·refine owG (P++o::R) P.length (by rw[g];exact ⟨decide_eq_true hi,by omega,hi,rfl,hi2,beq_eq_false_iff_ne.2 c1,trivial⟩) hs fun ac cU aU hs2=>?_
   rw[wi] at hs2
   exact step _ (if_neg fun h=>c1 h.1) ac cU aU (hs2.nx 288)

theorem own_fnd (l:List OpD) (hl:l.length*120≤140737488355328):FnD Try.prog 8 [.v (.c (.sl (.op l)))] (.v (.c (.sl (.op (ownL l))))) []:=by
 refine fn_start (fn:=Try.f8) (c:=bodyOf Try.f8) Try.func8 rfl rfl fun x0 a0 hk hF hs0=>?_
 have fin:∀(M:List OpD),M.length*120≤140737488355328→fewL 0 M=ownL l→∀(ac:List Act) (cY:Ctx) (aY:Act),Sim x0.w x0.F kAll ac (owS M 0) cY aY→Wq Try.prog (Post Try.prog Try.f8 x0 (.v (.c (.sl (.op (ownL l))))) []) owA_k ac .normal aY cY.w:=by
  intro M hM hM2 ac cY aY hs
  refine few_loop M hM hk hF (fun ac cY aY hs=>?_) hs
  rw[hM2] at hs
  exact run_end2 rF_ok hk hF (owX_end (ownL l) M.length) ⟨decide_eq_false (by rw[←hM2,fewL_len];omega),rfl,trivial⟩ (fun y v hd=>hd) hs
 by_cases h:l.length≤1000
 ·refine owA l ⟨by omega,by simp only[maxLen];omega,rfl,decide_eq_true (by omega),rfl,rfl,by split<;>omega,by split<;>omega,trivial⟩ hs0 fun ac cY aY hs1=>?_
  have e:(if (20:Int)<((0+l.length:Nat):Int) then (20:Int) else ((0+l.length:Nat):Int)).toNat=(l.take 20).length:=by rw[List.length_take];split<;>omega
  rw[e] at hs1
  have hs2:=Sim.subRow (ens' := [some (.sq (.op (l.take 20)))]) hs1 (z:=32) (q:=.op l) (q' := .op (l.take 20)) rfl (by show (l.take 20).length≤l.length;rw[List.length_take];omega) rfl (fun i hi=>?_) (fun r=>by simp only[look];split<;>rfl)
  ·exact fin (l.take 20) (by rw[List.length_take];omega) (by unfold ownL;rw[if_pos h]) ac cY aY (hs2.nx 288)
  ·have hi:i<(l.take 20).length:=hi
   rw[List.length_take] at hi
   show ((l.take 20).getD i op0).its=(l.getD i op0).its
   congr 1
   simp [List.getD,List.getElem?_take,show i<20 by omega]
 ·refine owB l ⟨by omega,by simp only[maxLen];omega,rfl,decide_eq_false (by omega),trivial⟩ hs0 fun ac cY aY hs1=>?_
  rw[Nat.zero_add] at hs1
  exact fin l hl (by unfold ownL;rw[if_neg h]) ac cY aY (hs1.nx 288)
end

section

/-- An input. -/
def opI:OpD:=⟨1,0,0,0,0,0,[],[]⟩
--@env hD hD_ok
--@unroll true
theorem ckI (n:Int):fnRes hD Try.f23 3000 [.v (.a opI.its),.v (.c (.int .i64 n))] [true,true,false,false] [] []=(some ([(((1:Int)==1)=true),(((1:Int)==1)=true),((decide (0<(0:Int)))=false),((decide ((-1) ≥ (0:Int)))=false)],((.ii (0:Int)),[]))):=by kernel_rfl
theorem checkI_fnd (n:Int):FnD Try.prog 23 [.v (.a opI.its),.v (.c (.int .i64 n))] (.v (.c (.int .i64 0))) []:=fn_sound hD_ok Try.func23 (ckI n) (by simp [AllP])
def checkISpec:FnSpec
 | [.v (.a [.int .i64 t,.int .i64 a,.int .i64 b,.int .i64 c,.int .i64 m,.ob (.fr k),.sl (.fr []),.sl (.int [])]),.v (.c (.int .i64 n))]=>some ([t=1,a=0,b=0,c=0,m=0,k=0],.v (.c (.int .i64 0)),[])
 | _=>none
def hE:Env:=hD.set (addT hD.fn 23 checkISpec)
theorem hE_ok:EnvOk Try.prog hE:=env_add hD_ok 23 checkISpec (enters_of Try.func23 rfl rfl) fun args o r es h ho=>by
 unfold checkISpec at h
 split at h
 ·cases h;exact (by obtain ⟨rfl,rfl,rfl,rfl,rfl,rfl,_⟩:=ho;exact checkI_fnd _)
 ·cases h
/-- Stepped into besides: what an operation does. -/
def inlC (T:Nat→Option Func) (f:Nat):Option Func:=if f=25 then some Try.f25 else if f=46 then some Try.f46 else T f
def hF:Env:={ hE with inl:=inlC hE.inl }
theorem hF_ok:EnvOk Try.prog hF:=by
 refine ⟨hE_ok.ty,hE_ok.mixed,hE_ok.fn,hE_ok.mu,fun f fn h=>?_,hE_ok.ex,hE_ok.inv⟩
 have h:inlC hE.inl f=some fn:=h
 unfold inlC at h
 split at h
 ·rename_i hf;cases h;subst hf;exact ⟨Try.func25,enters_of Try.func25 rfl rfl⟩
 split at h
 ·rename_i hf;cases h;subst hf;exact ⟨Try.func46,enters_of Try.func46 rfl rfl⟩
 exact hE_ok.inl f fn h
--@env hF hF_ok
theorem cpI  : fnRes hF Try.f9 3000 [.v (.c (.sl (.op [opI])))] [false,true,false,false,true,false,false,false] [1328] []=(some ([((decide ((1:Int) > (1000:Int)))=false),((decide (0<(1:Int)))=true),(0≤(0:Int)),(0<(1:Int)),((1:Int)=(1:Int)),((0:Int)=(0:Int)),((0:Int)=(0:Int)),((0:Int)=(0:Int)),((0:Int)=(0:Int)),((OpD.k opI)=(0:U4)),(((0:Int) != (0:Int))=false),(((1:Int)==2)=false),(((1:Int)==1)=true),((decide ((1:Int)<(1:Int)))=false),((decide ((0:Int) > (4096:Int)))=false),((decide ((0:Int) > (64:Int)))=false),(0≤140737488355328),(0≤maxLen)],((.t [(.a [(.slc 0 0 0 23),(.int .i64 (0:Int)),(.int .i64 (1:Int))]),(.c (.int .i64 (0:Int))),(.c (.int .i64 (0:Int)))]),[(.sq (.gate ([]:List GateD)))]))):=by kernel_rfl
theorem compI_fnd:FnD Try.prog 9 [.v (.c (.sl (.op [opI])))] (.t [.a [.slc 0 0 0 23,.int .i64 0,.int .i64 1],.c (.int .i64 0),.c (.int .i64 0)]) [.sq (.gate [])]:=fn_sound hF_ok Try.func9 cpI (by simp [AllP,opI,maxLen])
def compISpec:FnSpec
 | [.v (.c (.sl (.op [⟨t,a,b,c,m,k,[],[]⟩])))]=>some ([t=1,a=0,b=0,c=0,m=0,k=0],.t [.a [.slc 0 0 0 23,.int .i64 0,.int .i64 1],.c (.int .i64 0),.c (.int .i64 0)],[.sq (.gate [])])
 | _=>none
def hG:Env:=hD.set (addT hD.fn 9 compISpec)
theorem hG_ok:EnvOk Try.prog hG:=env_add hD_ok 9 compISpec (enters_of Try.func9 rfl rfl) fun args o r es h ho=>by
 unfold compISpec at h
 split at h
 ·cases h;exact (by obtain ⟨rfl,rfl,rfl,rfl,rfl,rfl,_⟩:=ho;exact compI_fnd)
 ·cases h
--@env hG hG_ok
--@unroll false
theorem alI  : fnRes hG Try.f11 3000 [] [true,true] [] []=(some ([(0=0),(1=1),(11=11),((1:Int)=(1:Int)),((0:Int)=(0:Int)),((0:Int)=(0:Int)),((0:Int)=(0:Int)),((0:Int)=(0:Int)),((0:U4)=(0:U4)),(((0:Int)==0)=true)],((.ci (.bool ((1:Int)==1))),[]))):=by kernel_rfl
end

section
section
variable {w0:World} {F0:Nat→Prop} {K:Kp} {ac:List Act} {Q:Exit→Act→World→Prop} {cX:Ctx} {aX:Act}

def ownSpec:FnSpec
 | [.v (.c (.sl (.op l)))]=>some ([l.length*120≤140737488355328],.v (.c (.sl (.op (ownL l)))),[])
 | _=>none
def rG1:Env:=rF.set (addT rF.fn 8 ownSpec)
theorem rG1_ok:EnvOk Try.prog rG1:=env_add rF_ok 8 ownSpec (enters_of Try.func8 rfl rfl) fun args o r es h ho=>by
 unfold ownSpec at h
 split at h
 ·cases h;exact own_fnd _ ho.1
 ·cases h
def compSpec:FnSpec
 | [.v (.c (.sl (.op l)))]=>some ([],compSV (compR l),[])
 | _=>none
def rG2:Env:=rG1.set (addT rG1.fn 9 compSpec)
theorem rG2_ok:EnvOk Try.prog rG2:=env_add rG1_ok 9 compSpec (enters_of Try.func9 rfl rfl) fun args o r es h _=>by
 unfold compSpec at h
 split at h
 ·cases h;exact comp_fnd _
 ·cases h
def refCompSpec:FnSpec
 | [.v (.c (.sl (.op l)))]=>some ([],compSV (compR l),[])
 | _=>none
def rG:Env:=rG2.set (addT rG2.fn 10 refCompSpec)
theorem rG_ok:EnvOk Try.prog rG:=env_add rG2_ok 10 refCompSpec (enters_of Try.func10 rfl rfl) fun args o r es h _=>by
 unfold refCompSpec at h
 split at h
 ·cases h;exact refCompile_fnd _
 ·cases h
--@env rG rG_ok
theorem aliveC_fnd:FnD Try.prog 11 [] (.v (.c (.bool true))) []:=(fn_sound hG_ok Try.func11 alI (by simp [AllP])).conv (fun _ _ h=>h) fun _ _ hd=>hd
end
end

section
section
variable {w0:World} {F0:Nat→Prop} {K:Kp} {ac:List Act} {Q:Exit→Act→World→Prop} {cX:Ctx} {aX:Act}

theorem wire_fnd (l:List U4) (i:Int) (h:i<l.length):FnD Try.prog 71 [.v (.c (.sl (.fr l))),.v (.c (.int .i64 i))] (.v (.a [.ob (.fr (outF (wireF l i)))])) []:=by
 by_cases h0:i<0
 ·have e:wireF l i=0:=if_pos h0
  have r:=wrA l i
  rw[e,(outF_zero 0).2 rfl]
  exact fn_sound hD_ok Try.func71 r ⟨decide_eq_true h0,trivial⟩
 ·have e:wireF l i=inF (l.getD i.toNat 0):=if_neg h0
  have r:=wrB l i
  rw[clean_out] at r
  rw[e]
  exact fn_sound hD_ok Try.func71 r ⟨decide_eq_false h0,by omega,h,trivial⟩
theorem wire2_fnd (l:List U4) (i:Int) (h:i<l.length):FnD Try.prog 28 [.v (.c (.int .i64 i)),.v (.c (.rp (.frs [l]) 0 0))] (.v (.a [.ob (.s (wireF l i))])) []:=by
 by_cases h0:i<0
 ·have e:wireF l i=0:=if_pos h0
  rw[e]
  exact fn_sound hD_ok Try.func28 (wiA l i) ⟨decide_eq_true h0,trivial⟩
 ·have e:wireF l i=inF (l.getD i.toNat 0):=if_neg h0
  rw[e]
  exact fn_sound hD_ok Try.func28 (wiB l i) ⟨decide_eq_false h0,by omega,h,trivial⟩
def wireSpec:FnSpec
 | [.v (.c (.sl (.fr l))),.v (.c (.int .i64 i))]=>some ([i<l.length],.v (.a [.ob (.fr (outF (wireF l i)))]),[])
 | _=>none
def hwA:Env:=hD.set (addT hD.fn 71 wireSpec)
theorem hwA_ok:EnvOk Try.prog hwA:=env_add hD_ok 71 wireSpec (enters_of Try.func71 rfl rfl) fun args o r es h ho=>by
 unfold wireSpec at h
 split at h
 ·cases h;exact wire_fnd _ _ ho.1
 ·cases h
def wireSpec2:FnSpec
 | [.v (.c (.int .i64 i)),.v (.c (.rp (.frs [l]) 0 0))]=>some ([i<l.length],.v (.a [.ob (.s (wireF l i))]),[])
 | _=>none
def hwB:Env:=hwA.set (addT hwA.fn 28 wireSpec2)
theorem hwB_ok:EnvOk Try.prog hwB:=env_add hwA_ok 28 wireSpec2 (enters_of Try.func28 rfl rfl) fun args o r es h ho=>by
 unfold wireSpec2 at h
 split at h
 ·cases h;exact wire2_fnd _ _ ho.1
 ·cases h
--@env hwB hwB_ok
theorem meR (g:GateD) (l:List U4) (p:U4):fnRes hwB Try.f35 3000 [.v (.a g.its),.v (.c (.sl (.fr l))),.v (.a [.ob (.fr p)])] [] [] []=(some ([(0≤(0:Int)),(0<(3:Int)),((GateD.a g)<(l.length:Int)),(0≤(1:Int)),((1:Int)<(3:Int)),((GateD.b g)<(l.length:Int)),(0≤(2:Int)),((2:Int)<(3:Int)),((GateD.c g)<(l.length:Int)),((Fin.val (outF (wireF l (GateD.b g))))<rN),((Fin.val (mulU (outF (wireF l (GateD.a g))) (outF (wireF l (GateD.b g)))))<rN),((Fin.val (outF (wireF l (GateD.a g))))<rN),((Fin.val (outF (wireF l (GateD.b g))))<rN),((Fin.val (outF (wireF l (GateD.c g))))<rN)],((.ci (.bool (ite (true=true) (decide ((cleanU ((cleanU ((cleanU ((cleanU ((cleanU (p+(cleanU (GateD.qc g))))+(mulU (cleanU (GateD.qm g)) (mulU (outF (wireF l (GateD.a g))) (outF (wireF l (GateD.b g)))))))+(mulU (cleanU (GateD.ql g)) (outF (wireF l (GateD.a g))))))+(mulU (cleanU (GateD.qr g)) (outF (wireF l (GateD.b g))))))+(mulU (cleanU (GateD.qo g)) (outF (wireF l (GateD.c g))))))=(0:U4))) (Bool.not (decide ((cleanU ((cleanU ((cleanU ((cleanU ((cleanU (p+(cleanU (GateD.qc g))))+(mulU (cleanU (GateD.qm g)) (mulU (outF (wireF l (GateD.a g))) (outF (wireF l (GateD.b g)))))))+(mulU (cleanU (GateD.ql g)) (outF (wireF l (GateD.a g))))))+(mulU (cleanU (GateD.qr g)) (outF (wireF l (GateD.b g))))))+(mulU (cleanU (GateD.qo g)) (outF (wireF l (GateD.c g))))))=(0:U4))))))),[]))):=by kernel_rfl
def hs_k:List KI:=(run hwB false 3000 ((fun (l:List GateD) (p v:Int) (V P:List U4)=>(⟨[.code (bodyOf Try.f15)],.normal,initSt Try.f15.ntmps [circV l p v,.v (.c (.sl (.fr V))),.v (.c (.sl (.fr P)))]⟩:Cfg)) default default default default default) [false,false,false]).cfg.k
theorem hs (l:List GateD) (p v:Int) (V P:List U4) (ho:AllP [((Bool.not (rightB l p v))=false),(((V.length:Int) != v)=false),(((P.length:Int) != p)=false)]):Sg Try.prog (initSt Try.f15.ntmps [circV l p v,.v (.c (.sl (.fr V))),.v (.c (.sl (.fr P)))]) (mkSt 101 [2,3,8,34,35,36] [(.ci (.sl (.fr P))),.pt 16 0,(.ci (.clo 28 [(32,0)])),(.ci (.sl (.gate l))),(.ii (l.length:Int)),.ii (0:Int)] [16,32] [(eF [(.sl (.gate l)),(.int .i64 p),(.int .i64 v)]),(eF [.sl (.fr V)])] 448 [] []) .normal (hs_k) ([.code (bodyOf Try.f15)]):=fun hs hK=>
 run_at2 (unroll:=false) (n:=3000) (path:=[false,false,false]) (o:=⟨_,_,_,_,_,_,_⟩) hwB_ok (by kernel_rfl) (by kernel_rfl) ho hs hK
section
variable (l:List GateD) (p v:Int) (V P:List U4) (i:Int)
end
end
end

section

/-- The same, as the document adds it up. -/
def metS (g:GateD) (V:List U4) (x:Fr):Fr:=x+inF g.qc+inF g.qm*(wireF V g.a*wireF V g.b)+inF g.ql*wireF V g.a+inF g.qr*wireF V g.b+inF g.qo*wireF V g.c
theorem met_fnd (g:GateD) (V:List U4) (x:Fr) (h1:g.a<V.length) (h2:g.b<V.length) (h3:g.c<V.length):FnD Try.prog 35 [.v (.a g.its),.v (.c (.sl (.fr V))),.v (.a [.ob (.fr (outF x))])] (.v (.c (.bool (decide (metS g V x=0))))) []:=by
 have r:=meR g V (outF x)
 have e:cleanU (cleanU (cleanU (cleanU (cleanU (outF x+cleanU g.qc)+mulU (cleanU g.qm) (mulU (outF (wireF V g.a)) (outF (wireF V g.b))))+mulU (cleanU g.ql) (outF (wireF V g.a)))+mulU (cleanU g.qr) (outF (wireF V g.b)))+mulU (cleanU g.qo) (outF (wireF V g.c)))=outF (metS g V x):=by
  rw[clean_out g.qc,clean_out g.qm,clean_out g.ql,clean_out g.qr,clean_out g.qo,mulU_out,mulU_out,mulU_out,mulU_out,mulU_out,addU_out,addU_out,addU_out,addU_out,addU_out]
  rfl
 have e2:decide (outF (metS g V x)=0)=decide (metS g V x=0):=decide_eq_decide.2 (outF_zero _)
 rw[if_pos rfl,e,e2] at r
 exact fn_sound hwB_ok Try.func35 r ⟨by decide,by decide,h1,by decide,by decide,h2,by decide,by decide,h3,outF_lt _,by rw[mulU_out];exact outF_lt _,outF_lt _,outF_lt _,outF_lt _,trivial⟩
end

section
section
variable {w0:World} {F0:Nat→Prop} {K:Kp} {ac:List Act} {Q:Exit→Act→World→Prop} {cX:Ctx} {aX:Act}

theorem met_fnd2 (g:GateD) (V:List U4) (p:U4) (h0:p.val<rN) (h1:g.a<V.length) (h2:g.b<V.length) (h3:g.c<V.length):FnD Try.prog 35 [.v (.a g.its),.v (.c (.sl (.fr V))),.v (.a [.ob (.fr p)])] (.v (.c (.bool (decide (metS g V (inF p)=0))))) []:=by
 have:=met_fnd g V (inF p) h1 h2 h3
 rw[out_in h0] at this
 exact this
def metSpec:FnSpec
 | [.v (.a [.ob (.fr m),.ob (.fr l),.ob (.fr s),.ob (.fr o1),.ob (.fr c),.int .i64 x,.int .i64 y,.int .i64 z]),.v (.c (.sl (.fr V))),.v (.a [.ob (.fr p)])]=>some ([p.val<rN,x<V.length,y<V.length,z<V.length],.v (.c (.bool (decide (metS ⟨m,l,s,o1,c,x,y,z⟩ V (inF p)=0)))),[])
 | _=>none
def hwC:Env:=hwB.set (addT hwB.fn 35 metSpec)
theorem hwC_ok:EnvOk Try.prog hwC:=env_add hwB_ok 35 metSpec (enters_of Try.func35 rfl rfl) fun args o r es h ho=>by
 unfold metSpec at h
 split at h
 ·cases h;exact met_fnd2 ⟨_,_,_,_,_,_,_,_⟩ _ _ ho.1 ho.2.1 ho.2.2.1 ho.2.2.2.1
 ·cases h
--@env hwC hwC_ok
def ro_k:List KI:=(run hwC false 3000 ((fun (l:List GateD) (p v:Int) (V P:List U4)=>(⟨[.code (bodyOf Try.f16)],.normal,initSt Try.f16.ntmps [circV l p v,.v (.c (.sl (.fr V))),.v (.c (.sl (.fr P)))]⟩:Cfg)) default default default default default) [false,false,false]).cfg.k
theorem ro (l:List GateD) (p v:Int) (V P:List U4) (ho:AllP [((Bool.not (rightB l p v))=false),(((V.length:Int) != v)=false),(((P.length:Int) != p)=false)]):Sg Try.prog (initSt Try.f16.ntmps [circV l p v,.v (.c (.sl (.fr V))),.v (.c (.sl (.fr P)))]) (mkSt 52 [1,2,3,27,28,29] [(.ci (.sl (.fr V))),(.ci (.sl (.fr P))),.pt 16 0,(.ci (.sl (.gate l))),(.ii (l.length:Int)),.ii (0:Int)] [16] [(eF [(.sl (.gate l)),(.int .i64 p),(.int .i64 v)])] 368 [] []) .normal (ro_k) ([.code (bodyOf Try.f16)]):=fun hs hK=>
 run_at2 (unroll:=false) (n:=3000) (path:=[false,false,false]) (o:=⟨_,_,_,_,_,_,_⟩) hwC_ok (by kernel_rfl) (by kernel_rfl) ho hs hK
section
variable (l:List GateD) (p v:Int) (V P:List U4) (i:Int)
end
end
end

end
end Go.Proofs.Ytobdghmmbddfnaa
