/- Parts of a proof, one behind the other: WQg, PQg, WQh, PQh, PQi, PQj, PQk, PQl, PRf, WRg, PRg, WRh, PRh, WHb, WRi. No conditions. -/
import Derived.Test.YtobdghmmbddfnaaCcM
/- circuit.Compile: an operation that selects, behind its first sum, walked. No conditions. -/
namespace Go.Proofs.Ytobdghmmbddfnaa
section
variable {w0:World} {F0:Nat→Prop} {K:Kp} {ac:List Act} {Q:Exit→Act→World→Prop} {cX:Ctx} {aX:Act}

--@env iD iD_ok
noncomputable def c8C (l:List OpD) (T G:List GateD) (n i:Int) (a b c m:Int) (k:U4) (ks:List U4) (vs:List Int) (v:Int) (D R:List Nat):Cfg:=⟨.ops ((anyOps cp8a_k).extract 0 7) 6 [] :: .any (anyOps cp8a_k) 6 (pickI (anyOps cp8a_k) R)::anyRest cp8a_k,.normal,drawSt iD (anyOps cp8a_k) D (c8S l T G n i a b c m k ks vs v)⟩
theorem cp8b_at (l:List OpD) (T G:List GateD) (n i:Int) (a b c m:Int) (k:U4) (ks:List U4) (vs:List Int) (v:Int):runAt iD false 3000 ((⟨.ops ((anyOps cp8a_k).extract 0 7) 6 [] :: .any (anyOps cp8a_k) 6 (pickI (anyOps cp8a_k) [7,10])::anyRest cp8a_k,.normal,drawSt iD (anyOps cp8a_k) [0,1,2,3,4,5,8,9] (c8S l T G n i a b c m k ks vs v)⟩:Cfg)) [true,true] [2,5,6,16,17,18] [16,32,64,128] []=some ⟨[((decide ((((List.length G):Nat):Int)≤(4096:Int)))=true),((((List.length G)+1)*184)≤140737488355328),(((List.length G)+1)≤maxLen),((List.length G)=(List.length G)),(1=1),((decide (((((List.length G)+1):Nat):Int)≤(4096:Int)))=true),((((List.length (G++[(GateD.mk oneU (0:U4) (0:U4) mO (0:U4) a v (IntKind.wrap IntKind.i64 ((IntKind.wrap IntKind.i64 (n+(1:Int)))-(1:Int))))]))+1)*184)≤140737488355328),(((List.length (G++[(GateD.mk oneU (0:U4) (0:U4) mO (0:U4) a v (IntKind.wrap IntKind.i64 ((IntKind.wrap IntKind.i64 (n+(1:Int)))-(1:Int))))]))+1)≤maxLen),(((List.length G)+1)=(List.length (G++[(GateD.mk oneU (0:U4) (0:U4) mO (0:U4) a v (IntKind.wrap IntKind.i64 ((IntKind.wrap IntKind.i64 (n+(1:Int)))-(1:Int))))]))),(1=1)],Exit.normal,[(SV.v (V1.c (It.ptr 16 0))),(SV.v (V1.c (It.ptr 128 0))),(SV.v (V1.c (It.slc 32 0 (List.length T) 23))),(SV.v (V1.c (It.sl (Sq.op l)))),(SV.v (V1.c (It.int IntKind.i64 (((List.length l):Nat):Int)))),(SV.v (V1.c (It.int IntKind.i64 (IntKind.wrap IntKind.i64 (i+(1:Int))))))],[(Option.some (En.fl [(It.sl (Sq.gate ([]:List GateD))),(It.int IntKind.i64 (0:Int)),(It.int IntKind.i64 (0:Int))])),(Option.some (En.sq (Sq.gate T))),(Option.some (En.sq (Sq.gate ((G++[(GateD.mk oneU (0:U4) (0:U4) mO (0:U4) a v (IntKind.wrap IntKind.i64 ((IntKind.wrap IntKind.i64 (n+(1:Int)))-(1:Int))))])++[(GateD.mk (0:U4) (outF (inF oneU)) (outF (inF oneU)) mO (0:U4) (IntKind.wrap IntKind.i64 ((IntKind.wrap IntKind.i64 (n+(1:Int)))-(1:Int))) c (IntKind.wrap IntKind.i64 ((IntKind.wrap IntKind.i64 ((IntKind.wrap IntKind.i64 (n+(1:Int)))+(1:Int)))-(1:Int))))])))),(Option.some (En.fl [(It.slc 64 0 ((List.length (G++[(GateD.mk oneU (0:U4) (0:U4) mO (0:U4) a v (IntKind.wrap IntKind.i64 ((IntKind.wrap IntKind.i64 (n+(1:Int)))-(1:Int))))]))+1) 23),(It.int IntKind.i64 (IntKind.wrap IntKind.i64 ((IntKind.wrap IntKind.i64 (n+(1:Int)))+(1:Int)))),(It.val (Value.pointer Option.none))]))],77,4736,[]⟩:=by kernel_rfl
theorem cp8by_at (l:List OpD) (T G:List GateD) (n i:Int) (a b c m:Int) (k:U4) (ks:List U4) (vs:List Int) (v:Int):runAt iD false 3000 ((⟨.ops ((anyOps cp8a_k).extract 0 7) 6 [] :: .any (anyOps cp8a_k) 6 (pickI (anyOps cp8a_k) [7,10])::anyRest cp8a_k,.normal,drawSt iD (anyOps cp8a_k) [0,1,2,3,4,5,8,9] (c8S l T G n i a b c m k ks vs v)⟩:Cfg)) [true,false] [2,5,6,16,17,18] [16,32,64,128] []=some ⟨[((decide ((((List.length G):Nat):Int)≤(4096:Int)))=true),((((List.length G)+1)*184)≤140737488355328),(((List.length G)+1)≤maxLen),((List.length G)=(List.length G)),(1=1),((decide (((((List.length G)+1):Nat):Int)≤(4096:Int)))=false)],Exit.normal,[(SV.v (V1.c (It.ptr 16 0))),(SV.v (V1.c (It.ptr 128 0))),(SV.v (V1.c (It.slc 32 0 (List.length T) 23))),(SV.v (V1.c (It.sl (Sq.op l)))),(SV.v (V1.c (It.int IntKind.i64 (((List.length l):Nat):Int)))),(SV.v (V1.c (It.int IntKind.i64 (IntKind.wrap IntKind.i64 (i+(1:Int))))))],[(Option.some (En.fl [(It.sl (Sq.gate ([]:List GateD))),(It.int IntKind.i64 (0:Int)),(It.int IntKind.i64 (0:Int))])),(Option.some (En.sq (Sq.gate T))),(Option.some (En.sq (Sq.gate (G++[(GateD.mk oneU (0:U4) (0:U4) mO (0:U4) a v (IntKind.wrap IntKind.i64 ((IntKind.wrap IntKind.i64 (n+(1:Int)))-(1:Int))))])))),(Option.some (En.fl [(It.slc 64 0 ((List.length G)+1) 23),(It.int IntKind.i64 (IntKind.wrap IntKind.i64 ((IntKind.wrap IntKind.i64 (n+(1:Int)))+(1:Int)))),(It.val (Value.pointer Option.none))]))],77,4560,[]⟩:=by kernel_rfl
theorem cp8bz_at (l:List OpD) (T G:List GateD) (n i:Int) (a b c m:Int) (k:U4) (ks:List U4) (vs:List Int) (v:Int):runAt iD false 3000 ((⟨.ops ((anyOps cp8a_k).extract 0 7) 6 [] :: .any (anyOps cp8a_k) 6 (pickI (anyOps cp8a_k) [7,10])::anyRest cp8a_k,.normal,drawSt iD (anyOps cp8a_k) [0,1,2,3,4,5,8,9] (c8S l T G n i a b c m k ks vs v)⟩:Cfg)) [false,false] [2,5,6,16,17,18] [16,32,64,128] []=some ⟨[((decide ((((List.length G):Nat):Int)≤(4096:Int)))=false),((decide ((((List.length G):Nat):Int)≤(4096:Int)))=false)],Exit.normal,[(SV.v (V1.c (It.ptr 16 0))),(SV.v (V1.c (It.ptr 128 0))),(SV.v (V1.c (It.slc 32 0 (List.length T) 23))),(SV.v (V1.c (It.sl (Sq.op l)))),(SV.v (V1.c (It.int IntKind.i64 (((List.length l):Nat):Int)))),(SV.v (V1.c (It.int IntKind.i64 (IntKind.wrap IntKind.i64 (i+(1:Int))))))],[(Option.some (En.fl [(It.sl (Sq.gate ([]:List GateD))),(It.int IntKind.i64 (0:Int)),(It.int IntKind.i64 (0:Int))])),(Option.some (En.sq (Sq.gate T))),(Option.some (En.sq (Sq.gate G))),(Option.some (En.fl [(It.slc 64 0 (List.length G) 23),(It.int IntKind.i64 (IntKind.wrap IntKind.i64 ((IntKind.wrap IntKind.i64 (n+(1:Int)))+(1:Int)))),(It.val (Value.pointer Option.none))]))],77,4384,[]⟩:=by kernel_rfl
end
end Go.Proofs.Ytobdghmmbddfnaa

/- circuit.Compile: an operation that selects, whatever the order. No conditions. -/
namespace Go.Proofs.Ytobdghmmbddfnaa

def runs8:List (List Nat×List Nat):=[([1,2,3,4,5],[0,7,8,9,10]),([0,1,2,3,4,5],[7,8,9,10]),([1,2,3,4,5,8],[0,7,9,10]),([0,1,2,3,4,5,8],[7,9,10]),([1,2,3,4,5,8,9],[0,7,10]),([0,1,2,3,4,5,8,9],[7,10])]
/-- What binds the operations of such a region. -/
def anc8:List Nat:=[0,0,0,0,8,0,62,126,0,256,1023]
/-- A region of that form splits so. -/
theorem split8 {P:Program} {w0:World} {F0:Nat→Prop} {K:Kp} {aq:List Act} {env:Env} {ops:Array Oper} {Q:Exit→Act→World→Prop} {x:Ctx} {a:Act} (hE:EnvOk P env) {id:Nat} {oc:Oper} {σ:St} {k:List KI} (hs:Sim w0 F0 K aq σ x a)
    (hn:ops.size=11) (hA:ancs ops.toList []=anc8) (hok:drawOkX env ops (ancs ops.toList []) 6 ops.toList 0=true) (hcc:ops[6]? = some oc) (hg:oc.guard=none)
    (hrun:(runs8.map fun r=>(drawRun env [] ops.toList (ancs ops.toList []) [] [] σ.nx (pickI ops r.1) σ).map (·.1))=List.replicate 6 (some []))
    (h:∀r∈runs8,∀y a',Sim w0 F0 K aq (drawSt env ops r.1 σ) y a' → Wq P Q (.ops (ops.extract 0 7) 6 [] :: .any ops 6 (pickI ops r.2)::k) aq .normal a' y.w) :
    Wq P Q (.code (.region id ops true)::k) aq .normal a x.w:=by
  refine Wq.split (runs:=runs8.map fun r=>(pickI ops r.1,pickI ops r.2,drawSt env ops r.1 σ)) hE hs hok hcc hg ?_ ?_ ?_ ?_ ?_
  · intro r hr
    obtain ⟨q,hq,rfl⟩:=List.mem_map.1 hr
    refine splitOk_of ?_ ?_ ?_ ?_
    · exact (by decide:∀q∈runs8,q.1.Pairwise fun a b=>a<b) q hq
    · exact (by decide:∀q∈runs8,q.2.Pairwise fun a b=>a<b) q hq
    · exact (by decide:∀q∈runs8,6 ∉ q.1∧6 ∉ q.2) q hq
    · rw[hn]
      exact (by decide:∀q∈runs8,∀i,i<11→i≠6→(i∈q.2↔i ∉ q.1)) q hq
  · intro b h1 h2 h3
    rw[hA,hn] at h1
    rw[hA] at h3
    rw[hn]
    have t (j:Nat) (hj:(anc8.getD 6 0).testBit j=true):=h3 j hj
    have b1:=t 1 (by decide);have b2:=t 2 (by decide);have b3:=t 3 (by decide);have b4:=t 4 (by decide);have b5:=t 5 (by decide)
    have nb (i:Nat) (hi:i<11) (hj:(anc8.getD i 0).testBit 6=true):b i=false:=by
      cases hh:b i with
      | false=>rfl
      | true=>have:=h1 i hi hh 6 hj;rw[h2] at this;cases this
    have b7:=nb 7 (by decide) (by decide);have b10:=nb 10 (by decide) (by decide)
    have fin (q:List Nat×List Nat) (hq:q∈runs8) (hb:∀i,i<11→(b i=true↔i∈q.1)):∃r∈runs8.map (fun r=>(pickI ops r.1,pickI ops r.2,drawSt env ops r.1 σ)),∀i,i<11→(b i=true↔∃o,(i,o)∈r.1):=
      ⟨_,List.mem_map.2 ⟨q,hq,rfl⟩,fun i hi=>by rw[hb i hi];exact (pick_ex (by omega)).symm⟩
    have all (q:List Nat×List Nat) (e0:b 0=decide (0∈q.1)) (e1:decide (1∈q.1)=true) (e2:decide (2∈q.1)=true) (e3:decide (3∈q.1)=true) (e4:decide (4∈q.1)=true) (e5:decide (5∈q.1)=true) (e6:decide (6∈q.1)=false) (e7:decide (7∈q.1)=false)
        (e8:b 8=decide (8∈q.1)) (e9:b 9=decide (9∈q.1)) (e10:decide (10∈q.1)=false):∀i,i<11→(b i=true↔i∈q.1):=by
      intro i hi
      match i,hi with
      | 0,_=>rw[e0];exact decide_eq_true_iff
      | 1,_=>rw[b1];exact ⟨fun _=>of_decide_eq_true e1,fun _=>rfl⟩
      | 2,_=>rw[b2];exact ⟨fun _=>of_decide_eq_true e2,fun _=>rfl⟩
      | 3,_=>rw[b3];exact ⟨fun _=>of_decide_eq_true e3,fun _=>rfl⟩
      | 4,_=>rw[b4];exact ⟨fun _=>of_decide_eq_true e4,fun _=>rfl⟩
      | 5,_=>rw[b5];exact ⟨fun _=>of_decide_eq_true e5,fun _=>rfl⟩
      | 6,_=>rw[h2];exact ⟨fun h=>(by cases h),fun h=>absurd h (of_decide_eq_false e6)⟩
      | 7,_=>rw[b7];exact ⟨fun h=>(by cases h),fun h=>absurd h (of_decide_eq_false e7)⟩
      | 8,_=>rw[e8];exact decide_eq_true_iff
      | 9,_=>rw[e9];exact decide_eq_true_iff
      | 10,_=>rw[b10];exact ⟨fun h=>(by cases h),fun h=>absurd h (of_decide_eq_false e10)⟩
    cases h0:b 0<;>cases h8:b 8<;>cases h9:b 9
    · exact fin _ (by decide) (all ([1,2,3,4,5],[0,7,8,9,10]) h0 rfl rfl rfl rfl rfl rfl rfl h8 h9 rfl)
    · have:=h1 9 (by decide) h9 8 (by decide);rw[h8] at this;cases this
    · exact fin _ (by decide) (all ([1,2,3,4,5,8],[0,7,9,10]) h0 rfl rfl rfl rfl rfl rfl rfl h8 h9 rfl)
    · exact fin _ (by decide) (all ([1,2,3,4,5,8,9],[0,7,10]) h0 rfl rfl rfl rfl rfl rfl rfl h8 h9 rfl)
    · exact fin _ (by decide) (all ([0,1,2,3,4,5],[7,8,9,10]) h0 rfl rfl rfl rfl rfl rfl rfl h8 h9 rfl)
    · have:=h1 9 (by decide) h9 8 (by decide);rw[h8] at this;cases this
    · exact fin _ (by decide) (all ([0,1,2,3,4,5,8],[7,9,10]) h0 rfl rfl rfl rfl rfl rfl rfl h8 h9 rfl)
    · exact fin _ (by decide) (all ([0,1,2,3,4,5,8,9],[7,10]) h0 rfl rfl rfl rfl rfl rfl rfl h8 h9 rfl)
  · rw[hA]
    refine ⟨_,List.mem_map.2 ⟨([0,1,2,3,4,5,8,9],[7,10]),by decide,rfl⟩,fun i o hi hne hb=>pick_mem.2 ⟨?_,hi⟩⟩
    have hlt:i<11:=by have:=(Array.getElem?_eq_some_iff.1 hi).1;omega
    exact (by decide:∀i,i<11→i≠6→(anc8.getD i 0).testBit 6=false→i∈[0,1,2,3,4,5,8,9]) i hlt hne hb
  · intro r hr
    obtain ⟨q,hq,rfl⟩:=List.mem_map.1 hr
    have h1:(drawRun env [] ops.toList (ancs ops.toList []) [] [] σ.nx (pickI ops q.1) σ).map (·.1)∈List.replicate 6 (some []):=by
      rw[←hrun]
      exact List.mem_map.2 ⟨q,hq,rfl⟩
    exact ⟨[],drawSt_is (List.eq_of_mem_replicate h1),trivial⟩
  · intro r hr y a' hs'
    obtain ⟨q,hq,rfl⟩:=List.mem_map.1 hr
    exact h q hq y a' hs'

theorem c8k:cp8a_k = .code (.region 18 (anyOps cp8a_k) true)::anyRest cp8a_k:=by kernel_rfl
theorem c8size:(anyOps cp8a_k).size=11:=by kernel_rfl
theorem c8anc:ancs (anyOps cp8a_k).toList []=anc8:=by kernel_rfl
theorem c8ok:drawOkX iD (anyOps cp8a_k) (ancs (anyOps cp8a_k).toList []) 6 (anyOps cp8a_k).toList 0=true:=by kernel_rfl
theorem c8g:((anyOps cp8a_k)[6]?.bind (·.guard)).isNone=true:=by kernel_rfl
theorem c8run (l:List OpD) (T G:List GateD) (n i:Int) (a b c m:Int) (k:U4) (ks:List U4) (vs:List Int) (v:Int):(runs8.map fun r=>(drawRun iD [] (anyOps cp8a_k).toList (ancs (anyOps cp8a_k).toList []) [] [] (c8S l T G n i a b c m k ks vs v).nx (pickI (anyOps cp8a_k) r.1) (c8S l T G n i a b c m k ks vs v)).map (·.1))=List.replicate 6 (some []):=by kernel_rfl
theorem c8all (l:List OpD) (T G:List GateD) (n i:Int) (a b c m:Int) (k:U4) (ks:List U4) (vs:List Int) (v:Int):(runs8.map fun r=>(runAt iD false 3000 (c8C l T G n i a b c m k ks vs v r.1 r.2) [true,true] [2,5,6,16,17,18] [16,32,64,128] [],(run iD false 3000 (c8C l T G n i a b c m k ks vs v r.1 r.2) [true,true]).cfg.k)) =
    List.replicate 6 (runAt iD false 3000 (c8C l T G n i a b c m k ks vs v [0,1,2,3,4,5,8,9] [7,10]) [true,true] [2,5,6,16,17,18] [16,32,64,128] [],lpBk cpA_k):=by kernel_rfl
end Go.Proofs.Ytobdghmmbddfnaa

/- circuit.Compile: its end, walked. No conditions. -/
namespace Go.Proofs.Ytobdghmmbddfnaa

--@env iD iD_ok
theorem cpX1_end (l:List OpD) (T G:List GateD) (n i:Int):runEnd iD Try.f9 false 3000 (⟨lpIn cpA_k,.normal,cS l T G n i⟩) [false,true] [] []=(some ([((decide (i<(((List.length l):Nat):Int)))=false),((decide ((IntKind.wrap .i64 ((((List.length T):Nat):Int)+(((List.length G):Nat):Int))) > (4096:Int)))=true)],((.t [(.a [(.sl (Sq.gate ([]:List GateD))),(.int .i64 (0:Int)),(.int .i64 (0:Int))]),(.c (.int .i64 (2:Int))),(.c (.int .i64 (0:Int)))]),[]))):=by kernel_rfl
theorem cpX2_end (l:List OpD) (T G:List GateD) (n i:Int):runEnd iD Try.f9 false 3000 (⟨lpIn cpA_k,.normal,cS l T G n i⟩) [false,false,true] [] []=(some ([((decide (i<(((List.length l):Nat):Int)))=false),((decide ((IntKind.wrap .i64 ((((List.length T):Nat):Int)+(((List.length G):Nat):Int))) > (4096:Int)))=false),((decide ((((List.length T):Nat):Int) > (64:Int)))=true)],((.t [(.a [(.sl (Sq.gate ([]:List GateD))),(.int .i64 (0:Int)),(.int .i64 (0:Int))]),(.c (.int .i64 (2:Int))),(.c (.int .i64 (0:Int)))]),[]))):=by kernel_rfl
theorem cpX3_end (l:List OpD) (T G:List GateD) (n i:Int):runEnd iD Try.f9 false 3000 (⟨lpIn cpA_k,.normal,cS l T G n i⟩) [false,false,false] [] [32]=(some ([((decide (i<(((List.length l):Nat):Int)))=false),((decide ((IntKind.wrap .i64 ((((List.length T):Nat):Int)+(((List.length G):Nat):Int))) > (4096:Int)))=false),((decide ((((List.length T):Nat):Int) > (64:Int)))=false),((((List.length T)+(List.length G))*184)≤140737488355328),(((List.length T)+(List.length G))≤maxLen),((List.length T)=(List.length T)),((List.length G)=(List.length G)),(((List.length T)+(List.length G))=(List.length (T++G)))],((.t [(.a [(.sl (Sq.gate (T++G))),(.int .i64 (((List.length T):Nat):Int)),(.int .i64 n)]),(.c (.int .i64 (0:Int))),(.c (.int .i64 (0:Int)))]),[]))):=by kernel_rfl
end Go.Proofs.Ytobdghmmbddfnaa

/- circuit.Compile's loop, one operation each. No conditions. -/
set_option linter.unusedSimpArgs false
set_option linter.unusedVariables false
namespace Go.Proofs.Ytobdghmmbddfnaa

section
variable {l:List OpD} {T G:List GateD} {n i a b c m:Int} {k:U4} {ks:List U4} {vs:List Int} {w0:World} {F0:Nat→Prop} {K:Kp} {ac:List Act} {Q:Exit→Act→World→Prop} {cX:Ctx} {aX:Act}

theorem cpT1 (h1:0≤n) (h2:n≤600000) (h3:0≤i) (h4:i≤1000) (h5:G.length≤4097) (h6:T.length≤1000) (hs:Sim w0 F0 K ac (cO l T G n i 1 a b c m k ks vs) cX aX)
    (hK:∀ac cY aY,Sim w0 F0 K ac (cS l T (pushGs G (gatesOf n 1 a b c m k ks vs)) (n+nvOf 1 m vs) (i+1)) cY aY→Wq Try.prog Q (lpBk cpA_k) ac .normal aY cY.w):Wq Try.prog Q cpB_k ac .normal aX cX.w:=by
  have wi:IntKind.wrap IntKind.i64 (i+1)=i+1:=wrap_id (by omega) (by omega)
  have w1:IntKind.wrap IntKind.i64 (n+1)=n+1:=wrap_id (by omega) (by omega)
  have w2:IntKind.wrap IntKind.i64 (n+1-1)=n:=by rw[wrap_id (by omega) (by omega)];omega
  refine cp1 l T G n i a b c m k ks vs (by simp only[AllP,maxLen,decide_eq_true_eq,decide_eq_false_iff_not,List.length_append,List.length_cons,List.length_nil,beq_iff_eq,bne_iff_ne,bne_eq_false_iff_eq,beq_eq_false_iff_ne,Int.toNat_natCast];and_intros<;>first | rfl | exact True.intro | omega) hs fun ac cU aU hs2=>hK _ _ _ ?_
  rw[w1,wi] at hs2
  exact hs2.nx _

theorem cpT3 (h1:0≤n) (h2:n≤600000) (h3:0≤i) (h4:i≤1000) (h5:G.length≤4097) (h6:T.length≤1000) (hs:Sim w0 F0 K ac (cO l T G n i 3 a b c m k ks vs) cX aX)
    (hK:∀ac cY aY,Sim w0 F0 K ac (cS l T (pushGs G (gatesOf n 3 a b c m k ks vs)) (n+nvOf 3 m vs) (i+1)) cY aY→Wq Try.prog Q (lpBk cpA_k) ac .normal aY cY.w):Wq Try.prog Q cpB_k ac .normal aX cX.w:=by
  have wi:IntKind.wrap IntKind.i64 (i+1)=i+1:=wrap_id (by omega) (by omega)
  have w1:IntKind.wrap IntKind.i64 (n+1)=n+1:=wrap_id (by omega) (by omega)
  have w2:IntKind.wrap IntKind.i64 (n+1-1)=n:=by rw[wrap_id (by omega) (by omega)];omega
  by_cases hg:G.length≤4096
  · have e:pushGs G (gatesOf n 3 a b c m k ks vs)=G++[constG k n]:=(push1 hg).symm
    have e2:(G++[constG k n]).length=G.length+1:=by simp
    refine cp3 l T G n i a b c m k ks vs (by simp only[AllP,maxLen,decide_eq_true_eq,decide_eq_false_iff_not,List.length_append,List.length_cons,List.length_nil,beq_iff_eq,bne_iff_ne,bne_eq_false_iff_eq,beq_eq_false_iff_ne,Int.toNat_natCast];and_intros<;>first | rfl | exact True.intro | omega) hs fun ac cU aU hs2=>hK _ _ _ ?_
    rw[w1,w2,wi] at hs2
    rw[e]
    unfold cS
    rw[e2]
    exact hs2.nx _
  · have e:pushGs G (gatesOf n 3 a b c m k ks vs)=G:=(push0 hg).symm
    refine cp3z l T G n i a b c m k ks vs (by simp only[AllP,maxLen,decide_eq_true_eq,decide_eq_false_iff_not,List.length_append,List.length_cons,List.length_nil,beq_iff_eq,bne_iff_ne,bne_eq_false_iff_eq,beq_eq_false_iff_ne,Int.toNat_natCast];and_intros<;>first | rfl | exact True.intro | omega) hs fun ac cU aU hs2=>hK _ _ _ ?_
    rw[w1,wi] at hs2
    rw[e]
    exact hs2.nx _

theorem cpT4 (h1:0≤n) (h2:n≤600000) (h3:0≤i) (h4:i≤1000) (h5:G.length≤4097) (h6:T.length≤1000) (hs:Sim w0 F0 K ac (cO l T G n i 4 a b c m k ks vs) cX aX)
    (hK:∀ac cY aY,Sim w0 F0 K ac (cS l T (pushGs G (gatesOf n 4 a b c m k ks vs)) (n+nvOf 4 m vs) (i+1)) cY aY→Wq Try.prog Q (lpBk cpA_k) ac .normal aY cY.w):Wq Try.prog Q cpB_k ac .normal aX cX.w:=by
  have wi:IntKind.wrap IntKind.i64 (i+1)=i+1:=wrap_id (by omega) (by omega)
  have w1:IntKind.wrap IntKind.i64 (n+1)=n+1:=wrap_id (by omega) (by omega)
  have w2:IntKind.wrap IntKind.i64 (n+1-1)=n:=by rw[wrap_id (by omega) (by omega)];omega
  by_cases hg:G.length≤4096
  · have e:pushGs G (gatesOf n 4 a b c m k ks vs)=G++[sumG oneU a oneU b n]:=(push1 hg).symm
    have e2:(G++[sumG oneU a oneU b n]).length=G.length+1:=by simp
    refine cp4 l T G n i a b c m k ks vs (by simp only[AllP,maxLen,decide_eq_true_eq,decide_eq_false_iff_not,List.length_append,List.length_cons,List.length_nil,beq_iff_eq,bne_iff_ne,bne_eq_false_iff_eq,beq_eq_false_iff_ne,Int.toNat_natCast];and_intros<;>first | rfl | exact True.intro | omega) hs fun ac cU aU hs2=>hK _ _ _ ?_
    rw[w1,w2,wi] at hs2
    rw[e]
    unfold cS
    rw[e2]
    exact hs2.nx _
  · have e:pushGs G (gatesOf n 4 a b c m k ks vs)=G:=(push0 hg).symm
    refine cp4z l T G n i a b c m k ks vs (by simp only[AllP,maxLen,decide_eq_true_eq,decide_eq_false_iff_not,List.length_append,List.length_cons,List.length_nil,beq_iff_eq,bne_iff_ne,bne_eq_false_iff_eq,beq_eq_false_iff_ne,Int.toNat_natCast];and_intros<;>first | rfl | exact True.intro | omega) hs fun ac cU aU hs2=>hK _ _ _ ?_
    rw[w1,wi] at hs2
    rw[e]
    exact hs2.nx _

theorem cpT5 (h1:0≤n) (h2:n≤600000) (h3:0≤i) (h4:i≤1000) (h5:G.length≤4097) (h6:T.length≤1000) (hs:Sim w0 F0 K ac (cO l T G n i 5 a b c m k ks vs) cX aX)
    (hK:∀ac cY aY,Sim w0 F0 K ac (cS l T (pushGs G (gatesOf n 5 a b c m k ks vs)) (n+nvOf 5 m vs) (i+1)) cY aY→Wq Try.prog Q (lpBk cpA_k) ac .normal aY cY.w):Wq Try.prog Q cpB_k ac .normal aX cX.w:=by
  have wi:IntKind.wrap IntKind.i64 (i+1)=i+1:=wrap_id (by omega) (by omega)
  have w1:IntKind.wrap IntKind.i64 (n+1)=n+1:=wrap_id (by omega) (by omega)
  have w2:IntKind.wrap IntKind.i64 (n+1-1)=n:=by rw[wrap_id (by omega) (by omega)];omega
  by_cases hg:G.length≤4096
  · have e:pushGs G (gatesOf n 5 a b c m k ks vs)=G++[prodG a b n]:=(push1 hg).symm
    have e2:(G++[prodG a b n]).length=G.length+1:=by simp
    refine cp5 l T G n i a b c m k ks vs (by simp only[AllP,maxLen,decide_eq_true_eq,decide_eq_false_iff_not,List.length_append,List.length_cons,List.length_nil,beq_iff_eq,bne_iff_ne,bne_eq_false_iff_eq,beq_eq_false_iff_ne,Int.toNat_natCast];and_intros<;>first | rfl | exact True.intro | omega) hs fun ac cU aU hs2=>hK _ _ _ ?_
    rw[w1,w2,wi] at hs2
    rw[e]
    unfold cS
    rw[e2]
    exact hs2.nx _
  · have e:pushGs G (gatesOf n 5 a b c m k ks vs)=G:=(push0 hg).symm
    refine cp5z l T G n i a b c m k ks vs (by simp only[AllP,maxLen,decide_eq_true_eq,decide_eq_false_iff_not,List.length_append,List.length_cons,List.length_nil,beq_iff_eq,bne_iff_ne,bne_eq_false_iff_eq,beq_eq_false_iff_ne,Int.toNat_natCast];and_intros<;>first | rfl | exact True.intro | omega) hs fun ac cU aU hs2=>hK _ _ _ ?_
    rw[w1,wi] at hs2
    rw[e]
    exact hs2.nx _

theorem cpT7 (h1:0≤n) (h2:n≤600000) (h3:0≤i) (h4:i≤1000) (h5:G.length≤4097) (h6:T.length≤1000) (hs:Sim w0 F0 K ac (cO l T G n i 7 a b c m k ks vs) cX aX)
    (hK:∀ac cY aY,Sim w0 F0 K ac (cS l T (pushGs G (gatesOf n 7 a b c m k ks vs)) (n+nvOf 7 m vs) (i+1)) cY aY→Wq Try.prog Q (lpBk cpA_k) ac .normal aY cY.w):Wq Try.prog Q cpB_k ac .normal aX cX.w:=by
  have wi:IntKind.wrap IntKind.i64 (i+1)=i+1:=wrap_id (by omega) (by omega)
  have w1:IntKind.wrap IntKind.i64 (n+1)=n+1:=wrap_id (by omega) (by omega)
  have w2:IntKind.wrap IntKind.i64 (n+1-1)=n:=by rw[wrap_id (by omega) (by omega)];omega
  rw[show n+nvOf 7 m vs=n from Int.add_zero n] at hK
  by_cases hg:G.length≤4096
  · have e:pushGs G (gatesOf n 7 a b c m k ks vs)=G++[boolG a]:=(push1 hg).symm
    have e2:(G++[boolG a]).length=G.length+1:=by simp
    refine cp7 l T G n i a b c m k ks vs (by simp only[AllP,maxLen,decide_eq_true_eq,decide_eq_false_iff_not,List.length_append,List.length_cons,List.length_nil,beq_iff_eq,bne_iff_ne,bne_eq_false_iff_eq,beq_eq_false_iff_ne,Int.toNat_natCast];and_intros<;>first | rfl | exact True.intro | omega) hs fun ac cU aU hs2=>hK _ _ _ ?_
    rw[wi] at hs2
    rw[e]
    unfold cS
    rw[e2]
    exact hs2.nx _
  · have e:pushGs G (gatesOf n 7 a b c m k ks vs)=G:=(push0 hg).symm
    refine cp7z l T G n i a b c m k ks vs (by simp only[AllP,maxLen,decide_eq_true_eq,decide_eq_false_iff_not,List.length_append,List.length_cons,List.length_nil,beq_iff_eq,bne_iff_ne,bne_eq_false_iff_eq,beq_eq_false_iff_ne,Int.toNat_natCast];and_intros<;>first | rfl | exact True.intro | omega) hs fun ac cU aU hs2=>hK _ _ _ ?_
    rw[wi] at hs2
    rw[e]
    exact hs2.nx _

theorem cpT11 (h1:0≤n) (h2:n≤600000) (h3:0≤i) (h4:i≤1000) (h5:G.length≤4097) (h6:T.length≤1000) (hs:Sim w0 F0 K ac (cO l T G n i 11 a b c m k ks vs) cX aX)
    (hK:∀ac cY aY,Sim w0 F0 K ac (cS l T (pushGs G (gatesOf n 11 a b c m k ks vs)) (n+nvOf 11 m vs) (i+1)) cY aY→Wq Try.prog Q (lpBk cpA_k) ac .normal aY cY.w):Wq Try.prog Q cpB_k ac .normal aX cX.w:=by
  have wi:IntKind.wrap IntKind.i64 (i+1)=i+1:=wrap_id (by omega) (by omega)
  have w1:IntKind.wrap IntKind.i64 (n+1)=n+1:=wrap_id (by omega) (by omega)
  have w2:IntKind.wrap IntKind.i64 (n+1-1)=n:=by rw[wrap_id (by omega) (by omega)];omega
  rw[show n+nvOf 11 m vs=n from Int.add_zero n] at hK
  by_cases hg:G.length≤4096
  · have e:pushGs G (gatesOf n 11 a b c m k ks vs)=G++[equalG a b]:=(push1 hg).symm
    have e2:(G++[equalG a b]).length=G.length+1:=by simp
    refine cp11 l T G n i a b c m k ks vs (by simp only[AllP,maxLen,decide_eq_true_eq,decide_eq_false_iff_not,List.length_append,List.length_cons,List.length_nil,beq_iff_eq,bne_iff_ne,bne_eq_false_iff_eq,beq_eq_false_iff_ne,Int.toNat_natCast];and_intros<;>first | rfl | exact True.intro | omega) hs fun ac cU aU hs2=>hK _ _ _ ?_
    rw[wi] at hs2
    rw[e]
    unfold cS
    rw[e2]
    exact hs2.nx _
  · have e:pushGs G (gatesOf n 11 a b c m k ks vs)=G:=(push0 hg).symm
    refine cp11z l T G n i a b c m k ks vs (by simp only[AllP,maxLen,decide_eq_true_eq,decide_eq_false_iff_not,List.length_append,List.length_cons,List.length_nil,beq_iff_eq,bne_iff_ne,bne_eq_false_iff_eq,beq_eq_false_iff_ne,Int.toNat_natCast];and_intros<;>first | rfl | exact True.intro | omega) hs fun ac cU aU hs2=>hK _ _ _ ?_
    rw[wi] at hs2
    rw[e]
    exact hs2.nx _

theorem cpT2 (h1:0≤n) (h2:n≤600000) (h3:0≤i) (h4:i≤1000) (h5:G.length≤4097) (h6:T.length≤1000) (hs:Sim w0 F0 K ac (cO l T G n i 2 a b c m k ks vs) cX aX)
    (hK:∀ac cY aY,Sim w0 F0 K ac (cS l (T++[toldG a]) G n (i+1)) cY aY→Wq Try.prog Q (lpBk cpA_k) ac .normal aY cY.w):Wq Try.prog Q cpB_k ac .normal aX cX.w:=by
  have wi:IntKind.wrap IntKind.i64 (i+1)=i+1:=wrap_id (by omega) (by omega)
  have e2:(T++[toldG a]).length=T.length+1:=by simp
  refine cp2 l T G n i a b c m k ks vs (by simp only[AllP,maxLen,decide_eq_true_eq,decide_eq_false_iff_not,List.length_append,List.length_cons,List.length_nil,beq_iff_eq,bne_iff_ne,bne_eq_false_iff_eq,beq_eq_false_iff_ne,Int.toNat_natCast];and_intros<;>first | rfl | exact True.intro | omega) hs fun ac cU aU hs2=>hK _ _ _ ?_
  rw[wi] at hs2
  unfold cS
  rw[e2]
  exact hs2.nx _

theorem cpT9 (h1:0≤n) (h2:n≤600000) (h3:0≤i) (h4:i≤1000) (h5:G.length≤4097) (h6:T.length≤1000) (hs:Sim w0 F0 K ac (cO l T G n i 9 a b c m k ks vs) cX aX)
    (hK:∀ac cY aY,Sim w0 F0 K ac (cS l T (pushGs G (gatesOf n 9 a b c m k ks vs)) (n+nvOf 9 m vs) (i+1)) cY aY→Wq Try.prog Q (lpBk cpA_k) ac .normal aY cY.w):Wq Try.prog Q cpB_k ac .normal aX cX.w:=by
  have wi:IntKind.wrap IntKind.i64 (i+1)=i+1:=wrap_id (by omega) (by omega)
  have w1:IntKind.wrap IntKind.i64 (n+1)=n+1:=wrap_id (by omega) (by omega)
  have w2:IntKind.wrap IntKind.i64 (n+1-1)=n:=by rw[wrap_id (by omega) (by omega)];omega
  have w3:IntKind.wrap IntKind.i64 (n+1+1)=n+1+1:=wrap_id (by omega) (by omega)
  have w4:IntKind.wrap IntKind.i64 (n+1+1-1)=n+1:=by rw[wrap_id (by omega) (by omega)];omega
  have w5:IntKind.wrap IntKind.i64 (n+1+1+1)=n+3:=by rw[wrap_id (by omega) (by omega)];omega
  have w6:IntKind.wrap IntKind.i64 (n+3-1)=n+2:=by rw[wrap_id (by omega) (by omega)];omega
  have eg:gatesOf n 9 a b c m k ks vs=[prodG a n (n+1),zeroG (n+1) (n+2),zeroH a (n+2)]:=rfl
  rw[eg] at hK
  rw[show n+nvOf 9 m vs=n+3 from rfl] at hK
  by_cases c0:G.length≤4094
  · have e:pushGs G [prodG a n (n+1),zeroG (n+1) (n+2),zeroH a (n+2)]=(((G++[prodG a n (n+1)])++[zeroG (n+1) (n+2)])++[zeroH a (n+2)]):=(show pushGs G [prodG a n (n+1),zeroG (n+1) (n+2),zeroH a (n+2)]=pushG (pushG (pushG (G) (prodG a n (n+1))) (zeroG (n+1) (n+2))) (zeroH a (n+2)) from rfl).trans (by rw[pushT (G:=G) (g:=prodG a n (n+1)) (by omega),pushT (G:=(G++[prodG a n (n+1)])) (g:=zeroG (n+1) (n+2)) (by simp only[List.length_append,List.length_cons,List.length_nil];omega),pushT (G:=((G++[prodG a n (n+1)])++[zeroG (n+1) (n+2)])) (g:=zeroH a (n+2)) (by simp only[List.length_append,List.length_cons,List.length_nil];omega)])
    refine cp9 l T G n i a b c m k ks vs (by simp only[AllP,maxLen,decide_eq_true_eq,decide_eq_false_iff_not,List.length_append,List.length_cons,List.length_nil,beq_iff_eq,bne_iff_ne,bne_eq_false_iff_eq,beq_eq_false_iff_ne,Int.toNat_natCast];and_intros<;>first | rfl | exact True.intro | omega) hs fun ac cU aU hs2=>hK _ _ _ ?_
    rw[w1,w2,w3,w4,w5,w6,wi] at hs2
    rw[e]
    unfold cS
    rw[show (((G++[prodG a n (n+1)])++[zeroG (n+1) (n+2)])++[zeroH a (n+2)]).length=((G++[prodG a n (n+1)])++[zeroG (n+1) (n+2)]).length+1 from by simp only[List.length_append,List.length_cons,List.length_nil]]
    exact hs2.nx _
  by_cases c1:G.length=4095
  · have e:pushGs G [prodG a n (n+1),zeroG (n+1) (n+2),zeroH a (n+2)]=((G++[prodG a n (n+1)])++[zeroG (n+1) (n+2)]):=(show pushGs G [prodG a n (n+1),zeroG (n+1) (n+2),zeroH a (n+2)]=pushG (pushG (pushG (G) (prodG a n (n+1))) (zeroG (n+1) (n+2))) (zeroH a (n+2)) from rfl).trans (by rw[pushT (G:=G) (g:=prodG a n (n+1)) (by omega),pushT (G:=(G++[prodG a n (n+1)])) (g:=zeroG (n+1) (n+2)) (by simp only[List.length_append,List.length_cons,List.length_nil];omega),pushF (G:=((G++[prodG a n (n+1)])++[zeroG (n+1) (n+2)])) (g:=zeroH a (n+2)) (by simp only[List.length_append,List.length_cons,List.length_nil];omega)])
    refine cp9y l T G n i a b c m k ks vs (by simp only[AllP,maxLen,decide_eq_true_eq,decide_eq_false_iff_not,List.length_append,List.length_cons,List.length_nil,beq_iff_eq,bne_iff_ne,bne_eq_false_iff_eq,beq_eq_false_iff_ne,Int.toNat_natCast];and_intros<;>first | rfl | exact True.intro | omega) hs fun ac cU aU hs2=>hK _ _ _ ?_
    rw[w1,w2,w3,w4,w5,w6,wi] at hs2
    rw[e]
    unfold cS
    rw[show ((G++[prodG a n (n+1)])++[zeroG (n+1) (n+2)]).length=(G++[prodG a n (n+1)]).length+1 from by simp only[List.length_append,List.length_cons,List.length_nil]]
    exact hs2.nx _
  by_cases c2:G.length=4096
  · have e:pushGs G [prodG a n (n+1),zeroG (n+1) (n+2),zeroH a (n+2)]=(G++[prodG a n (n+1)]):=(show pushGs G [prodG a n (n+1),zeroG (n+1) (n+2),zeroH a (n+2)]=pushG (pushG (pushG (G) (prodG a n (n+1))) (zeroG (n+1) (n+2))) (zeroH a (n+2)) from rfl).trans (by rw[pushT (G:=G) (g:=prodG a n (n+1)) (by omega),pushF (G:=(G++[prodG a n (n+1)])) (g:=zeroG (n+1) (n+2)) (by simp only[List.length_append,List.length_cons,List.length_nil];omega),pushF (G:=(G++[prodG a n (n+1)])) (g:=zeroH a (n+2)) (by simp only[List.length_append,List.length_cons,List.length_nil];omega)])
    refine cp9x l T G n i a b c m k ks vs (by simp only[AllP,maxLen,decide_eq_true_eq,decide_eq_false_iff_not,List.length_append,List.length_cons,List.length_nil,beq_iff_eq,bne_iff_ne,bne_eq_false_iff_eq,beq_eq_false_iff_ne,Int.toNat_natCast];and_intros<;>first | rfl | exact True.intro | omega) hs fun ac cU aU hs2=>hK _ _ _ ?_
    rw[w1,w2,w3,w4,w5,wi] at hs2
    rw[e]
    unfold cS
    rw[show (G++[prodG a n (n+1)]).length=G.length+1 from by simp only[List.length_append,List.length_cons,List.length_nil]]
    exact hs2.nx _
  have e:pushGs G [prodG a n (n+1),zeroG (n+1) (n+2),zeroH a (n+2)]=G:=(show pushGs G [prodG a n (n+1),zeroG (n+1) (n+2),zeroH a (n+2)]=pushG (pushG (pushG (G) (prodG a n (n+1))) (zeroG (n+1) (n+2))) (zeroH a (n+2)) from rfl).trans (by rw[pushF (G:=G) (g:=prodG a n (n+1)) (by omega),pushF (G:=G) (g:=zeroG (n+1) (n+2)) (by omega),pushF (G:=G) (g:=zeroH a (n+2)) (by omega)])
  refine cp9z l T G n i a b c m k ks vs (by simp only[AllP,maxLen,decide_eq_true_eq,decide_eq_false_iff_not,List.length_append,List.length_cons,List.length_nil,beq_iff_eq,bne_iff_ne,bne_eq_false_iff_eq,beq_eq_false_iff_ne,Int.toNat_natCast];and_intros<;>first | rfl | exact True.intro | omega) hs fun ac cU aU hs2=>hK _ _ _ ?_
  rw[w1,w3,w5,wi] at hs2
  rw[e]
  exact hs2.nx _

end
end Go.Proofs.Ytobdghmmbddfnaa

/- circuit.Compile's loop: operations of many gates. No conditions. -/
set_option linter.unusedSimpArgs false
set_option linter.unusedVariables false
namespace Go.Proofs.Ytobdghmmbddfnaa

section
variable {l:List OpD} {T G:List GateD} {n i a b c m:Int} {k:U4} {ks:List U4} {vs:List Int} {w0:World} {F0:Nat→Prop} {K:Kp} {ac:List Act} {Q:Exit→Act→World→Prop} {cX:Ctx} {aX:Act}

theorem cpT6 (h1:0≤n) (h2:n≤600000) (h3:0≤i) (h4:i≤1000) (h5:G.length≤4097) (h6:T.length≤1000) (hv:1≤vs.length) (hv2:vs.length≤64) (hk:ks.length=vs.length) (hs:Sim w0 F0 K ac (cO l T G n i 6 a b c m k ks vs) cX aX)
    (hK:∀ac cY aY,Sim w0 F0 K ac (cS l T (pushGs G (gatesOf n 6 a b c m k ks vs)) (n+nvOf 6 m vs) (i+1)) cY aY→Wq Try.prog Q (lpBk cpA_k) ac .normal aY cY.w):Wq Try.prog Q cpB_k ac .normal aX cX.w:=by
  have wi:IntKind.wrap IntKind.i64 (i+1)=i+1:=wrap_id (by omega) (by omega)
  have w1:IntKind.wrap IntKind.i64 (n+1)=n+1:=wrap_id (by omega) (by omega)
  have w2:IntKind.wrap IntKind.i64 (n+1-1)=n:=by rw[wrap_id (by omega) (by omega)];omega
  by_cases hl:vs.length=1
  · have eg:gatesOf n 6 a b c m k ks vs=[linG (ks.getD 0 0) (vs.getD 0 0) n]:=if_pos hl
    have en:nvOf 6 m vs=1:=if_pos hl
    rw[eg,en] at hK
    by_cases hg:G.length≤4096
    · refine cp6 l T G n i a b c m k ks vs (by simp only[AllP,maxLen,decide_eq_true_eq,decide_eq_false_iff_not,List.length_append,List.length_cons,List.length_nil,beq_iff_eq,bne_iff_ne,bne_eq_false_iff_eq,beq_eq_false_iff_ne,Int.toNat_natCast];and_intros<;>first | rfl | exact True.intro | omega) hs fun ac cU aU hs2=>hK _ _ _ ?_
      rw[w1,w2,wi] at hs2
      rw[←push1 hg]
      unfold cS
      rw[show (G++[linG (ks.getD 0 0) (vs.getD 0 0) n]).length=G.length+1 from by simp]
      exact hs2.nx _
    · refine cp6z l T G n i a b c m k ks vs (by simp only[AllP,maxLen,decide_eq_true_eq,decide_eq_false_iff_not,List.length_append,List.length_cons,List.length_nil,beq_iff_eq,bne_iff_ne,bne_eq_false_iff_eq,beq_eq_false_iff_ne,Int.toNat_natCast];and_intros<;>first | rfl | exact True.intro | omega) hs fun ac cU aU hs2=>hK _ _ _ ?_
      rw[w1,wi] at hs2
      rw[←push0 hg]
      exact hs2.nx _
  · have eg:gatesOf n 6 a b c m k ks vs=linL n ks vs (vs.length-2):=if_neg hl
    have en:nvOf 6 m vs=(vs.length:Int)-1:=if_neg hl
    rw[eg,en] at hK
    have loop:∀ac cY aY,Sim w0 F0 K ac (c6S l T (pushGs G (linL n ks vs 0)) (n+((0:Nat):Int)+1) i a b c m k ks vs (n+((0:Nat):Int)) ((0+2:Nat):Int)) cY aY→Wq Try.prog Q cp6a_k ac .normal aY cY.w:=by
      intro ac cY aY hs1
      refine loop_rule (ι:={ t:Nat // t+2≤vs.length }) (fun t=>c6S l T (pushGs G (linL n ks vs t.1)) (n+(t.1:Int)+1) i a b c m k ks vs (n+(t.1:Int)) ((t.1+2:Nat):Int)) (fun t=>vs.length-t.1) (c:=lpC cp6a_k) (k:=lpR cp6a_k) (by kernel_rfl) (fun t ih ac cY aY hs=>?_) ⟨0,by omega⟩ hs1
      obtain ⟨t,ht⟩:=t
      simp only at ih hs
      have x1:IntKind.wrap IntKind.i64 (n+(t:Int)+1+1)=n+((t+1:Nat):Int)+1:=by rw[wrap_id (by omega) (by omega)];omega
      have x2:IntKind.wrap IntKind.i64 (n+((t+1:Nat):Int)+1-1)=n+((t+1:Nat):Int):=by rw[wrap_id (by omega) (by omega)];omega
      have x3:IntKind.wrap IntKind.i64 (((t+2:Nat):Int)+1)=((t+1+2:Nat):Int):=by rw[wrap_id (by omega) (by omega)];omega
      have hgl:=pushGs_len (gs:=linL n ks vs t) h5
      by_cases h:t+2<vs.length
      · have ep:pushGs G (linL n ks vs (t+1))=pushG (pushGs G (linL n ks vs t)) (sumG oneU (n+(t:Int)) (ks.getD (t+2) 0) (vs.getD (t+2) 0) (n+((t+1:Nat):Int))):=by
          rw[show n+((t+1:Nat):Int)=n+(t:Int)+1 from by omega]
          exact pushGs_app ..
        generalize pushGs G (linL n ks vs t)=H at *
        by_cases hg:H.length≤4096
        · refine cp6n l T H _ i a b c m k ks vs _ _ (by simp only[AllP,maxLen,decide_eq_true_eq,decide_eq_false_iff_not,List.length_append,List.length_cons,List.length_nil,beq_iff_eq,bne_iff_ne,bne_eq_false_iff_eq,beq_eq_false_iff_ne,Int.toNat_natCast];and_intros<;>first | rfl | exact True.intro | omega) hs fun ac cU aU hs2=>?_
          rw[Int.toNat_natCast,x1,x2,x3] at hs2
          refine ih ⟨t+1,by omega⟩ (by show vs.length-(t+1)<vs.length-t;omega) ac cU aU ?_
          rw[pushT hg] at ep
          show Sim w0 F0 K ac (c6S l T (pushGs G (linL n ks vs (t+1))) _ i a b c m k ks vs _ _) cU aU
          rw[ep]
          unfold c6S
          rw[show (H++[sumG oneU (n+(t:Int)) (ks.getD (t+2) 0) (vs.getD (t+2) 0) (n+((t+1:Nat):Int))]).length=H.length+1 from by simp]
          exact hs2.nx _
        · refine cp6nz l T H _ i a b c m k ks vs _ _ (by simp only[AllP,maxLen,decide_eq_true_eq,decide_eq_false_iff_not,List.length_append,List.length_cons,List.length_nil,beq_iff_eq,bne_iff_ne,bne_eq_false_iff_eq,beq_eq_false_iff_ne,Int.toNat_natCast];and_intros<;>first | rfl | exact True.intro | omega) hs fun ac cU aU hs2=>?_
          rw[x1,x2,x3] at hs2
          refine ih ⟨t+1,by omega⟩ (by show vs.length-(t+1)<vs.length-t;omega) ac cU aU ?_
          rw[pushF hg] at ep
          show Sim w0 F0 K ac (c6S l T (pushGs G (linL n ks vs (t+1))) _ i a b c m k ks vs _ _) cU aU
          rw[ep]
          exact hs2.nx _
      · have et:vs.length-2=t:=by omega
        rw[et] at hK
        refine cp6x l T _ _ i a b c m k ks vs _ _ (by simp only[AllP,maxLen,decide_eq_true_eq,decide_eq_false_iff_not,List.length_append,List.length_cons,List.length_nil,beq_iff_eq,bne_iff_ne,bne_eq_false_iff_eq,beq_eq_false_iff_ne,Int.toNat_natCast];and_intros<;>first | rfl | exact True.intro | omega) hs fun ac cU aU hs2=>hK _ _ _ ?_
        rw[wi] at hs2
        rw[show n+((vs.length:Int)-1)=n+(t:Int)+1 from by omega]
        exact hs2.nx _
    have e0:pushGs G (linL n ks vs 0)=pushG G (sumG (ks.getD 0 0) (vs.getD 0 0) (ks.getD 1 0) (vs.getD 1 0) n):=rfl
    by_cases hg:G.length≤4096
    · refine cp6a l T G n i a b c m k ks vs (by simp only[AllP,maxLen,decide_eq_true_eq,decide_eq_false_iff_not,List.length_append,List.length_cons,List.length_nil,beq_iff_eq,bne_iff_ne,bne_eq_false_iff_eq,beq_eq_false_iff_ne,Int.toNat_natCast];and_intros<;>first | rfl | exact True.intro | omega) hs fun ac cU aU hs2=>loop _ _ _ ?_
      rw[w1,w2] at hs2
      rw[e0,pushT hg,show n+((0:Nat):Int)=n from by omega]
      unfold c6S
      rw[show (G++[sumG (ks.getD 0 0) (vs.getD 0 0) (ks.getD 1 0) (vs.getD 1 0) n]).length=G.length+1 from by simp]
      exact hs2.nx _
    · refine cp6az l T G n i a b c m k ks vs (by simp only[AllP,maxLen,decide_eq_true_eq,decide_eq_false_iff_not,List.length_append,List.length_cons,List.length_nil,beq_iff_eq,bne_iff_ne,bne_eq_false_iff_eq,beq_eq_false_iff_ne,Int.toNat_natCast];and_intros<;>first | rfl | exact True.intro | omega) hs fun ac cU aU hs2=>loop _ _ _ ?_
      rw[w1,w2] at hs2
      rw[e0,pushF hg,show n+((0:Nat):Int)=n from by omega]
      exact hs2.nx _

end
end Go.Proofs.Ytobdghmmbddfnaa

/- circuit.Compile's loop: bits. No conditions. -/
set_option linter.unusedSimpArgs false
set_option linter.unusedVariables false
namespace Go.Proofs.Ytobdghmmbddfnaa

section
variable {l:List OpD} {T G:List GateD} {n i a b c m:Int} {k:U4} {ks:List U4} {vs:List Int} {w0:World} {F0:Nat→Prop} {K:Kp} {ac:List Act} {Q:Exit→Act→World→Prop} {cX:Ctx} {aX:Act}

theorem cpT10 {N:Nat} (h1:0≤n) (h2:n≤600000) (h3:0≤i) (h4:i≤1000) (h5:G.length≤4097) (h6:T.length≤1000) (hN:1≤N) (hN2:N≤254) (hm:m=(N:Int)) (hs:Sim w0 F0 K ac (cO l T G n i 10 a b c m k ks vs) cX aX)
    (hK:∀ac cY aY,Sim w0 F0 K ac (cS l T (pushGs G (gatesOf n 10 a b c m k ks vs)) (n+nvOf 10 m vs) (i+1)) cY aY→Wq Try.prog Q (lpBk cpA_k) ac .normal aY cY.w):Wq Try.prog Q cpB_k ac .normal aX cX.w:=by
  have wi:IntKind.wrap IntKind.i64 (i+1)=i+1:=wrap_id (by omega) (by omega)
  have eg:gatesOf n 10 a b c m k ks vs=bitB n N++bitS n (N:Int) (N-1)++[equalG (lastV n (N:Int) (N-1)) a]:=by
    rw[hm];exact congrArg (bitG n a) (Int.toNat_natCast N)
  have en:nvOf 10 m vs=2*(N:Int)-1:=by rw[hm];rfl
  rw[eg,en] at hK
  -- the last sums
  have loop3:∀ac cY aY,Sim w0 F0 K ac (c10U l T (pushGs (pushGs G (bitB n N)) (bitS n (N:Int) 0)) (n+(N:Int)+((0:Nat):Int)) i a b c m k ks vs n ((0+1:Nat):Int) (lastV n (N:Int) 0) (pwS 0)) cY aY→Wq Try.prog Q cp10c_k ac .normal aY cY.w:=by
    intro ac cY aY hs1
    refine loop_rule (ι:={ t:Nat // t+1≤N }) (fun t=>c10U l T (pushGs (pushGs G (bitB n N)) (bitS n (N:Int) t.1)) (n+(N:Int)+(t.1:Int)) i a b c m k ks vs n ((t.1+1:Nat):Int) (lastV n (N:Int) t.1) (pwS t.1)) (fun t=>N-t.1) (c:=lpC cp10c_k) (k:=lpR cp10c_k) (by kernel_rfl) (fun t ih ac cY aY hs=>?_) ⟨0,by omega⟩ hs1
    obtain ⟨t,ht⟩:=t
    simp only at ih hs
    have x0:IntKind.wrap IntKind.i64 (n+(N:Int)+(t:Int)+1)=n+(N:Int)+((t+1:Nat):Int):=by rw[wrap_id (by omega) (by omega)];omega
    have x1:IntKind.wrap IntKind.i64 (n+(N:Int)+((t+1:Nat):Int)-1)=n+(N:Int)+(t:Int):=by rw[wrap_id (by omega) (by omega)];omega
    have x2:IntKind.wrap IntKind.i64 (n+((t+1:Nat):Int))=n+((t+1:Nat):Int):=wrap_id (by omega) (by omega)
    have x3:IntKind.wrap IntKind.i64 (((t+1:Nat):Int)+1)=((t+1+1:Nat):Int):=by rw[wrap_id (by omega) (by omega)];omega
    have hgl:=pushGs_len (gs:=bitS n (N:Int) t) (pushGs_len (gs:=bitB n N) h5)
    by_cases h:t+1<N
    · have ep:pushGs (pushGs G (bitB n N)) (bitS n (N:Int) (t+1))=pushG (pushGs (pushGs G (bitB n N)) (bitS n (N:Int) t)) (sumG oneU (lastV n (N:Int) t) (pwS (t+1)) (n+((t+1:Nat):Int)) (n+(N:Int)+(t:Int))):=pushGs_app ..
      generalize pushGs (pushGs G (bitB n N)) (bitS n (N:Int) t)=H at *
      by_cases hg:H.length≤4096
      · refine cp10o l T H _ i a b c m k ks vs _ _ _ _ (by simp only[AllP,maxLen,decide_eq_true_eq,decide_eq_false_iff_not,List.length_append,List.length_cons,List.length_nil,beq_iff_eq,bne_iff_ne,bne_eq_false_iff_eq,beq_eq_false_iff_ne,Int.toNat_natCast];and_intros<;>first | rfl | exact True.intro | omega) hs fun ac cU aU hs2=>?_
        rw[x0,x1,x2,x3] at hs2
        refine ih ⟨t+1,by omega⟩ (by show N-(t+1)<N-t;omega) ac cU aU ?_
        rw[pushT hg] at ep
        show Sim w0 F0 K ac (c10U l T (pushGs (pushGs G (bitB n N)) (bitS n (N:Int) (t+1))) _ i a b c m k ks vs _ _ _ _) cU aU
        rw[ep]
        unfold c10U
        rw[show (H++[sumG oneU (lastV n (N:Int) t) (pwS (t+1)) (n+((t+1:Nat):Int)) (n+(N:Int)+(t:Int))]).length=H.length+1 from by simp]
        exact hs2.nx _
      · refine cp10oz l T H _ i a b c m k ks vs _ _ _ _ (by simp only[AllP,maxLen,decide_eq_true_eq,decide_eq_false_iff_not,List.length_append,List.length_cons,List.length_nil,beq_iff_eq,bne_iff_ne,bne_eq_false_iff_eq,beq_eq_false_iff_ne,Int.toNat_natCast];and_intros<;>first | rfl | exact True.intro | omega) hs fun ac cU aU hs2=>?_
        rw[x0,x1,x3] at hs2
        refine ih ⟨t+1,by omega⟩ (by show N-(t+1)<N-t;omega) ac cU aU ?_
        rw[pushF hg] at ep
        show Sim w0 F0 K ac (c10U l T (pushGs (pushGs G (bitB n N)) (bitS n (N:Int) (t+1))) _ i a b c m k ks vs _ _ _ _) cU aU
        rw[ep]
        exact hs2.nx _
    · have et:t=N-1:=by omega
      have ep:pushGs G (bitB n N++bitS n (N:Int) (N-1)++[equalG (lastV n (N:Int) (N-1)) a])=pushG (pushGs (pushGs G (bitB n N)) (bitS n (N:Int) t)) (equalG (lastV n (N:Int) t) a):=by
        rw[pushGs_app,pushGs_app,et];rfl
      rw[ep] at hK
      rw[show n+(2*(N:Int)-1)=n+(N:Int)+(t:Int) from by omega] at hK
      generalize pushGs (pushGs G (bitB n N)) (bitS n (N:Int) t)=H at *
      by_cases hg:H.length≤4096
      · refine cp10x l T H _ i a b c m k ks vs _ _ _ _ (by simp only[AllP,maxLen,decide_eq_true_eq,decide_eq_false_iff_not,List.length_append,List.length_cons,List.length_nil,beq_iff_eq,bne_iff_ne,bne_eq_false_iff_eq,beq_eq_false_iff_ne,Int.toNat_natCast];and_intros<;>first | rfl | exact True.intro | omega) hs fun ac cU aU hs2=>hK _ _ _ ?_
        rw[wi] at hs2
        rw[pushT hg]
        unfold cS
        rw[show (H++[equalG (lastV n (N:Int) t) a]).length=H.length+1 from by simp]
        exact hs2.nx _
      · refine cp10xz l T H _ i a b c m k ks vs _ _ _ _ (by simp only[AllP,maxLen,decide_eq_true_eq,decide_eq_false_iff_not,List.length_append,List.length_cons,List.length_nil,beq_iff_eq,bne_iff_ne,bne_eq_false_iff_eq,beq_eq_false_iff_ne,Int.toNat_natCast];and_intros<;>first | rfl | exact True.intro | omega) hs fun ac cU aU hs2=>hK _ _ _ ?_
        rw[wi] at hs2
        rw[pushF hg]
        exact hs2.nx _
  -- each bit is one
  have loop2:∀ac cY aY,Sim w0 F0 K ac (c10T l T (pushGs G (bitB n 0)) (n+(N:Int)) i a b c m k ks vs n ((0:Nat):Int)) cY aY→Wq Try.prog Q cp10b_k ac .normal aY cY.w:=by
    intro ac cY aY hs1
    refine loop_rule (ι:={ t:Nat // t≤N }) (fun t=>c10T l T (pushGs G (bitB n t.1)) (n+(N:Int)) i a b c m k ks vs n (t.1:Int)) (fun t=>N-t.1) (c:=lpC cp10b_k) (k:=lpR cp10b_k) (by kernel_rfl) (fun t ih ac cY aY hs=>?_) ⟨0,by omega⟩ hs1
    obtain ⟨t,ht⟩:=t
    simp only at ih hs
    have x2:IntKind.wrap IntKind.i64 (n+(t:Int))=n+(t:Int):=wrap_id (by omega) (by omega)
    have x3:IntKind.wrap IntKind.i64 ((t:Int)+1)=((t+1:Nat):Int):=by rw[wrap_id (by omega) (by omega)];omega
    have hgl:=pushGs_len (gs:=bitB n t) h5
    by_cases h:t<N
    · have ep:pushGs G (bitB n (t+1))=pushG (pushGs G (bitB n t)) (boolG (n+(t:Int))):=pushGs_app ..
      generalize pushGs G (bitB n t)=H at *
      by_cases hg:H.length≤4096
      · refine cp10m l T H _ i a b c m k ks vs _ _ (by simp only[AllP,maxLen,decide_eq_true_eq,decide_eq_false_iff_not,List.length_append,List.length_cons,List.length_nil,beq_iff_eq,bne_iff_ne,bne_eq_false_iff_eq,beq_eq_false_iff_ne,Int.toNat_natCast];and_intros<;>first | rfl | exact True.intro | omega) hs fun ac cU aU hs2=>?_
        rw[x2,x3] at hs2
        refine ih ⟨t+1,by omega⟩ (by show N-(t+1)<N-t;omega) ac cU aU ?_
        rw[pushT hg] at ep
        show Sim w0 F0 K ac (c10T l T (pushGs G (bitB n (t+1))) _ i a b c m k ks vs _ _) cU aU
        rw[ep]
        unfold c10T
        rw[show (H++[boolG (n+(t:Int))]).length=H.length+1 from by simp]
        exact hs2.nx _
      · refine cp10mz l T H _ i a b c m k ks vs _ _ (by simp only[AllP,maxLen,decide_eq_true_eq,decide_eq_false_iff_not,List.length_append,List.length_cons,List.length_nil,beq_iff_eq,bne_iff_ne,bne_eq_false_iff_eq,beq_eq_false_iff_ne,Int.toNat_natCast];and_intros<;>first | rfl | exact True.intro | omega) hs fun ac cU aU hs2=>?_
        rw[x3] at hs2
        refine ih ⟨t+1,by omega⟩ (by show N-(t+1)<N-t;omega) ac cU aU ?_
        rw[pushF hg] at ep
        show Sim w0 F0 K ac (c10T l T (pushGs G (bitB n (t+1))) _ i a b c m k ks vs _ _) cU aU
        rw[ep]
        exact hs2.nx _
    · have et:t=N:=by omega
      subst et
      refine cp10c l T _ _ i a b c m k ks vs _ _ (by simp only[AllP,maxLen,decide_eq_true_eq,decide_eq_false_iff_not,List.length_append,List.length_cons,List.length_nil,beq_iff_eq,bne_iff_ne,bne_eq_false_iff_eq,beq_eq_false_iff_ne,Int.toNat_natCast];and_intros<;>first | rfl | exact True.intro | omega) hs fun ac cU aU hs2=>loop3 _ _ _ ?_
      rw[show n+(t:Int)+((0:Nat):Int)=n+(t:Int) from by omega]
      exact hs2.nx _
  -- the bits
  have loop1:∀ac cY aY,Sim w0 F0 K ac (c10S l T G (n+((0:Nat):Int)) i a b c m k ks vs n ((0:Nat):Int)) cY aY→Wq Try.prog Q cp10a_k ac .normal aY cY.w:=by
    intro ac cY aY hs1
    refine loop_rule (ι:={ t:Nat // t≤N }) (fun t=>c10S l T G (n+(t.1:Int)) i a b c m k ks vs n (t.1:Int)) (fun t=>N-t.1) (c:=lpC cp10a_k) (k:=lpR cp10a_k) (by kernel_rfl) (fun t ih ac cY aY hs=>?_) ⟨0,by omega⟩ hs1
    obtain ⟨t,ht⟩:=t
    simp only at ih hs
    have x2:IntKind.wrap IntKind.i64 (n+(t:Int)+1)=n+((t+1:Nat):Int):=by rw[wrap_id (by omega) (by omega)];omega
    have x3:IntKind.wrap IntKind.i64 ((t:Int)+1)=((t+1:Nat):Int):=by rw[wrap_id (by omega) (by omega)];omega
    by_cases h:t<N
    · refine cp10n l T G _ i a b c m k ks vs _ _ (by simp only[AllP,maxLen,decide_eq_true_eq,decide_eq_false_iff_not,List.length_append,List.length_cons,List.length_nil,beq_iff_eq,bne_iff_ne,bne_eq_false_iff_eq,beq_eq_false_iff_ne,Int.toNat_natCast];and_intros<;>first | rfl | exact True.intro | omega) hs fun ac cU aU hs2=>?_
      rw[x2,x3] at hs2
      exact ih ⟨t+1,by omega⟩ (by show N-(t+1)<N-t;omega) ac cU aU (hs2.nx _)
    · have et:t=N:=by omega
      subst et
      refine cp10b l T G _ i a b c m k ks vs _ _ (by simp only[AllP,maxLen,decide_eq_true_eq,decide_eq_false_iff_not,List.length_append,List.length_cons,List.length_nil,beq_iff_eq,bne_iff_ne,bne_eq_false_iff_eq,beq_eq_false_iff_ne,Int.toNat_natCast];and_intros<;>first | rfl | exact True.intro | omega) hs fun ac cU aU hs2=>loop2 _ _ _ ?_
      exact hs2.nx _
  refine cp10a l T G n i a b c m k ks vs (by simp only[AllP,maxLen,decide_eq_true_eq,decide_eq_false_iff_not,List.length_append,List.length_cons,List.length_nil,beq_iff_eq,bne_iff_ne,bne_eq_false_iff_eq,beq_eq_false_iff_ne,Int.toNat_natCast];and_intros<;>first | rfl | exact True.intro | omega) hs fun ac cU aU hs2=>loop1 _ _ _ ?_
  rw[show n+((0:Nat):Int)=n from by omega]
  exact hs2.nx _

end
end Go.Proofs.Ytobdghmmbddfnaa

/- circuit.Compile's loop: an operation that selects. No conditions. -/
set_option linter.unusedSimpArgs false
set_option linter.unusedVariables false
namespace Go.Proofs.Ytobdghmmbddfnaa
section
variable {w0:World} {F0:Nat→Prop} {K:Kp} {ac:List Act} {Q:Exit→Act→World→Prop} {cX:Ctx} {aX:Act}

theorem c8allY (l:List OpD) (T G:List GateD) (n i:Int) (a b c m:Int) (k:U4) (ks:List U4) (vs:List Int) (v:Int):(runs8.map fun r=>(runAt iD false 3000 (c8C l T G n i a b c m k ks vs v r.1 r.2) [true,false] [2,5,6,16,17,18] [16,32,64,128] [],(run iD false 3000 (c8C l T G n i a b c m k ks vs v r.1 r.2) [true,false]).cfg.k)) =
    List.replicate 6 (runAt iD false 3000 (c8C l T G n i a b c m k ks vs v [0,1,2,3,4,5,8,9] [7,10]) [true,false] [2,5,6,16,17,18] [16,32,64,128] [],lpBk cpA_k):=by kernel_rfl
theorem c8allZ (l:List OpD) (T G:List GateD) (n i:Int) (a b c m:Int) (k:U4) (ks:List U4) (vs:List Int) (v:Int):(runs8.map fun r=>(runAt iD false 3000 (c8C l T G n i a b c m k ks vs v r.1 r.2) [false,false] [2,5,6,16,17,18] [16,32,64,128] [],(run iD false 3000 (c8C l T G n i a b c m k ks vs v r.1 r.2) [false,false]).cfg.k)) =
    List.replicate 6 (runAt iD false 3000 (c8C l T G n i a b c m k ks vs v [0,1,2,3,4,5,8,9] [7,10]) [false,false] [2,5,6,16,17,18] [16,32,64,128] [],lpBk cpA_k):=by kernel_rfl
theorem of_runs {env:Env} {n:Nat} {path:List Bool} {tl ml:List Nat} {ftl:List (List Nat)} {C:List Nat×List Nat→Cfg} {o:Option At} {k:List KI} (h:(runs8.map fun r=>(runAt env false n (C r) path tl ml ftl,(run env false n (C r) path).cfg.k))=List.replicate 6 (o,k)) {r:List Nat×List Nat} (hr:r∈runs8) :
    runAt env false n (C r) path tl ml ftl=o∧(run env false n (C r) path).cfg.k=k:=by
  have h1:(runAt env false n (C r) path tl ml ftl,(run env false n (C r) path).cfg.k)∈List.replicate 6 (o,k):=by rw[←h];exact List.mem_map.2 ⟨r,hr,rfl⟩
  have h2:=List.eq_of_mem_replicate h1
  exact ⟨congrArg Prod.fst h2,congrArg Prod.snd h2⟩
theorem cp8bR {r:List Nat×List Nat} (hr:r∈runs8) (l:List OpD) (T G:List GateD) (n i:Int) (a b c m:Int) (k:U4) (ks:List U4) (vs:List Int) (v:Int) (ho:AllP [((decide ((((List.length G):Nat):Int)≤(4096:Int)))=true),((((List.length G)+1)*184)≤140737488355328),(((List.length G)+1)≤maxLen),((List.length G)=(List.length G)),(1=1),((decide (((((List.length G)+1):Nat):Int)≤(4096:Int)))=true),((((List.length (G++[(GateD.mk oneU (0:U4) (0:U4) mO (0:U4) a v (IntKind.wrap .i64 ((IntKind.wrap .i64 (n+(1:Int)))-(1:Int))))]))+1)*184)≤140737488355328),(((List.length (G++[(GateD.mk oneU (0:U4) (0:U4) mO (0:U4) a v (IntKind.wrap .i64 ((IntKind.wrap .i64 (n+(1:Int)))-(1:Int))))]))+1)≤maxLen),(((List.length G)+1)=(List.length (G++[(GateD.mk oneU (0:U4) (0:U4) mO (0:U4) a v (IntKind.wrap .i64 ((IntKind.wrap .i64 (n+(1:Int)))-(1:Int))))]))),(1=1)]) (hs:Sim w0 F0 K ac (drawSt iD (anyOps cp8a_k) r.1 (c8S l T G n i a b c m k ks vs v)) cX aX) (hK:∀ac cY aY,Sim w0 F0 K ac (mkSt 77 [2,5,6,16,17,18] [.pt 16 0,.pt 128 0,(.v (.c (.slc 32 0 (List.length T) 23))),(.v (.c (.sl (Sq.op l)))),(.ii (((List.length l):Nat):Int)),(.ii (IntKind.wrap .i64 (i+(1:Int))))] [16,32,64,128] [(some (.fl [(.sl (Sq.gate ([]:List GateD))),(.int .i64 (0:Int)),(.int .i64 (0:Int))])),(some (.sq (Sq.gate T))),(some (.sq (Sq.gate ((G++[(GateD.mk oneU (0:U4) (0:U4) mO (0:U4) a v (IntKind.wrap .i64 ((IntKind.wrap .i64 (n+(1:Int)))-(1:Int))))])++[(GateD.mk (0:U4) (outF (inF oneU)) (outF (inF oneU)) mO (0:U4) (IntKind.wrap .i64 ((IntKind.wrap .i64 (n+(1:Int)))-(1:Int))) c (IntKind.wrap .i64 ((IntKind.wrap .i64 ((IntKind.wrap .i64 (n+(1:Int)))+(1:Int)))-(1:Int))))])))),(some (.fl [(.slc 64 0 ((List.length (G++[(GateD.mk oneU (0:U4) (0:U4) mO (0:U4) a v (IntKind.wrap .i64 ((IntKind.wrap .i64 (n+(1:Int)))-(1:Int))))]))+1) 23),(.int .i64 (IntKind.wrap .i64 ((IntKind.wrap .i64 (n+(1:Int)))+(1:Int)))),(.val (Value.pointer Option.none))]))] 4736 [] []) cY aY→Wq Try.prog Q (lpBk cpA_k) ac Exit.normal aY cY.w):Wq Try.prog Q (.ops ((anyOps cp8a_k).extract 0 7) 6 [] :: .any (anyOps cp8a_k) 6 (pickI (anyOps cp8a_k) r.2)::anyRest cp8a_k) ac .normal aX cX.w:=
  run_at (env:=iD) iD_ok (c:=c8C l T G n i a b c m k ks vs v r.1 r.2) ((of_runs (C:=fun r=>c8C l T G n i a b c m k ks vs v r.1 r.2) (c8all l T G n i a b c m k ks vs v) hr).1.trans (cp8b_at l T G n i a b c m k ks vs v)) (of_runs (C:=fun r=>c8C l T G n i a b c m k ks vs v r.1 r.2) (c8all l T G n i a b c m k ks vs v) hr).2 ho hs hK
theorem cp8byR {r:List Nat×List Nat} (hr:r∈runs8) (l:List OpD) (T G:List GateD) (n i:Int) (a b c m:Int) (k:U4) (ks:List U4) (vs:List Int) (v:Int) (ho:AllP [((decide ((((List.length G):Nat):Int)≤(4096:Int)))=true),((((List.length G)+1)*184)≤140737488355328),(((List.length G)+1)≤maxLen),((List.length G)=(List.length G)),(1=1),((decide (((((List.length G)+1):Nat):Int)≤(4096:Int)))=false)]) (hs:Sim w0 F0 K ac (drawSt iD (anyOps cp8a_k) r.1 (c8S l T G n i a b c m k ks vs v)) cX aX) (hK:∀ac cY aY,Sim w0 F0 K ac (mkSt 77 [2,5,6,16,17,18] [.pt 16 0,.pt 128 0,(.v (.c (.slc 32 0 (List.length T) 23))),(.v (.c (.sl (Sq.op l)))),(.ii (((List.length l):Nat):Int)),(.ii (IntKind.wrap .i64 (i+(1:Int))))] [16,32,64,128] [(some (.fl [(.sl (Sq.gate ([]:List GateD))),(.int .i64 (0:Int)),(.int .i64 (0:Int))])),(some (.sq (Sq.gate T))),(some (.sq (Sq.gate (G++[(GateD.mk oneU (0:U4) (0:U4) mO (0:U4) a v (IntKind.wrap .i64 ((IntKind.wrap .i64 (n+(1:Int)))-(1:Int))))])))),(some (.fl [(.slc 64 0 ((List.length G)+1) 23),(.int .i64 (IntKind.wrap .i64 ((IntKind.wrap .i64 (n+(1:Int)))+(1:Int)))),(.val (Value.pointer Option.none))]))] 4560 [] []) cY aY→Wq Try.prog Q (lpBk cpA_k) ac Exit.normal aY cY.w):Wq Try.prog Q (.ops ((anyOps cp8a_k).extract 0 7) 6 [] :: .any (anyOps cp8a_k) 6 (pickI (anyOps cp8a_k) r.2)::anyRest cp8a_k) ac .normal aX cX.w:=
  run_at (env:=iD) iD_ok (c:=c8C l T G n i a b c m k ks vs v r.1 r.2) ((of_runs (C:=fun r=>c8C l T G n i a b c m k ks vs v r.1 r.2) (c8allY l T G n i a b c m k ks vs v) hr).1.trans (cp8by_at l T G n i a b c m k ks vs v)) (of_runs (C:=fun r=>c8C l T G n i a b c m k ks vs v r.1 r.2) (c8allY l T G n i a b c m k ks vs v) hr).2 ho hs hK
theorem cp8bzR {r:List Nat×List Nat} (hr:r∈runs8) (l:List OpD) (T G:List GateD) (n i:Int) (a b c m:Int) (k:U4) (ks:List U4) (vs:List Int) (v:Int) (ho:AllP [((decide ((((List.length G):Nat):Int)≤(4096:Int)))=false),((decide ((((List.length G):Nat):Int)≤(4096:Int)))=false)]) (hs:Sim w0 F0 K ac (drawSt iD (anyOps cp8a_k) r.1 (c8S l T G n i a b c m k ks vs v)) cX aX) (hK:∀ac cY aY,Sim w0 F0 K ac (mkSt 77 [2,5,6,16,17,18] [.pt 16 0,.pt 128 0,(.v (.c (.slc 32 0 (List.length T) 23))),(.v (.c (.sl (Sq.op l)))),(.ii (((List.length l):Nat):Int)),(.ii (IntKind.wrap .i64 (i+(1:Int))))] [16,32,64,128] [(some (.fl [(.sl (Sq.gate ([]:List GateD))),(.int .i64 (0:Int)),(.int .i64 (0:Int))])),(some (.sq (Sq.gate T))),(some (.sq (Sq.gate G))),(some (.fl [(.slc 64 0 (List.length G) 23),(.int .i64 (IntKind.wrap .i64 ((IntKind.wrap .i64 (n+(1:Int)))+(1:Int)))),(.val (Value.pointer Option.none))]))] 4384 [] []) cY aY→Wq Try.prog Q (lpBk cpA_k) ac Exit.normal aY cY.w):Wq Try.prog Q (.ops ((anyOps cp8a_k).extract 0 7) 6 [] :: .any (anyOps cp8a_k) 6 (pickI (anyOps cp8a_k) r.2)::anyRest cp8a_k) ac .normal aX cX.w:=
  run_at (env:=iD) iD_ok (c:=c8C l T G n i a b c m k ks vs v r.1 r.2) ((of_runs (C:=fun r=>c8C l T G n i a b c m k ks vs v r.1 r.2) (c8allZ l T G n i a b c m k ks vs v) hr).1.trans (cp8bz_at l T G n i a b c m k ks vs v)) (of_runs (C:=fun r=>c8C l T G n i a b c m k ks vs v r.1 r.2) (c8allZ l T G n i a b c m k ks vs v) hr).2 ho hs hK
theorem c8get:∃oc,(anyOps cp8a_k)[6]? = some oc∧oc.guard=none:=by
  have h:6<(anyOps cp8a_k).size:=by rw[c8size];decide
  refine ⟨(anyOps cp8a_k)[6],Array.getElem?_eq_getElem h,?_⟩
  have g:=c8g
  rw[Array.getElem?_eq_getElem h] at g
  simpa using g

section
variable {l:List OpD} {T G:List GateD} {n i a b c m v:Int} {k:U4} {ks:List U4} {vs:List Int} {w0:World} {F0:Nat→Prop} {K:Kp} {ac:List Act} {Q:Exit→Act→World→Prop} {cX:Ctx} {aX:Act}

theorem cp8c (h1:0≤n) (h2:n≤600001) (h3:0≤i) (h4:i≤1000) (h5:G.length≤4097) (h6:T.length≤1000) (hs:Sim w0 F0 K ac (c8S l T G n i a b c m k ks vs v) cX aX)
    (hK:∀ac cY aY,Sim w0 F0 K ac (cS l T (pushGs G [prodG a v n,sumG oneU n oneU c (n+1)]) (n+2) (i+1)) cY aY→Wq Try.prog Q (lpBk cpA_k) ac .normal aY cY.w):Wq Try.prog Q cp8a_k ac .normal aX cX.w:=by
  have wi:IntKind.wrap IntKind.i64 (i+1)=i+1:=wrap_id (by omega) (by omega)
  have w1:IntKind.wrap IntKind.i64 (n+1)=n+1:=wrap_id (by omega) (by omega)
  have w2:IntKind.wrap IntKind.i64 (n+1-1)=n:=by rw[wrap_id (by omega) (by omega)];omega
  have w3:IntKind.wrap IntKind.i64 (n+1+1)=n+2:=by rw[wrap_id (by omega) (by omega)];omega
  have w4:IntKind.wrap IntKind.i64 (n+2-1)=n+1:=by rw[wrap_id (by omega) (by omega)];omega
  obtain ⟨oc,ho1,ho2⟩:=c8get
  rw[c8k]
  refine split8 (ops:=anyOps cp8a_k) (σ:=c8S l T G n i a b c m k ks vs v) (id:=18) (k:=anyRest cp8a_k) iD_ok hs c8size c8anc c8ok ho1 ho2 (c8run l T G n i a b c m k ks vs v) ?_
  intro r hr y a' hs'
  by_cases g1:G.length≤4095
  · refine cp8bR hr l T G n i a b c m k ks vs v (by simp only[AllP,maxLen,decide_eq_true_eq,decide_eq_false_iff_not,List.length_append,List.length_cons,List.length_nil,beq_iff_eq,bne_iff_ne,bne_eq_false_iff_eq,beq_eq_false_iff_ne,Int.toNat_natCast];and_intros<;>first | rfl | refine True.intro | omega) hs' fun ac cU aU hs2=>hK _ _ _ ?_
    rw[w1,w2,w3,w4,wi] at hs2
    rw[(show pushGs G [prodG a v n,sumG oneU n oneU c (n+1)]=pushG (pushG G (prodG a v n)) (sumG oneU n oneU c (n+1)) from rfl),pushT (show G.length≤4096 by omega),pushT (G:=G++[prodG a v n]) (by simp;omega)]
    unfold cS
    rw[show ((G++[prodG a v n])++[sumG oneU n oneU c (n+1)]).length=(G++[prodG a v n]).length+1 from by simp]
    exact hs2.nx _
  by_cases g2:G.length=4096
  · refine cp8byR hr l T G n i a b c m k ks vs v (by simp only[AllP,maxLen,decide_eq_true_eq,decide_eq_false_iff_not,List.length_append,List.length_cons,List.length_nil,beq_iff_eq,bne_iff_ne,bne_eq_false_iff_eq,beq_eq_false_iff_ne,Int.toNat_natCast];and_intros<;>first | rfl | refine True.intro | omega) hs' fun ac cU aU hs2=>hK _ _ _ ?_
    rw[w1,w2,w3,wi] at hs2
    rw[(show pushGs G [prodG a v n,sumG oneU n oneU c (n+1)]=pushG (pushG G (prodG a v n)) (sumG oneU n oneU c (n+1)) from rfl),pushT (show G.length≤4096 by omega),pushF (G:=G++[prodG a v n]) (by simp;omega)]
    unfold cS
    rw[show (G++[prodG a v n]).length=G.length+1 from by simp]
    exact hs2.nx _
  · refine cp8bzR hr l T G n i a b c m k ks vs v (by simp only[AllP,maxLen,decide_eq_true_eq,decide_eq_false_iff_not,List.length_append,List.length_cons,List.length_nil,beq_iff_eq,bne_iff_ne,bne_eq_false_iff_eq,beq_eq_false_iff_ne,Int.toNat_natCast];and_intros<;>first | rfl | refine True.intro | omega) hs' fun ac cU aU hs2=>hK _ _ _ ?_
    rw[w1,w3,wi] at hs2
    rw[push_none (by omega)]
    exact hs2.nx _

theorem cpT8 (h1:0≤n) (h2:n≤600000) (h3:0≤i) (h4:i≤1000) (h5:G.length≤4097) (h6:T.length≤1000) (hs:Sim w0 F0 K ac (cO l T G n i 8 a b c m k ks vs) cX aX)
    (hK:∀ac cY aY,Sim w0 F0 K ac (cS l T (pushGs G (gatesOf n 8 a b c m k ks vs)) (n+nvOf 8 m vs) (i+1)) cY aY→Wq Try.prog Q (lpBk cpA_k) ac .normal aY cY.w):Wq Try.prog Q cpB_k ac .normal aX cX.w:=by
  have w1:IntKind.wrap IntKind.i64 (n+1)=n+1:=wrap_id (by omega) (by omega)
  have w2:IntKind.wrap IntKind.i64 (n+1-1)=n:=by rw[wrap_id (by omega) (by omega)];omega
  have eg:gatesOf n 8 a b c m k ks vs=[boolG a,sumG oneU b mO c n]++[prodG a n (n+1),sumG oneU (n+1) oneU c (n+2)]:=rfl
  rw[eg,pushGs_app,show n+nvOf 8 m vs=n+3 from rfl] at hK
  have go:∀ac cY aY,Sim w0 F0 K ac (c8S l T (pushGs G [boolG a,sumG oneU b mO c n]) (n+1) i a b c m k ks vs n) cY aY→Wq Try.prog Q cp8a_k ac .normal aY cY.w:=fun ac cY aY hs3=>
    cp8c (by omega) (by omega) h3 h4 (pushGs_len h5) h6 hs3 fun ac cU aU hs4=>hK _ _ _ (by
      rw[show n+1+1=n+2 from by omega,show n+1+2=n+3 from by omega] at hs4
      exact hs4)
  by_cases g1:G.length≤4095
  · refine cp8a l T G n i a b c m k ks vs (by simp only[AllP,maxLen,decide_eq_true_eq,decide_eq_false_iff_not,List.length_append,List.length_cons,List.length_nil,beq_iff_eq,bne_iff_ne,bne_eq_false_iff_eq,beq_eq_false_iff_ne,Int.toNat_natCast];and_intros<;>first | rfl | exact True.intro | omega) hs fun ac cU aU hs2=>go _ _ _ ?_
    rw[w1,w2] at hs2
    rw[(show pushGs G [boolG a,sumG oneU b mO c n]=pushG (pushG G (boolG a)) (sumG oneU b mO c n) from rfl),pushT (show G.length≤4096 by omega),pushT (G:=G++[boolG a]) (by simp;omega)]
    unfold c8S
    rw[show ((G++[boolG a])++[sumG oneU b mO c n]).length=(G++[boolG a]).length+1 from by simp]
    exact hs2.nx _
  by_cases g2:G.length=4096
  · refine cp8ay l T G n i a b c m k ks vs (by simp only[AllP,maxLen,decide_eq_true_eq,decide_eq_false_iff_not,List.length_append,List.length_cons,List.length_nil,beq_iff_eq,bne_iff_ne,bne_eq_false_iff_eq,beq_eq_false_iff_ne,Int.toNat_natCast];and_intros<;>first | rfl | exact True.intro | omega) hs fun ac cU aU hs2=>go _ _ _ ?_
    rw[w1,w2] at hs2
    rw[(show pushGs G [boolG a,sumG oneU b mO c n]=pushG (pushG G (boolG a)) (sumG oneU b mO c n) from rfl),pushT (show G.length≤4096 by omega),pushF (G:=G++[boolG a]) (by simp;omega)]
    unfold c8S
    rw[show (G++[boolG a]).length=G.length+1 from by simp]
    exact hs2.nx _
  · refine cp8az l T G n i a b c m k ks vs (by simp only[AllP,maxLen,decide_eq_true_eq,decide_eq_false_iff_not,List.length_append,List.length_cons,List.length_nil,beq_iff_eq,bne_iff_ne,bne_eq_false_iff_eq,beq_eq_false_iff_ne,Int.toNat_natCast];and_intros<;>first | rfl | exact True.intro | omega) hs fun ac cU aU hs2=>go _ _ _ ?_
    rw[w1,w2] at hs2
    rw[push_none (by omega)]
    exact hs2.nx _

end
end
end Go.Proofs.Ytobdghmmbddfnaa

/- circuit.Compile: contract. No conditions. -/
set_option linter.unusedSimpArgs false
set_option linter.unusedVariables false
namespace Go.Proofs.Ytobdghmmbddfnaa

/-- What a circuit, an error and a place are told as. -/
def compSV (r:(List GateD×Int×Int)×Int×Int):SV:=.t [.a [.sl (.gate r.1.1),.int .i64 r.1.2.1,.int .i64 r.1.2.2],.c (.int .i64 r.2.1),.c (.int .i64 r.2.2)]
theorem drop_getO (L:List OpD) {i:Nat} (h:i<L.length):L.drop i=L.getD i op0::L.drop (i+1):=by
  rw[List.drop_eq_getElem_cons h,List.getD_eq_getElem?_getD,List.getElem?_eq_getElem h,Option.getD_some]

theorem comp_fnd (l:List OpD):FnD Try.prog 9 [.v (.c (.sl (.op l)))] (compSV (compR l)) []:=by
  by_cases hL:l.length > 1000
  · have e:compR l=(([],0,0),2,0):=if_pos hL
    rw[e]
    exact fn_sound iD_ok Try.func9 (cpL l) (by simp only[AllP,maxLen,decide_eq_true_eq,decide_eq_false_iff_not,List.length_append,List.length_cons,List.length_nil,beq_iff_eq,bne_iff_ne,bne_eq_false_iff_eq,beq_eq_false_iff_ne,Int.toNat_natCast];and_intros<;>first | rfl | exact True.intro | omega)
  have e0:compR l=compE (compL l [] [] 0 0):=if_neg hL
  rw[e0]
  refine fn_start (fn:=Try.f9) (c:=bodyOf Try.f9) Try.func9 rfl rfl fun x0 a0 hk hF hs0=>?_
  refine cpA l (by simp only[AllP,maxLen,decide_eq_true_eq,decide_eq_false_iff_not,List.length_append,List.length_cons,List.length_nil,beq_iff_eq,bne_iff_ne,bne_eq_false_iff_eq,beq_eq_false_iff_ne,Int.toNat_natCast];and_intros<;>first | rfl | exact True.intro | omega) hs0 fun ac cY aY hs1=>?_
  have hs2:=hs1.nilRow (p:=32) (svs' := [.v (.c (.ptr 16 0)),.v (.c (.ptr 128 0)),.v (.c (.slc 32 0 0 23)),.v (.c (.sl (.op l))),.v (.c (.int .i64 (l.length:Int))),.v (.c (.int .i64 0))])
    (ml' := [16,32,128]) (ens' := [some (.fl [.sl (.gate []),.int .i64 0,.int .i64 0]),some (.sq (.gate [])),some (.fl [.val (.slice none 0 0),.int .i64 0,.val (.pointer none)])]) (q:=.gate []) (by decide) (by decide) rfl
    (fun r=>by
      simp only[look]
      by_cases h1:r=16
      · subst h1;rfl
      by_cases h2:r=32
      · subst h2;rfl
      by_cases h3:r=128
      · subst h3;rfl
      simp only[h1,h2,h3,if_false])
    ⟨.inl rfl,.inl rfl,.inr ⟨23,rfl,rfl⟩,.inl rfl,.inl rfl,.inl rfl,trivial⟩
  have hs3:=hs2.nilBlk (p:=64) (z:=128) (l' := [.slc 64 0 0 23,.int .i64 0,.val (.pointer none)]) (ml' := [16,32,64,128]) (ens' := [some (.fl [.sl (.gate []),.int .i64 0,.int .i64 0]),some (.sq (.gate [])),some (.sq (.gate [])),some (.fl [.slc 64 0 0 23,.int .i64 0,.val (.pointer none)])]) (q:=.gate []) (by decide) (by decide) rfl rfl
    ⟨.inr (.inl ⟨23,rfl,rfl⟩),.inl rfl,.inl rfl,trivial⟩
    (fun r=>by
      simp only[look]
      by_cases h1:r=16
      · subst h1;rfl
      by_cases h2:r=32
      · subst h2;rfl
      by_cases h4:r=64
      · subst h4;rfl
      by_cases h3:r=128
      · subst h3;rfl
      simp only[h1,h2,h3,h4,if_false])
  have hs4:Sim x0.w x0.F kAll ac (cS l [] [] 0 ((0:Nat):Int)) (nilCtx (nilCtx cY 32) 64) aY:=hs3
  clear hs1 hs2 hs3
  change Wq Try.prog _ _ _ _ _ (nilCtx (nilCtx cY 32) 64).w
  refine loop_rule (ι:={ s:Nat×List GateD×List GateD×Int // s.1≤l.length∧s.2.1.length≤s.1∧s.2.2.1.length≤4097∧0≤s.2.2.2∧s.2.2.2≤508*(s.1:Int)∧compL (l.drop s.1) s.2.1 s.2.2.1 s.2.2.2 (s.1:Int)=compL l [] [] 0 0 })
    (fun s=>cS l s.1.2.1 s.1.2.2.1 s.1.2.2.2 (s.1.1:Int)) (fun s=>l.length-s.1.1) (c:=lpC cpA_k) (k:=lpR cpA_k) (by kernel_rfl) (fun s ih ac cY aY hs=>?_) ⟨(0,[],[],0),Nat.zero_le _,Nat.zero_le _,Nat.zero_le _,Int.le_refl _,Int.le_refl _,rfl⟩ hs4
  obtain ⟨⟨i,T,G,n⟩,hi,hT,hG,hn,hn2,he⟩:=s
  simp only at ih hs hi hT hG hn hn2 he
  rw[←he]
  by_cases h:i<l.length
  · obtain ⟨o,ho⟩:∃o,o=l.getD i op0:=⟨_,rfl⟩
    rw[drop_getO l h,←ho] at he ⊢
    by_cases hc:chkO o n=0
    · have e1:compL (o::l.drop (i+1)) T G n (i:Int)=compL (l.drop (i+1)) (T++tellO o) (pushGs G (gatesO n o)) (n+nvO o) ((i:Int)+1):=if_pos hc
      rw[e1] at he ⊢
      have hnv:=nv_bound hc
      refine cpB l T G n i (by rw[Int.toNat_natCast,←ho];exact ⟨decide_eq_true (by omega),by omega,by omega,by show (chkO o n != 0)=false;rw[hc];rfl,trivial⟩) hs fun ac cU aU hs2=>?_
      rw[Int.toNat_natCast,←ho] at hs2
      obtain ⟨t,a,b,c,m,k,ks,vs⟩:=o
      have hs3:Sim x0.w x0.F kAll ac (cO l T G n i t a b c m k ks vs) cU aU:=hs2.nx _
      have fin:∀ac cY aY,Sim x0.w x0.F kAll ac (cS l (T++tellO ⟨t,a,b,c,m,k,ks,vs⟩) (pushGs G (gatesOf n t a b c m k ks vs)) (n+nvOf t m vs) ((i:Int)+1)) cY aY→Wq Try.prog _ (lpBk cpA_k) ac .normal aY cY.w:=fun ac cY aY hs4=>by
        refine ih ⟨(i+1,T++tellO ⟨t,a,b,c,m,k,ks,vs⟩,pushGs G (gatesOf n t a b c m k ks vs),n+nvOf t m vs),?_,?_,?_,?_,?_,?_⟩ (by show l.length-(i+1)<l.length-i;omega) ac cY aY hs4
        · show i+1≤l.length;omega
        · show (T++tellO _).length≤i+1
          rw[List.length_append]
          have:(tellO ⟨t,a,b,c,m,k,ks,vs⟩).length≤1:=by unfold tellO;split<;>simp
          omega
        · exact pushGs_len hG
        · have h1:0≤nvOf t m vs:=hnv.1
          show 0≤n+nvOf t m vs
          omega
        · have h1:nvOf t m vs≤508:=hnv.2
          show n+nvOf t m vs≤508*((i+1:Nat):Int)
          omega
        · exact he
      rw[he] at *
      have hc' : checkE t a b c m k ks vs n=0:=hc
      have b2:n≤600000:=by omega
      have b3:(0:Int)≤i:=by omega
      have b4:(i:Int)≤1000:=by omega
      have b6:T.length≤1000:=by omega
      have nt:∀{t:Int} {a b c m:Int} {k:U4} {ks:List U4} {vs:List Int},t≠2→T++tellO ⟨t,a,b,c,m,k,ks,vs⟩=T:=fun ht=>by unfold tellO;rw[if_neg ht,List.append_nil]
      by_cases g1:t=1
      · subst g1;rw[nt (by decide)] at fin;exact cpT1 hn b2 b3 b4 hG b6 hs3 fin
      by_cases g2:t=2
      · subst g2
        refine cpT2 hn b2 b3 b4 hG b6 hs3 fun ac cY aY hs4=>fin ac cY aY ?_
        rw[show n+nvOf 2 m vs=n from Int.add_zero n]
        exact hs4
      by_cases g3:t=3
      · subst g3;rw[nt (by decide)] at fin;exact cpT3 hn b2 b3 b4 hG b6 hs3 fin
      by_cases g4:t=4
      · subst g4;rw[nt (by decide)] at fin;exact cpT4 hn b2 b3 b4 hG b6 hs3 fin
      by_cases g5:t=5
      · subst g5;rw[nt (by decide)] at fin;exact cpT5 hn b2 b3 b4 hG b6 hs3 fin
      by_cases g6:t=6
      · subst g6;rw[nt (by decide)] at fin
        obtain ⟨q1,q2,q3⟩:=chk_lin hc'
        exact cpT6 hn b2 b3 b4 hG b6 q1 q2 q3 hs3 fin
      by_cases g7:t=7
      · subst g7;rw[nt (by decide)] at fin;exact cpT7 hn b2 b3 b4 hG b6 hs3 fin
      by_cases g8:t=8
      · subst g8;rw[nt (by decide)] at fin;exact cpT8 hn b2 b3 b4 hG b6 hs3 fin
      by_cases g9:t=9
      · subst g9;rw[nt (by decide)] at fin;exact cpT9 hn b2 b3 b4 hG b6 hs3 fin
      by_cases g10:t=10
      · subst g10;rw[nt (by decide)] at fin
        obtain ⟨q1,q2⟩:=chk_bits hc'
        exact cpT10 (N:=m.toNat) hn b2 b3 b4 hG b6 (by omega) (by omega) (by omega) hs3 fin
      by_cases g11:t=11
      · subst g11;rw[nt (by decide)] at fin;exact cpT11 hn b2 b3 b4 hG b6 hs3 fin
      · exfalso
        have:checkE t a b c m k ks vs n=61:=by simp [checkE, *]
        rw[this] at hc'
        cases hc'
    · have e1:compL (o::l.drop (i+1)) T G n (i:Int) = .inr (chkO o n,(i:Int)):=if_neg hc
      rw[e1]
      refine run_end2 iD_ok hk hF (cpE_end l T G n i) (by rw[Int.toNat_natCast,←ho];exact ⟨decide_eq_true (by omega),by omega,by omega,by show (chkO o n != 0)=true;exact bne_iff_ne.2 hc,trivial⟩) (fun y v hd=>?_) hs
      rw[Int.toNat_natCast,←ho] at hd
      exact hd
  · have e1:compL (l.drop i) T G n (i:Int) = .inl (T,G,n):=by rw[List.drop_eq_nil_of_le (by omega)];rfl
    rw[e1]
    have w0:IntKind.wrap IntKind.i64 ((T.length:Int)+(G.length:Int))=(T.length:Int)+(G.length:Int):=wrap_id (by omega) (by omega)
    by_cases c1:T.length+G.length > 4096
    · rw[show compE (.inl (T,G,n))=(([],0,0),2,0) from if_pos (.inl c1)]
      exact run_end2 iD_ok hk hF (cpX1_end l T G n i) (by rw[w0];exact ⟨decide_eq_false (by omega),decide_eq_true (by omega),trivial⟩) (fun y v hd=>hd) hs
    by_cases c2:T.length > 64
    · rw[show compE (.inl (T,G,n))=(([],0,0),2,0) from if_pos (.inr c2)]
      exact run_end2 iD_ok hk hF (cpX2_end l T G n i) (by rw[w0];exact ⟨decide_eq_false (by omega),decide_eq_false (by omega),decide_eq_true (by omega),trivial⟩) (fun y v hd=>hd) hs
    · rw[show compE (.inl (T,G,n))=((T++G,(T.length:Int),n),0,0) from if_neg (by omega)]
      exact run_end2 iD_ok hk hF (cpX3_end l T G n i) (by rw[w0];exact ⟨decide_eq_false (by omega),decide_eq_false (by omega),decide_eq_false (by omega),by omega,by simp only[maxLen];omega,rfl,rfl,by simp,trivial⟩) (fun y v hd=>hd) hs

end Go.Proofs.Ytobdghmmbddfnaa

/- The reference's All: contract. No conditions. -/
set_option linter.unusedSimpArgs false
set_option linter.unusedVariables false
namespace Go.Proofs.Ytobdghmmbddfnaa

/-- What operations made: gates, values, inputs that are left, whether one was not met. -/
structure BD where
  g:List GateD
  w:List Fr
  j:List U4
  wr:Bool
def BD.es (B:BD):List En:=[.fl [.slc 1 0 B.g.length 23,.slc 2 0 (B.w.map outF).length 4,.sl (.fr B.j),.bool B.wr],.sq (.gate B.g),.sq (.fr (B.w.map outF))]
def inX (J:List U4):Fr:=if 0<J.length then inF (J.getD 0 0) else 0
def nextJ (J:List U4):List U4:=if 0<J.length then (J.drop 1).take (J.length-1) else J
/-- One operation more. -/
def opB (B:BD) (o:OpD):BD:=⟨B.g++gatesO (B.w.length:Int) o,B.w++valsOf B.w (inX B.j) o.tag o.a o.b o.c o.n o.k o.ks o.vars,if o.tag=1 then nextJ B.j else B.j,B.wr || wrongOf B.w o.tag o.a o.b o.n⟩
/-- Operations one by one: what they made, the error, the first that is wrong, the first that is not met. -/
def refL:List OpD→BD→Int→Int→BD×Int×Int×Int
  | [],B,ms,_=>(B,0,0,ms)
  | o::r,B,ms,i=>if chkO o (B.w.length:Int)=0 then refL r (opB B o) (if (opB B o).wr=true∧ms<0 then i else ms) (i+1) else (B,chkO o (B.w.length:Int),i,ms)
def refA (l:List OpD) (I:List U4):BD×Int×Int×Int:=if l.length > 1000 then (⟨[],[],I,false⟩,2,0,-1) else refL l ⟨[],[],I,false⟩ (-1) 0
def refSV (r:BD×Int×Int×Int):SV:=.t [.c (.ptr 0 0),.c (.int .i64 r.2.1),.c (.int .i64 r.2.2.1),.c (.int .i64 r.2.2.2)]

theorem nv_vals (W:List Fr) (x:Fr) {o:OpD} {n:Int} (h:chkO o n=0):((valsOf W x o.tag o.a o.b o.c o.n o.k o.ks o.vars).length:Int)=nvO o:=by
  obtain ⟨t,a,b,c,m,k,ks,vs⟩:=o
  unfold nvO nvOf valsOf
  unfold chkO at h
  dsimp only at h ⊢
  by_cases g1:t=1
  · subst g1;rfl
  by_cases g3:t=3
  · subst g3;rfl
  by_cases g4:t=4
  · subst g4;rfl
  by_cases g5:t=5
  · subst g5;rfl
  by_cases g6:t=6
  · subst g6
    obtain ⟨q1,q2,q3⟩:=chk_lin h
    show (((if vs.length=1 then [inF (ks.getD 0 0)*vF W (vs.getD 0 0)] else linW W ks vs (vs.length-2)).length:Nat):Int)=if vs.length=1 then 1 else (vs.length:Int)-1
    by_cases hl:vs.length=1
    · rw[if_pos hl,if_pos hl];rfl
    · rw[if_neg hl,if_neg hl,linW_len];omega
  by_cases g8:t=8
  · subst g8;rfl
  by_cases g9:t=9
  · subst g9;rfl
  by_cases g10:t=10
  · subst g10
    obtain ⟨q1,q2⟩:=chk_bits h
    show (((bitW (vF W a) m.toNat++accW (vF W a) (m.toNat-1)).length:Nat):Int)=2*m-1
    rw[List.length_append,bitW_len,accW_len]
    omega
  · simp [*]
theorem gates_len (n:Int) {o:OpD} {v:Int} (h:chkO o v=0):(gatesO n o).length≤508:=by
  obtain ⟨t,a,b,c,m,k,ks,vs⟩:=o
  have h' : checkE t a b c m k ks vs v=0:=h
  show (gatesOf n t a b c m k ks vs).length≤508
  by_cases g3:t=3
  · subst g3;show 1≤508;decide
  by_cases g4:t=4
  · subst g4;show 1≤508;decide
  by_cases g5:t=5
  · subst g5;show 1≤508;decide
  by_cases g6:t=6
  · subst g6
    obtain ⟨q1,q2,q3⟩:=chk_lin h'
    show (if vs.length=1 then [linG (ks.getD 0 0) (vs.getD 0 0) n] else linL n ks vs (vs.length-2)).length≤508
    by_cases hl:vs.length=1
    · rw[if_pos hl];show 1≤508;decide
    · rw[if_neg hl,linL_len];omega
  by_cases g7:t=7
  · subst g7;show 1≤508;decide
  by_cases g8:t=8
  · subst g8;show 4≤508;decide
  by_cases g9:t=9
  · subst g9;show 3≤508;decide
  by_cases g10:t=10
  · subst g10
    obtain ⟨q1,q2⟩:=chk_bits h'
    show (bitB n m.toNat++bitS n (m.toNat:Int) (m.toNat-1)++[equalG (lastV n (m.toNat:Int) (m.toNat-1)) a]).length≤508
    rw[List.length_append,List.length_append,bitB_len,bitS_len]
    show m.toNat+(m.toNat-1)+1≤508
    omega
  by_cases g11:t=11
  · subst g11;show 1≤508;decide
  · unfold gatesOf
    rw[if_neg g3,if_neg g4,if_neg g5,if_neg g6,if_neg g7,if_neg g8,if_neg g9,if_neg g10,if_neg g11]
    exact Nat.zero_le _

theorem inV_get {n v:Int} (h:inV n v=true):0≤v∧v<n:=by
  unfold inV at h
  simp only[Bool.and_eq_true,decide_eq_true_eq] at h
  exact h
theorem chk_a {t a b c m:Int} {k:U4} {ks:List U4} {vs:List Int} {n:Int} (h:checkE t a b c m k ks vs n=0) (ht:t=4∨t=5∨t=7∨t=8∨t=9∨t=10∨t=11):0≤a∧a<n:=by
  apply inV_get
  cases hv:inV n a with
  | true=>rfl
  | false=>
    exfalso
    rcases ht with rfl | rfl | rfl | rfl | rfl | rfl | rfl<;>simp [checkE,hv] at h
    split at h<;>simp at h
theorem chk_b {t a b c m:Int} {k:U4} {ks:List U4} {vs:List Int} {n:Int} (h:checkE t a b c m k ks vs n=0) (ht:t=4∨t=5∨t=8∨t=11):0≤b∧b<n:=by
  apply inV_get
  cases hv:inV n b with
  | true=>rfl
  | false=>
    exfalso
    rcases ht with rfl | rfl | rfl | rfl<;>simp [checkE,hv] at h
theorem chk_c {a b c m:Int} {k:U4} {ks:List U4} {vs:List Int} {n:Int} (h:checkE 8 a b c m k ks vs n=0):0≤c∧c<n:=by
  apply inV_get
  cases hv:inV n c with
  | true=>rfl
  | false=>exfalso;simp [checkE,hv] at h
theorem chk_vs {a b c m:Int} {k:U4} {ks:List U4} {vs:List Int} {n:Int} (h:checkE 6 a b c m k ks vs n=0):∀j,j<vs.length→0≤vs.getD j 0∧vs.getD j 0<n:=by
  obtain ⟨q1,q2,q3⟩:=chk_lin h
  unfold checkE at h
  rw[if_neg (by decide),if_pos rfl,if_neg (by omega)] at h
  intro j hj
  cases hv:vs.all (inV n) with
  | false=>rw[hv] at h;simp at h
  | true=>
    have:=List.all_eq_true.1 hv (vs.getD j 0) (by rw[List.getD_eq_getElem?_getD,List.getElem?_eq_getElem hj];exact List.getElem_mem hj)
    exact inV_get this

theorem all_fnd (l:List OpD) (I:List U4):FnD Try.prog 26 [.v (.c (.sl (.op l))),.v (.c (.sl (.fr I)))] (refSV (refA l I)) (refA l I).1.es:=by
  have nilB:∀{nt nx:Nat} {tl:List Nat} {svs:List SV} {w0:World} {F0:Nat→Prop} {K:Kp} {ac:List Act} {x:Ctx} {a:Act},Sim w0 F0 K ac (mkSt nt tl svs [112] [some (.fl [.val (.slice none 0 0),.val (.slice none 0 0),.sl (.fr I),.lit false])] nx [] []) x a →
      ∃y:Ctx,y.w=x.w∧Sim w0 F0 K ac (mkSt nt tl svs [32,64,112] [some (.sq (.gate [])),some (.sq (.fr [])),some (.fl [.slc 32 0 0 23,.slc 64 0 0 4,.sl (.fr I),.bool false])] nx [] []) y a:=by
    intro nt nx tl svs w0 F0 K ac x a hs
    have hs2:=hs.nilBlk (p:=32) (z:=112) (l' := [.slc 32 0 0 23,.val (.slice none 0 0),.sl (.fr I),.bool false]) (ml' := [32,112]) (ens' := [some (.sq (.gate [])),some (.fl [.slc 32 0 0 23,.val (.slice none 0 0),.sl (.fr I),.bool false])]) (q:=.gate []) rfl (by decide) rfl rfl
      ⟨.inr (.inl ⟨23,rfl,rfl⟩),.inl rfl,.inl rfl,.inr (.inr ⟨false,rfl,rfl⟩),trivial⟩
      (fun r=>by
        simp only[look]
        by_cases h1:r=32
        · subst h1;rfl
        by_cases h2:r=112
        · subst h2;rfl
        simp only[h1,h2,if_false])
    have hs3:=hs2.nilBlk (p:=64) (z:=112) (l' := [.slc 32 0 0 23,.slc 64 0 0 4,.sl (.fr I),.bool false]) (ml' := [32,64,112]) (ens' := [some (.sq (.gate [])),some (.sq (.fr [])),some (.fl [.slc 32 0 0 23,.slc 64 0 0 4,.sl (.fr I),.bool false])]) (q:=.fr []) rfl (by decide) rfl rfl
      ⟨.inl rfl,.inr (.inl ⟨4,rfl,rfl⟩),.inl rfl,.inl rfl,trivial⟩
      (fun r=>by
        simp only[look]
        by_cases h1:r=32
        · subst h1;rfl
        by_cases h3:r=64
        · subst h3;rfl
        by_cases h2:r=112
        · subst h2;rfl
        simp only[h1,h2,h3,if_false])
    exact ⟨nilCtx (nilCtx x 32) 64,rfl,hs3⟩
  refine fn_start (fn:=Try.f26) (c:=bodyOf Try.f26) Try.func26 rfl rfl fun x0 a0 hk hF hs0=>?_
  by_cases hL:l.length > 1000
  · have e:refA l I=(⟨[],[],I,false⟩,2,0,-1):=if_pos hL
    rw[e]
    refine alL l I ⟨decide_eq_true (by omega),trivial⟩ hs0 fun ac cY aY hs1=>?_
    obtain ⟨y,hy,hs2⟩:=nilB hs1
    rw[←hy]
    exact run_end2 rC_ok hk hF (alM_end I) trivial (fun y v hd=>hd) (show Sim x0.w x0.F kAll ac (alLS I) y aY from hs2)
  have e0:refA l I=refL l ⟨[],[],I,false⟩ (-1) 0:=if_neg hL
  rw[e0]
  refine alA l I ⟨decide_eq_false (by omega),trivial⟩ hs0 fun ac cY aY hs1=>?_
  obtain ⟨y,hy,hs2⟩:=nilB hs1
  rw[←hy]
  clear hs1
  have hs4:Sim x0.w x0.F kAll ac (rvS l [] (([]:List Fr).map outF) I false (-1) ((0:Nat):Int)) y aY:=hs2
  clear hs2
  obtain ⟨R,hR⟩:∃R,R=refL l ⟨[],[],I,false⟩ (-1) 0:=⟨_,rfl⟩
  rw[←hR]
  refine loop_rule (ι:={ s:Nat×BD×Int // s.1≤l.length∧(s.2.1.w.length:Int)≤508*(s.1:Int)∧s.2.1.g.length≤508*s.1∧R=refL (l.drop s.1) s.2.1 s.2.2 (s.1:Int) })
    (fun s=>rvS l s.1.2.1.g (s.1.2.1.w.map outF) s.1.2.1.j s.1.2.1.wr s.1.2.2 (s.1.1:Int)) (fun s=>l.length-s.1.1) (c:=lpC alA_k) (k:=lpR alA_k) (by kernel_rfl) (fun s ih ac cY aY hs=>?_) ⟨(0,⟨[],[],I,false⟩,-1),Nat.zero_le _,Int.le_refl _,Nat.zero_le _,hR⟩ hs4
  obtain ⟨⟨i,⟨G,W,J,wr⟩,ms⟩,hi,hW,hG,he⟩:=s
  simp only at ih hs hi hW hG he
  by_cases h:i<l.length
  · obtain ⟨o,ho⟩:∃o,o=l.getD i op0:=⟨_,rfl⟩
    rw[drop_getO l h,←ho] at he
    by_cases hc:chkO o (W.length:Int)=0
    · have e1:R=refL (l.drop (i+1)) (opB ⟨G,W,J,wr⟩ o) (if (opB ⟨G,W,J,wr⟩ o).wr=true∧ms<0 then (i:Int) else ms) ((i:Int)+1):=he.trans (if_pos hc)
      have hvl:=nv_vals W (inX J) hc
      have hnv:=nv_bound hc
      have hgl:=gates_len (W.length:Int) hc
      refine alB l G (W.map outF) J wr ms i (by rw[Int.toNat_natCast,←ho,List.length_map];exact ⟨decide_eq_true (by omega),by omega,by omega,by show (chkO o (W.length:Int) != 0)=false;rw[hc];rfl,trivial⟩) hs fun ac cU aU hs2=>?_
      rw[Int.toNat_natCast,←ho] at hs2
      obtain ⟨B',hB'⟩:∃B',B' = opB ⟨G,W,J,wr⟩ o:=⟨_,rfl⟩
      rw[←hB'] at e1
      have lw:(B'.w.length:Int)≤508*((i+1:Nat):Int):=by
        rw[hB']
        show ((W++valsOf W (inX J) o.tag o.a o.b o.c o.n o.k o.ks o.vars).length:Int)≤_
        rw[List.length_append]
        omega
      have lg:B'.g.length≤508*(i+1):=by
        rw[hB']
        show (G++gatesO (W.length:Int) o).length≤_
        rw[List.length_append]
        omega
      have wi:IntKind.wrap IntKind.i64 ((i:Int)+1)=((i+1:Nat):Int):=by rw[wrap_id (by omega) (by omega)];omega
      have done:∀ac cY aY,Sim x0.w x0.F kAll ac (rvT l B'.g (B'.w.map outF) B'.j B'.wr ms i) cY aY→Wq Try.prog (Post Try.prog Try.f26 x0 (refSV R) R.1.es) alR_k ac .normal aY cY.w:=by
        intro ac cY aY hs3
        by_cases c1:B'.wr=true
        · by_cases c2:ms<0
          · refine alTa l _ _ _ _ ms i ⟨c1,decide_eq_true c2,trivial⟩ hs3 fun ac cV aV hs4=>?_
            rw[wi] at hs4
            exact ih ⟨(i+1,B',(i:Int)),by omega,lw,lg,by rw[e1,if_pos ⟨c1,c2⟩];rfl⟩ (by show l.length-(i+1)<l.length-i;omega) ac cV aV (hs4.nx _)
          · refine alTb l _ _ _ _ ms i ⟨c1,decide_eq_false c2,trivial⟩ hs3 fun ac cV aV hs4=>?_
            rw[wi] at hs4
            exact ih ⟨(i+1,B',ms),by omega,lw,lg,by rw[e1,if_neg (fun h=>c2 h.2)];rfl⟩ (by show l.length-(i+1)<l.length-i;omega) ac cV aV (hs4.nx _)
        · rw[Bool.not_eq_true] at c1
          refine alTc l _ _ _ _ ms i ⟨c1,trivial⟩ hs3 fun ac cV aV hs4=>?_
          rw[wi] at hs4
          exact ih ⟨(i+1,B',ms),by omega,lw,lg,by rw[e1,if_neg (fun h=>by rw[c1] at h;cases h.1)];rfl⟩ (by show l.length-(i+1)<l.length-i;omega) ac cV aV (hs4.nx _)
      obtain ⟨t,a,b,c,m,k,ks,vs⟩:=o
      have hs3:Sim x0.w x0.F kAll ac (rvO l G (W.map outF) J wr ms i t a b c m k ks vs) cU aU:=hs2.nx _
      have hc' : checkE t a b c m k ks vs (W.length:Int)=0:=hc
      have bW:W.length≤600000:=by omega
      have bG:G.length≤600000:=by omega
      have hJ:t≠1→B'.j=J:=fun ht=>by rw[hB'];exact if_neg ht
      have fin:∀ac cY aY,Sim x0.w x0.F kAll ac (rvT l (G++gatesOf (W.length:Int) t a b c m k ks vs) ((W++valsOf W (inX J) t a b c m k ks vs).map outF) B'.j (wr || wrongOf W t a b m) ms i) cY aY→Wq Try.prog (Post Try.prog Try.f26 x0 (refSV R) R.1.es) alR_k ac .normal aY cY.w:=fun ac cY aY hs4=>by
        refine done ac cY aY ?_
        have h4:Sim x0.w x0.F kAll ac (rvT l (opB ⟨G,W,J,wr⟩ ⟨t,a,b,c,m,k,ks,vs⟩).g ((opB ⟨G,W,J,wr⟩ ⟨t,a,b,c,m,k,ks,vs⟩).w.map outF) B'.j (opB ⟨G,W,J,wr⟩ ⟨t,a,b,c,m,k,ks,vs⟩).wr ms i) cY aY:=hs4
        rw[←hB'] at h4
        exact h4
      by_cases g1:t=1
      · subst g1
        refine alT1 (x:=inX J) (J2:=B'.j) bW bG ?_ hs3 fin
        rw[hB']
        show (0<J.length∧inX J=inF (J.getD 0 0)∧nextJ J=(J.drop 1).take (J.length-1))∨(J.length=0∧inX J=0∧nextJ J=J)
        by_cases hj:0<J.length
        · exact .inl ⟨hj,if_pos hj,if_pos hj⟩
        · exact .inr ⟨by omega,if_neg hj,if_neg hj⟩
      rw[hJ g1] at fin
      by_cases g2:t=2
      · subst g2;exact alT2 bW bG hs3 fin
      by_cases g3:t=3
      · subst g3;exact alT3 bW bG hs3 fin
      by_cases g4:t=4
      · subst g4;exact alT4 bW bG (chk_a hc' (by simp)) (chk_b hc' (by simp)) hs3 fin
      by_cases g5:t=5
      · subst g5;exact alT5 bW bG (chk_a hc' (by simp)) (chk_b hc' (by simp)) hs3 fin
      by_cases g6:t=6
      · subst g6
        obtain ⟨q1,q2,q3⟩:=chk_lin hc'
        exact alT6 bW bG q1 q2 q3 (chk_vs hc') hs3 fin
      by_cases g7:t=7
      · subst g7;exact alT7 bW bG (chk_a hc' (by simp)) hs3 fin
      by_cases g8:t=8
      · subst g8;exact alT8 bW bG (chk_a hc' (by simp)) (chk_b hc' (by simp)) (chk_c hc') hs3 fin
      by_cases g9:t=9
      · subst g9;exact alT9 bW bG (chk_a hc' (by simp)) hs3 fin
      by_cases g10:t=10
      · subst g10
        obtain ⟨q1,q2⟩:=chk_bits hc'
        exact alT10 (N:=m.toNat) bW bG (by omega) (by omega) (by omega) (chk_a hc' (by simp)) hs3 fin
      by_cases g11:t=11
      · subst g11;exact alT11 bW bG (chk_a hc' (by simp)) (chk_b hc' (by simp)) hs3 fin
      · exfalso
        have:checkE t a b c m k ks vs (W.length:Int)=61:=by simp [checkE, *]
        rw[this] at hc'
        cases hc'
    · have e1:R=(⟨G,W,J,wr⟩,chkO o (W.length:Int),(i:Int),ms):=he.trans (if_neg hc)
      rw[e1]
      refine run_end2 rC_ok hk hF (alE_end l G (W.map outF) J wr ms i) (by rw[Int.toNat_natCast,←ho,List.length_map];exact ⟨decide_eq_true (by omega),by omega,by omega,by show (chkO o (W.length:Int) != 0)=true;exact bne_iff_ne.2 hc,trivial⟩) (fun y v hd=>?_) hs
      rw[Int.toNat_natCast,←ho,List.length_map] at hd
      exact hd
  · have e1:R=(⟨G,W,J,wr⟩,0,0,ms):=by rw[he,List.drop_eq_nil_of_le (by omega)];rfl
    rw[e1]
    exact run_end2 rC_ok hk hF (alX_end l G (W.map outF) J wr ms i) ⟨decide_eq_false (by omega),trivial⟩ (fun y v hd=>hd) hs

end Go.Proofs.Ytobdghmmbddfnaa

/- The reference's Told, walked. No conditions. -/
namespace Go.Proofs.Ytobdghmmbddfnaa
section
variable {w0:World} {F0:Nat→Prop} {K:Kp} {ac:List Act} {Q:Exit→Act→World→Prop} {cX:Ctx} {aX:Act}

theorem nil_sl {x:Ctx} {v:Value} (h:denS x (.v (.c (.val (.slice none 0 0)))) v):denS x (.v (.c (.sl (.fr [])))) v:=by
  obtain ⟨_,d,h⟩:=h
  have h:[v]=[Value.slice none 0 0]:=by cases d<;>exact h.1
  exact ⟨rfl,1,.inl ⟨none,0,h,rfl⟩⟩
theorem allNil_fnd (l:List OpD):FnD Try.prog 26 [.v (.c (.sl (.op l))),.v (.c (.val (.slice none 0 0)))] (refSV (refA l [])) (refA l []).1.es:=
  (all_fnd l []).conv (fun x vs h=>by
    cases h with
    | cons h1 h2=>cases h2 with
      | cons h2 h3=>exact .cons h1 (.cons (nil_sl h2) h3)) fun _ _ h=>h
--@env rB rB_ok
noncomputable def tlA_k:List KI:=(run rB false 3000 ((fun (l:List OpD)=>(⟨[.code (bodyOf Try.f27)],.normal,initSt Try.f27.ntmps [.v (.c (.sl (.op l)))]⟩:Cfg)) default) []).cfg.k
theorem tlA_hk (l:List OpD):(run rB false 3000 ((⟨[.code (bodyOf Try.f27)],.normal,initSt Try.f27.ntmps [.v (.c (.sl (.op l)))]⟩:Cfg)) []).cfg.k=tlA_k:=by kernel_rfl
theorem tlA (l:List OpD) (ho:AllP []) (hs:Sim w0 F0 K ac (initSt Try.f27.ntmps [.v (.c (.sl (.op l)))]) cX aX) (hK:∀ac cY aY,Sim w0 F0 K ac (mkSt 26 [3,7,8,9] [(.v (.c (.slc 32 0 0 23))),(.v (.c (.sl (Sq.op l)))),(.ii (((List.length l):Nat):Int)),.ii (0:Int)] [32] [(some (.sq (Sq.gate ([]:List GateD))))] 112 [] []) cY aY→Wq Try.prog Q (tlA_k) ac Exit.normal aY cY.w):Wq Try.prog Q ([.code (bodyOf Try.f27)]) ac .normal aX cX.w:=
  run_at2 (o:=⟨_,_,_,_,_,_,_⟩) rB_ok (by kernel_rfl) (tlA_hk l) ho hs hK
noncomputable def tlS (l:List OpD) (T:List GateD) (i:Int):St:=mkSt 26 [3,7,8,9] [.v (.c (.slc 32 0 T.length 23)),(.v (.c (.sl (Sq.op l)))),(.ii (((List.length l):Nat):Int)),.v (.c (.int .i64 i))] [32] [some (.sq (.gate T))] 112 [] []
theorem tlB_hk (l:List OpD) (T:List GateD) (i:Int):(run rB false 3000 ((⟨lpIn tlA_k,.normal,tlS l T i⟩:Cfg)) [true,true]).cfg.k=lpBk tlA_k:=by kernel_rfl
theorem tlB (l:List OpD) (T:List GateD) (i:Int) (ho:AllP [((decide (i<(((List.length l):Nat):Int)))=true),((0:Int)≤i),(i<(((List.length l):Nat):Int)),(((OpD.tag (List.getD l (i).toNat op0)) == (2:Int))=true),((((List.length T)+1)*184)≤140737488355328),(((List.length T)+1)≤maxLen),((List.length T)=(List.length T)),(1=1)]) (hs:Sim w0 F0 K ac (tlS l T i) cX aX) (hK:∀ac cY aY,Sim w0 F0 K ac (mkSt 26 [3,7,8,9] [(.v (.c (.slc 32 0 ((List.length T)+1) 23))),(.v (.c (.sl (Sq.op l)))),(.ii (((List.length l):Nat):Int)),(.ii (IntKind.wrap .i64 (i+(1:Int))))] [32] [(some (.sq (Sq.gate (T++[(GateD.mk (0:U4) oneU (0:U4) (0:U4) (0:U4) (OpD.a (List.getD l (i).toNat op0)) (-(1:Int)) (-(1:Int)))]))))] 416 [] []) cY aY→Wq Try.prog Q (lpBk tlA_k) ac Exit.normal aY cY.w):Wq Try.prog Q (lpIn tlA_k) ac .normal aX cX.w:=
  run_at2 (o:=⟨_,_,_,_,_,_,_⟩) rB_ok (by kernel_rfl) (tlB_hk l T i) ho hs hK
theorem tlC_hk (l:List OpD) (T:List GateD) (i:Int):(run rB false 3000 ((⟨lpIn tlA_k,.normal,tlS l T i⟩:Cfg)) [true,false]).cfg.k=lpBk tlA_k:=by kernel_rfl
theorem tlC (l:List OpD) (T:List GateD) (i:Int) (ho:AllP [((decide (i<(((List.length l):Nat):Int)))=true),((0:Int)≤i),(i<(((List.length l):Nat):Int)),(((OpD.tag (List.getD l (i).toNat op0)) == (2:Int))=false)]) (hs:Sim w0 F0 K ac (tlS l T i) cX aX) (hK:∀ac cY aY,Sim w0 F0 K ac (mkSt 26 [3,7,8,9] [(.v (.c (.slc 32 0 (List.length T) 23))),(.v (.c (.sl (Sq.op l)))),(.ii (((List.length l):Nat):Int)),(.ii (IntKind.wrap .i64 (i+(1:Int))))] [32] [(some (.sq (Sq.gate T)))] 272 [] []) cY aY→Wq Try.prog Q (lpBk tlA_k) ac Exit.normal aY cY.w):Wq Try.prog Q (lpIn tlA_k) ac .normal aX cX.w:=
  run_at2 (o:=⟨_,_,_,_,_,_,_⟩) rB_ok (by kernel_rfl) (tlC_hk l T i) ho hs hK
theorem tlX_end (l:List OpD) (T:List GateD) (i:Int):runEnd rB Try.f27 false 3000 (⟨lpIn tlA_k,.normal,tlS l T i⟩) [false] [32] []=(some ([((decide (i<(((List.length l):Nat):Int)))=false)],((.v (.c (.slc 0 0 (List.length T) 23))),[(.sq (Sq.gate T))]))):=by kernel_rfl
def toldL (l:List OpD):List GateD:=l.flatMap tellO
theorem toldL_len:∀l:List OpD,(toldL l).length≤l.length
  | []=>Nat.le_refl _
  | o::l=>by
    show (tellO o++toldL l).length≤_
    have:(tellO o).length≤1:=by unfold tellO;split<;>simp
    have:=toldL_len l
    rw[List.length_append,List.length_cons]
    omega
theorem told_fnd (l:List OpD) (hl:l.length≤1000):FnD Try.prog 27 [.v (.c (.sl (.op l)))] (.v (.c (.slc 0 0 (toldL l).length 23))) [.sq (.gate (toldL l))]:=by
  refine fn_start (fn:=Try.f27) (c:=bodyOf Try.f27) Try.func27 rfl rfl fun x0 a0 hk hF hs0=>?_
  refine tlA l trivial hs0 fun ac cY aY hs1=>?_
  refine loop_rule (ι:={ s:Nat×List GateD // s.1≤l.length∧s.2.length≤s.1∧toldL l=s.2++toldL (l.drop s.1) }) (fun s=>tlS l s.1.2 (s.1.1:Int)) (fun s=>l.length-s.1.1) (c:=lpC tlA_k) (k:=lpR tlA_k) (by kernel_rfl) (fun s ih ac cY aY hs=>?_) ⟨(0,[]),Nat.zero_le _,Nat.zero_le _,rfl⟩ (hs1.nx _)
  obtain ⟨⟨i,T⟩,hi,hT,he⟩:=s
  simp only at ih hs hi hT he
  by_cases h:i<l.length
  · have wi:IntKind.wrap IntKind.i64 ((i:Int)+1)=((i+1:Nat):Int):=by rw[wrap_id (by omega) (by omega)];omega
    obtain ⟨o,ho⟩:∃o,o=l.getD i op0:=⟨_,rfl⟩
    rw[drop_getO l h,←ho] at he
    have he2:toldL l=(T++tellO o)++toldL (l.drop (i+1)):=by rw[List.append_assoc];exact he
    by_cases c2:o.tag=2
    · refine tlB l T i (by rw[Int.toNat_natCast,←ho];exact ⟨decide_eq_true (by omega),by omega,by omega,beq_iff_eq.2 c2,by omega,by simp only[maxLen];omega,rfl,rfl,trivial⟩) hs fun ac cU aU hs2=>?_
      rw[wi,Int.toNat_natCast,←ho] at hs2
      have e1:tellO o=[toldG o.a]:=if_pos c2
      have hs3:Sim x0.w x0.F kAll ac (tlS l (T++[toldG o.a]) ((i+1:Nat):Int)) cU aU:=by
        unfold tlS
        rw[List.length_append]
        exact hs2.nx _
      exact ih ⟨(i+1,T++[toldG o.a]),by omega,by rw[List.length_append];show T.length+1≤i+1;omega,by rw[←e1];exact he2⟩ (by show l.length-(i+1)<l.length-i;omega) ac cU aU hs3
    · refine tlC l T i (by rw[Int.toNat_natCast,←ho];exact ⟨decide_eq_true (by omega),by omega,by omega,beq_eq_false_iff_ne.2 c2,trivial⟩) hs fun ac cU aU hs2=>?_
      rw[wi] at hs2
      exact ih ⟨(i+1,T),by omega,by show T.length≤i+1;omega,by rw[he2,show tellO o=[] from if_neg c2,List.append_nil]⟩ (by show l.length-(i+1)<l.length-i;omega) ac cU aU (hs2.nx _)
  · rw[show toldL l=T from by rw[he,List.drop_eq_nil_of_le (by omega)];exact List.append_nil _]
    exact run_end2 rB_ok hk hF (tlX_end l T i) ⟨decide_eq_false (by omega),trivial⟩ (fun y v hd=>hd) hs
noncomputable def allNilSpec:FnSpec
  | [.v (.c (.sl (.op l))),.v (.c (.val (.slice none 0 0)))]=>some ([],refSV (refA l []),[.fl [.slc 1 0 (refA l []).1.g.length 23,.slc 2 0 ((refA l []).1.w.map outF).length 4,.sl (.fr (refA l []).1.j),.bool (refA l []).1.wr],.sq (.gate (refA l []).1.g),.sq (.fr ((refA l []).1.w.map outF))])
  | _=>none
noncomputable def rE1:Env:=rB.set (addT rB.fn 26 allNilSpec)
theorem rE1_ok:EnvOk Try.prog rE1:=env_add rB_ok 26 allNilSpec (enters_of Try.func26 rfl rfl) fun args o r es h _=>by
  unfold allNilSpec at h
  split at h
  · cases h;exact allNil_fnd _
  · cases h
noncomputable def toldSpec:FnSpec
  | [.v (.c (.sl (.op l)))]=>some ([l.length≤1000],.v (.c (.slc 0 0 (toldL l).length 23)),[.sq (.gate (toldL l))])
  | _=>none
noncomputable def rE:Env:=rE1.set (addT rE1.fn 27 toldSpec)
theorem rE_ok:EnvOk Try.prog rE:=env_add rE1_ok 27 toldSpec (enters_of Try.func27 rfl rfl) fun args o r es h ho=>by
  unfold toldSpec at h
  split at h
  · cases h;exact told_fnd _ ho.1
  · cases h
--@env rE rE_ok
theorem r10A (l:List OpD):fnRes rE Try.f10 3000 [.v (.c (.sl (.op l)))] [true] [] []=(some ([(((Prod.fst (Prod.snd (refA l ([]:List U4)))) != (0:Int))=true)],((.t [(.a [(.sl (Sq.gate ([]:List GateD))),(.int .i64 (0:Int)),(.int .i64 (0:Int))]),(.c (.int .i64 (Prod.fst (Prod.snd (refA l ([]:List U4)))))),(.c (.int .i64 (Prod.fst (Prod.snd (Prod.snd (refA l ([]:List U4)))))))]),[]))):=by kernel_rfl
theorem r10B (l:List OpD):fnRes rE Try.f10 3000 [.v (.c (.sl (.op l)))] [false,true] [] []=(some ([(((Prod.fst (Prod.snd (refA l ([]:List U4)))) != (0:Int))=false),((List.length l)≤1000),((decide ((((List.length (toldL l)):Nat):Int) > (64:Int)))=true)],((.t [(.a [(.sl (Sq.gate ([]:List GateD))),(.int .i64 (0:Int)),(.int .i64 (0:Int))]),(.c (.int .i64 (2:Int))),(.c (.int .i64 (0:Int)))]),[]))):=by kernel_rfl
theorem r10C (l:List OpD):fnRes rE Try.f10 3000 [.v (.c (.sl (.op l)))] [false,false,true] [] []=(some ([(((Prod.fst (Prod.snd (refA l ([]:List U4)))) != (0:Int))=false),((List.length l)≤1000),((decide ((((List.length (toldL l)):Nat):Int) > (64:Int)))=false),((decide ((IntKind.wrap .i64 ((((List.length (toldL l)):Nat):Int)+(((List.length (BD.g (Prod.fst (refA l ([]:List U4))))):Nat):Int))) > (4096:Int)))=true)],((.t [(.a [(.sl (Sq.gate ([]:List GateD))),(.int .i64 (0:Int)),(.int .i64 (0:Int))]),(.c (.int .i64 (2:Int))),(.c (.int .i64 (0:Int)))]),[]))):=by kernel_rfl
theorem r10D (l:List OpD):fnRes rE Try.f10 3000 [.v (.c (.sl (.op l)))] [false,false,false] [] [288]=(some ([(((Prod.fst (Prod.snd (refA l ([]:List U4)))) != (0:Int))=false),((List.length l)≤1000),((decide ((((List.length (toldL l)):Nat):Int) > (64:Int)))=false),((decide ((IntKind.wrap .i64 ((((List.length (toldL l)):Nat):Int)+(((List.length (BD.g (Prod.fst (refA l ([]:List U4))))):Nat):Int))) > (4096:Int)))=false),((((List.length (toldL l))+(List.length (BD.g (Prod.fst (refA l ([]:List U4))))))*184)≤140737488355328),(((List.length (toldL l))+(List.length (BD.g (Prod.fst (refA l ([]:List U4))))))≤maxLen),((List.length (toldL l))=(List.length (toldL l))),((List.length (BD.g (Prod.fst (refA l ([]:List U4)))))=(List.length (BD.g (Prod.fst (refA l ([]:List U4)))))),(((List.length (toldL l))+(List.length (BD.g (Prod.fst (refA l ([]:List U4))))))=(List.length ((toldL l)++(BD.g (Prod.fst (refA l ([]:List U4)))))))],((.t [(.a [(.sl (Sq.gate ((toldL l)++(BD.g (Prod.fst (refA l ([]:List U4))))))),(.int .i64 (((List.length (toldL l)):Nat):Int)),(.int .i64 (((List.length (List.map outF (BD.w (Prod.fst (refA l ([]:List U4)))))):Nat):Int))]),(.c (.int .i64 (0:Int))),(.c (.int .i64 (0:Int)))]),[]))):=by kernel_rfl
end
end Go.Proofs.Ytobdghmmbddfnaa

/- The reference's Compile: contract. No conditions. -/
set_option linter.unusedSimpArgs false
set_option linter.unusedVariables false
namespace Go.Proofs.Ytobdghmmbddfnaa

theorem pushG_cap {G:List GateD} {a:GateD} (h:G.length≤4097):pushG G a=(G++[a]).take 4097:=by
  unfold pushG
  split
  · rw[List.take_of_length_le (by rw[List.length_append];show G.length+1≤4097;omega)]
  · rw[List.take_append_of_le_length (by omega),List.take_of_length_le h]
theorem pushGs_cap:∀{g G:List GateD},G.length≤4097→pushGs G g=(G++g).take 4097
  | [],G,h=>by rw[List.append_nil,List.take_of_length_le h];rfl
  | a::g,G,h=>by
    show pushGs (pushG G a) g=_
    rw[pushGs_cap (pushG_len h),pushG_cap h]
    by_cases h2:G.length≤4096
    · rw[List.take_of_length_le (l:=G++[a]) (by rw[List.length_append];show G.length+1≤4097;omega),List.append_assoc];rfl
    · have e:G.length=4097:=by omega
      rw[List.take_append_of_le_length (l₁:=G) (by omega),List.take_of_length_le (l:=G) h,List.take_append_of_le_length (by omega),List.take_append_of_le_length (by omega)]

theorem ref_comp:∀(l:List OpD) (T:List GateD) (B:BD) (ms i:Int),
    compL l T (pushGs [] B.g) (B.w.length:Int) i=if (refL l B ms i).2.1≠0 then .inr ((refL l B ms i).2.1,(refL l B ms i).2.2.1) else .inl (T++toldL l,pushGs [] (refL l B ms i).1.g,((refL l B ms i).1.w.length:Int))
  | [],T,B,ms,i=>by
    rw[if_neg (by show ¬(0:Int)≠0;simp)]
    show Sum.inl (T,_,_)=Sum.inl (T++[],_,_)
    rw[List.append_nil]
    rfl
  | o::r,T,B,ms,i=>by
    by_cases hc:chkO o (B.w.length:Int)=0
    · have e1:compL (o::r) T (pushGs [] B.g) (B.w.length:Int) i=compL r (T++tellO o) (pushGs (pushGs [] B.g) (gatesO (B.w.length:Int) o)) ((B.w.length:Int)+nvO o) (i+1):=if_pos hc
      have e2:refL (o::r) B ms i=refL r (opB B o) (if (opB B o).wr=true∧ms<0 then i else ms) (i+1):=if_pos hc
      rw[e1,e2,←pushGs_app]
      have e3:(B.w.length:Int)+nvO o=((opB B o).w.length:Int):=by
        have:=nv_vals B.w (inX B.j) hc
        show _=((B.w++valsOf B.w (inX B.j) o.tag o.a o.b o.c o.n o.k o.ks o.vars).length:Int)
        rw[List.length_append]
        omega
      rw[e3]
      have ih:=ref_comp r (T++tellO o) (opB B o) (if (opB B o).wr=true∧ms<0 then i else ms) (i+1)
      rw[List.append_assoc] at ih
      exact ih
    · have e1:compL (o::r) T (pushGs [] B.g) (B.w.length:Int) i = .inr (chkO o (B.w.length:Int),i):=if_neg hc
      have e2:refL (o::r) B ms i=(B,chkO o (B.w.length:Int),i,ms):=if_neg hc
      rw[e1,e2,if_pos hc]

theorem refCompile_fnd (l:List OpD):FnD Try.prog 10 [.v (.c (.sl (.op l)))] (compSV (compR l)) []:=by
  by_cases hL:l.length > 1000
  · have e:refA l []=(⟨[],[],[],false⟩,2,0,-1):=if_pos hL
    have r:=r10A l
    rw[e] at r
    rw[show compR l=(([],0,0),2,0) from if_pos hL]
    exact fn_sound rE_ok Try.func10 r ⟨rfl,trivial⟩
  have e0:compR l=compE (compL l [] [] 0 0):=if_neg hL
  have e1:refA l []=refL l ⟨[],[],[],false⟩ (-1) 0:=if_neg hL
  have e2:=ref_comp l [] ⟨[],[],[],false⟩ (-1) 0
  rw[←e1] at e2
  have e2' : compL l [] [] 0 0=_:=e2
  rw[e0,e2']
  by_cases c0:(refA l []).2.1=0
  · rw[if_neg (not_not_intro c0),List.nil_append]
    have hT:=toldL_len l
    have hg:((refA l []).1.g.length:Int)≤508*1000:=by
      have key:∀(l:List OpD) (B:BD) (ms i:Int),(refL l B ms i).1.g.length≤B.g.length+508*l.length:=by
        intro l
        induction l with
        | nil=>intro B ms i;exact Nat.le_refl _
        | cons o r ih=>
          intro B ms i
          by_cases hc:chkO o (B.w.length:Int)=0
          · rw[show refL (o::r) B ms i=refL r (opB B o) (if (opB B o).wr=true∧ms<0 then i else ms) (i+1) from if_pos hc]
            have:=ih (opB B o) (if (opB B o).wr=true∧ms<0 then i else ms) (i+1)
            have h2:=gates_len (B.w.length:Int) hc
            have h3:(opB B o).g.length=B.g.length+(gatesO (B.w.length:Int) o).length:=List.length_append
            rw[List.length_cons]
            omega
          · rw[show refL (o::r) B ms i=(B,chkO o (B.w.length:Int),i,ms) from if_neg hc]
            show B.g.length≤_
            omega
      have:=key l ⟨[],[],[],false⟩ (-1) 0
      rw[←e1] at this
      have:(refA l []).1.g.length≤0+508*l.length:=this
      omega
    have ecap:pushGs [] (refA l []).1.g=(refA l []).1.g.take 4097:=pushGs_cap (Nat.zero_le _)
    have hw:IntKind.wrap IntKind.i64 (((toldL l).length:Int)+((refA l []).1.g.length:Int))=((toldL l).length:Int)+((refA l []).1.g.length:Int):=wrap_id (by omega) (by omega)
    have z:((refA l []).2.1 != 0)=false:=by rw[c0];rfl
    by_cases c1:(toldL l).length > 64
    · rw[show compE (.inl (toldL l,pushGs [] (refA l []).1.g,((refA l []).1.w.length:Int)))=(([],0,0),2,0) from if_pos (.inr c1)]
      exact fn_sound rE_ok Try.func10 (r10B l) ⟨z,by omega,decide_eq_true (by omega),trivial⟩
    by_cases c2:(toldL l).length+(refA l []).1.g.length > 4096
    · rw[show compE (.inl (toldL l,pushGs [] (refA l []).1.g,((refA l []).1.w.length:Int)))=(([],0,0),2,0) from if_pos (.inl (by rw[ecap,List.length_take];omega))]
      exact fn_sound rE_ok Try.func10 (r10C l) ⟨z,by omega,decide_eq_false (by omega),by rw[hw];exact decide_eq_true (by omega),trivial⟩
    · have eg:pushGs [] (refA l []).1.g=(refA l []).1.g:=by rw[ecap,List.take_of_length_le (by omega)]
      rw[eg,show compE (.inl (toldL l,(refA l []).1.g,((refA l []).1.w.length:Int)))=((toldL l++(refA l []).1.g,((toldL l).length:Int),((refA l []).1.w.length:Int)),0,0) from if_neg (by omega)]
      have r:=r10D l
      rw[List.length_map] at r
      exact fn_sound rE_ok Try.func10 r (by rw[hw];exact ⟨z,by omega,decide_eq_false (by omega),decide_eq_false (by omega),by omega,by simp only[maxLen];omega,rfl,rfl,by simp,trivial⟩)
  · rw[if_pos c0]
    exact fn_sound rE_ok Try.func10 (r10A l) ⟨bne_iff_ne.2 c0,trivial⟩
end Go.Proofs.Ytobdghmmbddfnaa

/- A list that is nobody else's, and circuits compared: walked. No conditions. -/
namespace Go.Proofs.Ytobdghmmbddfnaa
section
variable {w0:World} {F0:Nat→Prop} {K:Kp} {ac:List Act} {Q:Exit→Act→World→Prop} {cX:Ctx} {aX:Act}

noncomputable def rF:Env:={ rB with inl:=addI rB.inl 22 Try.f22 }
theorem rF_ok:EnvOk Try.prog rF:=⟨rB_ok.ty,rB_ok.mixed,rB_ok.fn,rB_ok.mu,inl_add rB_ok.inl Try.func22 (enters_of Try.func22 rfl rfl),rB_ok.ex,rB_ok.inv⟩
--@env rF rF_ok
noncomputable def owA_k:List KI:=(run rF false 3000 ((fun (l:List OpD)=>(⟨[.code (bodyOf Try.f8)],.normal,initSt Try.f8.ntmps [.v (.c (.sl (.op l)))]⟩:Cfg)) default) [true]).cfg.k
theorem owA_hk (l:List OpD):(run rF false 3000 ((⟨[.code (bodyOf Try.f8)],.normal,initSt Try.f8.ntmps [.v (.c (.sl (.op l)))]⟩:Cfg)) [true]).cfg.k=owA_k:=by kernel_rfl
theorem owA (l:List OpD) (ho:AllP [(((0+(List.length l))*120)≤140737488355328),((0+(List.length l))≤maxLen),(0=0),((decide ((((0+(List.length l)):Nat):Int)≤(1000:Int)))=true),(0=0),(11=11),((0:Int)≤(ite ((20:Int)<(((0+(List.length l)):Nat):Int)) (20:Int) (((0+(List.length l)):Nat):Int))),((ite ((20:Int)<(((0+(List.length l)):Nat):Int)) (20:Int) (((0+(List.length l)):Nat):Int))≤(((0+(List.length l)):Nat):Int))]) (hs:Sim w0 F0 K ac (initSt Try.f8.ntmps [.v (.c (.sl (.op l)))]) cX aX) (hK:∀ac cY aY,Sim w0 F0 K ac (mkSt 49 [0,14,15] [(.v (.c (.slc 32 0 ((ite ((20:Int)<(((0+(List.length l)):Nat):Int)) (20:Int) (((0+(List.length l)):Nat):Int))).toNat 11))),(.ii ((((ite ((20:Int)<(((0+(List.length l)):Nat):Int)) (20:Int) (((0+(List.length l)):Nat):Int))).toNat:Nat):Int)),.ii (0:Int)] [32] [(some (.sq (Sq.op l)))] 288 [[]] [([],7)]) cY aY→Wq Try.prog Q (owA_k) ac Exit.normal aY cY.w):Wq Try.prog Q ([.code (bodyOf Try.f8)]) ac .normal aX cX.w:=
  run_at2 (o:=⟨_,_,_,_,_,_,_⟩) rF_ok (by kernel_rfl) (owA_hk l) ho hs hK
theorem owB_hk (l:List OpD):(run rF false 3000 ((⟨[.code (bodyOf Try.f8)],.normal,initSt Try.f8.ntmps [.v (.c (.sl (.op l)))]⟩:Cfg)) [false]).cfg.k=owA_k:=by kernel_rfl
theorem owB (l:List OpD) (ho:AllP [(((0+(List.length l))*120)≤140737488355328),((0+(List.length l))≤maxLen),(0=0),((decide ((((0+(List.length l)):Nat):Int)≤(1000:Int)))=false)]) (hs:Sim w0 F0 K ac (initSt Try.f8.ntmps [.v (.c (.sl (.op l)))]) cX aX) (hK:∀ac cY aY,Sim w0 F0 K ac (mkSt 49 [0,14,15] [(.v (.c (.slc 32 0 (0+(List.length l)) 11))),(.ii (((0+(List.length l)):Nat):Int)),.ii (0:Int)] [32] [(some (.sq (Sq.op l)))] 192 [[]] [([],7)]) cY aY→Wq Try.prog Q (owA_k) ac Exit.normal aY cY.w):Wq Try.prog Q ([.code (bodyOf Try.f8)]) ac .normal aX cX.w:=
  run_at2 (o:=⟨_,_,_,_,_,_,_⟩) rF_ok (by kernel_rfl) (owB_hk l) ho hs hK
noncomputable def owS (m:List OpD) (i:Int):St:=mkSt 49 [0,14,15] [.v (.c (.slc 32 0 m.length 11)),.v (.c (.int .i64 (m.length:Int))),.v (.c (.int .i64 i))] [32] [some (.sq (.op m))] 288 [[]] [([],7)]
theorem owC_hk (m:List OpD) (i:Int):(run rF false 3000 ((⟨lpIn owA_k,.normal,owS m i⟩:Cfg)) [true,true,true,true,true]).cfg.k=lpBk owA_k:=by kernel_rfl
theorem owC (m:List OpD) (i:Int) (ho:AllP [((decide (i<(((List.length m):Nat):Int)))=true),((0:Int)≤i),(i<(((List.length m):Nat):Int)),(0=0),((i).toNat<(List.length m)),(((OpD.tag (List.getD m (i).toNat op0)) == (10:Int))=true),((i).toNat<(List.length m)),((decide ((OpD.n (List.getD m (i).toNat op0)) > (40:Int)))=true),((i).toNat<(List.length m)),((decide ((OpD.n (List.getD m (i).toNat op0))<(254:Int)))=true),((decide (i > (3:Int)))=true),((i).toNat<(List.length m))]) (hs:Sim w0 F0 K ac (owS m i) cX aX) (hK:∀ac cY aY,Sim w0 F0 K ac (mkSt 49 [0,14,15] [(.v (.c (.slc 32 0 (List.length m) 11))),(.ii (((List.length m):Nat):Int)),(.ii (IntKind.wrap .i64 (i+(1:Int))))] [32] [(some (.sq (Sq.op (List.set m (i).toNat (OpD.mk (OpD.tag (List.getD m (i).toNat op0)) (OpD.a (List.getD m (i).toNat op0)) (OpD.b (List.getD m (i).toNat op0)) (OpD.c (List.getD m (i).toNat op0)) (40:Int) (OpD.k (List.getD m (i).toNat op0)) (OpD.ks (List.getD m (i).toNat op0)) (OpD.vars (List.getD m (i).toNat op0)))))))] 864 [[]] [([],7)]) cY aY→Wq Try.prog Q (lpBk owA_k) ac Exit.normal aY cY.w):Wq Try.prog Q (lpIn owA_k) ac .normal aX cX.w:=
  run_at2 (o:=⟨_,_,_,_,_,_,_⟩) rF_ok (by kernel_rfl) (owC_hk m i) ho hs hK
theorem owD_hk (m:List OpD) (i:Int):(run rF false 3000 ((⟨lpIn owA_k,.normal,owS m i⟩:Cfg)) [true,true,true,true,false]).cfg.k=lpBk owA_k:=by kernel_rfl
theorem owD (m:List OpD) (i:Int) (ho:AllP [((decide (i<(((List.length m):Nat):Int)))=true),((0:Int)≤i),(i<(((List.length m):Nat):Int)),(0=0),((i).toNat<(List.length m)),(((OpD.tag (List.getD m (i).toNat op0)) == (10:Int))=true),((i).toNat<(List.length m)),((decide ((OpD.n (List.getD m (i).toNat op0)) > (40:Int)))=true),((i).toNat<(List.length m)),((decide ((OpD.n (List.getD m (i).toNat op0))<(254:Int)))=true),((decide (i > (3:Int)))=false)]) (hs:Sim w0 F0 K ac (owS m i) cX aX) (hK:∀ac cY aY,Sim w0 F0 K ac (mkSt 49 [0,14,15] [(.v (.c (.slc 32 0 (List.length m) 11))),(.ii (((List.length m):Nat):Int)),(.ii (IntKind.wrap .i64 (i+(1:Int))))] [32] [(some (.sq (Sq.op m)))] 800 [[]] [([],7)]) cY aY→Wq Try.prog Q (lpBk owA_k) ac Exit.normal aY cY.w):Wq Try.prog Q (lpIn owA_k) ac .normal aX cX.w:=
  run_at2 (o:=⟨_,_,_,_,_,_,_⟩) rF_ok (by kernel_rfl) (owD_hk m i) ho hs hK
theorem owE_hk (m:List OpD) (i:Int):(run rF false 3000 ((⟨lpIn owA_k,.normal,owS m i⟩:Cfg)) [true,true,true,false]).cfg.k=lpBk owA_k:=by kernel_rfl
theorem owE (m:List OpD) (i:Int) (ho:AllP [((decide (i<(((List.length m):Nat):Int)))=true),((0:Int)≤i),(i<(((List.length m):Nat):Int)),(0=0),((i).toNat<(List.length m)),(((OpD.tag (List.getD m (i).toNat op0)) == (10:Int))=true),((i).toNat<(List.length m)),((decide ((OpD.n (List.getD m (i).toNat op0)) > (40:Int)))=true),((i).toNat<(List.length m)),((decide ((OpD.n (List.getD m (i).toNat op0))<(254:Int)))=false)]) (hs:Sim w0 F0 K ac (owS m i) cX aX) (hK:∀ac cY aY,Sim w0 F0 K ac (mkSt 49 [0,14,15] [(.v (.c (.slc 32 0 (List.length m) 11))),(.ii (((List.length m):Nat):Int)),(.ii (IntKind.wrap .i64 (i+(1:Int))))] [32] [(some (.sq (Sq.op m)))] 800 [[]] [([],7)]) cY aY→Wq Try.prog Q (lpBk owA_k) ac Exit.normal aY cY.w):Wq Try.prog Q (lpIn owA_k) ac .normal aX cX.w:=
  run_at2 (o:=⟨_,_,_,_,_,_,_⟩) rF_ok (by kernel_rfl) (owE_hk m i) ho hs hK
theorem owF_hk (m:List OpD) (i:Int):(run rF false 3000 ((⟨lpIn owA_k,.normal,owS m i⟩:Cfg)) [true,true,false,false]).cfg.k=lpBk owA_k:=by kernel_rfl
theorem owF (m:List OpD) (i:Int) (ho:AllP [((decide (i<(((List.length m):Nat):Int)))=true),((0:Int)≤i),(i<(((List.length m):Nat):Int)),(0=0),((i).toNat<(List.length m)),(((OpD.tag (List.getD m (i).toNat op0)) == (10:Int))=true),((i).toNat<(List.length m)),((decide ((OpD.n (List.getD m (i).toNat op0)) > (40:Int)))=false)]) (hs:Sim w0 F0 K ac (owS m i) cX aX) (hK:∀ac cY aY,Sim w0 F0 K ac (mkSt 49 [0,14,15] [(.v (.c (.slc 32 0 (List.length m) 11))),(.ii (((List.length m):Nat):Int)),(.ii (IntKind.wrap .i64 (i+(1:Int))))] [32] [(some (.sq (Sq.op m)))] 800 [[]] [([],7)]) cY aY→Wq Try.prog Q (lpBk owA_k) ac Exit.normal aY cY.w):Wq Try.prog Q (lpIn owA_k) ac .normal aX cX.w:=
  run_at2 (o:=⟨_,_,_,_,_,_,_⟩) rF_ok (by kernel_rfl) (owF_hk m i) ho hs hK
theorem owG_hk (m:List OpD) (i:Int):(run rF false 3000 ((⟨lpIn owA_k,.normal,owS m i⟩:Cfg)) [true,false,false,false]).cfg.k=lpBk owA_k:=by kernel_rfl
theorem owG (m:List OpD) (i:Int) (ho:AllP [((decide (i<(((List.length m):Nat):Int)))=true),((0:Int)≤i),(i<(((List.length m):Nat):Int)),(0=0),((i).toNat<(List.length m)),(((OpD.tag (List.getD m (i).toNat op0)) == (10:Int))=false)]) (hs:Sim w0 F0 K ac (owS m i) cX aX) (hK:∀ac cY aY,Sim w0 F0 K ac (mkSt 49 [0,14,15] [(.v (.c (.slc 32 0 (List.length m) 11))),(.ii (((List.length m):Nat):Int)),(.ii (IntKind.wrap .i64 (i+(1:Int))))] [32] [(some (.sq (Sq.op m)))] 800 [[]] [([],7)]) cY aY→Wq Try.prog Q (lpBk owA_k) ac Exit.normal aY cY.w):Wq Try.prog Q (lpIn owA_k) ac .normal aX cX.w:=
  run_at2 (o:=⟨_,_,_,_,_,_,_⟩) rF_ok (by kernel_rfl) (owG_hk m i) ho hs hK
theorem owX_end (m:List OpD) (i:Int):runEnd rF Try.f8 false 3000 (⟨lpIn owA_k,.normal,owS m i⟩) [false] [] [32]=(some ([((decide (i<(((List.length m):Nat):Int)))=false),((List.length m)=(List.length m))],((.v (.c (.sl (Sq.op m)))),[]))):=by kernel_rfl
end
end Go.Proofs.Ytobdghmmbddfnaa

/- A list that is nobody else's: contract. No conditions. -/
set_option linter.unusedSimpArgs false
set_option linter.unusedVariables false
namespace Go.Proofs.Ytobdghmmbddfnaa

def fewO (i:Nat) (o:OpD):OpD:=if o.tag=10∧o.n > 40∧o.n<254∧3<i then ⟨o.tag,o.a,o.b,o.c,40,o.k,o.ks,o.vars⟩ else o
def fewL:Nat→List OpD→List OpD
  | _,[]=>[]
  | i,o::r=>fewO i o::fewL (i+1) r
theorem fewL_len:∀(i:Nat) (l:List OpD),(fewL i l).length=l.length
  | _,[]=>rfl
  | i,_::r=>congrArg (· + 1) (fewL_len (i+1) r)
def ownL (l:List OpD):List OpD:=fewL 0 (if l.length≤1000 then l.take 20 else l)

theorem getD_mid (P:List OpD) (o:OpD) (R:List OpD):(P++o::R).getD P.length op0=o:=by simp [List.getD]
theorem set_mid (P:List OpD) (o u:OpD) (R:List OpD):(P++o::R).set P.length u=P++u::R:=by simp

theorem few_loop {x0:Ctx} (M:List OpD) (hM:M.length*120≤140737488355328) (hk:∀p,x0.k p = .no) (hF:∀b,x0.F b→b<x0.w.heap.size) {Q:Exit→Act→World→Prop} {ac:List Act} {cY:Ctx} {aY:Act}
    (hX:∀(ac:List Act) (cY:Ctx) (aY:Act),Sim x0.w x0.F kAll ac (owS (fewL 0 M) (M.length:Int)) cY aY→Wq Try.prog Q (lpIn owA_k) ac .normal aY cY.w)
    (hs1:Sim x0.w x0.F kAll ac (owS M 0) cY aY):Wq Try.prog Q owA_k ac .normal aY cY.w:=by
  refine loop_rule (ι:={ s:List OpD×List OpD // s.1.length+s.2.length=M.length∧fewL 0 M=s.1++fewL s.1.length s.2 }) (fun s=>owS (s.1.1++s.1.2) (s.1.1.length:Int)) (fun s=>s.1.2.length) (c:=lpC owA_k) (k:=lpR owA_k) (by kernel_rfl) (fun s ih ac cY aY hs=>?_) ⟨([],M),by simp,rfl⟩ hs1
  obtain ⟨⟨P,R⟩,hl,he⟩:=s
  simp only at ih hs hl he
  cases R with
  | nil=>
    have e:P++[]=fewL 0 M:=by rw[he];rfl
    have e2:P.length=M.length:=by simpa using hl
    rw[e,e2] at hs
    exact hX ac cY aY hs
  | cons o R=>
    rw[List.length_cons] at hl
    have wi:IntKind.wrap IntKind.i64 ((P.length:Int)+1)=((P.length+1:Nat):Int):=by rw[wrap_id (by omega) (by omega)];omega
    have hlen:(P++o::R).length=M.length:=by rw[List.length_append,List.length_cons];omega
    have step:∀(u:OpD),fewO P.length o=u→∀(ac:List Act) (cU:Ctx) (aU:Act),Sim x0.w x0.F kAll ac (owS (P++u::R) ((P.length+1:Nat):Int)) cU aU→Wq Try.prog Q (lpBk owA_k) ac .normal aU cU.w:=by
      intro u hu ac cU aU h
      refine ih ⟨(P++[u],R),by rw[List.length_append];show P.length+1+R.length=_;omega,?_⟩ (by show R.length<R.length+1;omega) ac cU aU ?_
      · rw[he,List.length_append,List.append_assoc]
        show P++(fewO P.length o::fewL (P.length+1) R)=_
        rw[hu]
        rfl
      · show Sim x0.w x0.F kAll ac (owS ((P++[u])++R) (((P++[u]).length:Nat):Int)) cU aU
        rw[List.append_assoc,List.length_append]
        exact h
    have g:(P++o::R).getD ((P.length:Int)).toNat op0=o:=by rw[Int.toNat_natCast];exact getD_mid P o R
    have hi:(P.length:Int)<((P++o::R).length:Int):=by omega
    have hi2:((P.length:Int)).toNat<(P++o::R).length:=by omega
    by_cases c1:o.tag=10
    · by_cases c2:o.n > 40
      · by_cases c3:o.n<254
        · by_cases c4:3<P.length
          · refine owC (P++o::R) P.length (by rw[g];exact ⟨decide_eq_true hi,by omega,hi,rfl,hi2,beq_iff_eq.2 c1,hi2,decide_eq_true c2,hi2,decide_eq_true c3,decide_eq_true (by omega),hi2,trivial⟩) hs fun ac cU aU hs2=>?_
            rw[g,wi,Int.toNat_natCast,set_mid] at hs2
            refine step _ (if_pos ⟨c1,c2,c3,c4⟩) ac cU aU ?_
            have hs3:=hs2.nx 288
            have el:(P++o::R).length=(P++(⟨o.tag,o.a,o.b,o.c,40,o.k,o.ks,o.vars⟩:OpD)::R).length:=by rw[List.length_append,List.length_append];rfl
            rw[el] at hs3
            exact hs3
          · refine owD (P++o::R) P.length (by rw[g];exact ⟨decide_eq_true hi,by omega,hi,rfl,hi2,beq_iff_eq.2 c1,hi2,decide_eq_true c2,hi2,decide_eq_true c3,decide_eq_false (by omega),trivial⟩) hs fun ac cU aU hs2=>?_
            rw[wi] at hs2
            exact step _ (if_neg fun h=>c4 h.2.2.2) ac cU aU (hs2.nx 288)
        · refine owE (P++o::R) P.length (by rw[g];exact ⟨decide_eq_true hi,by omega,hi,rfl,hi2,beq_iff_eq.2 c1,hi2,decide_eq_true c2,hi2,decide_eq_false c3,trivial⟩) hs fun ac cU aU hs2=>?_
          rw[wi] at hs2
          exact step _ (if_neg fun h=>c3 h.2.2.1) ac cU aU (hs2.nx 288)
      · refine owF (P++o::R) P.length (by rw[g];exact ⟨decide_eq_true hi,by omega,hi,rfl,hi2,beq_iff_eq.2 c1,hi2,decide_eq_false c2,trivial⟩) hs fun ac cU aU hs2=>?_
        rw[wi] at hs2
        exact step _ (if_neg fun h=>c2 h.2.1) ac cU aU (hs2.nx 288)
    · refine owG (P++o::R) P.length (by rw[g];exact ⟨decide_eq_true hi,by omega,hi,rfl,hi2,beq_eq_false_iff_ne.2 c1,trivial⟩) hs fun ac cU aU hs2=>?_
      rw[wi] at hs2
      exact step _ (if_neg fun h=>c1 h.1) ac cU aU (hs2.nx 288)

theorem own_fnd (l:List OpD) (hl:l.length*120≤140737488355328):FnD Try.prog 8 [.v (.c (.sl (.op l)))] (.v (.c (.sl (.op (ownL l))))) []:=by
  refine fn_start (fn:=Try.f8) (c:=bodyOf Try.f8) Try.func8 rfl rfl fun x0 a0 hk hF hs0=>?_
  have fin:∀(M:List OpD),M.length*120≤140737488355328→fewL 0 M=ownL l→∀(ac:List Act) (cY:Ctx) (aY:Act),Sim x0.w x0.F kAll ac (owS M 0) cY aY→Wq Try.prog (Post Try.prog Try.f8 x0 (.v (.c (.sl (.op (ownL l))))) []) owA_k ac .normal aY cY.w:=by
    intro M hM hM2 ac cY aY hs
    refine few_loop M hM hk hF (fun ac cY aY hs=>?_) hs
    rw[hM2] at hs
    exact run_end2 rF_ok hk hF (owX_end (ownL l) M.length) ⟨decide_eq_false (by rw[←hM2,fewL_len];omega),rfl,trivial⟩ (fun y v hd=>hd) hs
  by_cases h:l.length≤1000
  · refine owA l ⟨by omega,by simp only[maxLen];omega,rfl,decide_eq_true (by omega),rfl,rfl,by split<;>omega,by split<;>omega,trivial⟩ hs0 fun ac cY aY hs1=>?_
    have e:(if (20:Int)<((0+l.length:Nat):Int) then (20:Int) else ((0+l.length:Nat):Int)).toNat=(l.take 20).length:=by rw[List.length_take];split<;>omega
    rw[e] at hs1
    have hs2:=Sim.subRow (ens' := [some (.sq (.op (l.take 20)))]) hs1 (z:=32) (q:=.op l) (q' := .op (l.take 20)) rfl (by show (l.take 20).length≤l.length;rw[List.length_take];omega) rfl (fun i hi=>?_) (fun r=>by simp only[look];split<;>rfl)
    · exact fin (l.take 20) (by rw[List.length_take];omega) (by unfold ownL;rw[if_pos h]) ac cY aY (hs2.nx 288)
    · have hi:i<(l.take 20).length:=hi
      rw[List.length_take] at hi
      show ((l.take 20).getD i op0).its=(l.getD i op0).its
      congr 1
      simp [List.getD,List.getElem?_take,show i<20 by omega]
  · refine owB l ⟨by omega,by simp only[maxLen];omega,rfl,decide_eq_false (by omega),trivial⟩ hs0 fun ac cY aY hs1=>?_
    rw[Nat.zero_add] at hs1
    exact fin l hl (by unfold ownL;rw[if_neg h]) ac cY aY (hs1.nx 288)
end Go.Proofs.Ytobdghmmbddfnaa

/- An input alone, compiled: walked. No conditions. -/
namespace Go.Proofs.Ytobdghmmbddfnaa

/-- An input. -/
def opI:OpD:=⟨1,0,0,0,0,0,[],[]⟩
--@env hD hD_ok
--@unroll true
theorem ckI (n:Int):fnRes hD Try.f23 3000 [.v (.a opI.its),.v (.c (.int .i64 n))] [true,true,false,false] [] []=(some ([(((1:Int) == (1:Int))=true),(((1:Int) == (1:Int))=true),((decide ((0:Int)<(0:Int)))=false),((decide ((-(1:Int)) ≥ (0:Int)))=false)],((.ii (0:Int)),[]))):=by kernel_rfl
theorem checkI_fnd (n:Int):FnD Try.prog 23 [.v (.a opI.its),.v (.c (.int .i64 n))] (.v (.c (.int .i64 0))) []:=fn_sound hD_ok Try.func23 (ckI n) (by simp [AllP])
noncomputable def checkISpec:FnSpec
  | [.v (.a [.int .i64 t,.int .i64 a,.int .i64 b,.int .i64 c,.int .i64 m,.ob (.fr k),.sl (.fr []),.sl (.int [])]),.v (.c (.int .i64 n))]=>some ([t=1,a=0,b=0,c=0,m=0,k=0],.v (.c (.int .i64 0)),[])
  | _=>none
noncomputable def hE:Env:=hD.set (addT hD.fn 23 checkISpec)
theorem hE_ok:EnvOk Try.prog hE:=env_add hD_ok 23 checkISpec (enters_of Try.func23 rfl rfl) fun args o r es h ho=>by
  unfold checkISpec at h
  split at h
  · cases h;exact (by obtain ⟨rfl,rfl,rfl,rfl,rfl,rfl,_⟩:=ho;exact checkI_fnd _)
  · cases h
/-- Stepped into besides: what an operation does. -/
noncomputable def inlC (T:Nat→Option Func) (f:Nat):Option Func:=if f=25 then some Try.f25 else if f=46 then some Try.f46 else T f
noncomputable def hF:Env:={ hE with inl:=inlC hE.inl }
theorem hF_ok:EnvOk Try.prog hF:=by
  refine ⟨hE_ok.ty,hE_ok.mixed,hE_ok.fn,hE_ok.mu,fun f fn h=>?_,hE_ok.ex,hE_ok.inv⟩
  have h:inlC hE.inl f=some fn:=h
  unfold inlC at h
  split at h
  · rename_i hf;cases h;subst hf;exact ⟨Try.func25,enters_of Try.func25 rfl rfl⟩
  split at h
  · rename_i hf;cases h;subst hf;exact ⟨Try.func46,enters_of Try.func46 rfl rfl⟩
  exact hE_ok.inl f fn h
--@env hF hF_ok
theorem cpI  : fnRes hF Try.f9 3000 [.v (.c (.sl (.op [opI])))] [false,true,false,false,true,false,false,false] [1328] []=(some ([((decide ((1:Int) > (1000:Int)))=false),((decide ((0:Int)<(1:Int)))=true),((0:Int)≤(0:Int)),((0:Int)<(1:Int)),((1:Int)=(1:Int)),((0:Int)=(0:Int)),((0:Int)=(0:Int)),((0:Int)=(0:Int)),((0:Int)=(0:Int)),((OpD.k opI)=(0:U4)),(((0:Int) != (0:Int))=false),(((1:Int) == (2:Int))=false),(((1:Int) == (1:Int))=true),((decide ((1:Int)<(1:Int)))=false),((decide ((0:Int) > (4096:Int)))=false),((decide ((0:Int) > (64:Int)))=false),(0≤140737488355328),(0≤maxLen)],((.t [(.a [(.slc 0 0 0 23),(.int .i64 (0:Int)),(.int .i64 (1:Int))]),(.c (.int .i64 (0:Int))),(.c (.int .i64 (0:Int)))]),[(.sq (Sq.gate ([]:List GateD)))]))):=by kernel_rfl
theorem compI_fnd:FnD Try.prog 9 [.v (.c (.sl (.op [opI])))] (.t [.a [.slc 0 0 0 23,.int .i64 0,.int .i64 1],.c (.int .i64 0),.c (.int .i64 0)]) [.sq (.gate [])]:=fn_sound hF_ok Try.func9 cpI (by simp [AllP,opI,maxLen])
noncomputable def compISpec:FnSpec
  | [.v (.c (.sl (.op [⟨t,a,b,c,m,k,[],[]⟩])))]=>some ([t=1,a=0,b=0,c=0,m=0,k=0],.t [.a [.slc 0 0 0 23,.int .i64 0,.int .i64 1],.c (.int .i64 0),.c (.int .i64 0)],[.sq (.gate [])])
  | _=>none
noncomputable def hG:Env:=hD.set (addT hD.fn 9 compISpec)
theorem hG_ok:EnvOk Try.prog hG:=env_add hD_ok 9 compISpec (enters_of Try.func9 rfl rfl) fun args o r es h ho=>by
  unfold compISpec at h
  split at h
  · cases h;exact (by obtain ⟨rfl,rfl,rfl,rfl,rfl,rfl,_⟩:=ho;exact compI_fnd)
  · cases h
--@env hG hG_ok
--@unroll false
theorem alI  : fnRes hG Try.f11 3000 [] [true,true] [] []=(some ([(0=0),(1=1),(11=11),((1:Int)=(1:Int)),((0:Int)=(0:Int)),((0:Int)=(0:Int)),((0:Int)=(0:Int)),((0:Int)=(0:Int)),((0:U4)=(0:U4)),(((0:Int) == (0:Int))=true)],((.v (.c (.bool ((1:Int) == (1:Int))))),[]))):=by kernel_rfl
end Go.Proofs.Ytobdghmmbddfnaa

/- Circuits compared, and CircuitCompiles' law: walked. No conditions. -/
namespace Go.Proofs.Ytobdghmmbddfnaa
section
variable {w0:World} {F0:Nat→Prop} {K:Kp} {ac:List Act} {Q:Exit→Act→World→Prop} {cX:Ctx} {aX:Act}

noncomputable def ownSpec:FnSpec
  | [.v (.c (.sl (.op l)))]=>some ([l.length*120≤140737488355328],.v (.c (.sl (.op (ownL l)))),[])
  | _=>none
noncomputable def rG1:Env:=rF.set (addT rF.fn 8 ownSpec)
theorem rG1_ok:EnvOk Try.prog rG1:=env_add rF_ok 8 ownSpec (enters_of Try.func8 rfl rfl) fun args o r es h ho=>by
  unfold ownSpec at h
  split at h
  · cases h;exact own_fnd _ ho.1
  · cases h
noncomputable def compSpec:FnSpec
  | [.v (.c (.sl (.op l)))]=>some ([],compSV (compR l),[])
  | _=>none
noncomputable def rG2:Env:=rG1.set (addT rG1.fn 9 compSpec)
theorem rG2_ok:EnvOk Try.prog rG2:=env_add rG1_ok 9 compSpec (enters_of Try.func9 rfl rfl) fun args o r es h _=>by
  unfold compSpec at h
  split at h
  · cases h;exact comp_fnd _
  · cases h
noncomputable def refCompSpec:FnSpec
  | [.v (.c (.sl (.op l)))]=>some ([],compSV (compR l),[])
  | _=>none
noncomputable def rG:Env:=rG2.set (addT rG2.fn 10 refCompSpec)
theorem rG_ok:EnvOk Try.prog rG:=env_add rG2_ok 10 refCompSpec (enters_of Try.func10 rfl rfl) fun args o r es h _=>by
  unfold refCompSpec at h
  split at h
  · cases h;exact refCompile_fnd _
  · cases h
--@env rG rG_ok
noncomputable def lkA_k:List KI:=(run rG false 3000 ((fun (l:List GateD) (p v:Int)=>(⟨[.code (bodyOf Try.f12)],.normal,initSt Try.f12.ntmps [circV l p v,circV l p v]⟩:Cfg)) default default default) [false,false,false]).cfg.k
theorem lkA_hk (l:List GateD) (p v:Int):(run rG false 3000 ((⟨[.code (bodyOf Try.f12)],.normal,initSt Try.f12.ntmps [circV l p v,circV l p v]⟩:Cfg)) [false,false,false]).cfg.k=lkA_k:=by kernel_rfl
theorem lkA (l:List GateD) (p v:Int) (ho:AllP [((p != p)=false),((v != v)=false),(((((List.length l):Nat):Int) != (((List.length l):Nat):Int))=false)]) (hs:Sim w0 F0 K ac (initSt Try.f12.ntmps [circV l p v,circV l p v]) cX aX) (hK:∀ac cY aY,Sim w0 F0 K ac (mkSt 45 [2,3,29,30] [.pt 16 0,.pt 32 0,(.ii (((List.length l):Nat):Int)),.ii (0:Int)] [16,32] [(some (.fl [(.sl (Sq.gate l)),(.int .i64 p),(.int .i64 v)])),(some (.fl [(.sl (Sq.gate l)),(.int .i64 p),(.int .i64 v)]))] 464 [] []) cY aY→Wq Try.prog Q (lkA_k) ac Exit.normal aY cY.w):Wq Try.prog Q ([.code (bodyOf Try.f12)]) ac .normal aX cX.w:=
  run_at2 (o:=⟨_,_,_,_,_,_,_⟩) rG_ok (by kernel_rfl) (lkA_hk l p v) ho hs hK
noncomputable def lkS (l:List GateD) (p v:Int) (i:Int):St:=mkSt 45 [2,3,29,30] [.pt 16 0,.pt 32 0,(.ii (((List.length l):Nat):Int)),.v (.c (.int .i64 i))] [16,32] [(some (.fl [(.sl (Sq.gate l)),(.int .i64 p),(.int .i64 v)])),(some (.fl [(.sl (Sq.gate l)),(.int .i64 p),(.int .i64 v)]))] 464 [] []
theorem lkB_hk (l:List GateD) (p v:Int) (i:Int):(run rG false 3000 ((⟨lpIn lkA_k,.normal,lkS l p v i⟩:Cfg)) [true,false]).cfg.k=lpBk lkA_k:=by kernel_rfl
theorem lkB (l:List GateD) (p v:Int) (i:Int) (ho:AllP [((decide (i<(((List.length l):Nat):Int)))=true),((0:Int)≤i),(i<(((List.length l):Nat):Int)),((0:Int)≤i),(i<(((List.length l):Nat):Int)),((ite (false=true) (Bool.and (decide ((GateD.qm (List.getD l (i).toNat gate0))=(GateD.qm (List.getD l (i).toNat gate0)))) (Bool.and (decide ((GateD.ql (List.getD l (i).toNat gate0))=(GateD.ql (List.getD l (i).toNat gate0)))) (Bool.and (decide ((GateD.qr (List.getD l (i).toNat gate0))=(GateD.qr (List.getD l (i).toNat gate0)))) (Bool.and (decide ((GateD.qo (List.getD l (i).toNat gate0))=(GateD.qo (List.getD l (i).toNat gate0)))) (Bool.and (decide ((GateD.qc (List.getD l (i).toNat gate0))=(GateD.qc (List.getD l (i).toNat gate0)))) (Bool.and ((GateD.a (List.getD l (i).toNat gate0)) == (GateD.a (List.getD l (i).toNat gate0))) (Bool.and ((GateD.b (List.getD l (i).toNat gate0)) == (GateD.b (List.getD l (i).toNat gate0))) ((GateD.c (List.getD l (i).toNat gate0)) == (GateD.c (List.getD l (i).toNat gate0)))))))))) (Bool.not (Bool.and (decide ((GateD.qm (List.getD l (i).toNat gate0))=(GateD.qm (List.getD l (i).toNat gate0)))) (Bool.and (decide ((GateD.ql (List.getD l (i).toNat gate0))=(GateD.ql (List.getD l (i).toNat gate0)))) (Bool.and (decide ((GateD.qr (List.getD l (i).toNat gate0))=(GateD.qr (List.getD l (i).toNat gate0)))) (Bool.and (decide ((GateD.qo (List.getD l (i).toNat gate0))=(GateD.qo (List.getD l (i).toNat gate0)))) (Bool.and (decide ((GateD.qc (List.getD l (i).toNat gate0))=(GateD.qc (List.getD l (i).toNat gate0)))) (Bool.and ((GateD.a (List.getD l (i).toNat gate0)) == (GateD.a (List.getD l (i).toNat gate0))) (Bool.and ((GateD.b (List.getD l (i).toNat gate0)) == (GateD.b (List.getD l (i).toNat gate0))) ((GateD.c (List.getD l (i).toNat gate0)) == (GateD.c (List.getD l (i).toNat gate0))))))))))))=false)]) (hs:Sim w0 F0 K ac (lkS l p v i) cX aX) (hK:∀ac cY aY,Sim w0 F0 K ac (mkSt 45 [2,3,29,30] [.pt 16 0,.pt 32 0,(.ii (((List.length l):Nat):Int)),(.ii (IntKind.wrap .i64 (i+(1:Int))))] [16,32] [(some (.fl [(.sl (Sq.gate l)),(.int .i64 p),(.int .i64 v)])),(some (.fl [(.sl (Sq.gate l)),(.int .i64 p),(.int .i64 v)]))] 720 [] []) cY aY→Wq Try.prog Q (lpBk lkA_k) ac Exit.normal aY cY.w):Wq Try.prog Q (lpIn lkA_k) ac .normal aX cX.w:=
  run_at2 (o:=⟨_,_,_,_,_,_,_⟩) rG_ok (by kernel_rfl) (lkB_hk l p v i) ho hs hK
theorem lkX_end (l:List GateD) (p v:Int) (i:Int):runEnd rG Try.f12 false 3000 (⟨lpIn lkA_k,.normal,lkS l p v i⟩) [false] [] []=(some ([((decide (i<(((List.length l):Nat):Int)))=false)],((.v (.c (.lit true))),[]))):=by kernel_rfl
theorem like_fnd (l:List GateD) (p v:Int) (hl:l.length≤9000000000000000000):FnD Try.prog 12 [circV l p v,circV l p v] (.v (.c (.bool true))) []:=by
  refine fn_start (fn:=Try.f12) (c:=bodyOf Try.f12) Try.func12 rfl rfl fun x0 a0 hk hF hs0=>?_
  refine lkA l p v ⟨bne_eq_false_iff_eq.2 rfl,bne_eq_false_iff_eq.2 rfl,bne_eq_false_iff_eq.2 rfl,trivial⟩ hs0 fun ac cY aY hs1=>?_
  refine loop_rule (ι:={ i:Nat // i≤l.length }) (fun s=>lkS l p v (s.1:Int)) (fun s=>l.length-s.1) (c:=lpC lkA_k) (k:=lpR lkA_k) (by kernel_rfl) (fun s ih ac cY aY hs=>?_) ⟨0,Nat.zero_le _⟩ (hs1.nx _)
  obtain ⟨i,hi⟩:=s
  simp only at ih hs hi
  by_cases h:i<l.length
  · have wi:IntKind.wrap IntKind.i64 ((i:Int)+1)=((i+1:Nat):Int):=by rw[wrap_id (by omega) (by omega)];omega
    refine lkB l p v i ⟨decide_eq_true (by omega),by omega,by omega,by omega,by omega,?_,trivial⟩ hs fun ac cU aU hs2=>?_
    · rw[if_neg (by decide)];simp
    · rw[wi] at hs2
      exact ih ⟨i+1,by omega⟩ (by show l.length-(i+1)<l.length-i;omega) ac cU aU (hs2.nx _)
  · exact run_end2 rG_ok hk hF (lkX_end l p v i) ⟨decide_eq_false (by omega),trivial⟩ (fun y v hd=>by obtain ⟨h1,d,h2⟩:=hd;exact ⟨h1,d,by cases d<;>exact h2⟩) hs
theorem aliveC_fnd:FnD Try.prog 11 [] (.v (.c (.bool true))) []:=(fn_sound hG_ok Try.func11 alI (by simp [AllP])).conv (fun _ _ h=>h) fun _ _ hd=>hd
noncomputable def likeSpec:FnSpec
  | [.v (.a [.sl (.gate l),.int .i64 p,.int .i64 v]),.v (.a [.sl (.gate l'),.int .i64 p',.int .i64 v'])]=>some ([l=l' ∧ p=p' ∧ v=v' ∧ l.length≤9000000000000000000],.v (.c (.bool true)),[])
  | _=>none
noncomputable def rH1:Env:=rG.set (addT rG.fn 12 likeSpec)
theorem rH1_ok:EnvOk Try.prog rH1:=env_add rG_ok 12 likeSpec (enters_of Try.func12 rfl rfl) fun args o r es h ho=>by
  unfold likeSpec at h
  split at h
  · cases h;obtain ⟨⟨rfl,rfl,rfl,h4⟩,_⟩:=ho;exact like_fnd _ _ _ h4
  · cases h
noncomputable def aliveCSpec:FnSpec
  | []=>some ([],.v (.c (.bool true)),[])
  | _=>none
noncomputable def rH:Env:=rH1.set (addT rH1.fn 11 aliveCSpec)
theorem rH_ok:EnvOk Try.prog rH:=env_add rH1_ok 11 aliveCSpec (enters_of Try.func11 rfl rfl) fun args o r es h _=>by
  unfold aliveCSpec at h
  split at h
  · cases h;exact aliveC_fnd
  · cases h
--@env rH rH_ok
theorem lcA (l:List OpD):fnRes rH Try.f3 3000 [.v (.c (.sl (.op l)))] [true,true,true] [] []=(some ([(((List.length l)*120)≤140737488355328),(true=true),(((Prod.fst (Prod.snd (compR (ownL l)))) == (Prod.fst (Prod.snd (compR (ownL l)))))=true),(((Prod.snd (Prod.snd (compR (ownL l)))) == (Prod.snd (Prod.snd (compR (ownL l)))))=true),(((Prod.fst (Prod.fst (compR (ownL l))))=(Prod.fst (Prod.fst (compR (ownL l)))))∧(((Prod.fst (Prod.snd (Prod.fst (compR (ownL l)))))=(Prod.fst (Prod.snd (Prod.fst (compR (ownL l))))))∧(((Prod.snd (Prod.snd (Prod.fst (compR (ownL l)))))=(Prod.snd (Prod.snd (Prod.fst (compR (ownL l))))))∧((List.length (Prod.fst (Prod.fst (compR (ownL l)))))≤9000000000000000000))))],((.v (.c (.bool true))),[]))):=by kernel_rfl

theorem circuitCompiles_fnd (l:List OpD) (hl:l.length*120≤140737488355328):FnD Try.prog 3 [.v (.c (.sl (.op l)))] (.v (.c (.bool true))) []:=by
  refine fn_sound rH_ok Try.func3 (lcA l) ⟨hl,rfl,beq_self_eq_true _,beq_self_eq_true _,⟨rfl,rfl,rfl,?_⟩,trivial⟩
  unfold compR
  split
  · exact Nat.zero_le _
  · generalize compL (ownL l) [] [] 0 0=c
    unfold compE
    split
    · exact Nat.zero_le _
    · split
      · exact Nat.zero_le _
      · rw[List.length_append]
        omega
end
end Go.Proofs.Ytobdghmmbddfnaa
