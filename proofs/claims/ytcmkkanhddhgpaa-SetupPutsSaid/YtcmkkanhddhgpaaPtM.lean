/- Parts of a proof, one behind the other: WPu, WPi, Pf, WCp, PCp, WCo1, WCo2, WCo3, WOa, WMd, PMd, WMy, PMz, WTi, WDa, WDb, PDb, WDc, PDc, WDd, WDe, Gb, WEa, WMw, PMw, WTj, WYa, PYa, WYb, WYc, PYc, WYd, WYe, WYf, WYg, PYg, WYh, PYh. No conditions. -/
import Derived.Shelf.Strconv.Itoa0
import Derived.Test.YtcmkkanhddhgpaaPtL
/- Bits of a number, powers of an element of the greater field: the functions, walked. No conditions. -/
namespace Go.Proofs.Ytcmkkanhddhgpaa
open Go.Shelf

theorem inP_ofNat {n:Nat} (h:n<B6):inP (Fin.ofNat B6 n)=Fin.ofNat pN n:=by
  apply Fin.ext
  show (n % B6) % pN=n % pN
  rw[Nat.mod_eq_of_lt h]
theorem smallP_fnd (n:Int) (h1:0≤n) (h2:n<18446744073709551616):FnD Try.prog 48 [.v (.c (.int .u64 n))] (.v (.a [.ob (.p (Fin.ofNat pN n.toNat))])) []:=by
  refine (fn_sound qeF_ok Try.func48 (smallP0 n) ⟨h1,h2,by decide,by decide,by decide,by decide,by decide,by decide,by decide,by decide,by decide,by decide,trivial⟩).conv (fun _ _ h=>h) fun y v hd=>?_
  rw[Nat.add_zero,inP_ofNat (by unfold B6;omega)] at hd
  exact hd
theorem zeroP_fnd (x:Fp):FnD Try.prog 31 [.v (.a [.ob (.p x)])] (.v (.c (.bool (decide (x=0))))) []:=by
  refine (fn_sound qeF_ok Try.func31 (zeroP0 _) trivial).conv (fun _ _ h=>h) fun y v hd=>?_
  rw[if_pos rfl] at hd
  exact hd
def smallPSpec:FnSpec
  | [.v (.c (.int .u64 n))]=>some ([0≤n,n<18446744073709551616],.v (.a [.ob (.p (Fin.ofNat pN n.toNat))]),[])
  | _=>none
noncomputable def qeG1:Env:=qeF.set (addT qeF.fn 48 smallPSpec)
theorem qeG1_ok:EnvOk Try.prog qeG1:=env_add qeF_ok 48 smallPSpec (enters_of Try.func48 rfl rfl) fun args o r es h ho=>by
  unfold smallPSpec at h
  split at h
  · cases h;exact smallP_fnd _ ho.1 ho.2.1
  · cases h
def negPSpec:FnSpec
  | [.v (.a [.ob (.p x)])]=>some ([],.v (.a [.ob (.p (0-x))]),[])
  | _=>none
noncomputable def qeG2:Env:=qeG1.set (addT qeG1.fn 38 negPSpec)
theorem qeG2_ok:EnvOk Try.prog qeG2:=env_add qeG1_ok 38 negPSpec (enters_of Try.func38 rfl rfl) fun args o r es h _=>by
  unfold negPSpec at h
  split at h
  · cases h;exact fn_sound qeF_ok Try.func38 (negP0 _) trivial
  · cases h
def zeroPSpec:FnSpec
  | [.v (.a [.ob (.p x)])]=>some ([],.v (.c (.bool (decide (x=0)))),[])
  | _=>none
noncomputable def qeG:Env:=qeG2.set (addT qeG2.fn 31 zeroPSpec)
theorem qeG_ok:EnvOk Try.prog qeG:=env_add qeG2_ok 31 zeroPSpec (enters_of Try.func31 rfl rfl) fun args o r es h _=>by
  unfold zeroPSpec at h
  split at h
  · cases h;exact zeroP_fnd _
  · cases h

noncomputable def qeH1:Env:=qeG
theorem qeH1_ok:EnvOk Try.prog qeH1:=qeG_ok
theorem ct (l:List Int):fnRes qeH1 Try.f53 3000 [.v (.c (.sl (.u64 l)))] [] [] []=(some ([((0:Int)≤(ite ((16:Int)<(((List.length l):Nat):Int)) (16:Int) (((List.length l):Nat):Int))),((ite ((16:Int)<(((List.length l):Nat):Int)) (16:Int) (((List.length l):Nat):Int))≤(ite ((16:Int)<(((List.length l):Nat):Int)) (16:Int) (((List.length l):Nat):Int))),((ite ((16:Int)<(((List.length l):Nat):Int)) (16:Int) (((List.length l):Nat):Int))≤(((List.length l):Nat):Int))],((.v (.c (.sl (.u64 (List.take ((ite ((16:Int)<(((List.length l):Nat):Int)) (16:Int) (((List.length l):Nat):Int))).toNat (List.drop 0 l)))))),[]))):=by kernel_rfl

theorem cut_fnd (l:List Int) (hl:l.length≤16):FnD Try.prog 53 [.v (.c (.sl (.u64 l)))] (.v (.c (.sl (.u64 l)))) []:=by
  have r:=ct l
  have e:(if (16:Int)<((l.length:Nat):Int) then (16:Int) else ((l.length:Nat):Int))=((l.length:Nat):Int):=if_neg (by omega)
  rw[e,Int.toNat_natCast,List.drop_zero,List.take_length] at r
  exact fn_sound qeH1_ok Try.func53 r ⟨by omega,Int.le_refl _,Int.le_refl _,trivial⟩
def cutSpec:FnSpec
  | [.v (.c (.sl (.u64 l)))]=>some ([l.length≤16],.v (.c (.sl (.u64 l))),[])
  | _=>none
noncomputable def qeH2:Env:=qeH1.set (addT qeH1.fn 53 cutSpec)
theorem qeH2_ok:EnvOk Try.prog qeH2:=env_add qeH1_ok 53 cutSpec (enters_of Try.func53 rfl rfl) fun args o r es h ho=>by
  unfold cutSpec at h
  split at h
  · cases h;exact cut_fnd _ ho.1
  · cases h
--@env qeH2 qeH2_ok
noncomputable def qeH:Env:=qeH2
theorem qeH_ok:EnvOk Try.prog qeH:=qeH2_ok
theorem meth55_Times (v : Value) (w : World) : (method (Try.prog.types.size + Made.depth) 55 v "Times").run Try.prog w = .ok (46, v) w := by kernel_rfl
theorem meth55_Plus (v : Value) (w : World) : (method (Try.prog.types.size + Made.depth) 55 v "Plus").run Try.prog w = .ok (47, v) w := by kernel_rfl
theorem meth55_Minus (v : Value) (w : World) : (method (Try.prog.types.size + Made.depth) 55 v "Minus").run Try.prog w = .ok (57, v) w := by kernel_rfl
theorem meth55_IsZero (v : Value) (w : World) : (method (Try.prog.types.size + Made.depth) 55 v "IsZero").run Try.prog w = .ok (31, v) w := by kernel_rfl
theorem meth55_Negative (v : Value) (w : World) : (method (Try.prog.types.size + Made.depth) 55 v "Negative").run Try.prog w = .ok (38, v) w := by kernel_rfl
noncomputable def invP (t : Nat) : Option (List (String × Nat)) := if t = 55 then some [("Times", 46), ("Plus", 47), ("Minus", 57), ("IsZero", 31), ("Negative", 38)] else none
noncomputable def qeI:Env:={ qeH with inv:=invP }
theorem qeI_ok:EnvOk Try.prog qeI:=by
  refine ⟨qeH_ok.ty,qeH_ok.mixed,qeH_ok.fn,qeH_ok.mu,qeH_ok.inl,qeH_ok.ex,fun t l h=>?_⟩
  have h:invP t=some l:=h
  unfold invP at h
  split at h
  · rename_i ht
    cases h
    subst ht
    refine ⟨by kernel_rfl,fun name g hg v args w=>?_⟩
    unfold lookM at hg
    split at hg
    · rename_i hn
      cases hg
      subst hn
      simp only[callMethod,Sem.run_bind,run_program,Result.andThen_ok,meth55_Times]
    unfold lookM at hg
    split at hg
    · rename_i hn
      cases hg
      subst hn
      simp only[callMethod,Sem.run_bind,run_program,Result.andThen_ok,meth55_Plus]
    unfold lookM at hg
    split at hg
    · rename_i hn
      cases hg
      subst hn
      simp only[callMethod,Sem.run_bind,run_program,Result.andThen_ok,meth55_Minus]
    unfold lookM at hg
    split at hg
    · rename_i hn
      cases hg
      subst hn
      simp only[callMethod,Sem.run_bind,run_program,Result.andThen_ok,meth55_IsZero]
    unfold lookM at hg
    split at hg
    · rename_i hn
      cases hg
      subst hn
      simp only[callMethod,Sem.run_bind,run_program,Result.andThen_ok,meth55_Negative]
    cases hg
  · cases h
--@env qeI qeI_ok
end Go.Proofs.Ytcmkkanhddhgpaa

/- The inverse in the greater field; sums and doubles of points, walked. No conditions. -/
namespace Go.Proofs.Ytcmkkanhddhgpaa

noncomputable def qeI1:Env:=qeI
theorem qeI1_ok:EnvOk Try.prog qeI1:=qeI_ok
/-- 1 divided by it; 0 of 0. -/
def ivP (a:Fp):Fp:=pw a (pN-2)
theorem ivP_mul (x:Fp) (hx:x≠0):x*ivP x=1:=by
  have h:=fermat_p x hx
  have e:pN-1=(pN-2)+1:=by decide
  rw[e] at h
  have h2:ivP x*x=1:=h
  rw[mul_comm_g]
  exact h2
noncomputable def qeJ:Env:=qeI1
theorem qeJ_ok:EnvOk Try.prog qeJ:=qeI1_ok
theorem twA (x y z:Fp):fnRes qeJ Try.f51 3000 [.v (.a [.ob (.p x),.ob (.p y),.ob (.p z)])] [true] [] []=(some ([((decide (z=(0:Fp)))=true)],((.v (.a [.ob (.p x),.ob (.p y),.ob (.p z)])),[]))):=by kernel_rfl
theorem twB (x y z:Fp):fnRes qeJ Try.f51 3000 [.v (.a [.ob (.p x),.ob (.p y),.ob (.p z)])] [false] [] []=(some ([((decide (z=(0:Fp)))=false)],((.v (.a [(.ob (.p ((((((x*x)+(x*x))+(x*x))*(((x*x)+(x*x))+(x*x)))-(((((x+(y*y))*(x+(y*y)))-(x*x))-((y*y)*(y*y)))+((((x+(y*y))*(x+(y*y)))-(x*x))-((y*y)*(y*y)))))-(((((x+(y*y))*(x+(y*y)))-(x*x))-((y*y)*(y*y)))+((((x+(y*y))*(x+(y*y)))-(x*x))-((y*y)*(y*y))))))),(.ob (.p (((((x*x)+(x*x))+(x*x))*((((((x+(y*y))*(x+(y*y)))-(x*x))-((y*y)*(y*y)))+((((x+(y*y))*(x+(y*y)))-(x*x))-((y*y)*(y*y))))-((((((x*x)+(x*x))+(x*x))*(((x*x)+(x*x))+(x*x)))-(((((x+(y*y))*(x+(y*y)))-(x*x))-((y*y)*(y*y)))+((((x+(y*y))*(x+(y*y)))-(x*x))-((y*y)*(y*y)))))-(((((x+(y*y))*(x+(y*y)))-(x*x))-((y*y)*(y*y)))+((((x+(y*y))*(x+(y*y)))-(x*x))-((y*y)*(y*y)))))))-(((((y*y)*(y*y))+((y*y)*(y*y)))+(((y*y)*(y*y))+((y*y)*(y*y))))+((((y*y)*(y*y))+((y*y)*(y*y)))+(((y*y)*(y*y))+((y*y)*(y*y)))))))),(.ob (.p ((y*z)+(y*z))))])),[]))):=by kernel_rfl
end Go.Proofs.Ytcmkkanhddhgpaa

/- Elements of the greater field, inside and outside; the field; lines. No conditions. -/
namespace Go.Proofs.Ytcmkkanhddhgpaa

def fp1:Fp:=Fin.ofNat pN 1
def fp4:Fp:=Fin.ofNat pN 4
section
variable {r:Nat} [NeZero r]
end

section
variable {r:Nat} [NeZero r]
end

theorem one_ne_p:(1:Fp)≠0:=by decide +kernel
theorem one_val_p:((1:Fp):Nat)=1:=by decide +kernel

instance fldP:Fld Fp:=
  { (inferInstance:CRing (Fin pN)) with
    inv:=ivP
    mul_inv:=ivP_mul
    one_ne:=one_ne_p }

section
variable {F:Type} [Fld F]
end

end Go.Proofs.Ytcmkkanhddhgpaa

/- Points of the first curve: twice, negative, sums, walked. No conditions. -/
namespace Go.Proofs.Ytcmkkanhddhgpaa

theorem twice_fnd (x y z:Fp):FnD Try.prog 51 [.v (.a [.ob (.p x),.ob (.p y),.ob (.p z)])] (.v (.a (ptIts (jtw (x,y,z))))) []:=by
  by_cases h:z=0
  · have e:jtw (x,y,z)=(x,y,z):=if_pos h
    rw[e]
    exact fn_sound qeJ_ok Try.func51 (twA x y z) ⟨decide_eq_true h,trivial⟩
  · unfold jtw
    rw[if_neg h]
    exact fn_sound qeJ_ok Try.func51 (twB x y z) ⟨decide_eq_false h,trivial⟩
def twPSpec:FnSpec
  | [.v (.a [.ob (.p x),.ob (.p y),.ob (.p z)])]=>some ([],.v (.a (ptIts (jtw (x,y,z)))),[])
  | _=>none
noncomputable def qsA:Env:=qeJ.set (addT qeJ.fn 51 twPSpec)
theorem qsA_ok:EnvOk Try.prog qsA:=env_add qeJ_ok 51 twPSpec (enters_of Try.func51 rfl rfl) fun args o r es h _=>by
  unfold twPSpec at h
  split at h
  · cases h;exact twice_fnd _ _ _
  · cases h
noncomputable def qsB:Env:=qsA
theorem qsB_ok:EnvOk Try.prog qsB:=qsA_ok
theorem plA (x y z u v w:Fp):fnRes qsB Try.f49 3000 [.v (.a [.ob (.p x),.ob (.p y),.ob (.p z)]),.v (.a [.ob (.p u),.ob (.p v),.ob (.p w)])] [true] [] []=(some ([((decide (z=(0:Fp)))=true)],((.v (.a [.ob (.p u),.ob (.p v),.ob (.p w)])),[]))):=by kernel_rfl
theorem plB (x y z u v w:Fp):fnRes qsB Try.f49 3000 [.v (.a [.ob (.p x),.ob (.p y),.ob (.p z)]),.v (.a [.ob (.p u),.ob (.p v),.ob (.p w)])] [false,true] [] []=(some ([((decide (z=(0:Fp)))=false),((decide (w=(0:Fp)))=true)],((.v (.a [.ob (.p x),.ob (.p y),.ob (.p z)])),[]))):=by kernel_rfl
theorem plC (x y z u v w:Fp):fnRes qsB Try.f49 3000 [.v (.a [.ob (.p x),.ob (.p y),.ob (.p z)]),.v (.a [.ob (.p u),.ob (.p v),.ob (.p w)])] [false,false,true,true] [] []=(some ([((decide (z=(0:Fp)))=false),((decide (w=(0:Fp)))=false),((decide (((u*(z*z))-(x*(w*w)))=(0:Fp)))=true),((decide ((((v*(z*z))*z)-((y*(w*w))*w))=(0:Fp)))=true)],((.v (.a [(.ob (.p (Prod.fst (jtw (x,(y,z)))))),(.ob (.p (Prod.fst (Prod.snd (jtw (x,(y,z))))))),(.ob (.p (Prod.snd (Prod.snd (jtw (x,(y,z)))))))])),[]))):=by kernel_rfl
theorem plD (x y z u v w:Fp):fnRes qsB Try.f49 3000 [.v (.a [.ob (.p x),.ob (.p y),.ob (.p z)]),.v (.a [.ob (.p u),.ob (.p v),.ob (.p w)])] [false,false,true,false] [] []=(some ([((decide (z=(0:Fp)))=false),((decide (w=(0:Fp)))=false),((decide (((u*(z*z))-(x*(w*w)))=(0:Fp)))=true),((decide ((((v*(z*z))*z)-((y*(w*w))*w))=(0:Fp)))=false)],((.v (.a [.ob (.p x),.ob (.p y),(.ob (.p (0:Fp)))])),[]))):=by kernel_rfl
theorem plE (x y z u v w:Fp):fnRes qsB Try.f49 3000 [.v (.a [.ob (.p x),.ob (.p y),.ob (.p z)]),.v (.a [.ob (.p u),.ob (.p v),.ob (.p w)])] [false,false,false] [] []=(some ([((decide (z=(0:Fp)))=false),((decide (w=(0:Fp)))=false),((decide (((u*(z*z))-(x*(w*w)))=(0:Fp)))=false)],((.v (.a [(.ob (.p (((((((v*(z*z))*z)-((y*(w*w))*w))*(((v*(z*z))*z)-((y*(w*w))*w)))-((((u*(z*z))-(x*(w*w)))*((u*(z*z))-(x*(w*w))))*((u*(z*z))-(x*(w*w)))))-((x*(w*w))*(((u*(z*z))-(x*(w*w)))*((u*(z*z))-(x*(w*w))))))-((x*(w*w))*(((u*(z*z))-(x*(w*w)))*((u*(z*z))-(x*(w*w)))))))),(.ob (.p (((((v*(z*z))*z)-((y*(w*w))*w))*(((x*(w*w))*(((u*(z*z))-(x*(w*w)))*((u*(z*z))-(x*(w*w)))))-(((((((v*(z*z))*z)-((y*(w*w))*w))*(((v*(z*z))*z)-((y*(w*w))*w)))-((((u*(z*z))-(x*(w*w)))*((u*(z*z))-(x*(w*w))))*((u*(z*z))-(x*(w*w)))))-((x*(w*w))*(((u*(z*z))-(x*(w*w)))*((u*(z*z))-(x*(w*w))))))-((x*(w*w))*(((u*(z*z))-(x*(w*w)))*((u*(z*z))-(x*(w*w))))))))-(((y*(w*w))*w)*((((u*(z*z))-(x*(w*w)))*((u*(z*z))-(x*(w*w))))*((u*(z*z))-(x*(w*w)))))))),(.ob (.p ((((u*(z*z))-(x*(w*w)))*z)*w)))])),[]))):=by kernel_rfl
end Go.Proofs.Ytcmkkanhddhgpaa

/- Points of the first curve: sums, contract. No conditions. -/
namespace Go.Proofs.Ytcmkkanhddhgpaa

theorem plusPt_fnd (x y z u v w:Fp):FnD Try.prog 49 [.v (.a [.ob (.p x),.ob (.p y),.ob (.p z)]),.v (.a [.ob (.p u),.ob (.p v),.ob (.p w)])] (.v (.a (ptIts (jpl (x,y,z) (u,v,w))))) []:=by
  by_cases h:z=0
  · have e:jpl (x,y,z) (u,v,w)=(u,v,w):=if_pos h
    rw[e]
    exact fn_sound qsB_ok Try.func49 (plA x y z u v w) ⟨decide_eq_true h,trivial⟩
  · by_cases h2:w=0
    · have e:jpl (x,y,z) (u,v,w)=(x,y,z):=(if_neg h).trans (if_pos h2)
      rw[e]
      exact fn_sound qsB_ok Try.func49 (plB x y z u v w) ⟨decide_eq_false h,decide_eq_true h2,trivial⟩
    · unfold jpl
      rw[if_neg h,if_neg h2]
      dsimp only
      by_cases h3:u*(z*z)-x*(w*w)=0
      · rw[if_pos h3]
        by_cases h4:v*(z*z)*z-y*(w*w)*w=0
        · rw[if_pos h4]
          exact fn_sound qsB_ok Try.func49 (plC x y z u v w) ⟨decide_eq_false h,decide_eq_false h2,decide_eq_true h3,decide_eq_true h4,trivial⟩
        · rw[if_neg h4]
          exact fn_sound qsB_ok Try.func49 (plD x y z u v w) ⟨decide_eq_false h,decide_eq_false h2,decide_eq_true h3,decide_eq_false h4,trivial⟩
      · rw[if_neg h3]
        exact fn_sound qsB_ok Try.func49 (plE x y z u v w) ⟨decide_eq_false h,decide_eq_false h2,decide_eq_false h3,trivial⟩

end Go.Proofs.Ytcmkkanhddhgpaa

/- Points of the first curve, in and out, walked. No conditions. -/
namespace Go.Proofs.Ytcmkkanhddhgpaa

def plPSpec:FnSpec
  | [.v (.a [.ob (.p x),.ob (.p y),.ob (.p z)]),.v (.a [.ob (.p u),.ob (.p v),.ob (.p w)])]=>some ([],.v (.a (ptIts (jpl (x,y,z) (u,v,w)))),[])
  | _=>none
noncomputable def qsC:Env:=qsB.set (addT qsB.fn 49 plPSpec)
theorem qsC_ok:EnvOk Try.prog qsC:=env_add qsB_ok 49 plPSpec (enters_of Try.func49 rfl rfl) fun args o r es h _=>by
  unfold plPSpec at h
  split at h
  · cases h;exact plusPt_fnd _ _ _ _ _ _
  · cases h
noncomputable def qsD:Env:=qsC
theorem qsD_ok:EnvOk Try.prog qsD:=qsC_ok
theorem igA (x y:U6) (i:Bool):fnRes qsD Try.f28 3000 [.v (.a [.ob (.fp x),.ob (.fp y),.bool i])] [true] [] []=(some ([(i=true),((0:Int)≤(1:Int)),((1:Int)<(18446744073709551616:Int)),((0:Int)≤(1:Int)),((1:Int)<(18446744073709551616:Int))],((.v (.a [(.ob (.p (Fin.ofNat pN 1))),(.ob (.p (Fin.ofNat pN 1))),(.ob (.p (0:Fp)))])),[]))):=by kernel_rfl
theorem igB (x y:U6) (i:Bool):fnRes qsD Try.f28 3000 [.v (.a [.ob (.fp x),.ob (.fp y),.bool i])] [false] [] []=(some ([(i=false),((0:Int)≤(1:Int)),((1:Int)<(18446744073709551616:Int))],((.v (.a [(.ob (.p (inP x))),(.ob (.p (inP y))),(.ob (.p (Fin.ofNat pN 1)))])),[]))):=by kernel_rfl
theorem onA (x y:U6) (i:Bool):fnRes qsD Try.f27 3000 [.v (.a [.ob (.fp x),.ob (.fp y),.bool i])] [true] [] []=(some ([(i=true)],((.v (.c (.bool (ite (true=true) (Bool.and (decide (x=(0:U6))) (Bool.and (decide (y=(0:U6))) (i == true))) (Bool.not (Bool.and (decide (x=(0:U6))) (Bool.and (decide (y=(0:U6))) (i == true)))))))),[]))):=by kernel_rfl
theorem onB (x y:U6) (i:Bool):fnRes qsD Try.f27 3000 [.v (.a [.ob (.fp x),.ob (.fp y),.bool i])] [false,true,true] [] []=(some ([(i=false),((ite (true=true) (decide ((outP (inP x))=x)) (Bool.not (decide ((outP (inP x))=x))))=true),((ite (true=true) (decide ((outP (inP y))=y)) (Bool.not (decide ((outP (inP y))=y))))=true),((0:Int)≤(4:Int)),((4:Int)<(18446744073709551616:Int))],((.v (.c (.bool (ite (true=true) (decide (((inP y)*(inP y))=((((inP x)*(inP x))*(inP x))+(Fin.ofNat pN 4)))) (Bool.not (decide (((inP y)*(inP y))=((((inP x)*(inP x))*(inP x))+(Fin.ofNat pN 4))))))))),[]))):=by kernel_rfl
theorem onC (x y:U6) (i:Bool):fnRes qsD Try.f27 3000 [.v (.a [.ob (.fp x),.ob (.fp y),.bool i])] [false,true,false] [] []=(some ([(i=false),((ite (true=true) (decide ((outP (inP x))=x)) (Bool.not (decide ((outP (inP x))=x))))=true),((ite (true=true) (decide ((outP (inP y))=y)) (Bool.not (decide ((outP (inP y))=y))))=false)],((.v (.c (.lit false))),[]))):=by kernel_rfl
theorem onD (x y:U6) (i:Bool):fnRes qsD Try.f27 3000 [.v (.a [.ob (.fp x),.ob (.fp y),.bool i])] [false,false,false] [] []=(some ([(i=false),((ite (true=true) (decide ((outP (inP x))=x)) (Bool.not (decide ((outP (inP x))=x))))=false)],((.v (.c (.lit false))),[]))):=by kernel_rfl
end Go.Proofs.Ytcmkkanhddhgpaa

/- Points of the first curve, in and out: contracts; the functions outside, walked. No conditions. -/
namespace Go.Proofs.Ytcmkkanhddhgpaa

/-- Which points may be. -/
def onG (a:G1D):Bool:=
  if a.inf then decide (a.x=0) && decide (a.y=0)
  else decide (outP (inP a.x)=a.x) && (decide (outP (inP a.y)=a.y) && decide (inP a.y*inP a.y=inP a.x*inP a.x*inP a.x+fp4))
def inG (a:G1D):Fp×Fp×Fp:=if a.inf then (fp1,fp1,0) else (inP a.x,inP a.y,fp1)
theorem inG_fnd (x y:U6) (i:Bool):FnD Try.prog 28 [.v (.a [.ob (.fp x),.ob (.fp y),.bool i])] (.v (.a (ptIts (inG ⟨x,y,i⟩)))) []:=by
  cases i with
  | true=>exact fn_sound qsD_ok Try.func28 (igA x y true) ⟨rfl,by decide,by decide,by decide,by decide,trivial⟩
  | false=>exact fn_sound qsD_ok Try.func28 (igB x y false) ⟨rfl,by decide,by decide,trivial⟩

theorem onG_fnd (x y:U6) (i:Bool):FnD Try.prog 27 [.v (.a [.ob (.fp x),.ob (.fp y),.bool i])] (.v (.c (.bool (onG ⟨x,y,i⟩)))) []:=by
  cases i with
  | true=>
    have r:=onA x y true
    rw[if_pos rfl] at r
    have e:onG ⟨x,y,true⟩=((decide (x=0)) && ((decide (y=0)) && (true == true))):=by
      show (decide (x=0) && decide (y=0))=_
      simp
    rw[e]
    exact fn_sound qsD_ok Try.func27 r ⟨rfl,trivial⟩
  | false=>
    by_cases h1:outP (inP x)=x
    · by_cases h2:outP (inP y)=y
      · have r:=onB x y false
        rw[if_pos rfl,if_pos rfl,if_pos rfl] at r
        have e:onG ⟨x,y,false⟩=decide (inP y*inP y=inP x*inP x*inP x+Fin.ofNat pN 4):=by
          show (decide (outP (inP x)=x) && (decide (outP (inP y)=y) && decide (inP y*inP y=inP x*inP x*inP x+fp4)))=_
          rw[decide_eq_true h1,decide_eq_true h2];rfl
        rw[e]
        exact fn_sound qsD_ok Try.func27 r ⟨rfl,decide_eq_true h1,decide_eq_true h2,by decide,by decide,trivial⟩
      · have r:=onC x y false
        rw[if_pos rfl,if_pos rfl] at r
        have e:onG ⟨x,y,false⟩=false:=by
          show (decide (outP (inP x)=x) && (decide (outP (inP y)=y) && decide (inP y*inP y=inP x*inP x*inP x+fp4)))=_
          rw[decide_eq_false h2,Bool.false_and,Bool.and_false]
        rw[e]
        exact (fn_sound qsD_ok Try.func27 r ⟨rfl,decide_eq_true h1,decide_eq_false h2,trivial⟩).conv (fun _ _ h=>h) fun y v hd=>lit_bool rfl hd
    · have r:=onD x y false
      rw[if_pos rfl] at r
      have e:onG ⟨x,y,false⟩=false:=by
        show (decide (outP (inP x)=x) && (decide (outP (inP y)=y) && decide (inP y*inP y=inP x*inP x*inP x+fp4)))=_
        rw[decide_eq_false h1,Bool.false_and]
      rw[e]
      exact (fn_sound qsD_ok Try.func27 r ⟨rfl,decide_eq_false h1,trivial⟩).conv (fun _ _ h=>h) fun y v hd=>lit_bool rfl hd
def inGSpec:FnSpec
  | [.v (.a [.ob (.fp x),.ob (.fp y),.bool i])]=>some ([],.v (.a (ptIts (inG ⟨x,y,i⟩))),[])
  | _=>none
noncomputable def qsE:Env:=qsD.set (addT qsD.fn 28 inGSpec)
theorem qsE_ok:EnvOk Try.prog qsE:=env_add qsD_ok 28 inGSpec (enters_of Try.func28 rfl rfl) fun args o r es h _=>by
  unfold inGSpec at h
  split at h
  · cases h;exact inG_fnd _ _ _
  · cases h
noncomputable def qsF:Env:=qsE
theorem qsF_ok:EnvOk Try.prog qsF:=qsE_ok
def onGSpec:FnSpec
  | [.v (.a [.ob (.fp x),.ob (.fp y),.bool i])]=>some ([],.v (.c (.bool (onG ⟨x,y,i⟩))),[])
  | _=>none
noncomputable def qsG:Env:=qsF.set (addT qsF.fn 27 onGSpec)
theorem qsG_ok:EnvOk Try.prog qsG:=env_add qsF_ok 27 onGSpec (enters_of Try.func27 rfl rfl) fun args o r es h _=>by
  unfold onGSpec at h
  split at h
  · cases h;exact onG_fnd _ _ _
  · cases h
--@env qsG qsG_ok
theorem riR (x y:U6) (i:Bool):fnRes qsG Try.f12 3000 [.v (.a [.ob (.fp x),.ob (.fp y),.bool i])] [] [] []=(some ([],((.v (.c (.bool (onG (G1D.mk x y i))))),[]))):=by kernel_rfl
end Go.Proofs.Ytcmkkanhddhgpaa

/- Points of the first curve outside, and the reference's: sums, walked. No conditions. -/
namespace Go.Proofs.Ytcmkkanhddhgpaa

def rightSpec1:FnSpec
  | [.v (.a [.ob (.fp x),.ob (.fp y),.bool i])]=>some ([],.v (.c (.bool (onG ⟨x,y,i⟩))),[])
  | _=>none
noncomputable def qtA:Env:=qsG.set (addT qsG.fn 12 rightSpec1)
theorem qtA_ok:EnvOk Try.prog qtA:=env_add qsG_ok 12 rightSpec1 (enters_of Try.func12 rfl rfl) fun args o r es h _=>by
  unfold rightSpec1 at h
  split at h
  · cases h;exact fn_sound qsG_ok Try.func12 (riR _ _ _) trivial
  · cases h
noncomputable def qtC:Env:=qtA
theorem qtC_ok:EnvOk Try.prog qtC:=qtA_ok
noncomputable def qtG:Env:=qtC
theorem qtG_ok:EnvOk Try.prog qtG:=qtC_ok
end Go.Proofs.Ytcmkkanhddhgpaa

/- Sums and negatives of points: contracts. No conditions. -/
namespace Go.Proofs.Ytcmkkanhddhgpaa

noncomputable def qvA:Env:=qtG
theorem qvA_ok:EnvOk Try.prog qvA:=qtG_ok
noncomputable def qvF:Env:=qvA
theorem qvF_ok:EnvOk Try.prog qvF:=qvA_ok
end Go.Proofs.Ytcmkkanhddhgpaa

/- Digits of a number, handed on: walked. No conditions. -/
namespace Go.Proofs.Ytcmkkanhddhgpaa
section
variable {w0:World} {F0:Nat→Prop} {K:Kp} {ac:List Act} {Q:Exit→Act→World→Prop} {cX:Ctx} {aX:Act}

--@env qeJ qeJ_ok
noncomputable def dg_k:List KI:=(run qeJ false 3000 ((fun (l:Nat) (k:U4)=>(⟨[.code (bodyOf Try.f65)],.normal,⟨argT [.v (.c (.val (.func (.yield l) #[] #[]))),.v (.c (.ptr 0 0))],one (.fl [.ob (.fr k)]),Try.f65.ntmps,16,[]⟩⟩:Cfg)) default default) []).cfg.k
theorem dg_hk (l:Nat) (k:U4):(run qeJ false 3000 ((⟨[.code (bodyOf Try.f65)],.normal,⟨argT [.v (.c (.val (.func (.yield l) #[] #[]))),.v (.c (.ptr 0 0))],one (.fl [.ob (.fr k)]),Try.f65.ntmps,16,[]⟩⟩:Cfg)) []).cfg.k=dg_k:=by kernel_rfl
theorem dg (l:Nat) (k:U4) (ho:AllP []) (hs:Sim w0 F0 K ac (⟨argT [.v (.c (.val (.func (.yield l) #[] #[]))),.v (.c (.ptr 0 0))],one (.fl [.ob (.fr k)]),Try.f65.ntmps,16,[]⟩) cX aX) (hK:∀ac cY aY,Sim w0 F0 K ac (mkSt 32 [0,1,3,4] [(.v (.c (.val (Value.func (Fn.yield l) (Array.mk ([]:List Value)) (Array.mk ([]:List Value)))))),.pt 0 0,(.v (.c (.lit false))),.ii (63:Int)] [0] [(some (.fl [.ob (.fr k)]))] 48 [] []) cY aY→Wq Try.prog Q (dg_k) ac Exit.normal aY cY.w):Wq Try.prog Q ([.code (bodyOf Try.f65)]) ac .normal aX cX.w:=
  run_at2 (o:=⟨_,_,_,_,_,_,_⟩) qeJ_ok (by kernel_rfl) (dg_hk l k) ho hs hK
noncomputable def dgS (l:Nat) (k:U4) (g:Bool) (i:Int):St:=mkSt 32 [0,1,3,4] [(.v (.c (.val (Value.func (Fn.yield l) (Array.mk ([]:List Value)) (Array.mk ([]:List Value)))))),.pt 0 0,.v (.c (.bool g)),.v (.c (.int .i64 i))] [0] [(some (.fl [.ob (.fr k)]))] 48 [] []
noncomputable def dgY_k:List KI:=(run qeJ false 3000 ((fun (l:Nat) (k:U4) (g:Bool) (i:Int)=>(⟨lpIn dg_k,.normal,dgS l k g i⟩:Cfg)) default default default default) [true,true,true]).cfg.k
theorem dgY_hk (l:Nat) (k:U4) (g:Bool) (i:Int):(run qeJ false 3000 ((⟨lpIn dg_k,.normal,dgS l k g i⟩:Cfg)) [true,true,true]).cfg.k=dgY_k:=by kernel_rfl
theorem dgY (l:Nat) (k:U4) (g:Bool) (i:Int) (ho:AllP [((decide (i ≥ (0:Int)))=true),((16:Int)≠(0:Int)),((0:Int)≤(IntKind.wrap .i64 (Int.tdiv i (16:Int)))),((IntKind.wrap .i64 (Int.tdiv i (16:Int)))<(4:Int)),((0+(((IntKind.wrap .i64 (Int.tdiv i (16:Int)))).toNat*1))<(Ob.k (.fr k))),((16:Int)≠(0:Int)),((0:Int)≤(IntKind.wrap .i64 ((4:Int)*(Int.tmod i (16:Int))))),(g=true)]) (hs:Sim w0 F0 K ac (dgS l k g i) cX aX) (hK:∀ac cY aY,Sim w0 F0 K ac (mkSt 32 [0,1,3,4,26,27,28] [(.v (.c (.val (Value.func (Fn.yield l) (Array.mk ([]:List Value)) (Array.mk ([]:List Value)))))),.pt 0 0,(.v (.c (.lit true))),.ii i,(.v (.c (.lit true))),(.v (.c (.val (Value.func (Fn.yield l) (Array.mk ([]:List Value)) (Array.mk ([]:List Value)))))),(.ii (IntKind.wrap .i64 (bitsOp BinOp.and IntKind.u64 (Int.fdiv (limb (Ob.n (.fr k)) (0+(((IntKind.wrap .i64 (Int.tdiv i (16:Int)))).toNat*1))) ((2:Int) ^ (Min.min ((IntKind.wrap .i64 ((4:Int)*(Int.tmod i (16:Int))))).toNat 64))) (15:Int))))] [0] [(some (.fl [.ob (.fr k)]))] 416 [] []) cY aY→Wq Try.prog Q (dgY_k) ac Exit.normal aY cY.w):Wq Try.prog Q (lpIn dg_k) ac .normal aX cX.w:=
  run_at2 (o:=⟨_,_,_,_,_,_,_⟩) qeJ_ok (by kernel_rfl) (dgY_hk l k g i) ho hs hK
theorem dgZ_hk (l:Nat) (k:U4) (g:Bool) (i:Int):(run qeJ false 3000 ((⟨lpIn dg_k,.normal,dgS l k g i⟩:Cfg)) [true,false,true]).cfg.k=dgY_k:=by kernel_rfl
theorem dgZ (l:Nat) (k:U4) (g:Bool) (i:Int) (ho:AllP [((decide (i ≥ (0:Int)))=true),((16:Int)≠(0:Int)),((0:Int)≤(IntKind.wrap .i64 (Int.tdiv i (16:Int)))),((IntKind.wrap .i64 (Int.tdiv i (16:Int)))<(4:Int)),((0+(((IntKind.wrap .i64 (Int.tdiv i (16:Int)))).toNat*1))<(Ob.k (.fr k))),((16:Int)≠(0:Int)),((0:Int)≤(IntKind.wrap .i64 ((4:Int)*(Int.tmod i (16:Int))))),(g=false),((decide ((IntKind.wrap .i64 (bitsOp BinOp.and IntKind.u64 (Int.fdiv (limb (Ob.n (.fr k)) (0+(((IntKind.wrap .i64 (Int.tdiv i (16:Int)))).toNat*1))) ((2:Int) ^ (Min.min ((IntKind.wrap .i64 ((4:Int)*(Int.tmod i (16:Int))))).toNat 64))) (15:Int))) > (0:Int)))=true)]) (hs:Sim w0 F0 K ac (dgS l k g i) cX aX) (hK:∀ac cY aY,Sim w0 F0 K ac (mkSt 32 [0,1,3,4,26,27,28] [(.v (.c (.val (Value.func (Fn.yield l) (Array.mk ([]:List Value)) (Array.mk ([]:List Value)))))),.pt 0 0,(.v (.c (.bool (decide ((IntKind.wrap .i64 (bitsOp BinOp.and IntKind.u64 (Int.fdiv (limb (Ob.n (.fr k)) (0+(((IntKind.wrap .i64 (Int.tdiv i (16:Int)))).toNat*1))) ((2:Int) ^ (Min.min ((IntKind.wrap .i64 ((4:Int)*(Int.tmod i (16:Int))))).toNat 64))) (15:Int))) > (0:Int)))))),.ii i,(.v (.c (.lit true))),(.v (.c (.val (Value.func (Fn.yield l) (Array.mk ([]:List Value)) (Array.mk ([]:List Value)))))),(.ii (IntKind.wrap .i64 (bitsOp BinOp.and IntKind.u64 (Int.fdiv (limb (Ob.n (.fr k)) (0+(((IntKind.wrap .i64 (Int.tdiv i (16:Int)))).toNat*1))) ((2:Int) ^ (Min.min ((IntKind.wrap .i64 ((4:Int)*(Int.tmod i (16:Int))))).toNat 64))) (15:Int))))] [0] [(some (.fl [.ob (.fr k)]))] 416 [] []) cY aY→Wq Try.prog Q (dgY_k) ac Exit.normal aY cY.w):Wq Try.prog Q (lpIn dg_k) ac .normal aX cX.w:=
  run_at2 (o:=⟨_,_,_,_,_,_,_⟩) qeJ_ok (by kernel_rfl) (dgZ_hk l k g i) ho hs hK
theorem dgN_hk (l:Nat) (k:U4) (g:Bool) (i:Int):(run qeJ false 3000 ((⟨lpIn dg_k,.normal,dgS l k g i⟩:Cfg)) [true,false,false]).cfg.k=lpBk dg_k:=by kernel_rfl
theorem dgN (l:Nat) (k:U4) (g:Bool) (i:Int) (ho:AllP [((decide (i ≥ (0:Int)))=true),((16:Int)≠(0:Int)),((0:Int)≤(IntKind.wrap .i64 (Int.tdiv i (16:Int)))),((IntKind.wrap .i64 (Int.tdiv i (16:Int)))<(4:Int)),((0+(((IntKind.wrap .i64 (Int.tdiv i (16:Int)))).toNat*1))<(Ob.k (.fr k))),((16:Int)≠(0:Int)),((0:Int)≤(IntKind.wrap .i64 ((4:Int)*(Int.tmod i (16:Int))))),(g=false),((decide ((IntKind.wrap .i64 (bitsOp BinOp.and IntKind.u64 (Int.fdiv (limb (Ob.n (.fr k)) (0+(((IntKind.wrap .i64 (Int.tdiv i (16:Int)))).toNat*1))) ((2:Int) ^ (Min.min ((IntKind.wrap .i64 ((4:Int)*(Int.tmod i (16:Int))))).toNat 64))) (15:Int))) > (0:Int)))=false)]) (hs:Sim w0 F0 K ac (dgS l k g i) cX aX) (hK:∀ac cY aY,Sim w0 F0 K ac (mkSt 32 [0,1,3,4] [(.v (.c (.val (Value.func (Fn.yield l) (Array.mk ([]:List Value)) (Array.mk ([]:List Value)))))),.pt 0 0,(.v (.c (.bool (decide ((IntKind.wrap .i64 (bitsOp BinOp.and IntKind.u64 (Int.fdiv (limb (Ob.n (.fr k)) (0+(((IntKind.wrap .i64 (Int.tdiv i (16:Int)))).toNat*1))) ((2:Int) ^ (Min.min ((IntKind.wrap .i64 ((4:Int)*(Int.tmod i (16:Int))))).toNat 64))) (15:Int))) > (0:Int)))))),(.ii (IntKind.wrap .i64 (i-(1:Int))))] [0] [(some (.fl [.ob (.fr k)]))] 512 [] []) cY aY→Wq Try.prog Q (lpBk dg_k) ac Exit.normal aY cY.w):Wq Try.prog Q (lpIn dg_k) ac .normal aX cX.w:=
  run_at2 (o:=⟨_,_,_,_,_,_,_⟩) qeJ_ok (by kernel_rfl) (dgN_hk l k g i) ho hs hK
theorem dgX_hk (l:Nat) (k:U4) (g:Bool) (i:Int):(run qeJ false 3000 ((⟨lpIn dg_k,.normal,dgS l k g i⟩:Cfg)) [false]).cfg.k=[]:=by kernel_rfl
theorem dgX (l:Nat) (k:U4) (g:Bool) (i:Int) (ho:AllP [((decide (i ≥ (0:Int)))=false)]) (hs:Sim w0 F0 K ac (dgS l k g i) cX aX) (hK:∀ac cY aY,Sim w0 F0 K ac (mkSt 32 [] [] [0] [(some (.fl [.ob (.fr k)]))] 80 [] []) cY aY→Wq Try.prog Q ([]) ac Exit.normal aY cY.w):Wq Try.prog Q (lpIn dg_k) ac .normal aX cX.w:=
  run_at2 (o:=⟨_,_,_,_,_,_,_⟩) qeJ_ok (by kernel_rfl) (dgX_hk l k g i) ho hs hK
theorem dgB_hk (l:Nat) (k:U4) (i d:Int):(run qeJ false 3000 ((⟨opsNext dgY_k,.normal,⟨setT (look .top [0,1,3,4,26,27,28] [(.v (.c (.val (.func (.yield l) #[] #[])))),(.v (.c (.ptr 0 0))),(.v (.c (.bool true))),(.v (.c (.int .i64 i))),(.v (.c (.lit true))),(.v (.c (.val (.func (.yield l) #[] #[])))),(.v (.c (.int .i64 d)))]) 29 (.v (.c (.lit true))),one (.fl [.ob (.fr k)]),32,400,[]⟩⟩:Cfg)) []).cfg.k=lpBk dg_k:=by kernel_rfl
theorem dgB (l:Nat) (k:U4) (i d:Int) (ho:AllP []) (hs:Sim w0 F0 K ac (⟨setT (look .top [0,1,3,4,26,27,28] [(.v (.c (.val (.func (.yield l) #[] #[])))),.pt 0 0,(.v (.c (.bool true))),.ii i,(.v (.c (.lit true))),(.v (.c (.val (.func (.yield l) #[] #[])))),.ii d]) 29 (.v (.c (.lit true))),one (.fl [.ob (.fr k)]),32,400,[]⟩) cX aX) (hK:∀ac cY aY,Sim w0 F0 K ac (mkSt 32 [0,1,3,4] [(.v (.c (.val (Value.func (Fn.yield l) (Array.mk ([]:List Value)) (Array.mk ([]:List Value)))))),.pt 0 0,(.v (.c (.bool true))),(.ii (IntKind.wrap .i64 (i-(1:Int))))] [0] [(some (.fl [.ob (.fr k)]))] 480 [] []) cY aY→Wq Try.prog Q (lpBk dg_k) ac Exit.normal aY cY.w):Wq Try.prog Q (opsNext dgY_k) ac .normal aX cX.w:=
  run_at2 (o:=⟨_,_,_,_,_,_,_⟩) qeJ_ok (by kernel_rfl) (dgB_hk l k i d) ho hs hK
end
end Go.Proofs.Ytcmkkanhddhgpaa

/- Digits handed on: contract. No conditions. -/
namespace Go.Proofs.Ytcmkkanhddhgpaa

def dgEnc (d:Nat):List Value:=[.int .i64 (d:Int)]
def dgVals (d:Nat):List SV:=[.v (.c (.int .i64 (d:Int)))]

theorem digits_iter {x:Ctx} {p:Nat} {k:U4} {M:List Nat→Nat→Option En} (hM:∀s,M s p=some (.fl [.ob (.fr k)])) :
    IterC Try.prog x 65 [(p,0)] dgEnc (dgT k.val 64) M:=by
  intro l J W hgrow hread hyield hJ
  have key:Wq Try.prog (bodyPost Try.prog Try.f65 fun e' W' => (∃v,e' = Ending.returned v)∧J (dgT k.val 64) W') [.code (bodyOf Try.f65)] [] .normal { tmps:=[Value.func (.yield l) #[] #[],.pointer (some ⟨x.β p,0,none⟩)].toArray++Array.replicate 30 undef,defers:=[] } W:=?_
  · exact calls_of_wp (c:=bodyOf Try.f65) Try.func65 rfl ((wpIn_wide (n:=0)).1 key.wp)
  obtain ⟨y,rfl,hm,hcp⟩:=hread [] W hJ
  obtain ⟨hr,hβ⟩:=hcp (p,0) List.mem_cons_self
  have hr:y.k p = .real:=hr
  have hβ:y.β p=x.β p:=hβ
  have hargs:denSs (itCtx y p) [.v (.c (.val (.func (.yield l) #[] #[]))),.v (.c (.ptr 0 0))] [.func (.yield l) #[] #[],.pointer (some ⟨x.β p,0,none⟩)]:=
    .cons ⟨rfl,0,rfl,rfl⟩ (.cons ⟨rfl,0,rfl,by show _=[Value.pointer (some ⟨y.β p,0,none⟩)];rw[hβ]⟩ .nil)
  have hpure:∀y:Ctx,∀(cs:Array Value) ty,y.w.heap[y.β p]? = some (.cells cs ty (0,0))→denEn y (.fl [.ob (.fr k)]) cs.toList→denEn (itCtx y p) (.fl [.ob (.fr k)]) cs.toList:=fun y cs ty _ h=>pure_En rfl h
  have hs:=it_sim (nx:=16) (nt:=32) (a:={ tmps:=[Value.func (.yield l) #[] #[],.pointer (some ⟨x.β p,0,none⟩)].toArray++Array.replicate 30 undef,defers:=[] }) hm (hM []) hr (hpure y) rfl (by simp) (argT_den hargs 30)
  change Wq Try.prog _ _ _ _ _ (itCtx y p).w
  refine dg l k trivial hs fun ac cY aY hs1=>?_
  have hmb:Mem (itCtx y p) (one (.fl [.ob (.fr k)])):=it_mem hm (hM _) hr (hpure y)
  have hs2:=hs1.slots (svs' := [.v (.c (.val (.func (.yield l) #[] #[]))),.v (.c (.ptr 0 0)),.v (.c (.bool false)),.v (.c (.int .i64 63))]) ⟨fun _ h=>h,fun _ h=>h,fun _ h=>lit_bool rfl h,fun _ h=>h,trivial⟩
  let I:{ t:Nat // t≤64 } → List Act→Act→World→Prop:=fun t ac a w=>∃y z,z.w=w∧y.k p = .real∧y.β p=x.β p∧Mem y (M (dgT k.val t.1))∧J (dgT k.val t.1) y.w∧Mem (itCtx y p) (one (.fl [.ob (.fr k)]))∧Sim y.w y.F (kPin (itCtx y p)) ac (dgS l k (!(dgT k.val t.1).isEmpty) ((63:Int)-(t.1:Int))) z a
  refine loop_inv I (fun t=>64-t) (c:=lpC dg_k) (k:=lpR dg_k) (by kernel_rfl) (fun t ih ac b w hI=>?_) ⟨0,Nat.zero_le _⟩ ⟨y,cY,rfl,hr,hβ,hm,hJ,hmb,hs2.nx _⟩
  obtain ⟨t,ht⟩:=t
  obtain ⟨y,z,rfl,hr,hβ,hm,hJ,hmb,hs⟩:=hI
  simp only at hm hJ hs ih
  by_cases h:t<64
  · obtain ⟨i,hi⟩:∃i:Nat,i=63-t:=⟨_,rfl⟩
    have ei:(63:Int)-(t:Int)=(i:Int):=by omega
    have hi64:i<64:=by omega
    rw[ei] at hs
    have hdig:=dig_expr k hi64
    have hpl:=dig_place hi64
    have ho1:decide ((i:Int) ≥ 0)=true:=decide_eq_true (by omega)
    have ho2:(0:Int)≤IntKind.wrap IntKind.i64 (Int.tdiv (i:Int) 16):=by rw[hpl];omega
    have ho3:IntKind.wrap IntKind.i64 (Int.tdiv (i:Int) 16)<4:=by rw[hpl];omega
    have ho4:0+(IntKind.wrap IntKind.i64 (Int.tdiv (i:Int) 16)).toNat*1<Ob.k (Ob.fr k):=by rw[hpl];show _<4;omega
    have ho5:=dig_shift i
    have e4:IntKind.wrap IntKind.i64 ((i:Int)-1)=(63:Int)-((t+1:Nat):Int):=by rw[wrap_id (by omega) (by omega)];omega
    obtain ⟨d,hd⟩:∃d,k.val / 16 ^ i % 16=d:=⟨_,rfl⟩
    rw[hd] at hdig
    have hd' : k.val / 16 ^ (63-t) % 16=d:=by rw[←hi];exact hd
    -- what is handed on
    have give:∀(ac:List Act) (cU:Ctx) (aU:Act),dgT k.val (t+1)=dgT k.val t++[d]→Sim y.w y.F (kPin (itCtx y p)) ac (mkSt 32 [0,1,3,4,26,27,28] [.v (.c (.val (.func (.yield l) #[] #[]))),.v (.c (.ptr 0 0)),.v (.c (.bool true)),.v (.c (.int .i64 (i:Int))),.v (.c (.lit true)),.v (.c (.val (.func (.yield l) #[] #[]))),.v (.c (.int .i64 (d:Int)))] [0] [some (.fl [.ob (.fr k)])] 416 [] []) cU aU →
        Wq Try.prog (bodyPost Try.prog Try.f65 fun e' W' => (∃v,e' = Ending.returned v)∧J (dgT k.val 64) W') dgY_k ac .normal aU cU.w:=by
      intro ac cU aU e3 hs6
      obtain ⟨hg,hk2,hβ2⟩:=it_back hmb rfl hs6 rfl
      have hJ2:=hgrow _ _ _ hJ hg
      obtain ⟨r,hr1⟩:=dgT_pre k.val (m:=64) (t:=t+1) h
      refine yield_at (R:=fun W' => J (dgT k.val (t+1)) W') (dst:=some 29) (f:=.tmp 27) (args:=[.tmp 28]) (by kernel_rfl) hs6 (l:=l) rfl (vs:=dgEnc d) ?_ ?_ fun W' hJ3=>?_
      · have h21:=D_int (hs6.t 28)
        show [aU.tmps.getD 28 undef]=_
        rw[h21]
        rfl
      · have:=hyield (dgT k.val t) d _ hJ2 ⟨r,by rw[hr1,e3,List.append_assoc];rfl⟩
        rw[←e3] at this
        exact this
      · obtain ⟨y3,rfl,hm3,hc3⟩:=hread _ _ hJ3
        obtain ⟨hr3,hβ3⟩:=hc3 (p,0) List.mem_cons_self
        have hr3:y3.k p = .real:=hr3
        have hβ3:y3.β p=x.β p:=hβ3
        have hmb3:Mem (itCtx y3 p) (one (.fl [.ob (.fr k)])):=it_mem hm3 (hM _) hr3 (hpure y3)
        have hs7:=it_again (nx' := 400) (dst:=29) (b:=true) hs6 (by kernel_rfl) rfl hm3 (hM _) hr3 (hpure y3) (by rw[hβ2,hβ];exact hβ3.symm) (by decide)
        change Wq Try.prog _ _ _ _ _ (itCtx y3 p).w
        refine dgB l k _ _ trivial hs7 fun ac cT aT hs8=>?_
        rw[e4] at hs8
        have hne:(!(dgT k.val (t+1)).isEmpty)=true:=by rw[e3];simp
        refine ih ⟨t+1,by omega⟩ (by show 64-(t+1)<64-t;omega) ac aT _ ⟨y3,cT,rfl,hr3,hβ3,hm3,hJ3,hmb3,?_⟩
        show Sim _ _ _ _ (dgS l k (!(dgT k.val (t+1)).isEmpty) _) _ _
        rw[hne]
        exact hs8.nx _
    by_cases hg:(dgT k.val t).isEmpty=true
    · rw[hg] at hs
      by_cases hz:d=0
      · have e3:dgT k.val (t+1)=[]:=dgT_stay hg (by rw[hd',hz])
        refine dgN l k _ _ ⟨ho1,by decide,ho2,ho3,ho4,by decide,ho5,rfl,by rw[hdig,hz];rfl,trivial⟩ hs fun ac cT aT hs8=>?_
        rw[e4,hdig,hz] at hs8
        have e5:dgT k.val (t+1)=dgT k.val t:=by rw[e3,List.isEmpty_iff.1 hg]
        refine ih ⟨t+1,by omega⟩ (by show 64-(t+1)<64-t;omega) ac aT _ ⟨y,cT,rfl,hr,hβ,?_,?_,hmb,?_⟩
        · show Mem y (M (dgT k.val (t+1)))
          rw[e5];exact hm
        · show J (dgT k.val (t+1)) y.w
          rw[e5];exact hJ
        · show Sim _ _ _ _ (dgS l k (!(dgT k.val (t+1)).isEmpty) _) _ _
          rw[e3]
          exact hs8.nx _
      · have e3:dgT k.val (t+1)=dgT k.val t++[d]:=by
          rw[←hd']
          exact dgT_go fun hc=>hz (by rw[←hd'];exact hc.2)
        have hp0:decide ((d:Int) > 0)=true:=decide_eq_true (by omega)
        refine dgZ l k _ _ ⟨ho1,by decide,ho2,ho3,ho4,by decide,ho5,rfl,by rw[hdig];exact hp0,trivial⟩ hs fun ac cU aU hs6=>?_
        rw[hdig,hp0] at hs6
        exact give ac cU aU e3 (hs6.nx _)
    · have hg:(dgT k.val t).isEmpty=false:=Bool.eq_false_iff.2 hg
      rw[hg] at hs
      have e3:dgT k.val (t+1)=dgT k.val t++[d]:=by
        rw[←hd']
        exact dgT_go fun hc=>by rw[hg] at hc;exact absurd hc.1 (by decide)
      refine dgY l k _ _ ⟨ho1,by decide,ho2,ho3,ho4,by decide,ho5,rfl,trivial⟩ hs fun ac cU aU hs6=>?_
      rw[hdig] at hs6
      have hs6' := hs6.slots (svs' := [.v (.c (.val (.func (.yield l) #[] #[]))),.v (.c (.ptr 0 0)),.v (.c (.bool true)),.v (.c (.int .i64 (i:Int))),.v (.c (.lit true)),.v (.c (.val (.func (.yield l) #[] #[]))),.v (.c (.int .i64 (d:Int)))])
        ⟨fun _ h=>h,fun _ h=>h,fun _ h=>lit_bool rfl h,fun _ h=>h,fun _ h=>h,fun _ h=>h,fun _ h=>h,trivial⟩
      exact give ac cU aU e3 (hs6'.nx _)
  · have e5:t=64:=by omega
    subst e5
    refine dgX l k _ _ ⟨by decide,trivial⟩ hs fun ac cV aV hs4=>?_
    obtain ⟨hg,_,_⟩:=it_back hmb rfl hs4 rfl
    exact ⟨it_end qeJ_ok hs4 rfl rfl rfl (fun v=>⟨⟨v,rfl⟩,hgrow _ _ _ hJ hg⟩) (.inr rfl)⟩

end Go.Proofs.Ytcmkkanhddhgpaa

/- Digits of a number, handed on; a point as often as a number says: the functions, walked. No conditions. -/
namespace Go.Proofs.Ytcmkkanhddhgpaa
section
variable {w0:World} {F0:Nat→Prop} {K:Kp} {ac:List Act} {Q:Exit→Act→World→Prop} {cX:Ctx} {aX:Act}

--@env qvF qvF_ok
noncomputable def my_k:List KI:=(run qvF false 3000 ((fun (x y z:Fp) (k:U4)=>(⟨[.code (bodyOf Try.f29)],.normal,initSt Try.f29.ntmps [.v (.a [.ob (.p x),.ob (.p y),.ob (.p z)]),.v (.a [.ob (.fr k)])]⟩:Cfg)) default default default default) []).cfg.k
theorem my_hk (x y z:Fp) (k:U4):(run qvF false 3000 ((⟨[.code (bodyOf Try.f29)],.normal,initSt Try.f29.ntmps [.v (.a [.ob (.p x),.ob (.p y),.ob (.p z)]),.v (.a [.ob (.fr k)])]⟩:Cfg)) []).cfg.k=my_k:=by kernel_rfl
theorem my (x y z:Fp) (k:U4) (ho:AllP [((0:Int)≤(0:Int)),((0:Int)<(16:Int))]) (hs:Sim w0 F0 K ac (initSt Try.f29.ntmps [.v (.a [.ob (.p x),.ob (.p y),.ob (.p z)]),.v (.a [.ob (.fr k)])]) cX aX) (hK:∀ac cY aY,Sim w0 F0 K ac (mkSt 43 [2,3,4,5,6] [.pt 16 0,.pt 32 0,.pt 48 0,.pt 64 0,.ii (1:Int)] [16,32,48,64] [(some (.fl [.ob (.p x),.ob (.p y),.ob (.p z)])),(some (.fl [.ob (.fr k)])),(some (.fl [(.ob (.p (0:Fp))),(.ob (.p (0:Fp))),(.ob (.p (0:Fp)))])),(some (.fl [.ob (.p x),.ob (.p y),(.ob (.p (0:Fp))),(.ob (.p (0:Fp))),(.ob (.p (0:Fp))),(.ob (.p (0:Fp))),(.ob (.p (0:Fp))),(.ob (.p (0:Fp))),(.ob (.p (0:Fp))),(.ob (.p (0:Fp))),(.ob (.p (0:Fp))),(.ob (.p (0:Fp))),(.ob (.p (0:Fp))),(.ob (.p (0:Fp))),(.ob (.p (0:Fp))),(.ob (.p (0:Fp))),(.ob (.p (0:Fp))),(.ob (.p (0:Fp))),(.ob (.p (0:Fp))),(.ob (.p (0:Fp))),(.ob (.p (0:Fp))),(.ob (.p (0:Fp))),(.ob (.p (0:Fp))),(.ob (.p (0:Fp))),(.ob (.p (0:Fp))),(.ob (.p (0:Fp))),(.ob (.p (0:Fp))),(.ob (.p (0:Fp))),(.ob (.p (0:Fp))),(.ob (.p (0:Fp))),(.ob (.p (0:Fp))),(.ob (.p (0:Fp))),(.ob (.p (0:Fp))),(.ob (.p (0:Fp))),(.ob (.p (0:Fp))),(.ob (.p (0:Fp))),(.ob (.p (0:Fp))),(.ob (.p (0:Fp))),(.ob (.p (0:Fp))),(.ob (.p (0:Fp))),(.ob (.p (0:Fp))),(.ob (.p (0:Fp))),(.ob (.p (0:Fp))),(.ob (.p (0:Fp))),(.ob (.p (0:Fp))),(.ob (.p (0:Fp))),(.ob (.p (0:Fp))),(.ob (.p (0:Fp)))]))] 208 [] []) cY aY→Wq Try.prog Q (my_k) ac Exit.normal aY cY.w):Wq Try.prog Q ([.code (bodyOf Try.f29)]) ac .normal aX cX.w:=
  run_at2 (o:=⟨_,_,_,_,_,_,_⟩) qvF_ok (by kernel_rfl) (my_hk x y z k) ho hs hK
noncomputable def myS (x y z:Fp) (k:U4) (L:List (Fp×Fp×Fp)) (i:Int):St:=mkSt 43 [2,3,4,5,6] [.pt 16 0,.pt 32 0,.pt 48 0,.pt 64 0,.v (.c (.int .i64 i))] [16,32,48,64] [(some (.fl [.ob (.p x),.ob (.p y),.ob (.p z)])),(some (.fl [.ob (.fr k)])),(some (.fl [(.ob (.p (0:Fp))),(.ob (.p (0:Fp))),(.ob (.p (0:Fp)))])),some (.sq (.pt L))] 208 [] []
theorem myA_hk (x y z:Fp) (k:U4) (L:List (Fp×Fp×Fp)) (i:Int):(run qvF false 3000 ((⟨lpIn my_k,.normal,myS x y z k L i⟩:Cfg)) [true]).cfg.k=lpBk my_k:=by kernel_rfl
theorem myA (x y z:Fp) (k:U4) (L:List (Fp×Fp×Fp)) (i:Int) (ho:AllP [((decide (i<(16:Int)))=true),((0:Int)≤(IntKind.wrap .i64 (i-(1:Int)))),((IntKind.wrap .i64 (i-(1:Int)))<(16:Int)),(0=0),(((IntKind.wrap .i64 (i-(1:Int)))).toNat<(List.length L)),((0:Int)≤i),(i<(16:Int)),(0=0),((i).toNat<(List.length L))]) (hs:Sim w0 F0 K ac (myS x y z k L i) cX aX) (hK:∀ac cY aY,Sim w0 F0 K ac (mkSt 43 [2,3,4,5,6] [.pt 16 0,.pt 32 0,.pt 48 0,.pt 64 0,(.ii (IntKind.wrap .i64 (i+(1:Int))))] [16,32,48,64] [(some (.fl [.ob (.p x),.ob (.p y),.ob (.p z)])),(some (.fl [.ob (.fr k)])),(some (.fl [(.ob (.p (0:Fp))),(.ob (.p (0:Fp))),(.ob (.p (0:Fp)))])),(some (.sq (Sq.pt (List.set L (i).toNat (jpl (List.getD L ((IntKind.wrap .i64 (i-(1:Int)))).toNat pt0) (x,(y,z)))))))] 432 [] []) cY aY→Wq Try.prog Q (lpBk my_k) ac Exit.normal aY cY.w):Wq Try.prog Q (lpIn my_k) ac .normal aX cX.w:=
  run_at2 (o:=⟨_,_,_,_,_,_,_⟩) qvF_ok (by kernel_rfl) (myA_hk x y z k L i) ho hs hK
noncomputable def myB_k:List KI:=(run qvF false 3000 ((fun (x y z:Fp) (k:U4) (L:List (Fp×Fp×Fp)) (i:Int)=>(⟨lpIn my_k,.normal,myS x y z k L i⟩:Cfg)) default default default default default default) [false]).cfg.k
theorem myB_hk (x y z:Fp) (k:U4) (L:List (Fp×Fp×Fp)) (i:Int):(run qvF false 3000 ((⟨lpIn my_k,.normal,myS x y z k L i⟩:Cfg)) [false]).cfg.k=myB_k:=by kernel_rfl
theorem myB (x y z:Fp) (k:U4) (L:List (Fp×Fp×Fp)) (i:Int) (ho:AllP [((decide (i<(16:Int)))=false),((0:Int)≤(0:Int)),((0:Int)<(16:Int)),(0=0),(0<(List.length L))]) (hs:Sim w0 F0 K ac (myS x y z k L i) cX aX) (hK:∀ac cY aY,Sim w0 F0 K ac (mkSt 43 [4,5,7,30] [.pt 48 0,.pt 64 0,.pt 272 0,(.v (.c (.clo 65 [(320,0)])))] [48,64,272,320] [(some (.fl [(.ob (.p (0:Fp))),(.ob (.p (0:Fp))),(.ob (.p (0:Fp)))])),(some (.sq (Sq.pt L))),(some (.fl [(.ob (.p (Prod.fst (List.getD L 0 pt0)))),(.ob (.p (Prod.fst (Prod.snd (List.getD L 0 pt0))))),(.ob (.p (Prod.snd (Prod.snd (List.getD L 0 pt0)))))])),(some (.fl [.ob (.fr k)]))] 384 [] []) cY aY→Wq Try.prog Q (myB_k) ac Exit.normal aY cY.w):Wq Try.prog Q (lpIn my_k) ac .normal aX cX.w:=
  run_at2 (o:=⟨_,_,_,_,_,_,_⟩) qvF_ok (by kernel_rfl) (myB_hk x y z k L i) ho hs hK
noncomputable def myR (k:U4) (L:List (Fp×Fp×Fp)) (o:Fp×Fp×Fp):St:=mkSt 43 [4,5,7,30] [.pt 48 0,.pt 64 0,.pt 272 0,(.v (.c (.clo 65 [(320,0)])))] [48,64,272,320] [(some (.fl [(.ob (.p (0:Fp))),(.ob (.p (0:Fp))),(.ob (.p (0:Fp)))])),(some (.sq (Sq.pt L))),some (.fl [.ob (.p o.1),.ob (.p o.2.1),.ob (.p o.2.2)]),(some (.fl [.ob (.fr k)]))] 384 [] []
theorem mrA_hk (k:U4) (L:List (Fp×Fp×Fp)) (o:Fp×Fp×Fp) (d:Int):(run qvF false 3000 ((⟨[.code (rfA myB_k)],.normal,roundSt (myR k L o) [(31,.v (.c (.int .i64 d)))]⟩:Cfg)) []).cfg.k=[]:=by kernel_rfl
theorem mrA (k:U4) (L:List (Fp×Fp×Fp)) (o:Fp×Fp×Fp) (d:Int) {ρ:Option Nat} (ho:AllP []) (hs:Sim w0 F0 K ac (roundSt (myR k L o) [(31,.v (.c (.int .i64 d)))]) cX aX) (hK:∀cY aY,Sim w0 F0 K ac (mkSt 43 [4,5,7,8] [.pt 48 0,.pt 64 0,.pt 272 0,.ii d] [48,64,272,320] [(some (.fl [(.ob (.p (0:Fp))),(.ob (.p (0:Fp))),(.ob (.p (0:Fp)))])),(some (.sq (Sq.pt L))),(some (.fl [(.ob (.p (Prod.fst o))),(.ob (.p (Prod.fst (Prod.snd o)))),(.ob (.p (Prod.snd (Prod.snd o))))])),(some (.fl [.ob (.fr k)]))] 400 [[4,5,7,30]] [([.pt 48 0,.pt 64 0,.pt 272 0,(.v (.c (.clo 65 [(320,0)])))],43)]) cY aY→Wq Try.prog Q ([]) ac Exit.normal aY cY.w ρ):Wq Try.prog Q ([.code (rfA myB_k)]) ac .normal aX cX.w ρ :=
  run_atT (o:=⟨_,_,_,_,_,_,_⟩) qvF_ok (by kernel_rfl) (mrA_hk k L o d) ho (by kernel_rfl) (by kernel_rfl) hs hK
noncomputable def mrB (k:U4) (L:List (Fp×Fp×Fp)) (o:Fp×Fp×Fp) (d:Int):St:=mkSt 43 [4,5,7,8] [.pt 48 0,.pt 64 0,.pt 272 0,.ii d] [48,64,272,320] [(some (.fl [(.ob (.p (0:Fp))),(.ob (.p (0:Fp))),(.ob (.p (0:Fp)))])),(some (.sq (Sq.pt L))),some (.fl [.ob (.p o.1),.ob (.p o.2.1),.ob (.p o.2.2)]),(some (.fl [.ob (.fr k)]))] 400 [[4,5,7,30]] [([.pt 48 0,.pt 64 0,.pt 272 0,(.v (.c (.clo 65 [(320,0)])))],43)]
noncomputable def mrC_k:List KI:=(run qvF false 3000 ((fun (k:U4) (L:List (Fp×Fp×Fp)) (o:Fp×Fp×Fp) (d:Int)=>(⟨[.code (rfB myB_k)],.normal,mrB k L o d⟩:Cfg)) default default default default) []).cfg.k
theorem mrC_hk (k:U4) (L:List (Fp×Fp×Fp)) (o:Fp×Fp×Fp) (d:Int):(run qvF false 3000 ((⟨[.code (rfB myB_k)],.normal,mrB k L o d⟩:Cfg)) []).cfg.k=mrC_k:=by kernel_rfl
theorem mrC (k:U4) (L:List (Fp×Fp×Fp)) (o:Fp×Fp×Fp) (d:Int) {ρ:Option Nat} (ho:AllP []) (hs:Sim w0 F0 K ac (mrB k L o d) cX aX) (hK:∀cY aY,Sim w0 F0 K ac (mkSt 43 [4,5,7,8,32] [.pt 48 0,.pt 64 0,.pt 272 0,.ii d,.ii (0:Int)] [48,64,272,320] [(some (.fl [(.ob (.p (0:Fp))),(.ob (.p (0:Fp))),(.ob (.p (0:Fp)))])),(some (.sq (Sq.pt L))),(some (.fl [(.ob (.p (Prod.fst o))),(.ob (.p (Prod.fst (Prod.snd o)))),(.ob (.p (Prod.snd (Prod.snd o))))])),(some (.fl [.ob (.fr k)]))] 416 [[4,5,7,30]] [([.pt 48 0,.pt 64 0,.pt 272 0,(.v (.c (.clo 65 [(320,0)])))],43)]) cY aY→Wq Try.prog Q (mrC_k) ac Exit.normal aY cY.w ρ):Wq Try.prog Q ([.code (rfB myB_k)]) ac .normal aX cX.w ρ :=
  run_atT (o:=⟨_,_,_,_,_,_,_⟩) qvF_ok (by kernel_rfl) (mrC_hk k L o d) ho (by kernel_rfl) (by kernel_rfl) hs hK
noncomputable def mrS (k:U4) (L:List (Fp×Fp×Fp)) (o:Fp×Fp×Fp) (d j:Int):St:=mkSt 43 [4,5,7,8,32] [.pt 48 0,.pt 64 0,.pt 272 0,.ii d,.v (.c (.int .i64 j))] [48,64,272,320] [(some (.fl [(.ob (.p (0:Fp))),(.ob (.p (0:Fp))),(.ob (.p (0:Fp)))])),(some (.sq (Sq.pt L))),some (.fl [.ob (.p o.1),.ob (.p o.2.1),.ob (.p o.2.2)]),(some (.fl [.ob (.fr k)]))] 416 [[4,5,7,30]] [([.pt 48 0,.pt 64 0,.pt 272 0,(.v (.c (.clo 65 [(320,0)])))],43)]
theorem mrD_hk (k:U4) (L:List (Fp×Fp×Fp)) (o:Fp×Fp×Fp) (d j:Int):(run qvF false 3000 ((⟨lpIn mrC_k,.normal,mrS k L o d j⟩:Cfg)) [true]).cfg.k=lpBk mrC_k:=by kernel_rfl
theorem mrD (k:U4) (L:List (Fp×Fp×Fp)) (o:Fp×Fp×Fp) (d j:Int) {ρ:Option Nat} (ho:AllP [((decide (j<(4:Int)))=true)]) (hs:Sim w0 F0 K ac (mrS k L o d j) cX aX) (hK:∀cY aY,Sim w0 F0 K ac (mkSt 43 [4,5,7,8,32] [.pt 48 0,.pt 64 0,.pt 272 0,.ii d,(.ii (IntKind.wrap .i64 (j+(1:Int))))] [48,64,272,320] [(some (.fl [(.ob (.p (0:Fp))),(.ob (.p (0:Fp))),(.ob (.p (0:Fp)))])),(some (.sq (Sq.pt L))),(some (.fl [(.ob (.p (Prod.fst (jtw o)))),(.ob (.p (Prod.fst (Prod.snd (jtw o))))),(.ob (.p (Prod.snd (Prod.snd (jtw o)))))])),(some (.fl [.ob (.fr k)]))] 512 [[4,5,7,30]] [([.pt 48 0,.pt 64 0,.pt 272 0,(.v (.c (.clo 65 [(320,0)])))],43)]) cY aY→Wq Try.prog Q (lpBk mrC_k) ac Exit.normal aY cY.w ρ):Wq Try.prog Q (lpIn mrC_k) ac .normal aX cX.w ρ :=
  run_atT (o:=⟨_,_,_,_,_,_,_⟩) qvF_ok (by kernel_rfl) (mrD_hk k L o d j) ho (by kernel_rfl) (by kernel_rfl) hs hK
theorem mrE_hk (k:U4) (L:List (Fp×Fp×Fp)) (o:Fp×Fp×Fp) (d j:Int):(run qvF false 3000 ((⟨lpIn mrC_k,.normal,mrS k L o d j⟩:Cfg)) [false]).cfg.k=[]:=by kernel_rfl
theorem mrE (k:U4) (L:List (Fp×Fp×Fp)) (o:Fp×Fp×Fp) (d j:Int) {ρ:Option Nat} (ho:AllP [((decide (j<(4:Int)))=false),((0:Int)≤d),(d<(16:Int)),(0=0),((d).toNat<(List.length L))]) (hs:Sim w0 F0 K ac (mrS k L o d j) cX aX) (hK:∀cY aY,Sim w0 F0 K ac (mkSt 43 [4] [.pt 48 0] [48,64,272,320] [(some (.fl [(.ob (.p (0:Fp))),(.ob (.p (0:Fp))),(.ob (.p (0:Fp)))])),(some (.sq (Sq.pt L))),(some (.fl [(.ob (.p (Prod.fst (jpl o (List.getD L (d).toNat pt0))))),(.ob (.p (Prod.fst (Prod.snd (jpl o (List.getD L (d).toNat pt0)))))),(.ob (.p (Prod.snd (Prod.snd (jpl o (List.getD L (d).toNat pt0))))))])),(some (.fl [.ob (.fr k)]))] 528 [[4,5,7,30]] [([.pt 48 0,.pt 64 0,.pt 272 0,(.v (.c (.clo 65 [(320,0)])))],43)]) cY aY→Wq Try.prog Q ([]) ac Exit.normal aY cY.w ρ):Wq Try.prog Q (lpIn mrC_k) ac .normal aX cX.w ρ :=
  run_atT (o:=⟨_,_,_,_,_,_,_⟩) qvF_ok (by kernel_rfl) (mrE_hk k L o d j) ho (by kernel_rfl) (by kernel_rfl) hs hK
noncomputable def mrF (k:U4) (L:List (Fp×Fp×Fp)) (o:Fp×Fp×Fp):St:=mkSt 43 [4] [.pt 48 0] [48,64,272,320] [(some (.fl [(.ob (.p (0:Fp))),(.ob (.p (0:Fp))),(.ob (.p (0:Fp)))])),(some (.sq (Sq.pt L))),some (.fl [.ob (.p o.1),.ob (.p o.2.1),.ob (.p o.2.2)]),(some (.fl [.ob (.fr k)]))] 528 [[4,5,7,30]] [([.pt 48 0,.pt 64 0,.pt 272 0,(.v (.c (.clo 65 [(320,0)])))],43)]
theorem mrX_hk (k:U4) (L:List (Fp×Fp×Fp)) (o:Fp×Fp×Fp):(run qvF false 3000 ((⟨rfR myB_k,.normal,myR k L o⟩:Cfg)) []).cfg.k=[]:=by kernel_rfl
theorem mrX (k:U4) (L:List (Fp×Fp×Fp)) (o:Fp×Fp×Fp) (ho:AllP []) (hs:Sim w0 F0 K ac (myR k L o) cX aX) (hK:∀ac cY aY,Sim w0 F0 K ac (mkSt 43 [4] [.pt 48 0] [48] [(some (.fl [(.ob (.p (Prod.fst o))),(.ob (.p (Prod.fst (Prod.snd o)))),(.ob (.p (Prod.snd (Prod.snd o))))]))] 416 [] []) cY aY→Wq Try.prog Q ([]) ac Exit.ret aY cY.w):Wq Try.prog Q (rfR myB_k) ac .normal aX cX.w:=
  run_at2 (o:=⟨_,_,_,_,_,_,_⟩) qvF_ok (by kernel_rfl) (mrX_hk k L o) ho hs hK
noncomputable def mrZ (o:Fp×Fp×Fp):St:=mkSt 43 [4] [.pt 48 0] [48] [some (.fl [.ob (.p o.1),.ob (.p o.2.1),.ob (.p o.2.2)])] 416 [] []
theorem mrR_end (o:Fp×Fp×Fp):runEnd qvF Try.f29 false 3000 (⟨[],.ret,mrZ o⟩) [] [] []=(some ([],((.v (.a [(.ob (.p (Prod.fst o))),(.ob (.p (Prod.fst (Prod.snd o)))),(.ob (.p (Prod.snd (Prod.snd o))))])),[]))):=by kernel_rfl
end
end Go.Proofs.Ytcmkkanhddhgpaa

/- A point as often as a number says: contract. No conditions. -/
namespace Go.Proofs.Ytcmkkanhddhgpaa

theorem cat_flat {x:Ctx} (L:List (Fp×Fp×Fp)):∀(n i:Nat) (cs:List Value),catL x.D (flatPt L i n) cs→cs.length=n*18∧∀j,j<n→∃c,catL x.D (ptIts (L.getD (i+j) pt0)) c∧∀(q:Nat) (v:Value),c[q]? = some v→cs[j*18+q]? = some v
  | 0,i,cs,h=>by
    have h:cs=[]:=h
    subst h
    exact ⟨rfl,fun j hj=>absurd hj (Nat.not_lt_zero _)⟩
  | n+1,i,cs,h=>by
    obtain ⟨c1,r1,e1,h1,c2,r2,e2,h2,c3,r3,e3,h3,h4⟩:=h
    obtain ⟨hl,hj⟩:=cat_flat L n (i+1) r3 h4
    have l1:c1.length=6:=D_len h1
    have l2:c2.length=6:=D_len h2
    have l3:c3.length=6:=D_len h3
    subst e1 e2 e3
    refine ⟨by simp only[List.length_append];omega,fun j hjn=>?_⟩
    cases j with
    | zero=>
      refine ⟨c1++(c2++(c3++[])),⟨c1,_,rfl,h1,c2,_,rfl,h2,c3,_,rfl,h3,rfl⟩,fun q v hq=>?_⟩
      rw[List.append_nil] at hq
      have hlt:q<(c1++(c2++c3)).length:=by
        rcases Nat.lt_or_ge q (c1++(c2++c3)).length with h | h
        · exact h
        · rw[List.getElem?_eq_none h] at hq;cases hq
      rw[Nat.zero_mul,Nat.zero_add,←hq]
      have e:c1++(c2++(c3++r3))=(c1++(c2++c3))++r3:=by simp
      rw[e,List.getElem?_append_left hlt]
    | succ j=>
      obtain ⟨c,hc,hv⟩:=hj j (by omega)
      rw[show i+1+j=i+(j+1) from by omega] at hc
      refine ⟨c,hc,fun q v hq=>?_⟩
      have e:c1++(c2++(c3++r3))=(c1++(c2++c3))++r3:=by simp
      have hl18:(c1++(c2++c3)).length=18:=by simp only[List.length_append];omega
      rw[e,List.getElem?_append_right (by rw[hl18];omega),hl18,show (j+1)*18+q-18=j*18+q from by omega]
      exact hv q v hq

theorem tab_conv {x:Ctx} (L:List (Fp×Fp×Fp)) (h:L.length=16) (cs:List Value) (hc:denEn x (.fl (flatPt L 0 16)) cs):denEn x (.sq (.pt L)) cs:=by
  obtain ⟨hl,hj⟩:=cat_flat L 16 0 cs hc
  refine ⟨?_,fun i hi=>?_⟩
  · show L.length*18≤cs.length
    rw[h,hl]
    exact Nat.le_refl _
  · have hi:i<L.length:=hi
    rw[h] at hi
    obtain ⟨c,h1,h2⟩:=hj i hi
    rw[Nat.zero_add] at h1
    exact ⟨c,h1,h2⟩

def tab0 (x y:Fp):List (Fp×Fp×Fp):=(x,y,0)::List.replicate 15 pt0

theorem many_fnd (x y z:Fp) (k:U4):FnD Try.prog 29 [.v (.a [.ob (.p x),.ob (.p y),.ob (.p z)]),.v (.a [.ob (.fr k)])] (.v (.a (ptIts (jmn (x,y,z) (dgT k.val 64))))) []:=by
  refine fn_start_m (fn:=Try.f29) (c:=bodyOf Try.f29) Try.func29 rfl rfl fun x0 a0 hk hF hs=>?_
  refine my x y z k ⟨by decide,by decide,trivial⟩ hs fun ac cY aY hs1=>?_
  have hs2:=hs1.blocks (ens' := [some (.fl [.ob (.p x),.ob (.p y),.ob (.p z)]),some (.fl [.ob (.fr k)]),some (.fl [.ob (.p 0),.ob (.p 0),.ob (.p 0)]),some (.sq (.pt (tab0 x y)))])
    ⟨.inl rfl,.inl rfl,.inl rfl,.inr ⟨_,_,_,rfl,rfl,rfl,fun cs h=>tab_conv _ rfl cs h⟩,trivial⟩
  refine loop_rule (ι:={ p:Nat×List (Fp×Fp×Fp) // 1≤p.1∧p.1≤16∧p.2.length=16∧∀j,j<p.1→p.2.getD j pt0=jtab (x,y,z) j }) (fun p=>myS x y z k p.1.2 (p.1.1:Int)) (fun p=>16-p.1.1) (c:=lpC my_k) (k:=lpR my_k) (by kernel_rfl) (fun p ih ac cY aY hs=>?_)
    ⟨(1,tab0 x y),Nat.le_refl 1,by show (1:Nat)≤16;omega,rfl,fun j hj=>by
      have:j=0:=by have hj:j<1:=hj;omega
      subst this;rfl⟩ (hs2.nx _)
  obtain ⟨⟨i,L⟩,h1,h16,hL,htab⟩:=p
  simp only at ih hs h1 h16 hL htab
  by_cases hi:i<16
  · have e1:IntKind.wrap IntKind.i64 ((i:Int)-1)=((i-1:Nat):Int):=by rw[wrap_id (by omega) (by omega)];omega
    have e2:IntKind.wrap IntKind.i64 ((i:Int)+1)=((i+1:Nat):Int):=by rw[wrap_id (by omega) (by omega)];omega
    refine myA x y z k L i ⟨decide_eq_true (by omega),by rw[e1];omega,by rw[e1];omega,rfl,by rw[e1,Int.toNat_natCast,hL];omega,by omega,by omega,rfl,by rw[Int.toNat_natCast,hL];exact hi,trivial⟩ hs fun ac cZ aZ hs3=>?_
    rw[e1,e2,Int.toNat_natCast,Int.toNat_natCast,htab (i-1) (by omega)] at hs3
    have e3:jpl (jtab (x,y,z) (i-1)) (x,y,z)=jtab (x,y,z) i:=by
      obtain ⟨m,rfl⟩:∃m,i=m+1:=⟨i-1,by omega⟩
      rfl
    rw[e3] at hs3
    refine ih ⟨(i+1,L.set i (jtab (x,y,z) i)),by show 1≤i+1;omega,hi,by show (L.set i _).length=16;rw[List.length_set];exact hL,fun j hj=>?_⟩ (by show 16-(i+1)<16-i;omega) ac cZ aZ (hs3.nx _)
    have hj:j<i+1:=hj
    show (L.set i (jtab (x,y,z) i)).getD j pt0=_
    by_cases e:j=i
    · subst e
      simp [List.getD,hL,hi]
    · have:(L.set i (jtab (x,y,z) i)).getD j pt0=L.getD j pt0:=by
        simp [List.getD,List.getElem?_set_ne (Ne.symm e)]
      rw[this]
      exact htab j (by omega)
  · have:i=16:=by omega
    subst this
    refine myB x y z k L _ ⟨by decide,by decide,by decide,rfl,by rw[hL];decide,trivial⟩ hs fun ac cZ aZ hs3=>?_
    rw[htab 0 (by decide)] at hs3
    obtain ⟨e1,e2⟩:=isRf_eq (k:=myB_k) (by kernel_rfl)
    rw[e1]
    have eP:(rfP myB_k).toList=[31]:=by kernel_rfl
    have eG:rfG myB_k = .tmp 30:=by kernel_rfl
    refine range_rule (ps:=rfP myB_k) e2 hs3 (gf:=65) (caps:=[(320,0)]) (enters_of Try.func65 rfl rfl) (fun pre=>myR k L (pre.foldl (jst (x,y,z)) (jtab (x,y,z) 0))) (fun s=>by rw[eG];rfl) ⟨_,rfl⟩ (dgT k.val 64) dgVals dgEnc
      (fun y z=>.cons ⟨rfl,0,rfl⟩ .nil) (fun z=>by rw[←Array.length_toList,eP];rfl) (fun pre p hp=>?_) (digits_iter fun s=>rfl) (fun pre d=>mrB k L (pre.foldl (jst (x,y,z)) (jtab (x,y,z) 0)) d)
      (fun pre d=>mrF k L ((pre++[d]).foldl (jst (x,y,z)) (jtab (x,y,z) 0))) (fun pre d=>⟨_,rfl⟩) (fun pre d hd w1 F1 K1 as1 Q1 l y1 b hs4 hQ=>?_) (fun pre d hd w1 F1 K1 as1 Q1 l y1 b hs4 hQ=>?_) fun D y1 hs4 hD hFD hd=>?_
    · rw[eP] at hp
      have h43:(myR k L (pre.foldl (jst (x,y,z)) (jtab (x,y,z) 0))).nt=43:=rfl
      rw[h43]
      simp only[List.mem_cons,List.not_mem_nil,or_false] at hp
      subst hp
      decide
    · rw[eP] at hs4
      exact mrA k L _ d trivial hs4 fun cZ aZ hs5=>⟨hQ _ _ (hs5.nx _)⟩
    · have hd16:d<16:=by
        obtain ⟨r,hr⟩:=hd
        exact dgT_lt (n:=k.val) 64 d (by rw[hr];simp)
      rw[List.foldl_append] at hQ
      generalize pre.foldl (jst (x,y,z)) (jtab (x,y,z) 0)=o at hs4 hQ
      have hst:List.foldl (jst (x,y,z)) o [d]=jpl (jtws 4 o) (L.getD d pt0):=by
        rw[htab d hd16]
        rfl
      rw[hst] at hQ
      refine mrC k L o d trivial hs4 fun cV aV hs5=>?_
      let I:{ j:Nat // j≤4 } → List Act→Act→World→Prop:=fun j ac a w=>ac=as1∧∃z,z.w=w∧Sim w1 F1 K1 as1 (mrS k L (jtws j.1 o) d (j.1:Int)) z a
      refine loop_inv (ρ:=some l) I (fun j=>4-j.1) (c:=lpC mrC_k) (k:=lpR mrC_k) (by kernel_rfl) (fun j ih ac aV w hI=>?_) ⟨0,Nat.zero_le _⟩ ⟨rfl,cV,rfl,hs5.nx _⟩
      obtain ⟨j,hj⟩:=j
      obtain ⟨rfl,cV,rfl,hs6⟩:=hI
      simp only at ih hs6
      by_cases hj4:j<4
      · refine mrD k L _ d j ⟨decide_eq_true (by omega),trivial⟩ hs6 fun cU aU hs7=>?_
        rw[wrap_id (n:=(j:Int)+1) (by omega) (by omega)] at hs7
        exact ih ⟨j+1,hj4⟩ (by show 4-(j+1)<4-j;omega) _ aU _ ⟨rfl,cU,rfl,hs7.nx _⟩
      · have:j=4:=by omega
        subst this
        refine mrE k L _ d _ ⟨by decide,by omega,by omega,rfl,by rw[Int.toNat_natCast,hL];exact hd16,trivial⟩ hs6 fun cU aU hs7=>?_
        rw[Int.toNat_natCast] at hs7
        exact ⟨hQ _ _ (hs7.nx _)⟩
    · have hs5:=hs4.marked rfl rfl D
      show Wq _ _ _ _ _ _ _ _
      have ej:(dgT k.val 64).foldl (jst (x,y,z)) (jtab (x,y,z) 0)=jmn (x,y,z) (dgT k.val 64):=rfl
      rw[ej] at hs4 hs5
      generalize jmn (x,y,z) (dgT k.val 64)=o at hs4 hs5 ⊢
      refine mrX k L o trivial hs5 fun ac cV aV hs6=>⟨?_⟩
      have hs7:Sim y1.w y1.F (kOwn y1 kAll (markOf D)) ac (mrZ o) cV aV:=hs6
      exact fn_finish qvF_ok hk hF (mrR_end o) trivial (fun y v hd=>hd) hs4 hD hFD hd rfl hs7

end Go.Proofs.Ytcmkkanhddhgpaa

/- one.Mul, and OneTimes' law, walked. No conditions. -/
namespace Go.Proofs.Ytcmkkanhddhgpaa

instance:Inhabited G1D:=⟨g10⟩
def manySpec1:FnSpec
  | [.v (.a [.ob (.p x),.ob (.p y),.ob (.p z)]),.v (.a [.ob (.fr k)])]=>some ([],.v (.a (ptIts (jmn (x,y,z) (dgT k.val 64)))),[])
  | _=>none
noncomputable def qwA:Env:=qvF.set (addT qvF.fn 29 manySpec1)
theorem qwA_ok:EnvOk Try.prog qwA:=env_add qvF_ok 29 manySpec1 (enters_of Try.func29 rfl rfl) fun args o r es h _=>by
  unfold manySpec1 at h
  split at h
  · cases h;exact many_fnd _ _ _ _
  · cases h
--@env qwA qwA_ok
noncomputable def qwC:Env:=qwA
theorem qwC_ok:EnvOk Try.prog qwC:=qwA_ok
end Go.Proofs.Ytcmkkanhddhgpaa

/- Pairs of elements of the greater field: the functions, walked. No conditions. -/
namespace Go.Proofs.Ytcmkkanhddhgpaa

abbrev F2:=Q2 pN
def f2I (x:F2):List It:=[.ob (.p x.1),.ob (.p x.2)]
section
variable {r:Nat} [NeZero r]
theorem kar_g (a b c d:Fin r):(a+b)*(c+d)-a*c-b*d=a*d+b*c:=by grind
end
--@env qeJ qeJ_ok
theorem t2A (a b c d:Fp):fnRes qeJ Try.f60 3000 [.v (.a [.ob (.p a),.ob (.p b)]),.v (.a [.ob (.p c),.ob (.p d)])] [] [] []=(some ([],((.v (.a [(.ob (.p ((a*c)-(b*d)))),(.ob (.p ((((a+b)*(c+d))-(a*c))-(b*d))))])),[]))):=by kernel_rfl
theorem p2A (a b c d:Fp):fnRes qeJ Try.f61 3000 [.v (.a [.ob (.p a),.ob (.p b)]),.v (.a [.ob (.p c),.ob (.p d)])] [] [] []=(some ([],((.v (.a [(.ob (.p (a+c))),(.ob (.p (b+d)))])),[]))):=by kernel_rfl
theorem m2A (a b c d:Fp):fnRes qeJ Try.f83 3000 [.v (.a [.ob (.p a),.ob (.p b)]),.v (.a [.ob (.p c),.ob (.p d)])] [] [] []=(some ([],((.v (.a [(.ob (.p (a-c))),(.ob (.p (b-d)))])),[]))):=by kernel_rfl
theorem z2A (a b:Fp):fnRes qeJ Try.f43 3000 [.v (.a [.ob (.p a),.ob (.p b)])] [] [] []=(some ([],((.v (.c (.bool (ite (true=true) (Bool.and (decide (a=(0:Fp))) (decide (b=(0:Fp)))) (Bool.not (Bool.and (decide (a=(0:Fp))) (decide (b=(0:Fp))))))))),[]))):=by kernel_rfl
theorem i2A (a b:U6):fnRes qeJ Try.f21 3000 [.v (.a [.ob (.fp a),.ob (.fp b)])] [] [] []=(some ([],((.v (.a [(.ob (.p (inP a))),(.ob (.p (inP b)))])),[]))):=by kernel_rfl
theorem o2A (a b:Fp):fnRes qeJ Try.f59 3000 [.v (.a [.ob (.p a),.ob (.p b)])] [] [] []=(some ([],((.v (.a [(.ob (.fp (outP a))),(.ob (.fp (outP b)))])),[]))):=by kernel_rfl
theorem times2_fnd (a b c d:Fp):FnD Try.prog 60 [.v (.a [.ob (.p a),.ob (.p b)]),.v (.a [.ob (.p c),.ob (.p d)])] (.v (.a (f2I ((a,b)*(c,d))))) []:=by
  have r:=t2A a b c d
  rw[kar_g] at r
  exact fn_sound qeJ_ok Try.func60 r trivial
theorem zero2_fnd (a b:Fp):FnD Try.prog 43 [.v (.a [.ob (.p a),.ob (.p b)])] (.v (.c (.bool (decide (((a,b):F2)=0))))) []:=by
  have r:=z2A a b
  rw[if_pos rfl] at r
  have e:decide (((a,b):F2)=0)=(decide (a=0) && decide (b=0)):=pair_dec a 0 b 0
  rw[e]
  exact fn_sound qeJ_ok Try.func43 r trivial
def inP2 (a b:U6):F2:=(inP a,inP b)
def times2Spec:FnSpec
  | [.v (.a [.ob (.p a),.ob (.p b)]),.v (.a [.ob (.p c),.ob (.p d)])]=>some ([],.v (.a (f2I ((a,b)*(c,d)))),[])
  | _=>none
noncomputable def qxA:Env:=qeJ.set (addT qeJ.fn 60 times2Spec)
theorem qxA_ok:EnvOk Try.prog qxA:=env_add qeJ_ok 60 times2Spec (enters_of Try.func60 rfl rfl) fun args o r es h _=>by
  unfold times2Spec at h
  split at h
  · cases h;exact times2_fnd _ _ _ _
  · cases h
def plus2Spec:FnSpec
  | [.v (.a [.ob (.p a),.ob (.p b)]),.v (.a [.ob (.p c),.ob (.p d)])]=>some ([],.v (.a (f2I ((a,b)+(c,d)))),[])
  | _=>none
noncomputable def qxB:Env:=qxA.set (addT qxA.fn 61 plus2Spec)
theorem qxB_ok:EnvOk Try.prog qxB:=env_add qxA_ok 61 plus2Spec (enters_of Try.func61 rfl rfl) fun args o r es h _=>by
  unfold plus2Spec at h
  split at h
  · cases h;exact fn_sound qeJ_ok Try.func61 (p2A _ _ _ _) trivial
  · cases h
def minus2Spec:FnSpec
  | [.v (.a [.ob (.p a),.ob (.p b)]),.v (.a [.ob (.p c),.ob (.p d)])]=>some ([],.v (.a (f2I ((a,b)-(c,d)))),[])
  | _=>none
noncomputable def qxC:Env:=qxB.set (addT qxB.fn 83 minus2Spec)
theorem qxC_ok:EnvOk Try.prog qxC:=env_add qxB_ok 83 minus2Spec (enters_of Try.func83 rfl rfl) fun args o r es h _=>by
  unfold minus2Spec at h
  split at h
  · cases h;exact fn_sound qeJ_ok Try.func83 (m2A _ _ _ _) trivial
  · cases h
noncomputable def qxD:Env:=qxC
theorem qxD_ok:EnvOk Try.prog qxD:=qxC_ok
def zero2Spec:FnSpec
  | [.v (.a [.ob (.p a),.ob (.p b)])]=>some ([],.v (.c (.bool (decide (((a,b):F2)=0)))),[])
  | _=>none
noncomputable def qxE:Env:=qxD.set (addT qxD.fn 43 zero2Spec)
theorem qxE_ok:EnvOk Try.prog qxE:=env_add qxD_ok 43 zero2Spec (enters_of Try.func43 rfl rfl) fun args o r es h _=>by
  unfold zero2Spec at h
  split at h
  · cases h;exact zero2_fnd _ _
  · cases h
noncomputable def qxF:Env:=qxE
theorem qxF_ok:EnvOk Try.prog qxF:=qxE_ok
def in2Spec:FnSpec
  | [.v (.a [.ob (.fp a),.ob (.fp b)])]=>some ([],.v (.a (f2I (inP2 a b))),[])
  | _=>none
noncomputable def qxG:Env:=qxF.set (addT qxF.fn 21 in2Spec)
theorem qxG_ok:EnvOk Try.prog qxG:=env_add qxF_ok 21 in2Spec (enters_of Try.func21 rfl rfl) fun args o r es h _=>by
  unfold in2Spec at h
  split at h
  · cases h;exact fn_sound qeJ_ok Try.func21 (i2A _ _) trivial
  · cases h
def out2Spec:FnSpec
  | [.v (.a [.ob (.p a),.ob (.p b)])]=>some ([],.v (.a [.ob (.fp (outP a)),.ob (.fp (outP b))]),[])
  | _=>none
noncomputable def qxH:Env:=qxG.set (addT qxG.fn 59 out2Spec)
theorem qxH_ok:EnvOk Try.prog qxH:=env_add qxG_ok 59 out2Spec (enters_of Try.func59 rfl rfl) fun args o r es h _=>by
  unfold out2Spec at h
  split at h
  · cases h;exact fn_sound qeJ_ok Try.func59 (o2A _ _) trivial
  · cases h
--@env qxH qxH_ok
noncomputable def qxI:Env:=qxH
theorem qxI_ok:EnvOk Try.prog qxI:=qxH_ok
theorem meth60_Times (v : Value) (w : World) : (method (Try.prog.types.size + Made.depth) 60 v "Times").run Try.prog w = .ok (60, v) w := by kernel_rfl
theorem meth60_Plus (v : Value) (w : World) : (method (Try.prog.types.size + Made.depth) 60 v "Plus").run Try.prog w = .ok (61, v) w := by kernel_rfl
theorem meth60_Minus (v : Value) (w : World) : (method (Try.prog.types.size + Made.depth) 60 v "Minus").run Try.prog w = .ok (83, v) w := by kernel_rfl
theorem meth60_IsZero (v : Value) (w : World) : (method (Try.prog.types.size + Made.depth) 60 v "IsZero").run Try.prog w = .ok (43, v) w := by kernel_rfl
noncomputable def inv2T (T : Nat → Option (List (String × Nat))) (t : Nat) : Option (List (String × Nat)) := if t = 60 then some [("Times", 60), ("Plus", 61), ("Minus", 83), ("IsZero", 43)] else T t
noncomputable def qxJ:Env:={ qxI with inv:=inv2T qxI.inv }
theorem qxJ_ok:EnvOk Try.prog qxJ:=by
  refine ⟨qxI_ok.ty,qxI_ok.mixed,qxI_ok.fn,qxI_ok.mu,qxI_ok.inl,qxI_ok.ex,fun t l h=>?_⟩
  have h:inv2T qxI.inv t=some l:=h
  unfold inv2T at h
  split at h
  · rename_i ht
    cases h
    subst ht
    refine ⟨by kernel_rfl,fun name g hg v args w=>?_⟩
    unfold lookM at hg
    split at hg
    · rename_i hn
      cases hg
      subst hn
      simp only[callMethod,Sem.run_bind,run_program,Result.andThen_ok,meth60_Times]
    unfold lookM at hg
    split at hg
    · rename_i hn
      cases hg
      subst hn
      simp only[callMethod,Sem.run_bind,run_program,Result.andThen_ok,meth60_Plus]
    unfold lookM at hg
    split at hg
    · rename_i hn
      cases hg
      subst hn
      simp only[callMethod,Sem.run_bind,run_program,Result.andThen_ok,meth60_Minus]
    unfold lookM at hg
    split at hg
    · rename_i hn
      cases hg
      subst hn
      simp only[callMethod,Sem.run_bind,run_program,Result.andThen_ok,meth60_IsZero]
    cases hg
  · exact qxI_ok.inv t l h
--@env qxJ qxJ_ok
theorem tw2A (a b c d e f:Fp):fnRes qxJ Try.f63 3000 [.v (.a [.ob (.p a),.ob (.p b),.ob (.p c),.ob (.p d),.ob (.p e),.ob (.p f)])] [true] [] []=(some ([((decide ((e,f)=(0:(Prod (Fin pN) (Fin pN)))))=true)],((.v (.a [.ob (.p a),.ob (.p b),.ob (.p c),.ob (.p d),.ob (.p e),.ob (.p f)])),[]))):=by kernel_rfl
theorem tw2B (a b c d e f:Fp):fnRes qxJ Try.f63 3000 [.v (.a [.ob (.p a),.ob (.p b),.ob (.p c),.ob (.p d),.ob (.p e),.ob (.p f)])] [false] [] []=(some ([((decide ((e,f)=(0:(Prod (Fin pN) (Fin pN)))))=false)],((.v (.a [(.ob (.p (Prod.fst (((((((a,b)*(a,b))+((a,b)*(a,b)))+((a,b)*(a,b)))*((((a,b)*(a,b))+((a,b)*(a,b)))+((a,b)*(a,b))))-((((((a,b)+((c,d)*(c,d)))*((a,b)+((c,d)*(c,d))))-((a,b)*(a,b)))-(((c,d)*(c,d))*((c,d)*(c,d))))+(((((a,b)+((c,d)*(c,d)))*((a,b)+((c,d)*(c,d))))-((a,b)*(a,b)))-(((c,d)*(c,d))*((c,d)*(c,d))))))-((((((a,b)+((c,d)*(c,d)))*((a,b)+((c,d)*(c,d))))-((a,b)*(a,b)))-(((c,d)*(c,d))*((c,d)*(c,d))))+(((((a,b)+((c,d)*(c,d)))*((a,b)+((c,d)*(c,d))))-((a,b)*(a,b)))-(((c,d)*(c,d))*((c,d)*(c,d))))))))),(.ob (.p (Prod.snd (((((((a,b)*(a,b))+((a,b)*(a,b)))+((a,b)*(a,b)))*((((a,b)*(a,b))+((a,b)*(a,b)))+((a,b)*(a,b))))-((((((a,b)+((c,d)*(c,d)))*((a,b)+((c,d)*(c,d))))-((a,b)*(a,b)))-(((c,d)*(c,d))*((c,d)*(c,d))))+(((((a,b)+((c,d)*(c,d)))*((a,b)+((c,d)*(c,d))))-((a,b)*(a,b)))-(((c,d)*(c,d))*((c,d)*(c,d))))))-((((((a,b)+((c,d)*(c,d)))*((a,b)+((c,d)*(c,d))))-((a,b)*(a,b)))-(((c,d)*(c,d))*((c,d)*(c,d))))+(((((a,b)+((c,d)*(c,d)))*((a,b)+((c,d)*(c,d))))-((a,b)*(a,b)))-(((c,d)*(c,d))*((c,d)*(c,d))))))))),(.ob (.p (Prod.fst ((((((a,b)*(a,b))+((a,b)*(a,b)))+((a,b)*(a,b)))*(((((((a,b)+((c,d)*(c,d)))*((a,b)+((c,d)*(c,d))))-((a,b)*(a,b)))-(((c,d)*(c,d))*((c,d)*(c,d))))+(((((a,b)+((c,d)*(c,d)))*((a,b)+((c,d)*(c,d))))-((a,b)*(a,b)))-(((c,d)*(c,d))*((c,d)*(c,d)))))-(((((((a,b)*(a,b))+((a,b)*(a,b)))+((a,b)*(a,b)))*((((a,b)*(a,b))+((a,b)*(a,b)))+((a,b)*(a,b))))-((((((a,b)+((c,d)*(c,d)))*((a,b)+((c,d)*(c,d))))-((a,b)*(a,b)))-(((c,d)*(c,d))*((c,d)*(c,d))))+(((((a,b)+((c,d)*(c,d)))*((a,b)+((c,d)*(c,d))))-((a,b)*(a,b)))-(((c,d)*(c,d))*((c,d)*(c,d))))))-((((((a,b)+((c,d)*(c,d)))*((a,b)+((c,d)*(c,d))))-((a,b)*(a,b)))-(((c,d)*(c,d))*((c,d)*(c,d))))+(((((a,b)+((c,d)*(c,d)))*((a,b)+((c,d)*(c,d))))-((a,b)*(a,b)))-(((c,d)*(c,d))*((c,d)*(c,d))))))))-((((((c,d)*(c,d))*((c,d)*(c,d)))+(((c,d)*(c,d))*((c,d)*(c,d))))+((((c,d)*(c,d))*((c,d)*(c,d)))+(((c,d)*(c,d))*((c,d)*(c,d)))))+(((((c,d)*(c,d))*((c,d)*(c,d)))+(((c,d)*(c,d))*((c,d)*(c,d))))+((((c,d)*(c,d))*((c,d)*(c,d)))+(((c,d)*(c,d))*((c,d)*(c,d)))))))))),(.ob (.p (Prod.snd ((((((a,b)*(a,b))+((a,b)*(a,b)))+((a,b)*(a,b)))*(((((((a,b)+((c,d)*(c,d)))*((a,b)+((c,d)*(c,d))))-((a,b)*(a,b)))-(((c,d)*(c,d))*((c,d)*(c,d))))+(((((a,b)+((c,d)*(c,d)))*((a,b)+((c,d)*(c,d))))-((a,b)*(a,b)))-(((c,d)*(c,d))*((c,d)*(c,d)))))-(((((((a,b)*(a,b))+((a,b)*(a,b)))+((a,b)*(a,b)))*((((a,b)*(a,b))+((a,b)*(a,b)))+((a,b)*(a,b))))-((((((a,b)+((c,d)*(c,d)))*((a,b)+((c,d)*(c,d))))-((a,b)*(a,b)))-(((c,d)*(c,d))*((c,d)*(c,d))))+(((((a,b)+((c,d)*(c,d)))*((a,b)+((c,d)*(c,d))))-((a,b)*(a,b)))-(((c,d)*(c,d))*((c,d)*(c,d))))))-((((((a,b)+((c,d)*(c,d)))*((a,b)+((c,d)*(c,d))))-((a,b)*(a,b)))-(((c,d)*(c,d))*((c,d)*(c,d))))+(((((a,b)+((c,d)*(c,d)))*((a,b)+((c,d)*(c,d))))-((a,b)*(a,b)))-(((c,d)*(c,d))*((c,d)*(c,d))))))))-((((((c,d)*(c,d))*((c,d)*(c,d)))+(((c,d)*(c,d))*((c,d)*(c,d))))+((((c,d)*(c,d))*((c,d)*(c,d)))+(((c,d)*(c,d))*((c,d)*(c,d)))))+(((((c,d)*(c,d))*((c,d)*(c,d)))+(((c,d)*(c,d))*((c,d)*(c,d))))+((((c,d)*(c,d))*((c,d)*(c,d)))+(((c,d)*(c,d))*((c,d)*(c,d)))))))))),(.ob (.p (Prod.fst (((c,d)*(e,f))+((c,d)*(e,f)))))),(.ob (.p (Prod.snd (((c,d)*(e,f))+((c,d)*(e,f))))))])),[]))):=by kernel_rfl
end Go.Proofs.Ytcmkkanhddhgpaa

/- Points of the second curve: twice, negative, sums, walked. No conditions. -/
namespace Go.Proofs.Ytcmkkanhddhgpaa

theorem twice2_fnd (a b c d e f:Fp):FnD Try.prog 63 [.v (.a [.ob (.p a),.ob (.p b),.ob (.p c),.ob (.p d),.ob (.p e),.ob (.p f)])] (.v (.a (pt2Its (jtw (F:=F2) ((a,b),(c,d),(e,f)))))) []:=by
  by_cases h:((e,f):F2)=0
  · have e0:jtw (F:=F2) ((a,b),(c,d),(e,f))=((a,b),(c,d),(e,f)):=if_pos h
    rw[e0]
    exact fn_sound qxJ_ok Try.func63 (tw2A a b c d e f) ⟨decide_eq_true h,trivial⟩
  · unfold jtw
    rw[if_neg h]
    exact fn_sound qxJ_ok Try.func63 (tw2B a b c d e f) ⟨decide_eq_false h,trivial⟩
def tw2Spec:FnSpec
  | [.v (.a [.ob (.p a),.ob (.p b),.ob (.p c),.ob (.p d),.ob (.p e),.ob (.p f)])]=>some ([],.v (.a (pt2Its (jtw (F:=F2) ((a,b),(c,d),(e,f))))),[])
  | _=>none
noncomputable def qyA:Env:=qxJ.set (addT qxJ.fn 63 tw2Spec)
theorem qyA_ok:EnvOk Try.prog qyA:=env_add qxJ_ok 63 tw2Spec (enters_of Try.func63 rfl rfl) fun args o r es h _=>by
  unfold tw2Spec at h
  split at h
  · cases h;exact twice2_fnd _ _ _ _ _ _
  · cases h
noncomputable def qyB:Env:=qyA
theorem qyB_ok:EnvOk Try.prog qyB:=qyA_ok
theorem pq2A (a b c d e f a' b' c' d' e' f' : Fp):fnRes qyB Try.f62 3000 [.v (.a [.ob (.p a),.ob (.p b),.ob (.p c),.ob (.p d),.ob (.p e),.ob (.p f)]),.v (.a [.ob (.p a'),.ob (.p b'),.ob (.p c'),.ob (.p d'),.ob (.p e'),.ob (.p f')])] [true] [] []=(some ([((decide ((e,f)=(0:(Prod (Fin pN) (Fin pN)))))=true)],((.v (.a [(.ob (.p a')),(.ob (.p b')),(.ob (.p c')),(.ob (.p d')),(.ob (.p e')),(.ob (.p f'))])),[]))):=by kernel_rfl
theorem pq2B (a b c d e f a' b' c' d' e' f' : Fp):fnRes qyB Try.f62 3000 [.v (.a [.ob (.p a),.ob (.p b),.ob (.p c),.ob (.p d),.ob (.p e),.ob (.p f)]),.v (.a [.ob (.p a'),.ob (.p b'),.ob (.p c'),.ob (.p d'),.ob (.p e'),.ob (.p f')])] [false,true] [] []=(some ([((decide ((e,f)=(0:(Prod (Fin pN) (Fin pN)))))=false),((decide ((e',f')=(0:(Prod (Fin pN) (Fin pN)))))=true)],((.v (.a [.ob (.p a),.ob (.p b),.ob (.p c),.ob (.p d),.ob (.p e),.ob (.p f)])),[]))):=by kernel_rfl
theorem pq2C (a b c d e f a' b' c' d' e' f' : Fp):fnRes qyB Try.f62 3000 [.v (.a [.ob (.p a),.ob (.p b),.ob (.p c),.ob (.p d),.ob (.p e),.ob (.p f)]),.v (.a [.ob (.p a'),.ob (.p b'),.ob (.p c'),.ob (.p d'),.ob (.p e'),.ob (.p f')])] [false,false,true,true] [] []=(some ([((decide ((e,f)=(0:(Prod (Fin pN) (Fin pN)))))=false),((decide ((e',f')=(0:(Prod (Fin pN) (Fin pN)))))=false),((decide ((((a',b')*((e,f)*(e,f)))-((a,b)*((e',f')*(e',f'))))=(0:(Prod (Fin pN) (Fin pN)))))=true),((decide (((((c',d')*((e,f)*(e,f)))*(e,f))-(((c,d)*((e',f')*(e',f')))*(e',f')))=(0:(Prod (Fin pN) (Fin pN)))))=true)],((.v (.a [(.ob (.p (Prod.fst (Prod.fst (jtw ((a,b),((c,d),(e,f)))))))),(.ob (.p (Prod.snd (Prod.fst (jtw ((a,b),((c,d),(e,f)))))))),(.ob (.p (Prod.fst (Prod.fst (Prod.snd (jtw ((a,b),((c,d),(e,f))))))))),(.ob (.p (Prod.snd (Prod.fst (Prod.snd (jtw ((a,b),((c,d),(e,f))))))))),(.ob (.p (Prod.fst (Prod.snd (Prod.snd (jtw ((a,b),((c,d),(e,f))))))))),(.ob (.p (Prod.snd (Prod.snd (Prod.snd (jtw ((a,b),((c,d),(e,f)))))))))])),[]))):=by kernel_rfl
theorem pq2D (a b c d e f a' b' c' d' e' f' : Fp):fnRes qyB Try.f62 3000 [.v (.a [.ob (.p a),.ob (.p b),.ob (.p c),.ob (.p d),.ob (.p e),.ob (.p f)]),.v (.a [.ob (.p a'),.ob (.p b'),.ob (.p c'),.ob (.p d'),.ob (.p e'),.ob (.p f')])] [false,false,true,false] [] []=(some ([((decide ((e,f)=(0:(Prod (Fin pN) (Fin pN)))))=false),((decide ((e',f')=(0:(Prod (Fin pN) (Fin pN)))))=false),((decide ((((a',b')*((e,f)*(e,f)))-((a,b)*((e',f')*(e',f'))))=(0:(Prod (Fin pN) (Fin pN)))))=true),((decide (((((c',d')*((e,f)*(e,f)))*(e,f))-(((c,d)*((e',f')*(e',f')))*(e',f')))=(0:(Prod (Fin pN) (Fin pN)))))=false)],((.v (.a [.ob (.p a),.ob (.p b),.ob (.p c),.ob (.p d),(.ob (.p (0:Fp))),(.ob (.p (0:Fp)))])),[]))):=by kernel_rfl
theorem pq2E (a b c d e f a' b' c' d' e' f' : Fp):fnRes qyB Try.f62 3000 [.v (.a [.ob (.p a),.ob (.p b),.ob (.p c),.ob (.p d),.ob (.p e),.ob (.p f)]),.v (.a [.ob (.p a'),.ob (.p b'),.ob (.p c'),.ob (.p d'),.ob (.p e'),.ob (.p f')])] [false,false,false] [] []=(some ([((decide ((e,f)=(0:(Prod (Fin pN) (Fin pN)))))=false),((decide ((e',f')=(0:(Prod (Fin pN) (Fin pN)))))=false),((decide ((((a',b')*((e,f)*(e,f)))-((a,b)*((e',f')*(e',f'))))=(0:(Prod (Fin pN) (Fin pN)))))=false)],((.v (.a [(.ob (.p (Prod.fst ((((((((c',d')*((e,f)*(e,f)))*(e,f))-(((c,d)*((e',f')*(e',f')))*(e',f')))*((((c',d')*((e,f)*(e,f)))*(e,f))-(((c,d)*((e',f')*(e',f')))*(e',f'))))-(((((a',b')*((e,f)*(e,f)))-((a,b)*((e',f')*(e',f'))))*(((a',b')*((e,f)*(e,f)))-((a,b)*((e',f')*(e',f')))))*(((a',b')*((e,f)*(e,f)))-((a,b)*((e',f')*(e',f'))))))-(((a,b)*((e',f')*(e',f')))*((((a',b')*((e,f)*(e,f)))-((a,b)*((e',f')*(e',f'))))*(((a',b')*((e,f)*(e,f)))-((a,b)*((e',f')*(e',f')))))))-(((a,b)*((e',f')*(e',f')))*((((a',b')*((e,f)*(e,f)))-((a,b)*((e',f')*(e',f'))))*(((a',b')*((e,f)*(e,f)))-((a,b)*((e',f')*(e',f')))))))))),(.ob (.p (Prod.snd ((((((((c',d')*((e,f)*(e,f)))*(e,f))-(((c,d)*((e',f')*(e',f')))*(e',f')))*((((c',d')*((e,f)*(e,f)))*(e,f))-(((c,d)*((e',f')*(e',f')))*(e',f'))))-(((((a',b')*((e,f)*(e,f)))-((a,b)*((e',f')*(e',f'))))*(((a',b')*((e,f)*(e,f)))-((a,b)*((e',f')*(e',f')))))*(((a',b')*((e,f)*(e,f)))-((a,b)*((e',f')*(e',f'))))))-(((a,b)*((e',f')*(e',f')))*((((a',b')*((e,f)*(e,f)))-((a,b)*((e',f')*(e',f'))))*(((a',b')*((e,f)*(e,f)))-((a,b)*((e',f')*(e',f')))))))-(((a,b)*((e',f')*(e',f')))*((((a',b')*((e,f)*(e,f)))-((a,b)*((e',f')*(e',f'))))*(((a',b')*((e,f)*(e,f)))-((a,b)*((e',f')*(e',f')))))))))),(.ob (.p (Prod.fst ((((((c',d')*((e,f)*(e,f)))*(e,f))-(((c,d)*((e',f')*(e',f')))*(e',f')))*((((a,b)*((e',f')*(e',f')))*((((a',b')*((e,f)*(e,f)))-((a,b)*((e',f')*(e',f'))))*(((a',b')*((e,f)*(e,f)))-((a,b)*((e',f')*(e',f'))))))-((((((((c',d')*((e,f)*(e,f)))*(e,f))-(((c,d)*((e',f')*(e',f')))*(e',f')))*((((c',d')*((e,f)*(e,f)))*(e,f))-(((c,d)*((e',f')*(e',f')))*(e',f'))))-(((((a',b')*((e,f)*(e,f)))-((a,b)*((e',f')*(e',f'))))*(((a',b')*((e,f)*(e,f)))-((a,b)*((e',f')*(e',f')))))*(((a',b')*((e,f)*(e,f)))-((a,b)*((e',f')*(e',f'))))))-(((a,b)*((e',f')*(e',f')))*((((a',b')*((e,f)*(e,f)))-((a,b)*((e',f')*(e',f'))))*(((a',b')*((e,f)*(e,f)))-((a,b)*((e',f')*(e',f')))))))-(((a,b)*((e',f')*(e',f')))*((((a',b')*((e,f)*(e,f)))-((a,b)*((e',f')*(e',f'))))*(((a',b')*((e,f)*(e,f)))-((a,b)*((e',f')*(e',f')))))))))-((((c,d)*((e',f')*(e',f')))*(e',f'))*(((((a',b')*((e,f)*(e,f)))-((a,b)*((e',f')*(e',f'))))*(((a',b')*((e,f)*(e,f)))-((a,b)*((e',f')*(e',f')))))*(((a',b')*((e,f)*(e,f)))-((a,b)*((e',f')*(e',f')))))))))),(.ob (.p (Prod.snd ((((((c',d')*((e,f)*(e,f)))*(e,f))-(((c,d)*((e',f')*(e',f')))*(e',f')))*((((a,b)*((e',f')*(e',f')))*((((a',b')*((e,f)*(e,f)))-((a,b)*((e',f')*(e',f'))))*(((a',b')*((e,f)*(e,f)))-((a,b)*((e',f')*(e',f'))))))-((((((((c',d')*((e,f)*(e,f)))*(e,f))-(((c,d)*((e',f')*(e',f')))*(e',f')))*((((c',d')*((e,f)*(e,f)))*(e,f))-(((c,d)*((e',f')*(e',f')))*(e',f'))))-(((((a',b')*((e,f)*(e,f)))-((a,b)*((e',f')*(e',f'))))*(((a',b')*((e,f)*(e,f)))-((a,b)*((e',f')*(e',f')))))*(((a',b')*((e,f)*(e,f)))-((a,b)*((e',f')*(e',f'))))))-(((a,b)*((e',f')*(e',f')))*((((a',b')*((e,f)*(e,f)))-((a,b)*((e',f')*(e',f'))))*(((a',b')*((e,f)*(e,f)))-((a,b)*((e',f')*(e',f')))))))-(((a,b)*((e',f')*(e',f')))*((((a',b')*((e,f)*(e,f)))-((a,b)*((e',f')*(e',f'))))*(((a',b')*((e,f)*(e,f)))-((a,b)*((e',f')*(e',f')))))))))-((((c,d)*((e',f')*(e',f')))*(e',f'))*(((((a',b')*((e,f)*(e,f)))-((a,b)*((e',f')*(e',f'))))*(((a',b')*((e,f)*(e,f)))-((a,b)*((e',f')*(e',f')))))*(((a',b')*((e,f)*(e,f)))-((a,b)*((e',f')*(e',f')))))))))),(.ob (.p (Prod.fst (((((a',b')*((e,f)*(e,f)))-((a,b)*((e',f')*(e',f'))))*(e,f))*(e',f'))))),(.ob (.p (Prod.snd (((((a',b')*((e,f)*(e,f)))-((a,b)*((e',f')*(e',f'))))*(e,f))*(e',f')))))])),[]))):=by kernel_rfl
end Go.Proofs.Ytcmkkanhddhgpaa

/- Points of the second curve: sums, contract. No conditions. -/
namespace Go.Proofs.Ytcmkkanhddhgpaa

theorem plusPt2_fnd (a b c d e f a' b' c' d' e' f' : Fp):FnD Try.prog 62 [.v (.a [.ob (.p a),.ob (.p b),.ob (.p c),.ob (.p d),.ob (.p e),.ob (.p f)]),.v (.a [.ob (.p a'),.ob (.p b'),.ob (.p c'),.ob (.p d'),.ob (.p e'),.ob (.p f')])] (.v (.a (pt2Its (jpl (F:=F2) ((a,b),(c,d),(e,f)) ((a',b'),(c',d'),(e',f')))))) []:=by
  by_cases h:((e,f):F2)=0
  · have e0:jpl (F:=F2) ((a,b),(c,d),(e,f)) ((a',b'),(c',d'),(e',f'))=((a',b'),(c',d'),(e',f')):=if_pos h
    rw[e0]
    exact fn_sound qyB_ok Try.func62 (pq2A a b c d e f a' b' c' d' e' f') ⟨decide_eq_true h,trivial⟩
  · by_cases h2:((e',f'):F2)=0
    · have e0:jpl (F:=F2) ((a,b),(c,d),(e,f)) ((a',b'),(c',d'),(e',f'))=((a,b),(c,d),(e,f)):=(if_neg h).trans (if_pos h2)
      rw[e0]
      exact fn_sound qyB_ok Try.func62 (pq2B a b c d e f a' b' c' d' e' f') ⟨decide_eq_false h,decide_eq_true h2,trivial⟩
    · unfold jpl
      rw[if_neg h,if_neg h2]
      dsimp only
      by_cases h3:((a',b'):F2)*(((e,f):F2)*((e,f):F2))-((a,b):F2)*(((e',f'):F2)*((e',f'):F2))=0
      · rw[if_pos h3]
        by_cases h4:((c',d'):F2)*(((e,f):F2)*((e,f):F2))*((e,f):F2)-((c,d):F2)*(((e',f'):F2)*((e',f'):F2))*((e',f'):F2)=0
        · rw[if_pos h4]
          exact fn_sound qyB_ok Try.func62 (pq2C a b c d e f a' b' c' d' e' f') ⟨decide_eq_false h,decide_eq_false h2,decide_eq_true h3,decide_eq_true h4,trivial⟩
        · rw[if_neg h4]
          exact fn_sound qyB_ok Try.func62 (pq2D a b c d e f a' b' c' d' e' f') ⟨decide_eq_false h,decide_eq_false h2,decide_eq_true h3,decide_eq_false h4,trivial⟩
      · rw[if_neg h3]
        exact fn_sound qyB_ok Try.func62 (pq2E a b c d e f a' b' c' d' e' f') ⟨decide_eq_false h,decide_eq_false h2,decide_eq_false h3,trivial⟩

end Go.Proofs.Ytcmkkanhddhgpaa

/- Points of the second curve, in and out, walked. No conditions. -/
namespace Go.Proofs.Ytcmkkanhddhgpaa

def pl2Spec:FnSpec
  | [.v (.a [.ob (.p a),.ob (.p b),.ob (.p c),.ob (.p d),.ob (.p e),.ob (.p f)]),.v (.a [.ob (.p a'),.ob (.p b'),.ob (.p c'),.ob (.p d'),.ob (.p e'),.ob (.p f')])]=>some ([],.v (.a (pt2Its (jpl (F:=F2) ((a,b),(c,d),(e,f)) ((a',b'),(c',d'),(e',f'))))),[])
  | _=>none
noncomputable def qyC:Env:=qyB.set (addT qyB.fn 62 pl2Spec)
theorem qyC_ok:EnvOk Try.prog qyC:=env_add qyB_ok 62 pl2Spec (enters_of Try.func62 rfl rfl) fun args o r es h _=>by
  unfold pl2Spec at h
  split at h
  · cases h;exact plusPt2_fnd _ _ _ _ _ _ _ _ _ _ _ _
  · cases h
noncomputable def qyD:Env:=qyC
theorem qyD_ok:EnvOk Try.prog qyD:=qyC_ok
theorem ig2A (a b c d:U6) (i:Bool):fnRes qyD Try.f41 3000 [.v (.a [.ob (.fp a),.ob (.fp b),.ob (.fp c),.ob (.fp d),.bool i])] [true] [] []=(some ([((0:Int)≤(1:Int)),((1:Int)<(18446744073709551616:Int)),(i=true)],((.v (.a [(.ob (.p (Fin.ofNat pN 1))),(.ob (.p (0:Fp))),(.ob (.p (Fin.ofNat pN 1))),(.ob (.p (0:Fp))),(.ob (.p (0:Fp))),(.ob (.p (0:Fp)))])),[]))):=by kernel_rfl
theorem ig2B (a b c d:U6) (i:Bool):fnRes qyD Try.f41 3000 [.v (.a [.ob (.fp a),.ob (.fp b),.ob (.fp c),.ob (.fp d),.bool i])] [false] [] []=(some ([((0:Int)≤(1:Int)),((1:Int)<(18446744073709551616:Int)),(i=false)],((.v (.a [(.ob (.p (Prod.fst (inP2 a b)))),(.ob (.p (Prod.snd (inP2 a b)))),(.ob (.p (Prod.fst (inP2 c d)))),(.ob (.p (Prod.snd (inP2 c d)))),(.ob (.p (Fin.ofNat pN 1))),(.ob (.p (0:Fp)))])),[]))):=by kernel_rfl
theorem on2A (a b c d:U6) (i:Bool):fnRes qyD Try.f40 3000 [.v (.a [.ob (.fp a),.ob (.fp b),.ob (.fp c),.ob (.fp d),.bool i])] [true] [] []=(some ([(i=true)],((.v (.c (.bool (ite (true=true) (Bool.and (decide (a=(0:U6))) (Bool.and (decide (b=(0:U6))) (Bool.and (decide (c=(0:U6))) (Bool.and (decide (d=(0:U6))) (i == true))))) (Bool.not (Bool.and (decide (a=(0:U6))) (Bool.and (decide (b=(0:U6))) (Bool.and (decide (c=(0:U6))) (Bool.and (decide (d=(0:U6))) (i == true)))))))))),[]))):=by kernel_rfl
theorem on2B (a b c d:U6) (i:Bool):fnRes qyD Try.f40 3000 [.v (.a [.ob (.fp a),.ob (.fp b),.ob (.fp c),.ob (.fp d),.bool i])] [false,true,true] [] []=(some ([(i=false),((0:Int)≤(4:Int)),((4:Int)<(18446744073709551616:Int)),((0:Int)≤(4:Int)),((4:Int)<(18446744073709551616:Int)),((ite (true=true) (Bool.and (decide ((outP (Prod.fst (inP2 a b)))=a)) (decide ((outP (Prod.snd (inP2 a b)))=b))) (Bool.not (Bool.and (decide ((outP (Prod.fst (inP2 a b)))=a)) (decide ((outP (Prod.snd (inP2 a b)))=b)))))=true),((ite (true=true) (Bool.and (decide ((outP (Prod.fst (inP2 c d)))=c)) (decide ((outP (Prod.snd (inP2 c d)))=d))) (Bool.not (Bool.and (decide ((outP (Prod.fst (inP2 c d)))=c)) (decide ((outP (Prod.snd (inP2 c d)))=d)))))=true)],((.v (.c (.bool (ite (true=true) (Bool.and (decide ((Prod.fst ((inP2 c d)*(inP2 c d)))=(Prod.fst ((((inP2 a b)*(inP2 a b))*(inP2 a b))+((Fin.ofNat pN 4),(Fin.ofNat pN 4)))))) (decide ((Prod.snd ((inP2 c d)*(inP2 c d)))=(Prod.snd ((((inP2 a b)*(inP2 a b))*(inP2 a b))+((Fin.ofNat pN 4),(Fin.ofNat pN 4))))))) (Bool.not (Bool.and (decide ((Prod.fst ((inP2 c d)*(inP2 c d)))=(Prod.fst ((((inP2 a b)*(inP2 a b))*(inP2 a b))+((Fin.ofNat pN 4),(Fin.ofNat pN 4)))))) (decide ((Prod.snd ((inP2 c d)*(inP2 c d)))=(Prod.snd ((((inP2 a b)*(inP2 a b))*(inP2 a b))+((Fin.ofNat pN 4),(Fin.ofNat pN 4)))))))))))),[]))):=by kernel_rfl
theorem on2C (a b c d:U6) (i:Bool):fnRes qyD Try.f40 3000 [.v (.a [.ob (.fp a),.ob (.fp b),.ob (.fp c),.ob (.fp d),.bool i])] [false,true,false] [] []=(some ([(i=false),((0:Int)≤(4:Int)),((4:Int)<(18446744073709551616:Int)),((0:Int)≤(4:Int)),((4:Int)<(18446744073709551616:Int)),((ite (true=true) (Bool.and (decide ((outP (Prod.fst (inP2 a b)))=a)) (decide ((outP (Prod.snd (inP2 a b)))=b))) (Bool.not (Bool.and (decide ((outP (Prod.fst (inP2 a b)))=a)) (decide ((outP (Prod.snd (inP2 a b)))=b)))))=true),((ite (true=true) (Bool.and (decide ((outP (Prod.fst (inP2 c d)))=c)) (decide ((outP (Prod.snd (inP2 c d)))=d))) (Bool.not (Bool.and (decide ((outP (Prod.fst (inP2 c d)))=c)) (decide ((outP (Prod.snd (inP2 c d)))=d)))))=false)],((.v (.c (.lit false))),[]))):=by kernel_rfl
theorem on2D (a b c d:U6) (i:Bool):fnRes qyD Try.f40 3000 [.v (.a [.ob (.fp a),.ob (.fp b),.ob (.fp c),.ob (.fp d),.bool i])] [false,false,false] [] []=(some ([(i=false),((0:Int)≤(4:Int)),((4:Int)<(18446744073709551616:Int)),((0:Int)≤(4:Int)),((4:Int)<(18446744073709551616:Int)),((ite (true=true) (Bool.and (decide ((outP (Prod.fst (inP2 a b)))=a)) (decide ((outP (Prod.snd (inP2 a b)))=b))) (Bool.not (Bool.and (decide ((outP (Prod.fst (inP2 a b)))=a)) (decide ((outP (Prod.snd (inP2 a b)))=b)))))=false)],((.v (.c (.lit false))),[]))):=by kernel_rfl
end Go.Proofs.Ytcmkkanhddhgpaa

/- Points of the second curve, in and out; pairs outside: contracts. No conditions. -/
namespace Go.Proofs.Ytcmkkanhddhgpaa

def fq4:F2:=(fp4,fp4)
/-- Which points may be. -/
def onG2 (a:G2D):Bool:=
  if a.inf then decide (a.xa=0) && (decide (a.xb=0) && (decide (a.ya=0) && decide (a.yb=0)))
  else (decide (outP (inP a.xa)=a.xa) && decide (outP (inP a.xb)=a.xb)) && ((decide (outP (inP a.ya)=a.ya) && decide (outP (inP a.yb)=a.yb)) && decide (inP2 a.ya a.yb*inP2 a.ya a.yb=inP2 a.xa a.xb*inP2 a.xa a.xb*inP2 a.xa a.xb+fq4))
def inG2 (a:G2D):F2×F2×F2:=if a.inf then ((fp1,0),(fp1,0),(0,0)) else (inP2 a.xa a.xb,inP2 a.ya a.yb,(fp1,0))
theorem inG2_fnd (a b c d:U6) (i:Bool):FnD Try.prog 41 [.v (.a [.ob (.fp a),.ob (.fp b),.ob (.fp c),.ob (.fp d),.bool i])] (.v (.a (pt2Its (inG2 ⟨a,b,c,d,i⟩)))) []:=by
  cases i with
  | true=>exact fn_sound qyD_ok Try.func41 (ig2A a b c d true) ⟨by decide,by decide,rfl,trivial⟩
  | false=>exact fn_sound qyD_ok Try.func41 (ig2B a b c d false) ⟨by decide,by decide,rfl,trivial⟩

theorem onG2_fin (a b c d:U6):onG2 ⟨a,b,c,d,false⟩=((decide (outP (inP a)=a) && decide (outP (inP b)=b)) && ((decide (outP (inP c)=c) && decide (outP (inP d)=d)) && decide (inP2 c d*inP2 c d=inP2 a b*inP2 a b*inP2 a b+fq4))):=if_neg (fun h=>Bool.noConfusion h)
theorem onG2_inf (a b c d:U6):onG2 ⟨a,b,c,d,true⟩=(decide (a=0) && (decide (b=0) && (decide (c=0) && (decide (d=0) && (true == true))))):=by
  show (decide (a=0) && (decide (b=0) && (decide (c=0) && decide (d=0))))=_
  simp

theorem onG2_fnd (a b c d:U6) (i:Bool):FnD Try.prog 40 [.v (.a [.ob (.fp a),.ob (.fp b),.ob (.fp c),.ob (.fp d),.bool i])] (.v (.c (.bool (onG2 ⟨a,b,c,d,i⟩)))) []:=by
  cases i with
  | true=>
    have r:=on2A a b c d true
    rw[if_pos rfl] at r
    rw[onG2_inf]
    exact fn_sound qyD_ok Try.func40 r ⟨rfl,trivial⟩
  | false=>
    rw[onG2_fin]
    cases h1:(decide (outP (inP a)=a) && decide (outP (inP b)=b)) with
    | true=>
      rw[Bool.true_and]
      cases h2:(decide (outP (inP c)=c) && decide (outP (inP d)=d)) with
      | true=>
        rw[Bool.true_and]
        have r:=on2B a b c d false
        rw[if_pos rfl,if_pos rfl,if_pos rfl] at r
        have e:decide (inP2 c d*inP2 c d=inP2 a b*inP2 a b*inP2 a b+fq4)=_:=pair_dec (inP2 c d*inP2 c d).1 (inP2 a b*inP2 a b*inP2 a b+fq4).1 (inP2 c d*inP2 c d).2 (inP2 a b*inP2 a b*inP2 a b+fq4).2
        rw[e]
        exact fn_sound qyD_ok Try.func40 r ⟨rfl,by decide,by decide,by decide,by decide,h1,h2,trivial⟩
      | false=>
        rw[Bool.false_and]
        have r:=on2C a b c d false
        rw[if_pos rfl,if_pos rfl] at r
        exact (fn_sound qyD_ok Try.func40 r ⟨rfl,by decide,by decide,by decide,by decide,h1,h2,trivial⟩).conv (fun _ _ h=>h) fun y v hd=>lit_bool rfl hd
    | false=>
      rw[Bool.false_and]
      have r:=on2D a b c d false
      rw[if_pos rfl] at r
      exact (fn_sound qyD_ok Try.func40 r ⟨rfl,by decide,by decide,by decide,by decide,h1,trivial⟩).conv (fun _ _ h=>h) fun y v hd=>lit_bool rfl hd

/-! Pairs outside. -/
section
variable {r:Nat} [NeZero r]
end
end Go.Proofs.Ytcmkkanhddhgpaa

/- Points of the second curve outside, and the reference's, walked. No conditions. -/
namespace Go.Proofs.Ytcmkkanhddhgpaa

def inG2Spec:FnSpec
  | [.v (.a [.ob (.fp a),.ob (.fp b),.ob (.fp c),.ob (.fp d),.bool i])]=>some ([],.v (.a (pt2Its (inG2 ⟨a,b,c,d,i⟩))),[])
  | _=>none
noncomputable def qzA:Env:=qyD.set (addT qyD.fn 41 inG2Spec)
theorem qzA_ok:EnvOk Try.prog qzA:=env_add qyD_ok 41 inG2Spec (enters_of Try.func41 rfl rfl) fun args o r es h _=>by
  unfold inG2Spec at h
  split at h
  · cases h;exact inG2_fnd _ _ _ _ _
  · cases h
noncomputable def qzB:Env:=qzA
theorem qzB_ok:EnvOk Try.prog qzB:=qzA_ok
def onG2Spec:FnSpec
  | [.v (.a [.ob (.fp a),.ob (.fp b),.ob (.fp c),.ob (.fp d),.bool i])]=>some ([],.v (.c (.bool (onG2 ⟨a,b,c,d,i⟩))),[])
  | _=>none
noncomputable def qzH:Env:=qzB.set (addT qzB.fn 40 onG2Spec)
theorem qzH_ok:EnvOk Try.prog qzH:=env_add qzB_ok 40 onG2Spec (enters_of Try.func40 rfl rfl) fun args o r es h _=>by
  unfold onG2Spec at h
  split at h
  · cases h;exact onG2_fnd _ _ _ _ _
  · cases h
--@env qzH qzH_ok
theorem ri2R (a b c d:U6) (i:Bool):fnRes qzH Try.f18 3000 [.v (.a [.ob (.fp a),.ob (.fp b),.ob (.fp c),.ob (.fp d),.bool i])] [] [] []=(some ([],((.v (.c (.bool (onG2 (G2D.mk a b c d i))))),[]))):=by kernel_rfl
end Go.Proofs.Ytcmkkanhddhgpaa

/- Sums and negatives of points of the second curve outside, walked. No conditions. -/
namespace Go.Proofs.Ytcmkkanhddhgpaa

def right2Spec:FnSpec
  | [.v (.a [.ob (.fp a),.ob (.fp b),.ob (.fp c),.ob (.fp d),.bool i])]=>some ([],.v (.c (.bool (onG2 ⟨a,b,c,d,i⟩))),[])
  | _=>none
noncomputable def rtA:Env:=qzH.set (addT qzH.fn 18 right2Spec)
theorem rtA_ok:EnvOk Try.prog rtA:=env_add qzH_ok 18 right2Spec (enters_of Try.func18 rfl rfl) fun args o r es h _=>by
  unfold right2Spec at h
  split at h
  · cases h;exact fn_sound qzH_ok Try.func18 (ri2R _ _ _ _ _) trivial
  · cases h
noncomputable def rtC:Env:=rtA
theorem rtC_ok:EnvOk Try.prog rtC:=rtA_ok
noncomputable def rtG:Env:=rtC
theorem rtG_ok:EnvOk Try.prog rtG:=rtC_ok
end Go.Proofs.Ytcmkkanhddhgpaa

/- The second curve is a group: the plain law. No conditions. -/
namespace Go.Proofs.Ytcmkkanhddhgpaa

theorem neg1_p:(-1:Fp)=Fin.ofNat pN (pN-1):=by decide +kernel
theorem neg1_val:(Fin.ofNat pN (pN-1)).val=pN-1:=by decide +kernel
theorem halves_p:pN-1=(pN-1) / 2+(pN-1) / 2:=by decide +kernel
theorem neg1_pow:mpow pN (pN-1) 384 ((pN-1) / 2)≠1:=by decide +kernel
theorem half_lt:(pN-1) / 2<2 ^ 384:=by decide +kernel
theorem neg1_ne:(0:Fp)*0 ≠ -1:=by decide +kernel
theorem no_root (t:Fp):t*t ≠ -1:=by
  intro h
  by_cases ht:t=0
  · rw[ht] at h
    exact neg1_ne h
  · have e:=two_pw t ((pN-1) / 2)
    rw[←halves_p,fermat_p t ht,h,neg1_p] at e
    have:=congrArg Fin.val e
    rw[pw_mpow _ 384 _ half_lt,neg1_val,one_val_p] at this
    exact neg1_pow this

theorem one_ne_2:(1:F2)≠0:=by decide +kernel
instance fldQ:Fld F2:=
  { (ringQ2:CRing (Q2 pN)) with
    inv:=ivQ2 ivP
    mul_inv:=ivQ2_mul ivP ivP_mul (nQ2_zero ivP ivP_mul no_root)
    one_ne:=one_ne_2 }

end Go.Proofs.Ytcmkkanhddhgpaa

/- Sums and negatives of points of the second curve: contracts. No conditions. -/
namespace Go.Proofs.Ytcmkkanhddhgpaa

noncomputable def rtL:Env:=rtG
theorem rtL_ok:EnvOk Try.prog rtL:=rtG_ok
noncomputable def rtM:Env:=rtL
theorem rtM_ok:EnvOk Try.prog rtM:=rtL_ok
end Go.Proofs.Ytcmkkanhddhgpaa

/- A point of the second curve as often as a number says: walked. No conditions. -/
namespace Go.Proofs.Ytcmkkanhddhgpaa
section
variable {w0:World} {F0:Nat→Prop} {K:Kp} {ac:List Act} {Q:Exit→Act→World→Prop} {cX:Ctx} {aX:Act}

--@env rtM rtM_ok
noncomputable def ny_k:List KI:=(run rtM false 3000 ((fun (a b c d e f:Fp) (k:U4)=>(⟨[.code (bodyOf Try.f42)],.normal,initSt Try.f42.ntmps [.v (.a [.ob (.p a),.ob (.p b),.ob (.p c),.ob (.p d),.ob (.p e),.ob (.p f)]),.v (.a [.ob (.fr k)])]⟩:Cfg)) default default default default default default default) []).cfg.k
theorem ny_hk (a b c d e f:Fp) (k:U4):(run rtM false 3000 ((⟨[.code (bodyOf Try.f42)],.normal,initSt Try.f42.ntmps [.v (.a [.ob (.p a),.ob (.p b),.ob (.p c),.ob (.p d),.ob (.p e),.ob (.p f)]),.v (.a [.ob (.fr k)])]⟩:Cfg)) []).cfg.k=ny_k:=by kernel_rfl
theorem ny (a b c d e f:Fp) (k:U4) (ho:AllP [((0:Int)≤(0:Int)),((0:Int)<(16:Int))]) (hs:Sim w0 F0 K ac (initSt Try.f42.ntmps [.v (.a [.ob (.p a),.ob (.p b),.ob (.p c),.ob (.p d),.ob (.p e),.ob (.p f)]),.v (.a [.ob (.fr k)])]) cX aX) (hK:∀ac cY aY,Sim w0 F0 K ac (mkSt 43 [2,3,4,5,6] [.pt 16 0,.pt 32 0,.pt 48 0,.pt 64 0,.ii (1:Int)] [16,32,48,64] [(some (.fl [.ob (.p a),.ob (.p b),.ob (.p c),.ob (.p d),.ob (.p e),.ob (.p f)])),(some (.fl [.ob (.fr k)])),(some (.fl [(.ob (.p (0:Fp))),(.ob (.p (0:Fp))),(.ob (.p (0:Fp))),(.ob (.p (0:Fp))),(.ob (.p (0:Fp))),(.ob (.p (0:Fp)))])),(some (.fl [.ob (.p a),.ob (.p b),.ob (.p c),.ob (.p d),(.ob (.p (0:Fp))),(.ob (.p (0:Fp))),(.ob (.p (0:Fp))),(.ob (.p (0:Fp))),(.ob (.p (0:Fp))),(.ob (.p (0:Fp))),(.ob (.p (0:Fp))),(.ob (.p (0:Fp))),(.ob (.p (0:Fp))),(.ob (.p (0:Fp))),(.ob (.p (0:Fp))),(.ob (.p (0:Fp))),(.ob (.p (0:Fp))),(.ob (.p (0:Fp))),(.ob (.p (0:Fp))),(.ob (.p (0:Fp))),(.ob (.p (0:Fp))),(.ob (.p (0:Fp))),(.ob (.p (0:Fp))),(.ob (.p (0:Fp))),(.ob (.p (0:Fp))),(.ob (.p (0:Fp))),(.ob (.p (0:Fp))),(.ob (.p (0:Fp))),(.ob (.p (0:Fp))),(.ob (.p (0:Fp))),(.ob (.p (0:Fp))),(.ob (.p (0:Fp))),(.ob (.p (0:Fp))),(.ob (.p (0:Fp))),(.ob (.p (0:Fp))),(.ob (.p (0:Fp))),(.ob (.p (0:Fp))),(.ob (.p (0:Fp))),(.ob (.p (0:Fp))),(.ob (.p (0:Fp))),(.ob (.p (0:Fp))),(.ob (.p (0:Fp))),(.ob (.p (0:Fp))),(.ob (.p (0:Fp))),(.ob (.p (0:Fp))),(.ob (.p (0:Fp))),(.ob (.p (0:Fp))),(.ob (.p (0:Fp))),(.ob (.p (0:Fp))),(.ob (.p (0:Fp))),(.ob (.p (0:Fp))),(.ob (.p (0:Fp))),(.ob (.p (0:Fp))),(.ob (.p (0:Fp))),(.ob (.p (0:Fp))),(.ob (.p (0:Fp))),(.ob (.p (0:Fp))),(.ob (.p (0:Fp))),(.ob (.p (0:Fp))),(.ob (.p (0:Fp))),(.ob (.p (0:Fp))),(.ob (.p (0:Fp))),(.ob (.p (0:Fp))),(.ob (.p (0:Fp))),(.ob (.p (0:Fp))),(.ob (.p (0:Fp))),(.ob (.p (0:Fp))),(.ob (.p (0:Fp))),(.ob (.p (0:Fp))),(.ob (.p (0:Fp))),(.ob (.p (0:Fp))),(.ob (.p (0:Fp))),(.ob (.p (0:Fp))),(.ob (.p (0:Fp))),(.ob (.p (0:Fp))),(.ob (.p (0:Fp))),(.ob (.p (0:Fp))),(.ob (.p (0:Fp))),(.ob (.p (0:Fp))),(.ob (.p (0:Fp))),(.ob (.p (0:Fp))),(.ob (.p (0:Fp))),(.ob (.p (0:Fp))),(.ob (.p (0:Fp))),(.ob (.p (0:Fp))),(.ob (.p (0:Fp))),(.ob (.p (0:Fp))),(.ob (.p (0:Fp))),(.ob (.p (0:Fp))),(.ob (.p (0:Fp))),(.ob (.p (0:Fp))),(.ob (.p (0:Fp))),(.ob (.p (0:Fp))),(.ob (.p (0:Fp))),(.ob (.p (0:Fp))),(.ob (.p (0:Fp)))]))] 208 [] []) cY aY→Wq Try.prog Q (ny_k) ac Exit.normal aY cY.w):Wq Try.prog Q ([.code (bodyOf Try.f42)]) ac .normal aX cX.w:=
  run_at2 (o:=⟨_,_,_,_,_,_,_⟩) rtM_ok (by kernel_rfl) (ny_hk a b c d e f k) ho hs hK
noncomputable def nyS (a b c d e f:Fp) (k:U4) (L:List (F2×F2×F2)) (i:Int):St:=mkSt 43 [2,3,4,5,6] [.pt 16 0,.pt 32 0,.pt 48 0,.pt 64 0,.v (.c (.int .i64 i))] [16,32,48,64] [(some (.fl [.ob (.p a),.ob (.p b),.ob (.p c),.ob (.p d),.ob (.p e),.ob (.p f)])),(some (.fl [.ob (.fr k)])),(some (.fl [(.ob (.p (0:Fp))),(.ob (.p (0:Fp))),(.ob (.p (0:Fp))),(.ob (.p (0:Fp))),(.ob (.p (0:Fp))),(.ob (.p (0:Fp)))])),some (.sq (.pt2 L))] 208 [] []
theorem nyA_hk (a b c d e f:Fp) (k:U4) (L:List (F2×F2×F2)) (i:Int):(run rtM false 3000 ((⟨lpIn ny_k,.normal,nyS a b c d e f k L i⟩:Cfg)) [true]).cfg.k=lpBk ny_k:=by kernel_rfl
theorem nyA (a b c d e f:Fp) (k:U4) (L:List (F2×F2×F2)) (i:Int) (ho:AllP [((decide (i<(16:Int)))=true),((0:Int)≤(IntKind.wrap .i64 (i-(1:Int)))),((IntKind.wrap .i64 (i-(1:Int)))<(16:Int)),(0=0),(((IntKind.wrap .i64 (i-(1:Int)))).toNat<(List.length L)),((0:Int)≤i),(i<(16:Int)),(0=0),((i).toNat<(List.length L))]) (hs:Sim w0 F0 K ac (nyS a b c d e f k L i) cX aX) (hK:∀ac cY aY,Sim w0 F0 K ac (mkSt 43 [2,3,4,5,6] [.pt 16 0,.pt 32 0,.pt 48 0,.pt 64 0,(.ii (IntKind.wrap .i64 (i+(1:Int))))] [16,32,48,64] [(some (.fl [.ob (.p a),.ob (.p b),.ob (.p c),.ob (.p d),.ob (.p e),.ob (.p f)])),(some (.fl [.ob (.fr k)])),(some (.fl [(.ob (.p (0:Fp))),(.ob (.p (0:Fp))),(.ob (.p (0:Fp))),(.ob (.p (0:Fp))),(.ob (.p (0:Fp))),(.ob (.p (0:Fp)))])),(some (.sq (Sq.pt2 (List.set L (i).toNat (jpl (List.getD L ((IntKind.wrap .i64 (i-(1:Int)))).toNat pt20) ((a,b),((c,d),(e,f))))))))] 432 [] []) cY aY→Wq Try.prog Q (lpBk ny_k) ac Exit.normal aY cY.w):Wq Try.prog Q (lpIn ny_k) ac .normal aX cX.w:=
  run_at2 (o:=⟨_,_,_,_,_,_,_⟩) rtM_ok (by kernel_rfl) (nyA_hk a b c d e f k L i) ho hs hK
noncomputable def nyB_k:List KI:=(run rtM false 3000 ((fun (a b c d e f:Fp) (k:U4) (L:List (F2×F2×F2)) (i:Int)=>(⟨lpIn ny_k,.normal,nyS a b c d e f k L i⟩:Cfg)) default default default default default default default default default) [false]).cfg.k
theorem nyB_hk (a b c d e f:Fp) (k:U4) (L:List (F2×F2×F2)) (i:Int):(run rtM false 3000 ((⟨lpIn ny_k,.normal,nyS a b c d e f k L i⟩:Cfg)) [false]).cfg.k=nyB_k:=by kernel_rfl
theorem nyB (a b c d e f:Fp) (k:U4) (L:List (F2×F2×F2)) (i:Int) (ho:AllP [((decide (i<(16:Int)))=false),((0:Int)≤(0:Int)),((0:Int)<(16:Int)),(0=0),(0<(List.length L))]) (hs:Sim w0 F0 K ac (nyS a b c d e f k L i) cX aX) (hK:∀ac cY aY,Sim w0 F0 K ac (mkSt 43 [4,5,7,30] [.pt 48 0,.pt 64 0,.pt 272 0,(.v (.c (.clo 65 [(320,0)])))] [48,64,272,320] [(some (.fl [(.ob (.p (0:Fp))),(.ob (.p (0:Fp))),(.ob (.p (0:Fp))),(.ob (.p (0:Fp))),(.ob (.p (0:Fp))),(.ob (.p (0:Fp)))])),(some (.sq (Sq.pt2 L))),(some (.fl [(.ob (.p (Prod.fst (Prod.fst (List.getD L 0 pt20))))),(.ob (.p (Prod.snd (Prod.fst (List.getD L 0 pt20))))),(.ob (.p (Prod.fst (Prod.fst (Prod.snd (List.getD L 0 pt20)))))),(.ob (.p (Prod.snd (Prod.fst (Prod.snd (List.getD L 0 pt20)))))),(.ob (.p (Prod.fst (Prod.snd (Prod.snd (List.getD L 0 pt20)))))),(.ob (.p (Prod.snd (Prod.snd (Prod.snd (List.getD L 0 pt20))))))])),(some (.fl [.ob (.fr k)]))] 384 [] []) cY aY→Wq Try.prog Q (nyB_k) ac Exit.normal aY cY.w):Wq Try.prog Q (lpIn ny_k) ac .normal aX cX.w:=
  run_at2 (o:=⟨_,_,_,_,_,_,_⟩) rtM_ok (by kernel_rfl) (nyB_hk a b c d e f k L i) ho hs hK
noncomputable def nyR (k:U4) (L:List (F2×F2×F2)) (o:F2×F2×F2):St:=mkSt 43 [4,5,7,30] [.pt 48 0,.pt 64 0,.pt 272 0,(.v (.c (.clo 65 [(320,0)])))] [48,64,272,320] [(some (.fl [(.ob (.p (0:Fp))),(.ob (.p (0:Fp))),(.ob (.p (0:Fp))),(.ob (.p (0:Fp))),(.ob (.p (0:Fp))),(.ob (.p (0:Fp)))])),(some (.sq (Sq.pt2 L))),some (.fl [.ob (.p o.1.1),.ob (.p o.1.2),.ob (.p o.2.1.1),.ob (.p o.2.1.2),.ob (.p o.2.2.1),.ob (.p o.2.2.2)]),(some (.fl [.ob (.fr k)]))] 384 [] []
theorem nrA_hk (k:U4) (L:List (F2×F2×F2)) (o:F2×F2×F2) (d:Int):(run rtM false 3000 ((⟨[.code (rfA nyB_k)],.normal,roundSt (nyR k L o) [(31,.v (.c (.int .i64 d)))]⟩:Cfg)) []).cfg.k=[]:=by kernel_rfl
theorem nrA (k:U4) (L:List (F2×F2×F2)) (o:F2×F2×F2) (d:Int) {ρ:Option Nat} (ho:AllP []) (hs:Sim w0 F0 K ac (roundSt (nyR k L o) [(31,.v (.c (.int .i64 d)))]) cX aX) (hK:∀cY aY,Sim w0 F0 K ac (mkSt 43 [4,5,7,8] [.pt 48 0,.pt 64 0,.pt 272 0,.ii d] [48,64,272,320] [(some (.fl [(.ob (.p (0:Fp))),(.ob (.p (0:Fp))),(.ob (.p (0:Fp))),(.ob (.p (0:Fp))),(.ob (.p (0:Fp))),(.ob (.p (0:Fp)))])),(some (.sq (Sq.pt2 L))),(some (.fl [(.ob (.p (Prod.fst (Prod.fst o)))),(.ob (.p (Prod.snd (Prod.fst o)))),(.ob (.p (Prod.fst (Prod.fst (Prod.snd o))))),(.ob (.p (Prod.snd (Prod.fst (Prod.snd o))))),(.ob (.p (Prod.fst (Prod.snd (Prod.snd o))))),(.ob (.p (Prod.snd (Prod.snd (Prod.snd o)))))])),(some (.fl [.ob (.fr k)]))] 400 [[4,5,7,30]] [([.pt 48 0,.pt 64 0,.pt 272 0,(.v (.c (.clo 65 [(320,0)])))],43)]) cY aY→Wq Try.prog Q ([]) ac Exit.normal aY cY.w ρ):Wq Try.prog Q ([.code (rfA nyB_k)]) ac .normal aX cX.w ρ :=
  run_atT (o:=⟨_,_,_,_,_,_,_⟩) rtM_ok (by kernel_rfl) (nrA_hk k L o d) ho (by kernel_rfl) (by kernel_rfl) hs hK
noncomputable def nrB (k:U4) (L:List (F2×F2×F2)) (o:F2×F2×F2) (d:Int):St:=mkSt 43 [4,5,7,8] [.pt 48 0,.pt 64 0,.pt 272 0,.ii d] [48,64,272,320] [(some (.fl [(.ob (.p (0:Fp))),(.ob (.p (0:Fp))),(.ob (.p (0:Fp))),(.ob (.p (0:Fp))),(.ob (.p (0:Fp))),(.ob (.p (0:Fp)))])),(some (.sq (Sq.pt2 L))),some (.fl [.ob (.p o.1.1),.ob (.p o.1.2),.ob (.p o.2.1.1),.ob (.p o.2.1.2),.ob (.p o.2.2.1),.ob (.p o.2.2.2)]),(some (.fl [.ob (.fr k)]))] 400 [[4,5,7,30]] [([.pt 48 0,.pt 64 0,.pt 272 0,(.v (.c (.clo 65 [(320,0)])))],43)]
noncomputable def nrC_k:List KI:=(run rtM false 3000 ((fun (k:U4) (L:List (F2×F2×F2)) (o:F2×F2×F2) (d:Int)=>(⟨[.code (rfB nyB_k)],.normal,nrB k L o d⟩:Cfg)) default default default default) []).cfg.k
theorem nrC_hk (k:U4) (L:List (F2×F2×F2)) (o:F2×F2×F2) (d:Int):(run rtM false 3000 ((⟨[.code (rfB nyB_k)],.normal,nrB k L o d⟩:Cfg)) []).cfg.k=nrC_k:=by kernel_rfl
theorem nrC (k:U4) (L:List (F2×F2×F2)) (o:F2×F2×F2) (d:Int) {ρ:Option Nat} (ho:AllP []) (hs:Sim w0 F0 K ac (nrB k L o d) cX aX) (hK:∀cY aY,Sim w0 F0 K ac (mkSt 43 [4,5,7,8,32] [.pt 48 0,.pt 64 0,.pt 272 0,.ii d,.ii (0:Int)] [48,64,272,320] [(some (.fl [(.ob (.p (0:Fp))),(.ob (.p (0:Fp))),(.ob (.p (0:Fp))),(.ob (.p (0:Fp))),(.ob (.p (0:Fp))),(.ob (.p (0:Fp)))])),(some (.sq (Sq.pt2 L))),(some (.fl [(.ob (.p (Prod.fst (Prod.fst o)))),(.ob (.p (Prod.snd (Prod.fst o)))),(.ob (.p (Prod.fst (Prod.fst (Prod.snd o))))),(.ob (.p (Prod.snd (Prod.fst (Prod.snd o))))),(.ob (.p (Prod.fst (Prod.snd (Prod.snd o))))),(.ob (.p (Prod.snd (Prod.snd (Prod.snd o)))))])),(some (.fl [.ob (.fr k)]))] 416 [[4,5,7,30]] [([.pt 48 0,.pt 64 0,.pt 272 0,(.v (.c (.clo 65 [(320,0)])))],43)]) cY aY→Wq Try.prog Q (nrC_k) ac Exit.normal aY cY.w ρ):Wq Try.prog Q ([.code (rfB nyB_k)]) ac .normal aX cX.w ρ :=
  run_atT (o:=⟨_,_,_,_,_,_,_⟩) rtM_ok (by kernel_rfl) (nrC_hk k L o d) ho (by kernel_rfl) (by kernel_rfl) hs hK
noncomputable def nrS (k:U4) (L:List (F2×F2×F2)) (o:F2×F2×F2) (d j:Int):St:=mkSt 43 [4,5,7,8,32] [.pt 48 0,.pt 64 0,.pt 272 0,.ii d,.v (.c (.int .i64 j))] [48,64,272,320] [(some (.fl [(.ob (.p (0:Fp))),(.ob (.p (0:Fp))),(.ob (.p (0:Fp))),(.ob (.p (0:Fp))),(.ob (.p (0:Fp))),(.ob (.p (0:Fp)))])),(some (.sq (Sq.pt2 L))),some (.fl [.ob (.p o.1.1),.ob (.p o.1.2),.ob (.p o.2.1.1),.ob (.p o.2.1.2),.ob (.p o.2.2.1),.ob (.p o.2.2.2)]),(some (.fl [.ob (.fr k)]))] 416 [[4,5,7,30]] [([.pt 48 0,.pt 64 0,.pt 272 0,(.v (.c (.clo 65 [(320,0)])))],43)]
theorem nrD_hk (k:U4) (L:List (F2×F2×F2)) (o:F2×F2×F2) (d j:Int):(run rtM false 3000 ((⟨lpIn nrC_k,.normal,nrS k L o d j⟩:Cfg)) [true]).cfg.k=lpBk nrC_k:=by kernel_rfl
theorem nrD (k:U4) (L:List (F2×F2×F2)) (o:F2×F2×F2) (d j:Int) {ρ:Option Nat} (ho:AllP [((decide (j<(4:Int)))=true)]) (hs:Sim w0 F0 K ac (nrS k L o d j) cX aX) (hK:∀cY aY,Sim w0 F0 K ac (mkSt 43 [4,5,7,8,32] [.pt 48 0,.pt 64 0,.pt 272 0,.ii d,(.ii (IntKind.wrap .i64 (j+(1:Int))))] [48,64,272,320] [(some (.fl [(.ob (.p (0:Fp))),(.ob (.p (0:Fp))),(.ob (.p (0:Fp))),(.ob (.p (0:Fp))),(.ob (.p (0:Fp))),(.ob (.p (0:Fp)))])),(some (.sq (Sq.pt2 L))),(some (.fl [(.ob (.p (Prod.fst (Prod.fst (jtw o))))),(.ob (.p (Prod.snd (Prod.fst (jtw o))))),(.ob (.p (Prod.fst (Prod.fst (Prod.snd (jtw o)))))),(.ob (.p (Prod.snd (Prod.fst (Prod.snd (jtw o)))))),(.ob (.p (Prod.fst (Prod.snd (Prod.snd (jtw o)))))),(.ob (.p (Prod.snd (Prod.snd (Prod.snd (jtw o))))))])),(some (.fl [.ob (.fr k)]))] 512 [[4,5,7,30]] [([.pt 48 0,.pt 64 0,.pt 272 0,(.v (.c (.clo 65 [(320,0)])))],43)]) cY aY→Wq Try.prog Q (lpBk nrC_k) ac Exit.normal aY cY.w ρ):Wq Try.prog Q (lpIn nrC_k) ac .normal aX cX.w ρ :=
  run_atT (o:=⟨_,_,_,_,_,_,_⟩) rtM_ok (by kernel_rfl) (nrD_hk k L o d j) ho (by kernel_rfl) (by kernel_rfl) hs hK
theorem nrE_hk (k:U4) (L:List (F2×F2×F2)) (o:F2×F2×F2) (d j:Int):(run rtM false 3000 ((⟨lpIn nrC_k,.normal,nrS k L o d j⟩:Cfg)) [false]).cfg.k=[]:=by kernel_rfl
theorem nrE (k:U4) (L:List (F2×F2×F2)) (o:F2×F2×F2) (d j:Int) {ρ:Option Nat} (ho:AllP [((decide (j<(4:Int)))=false),((0:Int)≤d),(d<(16:Int)),(0=0),((d).toNat<(List.length L))]) (hs:Sim w0 F0 K ac (nrS k L o d j) cX aX) (hK:∀cY aY,Sim w0 F0 K ac (mkSt 43 [4] [.pt 48 0] [48,64,272,320] [(some (.fl [(.ob (.p (0:Fp))),(.ob (.p (0:Fp))),(.ob (.p (0:Fp))),(.ob (.p (0:Fp))),(.ob (.p (0:Fp))),(.ob (.p (0:Fp)))])),(some (.sq (Sq.pt2 L))),(some (.fl [(.ob (.p (Prod.fst (Prod.fst (jpl o (List.getD L (d).toNat pt20)))))),(.ob (.p (Prod.snd (Prod.fst (jpl o (List.getD L (d).toNat pt20)))))),(.ob (.p (Prod.fst (Prod.fst (Prod.snd (jpl o (List.getD L (d).toNat pt20))))))),(.ob (.p (Prod.snd (Prod.fst (Prod.snd (jpl o (List.getD L (d).toNat pt20))))))),(.ob (.p (Prod.fst (Prod.snd (Prod.snd (jpl o (List.getD L (d).toNat pt20))))))),(.ob (.p (Prod.snd (Prod.snd (Prod.snd (jpl o (List.getD L (d).toNat pt20)))))))])),(some (.fl [.ob (.fr k)]))] 528 [[4,5,7,30]] [([.pt 48 0,.pt 64 0,.pt 272 0,(.v (.c (.clo 65 [(320,0)])))],43)]) cY aY→Wq Try.prog Q ([]) ac Exit.normal aY cY.w ρ):Wq Try.prog Q (lpIn nrC_k) ac .normal aX cX.w ρ :=
  run_atT (o:=⟨_,_,_,_,_,_,_⟩) rtM_ok (by kernel_rfl) (nrE_hk k L o d j) ho (by kernel_rfl) (by kernel_rfl) hs hK
noncomputable def nrF (k:U4) (L:List (F2×F2×F2)) (o:F2×F2×F2):St:=mkSt 43 [4] [.pt 48 0] [48,64,272,320] [(some (.fl [(.ob (.p (0:Fp))),(.ob (.p (0:Fp))),(.ob (.p (0:Fp))),(.ob (.p (0:Fp))),(.ob (.p (0:Fp))),(.ob (.p (0:Fp)))])),(some (.sq (Sq.pt2 L))),some (.fl [.ob (.p o.1.1),.ob (.p o.1.2),.ob (.p o.2.1.1),.ob (.p o.2.1.2),.ob (.p o.2.2.1),.ob (.p o.2.2.2)]),(some (.fl [.ob (.fr k)]))] 528 [[4,5,7,30]] [([.pt 48 0,.pt 64 0,.pt 272 0,(.v (.c (.clo 65 [(320,0)])))],43)]
theorem nrX_hk (k:U4) (L:List (F2×F2×F2)) (o:F2×F2×F2):(run rtM false 3000 ((⟨rfR nyB_k,.normal,nyR k L o⟩:Cfg)) []).cfg.k=[]:=by kernel_rfl
theorem nrX (k:U4) (L:List (F2×F2×F2)) (o:F2×F2×F2) (ho:AllP []) (hs:Sim w0 F0 K ac (nyR k L o) cX aX) (hK:∀ac cY aY,Sim w0 F0 K ac (mkSt 43 [4] [.pt 48 0] [48] [(some (.fl [(.ob (.p (Prod.fst (Prod.fst o)))),(.ob (.p (Prod.snd (Prod.fst o)))),(.ob (.p (Prod.fst (Prod.fst (Prod.snd o))))),(.ob (.p (Prod.snd (Prod.fst (Prod.snd o))))),(.ob (.p (Prod.fst (Prod.snd (Prod.snd o))))),(.ob (.p (Prod.snd (Prod.snd (Prod.snd o)))))]))] 416 [] []) cY aY→Wq Try.prog Q ([]) ac Exit.ret aY cY.w):Wq Try.prog Q (rfR nyB_k) ac .normal aX cX.w:=
  run_at2 (o:=⟨_,_,_,_,_,_,_⟩) rtM_ok (by kernel_rfl) (nrX_hk k L o) ho hs hK
noncomputable def nrZ (o:F2×F2×F2):St:=mkSt 43 [4] [.pt 48 0] [48] [some (.fl [.ob (.p o.1.1),.ob (.p o.1.2),.ob (.p o.2.1.1),.ob (.p o.2.1.2),.ob (.p o.2.2.1),.ob (.p o.2.2.2)])] 416 [] []
theorem nrR_end (o:F2×F2×F2):runEnd rtM Try.f42 false 3000 (⟨[],.ret,nrZ o⟩) [] [] []=(some ([],((.v (.a [(.ob (.p (Prod.fst (Prod.fst o)))),(.ob (.p (Prod.snd (Prod.fst o)))),(.ob (.p (Prod.fst (Prod.fst (Prod.snd o))))),(.ob (.p (Prod.snd (Prod.fst (Prod.snd o))))),(.ob (.p (Prod.fst (Prod.snd (Prod.snd o))))),(.ob (.p (Prod.snd (Prod.snd (Prod.snd o)))))])),[]))):=by kernel_rfl
end
end Go.Proofs.Ytcmkkanhddhgpaa

/- A point of the second curve as often as a number says: contract. No conditions. -/
namespace Go.Proofs.Ytcmkkanhddhgpaa

/-- Sixteen points of the second curve, one behind the other. -/
def flatPt2 (l:List (F2×F2×F2)):Nat→Nat→List It
  | _,0=>[]
  | i,n+1=>.ob (.p (l.getD i pt20).1.1) :: .ob (.p (l.getD i pt20).1.2) :: .ob (.p (l.getD i pt20).2.1.1) :: .ob (.p (l.getD i pt20).2.1.2) :: .ob (.p (l.getD i pt20).2.2.1) :: .ob (.p (l.getD i pt20).2.2.2)::flatPt2 l (i+1) n

theorem cat_flat2 {x:Ctx} (L:List (F2×F2×F2)):∀(n i:Nat) (cs:List Value),catL x.D (flatPt2 L i n) cs→cs.length=n*36∧∀j,j<n→∃c,catL x.D (pt2Its (L.getD (i+j) pt20)) c∧∀(q:Nat) (v:Value),c[q]? = some v→cs[j*36+q]? = some v
  | 0,i,cs,h=>by
    have h:cs=[]:=h
    subst h
    exact ⟨rfl,fun j hj=>absurd hj (Nat.not_lt_zero _)⟩
  | n+1,i,cs,h=>by
    obtain ⟨c1,r1,e1,h1,c2,r2,e2,h2,c3,r3,e3,h3,c4,r4,e4,h4,c5,r5,e5,h5,c6,r6,e6,h6,h7⟩:=h
    obtain ⟨hl,hj⟩:=cat_flat2 L n (i+1) r6 h7
    have l1:c1.length=6:=D_len h1
    have l2:c2.length=6:=D_len h2
    have l3:c3.length=6:=D_len h3
    have l4:c4.length=6:=D_len h4
    have l5:c5.length=6:=D_len h5
    have l6:c6.length=6:=D_len h6
    subst e1 e2 e3 e4 e5 e6
    refine ⟨by simp only[List.length_append];omega,fun j hjn=>?_⟩
    have e:c1++(c2++(c3++(c4++(c5++(c6++r6)))))=(c1++(c2++(c3++(c4++(c5++c6)))))++r6:=by simp
    have hl36:(c1++(c2++(c3++(c4++(c5++c6))))).length=36:=by simp only[List.length_append];omega
    cases j with
    | zero=>
      refine ⟨c1++(c2++(c3++(c4++(c5++(c6++[]))))),⟨c1,_,rfl,h1,c2,_,rfl,h2,c3,_,rfl,h3,c4,_,rfl,h4,c5,_,rfl,h5,c6,_,rfl,h6,rfl⟩,fun q v hq=>?_⟩
      rw[List.append_nil] at hq
      have hlt:q<(c1++(c2++(c3++(c4++(c5++c6))))).length:=by
        rcases Nat.lt_or_ge q (c1++(c2++(c3++(c4++(c5++c6))))).length with h | h
        · exact h
        · rw[List.getElem?_eq_none h] at hq;cases hq
      rw[Nat.zero_mul,Nat.zero_add,←hq,e,List.getElem?_append_left hlt]
    | succ j=>
      obtain ⟨c,hc,hv⟩:=hj j (by omega)
      rw[show i+1+j=i+(j+1) from by omega] at hc
      refine ⟨c,hc,fun q v hq=>?_⟩
      rw[e,List.getElem?_append_right (by rw[hl36];omega),hl36,show (j+1)*36+q-36=j*36+q from by omega]
      exact hv q v hq

theorem tab_conv2 {x:Ctx} (L:List (F2×F2×F2)) (h:L.length=16) (cs:List Value) (hc:denEn x (.fl (flatPt2 L 0 16)) cs):denEn x (.sq (.pt2 L)) cs:=by
  obtain ⟨hl,hj⟩:=cat_flat2 L 16 0 cs hc
  refine ⟨?_,fun i hi=>?_⟩
  · show L.length*36≤cs.length
    rw[h,hl]
    exact Nat.le_refl _
  · have hi:i<L.length:=hi
    rw[h] at hi
    obtain ⟨c,h1,h2⟩:=hj i hi
    rw[Nat.zero_add] at h1
    exact ⟨c,h1,h2⟩

def tab02 (x y:F2):List (F2×F2×F2):=(x,y,0)::List.replicate 15 pt20

theorem many2_fnd (a b c d e f:Fp) (k:U4):FnD Try.prog 42 [.v (.a [.ob (.p a),.ob (.p b),.ob (.p c),.ob (.p d),.ob (.p e),.ob (.p f)]),.v (.a [.ob (.fr k)])] (.v (.a (pt2Its (jmn (F:=F2) ((a,b),(c,d),(e,f)) (dgT k.val 64))))) []:=by
  generalize hpa:(((a,b),(c,d),(e,f)):F2×F2×F2)=pa
  refine fn_start_m (fn:=Try.f42) (c:=bodyOf Try.f42) Try.func42 rfl rfl fun x0 a0 hk hF hs=>?_
  refine ny a b c d e f k ⟨by decide,by decide,trivial⟩ hs fun ac cY aY hs1=>?_
  have hs2:=hs1.blocks (ens' := [some (.fl [.ob (.p a),.ob (.p b),.ob (.p c),.ob (.p d),.ob (.p e),.ob (.p f)]),some (.fl [.ob (.fr k)]),some (.fl [.ob (.p 0),.ob (.p 0),.ob (.p 0),.ob (.p 0),.ob (.p 0),.ob (.p 0)]),some (.sq (.pt2 (tab02 (a,b) (c,d))))])
    ⟨.inl rfl,.inl rfl,.inl rfl,.inr ⟨_,_,_,rfl,rfl,rfl,fun cs h=>tab_conv2 _ rfl cs h⟩,trivial⟩
  refine loop_rule (ι:={ p:Nat×List (F2×F2×F2) // 1≤p.1∧p.1≤16∧p.2.length=16∧∀j,j<p.1→p.2.getD j pt20=jtab pa j }) (fun p=>nyS a b c d e f k p.1.2 (p.1.1:Int)) (fun p=>16-p.1.1) (c:=lpC ny_k) (k:=lpR ny_k) (by kernel_rfl) (fun p ih ac cY aY hs=>?_)
    ⟨(1,tab02 (a,b) (c,d)),Nat.le_refl 1,by show (1:Nat)≤16;omega,rfl,fun j hj=>by
      have:j=0:=by have hj:j<1:=hj;omega
      subst this;rw[←hpa];rfl⟩ (hs2.nx _)
  obtain ⟨⟨i,L⟩,h1,h16,hL,htab⟩:=p
  simp only at ih hs h1 h16 hL htab
  by_cases hi:i<16
  · have e1:IntKind.wrap IntKind.i64 ((i:Int)-1)=((i-1:Nat):Int):=by rw[wrap_id (by omega) (by omega)];omega
    have e2:IntKind.wrap IntKind.i64 ((i:Int)+1)=((i+1:Nat):Int):=by rw[wrap_id (by omega) (by omega)];omega
    refine nyA a b c d e f k L i ⟨decide_eq_true (by omega),by rw[e1];omega,by rw[e1];omega,rfl,by rw[e1,Int.toNat_natCast,hL];omega,by omega,by omega,rfl,by rw[Int.toNat_natCast,hL];exact hi,trivial⟩ hs fun ac cZ aZ hs3=>?_
    rw[e1,e2,Int.toNat_natCast,Int.toNat_natCast,htab (i-1) (by omega),hpa] at hs3
    have e3:jpl (jtab pa (i-1)) pa=jtab pa i:=by
      obtain ⟨m,rfl⟩:∃m,i=m+1:=⟨i-1,by omega⟩
      rfl
    rw[e3] at hs3
    refine ih ⟨(i+1,L.set i (jtab pa i)),by show 1≤i+1;omega,hi,by show (L.set i _).length=16;rw[List.length_set];exact hL,fun j hj=>?_⟩ (by show 16-(i+1)<16-i;omega) ac cZ aZ (hs3.nx _)
    have hj:j<i+1:=hj
    show (L.set i (jtab pa i)).getD j pt20=_
    by_cases e:j=i
    · subst e
      simp [List.getD,hL,hi]
    · have:(L.set i (jtab pa i)).getD j pt20=L.getD j pt20:=by
        simp [List.getD,List.getElem?_set_ne (Ne.symm e)]
      rw[this]
      exact htab j (by omega)
  · have:i=16:=by omega
    subst this
    refine nyB a b c d e f k L _ ⟨by decide,by decide,by decide,rfl,by rw[hL];decide,trivial⟩ hs fun ac cZ aZ hs3=>?_
    rw[htab 0 (by decide)] at hs3
    obtain ⟨e1,e2⟩:=isRf_eq (k:=nyB_k) (by kernel_rfl)
    rw[e1]
    have eP:(rfP nyB_k).toList=[31]:=by kernel_rfl
    have eG:rfG nyB_k = .tmp 30:=by kernel_rfl
    refine range_rule (ps:=rfP nyB_k) e2 hs3 (gf:=65) (caps:=[(320,0)]) (enters_of Try.func65 rfl rfl) (fun pre=>nyR k L (pre.foldl (jst pa) (jtab pa 0))) (fun s=>by rw[eG];rfl) ⟨_,rfl⟩ (dgT k.val 64) dgVals dgEnc
      (fun y z=>.cons ⟨rfl,0,rfl⟩ .nil) (fun z=>by rw[←Array.length_toList,eP];rfl) (fun pre p hp=>?_) (digits_iter fun s=>rfl) (fun pre d=>nrB k L (pre.foldl (jst pa) (jtab pa 0)) d)
      (fun pre d=>nrF k L ((pre++[d]).foldl (jst pa) (jtab pa 0))) (fun pre d=>⟨_,rfl⟩) (fun pre d hd w1 F1 K1 as1 Q1 l y1 b hs4 hQ=>?_) (fun pre d hd w1 F1 K1 as1 Q1 l y1 b hs4 hQ=>?_) fun D y1 hs4 hD hFD hd=>?_
    · rw[eP] at hp
      have h43:(nyR k L (pre.foldl (jst pa) (jtab pa 0))).nt=43:=rfl
      rw[h43]
      simp only[List.mem_cons,List.not_mem_nil,or_false] at hp
      subst hp
      decide
    · rw[eP] at hs4
      exact nrA k L _ d trivial hs4 fun cZ aZ hs5=>⟨hQ _ _ (hs5.nx _)⟩
    · have hd16:d<16:=by
        obtain ⟨r,hr⟩:=hd
        exact dgT_lt (n:=k.val) 64 d (by rw[hr];simp)
      rw[List.foldl_append] at hQ
      generalize pre.foldl (jst pa) (jtab pa 0)=o at hs4 hQ
      have hst:List.foldl (jst pa) o [d]=jpl (jtws 4 o) (L.getD d pt20):=by
        rw[htab d hd16,List.foldl_cons,List.foldl_nil]
        exact jst_tws pa o d
      rw[hst] at hQ
      refine nrC k L o d trivial hs4 fun cV aV hs5=>?_
      let I:{ j:Nat // j≤4 } → List Act→Act→World→Prop:=fun j ac a w=>ac=as1∧∃z,z.w=w∧Sim w1 F1 K1 as1 (nrS k L (jtws j.1 o) d (j.1:Int)) z a
      refine loop_inv (ρ:=some l) I (fun j=>4-j.1) (c:=lpC nrC_k) (k:=lpR nrC_k) (by kernel_rfl) (fun j ih ac aV w hI=>?_) ⟨0,Nat.zero_le _⟩ ⟨rfl,cV,rfl,hs5.nx _⟩
      obtain ⟨j,hj⟩:=j
      obtain ⟨rfl,cV,rfl,hs6⟩:=hI
      simp only at ih hs6
      by_cases hj4:j<4
      · have ej:jtw (jtws j o)=jtws (j+1) o:=(jtws_succ j o).symm
        generalize jtws j o=o1 at hs6 ej
        refine nrD k L _ d j ⟨decide_eq_true (by omega),trivial⟩ hs6 fun cU aU hs7=>?_
        rw[wrap_id (n:=(j:Int)+1) (by omega) (by omega),ej] at hs7
        exact ih ⟨j+1,hj4⟩ (by show 4-(j+1)<4-j;omega) _ aU _ ⟨rfl,cU,rfl,hs7.nx _⟩
      · have:j=4:=by omega
        subst this
        refine nrE k L _ d _ ⟨by decide,by omega,by omega,rfl,by rw[Int.toNat_natCast,hL];exact hd16,trivial⟩ hs6 fun cU aU hs7=>?_
        rw[Int.toNat_natCast] at hs7
        generalize jpl (jtws 4 o) (L.getD d pt20)=q at hQ hs7
        exact ⟨hQ _ _ (hs7.nx _)⟩
    · have hs5:=hs4.marked rfl rfl D
      show Wq _ _ _ _ _ _ _ _
      have ej:(dgT k.val 64).foldl (jst pa) (jtab pa 0)=jmn pa (dgT k.val 64):=rfl
      rw[ej] at hs4 hs5
      generalize jmn pa (dgT k.val 64)=o at hs4 hs5 ⊢
      refine nrX k L o trivial hs5 fun ac cV aV hs6=>⟨?_⟩
      have hs7:Sim y1.w y1.F (kOwn y1 kAll (markOf D)) ac (nrZ o) cV aV:=hs6
      exact fn_finish rtM_ok hk hF (nrR_end o) trivial (fun y v hd=>hd) hs4 hD hFD hd rfl hs7

end Go.Proofs.Ytcmkkanhddhgpaa

/- two.Mul, and TwoTimes' law, walked. No conditions. -/
namespace Go.Proofs.Ytcmkkanhddhgpaa

def many2Spec1:FnSpec
  | [.v (.a [.ob (.p a),.ob (.p b),.ob (.p c),.ob (.p d),.ob (.p e),.ob (.p f)]),.v (.a [.ob (.fr k)])]=>some ([],.v (.a (pt2Its (jmn (F:=F2) ((a,b),(c,d),(e,f)) (dgT k.val 64)))),[])
  | _=>none
noncomputable def ruA:Env:=rtM.set (addT rtM.fn 42 many2Spec1)
theorem ruA_ok:EnvOk Try.prog ruA:=env_add rtM_ok 42 many2Spec1 (enters_of Try.func42 rfl rfl) fun args o r es h _=>by
  unfold many2Spec1 at h
  split at h
  · cases h;exact many2_fnd _ _ _ _ _ _ _
  · cases h
--@env ruA ruA_ok
noncomputable def ruC:Env:=ruA
theorem ruC_ok:EnvOk Try.prog ruC:=ruA_ok
end Go.Proofs.Ytcmkkanhddhgpaa

/- Who is of the groups, walked. No conditions. -/
namespace Go.Proofs.Ytcmkkanhddhgpaa
section
variable {w0:World} {F0:Nat→Prop} {K:Kp} {ac:List Act} {Q:Exit→Act→World→Prop} {cX:Ctx} {aX:Act}

noncomputable def yA0:Env:=qwC.or ruC
theorem yA0_ok:EnvOk Try.prog yA0:=env_or qwC_ok ruC_ok
--@env env0 env0_ok
theorem yR0  : fnRes env0 Try.f30 3000 [] [] [] []=(some ([((0:Int)≤(18446744069414584321:Int)),((18446744069414584321:Int)<(18446744073709551616:Int)),((0:Int)≤(6034159408538082302:Int)),((6034159408538082302:Int)<(18446744073709551616:Int)),((0:Int)≤(3691218898639771653:Int)),((3691218898639771653:Int)<(18446744073709551616:Int)),((0:Int)≤(8353516859464449352:Int)),((8353516859464449352:Int)<(18446744073709551616:Int))],((.v (.a [(.ob (.fr (Fin.ofNat B4 52435875175126190479447740508185965837690552500527637822603658699938581184513)))])),[]))):=by kernel_rfl
def yRU:U4:=Fin.ofNat B4 rN
theorem yR_fnd:FnD Try.prog 30 [] (.v (.a [.ob (.fr yRU)])) []:=
  (fn_sound env0_ok Try.func30 yR0 (by simp [AllP])).conv (fun _ _ h=>h) fun y v hd=>by
    have e:yRU=Fin.ofNat B4 (((18446744069414584321:Int)).toNat+(18446744073709551616*(((6034159408538082302:Int)).toNat+(18446744073709551616*(((3691218898639771653:Int)).toNat+(18446744073709551616*(((8353516859464449352:Int)).toNat+(18446744073709551616*0)))))))):=by kernel_rfl
    rw[e]
    exact hd
noncomputable def yRSpec:FnSpec
  | []=>some ([],.v (.a [.ob (.fr yRU)]),[])
  | _=>none
noncomputable def yA:Env:=yA0.set (addT yA0.fn 30 yRSpec)
theorem yA_ok:EnvOk Try.prog yA:=env_add yA0_ok 30 yRSpec (enters_of Try.func30 rfl rfl) fun args o r es h _=>by
  unfold yRSpec at h
  split at h
  · cases h;exact yR_fnd
  · cases h
--@env yA yA_ok
theorem yGA (x y:U6) (i:Bool):fnRes yA Try.f13 3000 [.v (.a [.ob (.fp x),.ob (.fp y),.bool i])] [true] [] []=(some ([((onG (G1D.mk x y i))=true)],((.v (.c (.bool (decide ((Prod.snd (Prod.snd (jmn (inG (G1D.mk x y i)) (dgT 52435875175126190479447740508185965837690552500527637822603658699938581184513 64))))=(0:Fp)))))),[]))):=by kernel_rfl
theorem yGB (x y:U6) (i:Bool):fnRes yA Try.f13 3000 [.v (.a [.ob (.fp x),.ob (.fp y),.bool i])] [false] [] []=(some ([((onG (G1D.mk x y i))=false)],((.v (.c (.lit false))),[]))):=by kernel_rfl
theorem yHA (a b c d:U6) (i:Bool):fnRes yA Try.f19 3000 [.v (.a [.ob (.fp a),.ob (.fp b),.ob (.fp c),.ob (.fp d),.bool i])] [true] [] []=(some ([((onG2 (G2D.mk a b c d i))=true)],((.v (.c (.bool (decide ((Prod.snd (Prod.snd (jmn (inG2 (G2D.mk a b c d i)) (dgT 52435875175126190479447740508185965837690552500527637822603658699938581184513 64))))=(0:(Prod (Fin pN) (Fin pN)))))))),[]))):=by kernel_rfl
theorem yHB (a b c d:U6) (i:Bool):fnRes yA Try.f19 3000 [.v (.a [.ob (.fp a),.ob (.fp b),.ob (.fp c),.ob (.fp d),.bool i])] [false] [] []=(some ([((onG2 (G2D.mk a b c d i))=false)],((.v (.c (.lit false))),[]))):=by kernel_rfl
noncomputable def yc_k:List KI:=(run yA false 3000 ((fun (a b:List Int)=>(⟨[.code (bodyOf Try.f39)],.normal,initSt Try.f39.ntmps [.v (.c (.sl (.u64 a))),.v (.c (.sl (.u64 b)))]⟩:Cfg)) default default) []).cfg.k
theorem yc_hk (a b:List Int):(run yA false 3000 ((⟨[.code (bodyOf Try.f39)],.normal,initSt Try.f39.ntmps [.v (.c (.sl (.u64 a))),.v (.c (.sl (.u64 b)))]⟩:Cfg)) []).cfg.k=yc_k:=by kernel_rfl
theorem yc (a b:List Int) (ho:AllP [((List.length a)≤16),((List.length b)≤16)]) (hs:Sim w0 F0 K ac (initSt Try.f39.ntmps [.v (.c (.sl (.u64 a))),.v (.c (.sl (.u64 b)))]) cX aX) (hK:∀ac cY aY,Sim w0 F0 K ac (mkSt 36 [0,1,5] [(.v (.c (.sl (.u64 a)))),(.v (.c (.sl (.u64 b)))),(.ii (IntKind.wrap .i64 ((ite ((((List.length b):Nat):Int) > (((List.length a):Nat):Int)) (((List.length b):Nat):Int) (((List.length a):Nat):Int))-(1:Int))))] [] [] 240 [] []) cY aY→Wq Try.prog Q (yc_k) ac Exit.normal aY cY.w):Wq Try.prog Q ([.code (bodyOf Try.f39)]) ac .normal aX cX.w:=
  run_at2 (o:=⟨_,_,_,_,_,_,_⟩) yA_ok (by kernel_rfl) (yc_hk a b) ho hs hK
noncomputable def ycS (a b:List Int) (i:Int):St:=mkSt 36 [0,1,5] [(.v (.c (.sl (.u64 a)))),(.v (.c (.sl (.u64 b)))),.v (.c (.int .i64 i))] [] [] 240 [] []
theorem ycA_hk (a b:List Int) (i:Int):(run yA false 3000 ((⟨lpIn yc_k,.normal,ycS a b i⟩:Cfg)) [true,true,true,false,false]).cfg.k=lpBk yc_k:=by kernel_rfl
theorem ycA (a b:List Int) (i:Int) (ho:AllP [((decide (i ≥ (0:Int)))=true),((decide (i<(((List.length a):Nat):Int)))=true),((0:Int)≤i),(i<(((List.length a):Nat):Int)),((decide (i<(((List.length b):Nat):Int)))=true),((0:Int)≤i),(i<(((List.length b):Nat):Int)),((decide ((List.getD a (i).toNat (0:Int))<(List.getD b (i).toNat (0:Int))))=false),((decide ((List.getD a (i).toNat (0:Int)) > (List.getD b (i).toNat (0:Int))))=false)]) (hs:Sim w0 F0 K ac (ycS a b i) cX aX) (hK:∀ac cY aY,Sim w0 F0 K ac (mkSt 36 [0,1,5] [(.v (.c (.sl (.u64 a)))),(.v (.c (.sl (.u64 b)))),(.ii (IntKind.wrap .i64 (i-(1:Int))))] [] [] 864 [] []) cY aY→Wq Try.prog Q (lpBk yc_k) ac Exit.normal aY cY.w):Wq Try.prog Q (lpIn yc_k) ac .normal aX cX.w:=
  run_at2 (o:=⟨_,_,_,_,_,_,_⟩) yA_ok (by kernel_rfl) (ycA_hk a b i) ho hs hK
theorem ycB_end (a b:List Int) (i:Int):runEnd yA Try.f39 false 3000 (⟨lpIn yc_k,.normal,ycS a b i⟩) [true,true,true,true] [] []=(some ([((decide (i ≥ (0:Int)))=true),((decide (i<(((List.length a):Nat):Int)))=true),((0:Int)≤i),(i<(((List.length a):Nat):Int)),((decide (i<(((List.length b):Nat):Int)))=true),((0:Int)≤i),(i<(((List.length b):Nat):Int)),((decide ((List.getD a (i).toNat (0:Int))<(List.getD b (i).toNat (0:Int))))=true)],((.ii (-(1:Int))),[]))):=by kernel_rfl
theorem ycC_end (a b:List Int) (i:Int):runEnd yA Try.f39 false 3000 (⟨lpIn yc_k,.normal,ycS a b i⟩) [true,true,true,false,true] [] []=(some ([((decide (i ≥ (0:Int)))=true),((decide (i<(((List.length a):Nat):Int)))=true),((0:Int)≤i),(i<(((List.length a):Nat):Int)),((decide (i<(((List.length b):Nat):Int)))=true),((0:Int)≤i),(i<(((List.length b):Nat):Int)),((decide ((List.getD a (i).toNat (0:Int))<(List.getD b (i).toNat (0:Int))))=false),((decide ((List.getD a (i).toNat (0:Int)) > (List.getD b (i).toNat (0:Int))))=true)],((.ii (1:Int)),[]))):=by kernel_rfl
theorem ycX_end (a b:List Int) (i:Int):runEnd yA Try.f39 false 3000 (⟨lpIn yc_k,.normal,ycS a b i⟩) [false] [] []=(some ([((decide (i ≥ (0:Int)))=false)],((.ii (0:Int)),[]))):=by kernel_rfl
end
end Go.Proofs.Ytcmkkanhddhgpaa

/- Who is of the groups; two numbers of limbs, compared: contracts. No conditions. -/
namespace Go.Proofs.Ytcmkkanhddhgpaa

def gpG (a:G1D):Bool:=onG a && decide ((jmn (inG a) (dgT 52435875175126190479447740508185965837690552500527637822603658699938581184513 64)).2.2=(0:Fp))
def gpG2 (a:G2D):Bool:=onG2 a && decide ((jmn (inG2 a) (dgT 52435875175126190479447740508185965837690552500527637822603658699938581184513 64)).2.2=(0:F2))
theorem gp_fnd (x y:U6) (i:Bool):FnD Try.prog 13 [.v (.a [.ob (.fp x),.ob (.fp y),.bool i])] (.v (.c (.bool (gpG ⟨x,y,i⟩)))) []:=by
  cases h:onG ⟨x,y,i⟩ with
  | true=>
    have e:gpG ⟨x,y,i⟩=decide ((jmn (inG ⟨x,y,i⟩) (dgT 52435875175126190479447740508185965837690552500527637822603658699938581184513 64)).2.2=(0:Fp)):=by
      unfold gpG;rw[h];exact Bool.true_and _
    rw[e]
    exact fn_sound yA_ok Try.func13 (yGA x y i) ⟨h,trivial⟩
  | false=>
    have e:gpG ⟨x,y,i⟩=false:=by unfold gpG;rw[h];exact Bool.false_and _
    exact (fn_sound yA_ok Try.func13 (yGB x y i) ⟨h,trivial⟩).conv (fun _ _ h=>h) fun y v hd=>lit_bool e.symm hd
theorem gp2_fnd (a b c d:U6) (i:Bool):FnD Try.prog 19 [.v (.a [.ob (.fp a),.ob (.fp b),.ob (.fp c),.ob (.fp d),.bool i])] (.v (.c (.bool (gpG2 ⟨a,b,c,d,i⟩)))) []:=by
  cases h:onG2 ⟨a,b,c,d,i⟩ with
  | true=>
    have e:gpG2 ⟨a,b,c,d,i⟩=decide ((jmn (inG2 ⟨a,b,c,d,i⟩) (dgT 52435875175126190479447740508185965837690552500527637822603658699938581184513 64)).2.2=(0:F2)):=by
      unfold gpG2;rw[h];exact Bool.true_and _
    rw[e]
    exact fn_sound yA_ok Try.func19 (yHA a b c d i) ⟨h,trivial⟩
  | false=>
    have e:gpG2 ⟨a,b,c,d,i⟩=false:=by unfold gpG2;rw[h];exact Bool.false_and _
    exact (fn_sound yA_ok Try.func19 (yHB a b c d i) ⟨h,trivial⟩).conv (fun _ _ h=>h) fun y v hd=>lit_bool e.symm hd

/-- Limbs compared, the highest first. -/
def cmpN (a b:List Int):Nat→Int
  | 0=>0
  | n+1=>if a.getD n 0<b.getD n 0 then -1 else if a.getD n 0 > b.getD n 0 then 1 else cmpN a b n

theorem cmp_fnd (a b:List Int) (hl:a.length=b.length) (h:b.length≤16):FnD Try.prog 39 [.v (.c (.sl (.u64 a))),.v (.c (.sl (.u64 b)))] (.v (.c (.int .i64 (cmpN a b b.length)))) []:=by
  refine fn_start (fn:=Try.f39) (c:=bodyOf Try.f39) Try.func39 rfl rfl fun x0 a0 hk hF hs0=>?_
  refine yc a b ⟨by omega,h,trivial⟩ hs0 fun ac cY aY hs1=>?_
  have e0:(if ((b.length:Nat):Int) > ((a.length:Nat):Int) then ((b.length:Nat):Int) else ((a.length:Nat):Int))=((b.length:Nat):Int):=by rw[hl];exact ite_self _
  rw[e0,wrap_id (by omega) (by omega)] at hs1
  refine loop_rule (ι:={ n:Nat // n≤b.length∧cmpN a b n=cmpN a b b.length }) (fun n=>ycS a b ((n.1:Int)-1)) (fun n=>n.1) (c:=lpC yc_k) (k:=lpR yc_k) (by kernel_rfl) (fun n ih ac cY aY hs=>?_) ⟨b.length,Nat.le_refl _,rfl⟩ (hs1.nx _)
  obtain ⟨n,hn,he⟩:=n
  simp only at ih hs
  rw[←he]
  cases n with
  | zero=>
    exact run_end2 yA_ok hk hF (ycX_end a b _) ⟨by decide,trivial⟩ (fun y v hd=>hd) hs
  | succ n=>
    have e1:((n+1:Nat):Int)-1=(n:Int):=by omega
    rw[e1] at hs
    have g1:decide ((n:Int) ≥ (0:Int))=true:=decide_eq_true (by omega)
    have g2:decide ((n:Int)<((a.length:Nat):Int))=true:=decide_eq_true (by omega)
    have g3:decide ((n:Int)<((b.length:Nat):Int))=true:=decide_eq_true (by omega)
    by_cases h1:a.getD n 0<b.getD n 0
    · have e2:cmpN a b (n+1) = -1:=by simp only[cmpN,if_pos h1]
      rw[e2]
      exact run_end2 yA_ok hk hF (ycB_end a b n) ⟨g1,g2,by omega,by omega,g3,by omega,by omega,by rw[Int.toNat_natCast];exact decide_eq_true h1,trivial⟩ (fun y v hd=>hd) hs
    · by_cases h2:a.getD n 0 > b.getD n 0
      · have e2:cmpN a b (n+1)=1:=by simp only[cmpN,if_neg h1,if_pos h2]
        rw[e2]
        exact run_end2 yA_ok hk hF (ycC_end a b n) ⟨g1,g2,by omega,by omega,g3,by omega,by omega,by rw[Int.toNat_natCast];exact decide_eq_false h1,by rw[Int.toNat_natCast];exact decide_eq_true h2,trivial⟩ (fun y v hd=>hd) hs
      · have e2:cmpN a b (n+1)=cmpN a b n:=by simp only[cmpN,if_neg h1,if_neg h2]
        rw[e2] at he ⊢
        refine ycA a b n ⟨g1,g2,by omega,by omega,g3,by omega,by omega,by rw[Int.toNat_natCast];exact decide_eq_false h1,by rw[Int.toNat_natCast];exact decide_eq_false h2,trivial⟩ hs fun ac cU aU hs2=>?_
        rw[wrap_id (by omega) (by omega)] at hs2
        rw[he]
        exact ih ⟨n,by omega,he⟩ (Nat.lt_succ_self n) ac cU aU (hs2.nx _)

end Go.Proofs.Ytcmkkanhddhgpaa

/- High ones, bytes, walked. No conditions. -/
namespace Go.Proofs.Ytcmkkanhddhgpaa

noncomputable def grpSpec:FnSpec
  | [.v (.a [.ob (.fp x),.ob (.fp y),.bool i])]=>some ([],.v (.c (.bool (gpG ⟨x,y,i⟩))),[])
  | _=>none
noncomputable def yB1:Env:=yA.set (addT yA.fn 13 grpSpec)
theorem yB1_ok:EnvOk Try.prog yB1:=env_add yA_ok 13 grpSpec (enters_of Try.func13 rfl rfl) fun args o r es h _=>by
  unfold grpSpec at h
  split at h
  · cases h;exact gp_fnd _ _ _
  · cases h
noncomputable def grp2Spec:FnSpec
  | [.v (.a [.ob (.fp a),.ob (.fp b),.ob (.fp c),.ob (.fp d),.bool i])]=>some ([],.v (.c (.bool (gpG2 ⟨a,b,c,d,i⟩))),[])
  | _=>none
noncomputable def yB2:Env:=yB1.set (addT yB1.fn 19 grp2Spec)
theorem yB2_ok:EnvOk Try.prog yB2:=env_add yB1_ok 19 grp2Spec (enters_of Try.func19 rfl rfl) fun args o r es h _=>by
  unfold grp2Spec at h
  split at h
  · cases h;exact gp2_fnd _ _ _ _ _
  · cases h
noncomputable def cmpSpec:FnSpec
  | [.v (.c (.sl (.u64 a))),.v (.c (.sl (.u64 b)))]=>some ([a.length=b.length,b.length≤16],.v (.c (.int .i64 (cmpN a b b.length))),[])
  | _=>none
noncomputable def yB:Env:=yB2.set (addT yB2.fn 39 cmpSpec)
theorem yB_ok:EnvOk Try.prog yB:=env_add yB2_ok 39 cmpSpec (enters_of Try.func39 rfl rfl) fun args o r es h ho=>by
  unfold cmpSpec at h
  split at h
  · cases h;exact cmp_fnd _ _ ho.1 ho.2.1
  · cases h
--@env yB yB_ok
theorem yH1 (x:Fp):fnRes yB Try.f17 3000 [.v (.a [.ob (.p x)])] [] [] []=(some ([(6=6),(6≤16)],((.v (.c (.bool (decide ((cmpN [(limb (Ob.n (.fp (outP x))) 0),(limb (Ob.n (.fp (outP x))) 1),(limb (Ob.n (.fp (outP x))) 2),(limb (Ob.n (.fp (outP x))) 3),(limb (Ob.n (.fp (outP x))) 4),(limb (Ob.n (.fp (outP x))) 5)] [(limb (Ob.n (.fp (outP ((0:Fp)-x)))) 0),(limb (Ob.n (.fp (outP ((0:Fp)-x)))) 1),(limb (Ob.n (.fp (outP ((0:Fp)-x)))) 2),(limb (Ob.n (.fp (outP ((0:Fp)-x)))) 3),(limb (Ob.n (.fp (outP ((0:Fp)-x)))) 4),(limb (Ob.n (.fp (outP ((0:Fp)-x)))) 5)] 6) > (0:Int)))))),[]))):=by kernel_rfl
theorem yCl (x:U6):fnRes yB Try.f33 3000 [.v (.a [.ob (.fp x)])] [] [] []=(some ([],((.v (.a [(.ob (.fp (outP (inP x))))])),[]))):=by kernel_rfl
theorem yfl (s:ByteArray) (f:Int):fnRes yB Try.f32 3000 [.v (.c (.val (.string s))),.v (.c (.int .u8 f))] [] [] []=(some ([((0:Int)≤(0:Int)),((0:Int)<(((ByteArray.size s):Nat):Int)),(1=1),((0:Int)≤(1:Int)),((1:Int)≤(((ByteArray.size s):Nat):Int)),(((ByteArray.size (strOf [(bitsOp BinOp.or IntKind.u8 (((UInt8.toNat (List.getD (Array.toList (ByteArray.data s)) 0 (0:UInt8))):Nat):Int) f)]))+(ByteArray.size (dropS s 1)))≤1152921504606846976)],((.v (.c (.val (Value.string (catS (strOf [(bitsOp BinOp.or IntKind.u8 (((UInt8.toNat (List.getD (Array.toList (ByteArray.data s)) 0 (0:UInt8))):Nat):Int) f)]) (dropS s 1)))))),[]))):=by kernel_rfl
end Go.Proofs.Ytcmkkanhddhgpaa

/- A number's bytes, walked. No conditions. -/
namespace Go.Proofs.Ytcmkkanhddhgpaa
section
variable {w0:World} {F0:Nat→Prop} {K:Kp} {ac:List Act} {Q:Exit→Act→World→Prop} {cX:Ctx} {aX:Act}

--@env yB yB_ok
noncomputable def yt_k:List KI:=(run yB false 3000 ((fun (l:Nat) (b:Addr) (m cp:Nat)=>(⟨[.code (bodyOf Try.f66)],.normal,⟨argT [.v (.c (.val (.func (.yield l) #[] #[]))),.v (.c (.ptr 0 0))],one (.fl [.val (.slice (some b) m cp)]),Try.f66.ntmps,16,[]⟩⟩:Cfg)) default default default default) []).cfg.k
theorem yt_hk (l:Nat) (b:Addr) (m cp:Nat):(run yB false 3000 ((⟨[.code (bodyOf Try.f66)],.normal,⟨argT [.v (.c (.val (.func (.yield l) #[] #[]))),.v (.c (.ptr 0 0))],one (.fl [.val (.slice (some b) m cp)]),Try.f66.ntmps,16,[]⟩⟩:Cfg)) []).cfg.k=yt_k:=by kernel_rfl
theorem yt (l:Nat) (b:Addr) (m cp:Nat) (ho:AllP []) (hs:Sim w0 F0 K ac (⟨argT [.v (.c (.val (.func (.yield l) #[] #[]))),.v (.c (.ptr 0 0))],one (.fl [.val (.slice (some b) m cp)]),Try.f66.ntmps,16,[]⟩) cX aX) (hK:∀ac cY aY,Sim w0 F0 K ac (mkSt 19 [0,1,4] [(.v (.c (.val (Value.func (Fn.yield l) (Array.mk ([]:List Value)) (Array.mk ([]:List Value)))))),.pt 0 0,(.v (.c (.val (Value.slice (some b) m cp))))] [0] [(some (.fl [(.val (Value.slice (some b) m cp))]))] 32 [] []) cY aY→Wq Try.prog Q (yt_k) ac Exit.normal aY cY.w):Wq Try.prog Q ([.code (bodyOf Try.f66)]) ac .normal aX cX.w:=
  run_at2 (o:=⟨_,_,_,_,_,_,_⟩) yB_ok (by kernel_rfl) (yt_hk l b m cp) ho hs hK
noncomputable def ytA (l:Nat) (b:Addr) (m cp:Nat) (e:List Int):St:=mkSt 19 [0,1,4] [(.v (.c (.val (Value.func (Fn.yield l) (Array.mk ([]:List Value)) (Array.mk ([]:List Value)))))),.pt 0 0,.v (.c (.sl (.u64 e)))] [0] [(some (.fl [(.val (Value.slice (some b) m cp))]))] 32 [] []
noncomputable def yu_k:List KI:=(run yB false 3000 ((fun (l:Nat) (b:Addr) (m cp:Nat) (e:List Int)=>(⟨yt_k,.normal,ytA l b m cp e⟩:Cfg)) default default default default default) []).cfg.k
theorem yu_hk (l:Nat) (b:Addr) (m cp:Nat) (e:List Int):(run yB false 3000 ((⟨yt_k,.normal,ytA l b m cp e⟩:Cfg)) []).cfg.k=yu_k:=by kernel_rfl
theorem yu (l:Nat) (b:Addr) (m cp:Nat) (e:List Int) (ho:AllP []) (hs:Sim w0 F0 K ac (ytA l b m cp e) cX aX) (hK:∀ac cY aY,Sim w0 F0 K ac (mkSt 19 [0,1,3] [(.v (.c (.val (Value.func (Fn.yield l) (Array.mk ([]:List Value)) (Array.mk ([]:List Value)))))),.pt 0 0,(.ii (IntKind.wrap .i64 ((((List.length e):Nat):Int)-(1:Int))))] [0] [(some (.fl [(.val (Value.slice (some b) m cp))]))] 80 [] []) cY aY→Wq Try.prog Q (yu_k) ac Exit.normal aY cY.w):Wq Try.prog Q (yt_k) ac .normal aX cX.w:=
  run_at2 (o:=⟨_,_,_,_,_,_,_⟩) yB_ok (by kernel_rfl) (yu_hk l b m cp e) ho hs hK
noncomputable def yuS (l:Nat) (b:Addr) (m cp:Nat) (i:Int):St:=mkSt 19 [0,1,3] [(.v (.c (.val (Value.func (Fn.yield l) (Array.mk ([]:List Value)) (Array.mk ([]:List Value)))))),.pt 0 0,.v (.c (.int .i64 i))] [0] [(some (.fl [(.val (Value.slice (some b) m cp))]))] 80 [] []
noncomputable def yv_k:List KI:=(run yB false 3000 ((fun (l:Nat) (b:Addr) (m cp:Nat) (i:Int)=>(⟨lpIn yu_k,.normal,yuS l b m cp i⟩:Cfg)) default default default default default) [true]).cfg.k
theorem yv_hk (l:Nat) (b:Addr) (m cp:Nat) (i:Int):(run yB false 3000 ((⟨lpIn yu_k,.normal,yuS l b m cp i⟩:Cfg)) [true]).cfg.k=yv_k:=by kernel_rfl
theorem yv (l:Nat) (b:Addr) (m cp:Nat) (i:Int) (ho:AllP [((decide (i ≥ (0:Int)))=true)]) (hs:Sim w0 F0 K ac (yuS l b m cp i) cX aX) (hK:∀ac cY aY,Sim w0 F0 K ac (mkSt 19 [0,1,3,11,12,13,14] [(.v (.c (.val (Value.func (Fn.yield l) (Array.mk ([]:List Value)) (Array.mk ([]:List Value)))))),.pt 0 0,.ii i,(.v (.c (.val (Value.func (Fn.yield l) (Array.mk ([]:List Value)) (Array.mk ([]:List Value)))))),.ii i,(.v (.c (.val (Value.slice (some b) m cp)))),.ii i] [0] [(some (.fl [(.val (Value.slice (some b) m cp))]))] 176 [] []) cY aY→Wq Try.prog Q (yv_k) ac Exit.normal aY cY.w):Wq Try.prog Q (lpIn yu_k) ac .normal aX cX.w:=
  run_at2 (o:=⟨_,_,_,_,_,_,_⟩) yB_ok (by kernel_rfl) (yv_hk l b m cp i) ho hs hK
noncomputable def yvA (l:Nat) (b:Addr) (m cp:Nat) (e:List Int) (i:Int):St:=mkSt 19 [0,1,3,11,12,13,14] [(.v (.c (.val (Value.func (Fn.yield l) (Array.mk ([]:List Value)) (Array.mk ([]:List Value)))))),.pt 0 0,.ii i,(.v (.c (.val (Value.func (Fn.yield l) (Array.mk ([]:List Value)) (Array.mk ([]:List Value)))))),.ii i,.v (.c (.sl (.u64 e))),.ii i] [0] [(some (.fl [(.val (Value.slice (some b) m cp))]))] 176 [] []
noncomputable def yw_k:List KI:=(run yB false 3000 ((fun (l:Nat) (b:Addr) (m cp:Nat) (e:List Int) (i:Int)=>(⟨yv_k,.normal,yvA l b m cp e i⟩:Cfg)) default default default default default default) []).cfg.k
theorem yw_hk (l:Nat) (b:Addr) (m cp:Nat) (e:List Int) (i:Int):(run yB false 3000 ((⟨yv_k,.normal,yvA l b m cp e i⟩:Cfg)) []).cfg.k=yw_k:=by kernel_rfl
theorem yw (l:Nat) (b:Addr) (m cp:Nat) (e:List Int) (i:Int) (ho:AllP [((0:Int)≤i),(i<(((List.length e):Nat):Int))]) (hs:Sim w0 F0 K ac (yvA l b m cp e i) cX aX) (hK:∀ac cY aY,Sim w0 F0 K ac (mkSt 19 [0,1,3,11,12,16] [(.v (.c (.val (Value.func (Fn.yield l) (Array.mk ([]:List Value)) (Array.mk ([]:List Value)))))),.pt 0 0,.ii i,(.v (.c (.val (Value.func (Fn.yield l) (Array.mk ([]:List Value)) (Array.mk ([]:List Value)))))),.ii i,(.iu (List.getD e (i).toNat (0:Int)))] [0] [(some (.fl [(.val (Value.slice (some b) m cp))]))] 208 [] []) cY aY→Wq Try.prog Q (yw_k) ac Exit.normal aY cY.w):Wq Try.prog Q (yv_k) ac .normal aX cX.w:=
  run_at2 (o:=⟨_,_,_,_,_,_,_⟩) yB_ok (by kernel_rfl) (yw_hk l b m cp e i) ho hs hK
theorem yX_hk (l:Nat) (b:Addr) (m cp:Nat) (i:Int):(run yB false 3000 ((⟨lpIn yu_k,.normal,yuS l b m cp i⟩:Cfg)) [false]).cfg.k=[]:=by kernel_rfl
theorem yX (l:Nat) (b:Addr) (m cp:Nat) (i:Int) (ho:AllP [((decide (i ≥ (0:Int)))=false)]) (hs:Sim w0 F0 K ac (yuS l b m cp i) cX aX) (hK:∀ac cY aY,Sim w0 F0 K ac (mkSt 19 [] [] [0] [(some (.fl [(.val (Value.slice (some b) m cp))]))] 112 [] []) cY aY→Wq Try.prog Q ([]) ac Exit.normal aY cY.w):Wq Try.prog Q (lpIn yu_k) ac .normal aX cX.w:=
  run_at2 (o:=⟨_,_,_,_,_,_,_⟩) yB_ok (by kernel_rfl) (yX_hk l b m cp i) ho hs hK
theorem ybB_hk (l:Nat) (b:Addr) (m cp:Nat) (i n:Int):(run yB false 3000 ((⟨opsNext yw_k,.normal,⟨setT (look .top [0,1,3,11,12,16] [(.v (.c (.val (.func (.yield l) #[] #[])))),.v (.c (.ptr 0 0)),.v (.c (.int .i64 i)),(.v (.c (.val (.func (.yield l) #[] #[])))),.v (.c (.int .i64 i)),.v (.c (.int .u64 n))]) 17 (.v (.c (.lit true))),one (.fl [.val (.slice (some b) m cp)]),19,400,[]⟩⟩:Cfg)) []).cfg.k=lpBk yu_k:=by kernel_rfl
theorem ybB (l:Nat) (b:Addr) (m cp:Nat) (i n:Int) (ho:AllP []) (hs:Sim w0 F0 K ac (⟨setT (look .top [0,1,3,11,12,16] [(.v (.c (.val (.func (.yield l) #[] #[])))),.v (.c (.ptr 0 0)),.v (.c (.int .i64 i)),(.v (.c (.val (.func (.yield l) #[] #[])))),.v (.c (.int .i64 i)),.v (.c (.int .u64 n))]) 17 (.v (.c (.lit true))),one (.fl [.val (.slice (some b) m cp)]),19,400,[]⟩) cX aX) (hK:∀ac cY aY,Sim w0 F0 K ac (mkSt 19 [0,1,3] [(.v (.c (.val (Value.func (Fn.yield l) (Array.mk ([]:List Value)) (Array.mk ([]:List Value)))))),.pt 0 0,(.ii (IntKind.wrap .i64 (i-(1:Int))))] [0] [(some (.fl [(.val (Value.slice (some b) m cp))]))] 464 [] []) cY aY→Wq Try.prog Q (lpBk yu_k) ac Exit.normal aY cY.w):Wq Try.prog Q (opsNext yw_k) ac .normal aX cX.w:=
  run_at2 (o:=⟨_,_,_,_,_,_,_⟩) yB_ok (by kernel_rfl) (ybB_hk l b m cp i n) ho hs hK

noncomputable def yp_k:List KI:=(run yB false 3000 ((fun (a:List Int)=>(⟨[.code (bodyOf Try.f34)],.normal,initSt Try.f34.ntmps [.v (.c (.sl (.u64 a)))]⟩:Cfg)) default) []).cfg.k
theorem yp_hk (a:List Int):(run yB false 3000 ((⟨[.code (bodyOf Try.f34)],.normal,initSt Try.f34.ntmps [.v (.c (.sl (.u64 a)))]⟩:Cfg)) []).cfg.k=yp_k:=by kernel_rfl
theorem yp (a:List Int) (ho:AllP [((List.length a)≤16)]) (hs:Sim w0 F0 K ac (initSt Try.f34.ntmps [.v (.c (.sl (.u64 a)))]) cX aX) (hK:∀ac cY aY,Sim w0 F0 K ac (mkSt 25 [3,9] [.pt 32 0,(.v (.c (.clo 66 [(80,0)])))] [32,80] [(some (.fl [(.val (Value.slice Option.none 0 0))])),(some (.fl [.sl (.u64 a)]))] 144 [] []) cY aY→Wq Try.prog Q (yp_k) ac Exit.normal aY cY.w):Wq Try.prog Q ([.code (bodyOf Try.f34)]) ac .normal aX cX.w:=
  run_at2 (o:=⟨_,_,_,_,_,_,_⟩) yB_ok (by kernel_rfl) (yp_hk a) ho hs hK
noncomputable def ypN (a:List Int):St:=mkSt 25 [3,9] [.v (.c (.ptr 32 0)),(.v (.c (.clo 66 [(80,0)])))] [32,80] [(some (.fl [(.val (Value.slice Option.none 0 0))])),(some (.fl [.sl (.u64 a)]))] 144 [] []
theorem ypA_hk (a:List Int) (i n:Int):(run yB false 3000 ((⟨[.code (rfA yp_k)],.normal,roundSt (ypN a) [(10,.v (.c (.int .i64 i))),(11,.v (.c (.int .u64 n)))]⟩:Cfg)) []).cfg.k=[]:=by kernel_rfl
theorem ypA (a:List Int) (i n:Int) {ρ:Option Nat} (ho:AllP []) (hs:Sim w0 F0 K ac (roundSt (ypN a) [(10,.v (.c (.int .i64 i))),(11,.v (.c (.int .u64 n)))]) cX aX) (hK:∀cY aY,Sim w0 F0 K ac (mkSt 25 [3,5] [.pt 32 0,.iu n] [32,80] [(some (.fl [(.val (Value.slice Option.none 0 0))])),(some (.fl [.sl (.u64 a)]))] 160 [[3,9]] [([.pt 32 0,(.v (.c (.clo 66 [(80,0)])))],25)]) cY aY→Wq Try.prog Q ([]) ac Exit.normal aY cY.w ρ):Wq Try.prog Q ([.code (rfA yp_k)]) ac .normal aX cX.w ρ :=
  run_atT (o:=⟨_,_,_,_,_,_,_⟩) yB_ok (by kernel_rfl) (ypA_hk a i n) ho (by kernel_rfl) (by kernel_rfl) hs hK
noncomputable def ypB (a:List Int) (n:Int):St:=mkSt 25 [3,5] [.pt 32 0,.v (.c (.int .u64 n))] [32,80] [(some (.fl [(.val (Value.slice Option.none 0 0))])),(some (.fl [.sl (.u64 a)]))] 160 [[3,9]] [([.pt 32 0,(.v (.c (.clo 66 [(80,0)])))],25)]
--@unroll true
theorem ypC_hk (a:List Int) (n:Int):(run yB true 163 ((⟨[.code (rfB yp_k)],.normal,ypB a n⟩:Cfg)) [true,true,true,true,true,true,true,true,false]).cfg.k=[]:=by kernel_rfl
theorem ypC (a:List Int) (n:Int) {ρ:Option Nat} (ho:AllP [((decide ((56:Int) ≥ (0:Int)))=true),((0:Int)≤(56:Int)),((1*1)≤140737488355328),(1≤maxLen),(1=1),((decide ((48:Int) ≥ (0:Int)))=true),((0:Int)≤(48:Int)),(((1+1)*1)≤140737488355328),((1+1)≤maxLen),(1=1),(1=1),((decide ((40:Int) ≥ (0:Int)))=true),((0:Int)≤(40:Int)),((((List.length ([(IntKind.wrap .u8 (Int.fdiv n (72057594037927936:Int)))]++[(IntKind.wrap .u8 (Int.fdiv n (281474976710656:Int)))]))+1)*1)≤140737488355328),(((List.length ([(IntKind.wrap .u8 (Int.fdiv n (72057594037927936:Int)))]++[(IntKind.wrap .u8 (Int.fdiv n (281474976710656:Int)))]))+1)≤maxLen),((1+1)=(List.length ([(IntKind.wrap .u8 (Int.fdiv n (72057594037927936:Int)))]++[(IntKind.wrap .u8 (Int.fdiv n (281474976710656:Int)))]))),(1=1),((decide ((32:Int) ≥ (0:Int)))=true),((0:Int)≤(32:Int)),((((List.length (([(IntKind.wrap .u8 (Int.fdiv n (72057594037927936:Int)))]++[(IntKind.wrap .u8 (Int.fdiv n (281474976710656:Int)))])++[(IntKind.wrap .u8 (Int.fdiv n (1099511627776:Int)))]))+1)*1)≤140737488355328),(((List.length (([(IntKind.wrap .u8 (Int.fdiv n (72057594037927936:Int)))]++[(IntKind.wrap .u8 (Int.fdiv n (281474976710656:Int)))])++[(IntKind.wrap .u8 (Int.fdiv n (1099511627776:Int)))]))+1)≤maxLen),(((List.length ([(IntKind.wrap .u8 (Int.fdiv n (72057594037927936:Int)))]++[(IntKind.wrap .u8 (Int.fdiv n (281474976710656:Int)))]))+1)=(List.length (([(IntKind.wrap .u8 (Int.fdiv n (72057594037927936:Int)))]++[(IntKind.wrap .u8 (Int.fdiv n (281474976710656:Int)))])++[(IntKind.wrap .u8 (Int.fdiv n (1099511627776:Int)))]))),(1=1),((decide ((24:Int) ≥ (0:Int)))=true),((0:Int)≤(24:Int)),((((List.length ((([(IntKind.wrap .u8 (Int.fdiv n (72057594037927936:Int)))]++[(IntKind.wrap .u8 (Int.fdiv n (281474976710656:Int)))])++[(IntKind.wrap .u8 (Int.fdiv n (1099511627776:Int)))])++[(IntKind.wrap .u8 (Int.fdiv n (4294967296:Int)))]))+1)*1)≤140737488355328),(((List.length ((([(IntKind.wrap .u8 (Int.fdiv n (72057594037927936:Int)))]++[(IntKind.wrap .u8 (Int.fdiv n (281474976710656:Int)))])++[(IntKind.wrap .u8 (Int.fdiv n (1099511627776:Int)))])++[(IntKind.wrap .u8 (Int.fdiv n (4294967296:Int)))]))+1)≤maxLen),(((List.length (([(IntKind.wrap .u8 (Int.fdiv n (72057594037927936:Int)))]++[(IntKind.wrap .u8 (Int.fdiv n (281474976710656:Int)))])++[(IntKind.wrap .u8 (Int.fdiv n (1099511627776:Int)))]))+1)=(List.length ((([(IntKind.wrap .u8 (Int.fdiv n (72057594037927936:Int)))]++[(IntKind.wrap .u8 (Int.fdiv n (281474976710656:Int)))])++[(IntKind.wrap .u8 (Int.fdiv n (1099511627776:Int)))])++[(IntKind.wrap .u8 (Int.fdiv n (4294967296:Int)))]))),(1=1),((decide ((16:Int) ≥ (0:Int)))=true),((0:Int)≤(16:Int)),((((List.length (((([(IntKind.wrap .u8 (Int.fdiv n (72057594037927936:Int)))]++[(IntKind.wrap .u8 (Int.fdiv n (281474976710656:Int)))])++[(IntKind.wrap .u8 (Int.fdiv n (1099511627776:Int)))])++[(IntKind.wrap .u8 (Int.fdiv n (4294967296:Int)))])++[(IntKind.wrap .u8 (Int.fdiv n (16777216:Int)))]))+1)*1)≤140737488355328),(((List.length (((([(IntKind.wrap .u8 (Int.fdiv n (72057594037927936:Int)))]++[(IntKind.wrap .u8 (Int.fdiv n (281474976710656:Int)))])++[(IntKind.wrap .u8 (Int.fdiv n (1099511627776:Int)))])++[(IntKind.wrap .u8 (Int.fdiv n (4294967296:Int)))])++[(IntKind.wrap .u8 (Int.fdiv n (16777216:Int)))]))+1)≤maxLen),(((List.length ((([(IntKind.wrap .u8 (Int.fdiv n (72057594037927936:Int)))]++[(IntKind.wrap .u8 (Int.fdiv n (281474976710656:Int)))])++[(IntKind.wrap .u8 (Int.fdiv n (1099511627776:Int)))])++[(IntKind.wrap .u8 (Int.fdiv n (4294967296:Int)))]))+1)=(List.length (((([(IntKind.wrap .u8 (Int.fdiv n (72057594037927936:Int)))]++[(IntKind.wrap .u8 (Int.fdiv n (281474976710656:Int)))])++[(IntKind.wrap .u8 (Int.fdiv n (1099511627776:Int)))])++[(IntKind.wrap .u8 (Int.fdiv n (4294967296:Int)))])++[(IntKind.wrap .u8 (Int.fdiv n (16777216:Int)))]))),(1=1),((decide ((8:Int) ≥ (0:Int)))=true),((0:Int)≤(8:Int)),((((List.length ((((([(IntKind.wrap .u8 (Int.fdiv n (72057594037927936:Int)))]++[(IntKind.wrap .u8 (Int.fdiv n (281474976710656:Int)))])++[(IntKind.wrap .u8 (Int.fdiv n (1099511627776:Int)))])++[(IntKind.wrap .u8 (Int.fdiv n (4294967296:Int)))])++[(IntKind.wrap .u8 (Int.fdiv n (16777216:Int)))])++[(IntKind.wrap .u8 (Int.fdiv n (65536:Int)))]))+1)*1)≤140737488355328),(((List.length ((((([(IntKind.wrap .u8 (Int.fdiv n (72057594037927936:Int)))]++[(IntKind.wrap .u8 (Int.fdiv n (281474976710656:Int)))])++[(IntKind.wrap .u8 (Int.fdiv n (1099511627776:Int)))])++[(IntKind.wrap .u8 (Int.fdiv n (4294967296:Int)))])++[(IntKind.wrap .u8 (Int.fdiv n (16777216:Int)))])++[(IntKind.wrap .u8 (Int.fdiv n (65536:Int)))]))+1)≤maxLen),(((List.length (((([(IntKind.wrap .u8 (Int.fdiv n (72057594037927936:Int)))]++[(IntKind.wrap .u8 (Int.fdiv n (281474976710656:Int)))])++[(IntKind.wrap .u8 (Int.fdiv n (1099511627776:Int)))])++[(IntKind.wrap .u8 (Int.fdiv n (4294967296:Int)))])++[(IntKind.wrap .u8 (Int.fdiv n (16777216:Int)))]))+1)=(List.length ((((([(IntKind.wrap .u8 (Int.fdiv n (72057594037927936:Int)))]++[(IntKind.wrap .u8 (Int.fdiv n (281474976710656:Int)))])++[(IntKind.wrap .u8 (Int.fdiv n (1099511627776:Int)))])++[(IntKind.wrap .u8 (Int.fdiv n (4294967296:Int)))])++[(IntKind.wrap .u8 (Int.fdiv n (16777216:Int)))])++[(IntKind.wrap .u8 (Int.fdiv n (65536:Int)))]))),(1=1),((decide ((0:Int) ≥ (0:Int)))=true),((0:Int)≤(0:Int)),((((List.length (((((([(IntKind.wrap .u8 (Int.fdiv n (72057594037927936:Int)))]++[(IntKind.wrap .u8 (Int.fdiv n (281474976710656:Int)))])++[(IntKind.wrap .u8 (Int.fdiv n (1099511627776:Int)))])++[(IntKind.wrap .u8 (Int.fdiv n (4294967296:Int)))])++[(IntKind.wrap .u8 (Int.fdiv n (16777216:Int)))])++[(IntKind.wrap .u8 (Int.fdiv n (65536:Int)))])++[(IntKind.wrap .u8 (Int.fdiv n (256:Int)))]))+1)*1)≤140737488355328),(((List.length (((((([(IntKind.wrap .u8 (Int.fdiv n (72057594037927936:Int)))]++[(IntKind.wrap .u8 (Int.fdiv n (281474976710656:Int)))])++[(IntKind.wrap .u8 (Int.fdiv n (1099511627776:Int)))])++[(IntKind.wrap .u8 (Int.fdiv n (4294967296:Int)))])++[(IntKind.wrap .u8 (Int.fdiv n (16777216:Int)))])++[(IntKind.wrap .u8 (Int.fdiv n (65536:Int)))])++[(IntKind.wrap .u8 (Int.fdiv n (256:Int)))]))+1)≤maxLen),(((List.length ((((([(IntKind.wrap .u8 (Int.fdiv n (72057594037927936:Int)))]++[(IntKind.wrap .u8 (Int.fdiv n (281474976710656:Int)))])++[(IntKind.wrap .u8 (Int.fdiv n (1099511627776:Int)))])++[(IntKind.wrap .u8 (Int.fdiv n (4294967296:Int)))])++[(IntKind.wrap .u8 (Int.fdiv n (16777216:Int)))])++[(IntKind.wrap .u8 (Int.fdiv n (65536:Int)))]))+1)=(List.length (((((([(IntKind.wrap .u8 (Int.fdiv n (72057594037927936:Int)))]++[(IntKind.wrap .u8 (Int.fdiv n (281474976710656:Int)))])++[(IntKind.wrap .u8 (Int.fdiv n (1099511627776:Int)))])++[(IntKind.wrap .u8 (Int.fdiv n (4294967296:Int)))])++[(IntKind.wrap .u8 (Int.fdiv n (16777216:Int)))])++[(IntKind.wrap .u8 (Int.fdiv n (65536:Int)))])++[(IntKind.wrap .u8 (Int.fdiv n (256:Int)))]))),(1=1),((decide ((-(8:Int)) ≥ (0:Int)))=false)]) (hs:Sim w0 F0 K ac (ypB a n) cX aX) (hK:∀cY aY,Sim w0 F0 K ac (mkSt 25 [] [] [32,80,304] [(some (.fl [(.slc 304 0 8 1)])),(some (.fl [.sl (.u64 a)])),(some (.sq (Sq.u8 [(IntKind.wrap .u8 (Int.fdiv n (72057594037927936:Int))),(IntKind.wrap .u8 (Int.fdiv n (281474976710656:Int))),(IntKind.wrap .u8 (Int.fdiv n (1099511627776:Int))),(IntKind.wrap .u8 (Int.fdiv n (4294967296:Int))),(IntKind.wrap .u8 (Int.fdiv n (16777216:Int))),(IntKind.wrap .u8 (Int.fdiv n (65536:Int))),(IntKind.wrap .u8 (Int.fdiv n (256:Int))),(IntKind.wrap .u8 (Int.fdiv n (1:Int)))])))] 1872 [[3,9]] [([.pt 32 0,(.v (.c (.clo 66 [(80,0)])))],25)]) cY aY→Wq Try.prog Q ([]) ac Exit.normal aY cY.w ρ):Wq Try.prog Q ([.code (rfB yp_k)]) ac .normal aX cX.w ρ :=
  run_atT (o:=⟨_,_,_,_,_,_,_⟩) yB_ok (by kernel_rfl) (ypC_hk a n) ho (by kernel_rfl) (by kernel_rfl) hs hK
--@unroll false
noncomputable def ypS (a l:List Int):St:=mkSt 25 [3,9] [.pt 32 0,(.v (.c (.clo 66 [(80,0)])))] [32,80,304] [some (.fl [.slc 304 0 l.length 1]),some (.fl [.sl (.u64 a)]),some (.sq (.u8 l))] 480 [] []
theorem ypD_hk (a l:List Int) (i n:Int):(run yB false 3000 ((⟨[.code (rfA yp_k)],.normal,roundSt (ypS a l) [(10,.v (.c (.int .i64 i))),(11,.v (.c (.int .u64 n)))]⟩:Cfg)) []).cfg.k=[]:=by kernel_rfl
theorem ypD (a l:List Int) (i n:Int) {ρ:Option Nat} (ho:AllP []) (hs:Sim w0 F0 K ac (roundSt (ypS a l) [(10,.v (.c (.int .i64 i))),(11,.v (.c (.int .u64 n)))]) cX aX) (hK:∀cY aY,Sim w0 F0 K ac (mkSt 25 [3,5] [.pt 32 0,.iu n] [32,80,304] [(some (.fl [(.slc 304 0 (List.length l) 1)])),(some (.fl [.sl (.u64 a)])),(some (.sq (Sq.u8 l)))] 496 [[3,9]] [([.pt 32 0,(.v (.c (.clo 66 [(80,0)])))],25)]) cY aY→Wq Try.prog Q ([]) ac Exit.normal aY cY.w ρ):Wq Try.prog Q ([.code (rfA yp_k)]) ac .normal aX cX.w ρ :=
  run_atT (o:=⟨_,_,_,_,_,_,_⟩) yB_ok (by kernel_rfl) (ypD_hk a l i n) ho (by kernel_rfl) (by kernel_rfl) hs hK
noncomputable def ypE (a l:List Int) (n:Int):St:=mkSt 25 [3,5] [.pt 32 0,.v (.c (.int .u64 n))] [32,80,304] [(some (.fl [(.slc 304 0 (List.length l) 1)])),(some (.fl [.sl (.u64 a)])),(some (.sq (Sq.u8 l)))] 496 [[3,9]] [([.pt 32 0,(.v (.c (.clo 66 [(80,0)])))],25)]
--@unroll true
theorem ypF_hk (a l:List Int) (n:Int):(run yB true 163 ((⟨[.code (rfB yp_k)],.normal,ypE a l n⟩:Cfg)) [true,true,true,true,true,true,true,true,false]).cfg.k=[]:=by kernel_rfl
theorem ypF (a l:List Int) (n:Int) {ρ:Option Nat} (ho:AllP [((decide ((56:Int) ≥ (0:Int)))=true),((0:Int)≤(56:Int)),((((List.length l)+1)*1)≤140737488355328),(((List.length l)+1)≤maxLen),((List.length l)=(List.length l)),(1=1),((decide ((48:Int) ≥ (0:Int)))=true),((0:Int)≤(48:Int)),((((List.length (l++[(IntKind.wrap .u8 (Int.fdiv n (72057594037927936:Int)))]))+1)*1)≤140737488355328),(((List.length (l++[(IntKind.wrap .u8 (Int.fdiv n (72057594037927936:Int)))]))+1)≤maxLen),(((List.length l)+1)=(List.length (l++[(IntKind.wrap .u8 (Int.fdiv n (72057594037927936:Int)))]))),(1=1),((decide ((40:Int) ≥ (0:Int)))=true),((0:Int)≤(40:Int)),((((List.length ((l++[(IntKind.wrap .u8 (Int.fdiv n (72057594037927936:Int)))])++[(IntKind.wrap .u8 (Int.fdiv n (281474976710656:Int)))]))+1)*1)≤140737488355328),(((List.length ((l++[(IntKind.wrap .u8 (Int.fdiv n (72057594037927936:Int)))])++[(IntKind.wrap .u8 (Int.fdiv n (281474976710656:Int)))]))+1)≤maxLen),(((List.length (l++[(IntKind.wrap .u8 (Int.fdiv n (72057594037927936:Int)))]))+1)=(List.length ((l++[(IntKind.wrap .u8 (Int.fdiv n (72057594037927936:Int)))])++[(IntKind.wrap .u8 (Int.fdiv n (281474976710656:Int)))]))),(1=1),((decide ((32:Int) ≥ (0:Int)))=true),((0:Int)≤(32:Int)),((((List.length (((l++[(IntKind.wrap .u8 (Int.fdiv n (72057594037927936:Int)))])++[(IntKind.wrap .u8 (Int.fdiv n (281474976710656:Int)))])++[(IntKind.wrap .u8 (Int.fdiv n (1099511627776:Int)))]))+1)*1)≤140737488355328),(((List.length (((l++[(IntKind.wrap .u8 (Int.fdiv n (72057594037927936:Int)))])++[(IntKind.wrap .u8 (Int.fdiv n (281474976710656:Int)))])++[(IntKind.wrap .u8 (Int.fdiv n (1099511627776:Int)))]))+1)≤maxLen),(((List.length ((l++[(IntKind.wrap .u8 (Int.fdiv n (72057594037927936:Int)))])++[(IntKind.wrap .u8 (Int.fdiv n (281474976710656:Int)))]))+1)=(List.length (((l++[(IntKind.wrap .u8 (Int.fdiv n (72057594037927936:Int)))])++[(IntKind.wrap .u8 (Int.fdiv n (281474976710656:Int)))])++[(IntKind.wrap .u8 (Int.fdiv n (1099511627776:Int)))]))),(1=1),((decide ((24:Int) ≥ (0:Int)))=true),((0:Int)≤(24:Int)),((((List.length ((((l++[(IntKind.wrap .u8 (Int.fdiv n (72057594037927936:Int)))])++[(IntKind.wrap .u8 (Int.fdiv n (281474976710656:Int)))])++[(IntKind.wrap .u8 (Int.fdiv n (1099511627776:Int)))])++[(IntKind.wrap .u8 (Int.fdiv n (4294967296:Int)))]))+1)*1)≤140737488355328),(((List.length ((((l++[(IntKind.wrap .u8 (Int.fdiv n (72057594037927936:Int)))])++[(IntKind.wrap .u8 (Int.fdiv n (281474976710656:Int)))])++[(IntKind.wrap .u8 (Int.fdiv n (1099511627776:Int)))])++[(IntKind.wrap .u8 (Int.fdiv n (4294967296:Int)))]))+1)≤maxLen),(((List.length (((l++[(IntKind.wrap .u8 (Int.fdiv n (72057594037927936:Int)))])++[(IntKind.wrap .u8 (Int.fdiv n (281474976710656:Int)))])++[(IntKind.wrap .u8 (Int.fdiv n (1099511627776:Int)))]))+1)=(List.length ((((l++[(IntKind.wrap .u8 (Int.fdiv n (72057594037927936:Int)))])++[(IntKind.wrap .u8 (Int.fdiv n (281474976710656:Int)))])++[(IntKind.wrap .u8 (Int.fdiv n (1099511627776:Int)))])++[(IntKind.wrap .u8 (Int.fdiv n (4294967296:Int)))]))),(1=1),((decide ((16:Int) ≥ (0:Int)))=true),((0:Int)≤(16:Int)),((((List.length (((((l++[(IntKind.wrap .u8 (Int.fdiv n (72057594037927936:Int)))])++[(IntKind.wrap .u8 (Int.fdiv n (281474976710656:Int)))])++[(IntKind.wrap .u8 (Int.fdiv n (1099511627776:Int)))])++[(IntKind.wrap .u8 (Int.fdiv n (4294967296:Int)))])++[(IntKind.wrap .u8 (Int.fdiv n (16777216:Int)))]))+1)*1)≤140737488355328),(((List.length (((((l++[(IntKind.wrap .u8 (Int.fdiv n (72057594037927936:Int)))])++[(IntKind.wrap .u8 (Int.fdiv n (281474976710656:Int)))])++[(IntKind.wrap .u8 (Int.fdiv n (1099511627776:Int)))])++[(IntKind.wrap .u8 (Int.fdiv n (4294967296:Int)))])++[(IntKind.wrap .u8 (Int.fdiv n (16777216:Int)))]))+1)≤maxLen),(((List.length ((((l++[(IntKind.wrap .u8 (Int.fdiv n (72057594037927936:Int)))])++[(IntKind.wrap .u8 (Int.fdiv n (281474976710656:Int)))])++[(IntKind.wrap .u8 (Int.fdiv n (1099511627776:Int)))])++[(IntKind.wrap .u8 (Int.fdiv n (4294967296:Int)))]))+1)=(List.length (((((l++[(IntKind.wrap .u8 (Int.fdiv n (72057594037927936:Int)))])++[(IntKind.wrap .u8 (Int.fdiv n (281474976710656:Int)))])++[(IntKind.wrap .u8 (Int.fdiv n (1099511627776:Int)))])++[(IntKind.wrap .u8 (Int.fdiv n (4294967296:Int)))])++[(IntKind.wrap .u8 (Int.fdiv n (16777216:Int)))]))),(1=1),((decide ((8:Int) ≥ (0:Int)))=true),((0:Int)≤(8:Int)),((((List.length ((((((l++[(IntKind.wrap .u8 (Int.fdiv n (72057594037927936:Int)))])++[(IntKind.wrap .u8 (Int.fdiv n (281474976710656:Int)))])++[(IntKind.wrap .u8 (Int.fdiv n (1099511627776:Int)))])++[(IntKind.wrap .u8 (Int.fdiv n (4294967296:Int)))])++[(IntKind.wrap .u8 (Int.fdiv n (16777216:Int)))])++[(IntKind.wrap .u8 (Int.fdiv n (65536:Int)))]))+1)*1)≤140737488355328),(((List.length ((((((l++[(IntKind.wrap .u8 (Int.fdiv n (72057594037927936:Int)))])++[(IntKind.wrap .u8 (Int.fdiv n (281474976710656:Int)))])++[(IntKind.wrap .u8 (Int.fdiv n (1099511627776:Int)))])++[(IntKind.wrap .u8 (Int.fdiv n (4294967296:Int)))])++[(IntKind.wrap .u8 (Int.fdiv n (16777216:Int)))])++[(IntKind.wrap .u8 (Int.fdiv n (65536:Int)))]))+1)≤maxLen),(((List.length (((((l++[(IntKind.wrap .u8 (Int.fdiv n (72057594037927936:Int)))])++[(IntKind.wrap .u8 (Int.fdiv n (281474976710656:Int)))])++[(IntKind.wrap .u8 (Int.fdiv n (1099511627776:Int)))])++[(IntKind.wrap .u8 (Int.fdiv n (4294967296:Int)))])++[(IntKind.wrap .u8 (Int.fdiv n (16777216:Int)))]))+1)=(List.length ((((((l++[(IntKind.wrap .u8 (Int.fdiv n (72057594037927936:Int)))])++[(IntKind.wrap .u8 (Int.fdiv n (281474976710656:Int)))])++[(IntKind.wrap .u8 (Int.fdiv n (1099511627776:Int)))])++[(IntKind.wrap .u8 (Int.fdiv n (4294967296:Int)))])++[(IntKind.wrap .u8 (Int.fdiv n (16777216:Int)))])++[(IntKind.wrap .u8 (Int.fdiv n (65536:Int)))]))),(1=1),((decide ((0:Int) ≥ (0:Int)))=true),((0:Int)≤(0:Int)),((((List.length (((((((l++[(IntKind.wrap .u8 (Int.fdiv n (72057594037927936:Int)))])++[(IntKind.wrap .u8 (Int.fdiv n (281474976710656:Int)))])++[(IntKind.wrap .u8 (Int.fdiv n (1099511627776:Int)))])++[(IntKind.wrap .u8 (Int.fdiv n (4294967296:Int)))])++[(IntKind.wrap .u8 (Int.fdiv n (16777216:Int)))])++[(IntKind.wrap .u8 (Int.fdiv n (65536:Int)))])++[(IntKind.wrap .u8 (Int.fdiv n (256:Int)))]))+1)*1)≤140737488355328),(((List.length (((((((l++[(IntKind.wrap .u8 (Int.fdiv n (72057594037927936:Int)))])++[(IntKind.wrap .u8 (Int.fdiv n (281474976710656:Int)))])++[(IntKind.wrap .u8 (Int.fdiv n (1099511627776:Int)))])++[(IntKind.wrap .u8 (Int.fdiv n (4294967296:Int)))])++[(IntKind.wrap .u8 (Int.fdiv n (16777216:Int)))])++[(IntKind.wrap .u8 (Int.fdiv n (65536:Int)))])++[(IntKind.wrap .u8 (Int.fdiv n (256:Int)))]))+1)≤maxLen),(((List.length ((((((l++[(IntKind.wrap .u8 (Int.fdiv n (72057594037927936:Int)))])++[(IntKind.wrap .u8 (Int.fdiv n (281474976710656:Int)))])++[(IntKind.wrap .u8 (Int.fdiv n (1099511627776:Int)))])++[(IntKind.wrap .u8 (Int.fdiv n (4294967296:Int)))])++[(IntKind.wrap .u8 (Int.fdiv n (16777216:Int)))])++[(IntKind.wrap .u8 (Int.fdiv n (65536:Int)))]))+1)=(List.length (((((((l++[(IntKind.wrap .u8 (Int.fdiv n (72057594037927936:Int)))])++[(IntKind.wrap .u8 (Int.fdiv n (281474976710656:Int)))])++[(IntKind.wrap .u8 (Int.fdiv n (1099511627776:Int)))])++[(IntKind.wrap .u8 (Int.fdiv n (4294967296:Int)))])++[(IntKind.wrap .u8 (Int.fdiv n (16777216:Int)))])++[(IntKind.wrap .u8 (Int.fdiv n (65536:Int)))])++[(IntKind.wrap .u8 (Int.fdiv n (256:Int)))]))),(1=1),((decide ((-(8:Int)) ≥ (0:Int)))=false)]) (hs:Sim w0 F0 K ac (ypE a l n) cX aX) (hK:∀cY aY,Sim w0 F0 K ac (mkSt 25 [] [] [32,80,304] [(some (.fl [(.slc 304 0 ((List.length (((((((l++[(IntKind.wrap .u8 (Int.fdiv n (72057594037927936:Int)))])++[(IntKind.wrap .u8 (Int.fdiv n (281474976710656:Int)))])++[(IntKind.wrap .u8 (Int.fdiv n (1099511627776:Int)))])++[(IntKind.wrap .u8 (Int.fdiv n (4294967296:Int)))])++[(IntKind.wrap .u8 (Int.fdiv n (16777216:Int)))])++[(IntKind.wrap .u8 (Int.fdiv n (65536:Int)))])++[(IntKind.wrap .u8 (Int.fdiv n (256:Int)))]))+1) 1)])),(some (.fl [.sl (.u64 a)])),(some (.sq (Sq.u8 ((((((((l++[(IntKind.wrap .u8 (Int.fdiv n (72057594037927936:Int)))])++[(IntKind.wrap .u8 (Int.fdiv n (281474976710656:Int)))])++[(IntKind.wrap .u8 (Int.fdiv n (1099511627776:Int)))])++[(IntKind.wrap .u8 (Int.fdiv n (4294967296:Int)))])++[(IntKind.wrap .u8 (Int.fdiv n (16777216:Int)))])++[(IntKind.wrap .u8 (Int.fdiv n (65536:Int)))])++[(IntKind.wrap .u8 (Int.fdiv n (256:Int)))])++[(IntKind.wrap .u8 (Int.fdiv n (1:Int)))]))))] 2208 [[3,9]] [([.pt 32 0,(.v (.c (.clo 66 [(80,0)])))],25)]) cY aY→Wq Try.prog Q ([]) ac Exit.normal aY cY.w ρ):Wq Try.prog Q ([.code (rfB yp_k)]) ac .normal aX cX.w ρ :=
  run_atT (o:=⟨_,_,_,_,_,_,_⟩) yB_ok (by kernel_rfl) (ypF_hk a l n) ho (by kernel_rfl) (by kernel_rfl) hs hK
--@unroll false
theorem ypX_hk (a l:List Int):(run yB false 3000 ((⟨rfR yp_k,.normal,ypS a l⟩:Cfg)) []).cfg.k=[]:=by kernel_rfl
theorem ypX (a l:List Int) {ρ:Option Nat} (ho:AllP [((List.length l)=(List.length l))]) (hs:Sim w0 F0 K ac (ypS a l) cX aX) (hK:∀cY aY,Sim w0 F0 K ac (mkSt 25 [2] [(.v (.c (.val (Value.string (strOf l)))))] [] [] 528 [] []) cY aY→Wq Try.prog Q ([]) ac Exit.ret aY cY.w ρ):Wq Try.prog Q (rfR yp_k) ac .normal aX cX.w ρ :=
  run_atT (o:=⟨_,_,_,_,_,_,_⟩) yB_ok (by kernel_rfl) (ypX_hk a l) ho (by kernel_rfl) (by kernel_rfl) hs hK
noncomputable def ypZ (s:ByteArray):St:=mkSt 25 [2] [.v (.c (.val (.string s)))] [] [] 528 [] []
theorem ypR_end (s:ByteArray):runEnd yB Try.f34 false 3000 (⟨[],.ret,ypZ s⟩) [] [] []=(some ([],((.v (.c (.val (Value.string s)))),[]))):=by kernel_rfl
end
end Go.Proofs.Ytcmkkanhddhgpaa

/- A number's bytes: contract. No conditions. -/
namespace Go.Proofs.Ytcmkkanhddhgpaa

/-- The limbs from behind, with their places: the first so many. -/
def bkL (a:List Int) (c t:Nat):List (Int×Int):=(List.range t).map fun j=>(((c-1-j:Nat):Int),a.getD (c-1-j) 0)
theorem bkL_succ (a:List Int) (c t:Nat):bkL a c (t+1)=bkL a c t++[(((c-1-t:Nat):Int),a.getD (c-1-t) 0)]:=by
  unfold bkL
  rw[List.range_succ,List.map_append]
  rfl
theorem bkL_pre (a:List Int) (c:Nat):∀{t n:Nat},t≤n→∃r,bkL a c n=bkL a c t++r:=by
  intro t n h
  obtain ⟨d,rfl⟩:∃d,n=t+d:=⟨n-t,by omega⟩
  unfold bkL
  rw[List.range_add,List.map_append]
  exact ⟨_,rfl⟩
theorem bkL_len (a:List Int) (c t:Nat):(bkL a c t).length=t:=by unfold bkL;rw[List.length_map,List.length_range]
def bkEnc (z:Int×Int):List Value:=[.int .i64 z.1,.int .u64 z.2]
def bkVals (z:Int×Int):List SV:=[.v (.c (.int .i64 z.1)),.v (.c (.int .u64 z.2))]

theorem sl_form {y:Ctx} {e:List Int} {v:Value} (h0:0<e.length) (h:y.D (.sl (.u64 e)) [v]):∃b m cp,v = .slice (some b) m cp:=by
  rcases D_sl (v:=v) ⟨rfl,h⟩ with ⟨_,_,_,hn⟩ | ⟨b,o,cap,rfl,_⟩
  · have hn:e.length=0:=hn
    omega
  · exact ⟨_,_,_,rfl⟩

theorem back_iter {x:Ctx} {p:Nat} {e:List Int} {M:List (Int×Int)→Nat→Option En} (h0:0<e.length) (hl:e.length≤16) (hM:∀s,M s p=some (.fl [.sl (.u64 e)])) :
    IterC Try.prog x 66 [(p,0)] bkEnc (bkL e e.length e.length) M:=by
  intro l J W hgrow hread hyield hJ
  generalize hc:e.length=c at *
  have key:Wq Try.prog (bodyPost Try.prog Try.f66 fun e' W' => (∃v,e' = Ending.returned v)∧J (bkL e c c) W') [.code (bodyOf Try.f66)] [] .normal { tmps:=[Value.func (.yield l) #[] #[],.pointer (some ⟨x.β p,0,none⟩)].toArray++Array.replicate 17 undef,defers:=[] } W:=?_
  · exact calls_of_wp (c:=bodyOf Try.f66) Try.func66 rfl ((wpIn_wide (n:=0)).1 key.wp)
  obtain ⟨y,rfl,hm,hcp⟩:=hread [] W hJ
  obtain ⟨hr,hβ⟩:=hcp (p,0) List.mem_cons_self
  have hr:y.k p = .real:=hr
  have hβ:y.β p=x.β p:=hβ
  have hargs:denSs (itCtx y p) [.v (.c (.val (.func (.yield l) #[] #[]))),.v (.c (.ptr 0 0))] [.func (.yield l) #[] #[],.pointer (some ⟨x.β p,0,none⟩)]:=
    .cons ⟨rfl,0,rfl,rfl⟩ (.cons ⟨rfl,0,rfl,by show _=[Value.pointer (some ⟨y.β p,0,none⟩)];rw[hβ]⟩ .nil)
  obtain ⟨v,hv,hbox⟩:=box_sl hm (hM []) hr
  obtain ⟨b,m,cp,rfl⟩:=sl_form (by rw[hc];exact h0) hv
  have hs:=it_sim (nx:=16) (nt:=19) (a:={ tmps:=[Value.func (.yield l) #[] #[],.pointer (some ⟨x.β p,0,none⟩)].toArray++Array.replicate 17 undef,defers:=[] }) hm (hM []) hr hbox rfl (by simp) (argT_den hargs 17)
  change Wq Try.prog _ _ _ _ _ (itCtx y p).w
  refine yt l b m cp trivial hs fun ac cY aY hs1=>?_
  have hmb:Mem (itCtx y p) (one (.fl [.val (.slice (some b) m cp)])):=it_mem hm (hM _) hr hbox
  obtain ⟨hg1,_,_⟩:=it_back hmb rfl hs1 rfl
  have hsl:cY.D (.sl (.u64 e)) [.slice (some b) m cp]:=data_grow hg1 (fun b hb=>hs1.base.f0 b hb) hm.fw rfl hv
  have hs2:=hs1.slots (svs' := [.v (.c (.val (.func (.yield l) #[] #[]))),.v (.c (.ptr 0 0)),.v (.c (.sl (.u64 e)))]) ⟨fun _ h=>h,fun _ h=>h,conv_val rfl hsl,trivial⟩
  refine yu l b m cp e trivial hs2 fun ac cZ aZ hs3=>?_
  rw[hc,wrap_id (by omega) (by omega)] at hs3
  let I:{ t:Nat // t≤c } → List Act→Act→World→Prop:=fun t ac a w=>∃y z b m cp,z.w=w∧y.k p = .real∧y.β p=x.β p∧Mem y (M (bkL e c t.1))∧J (bkL e c t.1) y.w∧y.D (.sl (.u64 e)) [.slice (some b) m cp]∧Mem (itCtx y p) (one (.fl [.val (.slice (some b) m cp)]))∧Sim y.w y.F (kPin (itCtx y p)) ac (yuS l b m cp ((c:Int)-1-(t.1:Int))) z a
  refine loop_inv I (fun t=>c-t.1) (c:=lpC yu_k) (k:=lpR yu_k) (by kernel_rfl) (fun t ih ac b w hI=>?_) ⟨0,Nat.zero_le _⟩ ⟨y,cZ,b,m,cp,rfl,hr,hβ,hm,hJ,hv,hmb,by
      show Sim _ _ _ _ (yuS l b m cp ((c:Int)-1-((0:Nat):Int))) _ _
      rw[show (c:Int)-1-((0:Nat):Int)=(c:Int)-1 from by omega]
      exact hs3.nx _⟩
  obtain ⟨t,ht⟩:=t
  obtain ⟨y,z,b,m,cp,rfl,hr,hβ,hm,hJ,hv,hmb,hs⟩:=hI
  simp only at hm hJ hs ih
  by_cases h:t<c
  · obtain ⟨i,hi⟩:∃i:Nat,i=c-1-t:=⟨_,rfl⟩
    have ei:(c:Int)-1-(t:Int)=(i:Int):=by omega
    rw[ei] at hs
    refine yv l b m cp _ ⟨decide_eq_true (by omega),trivial⟩ hs fun ac cV aV hs4=>?_
    obtain ⟨hg4,_,_⟩:=it_back hmb rfl hs4 rfl
    have hsl4:cV.D (.sl (.u64 e)) [.slice (some b) m cp]:=data_grow hg4 (fun b hb=>hs4.base.f0 b hb) hm.fw rfl hv
    have hs5:=hs4.slots (svs' := [.v (.c (.val (.func (.yield l) #[] #[]))),.v (.c (.ptr 0 0)),.v (.c (.int .i64 (i:Int))),.v (.c (.val (.func (.yield l) #[] #[]))),.v (.c (.int .i64 (i:Int))),.v (.c (.sl (.u64 e))),.v (.c (.int .i64 (i:Int)))])
      ⟨fun _ h=>h,fun _ h=>h,fun _ h=>h,fun _ h=>h,fun _ h=>h,conv_val rfl hsl4,fun _ h=>h,trivial⟩
    refine yw l b m cp e _ ⟨by omega,by omega,trivial⟩ hs5 fun ac cU aU hs6=>?_
    rw[Int.toNat_natCast] at hs6
    obtain ⟨hg,hk2,hβ2⟩:=it_back hmb rfl hs6 rfl
    have hJ2:=hgrow _ _ _ hJ hg
    have e3:bkL e c (t+1)=bkL e c t++[((i:Int),e.getD i 0)]:=by rw[bkL_succ,hi]
    obtain ⟨r,hr1⟩:=bkL_pre e c (n:=c) (t:=t+1) h
    refine yield_at (R:=fun W' => J (bkL e c (t+1)) W') (dst:=some 17) (f:=.tmp 11) (args:=[.tmp 12,.tmp 16]) (by kernel_rfl) hs6 (l:=l) rfl (vs:=bkEnc ((i:Int),e.getD i 0)) ?_ ?_ fun W' hJ3=>?_
    · have h12:=D_int (hs6.t 12)
      have h16:=D_int (hs6.t 16)
      show [aU.tmps.getD 12 undef,aU.tmps.getD 16 undef]=_
      rw[h12,h16]
      rfl
    · have:=hyield (bkL e c t) ((i:Int),e.getD i 0) _ hJ2 ⟨r,by rw[hr1,e3,List.append_assoc];rfl⟩
      rw[←e3] at this
      exact this
    · obtain ⟨y3,rfl,hm3,hc3⟩:=hread _ _ hJ3
      obtain ⟨hr3,hβ3⟩:=hc3 (p,0) List.mem_cons_self
      have hr3:y3.k p = .real:=hr3
      have hβ3:y3.β p=x.β p:=hβ3
      obtain ⟨v3,hv3,hbox3⟩:=box_sl hm3 (hM _) hr3
      obtain ⟨b3,m3,cp3,rfl⟩:=sl_form (by rw[hc];exact h0) hv3
      have hmb3:Mem (itCtx y3 p) (one (.fl [.val (.slice (some b3) m3 cp3)])):=it_mem hm3 (hM _) hr3 hbox3
      have hs7:=it_again (nx' := 400) (dst:=17) (b:=true) hs6 (by kernel_rfl) rfl hm3 (hM _) hr3 hbox3 (by rw[hβ2,hβ];exact hβ3.symm) (by decide)
      change Wq Try.prog _ _ _ _ _ (itCtx y3 p).w
      refine ybB l b3 m3 cp3 _ _ trivial hs7 fun ac cT aT hs8=>?_
      have e4:IntKind.wrap IntKind.i64 ((i:Int)-1)=(c:Int)-1-((t+1:Nat):Int):=by rw[wrap_id (by omega) (by omega)];omega
      rw[e4] at hs8
      exact ih ⟨t+1,by omega⟩ (by show c-(t+1)<c-t;omega) ac aT _ ⟨y3,cT,b3,m3,cp3,rfl,hr3,hβ3,hm3,hJ3,hv3,hmb3,hs8.nx _⟩
  · have e5:t=c:=by omega
    subst e5
    refine yX l b m cp _ ⟨decide_eq_false (by omega),trivial⟩ hs fun ac cV aV hs4=>?_
    obtain ⟨hg,_,_⟩:=it_back hmb rfl hs4 rfl
    exact ⟨it_end yB_ok hs4 rfl rfl rfl (fun v=>⟨⟨v,rfl⟩,hgrow _ _ _ hJ hg⟩) (.inr rfl)⟩

/-- The eight bytes of a limb, the highest first. -/
def by8 (n:Int):List Int:=[IntKind.wrap IntKind.u8 (Int.fdiv n 72057594037927936),IntKind.wrap IntKind.u8 (Int.fdiv n 281474976710656),IntKind.wrap IntKind.u8 (Int.fdiv n 1099511627776),IntKind.wrap IntKind.u8 (Int.fdiv n 4294967296),IntKind.wrap IntKind.u8 (Int.fdiv n 16777216),IntKind.wrap IntKind.u8 (Int.fdiv n 65536),IntKind.wrap IntKind.u8 (Int.fdiv n 256),IntKind.wrap IntKind.u8 (Int.fdiv n 1)]
def byL:List (Int×Int)→List Int
  | []=>[]
  | z::r=>by8 z.2++byL r
theorem byL_app (z:Int×Int):∀l:List (Int×Int),byL (l++[z])=byL l++by8 z.2
  | []=>by show by8 z.2++[]=[]++by8 z.2;rw[List.append_nil,List.nil_append]
  | w::l=>by show by8 w.2++byL (l++[z])=(by8 w.2++byL l)++by8 z.2;rw[byL_app z l,List.append_assoc]
theorem byL_len:∀l:List (Int×Int),(byL l).length=8*l.length
  | []=>rfl
  | w::l=>by show (by8 w.2++byL l).length=_;rw[List.length_append,byL_len l,List.length_cons];show 8+_=_;omega

noncomputable def ypT (a:List Int):List (Int×Int)→St
  | []=>ypN a
  | z::r=>ypS a (byL (z::r))
noncomputable def ypV (a:List Int):List (Int×Int)→Int×Int→St
  | [],z=>ypB a z.2
  | w::r,z=>ypE a (byL (w::r)) z.2
noncomputable def ypG (a l:List Int):St:=mkSt 25 [] [] [32,80,304] [some (.fl [.slc 304 0 l.length 1]),some (.fl [.sl (.u64 a)]),some (.sq (.u8 l))] 2208 [[3,9]] [([.pt 32 0,(.v (.c (.clo 66 [(80,0)])))],25)]

theorem put_fnd (a:List Int) (h0:0<a.length) (h:a.length≤16):FnD Try.prog 34 [.v (.c (.sl (.u64 a)))] (.v (.c (.val (.string (strOf (byL (bkL a a.length a.length))))))) []:=by
  refine fn_start_m (fn:=Try.f34) (c:=bodyOf Try.f34) Try.func34 rfl rfl fun x b hk hF hs=>?_
  refine yp a ⟨h,trivial⟩ hs fun ac cY aY hs1=>?_
  obtain ⟨e1,e2⟩:=isRf_eq (k:=yp_k) (by kernel_rfl)
  rw[e1]
  have eP:(rfP yp_k).toList=[10,11]:=by kernel_rfl
  have eG:rfG yp_k = .tmp 9:=by kernel_rfl
  have small:∀{pre:List (Int×Int)} {z:Int×Int},(∃t,bkL a a.length a.length=pre++z::t)→(byL pre).length≤128:=by
    rintro pre z ⟨t,ht⟩
    have:=congrArg List.length ht
    rw[bkL_len,List.length_append,List.length_cons] at this
    rw[byL_len]
    omega
  refine range_rule (ps:=rfP yp_k) e2 hs1 (gf:=66) (caps:=[(80,0)]) (enters_of Try.func66 rfl rfl) (fun pre=>ypT a pre) (fun s=>by rw[eG];cases s<;>rfl) ⟨_,rfl⟩ (bkL a a.length a.length) bkVals bkEnc
    (fun y z=>.cons ⟨rfl,0,rfl⟩ (.cons ⟨rfl,0,rfl⟩ .nil)) (fun z=>by rw[←Array.length_toList,eP];rfl) (fun pre p hp=>?_) (back_iter h0 h fun s=>by cases s<;>rfl) (fun pre z=>ypV a pre z)
    (fun pre z=>ypG a (byL (pre++[z]))) (fun pre z=>by cases pre<;>exact ⟨_,rfl⟩) (fun pre z hz w1 F1 K1 as1 Q1 l y b hs2 hQ=>?_) (fun pre z hz w1 F1 K1 as1 Q1 l y b hs2 hQ=>?_) fun D y hs2 hD hFD hd=>?_
  · rw[eP] at hp
    have h23:(ypT a pre).nt=25:=by cases pre<;>rfl
    rw[h23]
    simp only[List.mem_cons,List.not_mem_nil,or_false] at hp
    rcases hp with rfl | rfl<;>decide
  · rw[eP] at hs2
    cases pre with
    | nil=>exact ypA a z.1 z.2 trivial hs2 fun cZ aZ hs3=>⟨hQ _ _ (hs3.nx _)⟩
    | cons w r=>exact ypD a (byL (w::r)) z.1 z.2 trivial hs2 fun cZ aZ hs3=>⟨hQ _ _ (hs3.nx _)⟩
  · have hb:=small hz
    cases pre with
    | nil=>
      refine ypC a z.2 ?_ hs2 fun cZ aZ hs3=>⟨hQ _ _ ?_⟩
      · simp only[AllP,List.length_append,List.length_cons,List.length_nil,maxLen]
        clear hQ hs2 hs1 hs small e1 e2 eP eG hz
        and_intros<;>first | omega | exact True.intro | decide | rfl
      · exact hs3.nx _
    | cons w r=>
      have e3:=byL_app z (w::r)
      generalize hL:byL (w::r)=L at *
      have e4:L++by8 z.2=(((((((L++[(IntKind.wrap IntKind.u8 (Int.fdiv z.2 (72057594037927936:Int)))])++[(IntKind.wrap IntKind.u8 (Int.fdiv z.2 (281474976710656:Int)))])++[(IntKind.wrap IntKind.u8 (Int.fdiv z.2 (1099511627776:Int)))])++[(IntKind.wrap IntKind.u8 (Int.fdiv z.2 (4294967296:Int)))])++[(IntKind.wrap IntKind.u8 (Int.fdiv z.2 (16777216:Int)))])++[(IntKind.wrap IntKind.u8 (Int.fdiv z.2 (65536:Int)))])++[(IntKind.wrap IntKind.u8 (Int.fdiv z.2 (256:Int)))])++[(IntKind.wrap IntKind.u8 (Int.fdiv z.2 (1:Int)))]:=by
        simp only[List.append_assoc,List.cons_append,List.nil_append]
        rfl
      have e5:(List.length (((((((L++[(IntKind.wrap IntKind.u8 (Int.fdiv z.2 (72057594037927936:Int)))])++[(IntKind.wrap IntKind.u8 (Int.fdiv z.2 (281474976710656:Int)))])++[(IntKind.wrap IntKind.u8 (Int.fdiv z.2 (1099511627776:Int)))])++[(IntKind.wrap IntKind.u8 (Int.fdiv z.2 (4294967296:Int)))])++[(IntKind.wrap IntKind.u8 (Int.fdiv z.2 (16777216:Int)))])++[(IntKind.wrap IntKind.u8 (Int.fdiv z.2 (65536:Int)))])++[(IntKind.wrap IntKind.u8 (Int.fdiv z.2 (256:Int)))]))+1=(L++by8 z.2).length:=by
        rw[e4]
        simp only[List.length_append,List.length_cons,List.length_nil]
      have hs2' : Sim w1 F1 K1 as1 (ypE a L z.2) y b:=by rw[←hL];exact hs2
      refine ypF a L z.2 ?_ hs2' fun cZ aZ hs3=>⟨hQ _ _ ?_⟩
      · simp only[AllP,List.length_append,List.length_cons,List.length_nil,maxLen]
        clear hQ hs2 hs2' hs1 hs small e1 e2 eP eG hz e3 e4 e5
        and_intros<;>first | omega | exact True.intro | decide | rfl
      · rw[e5,←e4] at hs3
        rw[e3]
        exact hs3.nx _
  · obtain ⟨z,r,hx⟩:∃z r,bkL a a.length a.length=z::r:=by
      have hl:=bkL_len a a.length a.length
      cases hb:bkL a a.length a.length with
      | nil=>rw[hb] at hl;have hl:0=a.length:=hl;omega
      | cons z r=>exact ⟨z,r,rfl⟩
    have hs2' : Sim x.w x.F kAll ac (ypS a (byL (bkL a a.length a.length))) y aY:=by rw[hx] at hs2 ⊢;exact hs2
    generalize byL (bkL a a.length a.length)=o at hs2'
    have hs3:=hs2'.marked rfl rfl D
    refine ypX a o ⟨rfl,trivial⟩ hs3 fun cV aV hs6=>⟨?_⟩
    have hs7:Sim y.w y.F (kOwn y kAll (markOf D)) ac (ypZ (strOf o)) cV aV:=hs6
    exact fn_finish yB_ok hk hF (ypR_end (strOf o)) trivial (fun y v hd=>hd) hs2' hD hFD hd rfl hs7

end Go.Proofs.Ytcmkkanhddhgpaa

/- Points as bytes, walked. No conditions. -/
namespace Go.Proofs.Ytcmkkanhddhgpaa

def lim6 (x:U6):List Int:=[limb (Ob.n (Ob.fp x)) 0,limb (Ob.n (Ob.fp x)) 1,limb (Ob.n (Ob.fp x)) 2,limb (Ob.n (Ob.fp x)) 3,limb (Ob.n (Ob.fp x)) 4,limb (Ob.n (Ob.fp x)) 5]
/-- Is an element above its negative? -/
def hiP (x:Fp):Bool:=decide (cmpN (lim6 (outP x)) (lim6 (outP ((0:Fp)-x))) 6 > (0:Int))
theorem hi_fnd (x:Fp):FnD Try.prog 17 [.v (.a [.ob (.p x)])] (.v (.c (.bool (hiP x)))) []:=fn_sound yB_ok Try.func17 (yH1 x) ⟨rfl,by decide,trivial⟩
/-- A number's bytes. -/
noncomputable def putS (x:U6):ByteArray:=strOf (byL (bkL (lim6 (outP (inP x))) 6 6))
theorem strOf_size (l:List Int):(strOf l).size=l.length:=by
  rw[strOf_is]
  show (List.map (fun n=>UInt8.ofNat n.toNat) l).toArray.size=l.length
  simp
theorem putS_size (x:U6):(putS x).size=48:=by
  unfold putS
  rw[strOf_size,byL_len,bkL_len]
noncomputable def hiSpec:FnSpec
  | [.v (.a [.ob (.p x)])]=>some ([],.v (.c (.bool (hiP x))),[])
  | _=>none
noncomputable def yC1:Env:=yB.set (addT yB.fn 17 hiSpec)
theorem yC1_ok:EnvOk Try.prog yC1:=env_add yB_ok 17 hiSpec (enters_of Try.func17 rfl rfl) fun args o r es h _=>by
  unfold hiSpec at h
  split at h
  · cases h;exact hi_fnd _
  · cases h
noncomputable def cleanSpec:FnSpec
  | [.v (.a [.ob (.fp x)])]=>some ([],.v (.a [.ob (.fp (outP (inP x)))]),[])
  | _=>none
noncomputable def yC2:Env:=yC1.set (addT yC1.fn 33 cleanSpec)
theorem yC2_ok:EnvOk Try.prog yC2:=env_add yC1_ok 33 cleanSpec (enters_of Try.func33 rfl rfl) fun args o r es h _=>by
  unfold cleanSpec at h
  split at h
  · cases h;exact fn_sound yB_ok Try.func33 (yCl _) trivial
  · cases h
noncomputable def putSpec:FnSpec
  | [.v (.c (.sl (.u64 a)))]=>some ([0<a.length,a.length≤16],.v (.c (.val (.string (strOf (byL (bkL a a.length a.length)))))),[])
  | _=>none
noncomputable def yC:Env:=yC2.set (addT yC2.fn 34 putSpec)
theorem yC_ok:EnvOk Try.prog yC:=env_add yC2_ok 34 putSpec (enters_of Try.func34 rfl rfl) fun args o r es h ho=>by
  unfold putSpec at h
  split at h
  · cases h;exact put_fnd _ ho.1 ho.2.1
  · cases h
--@env yC yC_ok
theorem ypP (x:U6):fnRes yC Try.f15 3000 [.v (.a [.ob (.fp x)])] [] [] []=(some ([(0<6),(6≤16)],((.v (.c (.val (Value.string (strOf (byL (bkL [(limb (Ob.n (.fp (outP (inP x)))) 0),(limb (Ob.n (.fp (outP (inP x)))) 1),(limb (Ob.n (.fp (outP (inP x)))) 2),(limb (Ob.n (.fp (outP (inP x)))) 3),(limb (Ob.n (.fp (outP (inP x)))) 4),(limb (Ob.n (.fp (outP (inP x)))) 5)] 6 6))))))),[]))):=by kernel_rfl
theorem yhA (x y:Fp):fnRes yC Try.f22 3000 [.v (.a [.ob (.p x),.ob (.p y)])] [true] [] []=(some ([((decide (y=(0:Fp)))=true)],((.v (.c (.bool (hiP x)))),[]))):=by kernel_rfl
theorem yhB (x y:Fp):fnRes yC Try.f22 3000 [.v (.a [.ob (.p x),.ob (.p y)])] [false] [] []=(some ([((decide (y=(0:Fp)))=false)],((.v (.c (.bool (hiP y)))),[]))):=by kernel_rfl
/-- Is an element of the second field above its negative? -/
def hiQ (x y:Fp):Bool:=if y=0 then hiP x else hiP y
theorem hi2_fnd (x y:Fp):FnD Try.prog 22 [.v (.a [.ob (.p x),.ob (.p y)])] (.v (.c (.bool (hiQ x y)))) []:=by
  by_cases h:y=0
  · have e:hiQ x y=hiP x:=by unfold hiQ;rw[if_pos h]
    rw[e]
    exact fn_sound yC_ok Try.func22 (yhA x y) ⟨decide_eq_true h,trivial⟩
  · have e:hiQ x y=hiP y:=by unfold hiQ;rw[if_neg h]
    rw[e]
    exact fn_sound yC_ok Try.func22 (yhB x y) ⟨decide_eq_false h,trivial⟩
theorem put15_fnd (x:U6):FnD Try.prog 15 [.v (.a [.ob (.fp x)])] (.v (.c (.val (.string (putS x))))) []:=fn_sound yC_ok Try.func15 (ypP x) ⟨by decide,by decide,trivial⟩
theorem cat_size (s t:ByteArray):(catS s t).size=s.size+t.size:=by rw[catS_is,ByteArray.size_append]
theorem drop_size (s:ByteArray) (n:Nat):(dropS s n).size=s.size-n:=by rw[dropS_is,ByteArray.size_extract];omega
/-- Flags put into the first byte. -/
noncomputable def flagF (s:ByteArray) (f:Int):ByteArray:=catS (strOf [(bitsOp BinOp.or IntKind.u8 (((UInt8.toNat (List.getD (Array.toList (ByteArray.data s)) 0 (0:UInt8))):Nat):Int) f)]) (dropS s 1)
theorem flagF_size {s:ByteArray} (f:Int) (h:0<s.size):(flagF s f).size=s.size:=by
  unfold flagF
  rw[cat_size,strOf_size,drop_size]
  show 1+(s.size-1)=s.size
  omega
theorem flag_fnd (s:ByteArray) (f:Int) (h0:0<s.size) (h:s.size≤1152921504606846976):FnD Try.prog 32 [.v (.c (.val (.string s))),.v (.c (.int .u8 f))] (.v (.c (.val (.string (flagF s f))))) []:=by
  refine fn_sound yB_ok Try.func32 (yfl s f) ⟨by decide,by omega,rfl,by decide,by omega,?_,trivial⟩
  rw[strOf_size,drop_size]
  show 1+(s.size-1)≤1152921504606846976
  omega
noncomputable def put15Spec:FnSpec
  | [.v (.a [.ob (.fp x)])]=>some ([],.v (.c (.val (.string (putS x)))),[])
  | _=>none
noncomputable def yD1:Env:=yC.set (addT yC.fn 15 put15Spec)
theorem yD1_ok:EnvOk Try.prog yD1:=env_add yC_ok 15 put15Spec (enters_of Try.func15 rfl rfl) fun args o r es h _=>by
  unfold put15Spec at h
  split at h
  · cases h;exact put15_fnd _
  · cases h
noncomputable def hi2Spec:FnSpec
  | [.v (.a [.ob (.p x),.ob (.p y)])]=>some ([],.v (.c (.bool (hiQ x y))),[])
  | _=>none
noncomputable def yD2:Env:=yD1.set (addT yD1.fn 22 hi2Spec)
theorem yD2_ok:EnvOk Try.prog yD2:=env_add yD1_ok 22 hi2Spec (enters_of Try.func22 rfl rfl) fun args o r es h _=>by
  unfold hi2Spec at h
  split at h
  · cases h;exact hi2_fnd _ _
  · cases h
noncomputable def flagSpec:FnSpec
  | [.v (.c (.val (.string s))),.v (.c (.int .u8 f))]=>some ([0<s.size,s.size≤1152921504606846976],.v (.c (.val (.string (flagF s f)))),[])
  | _=>none
noncomputable def yD:Env:=yD2.set (addT yD2.fn 32 flagSpec)
theorem yD_ok:EnvOk Try.prog yD:=env_add yD2_ok 32 flagSpec (enters_of Try.func32 rfl rfl) fun args o r es h ho=>by
  unfold flagSpec at h
  split at h
  · cases h;exact flag_fnd _ _ ho.1 ho.2.1
  · cases h
--@env yD yD_ok
theorem yPr (x y:U6):fnRes yD Try.f20 3000 [.v (.a [.ob (.fp x),.ob (.fp y)])] [] [] []=(some ([(((ByteArray.size (putS y))+(ByteArray.size (putS x)))≤1152921504606846976)],((.v (.c (.val (Value.string (catS (putS y) (putS x)))))),[]))):=by kernel_rfl
theorem yWA (s t:ByteArray) (i h:Bool):fnRes yD Try.f14 3000 [.v (.c (.val (.string s))),.v (.c (.val (.string t))),.v (.c (.bool i)),.v (.c (.bool h)),.v (.c (.lit true))] [true,true] [] []=(some ([(i=true),(h=true),(0<(ByteArray.size s)),((ByteArray.size s)≤1152921504606846976)],((.v (.c (.val (Value.string (flagF s (224:Int)))))),[]))):=by kernel_rfl
theorem yWB (s t:ByteArray) (i h:Bool):fnRes yD Try.f14 3000 [.v (.c (.val (.string s))),.v (.c (.val (.string t))),.v (.c (.bool i)),.v (.c (.bool h)),.v (.c (.lit true))] [true,false] [] []=(some ([(i=true),(h=false),(0<(ByteArray.size s)),((ByteArray.size s)≤1152921504606846976)],((.v (.c (.val (Value.string (flagF s (192:Int)))))),[]))):=by kernel_rfl
theorem yWC (s t:ByteArray) (i h:Bool):fnRes yD Try.f14 3000 [.v (.c (.val (.string s))),.v (.c (.val (.string t))),.v (.c (.bool i)),.v (.c (.bool h)),.v (.c (.lit true))] [false,true] [] []=(some ([(i=false),(h=true),(0<(ByteArray.size s)),((ByteArray.size s)≤1152921504606846976)],((.v (.c (.val (Value.string (flagF s (160:Int)))))),[]))):=by kernel_rfl
theorem yWD (s t:ByteArray) (i h:Bool):fnRes yD Try.f14 3000 [.v (.c (.val (.string s))),.v (.c (.val (.string t))),.v (.c (.bool i)),.v (.c (.bool h)),.v (.c (.lit true))] [false,false] [] []=(some ([(i=false),(h=false),(0<(ByteArray.size s)),((ByteArray.size s)≤1152921504606846976)],((.v (.c (.val (Value.string (flagF s (128:Int)))))),[]))):=by kernel_rfl
end Go.Proofs.Ytcmkkanhddhgpaa

/- Points as bytes: Put1, Put2, walked. No conditions. -/
namespace Go.Proofs.Ytcmkkanhddhgpaa

/-- A point in short: its first coordinate's bytes, with flags. -/
noncomputable def wrF (s:ByteArray) (i h:Bool):ByteArray:=flagF s (if i=true then (if h=true then 224 else 192) else (if h=true then 160 else 128))
theorem wrF_size {s:ByteArray} (i h:Bool) (h0:0<s.size):(wrF s i h).size=s.size:=flagF_size _ h0
theorem write_fnd (s t:ByteArray) (i h:Bool) (h0:0<s.size) (h1:s.size≤1152921504606846976):FnD Try.prog 14 [.v (.c (.val (.string s))),.v (.c (.val (.string t))),.v (.c (.bool i)),.v (.c (.bool h)),.v (.c (.lit true))] (.v (.c (.val (.string (wrF s i h))))) []:=by
  cases i<;>cases h
  · exact fn_sound yD_ok Try.func14 (yWD s t false false) ⟨rfl,rfl,h0,h1,trivial⟩
  · exact fn_sound yD_ok Try.func14 (yWC s t false true) ⟨rfl,rfl,h0,h1,trivial⟩
  · exact fn_sound yD_ok Try.func14 (yWB s t true false) ⟨rfl,rfl,h0,h1,trivial⟩
  · exact fn_sound yD_ok Try.func14 (yWA s t true true) ⟨rfl,rfl,h0,h1,trivial⟩
theorem pair_fnd (x y:U6):FnD Try.prog 20 [.v (.a [.ob (.fp x),.ob (.fp y)])] (.v (.c (.val (.string (catS (putS y) (putS x)))))) []:=
  fn_sound yD_ok Try.func20 (yPr x y) ⟨by rw[putS_size,putS_size];decide,trivial⟩
noncomputable def writeSpec:FnSpec
  | [.v (.c (.val (.string s))),.v (.c (.val (.string _))),.v (.c (.bool i)),.v (.c (.bool h)),.v (.c (.lit true))]=>some ([0<s.size,s.size≤1152921504606846976],.v (.c (.val (.string (wrF s i h)))),[])
  | _=>none
noncomputable def yE1:Env:=yD.set (addT yD.fn 14 writeSpec)
theorem yE1_ok:EnvOk Try.prog yE1:=env_add yD_ok 14 writeSpec (enters_of Try.func14 rfl rfl) fun args o r es h ho=>by
  unfold writeSpec at h
  split at h
  · cases h;exact write_fnd _ _ _ _ ho.1 ho.2.1
  · cases h
noncomputable def pairSpec:FnSpec
  | [.v (.a [.ob (.fp x),.ob (.fp y)])]=>some ([],.v (.c (.val (.string (catS (putS y) (putS x))))),[])
  | _=>none
noncomputable def yE:Env:=yE1.set (addT yE1.fn 20 pairSpec)
theorem yE_ok:EnvOk Try.prog yE:=env_add yE1_ok 20 pairSpec (enters_of Try.func20 rfl rfl) fun args o r es h _=>by
  unfold pairSpec at h
  split at h
  · cases h;exact pair_fnd _ _
  · cases h
--@env yE yE_ok
theorem yQA (x y:U6) (i:Bool):fnRes yE Try.f9 3000 [.v (.a [.ob (.fp x),.ob (.fp y),.bool i]),.v (.c (.lit true))] [true] [] []=(some ([((Bool.not (onG (G1D.mk x y i)))=true)],((.t [(.c (.val (Value.string (ByteArray.mk (List.toArray ([]:List UInt8)))))),(.c (.int .i64 (30:Int)))]),[]))):=by kernel_rfl
theorem yQB (x y:U6) (i:Bool):fnRes yE Try.f9 3000 [.v (.a [.ob (.fp x),.ob (.fp y),.bool i]),.v (.c (.lit true))] [false,true] [] []=(some ([((Bool.not (onG (G1D.mk x y i)))=false),((Bool.not (gpG (G1D.mk x y i)))=true)],((.t [(.c (.val (Value.string (ByteArray.mk (List.toArray ([]:List UInt8)))))),(.c (.int .i64 (31:Int)))]),[]))):=by kernel_rfl
theorem yQC (x y:U6) (i:Bool):fnRes yE Try.f9 3000 [.v (.a [.ob (.fp x),.ob (.fp y),.bool i]),.v (.c (.lit true))] [false,false] [] []=(some ([((Bool.not (onG (G1D.mk x y i)))=false),((Bool.not (gpG (G1D.mk x y i)))=false),(0<(ByteArray.size (putS x))),((ByteArray.size (putS x))≤1152921504606846976)],((.t [(.c (.val (Value.string (wrF (putS x) i (hiP (inP y)))))),(.c (.int .i64 (0:Int)))]),[]))):=by kernel_rfl
theorem yQD (a b c d:U6) (i:Bool):fnRes yE Try.f10 3000 [.v (.a [.ob (.fp a),.ob (.fp b),.ob (.fp c),.ob (.fp d),.bool i]),.v (.c (.lit true))] [true] [] []=(some ([((Bool.not (onG2 (G2D.mk a b c d i)))=true)],((.t [(.c (.val (Value.string (ByteArray.mk (List.toArray ([]:List UInt8)))))),(.c (.int .i64 (30:Int)))]),[]))):=by kernel_rfl
theorem yQE (a b c d:U6) (i:Bool):fnRes yE Try.f10 3000 [.v (.a [.ob (.fp a),.ob (.fp b),.ob (.fp c),.ob (.fp d),.bool i]),.v (.c (.lit true))] [false,true] [] []=(some ([((Bool.not (onG2 (G2D.mk a b c d i)))=false),((Bool.not (gpG2 (G2D.mk a b c d i)))=true)],((.t [(.c (.val (Value.string (ByteArray.mk (List.toArray ([]:List UInt8)))))),(.c (.int .i64 (31:Int)))]),[]))):=by kernel_rfl
theorem yQF (a b c d:U6) (i:Bool):fnRes yE Try.f10 3000 [.v (.a [.ob (.fp a),.ob (.fp b),.ob (.fp c),.ob (.fp d),.bool i]),.v (.c (.lit true))] [false,false] [] []=(some ([((Bool.not (onG2 (G2D.mk a b c d i)))=false),((Bool.not (gpG2 (G2D.mk a b c d i)))=false),(0<(ByteArray.size (catS (putS b) (putS a)))),((ByteArray.size (catS (putS b) (putS a)))≤1152921504606846976)],((.t [(.c (.val (Value.string (wrF (catS (putS b) (putS a)) i (hiQ (Prod.fst (inP2 c d)) (Prod.snd (inP2 c d))))))),(.c (.int .i64 (0:Int)))]),[]))):=by kernel_rfl
end Go.Proofs.Ytcmkkanhddhgpaa

/- setup.Put, walked. No conditions. -/
namespace Go.Proofs.Ytcmkkanhddhgpaa

/-- What Put1 and Put2 tell. -/
noncomputable def p1R (a:G1D):ByteArray×Int:=if onG a=true then (if gpG a=true then (wrF (putS a.x) a.inf (hiP (inP a.y)),0) else (ByteArray.empty,31)) else (ByteArray.empty,30)
noncomputable def p2R (a:G2D):ByteArray×Int:=if onG2 a=true then (if gpG2 a=true then (wrF (catS (putS a.xb) (putS a.xa)) a.inf (hiQ (inP2 a.ya a.yb).1 (inP2 a.ya a.yb).2),0) else (ByteArray.empty,31)) else (ByteArray.empty,30)
theorem p1_fnd (x y:U6) (i:Bool):FnD Try.prog 9 [.v (.a [.ob (.fp x),.ob (.fp y),.bool i]),.v (.c (.lit true))] (.t [.c (.val (.string (p1R ⟨x,y,i⟩).1)),.c (.int .i64 (p1R ⟨x,y,i⟩).2)]) []:=by
  by_cases h1:onG ⟨x,y,i⟩=true
  · by_cases h2:gpG ⟨x,y,i⟩=true
    · have e:p1R ⟨x,y,i⟩=(wrF (putS x) i (hiP (inP y)),0):=by unfold p1R;rw[if_pos h1,if_pos h2]
      rw[e]
      exact fn_sound yE_ok Try.func9 (yQC x y i) ⟨by rw[h1];rfl,by rw[h2];rfl,by rw[putS_size];decide,by rw[putS_size];decide,trivial⟩
    · have e:p1R ⟨x,y,i⟩=(ByteArray.empty,31):=by unfold p1R;rw[if_pos h1,if_neg h2]
      rw[e]
      exact fn_sound yE_ok Try.func9 (yQB x y i) ⟨by rw[h1];rfl,by rw[Bool.not_eq_true] at h2;rw[h2];rfl,trivial⟩
  · have e:p1R ⟨x,y,i⟩=(ByteArray.empty,30):=by unfold p1R;rw[if_neg h1]
    rw[e]
    exact fn_sound yE_ok Try.func9 (yQA x y i) ⟨by rw[Bool.not_eq_true] at h1;rw[h1];rfl,trivial⟩
theorem p2_fnd (a b c d:U6) (i:Bool):FnD Try.prog 10 [.v (.a [.ob (.fp a),.ob (.fp b),.ob (.fp c),.ob (.fp d),.bool i]),.v (.c (.lit true))] (.t [.c (.val (.string (p2R ⟨a,b,c,d,i⟩).1)),.c (.int .i64 (p2R ⟨a,b,c,d,i⟩).2)]) []:=by
  by_cases h1:onG2 ⟨a,b,c,d,i⟩=true
  · by_cases h2:gpG2 ⟨a,b,c,d,i⟩=true
    · have e:p2R ⟨a,b,c,d,i⟩=(wrF (catS (putS b) (putS a)) i (hiQ (inP2 c d).1 (inP2 c d).2),0):=by unfold p2R;rw[if_pos h1,if_pos h2]
      rw[e]
      exact fn_sound yE_ok Try.func10 (yQF a b c d i) ⟨by rw[h1];rfl,by rw[h2];rfl,by rw[cat_size,putS_size,putS_size];decide,by rw[cat_size,putS_size,putS_size];decide,trivial⟩
    · have e:p2R ⟨a,b,c,d,i⟩=(ByteArray.empty,31):=by unfold p2R;rw[if_pos h1,if_neg h2]
      rw[e]
      exact fn_sound yE_ok Try.func10 (yQE a b c d i) ⟨by rw[h1];rfl,by rw[Bool.not_eq_true] at h2;rw[h2];rfl,trivial⟩
  · have e:p2R ⟨a,b,c,d,i⟩=(ByteArray.empty,30):=by unfold p2R;rw[if_neg h1]
    rw[e]
    exact fn_sound yE_ok Try.func10 (yQD a b c d i) ⟨by rw[Bool.not_eq_true] at h1;rw[h1];rfl,trivial⟩
noncomputable def p1Spec:FnSpec
  | [.v (.a [.ob (.fp x),.ob (.fp y),.bool i]),.v (.c (.lit true))]=>some ([],.t [.c (.val (.string (p1R ⟨x,y,i⟩).1)),.c (.int .i64 (p1R ⟨x,y,i⟩).2)],[])
  | _=>none
noncomputable def yF1:Env:=yE.set (addT yE.fn 9 p1Spec)
theorem yF1_ok:EnvOk Try.prog yF1:=env_add yE_ok 9 p1Spec (enters_of Try.func9 rfl rfl) fun args o r es h _=>by
  unfold p1Spec at h
  split at h
  · cases h;exact p1_fnd _ _ _
  · cases h
noncomputable def p2Spec:FnSpec
  | [.v (.a [.ob (.fp a),.ob (.fp b),.ob (.fp c),.ob (.fp d),.bool i]),.v (.c (.lit true))]=>some ([],.t [.c (.val (.string (p2R ⟨a,b,c,d,i⟩).1)),.c (.int .i64 (p2R ⟨a,b,c,d,i⟩).2)],[])
  | _=>none
noncomputable def yF:Env:=yF1.set (addT yF1.fn 10 p2Spec)
theorem yF_ok:EnvOk Try.prog yF:=env_add yF1_ok 10 p2Spec (enters_of Try.func10 rfl rfl) fun args o r es h _=>by
  unfold p2Spec at h
  split at h
  · cases h;exact p2_fnd _ _ _ _ _
  · cases h
--@env yF yF_ok
theorem y6 (x y:U6) (i:Bool):fnRes yF Try.f6 3000 [.v (.a [.ob (.fp x),.ob (.fp y),.bool i])] [] [] []=(some ([],((.t [(.c (.val (Value.string (Prod.fst (p1R (G1D.mk x y i)))))),(.c (.int .i64 (Prod.snd (p1R (G1D.mk x y i)))))]),[]))):=by kernel_rfl
theorem y7 (a b c d:U6) (i:Bool):fnRes yF Try.f7 3000 [.v (.a [.ob (.fp a),.ob (.fp b),.ob (.fp c),.ob (.fp d),.bool i])] [] [] []=(some ([],((.t [(.c (.val (Value.string (Prod.fst (p2R (G2D.mk a b c d i)))))),(.c (.int .i64 (Prod.snd (p2R (G2D.mk a b c d i)))))]),[]))):=by kernel_rfl
--@unroll true
theorem y5  : fnRes yF Try.f5 3000 [] [false,false,false,false,false,false,false,true] [] []=(some ([((decide ((0:Int) > (4096:Int)))=false),((decide ((0:Int)<(0:Int)))=false),((decide ((0:Int) > (0:Int)))=false),((decide ((0:Int)<(0:Int)))=false),((decide ((0:Int)<(0:Int)))=false),((Bool.not (Bool.not (decide ((-(1:Int)) ≥ (0:Int)))))=false),((0:Int)≤(1:Int)),((decide ((2:Int)<(0:Int)))=false),(((0:Int) == (0:Int))=true)],((.v (.c (.bool ((1:Int) == (1:Int))))),[]))):=by kernel_rfl
--@unroll false
noncomputable def put1Spec:FnSpec
  | [.v (.a [.ob (.fp x),.ob (.fp y),.bool i])]=>some ([],.t [.c (.val (.string (p1R ⟨x,y,i⟩).1)),.c (.int .i64 (p1R ⟨x,y,i⟩).2)],[])
  | _=>none
noncomputable def yG1:Env:=yF.set (addT yF.fn 6 put1Spec)
theorem yG1_ok:EnvOk Try.prog yG1:=env_add yF_ok 6 put1Spec (enters_of Try.func6 rfl rfl) fun args o r es h _=>by
  unfold put1Spec at h
  split at h
  · cases h;exact fn_sound yF_ok Try.func6 (y6 _ _ _) trivial
  · cases h
noncomputable def put2Spec:FnSpec
  | [.v (.a [.ob (.fp a),.ob (.fp b),.ob (.fp c),.ob (.fp d),.bool i])]=>some ([],.t [.c (.val (.string (p2R ⟨a,b,c,d,i⟩).1)),.c (.int .i64 (p2R ⟨a,b,c,d,i⟩).2)],[])
  | _=>none
noncomputable def yG:Env:=yG1.set (addT yG1.fn 7 put2Spec)
theorem yG_ok:EnvOk Try.prog yG:=env_add yG1_ok 7 put2Spec (enters_of Try.func7 rfl rfl) fun args o r es h _=>by
  unfold put2Spec at h
  split at h
  · cases h;exact fn_sound yF_ok Try.func7 (y7 _ _ _ _ _) trivial
  · cases h
instance:Inhabited G2D:=⟨g20⟩
--@env yG yG_ok
def g1I (a:G1D):List It:=[.ob (.fp a.x),.ob (.fp a.y),.bool a.inf]
def verI (n p:Int) (q0 q1 q2 q3 q4 s0 s1 s2:G1D) (h:G2D):List It:=.int .i64 n :: .int .i64 p::(g1I q0++g1I q1++g1I q2++g1I q3++g1I q4++g1I s0++g1I s1++g1I s2++[.ob (.fp h.xa),.ob (.fp h.xb),.ob (.fp h.ya),.ob (.fp h.yb),.bool h.inf])
theorem ysA (n p:Int) (q0 q1 q2 q3 q4 s0 s1 s2:G1D) (h:G2D):fnRes yG Try.f4 3000 [.v (.a (verI n p q0 q1 q2 q3 q4 s0 s1 s2 h))] [true,true,true] [] []=(some ([((decide (n<(0:Int)))=true)],((.t [(.c (.val (Value.string (ByteArray.mk (List.toArray ([]:List UInt8)))))),(.c (.int .i64 (1:Int)))]),[]))):=by kernel_rfl
theorem ysB (n p:Int) (q0 q1 q2 q3 q4 s0 s1 s2:G1D) (h:G2D):fnRes yG Try.f4 3000 [.v (.a (verI n p q0 q1 q2 q3 q4 s0 s1 s2 h))] [false,true,true] [] []=(some ([((decide (n<(0:Int)))=false),((decide (n > (255:Int)))=true)],((.t [(.c (.val (Value.string (ByteArray.mk (List.toArray ([]:List UInt8)))))),(.c (.int .i64 (1:Int)))]),[]))):=by kernel_rfl
theorem ysC (n p:Int) (q0 q1 q2 q3 q4 s0 s1 s2:G1D) (h:G2D):fnRes yG Try.f4 3000 [.v (.a (verI n p q0 q1 q2 q3 q4 s0 s1 s2 h))] [false,false,true] [] []=(some ([((decide (n<(0:Int)))=false),((decide (n > (255:Int)))=false),((decide (p<(0:Int)))=true)],((.t [(.c (.val (Value.string (ByteArray.mk (List.toArray ([]:List UInt8)))))),(.c (.int .i64 (1:Int)))]),[]))):=by kernel_rfl
theorem ysD (n p:Int) (q0 q1 q2 q3 q4 s0 s1 s2:G1D) (h:G2D):fnRes yG Try.f4 3000 [.v (.a (verI n p q0 q1 q2 q3 q4 s0 s1 s2 h))] [false,false,false,true] [] []=(some ([((decide (n<(0:Int)))=false),((decide (n > (255:Int)))=false),((decide (p<(0:Int)))=false),((decide (p > (255:Int)))=true)],((.t [(.c (.val (Value.string (ByteArray.mk (List.toArray ([]:List UInt8)))))),(.c (.int .i64 (1:Int)))]),[]))):=by kernel_rfl
end Go.Proofs.Ytcmkkanhddhgpaa

/- setup.Put, its loop, walked. No conditions. -/
namespace Go.Proofs.Ytcmkkanhddhgpaa
section
variable {w0:World} {F0:Nat→Prop} {K:Kp} {ac:List Act} {Q:Exit→Act→World→Prop} {cX:Ctx} {aX:Act}

instance:Inhabited G1D:=⟨g10⟩
/-- What Put tells: points joined, then all. -/
noncomputable def joinP (s:ByteArray):List G1D→ByteArray×Int
  | []=>(s,0)
  | a::l=>if (p1R a).2=0 then joinP (catS s (p1R a).1) l else (ByteArray.empty,(p1R a).2)
noncomputable def endP (s:ByteArray×Int) (h:G2D):ByteArray×Int:=if s.2=0 then (if (p2R h).2=0 then (catS s.1 (p2R h).1,0) else (ByteArray.empty,(p2R h).2)) else s
noncomputable def putR (n p:Int) (l:List G1D) (h:G2D):ByteArray×Int:=if 0≤n∧n≤255∧0≤p∧p≤255 then endP (joinP (strOf [IntKind.wrap .u8 n,IntKind.wrap .u8 p]) l) h else (ByteArray.empty,1)
--@env yG yG_ok
noncomputable def ys_k:List KI:=(run yG false 3000 ((fun (n p:Int) (q0 q1 q2 q3 q4 s0 s1 s2:G1D) (h:G2D)=>(⟨[.code (bodyOf Try.f4)],.normal,initSt Try.f4.ntmps [.v (.a (verI n p q0 q1 q2 q3 q4 s0 s1 s2 h))]⟩:Cfg)) default default default default default default default default default default default) [false,false,false,false]).cfg.k
theorem ys_hk (n p:Int) (q0 q1 q2 q3 q4 s0 s1 s2:G1D) (h:G2D):(run yG false 3000 ((⟨[.code (bodyOf Try.f4)],.normal,initSt Try.f4.ntmps [.v (.a (verI n p q0 q1 q2 q3 q4 s0 s1 s2 h))]⟩:Cfg)) [false,false,false,false]).cfg.k=ys_k:=by kernel_rfl
theorem ys (n p:Int) (q0 q1 q2 q3 q4 s0 s1 s2:G1D) (h:G2D) (ho:AllP [((decide (n<(0:Int)))=false),((decide (n > (255:Int)))=false),((decide (p<(0:Int)))=false),((decide (p > (255:Int)))=false),(2=(List.length ([(IntKind.wrap .u8 n)]++[(IntKind.wrap .u8 p)]))),(((5+(List.length (([s0]++[s1])++[s2])))*104)≤140737488355328),((5+(List.length (([s0]++[s1])++[s2])))≤maxLen),(0<(List.length (([s0]++[s1])++[s2])))]) (hs:Sim w0 F0 K ac (initSt Try.f4.ntmps [.v (.a (verI n p q0 q1 q2 q3 q4 s0 s1 s2 h))]) cX aX) (hK:∀ac cY aY,Sim w0 F0 K ac (mkSt 71 [1,4,41,42,43] [.pt 16 0,(.v (.c (.val (Value.string (strOf ([(IntKind.wrap .u8 n)]++[(IntKind.wrap .u8 p)])))))),(.v (.c (.slc 560 0 8 13))),(.ii (((5+(List.length (([s0]++[s1])++[s2]))):Nat):Int)),.ii (0:Int)] [16,560] [(some (.fl [(.int .i64 n),(.int .i64 p),(.ob (.fp (G1D.x q0))),(.ob (.fp (G1D.y q0))),(.bool (G1D.inf q0)),(.ob (.fp (G1D.x q1))),(.ob (.fp (G1D.y q1))),(.bool (G1D.inf q1)),(.ob (.fp (G1D.x q2))),(.ob (.fp (G1D.y q2))),(.bool (G1D.inf q2)),(.ob (.fp (G1D.x q3))),(.ob (.fp (G1D.y q3))),(.bool (G1D.inf q3)),(.ob (.fp (G1D.x q4))),(.ob (.fp (G1D.y q4))),(.bool (G1D.inf q4)),(.ob (.fp (G1D.x s0))),(.ob (.fp (G1D.y s0))),(.bool (G1D.inf s0)),(.ob (.fp (G1D.x s1))),(.ob (.fp (G1D.y s1))),(.bool (G1D.inf s1)),(.ob (.fp (G1D.x s2))),(.ob (.fp (G1D.y s2))),(.bool (G1D.inf s2)),(.ob (.fp (G2D.xa h))),(.ob (.fp (G2D.xb h))),(.ob (.fp (G2D.ya h))),(.ob (.fp (G2D.yb h))),(.bool (G2D.inf h))])),(some (.sq (Sq.g1 [(G1D.mk (G1D.x q0) (G1D.y q0) (G1D.inf q0)),(G1D.mk (G1D.x q1) (G1D.y q1) (G1D.inf q1)),(G1D.mk (G1D.x q2) (G1D.y q2) (G1D.inf q2)),(G1D.mk (G1D.x q3) (G1D.y q3) (G1D.inf q3)),(G1D.mk (G1D.x q4) (G1D.y q4) (G1D.inf q4)),(G1D.mk (G1D.x s0) (G1D.y s0) (G1D.inf s0)),(G1D.mk (G1D.x s1) (G1D.y s1) (G1D.inf s1)),(G1D.mk (G1D.x s2) (G1D.y s2) (G1D.inf s2))])))] 608 [] []) cY aY→Wq Try.prog Q (ys_k) ac Exit.normal aY cY.w):Wq Try.prog Q ([.code (bodyOf Try.f4)]) ac .normal aX cX.w:=
  run_at2 (o:=⟨_,_,_,_,_,_,_⟩) yG_ok (by kernel_rfl) (ys_hk n p q0 q1 q2 q3 q4 s0 s1 s2 h) ho hs hK
noncomputable def ysS (n p:Int) (q0 q1 q2 q3 q4 s0 s1 s2:G1D) (h:G2D) (L:List G1D) (out:ByteArray) (i:Int):St:=mkSt 71 [1,4,41,42,43] [.pt 16 0,.v (.c (.val (.string out))),(.v (.c (.slc 560 0 8 13))),.v (.c (.int .i64 8)),.v (.c (.int .i64 i))] [16,560] [(some (.fl [(.int .i64 n),(.int .i64 p),(.ob (.fp (G1D.x q0))),(.ob (.fp (G1D.y q0))),(.bool (G1D.inf q0)),(.ob (.fp (G1D.x q1))),(.ob (.fp (G1D.y q1))),(.bool (G1D.inf q1)),(.ob (.fp (G1D.x q2))),(.ob (.fp (G1D.y q2))),(.bool (G1D.inf q2)),(.ob (.fp (G1D.x q3))),(.ob (.fp (G1D.y q3))),(.bool (G1D.inf q3)),(.ob (.fp (G1D.x q4))),(.ob (.fp (G1D.y q4))),(.bool (G1D.inf q4)),(.ob (.fp (G1D.x s0))),(.ob (.fp (G1D.y s0))),(.bool (G1D.inf s0)),(.ob (.fp (G1D.x s1))),(.ob (.fp (G1D.y s1))),(.bool (G1D.inf s1)),(.ob (.fp (G1D.x s2))),(.ob (.fp (G1D.y s2))),(.bool (G1D.inf s2)),(.ob (.fp (G2D.xa h))),(.ob (.fp (G2D.xb h))),(.ob (.fp (G2D.ya h))),(.ob (.fp (G2D.yb h))),(.bool (G2D.inf h))])),some (.sq (.g1 L))] 608 [] []
theorem ysE_hk (n p:Int) (q0 q1 q2 q3 q4 s0 s1 s2:G1D) (h:G2D) (L:List G1D) (out:ByteArray) (i:Int):(run yG false 3000 ((⟨lpIn ys_k,.normal,ysS n p q0 q1 q2 q3 q4 s0 s1 s2 h L out i⟩:Cfg)) [true,false]).cfg.k=lpBk ys_k:=by kernel_rfl
theorem ysE (n p:Int) (q0 q1 q2 q3 q4 s0 s1 s2:G1D) (h:G2D) (L:List G1D) (out:ByteArray) (i:Int) (ho:AllP [((decide (i<(8:Int)))=true),((0:Int)≤i),(i<(8:Int)),(0=0),((i).toNat<(List.length L)),(((Prod.snd (p1R (List.getD L (i).toNat g10))) != (0:Int))=false),(((ByteArray.size out)+(ByteArray.size (Prod.fst (p1R (List.getD L (i).toNat g10)))))≤1152921504606846976)]) (hs:Sim w0 F0 K ac (ysS n p q0 q1 q2 q3 q4 s0 s1 s2 h L out i) cX aX) (hK:∀ac cY aY,Sim w0 F0 K ac (mkSt 71 [1,4,41,42,43] [.pt 16 0,(.v (.c (.val (Value.string (catS out (Prod.fst (p1R (List.getD L (i).toNat g10)))))))),(.v (.c (.slc 560 0 8 13))),.ii (8:Int),(.ii (IntKind.wrap .i64 (i+(1:Int))))] [16,560] [(some (.fl [(.int .i64 n),(.int .i64 p),(.ob (.fp (G1D.x q0))),(.ob (.fp (G1D.y q0))),(.bool (G1D.inf q0)),(.ob (.fp (G1D.x q1))),(.ob (.fp (G1D.y q1))),(.bool (G1D.inf q1)),(.ob (.fp (G1D.x q2))),(.ob (.fp (G1D.y q2))),(.bool (G1D.inf q2)),(.ob (.fp (G1D.x q3))),(.ob (.fp (G1D.y q3))),(.bool (G1D.inf q3)),(.ob (.fp (G1D.x q4))),(.ob (.fp (G1D.y q4))),(.bool (G1D.inf q4)),(.ob (.fp (G1D.x s0))),(.ob (.fp (G1D.y s0))),(.bool (G1D.inf s0)),(.ob (.fp (G1D.x s1))),(.ob (.fp (G1D.y s1))),(.bool (G1D.inf s1)),(.ob (.fp (G1D.x s2))),(.ob (.fp (G1D.y s2))),(.bool (G1D.inf s2)),(.ob (.fp (G2D.xa h))),(.ob (.fp (G2D.xb h))),(.ob (.fp (G2D.ya h))),(.ob (.fp (G2D.yb h))),(.bool (G2D.inf h))])),(some (.sq (Sq.g1 L)))] 928 [] []) cY aY→Wq Try.prog Q (lpBk ys_k) ac Exit.normal aY cY.w):Wq Try.prog Q (lpIn ys_k) ac .normal aX cX.w:=
  run_at2 (o:=⟨_,_,_,_,_,_,_⟩) yG_ok (by kernel_rfl) (ysE_hk n p q0 q1 q2 q3 q4 s0 s1 s2 h L out i) ho hs hK
theorem ysF_end (n p:Int) (q0 q1 q2 q3 q4 s0 s1 s2:G1D) (h:G2D) (L:List G1D) (out:ByteArray) (i:Int):runEnd yG Try.f4 false 3000 (⟨lpIn ys_k,.normal,ysS n p q0 q1 q2 q3 q4 s0 s1 s2 h L out i⟩) [true,true] [] []=(some ([((decide (i<(8:Int)))=true),((0:Int)≤i),(i<(8:Int)),(0=0),((i).toNat<(List.length L)),(((Prod.snd (p1R (List.getD L (i).toNat g10))) != (0:Int))=true)],((.t [(.c (.val (Value.string (ByteArray.mk (List.toArray ([]:List UInt8)))))),(.c (.int .i64 (Prod.snd (p1R (List.getD L (i).toNat g10)))))]),[]))):=by kernel_rfl
theorem ysG_end (n p:Int) (q0 q1 q2 q3 q4 s0 s1 s2:G1D) (h:G2D) (L:List G1D) (out:ByteArray) (i:Int):runEnd yG Try.f4 false 3000 (⟨lpIn ys_k,.normal,ysS n p q0 q1 q2 q3 q4 s0 s1 s2 h L out i⟩) [false,true] [] []=(some ([((decide (i<(8:Int)))=false),(((Prod.snd (p2R h)) != (0:Int))=true)],((.t [(.c (.val (Value.string (ByteArray.mk (List.toArray ([]:List UInt8)))))),(.c (.int .i64 (Prod.snd (p2R h))))]),[]))):=by kernel_rfl
theorem ysH_end (n p:Int) (q0 q1 q2 q3 q4 s0 s1 s2:G1D) (h:G2D) (L:List G1D) (out:ByteArray) (i:Int):runEnd yG Try.f4 false 3000 (⟨lpIn ys_k,.normal,ysS n p q0 q1 q2 q3 q4 s0 s1 s2 h L out i⟩) [false,false] [] []=(some ([((decide (i<(8:Int)))=false),(((Prod.snd (p2R h)) != (0:Int))=false),(((ByteArray.size out)+(ByteArray.size (Prod.fst (p2R h))))≤1152921504606846976)],((.t [(.c (.val (Value.string (catS out (Prod.fst (p2R h)))))),(.c (.int .i64 (0:Int)))]),[]))):=by kernel_rfl
end
end Go.Proofs.Ytcmkkanhddhgpaa

/- setup.Put: contract. No conditions. -/
namespace Go.Proofs.Ytcmkkanhddhgpaa

theorem p1R_size {a:G1D} (h:(p1R a).2=0):(p1R a).1.size=48:=by
  unfold p1R at h ⊢
  split at h
  · rename_i h1
    split at h
    · rename_i h2
      rw[if_pos h1,if_pos h2]
      show (wrF (putS a.x) a.inf (hiP (inP a.y))).size=48
      rw[wrF_size _ _ (by rw[putS_size];decide),putS_size]
    · cases h
  · cases h
theorem p2R_size {a:G2D} (h:(p2R a).2=0):(p2R a).1.size=96:=by
  unfold p2R at h ⊢
  split at h
  · rename_i h1
    split at h
    · rename_i h2
      rw[if_pos h1,if_pos h2]
      show (wrF (catS (putS a.xb) (putS a.xa)) a.inf _).size=96
      rw[wrF_size _ _ (by rw[cat_size,putS_size,putS_size];decide),cat_size,putS_size,putS_size]
    · cases h
  · cases h
theorem ne_f {a:Int} (h:a=0):(a != (0:Int))=false:=by rw[h];rfl
theorem ne_t {a:Int} (h:¬a=0):(a != (0:Int))=true:=bne_iff_ne.2 h
theorem drop_get (L:List G1D) {i:Nat} (h:i<L.length):L.drop i=L.getD i g10::L.drop (i+1):=by
  rw[List.drop_eq_getElem_cons h,List.getD_eq_getElem?_getD,List.getElem?_eq_getElem h,Option.getD_some]

theorem putV_fnd (n p:Int) (q0 q1 q2 q3 q4 s0 s1 s2:G1D) (h:G2D):FnD Try.prog 4 [.v (.a (verI n p q0 q1 q2 q3 q4 s0 s1 s2 h))] (.t [.c (.val (.string (putR n p [q0,q1,q2,q3,q4,s0,s1,s2] h).1)),.c (.int .i64 (putR n p [q0,q1,q2,q3,q4,s0,s1,s2] h).2)]) []:=by
  have bad:¬(0≤n∧n≤255∧0≤p∧p≤255)→putR n p [q0,q1,q2,q3,q4,s0,s1,s2] h=(ByteArray.empty,1):=fun hc=>by unfold putR;rw[if_neg hc]
  by_cases c1:n<0
  · rw[bad (by omega)]
    exact fn_sound yG_ok Try.func4 (ysA n p q0 q1 q2 q3 q4 s0 s1 s2 h) ⟨decide_eq_true c1,trivial⟩
  by_cases c2:n > 255
  · rw[bad (by omega)]
    exact fn_sound yG_ok Try.func4 (ysB n p q0 q1 q2 q3 q4 s0 s1 s2 h) ⟨decide_eq_false c1,decide_eq_true c2,trivial⟩
  by_cases c3:p<0
  · rw[bad (by omega)]
    exact fn_sound yG_ok Try.func4 (ysC n p q0 q1 q2 q3 q4 s0 s1 s2 h) ⟨decide_eq_false c1,decide_eq_false c2,decide_eq_true c3,trivial⟩
  by_cases c4:p > 255
  · rw[bad (by omega)]
    exact fn_sound yG_ok Try.func4 (ysD n p q0 q1 q2 q3 q4 s0 s1 s2 h) ⟨decide_eq_false c1,decide_eq_false c2,decide_eq_false c3,decide_eq_true c4,trivial⟩
  have e0:putR n p [q0,q1,q2,q3,q4,s0,s1,s2] h=endP (joinP (strOf [IntKind.wrap .u8 n,IntKind.wrap .u8 p]) [q0,q1,q2,q3,q4,s0,s1,s2]) h:=by
    unfold putR
    rw[if_pos (by omega)]
  rw[e0]
  refine fn_start (fn:=Try.f4) (c:=bodyOf Try.f4) Try.func4 rfl rfl fun x0 a0 hk hF hs0=>?_
  refine ys n p q0 q1 q2 q3 q4 s0 s1 s2 h ⟨decide_eq_false c1,decide_eq_false c2,decide_eq_false c3,decide_eq_false c4,rfl,by show (5+3)*104≤140737488355328;decide,by show 5+3≤maxLen;decide,by show 0<3;decide,trivial⟩ hs0 fun ac cY aY hs1=>?_
  obtain ⟨L,hL⟩:∃L,L=[q0,q1,q2,q3,q4,s0,s1,s2]:=⟨_,rfl⟩
  have hl:L.length=8:=by rw[hL];rfl
  have hs2:Sim x0.w x0.F kAll ac (ysS n p q0 q1 q2 q3 q4 s0 s1 s2 h L (strOf [IntKind.wrap .u8 n,IntKind.wrap .u8 p]) ((0:Nat):Int)) cY aY:=by
    rw[hL]
    exact hs1.nx _
  rw[←hL]
  clear hs1 hL e0 bad
  have z0:=strOf_size [IntKind.wrap .u8 n,IntKind.wrap .u8 p]
  generalize strOf [IntKind.wrap .u8 n,IntKind.wrap .u8 p]=z at *
  refine loop_rule (ι:={ s:Nat×ByteArray // s.1≤8∧s.2.size=2+48*s.1∧endP (joinP s.2 (L.drop s.1)) h=endP (joinP z L) h }) (fun s=>ysS n p q0 q1 q2 q3 q4 s0 s1 s2 h L s.1.2 (s.1.1:Int)) (fun s=>8-s.1.1) (c:=lpC ys_k) (k:=lpR ys_k) (by kernel_rfl) (fun s ih ac cY aY hs=>?_) ⟨(0,z),Nat.zero_le _,z0,rfl⟩ hs2
  obtain ⟨⟨i,out⟩,hi,ho,he⟩:=s
  simp only at ih hs hi ho he
  rw[←he]
  by_cases g:i<8
  · have g1:decide ((i:Int)<(8:Int))=true:=decide_eq_true (by omega)
    rw[drop_get L (by omega)] at he ⊢
    by_cases f:(p1R (L.getD i g10)).2=0
    · have e1:joinP out (L.getD i g10::L.drop (i+1))=joinP (catS out (p1R (L.getD i g10)).1) (L.drop (i+1)):=by simp only[joinP,if_pos f]
      have z1:=p1R_size f
      rw[e1] at he ⊢
      refine ysE n p q0 q1 q2 q3 q4 s0 s1 s2 h L out i ⟨g1,by omega,by omega,rfl,by rw[Int.toNat_natCast];omega,by rw[Int.toNat_natCast];exact ne_f f,by rw[Int.toNat_natCast];omega,trivial⟩ hs fun ac cU aU hs2=>?_
      rw[wrap_id (by omega) (by omega),Int.toNat_natCast] at hs2
      rw[he]
      exact ih ⟨(i+1,_),by show i+1≤8;omega,by show (catS out (p1R (L.getD i g10)).1).size=2+48*(i+1);rw[cat_size];omega,he⟩ (by show 8-(i+1)<8-i;omega) ac cU aU (hs2.nx _)
    · have e1:endP (joinP out (L.getD i g10::L.drop (i+1))) h=(ByteArray.empty,(p1R (L.getD i g10)).2):=by
        have:joinP out (L.getD i g10::L.drop (i+1))=(ByteArray.empty,(p1R (L.getD i g10)).2):=by simp only[joinP,if_neg f]
        rw[this]
        unfold endP
        rw[if_neg f]
      rw[e1]
      exact run_end2 yG_ok hk hF (ysF_end n p q0 q1 q2 q3 q4 s0 s1 s2 h L out i) ⟨g1,by omega,by omega,rfl,by rw[Int.toNat_natCast];omega,by rw[Int.toNat_natCast];exact ne_t f,trivial⟩ (fun y v hd=>by rw[Int.toNat_natCast] at hd;exact hd) hs
  · have g1:decide ((i:Int)<(8:Int))=false:=decide_eq_false (by omega)
    have e1:L.drop i=[]:=List.drop_eq_nil_of_le (by omega)
    have e2:joinP out []=(out,0):=rfl
    rw[e1,e2] at he ⊢
    by_cases f:(p2R h).2=0
    · have e3:endP (out,0) h=(catS out (p2R h).1,0):=by
        unfold endP
        rw[if_pos rfl,if_pos f]
      have z1:=p2R_size f
      rw[e3]
      exact run_end2 yG_ok hk hF (ysH_end n p q0 q1 q2 q3 q4 s0 s1 s2 h L out i) ⟨g1,ne_f f,by omega,trivial⟩ (fun y v hd=>hd) hs
    · have e3:endP (out,0) h=(ByteArray.empty,(p2R h).2):=by
        unfold endP
        rw[if_pos rfl,if_neg f]
      rw[e3]
      exact run_end2 yG_ok hk hF (ysG_end n p q0 q1 q2 q3 q4 s0 s1 s2 h L out i) ⟨g1,ne_t f,trivial⟩ (fun y v hd=>hd) hs

end Go.Proofs.Ytcmkkanhddhgpaa

/- SetupPuts' law, walked. No conditions. -/
namespace Go.Proofs.Ytcmkkanhddhgpaa
section
variable {w0:World} {F0:Nat→Prop} {K:Kp} {ac:List Act} {Q:Exit→Act→World→Prop} {cX:Ctx} {aX:Act}

theorem alive20_fnd:FnD Try.prog 5 [] (.v (.c (.bool true))) []:=(fn_sound yF_ok Try.func5 y5 (by simp [AllP])).conv (fun _ _ h=>h) fun _ _ hd=>hd
noncomputable def putVSpec:FnSpec
  | [.v (.a [.int .i64 n,.int .i64 p,.ob (.fp q0x),.ob (.fp q0y),.bool q0i,.ob (.fp q1x),.ob (.fp q1y),.bool q1i,.ob (.fp q2x),.ob (.fp q2y),.bool q2i,.ob (.fp q3x),.ob (.fp q3y),.bool q3i,.ob (.fp q4x),.ob (.fp q4y),.bool q4i,.ob (.fp s0x),.ob (.fp s0y),.bool s0i,.ob (.fp s1x),.ob (.fp s1y),.bool s1i,.ob (.fp s2x),.ob (.fp s2y),.bool s2i,.ob (.fp ha),.ob (.fp hb),.ob (.fp hc),.ob (.fp hd),.bool hi])]=>some ([],.t [.c (.val (.string (putR n p [⟨q0x,q0y,q0i⟩,⟨q1x,q1y,q1i⟩,⟨q2x,q2y,q2i⟩,⟨q3x,q3y,q3i⟩,⟨q4x,q4y,q4i⟩,⟨s0x,s0y,s0i⟩,⟨s1x,s1y,s1i⟩,⟨s2x,s2y,s2i⟩] ⟨ha,hb,hc,hd,hi⟩).1)),.c (.int .i64 (putR n p [⟨q0x,q0y,q0i⟩,⟨q1x,q1y,q1i⟩,⟨q2x,q2y,q2i⟩,⟨q3x,q3y,q3i⟩,⟨q4x,q4y,q4i⟩,⟨s0x,s0y,s0i⟩,⟨s1x,s1y,s1i⟩,⟨s2x,s2y,s2i⟩] ⟨ha,hb,hc,hd,hi⟩).2)],[])
  | _=>none
noncomputable def yI1:Env:=yG.set (addT yG.fn 4 putVSpec)
theorem yI1_ok:EnvOk Try.prog yI1:=env_add yG_ok 4 putVSpec (enters_of Try.func4 rfl rfl) fun args o r es h _=>by
  unfold putVSpec at h
  split at h
  · cases h;exact putV_fnd _ _ ⟨_,_,_⟩ ⟨_,_,_⟩ ⟨_,_,_⟩ ⟨_,_,_⟩ ⟨_,_,_⟩ ⟨_,_,_⟩ ⟨_,_,_⟩ ⟨_,_,_⟩ ⟨_,_,_,_,_⟩
  · cases h
noncomputable def alive20Spec:FnSpec
  | []=>some ([],.v (.c (.bool true)),[])
  | _=>none
noncomputable def yI:Env:=yI1.set (addT yI1.fn 5 alive20Spec)
theorem yI_ok:EnvOk Try.prog yI:=env_add yI1_ok 5 alive20Spec (enters_of Try.func5 rfl rfl) fun args o r es h _=>by
  unfold alive20Spec at h
  split at h
  · cases h;exact alive20_fnd
  · cases h
--@env yI yI_ok
theorem lpA (n p:Int) (q0 q1 q2 q3 q4 s0 s1 s2:G1D) (h:G2D):fnRes yI Try.f3 3000 [.v (.a (verI n p q0 q1 q2 q3 q4 s0 s1 s2 h))] [true,true,true,true,true] [] []=(some ([((decide (n<(0:Int)))=true),(true=true),(((Prod.snd (putR n p [q0,q1,q2,q3,q4,s0,s1,s2] h)) == (1:Int))=true)],((.v (.c (.bool ((ByteArray.toList (Prod.fst (putR n p [q0,q1,q2,q3,q4,s0,s1,s2] h))) == (ByteArray.toList (ByteArray.mk (List.toArray ([]:List UInt8)))))))),[]))):=by kernel_rfl
theorem lpB (n p:Int) (q0 q1 q2 q3 q4 s0 s1 s2:G1D) (h:G2D):fnRes yI Try.f3 3000 [.v (.a (verI n p q0 q1 q2 q3 q4 s0 s1 s2 h))] [false,true,true,true,true] [] []=(some ([((decide (n<(0:Int)))=false),((decide (n > (255:Int)))=true),(true=true),(((Prod.snd (putR n p [q0,q1,q2,q3,q4,s0,s1,s2] h)) == (1:Int))=true)],((.v (.c (.bool ((ByteArray.toList (Prod.fst (putR n p [q0,q1,q2,q3,q4,s0,s1,s2] h))) == (ByteArray.toList (ByteArray.mk (List.toArray ([]:List UInt8)))))))),[]))):=by kernel_rfl
theorem lpD (n p:Int) (q0 q1 q2 q3 q4 s0 s1 s2:G1D) (h:G2D):fnRes yI Try.f3 3000 [.v (.a (verI n p q0 q1 q2 q3 q4 s0 s1 s2 h))] [false,false,true,true,true] [] []=(some ([((decide (n<(0:Int)))=false),((decide (n > (255:Int)))=false),((decide (p<(0:Int)))=true),(true=true),(((Prod.snd (putR n p [q0,q1,q2,q3,q4,s0,s1,s2] h)) == (1:Int))=true)],((.v (.c (.bool ((ByteArray.toList (Prod.fst (putR n p [q0,q1,q2,q3,q4,s0,s1,s2] h))) == (ByteArray.toList (ByteArray.mk (List.toArray ([]:List UInt8)))))))),[]))):=by kernel_rfl
theorem lpE (n p:Int) (q0 q1 q2 q3 q4 s0 s1 s2:G1D) (h:G2D):fnRes yI Try.f3 3000 [.v (.a (verI n p q0 q1 q2 q3 q4 s0 s1 s2 h))] [false,false,false,true,true,true] [] []=(some ([((decide (n<(0:Int)))=false),((decide (n > (255:Int)))=false),((decide (p<(0:Int)))=false),((decide (p > (255:Int)))=true),(true=true),(((Prod.snd (putR n p [q0,q1,q2,q3,q4,s0,s1,s2] h)) == (1:Int))=true)],((.v (.c (.bool ((ByteArray.toList (Prod.fst (putR n p [q0,q1,q2,q3,q4,s0,s1,s2] h))) == (ByteArray.toList (ByteArray.mk (List.toArray ([]:List UInt8)))))))),[]))):=by kernel_rfl
noncomputable def lm_k:List KI:=(run yI false 3000 ((fun (n p:Int) (q0 q1 q2 q3 q4 s0 s1 s2:G1D) (h:G2D)=>(⟨[.code (bodyOf Try.f3)],.normal,initSt Try.f3.ntmps [.v (.a (verI n p q0 q1 q2 q3 q4 s0 s1 s2 h))]⟩:Cfg)) default default default default default default default default default default default) [false,false,false,false]).cfg.k
theorem lm_hk (n p:Int) (q0 q1 q2 q3 q4 s0 s1 s2:G1D) (h:G2D):(run yI false 3000 ((⟨[.code (bodyOf Try.f3)],.normal,initSt Try.f3.ntmps [.v (.a (verI n p q0 q1 q2 q3 q4 s0 s1 s2 h))]⟩:Cfg)) [false,false,false,false]).cfg.k=lm_k:=by kernel_rfl
theorem lm (n p:Int) (q0 q1 q2 q3 q4 s0 s1 s2:G1D) (h:G2D) (ho:AllP [((decide (n<(0:Int)))=false),((decide (n > (255:Int)))=false),((decide (p<(0:Int)))=false),((decide (p > (255:Int)))=false),(2=(List.length ([(IntKind.wrap .u8 n)]++[(IntKind.wrap .u8 p)]))),((0:Int)≤(0:Int)),((0:Int)<(5:Int)),((0:Int)≤(1:Int)),((1:Int)<(5:Int)),((0:Int)≤(2:Int)),((2:Int)<(5:Int)),((0:Int)≤(3:Int)),((3:Int)<(5:Int)),((0:Int)≤(4:Int)),((4:Int)<(5:Int)),((0:Int)≤(0:Int)),((0:Int)<(3:Int)),((0:Int)≤(1:Int)),((1:Int)<(3:Int)),((0:Int)≤(2:Int)),((2:Int)<(3:Int))]) (hs:Sim w0 F0 K ac (initSt Try.f3.ntmps [.v (.a (verI n p q0 q1 q2 q3 q4 s0 s1 s2 h))]) cX aX) (hK:∀ac cY aY,Sim w0 F0 K ac (mkSt 138 [1,3,4,5,76,77,78] [.pt 16 0,(.v (.c (.val (Value.string (Prod.fst (putR n p [q0,q1,q2,q3,q4,s0,s1,s2] h)))))),(.ii (Prod.snd (putR n p [q0,q1,q2,q3,q4,s0,s1,s2] h))),(.v (.c (.val (Value.string (strOf ([(IntKind.wrap .u8 n)]++[(IntKind.wrap .u8 p)])))))),(.v (.c (.slc 976 0 8 13))),.ii (8:Int),.ii (0:Int)] [16,976] [(some (.fl [(.int .i64 n),(.int .i64 p),(.ob (.fp (G1D.x q0))),(.ob (.fp (G1D.y q0))),(.bool (G1D.inf q0)),(.ob (.fp (G1D.x q1))),(.ob (.fp (G1D.y q1))),(.bool (G1D.inf q1)),(.ob (.fp (G1D.x q2))),(.ob (.fp (G1D.y q2))),(.bool (G1D.inf q2)),(.ob (.fp (G1D.x q3))),(.ob (.fp (G1D.y q3))),(.bool (G1D.inf q3)),(.ob (.fp (G1D.x q4))),(.ob (.fp (G1D.y q4))),(.bool (G1D.inf q4)),(.ob (.fp (G1D.x s0))),(.ob (.fp (G1D.y s0))),(.bool (G1D.inf s0)),(.ob (.fp (G1D.x s1))),(.ob (.fp (G1D.y s1))),(.bool (G1D.inf s1)),(.ob (.fp (G1D.x s2))),(.ob (.fp (G1D.y s2))),(.bool (G1D.inf s2)),(.ob (.fp (G2D.xa h))),(.ob (.fp (G2D.xb h))),(.ob (.fp (G2D.ya h))),(.ob (.fp (G2D.yb h))),(.bool (G2D.inf h))])),(some (.sq (Sq.g1 [(G1D.mk (G1D.x q0) (G1D.y q0) (G1D.inf q0)),(G1D.mk (G1D.x q1) (G1D.y q1) (G1D.inf q1)),(G1D.mk (G1D.x q2) (G1D.y q2) (G1D.inf q2)),(G1D.mk (G1D.x q3) (G1D.y q3) (G1D.inf q3)),(G1D.mk (G1D.x q4) (G1D.y q4) (G1D.inf q4)),(G1D.mk (G1D.x s0) (G1D.y s0) (G1D.inf s0)),(G1D.mk (G1D.x s1) (G1D.y s1) (G1D.inf s1)),(G1D.mk (G1D.x s2) (G1D.y s2) (G1D.inf s2))])))] 1024 [] []) cY aY→Wq Try.prog Q (lm_k) ac Exit.normal aY cY.w):Wq Try.prog Q ([.code (bodyOf Try.f3)]) ac .normal aX cX.w:=
  run_at2 (o:=⟨_,_,_,_,_,_,_⟩) yI_ok (by kernel_rfl) (lm_hk n p q0 q1 q2 q3 q4 s0 s1 s2 h) ho hs hK
noncomputable def lmS (n p:Int) (q0 q1 q2 q3 q4 s0 s1 s2:G1D) (h:G2D) (L:List G1D) (out S:ByteArray) (e i:Int):St:=mkSt 138 [1,3,4,5,76,77,78] [.pt 16 0,.v (.c (.val (.string S))),.v (.c (.int .i64 e)),.v (.c (.val (.string out))),(.v (.c (.slc 976 0 8 13))),.v (.c (.int .i64 8)),.v (.c (.int .i64 i))] [16,976] [(some (.fl [(.int .i64 n),(.int .i64 p),(.ob (.fp (G1D.x q0))),(.ob (.fp (G1D.y q0))),(.bool (G1D.inf q0)),(.ob (.fp (G1D.x q1))),(.ob (.fp (G1D.y q1))),(.bool (G1D.inf q1)),(.ob (.fp (G1D.x q2))),(.ob (.fp (G1D.y q2))),(.bool (G1D.inf q2)),(.ob (.fp (G1D.x q3))),(.ob (.fp (G1D.y q3))),(.bool (G1D.inf q3)),(.ob (.fp (G1D.x q4))),(.ob (.fp (G1D.y q4))),(.bool (G1D.inf q4)),(.ob (.fp (G1D.x s0))),(.ob (.fp (G1D.y s0))),(.bool (G1D.inf s0)),(.ob (.fp (G1D.x s1))),(.ob (.fp (G1D.y s1))),(.bool (G1D.inf s1)),(.ob (.fp (G1D.x s2))),(.ob (.fp (G1D.y s2))),(.bool (G1D.inf s2)),(.ob (.fp (G2D.xa h))),(.ob (.fp (G2D.xb h))),(.ob (.fp (G2D.ya h))),(.ob (.fp (G2D.yb h))),(.bool (G2D.inf h))])),some (.sq (.g1 L))] 1024 [] []
theorem lmE_hk (n p:Int) (q0 q1 q2 q3 q4 s0 s1 s2:G1D) (h:G2D) (L:List G1D) (out S:ByteArray) (e i:Int):(run yI false 3000 ((⟨lpIn lm_k,.normal,lmS n p q0 q1 q2 q3 q4 s0 s1 s2 h L out S e i⟩:Cfg)) [true,false]).cfg.k=lpBk lm_k:=by kernel_rfl
theorem lmE (n p:Int) (q0 q1 q2 q3 q4 s0 s1 s2:G1D) (h:G2D) (L:List G1D) (out S:ByteArray) (e i:Int) (ho:AllP [((decide (i<(8:Int)))=true),((0:Int)≤i),(i<(8:Int)),(0=0),((i).toNat<(List.length L)),(((Prod.snd (p1R (List.getD L (i).toNat g10))) != (0:Int))=false),(((ByteArray.size out)+(ByteArray.size (Prod.fst (p1R (List.getD L (i).toNat g10)))))≤1152921504606846976)]) (hs:Sim w0 F0 K ac (lmS n p q0 q1 q2 q3 q4 s0 s1 s2 h L out S e i) cX aX) (hK:∀ac cY aY,Sim w0 F0 K ac (mkSt 138 [1,3,4,5,76,77,78] [.pt 16 0,(.v (.c (.val (Value.string S)))),.ii e,(.v (.c (.val (Value.string (catS out (Prod.fst (p1R (List.getD L (i).toNat g10)))))))),(.v (.c (.slc 976 0 8 13))),.ii (8:Int),(.ii (IntKind.wrap .i64 (i+(1:Int))))] [16,976] [(some (.fl [(.int .i64 n),(.int .i64 p),(.ob (.fp (G1D.x q0))),(.ob (.fp (G1D.y q0))),(.bool (G1D.inf q0)),(.ob (.fp (G1D.x q1))),(.ob (.fp (G1D.y q1))),(.bool (G1D.inf q1)),(.ob (.fp (G1D.x q2))),(.ob (.fp (G1D.y q2))),(.bool (G1D.inf q2)),(.ob (.fp (G1D.x q3))),(.ob (.fp (G1D.y q3))),(.bool (G1D.inf q3)),(.ob (.fp (G1D.x q4))),(.ob (.fp (G1D.y q4))),(.bool (G1D.inf q4)),(.ob (.fp (G1D.x s0))),(.ob (.fp (G1D.y s0))),(.bool (G1D.inf s0)),(.ob (.fp (G1D.x s1))),(.ob (.fp (G1D.y s1))),(.bool (G1D.inf s1)),(.ob (.fp (G1D.x s2))),(.ob (.fp (G1D.y s2))),(.bool (G1D.inf s2)),(.ob (.fp (G2D.xa h))),(.ob (.fp (G2D.xb h))),(.ob (.fp (G2D.ya h))),(.ob (.fp (G2D.yb h))),(.bool (G2D.inf h))])),(some (.sq (Sq.g1 L)))] 1344 [] []) cY aY→Wq Try.prog Q (lpBk lm_k) ac Exit.normal aY cY.w):Wq Try.prog Q (lpIn lm_k) ac .normal aX cX.w:=
  run_at2 (o:=⟨_,_,_,_,_,_,_⟩) yI_ok (by kernel_rfl) (lmE_hk n p q0 q1 q2 q3 q4 s0 s1 s2 h L out S e i) ho hs hK
theorem lmF_end (n p:Int) (q0 q1 q2 q3 q4 s0 s1 s2:G1D) (h:G2D) (L:List G1D) (out S:ByteArray) (e i:Int):runEnd yI Try.f3 false 3000 (⟨lpIn lm_k,.normal,lmS n p q0 q1 q2 q3 q4 s0 s1 s2 h L out S e i⟩) [true,true,true,true] [] []=(some ([((decide (i<(8:Int)))=true),((0:Int)≤i),(i<(8:Int)),(0=0),((i).toNat<(List.length L)),(((Prod.snd (p1R (List.getD L (i).toNat g10))) != (0:Int))=true),(true=true),((e == (Prod.snd (p1R (List.getD L (i).toNat g10))))=true)],((.v (.c (.bool ((ByteArray.toList S) == (ByteArray.toList (ByteArray.mk (List.toArray ([]:List UInt8)))))))),[]))):=by kernel_rfl
theorem lmG_end (n p:Int) (q0 q1 q2 q3 q4 s0 s1 s2:G1D) (h:G2D) (L:List G1D) (out S:ByteArray) (e i:Int):runEnd yI Try.f3 false 3000 (⟨lpIn lm_k,.normal,lmS n p q0 q1 q2 q3 q4 s0 s1 s2 h L out S e i⟩) [false,true,true,true] [] []=(some ([((decide (i<(8:Int)))=false),(((Prod.snd (p2R h)) != (0:Int))=true),(true=true),((e == (Prod.snd (p2R h)))=true)],((.v (.c (.bool ((ByteArray.toList S) == (ByteArray.toList (ByteArray.mk (List.toArray ([]:List UInt8)))))))),[]))):=by kernel_rfl
theorem lmH_end (n p:Int) (q0 q1 q2 q3 q4 s0 s1 s2:G1D) (h:G2D) (L:List G1D) (out S:ByteArray) (e i:Int):runEnd yI Try.f3 false 3000 (⟨lpIn lm_k,.normal,lmS n p q0 q1 q2 q3 q4 s0 s1 s2 h L out S e i⟩) [false,false,true,true,true] [] []=(some ([((decide (i<(8:Int)))=false),(((Prod.snd (p2R h)) != (0:Int))=false),(true=true),((e == (0:Int))=true),(((ByteArray.size out)+(ByteArray.size (Prod.fst (p2R h))))≤1152921504606846976),(((ByteArray.toList S) == (ByteArray.toList (catS out (Prod.fst (p2R h)))))=true)],((.v (.c (.bool ((((ByteArray.size S):Nat):Int) == (482:Int))))),[]))):=by kernel_rfl
end
end Go.Proofs.Ytcmkkanhddhgpaa

/- SetupPuts' law. No conditions. -/
namespace Go.Proofs.Ytcmkkanhddhgpaa

theorem tl_refl {s t:ByteArray} (h:s=t):(s.toList == t.toList)=true:=by rw[h];exact beq_self_eq_true _
theorem eq_t {a b:Int} (h:a=b):(a == b)=true:=by rw[h];exact beq_self_eq_true _
theorem b_true {b b' : Bool} (h:b=b') {y:Ctx} {v:Value} (hd:denS y (.v (.c (.bool b))) v):denS y (.v (.c (.bool b'))) v:=by rw[←h];exact hd

theorem setupPuts_fnd (n p:Int) (q0 q1 q2 q3 q4 s0 s1 s2:G1D) (h:G2D):FnD Try.prog 3 [.v (.a (verI n p q0 q1 q2 q3 q4 s0 s1 s2 h))] (.v (.c (.bool true))) []:=by
  have bad:¬(0≤n∧n≤255∧0≤p∧p≤255)→putR n p [q0,q1,q2,q3,q4,s0,s1,s2] h=(ByteArray.empty,1):=fun hc=>by unfold putR;rw[if_neg hc]
  by_cases c1:n<0
  · have e:=bad (by omega)
    exact (fn_sound yI_ok Try.func3 (lpA n p q0 q1 q2 q3 q4 s0 s1 s2 h) ⟨decide_eq_true c1,rfl,eq_t (by rw[e]),trivial⟩).conv (fun _ _ h=>h) fun _ _ hd=>b_true (tl_refl (by rw[e];rfl)) hd
  by_cases c2:n > 255
  · have e:=bad (by omega)
    exact (fn_sound yI_ok Try.func3 (lpB n p q0 q1 q2 q3 q4 s0 s1 s2 h) ⟨decide_eq_false c1,decide_eq_true c2,rfl,eq_t (by rw[e]),trivial⟩).conv (fun _ _ h=>h) fun _ _ hd=>b_true (tl_refl (by rw[e];rfl)) hd
  by_cases c3:p<0
  · have e:=bad (by omega)
    exact (fn_sound yI_ok Try.func3 (lpD n p q0 q1 q2 q3 q4 s0 s1 s2 h) ⟨decide_eq_false c1,decide_eq_false c2,decide_eq_true c3,rfl,eq_t (by rw[e]),trivial⟩).conv (fun _ _ h=>h) fun _ _ hd=>b_true (tl_refl (by rw[e];rfl)) hd
  by_cases c4:p > 255
  · have e:=bad (by omega)
    exact (fn_sound yI_ok Try.func3 (lpE n p q0 q1 q2 q3 q4 s0 s1 s2 h) ⟨decide_eq_false c1,decide_eq_false c2,decide_eq_false c3,decide_eq_true c4,rfl,eq_t (by rw[e]),trivial⟩).conv (fun _ _ h=>h) fun _ _ hd=>b_true (tl_refl (by rw[e];rfl)) hd
  have e0:putR n p [q0,q1,q2,q3,q4,s0,s1,s2] h=endP (joinP (strOf [IntKind.wrap .u8 n,IntKind.wrap .u8 p]) [q0,q1,q2,q3,q4,s0,s1,s2]) h:=by
    unfold putR
    rw[if_pos (by omega)]
  refine fn_start (fn:=Try.f3) (c:=bodyOf Try.f3) Try.func3 rfl rfl fun x0 a0 hk hF hs0=>?_
  refine lm n p q0 q1 q2 q3 q4 s0 s1 s2 h ⟨decide_eq_false c1,decide_eq_false c2,decide_eq_false c3,decide_eq_false c4,rfl,by decide,by decide,by decide,by decide,by decide,by decide,by decide,by decide,by decide,by decide,by decide,by decide,by decide,by decide,by decide,by decide,trivial⟩ hs0 fun ac cY aY hs1=>?_
  rw[e0] at hs1
  obtain ⟨L,hL⟩:∃L,L=[q0,q1,q2,q3,q4,s0,s1,s2]:=⟨_,rfl⟩
  have hl:L.length=8:=by rw[hL];rfl
  have hs2:Sim x0.w x0.F kAll ac (lmS n p q0 q1 q2 q3 q4 s0 s1 s2 h L (strOf [IntKind.wrap .u8 n,IntKind.wrap .u8 p]) (endP (joinP (strOf [IntKind.wrap .u8 n,IntKind.wrap .u8 p]) L) h).1 (endP (joinP (strOf [IntKind.wrap .u8 n,IntKind.wrap .u8 p]) L) h).2 ((0:Nat):Int)) cY aY:=by
    rw[hL]
    exact hs1.nx _
  clear hs1 hL e0 bad
  have z0:=strOf_size [IntKind.wrap .u8 n,IntKind.wrap .u8 p]
  generalize strOf [IntKind.wrap .u8 n,IntKind.wrap .u8 p]=z at *
  obtain ⟨R,hR⟩:∃R,R=endP (joinP z L) h:=⟨_,rfl⟩
  rw[←hR] at hs2
  refine loop_rule (ι:={ s:Nat×ByteArray // s.1≤8∧s.2.size=2+48*s.1∧R=endP (joinP s.2 (L.drop s.1)) h }) (fun s=>lmS n p q0 q1 q2 q3 q4 s0 s1 s2 h L s.1.2 R.1 R.2 (s.1.1:Int)) (fun s=>8-s.1.1) (c:=lpC lm_k) (k:=lpR lm_k) (by kernel_rfl) (fun s ih ac cY aY hs=>?_) ⟨(0,z),Nat.zero_le _,z0,hR⟩ hs2
  obtain ⟨⟨i,out⟩,hi,ho,he⟩:=s
  simp only at ih hs hi ho he
  by_cases g:i<8
  · have g1:decide ((i:Int)<(8:Int))=true:=decide_eq_true (by omega)
    rw[drop_get L (by omega)] at he
    by_cases f:(p1R (L.getD i g10)).2=0
    · have e1:joinP out (L.getD i g10::L.drop (i+1))=joinP (catS out (p1R (L.getD i g10)).1) (L.drop (i+1)):=by simp only[joinP,if_pos f]
      have z1:=p1R_size f
      rw[e1] at he
      refine lmE n p q0 q1 q2 q3 q4 s0 s1 s2 h L out R.1 R.2 i ⟨g1,by omega,by omega,rfl,by rw[Int.toNat_natCast];omega,by rw[Int.toNat_natCast];exact ne_f f,by rw[Int.toNat_natCast];omega,trivial⟩ hs fun ac cU aU hs2=>?_
      rw[wrap_id (by omega) (by omega),Int.toNat_natCast] at hs2
      exact ih ⟨(i+1,_),by show i+1≤8;omega,by show (catS out (p1R (L.getD i g10)).1).size=2+48*(i+1);rw[cat_size];omega,he⟩ (by show 8-(i+1)<8-i;omega) ac cU aU (hs2.nx _)
    · have e1:R=(ByteArray.empty,(p1R (L.getD i g10)).2):=by
        have:joinP out (L.getD i g10::L.drop (i+1))=(ByteArray.empty,(p1R (L.getD i g10)).2):=by simp only[joinP,if_neg f]
        rw[he,this]
        unfold endP
        rw[if_neg f]
      exact run_end2 yI_ok hk hF (lmF_end n p q0 q1 q2 q3 q4 s0 s1 s2 h L out R.1 R.2 i) ⟨g1,by omega,by omega,rfl,by rw[Int.toNat_natCast];omega,by rw[Int.toNat_natCast];exact ne_t f,rfl,by rw[Int.toNat_natCast];exact eq_t (by rw[e1]),trivial⟩ (fun y v hd=>b_true (tl_refl (by rw[e1];rfl)) hd) hs
  · have g1:decide ((i:Int)<(8:Int))=false:=decide_eq_false (by omega)
    have e1:L.drop i=[]:=List.drop_eq_nil_of_le (by omega)
    have e2:joinP out []=(out,0):=rfl
    rw[e1,e2] at he
    by_cases f:(p2R h).2=0
    · have e3:R=(catS out (p2R h).1,0):=by
        rw[he]
        unfold endP
        rw[if_pos rfl,if_pos f]
      have z1:=p2R_size f
      exact run_end2 yI_ok hk hF (lmH_end n p q0 q1 q2 q3 q4 s0 s1 s2 h L out R.1 R.2 i) ⟨g1,ne_f f,rfl,eq_t (by rw[e3]),by omega,tl_refl (by rw[e3]),trivial⟩ (fun y v hd=>b_true (eq_t (by rw[e3,cat_size];omega)) hd) hs
    · have e3:R=(ByteArray.empty,(p2R h).2):=by
        rw[he]
        unfold endP
        rw[if_pos rfl,if_neg f]
      exact run_end2 yI_ok hk hF (lmG_end n p q0 q1 q2 q3 q4 s0 s1 s2 h L out R.1 R.2 i) ⟨g1,ne_t f,rfl,eq_t (by rw[e3]),trivial⟩ (fun y v hd=>b_true (tl_refl (by rw[e3];rfl)) hd) hs

end Go.Proofs.Ytcmkkanhddhgpaa
