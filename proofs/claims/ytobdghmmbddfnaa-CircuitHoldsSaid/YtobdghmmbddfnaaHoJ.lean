/- Parts of a proof, one behind the other: PRefP, WClean, PClean, WRef2, PRef2, WMulU, PMulU, WRight, PRight, WSize, PSize, Hz, WHa, WHc, PHc, WHd, PHd, WHb, WHe. No conditions. -/
import Derived.Test.YtobdghmmbddfnaaHoI
/- The reference's plus: contract. No conditions. -/
namespace Go.Proofs.Ytobdghmmbddfnaa

theorem add_u4 {a b:U4} {N c:Int} (hN:0≤N∧N<115792089237316195423570985008687907853269984665640564039457584007913129639936) (_hc:c=0∨c=1)
    (h:N+115792089237316195423570985008687907853269984665640564039457584007913129639936*c=(a.val:Int)+(b.val:Int)):((a+b:U4).val:Int)=N:=by
  have ha:=a.isLt
  have hb:=b.isLt
  have e:(a+b:U4).val=(a.val+b.val) % B4:=rfl
  rw[e]
  unfold B4 at *
  obtain ⟨_,_⟩:=hN
  omega

theorem carry_step {a b c:Int} (ha:Lim a) (hb:Lim b) (hc:c=0∨c=1):∃c' : Int,(c' = 0∨c' = 1)∧(IntKind.wrap IntKind.u64 (IntKind.wrap IntKind.u64 (a+b)+c)<a→c' = 1)∧(¬IntKind.wrap IntKind.u64 (IntKind.wrap IntKind.u64 (a+b)+c)<a→IntKind.wrap IntKind.u64 (IntKind.wrap IntKind.u64 (a+b)+c)=a→c=1→c' = 1) ∧
    (¬IntKind.wrap IntKind.u64 (IntKind.wrap IntKind.u64 (a+b)+c)<a→IntKind.wrap IntKind.u64 (IntKind.wrap IntKind.u64 (a+b)+c)=a→¬c=1→c' = 0)∧(¬IntKind.wrap IntKind.u64 (IntKind.wrap IntKind.u64 (a+b)+c)<a→¬IntKind.wrap IntKind.u64 (IntKind.wrap IntKind.u64 (a+b)+c)=a→c' = 0) ∧
    IntKind.wrap IntKind.u64 (IntKind.wrap IntKind.u64 (a+b)+c)+18446744073709551616*c' = a+b+c:=by
  obtain ⟨_,_⟩:=ha
  obtain ⟨_,_⟩:=hb
  rw[wrapU,wrapU]
  refine ⟨if 18446744073709551616≤a+b+c then 1 else 0,?_,?_,?_,?_,?_,?_⟩
  · split<;>omega
  · intro h;rw[if_pos (by omega)]
  · intro h1 h2 h3;rw[if_pos (by omega)]
  · intro h1 h2 h3;rw[if_neg (by omega)]
  · intro h1 h2;rw[if_neg (by omega)]
  · split<;>omega

section
variable {w0:World} {F0:Nat→Prop} {K:Kp} {ac:List Act} {Q:Exit→Act→World→Prop} {cX:Ctx} {aX:Act}

theorem rpT0 (a b:U4) (hs:Sim w0 F0 K ac (rp0 a b:Cfg).σ cX aX)
    (k:∀c' : Int,(c' = 0∨c' = 1)→(IntKind.wrap IntKind.u64 (IntKind.wrap IntKind.u64 ((limb (Ob.n (Ob.fr a)) 0)+(limb (Ob.n (Ob.fr b)) 0))+0))+18446744073709551616*c' = (limb (Ob.n (Ob.fr a)) 0)+(limb (Ob.n (Ob.fr b)) 0)+0→∀ac cY aY,Sim w0 F0 K ac (rpS1 a b (IntKind.wrap IntKind.u64 (IntKind.wrap IntKind.u64 ((limb (Ob.n (Ob.fr a)) 0)+(limb (Ob.n (Ob.fr b)) 0))+0)) 0 0 0 c') cY aY→Wq Try.prog Q rpA0_k ac .normal aY cY.w):Wq Try.prog Q (rp0 a b:Cfg).k ac (rp0 a b:Cfg).x aX cX.w:=by
  have hA:Lim (limb (Ob.n (Ob.fr a)) 0):=by obtain ⟨h0,h1,h2,h3,_⟩:=fr_lims a;assumption
  have hB:Lim (limb (Ob.n (Ob.fr b)) 0):=by obtain ⟨h0,h1,h2,h3,_⟩:=fr_lims b;assumption
  obtain ⟨c',h1,hA1,hB1,hC1,hD1,e⟩:=carry_step (c:=0) hA hB (.inl rfl)
  have sA:=@rpA0 a b w0 F0 K ac Q cX aX
  have sB:=@rpB0 a b w0 F0 K ac Q cX aX
  have sC:=@rpC0 a b w0 F0 K ac Q cX aX
  have sD:=@rpD0 a b w0 F0 K ac Q cX aX
  replace k:=k c' h1 e
  clear e hA hB
  generalize (IntKind.wrap IntKind.u64 (IntKind.wrap IntKind.u64 ((limb (Ob.n (Ob.fr a)) 0)+(limb (Ob.n (Ob.fr b)) 0))+0))=x at *
  generalize (limb (Ob.n (Ob.fr a)) 0)=y at *
  by_cases l1:x<y
  · rw[hA1 l1] at k
    exact sA (by simp [AllP,Ob.k,l1]) hs k
  · by_cases l2:x=y
    · by_cases l3:(0:Int)=1
      · rw[hB1 l1 l2 l3] at k
        exact sB (by simp [AllP,Ob.k,l2,l3]) hs k
      · rw[hC1 l1 l2 l3] at k
        exact sC (by simp [AllP,Ob.k,l2]) hs k
    · rw[hD1 l1 l2] at k
      exact sD (by simp [AllP,Ob.k,l1,l2]) hs k

theorem rpT1 (a b:U4) (v0 v1 v2 v3 c:Int) (hc:c=0∨c=1) (hs:Sim w0 F0 K ac (rpS1 a b v0 v1 v2 v3 c) cX aX)
    (k:∀c' : Int,(c' = 0∨c' = 1)→(IntKind.wrap IntKind.u64 (IntKind.wrap IntKind.u64 ((limb (Ob.n (Ob.fr a)) 1)+(limb (Ob.n (Ob.fr b)) 1))+c))+18446744073709551616*c' = (limb (Ob.n (Ob.fr a)) 1)+(limb (Ob.n (Ob.fr b)) 1)+c→∀ac cY aY,Sim w0 F0 K ac (rpS2 a b v0 (IntKind.wrap IntKind.u64 (IntKind.wrap IntKind.u64 ((limb (Ob.n (Ob.fr a)) 1)+(limb (Ob.n (Ob.fr b)) 1))+c)) v2 v3 c') cY aY→Wq Try.prog Q rpA1_k ac .normal aY cY.w):Wq Try.prog Q rpA0_k ac .normal aX cX.w:=by
  have hA:Lim (limb (Ob.n (Ob.fr a)) 1):=by obtain ⟨h0,h1,h2,h3,_⟩:=fr_lims a;assumption
  have hB:Lim (limb (Ob.n (Ob.fr b)) 1):=by obtain ⟨h0,h1,h2,h3,_⟩:=fr_lims b;assumption
  obtain ⟨c',h1,hA1,hB1,hC1,hD1,e⟩:=carry_step (c:=c) hA hB hc
  have sA:=@rpA1 a b v0 v1 v2 v3 c w0 F0 K ac Q cX aX
  have sB:=@rpB1 a b v0 v1 v2 v3 c w0 F0 K ac Q cX aX
  have sC:=@rpC1 a b v0 v1 v2 v3 c w0 F0 K ac Q cX aX
  have sD:=@rpD1 a b v0 v1 v2 v3 c w0 F0 K ac Q cX aX
  replace k:=k c' h1 e
  clear e hA hB
  generalize (IntKind.wrap IntKind.u64 (IntKind.wrap IntKind.u64 ((limb (Ob.n (Ob.fr a)) 1)+(limb (Ob.n (Ob.fr b)) 1))+c))=x at *
  generalize (limb (Ob.n (Ob.fr a)) 1)=y at *
  by_cases l1:x<y
  · rw[hA1 l1] at k
    exact sA (by simp [AllP,Ob.k,l1]) hs k
  · by_cases l2:x=y
    · by_cases l3:(c:Int)=1
      · rw[hB1 l1 l2 l3] at k
        exact sB (by simp [AllP,Ob.k,l2,l3]) hs k
      · rw[hC1 l1 l2 l3] at k
        exact sC (by simp [AllP,Ob.k,l2,l3]) hs k
    · rw[hD1 l1 l2] at k
      exact sD (by simp [AllP,Ob.k,l1,l2]) hs k

theorem rpT2 (a b:U4) (v0 v1 v2 v3 c:Int) (hc:c=0∨c=1) (hs:Sim w0 F0 K ac (rpS2 a b v0 v1 v2 v3 c) cX aX)
    (k:∀c' : Int,(c' = 0∨c' = 1)→(IntKind.wrap IntKind.u64 (IntKind.wrap IntKind.u64 ((limb (Ob.n (Ob.fr a)) 2)+(limb (Ob.n (Ob.fr b)) 2))+c))+18446744073709551616*c' = (limb (Ob.n (Ob.fr a)) 2)+(limb (Ob.n (Ob.fr b)) 2)+c→∀ac cY aY,Sim w0 F0 K ac (rpS3 a b v0 v1 (IntKind.wrap IntKind.u64 (IntKind.wrap IntKind.u64 ((limb (Ob.n (Ob.fr a)) 2)+(limb (Ob.n (Ob.fr b)) 2))+c)) v3 c') cY aY→Wq Try.prog Q rpA2_k ac .normal aY cY.w):Wq Try.prog Q rpA1_k ac .normal aX cX.w:=by
  have hA:Lim (limb (Ob.n (Ob.fr a)) 2):=by obtain ⟨h0,h1,h2,h3,_⟩:=fr_lims a;assumption
  have hB:Lim (limb (Ob.n (Ob.fr b)) 2):=by obtain ⟨h0,h1,h2,h3,_⟩:=fr_lims b;assumption
  obtain ⟨c',h1,hA1,hB1,hC1,hD1,e⟩:=carry_step (c:=c) hA hB hc
  have sA:=@rpA2 a b v0 v1 v2 v3 c w0 F0 K ac Q cX aX
  have sB:=@rpB2 a b v0 v1 v2 v3 c w0 F0 K ac Q cX aX
  have sC:=@rpC2 a b v0 v1 v2 v3 c w0 F0 K ac Q cX aX
  have sD:=@rpD2 a b v0 v1 v2 v3 c w0 F0 K ac Q cX aX
  replace k:=k c' h1 e
  clear e hA hB
  generalize (IntKind.wrap IntKind.u64 (IntKind.wrap IntKind.u64 ((limb (Ob.n (Ob.fr a)) 2)+(limb (Ob.n (Ob.fr b)) 2))+c))=x at *
  generalize (limb (Ob.n (Ob.fr a)) 2)=y at *
  by_cases l1:x<y
  · rw[hA1 l1] at k
    exact sA (by simp [AllP,Ob.k,l1]) hs k
  · by_cases l2:x=y
    · by_cases l3:(c:Int)=1
      · rw[hB1 l1 l2 l3] at k
        exact sB (by simp [AllP,Ob.k,l2,l3]) hs k
      · rw[hC1 l1 l2 l3] at k
        exact sC (by simp [AllP,Ob.k,l2,l3]) hs k
    · rw[hD1 l1 l2] at k
      exact sD (by simp [AllP,Ob.k,l1,l2]) hs k

theorem rpT3 (a b:U4) (v0 v1 v2 v3 c:Int) (hc:c=0∨c=1) (hs:Sim w0 F0 K ac (rpS3 a b v0 v1 v2 v3 c) cX aX)
    (k:∀c' : Int,(c' = 0∨c' = 1)→(IntKind.wrap IntKind.u64 (IntKind.wrap IntKind.u64 ((limb (Ob.n (Ob.fr a)) 3)+(limb (Ob.n (Ob.fr b)) 3))+c))+18446744073709551616*c' = (limb (Ob.n (Ob.fr a)) 3)+(limb (Ob.n (Ob.fr b)) 3)+c→∀ac cY aY,Sim w0 F0 K ac (rpS4 a b v0 v1 v2 (IntKind.wrap IntKind.u64 (IntKind.wrap IntKind.u64 ((limb (Ob.n (Ob.fr a)) 3)+(limb (Ob.n (Ob.fr b)) 3))+c)) c') cY aY→Wq Try.prog Q rpA3_k ac .normal aY cY.w):Wq Try.prog Q rpA2_k ac .normal aX cX.w:=by
  have hA:Lim (limb (Ob.n (Ob.fr a)) 3):=by obtain ⟨h0,h1,h2,h3,_⟩:=fr_lims a;assumption
  have hB:Lim (limb (Ob.n (Ob.fr b)) 3):=by obtain ⟨h0,h1,h2,h3,_⟩:=fr_lims b;assumption
  obtain ⟨c',h1,hA1,hB1,hC1,hD1,e⟩:=carry_step (c:=c) hA hB hc
  have sA:=@rpA3 a b v0 v1 v2 v3 c w0 F0 K ac Q cX aX
  have sB:=@rpB3 a b v0 v1 v2 v3 c w0 F0 K ac Q cX aX
  have sC:=@rpC3 a b v0 v1 v2 v3 c w0 F0 K ac Q cX aX
  have sD:=@rpD3 a b v0 v1 v2 v3 c w0 F0 K ac Q cX aX
  replace k:=k c' h1 e
  clear e hA hB
  generalize (IntKind.wrap IntKind.u64 (IntKind.wrap IntKind.u64 ((limb (Ob.n (Ob.fr a)) 3)+(limb (Ob.n (Ob.fr b)) 3))+c))=x at *
  generalize (limb (Ob.n (Ob.fr a)) 3)=y at *
  by_cases l1:x<y
  · rw[hA1 l1] at k
    exact sA (by simp [AllP,Ob.k,l1]) hs k
  · by_cases l2:x=y
    · by_cases l3:(c:Int)=1
      · rw[hB1 l1 l2 l3] at k
        exact sB (by simp [AllP,Ob.k,l2,l3]) hs k
      · rw[hC1 l1 l2 l3] at k
        exact sC (by simp [AllP,Ob.k,l2,l3]) hs k
    · rw[hD1 l1 l2] at k
      exact sD (by simp [AllP,Ob.k,l1,l2]) hs k

end

theorem plus105_fnd (a b:U4):FnD Try.prog 102 [.v (.a [.ob (.fr a)]),.v (.a [.ob (.fr b)])] (.v (.a [.ob (.fr (a+b))])) []:=by
  refine fn_start (fn:=Try.f102) (c:=bodyOf Try.f102) Try.func102 rfl rfl fun x a0 hk hF hs=>?_
  obtain ⟨g0,g1,g2,g3,ha⟩:=fr_lims a
  obtain ⟨h0,h1,h2,h3,hb⟩:=fr_lims b
  refine rpT0 a b hs fun c0 hc0 e0 ac cY aY hs=>?_
  refine rpT1 a b _ _ _ _ c0 hc0 hs fun c1 hc1 e1 ac cY aY hs=>?_
  refine rpT2 a b _ _ _ _ c1 hc1 hs fun c2 hc2 e2 ac cY aY hs=>?_
  refine rpT3 a b _ _ _ _ c2 hc2 hs fun c3 hc3 e3 ac cY aY hs=>?_
  refine run_end2 envH_ok hk hF (rpX_end a b _ _ _ _ c3) (by simp [AllP]) (fun y v hd=>?_) hs
  have l0:Lim (IntKind.wrap IntKind.u64 (IntKind.wrap IntKind.u64 (limb (Ob.n (Ob.fr a)) 0+limb (Ob.n (Ob.fr b)) 0)+0)):=wrap_lim _
  have l1:Lim (IntKind.wrap IntKind.u64 (IntKind.wrap IntKind.u64 (limb (Ob.n (Ob.fr a)) 1+limb (Ob.n (Ob.fr b)) 1)+c0)):=wrap_lim _
  have l2:Lim (IntKind.wrap IntKind.u64 (IntKind.wrap IntKind.u64 (limb (Ob.n (Ob.fr a)) 2+limb (Ob.n (Ob.fr b)) 2)+c1)):=wrap_lim _
  have l3:Lim (IntKind.wrap IntKind.u64 (IntKind.wrap IntKind.u64 (limb (Ob.n (Ob.fr a)) 3+limb (Ob.n (Ob.fr b)) 3)+c2)):=wrap_lim _
  generalize IntKind.wrap IntKind.u64 (IntKind.wrap IntKind.u64 (limb (Ob.n (Ob.fr a)) 0+limb (Ob.n (Ob.fr b)) 0)+0)=u0 at *
  generalize IntKind.wrap IntKind.u64 (IntKind.wrap IntKind.u64 (limb (Ob.n (Ob.fr a)) 1+limb (Ob.n (Ob.fr b)) 1)+c0)=u1 at *
  generalize IntKind.wrap IntKind.u64 (IntKind.wrap IntKind.u64 (limb (Ob.n (Ob.fr a)) 2+limb (Ob.n (Ob.fr b)) 2)+c1)=u2 at *
  generalize IntKind.wrap IntKind.u64 (IntKind.wrap IntKind.u64 (limb (Ob.n (Ob.fr a)) 3+limb (Ob.n (Ob.fr b)) 3)+c2)=u3 at *
  refine ints_ob (o:=.fr (a+b)) (Eq.refl 4) (limbsAre4 l0.1 l0.2 l1.1 l1.2 l2.1 l2.2 l3.1 l3.2 ?_) hd
  show ((a+b:U4).val:Int)=num4 u0 u1 u2 u3
  have hN:num4 u0 u1 u2 u3+115792089237316195423570985008687907853269984665640564039457584007913129639936*c3=num4 (limb (Ob.n (Ob.fr a)) 0) (limb (Ob.n (Ob.fr a)) 1) (limb (Ob.n (Ob.fr a)) 2) (limb (Ob.n (Ob.fr a)) 3)+num4 (limb (Ob.n (Ob.fr b)) 0) (limb (Ob.n (Ob.fr b)) 1) (limb (Ob.n (Ob.fr b)) 2) (limb (Ob.n (Ob.fr b)) 3):=by
    clear ha hb hd hs hk hF l0 l1 l2 l3 g0 g1 g2 g3 h0 h1 h2 h3
    unfold num4
    omega
  rw[←ha,←hb] at hN
  exact add_u4 (num4_lt l0 l1 l2 l3) hc3 hN

end Go.Proofs.Ytobdghmmbddfnaa

/- The reference's Clean, walked. No conditions. -/
namespace Go.Proofs.Ytobdghmmbddfnaa
section
variable {w0:World} {F0:Nat→Prop} {K:Kp} {ac:List Act} {Q:Exit→Act→World→Prop} {cX:Ctx} {aX:Act}

def lessSpec:FnSpec
  | [.v (.a [.ob (.fr a)]),.v (.a [.ob (.fr b)])]=>some ([],.v (.c (.bool (decide (a.val<b.val)))),[])
  | _=>none
def minusUSpec:FnSpec
  | [.v (.a [.ob (.fr a)]),.v (.a [.ob (.fr b)])]=>some ([],.v (.a [.ob (.fr (a-b))]),[])
  | _=>none
def plusUSpec:FnSpec
  | [.v (.a [.ob (.fr a)]),.v (.a [.ob (.fr b)])]=>some ([],.v (.a [.ob (.fr (a+b))]),[])
  | _=>none

noncomputable def envI1:Env:=envH.set (addT envH.fn 42 coreRSpec)
theorem envI1_ok:EnvOk Try.prog envI1:=env_add envH_ok 42 coreRSpec (enters_of Try.func42 rfl rfl) fun args o r es h _=>by
  unfold coreRSpec at h
  split at h
  · cases h
    refine (fn_sound envH_ok Try.func42 refR ⟨by decide,by decide,by decide,by decide,by decide,by decide,by decide,by decide,trivial⟩).conv (fun _ _ h=>h) fun y v hd=>?_
    have e:rU=Fin.ofNat B4 52435875175126190479447740508185965837690552500527637822603658699938581184513:=by kernel_rfl
    rw[e]
    exact hd
  · cases h
noncomputable def envI2:Env:=envI1.set (addT envI1.fn 41 lessSpec)
theorem envI2_ok:EnvOk Try.prog envI2:=env_add envI1_ok 41 lessSpec (enters_of Try.func41 rfl rfl) fun args o r es h _=>by
  unfold lessSpec at h
  split at h
  · cases h;exact less_fnd _ _
  · cases h
noncomputable def envI3:Env:=envI2.set (addT envI2.fn 43 minusUSpec)
theorem envI3_ok:EnvOk Try.prog envI3:=env_add envI2_ok 43 minusUSpec (enters_of Try.func43 rfl rfl) fun args o r es h _=>by
  unfold minusUSpec at h
  split at h
  · cases h;exact minus79_fnd _ _
  · cases h
noncomputable def envI:Env:=envI3.set (addT envI3.fn 102 plusUSpec)
theorem envI_ok:EnvOk Try.prog envI:=env_add envI3_ok 102 plusUSpec (enters_of Try.func102 rfl rfl) fun args o r es h _=>by
  unfold plusUSpec at h
  split at h
  · cases h;exact plus105_fnd _ _
  · cases h

noncomputable def cl0 (a:U4):Cfg:=⟨[.code (bodyOf Try.f21)],.normal,initSt Try.f21.ntmps [.v (.a [.ob (.fr a)])]⟩
--@env envI envI_ok
noncomputable def clIn_k:List KI:=(run envI false 3000 ((fun (a:U4)=>(cl0 a:Cfg)) default) []).cfg.k
theorem clIn_hk (a:U4):(run envI false 3000 ((cl0 a:Cfg)) []).cfg.k=clIn_k:=by kernel_rfl
theorem clIn (a:U4) (ho:AllP []) (hs:Sim w0 F0 K ac (((cl0 a:Cfg)).σ) cX aX) (hK:∀ac cY aY,Sim w0 F0 K ac (mkSt 11 [1,2] [.pt 16 0,.pt 32 0] [16,32] [(some (.fl [.ob (.fr a)])),(some (.fl [(.ob (.fr (0:U4)))]))] 48 [] []) cY aY→Wq Try.prog Q (clIn_k) ac Exit.normal aY cY.w):Wq Try.prog Q (((cl0 a:Cfg)).k) ac ((cl0 a:Cfg)).x aX cX.w:=
  run_at (o:=⟨_,_,_,_,_,_,_⟩) envI_ok (by kernel_rfl) (clIn_hk a) ho hs hK
noncomputable def clS (a:U4):St:=mkSt 11 [1,2] [.pt 16 0,.pt 32 0] [16,32] [(some (.fl [.ob (.fr a)])),(some (.fl [(.ob (.fr (0:U4)))]))] 48 [] []
theorem clN_hk (a:U4):(run envI false 3000 ((⟨lpIn clIn_k,.normal,clS a⟩:Cfg)) [true]).cfg.k=lpBk clIn_k:=by kernel_rfl
theorem clN (a:U4) (ho:AllP [((Bool.not (decide ((Fin.val a)<52435875175126190479447740508185965837690552500527637822603658699938581184513)))=true)]) (hs:Sim w0 F0 K ac (clS a) cX aX) (hK:∀ac cY aY,Sim w0 F0 K ac (mkSt 11 [1,2] [.pt 16 0,.pt 32 0] [16,32] [(some (.fl [(.ob (.fr (a-rU)))])),(some (.fl [(.ob (.fr (0:U4)))]))] 176 [] []) cY aY→Wq Try.prog Q (lpBk clIn_k) ac Exit.normal aY cY.w):Wq Try.prog Q (lpIn clIn_k) ac .normal aX cX.w:=
  run_at2 (o:=⟨_,_,_,_,_,_,_⟩) envI_ok (by kernel_rfl) (clN_hk a) ho hs hK
theorem clX_end (a:U4):runEnd envI Try.f21 false 3000 (⟨lpIn clIn_k,.normal,clS a⟩) [false] [] []=(some ([((Bool.not (decide ((Fin.val a)<52435875175126190479447740508185965837690552500527637822603658699938581184513)))=false)],((.v (.a [.ob (.fr a)])),[]))):=by kernel_rfl
end
end Go.Proofs.Ytobdghmmbddfnaa

/- The reference's Clean: a number, taken modulo r. No conditions. -/
namespace Go.Proofs.Ytobdghmmbddfnaa

def cleanU (a:U4):U4:=Fin.ofNat B4 (a.val % rN)
theorem cleanU_val (a:U4):(cleanU a).val=a.val % rN:=Nat.mod_eq_of_lt (Nat.lt_trans (Nat.mod_lt _ (by decide)) (by decide))

theorem rU_val:rU.val=rN:=by kernel_rfl

theorem sub_rU {a:U4} (h:rN≤a.val):(a-rU).val=a.val-rN:=by
  have e:(a-rU).val=(B4-rU.val+a.val) % B4:=rfl
  rw[e,rU_val]
  have ha:=a.isLt
  have hr:rN<B4:=by decide
  rw[show B4-rN+a.val=(a.val-rN)+B4 from by omega,Nat.add_mod_right,Nat.mod_eq_of_lt (by omega)]

theorem clean_fnd (a:U4):FnD Try.prog 21 [.v (.a [.ob (.fr a)])] (.v (.a [.ob (.fr (cleanU a))])) []:=by
  refine fn_start (fn:=Try.f21) (c:=bodyOf Try.f21) Try.func21 rfl rfl fun x a0 hk hF hs=>?_
  refine clIn a trivial hs fun ac cY aY hs1=>?_
  refine loop_rule (ι:={ b:U4 // cleanU b=cleanU a }) (fun b=>clS b.1) (fun b=>b.1.val) (c:=lpC clIn_k) (k:=lpR clIn_k) (by kernel_rfl) (fun b ih ac cY aY hs=>?_) ⟨a,rfl⟩ hs1
  obtain ⟨b,hb⟩:=b
  simp only at ih hs
  by_cases h:b.val<rU.val
  · have h2:b.val<rN:=by rw[←rU_val];exact h
    unfold rN at h2
    refine run_end2 envI_ok hk hF (clX_end b) ⟨by simp [h2],trivial⟩ (fun y v hd=>?_) hs
    refine ob_ob (o:=.fr b) (o' := .fr (cleanU a)) (Eq.refl 4) ?_ hd
    show b.val=(cleanU a).val
    rw[←hb,cleanU_val]
    rw[rU_val] at h
    exact (Nat.mod_eq_of_lt h).symm
  · have h' : rN≤b.val:=by rw[rU_val] at h;omega
    have h2:=h'
    unfold rN at h2
    refine clN b ⟨by simp [h2],trivial⟩ hs fun ac cY aY hs2=>?_
    refine ih ⟨b-rU,?_⟩ ?_ ac cY aY (hs2.nx _)
    · rw[←hb]
      apply Fin.ext
      rw[cleanU_val,cleanU_val,sub_rU h',←Nat.mod_eq_sub_mod h']
    · show (b-rU).val<b.val
      rw[sub_rU h']
      have:0<rN:=by decide
      omega

end Go.Proofs.Ytobdghmmbddfnaa

/- The reference's Add, Neg, Bit, walked. No conditions. -/
namespace Go.Proofs.Ytobdghmmbddfnaa

def cleanSpec:FnSpec
  | [.v (.a [.ob (.fr a)])]=>some ([],.v (.a [.ob (.fr (cleanU a))]),[])
  | _=>none
noncomputable def envJ:Env:=envI.set (addT envI.fn 21 cleanSpec)
theorem envJ_ok:EnvOk Try.prog envJ:=env_add envI_ok 21 cleanSpec (enters_of Try.func21 rfl rfl) fun args o r es h _=>by
  unfold cleanSpec at h
  split at h
  · cases h;exact clean_fnd _
  · cases h

--@env envJ envJ_ok
theorem addR (a b:U4):fnRes envJ Try.f72 3000 [.v (.a [.ob (.fr a)]),.v (.a [.ob (.fr b)])] [] [] []=(some ([],((.v (.a [(.ob (.fr (cleanU (a+b))))])),[]))):=by kernel_rfl
theorem negA (a:U4):fnRes envJ Try.f34 3000 [.v (.a [.ob (.fr a)])] [true] [] []=(some ([((ite (true=true) (decide (a=(0:U4))) (Bool.not (decide (a=(0:U4)))))=true)],((.v (.a [.ob (.fr a)])),[]))):=by kernel_rfl
theorem negB (a:U4):fnRes envJ Try.f34 3000 [.v (.a [.ob (.fr a)])] [false] [] []=(some ([((ite (true=true) (decide (a=(0:U4))) (Bool.not (decide (a=(0:U4)))))=false)],((.v (.a [(.ob (.fr (rU-a)))])),[]))):=by kernel_rfl
theorem bitR (a:U4) (i:Int):fnRes envJ Try.f103 3000 [.v (.a [.ob (.fr a)]),.v (.c (.int .i64 i))] [] [] []=(some ([((64:Int)≠(0:Int)),((0:Int)≤(IntKind.wrap .i64 (Int.tdiv i (64:Int)))),((IntKind.wrap .i64 (Int.tdiv i (64:Int)))<(4:Int)),((0+(((IntKind.wrap .i64 (Int.tdiv i (64:Int)))).toNat*1))<(Ob.k (.fr a))),((64:Int)≠(0:Int)),((0:Int)≤(IntKind.wrap .u64 (Int.tmod i (64:Int)))),((2:Int)≠(0:Int))],((.iu (Int.tmod (Int.fdiv (limb (Ob.n (.fr a)) (0+(((IntKind.wrap .i64 (Int.tdiv i (64:Int)))).toNat*1))) ((2:Int) ^ (Min.min ((IntKind.wrap .u64 (Int.tmod i (64:Int)))).toNat 64))) (2:Int))),[]))):=by kernel_rfl
end Go.Proofs.Ytobdghmmbddfnaa

/- The reference's Add, Neg, Bit: contracts. No conditions. -/
namespace Go.Proofs.Ytobdghmmbddfnaa

theorem bit_nat (n i:Nat):n / 2 ^ (64*(i / 64)) % 18446744073709551616 / 2 ^ (i % 64) % 2=n / 2 ^ i % 2:=by
  have h64:18446744073709551616=2 ^ (i % 64)*(2*2 ^ (63-i % 64)):=by
    rw[←Nat.pow_succ',←Nat.pow_add,show i % 64+(63-i % 64+1)=64 from by omega]
  rw[h64,Nat.mod_mul_right_div_self,Nat.mod_mul_right_mod,Nat.div_div_eq_div_mul,←Nat.pow_add,show 64*(i / 64)+i % 64=i from Nat.div_add_mod i 64]

def bitV (a:U4) (i:Nat):Int:=((a.val / 2 ^ i % 2:Nat):Int)

theorem bit_fnd (a:U4) (i:Nat) (hi:i<256):FnD Try.prog 103 [.v (.a [.ob (.fr a)]),.v (.c (.int .i64 (i:Int)))] (.v (.c (.int .u64 (bitV a i)))) []:=by
  have e1:IntKind.wrap IntKind.i64 (Int.tdiv (i:Int) 64)=((i / 64:Nat):Int):=by
    rw[show Int.tdiv (i:Int) 64=((i / 64:Nat):Int) from by rw[Int.tdiv_eq_ediv_of_nonneg (by omega)];omega]
    exact wrap_id (by omega) (by omega)
  have e2:IntKind.wrap IntKind.u64 (Int.tmod (i:Int) 64)=((i % 64:Nat):Int):=by
    rw[show Int.tmod (i:Int) 64=((i % 64:Nat):Int) from by rw[Int.tmod_eq_emod_of_nonneg (by omega)];omega,wrapU]
    omega
  have r:=bitR a (i:Int)
  rw[e1,e2,Int.toNat_natCast,Int.toNat_natCast] at r
  refine (fn_sound envJ_ok Try.func103 r ?_).conv (fun _ _ h=>h) fun y v hd=>?_
  · refine ⟨by decide,by omega,by omega,by show 0+i / 64*1<4;omega,by decide,by omega,by decide,trivial⟩
  · have e3:Min.min (i % 64) 64=i % 64:=by omega
    have e4:0+i / 64*1=i / 64:=by omega
    rw[e3,e4] at hd
    have hl:limb (Ob.n (Ob.fr a)) (i / 64)=((a.val / 2 ^ (64*(i / 64)) % 18446744073709551616:Nat):Int):=rfl
    rw[hl] at hd
    have e5:Int.tmod (Int.fdiv ((a.val / 2 ^ (64*(i / 64)) % 18446744073709551616:Nat):Int) ((2:Int) ^ (i % 64))) 2=bitV a i:=by
      unfold bitV
      rw[←bit_nat a.val i]
      generalize a.val / 2 ^ (64*(i / 64)) % 18446744073709551616=m
      have hp:((2:Int) ^ (i % 64))=((2 ^ (i % 64):Nat):Int):=by simp
      rw[hp,Int.fdiv_eq_ediv_of_nonneg _ (Int.natCast_nonneg _),←Int.natCast_ediv,Int.tmod_eq_emod_of_nonneg (Int.natCast_nonneg _)]
      rfl
    rw[e5] at hd
    exact hd

end Go.Proofs.Ytobdghmmbddfnaa

/- The reference's Mul, walked. No conditions. -/
namespace Go.Proofs.Ytobdghmmbddfnaa
section
variable {w0:World} {F0:Nat→Prop} {K:Kp} {ac:List Act} {Q:Exit→Act→World→Prop} {cX:Ctx} {aX:Act}

def addUSpec:FnSpec
  | [.v (.a [.ob (.fr a)]),.v (.a [.ob (.fr b)])]=>some ([],.v (.a [.ob (.fr (cleanU (a+b)))]),[])
  | _=>none
def bitSpec:FnSpec
  | [.v (.a [.ob (.fr a)]),.v (.c (.int .i64 i))]=>some ([0≤i,i<256],.v (.c (.int .u64 (bitV a i.toNat))),[])
  | _=>none
noncomputable def envK1:Env:=envJ.set (addT envJ.fn 72 addUSpec)
theorem envK1_ok:EnvOk Try.prog envK1:=env_add envJ_ok 72 addUSpec (enters_of Try.func72 rfl rfl) fun args o r es h _=>by
  unfold addUSpec at h
  split at h
  · cases h;exact fn_sound envJ_ok Try.func72 (addR _ _) trivial
  · cases h
noncomputable def envK:Env:=envK1.set (addT envK1.fn 103 bitSpec)
theorem envK_ok:EnvOk Try.prog envK:=env_add envK1_ok 103 bitSpec (enters_of Try.func103 rfl rfl) fun args o r es h ho=>by
  unfold bitSpec at h
  split at h
  · cases h
    obtain ⟨h1,h2,_⟩:=ho
    obtain ⟨i,rfl⟩:=Int.eq_ofNat_of_zero_le h1
    exact bit_fnd _ i (by omega)
  · cases h

noncomputable def mu0 (a b:U4):Cfg:=⟨[.code (bodyOf Try.f73)],.normal,initSt Try.f73.ntmps [.v (.a [.ob (.fr a)]),.v (.a [.ob (.fr b)])]⟩
--@env envK envK_ok
noncomputable def muIn_k:List KI:=(run envK false 3000 ((fun (a b:U4)=>(mu0 a b:Cfg)) default default) []).cfg.k
theorem muIn_hk (a b:U4):(run envK false 3000 ((mu0 a b:Cfg)) []).cfg.k=muIn_k:=by kernel_rfl
theorem muIn (a b:U4) (ho:AllP []) (hs:Sim w0 F0 K ac (((mu0 a b:Cfg)).σ) cX aX) (hK:∀ac cY aY,Sim w0 F0 K ac (mkSt 23 [2,3,4,5,6] [.pt 16 0,.pt 32 0,.pt 48 0,.pt 80 0,.ii (255:Int)] [16,32,48,80] [(some (.fl [.ob (.fr a)])),(some (.fl [.ob (.fr b)])),(some (.fl [(.ob (.fr (0:U4)))])),(some (.fl [(.ob (.fr (0:U4)))]))] 128 [] []) cY aY→Wq Try.prog Q (muIn_k) ac Exit.normal aY cY.w):Wq Try.prog Q (((mu0 a b:Cfg)).k) ac ((mu0 a b:Cfg)).x aX cX.w:=
  run_at (o:=⟨_,_,_,_,_,_,_⟩) envK_ok (by kernel_rfl) (muIn_hk a b) ho hs hK
noncomputable def muS (a b o:U4) (i:Int):St:=mkSt 23 [2,3,4,5,6] [.pt 16 0,.pt 32 0,.pt 48 0,.pt 80 0,.v (.c (.int .i64 i))] [16,32,48,80] [(some (.fl [.ob (.fr a)])),(some (.fl [.ob (.fr b)])),(some (.fl [(.ob (.fr (0:U4)))])),some (.fl [.ob (.fr o)])] 128 [] []
theorem muA_hk (a b o:U4) (i:Int):(run envK false 3000 ((⟨lpIn muIn_k,.normal,muS a b o i⟩:Cfg)) [true,true]).cfg.k=lpBk muIn_k:=by kernel_rfl
theorem muA (a b o:U4) (i:Int) (ho:AllP [((decide (i ≥ (0:Int)))=true),((0:Int)≤i),(i<(256:Int)),(((bitV a (i).toNat) == (1:Int))=true)]) (hs:Sim w0 F0 K ac (muS a b o i) cX aX) (hK:∀ac cY aY,Sim w0 F0 K ac (mkSt 23 [2,3,4,5,6] [.pt 16 0,.pt 32 0,.pt 48 0,.pt 80 0,(.ii (IntKind.wrap .i64 (i-(1:Int))))] [16,32,48,80] [(some (.fl [.ob (.fr a)])),(some (.fl [.ob (.fr b)])),(some (.fl [(.ob (.fr (0:U4)))])),(some (.fl [(.ob (.fr (cleanU ((cleanU (o+o))+b))))]))] 400 [] []) cY aY→Wq Try.prog Q (lpBk muIn_k) ac Exit.normal aY cY.w):Wq Try.prog Q (lpIn muIn_k) ac .normal aX cX.w:=
  run_at2 (o:=⟨_,_,_,_,_,_,_⟩) envK_ok (by kernel_rfl) (muA_hk a b o i) ho hs hK
theorem muB_hk (a b o:U4) (i:Int):(run envK false 3000 ((⟨lpIn muIn_k,.normal,muS a b o i⟩:Cfg)) [true,false]).cfg.k=lpBk muIn_k:=by kernel_rfl
theorem muB (a b o:U4) (i:Int) (ho:AllP [((decide (i ≥ (0:Int)))=true),((0:Int)≤i),(i<(256:Int)),(((bitV a (i).toNat) == (1:Int))=false)]) (hs:Sim w0 F0 K ac (muS a b o i) cX aX) (hK:∀ac cY aY,Sim w0 F0 K ac (mkSt 23 [2,3,4,5,6] [.pt 16 0,.pt 32 0,.pt 48 0,.pt 80 0,(.ii (IntKind.wrap .i64 (i-(1:Int))))] [16,32,48,80] [(some (.fl [.ob (.fr a)])),(some (.fl [.ob (.fr b)])),(some (.fl [(.ob (.fr (0:U4)))])),(some (.fl [(.ob (.fr (cleanU (o+o))))]))] 336 [] []) cY aY→Wq Try.prog Q (lpBk muIn_k) ac Exit.normal aY cY.w):Wq Try.prog Q (lpIn muIn_k) ac .normal aX cX.w:=
  run_at2 (o:=⟨_,_,_,_,_,_,_⟩) envK_ok (by kernel_rfl) (muB_hk a b o i) ho hs hK
theorem muX_end (a b o:U4) (i:Int):runEnd envK Try.f73 false 3000 (⟨lpIn muIn_k,.normal,muS a b o i⟩) [false] [] []=(some ([((decide (i ≥ (0:Int)))=false)],((.v (.a [.ob (.fr o)])),[]))):=by kernel_rfl
end
end Go.Proofs.Ytobdghmmbddfnaa

/- The reference's Mul: contract. No conditions. -/
namespace Go.Proofs.Ytobdghmmbddfnaa

theorem clean_add_val {x y:U4} (hx:x.val<rN) (hy:y.val<rN):(cleanU (x+y)).val=(x.val+y.val) % rN:=by
  rw[cleanU_val]
  have e:(x+y:U4).val=(x.val+y.val) % B4:=rfl
  have hr:rN+rN<B4:=by decide
  rw[e,Nat.mod_eq_of_lt (a:=x.val+y.val) (by omega)]

theorem half_step (n j:Nat):n / 2 ^ j=2*(n / 2 ^ (j+1))+n / 2 ^ j % 2:=by
  rw[Nat.pow_succ,←Nat.div_div_eq_div_mul]
  omega

theorem dbl_mod {r p q b:Nat} (x:Nat) (hx:x=p*b % r) (_hq:q=0∨q=1):((x+x) % r+q*b) % r=(2*p+q)*b % r:=by
  subst hx
  rw[Nat.mod_add_mod,←Nat.two_mul,Nat.add_mod,Nat.mul_mod_mod,←Nat.add_mod]
  congr 1
  rw[Nat.add_mul,Nat.mul_assoc]

theorem mulU_fnd (a b:U4) (hb:b.val<rN):FnD Try.prog 73 [.v (.a [.ob (.fr a)]),.v (.a [.ob (.fr b)])] (.v (.a [.ob (.fr (Fin.ofNat B4 (a.val*b.val % rN)))])) []:=by
  refine fn_start (fn:=Try.f73) (c:=bodyOf Try.f73) Try.func73 rfl rfl fun x a0 hk hF hs=>?_
  refine muIn a b trivial hs fun ac cY aY hs1=>?_
  refine loop_rule (ι:={ p:Int×U4 // -1≤p.1∧p.1≤255∧p.2.val=a.val / 2 ^ (p.1+1).toNat*b.val % rN }) (fun p=>muS a b p.1.2 p.1.1) (fun p=>(p.1.1+1).toNat) (c:=lpC muIn_k) (k:=lpR muIn_k) (by kernel_rfl) (fun p ih ac cY aY hs=>?_)
    ⟨(255,0),by decide,by decide,by
      show (0:Nat)=a.val / 2 ^ 256*b.val % rN
      have ha:a.val<2 ^ 256:=a.isLt
      rw[Nat.div_eq_of_lt ha,Nat.zero_mul,Nat.zero_mod]⟩ hs1
  obtain ⟨⟨i,o⟩,hi1,hi2,ho⟩:=p
  simp only at ih hs ho hi1 hi2
  have hor:o.val<rN:=by rw[ho];exact Nat.mod_lt _ (by decide)
  by_cases h:0≤i
  · obtain ⟨j,rfl⟩:=Int.eq_ofNat_of_zero_le h
    have e1:((j:Int)+1).toNat=j+1:=by omega
    rw[e1] at ho
    have hd:=clean_add_val hor hor
    have hdr:(cleanU (o+o)).val<rN:=by rw[hd];exact Nat.mod_lt _ (by decide)
    have hhs:=half_step a.val j
    have e2:((j:Int)-1+1).toNat=j:=by omega
    by_cases hbit:a.val / 2 ^ j % 2=1
    · refine muA a b o j ⟨by simp,by omega,by omega,by simp [bitV,hbit],trivial⟩ hs fun ac cY aY hs2=>?_
      rw[wrap_id (by omega) (by omega)] at hs2
      refine ih ⟨((j:Int)-1,cleanU (cleanU (o+o)+b)),by omega,by omega,?_⟩ (by show ((j:Int)-1+1).toNat<((j:Int)+1).toNat;omega) ac cY aY (hs2.nx _)
      show (cleanU (cleanU (o+o)+b)).val=a.val / 2 ^ ((j:Int)-1+1).toNat*b.val % rN
      rw[e2,clean_add_val hdr hb,hd,hhs,hbit]
      have:=dbl_mod (q:=1) o.val ho (.inr rfl)
      rw[Nat.one_mul] at this
      exact this
    · have hbit0:a.val / 2 ^ j % 2=0:=by omega
      refine muB a b o j ⟨by simp,by omega,by omega,by simp [bitV,hbit0],trivial⟩ hs fun ac cY aY hs2=>?_
      rw[wrap_id (by omega) (by omega)] at hs2
      refine ih ⟨((j:Int)-1,cleanU (o+o)),by omega,by omega,?_⟩ (by show ((j:Int)-1+1).toNat<((j:Int)+1).toNat;omega) ac cY aY (hs2.nx _)
      show (cleanU (o+o)).val=a.val / 2 ^ ((j:Int)-1+1).toNat*b.val % rN
      rw[e2,hd,hhs,hbit0]
      have:=dbl_mod (q:=0) o.val ho (.inl rfl)
      rw[Nat.zero_mul,Nat.add_zero,Nat.mod_mod] at this
      exact this
  · have hi:i = -1:=by omega
    subst hi
    refine run_end2 envK_ok hk hF (muX_end a b o (-1)) ⟨by decide,trivial⟩ (fun y v hd=>?_) hs
    refine ob_ob (o:=.fr o) (o' := .fr (Fin.ofNat B4 (a.val*b.val % rN))) (Eq.refl 4) ?_ hd
    show o.val=(a.val*b.val % rN) % B4
    rw[Nat.mod_eq_of_lt (a:=a.val*b.val % rN) (Nat.lt_trans (Nat.mod_lt _ (by decide)) (by decide)),ho]
    show a.val / 2 ^ 0*b.val % rN=_
    rw[Nat.pow_zero,Nat.div_one]

end Go.Proofs.Ytobdghmmbddfnaa

/- circuit.Right, walked. No conditions. -/
namespace Go.Proofs.Ytobdghmmbddfnaa
section
variable {w0:World} {F0:Nat→Prop} {K:Kp} {ac:List Act} {Q:Exit→Act→World→Prop} {cX:Ctx} {aX:Act}

def circV (l:List GateD) (p v:Int):SV:=.v (.a [.sl (.gate l),.int .i64 p,.int .i64 v])

noncomputable def rc0 (l:List GateD) (p v:Int):Cfg:=⟨[.code (bodyOf Try.f17)],.normal,initSt Try.f17.ntmps [circV l p v]⟩

--@env env0 env0_ok
noncomputable def rIn_k:List KI:=(run env0 false 3000 ((fun (l:List GateD) (p v:Int)=>(rc0 l p v:Cfg)) default default default) [false,false,false,false]).cfg.k
theorem rIn_hk (l:List GateD) (p v:Int):(run env0 false 3000 ((rc0 l p v:Cfg)) [false,false,false,false]).cfg.k=rIn_k:=by kernel_rfl
theorem rIn (l:List GateD) (p v:Int) (ho:AllP [((decide ((((List.length l):Nat):Int) > (4096:Int)))=false),((decide (p<(0:Int)))=false),((decide (p > (((List.length l):Nat):Int)))=false),((decide (v<(0:Int)))=false)]) (hs:Sim w0 F0 K ac (((rc0 l p v:Cfg)).σ) cX aX) (hK:∀ac cY aY,Sim w0 F0 K ac (mkSt 19 [0,1,7,8] [(.v (.c (.sl (Sq.gate l)))),(.v (.c (.clo 37 [(16,0)]))),(.ii (((List.length l):Nat):Int)),.ii (0:Int)] [16] [(some (.fl [(.sl (Sq.gate l)),(.int .i64 p),(.int .i64 v)]))] 560 [[],[]] [([],9),([],30)]) cY aY→Wq Try.prog Q (rIn_k) ac Exit.normal aY cY.w):Wq Try.prog Q (((rc0 l p v:Cfg)).k) ac ((rc0 l p v:Cfg)).x aX cX.w:=
  run_at (o:=⟨_,_,_,_,_,_,_⟩) env0_ok (by kernel_rfl) (rIn_hk l p v) ho hs hK

noncomputable def rS (l:List GateD) (p v:Int) (i:Nat):St:=mkSt 19 [0,1,7,8] [(.v (.c (.sl (Sq.gate l)))),(.v (.c (.clo 37 [(16,0)]))),(.ii (((List.length l):Nat):Int)),.v (.c (.int .i64 (i:Int)))] [16] [(some (.fl [(.sl (Sq.gate l)),(.int .i64 p),(.int .i64 v)]))] 560 [[],[]] [([],9),([],30)]
theorem rE1_end (l:List GateD) (p v:Int):runEnd env0 Try.f17 false 3000 (rc0 l p v) [true,false,false] [] []=(some ([((decide ((((List.length l):Nat):Int) > (4096:Int)))=true)],((.v (.c (.lit false))),[]))):=by kernel_rfl
theorem rE2_end (l:List GateD) (p v:Int):runEnd env0 Try.f17 false 3000 (rc0 l p v) [false,true,false] [] []=(some ([((decide ((((List.length l):Nat):Int) > (4096:Int)))=false),((decide (p<(0:Int)))=true)],((.v (.c (.lit false))),[]))):=by kernel_rfl
theorem rE3_end (l:List GateD) (p v:Int):runEnd env0 Try.f17 false 3000 (rc0 l p v) [false,false,true] [] []=(some ([((decide ((((List.length l):Nat):Int) > (4096:Int)))=false),((decide (p<(0:Int)))=false),((decide (p > (((List.length l):Nat):Int)))=true)],((.v (.c (.lit false))),[]))):=by kernel_rfl
theorem rE4_end (l:List GateD) (p v:Int):runEnd env0 Try.f17 false 3000 (rc0 l p v) [false,false,false,true] [] []=(some ([((decide ((((List.length l):Nat):Int) > (4096:Int)))=false),((decide (p<(0:Int)))=false),((decide (p > (((List.length l):Nat):Int)))=false),((decide (v<(0:Int)))=true)],((.v (.c (.lit false))),[]))):=by kernel_rfl
--@unroll true
theorem rX_end (l:List GateD) (p v:Int) (i:Nat):runEnd env0 Try.f17 true 3000 (⟨lpIn rIn_k,.normal,rS l p v i⟩) [false] [] []=(some ([((decide ((i:Int)<(((List.length l):Nat):Int)))=false)],((.v (.c (.bool (Bool.not (decide ((-(1:Int)) ≥ (0:Int))))))),[]))):=by kernel_rfl
theorem rA1_end (l:List GateD) (p v:Int) (i:Nat):runEnd env0 Try.f17 true 3000 (⟨lpIn rIn_k,.normal,rS l p v i⟩) [true,true,true,true] [] []=(some ([((decide ((i:Int)<(((List.length l):Nat):Int)))=true),((0:Int)≤(i:Int)),((i:Int)<(((List.length l):Nat):Int)),((decide ((0:Int)<(3:Int)))=true),((0:Int)≤(0:Int)),((0:Int)<(3:Int)),((decide ((GateD.a (List.getD l ((i:Int)).toNat gate0))<(-(1:Int))))=true),((decide ((0:Int) ≥ (0:Int)))=true)],((.v (.c (.bool (Bool.not (decide ((i:Int) ≥ (0:Int))))))),[]))):=by kernel_rfl
theorem rC1_end (l:List GateD) (p v:Int) (i:Nat):runEnd env0 Try.f17 true 3000 (⟨lpIn rIn_k,.normal,rS l p v i⟩) [true,true,false,true,true] [] []=(some ([((decide ((i:Int)<(((List.length l):Nat):Int)))=true),((0:Int)≤(i:Int)),((i:Int)<(((List.length l):Nat):Int)),((decide ((0:Int)<(3:Int)))=true),((0:Int)≤(0:Int)),((0:Int)<(3:Int)),((decide ((GateD.a (List.getD l ((i:Int)).toNat gate0))<(-(1:Int))))=false),((decide ((GateD.a (List.getD l ((i:Int)).toNat gate0)) ≥ v))=true),((decide ((0:Int) ≥ (0:Int)))=true)],((.v (.c (.bool (Bool.not (decide ((i:Int) ≥ (0:Int))))))),[]))):=by kernel_rfl
theorem rA2_end (l:List GateD) (p v:Int) (i:Nat):runEnd env0 Try.f17 true 3000 (⟨lpIn rIn_k,.normal,rS l p v i⟩) [true,true,false,false,true,true,true] [] []=(some ([((decide ((i:Int)<(((List.length l):Nat):Int)))=true),((0:Int)≤(i:Int)),((i:Int)<(((List.length l):Nat):Int)),((decide ((0:Int)<(3:Int)))=true),((0:Int)≤(0:Int)),((0:Int)<(3:Int)),((decide ((GateD.a (List.getD l ((i:Int)).toNat gate0))<(-(1:Int))))=false),((decide ((GateD.a (List.getD l ((i:Int)).toNat gate0)) ≥ v))=false),((decide ((1:Int)<(3:Int)))=true),((0:Int)≤(1:Int)),((1:Int)<(3:Int)),((decide ((GateD.b (List.getD l ((i:Int)).toNat gate0))<(-(1:Int))))=true),((decide ((1:Int) ≥ (0:Int)))=true)],((.v (.c (.bool (Bool.not (decide ((i:Int) ≥ (0:Int))))))),[]))):=by kernel_rfl
theorem rC2_end (l:List GateD) (p v:Int) (i:Nat):runEnd env0 Try.f17 true 3000 (⟨lpIn rIn_k,.normal,rS l p v i⟩) [true,true,false,false,true,false,true,true] [] []=(some ([((decide ((i:Int)<(((List.length l):Nat):Int)))=true),((0:Int)≤(i:Int)),((i:Int)<(((List.length l):Nat):Int)),((decide ((0:Int)<(3:Int)))=true),((0:Int)≤(0:Int)),((0:Int)<(3:Int)),((decide ((GateD.a (List.getD l ((i:Int)).toNat gate0))<(-(1:Int))))=false),((decide ((GateD.a (List.getD l ((i:Int)).toNat gate0)) ≥ v))=false),((decide ((1:Int)<(3:Int)))=true),((0:Int)≤(1:Int)),((1:Int)<(3:Int)),((decide ((GateD.b (List.getD l ((i:Int)).toNat gate0))<(-(1:Int))))=false),((decide ((GateD.b (List.getD l ((i:Int)).toNat gate0)) ≥ v))=true),((decide ((1:Int) ≥ (0:Int)))=true)],((.v (.c (.bool (Bool.not (decide ((i:Int) ≥ (0:Int))))))),[]))):=by kernel_rfl
theorem rA3_end (l:List GateD) (p v:Int) (i:Nat):runEnd env0 Try.f17 true 3000 (⟨lpIn rIn_k,.normal,rS l p v i⟩) [true,true,false,false,true,false,false,true,true,true] [] []=(some ([((decide ((i:Int)<(((List.length l):Nat):Int)))=true),((0:Int)≤(i:Int)),((i:Int)<(((List.length l):Nat):Int)),((decide ((0:Int)<(3:Int)))=true),((0:Int)≤(0:Int)),((0:Int)<(3:Int)),((decide ((GateD.a (List.getD l ((i:Int)).toNat gate0))<(-(1:Int))))=false),((decide ((GateD.a (List.getD l ((i:Int)).toNat gate0)) ≥ v))=false),((decide ((1:Int)<(3:Int)))=true),((0:Int)≤(1:Int)),((1:Int)<(3:Int)),((decide ((GateD.b (List.getD l ((i:Int)).toNat gate0))<(-(1:Int))))=false),((decide ((GateD.b (List.getD l ((i:Int)).toNat gate0)) ≥ v))=false),((decide ((2:Int)<(3:Int)))=true),((0:Int)≤(2:Int)),((2:Int)<(3:Int)),((decide ((GateD.c (List.getD l ((i:Int)).toNat gate0))<(-(1:Int))))=true),((decide ((2:Int) ≥ (0:Int)))=true)],((.v (.c (.bool (Bool.not (decide ((i:Int) ≥ (0:Int))))))),[]))):=by kernel_rfl
theorem rC3_end (l:List GateD) (p v:Int) (i:Nat):runEnd env0 Try.f17 true 3000 (⟨lpIn rIn_k,.normal,rS l p v i⟩) [true,true,false,false,true,false,false,true,false,true,true] [] []=(some ([((decide ((i:Int)<(((List.length l):Nat):Int)))=true),((0:Int)≤(i:Int)),((i:Int)<(((List.length l):Nat):Int)),((decide ((0:Int)<(3:Int)))=true),((0:Int)≤(0:Int)),((0:Int)<(3:Int)),((decide ((GateD.a (List.getD l ((i:Int)).toNat gate0))<(-(1:Int))))=false),((decide ((GateD.a (List.getD l ((i:Int)).toNat gate0)) ≥ v))=false),((decide ((1:Int)<(3:Int)))=true),((0:Int)≤(1:Int)),((1:Int)<(3:Int)),((decide ((GateD.b (List.getD l ((i:Int)).toNat gate0))<(-(1:Int))))=false),((decide ((GateD.b (List.getD l ((i:Int)).toNat gate0)) ≥ v))=false),((decide ((2:Int)<(3:Int)))=true),((0:Int)≤(2:Int)),((2:Int)<(3:Int)),((decide ((GateD.c (List.getD l ((i:Int)).toNat gate0))<(-(1:Int))))=false),((decide ((GateD.c (List.getD l ((i:Int)).toNat gate0)) ≥ v))=true),((decide ((2:Int) ≥ (0:Int)))=true)],((.v (.c (.bool (Bool.not (decide ((i:Int) ≥ (0:Int))))))),[]))):=by kernel_rfl
theorem rNx_hk (l:List GateD) (p v:Int) (i:Nat):(run env0 true 235 ((⟨lpIn rIn_k,.normal,rS l p v i⟩:Cfg)) [true,true,false,false,true,false,false,true,false,false,false,false]).cfg.k=lpBk rIn_k:=by kernel_rfl
theorem rNx (l:List GateD) (p v:Int) (i:Nat) (ho:AllP [((decide ((i:Int)<(((List.length l):Nat):Int)))=true),((0:Int)≤(i:Int)),((i:Int)<(((List.length l):Nat):Int)),((decide ((0:Int)<(3:Int)))=true),((0:Int)≤(0:Int)),((0:Int)<(3:Int)),((decide ((GateD.a (List.getD l ((i:Int)).toNat gate0))<(-(1:Int))))=false),((decide ((GateD.a (List.getD l ((i:Int)).toNat gate0)) ≥ v))=false),((decide ((1:Int)<(3:Int)))=true),((0:Int)≤(1:Int)),((1:Int)<(3:Int)),((decide ((GateD.b (List.getD l ((i:Int)).toNat gate0))<(-(1:Int))))=false),((decide ((GateD.b (List.getD l ((i:Int)).toNat gate0)) ≥ v))=false),((decide ((2:Int)<(3:Int)))=true),((0:Int)≤(2:Int)),((2:Int)<(3:Int)),((decide ((GateD.c (List.getD l ((i:Int)).toNat gate0))<(-(1:Int))))=false),((decide ((GateD.c (List.getD l ((i:Int)).toNat gate0)) ≥ v))=false),((decide ((3:Int)<(3:Int)))=false),((decide ((-(1:Int)) ≥ (0:Int)))=false)]) (hs:Sim w0 F0 K ac (rS l p v i) cX aX) (hK:∀ac cY aY,Sim w0 F0 K ac (mkSt 19 [0,1,7,8] [(.v (.c (.sl (Sq.gate l)))),(.v (.c (.clo 37 [(16,0)]))),(.ii (((List.length l):Nat):Int)),(.ii (IntKind.wrap .i64 ((i:Int)+(1:Int))))] [16] [(some (.fl [(.sl (Sq.gate l)),(.int .i64 p),(.int .i64 v)]))] 1952 [[],[]] [([],9),([],30)]) cY aY→Wq Try.prog Q (lpBk rIn_k) ac Exit.normal aY cY.w):Wq Try.prog Q (lpIn rIn_k) ac .normal aX cX.w:=
  run_at2 (o:=⟨_,_,_,_,_,_,_⟩) env0_ok (by kernel_rfl) (rNx_hk l p v i) ho hs hK
end
end Go.Proofs.Ytobdghmmbddfnaa

/- circuit.Right: which circuits may be. No conditions. -/
set_option linter.unusedSimpArgs false
namespace Go.Proofs.Ytobdghmmbddfnaa

def wireB (v x:Int):Bool:=decide (-1≤x) && decide (x<v)
def gateB (v:Int) (g:GateD):Bool:=wireB v g.a && wireB v g.b && wireB v g.c
/-- Which circuits may be. -/
def rightB (l:List GateD) (p v:Int):Bool:=decide (l.length≤4096) && decide (0≤p) && decide (p≤l.length) && decide (0≤v) && l.all (gateB v)

theorem right_fnd (l:List GateD) (p v:Int):FnD Try.prog 17 [circV l p v] (.v (.c (.bool (rightB l p v)))) []:=by
  refine fn_start (fn:=Try.f17) (c:=bodyOf Try.f17) Try.func17 rfl rfl fun x a hk hF hs=>?_
  by_cases h1:(l.length:Int) > 4096
  · exact run_end env0_ok hk hF (rE1_end l p v) (by simp [AllP];omega) (fun y w hd=>lit_bool (by simp [rightB];omega) hd) hs
  by_cases h2:p<0
  · exact run_end env0_ok hk hF (rE2_end l p v) (by simp [AllP];omega) (fun y w hd=>lit_bool (by simp [rightB];omega) hd) hs
  by_cases h3:p > (l.length:Int)
  · exact run_end env0_ok hk hF (rE3_end l p v) (by simp [AllP];omega) (fun y w hd=>lit_bool (by simp [rightB];omega) hd) hs
  by_cases h4:v<0
  · exact run_end env0_ok hk hF (rE4_end l p v) (by simp [AllP];omega) (fun y w hd=>lit_bool (by simp [rightB];omega) hd) hs
  refine rIn l p v (by simp [AllP];omega) hs fun ac y b hs1=>?_
  have hb:rightB l p v=l.all (gateB v):=by
    simp only[rightB,show decide (l.length≤4096)=true from by simp;omega,show decide (0≤p)=true from by simp;omega,show decide (p≤(l.length:Int))=true from by simp;omega,show decide (0≤v)=true from by simp;omega,Bool.true_and]
  refine loop_rule (ι:={ i:Nat // i≤l.length∧rightB l p v=(l.drop i).all (gateB v) }) (fun i=>rS l p v i.1) (fun i=>l.length-i.1) (c:=lpC rIn_k) (k:=lpR rIn_k) (by kernel_rfl) (fun i ih ac y b hs=>?_) ⟨0,Nat.zero_le _,by rw[hb];rfl⟩ hs1
  obtain ⟨i,hi,hall⟩:=i
  simp only at ih hs
  by_cases h5:i<l.length
  · rw[all_drop (gateB v) gate0 l i h5] at hall
    have hg:∃g,g=l.getD i gate0:=⟨_,rfl⟩
    obtain ⟨g,hg⟩:=hg
    rw[←hg] at hall
    unfold gateB at hall
    clear hi
    by_cases a1:g.a < -1
    · have w:wireB v g.a=false:=by simp only[wireB,Bool.and_eq_false_iff,decide_eq_false_iff_not];omega
      exact run_end env0_ok hk hF (rA1_end l p v i) (by simp only[AllP,and_true,decide_eq_true_eq,decide_eq_false_iff_not,Int.toNat_natCast,wrap01,wrap12,wrap23,←hg];omega) (fun y w' hd=>by
        rw[show rightB l p v = !(decide ((i:Int) ≥ 0)) from by rw[hall,w];simp];exact hd) hs
    by_cases c1:g.a ≥ v
    · have w:wireB v g.a=false:=by simp only[wireB,Bool.and_eq_false_iff,decide_eq_false_iff_not];omega
      exact run_end env0_ok hk hF (rC1_end l p v i) (by simp only[AllP,and_true,decide_eq_true_eq,decide_eq_false_iff_not,Int.toNat_natCast,wrap01,wrap12,wrap23,←hg];omega) (fun y w' hd=>by
        rw[show rightB l p v = !(decide ((i:Int) ≥ 0)) from by rw[hall,w];simp];exact hd) hs
    have w1:wireB v g.a=true:=by simp only[wireB,Bool.and_eq_true,decide_eq_true_eq];omega
    by_cases a2:g.b < -1
    · have w:wireB v g.b=false:=by simp only[wireB,Bool.and_eq_false_iff,decide_eq_false_iff_not];omega
      exact run_end env0_ok hk hF (rA2_end l p v i) (by simp only[AllP,and_true,decide_eq_true_eq,decide_eq_false_iff_not,Int.toNat_natCast,wrap01,wrap12,wrap23,←hg];omega) (fun y w' hd=>by
        rw[show rightB l p v = !(decide ((i:Int) ≥ 0)) from by rw[hall,w];simp];exact hd) hs
    by_cases c2:g.b ≥ v
    · have w:wireB v g.b=false:=by simp only[wireB,Bool.and_eq_false_iff,decide_eq_false_iff_not];omega
      exact run_end env0_ok hk hF (rC2_end l p v i) (by simp only[AllP,and_true,decide_eq_true_eq,decide_eq_false_iff_not,Int.toNat_natCast,wrap01,wrap12,wrap23,←hg];omega) (fun y w' hd=>by
        rw[show rightB l p v = !(decide ((i:Int) ≥ 0)) from by rw[hall,w];simp];exact hd) hs
    have w2:wireB v g.b=true:=by simp only[wireB,Bool.and_eq_true,decide_eq_true_eq];omega
    by_cases a3:g.c < -1
    · have w:wireB v g.c=false:=by simp only[wireB,Bool.and_eq_false_iff,decide_eq_false_iff_not];omega
      exact run_end env0_ok hk hF (rA3_end l p v i) (by simp only[AllP,and_true,decide_eq_true_eq,decide_eq_false_iff_not,Int.toNat_natCast,wrap01,wrap12,wrap23,←hg];omega) (fun y w' hd=>by
        rw[show rightB l p v = !(decide ((i:Int) ≥ 0)) from by rw[hall,w];simp];exact hd) hs
    by_cases c3:g.c ≥ v
    · have w:wireB v g.c=false:=by simp only[wireB,Bool.and_eq_false_iff,decide_eq_false_iff_not];omega
      exact run_end env0_ok hk hF (rC3_end l p v i) (by simp only[AllP,and_true,decide_eq_true_eq,decide_eq_false_iff_not,Int.toNat_natCast,wrap01,wrap12,wrap23,←hg];omega) (fun y w' hd=>by
        rw[show rightB l p v = !(decide ((i:Int) ≥ 0)) from by rw[hall,w];simp];exact hd) hs
    have w3:wireB v g.c=true:=by simp only[wireB,Bool.and_eq_true,decide_eq_true_eq];omega
    refine rNx l p v i (by simp only[AllP,and_true,decide_eq_true_eq,decide_eq_false_iff_not,Int.toNat_natCast,wrap01,wrap12,wrap23,←hg];omega) hs fun ac y b hs2=>?_
    rw[wrap_id (by omega) (by omega)] at hs2
    exact ih ⟨i+1,h5,by rw[hall,w1,w2,w3];rfl⟩ (by show l.length-(i+1)<l.length-i;omega) ac y b (hs2.nx _)
  · exact run_end env0_ok hk hF (rX_end l p v i) (by simp [AllP];omega) (fun y w hd=>by
      rw[show rightB l p v = !(decide (-(1:Int) ≥ 0)) from by rw[hall,List.drop_eq_nil_of_le (by omega)];rfl];exact hd) hs
end Go.Proofs.Ytobdghmmbddfnaa

/- setup.Size, the reference's Right and alive, walked. No conditions. -/
namespace Go.Proofs.Ytobdghmmbddfnaa
section
variable {w0:World} {F0:Nat→Prop} {K:Kp} {ac:List Act} {Q:Exit→Act→World→Prop} {cX:Ctx} {aX:Act}

def rightSpec:FnSpec
  | [.v (.a [.sl (.gate l),.int .i64 p,.int .i64 v])]=>some ([],.v (.c (.bool (rightB l p v))),[])
  | _=>none

noncomputable def env1:Env:=env0.set (addT env0.fn 17 rightSpec)

theorem env1_ok:EnvOk Try.prog env1:=
  env_add env0_ok 17 rightSpec (enters_of Try.func17 rfl rfl) fun args o r es h _=>by
    unfold rightSpec at h
    split at h
    · cases h;exact right_fnd _ _ _
    · cases h

noncomputable def qc0 (l:List GateD) (p v:Int):Cfg:=⟨[.code (bodyOf Try.f18)],.normal,initSt Try.f18.ntmps [circV l p v]⟩

--@env env1 env1_ok
noncomputable def qIn_k:List KI:=(run env1 false 3000 ((fun (l:List GateD) (p v:Int)=>(qc0 l p v:Cfg)) default default default) []).cfg.k
theorem qIn_hk (l:List GateD) (p v:Int):(run env1 false 3000 ((qc0 l p v:Cfg)) []).cfg.k=qIn_k:=by kernel_rfl
theorem qIn (l:List GateD) (p v:Int) (ho:AllP []) (hs:Sim w0 F0 K ac (((qc0 l p v:Cfg)).σ) cX aX) (hK:∀ac cY aY,Sim w0 F0 K ac (mkSt 51 [1,8,9,10] [.pt 16 0,(.v (.c (.sl (Sq.gate l)))),(.ii (((List.length l):Nat):Int)),.ii (0:Int)] [16] [(some (.fl [(.sl (Sq.gate l)),(.int .i64 p),(.int .i64 v)]))] 112 [] []) cY aY→Wq Try.prog Q (qIn_k) ac Exit.normal aY cY.w):Wq Try.prog Q (((qc0 l p v:Cfg)).k) ac ((qc0 l p v:Cfg)).x aX cX.w:=
  run_at (o:=⟨_,_,_,_,_,_,_⟩) env1_ok (by kernel_rfl) (qIn_hk l p v) ho hs hK
noncomputable def qS (l:List GateD) (p v:Int) (i:Nat):St:=mkSt 51 [1,8,9,10] [.pt 16 0,(.v (.c (.sl (Sq.gate l)))),(.ii (((List.length l):Nat):Int)),.v (.c (.int .i64 (i:Int)))] [16] [(some (.fl [(.sl (Sq.gate l)),(.int .i64 p),(.int .i64 v)]))] 112 [] []
theorem qX1_end (l:List GateD) (p v:Int) (i:Nat):runEnd env1 Try.f18 false 3000 (⟨lpIn qIn_k,.normal,qS l p v i⟩) [false,true,true,true] [] []=(some ([((decide ((i:Int)<(((List.length l):Nat):Int)))=false),((decide ((((List.length l):Nat):Int)≤(4096:Int)))=true),((decide (p ≥ (0:Int)))=true),((decide (p≤(((List.length l):Nat):Int)))=true)],((.v (.c (.bool (decide (v ≥ (0:Int)))))),[]))):=by kernel_rfl
theorem qX2_end (l:List GateD) (p v:Int) (i:Nat):runEnd env1 Try.f18 false 3000 (⟨lpIn qIn_k,.normal,qS l p v i⟩) [false,true,true,false] [] []=(some ([((decide ((i:Int)<(((List.length l):Nat):Int)))=false),((decide ((((List.length l):Nat):Int)≤(4096:Int)))=true),((decide (p ≥ (0:Int)))=true),((decide (p≤(((List.length l):Nat):Int)))=false)],((.v (.c (.lit false))),[]))):=by kernel_rfl
theorem qX3_end (l:List GateD) (p v:Int) (i:Nat):runEnd env1 Try.f18 false 3000 (⟨lpIn qIn_k,.normal,qS l p v i⟩) [false,true,false,false] [] []=(some ([((decide ((i:Int)<(((List.length l):Nat):Int)))=false),((decide ((((List.length l):Nat):Int)≤(4096:Int)))=true),((decide (p ≥ (0:Int)))=false)],((.v (.c (.lit false))),[]))):=by kernel_rfl
theorem qX4_end (l:List GateD) (p v:Int) (i:Nat):runEnd env1 Try.f18 false 3000 (⟨lpIn qIn_k,.normal,qS l p v i⟩) [false,false,false,false] [] []=(some ([((decide ((i:Int)<(((List.length l):Nat):Int)))=false),((decide ((((List.length l):Nat):Int)≤(4096:Int)))=false)],((.v (.c (.lit false))),[]))):=by kernel_rfl
--@unroll true
theorem qA1_end (l:List GateD) (p v:Int) (i:Nat):runEnd env1 Try.f18 true 3000 (⟨lpIn qIn_k,.normal,qS l p v i⟩) [true,true,true] [] []=(some ([((decide ((i:Int)<(((List.length l):Nat):Int)))=true),((0:Int)≤(i:Int)),((i:Int)<(((List.length l):Nat):Int)),((decide ((0:Int)<(3:Int)))=true),((0:Int)≤(0:Int)),((0:Int)<(3:Int)),((decide ((GateD.a (List.getD l ((i:Int)).toNat gate0))<(-(1:Int))))=true)],((.v (.c (.lit false))),[]))):=by kernel_rfl
theorem qC1_end (l:List GateD) (p v:Int) (i:Nat):runEnd env1 Try.f18 true 3000 (⟨lpIn qIn_k,.normal,qS l p v i⟩) [true,true,false,true] [] []=(some ([((decide ((i:Int)<(((List.length l):Nat):Int)))=true),((0:Int)≤(i:Int)),((i:Int)<(((List.length l):Nat):Int)),((decide ((0:Int)<(3:Int)))=true),((0:Int)≤(0:Int)),((0:Int)<(3:Int)),((decide ((GateD.a (List.getD l ((i:Int)).toNat gate0))<(-(1:Int))))=false),((decide ((GateD.a (List.getD l ((i:Int)).toNat gate0)) ≥ v))=true)],((.v (.c (.lit false))),[]))):=by kernel_rfl
theorem qA2_end (l:List GateD) (p v:Int) (i:Nat):runEnd env1 Try.f18 true 3000 (⟨lpIn qIn_k,.normal,qS l p v i⟩) [true,true,false,false,true,true] [] []=(some ([((decide ((i:Int)<(((List.length l):Nat):Int)))=true),((0:Int)≤(i:Int)),((i:Int)<(((List.length l):Nat):Int)),((decide ((0:Int)<(3:Int)))=true),((0:Int)≤(0:Int)),((0:Int)<(3:Int)),((decide ((GateD.a (List.getD l ((i:Int)).toNat gate0))<(-(1:Int))))=false),((decide ((GateD.a (List.getD l ((i:Int)).toNat gate0)) ≥ v))=false),((decide ((1:Int)<(3:Int)))=true),((0:Int)≤(1:Int)),((1:Int)<(3:Int)),((decide ((GateD.b (List.getD l ((i:Int)).toNat gate0))<(-(1:Int))))=true)],((.v (.c (.lit false))),[]))):=by kernel_rfl
theorem qC2_end (l:List GateD) (p v:Int) (i:Nat):runEnd env1 Try.f18 true 3000 (⟨lpIn qIn_k,.normal,qS l p v i⟩) [true,true,false,false,true,false,true] [] []=(some ([((decide ((i:Int)<(((List.length l):Nat):Int)))=true),((0:Int)≤(i:Int)),((i:Int)<(((List.length l):Nat):Int)),((decide ((0:Int)<(3:Int)))=true),((0:Int)≤(0:Int)),((0:Int)<(3:Int)),((decide ((GateD.a (List.getD l ((i:Int)).toNat gate0))<(-(1:Int))))=false),((decide ((GateD.a (List.getD l ((i:Int)).toNat gate0)) ≥ v))=false),((decide ((1:Int)<(3:Int)))=true),((0:Int)≤(1:Int)),((1:Int)<(3:Int)),((decide ((GateD.b (List.getD l ((i:Int)).toNat gate0))<(-(1:Int))))=false),((decide ((GateD.b (List.getD l ((i:Int)).toNat gate0)) ≥ v))=true)],((.v (.c (.lit false))),[]))):=by kernel_rfl
theorem qA3_end (l:List GateD) (p v:Int) (i:Nat):runEnd env1 Try.f18 true 3000 (⟨lpIn qIn_k,.normal,qS l p v i⟩) [true,true,false,false,true,false,false,true,true] [] []=(some ([((decide ((i:Int)<(((List.length l):Nat):Int)))=true),((0:Int)≤(i:Int)),((i:Int)<(((List.length l):Nat):Int)),((decide ((0:Int)<(3:Int)))=true),((0:Int)≤(0:Int)),((0:Int)<(3:Int)),((decide ((GateD.a (List.getD l ((i:Int)).toNat gate0))<(-(1:Int))))=false),((decide ((GateD.a (List.getD l ((i:Int)).toNat gate0)) ≥ v))=false),((decide ((1:Int)<(3:Int)))=true),((0:Int)≤(1:Int)),((1:Int)<(3:Int)),((decide ((GateD.b (List.getD l ((i:Int)).toNat gate0))<(-(1:Int))))=false),((decide ((GateD.b (List.getD l ((i:Int)).toNat gate0)) ≥ v))=false),((decide ((2:Int)<(3:Int)))=true),((0:Int)≤(2:Int)),((2:Int)<(3:Int)),((decide ((GateD.c (List.getD l ((i:Int)).toNat gate0))<(-(1:Int))))=true)],((.v (.c (.lit false))),[]))):=by kernel_rfl
theorem qC3_end (l:List GateD) (p v:Int) (i:Nat):runEnd env1 Try.f18 true 3000 (⟨lpIn qIn_k,.normal,qS l p v i⟩) [true,true,false,false,true,false,false,true,false,true] [] []=(some ([((decide ((i:Int)<(((List.length l):Nat):Int)))=true),((0:Int)≤(i:Int)),((i:Int)<(((List.length l):Nat):Int)),((decide ((0:Int)<(3:Int)))=true),((0:Int)≤(0:Int)),((0:Int)<(3:Int)),((decide ((GateD.a (List.getD l ((i:Int)).toNat gate0))<(-(1:Int))))=false),((decide ((GateD.a (List.getD l ((i:Int)).toNat gate0)) ≥ v))=false),((decide ((1:Int)<(3:Int)))=true),((0:Int)≤(1:Int)),((1:Int)<(3:Int)),((decide ((GateD.b (List.getD l ((i:Int)).toNat gate0))<(-(1:Int))))=false),((decide ((GateD.b (List.getD l ((i:Int)).toNat gate0)) ≥ v))=false),((decide ((2:Int)<(3:Int)))=true),((0:Int)≤(2:Int)),((2:Int)<(3:Int)),((decide ((GateD.c (List.getD l ((i:Int)).toNat gate0))<(-(1:Int))))=false),((decide ((GateD.c (List.getD l ((i:Int)).toNat gate0)) ≥ v))=true)],((.v (.c (.lit false))),[]))):=by kernel_rfl
theorem qNx_hk (l:List GateD) (p v:Int) (i:Nat):(run env1 true 138 ((⟨lpIn qIn_k,.normal,qS l p v i⟩:Cfg)) [true,true,false,false,true,false,false,true,false,false,false]).cfg.k=lpBk qIn_k:=by kernel_rfl
theorem qNx (l:List GateD) (p v:Int) (i:Nat) (ho:AllP [((decide ((i:Int)<(((List.length l):Nat):Int)))=true),((0:Int)≤(i:Int)),((i:Int)<(((List.length l):Nat):Int)),((decide ((0:Int)<(3:Int)))=true),((0:Int)≤(0:Int)),((0:Int)<(3:Int)),((decide ((GateD.a (List.getD l ((i:Int)).toNat gate0))<(-(1:Int))))=false),((decide ((GateD.a (List.getD l ((i:Int)).toNat gate0)) ≥ v))=false),((decide ((1:Int)<(3:Int)))=true),((0:Int)≤(1:Int)),((1:Int)<(3:Int)),((decide ((GateD.b (List.getD l ((i:Int)).toNat gate0))<(-(1:Int))))=false),((decide ((GateD.b (List.getD l ((i:Int)).toNat gate0)) ≥ v))=false),((decide ((2:Int)<(3:Int)))=true),((0:Int)≤(2:Int)),((2:Int)<(3:Int)),((decide ((GateD.c (List.getD l ((i:Int)).toNat gate0))<(-(1:Int))))=false),((decide ((GateD.c (List.getD l ((i:Int)).toNat gate0)) ≥ v))=false),((decide ((3:Int)<(3:Int)))=false)]) (hs:Sim w0 F0 K ac (qS l p v i) cX aX) (hK:∀ac cY aY,Sim w0 F0 K ac (mkSt 51 [1,8,9,10] [.pt 16 0,(.v (.c (.sl (Sq.gate l)))),(.ii (((List.length l):Nat):Int)),(.ii (IntKind.wrap .i64 ((i:Int)+(1:Int))))] [16] [(some (.fl [(.sl (Sq.gate l)),(.int .i64 p),(.int .i64 v)]))] 912 [] []) cY aY→Wq Try.prog Q (lpBk qIn_k) ac Exit.normal aY cY.w):Wq Try.prog Q (lpIn qIn_k) ac .normal aX cX.w:=
  run_at2 (o:=⟨_,_,_,_,_,_,_⟩) env1_ok (by kernel_rfl) (qNx_hk l p v i) ho hs hK
end
end Go.Proofs.Ytobdghmmbddfnaa

/- setup.Size, the reference's Right, alive: contracts. No conditions. -/
set_option linter.unusedSimpArgs false
namespace Go.Proofs.Ytobdghmmbddfnaa

theorem right18_fnd (l:List GateD) (p v:Int):FnD Try.prog 18 [circV l p v] (.v (.c (.bool (rightB l p v)))) []:=by
  refine fn_start (fn:=Try.f18) (c:=bodyOf Try.f18) Try.func18 rfl rfl fun x a hk hF hs=>?_
  refine qIn l p v trivial hs fun ac y b hs1=>?_
  have hlen:l.length≤maxLen:=sl_len (q:=.gate l) (hs1.t 8)
  unfold maxLen at hlen
  refine loop_rule (ι:={ i:Nat // i≤l.length∧l.all (gateB v)=(l.drop i).all (gateB v) }) (fun i=>qS l p v i.1) (fun i=>l.length-i.1) (c:=lpC qIn_k) (k:=lpR qIn_k) (by kernel_rfl) (fun i ih ac y b hs=>?_) ⟨0,Nat.zero_le _,rfl⟩ hs1
  obtain ⟨i,hi,hall⟩:=i
  simp only at ih hs
  by_cases h5:i<l.length
  · rw[all_drop (gateB v) gate0 l i h5] at hall
    have hg:∃g,g=l.getD i gate0:=⟨_,rfl⟩
    obtain ⟨g,hg⟩:=hg
    rw[←hg] at hall
    have hgb:gateB v g=(wireB v g.a && wireB v g.b && wireB v g.c):=rfl
    rw[hgb] at hall
    clear hi
    by_cases a1:g.a < -1
    · have w:wireB v g.a=false:=by simp only[wireB,Bool.and_eq_false_iff,decide_eq_false_iff_not];omega
      exact run_end env1_ok hk hF (qA1_end l p v i) (by simp only[AllP,and_true,decide_eq_true_eq,decide_eq_false_iff_not,Int.toNat_natCast,wrap01,wrap12,wrap23,←hg];omega) (fun y w' hd=>lit_bool (by simp [rightB,hall,w]) hd) hs
    by_cases c1:g.a ≥ v
    · have w:wireB v g.a=false:=by simp only[wireB,Bool.and_eq_false_iff,decide_eq_false_iff_not];omega
      exact run_end env1_ok hk hF (qC1_end l p v i) (by simp only[AllP,and_true,decide_eq_true_eq,decide_eq_false_iff_not,Int.toNat_natCast,wrap01,wrap12,wrap23,←hg];omega) (fun y w' hd=>lit_bool (by simp [rightB,hall,w]) hd) hs
    have w1:wireB v g.a=true:=by simp only[wireB,Bool.and_eq_true,decide_eq_true_eq];omega
    by_cases a2:g.b < -1
    · have w:wireB v g.b=false:=by simp only[wireB,Bool.and_eq_false_iff,decide_eq_false_iff_not];omega
      exact run_end env1_ok hk hF (qA2_end l p v i) (by simp only[AllP,and_true,decide_eq_true_eq,decide_eq_false_iff_not,Int.toNat_natCast,wrap01,wrap12,wrap23,←hg];omega) (fun y w' hd=>lit_bool (by simp [rightB,hall,w]) hd) hs
    by_cases c2:g.b ≥ v
    · have w:wireB v g.b=false:=by simp only[wireB,Bool.and_eq_false_iff,decide_eq_false_iff_not];omega
      exact run_end env1_ok hk hF (qC2_end l p v i) (by simp only[AllP,and_true,decide_eq_true_eq,decide_eq_false_iff_not,Int.toNat_natCast,wrap01,wrap12,wrap23,←hg];omega) (fun y w' hd=>lit_bool (by simp [rightB,hall,w]) hd) hs
    have w2:wireB v g.b=true:=by simp only[wireB,Bool.and_eq_true,decide_eq_true_eq];omega
    by_cases a3:g.c < -1
    · have w:wireB v g.c=false:=by simp only[wireB,Bool.and_eq_false_iff,decide_eq_false_iff_not];omega
      exact run_end env1_ok hk hF (qA3_end l p v i) (by simp only[AllP,and_true,decide_eq_true_eq,decide_eq_false_iff_not,Int.toNat_natCast,wrap01,wrap12,wrap23,←hg];omega) (fun y w' hd=>lit_bool (by simp [rightB,hall,w]) hd) hs
    by_cases c3:g.c ≥ v
    · have w:wireB v g.c=false:=by simp only[wireB,Bool.and_eq_false_iff,decide_eq_false_iff_not];omega
      exact run_end env1_ok hk hF (qC3_end l p v i) (by simp only[AllP,and_true,decide_eq_true_eq,decide_eq_false_iff_not,Int.toNat_natCast,wrap01,wrap12,wrap23,←hg];omega) (fun y w' hd=>lit_bool (by simp [rightB,hall,w]) hd) hs
    have w3:wireB v g.c=true:=by simp only[wireB,Bool.and_eq_true,decide_eq_true_eq];omega
    refine qNx l p v i (by simp only[AllP,and_true,decide_eq_true_eq,decide_eq_false_iff_not,Int.toNat_natCast,wrap01,wrap12,wrap23,←hg];omega) hs fun ac y b hs2=>?_
    rw[wrap_id (by omega) (by omega)] at hs2
    exact ih ⟨i+1,h5,by rw[hall,w1,w2,w3];rfl⟩ (by show l.length-(i+1)<l.length-i;omega) ac y b (hs2.nx _)
  · have hall:l.all (gateB v)=true:=by rw[hall,List.drop_eq_nil_of_le (by omega)];rfl
    have hrb:rightB l p v=(decide (l.length≤4096) && decide (0≤p) && decide (p≤l.length) && decide (0≤v)):=by simp [rightB,hall]
    by_cases k1:l.length≤4096
    · by_cases k2:0≤p
      · by_cases k3:p≤l.length
        · refine run_end env1_ok hk hF (qX1_end l p v i) (by simp only[AllP,and_true,decide_eq_true_eq,decide_eq_false_iff_not];omega) (fun y w hd=>?_) hs
          rw[show rightB l p v=decide (v ≥ (0:Int)) from by rw[hrb];simp [k1,k2,k3]];exact hd
        · exact run_end env1_ok hk hF (qX2_end l p v i) (by simp only[AllP,and_true,decide_eq_true_eq,decide_eq_false_iff_not];omega) (fun y w hd=>lit_bool (by rw[hrb];simp [k3]) hd) hs
      · exact run_end env1_ok hk hF (qX3_end l p v i) (by simp only[AllP,and_true,decide_eq_true_eq,decide_eq_false_iff_not];omega) (fun y w hd=>lit_bool (by rw[hrb];simp [k2]) hd) hs
    · exact run_end env1_ok hk hF (qX4_end l p v i) (by simp only[AllP,and_true,decide_eq_true_eq,decide_eq_false_iff_not];omega) (fun y w hd=>lit_bool (by rw[hrb];simp [k1]) hd) hs

end Go.Proofs.Ytobdghmmbddfnaa

/- The document's numbers as elements of the field. No conditions. -/
namespace Go.Proofs.Ytobdghmmbddfnaa

def mulU (a b:U4):U4:=Fin.ofNat B4 (a.val*b.val % rN)
theorem outF_lt (x:Fr):(outF x).val<rN:=by rw[outF_val];exact x.isLt
theorem in_out (x:Fr):inF (outF x)=x:=by
  apply Fin.ext
  show (outF x).val % rN=x.val
  rw[outF_val,Nat.mod_eq_of_lt x.isLt]
theorem out_in {a:U4} (h:a.val<rN):outF (inF a)=a:=by
  apply Fin.ext
  rw[outF_val]
  exact Nat.mod_eq_of_lt h
theorem mulU_out (x y:Fr):mulU (outF x) (outF y)=outF (x*y):=by
  apply Fin.ext
  rw[outF_val]
  show ((outF x).val*(outF y).val % rN) % B4=(x*y).val
  rw[outF_val,outF_val]
  exact Nat.mod_eq_of_lt (Nat.lt_trans (Nat.mod_lt _ (by decide)) (by decide))
theorem clean_out (a:U4):cleanU a=outF (inF a):=by
  apply Fin.ext
  rw[cleanU_val,outF_val]
  rfl
theorem addU_out (x y:Fr):cleanU (outF x+outF y)=outF (x+y):=by
  apply Fin.ext
  rw[clean_add_val (outF_lt x) (outF_lt y),outF_val,outF_val,outF_val]
  rfl
theorem outF_zero (x:Fr):outF x=0↔x=0:=by
  refine ⟨fun e=>Fin.ext ?_,fun e=>?_⟩
  · have:=congrArg Fin.val e
    rw[outF_val] at this
    exact this
  · subst e
    apply Fin.ext
    rw[outF_val]
    rfl
theorem neg_arith {r B n:Nat} (h0:0<n) (h:n<r) (hb:r<B):(B-n+r) % B=(r-n) % r:=by
  rw[Nat.mod_eq_of_lt (a:=r-n) (by omega),show B-n+r=(r-n)+B from by omega,Nat.add_mod_right,Nat.mod_eq_of_lt (by omega)]
theorem negU_val {x:Fr} (h:x≠0):rU-outF x=outF (0-x):=by
  apply Fin.ext
  have hx:0<x.val:=Nat.pos_of_ne_zero fun e=>h (Fin.ext e)
  have hlt:=x.isLt
  have e1:(rU-outF x).val=(B4-(outF x).val+rU.val) % B4:=rfl
  have e2:(0-x).val=(rN-x.val+(0:Fr).val) % rN:=rfl
  have e3:(0:Fr).val=0:=rfl
  have hb:rN<B4:=by decide
  rw[e1,outF_val,outF_val,e2,e3,rU_val,Nat.add_zero]
  exact neg_arith hx hlt hb
theorem refNeg_out (x:Fr):FnD Try.prog 34 [.v (.a [.ob (.fr (outF x))])] (.v (.a [.ob (.fr (outF (0-x)))])) []:=by
  by_cases h:x=0
  · subst h
    have e:outF (0:Fr)=0:=by apply Fin.ext;rw[outF_val];rfl
    have e2:(0:Fr)-0=0:=Fin.ext (by show (rN-0+0) % rN=0;rw[Nat.add_zero,Nat.sub_zero,Nat.mod_self])
    have r:=negA (outF 0)
    rw[e2]
    exact fn_sound envJ_ok Try.func34 r ⟨by rw[if_pos rfl,e];rfl,trivial⟩
  · have r:=negB (outF x)
    rw[negU_val h] at r
    have hne:outF x≠0:=fun e=>h (Fin.ext (by have:=congrArg Fin.val e;rw[outF_val] at this;exact this))
    exact fn_sound envJ_ok Try.func34 r ⟨by rw[if_pos rfl,decide_eq_false hne],trivial⟩
theorem refNeg_fnd (a:U4) (h:a.val<rN):FnD Try.prog 34 [.v (.a [.ob (.fr a)])] (.v (.a [.ob (.fr (outF (0-inF a)))])) []:=by
  have:=refNeg_out (inF a)
  rw[out_in h] at this
  exact this

/-- What lies on a wire. -/
def wireF (l:List U4) (i:Int):Fr:=if i<0 then 0 else inF (l.getD i.toNat 0)
end Go.Proofs.Ytobdghmmbddfnaa

/- Wires and gates, walked. No conditions. -/
namespace Go.Proofs.Ytobdghmmbddfnaa

noncomputable def hA:Env:=envK.or env1
theorem hA_ok:EnvOk Try.prog hA:=env_or envK_ok env1_ok
noncomputable def right18Spec:FnSpec
  | [.v (.a [.sl (.gate l),.int .i64 p,.int .i64 v])]=>some ([],.v (.c (.bool (rightB l p v))),[])
  | _=>none
noncomputable def hB:Env:=hA.set (addT hA.fn 18 right18Spec)
theorem hB_ok:EnvOk Try.prog hB:=env_add hA_ok 18 right18Spec (enters_of Try.func18 rfl rfl) fun args o r es h _=>by
  unfold right18Spec at h
  split at h
  · cases h;exact right18_fnd _ _ _
  · cases h
noncomputable def mulUSpec:FnSpec
  | [.v (.a [.ob (.fr a)]),.v (.a [.ob (.fr b)])]=>some ([b.val<rN],.v (.a [.ob (.fr (mulU a b))]),[])
  | _=>none
noncomputable def hC:Env:=hB.set (addT hB.fn 73 mulUSpec)
theorem hC_ok:EnvOk Try.prog hC:=env_add hB_ok 73 mulUSpec (enters_of Try.func73 rfl rfl) fun args o r es h ho=>by
  unfold mulUSpec at h
  split at h
  · cases h;exact mulU_fnd _ _ ho.1
  · cases h
noncomputable def negSpec34:FnSpec
  | [.v (.a [.ob (.fr a)])]=>some ([a.val<rN],.v (.a [.ob (.fr (outF (0-inF a)))]),[])
  | _=>none
noncomputable def hD:Env:=hC.set (addT hC.fn 34 negSpec34)
theorem hD_ok:EnvOk Try.prog hD:=env_add hC_ok 34 negSpec34 (enters_of Try.func34 rfl rfl) fun args o r es h ho=>by
  unfold negSpec34 at h
  split at h
  · cases h;exact refNeg_fnd _ ho.1
  · cases h
--@env hD hD_ok
theorem wrA (l:List U4) (i:Int):fnRes hD Try.f71 3000 [.v (.c (.sl (.fr l))),.v (.c (.int .i64 i))] [true] [] []=(some ([((decide (i<(0:Int)))=true)],((.v (.a [(.ob (.fr (0:U4)))])),[]))):=by kernel_rfl
theorem wrB (l:List U4) (i:Int):fnRes hD Try.f71 3000 [.v (.c (.sl (.fr l))),.v (.c (.int .i64 i))] [false] [] []=(some ([((decide (i<(0:Int)))=false),((0:Int)≤i),(i<(((List.length l):Nat):Int))],((.v (.a [(.ob (.fr (cleanU (List.getD l (i).toNat (0:U4)))))])),[]))):=by kernel_rfl
theorem wiA (l:List U4) (i:Int):fnRes hD Try.f28 3000 [.v (.c (.int .i64 i)),.v (.c (.rp (.frs [l]) 0 0))] [true] [] []=(some ([((decide (i<(0:Int)))=true)],((.v (.a [(.ob (.s (0:Fr)))])),[]))):=by kernel_rfl
theorem wiB (l:List U4) (i:Int):fnRes hD Try.f28 3000 [.v (.c (.int .i64 i)),.v (.c (.rp (.frs [l]) 0 0))] [false] [] []=(some ([((decide (i<(0:Int)))=false),((0:Int)≤i),(i<(((List.length l):Nat):Int))],((.v (.a [(.ob (.s (inF (List.getD l (i).toNat (0:U4)))))])),[]))):=by kernel_rfl
end Go.Proofs.Ytobdghmmbddfnaa

/- Which gates values meet: the reference's one gate, walked. No conditions. -/
namespace Go.Proofs.Ytobdghmmbddfnaa
section
variable {w0:World} {F0:Nat→Prop} {K:Kp} {ac:List Act} {Q:Exit→Act→World→Prop} {cX:Ctx} {aX:Act}

theorem wire_fnd (l:List U4) (i:Int) (h:i<l.length):FnD Try.prog 71 [.v (.c (.sl (.fr l))),.v (.c (.int .i64 i))] (.v (.a [.ob (.fr (outF (wireF l i)))])) []:=by
  by_cases h0:i<0
  · have e:wireF l i=0:=if_pos h0
    have r:=wrA l i
    rw[e,(outF_zero 0).2 rfl]
    exact fn_sound hD_ok Try.func71 r ⟨decide_eq_true h0,trivial⟩
  · have e:wireF l i=inF (l.getD i.toNat 0):=if_neg h0
    have r:=wrB l i
    rw[clean_out] at r
    rw[e]
    exact fn_sound hD_ok Try.func71 r ⟨decide_eq_false h0,by omega,h,trivial⟩
theorem wire2_fnd (l:List U4) (i:Int) (h:i<l.length):FnD Try.prog 28 [.v (.c (.int .i64 i)),.v (.c (.rp (.frs [l]) 0 0))] (.v (.a [.ob (.s (wireF l i))])) []:=by
  by_cases h0:i<0
  · have e:wireF l i=0:=if_pos h0
    rw[e]
    exact fn_sound hD_ok Try.func28 (wiA l i) ⟨decide_eq_true h0,trivial⟩
  · have e:wireF l i=inF (l.getD i.toNat 0):=if_neg h0
    rw[e]
    exact fn_sound hD_ok Try.func28 (wiB l i) ⟨decide_eq_false h0,by omega,h,trivial⟩
noncomputable def wireSpec:FnSpec
  | [.v (.c (.sl (.fr l))),.v (.c (.int .i64 i))]=>some ([i<l.length],.v (.a [.ob (.fr (outF (wireF l i)))]),[])
  | _=>none
noncomputable def hwA:Env:=hD.set (addT hD.fn 71 wireSpec)
theorem hwA_ok:EnvOk Try.prog hwA:=env_add hD_ok 71 wireSpec (enters_of Try.func71 rfl rfl) fun args o r es h ho=>by
  unfold wireSpec at h
  split at h
  · cases h;exact wire_fnd _ _ ho.1
  · cases h
noncomputable def wireSpec2:FnSpec
  | [.v (.c (.int .i64 i)),.v (.c (.rp (.frs [l]) 0 0))]=>some ([i<l.length],.v (.a [.ob (.s (wireF l i))]),[])
  | _=>none
noncomputable def hwB:Env:=hwA.set (addT hwA.fn 28 wireSpec2)
theorem hwB_ok:EnvOk Try.prog hwB:=env_add hwA_ok 28 wireSpec2 (enters_of Try.func28 rfl rfl) fun args o r es h ho=>by
  unfold wireSpec2 at h
  split at h
  · cases h;exact wire2_fnd _ _ ho.1
  · cases h
--@env hwB hwB_ok
theorem meR (g:GateD) (l:List U4) (p:U4):fnRes hwB Try.f35 3000 [.v (.a g.its),.v (.c (.sl (.fr l))),.v (.a [.ob (.fr p)])] [] [] []=(some ([((0:Int)≤(0:Int)),((0:Int)<(3:Int)),((GateD.a g)<(((List.length l):Nat):Int)),((0:Int)≤(1:Int)),((1:Int)<(3:Int)),((GateD.b g)<(((List.length l):Nat):Int)),((0:Int)≤(2:Int)),((2:Int)<(3:Int)),((GateD.c g)<(((List.length l):Nat):Int)),((Fin.val (outF (wireF l (GateD.b g))))<rN),((Fin.val (mulU (outF (wireF l (GateD.a g))) (outF (wireF l (GateD.b g)))))<rN),((Fin.val (outF (wireF l (GateD.a g))))<rN),((Fin.val (outF (wireF l (GateD.b g))))<rN),((Fin.val (outF (wireF l (GateD.c g))))<rN)],((.v (.c (.bool (ite (true=true) (decide ((cleanU ((cleanU ((cleanU ((cleanU ((cleanU (p+(cleanU (GateD.qc g))))+(mulU (cleanU (GateD.qm g)) (mulU (outF (wireF l (GateD.a g))) (outF (wireF l (GateD.b g)))))))+(mulU (cleanU (GateD.ql g)) (outF (wireF l (GateD.a g))))))+(mulU (cleanU (GateD.qr g)) (outF (wireF l (GateD.b g))))))+(mulU (cleanU (GateD.qo g)) (outF (wireF l (GateD.c g))))))=(0:U4))) (Bool.not (decide ((cleanU ((cleanU ((cleanU ((cleanU ((cleanU (p+(cleanU (GateD.qc g))))+(mulU (cleanU (GateD.qm g)) (mulU (outF (wireF l (GateD.a g))) (outF (wireF l (GateD.b g)))))))+(mulU (cleanU (GateD.ql g)) (outF (wireF l (GateD.a g))))))+(mulU (cleanU (GateD.qr g)) (outF (wireF l (GateD.b g))))))+(mulU (cleanU (GateD.qo g)) (outF (wireF l (GateD.c g))))))=(0:U4)))))))),[]))):=by kernel_rfl
theorem hoA (l:List GateD) (p v:Int) (V P:List U4):fnRes hwB Try.f15 3000 [circV l p v,.v (.c (.sl (.fr V))),.v (.c (.sl (.fr P)))] [true] [] []=(some ([((Bool.not (rightB l p v))=true)],((.t [(.c (.int .i64 (0:Int))),(.c (.int .i64 (1:Int)))]),[]))):=by kernel_rfl
theorem hoB (l:List GateD) (p v:Int) (V P:List U4):fnRes hwB Try.f15 3000 [circV l p v,.v (.c (.sl (.fr V))),.v (.c (.sl (.fr P)))] [false,true,true] [] []=(some ([((Bool.not (rightB l p v))=false),(((((List.length V):Nat):Int) != v)=true)],((.t [(.c (.int .i64 (0:Int))),(.c (.int .i64 (3:Int)))]),[]))):=by kernel_rfl
theorem hoC (l:List GateD) (p v:Int) (V P:List U4):fnRes hwB Try.f15 3000 [circV l p v,.v (.c (.sl (.fr V))),.v (.c (.sl (.fr P)))] [false,false,true] [] []=(some ([((Bool.not (rightB l p v))=false),(((((List.length V):Nat):Int) != v)=false),(((((List.length P):Nat):Int) != p)=true)],((.t [(.c (.int .i64 (0:Int))),(.c (.int .i64 (3:Int)))]),[]))):=by kernel_rfl
noncomputable def hs_k:List KI:=(run hwB false 3000 ((fun (l:List GateD) (p v:Int) (V P:List U4)=>(⟨[.code (bodyOf Try.f15)],.normal,initSt Try.f15.ntmps [circV l p v,.v (.c (.sl (.fr V))),.v (.c (.sl (.fr P)))]⟩:Cfg)) default default default default default) [false,false,false]).cfg.k
theorem hs_hk (l:List GateD) (p v:Int) (V P:List U4):(run hwB false 3000 ((⟨[.code (bodyOf Try.f15)],.normal,initSt Try.f15.ntmps [circV l p v,.v (.c (.sl (.fr V))),.v (.c (.sl (.fr P)))]⟩:Cfg)) [false,false,false]).cfg.k=hs_k:=by kernel_rfl
theorem hs (l:List GateD) (p v:Int) (V P:List U4) (ho:AllP [((Bool.not (rightB l p v))=false),(((((List.length V):Nat):Int) != v)=false),(((((List.length P):Nat):Int) != p)=false)]) (hs:Sim w0 F0 K ac (initSt Try.f15.ntmps [circV l p v,.v (.c (.sl (.fr V))),.v (.c (.sl (.fr P)))]) cX aX) (hK:∀ac cY aY,Sim w0 F0 K ac (mkSt 101 [2,3,8,34,35,36] [(.v (.c (.sl (.fr P)))),.pt 16 0,(.v (.c (.clo 28 [(32,0)]))),(.v (.c (.sl (Sq.gate l)))),(.ii (((List.length l):Nat):Int)),.ii (0:Int)] [16,32] [(some (.fl [(.sl (Sq.gate l)),(.int .i64 p),(.int .i64 v)])),(some (.fl [.sl (.fr V)]))] 448 [] []) cY aY→Wq Try.prog Q (hs_k) ac Exit.normal aY cY.w):Wq Try.prog Q ([.code (bodyOf Try.f15)]) ac .normal aX cX.w:=
  run_at2 (o:=⟨_,_,_,_,_,_,_⟩) hwB_ok (by kernel_rfl) (hs_hk l p v V P) ho hs hK
noncomputable def hsS (l:List GateD) (p v:Int) (V P:List U4) (i:Int):St:=mkSt 101 [2,3,8,34,35,36] [(.v (.c (.sl (.fr P)))),.pt 16 0,(.v (.c (.clo 28 [(32,0)]))),(.v (.c (.sl (Sq.gate l)))),(.ii (((List.length l):Nat):Int)),.v (.c (.int .i64 i))] [16,32] [(some (.fl [(.sl (Sq.gate l)),(.int .i64 p),(.int .i64 v)])),(some (.fl [.sl (.fr V)]))] 448 [] []
theorem hsN_hk (l:List GateD) (p v:Int) (V P:List U4) (i:Int):(run hwB false 3000 ((⟨lpIn hs_k,.normal,hsS l p v V P i⟩:Cfg)) [true,true,false]).cfg.k=lpBk hs_k:=by kernel_rfl
theorem hsN (l:List GateD) (p v:Int) (V P:List U4) (i:Int) (ho:AllP [((decide (i<(((List.length l):Nat):Int)))=true),((0:Int)≤i),(i<(((List.length l):Nat):Int)),((0:Int)≤(0:Int)),((0:Int)<(3:Int)),((GateD.a (List.getD l (i).toNat gate0))<(((List.length V):Nat):Int)),((0:Int)≤(1:Int)),((1:Int)<(3:Int)),((GateD.b (List.getD l (i).toNat gate0))<(((List.length V):Nat):Int)),((0:Int)≤(2:Int)),((2:Int)<(3:Int)),((GateD.c (List.getD l (i).toNat gate0))<(((List.length V):Nat):Int)),((decide (i<p))=true),((0:Int)≤i),(i<(((List.length P):Nat):Int)),((Bool.not (decide (((((((((inF (GateD.qm (List.getD l (i).toNat gate0)))*(wireF V (GateD.a (List.getD l (i).toNat gate0))))*(wireF V (GateD.b (List.getD l (i).toNat gate0))))+((inF (GateD.ql (List.getD l (i).toNat gate0)))*(wireF V (GateD.a (List.getD l (i).toNat gate0)))))+((inF (GateD.qr (List.getD l (i).toNat gate0)))*(wireF V (GateD.b (List.getD l (i).toNat gate0)))))+((inF (GateD.qo (List.getD l (i).toNat gate0)))*(wireF V (GateD.c (List.getD l (i).toNat gate0)))))+(inF (GateD.qc (List.getD l (i).toNat gate0))))-(inF (List.getD P (i).toNat (0:U4))))=(0:Fr))))=false)]) (hs:Sim w0 F0 K ac (hsS l p v V P i) cX aX) (hK:∀ac cY aY,Sim w0 F0 K ac (mkSt 101 [2,3,8,34,35,36] [(.v (.c (.sl (.fr P)))),.pt 16 0,(.v (.c (.clo 28 [(32,0)]))),(.v (.c (.sl (Sq.gate l)))),(.ii (((List.length l):Nat):Int)),(.ii (IntKind.wrap .i64 (i+(1:Int))))] [16,32] [(some (.fl [(.sl (Sq.gate l)),(.int .i64 p),(.int .i64 v)])),(some (.fl [.sl (.fr V)]))] 1664 [] []) cY aY→Wq Try.prog Q (lpBk hs_k) ac Exit.normal aY cY.w):Wq Try.prog Q (lpIn hs_k) ac .normal aX cX.w:=
  run_at2 (o:=⟨_,_,_,_,_,_,_⟩) hwB_ok (by kernel_rfl) (hsN_hk l p v V P i) ho hs hK
theorem hsM_hk (l:List GateD) (p v:Int) (V P:List U4) (i:Int):(run hwB false 3000 ((⟨lpIn hs_k,.normal,hsS l p v V P i⟩:Cfg)) [true,false,false]).cfg.k=lpBk hs_k:=by kernel_rfl
theorem hsM (l:List GateD) (p v:Int) (V P:List U4) (i:Int) (ho:AllP [((decide (i<(((List.length l):Nat):Int)))=true),((0:Int)≤i),(i<(((List.length l):Nat):Int)),((0:Int)≤(0:Int)),((0:Int)<(3:Int)),((GateD.a (List.getD l (i).toNat gate0))<(((List.length V):Nat):Int)),((0:Int)≤(1:Int)),((1:Int)<(3:Int)),((GateD.b (List.getD l (i).toNat gate0))<(((List.length V):Nat):Int)),((0:Int)≤(2:Int)),((2:Int)<(3:Int)),((GateD.c (List.getD l (i).toNat gate0))<(((List.length V):Nat):Int)),((decide (i<p))=false),((Bool.not (decide ((((((((inF (GateD.qm (List.getD l (i).toNat gate0)))*(wireF V (GateD.a (List.getD l (i).toNat gate0))))*(wireF V (GateD.b (List.getD l (i).toNat gate0))))+((inF (GateD.ql (List.getD l (i).toNat gate0)))*(wireF V (GateD.a (List.getD l (i).toNat gate0)))))+((inF (GateD.qr (List.getD l (i).toNat gate0)))*(wireF V (GateD.b (List.getD l (i).toNat gate0)))))+((inF (GateD.qo (List.getD l (i).toNat gate0)))*(wireF V (GateD.c (List.getD l (i).toNat gate0)))))+(inF (GateD.qc (List.getD l (i).toNat gate0))))=(0:Fr))))=false)]) (hs:Sim w0 F0 K ac (hsS l p v V P i) cX aX) (hK:∀ac cY aY,Sim w0 F0 K ac (mkSt 101 [2,3,8,34,35,36] [(.v (.c (.sl (.fr P)))),.pt 16 0,(.v (.c (.clo 28 [(32,0)]))),(.v (.c (.sl (Sq.gate l)))),(.ii (((List.length l):Nat):Int)),(.ii (IntKind.wrap .i64 (i+(1:Int))))] [16,32] [(some (.fl [(.sl (Sq.gate l)),(.int .i64 p),(.int .i64 v)])),(some (.fl [.sl (.fr V)]))] 1536 [] []) cY aY→Wq Try.prog Q (lpBk hs_k) ac Exit.normal aY cY.w):Wq Try.prog Q (lpIn hs_k) ac .normal aX cX.w:=
  run_at2 (o:=⟨_,_,_,_,_,_,_⟩) hwB_ok (by kernel_rfl) (hsM_hk l p v V P i) ho hs hK
theorem hsE_end (l:List GateD) (p v:Int) (V P:List U4) (i:Int):runEnd hwB Try.f15 false 3000 (⟨lpIn hs_k,.normal,hsS l p v V P i⟩) [true,true,true] [] []=(some ([((decide (i<(((List.length l):Nat):Int)))=true),((0:Int)≤i),(i<(((List.length l):Nat):Int)),((0:Int)≤(0:Int)),((0:Int)<(3:Int)),((GateD.a (List.getD l (i).toNat gate0))<(((List.length V):Nat):Int)),((0:Int)≤(1:Int)),((1:Int)<(3:Int)),((GateD.b (List.getD l (i).toNat gate0))<(((List.length V):Nat):Int)),((0:Int)≤(2:Int)),((2:Int)<(3:Int)),((GateD.c (List.getD l (i).toNat gate0))<(((List.length V):Nat):Int)),((decide (i<p))=true),((0:Int)≤i),(i<(((List.length P):Nat):Int)),((Bool.not (decide (((((((((inF (GateD.qm (List.getD l (i).toNat gate0)))*(wireF V (GateD.a (List.getD l (i).toNat gate0))))*(wireF V (GateD.b (List.getD l (i).toNat gate0))))+((inF (GateD.ql (List.getD l (i).toNat gate0)))*(wireF V (GateD.a (List.getD l (i).toNat gate0)))))+((inF (GateD.qr (List.getD l (i).toNat gate0)))*(wireF V (GateD.b (List.getD l (i).toNat gate0)))))+((inF (GateD.qo (List.getD l (i).toNat gate0)))*(wireF V (GateD.c (List.getD l (i).toNat gate0)))))+(inF (GateD.qc (List.getD l (i).toNat gate0))))-(inF (List.getD P (i).toNat (0:U4))))=(0:Fr))))=true)],((.t [(.c (.int .i64 i)),(.c (.int .i64 (70:Int)))]),[]))):=by kernel_rfl
theorem hsF_end (l:List GateD) (p v:Int) (V P:List U4) (i:Int):runEnd hwB Try.f15 false 3000 (⟨lpIn hs_k,.normal,hsS l p v V P i⟩) [true,false,true] [] []=(some ([((decide (i<(((List.length l):Nat):Int)))=true),((0:Int)≤i),(i<(((List.length l):Nat):Int)),((0:Int)≤(0:Int)),((0:Int)<(3:Int)),((GateD.a (List.getD l (i).toNat gate0))<(((List.length V):Nat):Int)),((0:Int)≤(1:Int)),((1:Int)<(3:Int)),((GateD.b (List.getD l (i).toNat gate0))<(((List.length V):Nat):Int)),((0:Int)≤(2:Int)),((2:Int)<(3:Int)),((GateD.c (List.getD l (i).toNat gate0))<(((List.length V):Nat):Int)),((decide (i<p))=false),((Bool.not (decide ((((((((inF (GateD.qm (List.getD l (i).toNat gate0)))*(wireF V (GateD.a (List.getD l (i).toNat gate0))))*(wireF V (GateD.b (List.getD l (i).toNat gate0))))+((inF (GateD.ql (List.getD l (i).toNat gate0)))*(wireF V (GateD.a (List.getD l (i).toNat gate0)))))+((inF (GateD.qr (List.getD l (i).toNat gate0)))*(wireF V (GateD.b (List.getD l (i).toNat gate0)))))+((inF (GateD.qo (List.getD l (i).toNat gate0)))*(wireF V (GateD.c (List.getD l (i).toNat gate0)))))+(inF (GateD.qc (List.getD l (i).toNat gate0))))=(0:Fr))))=true)],((.t [(.c (.int .i64 i)),(.c (.int .i64 (70:Int)))]),[]))):=by kernel_rfl
theorem hsX_end (l:List GateD) (p v:Int) (V P:List U4) (i:Int):runEnd hwB Try.f15 false 3000 (⟨lpIn hs_k,.normal,hsS l p v V P i⟩) [false] [] []=(some ([((decide (i<(((List.length l):Nat):Int)))=false)],((.t [(.c (.int .i64 (0:Int))),(.c (.int .i64 (0:Int)))]),[]))):=by kernel_rfl
end
end Go.Proofs.Ytobdghmmbddfnaa

/- Which gates values meet: contracts. No conditions. -/
namespace Go.Proofs.Ytobdghmmbddfnaa

/-- What a gate adds up to; whether it is met. -/
def gvF (g:GateD) (V:List U4):Fr:=inF g.qm*wireF V g.a*wireF V g.b+inF g.ql*wireF V g.a+inF g.qr*wireF V g.b+inF g.qo*wireF V g.c+inF g.qc
def metB (V P:List U4) (p:Int) (g:GateD) (i:Nat):Bool:=if (i:Int)<p then decide (gvF g V-inF (P.getD i 0)=0) else decide (gvF g V=0)
/-- The first gate that is not met. -/
def missF (V P:List U4) (p:Int):List GateD→Nat→Int×Int
  | [],_=>(0,0)
  | g::l,i=>if metB V P p g i then missF V P p l (i+1) else ((i:Int),70)
def holdR (l:List GateD) (p v:Int) (V P:List U4):Int×Int:=if rightB l p v then if (V.length:Int)=v∧(P.length:Int)=p then missF V P p l 0 else (0,3) else (0,1)
theorem missF_drop (V P:List U4) (p:Int) (l:List GateD) (i:Nat) (h:i<l.length):missF V P p (l.drop i) i=if metB V P p (l.getD i gate0) i then missF V P p (l.drop (i+1)) (i+1) else ((i:Int),70):=by
  rw[List.drop_eq_getElem_cons h]
  have e:l.getD i gate0=l[i]:=by simp [List.getD,h]
  rw[e]
  rfl
theorem right_parts {l:List GateD} {p v:Int} (h:rightB l p v=true):l.length≤4096∧∀i,i<l.length→(l.getD i gate0).a<v∧(l.getD i gate0).b<v∧(l.getD i gate0).c<v:=by
  unfold rightB at h
  simp only[Bool.and_eq_true,decide_eq_true_eq] at h
  obtain ⟨⟨⟨⟨h1,h2⟩,h3⟩,h4⟩,h5⟩:=h
  refine ⟨h1,fun i hi=>?_⟩
  have hm:l.getD i gate0∈l:=by
    have e:l.getD i gate0=l[i]:=by simp [List.getD,hi]
    rw[e]
    exact List.getElem_mem _
  have hg:=List.all_eq_true.1 h5 _ hm
  unfold gateB wireB at hg
  simp only[Bool.and_eq_true,decide_eq_true_eq] at hg
  exact ⟨hg.1.1.2,hg.1.2.2,hg.2.2⟩

theorem holds_fnd (l:List GateD) (p v:Int) (V P:List U4):FnD Try.prog 15 [circV l p v,.v (.c (.sl (.fr V))),.v (.c (.sl (.fr P)))] (.t [.c (.int .i64 (holdR l p v V P).1),.c (.int .i64 (holdR l p v V P).2)]) []:=by
  by_cases hr:rightB l p v=true
  · by_cases h1:(V.length:Int)=v
    · by_cases h2:(P.length:Int)=p
      · have eR:holdR l p v V P=missF V P p l 0:=by unfold holdR;rw[if_pos hr,if_pos ⟨h1,h2⟩]
        rw[eR]
        obtain ⟨hl,hw⟩:=right_parts hr
        refine fn_start (fn:=Try.f15) (c:=bodyOf Try.f15) Try.func15 rfl rfl fun x0 a0 hk hF hs0=>?_
        refine hs l p v V P ⟨by rw[hr];rfl,by simp [h1],by simp [h2],trivial⟩ hs0 fun ac cY aY hs1=>?_
        refine loop_rule (ι:={ i:Nat // i≤l.length∧missF V P p (l.drop i) i=missF V P p l 0 }) (fun i=>hsS l p v V P (i.1:Int)) (fun i=>l.length-i.1) (c:=lpC hs_k) (k:=lpR hs_k) (by kernel_rfl) (fun i ih ac cY aY hs=>?_) ⟨0,Nat.zero_le _,rfl⟩ (hs1.nx _)
        obtain ⟨i,hi,he⟩:=i
        simp only at ih hs
        by_cases hin:i<l.length
        · obtain ⟨w1,w2,w3⟩:=hw i hin
          rw[missF_drop V P p l i hin] at he
          have ew:IntKind.wrap IntKind.i64 ((i:Int)+1)=((i+1:Nat):Int):=by rw[wrap_id (by omega) (by omega)];omega
          by_cases hp:(i:Int)<p
          · by_cases hz:gvF (l.getD i gate0) V-inF (P.getD i 0)=0
            · have hm:metB V P p (l.getD i gate0) i=true:=by unfold metB;rw[if_pos hp];exact decide_eq_true hz
              rw[hm,if_pos rfl] at he
              refine hsN l p v V P i ⟨decide_eq_true (by omega),by omega,by omega,by decide,by decide,by rw[Int.toNat_natCast];omega,by decide,by decide,by rw[Int.toNat_natCast];omega,by decide,by decide,by rw[Int.toNat_natCast];omega,decide_eq_true hp,by omega,by omega,by rw[Int.toNat_natCast];exact congrArg Bool.not (decide_eq_true hz),trivial⟩ hs fun ac cU aU hs2=>?_
              rw[ew] at hs2
              exact ih ⟨i+1,hin,he⟩ (by show l.length-(i+1)<l.length-i;omega) ac cU aU (hs2.nx _)
            · have hm:metB V P p (l.getD i gate0) i=false:=by unfold metB;rw[if_pos hp];exact decide_eq_false hz
              rw[hm,if_neg Bool.false_ne_true] at he
              rw[←he]
              exact run_end2 hwB_ok hk hF (hsE_end l p v V P i) ⟨decide_eq_true (by omega),by omega,by omega,by decide,by decide,by rw[Int.toNat_natCast];omega,by decide,by decide,by rw[Int.toNat_natCast];omega,by decide,by decide,by rw[Int.toNat_natCast];omega,decide_eq_true hp,by omega,by omega,by rw[Int.toNat_natCast];exact congrArg Bool.not (decide_eq_false hz),trivial⟩ (fun y w hd=>hd) hs
          · by_cases hz:gvF (l.getD i gate0) V=0
            · have hm:metB V P p (l.getD i gate0) i=true:=by unfold metB;rw[if_neg hp];exact decide_eq_true hz
              rw[hm,if_pos rfl] at he
              refine hsM l p v V P i ⟨decide_eq_true (by omega),by omega,by omega,by decide,by decide,by rw[Int.toNat_natCast];omega,by decide,by decide,by rw[Int.toNat_natCast];omega,by decide,by decide,by rw[Int.toNat_natCast];omega,decide_eq_false hp,by rw[Int.toNat_natCast];exact congrArg Bool.not (decide_eq_true hz),trivial⟩ hs fun ac cU aU hs2=>?_
              rw[ew] at hs2
              exact ih ⟨i+1,hin,he⟩ (by show l.length-(i+1)<l.length-i;omega) ac cU aU (hs2.nx _)
            · have hm:metB V P p (l.getD i gate0) i=false:=by unfold metB;rw[if_neg hp];exact decide_eq_false hz
              rw[hm,if_neg Bool.false_ne_true] at he
              rw[←he]
              exact run_end2 hwB_ok hk hF (hsF_end l p v V P i) ⟨decide_eq_true (by omega),by omega,by omega,by decide,by decide,by rw[Int.toNat_natCast];omega,by decide,by decide,by rw[Int.toNat_natCast];omega,by decide,by decide,by rw[Int.toNat_natCast];omega,decide_eq_false hp,by rw[Int.toNat_natCast];exact congrArg Bool.not (decide_eq_false hz),trivial⟩ (fun y w hd=>hd) hs
        · obtain rfl:i=l.length:=by omega
          rw[List.drop_length] at he
          rw[←he]
          exact run_end2 hwB_ok hk hF (hsX_end l p v V P _) ⟨decide_eq_false (by omega),trivial⟩ (fun y w hd=>hd) hs
      · have eR:holdR l p v V P=(0,3):=by unfold holdR;rw[if_pos hr,if_neg fun h=>h2 h.2]
        rw[eR]
        exact fn_sound hwB_ok Try.func15 (hoC l p v V P) ⟨by rw[hr];rfl,by simp [h1],by simpa using h2,trivial⟩
    · have eR:holdR l p v V P=(0,3):=by unfold holdR;rw[if_pos hr,if_neg fun h=>h1 h.1]
      rw[eR]
      exact fn_sound hwB_ok Try.func15 (hoB l p v V P) ⟨by rw[hr];rfl,by simpa using h1,trivial⟩
  · have hr:rightB l p v=false:=Bool.eq_false_iff.2 hr
    have eR:holdR l p v V P=(0,1):=by unfold holdR;rw[hr];rfl
    rw[eR]
    exact fn_sound hwB_ok Try.func15 (hoA l p v V P) ⟨by rw[hr];rfl,trivial⟩

/-- The same, as the document adds it up. -/
def metS (g:GateD) (V:List U4) (x:Fr):Fr:=x+inF g.qc+inF g.qm*(wireF V g.a*wireF V g.b)+inF g.ql*wireF V g.a+inF g.qr*wireF V g.b+inF g.qo*wireF V g.c
theorem met_alg {r:Nat} [NeZero r] (m l s o c x y z p:Fin r):0-p+c+m*(x*y)+l*x+s*y+o*z=m*x*y+l*x+s*y+o*z+c-p:=by grind
theorem met_alg0 {r:Nat} [NeZero r] (m l s o c x y z:Fin r):0+c+m*(x*y)+l*x+s*y+o*z=m*x*y+l*x+s*y+o*z+c:=by grind
theorem met_fnd (g:GateD) (V:List U4) (x:Fr) (h1:g.a<V.length) (h2:g.b<V.length) (h3:g.c<V.length):FnD Try.prog 35 [.v (.a g.its),.v (.c (.sl (.fr V))),.v (.a [.ob (.fr (outF x))])] (.v (.c (.bool (decide (metS g V x=0))))) []:=by
  have r:=meR g V (outF x)
  have e:cleanU (cleanU (cleanU (cleanU (cleanU (outF x+cleanU g.qc)+mulU (cleanU g.qm) (mulU (outF (wireF V g.a)) (outF (wireF V g.b))))+mulU (cleanU g.ql) (outF (wireF V g.a)))+mulU (cleanU g.qr) (outF (wireF V g.b)))+mulU (cleanU g.qo) (outF (wireF V g.c)))=outF (metS g V x):=by
    rw[clean_out g.qc,clean_out g.qm,clean_out g.ql,clean_out g.qr,clean_out g.qo,mulU_out,mulU_out,mulU_out,mulU_out,mulU_out,addU_out,addU_out,addU_out,addU_out,addU_out]
    rfl
  have e2:decide (outF (metS g V x)=0)=decide (metS g V x=0):=decide_eq_decide.2 (outF_zero _)
  rw[if_pos rfl,e,e2] at r
  exact fn_sound hwB_ok Try.func35 r ⟨by decide,by decide,h1,by decide,by decide,h2,by decide,by decide,h3,outF_lt _,by rw[mulU_out];exact outF_lt _,outF_lt _,outF_lt _,outF_lt _,trivial⟩
end Go.Proofs.Ytobdghmmbddfnaa

/- The reference's Holds, walked. No conditions. -/
namespace Go.Proofs.Ytobdghmmbddfnaa
section
variable {w0:World} {F0:Nat→Prop} {K:Kp} {ac:List Act} {Q:Exit→Act→World→Prop} {cX:Ctx} {aX:Act}

theorem met_fnd2 (g:GateD) (V:List U4) (p:U4) (h0:p.val<rN) (h1:g.a<V.length) (h2:g.b<V.length) (h3:g.c<V.length):FnD Try.prog 35 [.v (.a g.its),.v (.c (.sl (.fr V))),.v (.a [.ob (.fr p)])] (.v (.c (.bool (decide (metS g V (inF p)=0))))) []:=by
  have:=met_fnd g V (inF p) h1 h2 h3
  rw[out_in h0] at this
  exact this
noncomputable def metSpec:FnSpec
  | [.v (.a [.ob (.fr m),.ob (.fr l),.ob (.fr s),.ob (.fr o1),.ob (.fr c),.int .i64 x,.int .i64 y,.int .i64 z]),.v (.c (.sl (.fr V))),.v (.a [.ob (.fr p)])]=>some ([p.val<rN,x<V.length,y<V.length,z<V.length],.v (.c (.bool (decide (metS ⟨m,l,s,o1,c,x,y,z⟩ V (inF p)=0)))),[])
  | _=>none
noncomputable def hwC:Env:=hwB.set (addT hwB.fn 35 metSpec)
theorem hwC_ok:EnvOk Try.prog hwC:=env_add hwB_ok 35 metSpec (enters_of Try.func35 rfl rfl) fun args o r es h ho=>by
  unfold metSpec at h
  split at h
  · cases h;exact met_fnd2 ⟨_,_,_,_,_,_,_,_⟩ _ _ ho.1 ho.2.1 ho.2.2.1 ho.2.2.2.1
  · cases h
--@env hwC hwC_ok
theorem roA (l:List GateD) (p v:Int) (V P:List U4):fnRes hwC Try.f16 3000 [circV l p v,.v (.c (.sl (.fr V))),.v (.c (.sl (.fr P)))] [true] [] []=(some ([((Bool.not (rightB l p v))=true)],((.t [(.c (.int .i64 (0:Int))),(.c (.int .i64 (1:Int)))]),[]))):=by kernel_rfl
theorem roB (l:List GateD) (p v:Int) (V P:List U4):fnRes hwC Try.f16 3000 [circV l p v,.v (.c (.sl (.fr V))),.v (.c (.sl (.fr P)))] [false,true,true] [] []=(some ([((Bool.not (rightB l p v))=false),(((((List.length V):Nat):Int) != v)=true)],((.t [(.c (.int .i64 (0:Int))),(.c (.int .i64 (3:Int)))]),[]))):=by kernel_rfl
theorem roC (l:List GateD) (p v:Int) (V P:List U4):fnRes hwC Try.f16 3000 [circV l p v,.v (.c (.sl (.fr V))),.v (.c (.sl (.fr P)))] [false,false,true] [] []=(some ([((Bool.not (rightB l p v))=false),(((((List.length V):Nat):Int) != v)=false),(((((List.length P):Nat):Int) != p)=true)],((.t [(.c (.int .i64 (0:Int))),(.c (.int .i64 (3:Int)))]),[]))):=by kernel_rfl
noncomputable def ro_k:List KI:=(run hwC false 3000 ((fun (l:List GateD) (p v:Int) (V P:List U4)=>(⟨[.code (bodyOf Try.f16)],.normal,initSt Try.f16.ntmps [circV l p v,.v (.c (.sl (.fr V))),.v (.c (.sl (.fr P)))]⟩:Cfg)) default default default default default) [false,false,false]).cfg.k
theorem ro_hk (l:List GateD) (p v:Int) (V P:List U4):(run hwC false 3000 ((⟨[.code (bodyOf Try.f16)],.normal,initSt Try.f16.ntmps [circV l p v,.v (.c (.sl (.fr V))),.v (.c (.sl (.fr P)))]⟩:Cfg)) [false,false,false]).cfg.k=ro_k:=by kernel_rfl
theorem ro (l:List GateD) (p v:Int) (V P:List U4) (ho:AllP [((Bool.not (rightB l p v))=false),(((((List.length V):Nat):Int) != v)=false),(((((List.length P):Nat):Int) != p)=false)]) (hs:Sim w0 F0 K ac (initSt Try.f16.ntmps [circV l p v,.v (.c (.sl (.fr V))),.v (.c (.sl (.fr P)))]) cX aX) (hK:∀ac cY aY,Sim w0 F0 K ac (mkSt 52 [1,2,3,27,28,29] [(.v (.c (.sl (.fr V)))),(.v (.c (.sl (.fr P)))),.pt 16 0,(.v (.c (.sl (Sq.gate l)))),(.ii (((List.length l):Nat):Int)),.ii (0:Int)] [16] [(some (.fl [(.sl (Sq.gate l)),(.int .i64 p),(.int .i64 v)]))] 368 [] []) cY aY→Wq Try.prog Q (ro_k) ac Exit.normal aY cY.w):Wq Try.prog Q ([.code (bodyOf Try.f16)]) ac .normal aX cX.w:=
  run_at2 (o:=⟨_,_,_,_,_,_,_⟩) hwC_ok (by kernel_rfl) (ro_hk l p v V P) ho hs hK
noncomputable def roS (l:List GateD) (p v:Int) (V P:List U4) (i:Int):St:=mkSt 52 [1,2,3,27,28,29] [(.v (.c (.sl (.fr V)))),(.v (.c (.sl (.fr P)))),.pt 16 0,(.v (.c (.sl (Sq.gate l)))),(.ii (((List.length l):Nat):Int)),.v (.c (.int .i64 i))] [16] [(some (.fl [(.sl (Sq.gate l)),(.int .i64 p),(.int .i64 v)]))] 368 [] []
theorem roN_hk (l:List GateD) (p v:Int) (V P:List U4) (i:Int):(run hwC false 3000 ((⟨lpIn ro_k,.normal,roS l p v V P i⟩:Cfg)) [true,true,false]).cfg.k=lpBk ro_k:=by kernel_rfl
theorem roN (l:List GateD) (p v:Int) (V P:List U4) (i:Int) (ho:AllP [((decide (i<(((List.length l):Nat):Int)))=true),((0:Int)≤i),(i<(((List.length l):Nat):Int)),((decide (i<p))=true),((0:Int)≤i),(i<(((List.length P):Nat):Int)),((Fin.val (cleanU (List.getD P (i).toNat (0:U4))))<rN),((Fin.val (outF ((0:Fr)-(inF (cleanU (List.getD P (i).toNat (0:U4)))))))<rN),((GateD.a (List.getD l (i).toNat gate0))<(((List.length V):Nat):Int)),((GateD.b (List.getD l (i).toNat gate0))<(((List.length V):Nat):Int)),((GateD.c (List.getD l (i).toNat gate0))<(((List.length V):Nat):Int)),((Bool.not (decide ((metS (GateD.mk (GateD.qm (List.getD l (i).toNat gate0)) (GateD.ql (List.getD l (i).toNat gate0)) (GateD.qr (List.getD l (i).toNat gate0)) (GateD.qo (List.getD l (i).toNat gate0)) (GateD.qc (List.getD l (i).toNat gate0)) (GateD.a (List.getD l (i).toNat gate0)) (GateD.b (List.getD l (i).toNat gate0)) (GateD.c (List.getD l (i).toNat gate0))) V (inF (outF ((0:Fr)-(inF (cleanU (List.getD P (i).toNat (0:U4))))))))=(0:Fr))))=false)]) (hs:Sim w0 F0 K ac (roS l p v V P i) cX aX) (hK:∀ac cY aY,Sim w0 F0 K ac (mkSt 52 [1,2,3,27,28,29] [(.v (.c (.sl (.fr V)))),(.v (.c (.sl (.fr P)))),.pt 16 0,(.v (.c (.sl (Sq.gate l)))),(.ii (((List.length l):Nat):Int)),(.ii (IntKind.wrap .i64 (i+(1:Int))))] [16] [(some (.fl [(.sl (Sq.gate l)),(.int .i64 p),(.int .i64 v)]))] 816 [] []) cY aY→Wq Try.prog Q (lpBk ro_k) ac Exit.normal aY cY.w):Wq Try.prog Q (lpIn ro_k) ac .normal aX cX.w:=
  run_at2 (o:=⟨_,_,_,_,_,_,_⟩) hwC_ok (by kernel_rfl) (roN_hk l p v V P i) ho hs hK
theorem roM_hk (l:List GateD) (p v:Int) (V P:List U4) (i:Int):(run hwC false 3000 ((⟨lpIn ro_k,.normal,roS l p v V P i⟩:Cfg)) [true,false,false]).cfg.k=lpBk ro_k:=by kernel_rfl
theorem roM (l:List GateD) (p v:Int) (V P:List U4) (i:Int) (ho:AllP [((decide (i<(((List.length l):Nat):Int)))=true),((0:Int)≤i),(i<(((List.length l):Nat):Int)),((decide (i<p))=false),(0<rN),((GateD.a (List.getD l (i).toNat gate0))<(((List.length V):Nat):Int)),((GateD.b (List.getD l (i).toNat gate0))<(((List.length V):Nat):Int)),((GateD.c (List.getD l (i).toNat gate0))<(((List.length V):Nat):Int)),((Bool.not (decide ((metS (GateD.mk (GateD.qm (List.getD l (i).toNat gate0)) (GateD.ql (List.getD l (i).toNat gate0)) (GateD.qr (List.getD l (i).toNat gate0)) (GateD.qo (List.getD l (i).toNat gate0)) (GateD.qc (List.getD l (i).toNat gate0)) (GateD.a (List.getD l (i).toNat gate0)) (GateD.b (List.getD l (i).toNat gate0)) (GateD.c (List.getD l (i).toNat gate0))) V (inF (0:U4)))=(0:Fr))))=false)]) (hs:Sim w0 F0 K ac (roS l p v V P i) cX aX) (hK:∀ac cY aY,Sim w0 F0 K ac (mkSt 52 [1,2,3,27,28,29] [(.v (.c (.sl (.fr V)))),(.v (.c (.sl (.fr P)))),.pt 16 0,(.v (.c (.sl (Sq.gate l)))),(.ii (((List.length l):Nat):Int)),(.ii (IntKind.wrap .i64 (i+(1:Int))))] [16] [(some (.fl [(.sl (Sq.gate l)),(.int .i64 p),(.int .i64 v)]))] 704 [] []) cY aY→Wq Try.prog Q (lpBk ro_k) ac Exit.normal aY cY.w):Wq Try.prog Q (lpIn ro_k) ac .normal aX cX.w:=
  run_at2 (o:=⟨_,_,_,_,_,_,_⟩) hwC_ok (by kernel_rfl) (roM_hk l p v V P i) ho hs hK
theorem roE_end (l:List GateD) (p v:Int) (V P:List U4) (i:Int):runEnd hwC Try.f16 false 3000 (⟨lpIn ro_k,.normal,roS l p v V P i⟩) [true,true,true] [] []=(some ([((decide (i<(((List.length l):Nat):Int)))=true),((0:Int)≤i),(i<(((List.length l):Nat):Int)),((decide (i<p))=true),((0:Int)≤i),(i<(((List.length P):Nat):Int)),((Fin.val (cleanU (List.getD P (i).toNat (0:U4))))<rN),((Fin.val (outF ((0:Fr)-(inF (cleanU (List.getD P (i).toNat (0:U4)))))))<rN),((GateD.a (List.getD l (i).toNat gate0))<(((List.length V):Nat):Int)),((GateD.b (List.getD l (i).toNat gate0))<(((List.length V):Nat):Int)),((GateD.c (List.getD l (i).toNat gate0))<(((List.length V):Nat):Int)),((Bool.not (decide ((metS (GateD.mk (GateD.qm (List.getD l (i).toNat gate0)) (GateD.ql (List.getD l (i).toNat gate0)) (GateD.qr (List.getD l (i).toNat gate0)) (GateD.qo (List.getD l (i).toNat gate0)) (GateD.qc (List.getD l (i).toNat gate0)) (GateD.a (List.getD l (i).toNat gate0)) (GateD.b (List.getD l (i).toNat gate0)) (GateD.c (List.getD l (i).toNat gate0))) V (inF (outF ((0:Fr)-(inF (cleanU (List.getD P (i).toNat (0:U4))))))))=(0:Fr))))=true)],((.t [(.c (.int .i64 i)),(.c (.int .i64 (70:Int)))]),[]))):=by kernel_rfl
theorem roF_end (l:List GateD) (p v:Int) (V P:List U4) (i:Int):runEnd hwC Try.f16 false 3000 (⟨lpIn ro_k,.normal,roS l p v V P i⟩) [true,false,true] [] []=(some ([((decide (i<(((List.length l):Nat):Int)))=true),((0:Int)≤i),(i<(((List.length l):Nat):Int)),((decide (i<p))=false),(0<rN),((GateD.a (List.getD l (i).toNat gate0))<(((List.length V):Nat):Int)),((GateD.b (List.getD l (i).toNat gate0))<(((List.length V):Nat):Int)),((GateD.c (List.getD l (i).toNat gate0))<(((List.length V):Nat):Int)),((Bool.not (decide ((metS (GateD.mk (GateD.qm (List.getD l (i).toNat gate0)) (GateD.ql (List.getD l (i).toNat gate0)) (GateD.qr (List.getD l (i).toNat gate0)) (GateD.qo (List.getD l (i).toNat gate0)) (GateD.qc (List.getD l (i).toNat gate0)) (GateD.a (List.getD l (i).toNat gate0)) (GateD.b (List.getD l (i).toNat gate0)) (GateD.c (List.getD l (i).toNat gate0))) V (inF (0:U4)))=(0:Fr))))=true)],((.t [(.c (.int .i64 i)),(.c (.int .i64 (70:Int)))]),[]))):=by kernel_rfl
theorem roX_end (l:List GateD) (p v:Int) (V P:List U4) (i:Int):runEnd hwC Try.f16 false 3000 (⟨lpIn ro_k,.normal,roS l p v V P i⟩) [false] [] []=(some ([((decide (i<(((List.length l):Nat):Int)))=false)],((.t [(.c (.int .i64 (0:Int))),(.c (.int .i64 (0:Int)))]),[]))):=by kernel_rfl
end
end Go.Proofs.Ytobdghmmbddfnaa

/- The reference's Holds: contract. No conditions. -/
namespace Go.Proofs.Ytobdghmmbddfnaa

theorem metS_pub (g:GateD) (V:List U4) (x:U4):metS g V (inF (outF (0-inF (cleanU x))))=gvF g V-inF x:=by
  rw[in_out,clean_out,in_out]
  exact met_alg _ _ _ _ _ _ _ _ _
theorem in_zero:inF 0=0:=rfl
theorem metS_zero (g:GateD) (V:List U4):metS g V (inF 0)=gvF g V:=by
  rw[in_zero]
  exact met_alg0 _ _ _ _ _ _ _ _
theorem refHolds_fnd (l:List GateD) (p v:Int) (V P:List U4):FnD Try.prog 16 [circV l p v,.v (.c (.sl (.fr V))),.v (.c (.sl (.fr P)))] (.t [.c (.int .i64 (holdR l p v V P).1),.c (.int .i64 (holdR l p v V P).2)]) []:=by
  by_cases hr:rightB l p v=true
  · by_cases h1:(V.length:Int)=v
    · by_cases h2:(P.length:Int)=p
      · have eR:holdR l p v V P=missF V P p l 0:=by unfold holdR;rw[if_pos hr,if_pos ⟨h1,h2⟩]
        rw[eR]
        obtain ⟨hl,hw⟩:=right_parts hr
        refine fn_start (fn:=Try.f16) (c:=bodyOf Try.f16) Try.func16 rfl rfl fun x0 a0 hk hF hs0=>?_
        refine ro l p v V P ⟨by rw[hr];rfl,by simp [h1],by simp [h2],trivial⟩ hs0 fun ac cY aY hs1=>?_
        refine loop_rule (ι:={ i:Nat // i≤l.length∧missF V P p (l.drop i) i=missF V P p l 0 }) (fun i=>roS l p v V P (i.1:Int)) (fun i=>l.length-i.1) (c:=lpC ro_k) (k:=lpR ro_k) (by kernel_rfl) (fun i ih ac cY aY hs=>?_) ⟨0,Nat.zero_le _,rfl⟩ (hs1.nx _)
        obtain ⟨i,hi,he⟩:=i
        simp only at ih hs
        by_cases hin:i<l.length
        · obtain ⟨w1,w2,w3⟩:=hw i hin
          rw[missF_drop V P p l i hin] at he
          have ew:IntKind.wrap IntKind.i64 ((i:Int)+1)=((i+1:Nat):Int):=by rw[wrap_id (by omega) (by omega)];omega
          by_cases hp:(i:Int)<p
          · by_cases hz:gvF (l.getD i gate0) V-inF (P.getD i 0)=0
            · have hm:metB V P p (l.getD i gate0) i=true:=by unfold metB;rw[if_pos hp];exact decide_eq_true hz
              rw[hm,if_pos rfl] at he
              refine roN l p v V P i ⟨decide_eq_true (by omega),by omega,by omega,decide_eq_true hp,by omega,by omega,by rw[clean_out];exact outF_lt _,outF_lt _,by rw[Int.toNat_natCast];omega,by rw[Int.toNat_natCast];omega,by rw[Int.toNat_natCast];omega,by rw[Int.toNat_natCast];exact congrArg Bool.not (decide_eq_true ((metS_pub (l.getD i gate0) V (P.getD i 0)).trans hz)),trivial⟩ hs fun ac cU aU hs2=>?_
              rw[ew] at hs2
              exact ih ⟨i+1,hin,he⟩ (by show l.length-(i+1)<l.length-i;omega) ac cU aU (hs2.nx _)
            · have hm:metB V P p (l.getD i gate0) i=false:=by unfold metB;rw[if_pos hp];exact decide_eq_false hz
              rw[hm,if_neg Bool.false_ne_true] at he
              rw[←he]
              exact run_end2 hwC_ok hk hF (roE_end l p v V P i) ⟨decide_eq_true (by omega),by omega,by omega,decide_eq_true hp,by omega,by omega,by rw[clean_out];exact outF_lt _,outF_lt _,by rw[Int.toNat_natCast];omega,by rw[Int.toNat_natCast];omega,by rw[Int.toNat_natCast];omega,by rw[Int.toNat_natCast];exact congrArg Bool.not (decide_eq_false fun e=>hz ((metS_pub (l.getD i gate0) V (P.getD i 0)).symm.trans e)),trivial⟩ (fun y w hd=>hd) hs
          · by_cases hz:gvF (l.getD i gate0) V=0
            · have hm:metB V P p (l.getD i gate0) i=true:=by unfold metB;rw[if_neg hp];exact decide_eq_true hz
              rw[hm,if_pos rfl] at he
              refine roM l p v V P i ⟨decide_eq_true (by omega),by omega,by omega,decide_eq_false hp,by decide,by rw[Int.toNat_natCast];omega,by rw[Int.toNat_natCast];omega,by rw[Int.toNat_natCast];omega,by rw[Int.toNat_natCast];exact congrArg Bool.not (decide_eq_true ((metS_zero (l.getD i gate0) V).trans hz)),trivial⟩ hs fun ac cU aU hs2=>?_
              rw[ew] at hs2
              exact ih ⟨i+1,hin,he⟩ (by show l.length-(i+1)<l.length-i;omega) ac cU aU (hs2.nx _)
            · have hm:metB V P p (l.getD i gate0) i=false:=by unfold metB;rw[if_neg hp];exact decide_eq_false hz
              rw[hm,if_neg Bool.false_ne_true] at he
              rw[←he]
              exact run_end2 hwC_ok hk hF (roF_end l p v V P i) ⟨decide_eq_true (by omega),by omega,by omega,decide_eq_false hp,by decide,by rw[Int.toNat_natCast];omega,by rw[Int.toNat_natCast];omega,by rw[Int.toNat_natCast];omega,by rw[Int.toNat_natCast];exact congrArg Bool.not (decide_eq_false fun e=>hz ((metS_zero (l.getD i gate0) V).symm.trans e)),trivial⟩ (fun y w hd=>hd) hs
        · obtain rfl:i=l.length:=by omega
          rw[List.drop_length] at he
          rw[←he]
          exact run_end2 hwC_ok hk hF (roX_end l p v V P _) ⟨decide_eq_false (by omega),trivial⟩ (fun y w hd=>hd) hs
      · have eR:holdR l p v V P=(0,3):=by unfold holdR;rw[if_pos hr,if_neg fun h=>h2 h.2]
        rw[eR]
        exact fn_sound hwC_ok Try.func16 (roC l p v V P) ⟨by rw[hr];rfl,by simp [h1],by simpa using h2,trivial⟩
    · have eR:holdR l p v V P=(0,3):=by unfold holdR;rw[if_pos hr,if_neg fun h=>h1 h.1]
      rw[eR]
      exact fn_sound hwC_ok Try.func16 (roB l p v V P) ⟨by rw[hr];rfl,by simpa using h1,trivial⟩
  · have hr:rightB l p v=false:=Bool.eq_false_iff.2 hr
    have eR:holdR l p v V P=(0,1):=by unfold holdR;rw[hr];rfl
    rw[eR]
    exact fn_sound hwC_ok Try.func16 (roA l p v V P) ⟨by rw[hr];rfl,trivial⟩

end Go.Proofs.Ytobdghmmbddfnaa

/- An input alone, compiled: walked. No conditions. -/
namespace Go.Proofs.Ytobdghmmbddfnaa

/-- An input. -/
def opI:OpD:=⟨1,0,0,0,0,0,[],[]⟩
--@env hD hD_ok
--@unroll true
theorem ckI (n:Int):fnRes hD Try.f23 3000 [.v (.a opI.its),.v (.c (.int .i64 n))] [true,true,false,false] [] []=(some ([(((1:Int) == (1:Int))=true),(((1:Int) == (1:Int))=true),((decide ((0:Int)<(0:Int)))=false),((decide ((-(1:Int)) ≥ (0:Int)))=false)],((.ii (0:Int)),[]))):=by kernel_rfl
theorem checkI_fnd (n:Int):FnD Try.prog 23 [.v (.a opI.its),.v (.c (.int .i64 n))] (.v (.c (.int .i64 0))) []:=fn_sound hD_ok Try.func23 (ckI n) (by simp [AllP])
noncomputable def checkISpec:FnSpec
  | [.v (.a [.int .i64 t,.int .i64 a,.int .i64 b,.int .i64 c,.int .i64 m,.ob (.fr k),.sl (.fr []),.sl (.int [])]),.v (.c (.int .i64 n))]=>some ([t=1,a=0,b=0,c=0,m=0,k=0],.v (.c (.int .i64 0)),[])
  | _=>none
noncomputable def hE:Env:=hD.set (addT hD.fn 23 checkISpec)
theorem hE_ok:EnvOk Try.prog hE:=env_add hD_ok 23 checkISpec (enters_of Try.func23 rfl rfl) fun args o r es h ho=>by
  unfold checkISpec at h
  split at h
  · cases h;exact (by obtain ⟨rfl,rfl,rfl,rfl,rfl,rfl,_⟩:=ho;exact checkI_fnd _)
  · cases h
/-- Stepped into besides: what an operation does. -/
noncomputable def inlC (T:Nat→Option Func) (f:Nat):Option Func:=if f=25 then some Try.f25 else if f=46 then some Try.f46 else T f
noncomputable def hF:Env:={ hE with inl:=inlC hE.inl }
theorem hF_ok:EnvOk Try.prog hF:=by
  refine ⟨hE_ok.ty,hE_ok.mixed,hE_ok.fn,hE_ok.mu,fun f fn h=>?_,hE_ok.ex,hE_ok.inv⟩
  have h:inlC hE.inl f=some fn:=h
  unfold inlC at h
  split at h
  · rename_i hf;cases h;subst hf;exact ⟨Try.func25,enters_of Try.func25 rfl rfl⟩
  split at h
  · rename_i hf;cases h;subst hf;exact ⟨Try.func46,enters_of Try.func46 rfl rfl⟩
  exact hE_ok.inl f fn h
--@env hF hF_ok
theorem cpI  : fnRes hF Try.f9 3000 [.v (.c (.sl (.op [opI])))] [false,true,false,false,true,false,false,false] [1328] []=(some ([((decide ((1:Int) > (1000:Int)))=false),((decide ((0:Int)<(1:Int)))=true),((0:Int)≤(0:Int)),((0:Int)<(1:Int)),((1:Int)=(1:Int)),((0:Int)=(0:Int)),((0:Int)=(0:Int)),((0:Int)=(0:Int)),((0:Int)=(0:Int)),((OpD.k opI)=(0:U4)),(((0:Int) != (0:Int))=false),(((1:Int) == (2:Int))=false),(((1:Int) == (1:Int))=true),((decide ((1:Int)<(1:Int)))=false),((decide ((0:Int) > (4096:Int)))=false),((decide ((0:Int) > (64:Int)))=false),(0≤140737488355328),(0≤maxLen)],((.t [(.a [(.slc 0 0 0 23),(.int .i64 (0:Int)),(.int .i64 (1:Int))]),(.c (.int .i64 (0:Int))),(.c (.int .i64 (0:Int)))]),[(.sq (Sq.gate ([]:List GateD)))]))):=by kernel_rfl
theorem compI_fnd:FnD Try.prog 9 [.v (.c (.sl (.op [opI])))] (.t [.a [.slc 0 0 0 23,.int .i64 0,.int .i64 1],.c (.int .i64 0),.c (.int .i64 0)]) [.sq (.gate [])]:=fn_sound hF_ok Try.func9 cpI (by simp [AllP,opI,maxLen])
noncomputable def compISpec:FnSpec
  | [.v (.c (.sl (.op [⟨t,a,b,c,m,k,[],[]⟩])))]=>some ([t=1,a=0,b=0,c=0,m=0,k=0],.t [.a [.slc 0 0 0 23,.int .i64 0,.int .i64 1],.c (.int .i64 0),.c (.int .i64 0)],[.sq (.gate [])])
  | _=>none
noncomputable def hG:Env:=hD.set (addT hD.fn 9 compISpec)
theorem hG_ok:EnvOk Try.prog hG:=env_add hD_ok 9 compISpec (enters_of Try.func9 rfl rfl) fun args o r es h ho=>by
  unfold compISpec at h
  split at h
  · cases h;exact (by obtain ⟨rfl,rfl,rfl,rfl,rfl,rfl,_⟩:=ho;exact compI_fnd)
  · cases h
--@env hG hG_ok
--@unroll false
theorem alI  : fnRes hG Try.f11 3000 [] [true,true] [] []=(some ([(0=0),(1=1),(11=11),((1:Int)=(1:Int)),((0:Int)=(0:Int)),((0:Int)=(0:Int)),((0:Int)=(0:Int)),((0:Int)=(0:Int)),((0:U4)=(0:U4)),(((0:Int) == (0:Int))=true)],((.v (.c (.bool ((1:Int) == (1:Int))))),[]))):=by kernel_rfl
end Go.Proofs.Ytobdghmmbddfnaa

/- CircuitHolds' law, walked. No conditions. -/
namespace Go.Proofs.Ytobdghmmbddfnaa

theorem aliveI_fnd:FnD Try.prog 11 [] (.v (.c (.bool true))) []:=(fn_sound hG_ok Try.func11 alI (by simp [AllP,opI])).conv (fun _ _ h=>h) fun _ _ hd=>hd
noncomputable def holdsSpec:FnSpec
  | [.v (.a [.sl (.gate l),.int .i64 p,.int .i64 v]),.v (.c (.sl (.fr V))),.v (.c (.sl (.fr P)))]=>some ([],.t [.c (.int .i64 (holdR l p v V P).1),.c (.int .i64 (holdR l p v V P).2)],[])
  | _=>none
noncomputable def hLa:Env:=hwC.set (addT hwC.fn 15 holdsSpec)
theorem hLa_ok:EnvOk Try.prog hLa:=env_add hwC_ok 15 holdsSpec (enters_of Try.func15 rfl rfl) fun args o r es h _=>by
  unfold holdsSpec at h
  split at h
  · cases h;exact holds_fnd _ _ _ _ _
  · cases h
noncomputable def refHoldsSpec:FnSpec
  | [.v (.a [.sl (.gate l),.int .i64 p,.int .i64 v]),.v (.c (.sl (.fr V))),.v (.c (.sl (.fr P)))]=>some ([],.t [.c (.int .i64 (holdR l p v V P).1),.c (.int .i64 (holdR l p v V P).2)],[])
  | _=>none
noncomputable def hLb:Env:=hLa.set (addT hLa.fn 16 refHoldsSpec)
theorem hLb_ok:EnvOk Try.prog hLb:=env_add hLa_ok 16 refHoldsSpec (enters_of Try.func16 rfl rfl) fun args o r es h _=>by
  unfold refHoldsSpec at h
  split at h
  · cases h;exact refHolds_fnd _ _ _ _ _
  · cases h
noncomputable def aliveSpec:FnSpec
  | []=>some ([],.v (.c (.bool true)),[])
  | _=>none
noncomputable def hLc:Env:=hLb.set (addT hLb.fn 11 aliveSpec)
theorem hLc_ok:EnvOk Try.prog hLc:=env_add hLb_ok 11 aliveSpec (enters_of Try.func11 rfl rfl) fun args o r es h _=>by
  unfold aliveSpec at h
  split at h
  · cases h;exact aliveI_fnd
  · cases h
--@env hLc hLc_ok
theorem lhA (l:List GateD) (p v:Int) (V P:List U4):fnRes hLc Try.f5 3000 [circV l p v,.v (.c (.sl (.fr V))),.v (.c (.sl (.fr P)))] [false,true,true,true,true] [] []=(some ([((decide ((((List.length l):Nat):Int) > (60:Int)))=false),(true=true),(((Prod.fst (holdR l p v V P)) == (Prod.fst (holdR l p v V P)))=true),(((Prod.snd (holdR l p v V P)) == (Prod.snd (holdR l p v V P)))=true)],((.v (.c (.bool (ite (true=true) ((rightB l p v) == (rightB l p v)) (Bool.not ((rightB l p v) == (rightB l p v))))))),[]))):=by kernel_rfl
theorem lhB (l:List GateD) (p v:Int) (V P:List U4):fnRes hLc Try.f5 3000 [circV l p v,.v (.c (.sl (.fr V))),.v (.c (.sl (.fr P)))] [true,true,true,true,true,true] [] []=(some ([((decide ((((List.length l):Nat):Int) > (60:Int)))=true),((decide ((((List.length l):Nat):Int)≤(4096:Int)))=true),((0:Int)≤(60:Int)),((60:Int)≤(((List.length l):Nat):Int)),(true=true),(((Prod.fst (holdR (List.take 60 (List.drop 0 l)) p v V P)) == (Prod.fst (holdR (List.take 60 (List.drop 0 l)) p v V P)))=true),(((Prod.snd (holdR (List.take 60 (List.drop 0 l)) p v V P)) == (Prod.snd (holdR (List.take 60 (List.drop 0 l)) p v V P)))=true)],((.v (.c (.bool (ite (true=true) ((rightB (List.take 60 (List.drop 0 l)) p v) == (rightB (List.take 60 (List.drop 0 l)) p v)) (Bool.not ((rightB (List.take 60 (List.drop 0 l)) p v) == (rightB (List.take 60 (List.drop 0 l)) p v))))))),[]))):=by kernel_rfl
theorem lhC (l:List GateD) (p v:Int) (V P:List U4):fnRes hLc Try.f5 3000 [circV l p v,.v (.c (.sl (.fr V))),.v (.c (.sl (.fr P)))] [true,false,true,true,true,true] [] []=(some ([((decide ((((List.length l):Nat):Int) > (60:Int)))=true),((decide ((((List.length l):Nat):Int)≤(4096:Int)))=false),(true=true),(((Prod.fst (holdR l p v V P)) == (Prod.fst (holdR l p v V P)))=true),(((Prod.snd (holdR l p v V P)) == (Prod.snd (holdR l p v V P)))=true)],((.v (.c (.bool (ite (true=true) ((rightB l p v) == (rightB l p v)) (Bool.not ((rightB l p v) == (rightB l p v))))))),[]))):=by kernel_rfl

theorem circuitHolds_fnd (l:List GateD) (p v:Int) (V P:List U4):FnD Try.prog 5 [circV l p v,.v (.c (.sl (.fr V))),.v (.c (.sl (.fr P)))] (.v (.c (.bool true))) []:=by
  by_cases h1:(l.length:Int) > 60
  · by_cases h2:(l.length:Int)≤4096
    · have r:=lhB l p v V P
      rw[if_pos rfl,beq_self_eq_true (rightB (List.take 60 (List.drop 0 l)) p v)] at r
      exact fn_sound hLc_ok Try.func5 r ⟨decide_eq_true h1,decide_eq_true h2,by omega,by omega,rfl,beq_self_eq_true _,beq_self_eq_true _,trivial⟩
    · have r:=lhC l p v V P
      rw[if_pos rfl,beq_self_eq_true (rightB l p v)] at r
      exact fn_sound hLc_ok Try.func5 r ⟨decide_eq_true h1,decide_eq_false h2,rfl,beq_self_eq_true _,beq_self_eq_true _,trivial⟩
  · have r:=lhA l p v V P
    rw[if_pos rfl,beq_self_eq_true (rightB l p v)] at r
    exact fn_sound hLc_ok Try.func5 r ⟨decide_eq_false h1,rfl,beq_self_eq_true _,beq_self_eq_true _,trivial⟩
end Go.Proofs.Ytobdghmmbddfnaa
