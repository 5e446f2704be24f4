/- Parts of a proof, one behind the other: Pk. No conditions. -/
import Derived.Test.YtefimjofjjdndaaGreatKoA
open Go.IntKind (wrap)
namespace Go.Proofs.YtefimjofjjdndaaGreat
noncomputable section
section

/-- So many unlike places need as much room. -/
theorem pig {n m:Nat} (f:Nat->Nat) (hb:∀i,i<n->f i<m) (hi:∀i j,i<n->j<n->f i=f j->i=j):n<=m:=by
 by_cases h:n<=m
 ·exact h
 ·exfalso
  obtain ⟨i,h1,h2⟩:=A6e n f (fun i h1=>by have:=hb i h1;omega) hi m (by omega)
  have:=hb i h1
  omega
theorem D7x {d:Nat} [NeZero d] (b n:Nat):(pw (Fin.ofNat d b) n).val=b ^ n % d:=by
 rw[D2g];show (b % d) ^ n % d=b ^ n % d;rw[<-Nat.pow_mod]
/-- What has a power of f 1, and is not 1 modulo any divisor: each divisor is f at least. -/
theorem C6f {n f b:Nat} (hf:Ir f) (h1:b ^ f % n=1) (hc:Nat.gcd (b-1) n=1) {d:Nat} (hd:d ∣ n) (hd1:1<d):f<=d:=by
 haveI:NeZero d:=⟨by omega⟩
 generalize hx:Fin.ofNat d b=x;have one_v:(1:Fin d).val=1:=Nat.mod_eq_of_lt hd1;have xf:pw x f=1:=by
  refine Fin.ext ?_
  rw[<-hx,D7x,one_v];have:b ^ f % n % d=b ^ f % d:=Nat.mod_mod_of_dvd _ hd
  rw[h1] at this;rw[<-this];exact Nat.mod_eq_of_lt hd1
 have x1:x≠1:=by
  intro h;rw[<-hx] at h;have h:b % d=1:=by
   have:=congrArg Fin.val h
   rw[one_v] at this;exact this
  have hd2:d ∣ b-1:=⟨b / d,by have:=Nat.div_add_mod b d;omega⟩
  have:=Nat.dvd_gcd hd2 hd
  rw[hc] at this;have:=Nat.le_of_dvd (by omega) this
  omega
 refine pig (fun i=>(pw x i).val) (fun i _=>(pw x i).isLt) fun i j hi hj e=>?_
 have key:∀i k,0<k->i+k<f->pw x i=pw x (i+k)->False:=by
  intro i k hk hik e;have h3:pw x (f-i)*pw x (i+k)=1:=by
   rw[<-e,<-M5,show f-i+i=f from by omega,xf]
  rw[M5,<-A2k,<-M5,show f-i+i=f from by omega,xf,A7w] at h3
  have h4:=E2e k f h3 xf;rcases hf _ (Nat.gcd_dvd_right k f) with h | h
  ·rw[h] at h4
   exact x1 ((A7w x).symm.trans h4)
  ·have:=Nat.gcd_le_left f hk
   omega
 have e2:pw x i=pw x j:=Fin.ext e;rcases Nat.lt_trichotomy i j with h | h | h
 ·exact (key i (j-i) (by omega) (by omega) (by rw[e2,show i+(j-i)=j from by omega])).elim
 ·exact h
 ·exact (key j (i-j) (by omega) (by omega) (by rw[<-e2,show j+(i-j)=i from by omega])).elim
theorem G1c {n f a b t:Nat} (hf:Ir f) (hn:1<n) (hs:n<f*f) (ht:n-1=t*f) (h1:a ^ (n-1) % n=1) (hb:a ^ t % n=b) (hc:Nat.gcd (b-1) n=1):Ir n:=by
 intro d hd;have hbf:b ^ f % n=1:=by
  rw[<-hb,<-Nat.pow_mod,<-Nat.pow_mul,<-ht,h1]
 obtain ⟨e,he⟩:=hd;by_cases hd1:d=1
 ·exact .inl hd1
 by_cases he1:e=1
 ·right;rw[he,he1,Nat.mul_one]
 exfalso
 have d0:d≠0:=fun h=>by rw[h,Nat.zero_mul] at he;omega
 have e0:e≠0:=fun h=>by rw[h,Nat.mul_zero] at he;omega
 have k1:=C6f hf hbf hc ⟨e,he⟩ (by omega:1<d)
 have k2:=C6f hf hbf hc ⟨d,by rw[he,Nat.mul_comm]⟩ (by omega:1<e)
 have:=Nat.mul_le_mul k1 k2
 omega
def G1b (n f s:Nat):Bool:=decide (1<f) && (decide (1<n) && (decide (n<f*f) && (decide (n-1=(n-1) / f*f) && (decide (n-1<2 ^ s) && (A3w n 2 s (n-1) == 1 && Nat.gcd (A3w n 2 s ((n-1) / f)-1) n == 1)))))
theorem D7o {n f s:Nat} (hf:Ir f) (h:G1b n f s=true):Ir n:=by
 simp only[G1b,Bool.and_eq_true,decide_eq_true_eq,beq_iff_eq] at h;obtain ⟨a1,a2,a3,a4,a5,a6,a7⟩:=h;have a8:(n-1) / f<2 ^ s:=Nat.lt_of_le_of_lt (Nat.div_le_self _ _) a5;rw[B2w _ _ _ _ a5] at a6;rw[B2w _ _ _ _ a8] at a7;exact G1c hf a2 a3 a4 a6 rfl a7
theorem E6g {n:Nat} (hn:2<n) [NeZero n] {g:Fin n} (h1:pw g (n-1)=1) (hl:∀d,0<d->d<n-1->pw g d≠1):Ir n:=by
 intro d hd;obtain ⟨e,he⟩:=hd;by_cases hd1:d=1
 ·exact .inl hd1
 by_cases hdn:d=n
 ·exact .inr hdn
 exfalso
 have d0:d≠0:=fun h=>by rw[h,Nat.zero_mul] at he;omega
 have e0:e≠0:=fun h=>by rw[h,Nat.mul_zero] at he;omega
 have dn:d<n:=by
  have:d*1<=d*e:=Nat.mul_le_mul_left d (by omega)
  omega
 have hv:(Fin.ofNat n d).val=d:=Nat.mod_eq_of_lt dn;have k:=B8s (n:=n-1) (Nat.sub_add_cancel (by omega:1<=n)).symm (by omega) h1 hl (Fin.ofNat n d) (fun h=>by
  have:=congrArg Fin.val h
  rw[hv] at this;exact d0 (this.trans (Nat.zero_mod n)))
 have k2:=congrArg Fin.val k;rw[D7x] at k2;have one_v:(1:Fin n).val=1:=Nat.mod_eq_of_lt (show 1<n by omega)
 rw[one_v] at k2;have h3:d ∣ d ^ (n-1):=⟨d ^ (n-1-1),by rw[<-Nat.pow_succ'];congr 1;omega⟩
 have h4:d ∣ d ^ (n-1) % n:=(Nat.dvd_mod_iff ⟨e,he⟩).2 h3;rw[k2] at h4;have:=Nat.le_of_dvd (by omega) h4
 omega
def G6k:List (Nat×Nat):=[(2,1),(7,1),(11,1),(107,1),(541,1),(1367711,1)]
theorem G6l:∀p,p∈G6k->Ir p.1:=fun p hp=>by
 simp only[G6k,List.mem_cons,List.not_mem_nil,or_false] at hp;rcases hp with rfl | rfl | rfl | rfl | rfl | rfl
 ·exact ir2
 ·exact F3 (s:=3) (by decide +kernel)
 ·exact F3 (s:=4) (by decide +kernel)
 ·exact F3 (s:=11) (by decide +kernel)
 ·exact F3 (s:=24) (by decide +kernel)
 ·exact F3 (s:=1170) (by decide +kernel)
def qZ:Nat:=12192593745179
instance:NeZero qZ:=⟨by decide⟩
theorem F4t:(G6k.all fun p=>decide ((qZ-1) / p.1<2 ^ 48) && A3w qZ 2 48 ((qZ-1) / p.1) != 1)=true:=by decide +kernel
theorem F4s:A3w qZ 2 48 (qZ-1)=1:=by decide +kernel
theorem I8s:Ir qZ:=by
 have v2:(Fin.ofNat qZ 2).val=2:=by decide +kernel
 have one_v:(1:Fin qZ).val=1:=by decide +kernel
 have h1:pw (Fin.ofNat qZ 2) (qZ-1)=1:=by
  refine Fin.ext ?_
  rw[W9 _ 48 _ (by decide +kernel),v2,one_v]
  exact F4s
 refine E6g (g:=Fin.ofNat qZ 2) (by decide) h1 fun d h2 h3=>?_
 refine D1r G6k (by decide +kernel) G6l (by decide) h1 (fun p hp e=>?_) h2 h3
 have k:=List.all_eq_true.1 F4t p hp;simp only[Bool.and_eq_true,decide_eq_true_eq,bne_iff_ne,ne_eq] at k;have e:=congrArg Fin.val e;rw[W9 _ 48 _ k.1,v2,one_v] at e;exact k.2 e
/-- The great divisor of the second curve's number of points. -/
def qU:Nat:=402096035359507321594726366720466575392706800671181159425656785868777272553337714697862511267018014931937703598282857976535744623203249
theorem I8t:Ir qU:=
 D7o (f:=4638704574076146691498289350639807119782054683906549022985642612861209609656189848749536921852444848596916990932297) (s:=448) (
 D7o (f:=26935696298915610574513298451669528361624243820491956655650666425177) (s:=384) (
 D7o (f:=81162125843606155545104998607900118769099783) (s:=224) (
 D7o (f:=19931107752921199754119) (s:=146) (
 D7o (f:=22294303974184787197) (s:=76) (
 D7o (f:=1857858664515398933) (s:=65) (
 D7o (f:=512088937297519) (s:=61) (
 D7o (f:=qZ) (s:=49) I8s (by decide +kernel)) (by decide +kernel)) (by decide +kernel)) (by decide +kernel)) (by decide +kernel)) (by decide +kernel)) (by decide +kernel)) (by decide +kernel)
end

end
end Go.Proofs.YtefimjofjjdndaaGreat
