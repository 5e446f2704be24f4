/- Parts of a proof, one behind the other: Fl. No conditions. -/
import Derived.Test.YtefimjofjjdndaaGreatPxJ
open Go.IntKind (wrap)
namespace Go.Proofs.YtefimjofjjdndaaGreat
noncomputable section
section

def A0y (n k:Nat):List Int:=(List.range k).map (A0 n)
theorem A2b (n k:Nat):(A0y n k).length=k:=by simp [A0y]
theorem C5k (n k:Nat):A5i (A0y n k):=fun x hx=>by
 simp only[A0y,List.mem_map] at hx;obtain ⟨i,_,rfl⟩:=hx;unfold A0;omega
theorem F3u {n k i:Nat} (h:i<k):(A0y n k).getD i 0=A0 n i:=by
 have hl:=A2b n k;rw[List.getD_eq_getElem?_getD,List.getElem?_eq_getElem (by omega)]
 simp [A0y]
/-- An object told as the row of its limbs. -/
theorem H1j {x:Ctx} (o:Ob) (cs:List Value) (h:D4 x (.fl [.ob o]) cs):D4 x (.sq (.u64 (A0y o.n o.k))) cs:=by
 obtain ⟨c1,c2,rfl,⟨d,h1⟩,rfl⟩:=h;have h1:c1=o.cells:=by cases d<;>exact h1
 subst h1;rw[List.append_nil];refine ⟨?_,fun i hi=>?_⟩
 ·show (A0y o.n o.k).length*1<=_
  rw[A2b,C9t];omega
 ·have hi:i<o.k:=by
   have:i<(A0y o.n o.k).length:=hi
   rwa [A2b] at this
  refine ⟨[.int .u64 (A0 o.n i)],⟨[.int .u64 (A0 o.n i)],[],rfl,⟨0,?_⟩,rfl⟩,fun j v hv=>?_⟩
  ·show [Value.int .u64 (A0 o.n i)]=[Value.int .u64 ((A0y o.n o.k).getD i 0)]
   rw[F3u hi]
  ·have hj:j=0:=by
    cases j with
    | zero=>rfl
    | succ j=>simp at hv
   subst hj;simp only[List.getElem?_cons_zero,Option.some.injEq] at hv;subst hv;show o.cells[i*1+0]? = _;simp [Ob.cells,hi]
theorem D4v (n:Nat):∀k s,O9 ((List.range' s k).map (A0 n))=n / 2 ^ (64*s) % 2 ^ (64*k)
 | 0,s=>by
  show 0=_;rw[Nat.mul_zero,Nat.pow_zero,Nat.mod_one]
 | k+1,s=>by
  have ih:=D4v n k (s+1);rw[List.range'_succ];show (A0 n s).toNat+18446744073709551616*O9 ((List.range' (s+1) k).map (A0 n))=_;rw[ih];have e1:(A0 n s).toNat=n / 2 ^ (64*s) % 18446744073709551616:=rfl;have e2:n / 2 ^ (64*(s+1))=n / 2 ^ (64*s) / 18446744073709551616:=by
   rw[Nat.mul_add,Nat.pow_add,Nat.div_div_eq_div_mul]
  have e3:(2:Nat) ^ (64*(k+1))=18446744073709551616*2 ^ (64*k):=by
   rw[Nat.mul_add,Nat.pow_add,Nat.mul_comm]
  rw[e1,e2,e3,Nat.mod_mul]
theorem F5t {n k:Nat} (h:n<2 ^ (64*k)):O9 (A0y n k)=n:=by
 unfold A0y;rw[List.range_eq_range',D4v,Nat.mul_zero,Nat.pow_zero,Nat.div_one,Nat.mod_eq_of_lt h]
end

end
end Go.Proofs.YtefimjofjjdndaaGreat
