/- Parts of a proof, one behind the other: Fl. No conditions. -/
import Derived.Test.YtefimjofjjdndaaGreatPmJ
open Go.IntKind (wrap)
namespace Go.Proofs.YtefimjofjjdndaaGreat
noncomputable section
section

def limL (n k:Nat):List Int:=(List.range k).map (limb n)
theorem limL_len (n k:Nat):(limL n k).length=k:=by simp [limL]
theorem limL_lims (n k:Nat):lims (limL n k):=fun x hx=>by
 simp only[limL,List.mem_map] at hx
 obtain ⟨i,_,rfl⟩:=hx
 unfold limb
 omega
theorem limL_get {n k i:Nat} (h:i<k):(limL n k).getD i 0=limb n i:=by
 have hl:=limL_len n k
 rw[List.getD_eq_getElem?_getD,List.getElem?_eq_getElem (by omega)]
 simp [limL]
/-- An object told as the row of its limbs. -/
theorem ob_u64 {x:Ctx} (o:Ob) (cs:List Value) (h:denEn x (.fl [.ob o]) cs):denEn x (.sq (.u64 (limL o.n o.k))) cs:=by
 obtain ⟨c1,c2,rfl,⟨d,h1⟩,rfl⟩:=h
 have h1:c1=o.cells:=by cases d<;>exact h1
 subst h1
 rw[List.append_nil]
 refine ⟨?_,fun i hi=>?_⟩
 ·show (limL o.n o.k).length*1≤_
  rw[limL_len,ob_len];omega
 ·have hi:i<o.k:=by
   have:i<(limL o.n o.k).length:=hi
   rwa [limL_len] at this
  refine ⟨[.int .u64 (limb o.n i)],⟨[.int .u64 (limb o.n i)],[],rfl,⟨0,?_⟩,rfl⟩,fun j v hv=>?_⟩
  ·show [Value.int .u64 (limb o.n i)]=[Value.int .u64 ((limL o.n o.k).getD i 0)]
   rw[limL_get hi]
  ·have hj:j=0:=by
    cases j with
    | zero=>rfl
    | succ j=>simp at hv
   subst hj
   simp only[List.getElem?_cons_zero,Option.some.injEq] at hv
   subst hv
   show o.cells[i*1+0]? = _
   simp [Ob.cells,hi]
theorem numL_map (n:Nat):∀k s,numL ((List.range' s k).map (limb n))=n / 2 ^ (64*s) % 2 ^ (64*k)
 | 0,s=>by
  show 0=_
  rw[Nat.mul_zero,Nat.pow_zero,Nat.mod_one]
 | k+1,s=>by
  have ih:=numL_map n k (s+1)
  rw[List.range'_succ]
  show (limb n s).toNat+18446744073709551616*numL ((List.range' (s+1) k).map (limb n))=_
  rw[ih]
  have e1:(limb n s).toNat=n / 2 ^ (64*s) % 18446744073709551616:=rfl
  have e2:n / 2 ^ (64*(s+1))=n / 2 ^ (64*s) / 18446744073709551616:=by
   rw[Nat.mul_add,Nat.pow_add,Nat.div_div_eq_div_mul]
  have e3:(2:Nat) ^ (64*(k+1))=18446744073709551616*2 ^ (64*k):=by
   rw[Nat.mul_add,Nat.pow_add,Nat.mul_comm]
  rw[e1,e2,e3,Nat.mod_mul]
theorem numL_lim {n k:Nat} (h:n<2 ^ (64*k)):numL (limL n k)=n:=by
 unfold limL
 rw[List.range_eq_range',numL_map,Nat.mul_zero,Nat.pow_zero,Nat.div_one,Nat.mod_eq_of_lt h]
end

end
end Go.Proofs.YtefimjofjjdndaaGreat
