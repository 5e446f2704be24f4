/- Parts of a proof, one behind the other: Nb. No conditions. -/
import Derived.Lib.BitFns
import Derived.Test.YtifiiigbedjceaaGreatTuB
open Go.IntKind (wrap)
namespace Go.Proofs.YtifiiigbedjceaaGreat
noncomputable section
section
theorem IK:∀(f x:Nat),x<2 ^ f->x<2 ^ Lib.bitLenAux f x
 | 0,x,h=>h
 | f+1,x,h=>by
  unfold Lib.bitLenAux;by_cases h0:x=0
  ·rw[if_pos h0,h0];decide
  ·rw[if_neg h0]
   have h1:x / 2<2 ^ f:=by rw[Nat.pow_succ] at h;omega
   have:=IK f (x / 2) h1
   rw[Nat.add_comm,Nat.pow_succ];omega
theorem IJ:∀(f x:Nat),Lib.bitLenAux f x<=f
 | 0,_=>Nat.le_refl _
 | f+1,x=>by
  unfold Lib.bitLenAux;split
  ·omega
  ·have:=IJ f (x / 2);omega
theorem A6u{x:Nat}(h:x<18446744073709551616):x<2 ^ Lib.bitLen x:=IK 64 x h
theorem Sl(x:Nat):Lib.bitLen x<=64:=IJ 64 x
def V8:List Int->Nat
 | []=>0
 | x::l=>x.toNat+18446744073709551616*V8 l
def Dy(l:List Int):Prop:=∀x,x∈l->0<=x∧x<18446744073709551616
theorem PV{l:List Int}(h:Dy l)(i:Nat):0<=l.getD i 0∧l.getD i 0<18446744073709551616:=by
 by_cases hi:i<l.length
 ·have:l.getD i 0=l[i]:=by simp [List.getD,hi]
  rw[this];exact h _ (List.getElem_mem hi)
 ·have:l.getD i 0=0:=by simp [List.getD,Nat.le_of_not_lt hi]
  rw[this];decide
theorem Yd:∀{l:List Int},Dy l->∀i,V8 l / 2 ^ i % 2=(l.getD (i / 64) 0).toNat / 2 ^ (i % 64) % 2
 | [],_,i=>by simp [V8,List.getD]
 | x::l,h,i=>by
  have hx:=h x (List.mem_cons_self ..);have ih:=Yd (l:=l) (fun y hy=>h y (List.mem_cons_of_mem _ hy))
  show (x.toNat+18446744073709551616*V8 l) / 2 ^ i % 2=_;have hlt:x.toNat<18446744073709551616:=by omega
  generalize ha:x.toNat=a at *;generalize V8 l=N at *;by_cases hi:i<64
  ·have e0:i / 64=0:=by omega
   have e1:i % 64=i:=by omega
   rw[e0,e1];have hg:((x::l).getD 0 0)=x:=rfl;have ep:18446744073709551616=2 ^ i*(2*2 ^ (63-i)):=by
    rw[<-Nat.pow_succ',<-Nat.pow_add,show i+(63-i+1)=64 from by omega]
   rw[ep,Nat.mul_assoc,Nat.add_mul_div_left _ _ (Nat.two_pow_pos i),Nat.mul_assoc,Nat.add_mul_mod_self_left];rw[hg,ha]
  ·have e0:i / 64=(i-64) / 64+1:=by omega
   have e1:i % 64=(i-64) % 64:=by omega
   have hp:2 ^ i=18446744073709551616*2 ^ (i-64):=by
    rw[show (18446744073709551616:Nat)=2 ^ 64 from rfl,<-Nat.pow_add,show 64+(i-64)=i from by omega]
   rw[hp,<-Nat.div_div_eq_div_mul,Nat.add_mul_div_left _ _ A4,Nat.div_eq_of_lt hlt,Nat.zero_add,ih (i-64),e0,e1];rfl
def U1(l:List Int):Nat->Nat
 | 0=>0
 | i+1=>if l.getD i 0≠0 then 64*i+Lib.bitLen (l.getD i 0).toNat else U1 l i
theorem Og(l:List Int):∀n,U1 l n<=64*n
 | 0=>Nat.le_refl _
 | i+1=>by
  unfold U1;split
  ·have:=Sl (l.getD i 0).toNat;omega
  ·have:=Og l i;omega
theorem A5g:∀{l:List Int},Dy l->∀n,n<=l.length->V8 (l.take n)<2 ^ U1 l n:=by
 intro l h n;induction n with
 | zero=>intro _;simp [V8,U1]
 | succ n ih=>
  intro hn;have ih:=ih (by omega)
  have hle:V8 (l.take n)<2 ^ (64*n):=Nat.lt_of_lt_of_le ih (Nat.pow_le_pow_right A4 (Og l n));have hsplit:∀(l:List Int) (n:Nat),n<l.length->V8 (l.take (n+1))=V8 (l.take n)+2 ^ (64*n)*(l.getD n 0).toNat:=by
   intro l;induction l with
   | nil=>intro n hn;cases hn
   | cons x l ihl=>
    intro n hn
    cases n with
    | zero=>simp [V8,List.getD]
    | succ n=>
     have:=ihl n (by simpa using hn)
     show x.toNat+18446744073709551616*V8 (l.take (n+1))=x.toNat+18446744073709551616*V8 (l.take n)+2 ^ (64*(n+1))*(l.getD n 0).toNat;rw[this,show 64*(n+1)=64+64*n from by omega,Nat.pow_add,Nat.mul_add,Nat.mul_assoc]
     show _=x.toNat+18446744073709551616*V8 (l.take n)+18446744073709551616*_;omega
  rw[hsplit l n (by omega)]
  have hg:=PV h n;unfold U1;by_cases h0:l.getD n 0≠0
  ·rw[if_pos h0]
   have hb:=A6u (x:=(l.getD n 0).toNat) (by omega)
   rw[Nat.pow_add];generalize (l.getD n 0).toNat=a at *;generalize 2 ^ Lib.bitLen a=B at *;generalize 2 ^ (64*n)=C at *;have h2:C*(a+1)<=C*B:=Nat.mul_le_mul_left _ hb;rw[Nat.mul_succ] at h2;omega
  ·have h1:l.getD n 0=0:=by simpa using h0
   rw[if_neg h0,h1];simpa using ih
def btL(N c t:Nat):List Bool:=(List.range t).map fun u=>decide (N / 2 ^ (c-1-u) % 2=1)
theorem Oj(N c t:Nat):btL N c (t+1)=btL N c t++[decide (N / 2 ^ (c-1-t) % 2=1)]:=by simp [btL,List.range_succ]
theorem C2q(N c:Nat){n t:Nat}(h:t<=n):∃r,btL N c n=btL N c t++r:=by
 induction n with
 | zero=>exact ⟨[],by rw[show t=0 from by omega];simp⟩
 | succ n ih=>
  by_cases h1:t=n+1
  ·exact ⟨[],by rw[h1];simp⟩
  ·obtain ⟨r,hr⟩:=ih (by omega)
   exact ⟨_,by rw[Oj,hr,List.append_assoc]⟩
def b2n(b:Bool):Nat:=if b then 1 else 0
def pv(l:List Bool):Nat:=l.foldl (fun v b=>2*v+b2n b) 0
theorem VS(l:List Bool)(b:Bool):pv (l++[b])=2*pv l+b2n b:=by simp [pv]
theorem VR{N c:Nat}(hN:N<2 ^ c):∀t,t<=c->pv (btL N c t)=N / 2 ^ (c-t)
 | 0,_=>by
  rw[Nat.sub_zero,Nat.div_eq_of_lt hN];rfl
 | t+1,h=>by
  rw[Oj,VS,VR hN t (by omega)]
  have e:c-t=(c-(t+1))+1:=by omega
  have e2:c-1-t=c-(t+1):=by omega
  rw[e,e2,Nat.pow_succ,<-Nat.div_div_eq_div_mul];generalize N / 2 ^ (c-(t+1))=M;unfold b2n;by_cases h1:M % 2=1
  ·simp [h1];omega
  ·simp [h1];omega
end
end
end Go.Proofs.YtifiiigbedjceaaGreat
