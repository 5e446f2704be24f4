/- Parts of a proof, one behind the other: WVals, PVals, WVb, WVc, Iv. No conditions. -/
import Derived.Test.YtlfllehomhcbfaaDtK
/- Values at a domain's elements, and the reference's: walked. No conditions. -/
namespace Go.Proofs.Ytlfllehomhcbfaa

def halfNeg (log : Int) (w : Fr) : Prop := 0 < log → powN w (2 ^ (log.toNat - 1)) = -1
def ntt (L : List Fr) (w : Fr) (n : Nat) : List Fr := nttL (fun q => L.getD q 0) w n
def nttSpec : MuS := fun off len es e rest =>
  match off, es, e, rest with
  | 0, 4, .sq (.s L), [.v (.c (.int .i64 log)), .v (.a [.ob (.s w)])] => some ([0 ≤ log, log ≤ 16, len = 2 ^ log.toNat, L.length = len, halfNeg log w], .sq (.s (ntt L w len)))
  | _, _, _, _ => none

theorem ntt_mu {L : List Fr} {log : Int} {w : Fr} {len : Nat} (ho : AllP [0 ≤ log, log ≤ 16, len = 2 ^ log.toNat, L.length = len, halfNeg log w]) : MuC Try.prog 86 0 len 4 (.sq (.s L)) [.v (.c (.int .i64 log)), .v (.a [.ob (.s w)])] (.sq (.s (ntt L w len))) := by
  obtain ⟨h0, h1, h2, h3, h4, _⟩ := ho
  obtain ⟨k, rfl⟩ := Int.eq_ofNat_of_zero_le h0
  have h2 : len = 2 ^ k := h2
  subst h2
  have e : L = tab (2 ^ k) (fun q => L.getD q 0) := by rw [← h3]; exact tab_self L
  have := transform_mu (fun q => L.getD q 0) k w (by omega) (fun hk => h4 (by omega))
  rw [← e] at this
  exact this

noncomputable def envV : Env := { envW with mu := fun g => if g = 86 then some (mu1 nttSpec) else envW.mu g }
theorem envV_ok : EnvOk Try.prog envV :=
  env_mu envW_ok 86 nttSpec (enters_of Try.func86 rfl rfl) fun off len es e rest o e' h ho _ _ => by
    unfold nttSpec at h
    split at h
    · cases h
      exact ntt_mu ho
    · cases h

--@env envV envV_ok
noncomputable def vlIn_k : List KI := (run envV false 3000 ((fun (log : Int) (w s : U4) (l : List U4) => (⟨[.code (bodyOf Try.f47)], .normal, initSt Try.f47.ntmps [.v (.a [.int .i64 log, .ob (.fr w)]), .v (.a [.ob (.fr s)]), .v (.c (.sl (.fr l)))]⟩ : Cfg)) default default default default) [false, false]).cfg.k
theorem vlIn_hk (log : Int) (w s : U4) (l : List U4) : (run envV false 3000 ((⟨[.code (bodyOf Try.f47)], .normal, initSt Try.f47.ntmps [.v (.a [.int .i64 log, .ob (.fr w)]), .v (.a [.ob (.fr s)]), .v (.c (.sl (.fr l)))]⟩ : Cfg)) [false, false]).cfg.k = vlIn_k := by kernel_rfl
theorem vlIn (log : Int) (w s : U4) (l : List U4) {w0 : World} {F0 : Nat → Prop} {K : Kp} {ac : List Act} {Q : Exit → Act → World → Prop} {cX : Ctx} {aX : Act} (ho : AllP [((Bool.not (domOk log w)) = false), ((0 : Int) ≤ log), ((decide ((((List.length l) : Nat) : Int) > (IntKind.wrap .i64 ((1 : Int) * ((2 : Int) ^ (Min.min (log).toNat 64)))))) = false), ((0 : Int) ≤ log), ((0 : Int) ≤ (IntKind.wrap .i64 ((1 : Int) * ((2 : Int) ^ (Min.min (log).toNat 64))))), ((IntKind.wrap .i64 ((1 : Int) * ((2 : Int) ^ (Min.min (log).toNat 64)))) = (IntKind.wrap .i64 ((1 : Int) * ((2 : Int) ^ (Min.min (log).toNat 64))))), (((32 : Int) * (IntKind.wrap .i64 ((1 : Int) * ((2 : Int) ^ (Min.min (log).toNat 64))))) ≤ (281474976710656 : Int)), ((IntKind.wrap .i64 ((1 : Int) * ((2 : Int) ^ (Min.min (log).toNat 64)))) ≤ (9223372036854775807 : Int)), ((0 : Int) ≤ (1 : Int)), ((1 : Int) < (18446744073709551616 : Int))]) (hs : Sim w0 F0 K ac (initSt Try.f47.ntmps [.v (.a [.int .i64 log, .ob (.fr w)]), .v (.a [.ob (.fr s)]), .v (.c (.sl (.fr l)))]) cX aX) (hK : ∀ ac cY aY, Sim w0 F0 K ac (mkSt 58 [3, 8, 9, 10, 31, 32, 33] [(.v (.c (.ptr 16 0))), (.v (.c (.slc 304 0 ((IntKind.wrap .i64 ((1 : Int) * ((2 : Int) ^ (Min.min (log).toNat 64))))).toNat 4))), (.v (.c (.ptr 384 0))), (.v (.c (.ptr 400 0))), (.v (.c (.sl (.fr l)))), (.v (.c (.int .i64 (((List.length l) : Nat) : Int)))), (.v (.c (.int .i64 (0 : Int))))] [16, 304, 384, 400] [(some (.fl [(.int .i64 log), (.ob (.fr w))])), (some (.sq (.s (List.replicate ((IntKind.wrap .i64 ((1 : Int) * ((2 : Int) ^ (Min.min (log).toNat 64))))).toNat (0 : Fr))))), (some (.fl [(.ob (.s (inF s)))])), (some (.fl [(.ob (.s (Fin.ofNat rN 1)))]))] 496 [] []) cY aY → Wq Try.prog Q (vlIn_k) ac Exit.normal aY cY.w) : Wq Try.prog Q ([.code (bodyOf Try.f47)]) ac .normal aX cX.w :=
  run_at2 (o := ⟨_, _, _, _, _, _, _⟩) envV_ok (by kernel_rfl) (vlIn_hk log w s l) ho hs hK
noncomputable def raIn_k : List KI := (run envV false 3000 ((fun (l : List U4) (x : U4) => (⟨[.code (bodyOf Try.f87)], .normal, initSt Try.f87.ntmps [.v (.c (.sl (.fr l))), .v (.a [.ob (.fr x)])]⟩ : Cfg)) default default) []).cfg.k
theorem raIn_hk (l : List U4) (x : U4) : (run envV false 3000 ((⟨[.code (bodyOf Try.f87)], .normal, initSt Try.f87.ntmps [.v (.c (.sl (.fr l))), .v (.a [.ob (.fr x)])]⟩ : Cfg)) []).cfg.k = raIn_k := by kernel_rfl
theorem raIn (l : List U4) (x : U4) {w0 : World} {F0 : Nat → Prop} {K : Kp} {ac : List Act} {Q : Exit → Act → World → Prop} {cX : Ctx} {aX : Act} (ho : AllP []) (hs : Sim w0 F0 K ac (initSt Try.f87.ntmps [.v (.c (.sl (.fr l))), .v (.a [.ob (.fr x)])]) cX aX) (hK : ∀ ac cY aY, Sim w0 F0 K ac (mkSt 25 [0, 3, 4, 5, 6] [(.v (.c (.sl (.fr l)))), (.v (.c (.ptr 16 0))), (.v (.c (.ptr 32 0))), (.v (.c (.ptr 64 0))), (.v (.c (.int .i64 (IntKind.wrap .i64 ((((List.length l) : Nat) : Int) - (1 : Int))))))] [16, 32, 64] [(some (.fl [(.ob (.fr x))])), (some (.fl [(.ob (.fr (0 : U4)))])), (some (.fl [(.ob (.fr (0 : U4)))]))] 160 [] []) cY aY → Wq Try.prog Q (raIn_k) ac Exit.normal aY cY.w) : Wq Try.prog Q ([.code (bodyOf Try.f87)]) ac .normal aX cX.w :=
  run_at2 (o := ⟨_, _, _, _, _, _, _⟩) envV_ok (by kernel_rfl) (raIn_hk l x) ho hs hK
noncomputable def vlS (log : Int) (w s : U4) (l : List U4) (N : Nat) (L : List Fr) (x : Fr) (i : Nat) : St := mkSt 58 [3, 8, 9, 10, 31, 32, 33] [(SV.v (V1.c (It.ptr 16 0))), .v (.c (.slc 304 0 N 4)), (SV.v (V1.c (It.ptr 384 0))), (SV.v (V1.c (It.ptr 400 0))), (SV.v (V1.c (It.sl (Sq.fr l)))), (SV.v (V1.c (It.int IntKind.i64 (((List.length l) : Nat) : Int)))), .v (.c (.int .i64 (i : Int)))] [16, 304, 384, 400] [(Option.some (En.fl [(It.int IntKind.i64 log), (It.ob (Ob.fr w))])), some (.sq (.s L)), (Option.some (En.fl [(It.ob (Ob.s (inF s)))])), some (.fl [.ob (.s x)])] 496 [] []
theorem vlN_hk (log : Int) (w s : U4) (l : List U4) (N : Nat) (L : List Fr) (x : Fr) (i : Nat) : (run envV false 3000 ((⟨lpIn vlIn_k, .normal, vlS log w s l N L x i⟩ : Cfg)) [true]).cfg.k = lpBk vlIn_k := by kernel_rfl
theorem vlN (log : Int) (w s : U4) (l : List U4) (N : Nat) (L : List Fr) (x : Fr) (i : Nat) {w0 : World} {F0 : Nat → Prop} {K : Kp} {ac : List Act} {Q : Exit → Act → World → Prop} {cX : Ctx} {aX : Act} (ho : AllP [((decide (((i : Nat) : Int) < (((List.length l) : Nat) : Int))) = true), ((0 : Int) ≤ ((i : Nat) : Int)), (((i : Nat) : Int) < (((List.length l) : Nat) : Int)), ((0 : Int) ≤ ((i : Nat) : Int)), (((i : Nat) : Int) < ((N : Nat) : Int)), (0 = 0), ((((i : Nat) : Int)).toNat < (List.length L))]) (hs : Sim w0 F0 K ac (vlS log w s l N L x i) cX aX) (hK : ∀ ac cY aY, Sim w0 F0 K ac (mkSt 58 [3, 8, 9, 10, 31, 32, 33] [(.v (.c (.ptr 16 0))), (.v (.c (.slc 304 0 N 4))), (.v (.c (.ptr 384 0))), (.v (.c (.ptr 400 0))), (.v (.c (.sl (.fr l)))), (.v (.c (.int .i64 (((List.length l) : Nat) : Int)))), (.v (.c (.int .i64 (IntKind.wrap .i64 (((i : Nat) : Int) + (1 : Int))))))] [16, 304, 384, 400] [(some (.fl [(.int .i64 log), (.ob (.fr w))])), (some (.sq (.s (List.set L (((i : Nat) : Int)).toNat ((inF (List.getD l (((i : Nat) : Int)).toNat (0 : U4))) * x))))), (some (.fl [(.ob (.s (inF s)))])), (some (.fl [(.ob (.s (x * (inF s))))]))] 832 [] []) cY aY → Wq Try.prog Q (lpBk vlIn_k) ac Exit.normal aY cY.w) : Wq Try.prog Q (lpIn vlIn_k) ac .normal aX cX.w :=
  run_at2 (o := ⟨_, _, _, _, _, _, _⟩) envV_ok (by kernel_rfl) (vlN_hk log w s l N L x i) ho hs hK
theorem vlX_end (log : Int) (w s : U4) (l : List U4) (N : Nat) (L : List Fr) (x : Fr) (i : Nat) : runEnd envV Try.f47 false 3000 (⟨lpIn vlIn_k, .normal, vlS log w s l N L x i⟩) [false] [640] [] = (Option.some ([((decide (((i : Nat) : Int) < (((List.length l) : Nat) : Int))) = false), ((0 : Int) ≤ log), (log ≤ (16 : Int)), (N = (2 ^ (log).toNat)), ((List.length L) = N), (halfNeg log (inF w)), (0 = 0), (N = (List.length (ntt L (inF w) N))), (4 = 4), ((List.length (ntt L (inF w) N)) ≤ 8796093022208)], ((SV.t [(V1.c (It.slc 0 0 (List.length (ntt L (inF w) N)) 4)), (V1.c (It.int IntKind.i64 (0 : Int)))]), [(En.sq (Sq.fr (List.map outF (ntt L (inF w) N))))]))) := by kernel_rfl
theorem vlA (log : Int) (w s : U4) (l : List U4) : fnRes envV Try.f47 3000 [.v (.a [.int .i64 log, .ob (.fr w)]), .v (.a [.ob (.fr s)]), .v (.c (.sl (.fr l)))] [true] [] [] = (Option.some ([((Bool.not (domOk log w)) = true)], ((SV.t [(V1.c (It.val (Value.slice Option.none 0 0))), (V1.c (It.int IntKind.i64 (40 : Int)))]), []))) := by kernel_rfl
theorem vlB (log : Int) (w s : U4) (l : List U4) : fnRes envV Try.f47 3000 [.v (.a [.int .i64 log, .ob (.fr w)]), .v (.a [.ob (.fr s)]), .v (.c (.sl (.fr l)))] [false, true] [] [] = (Option.some ([((Bool.not (domOk log w)) = false), ((0 : Int) ≤ log), ((decide ((((List.length l) : Nat) : Int) > (IntKind.wrap IntKind.i64 ((1 : Int) * ((2 : Int) ^ (Min.min (log).toNat 64)))))) = true)], ((SV.t [(V1.c (It.val (Value.slice Option.none 0 0))), (V1.c (It.int IntKind.i64 (3 : Int)))]), []))) := by kernel_rfl
noncomputable def raS (l : List U4) (x o : U4) (i : Int) : St := mkSt 25 [0, 3, 4, 5, 6] [(SV.v (V1.c (It.sl (Sq.fr l)))), (SV.v (V1.c (It.ptr 16 0))), (SV.v (V1.c (It.ptr 32 0))), (SV.v (V1.c (It.ptr 64 0))), .v (.c (.int .i64 i))] [16, 32, 64] [(Option.some (En.fl [(It.ob (Ob.fr x))])), (Option.some (En.fl [(It.ob (Ob.fr (0 : U4)))])), some (.fl [.ob (.fr o)])] 160 [] []
theorem raN_hk (l : List U4) (x o : U4) (i : Int) : (run envV false 3000 ((⟨lpIn raIn_k, .normal, raS l x o i⟩ : Cfg)) [true]).cfg.k = lpBk raIn_k := by kernel_rfl
theorem raN (l : List U4) (x o : U4) (i : Int) {w0 : World} {F0 : Nat → Prop} {K : Kp} {ac : List Act} {Q : Exit → Act → World → Prop} {cX : Ctx} {aX : Act} (ho : AllP [((decide (i ≥ (0 : Int))) = true), ((Fin.val x) < rN), ((0 : Int) ≤ i), (i < (((List.length l) : Nat) : Int))]) (hs : Sim w0 F0 K ac (raS l x o i) cX aX) (hK : ∀ ac cY aY, Sim w0 F0 K ac (mkSt 25 [0, 3, 4, 5, 6] [(.v (.c (.sl (.fr l)))), (.v (.c (.ptr 16 0))), (.v (.c (.ptr 32 0))), (.v (.c (.ptr 64 0))), (.v (.c (.int .i64 (IntKind.wrap .i64 (i - (1 : Int))))))] [16, 32, 64] [(some (.fl [(.ob (.fr x))])), (some (.fl [(.ob (.fr (0 : U4)))])), (some (.fl [(.ob (.fr (cleanU ((mulU o x) + (cleanU (List.getD l (i).toNat (0 : U4)))))))]))] 400 [] []) cY aY → Wq Try.prog Q (lpBk raIn_k) ac Exit.normal aY cY.w) : Wq Try.prog Q (lpIn raIn_k) ac .normal aX cX.w :=
  run_at2 (o := ⟨_, _, _, _, _, _, _⟩) envV_ok (by kernel_rfl) (raN_hk l x o i) ho hs hK
theorem raX_end (l : List U4) (x o : U4) (i : Int) : runEnd envV Try.f87 false 3000 (⟨lpIn raIn_k, .normal, raS l x o i⟩) [false] [] [] = (Option.some ([((decide (i ≥ (0 : Int))) = false)], ((SV.v (V1.a [(It.ob (Ob.fr o))])), []))) := by kernel_rfl
end Go.Proofs.Ytlfllehomhcbfaa

/- Values at a domain's elements: contracts. No conditions. -/
namespace Go.Proofs.Ytlfllehomhcbfaa

section
variable {r : Nat} [NeZero r]
theorem mul4_r (a b c d : Fin r) : a * b * (c * d) = a * c * (b * d) := by grind
theorem mul3_r (a b c : Fin r) : a * b * c = a * (b * c) := by grind
theorem mulc_r (a b : Fin r) : a * b = b * a := by grind
theorem dist_r (a b c : Fin r) : (a + b) * c = a * c + b * c := by grind
theorem sm_trunc {f : Nat → Fin r} {m : Nat} : ∀ {n : Nat}, m ≤ n → (∀ j, m ≤ j → j < n → f j = 0) → sm f n = sm f m
  | 0, h, _ => by rw [show m = 0 from by omega]
  | n + 1, h, hz => by
    by_cases h1 : m = n + 1
    · rw [h1]
    · show sm f n + f n = _
      rw [sm_trunc (m := m) (n := n) (by omega) (fun j h2 h3 => hz j h2 (by omega)), hz n (by omega) (by omega)]
      exact Fin.add_zero _
/-- From the top on. -/
theorem sm_front (f : Nat → Fin r) : ∀ n, sm f (n + 1) = f 0 + sm (fun i => f (i + 1)) n
  | 0 => by simp only [sm]; grind
  | n + 1 => by
    have := sm_front f n
    simp only [sm] at this ⊢
    rw [this]
    grind
end

theorem powN_mul (x y : Fr) : ∀ n, powN (x * y) n = powN x n * powN y n
  | 0 => (Fin.mul_one _).symm
  | n + 1 => by
    show powN (x * y) n * (x * y) = powN x n * x * (powN y n * y)
    rw [powN_mul x y n]
    exact mul4_r _ _ _ _

theorem powN_powN (x : Fr) (q : Nat) : ∀ n, powN (powN x q) n = powN x (q * n)
  | 0 => rfl
  | n + 1 => by
    show powN (powN x q) n * powN x q = _
    rw [powN_powN x q n, Nat.mul_succ, powN_add]

/-- A polynomial's value. -/
def evalF (L : List Fr) (x : Fr) : Fr := sm (fun j => L.getD j 0 * powN x j) L.length
/-- Its values at so many powers, each times a shift. -/
def valsF (n : Nat) (w s : Fr) (L : List Fr) : List Fr := tab n (fun q => evalF L (s * powN w q))

theorem fill_get {f : Nat → Fr} {m N j : Nat} : ((List.range m).map f ++ List.replicate (N - m) (0 : Fr)).getD j 0 = if j < m then f j else 0 := by
  by_cases h : j < m
  · simp [List.getD, List.getElem?_append, h]
  · rw [if_neg h]
    by_cases h2 : j < m + (N - m)
    · simp [List.getD, List.getElem?_append, h, List.getElem?_replicate]
      split <;> rfl
    · simp [List.getD, List.getElem?_append, h, List.getElem?_replicate]
      split <;> rfl

theorem ntt_vals {L : List Fr} {N : Nat} (w s : Fr) (h : L.length ≤ N) : ntt ((List.range L.length).map (fun j => L.getD j 0 * powN s j) ++ List.replicate (N - L.length) 0) w N = valsF N w s L := by
  unfold ntt nttL valsF
  refine tab_congr fun q _ => ?_
  simp only [fill_get]
  rw [sm_trunc h (fun j h1 _ => by rw [if_neg (by omega)]; exact Fin.zero_mul _)]
  unfold evalF
  refine sm_congr _ fun j hj => ?_
  rw [if_pos hj, powN_mul, powN_powN]
  exact mul3_r _ _ _

theorem root31 : sqN rootF 31 = -1 := by
  apply Fin.ext
  rw [sqN_val]
  decide +kernel

theorem sqN_pow (x : Fr) : ∀ n, sqN x n = powN x (2 ^ n)
  | 0 => (Fin.one_mul _).symm
  | n + 1 => by
    show sqN x n * sqN x n = _
    rw [sqN_pow x n, Nat.pow_succ, Nat.mul_two, powN_add]

theorem dom_half {log : Int} {w : U4} (h : domOk log w = true) : halfNeg log (inF w) := by
  intro hp
  obtain ⟨h0, h1, rfl⟩ := domOk_log h
  rw [in_out, sqN_pow, powN_powN, ← Nat.pow_add, show (32 - log).toNat + (log.toNat - 1) = 31 from by omega, ← sqN_pow]
  exact root31

theorem shl3 {log : Int} (h0 : 0 ≤ log) (h1 : log ≤ 16) : IntKind.wrap .i64 ((1 : Int) * ((2 : Int) ^ (min (log).toNat 64))) = ((2 ^ log.toNat : Nat) : Int) := by
  obtain ⟨k, rfl⟩ := Int.eq_ofNat_of_zero_le h0
  exact shl_one (by omega)

theorem valsF_len (n : Nat) (w s : Fr) (L : List Fr) : (valsF n w s L).length = n := tab_len _ _

theorem vals_fnd (log : Int) (w s : U4) (l : List U4) (hd : domOk log w = true) (hl : l.length ≤ 2 ^ log.toNat) :
    FnD Try.prog 47 [.v (.a [.int .i64 log, .ob (.fr w)]), .v (.a [.ob (.fr s)]), .v (.c (.sl (.fr l)))] (.t [.c (.slc 0 0 (2 ^ log.toNat) 4), .c (.int .i64 0)]) [.sq (.fr ((valsF (2 ^ log.toNat) (inF w) (inF s) (l.map inF)).map outF))] := by
  obtain ⟨h0, h1, _⟩ := domOk_log hd
  have hhalf := dom_half hd
  have hp2 : 2 ^ log.toNat ≤ 2 ^ 16 := Nat.pow_le_pow_right (by decide) (by omega)
  have hsh := shl3 h0 h1
  have hN : ∃ N, N = 2 ^ log.toNat := ⟨_, rfl⟩
  obtain ⟨N, hN⟩ := hN
  rw [← hN] at hl hp2 hsh ⊢
  refine fn_start (fn := Try.f47) (c := bodyOf Try.f47) Try.func47 rfl rfl fun x a hk hF hs => ?_
  refine vlIn log w s l ?_ hs fun ac cY aY hs1 => ?_
  · rw [hsh, hd]
    clear hd hhalf hsh hs hN
    and_intros <;> first | rfl | trivial | omega | (apply decide_eq_false; omega) | decide
  rw [hsh, Int.toNat_natCast] at hs1
  refine loop_rule (ι := { i : Nat // i ≤ l.length }) (fun i => vlS log w s l N ((List.range i.1).map (fun j => (l.map inF).getD j 0 * powN (inF s) j) ++ List.replicate (N - i.1) 0) (powN (inF s) i.1) i.1) (fun i => l.length - i.1) (c := lpC vlIn_k) (k := lpR vlIn_k) (by kernel_rfl) (fun i ih ac cY aY hs => ?_) ⟨0, Nat.zero_le _⟩ hs1
  obtain ⟨i, hi⟩ := i
  simp only at ih hs
  have hlen := fill_len (fun j => (l.map inF).getD j 0 * powN (inF s) j) 0 (show i ≤ N by omega)
  by_cases h : i < l.length
  · have e : inF (l.getD i 0) = (l.map inF).getD i 0 := by simp [List.getD, h]
    refine vlN log w s l N _ _ i ⟨by simp [h], by omega, by omega, by omega, by omega, rfl, by rw [hlen]; omega, trivial⟩ hs fun ac cZ aZ hs2 => ?_
    rw [Int.toNat_natCast, e, fill_set (fun j => (l.map inF).getD j 0 * powN (inF s) j) _ (by omega : i < N), wrap_id (by omega) (by omega)] at hs2
    exact ih ⟨i + 1, by omega⟩ (by show l.length - (i + 1) < l.length - i; omega) ac cZ aZ (hs2.nx _)
  · have e : i = (l.map inF).length := by rw [List.length_map]; omega
    have r := vlX_end log w s l N ((List.range i).map (fun j => (l.map inF).getD j 0 * powN (inF s) j) ++ List.replicate (N - i) 0) (powN (inF s) i) i
    have e2 : ntt ((List.range i).map (fun j => (l.map inF).getD j 0 * powN (inF s) j) ++ List.replicate (N - i) 0) (inF w) N = valsF N (inF w) (inF s) (l.map inF) := by
      rw [e]
      exact ntt_vals (inF w) (inF s) (by rw [List.length_map]; exact hl)
    rw [e2, valsF_len] at r
    exact run_end2 envV_ok hk hF r ⟨by simp [h], h0, h1, hN, hlen, hhalf, rfl, rfl, rfl, by omega, trivial⟩ (fun y v hd => hd) hs

theorem vals_fnd0 (log : Int) (w s : U4) (l : List U4) (hd : domOk log w = false) :
    FnD Try.prog 47 [.v (.a [.int .i64 log, .ob (.fr w)]), .v (.a [.ob (.fr s)]), .v (.c (.sl (.fr l)))] (.t [.c (.val (.slice none 0 0)), .c (.int .i64 40)]) [] :=
  fn_sound envV_ok Try.func47 (vlA log w s l) ⟨by rw [hd]; rfl, trivial⟩

theorem vals_fnd1 (log : Int) (w s : U4) (l : List U4) (hd : domOk log w = true) (hl : ¬ l.length ≤ 2 ^ log.toNat) :
    FnD Try.prog 47 [.v (.a [.int .i64 log, .ob (.fr w)]), .v (.a [.ob (.fr s)]), .v (.c (.sl (.fr l)))] (.t [.c (.val (.slice none 0 0)), .c (.int .i64 3)]) [] := by
  obtain ⟨h0, h1, _⟩ := domOk_log hd
  have hsh := shl3 h0 h1
  refine fn_sound envV_ok Try.func47 (vlB log w s l) ⟨by rw [hd]; rfl, h0, ?_, trivial⟩
  rw [hsh]
  exact decide_eq_true (by omega)

/-- From the highest coefficient on. -/
def hornF (L : List Fr) (x : Fr) : Nat → Fr
  | 0 => 0
  | i + 1 => hornF L x i * x + L.getD (L.length - (i + 1)) 0

theorem hornF_eval (L : List Fr) (x : Fr) : ∀ i, i ≤ L.length → hornF L x i = sm (fun j => L.getD (L.length - i + j) 0 * powN x j) i
  | 0, _ => rfl
  | i + 1, h => by
    show hornF L x i * x + _ = _
    rw [hornF_eval L x i (by omega), sm_front]
    have e1 : L.getD (L.length - (i + 1) + 0) 0 * powN x 0 = L.getD (L.length - (i + 1)) 0 := Fin.mul_one _
    rw [e1, mulc_r _ x, ← sm_mul, fr_add_comm]
    congr 1
    refine sm_congr _ fun j _ => ?_
    rw [show L.length - (i + 1) + (j + 1) = L.length - i + j from by omega]
    show x * (_ * powN x j) = _ * (powN x j * x)
    rw [mulc_r x, mul3_r]

theorem at_fnd (l : List U4) (x : U4) (hx : x.val < rN) : FnD Try.prog 87 [.v (.c (.sl (.fr l))), .v (.a [.ob (.fr x)])] (.v (.a [.ob (.fr (outF (evalF (l.map inF) (inF x))))])) [] := by
  have e0 : outF (hornF (l.map inF) (inF x) 0) = (0 : U4) := by apply Fin.ext; rw [outF_val]; rfl
  refine fn_start (fn := Try.f87) (c := bodyOf Try.f87) Try.func87 rfl rfl fun c a hk hF hs => ?_
  have hlm : (l.length : Int) ≤ 9223372036854775807 := by
    have := sl_len (q := .fr l) (hs.t 0)
    simp only [maxLen, Sq.n] at this
    omega
  refine raIn l x trivial hs fun ac cY aY hs1 => ?_
  have e : (l.length : Int) - 1 - ((0 : Nat) : Int) = (l.length : Int) - 1 := by omega
  rw [wrap_id (by omega) (by omega), ← e, ← e0] at hs1
  refine loop_rule (ι := { i : Nat // i ≤ l.length }) (fun i => raS l x (outF (hornF (l.map inF) (inF x) i.1)) ((l.length : Int) - 1 - (i.1 : Int))) (fun i => l.length - i.1) (c := lpC raIn_k) (k := lpR raIn_k) (by kernel_rfl) (fun i ih ac cY aY hs => ?_) ⟨0, Nat.zero_le _⟩ (hs1.nx _)
  obtain ⟨i, hi⟩ := i
  simp only at ih hs
  by_cases h : i < l.length
  · refine raN l x _ _ ⟨by simp; omega, hx, by omega, by omega, trivial⟩ hs fun ac cZ aZ hs2 => ?_
    have e1 : mulU (outF (hornF (l.map inF) (inF x) i)) x = outF (hornF (l.map inF) (inF x) i * inF x) := by
      have := mulU_out (hornF (l.map inF) (inF x) i) (inF x)
      rw [out_in hx] at this
      exact this
    have e2 : inF (l.getD ((l.length : Int) - 1 - (i : Int)).toNat 0) = (l.map inF).getD ((l.map inF).length - (i + 1)) 0 := by
      rw [show ((l.length : Int) - 1 - (i : Int)).toNat = l.length - (i + 1) from by omega, List.length_map]
      have : l.length - (i + 1) < l.length := by omega
      simp [List.getD, this]
    rw [e1, clean_out (l.getD _ 0), addU_out, e2, wrap_id (by omega) (by omega)] at hs2
    refine ih ⟨i + 1, by omega⟩ (by show l.length - (i + 1) < l.length - i; omega) ac cZ aZ ?_
    have e3 : (l.length : Int) - 1 - (i : Int) - 1 = (l.length : Int) - 1 - ((i + 1 : Nat) : Int) := by omega
    rw [e3] at hs2
    exact hs2.nx _
  · have e : i = (l.map inF).length := by rw [List.length_map]; omega
    have hh := hornF_eval (l.map inF) (inF x) i (Nat.le_of_eq e)
    rw [hh, e, Nat.sub_self] at hs
    simp only [Nat.zero_add] at hs
    exact run_end2 envV_ok hk hF (raX_end l x _ _) ⟨by simp; omega, trivial⟩ (fun y v hd => hd) hs

/-- What the values are, and the refusal, of whatever is asked. -/
def valE (log : Int) (w : U4) (l : List U4) : Int := if domOk log w then (if l.length ≤ 2 ^ log.toNat then 0 else 3) else 40
def valL (log : Int) (w s : U4) (l : List U4) : List U4 := if domOk log w = true ∧ l.length ≤ 2 ^ log.toNat then (valsF (2 ^ log.toNat) (inF w) (inF s) (l.map inF)).map outF else []

theorem values_fnd (log : Int) (w s : U4) (l : List U4) :
    FnD Try.prog 47 [.v (.a [.int .i64 log, .ob (.fr w)]), .v (.a [.ob (.fr s)]), .v (.c (.sl (.fr l)))] (.t [.c (.slc 0 0 (valL log w s l).length 4), .c (.int .i64 (valE log w l))]) [.sq (.fr (valL log w s l))] := by
  unfold valE valL
  cases hd : domOk log w with
  | false =>
    rw [if_neg (by simp), if_neg (by simp)]
    exact (vals_fnd0 log w s l hd).nil2 rfl
  | true =>
    by_cases hl : l.length ≤ 2 ^ log.toNat
    · rw [if_pos rfl, if_pos hl, if_pos ⟨rfl, hl⟩, List.length_map, valsF_len]
      exact vals_fnd log w s l hd hl
    · rw [if_pos rfl, if_neg hl, if_neg (by simp [hl])]
      exact (vals_fnd1 log w s l hd hl).nil2 rfl

end Go.Proofs.Ytlfllehomhcbfaa

/- Values at a domain's elements: the law, walked. No conditions. -/
namespace Go.Proofs.Ytlfllehomhcbfaa

def valSpec : FnSpec
  | [.v (.a [.int .i64 log, .ob (.fr w)]), .v (.a [.ob (.fr s)]), .v (.c (.sl (.fr l)))] => some ([], .t [.c (.slc 0 0 (valL log w s l).length 4), .c (.int .i64 (valE log w l))], [.sq (.fr (valL log w s l))])
  | _ => none
noncomputable def envV1 : Env := envV.set (addT envV.fn 47 valSpec)
theorem envV1_ok : EnvOk Try.prog envV1 := env_add envV_ok 47 valSpec (enters_of Try.func47 rfl rfl) fun args o r es h _ => by
  unfold valSpec at h
  split at h
  · cases h; exact values_fnd _ _ _ _
  · cases h
def atSpec : FnSpec
  | [.v (.c (.sl (.fr l))), .v (.a [.ob (.fr x)])] => some ([x.val < rN], .v (.a [.ob (.fr (outF (evalF (l.map inF) (inF x))))]), [])
  | _ => none
noncomputable def envV2 : Env := envV1.set (addT envV1.fn 87 atSpec)
theorem envV2_ok : EnvOk Try.prog envV2 := env_add envV1_ok 87 atSpec (enters_of Try.func87 rfl rfl) fun args o r es h ho => by
  unfold atSpec at h
  split at h
  · cases h; exact at_fnd _ _ ho.1
  · cases h
--@env envV2 envV2_ok
noncomputable def rvIn_k : List KI := (run envV2 false 3000 ((fun (log : Int) (w s : U4) (l : List U4) => (⟨[.code (bodyOf Try.f48)], .normal, initSt Try.f48.ntmps [.v (.a [.int .i64 log, .ob (.fr w)]), .v (.a [.ob (.fr s)]), .v (.c (.sl (.fr l)))]⟩ : Cfg)) default default default default) []).cfg.k
theorem rvIn_hk (log : Int) (w s : U4) (l : List U4) : (run envV2 false 3000 ((⟨[.code (bodyOf Try.f48)], .normal, initSt Try.f48.ntmps [.v (.a [.int .i64 log, .ob (.fr w)]), .v (.a [.ob (.fr s)]), .v (.c (.sl (.fr l)))]⟩ : Cfg)) []).cfg.k = rvIn_k := by kernel_rfl
theorem rvIn (log : Int) (w s : U4) (l : List U4) {w0 : World} {F0 : Nat → Prop} {K : Kp} {ac : List Act} {Q : Exit → Act → World → Prop} {cX : Ctx} {aX : Act} (ho : AllP [((0 : Int) ≤ log), (log ≤ (16 : Int)), ((Fin.val w) < rN)]) (hs : Sim w0 F0 K ac (initSt Try.f48.ntmps [.v (.a [.int .i64 log, .ob (.fr w)]), .v (.a [.ob (.fr s)]), .v (.c (.sl (.fr l)))]) cX aX) (hK : ∀ ac cY aY, Sim w0 F0 K ac (mkSt 29 [2, 4, 7, 12, 13, 14] [(.v (.c (.sl (.fr l)))), (.v (.c (.ptr 32 0))), (.v (.c (.slc 64 0 0 4))), (.v (.c (.slc 112 0 (2 ^ (log).toNat) 4))), (.v (.c (.int .i64 (((2 ^ (log).toNat) : Nat) : Int)))), (.v (.c (.int .i64 (0 : Int))))] [32, 64, 112] [(some (.fl [(.ob (.fr s))])), (some (.sq (.fr ([] : List U4)))), (some (.sq (.fr (List.map outF (powF (inF w) (2 ^ (log).toNat))))))] 160 [] []) cY aY → Wq Try.prog Q (rvIn_k) ac Exit.normal aY cY.w) : Wq Try.prog Q ([.code (bodyOf Try.f48)]) ac .normal aX cX.w :=
  run_at2 (o := ⟨_, _, _, _, _, _, _⟩) envV2_ok (by kernel_rfl) (rvIn_hk log w s l) ho hs hK
noncomputable def rvS (s : U4) (l : List U4) (N : Nat) (E L : List U4) (i : Nat) : St := mkSt 29 [2, 4, 7, 12, 13, 14] [(SV.v (V1.c (It.sl (Sq.fr l)))), (SV.v (V1.c (It.ptr 32 0))), .v (.c (.slc 64 0 i 4)), .v (.c (.slc 112 0 N 4)), .v (.c (.int .i64 (N : Int))), .v (.c (.int .i64 (i : Int)))] [32, 64, 112] [(Option.some (En.fl [(It.ob (Ob.fr s))])), some (.sq (.fr L)), some (.sq (.fr E))] 160 [] []
theorem rvN_hk (s : U4) (l : List U4) (N : Nat) (E L : List U4) (i : Nat) : (run envV2 false 3000 ((⟨lpIn rvIn_k, .normal, rvS s l N E L i⟩ : Cfg)) [true]).cfg.k = lpBk rvIn_k := by kernel_rfl
theorem rvN (s : U4) (l : List U4) (N : Nat) (E L : List U4) (i : Nat) {w0 : World} {F0 : Nat → Prop} {K : Kp} {ac : List Act} {Q : Exit → Act → World → Prop} {cX : Ctx} {aX : Act} (ho : AllP [((decide (((i : Nat) : Int) < ((N : Nat) : Int))) = true), ((0 : Int) ≤ ((i : Nat) : Int)), (((i : Nat) : Int) < ((N : Nat) : Int)), (0 = 0), ((((i : Nat) : Int)).toNat < (List.length E)), ((Fin.val (List.getD E (((i : Nat) : Int)).toNat (0 : U4))) < rN), ((Fin.val (mulU (cleanU s) (List.getD E (((i : Nat) : Int)).toNat (0 : U4)))) < rN), ((((List.length L) + 1) * 32) ≤ 140737488355328), (((List.length L) + 1) ≤ maxLen), (i = (List.length L)), (1 = 1)]) (hs : Sim w0 F0 K ac (rvS s l N E L i) cX aX) (hK : ∀ ac cY aY, Sim w0 F0 K ac (mkSt 29 [2, 4, 7, 12, 13, 14] [(.v (.c (.sl (.fr l)))), (.v (.c (.ptr 32 0))), (.v (.c (.slc 64 0 ((List.length L) + 1) 4))), (.v (.c (.slc 112 0 N 4))), (.v (.c (.int .i64 ((N : Nat) : Int)))), (.v (.c (.int .i64 (IntKind.wrap .i64 (((i : Nat) : Int) + (1 : Int))))))] [32, 64, 112] [(some (.fl [(.ob (.fr s))])), (some (.sq (.fr (L ++ [(outF (evalF (List.map inF l) (inF (mulU (cleanU s) (List.getD E (((i : Nat) : Int)).toNat (0 : U4))))))])))), (some (.sq (.fr E)))] 432 [] []) cY aY → Wq Try.prog Q (lpBk rvIn_k) ac Exit.normal aY cY.w) : Wq Try.prog Q (lpIn rvIn_k) ac .normal aX cX.w :=
  run_at2 (o := ⟨_, _, _, _, _, _, _⟩) envV2_ok (by kernel_rfl) (rvN_hk s l N E L i) ho hs hK
theorem rvX_end (s : U4) (l : List U4) (N : Nat) (E L : List U4) (i : Nat) : runEnd envV2 Try.f48 false 3000 (⟨lpIn rvIn_k, .normal, rvS s l N E L i⟩) [false] [64] [] = (Option.some ([((decide (((i : Nat) : Int) < ((N : Nat) : Int))) = false)], ((SV.v (V1.c (It.slc 0 0 i 4))), [(En.sq (Sq.fr L))]))) := by kernel_rfl
end Go.Proofs.Ytlfllehomhcbfaa

/- Values at a domain's elements: the reference's contract; the law, walked. No conditions. -/
namespace Go.Proofs.Ytlfllehomhcbfaa

theorem mulU_clean (s : U4) (y : Fr) : mulU (cleanU s) (outF y) = outF (inF s * y) := by
  have := mulU_out (inF s) y
  rw [clean_out]
  exact this

theorem valsF_get (w s : Fr) (L : List Fr) (i : Nat) : (valsF (i + 1) w s L).map outF = (valsF i w s L).map outF ++ [outF (evalF L (s * powN w i))] := by
  simp [valsF, tab, List.range_succ]

theorem rvals_fnd (k : Nat) (w s : U4) (l : List U4) (hk0 : k ≤ 16) (hw : w.val < rN) :
    FnD Try.prog 48 [.v (.a [.int .i64 (k : Int), .ob (.fr w)]), .v (.a [.ob (.fr s)]), .v (.c (.sl (.fr l)))] (.v (.c (.slc 0 0 (2 ^ k) 4))) [.sq (.fr ((valsF (2 ^ k) (inF w) (inF s) (l.map inF)).map outF))] := by
  have hp2 : 2 ^ k ≤ 2 ^ 16 := Nat.pow_le_pow_right (by decide) hk0
  refine fn_start (fn := Try.f48) (c := bodyOf Try.f48) Try.func48 rfl rfl fun x a hk hF hs => ?_
  refine rvIn (k : Int) w s l ⟨by omega, by omega, hw, trivial⟩ hs fun ac cY aY hs1 => ?_
  rw [Int.toNat_natCast] at hs1
  have hE : ((powF (inF w) (2 ^ k)).map outF).length = 2 ^ k := by rw [List.length_map, powF_len]
  have hg : ∀ i, i < 2 ^ k → ((powF (inF w) (2 ^ k)).map outF).getD i 0 = outF (powN (inF w) i) := fun i hi => by
    simp [powF, List.getD, hi]
  generalize 2 ^ k = N at *
  refine loop_rule (ι := { i : Nat // i ≤ N }) (fun i => rvS s l N ((powF (inF w) N).map outF) ((valsF i.1 (inF w) (inF s) (l.map inF)).map outF) i.1) (fun i => N - i.1) (c := lpC rvIn_k) (k := lpR rvIn_k) (by kernel_rfl) (fun i ih ac cY aY hs => ?_) ⟨0, Nat.zero_le _⟩ hs1
  obtain ⟨i, hi⟩ := i
  simp only at ih hs
  have hl : ((valsF i (inF w) (inF s) (l.map inF)).map outF).length = i := by rw [List.length_map, valsF_len]
  by_cases h : i < N
  · have hgi := hg i h
    refine rvN s l N _ _ i ⟨by simp [h], by omega, by omega, rfl, by rw [Int.toNat_natCast, hE]; exact h, ?_, ?_, by rw [hl]; omega, by rw [hl]; unfold maxLen; omega, hl.symm, rfl, trivial⟩ hs fun ac cZ aZ hs2 => ?_
    · rw [Int.toNat_natCast, hgi]; exact outF_lt _
    · rw [Int.toNat_natCast, hgi, mulU_clean]; exact outF_lt _
    · rw [Int.toNat_natCast, hgi, mulU_clean, in_out, hl, wrap_id (by omega) (by omega), ← valsF_get] at hs2
      exact ih ⟨i + 1, by omega⟩ (by show N - (i + 1) < N - i; omega) ac cZ aZ (hs2.nx _)
  · have e : i = N := by omega
    subst e
    exact run_end2 envV2_ok hk hF (rvX_end s l i _ _ i) ⟨by simp, trivial⟩ (fun y v hd => hd) hs

theorem rvals_fnd2 (log : Int) (w s : U4) (l : List U4) (h0 : 0 ≤ log) (h1 : log ≤ 16) (hw : w.val < rN) :
    FnD Try.prog 48 [.v (.a [.int .i64 log, .ob (.fr w)]), .v (.a [.ob (.fr s)]), .v (.c (.sl (.fr l)))] (.v (.c (.slc 0 0 (2 ^ log.toNat) 4))) [.sq (.fr ((valsF (2 ^ log.toNat) (inF w) (inF s) (l.map inF)).map outF))] := by
  obtain ⟨k, rfl⟩ := Int.eq_ofNat_of_zero_le h0
  exact rvals_fnd k w s l (by omega) hw

def rvalSpec : FnSpec
  | [.v (.a [.int .i64 log, .ob (.fr w)]), .v (.a [.ob (.fr s)]), .v (.c (.sl (.fr l)))] => some ([0 ≤ log, log ≤ 16, w.val < rN], .v (.c (.slc 0 0 (2 ^ log.toNat) 4)), [.sq (.fr ((valsF (2 ^ log.toNat) (inF w) (inF s) (l.map inF)).map outF))])
  | _ => none
noncomputable def envV3 : Env := envV2.set (addT envV2.fn 48 rvalSpec)
theorem envV3_ok : EnvOk Try.prog envV3 := env_add envV2_ok 48 rvalSpec (enters_of Try.func48 rfl rfl) fun args o r es h ho => by
  unfold rvalSpec at h
  split at h
  · cases h; exact rvals_fnd2 _ _ _ _ ho.1 ho.2.1 ho.2.2.1
  · cases h
--@env envV3 envV3_ok
theorem lvA (log : Int) (w s : U4) (l : List U4) : fnRes envV3 Try.f7 3000 [.v (.a [.int .i64 log, .ob (.fr w)]), .v (.a [.ob (.fr s)]), .v (.c (.sl (.fr l)))] [true, true] [] [] = (Option.some ([((decide (log > (5 : Int))) = true), ((domOk log w) = true)], ((SV.v (V1.c (It.lit true))), []))) := by kernel_rfl
theorem lvB (log : Int) (w s : U4) (l : List U4) : fnRes envV3 Try.f7 3000 [.v (.a [.int .i64 log, .ob (.fr w)]), .v (.a [.ob (.fr s)]), .v (.c (.sl (.fr l)))] [true, false, true, true, true, true] [] [] = (Option.some ([((decide (log > (5 : Int))) = true), ((domOk log w) = false), ((Bool.not (domOk log w)) = true), (((valE log w l) == (40 : Int)) = true)], ((SV.v (V1.c (It.bool ((((List.length (valL log w s l)) : Nat) : Int) == (0 : Int))))), []))) := by kernel_rfl
theorem lvB2 (log : Int) (w s : U4) (l : List U4) : fnRes envV3 Try.f7 3000 [.v (.a [.int .i64 log, .ob (.fr w)]), .v (.a [.ob (.fr s)]), .v (.c (.sl (.fr l)))] [false, true, true, true] [] [] = (Option.some ([((decide (log > (5 : Int))) = false), ((Bool.not (domOk log w)) = true), (((valE log w l) == (40 : Int)) = true)], ((SV.v (V1.c (It.bool ((((List.length (valL log w s l)) : Nat) : Int) == (0 : Int))))), []))) := by kernel_rfl
theorem lvC (log : Int) (w s : U4) (l : List U4) : fnRes envV3 Try.f7 3000 [.v (.a [.int .i64 log, .ob (.fr w)]), .v (.a [.ob (.fr s)]), .v (.c (.sl (.fr l)))] [false, false, true, true, true] [] [] = (Option.some ([((decide (log > (5 : Int))) = false), ((Bool.not (domOk log w)) = false), ((0 : Int) ≤ log), ((decide ((((List.length l) : Nat) : Int) > (IntKind.wrap IntKind.i64 ((1 : Int) * ((2 : Int) ^ (Min.min (log).toNat 64)))))) = true), (((valE log w l) == (3 : Int)) = true)], ((SV.v (V1.c (It.bool ((((List.length (valL log w s l)) : Nat) : Int) == (0 : Int))))), []))) := by kernel_rfl
theorem lvD (log : Int) (w s : U4) (l : List U4) : fnRes envV3 Try.f7 3000 [.v (.a [.int .i64 log, .ob (.fr w)]), .v (.a [.ob (.fr s)]), .v (.c (.sl (.fr l)))] [false, false, false, true, true] [] [] = (Option.some ([((decide (log > (5 : Int))) = false), ((Bool.not (domOk log w)) = false), ((0 : Int) ≤ log), ((decide ((((List.length l) : Nat) : Int) > (IntKind.wrap IntKind.i64 ((1 : Int) * ((2 : Int) ^ (Min.min (log).toNat 64)))))) = false), (((valE log w l) == (0 : Int)) = true), ((0 : Int) ≤ log), (log ≤ (16 : Int)), ((Fin.val w) < rN), (0 = 0), ((List.length (valL log w s l)) = (List.length (valL log w s l))), (4 = 4), (0 = 0), ((2 ^ (log).toNat) = (List.length (List.map outF (valsF (2 ^ (log).toNat) (inF w) (inF s) (List.map inF l))))), (4 = 4)], ((SV.v (V1.c (It.bool (decide ((valL log w s l) = (List.map outF (valsF (2 ^ (log).toNat) (inF w) (inF s) (List.map inF l)))))))), []))) := by kernel_rfl
end Go.Proofs.Ytlfllehomhcbfaa

/- Values and coefficients, there and back: the plain law. No conditions. -/
namespace Go.Proofs.Ytlfllehomhcbfaa

section
variable {r : Nat} [NeZero r]

theorem add4_g (a b c d : Fin r) : a + b + (c + d) = a + c + (b + d) := by grind
theorem sm_swap (f : Nat → Nat → Fin r) (n : Nat) : ∀ m, sm (fun i => sm (f i) n) m = sm (fun j => sm (fun i => f i j) m) n
  | 0 => by
    show 0 = sm (fun _ => (0 : Fin r)) n
    exact (sm_zero n).symm
  | m + 1 => by
    show sm (fun i => sm (f i) n) m + sm (f m) n = sm (fun j => sm (fun i => f i j) m + f m j) n
    rw [sm_swap f n m, sm_add]

theorem sm_pick {f : Nat → Fin r} {q : Nat} : ∀ {n : Nat}, q < n → (∀ j, j < n → j ≠ q → f j = 0) → sm f n = f q
  | 0, h, _ => absurd h (Nat.not_lt_zero _)
  | n + 1, h, hz => by
    show sm f n + f n = f q
    by_cases e : q = n
    · have h0 : sm f n = sm (fun _ => (0 : Fin r)) n := sm_congr n fun i hi => hz i (by omega) (by omega)
      rw [h0, sm_zero, e]
      exact Fin.zero_add _
    · rw [sm_pick (f := f) (q := q) (n := n) (by omega) (fun j h1 h2 => hz j (by omega) h2), hz n (by omega) (fun h => e h.symm)]
      exact Fin.add_zero _

theorem sm_mulr (k : Fin r) (f : Nat → Fin r) (n : Nat) : sm (fun i => f i * k) n = sm f n * k := by
  rw [mul_comm_g (sm f n) k, ← sm_mul]
  exact sm_congr n fun i _ => mul_comm_g _ _

theorem geo_alg (z s p : Fin r) (h : (z - 1) * s = p - 1) : (z - 1) * (s + p) = p * z - 1 := by grind
theorem sub_self_g (z : Fin r) : z - z = 0 := by grind
theorem mul_zero_g (z : Fin r) : z * 0 = 0 := by grind
theorem geo (z : Fin r) : ∀ n, (z - 1) * sm (pw z) n = pw z n - 1
  | 0 => by
    show (z - 1) * 0 = 1 - 1
    rw [mul_zero_g, sub_self_g]
  | n + 1 => geo_alg z _ _ (geo z n)

theorem mul4_g (a b c d : Fin r) : a * b * (c * d) = a * c * (b * d) := by grind
theorem pw_mulx (x y : Fin r) : ∀ n, pw (x * y) n = pw x n * pw y n
  | 0 => (mul_one_g _).symm
  | n + 1 => by
    show pw (x * y) n * (x * y) = pw x n * x * (pw y n * y)
    rw [pw_mulx x y n, mul4_g]

theorem eq_of_sub {z o : Fin r} (h : z - o = 0) : z = o := by grind
theorem cancel_g {a b s : Fin r} (h : a * b = 1) (hs : a * s = 0) : s = 0 := by grind
/-- The powers of a root that is not 1 add up to 0. -/
theorem geo_zero (hinv : ∀ x : Fin r, x ≠ 0 → ∃ y, x * y = 1) {z : Fin r} {n : Nat} (h1 : pw z n = 1) (hz : z ≠ 1) : sm (pw z) n = 0 := by
  have h := geo z n
  rw [h1, sub_self_g] at h
  obtain ⟨y, hy⟩ := hinv (z - 1) fun e => hz (eq_of_sub e)
  exact cancel_g hy h

theorem pw_both {w u : Fin r} (hwu : w * u = 1) (k : Nat) : pw w k * pw u k = 1 := by
  rw [← pw_mulx, hwu, pw_one_g]

theorem neg_inv_g {a b : Fin r} (h : a * b = 1) (hb : b = -1) : a = -1 := by grind
theorem back_alg_g {S x sj bj c P : Fin r} (h1 : S * x = 1) (h2 : sj * bj = 1) (hc : c = P * S) : c * (x * bj) * sj = P := by grind
theorem move_alg_g {A x bj sj W : Fin r} (h2 : sj * bj = 1) : A * (x * bj) * (sj * W) = x * (A * W) := by grind
theorem fin_alg_g {S x sj bj P : Fin r} (h1 : S * x = 1) (h2 : sj * bj = 1) : P * sj * S * (x * bj) = P := by grind
theorem orth_alg {a b c : Fin r} (h : a * b = 1) : b * (c * a) = c := by grind
theorem orth_alg2 {a b : Fin r} (h : a * b = 1) (hb : b = 1) : a = 1 := by grind
/-- A root's powers, times another one's inverse powers. -/
theorem orth (hinv : ∀ x : Fin r, x ≠ 0 → ∃ y, x * y = 1) {w u : Fin r} {n : Nat} (hwu : w * u = 1) (hn : pw w n = 1) (hl : ∀ d, 0 < d → d < n → pw w d ≠ 1) {j q : Nat} (hj : j < n) (hq : q < n) :
    sm (fun i => pw u (i * j) * pw w (q * i)) n = if j = q then sm (fun _ => 1) n else 0 := by
  have hz : ∀ i, pw u (i * j) * pw w (q * i) = pw (pw u j * pw w q) i := fun i => by
    rw [pw_mulx, Nat.mul_comm i j, pw_mul_g, pw_mul_g]
  rw [sm_congr n fun i _ => hz i]
  have hu : pw u n = 1 := by
    have := pw_both hwu n
    rw [hn, one_mul_g] at this
    exact this
  split
  · rename_i e
    subst e
    refine sm_congr n fun i _ => ?_
    rw [mul_comm_g, pw_both hwu, pw_one_g]
  · rename_i e
    refine geo_zero hinv ?_ fun h => ?_
    · rw [pw_mulx, ← pw_mul_g, ← pw_mul_g, Nat.mul_comm j, Nat.mul_comm q, pw_mul_g, pw_mul_g, hu, hn, pw_one_g, pw_one_g, one_mul_g]
    · rcases Nat.lt_or_ge j q with hlt | hge
      · have e1 : pw w q = pw w (q - j) * pw w j := by rw [← pw_add_g, show q - j + j = q from by omega]
        rw [e1, orth_alg (pw_both hwu j)] at h
        exact hl (q - j) (by omega) (by omega) h
      · have e1 : pw u j = pw u (j - q) * pw u q := by rw [← pw_add_g, show j - q + q = j from by omega]
        rw [e1, mul_comm_g, orth_alg (by rw [mul_comm_g]; exact pw_both hwu q)] at h
        exact hl (j - q) (by omega) (by omega) (orth_alg2 (pw_both hwu (j - q)) h)

/-- There and back. -/
theorem dft_inv (hinv : ∀ x : Fin r, x ≠ 0 → ∃ y, x * y = 1) {w u : Fin r} {n : Nat} (hwu : w * u = 1) (hn : pw w n = 1) (hl : ∀ d, 0 < d → d < n → pw w d ≠ 1) (f : Nat → Fin r) {q : Nat} (hq : q < n) :
    sm (fun i => sm (fun j => f j * pw u (i * j)) n * pw w (q * i)) n = f q * sm (fun _ => 1) n := by
  have e1 : ∀ i, sm (fun j => f j * pw u (i * j)) n * pw w (q * i) = sm (fun j => f j * (pw u (i * j) * pw w (q * i))) n := fun i => by
    rw [← sm_mulr]
    exact sm_congr n fun j _ => mul_assoc_g _ _ _
  rw [sm_congr n fun i _ => e1 i, sm_swap (fun i j => f j * (pw u (i * j) * pw w (q * i)))]
  have e2 : ∀ j, j < n → sm (fun i => f j * (pw u (i * j) * pw w (q * i))) n = f j * (if j = q then sm (fun _ => 1) n else 0) := fun j hj => by
    rw [sm_mul, orth hinv hwu hn hl hj hq]
  rw [sm_congr n e2, sm_pick hq fun j _ hne => by rw [if_neg hne, mul_zero_g], if_pos rfl]

theorem val_one_g (h : 1 < r) : ((1 : Fin r)).val = 1 := Nat.mod_eq_of_lt (show 1 < r from h)

theorem dft_len {n : Nat} (hn : n < r) : ∀ m, m ≤ n → (sm (fun _ => (1 : Fin r)) m).val = m
  | 0, _ => by show (0 : Fin r).val = 0; simp
  | m + 1, h => by
    show (sm (fun _ => (1 : Fin r)) m + 1).val = m + 1
    have : ((1 : Fin r)).val = 1 := val_one_g (by omega)
    rw [Fin.val_add, dft_len hn m (by omega), this, Nat.mod_eq_of_lt (by omega)]

theorem ne_one_of_neg {x : Fin r} (hr : 2 < r) (h : x = -1) : x ≠ 1 := fun e => by
  have h2 : (1 : Fin r) + 1 = 0 := by grind
  have h3 : (1 + 1) % r = 0 := by
    have := congrArg Fin.val h2
    rw [Fin.val_add] at this
    have e1 : ((1 : Fin r)).val = 1 := val_one_g (by omega)
    have e0 : ((0 : Fin r)).val = 0 := by simp
    rw [e1, e0] at this
    exact this
  rw [Nat.mod_eq_of_lt (by omega)] at h3
  omega

/-- A root of which half the power is -1 has no lesser power 1. -/
theorem two_less {w : Fin r} (hr : 2 < r) (k : Nat) (h : 0 < k → pw w (2 ^ (k - 1)) = -1) {d : Nat} (hd0 : 0 < d) (hd : d < 2 ^ k) : pw w d ≠ 1 := by
  cases k with
  | zero => omega
  | succ k =>
    have h1 := h (Nat.succ_pos k)
    rw [Nat.add_sub_cancel] at h1
    have hneg : (-1 : Fin r) * -1 = 1 := by grind
    refine no_less (g := w) (n := 2 ^ (k + 1)) [(2, k + 1)] (by simp) (fun p hp => ?_) (Nat.two_pow_pos _) ?_ (fun p hp => ?_) hd0 hd
    · rw [List.mem_singleton] at hp; subst hp; exact ir2
    · rw [Nat.pow_succ, Nat.mul_two, pw_add_g, h1, hneg]
    · rw [List.mem_singleton] at hp
      subst hp
      show pw w (2 ^ (k + 1) / 2) ≠ 1
      rw [Nat.pow_succ, Nat.mul_div_cancel _ (by decide)]
      exact ne_one_of_neg hr h1
end

theorem r_gt : 2 < rN := by decide
/-- 1 divided by it, 0 of 0. -/
def pinv (x : Fin rN) : Fin rN := pw x (rN - 2)
theorem pinv_mul (x : Fin rN) (hx : x ≠ 0) : x * pinv x = 1 := by
  have h := fermat_r x hx
  have e : rN - 1 = (rN - 2) + 1 := by decide
  rw [e, pw_add_g] at h
  rw [mul_comm_g]
  have e1 : pw x 1 = x := one_mul_g x
  rw [e1] at h
  exact h
theorem r_inv : ∀ x : Fin rN, x ≠ 0 → ∃ y, x * y = 1 := fun x hx => ⟨_, pinv_mul x hx⟩
end Go.Proofs.Ytlfllehomhcbfaa
