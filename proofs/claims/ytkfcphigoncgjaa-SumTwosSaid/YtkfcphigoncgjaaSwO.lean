/- Parts of a proof, one behind the other: PVd, WVe, PVe, WCp, PCp, WCo1, WCo2, PCo2, WCo3, PCo3, WNa, PNa, WNb, WNc, WVf, PVf, Vall. No conditions. -/
import Derived.Test.YtkfcphigoncgjaaSwN
/- What Sum1 calls: contracts. No conditions. -/
namespace Go.Proofs.Ytkfcphigoncgjaa

theorem each_fndT (l : List G2D) (hl : l.length ≤ 1048576) : FnD Try.prog 101 [.v (.c (.sl (.g2 l))), .v (.c (.clo 70 []))] (.v (.c (.sl (.pt2 (l.map inG2))))) [] := by
  refine fn_start (fn := Try.f101) (c := bodyOf Try.f101) Try.func101 rfl rfl fun x0 a0 hk hF hs => ?_
  refine eb l ⟨by omega, rfl, by omega, by omega, trivial⟩ hs fun ac cY aY hs1 => ?_
  rw [Int.toNat_natCast] at hs1
  refine loop_rule (ι := { p : Nat × List (F2 × F2 × F2) // p.1 ≤ l.length ∧ p.2.length = l.length ∧ ∀ j, j < p.1 → p.2.getD j pt20 = inG2 (l.getD j g20) }) (fun p => ebS l p.1.2 l.length (p.1.1 : Int)) (fun p => l.length - p.1.1) (c := lpC eb_k) (k := lpR eb_k) (by kernel_rfl) (fun p ih ac cY aY hs => ?_)
    ⟨(0, List.replicate l.length pt20), Nat.zero_le _, List.length_replicate, fun j hj => absurd hj (Nat.not_lt_zero j)⟩ (hs1.nx _)
  obtain ⟨⟨i, L⟩, hi, hL, hg⟩ := p
  simp only at ih hs hi hL hg
  by_cases h : i < l.length
  · refine ebA l L l.length i ⟨decide_eq_true (by omega), by omega, by omega, by omega, by omega, rfl, by rw [Int.toNat_natCast]; omega, trivial⟩ hs fun ac cU aU hs2 => ?_
    rw [Int.toNat_natCast, wrap_id (n := (i : Int) + 1) (by omega) (by omega)] at hs2
    refine ih ⟨(i + 1, L.set i (inG2 (l.getD i g20))), h, (List.length_set ..).trans hL, fun j hj => ?_⟩ (by show l.length - (i + 1) < l.length - i; omega) ac cU aU (hs2.nx _)
    have hj : j < i + 1 := hj
    show (L.set i _).getD j pt20 = _
    rw [set_getD _ _ _ _ _ (by omega)]
    by_cases e : j = i
    · subst e; rw [if_pos rfl]
    · rw [if_neg e]; exact hg j (by omega)
  · obtain rfl : i = l.length := by omega
    have e : L = l.map inG2 := by
      apply List.ext_getElem (by rw [hL, List.length_map])
      intro j h1 h2
      have e := hg j (by omega)
      rw [← map_getD inG2 l g20 pt20 (by omega), List.getD_eq_getElem?_getD, List.getD_eq_getElem?_getD, List.getElem?_eq_getElem h1, List.getElem?_eq_getElem h2] at e
      exact e
    subst e
    exact run_end2 vdA_ok hk hF (ebX_end l _ _ _) ⟨decide_eq_false (by omega), hL.symm, trivial⟩ (fun y v hd => hd) hs

/-- Where the first one lies that is so. -/
def fstIxT (p : G2D → Bool) : List G2D → Nat → Int
  | [], _ => -1
  | a :: l, i => if p a then (i : Int) else fstIxT p l (i + 1)
theorem fstIx_anyT (p : G2D → Bool) : ∀ (l : List G2D) (i : Nat), decide (fstIxT p l i ≥ 0) = l.any p
  | [], _ => rfl
  | a :: l, i => by
    show decide ((if p a then (i : Int) else fstIxT p l (i + 1)) ≥ 0) = (p a || l.any p)
    cases h : p a with
    | true => rw [if_pos rfl, Bool.true_or]; exact decide_eq_true (Int.natCast_nonneg i)
    | false => rw [if_neg Bool.false_ne_true, Bool.false_or]; exact fstIx_anyT p l (i + 1)
def offG2 (a : G2D) : Bool := !(onG2 a)
theorem fstIx_dropT (p : G2D → Bool) (l : List G2D) (i : Nat) (h : i < l.length) : fstIxT p (l.drop i) i = if p (l.getD i g20) then (i : Int) else fstIxT p (l.drop (i + 1)) (i + 1) := by
  rw [List.drop_eq_getElem_cons h, List.getD_eq_getElem?_getD, List.getElem?_eq_getElem h]
  rfl
theorem index_fndT (l : List G2D) : FnD Try.prog 134 [.v (.c (.sl (.g2 l))), .v (.c (.clo 99 []))] (.v (.c (.int .i64 (fstIxT offG2 l 0)))) [] := by
  refine fn_start (fn := Try.f134) (c := bodyOf Try.f134) Try.func134 rfl rfl fun x0 a0 hk hF hs => ?_
  have hlen : l.length ≤ maxLen := by
    have h0 := hs.t 0
    exact sl_len h0
  have hmax : maxLen ≤ 9223372036854775807 := by decide
  refine iz l trivial hs fun ac cY aY hs1 => ?_
  refine loop_rule (ι := { i : Nat // i ≤ l.length ∧ fstIxT offG2 (l.drop i) i = fstIxT offG2 l 0 }) (fun i => izS l (i.1 : Int)) (fun i => l.length - i.1) (c := lpC iz_k) (k := lpR iz_k) (by kernel_rfl) (fun i ih ac cY aY hs => ?_) ⟨0, Nat.zero_le _, by rw [List.drop_zero]⟩ (hs1.nx _)
  obtain ⟨i, hi, he⟩ := i
  simp only at ih hs
  by_cases h : i < l.length
  · rw [fstIx_dropT _ _ _ h] at he
    cases ho : offG2 (l.getD i g20) with
    | true =>
      rw [ho, if_pos rfl] at he
      rw [← he]
      exact run_end2 vdB_ok hk hF (izY_end l i) ⟨decide_eq_true (by omega), by omega, by omega, by rw [Int.toNat_natCast]; exact ho, trivial⟩ (fun y v hd => hd) hs
    | false =>
      rw [ho, if_neg Bool.false_ne_true] at he
      refine izA l i ⟨decide_eq_true (by omega), by omega, by omega, by rw [Int.toNat_natCast]; exact ho, trivial⟩ hs fun ac cU aU hs2 => ?_
      rw [wrap_id (n := (i : Int) + 1) (by omega) (by omega)] at hs2
      exact ih ⟨i + 1, h, he⟩ (by show l.length - (i + 1) < l.length - i; omega) ac cU aU (hs2.nx _)
  · obtain rfl : i = l.length := by omega
    rw [List.drop_length] at he
    rw [← he]
    exact run_end2 vdB_ok hk hF (izX_end l _) ⟨decide_eq_false (by omega), trivial⟩ (fun y v hd => hd) hs

end Go.Proofs.Ytkfcphigoncgjaa

/- Sum1, and the laws on sums of points of the second curve, walked. No conditions. -/
namespace Go.Proofs.Ytkfcphigoncgjaa

def eachSpecT : FnSpec
  | [.v (.c (.sl (.g2 l))), .v (.c (.clo 70 []))] => some ([l.length ≤ 1048576], .v (.c (.sl (.pt2 (l.map inG2)))), [])
  | _ => none
noncomputable def veA : Env := vdB.set (addT vdB.fn 101 eachSpecT)
theorem veA_ok : EnvOk Try.prog veA := env_add vdB_ok 101 eachSpecT (enters_of Try.func101 rfl rfl) fun args o r es h ho => by
  unfold eachSpecT at h
  split at h
  · cases h; exact each_fndT _ ho.1
  · cases h
def indexSpecT : FnSpec
  | [.v (.c (.sl (.g2 l))), .v (.c (.clo 99 []))] => some ([], .v (.c (.int .i64 (fstIxT offG2 l 0))), [])
  | _ => none
noncomputable def veB : Env := veA.set (addT veA.fn 134 indexSpecT)
theorem veB_ok : EnvOk Try.prog veB := env_add veA_ok 134 indexSpecT (enters_of Try.func134 rfl rfl) fun args o r es h _ => by
  unfold indexSpecT at h
  split at h
  · cases h; exact index_fndT _
  · cases h
def checkSpec : FnSpec
  | [.v (.c (.int .i64 a)), .v (.c (.int .i64 b)), .v (.c (.bool w))] => some ([], .v (.c (.int .i64 (chkE a b w))), [])
  | _ => none
noncomputable def veC : Env := veB.set (addT veB.fn 93 checkSpec)
theorem veC_ok : EnvOk Try.prog veC := env_add veB_ok 93 checkSpec (enters_of Try.func93 rfl rfl) fun args o r es h _ => by
  unfold checkSpec at h
  split at h
  · cases h; exact check_fnd _ _ _
  · cases h
def badSpec : FnSpec
  | [.v (.c (.int .i64 a)), .v (.c (.int .i64 b)), .v (.c (.bool w))] => some ([], .v (.c (.int .i64 (chkE a b w))), [])
  | _ => none
noncomputable def veD : Env := veC.set (addT veC.fn 48 badSpec)
theorem veD_ok : EnvOk Try.prog veD := env_add veC_ok 48 badSpec (enters_of Try.func48 rfl rfl) fun args o r es h _ => by
  unfold badSpec at h
  split at h
  · cases h; exact bad_fnd _ _ _
  · cases h
--@env veD veD_ok
theorem cgR (l : List G2D) : fnRes veD Try.f98 3000 [.v (.c (.sl (.g2 l))),.v (.c (.clo 99 []))] [] [] [] = (some ([],((.v (.c (.bool (decide ((fstIxT offG2 l 0) ≥ (0:Int)))))),[]))) := by kernel_rfl
theorem contains_fndT (l : List G2D) : FnD Try.prog 98 [.v (.c (.sl (.g2 l))), .v (.c (.clo 99 []))] (.v (.c (.bool (l.any offG2)))) [] := by
  have r := cgR l
  rw [fstIx_anyT] at r
  exact fn_sound veD_ok Try.func98 r trivial
def containsSpecT : FnSpec
  | [.v (.c (.sl (.g2 l))), .v (.c (.clo 99 []))] => some ([], .v (.c (.bool (l.any offG2))), [])
  | _ => none
noncomputable def veE : Env := veD.set (addT veD.fn 98 containsSpecT)
theorem veE_ok : EnvOk Try.prog veE := env_add veD_ok 98 containsSpecT (enters_of Try.func98 rfl rfl) fun args o r es h _ => by
  unfold containsSpecT at h
  split at h
  · cases h; exact contains_fndT _
  · cases h
--@env veE veE_ok
theorem s2A (l : List G2D) (k : List U4) : fnRes veE Try.f50 3000 [.v (.c (.sl (.g2 l))),.v (.c (.sl (.fr k)))] [true] [] [] = (some ([(((chkE (((List.length l) : Nat):Int) (((List.length k) : Nat):Int) (List.any l offG2)) != (0:Int)) = true)],((.t [(.a [(.ob (.fp (0:U6))),(.ob (.fp (0:U6))),(.ob (.fp (0:U6))),(.ob (.fp (0:U6))),(.lit false)]),(.c (.int .i64 (chkE (((List.length l) : Nat):Int) (((List.length k) : Nat):Int) (List.any l offG2))))]),[]))) := by kernel_rfl
theorem s2B (l : List G2D) (k : List U4) : fnRes veE Try.f50 3000 [.v (.c (.sl (.g2 l))),.v (.c (.sl (.fr k)))] [false] [] [] = (some ([(((chkE (((List.length l) : Nat):Int) (((List.length k) : Nat):Int) (List.any l offG2)) != (0:Int)) = false),((List.length l) ≤ 1048576),((List.length k) = (List.length (List.map inG2 l))),((List.length (List.map inG2 l)) ≤ 4096)],((.t [(.a [(.ob (.fp (G2D.xa (outG2 (smJ 52 pt20 (List.map inG2 l) k))))),(.ob (.fp (G2D.xb (outG2 (smJ 52 pt20 (List.map inG2 l) k))))),(.ob (.fp (G2D.ya (outG2 (smJ 52 pt20 (List.map inG2 l) k))))),(.ob (.fp (G2D.yb (outG2 (smJ 52 pt20 (List.map inG2 l) k))))),(.bool (G2D.inf (outG2 (smJ 52 pt20 (List.map inG2 l) k))))]),(.c (.int .i64 (0:Int)))]),[]))) := by kernel_rfl
end Go.Proofs.Ytkfcphigoncgjaa

/- Sum1: contract. No conditions. -/
namespace Go.Proofs.Ytkfcphigoncgjaa

/-- What Sum1 tells. -/
def sum2 (l : List G2D) (k : List U4) : G2D × Int :=
  if chkE (l.length : Int) (k.length : Int) (l.any offG2) = 0 then (outG2 (smJ 52 pt20 (l.map inG2) k), 0) else (g20, chkE (l.length : Int) (k.length : Int) (l.any offG2))
theorem sum2_ok {l : List G2D} {k : List U4} (h : chkE (l.length : Int) (k.length : Int) (l.any offG2) = 0) : sum2 l k = (outG2 (smJ 52 pt20 (l.map inG2) k), 0) := if_pos h
theorem sum2_no {l : List G2D} {k : List U4} (h : ¬ chkE (l.length : Int) (k.length : Int) (l.any offG2) = 0) : sum2 l k = (g20, chkE (l.length : Int) (k.length : Int) (l.any offG2)) := if_neg h
theorem sum2_fnd (l : List G2D) (k : List U4) : FnD Try.prog 50 [.v (.c (.sl (.g2 l))), .v (.c (.sl (.fr k)))] (.t [.a (sum2 l k).1.its, .c (.int .i64 (sum2 l k).2)]) [] := by
  by_cases h : chkE (l.length : Int) (k.length : Int) (l.any offG2) = 0
  · rw [sum2_ok h]
    obtain ⟨h1, h2, h3⟩ := chk_zero h
    exact fn_sound veE_ok Try.func50 (s2B l k) ⟨by rw [h]; rfl, by omega, by rw [List.length_map]; omega, by rw [List.length_map]; omega, trivial⟩
  · rw [sum2_no h]
    exact (fn_sound veE_ok Try.func50 (s2A l k) ⟨by simpa using h, trivial⟩).conv (fun _ _ h => h) fun y v hd => lit_fifth_t hd

theorem smJ_gPT {N : Nat} (hN : N = 52) {l : List G2D} {k : List U4} (hl : k.length = l.length) (ho : l.any offG2 = false) : outG2 (smJ N pt20 (l.map inG2) k) = gP2 (gsum (k.map (·.val)) (l.map pG2)) := by
  have hon : ∀ a, a ∈ l → onG2 a = true := fun a ha => by
    rw [List.any_eq_false] at ho
    have := ho a ha
    unfold offG2 at this
    simpa using this
  cases k with
  | nil =>
    have e : l = [] := List.length_eq_zero_iff.1 hl.symm
    subst e
    exact outG2_jc (P := none) (rfl : (0 : F2) = 0)
  | cons x k =>
    have hm : smJ N pt20 (l.map inG2) (x :: k) = alN pt20 (l.map inG2) (digs N ((x :: k).map (·.val))) N N := rfl
    rw [hm]
    refine outG2_jc (many_sum hN cv2 pt20 rfl (by rw [List.length_map, List.length_map]) (fun P hP => ?_) (fun i hi => ?_) (by rw [List.length_map, List.length_map]; exact hl) (fun v hv => ?_))
    · obtain ⟨a, ha, rfl⟩ := List.mem_map.1 hP
      exact (onG2_is (hon a ha)).2
    · rw [List.length_map] at hi
      rw [map_getD pG2 l g20 none hi, map_getD inG2 l g20 pt20 hi]
      exact inG2_jc _
    · obtain ⟨u, _, rfl⟩ := List.mem_map.1 hv
      exact u4_lt u

/-- Sums of multiples, from the left. -/
def gslT (ks : List Nat) (Ps : List (Pt F2)) : Nat → Pt F2
  | 0 => none
  | i + 1 => gadd (gslT ks Ps i) (nmul (Ps.getD i none) (ks.getD i 0))
theorem gsum_snocT (k : Nat) (P : Pt F2) (hP : OnC fq4 P) : ∀ (ks : List Nat) (Ps : List (Pt F2)), ks.length = Ps.length → (∀ Q, Q ∈ Ps → OnC fq4 Q) → gsum (ks ++ [k]) (Ps ++ [P]) = gadd (gsum ks Ps) (nmul P k)
  | [], [], _, _ => by
    show gadd (nmul P k) none = gadd none (nmul P k)
    rw [gadd_none]
    rfl
  | [], _ :: _, h, _ => by cases h
  | _ :: _, [], h, _ => by cases h
  | c :: ks, Q :: Ps, h, ho => by
    show gadd (nmul Q c) (gsum (ks ++ [k]) (Ps ++ [P])) = gadd (gadd (nmul Q c) (gsum ks Ps)) (nmul P k)
    rw [gsum_snocT k P hP ks Ps (Nat.succ.inj h) fun R hR => ho R (List.mem_cons_of_mem _ hR), gadd_assoc cv2 _ _ _ (nmul_on cv2 (ho Q (List.mem_cons_self ..)) c) (gsum_on cv2 ks Ps fun R hR => ho R (List.mem_cons_of_mem _ hR)) (nmul_on cv2 hP k)]
theorem gsl_isT (ks : List Nat) (Ps : List (Pt F2)) (hl : ks.length = Ps.length) (ho : ∀ Q, Q ∈ Ps → OnC fq4 Q) : ∀ i, i ≤ Ps.length → gslT ks Ps i = gsum (ks.take i) (Ps.take i)
  | 0, _ => rfl
  | i + 1, h => by
    have e1 := take_snoc ks 0 (i := i) (by omega)
    have e2 := take_snoc Ps none (i := i) (by omega)
    have hm : Ps.getD i none ∈ Ps := by
      rw [List.getD_eq_getElem?_getD, List.getElem?_eq_getElem (by omega)]
      exact List.getElem_mem _
    show gadd (gslT ks Ps i) (nmul (Ps.getD i none) (ks.getD i 0)) = _
    rw [gsl_isT ks Ps hl ho i (by omega), ← e1, ← e2, gsum_snocT _ _ (ho _ hm) _ _ (by rw [List.length_take, List.length_take, hl]) fun Q hQ => ho Q (List.mem_of_mem_take hQ)]
theorem gsl_onT (ks : List Nat) (Ps : List (Pt F2)) (ho : ∀ Q, Q ∈ Ps → OnC fq4 Q) : ∀ i, OnC fq4 (gslT ks Ps i)
  | 0 => True.intro
  | i + 1 => gadd_on cv2 _ _ (gsl_onT ks Ps ho i) (nmul_on cv2 (by
      by_cases h : i < Ps.length
      · rw [List.getD_eq_getElem?_getD, List.getElem?_eq_getElem h]
        exact ho _ (List.getElem_mem _)
      · rw [List.getD_eq_getElem?_getD, List.getElem?_eq_none (by omega)]
        exact True.intro) _)
end Go.Proofs.Ytkfcphigoncgjaa

/- Points of the first curve: twice, negative, sums, walked. No conditions. -/
namespace Go.Proofs.Ytkfcphigoncgjaa

theorem twice_fnd (x y z : Fp) : FnD Try.prog 107 [.v (.a [.ob (.p x), .ob (.p y), .ob (.p z)])] (.v (.a (ptIts (jtw (x, y, z))))) [] := by
  by_cases h : z = 0
  · have e : jtw (x, y, z) = (x, y, z) := if_pos h
    rw [e]
    exact fn_sound qeJ_ok Try.func107 (twA x y z) ⟨decide_eq_true h, trivial⟩
  · unfold jtw
    rw [if_neg h]
    exact fn_sound qeJ_ok Try.func107 (twB x y z) ⟨decide_eq_false h, trivial⟩
def twPSpec : FnSpec
  | [.v (.a [.ob (.p x), .ob (.p y), .ob (.p z)])] => some ([], .v (.a (ptIts (jtw (x, y, z)))), [])
  | _ => none
noncomputable def qsA : Env := qeJ.set (addT qeJ.fn 107 twPSpec)
theorem qsA_ok : EnvOk Try.prog qsA := env_add qeJ_ok 107 twPSpec (enters_of Try.func107 rfl rfl) fun args o r es h _ => by
  unfold twPSpec at h
  split at h
  · cases h; exact twice_fnd _ _ _
  · cases h
def ngPSpec : FnSpec
  | [.v (.a [.ob (.p x), .ob (.p y), .ob (.p z)])] => some ([], .v (.a (ptIts (jng (x, y, z)))), [])
  | _ => none
noncomputable def qsB : Env := qsA.set (addT qsA.fn 57 ngPSpec)
theorem qsB_ok : EnvOk Try.prog qsB := env_add qsA_ok 57 ngPSpec (enters_of Try.func57 rfl rfl) fun args o r es h _ => by
  unfold ngPSpec at h
  split at h
  · cases h; exact fn_sound qeJ_ok Try.func57 (ngP _ _ _) trivial
  · cases h
--@env qsB qsB_ok
theorem plA (x y z u v w : Fp) : fnRes qsB Try.f54 3000 [.v (.a [.ob (.p x),.ob (.p y),.ob (.p z)]),.v (.a [.ob (.p u),.ob (.p v),.ob (.p w)])] [true] [] [] = (some ([((decide (z = (0:Fp))) = true)],((.v (.a [.ob (.p u),.ob (.p v),.ob (.p w)])),[]))) := by kernel_rfl
theorem plB (x y z u v w : Fp) : fnRes qsB Try.f54 3000 [.v (.a [.ob (.p x),.ob (.p y),.ob (.p z)]),.v (.a [.ob (.p u),.ob (.p v),.ob (.p w)])] [false,true] [] [] = (some ([((decide (z = (0:Fp))) = false),((decide (w = (0:Fp))) = true)],((.v (.a [.ob (.p x),.ob (.p y),.ob (.p z)])),[]))) := by kernel_rfl
theorem plC (x y z u v w : Fp) : fnRes qsB Try.f54 3000 [.v (.a [.ob (.p x),.ob (.p y),.ob (.p z)]),.v (.a [.ob (.p u),.ob (.p v),.ob (.p w)])] [false,false,true,true] [] [] = (some ([((decide (z = (0:Fp))) = false),((decide (w = (0:Fp))) = false),((decide (((u * (z * z)) - (x * (w * w))) = (0:Fp))) = true),((decide ((((v * (z * z)) * z) - ((y * (w * w)) * w)) = (0:Fp))) = true)],((.v (.a [(.ob (.p (Prod.fst (jtw (x,(y,z)))))),(.ob (.p (Prod.fst (Prod.snd (jtw (x,(y,z))))))),(.ob (.p (Prod.snd (Prod.snd (jtw (x,(y,z)))))))])),[]))) := by kernel_rfl
theorem plD (x y z u v w : Fp) : fnRes qsB Try.f54 3000 [.v (.a [.ob (.p x),.ob (.p y),.ob (.p z)]),.v (.a [.ob (.p u),.ob (.p v),.ob (.p w)])] [false,false,true,false] [] [] = (some ([((decide (z = (0:Fp))) = false),((decide (w = (0:Fp))) = false),((decide (((u * (z * z)) - (x * (w * w))) = (0:Fp))) = true),((decide ((((v * (z * z)) * z) - ((y * (w * w)) * w)) = (0:Fp))) = false)],((.v (.a [.ob (.p x),.ob (.p y),(.ob (.p (0:Fp)))])),[]))) := by kernel_rfl
theorem plE (x y z u v w : Fp) : fnRes qsB Try.f54 3000 [.v (.a [.ob (.p x),.ob (.p y),.ob (.p z)]),.v (.a [.ob (.p u),.ob (.p v),.ob (.p w)])] [false,false,false] [] [] = (some ([((decide (z = (0:Fp))) = false),((decide (w = (0:Fp))) = false),((decide (((u * (z * z)) - (x * (w * w))) = (0:Fp))) = false)],((.v (.a [(.ob (.p (((((((v * (z * z)) * z) - ((y * (w * w)) * w)) * (((v * (z * z)) * z) - ((y * (w * w)) * w))) - ((((u * (z * z)) - (x * (w * w))) * ((u * (z * z)) - (x * (w * w)))) * ((u * (z * z)) - (x * (w * w))))) - ((x * (w * w)) * (((u * (z * z)) - (x * (w * w))) * ((u * (z * z)) - (x * (w * w)))))) - ((x * (w * w)) * (((u * (z * z)) - (x * (w * w))) * ((u * (z * z)) - (x * (w * w)))))))),(.ob (.p (((((v * (z * z)) * z) - ((y * (w * w)) * w)) * (((x * (w * w)) * (((u * (z * z)) - (x * (w * w))) * ((u * (z * z)) - (x * (w * w))))) - (((((((v * (z * z)) * z) - ((y * (w * w)) * w)) * (((v * (z * z)) * z) - ((y * (w * w)) * w))) - ((((u * (z * z)) - (x * (w * w))) * ((u * (z * z)) - (x * (w * w)))) * ((u * (z * z)) - (x * (w * w))))) - ((x * (w * w)) * (((u * (z * z)) - (x * (w * w))) * ((u * (z * z)) - (x * (w * w)))))) - ((x * (w * w)) * (((u * (z * z)) - (x * (w * w))) * ((u * (z * z)) - (x * (w * w)))))))) - (((y * (w * w)) * w) * ((((u * (z * z)) - (x * (w * w))) * ((u * (z * z)) - (x * (w * w)))) * ((u * (z * z)) - (x * (w * w)))))))),(.ob (.p ((((u * (z * z)) - (x * (w * w))) * z) * w)))])),[]))) := by kernel_rfl
end Go.Proofs.Ytkfcphigoncgjaa

/- Points of the first curve: sums, contract. No conditions. -/
namespace Go.Proofs.Ytkfcphigoncgjaa

theorem plusPt_fnd (x y z u v w : Fp) : FnD Try.prog 54 [.v (.a [.ob (.p x), .ob (.p y), .ob (.p z)]), .v (.a [.ob (.p u), .ob (.p v), .ob (.p w)])] (.v (.a (ptIts (jpl (x, y, z) (u, v, w))))) [] := by
  by_cases h : z = 0
  · have e : jpl (x, y, z) (u, v, w) = (u, v, w) := if_pos h
    rw [e]
    exact fn_sound qsB_ok Try.func54 (plA x y z u v w) ⟨decide_eq_true h, trivial⟩
  · by_cases h2 : w = 0
    · have e : jpl (x, y, z) (u, v, w) = (x, y, z) := (if_neg h).trans (if_pos h2)
      rw [e]
      exact fn_sound qsB_ok Try.func54 (plB x y z u v w) ⟨decide_eq_false h, decide_eq_true h2, trivial⟩
    · unfold jpl
      rw [if_neg h, if_neg h2]
      dsimp only
      by_cases h3 : u * (z * z) - x * (w * w) = 0
      · rw [if_pos h3]
        by_cases h4 : v * (z * z) * z - y * (w * w) * w = 0
        · rw [if_pos h4]
          exact fn_sound qsB_ok Try.func54 (plC x y z u v w) ⟨decide_eq_false h, decide_eq_false h2, decide_eq_true h3, decide_eq_true h4, trivial⟩
        · rw [if_neg h4]
          exact fn_sound qsB_ok Try.func54 (plD x y z u v w) ⟨decide_eq_false h, decide_eq_false h2, decide_eq_true h3, decide_eq_false h4, trivial⟩
      · rw [if_neg h3]
        exact fn_sound qsB_ok Try.func54 (plE x y z u v w) ⟨decide_eq_false h, decide_eq_false h2, decide_eq_false h3, trivial⟩

end Go.Proofs.Ytkfcphigoncgjaa

/- Points of the first curve, in and out, walked. No conditions. -/
namespace Go.Proofs.Ytkfcphigoncgjaa

def plPSpec : FnSpec
  | [.v (.a [.ob (.p x), .ob (.p y), .ob (.p z)]), .v (.a [.ob (.p u), .ob (.p v), .ob (.p w)])] => some ([], .v (.a (ptIts (jpl (x, y, z) (u, v, w)))), [])
  | _ => none
noncomputable def qsC : Env := qsB.set (addT qsB.fn 54 plPSpec)
theorem qsC_ok : EnvOk Try.prog qsC := env_add qsB_ok 54 plPSpec (enters_of Try.func54 rfl rfl) fun args o r es h _ => by
  unfold plPSpec at h
  split at h
  · cases h; exact plusPt_fnd _ _ _ _ _ _
  · cases h
noncomputable def inlAf (T : Nat → Option Func) (f : Nat) : Option Func := if f = 108 then some Try.f108 else T f
noncomputable def qsD : Env := { qsC with inl := inlAf qsC.inl }
theorem qsD_ok : EnvOk Try.prog qsD := by
  refine ⟨qsC_ok.ty, qsC_ok.mixed, qsC_ok.fn, qsC_ok.mu, fun f fn h => ?_, qsC_ok.ex, qsC_ok.inv⟩
  have h : inlAf qsC.inl f = some fn := h
  unfold inlAf at h
  split at h
  · rename_i hf; cases h; subst hf; exact ⟨Try.func108, enters_of Try.func108 rfl rfl⟩
  exact qsC_ok.inl f fn h
--@env qsD qsD_ok
theorem igA (x y : U6) (i : Bool) : fnRes qsD Try.f56 3000 [.v (.a [.ob (.fp x),.ob (.fp y),.bool i])] [true] [] [] = (some ([(i = true),((0:Int) ≤ (1:Int)),((1:Int) < (18446744073709551616:Int)),((0:Int) ≤ (1:Int)),((1:Int) < (18446744073709551616:Int))],((.v (.a [(.ob (.p (Fin.ofNat pN 1))),(.ob (.p (Fin.ofNat pN 1))),(.ob (.p (0:Fp)))])),[]))) := by kernel_rfl
theorem igB (x y : U6) (i : Bool) : fnRes qsD Try.f56 3000 [.v (.a [.ob (.fp x),.ob (.fp y),.bool i])] [false] [] [] = (some ([(i = false),((0:Int) ≤ (1:Int)),((1:Int) < (18446744073709551616:Int))],((.v (.a [(.ob (.p (inP x))),(.ob (.p (inP y))),(.ob (.p (Fin.ofNat pN 1)))])),[]))) := by kernel_rfl
theorem ogA (x y z : Fp) : fnRes qsD Try.f55 3000 [.v (.a [.ob (.p x),.ob (.p y),.ob (.p z)])] [true,true] [] [] = (some ([((decide (z = (0:Fp))) = true)],((.v (.a [(.ob (.fp (0:U6))),(.ob (.fp (0:U6))),(.lit true)])),[]))) := by kernel_rfl
theorem ogB (x y z : Fp) : fnRes qsD Try.f55 3000 [.v (.a [.ob (.p x),.ob (.p y),.ob (.p z)])] [false,false] [] [] = (some ([((decide (z = (0:Fp))) = false)],((.v (.a [(.ob (.fp (outP (x * ((ivP z) * (ivP z)))))),(.ob (.fp (outP ((y * ((ivP z) * (ivP z))) * (ivP z))))),(.lit false)])),[]))) := by kernel_rfl
theorem onA (x y : U6) (i : Bool) : fnRes qsD Try.f96 3000 [.v (.a [.ob (.fp x),.ob (.fp y),.bool i])] [true] [] [] = (some ([(i = true)],((.v (.c (.bool (ite (true = true) (Bool.and (decide (x = (0:U6))) (Bool.and (decide (y = (0:U6))) (i == true))) (Bool.not (Bool.and (decide (x = (0:U6))) (Bool.and (decide (y = (0:U6))) (i == true)))))))),[]))) := by kernel_rfl
theorem onB (x y : U6) (i : Bool) : fnRes qsD Try.f96 3000 [.v (.a [.ob (.fp x),.ob (.fp y),.bool i])] [false,true,true] [] [] = (some ([(i = false),((ite (true = true) (decide ((outP (inP x)) = x)) (Bool.not (decide ((outP (inP x)) = x)))) = true),((ite (true = true) (decide ((outP (inP y)) = y)) (Bool.not (decide ((outP (inP y)) = y)))) = true),((0:Int) ≤ (4:Int)),((4:Int) < (18446744073709551616:Int))],((.v (.c (.bool (ite (true = true) (decide (((inP y) * (inP y)) = ((((inP x) * (inP x)) * (inP x)) + (Fin.ofNat pN 4)))) (Bool.not (decide (((inP y) * (inP y)) = ((((inP x) * (inP x)) * (inP x)) + (Fin.ofNat pN 4))))))))),[]))) := by kernel_rfl
theorem onC (x y : U6) (i : Bool) : fnRes qsD Try.f96 3000 [.v (.a [.ob (.fp x),.ob (.fp y),.bool i])] [false,true,false] [] [] = (some ([(i = false),((ite (true = true) (decide ((outP (inP x)) = x)) (Bool.not (decide ((outP (inP x)) = x)))) = true),((ite (true = true) (decide ((outP (inP y)) = y)) (Bool.not (decide ((outP (inP y)) = y)))) = false)],((.v (.c (.lit false))),[]))) := by kernel_rfl
theorem onD (x y : U6) (i : Bool) : fnRes qsD Try.f96 3000 [.v (.a [.ob (.fp x),.ob (.fp y),.bool i])] [false,false,false] [] [] = (some ([(i = false),((ite (true = true) (decide ((outP (inP x)) = x)) (Bool.not (decide ((outP (inP x)) = x)))) = false)],((.v (.c (.lit false))),[]))) := by kernel_rfl
end Go.Proofs.Ytkfcphigoncgjaa

/- Points of the first curve, in and out: contracts; the functions outside, walked. No conditions. -/
namespace Go.Proofs.Ytkfcphigoncgjaa

/-- Which points may be. -/
def onG (a : G1D) : Bool :=
  if a.inf then decide (a.x = 0) && decide (a.y = 0)
  else decide (outP (inP a.x) = a.x) && (decide (outP (inP a.y) = a.y) && decide (inP a.y * inP a.y = inP a.x * inP a.x * inP a.x + fp4))
def inG (a : G1D) : Fp × Fp × Fp := if a.inf then (fp1, fp1, 0) else (inP a.x, inP a.y, fp1)
def outG (t : Fp × Fp × Fp) : G1D :=
  if t.2.2 = 0 then ⟨0, 0, true⟩ else ⟨outP (t.1 * (ivP t.2.2 * ivP t.2.2)), outP (t.2.1 * (ivP t.2.2 * ivP t.2.2) * ivP t.2.2), false⟩

theorem lit_third {x : Ctx} {i j : It} {b : Bool} {v : Value} (h : denS x (.v (.a [i, j, .lit b])) v) : denS x (.v (.a [i, j, .bool b])) v := by
  obtain ⟨cs, e, c1, r1, e1, h1, c2, r2, e2, h2, c3, r3, e3, ⟨d, h3⟩, h4⟩ := h
  refine ⟨cs, e, c1, r1, e1, h1, c2, r2, e2, h2, c3, r3, e3, ⟨d, ?_⟩, h4⟩
  cases d <;> exact h3
theorem third_lit {x : Ctx} {i j : It} {b : Bool} {v : Value} (h : denS x (.v (.a [i, j, .bool b])) v) : denS x (.v (.a [i, j, .lit b])) v := by
  obtain ⟨cs, e, c1, r1, e1, h1, c2, r2, e2, h2, c3, r3, e3, ⟨d, h3⟩, h4⟩ := h
  refine ⟨cs, e, c1, r1, e1, h1, c2, r2, e2, h2, c3, r3, e3, ⟨d, ?_⟩, h4⟩
  cases d <;> exact h3

theorem inG_fnd (x y : U6) (i : Bool) : FnD Try.prog 56 [.v (.a [.ob (.fp x), .ob (.fp y), .bool i])] (.v (.a (ptIts (inG ⟨x, y, i⟩)))) [] := by
  cases i with
  | true => exact fn_sound qsD_ok Try.func56 (igA x y true) ⟨rfl, by decide, by decide, by decide, by decide, trivial⟩
  | false => exact fn_sound qsD_ok Try.func56 (igB x y false) ⟨rfl, by decide, by decide, trivial⟩

theorem outG_fnd (x y z : Fp) : FnD Try.prog 55 [.v (.a [.ob (.p x), .ob (.p y), .ob (.p z)])] (.v (.a (outG (x, y, z)).its)) [] := by
  by_cases h : z = 0
  · have e : outG (x, y, z) = ⟨0, 0, true⟩ := if_pos h
    rw [e]
    exact (fn_sound qsD_ok Try.func55 (ogA x y z) ⟨decide_eq_true h, trivial⟩).conv (fun _ _ h => h) fun y v hd => lit_third hd
  · unfold outG
    rw [if_neg h]
    exact (fn_sound qsD_ok Try.func55 (ogB x y z) ⟨decide_eq_false h, trivial⟩).conv (fun _ _ h => h) fun y v hd => lit_third hd

theorem onG_fnd (x y : U6) (i : Bool) : FnD Try.prog 96 [.v (.a [.ob (.fp x), .ob (.fp y), .bool i])] (.v (.c (.bool (onG ⟨x, y, i⟩)))) [] := by
  cases i with
  | true =>
    have r := onA x y true
    rw [if_pos rfl] at r
    have e : onG ⟨x, y, true⟩ = ((decide (x = 0)) && ((decide (y = 0)) && (true == true))) := by
      show (decide (x = 0) && decide (y = 0)) = _
      simp
    rw [e]
    exact fn_sound qsD_ok Try.func96 r ⟨rfl, trivial⟩
  | false =>
    by_cases h1 : outP (inP x) = x
    · by_cases h2 : outP (inP y) = y
      · have r := onB x y false
        rw [if_pos rfl, if_pos rfl, if_pos rfl] at r
        have e : onG ⟨x, y, false⟩ = decide (inP y * inP y = inP x * inP x * inP x + Fin.ofNat pN 4) := by
          show (decide (outP (inP x) = x) && (decide (outP (inP y) = y) && decide (inP y * inP y = inP x * inP x * inP x + fp4))) = _
          rw [decide_eq_true h1, decide_eq_true h2]; rfl
        rw [e]
        exact fn_sound qsD_ok Try.func96 r ⟨rfl, decide_eq_true h1, decide_eq_true h2, by decide, by decide, trivial⟩
      · have r := onC x y false
        rw [if_pos rfl, if_pos rfl] at r
        have e : onG ⟨x, y, false⟩ = false := by
          show (decide (outP (inP x) = x) && (decide (outP (inP y) = y) && decide (inP y * inP y = inP x * inP x * inP x + fp4))) = _
          rw [decide_eq_false h2, Bool.false_and, Bool.and_false]
        rw [e]
        exact (fn_sound qsD_ok Try.func96 r ⟨rfl, decide_eq_true h1, decide_eq_false h2, trivial⟩).conv (fun _ _ h => h) fun y v hd => lit_bool rfl hd
    · have r := onD x y false
      rw [if_pos rfl] at r
      have e : onG ⟨x, y, false⟩ = false := by
        show (decide (outP (inP x) = x) && (decide (outP (inP y) = y) && decide (inP y * inP y = inP x * inP x * inP x + fp4))) = _
        rw [decide_eq_false h1, Bool.false_and]
      rw [e]
      exact (fn_sound qsD_ok Try.func96 r ⟨rfl, decide_eq_false h1, trivial⟩).conv (fun _ _ h => h) fun y v hd => lit_bool rfl hd
def inGSpec : FnSpec
  | [.v (.a [.ob (.fp x), .ob (.fp y), .bool i])] => some ([], .v (.a (ptIts (inG ⟨x, y, i⟩))), [])
  | _ => none
noncomputable def qsE : Env := qsD.set (addT qsD.fn 56 inGSpec)
theorem qsE_ok : EnvOk Try.prog qsE := env_add qsD_ok 56 inGSpec (enters_of Try.func56 rfl rfl) fun args o r es h _ => by
  unfold inGSpec at h
  split at h
  · cases h; exact inG_fnd _ _ _
  · cases h
def outGSpec : FnSpec
  | [.v (.a [.ob (.p x), .ob (.p y), .ob (.p z)])] => some ([], .v (.a (outG (x, y, z)).its), [])
  | _ => none
noncomputable def qsF : Env := qsE.set (addT qsE.fn 55 outGSpec)
theorem qsF_ok : EnvOk Try.prog qsF := env_add qsE_ok 55 outGSpec (enters_of Try.func55 rfl rfl) fun args o r es h _ => by
  unfold outGSpec at h
  split at h
  · cases h; exact outG_fnd _ _ _
  · cases h
def onGSpec : FnSpec
  | [.v (.a [.ob (.fp x), .ob (.fp y), .bool i])] => some ([], .v (.c (.bool (onG ⟨x, y, i⟩))), [])
  | _ => none
noncomputable def qsG : Env := qsF.set (addT qsF.fn 96 onGSpec)
theorem qsG_ok : EnvOk Try.prog qsG := env_add qsF_ok 96 onGSpec (enters_of Try.func96 rfl rfl) fun args o r es h _ => by
  unfold onGSpec at h
  split at h
  · cases h; exact onG_fnd _ _ _
  · cases h
--@env qsG qsG_ok
theorem riR (x y : U6) (i : Bool) : fnRes qsG Try.f46 3000 [.v (.a [.ob (.fp x),.ob (.fp y),.bool i])] [] [] [] = (some ([],((.v (.c (.bool (onG (G1D.mk x y i))))),[]))) := by kernel_rfl
theorem geR  : fnRes qsG Try.f62 3000 [] [] [] [] = (some ([((0:Int) ≤ (18103045581585958587:Int)),((18103045581585958587:Int) < (18446744073709551616:Int)),((0:Int) ≤ (7806400890582735599:Int)),((7806400890582735599:Int) < (18446744073709551616:Int)),((0:Int) ≤ (11623291730934869080:Int)),((11623291730934869080:Int) < (18446744073709551616:Int)),((0:Int) ≤ (14080658508445169925:Int)),((14080658508445169925:Int) < (18446744073709551616:Int)),((0:Int) ≤ (2780237799254240271:Int)),((2780237799254240271:Int) < (18446744073709551616:Int)),((0:Int) ≤ (1725392847304644500:Int)),((1725392847304644500:Int) < (18446744073709551616:Int)),((0:Int) ≤ (912580534683953121:Int)),((912580534683953121:Int) < (18446744073709551616:Int)),((0:Int) ≤ (15005087156090211044:Int)),((15005087156090211044:Int) < (18446744073709551616:Int)),((0:Int) ≤ (61670280795567085:Int)),((61670280795567085:Int) < (18446744073709551616:Int)),((0:Int) ≤ (18227722000993880822:Int)),((18227722000993880822:Int) < (18446744073709551616:Int)),((0:Int) ≤ (11573741888802228964:Int)),((11573741888802228964:Int) < (18446744073709551616:Int)),((0:Int) ≤ (627113611842199793:Int)),((627113611842199793:Int) < (18446744073709551616:Int))],((.v (.a [(.ob (.fp (Fin.ofNat B6 3685416753713387016781088315183077757961620795782546409894578378688607592378376318836054947676345821548104185464507))),(.ob (.fp (Fin.ofNat B6 1339506544944476473020471379941921221584933875938349620426543736416511423956333506472724655353366534992391756441569))),(.lit false)])),[]))) := by kernel_rfl
theorem zeR  : fnRes qsG Try.f25 3000 [] [] [] [] = (some ([],((.v (.a [(.ob (.fp (0:U6))),(.ob (.fp (0:U6))),(.lit true)])),[]))) := by kernel_rfl
end Go.Proofs.Ytkfcphigoncgjaa

/- The reference's functions on points of the first curve: contracts. No conditions. -/
namespace Go.Proofs.Ytkfcphigoncgjaa

def genX : U6 := Fin.ofNat B6 3685416753713387016781088315183077757961620795782546409894578378688607592378376318836054947676345821548104185464507
def genY : U6 := Fin.ofNat B6 1339506544944476473020471379941921221584933875938349620426543736416511423956333506472724655353366534992391756441569
def genG : G1D := ⟨genX, genY, false⟩

theorem gen_fnd : FnD Try.prog 62 [] (.v (.a genG.its)) [] :=
  (fn_sound qsG_ok Try.func62 geR (by simp [AllP])).conv (fun _ _ h => h) fun y v hd => lit_third hd
theorem zero_fnd : FnD Try.prog 25 [] (.v (.a (G1D.mk 0 0 true).its)) [] :=
  (fn_sound qsG_ok Try.func25 zeR (by simp [AllP])).conv (fun _ _ h => h) fun y v hd => lit_third hd
end Go.Proofs.Ytkfcphigoncgjaa

/- Points of the first curve outside, and the reference's: sums, walked. No conditions. -/
namespace Go.Proofs.Ytkfcphigoncgjaa

def rightSpec1 : FnSpec
  | [.v (.a [.ob (.fp x), .ob (.fp y), .bool i])] => some ([], .v (.c (.bool (onG ⟨x, y, i⟩))), [])
  | _ => none
noncomputable def qtA : Env := qsG.set (addT qsG.fn 46 rightSpec1)
theorem qtA_ok : EnvOk Try.prog qtA := env_add qsG_ok 46 rightSpec1 (enters_of Try.func46 rfl rfl) fun args o r es h _ => by
  unfold rightSpec1 at h
  split at h
  · cases h; exact fn_sound qsG_ok Try.func46 (riR _ _ _) trivial
  · cases h
def genSpec1 : FnSpec
  | [] => some ([], .v (.a genG.its), [])
  | _ => none
noncomputable def qtC : Env := qtA.set (addT qtA.fn 62 genSpec1)
theorem qtC_ok : EnvOk Try.prog qtC := env_add qtA_ok 62 genSpec1 (enters_of Try.func62 rfl rfl) fun args o r es h _ => by
  unfold genSpec1 at h
  split at h
  · cases h; exact gen_fnd
  · cases h
def zeroSpec1 : FnSpec
  | [] => some ([], .v (.a (G1D.mk 0 0 true).its), [])
  | _ => none
noncomputable def qtG : Env := qtC.set (addT qtC.fn 25 zeroSpec1)
theorem qtG_ok : EnvOk Try.prog qtG := env_add qtC_ok 25 zeroSpec1 (enters_of Try.func25 rfl rfl) fun args o r es h _ => by
  unfold zeroSpec1 at h
  split at h
  · cases h; exact zero_fnd
  · cases h
--@env qtG qtG_ok
theorem adA (a b c d : U6) (i j : Bool) : fnRes qtG Try.f18 3000 [.v (.a [.ob (.fp a),.ob (.fp b),.bool i]),.v (.a [.ob (.fp c),.ob (.fp d),.bool j])] [true,true] [] [] = (some ([((Bool.not (onG (G1D.mk a b i))) = true)],((.t [(.a [(.ob (.fp (0:U6))),(.ob (.fp (0:U6))),(.lit false)]),(.c (.int .i64 (30:Int)))]),[]))) := by kernel_rfl
theorem adB (a b c d : U6) (i j : Bool) : fnRes qtG Try.f18 3000 [.v (.a [.ob (.fp a),.ob (.fp b),.bool i]),.v (.a [.ob (.fp c),.ob (.fp d),.bool j])] [false,true] [] [] = (some ([((Bool.not (onG (G1D.mk a b i))) = false),((Bool.not (onG (G1D.mk c d j))) = true)],((.t [(.a [(.ob (.fp (0:U6))),(.ob (.fp (0:U6))),(.lit false)]),(.c (.int .i64 (30:Int)))]),[]))) := by kernel_rfl
theorem adC (a b c d : U6) (i j : Bool) : fnRes qtG Try.f18 3000 [.v (.a [.ob (.fp a),.ob (.fp b),.bool i]),.v (.a [.ob (.fp c),.ob (.fp d),.bool j])] [false,false] [] [] = (some ([((Bool.not (onG (G1D.mk a b i))) = false),((Bool.not (onG (G1D.mk c d j))) = false)],((.t [(.a [(.ob (.fp (G1D.x (outG (jpl (inG (G1D.mk a b i)) (inG (G1D.mk c d j))))))),(.ob (.fp (G1D.y (outG (jpl (inG (G1D.mk a b i)) (inG (G1D.mk c d j))))))),(.bool (G1D.inf (outG (jpl (inG (G1D.mk a b i)) (inG (G1D.mk c d j))))))]),(.c (.int .i64 (0:Int)))]),[]))) := by kernel_rfl
theorem neA (a b : U6) (i : Bool) : fnRes qtG Try.f19 3000 [.v (.a [.ob (.fp a),.ob (.fp b),.bool i])] [true] [] [] = (some ([((Bool.not (onG (G1D.mk a b i))) = true)],((.t [(.a [(.ob (.fp (0:U6))),(.ob (.fp (0:U6))),(.lit false)]),(.c (.int .i64 (30:Int)))]),[]))) := by kernel_rfl
theorem neB (a b : U6) (i : Bool) : fnRes qtG Try.f19 3000 [.v (.a [.ob (.fp a),.ob (.fp b),.bool i])] [false] [] [] = (some ([((Bool.not (onG (G1D.mk a b i))) = false)],((.t [(.a [(.ob (.fp (G1D.x (outG (jng (inG (G1D.mk a b i))))))),(.ob (.fp (G1D.y (outG (jng (inG (G1D.mk a b i))))))),(.bool (G1D.inf (outG (jng (inG (G1D.mk a b i))))))]),(.c (.int .i64 (0:Int)))]),[]))) := by kernel_rfl
end Go.Proofs.Ytkfcphigoncgjaa

/- Sums and negatives of points of the first curve outside: contracts. No conditions. -/
namespace Go.Proofs.Ytkfcphigoncgjaa

def addG (a b : G1D) : G1D := outG (jpl (inG a) (inG b))
def negG (a : G1D) : G1D := outG (jng (inG a))
/-- What Add and Neg tell. -/
def adR (a b : G1D) : G1D × Int := if onG a && onG b then (addG a b, 0) else (g10, 30)
def neR (a : G1D) : G1D × Int := if onG a then (negG a, 0) else (g10, 30)

theorem lit_third_t {x : Ctx} {i j k : It} {b : Bool} {v : Value} (h : denS x (.t [.a [i, j, .lit b], .c k]) v) : denS x (.t [.a [i, j, .bool b], .c k]) v := by
  obtain ⟨vs, e, h1⟩ := h
  cases h1 with | cons d1 ds =>
  exact ⟨_, e, .cons (lit_third d1) ds⟩

theorem add_fnd1 (a b c d : U6) (i j : Bool) : FnD Try.prog 18 [.v (.a [.ob (.fp a), .ob (.fp b), .bool i]), .v (.a [.ob (.fp c), .ob (.fp d), .bool j])] (.t [.a (adR ⟨a, b, i⟩ ⟨c, d, j⟩).1.its, .c (.int .i64 (adR ⟨a, b, i⟩ ⟨c, d, j⟩).2)]) [] := by
  by_cases h1 : onG ⟨a, b, i⟩ = true
  · by_cases h2 : onG ⟨c, d, j⟩ = true
    · have e : adR ⟨a, b, i⟩ ⟨c, d, j⟩ = (addG ⟨a, b, i⟩ ⟨c, d, j⟩, 0) := by unfold adR; rw [h1, h2]; rfl
      rw [e]
      exact fn_sound qtG_ok Try.func18 (adC a b c d i j) ⟨by rw [h1]; rfl, by rw [h2]; rfl, trivial⟩
    · have h2 : onG ⟨c, d, j⟩ = false := Bool.eq_false_iff.2 h2
      have e : adR ⟨a, b, i⟩ ⟨c, d, j⟩ = (g10, 30) := by unfold adR; rw [h1, h2]; rfl
      rw [e]
      exact (fn_sound qtG_ok Try.func18 (adB a b c d i j) ⟨by rw [h1]; rfl, by rw [h2]; rfl, trivial⟩).conv (fun _ _ h => h) fun y v hd => lit_third_t hd
  · have h1 : onG ⟨a, b, i⟩ = false := Bool.eq_false_iff.2 h1
    have e : adR ⟨a, b, i⟩ ⟨c, d, j⟩ = (g10, 30) := by unfold adR; rw [h1]; rfl
    rw [e]
    exact (fn_sound qtG_ok Try.func18 (adA a b c d i j) ⟨by rw [h1]; rfl, trivial⟩).conv (fun _ _ h => h) fun y v hd => lit_third_t hd

theorem neg_fnd1 (a b : U6) (i : Bool) : FnD Try.prog 19 [.v (.a [.ob (.fp a), .ob (.fp b), .bool i])] (.t [.a (neR ⟨a, b, i⟩).1.its, .c (.int .i64 (neR ⟨a, b, i⟩).2)]) [] := by
  by_cases h1 : onG ⟨a, b, i⟩ = true
  · have e : neR ⟨a, b, i⟩ = (negG ⟨a, b, i⟩, 0) := by unfold neR; rw [h1]; rfl
    rw [e]
    exact fn_sound qtG_ok Try.func19 (neB a b i) ⟨by rw [h1]; rfl, trivial⟩
  · have h1 : onG ⟨a, b, i⟩ = false := Bool.eq_false_iff.2 h1
    have e : neR ⟨a, b, i⟩ = (g10, 30) := by unfold neR; rw [h1]; rfl
    rw [e]
    exact (fn_sound qtG_ok Try.func19 (neA a b i) ⟨by rw [h1]; rfl, trivial⟩).conv (fun _ _ h => h) fun y v hd => lit_third_t hd

end Go.Proofs.Ytkfcphigoncgjaa

/- Sum1 of no points, walked. No conditions. -/
namespace Go.Proofs.Ytkfcphigoncgjaa
section
variable {w0 : World} {F0 : Nat → Prop} {K : Kp} {ac : List Act} {Q : Exit → Act → World → Prop} {cX : Ctx} {aX : Act}

--@env qtG qtG_ok
noncomputable def nz_k : List KI := (run qtG false 3000 ((fun (P : List (Fp × Fp × Fp)) (k : List U4) => (⟨[.code (bodyOf Try.f94)], .normal, initSt Try.f94.ntmps [.v (.c (.sl (.pt P))), .v (.c (.sl (.fr k)))]⟩ : Cfg)) default default) []).cfg.k
theorem nz_hk (P : List (Fp × Fp × Fp)) (k : List U4) : (run qtG false 3000 ((⟨[.code (bodyOf Try.f94)], .normal, initSt Try.f94.ntmps [.v (.c (.sl (.pt P))), .v (.c (.sl (.fr k)))]⟩ : Cfg)) []).cfg.k = nz_k := by kernel_rfl
theorem nz (P : List (Fp × Fp × Fp)) (k : List U4) (ho : AllP []) (hs : Sim w0 F0 K ac (initSt Try.f94.ntmps [.v (.c (.sl (.pt P))),.v (.c (.sl (.fr k)))]) cX aX) (hK : ∀ ac cY aY,Sim w0 F0 K ac (mkSt 72 [0,1,4,5,6,15,16,17] [(.v (.c (.sl (Sq.pt P)))),(.v (.c (.sl (.fr k)))),.pt 16 0,(.v (.c (.val (Value.slice Option.none 0 0)))),.ii (0:Int),(.v (.c (.sl (.fr k)))),(.ii (((List.length k) : Nat):Int)),.ii (0:Int)] [16] [(some (.fl [(.ob (.p (0:Fp))),(.ob (.p (0:Fp))),(.ob (.p (0:Fp)))]))] 112 [] []) cY aY → Wq Try.prog Q (nz_k) ac Exit.normal aY cY.w) : Wq Try.prog Q ([.code (bodyOf Try.f94)]) ac .normal aX cX.w :=
  run_at2 (o := ⟨_, _, _, _, _, _, _⟩) qtG_ok (by kernel_rfl) (nz_hk P k) ho hs hK
noncomputable def nzS (P : List (Fp × Fp × Fp)) (k : List U4) (R : List (List Int)) (n : Nat) (m i:Int) : St := mkSt 72 [0,1,4,5,6,15,16,17] [(.v (.c (.sl (Sq.pt P)))),(.v (.c (.sl (.fr k)))),.pt 16 0,.v (.c (.slc 17 0 n 1)),.v (.c (.int .i64 m)),(.v (.c (.sl (.fr k)))),(.ii (((List.length k) : Nat):Int)),.v (.c (.int .i64 i))] [16,17] [(some (.fl [(.ob (.p (0:Fp))),(.ob (.p (0:Fp))),(.ob (.p (0:Fp)))])),some (.sq (.ints R))] 112 [] []
noncomputable def nzB_k : List KI := (run qtG false 3000 ((fun (P : List (Fp × Fp × Fp)) (k : List U4) (R : List (List Int)) (n : Nat) (m i : Int) => (⟨lpIn nz_k, .normal, nzS P k R n m i⟩ : Cfg)) default default default default default default) [false]).cfg.k
theorem nzB_hk (P : List (Fp × Fp × Fp)) (k : List U4) (R : List (List Int)) (n : Nat) (m i : Int) : (run qtG false 3000 ((⟨lpIn nz_k, .normal, nzS P k R n m i⟩ : Cfg)) [false]).cfg.k = nzB_k := by kernel_rfl
theorem nzB (P : List (Fp × Fp × Fp)) (k : List U4) (R : List (List Int)) (n : Nat) (m i:Int) (ho : AllP [((decide (i < (((List.length k) : Nat):Int))) = false),((0:Int) ≤ (((List.length k) : Nat):Int)),((((List.length k) : Nat):Int) = (((List.length k) : Nat):Int)),(((8:Int) * (((List.length k) : Nat):Int)) ≤ (281474976710656:Int)),((((List.length k) : Nat):Int) ≤ (9223372036854775807:Int))]) (hs : Sim w0 F0 K ac (nzS P k R n m i) cX aX) (hK : ∀ ac cY aY,Sim w0 F0 K ac (mkSt 72 [0,4,5,10,11,12] [(.v (.c (.sl (Sq.pt P)))),.pt 16 0,(.v (.c (.slc 17 0 n 1))),.pt 128 0,(.v (.c (.slc 176 0 ((((List.length k) : Nat):Int)).toNat 1))),(.ii (IntKind.wrap .i64 (m - (1:Int))))] [16,17,128,176] [(some (.fl [(.ob (.p (0:Fp))),(.ob (.p (0:Fp))),(.ob (.p (0:Fp)))])),(some (.sq (.ints R))),(some (.fl [(.ob (.p (0:Fp))),(.ob (.p (0:Fp))),(.ob (.p (0:Fp)))])),(some (.sq (.int (List.replicate ((((List.length k) : Nat):Int)).toNat (0:Int)))))] 256 [] []) cY aY → Wq Try.prog Q (nzB_k) ac Exit.normal aY cY.w) : Wq Try.prog Q (lpIn nz_k) ac .normal aX cX.w :=
  run_at2 (o := ⟨_, _, _, _, _, _, _⟩) qtG_ok (by kernel_rfl) (nzB_hk P k R n m i) ho hs hK
noncomputable def nzT (P : List (Fp × Fp × Fp)) (R : List (List Int)) (n q : Nat) (D : List Int) (o : Fp × Fp × Fp) (h:Int) : St := mkSt 72 [0,4,5,10,11,12] [(.v (.c (.sl (Sq.pt P)))),.pt 16 0,(.v (.c (.slc 17 0 n 1))),.pt 128 0,.v (.c (.slc 176 0 q 1)),.v (.c (.int .i64 h))] [16,17,128,176] [(some (.fl [(.ob (.p (0:Fp))),(.ob (.p (0:Fp))),(.ob (.p (0:Fp)))])),(some (.sq (.ints R))),some (.fl [.ob (.p o.1),.ob (.p o.2.1),.ob (.p o.2.2)]),some (.sq (.int D))] 256 [] []
theorem nzX_end (P : List (Fp × Fp × Fp)) (R : List (List Int)) (n q : Nat) (D : List Int) (o : Fp × Fp × Fp) (h:Int) : runEnd qtG Try.f94 false 3000 (⟨lpIn nzB_k,.normal,nzT P R n q D o h⟩) [false] [] [] = (some ([((decide (h ≥ (0:Int))) = false)],((.v (.a [(.ob (.p (Prod.fst o))),(.ob (.p (Prod.fst (Prod.snd o)))),(.ob (.p (Prod.snd (Prod.snd o))))])),[]))) := by kernel_rfl
noncomputable def nq_k : List KI := (run qtG false 3000 ((fun (l : List G1D) => (⟨[.code (bodyOf Try.f95)], .normal, initSt Try.f95.ntmps [.v (.c (.sl (.g1 l))), .v (.c (.clo 56 []))]⟩ : Cfg)) default) []).cfg.k
theorem nq_hk (l : List G1D) : (run qtG false 3000 ((⟨[.code (bodyOf Try.f95)], .normal, initSt Try.f95.ntmps [.v (.c (.sl (.g1 l))), .v (.c (.clo 56 []))]⟩ : Cfg)) []).cfg.k = nq_k := by kernel_rfl
theorem nq (l : List G1D) (ho : AllP [((0:Int) ≤ (((List.length l) : Nat):Int)),((((List.length l) : Nat):Int) = (((List.length l) : Nat):Int)),(((144:Int) * (((List.length l) : Nat):Int)) ≤ (281474976710656:Int)),((((List.length l) : Nat):Int) ≤ (9223372036854775807:Int))]) (hs : Sim w0 F0 K ac (initSt Try.f95.ntmps [.v (.c (.sl (.g1 l))),.v (.c (.clo 56 []))]) cX aX) (hK : ∀ ac cY aY,Sim w0 F0 K ac (mkSt 26 [1,5,11,12,13] [(.v (.c (.clo 56 ([] : List (Prod Nat Nat))))),(.v (.c (.slc 64 0 ((((List.length l) : Nat):Int)).toNat 18))),(.v (.c (.sl (Sq.g1 l)))),(.ii (((List.length l) : Nat):Int)),.ii (0:Int)] [64] [(some (.sq (Sq.pt (List.replicate ((((List.length l) : Nat):Int)).toNat pt0))))] 144 [] []) cY aY → Wq Try.prog Q (nq_k) ac Exit.normal aY cY.w) : Wq Try.prog Q ([.code (bodyOf Try.f95)]) ac .normal aX cX.w :=
  run_at2 (o := ⟨_, _, _, _, _, _, _⟩) qtG_ok (by kernel_rfl) (nq_hk l) ho hs hK
noncomputable def nqS (l : List G1D) (L : List (Fp × Fp × Fp)) (n : Nat) (i:Int) : St := mkSt 26 [1,5,11,12,13] [(.v (.c (.clo 56 ([] : List (Prod Nat Nat))))),.v (.c (.slc 64 0 n 18)),(.v (.c (.sl (Sq.g1 l)))),(.ii (((List.length l) : Nat):Int)),.v (.c (.int .i64 i))] [64] [some (.sq (.pt L))] 144 [] []
theorem nqX_end (l : List G1D) (L : List (Fp × Fp × Fp)) (n : Nat) (i:Int) : runEnd qtG Try.f95 false 3000 (⟨lpIn nq_k,.normal,nqS l L n i⟩) [false] [] [64] = (some ([((decide (i < (((List.length l) : Nat):Int))) = false),(n = (List.length L))],((.v (.c (.sl (Sq.pt L)))),[]))) := by kernel_rfl
noncomputable def nw_k : List KI := (run qtG false 3000 ((fun (l : List G1D) => (⟨[.code (bodyOf Try.f127)], .normal, initSt Try.f127.ntmps [.v (.c (.sl (.g1 l))), .v (.c (.clo 92 []))]⟩ : Cfg)) default) []).cfg.k
theorem nw_hk (l : List G1D) : (run qtG false 3000 ((⟨[.code (bodyOf Try.f127)], .normal, initSt Try.f127.ntmps [.v (.c (.sl (.g1 l))), .v (.c (.clo 92 []))]⟩ : Cfg)) []).cfg.k = nw_k := by kernel_rfl
theorem nw (l : List G1D) (ho : AllP []) (hs : Sim w0 F0 K ac (initSt Try.f127.ntmps [.v (.c (.sl (.g1 l))),.v (.c (.clo 92 []))]) cX aX) (hK : ∀ ac cY aY,Sim w0 F0 K ac (mkSt 19 [0,1,7,8] [(.v (.c (.sl (Sq.g1 l)))),(.v (.c (.clo 92 ([] : List (Prod Nat Nat))))),(.ii (((List.length l) : Nat):Int)),.ii (0:Int)] [] [] 80 [] []) cY aY → Wq Try.prog Q (nw_k) ac Exit.normal aY cY.w) : Wq Try.prog Q ([.code (bodyOf Try.f127)]) ac .normal aX cX.w :=
  run_at2 (o := ⟨_, _, _, _, _, _, _⟩) qtG_ok (by kernel_rfl) (nw_hk l) ho hs hK
noncomputable def nwS (l : List G1D) (i:Int) : St := mkSt 19 [0,1,7,8] [(.v (.c (.sl (Sq.g1 l)))),(.v (.c (.clo 92 ([] : List (Prod Nat Nat))))),(.ii (((List.length l) : Nat):Int)),.v (.c (.int .i64 i))] [] [] 80 [] []
theorem nwX_end (l : List G1D) (i:Int) : runEnd qtG Try.f127 false 3000 (⟨lpIn nw_k,.normal,nwS l i⟩) [false] [] [] = (some ([((decide (i < (((List.length l) : Nat):Int))) = false)],((.ii (-(1:Int))),[]))) := by kernel_rfl
end
end Go.Proofs.Ytkfcphigoncgjaa

/- Sum1 of no points: contracts. No conditions. -/
namespace Go.Proofs.Ytkfcphigoncgjaa

theorem all0_fnd : FnD Try.prog 94 [.v (.c (.sl (.pt []))), .v (.c (.sl (.fr [])))] (.v (.a (ptIts pt0))) [] := by
  refine fn_start (fn := Try.f94) (c := bodyOf Try.f94) Try.func94 rfl rfl fun x0 a0 hk hF hs => ?_
  refine nz [] [] trivial hs fun ac cY aY hs1 => ?_
  have hs2 := hs1.nilRow (p := 17) (q := .ints []) rfl (by decide) rfl (ml' := [16, 17]) (ens' := [some (.fl [.ob (.p 0), .ob (.p 0), .ob (.p 0)]), some (.sq (.ints []))]) (fun r => fl_look (by decide))
    (svs' := [.v (.c (.sl (.pt []))), .v (.c (.sl (.fr []))), .v (.c (.ptr 16 0)), .v (.c (.slc 17 0 0 1)), .v (.c (.int .i64 0)), .v (.c (.sl (.fr []))), .v (.c (.int .i64 ((([] : List U4).length : Nat) : Int))), .v (.c (.int .i64 0))]) ⟨.inl rfl, .inl rfl, .inl rfl, .inr ⟨1, rfl, rfl⟩, .inl rfl, .inl rfl, .inl rfl, .inl rfl, trivial⟩
  change Wq Try.prog _ _ _ _ _ (nilCtx cY 17).w
  refine loop_rule (ι := Unit) (fun _ => nzS [] [] [] 0 0 0) (fun _ => 0) (c := lpC nz_k) (k := lpR nz_k) (by kernel_rfl) (fun i _ ac cY aY hs => ?_) () (hs2.nx _)
  refine nzB [] [] [] 0 0 0 ⟨rfl, by decide, rfl, by decide, by decide, trivial⟩ hs fun ac cU aU hs3 => ?_
  refine loop_rule (ι := Unit) (fun _ => nzT [] [] 0 0 [] pt0 (-1)) (fun _ => 0) (c := lpC nzB_k) (k := lpR nzB_k) (by kernel_rfl) (fun p _ ac cY aY hs => ?_) () (hs3.nx _)
  exact run_end2 qtG_ok hk hF (nzX_end [] [] 0 0 [] pt0 (-1)) ⟨rfl, trivial⟩ (fun y v hd => hd) hs
theorem each0_fnd : FnD Try.prog 95 [.v (.c (.sl (.g1 []))), .v (.c (.clo 56 []))] (.v (.c (.sl (.pt [])))) [] := by
  refine fn_start (fn := Try.f95) (c := bodyOf Try.f95) Try.func95 rfl rfl fun x0 a0 hk hF hs => ?_
  refine nq [] ⟨by decide, rfl, by decide, by decide, trivial⟩ hs fun ac cY aY hs1 => ?_
  refine loop_rule (ι := Unit) (fun _ => nqS [] [] 0 0) (fun _ => 0) (c := lpC nq_k) (k := lpR nq_k) (by kernel_rfl) (fun p _ ac cY aY hs => ?_) () (hs1.nx _)
  exact run_end2 qtG_ok hk hF (nqX_end [] [] 0 0) ⟨rfl, rfl, trivial⟩ (fun y v hd => hd) hs
theorem index0_fnd : FnD Try.prog 127 [.v (.c (.sl (.g1 []))), .v (.c (.clo 92 []))] (.v (.c (.int .i64 (-1)))) [] := by
  refine fn_start (fn := Try.f127) (c := bodyOf Try.f127) Try.func127 rfl rfl fun x0 a0 hk hF hs => ?_
  refine nw [] trivial hs fun ac cY aY hs1 => ?_
  refine loop_rule (ι := Unit) (fun _ => nwS [] 0) (fun _ => 0) (c := lpC nw_k) (k := lpR nw_k) (by kernel_rfl) (fun p _ ac cY aY hs => ?_) () (hs1.nx _)
  exact run_end2 qtG_ok hk hF (nwX_end [] _) ⟨rfl, trivial⟩ (fun y v hd => hd) hs
end Go.Proofs.Ytkfcphigoncgjaa

/- Sum1 of no points, walked to its end. No conditions. -/
namespace Go.Proofs.Ytkfcphigoncgjaa

def all0Spec : FnSpec
  | [.v (.c (.sl (.pt []))), .v (.c (.sl (.fr [])))] => some ([], .v (.a (ptIts pt0)), [])
  | _ => none
noncomputable def naA : Env := qtG.set (addT qtG.fn 94 all0Spec)
theorem naA_ok : EnvOk Try.prog naA := env_add qtG_ok 94 all0Spec (enters_of Try.func94 rfl rfl) fun args o r es h _ => by
  unfold all0Spec at h
  split at h
  · cases h; exact all0_fnd
  · cases h
def each0Spec : FnSpec
  | [.v (.c (.sl (.g1 []))), .v (.c (.clo 56 []))] => some ([], .v (.c (.sl (.pt []))), [])
  | _ => none
noncomputable def naB : Env := naA.set (addT naA.fn 95 each0Spec)
theorem naB_ok : EnvOk Try.prog naB := env_add naA_ok 95 each0Spec (enters_of Try.func95 rfl rfl) fun args o r es h _ => by
  unfold each0Spec at h
  split at h
  · cases h; exact each0_fnd
  · cases h
def index0Spec : FnSpec
  | [.v (.c (.sl (.g1 []))), .v (.c (.clo 92 []))] => some ([], .v (.c (.int .i64 (-1))), [])
  | _ => none
noncomputable def naC : Env := naB.set (addT naB.fn 127 index0Spec)
theorem naC_ok : EnvOk Try.prog naC := env_add naB_ok 127 index0Spec (enters_of Try.func127 rfl rfl) fun args o r es h _ => by
  unfold index0Spec at h
  split at h
  · cases h; exact index0_fnd
  · cases h
def check0Spec : FnSpec
  | [.v (.c (.int .i64 a)), .v (.c (.int .i64 b)), .v (.c (.bool w))] => some ([], .v (.c (.int .i64 (chkE a b w))), [])
  | _ => none
noncomputable def naD : Env := naC.set (addT naC.fn 93 check0Spec)
theorem naD_ok : EnvOk Try.prog naD := env_add naC_ok 93 check0Spec (enters_of Try.func93 rfl rfl) fun args o r es h _ => by
  unfold check0Spec at h
  split at h
  · cases h; exact check_fnd _ _ _
  · cases h
--@env naD naD_ok
theorem cf0  : fnRes naD Try.f91 3000 [.v (.c (.sl (.g1 []))),.v (.c (.clo 92 []))] [] [] [] = (some ([],((.v (.c (.bool (decide ((-(1:Int)) ≥ (0:Int)))))),[]))) := by kernel_rfl
theorem contains0_fnd : FnD Try.prog 91 [.v (.c (.sl (.g1 []))), .v (.c (.clo 92 []))] (.v (.c (.bool false))) [] := fn_sound naD_ok Try.func91 cf0 trivial
def contains0Spec : FnSpec
  | [.v (.c (.sl (.g1 []))), .v (.c (.clo 92 []))] => some ([], .v (.c (.bool false)), [])
  | _ => none
noncomputable def naE : Env := naD.set (addT naD.fn 91 contains0Spec)
theorem naE_ok : EnvOk Try.prog naE := env_add naD_ok 91 contains0Spec (enters_of Try.func91 rfl rfl) fun args o r es h _ => by
  unfold contains0Spec at h
  split at h
  · cases h; exact contains0_fnd
  · cases h
--@env naE naE_ok
theorem s0B  : fnRes naE Try.f45 3000 [.v (.c (.sl (.g1 []))),.v (.c (.sl (.fr [])))] [false] [] [] = (some ([(((0:Int) != (0:Int)) = false)],((.t [(.a [(.ob (.fp (G1D.x (outG pt0)))),(.ob (.fp (G1D.y (outG pt0)))),(.bool (G1D.inf (outG pt0)))]),(.c (.int .i64 (0:Int)))]),[]))) := by kernel_rfl
theorem sum0_fnd : FnD Try.prog 45 [.v (.c (.val (.slice none 0 0))), .v (.c (.val (.slice none 0 0)))] (.t [.a (G1D.mk 0 0 true).its, .c (.int .i64 0)]) [] := by
  have r := s0B
  rw [show outG pt0 = ⟨0, 0, true⟩ from if_pos rfl] at r
  exact (fn_sound naE_ok Try.func45 r ⟨rfl, trivial⟩).conv (fun x vs hd => by
    cases hd with | cons h1 hd => cases hd with | cons h2 hd =>
    cases hd
    exact .cons (nil_is rfl h1) (.cons (nil_is rfl h2) .nil)) fun y v hd => hd
def sum0Spec : FnSpec
  | [.v (.c (.val (.slice none 0 0))), .v (.c (.val (.slice none 0 0)))] => some ([], .t [.a (G1D.mk 0 0 true).its, .c (.int .i64 0)], [])
  | _ => none
noncomputable def naF : Env := naE.set (addT naE.fn 45 sum0Spec)
theorem naF_ok : EnvOk Try.prog naF := env_add naE_ok 45 sum0Spec (enters_of Try.func45 rfl rfl) fun args o r es h _ => by
  unfold sum0Spec at h
  split at h
  · cases h; exact sum0_fnd
  · cases h
end Go.Proofs.Ytkfcphigoncgjaa

/- The laws of sums: alive. No conditions. -/
namespace Go.Proofs.Ytkfcphigoncgjaa

noncomputable def ncA : Env := naF.or rtG
theorem ncA_ok : EnvOk Try.prog ncA := env_or naF_ok rtG_ok
--@env ncA ncA_ok
theorem a11  : fnRes ncA Try.f47 3000 [] [true,true,true] [] [] = (some ([(((0:Int) == (0:Int)) = true),((ite (true = true) (Bool.and (decide ((G1D.x (G1D.mk (0:U6) (0:U6) true)) = (G1D.x (G1D.mk (0:U6) (0:U6) true)))) (Bool.and (decide ((G1D.y (G1D.mk (0:U6) (0:U6) true)) = (G1D.y (G1D.mk (0:U6) (0:U6) true)))) ((G1D.inf (G1D.mk (0:U6) (0:U6) true)) == (G1D.inf (G1D.mk (0:U6) (0:U6) true))))) (Bool.not (Bool.and (decide ((G1D.x (G1D.mk (0:U6) (0:U6) true)) = (G1D.x (G1D.mk (0:U6) (0:U6) true)))) (Bool.and (decide ((G1D.y (G1D.mk (0:U6) (0:U6) true)) = (G1D.y (G1D.mk (0:U6) (0:U6) true)))) ((G1D.inf (G1D.mk (0:U6) (0:U6) true)) == (G1D.inf (G1D.mk (0:U6) (0:U6) true))))))) = true),((onG genG) = true)],((.v (.c (.bool (onG2 genG2)))),[]))) := by kernel_rfl
theorem onGen : onG genG = true := by decide +kernel
theorem onGen2 : onG2 genG2 = true := by decide +kernel
theorem alive11_fnd : FnD Try.prog 47 [] (.v (.c (.bool true))) [] := by
  have r := a11
  rw [if_pos rfl, onGen2] at r
  exact fn_sound ncA_ok Try.func47 r ⟨rfl, by decide, onGen, trivial⟩
end Go.Proofs.Ytkfcphigoncgjaa

/- The laws on sums of points of the second curve, walked. No conditions. -/
namespace Go.Proofs.Ytkfcphigoncgjaa
section
variable {w0 : World} {F0 : Nat → Prop} {K : Kp} {ac : List Act} {Q : Exit → Act → World → Prop} {cX : Ctx} {aX : Act}

def sum2Spec : FnSpec
  | [.v (.c (.sl (.g2 l))), .v (.c (.sl (.fr k)))] => some ([], .t [.a (sum2 l k).1.its, .c (.int .i64 (sum2 l k).2)], [])
  | _ => none
noncomputable def vfB : Env := veE.set (addT veE.fn 50 sum2Spec)
theorem vfB_ok : EnvOk Try.prog vfB := env_add veE_ok 50 sum2Spec (enters_of Try.func50 rfl rfl) fun args o r es h _ => by
  unfold sum2Spec at h
  split at h
  · cases h; exact sum2_fnd _ _
  · cases h
def alive11Spec2 : FnSpec
  | [] => some ([], .v (.c (.bool true)), [])
  | _ => none
noncomputable def vfC : Env := vfB.set (addT vfB.fn 47 alive11Spec2)
theorem vfC_ok : EnvOk Try.prog vfC := env_add vfB_ok 47 alive11Spec2 (enters_of Try.func47 rfl rfl) fun args o r es h _ => by
  unfold alive11Spec2 at h
  split at h
  · cases h; exact alive11_fnd
  · cases h
--@env vfC vfC_ok
noncomputable def spA_k : List KI := (run vfC false 3000 ((fun (l : List G2D) (k : List U4) => (⟨[.code (bodyOf Try.f16)], .normal, initSt Try.f16.ntmps [.v (.c (.sl (.g2 l))), .v (.c (.sl (.fr k)))]⟩ : Cfg)) default default) [true, true]).cfg.k
theorem spA_hk (l : List G2D) (k : List U4) : (run vfC false 3000 ((⟨[.code (bodyOf Try.f16)], .normal, initSt Try.f16.ntmps [.v (.c (.sl (.g2 l))), .v (.c (.sl (.fr k)))]⟩ : Cfg)) [true, true]).cfg.k = spA_k := by kernel_rfl
theorem spA (l : List G2D) (k : List U4) (ho : AllP [((decide ((((List.length l) : Nat):Int) > (20:Int))) = true),((decide ((((List.length l) : Nat):Int) ≤ (4096:Int))) = true),((0:Int) ≤ (20:Int)),((20:Int) ≤ (((List.length l) : Nat):Int)),((0:Int) ≤ (ite ((4096:Int) < (((List.length (List.take 20 (List.drop 0 l))) : Nat):Int)) (4096:Int) (((List.length (List.take 20 (List.drop 0 l))) : Nat):Int))),((ite ((4096:Int) < (((List.length (List.take 20 (List.drop 0 l))) : Nat):Int)) (4096:Int) (((List.length (List.take 20 (List.drop 0 l))) : Nat):Int)) ≤ (((List.length (List.take 20 (List.drop 0 l))) : Nat):Int))]) (hs : Sim w0 F0 K ac (initSt Try.f16.ntmps [.v (.c (.sl (.g2 l))),.v (.c (.sl (.fr k)))]) cX aX) (hK : ∀ ac cY aY,Sim w0 F0 K ac (mkSt 111 [0,1,5,32,33,34] [(.v (.c (.sl (Sq.g2 (List.take 20 (List.drop 0 l)))))),(.v (.c (.sl (.fr k)))),(.v (.c (.lit false))),(.v (.c (.sl (Sq.g2 (List.take ((ite ((4096:Int) < (((List.length (List.take 20 (List.drop 0 l))) : Nat):Int)) (4096:Int) (((List.length (List.take 20 (List.drop 0 l))) : Nat):Int))).toNat (List.drop 0 (List.take 20 (List.drop 0 l)))))))),(.ii (((List.length (List.take ((ite ((4096:Int) < (((List.length (List.take 20 (List.drop 0 l))) : Nat):Int)) (4096:Int) (((List.length (List.take 20 (List.drop 0 l))) : Nat):Int))).toNat (List.drop 0 (List.take 20 (List.drop 0 l))))) : Nat):Int)),.ii (0:Int)] [] [] 336 [] []) cY aY → Wq Try.prog Q (spA_k) ac Exit.normal aY cY.w) : Wq Try.prog Q ([.code (bodyOf Try.f16)]) ac .normal aX cX.w :=
  run_at2 (o := ⟨_, _, _, _, _, _, _⟩) vfC_ok (by kernel_rfl) (spA_hk l k) ho hs hK
theorem spB_hk (l : List G2D) (k : List U4) : (run vfC false 3000 ((⟨[.code (bodyOf Try.f16)], .normal, initSt Try.f16.ntmps [.v (.c (.sl (.g2 l))), .v (.c (.sl (.fr k)))]⟩ : Cfg)) [true, false]).cfg.k = spA_k := by kernel_rfl
theorem spB (l : List G2D) (k : List U4) (ho : AllP [((decide ((((List.length l) : Nat):Int) > (20:Int))) = true),((decide ((((List.length l) : Nat):Int) ≤ (4096:Int))) = false),((0:Int) ≤ (ite ((4096:Int) < (((List.length l) : Nat):Int)) (4096:Int) (((List.length l) : Nat):Int))),((ite ((4096:Int) < (((List.length l) : Nat):Int)) (4096:Int) (((List.length l) : Nat):Int)) ≤ (((List.length l) : Nat):Int))]) (hs : Sim w0 F0 K ac (initSt Try.f16.ntmps [.v (.c (.sl (.g2 l))),.v (.c (.sl (.fr k)))]) cX aX) (hK : ∀ ac cY aY,Sim w0 F0 K ac (mkSt 111 [0,1,5,32,33,34] [(.v (.c (.sl (Sq.g2 l)))),(.v (.c (.sl (.fr k)))),(.v (.c (.lit false))),(.v (.c (.sl (Sq.g2 (List.take ((ite ((4096:Int) < (((List.length l) : Nat):Int)) (4096:Int) (((List.length l) : Nat):Int))).toNat (List.drop 0 l)))))),(.ii (((List.length (List.take ((ite ((4096:Int) < (((List.length l) : Nat):Int)) (4096:Int) (((List.length l) : Nat):Int))).toNat (List.drop 0 l))) : Nat):Int)),.ii (0:Int)] [] [] 288 [] []) cY aY → Wq Try.prog Q (spA_k) ac Exit.normal aY cY.w) : Wq Try.prog Q ([.code (bodyOf Try.f16)]) ac .normal aX cX.w :=
  run_at2 (o := ⟨_, _, _, _, _, _, _⟩) vfC_ok (by kernel_rfl) (spB_hk l k) ho hs hK
theorem spC_hk (l : List G2D) (k : List U4) : (run vfC false 3000 ((⟨[.code (bodyOf Try.f16)], .normal, initSt Try.f16.ntmps [.v (.c (.sl (.g2 l))), .v (.c (.sl (.fr k)))]⟩ : Cfg)) [false, false]).cfg.k = spA_k := by kernel_rfl
theorem spC (l : List G2D) (k : List U4) (ho : AllP [((decide ((((List.length l) : Nat):Int) > (20:Int))) = false),((0:Int) ≤ (ite ((4096:Int) < (((List.length l) : Nat):Int)) (4096:Int) (((List.length l) : Nat):Int))),((ite ((4096:Int) < (((List.length l) : Nat):Int)) (4096:Int) (((List.length l) : Nat):Int)) ≤ (((List.length l) : Nat):Int))]) (hs : Sim w0 F0 K ac (initSt Try.f16.ntmps [.v (.c (.sl (.g2 l))),.v (.c (.sl (.fr k)))]) cX aX) (hK : ∀ ac cY aY,Sim w0 F0 K ac (mkSt 111 [0,1,5,32,33,34] [(.v (.c (.sl (Sq.g2 l)))),(.v (.c (.sl (.fr k)))),(.v (.c (.lit false))),(.v (.c (.sl (Sq.g2 (List.take ((ite ((4096:Int) < (((List.length l) : Nat):Int)) (4096:Int) (((List.length l) : Nat):Int))).toNat (List.drop 0 l)))))),(.ii (((List.length (List.take ((ite ((4096:Int) < (((List.length l) : Nat):Int)) (4096:Int) (((List.length l) : Nat):Int))).toNat (List.drop 0 l))) : Nat):Int)),.ii (0:Int)] [] [] 288 [] []) cY aY → Wq Try.prog Q (spA_k) ac Exit.normal aY cY.w) : Wq Try.prog Q ([.code (bodyOf Try.f16)]) ac .normal aX cX.w :=
  run_at2 (o := ⟨_, _, _, _, _, _, _⟩) vfC_ok (by kernel_rfl) (spC_hk l k) ho hs hK
noncomputable def spS (l q : List G2D) (k : List U4) (w : Bool) (i:Int) : St := mkSt 111 [0,1,5,32,33,34] [.v (.c (.sl (.g2 l))),(.v (.c (.sl (.fr k)))),.v (.c (.bool w)),.v (.c (.sl (.g2 q))),.v (.c (.int .i64 ((q.length : Nat):Int))),.v (.c (.int .i64 i))] [] [] 336 [] []
theorem spD_hk (l q : List G2D) (k : List U4) (w : Bool) (i : Int) : (run vfC false 3000 ((⟨lpIn spA_k, .normal, spS l q k w i⟩ : Cfg)) [true, true]).cfg.k = lpBk spA_k := by kernel_rfl
theorem spD (l q : List G2D) (k : List U4) (w : Bool) (i:Int) (ho : AllP [((decide (i < (((List.length q) : Nat):Int))) = true),((0:Int) ≤ i),(i < (((List.length q) : Nat):Int)),(w = true)]) (hs : Sim w0 F0 K ac (spS l q k w i) cX aX) (hK : ∀ ac cY aY,Sim w0 F0 K ac (mkSt 111 [0,1,5,32,33,34] [(.v (.c (.sl (Sq.g2 l)))),(.v (.c (.sl (.fr k)))),(.v (.c (.lit true))),(.v (.c (.sl (Sq.g2 q)))),(.ii (((List.length q) : Nat):Int)),(.ii (IntKind.wrap .i64 (i + (1:Int))))] [] [] 560 [] []) cY aY → Wq Try.prog Q (lpBk spA_k) ac Exit.normal aY cY.w) : Wq Try.prog Q (lpIn spA_k) ac .normal aX cX.w :=
  run_at2 (o := ⟨_, _, _, _, _, _, _⟩) vfC_ok (by kernel_rfl) (spD_hk l q k w i) ho hs hK
theorem spE_hk (l q : List G2D) (k : List U4) (w : Bool) (i : Int) : (run vfC false 3000 ((⟨lpIn spA_k, .normal, spS l q k w i⟩ : Cfg)) [true, false]).cfg.k = lpBk spA_k := by kernel_rfl
theorem spE (l q : List G2D) (k : List U4) (w : Bool) (i:Int) (ho : AllP [((decide (i < (((List.length q) : Nat):Int))) = true),((0:Int) ≤ i),(i < (((List.length q) : Nat):Int)),(w = false)]) (hs : Sim w0 F0 K ac (spS l q k w i) cX aX) (hK : ∀ ac cY aY,Sim w0 F0 K ac (mkSt 111 [0,1,5,32,33,34] [(.v (.c (.sl (Sq.g2 l)))),(.v (.c (.sl (.fr k)))),(.v (.c (.bool (Bool.not (onG2 (List.getD q (i).toNat g20)))))),(.v (.c (.sl (Sq.g2 q)))),(.ii (((List.length q) : Nat):Int)),(.ii (IntKind.wrap .i64 (i + (1:Int))))] [] [] 560 [] []) cY aY → Wq Try.prog Q (lpBk spA_k) ac Exit.normal aY cY.w) : Wq Try.prog Q (lpIn spA_k) ac .normal aX cX.w :=
  run_at2 (o := ⟨_, _, _, _, _, _, _⟩) vfC_ok (by kernel_rfl) (spE_hk l q k w i) ho hs hK
theorem spF_end (l q : List G2D) (k : List U4) (w : Bool) (i:Int) : runEnd vfC Try.f16 false 3000 (⟨lpIn spA_k,.normal,spS l q k w i⟩) [false,true,true,true] [] [] = (some ([((decide (i < (((List.length q) : Nat):Int))) = false),(((chkE (((List.length l) : Nat):Int) (((List.length k) : Nat):Int) w) != (0:Int)) = true),(true = true),(((Prod.snd (sum2 l k)) == (chkE (((List.length l) : Nat):Int) (((List.length k) : Nat):Int) w)) = true)],((.v (.c (.bool (ite (true = true) (Bool.and (decide ((G2D.xa (Prod.fst (sum2 l k))) = (0:U6))) (Bool.and (decide ((G2D.xb (Prod.fst (sum2 l k))) = (0:U6))) (Bool.and (decide ((G2D.ya (Prod.fst (sum2 l k))) = (0:U6))) (Bool.and (decide ((G2D.yb (Prod.fst (sum2 l k))) = (0:U6))) ((G2D.inf (Prod.fst (sum2 l k))) == false))))) (Bool.not (Bool.and (decide ((G2D.xa (Prod.fst (sum2 l k))) = (0:U6))) (Bool.and (decide ((G2D.xb (Prod.fst (sum2 l k))) = (0:U6))) (Bool.and (decide ((G2D.ya (Prod.fst (sum2 l k))) = (0:U6))) (Bool.and (decide ((G2D.yb (Prod.fst (sum2 l k))) = (0:U6))) ((G2D.inf (Prod.fst (sum2 l k))) == false)))))))))),[]))) := by kernel_rfl
noncomputable def spG_k : List KI := (run vfC false 3000 ((fun (l q : List G2D) (k : List U4) (w : Bool) (i : Int) => (⟨lpIn spA_k, .normal, spS l q k w i⟩ : Cfg)) default default default default default) [false, false]).cfg.k
theorem spG_hk (l q : List G2D) (k : List U4) (w : Bool) (i : Int) : (run vfC false 3000 ((⟨lpIn spA_k, .normal, spS l q k w i⟩ : Cfg)) [false, false]).cfg.k = spG_k := by kernel_rfl
theorem spG (l q : List G2D) (k : List U4) (w : Bool) (i:Int) (ho : AllP [((decide (i < (((List.length q) : Nat):Int))) = false),(((chkE (((List.length l) : Nat):Int) (((List.length k) : Nat):Int) w) != (0:Int)) = false)]) (hs : Sim w0 F0 K ac (spS l q k w i) cX aX) (hK : ∀ ac cY aY,Sim w0 F0 K ac (mkSt 111 [1,8,9,11,71,72,73] [(.v (.c (.sl (.fr k)))),.pt 448 0,(.ii (Prod.snd (sum2 l k))),.pt 656 0,(.v (.c (.sl (Sq.g2 l)))),(.ii (((List.length l) : Nat):Int)),.ii (0:Int)] [448,656] [(some (.fl [(.ob (.fp (G2D.xa (Prod.fst (sum2 l k))))),(.ob (.fp (G2D.xb (Prod.fst (sum2 l k))))),(.ob (.fp (G2D.ya (Prod.fst (sum2 l k))))),(.ob (.fp (G2D.yb (Prod.fst (sum2 l k))))),(.bool (G2D.inf (Prod.fst (sum2 l k))))])),(some (.fl [(.ob (.fp (G2D.xa (G2D.mk (0:U6) (0:U6) (0:U6) (0:U6) true)))),(.ob (.fp (G2D.xb (G2D.mk (0:U6) (0:U6) (0:U6) (0:U6) true)))),(.ob (.fp (G2D.ya (G2D.mk (0:U6) (0:U6) (0:U6) (0:U6) true)))),(.ob (.fp (G2D.yb (G2D.mk (0:U6) (0:U6) (0:U6) (0:U6) true)))),(.bool (G2D.inf (G2D.mk (0:U6) (0:U6) (0:U6) (0:U6) true)))]))] 736 [] []) cY aY → Wq Try.prog Q (spG_k) ac Exit.normal aY cY.w) : Wq Try.prog Q (lpIn spA_k) ac .normal aX cX.w :=
  run_at2 (o := ⟨_, _, _, _, _, _, _⟩) vfC_ok (by kernel_rfl) (spG_hk l q k w i) ho hs hK
noncomputable def spT (l : List G2D) (k : List U4) (s o : G2D) (e i:Int) : St := mkSt 111 [1,8,9,11,71,72,73] [(.v (.c (.sl (.fr k)))),.pt 448 0,.v (.c (.int .i64 e)),.pt 656 0,(.v (.c (.sl (Sq.g2 l)))),(.ii (((List.length l) : Nat):Int)),.v (.c (.int .i64 i))] [448,656] [some (.fl [.ob (.fp s.xa),.ob (.fp s.xb),.ob (.fp s.ya),.ob (.fp s.yb),.bool s.inf]),some (.fl [.ob (.fp o.xa),.ob (.fp o.xb),.ob (.fp o.ya),.ob (.fp o.yb),.bool o.inf])] 736 [] []
theorem spH_hk (l : List G2D) (k : List U4) (s o : G2D) (e i : Int) : (run vfC false 3000 ((⟨lpIn spG_k, .normal, spT l k s o e i⟩ : Cfg)) [true, false, false]).cfg.k = lpBk spG_k := by kernel_rfl
theorem spH (l : List G2D) (k : List U4) (s o : G2D) (e i:Int) (ho : AllP [((decide (i < (((List.length l) : Nat):Int))) = true),((0:Int) ≤ i),(i < (((List.length l) : Nat):Int)),((0:Int) ≤ i),(i < (((List.length k) : Nat):Int)),(((Prod.snd (muR2 (List.getD l (i).toNat g20) (List.getD k (i).toNat (0:U4)))) != (0:Int)) = false),(((Prod.snd (adR2 o (Prod.fst (muR2 (List.getD l (i).toNat g20) (List.getD k (i).toNat (0:U4)))))) != (0:Int)) = false)]) (hs : Sim w0 F0 K ac (spT l k s o e i) cX aX) (hK : ∀ ac cY aY,Sim w0 F0 K ac (mkSt 111 [1,8,9,11,71,72,73] [(.v (.c (.sl (.fr k)))),.pt 448 0,.ii e,.pt 656 0,(.v (.c (.sl (Sq.g2 l)))),(.ii (((List.length l) : Nat):Int)),(.ii (IntKind.wrap .i64 (i + (1:Int))))] [448,656] [(some (.fl [(.ob (.fp (G2D.xa s))),(.ob (.fp (G2D.xb s))),(.ob (.fp (G2D.ya s))),(.ob (.fp (G2D.yb s))),(.bool (G2D.inf s))])),(some (.fl [(.ob (.fp (G2D.xa (Prod.fst (adR2 o (Prod.fst (muR2 (List.getD l (i).toNat g20) (List.getD k (i).toNat (0:U4))))))))),(.ob (.fp (G2D.xb (Prod.fst (adR2 o (Prod.fst (muR2 (List.getD l (i).toNat g20) (List.getD k (i).toNat (0:U4))))))))),(.ob (.fp (G2D.ya (Prod.fst (adR2 o (Prod.fst (muR2 (List.getD l (i).toNat g20) (List.getD k (i).toNat (0:U4))))))))),(.ob (.fp (G2D.yb (Prod.fst (adR2 o (Prod.fst (muR2 (List.getD l (i).toNat g20) (List.getD k (i).toNat (0:U4))))))))),(.bool (G2D.inf (Prod.fst (adR2 o (Prod.fst (muR2 (List.getD l (i).toNat g20) (List.getD k (i).toNat (0:U4))))))))]))] 1344 [] []) cY aY → Wq Try.prog Q (lpBk spG_k) ac Exit.normal aY cY.w) : Wq Try.prog Q (lpIn spG_k) ac .normal aX cX.w :=
  run_at2 (o := ⟨_, _, _, _, _, _, _⟩) vfC_ok (by kernel_rfl) (spH_hk l k s o e i) ho hs hK
theorem spX_end (l : List G2D) (k : List U4) (s o : G2D) (e i:Int) : runEnd vfC Try.f16 false 3000 (⟨lpIn spG_k,.normal,spT l k s o e i⟩) [false,true,true] [] [] = (some ([((decide (i < (((List.length l) : Nat):Int))) = false),(true = true),((e == (0:Int)) = true)],((.v (.c (.bool (ite (true = true) (Bool.and (decide ((G2D.xa s) = (G2D.xa o))) (Bool.and (decide ((G2D.xb s) = (G2D.xb o))) (Bool.and (decide ((G2D.ya s) = (G2D.ya o))) (Bool.and (decide ((G2D.yb s) = (G2D.yb o))) ((G2D.inf s) == (G2D.inf o)))))) (Bool.not (Bool.and (decide ((G2D.xa s) = (G2D.xa o))) (Bool.and (decide ((G2D.xb s) = (G2D.xb o))) (Bool.and (decide ((G2D.ya s) = (G2D.ya o))) (Bool.and (decide ((G2D.yb s) = (G2D.yb o))) ((G2D.inf s) == (G2D.inf o))))))))))),[]))) := by kernel_rfl
end
end Go.Proofs.Ytkfcphigoncgjaa

/- SumOnes' and SumJoins' laws return true. No conditions. -/
namespace Go.Proofs.Ytkfcphigoncgjaa

theorem sum2_val {l : List G2D} {k : List U4} (h : chkE (l.length : Int) (k.length : Int) (l.any offG2) = 0) : sum2 l k = (gP2 (gsum (k.map (·.val)) (l.map pG2)), 0) := by
  obtain ⟨h1, _, h3⟩ := chk_zero h
  rw [sum2_ok h, smJ_gPT (Eq.refl 52) (by omega) h3]
theorem mul_atT (a : G2D) (ha : onG2 a = true) (k : U4) : (muR2 a k) = (gP2 (nmul (pG2 a) k.val), 0) := by
  rw [muR2_on k ha, mulG2_is ha]

theorem so_restT (l : List G2D) (k : List U4) {x0 : Ctx} (hk : ∀ p, x0.k p = .no) (hF : ∀ b, x0.F b → b < x0.w.heap.size) {ac : List Act} {cX : Ctx} {aX : Act}
    (h0 : chkE (l.length : Int) (k.length : Int) (l.any offG2) = 0) {s0 o0 : G2D} (ho : o0 = ⟨0, 0, 0, 0, true⟩) (hs0 : s0 = (sum2 l k).1) {e0 : Int} (he : e0 = (sum2 l k).2)
    (hs : Sim x0.w x0.F kAll ac (spT l k s0 o0 e0 0) cX aX) : Wq Try.prog (Post Try.prog Try.f16 x0 (.v (.c (.bool true))) []) spG_k ac .normal aX cX.w := by
  obtain ⟨h1, h2, h3⟩ := chk_zero h0
  have hon : ∀ a, a ∈ l → onG2 a = true := fun a ha => by
    rw [List.any_eq_false] at h3
    have := h3 a ha
    unfold offG2 at this
    simpa using this
  have hPs : ∀ P, P ∈ l.map pG2 → OnC fq4 P := fun P hP => by
    obtain ⟨a, ha, rfl⟩ := List.mem_map.1 hP
    exact (onG2_is (hon a ha)).2
  have hlk : (k.map (·.val)).length = (l.map pG2).length := by rw [List.length_map, List.length_map]; omega
  subst ho
  refine loop_rule (ι := { i : Nat // i ≤ l.length }) (fun i => spT l k s0 (gP2 (gslT (k.map (·.val)) (l.map pG2) i.1)) e0 (i.1 : Int)) (fun i => l.length - i.1) (c := lpC spG_k) (k := lpR spG_k) (by kernel_rfl) (fun i ih ac cY aY hs => ?_) ⟨0, Nat.zero_le _⟩ hs
  obtain ⟨i, hi⟩ := i
  simp only at ih hs
  by_cases h : i < l.length
  · have hm : l.getD i g20 ∈ l := by
      rw [List.getD_eq_getElem?_getD, List.getElem?_eq_getElem h]
      exact List.getElem_mem _
    have ha := hon _ hm
    have hmul := mul_atT (l.getD i g20) ha (k.getD i 0)
    have hnx : gslT (k.map (·.val)) (l.map pG2) (i + 1) = gadd (gslT (k.map (·.val)) (l.map pG2) i) (nmul (pG2 (l.getD i g20)) (k.getD i 0).val) := by
      show gadd _ (nmul ((l.map pG2).getD i none) ((k.map (·.val)).getD i 0)) = _
      have hgk : (k.map (·.val)).getD i 0 = (k.getD i 0).val := by
        have hik : i < k.length := by omega
        simp [List.getD, hik]
      rw [map_getD pG2 l g20 none h, hgk]
    have hadd : adR2 (gP2 (gslT (k.map (·.val)) (l.map pG2) i)) (gP2 (nmul (pG2 (l.getD i g20)) (k.getD i 0).val)) = (gP2 (gslT (k.map (·.val)) (l.map pG2) (i + 1)), 0) := by
      have o1 := gsl_onT (k.map (·.val)) (l.map pG2) hPs i
      have o2 := nmul_on cv2 (onG2_is ha).2 (k.getD i 0).val
      rw [adR2_on (onG2_gP o1) (onG2_gP o2), addG2_is, pG_gP2, pG_gP2, ← hnx]
    refine spH l k s0 _ e0 i ⟨decide_eq_true (by omega), by omega, by omega, by omega, by omega, by rw [Int.toNat_natCast, hmul]; rfl, by rw [Int.toNat_natCast, hmul, hadd]; rfl, trivial⟩ hs fun ac cU aU hs2 => ?_
    rw [Int.toNat_natCast, hmul, hadd, wrap_id (n := (i : Int) + 1) (by omega) (by omega)] at hs2
    exact ih ⟨i + 1, h⟩ (by show l.length - (i + 1) < l.length - i; omega) ac cU aU (hs2.nx _)
  · obtain rfl : i = l.length := by omega
    have r := spX_end l k s0 (gP2 (gslT (k.map (·.val)) (l.map pG2) l.length)) e0 ((l.length : Nat) : Int)
    have hv := sum2_val h0
    have hg : gslT (k.map (·.val)) (l.map pG2) l.length = gsum (k.map (·.val)) (l.map pG2) := by
      have e := gsl_isT (k.map (·.val)) (l.map pG2) hlk hPs l.length (by rw [List.length_map]; exact Nat.le_refl _)
      have t1 : (k.map (·.val)).take l.length = k.map (·.val) := List.take_of_length_le (by rw [List.length_map]; omega)
      have t2 : (l.map pG2).take l.length = l.map pG2 := List.take_of_length_le (by rw [List.length_map]; exact Nat.le_refl _)
      rw [t1, t2] at e
      exact e
    rw [hg] at hs
    rw [hg, if_pos rfl, eq_bits2 (a := s0) (b := gP2 (gsum (k.map (·.val)) (l.map pG2))) (by rw [hs0, hv])] at r
    exact run_end2 vfC_ok hk hF r ⟨decide_eq_false (by omega), rfl, by rw [he, hv]; rfl, trivial⟩ (fun y v hd => hd) hs

theorem take_anyT (l : List G2D) {b : Int} : chkE (l.length : Int) b ((l.take 4096).any offG2) = chkE (l.length : Int) b (l.any offG2) := by
  by_cases h : l.length ≤ 4096
  · rw [List.take_of_length_le h]
  · by_cases h2 : (l.length : Int) = b
    · rw [chk_gt h2 (by omega), chk_gt h2 (by omega)]
    · rw [chk_ne h2, chk_ne h2]

/-- From the first loop on. -/
theorem so_loopT (l q : List G2D) (k : List U4) (hq : q = l.take 4096) {x0 : Ctx} (hk : ∀ p, x0.k p = .no) (hF : ∀ b, x0.F b → b < x0.w.heap.size) {ac : List Act} {cX : Ctx} {aX : Act}
    (hs : Sim x0.w x0.F kAll ac (spS l q k false 0) cX aX) : Wq Try.prog (Post Try.prog Try.f16 x0 (.v (.c (.bool true))) []) spA_k ac .normal aX cX.w := by
  have hql : q.length ≤ 4096 := by rw [hq, List.length_take]; omega
  refine loop_rule (ι := { i : Nat // i ≤ q.length }) (fun i => spS l q k ((q.take i.1).any offG2) (i.1 : Int)) (fun i => q.length - i.1) (c := lpC spA_k) (k := lpR spA_k) (by kernel_rfl) (fun i ih ac cY aY hs => ?_) ⟨0, Nat.zero_le _⟩ hs
  obtain ⟨i, hi⟩ := i
  simp only at ih hs
  by_cases h : i < q.length
  · have hsn := take_snoc q g20 h
    have hany : (q.take (i + 1)).any offG2 = ((q.take i).any offG2 || offG2 (q.getD i g20)) := by rw [← hsn, List.any_append]; simp
    have ei : IntKind.wrap IntKind.i64 ((i : Int) + 1) = ((i + 1 : Nat) : Int) := by rw [wrap_id (by omega) (by omega)]; rfl
    have ih2 := ih ⟨i + 1, h⟩ (by show q.length - (i + 1) < q.length - i; omega)
    dsimp only at ih2
    rw [hany] at ih2
    cases hw : (q.take i).any offG2 with
    | true =>
      rw [hw] at hs ih2
      refine spD l q k true i ⟨decide_eq_true (by omega), by omega, by omega, rfl, trivial⟩ hs fun ac cU aU hs2 => ?_
      rw [ei] at hs2
      have hs3 := hs2.slots (svs' := [.v (.c (.sl (.g2 l))), .v (.c (.sl (.fr k))), .v (.c (.bool true)), .v (.c (.sl (.g2 q))), .v (.c (.int .i64 ((q.length : Nat) : Int))), .v (.c (.int .i64 ((i + 1 : Nat) : Int)))]) ⟨fun _ h => h, fun _ h => h, fun _ h => lit_bool rfl h, fun _ h => h, fun _ h => h, fun _ h => h, trivial⟩
      exact ih2 ac cU aU (hs3.nx _)
    | false =>
      rw [hw] at hs ih2
      refine spE l q k false i ⟨decide_eq_true (by omega), by omega, by omega, rfl, trivial⟩ hs fun ac cU aU hs2 => ?_
      rw [ei, Int.toNat_natCast] at hs2
      exact ih2 ac cU aU (hs2.nx _)
  · obtain rfl : i = q.length := by omega
    rw [List.take_length] at hs
    have hc : chkE (l.length : Int) (k.length : Int) (q.any offG2) = chkE (l.length : Int) (k.length : Int) (l.any offG2) := by rw [hq]; exact take_anyT l
    by_cases h0 : chkE (l.length : Int) (k.length : Int) (l.any offG2) = 0
    · refine spG l q k _ _ ⟨decide_eq_false (by omega), by rw [hc, h0]; rfl, trivial⟩ hs fun ac cU aU hs2 => ?_
      exact so_restT l k hk hF h0 rfl rfl rfl (hs2.nx _)
    · have r := spF_end l q k (q.any offG2) ((q.length : Nat) : Int)
      have hn := sum2_no h0
      have hz : (decide ((sum2 l k).1.xa = 0) && (decide ((sum2 l k).1.xb = 0) && (decide ((sum2 l k).1.ya = 0) && (decide ((sum2 l k).1.yb = 0) && ((sum2 l k).1.inf == false))))) = true := eq_bits2 (b := g20) (by rw [hn])
      rw [if_pos rfl, hz] at r
      exact run_end2 vfC_ok hk hF r ⟨decide_eq_false (by omega), by rw [hc]; simpa using h0, rfl, by rw [hc, hn]; simp, trivial⟩ (fun y v hd => hd) hs

theorem min_take (l : List G2D) : l.take (if (4096 : Int) < ((l.length : Nat) : Int) then (4096 : Int) else ((l.length : Nat) : Int)).toNat = l.take 4096 := by
  split
  · rfl
  · rw [Int.toNat_natCast, List.take_length, List.take_of_length_le (by omega)]

theorem sumTwos_fnd (l : List G2D) (k : List U4) : FnD Try.prog 16 [.v (.c (.sl (.g2 l))), .v (.c (.sl (.fr k)))] (.v (.c (.bool true))) [] := by
  refine fn_start (fn := Try.f16) (c := bodyOf Try.f16) Try.func16 rfl rfl fun x0 a0 hk hF hs => ?_
  by_cases h20 : l.length > 20
  · by_cases h4 : l.length ≤ 4096
    · refine spA l k ⟨decide_eq_true (by omega), decide_eq_true (by omega), by omega, by omega, by split <;> omega, by split <;> omega, trivial⟩ hs fun ac cY aY hs1 => ?_
      rw [List.drop_zero, List.drop_zero, min_take] at hs1
      have hs3 := hs1.slots (svs' := [.v (.c (.sl (.g2 (l.take 20)))), .v (.c (.sl (.fr k))), .v (.c (.bool false)), .v (.c (.sl (.g2 ((l.take 20).take 4096)))), .v (.c (.int .i64 ((((l.take 20).take 4096).length : Nat) : Int))), .v (.c (.int .i64 0))]) ⟨fun _ h => h, fun _ h => h, fun _ h => lit_bool rfl h, fun _ h => h, fun _ h => h, fun _ h => h, trivial⟩
      exact so_loopT (l.take 20) _ k rfl hk hF (hs3.nx _)
    · refine spB l k ⟨decide_eq_true (by omega), decide_eq_false (by omega), by split <;> omega, by split <;> omega, trivial⟩ hs fun ac cY aY hs1 => ?_
      rw [List.drop_zero, min_take] at hs1
      have hs3 := hs1.slots (svs' := [.v (.c (.sl (.g2 l))), .v (.c (.sl (.fr k))), .v (.c (.bool false)), .v (.c (.sl (.g2 (l.take 4096)))), .v (.c (.int .i64 (((l.take 4096).length : Nat) : Int))), .v (.c (.int .i64 0))]) ⟨fun _ h => h, fun _ h => h, fun _ h => lit_bool rfl h, fun _ h => h, fun _ h => h, fun _ h => h, trivial⟩
      exact so_loopT l _ k rfl hk hF (hs3.nx _)
  · refine spC l k ⟨decide_eq_false (by omega), by split <;> omega, by split <;> omega, trivial⟩ hs fun ac cY aY hs1 => ?_
    rw [List.drop_zero, min_take] at hs1
    have hs3 := hs1.slots (svs' := [.v (.c (.sl (.g2 l))), .v (.c (.sl (.fr k))), .v (.c (.bool false)), .v (.c (.sl (.g2 (l.take 4096)))), .v (.c (.int .i64 (((l.take 4096).length : Nat) : Int))), .v (.c (.int .i64 0))]) ⟨fun _ h => h, fun _ h => h, fun _ h => lit_bool rfl h, fun _ h => h, fun _ h => h, fun _ h => h, trivial⟩
    exact so_loopT l _ k rfl hk hF (hs3.nx _)

end Go.Proofs.Ytkfcphigoncgjaa

/- All that the claim of sums of points of the second curve needs. No conditions. -/
namespace Go.Proofs.Ytkfcphigoncgjaa
end Go.Proofs.Ytkfcphigoncgjaa
