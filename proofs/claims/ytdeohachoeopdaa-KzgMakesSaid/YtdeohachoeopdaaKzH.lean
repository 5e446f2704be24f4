/- Parts of a proof, one behind the other: Tb, Ms, Eo, Cp, Dk, Mv. No conditions. -/
import Derived.Test.YtdeohachoeopdaaKzG
/- A point as often as a number says, by a table of multiples of its sixteenfolds. No conditions. -/
namespace Go.Proofs.Ytdeohachoeopdaa

section
variable {F : Type} [Fld F] [DecidableEq F] {b : F}
/-- One row: nothing, once, twice, .. -/
def rowT (z a : F × F × F) : Nat → F × F × F
  | 0 => z
  | d + 1 => jpl (rowT z a d) a
/-- What each row begins with. -/
def baT (z a : F × F × F) : Nat → F × F × F
  | 0 => a
  | i + 1 => jpl (rowT z (baT z a i) 15) (baT z a i)
/-- One of each row, added up. -/
def pkT (z a : F × F × F) (v : Nat) : Nat → F × F × F
  | 0 => z
  | i + 1 => jpl (pkT z a v i) (rowT z (baT z a i) (v / 16 ^ i % 16))

theorem rowT_ok (hc : Cv b) {z a : F × F × F} (hz : z.2.2 = 0) {P : Pt F} (h : Jc P a) : ∀ d, Jc (nmul P d) (rowT z a d)
  | 0 => hz
  | d + 1 => jpl_ok hc.two _ _ _ _ (rowT_ok hc hz h d) h
theorem baT_ok (hc : Cv b) {z a : F × F × F} (hz : z.2.2 = 0) {P : Pt F} (hP : OnC b P) (h : Jc P a) : ∀ i, Jc (nmul P (16 ^ i)) (baT z a i)
  | 0 => by
    rw [Nat.pow_zero, nmul_one]
    exact h
  | i + 1 => by
    have hb := baT_ok hc hz hP h i
    rw [Nat.pow_succ, nmul_mul hc hP]
    exact jpl_ok hc.two _ _ _ _ (rowT_ok hc hz hb 15) hb
theorem pkT_ok (hc : Cv b) {z a : F × F × F} (hz : z.2.2 = 0) {P : Pt F} (hP : OnC b P) (h : Jc P a) (v : Nat) : ∀ i, Jc (nmul P (v % 16 ^ i)) (pkT z a v i)
  | 0 => by
    rw [Nat.pow_zero, Nat.mod_one]
    exact hz
  | i + 1 => by
    rw [Nat.pow_succ, Nat.mod_mul, nmul_add hc hP, nmul_mul hc hP]
    exact jpl_ok hc.two _ _ _ _ (pkT_ok hc hz hP h v i) (rowT_ok hc hz (baT_ok hc hz hP h i) _)
/-- All of them. -/
theorem pkT_all (hc : Cv b) {z a : F × F × F} (hz : z.2.2 = 0) {P : Pt F} (hP : OnC b P) (h : Jc P a) {v n : Nat} (hn : n = 64) (hv : v < 2 ^ 256) : Jc (nmul P v) (pkT z a v n) := by
  have := pkT_ok hc hz hP h v n
  rwa [hn, Nat.mod_eq_of_lt (Nat.lt_of_lt_of_le hv (by decide)), ← hn] at this
end
end Go.Proofs.Ytdeohachoeopdaa

/- Many points, each as often as its number says, by rows of digits: the plain law. No conditions. -/
namespace Go.Proofs.Ytdeohachoeopdaa

section
variable {F : Type} [Add F] [Sub F] [Mul F] [OfNat F 0] [DecidableEq F]
/-- One point is put into the row of its digit. -/
def bkS (z : F × F × F) (S : List (F × F × F)) (p : F × F × F) (d : Int) : List (F × F × F) :=
  if d > 0 then S.set d.toNat (jpl (S.getD d.toNat z) p) else if d < 0 then S.set (-d).toNat (jpl (S.getD (-d).toNat z) (jng p)) else S
/-- So many points are. -/
def bkN (z : F × F × F) (S : List (F × F × F)) (ps : List (F × F × F)) (ds : List Int) : Nat → List (F × F × F)
  | 0 => S
  | i + 1 => bkS z (bkN z S ps ds i) (ps.getD i z) (ds.getD i 0)
/-- Sums from above, and their sums. -/
def toR (z : F × F × F) (S : List (F × F × F)) : Nat → F × F × F
  | 0 => z
  | n + 1 => jpl (toR z S n) (S.getD (16 - n) z)
def toO (z : F × F × F) (S : List (F × F × F)) : Nat → F × F × F
  | 0 => z
  | n + 1 => jpl (toO z S n) (toR z S (n + 1))
def bkT (z : F × F × F) (ps : List (F × F × F)) (ds : List Int) : F × F × F := toO z (bkN z (List.replicate 17 z) ps ds ps.length) 16
/-- The digits of one place. -/
def rowAt (L : List (List Int)) (i : Nat) : List Int := L.map fun l => l.getD i 0
def alN (z : F × F × F) (ps : List (F × F × F)) (L : List (List Int)) (m : Nat) : Nat → F × F × F
  | 0 => z
  | t + 1 => jpl (jtws 5 (alN z ps L m t)) (bkT z ps (rowAt L (m - 1 - t)))
theorem bkS_len (z : F × F × F) (S : List (F × F × F)) (p : F × F × F) (d : Int) : (bkS z S p d).length = S.length := by
  unfold bkS
  split
  · exact List.length_set
  · split
    · exact List.length_set
    · rfl
theorem bkN_len (z : F × F × F) (S ps : List (F × F × F)) (ds : List Int) : ∀ i, (bkN z S ps ds i).length = S.length
  | 0 => rfl
  | i + 1 => (bkS_len ..).trans (bkN_len z S ps ds i)
end

/-! What stands for what: any relation that goes along with sums, doubles and negatives. -/
section
variable {F : Type} [Add F] [Sub F] [Mul F] [OfNat F 0] [DecidableEq F] {M : Type} [IMod M]
structure Rel (R : F × F × F → M → Prop) (z : F × F × F) : Prop where
  ze : R z 0
  pl : ∀ {a b x y}, R a x → R b y → R (jpl a b) (x + y)
  tw : ∀ {a x}, R a x → R (jtw a) (x + x)
  ng : ∀ {a x}, R a x → R (jng a) (-x)
variable {R : F × F × F → M → Prop} {z : F × F × F}

/-- Sums of multiples. -/
def wsum (T : Nat → M) : Nat → M
  | 0 => 0
  | n + 1 => wsum T n + ((n + 1 : Nat) : Int) • T (n + 1)
def updT (T : Nat → M) (d : Nat) (p : M) : Nat → M := fun i => if i = d then T i + p else T i
theorem wsum_upd (T : Nat → M) (d : Nat) (p : M) (hd : 1 ≤ d) : ∀ n, wsum (updT T d p) n = if d ≤ n then wsum T n + (d : Int) • p else wsum T n
  | 0 => by rw [if_neg (by omega)]; rfl
  | n + 1 => by
    show wsum (updT T d p) n + ((n + 1 : Nat) : Int) • updT T d p (n + 1) = _
    rw [wsum_upd T d p hd n]
    by_cases h : d ≤ n
    · rw [if_pos h, if_pos (by omega)]
      have e : updT T d p (n + 1) = T (n + 1) := if_neg (by omega)
      rw [e]
      show _ = wsum T n + ((n + 1 : Nat) : Int) • T (n + 1) + (d : Int) • p
      generalize ((n + 1 : Nat) : Int) • T (n + 1) = x
      generalize (d : Int) • p = y
      grind
    · rw [if_neg h]
      by_cases h2 : d = n + 1
      · subst h2
        rw [if_pos (Nat.le_refl _)]
        have e : updT T (n + 1) p (n + 1) = T (n + 1) + p := if_pos rfl
        rw [e, zsm_dist]
        show _ = wsum T n + ((n + 1 : Nat) : Int) • T (n + 1) + ((n + 1 : Nat) : Int) • p
        generalize ((n + 1 : Nat) : Int) • T (n + 1) = x
        generalize ((n + 1 : Nat) : Int) • p = y
        grind
      · rw [if_neg (by omega)]
        have e : updT T d p (n + 1) = T (n + 1) := if_neg (fun h => h2 h.symm)
        rw [e]
        rfl

def rM (T : Nat → M) : Nat → M
  | 0 => 0
  | n + 1 => rM T n + T (16 - n)
def oM (T : Nat → M) : Nat → M
  | 0 => 0
  | n + 1 => oM T n + rM T (n + 1)
/-- Sums from above n: each so often as it lies above n. -/
theorem oM_is (T : Nat → M) : oM T 16 = wsum T 16 := by
  simp only [oM, rM, wsum]
  grind

theorem toR_ok (hR : Rel R z) {S : List (F × F × F)} {T : Nat → M} (h : ∀ i, i ≤ 16 → R (S.getD i z) (T i)) : ∀ n, R (toR z S n) (rM T n)
  | 0 => hR.ze
  | n + 1 => hR.pl (toR_ok hR h n) (h _ (by omega))
theorem toO_ok (hR : Rel R z) {S : List (F × F × F)} {T : Nat → M} (h : ∀ i, i ≤ 16 → R (S.getD i z) (T i)) : ∀ n, R (toO z S n) (oM T n)
  | 0 => hR.ze
  | n + 1 => hR.pl (toO_ok hR h n) (toR_ok hR h (n + 1))

theorem set_getD {α : Type} (l : List α) (i j : Nat) (x z : α) (h : i < l.length) : (l.set i x).getD j z = if j = i then x else l.getD j z := by
  by_cases e : j = i
  · subst e
    simp [List.getD, h]
  · rw [if_neg e]
    simp [List.getD, List.getElem?_set_ne (Ne.symm e)]

/-- The rows after so many points, and what they stand for. -/
theorem bkN_ok (hR : Rel R z) {ps : List (F × F × F)} {Ps : List M} (hl : Ps.length = ps.length) (hp : ∀ i, i < ps.length → R (ps.getD i z) (Ps.getD i 0)) {ds : List Int} (hd : ∀ i, -16 ≤ ds.getD i 0 ∧ ds.getD i 0 ≤ 16) :
    ∀ n, n ≤ ps.length → ∃ T : Nat → M, (∀ i, i ≤ 16 → R ((bkN z (List.replicate 17 z) ps ds n).getD i z) (T i)) ∧ wsum T 16 = dot ((List.range n).map fun i => ds.getD i 0) ((List.range n).map fun i => Ps.getD i 0)
  | 0, _ => ⟨fun _ => 0, fun i hi => by
      have e : (List.replicate 17 z).getD i z = z := by
        rw [List.getD_eq_getElem?_getD, List.getElem?_replicate, if_pos (by omega)]
        rfl
      show R ((List.replicate 17 z).getD i z) 0
      rw [e]
      exact hR.ze, by
      have h : ∀ n, wsum (fun _ => (0 : M)) n = 0 := fun n => by
        induction n with
        | zero => rfl
        | succ n ih =>
          show wsum (fun _ => (0 : M)) n + ((n + 1 : Nat) : Int) • (0 : M) = 0
          rw [ih, zsm_ze, ad0]
      exact (h 16).trans (dot_nil _).symm⟩
  | n + 1, hn => by
    obtain ⟨T, h1, h2⟩ := bkN_ok hR hl hp hd n (by omega)
    have hdn := hd n
    have hlen : (bkN z (List.replicate 17 z) ps ds n).length = 17 := by rw [bkN_len, List.length_replicate]
    have hdot : dot ((List.range (n + 1)).map fun i => ds.getD i 0) ((List.range (n + 1)).map fun i => Ps.getD i 0) = dot ((List.range n).map fun i => ds.getD i 0) ((List.range n).map fun i => Ps.getD i 0) + ds.getD n 0 • Ps.getD n 0 := by
      rw [List.range_succ, List.map_append, List.map_append]
      exact dot_snoc _ _ _ _ (by simp)
    rw [hdot]
    show ∃ T : Nat → M, (∀ i, i ≤ 16 → R ((bkS z (bkN z (List.replicate 17 z) ps ds n) (ps.getD n z) (ds.getD n 0)).getD i z) (T i)) ∧ _
    have hpn := hp n (by omega)
    generalize bkN z (List.replicate 17 z) ps ds n = S at *
    generalize ds.getD n 0 = d at *
    generalize ps.getD n z = p at *
    generalize Ps.getD n 0 = P at *
    by_cases hpos : d > 0
    · obtain ⟨e, rfl⟩ := Int.eq_ofNat_of_zero_le (Int.le_of_lt hpos)
      refine ⟨updT T e P, fun i hi => ?_, ?_⟩
      · have eS : bkS z S p (e : Int) = S.set e (jpl (S.getD e z) p) := if_pos hpos
        rw [eS, set_getD _ _ _ _ _ (by omega)]
        by_cases hie : i = e
        · subst hie
          rw [if_pos rfl]
          have eT : updT T i P i = T i + P := if_pos rfl
          rw [eT]
          exact hR.pl (h1 _ hi) hpn
        · rw [if_neg hie]
          have eT : updT T e P i = T i := if_neg hie
          rw [eT]
          exact h1 _ hi
      · rw [wsum_upd _ _ _ (by omega), if_pos (by omega), h2]
    · by_cases hneg : d < 0
      · obtain ⟨e, he⟩ := Int.eq_ofNat_of_zero_le (a := -d) (by omega)
        obtain rfl : d = -(e : Int) := by omega
        refine ⟨updT T e (-P), fun i hi => ?_, ?_⟩
        · have eS : bkS z S p (-(e : Int)) = S.set e (jpl (S.getD e z) (jng p)) := by
            unfold bkS
            rw [if_neg hpos, if_pos hneg, Int.neg_neg, Int.toNat_natCast]
          rw [eS, set_getD _ _ _ _ _ (by omega)]
          by_cases hie : i = e
          · subst hie
            rw [if_pos rfl]
            have eT : updT T i (-P) i = T i + -P := if_pos rfl
            rw [eT]
            exact hR.pl (h1 _ hi) (hR.ng hpn)
          · rw [if_neg hie]
            have eT : updT T e (-P) i = T i := if_neg hie
            rw [eT]
            exact h1 _ hi
        · rw [wsum_upd _ _ _ (by omega), if_pos (by omega), h2, zsm_neg, zsm_ng]
      · obtain rfl : d = 0 := by omega
        refine ⟨T, fun i hi => ?_, ?_⟩
        · have eS : bkS z S p 0 = S := by unfold bkS; rw [if_neg (by decide), if_neg (by decide)]
          rw [eS]
          exact h1 _ hi
        · rw [h2, zsm_zero, ad0]

theorem getD_range {α : Type} (z : α) (l : List α) {n : Nat} (h : n = l.length) : ((List.range n).map fun i => l.getD i z) = l := by
  subst h
  apply List.ext_getElem
  · simp
  · intro i h1 h2
    simp [List.getD, h2]
theorem bkT_ok (hR : Rel R z) {ps : List (F × F × F)} {Ps : List M} (hl : Ps.length = ps.length) (hp : ∀ i, i < ps.length → R (ps.getD i z) (Ps.getD i 0)) {ds : List Int} (hdl : ds.length = ps.length) (hd : ∀ i, -16 ≤ ds.getD i 0 ∧ ds.getD i 0 ≤ 16) :
    R (bkT z ps ds) (dot ds Ps) := by
  obtain ⟨T, h1, h2⟩ := bkN_ok hR hl hp hd ps.length (Nat.le_refl _)
  have h3 := toO_ok hR h1 16
  rw [oM_is, h2, getD_range 0 ds hdl.symm, getD_range 0 Ps hl.symm] at h3
  exact h3

theorem jtws5 (hR : Rel R z) {a : F × F × F} {x : M} (h : R a x) : R (jtws 5 a) ((32 : Int) • x) := by
  have h1 := hR.tw (hR.tw (hR.tw (hR.tw (hR.tw h))))
  have e : x + x + (x + x) + (x + x + (x + x)) + (x + x + (x + x) + (x + x + (x + x))) + (x + x + (x + x) + (x + x + (x + x)) + (x + x + (x + x) + (x + x + (x + x)))) = (32 : Int) • x := by grind
  rw [← e]
  exact h1

theorem alN_ok (hR : Rel R z) {ps : List (F × F × F)} {Ps : List M} (hl : Ps.length = ps.length) (hp : ∀ i, i < ps.length → R (ps.getD i z) (Ps.getD i 0)) {L : List (List Int)} {m : Nat} (hL : L.length = ps.length) (hm : ∀ l, l ∈ L → l.length = m) (hd : ∀ l, l ∈ L → ∀ d, d ∈ l → -16 ≤ d ∧ d ≤ 16) :
    ∀ t, t ≤ m → R (alN z ps L m t) (dot (L.map fun l => vlW (l.drop (m - t))) Ps)
  | 0, _ => by
    have e : dot (L.map fun l => vlW (l.drop (m - 0))) Ps = 0 := by
      rw [show (L.map fun l => vlW (l.drop (m - 0))) = L.map fun _ => (0 : Int) from List.map_congr_left fun l hl => by rw [Nat.sub_zero, List.drop_eq_nil_of_le (Nat.le_of_eq (hm l hl))]; rfl]
      exact dot_zeros L Ps
    rw [e]
    exact hR.ze
  | t + 1, ht => by
    have ih := alN_ok hR hl hp hL hm hd t (by omega)
    have hrow : R (bkT z ps (rowAt L (m - 1 - t))) (dot (rowAt L (m - 1 - t)) Ps) := by
      refine bkT_ok hR hl hp (by unfold rowAt; rw [List.length_map]; exact hL) fun i => ?_
      unfold rowAt
      rw [List.getD_eq_getElem?_getD, List.getElem?_map]
      cases e : L[i]? with
      | none =>
        show (-16 : Int) ≤ 0 ∧ (0 : Int) ≤ 16
        exact ⟨by decide, by decide⟩
      | some l =>
        have hmem := List.mem_of_getElem? e
        show -16 ≤ l.getD (m - 1 - t) 0 ∧ l.getD (m - 1 - t) 0 ≤ 16
        have hlt : m - 1 - t < l.length := by rw [hm l hmem]; omega
        rw [List.getD_eq_getElem?_getD, List.getElem?_eq_getElem hlt]
        exact hd l hmem _ (List.getElem_mem hlt)
    have h := hR.pl (jtws5 hR ih) hrow
    have e : dot (L.map fun l => vlW (l.drop (m - (t + 1)))) Ps = (32 : Int) • dot (L.map fun l => vlW (l.drop (m - t))) Ps + dot (rowAt L (m - 1 - t)) Ps := by
      unfold rowAt
      refine dot_lin 32 _ _ _ L Ps fun l hmem => ?_
      have e1 : m - (t + 1) = m - 1 - t := by omega
      have e2 : m - t = m - 1 - t + 1 := by omega
      rw [e1, e2]
      exact vlW_drop l _ (by rw [hm l hmem]; omega)
    rw [e]
    exact h
end
end Go.Proofs.Ytdeohachoeopdaa

/- Two environments of contracts, joined. No conditions. -/
namespace Go.Proofs.Ytdeohachoeopdaa

/-- The contracts of both: where the first one has none, the second one's. -/
def Env.or (a b : Env) : Env := { a with fn := fun f => match a.fn f with | some s => some s | none => b.fn f }
theorem env_or {P : Program} {a b : Env} (hA : EnvOk P a) (hB : EnvOk P b) : EnvOk P (a.or b) := by
  refine ⟨hA.ty, hA.mixed, fun f s h => ?_, hA.mu, hA.inl, hA.ex, hA.inv⟩
  have h : (match a.fn f with | some s => some s | none => b.fn f) = some s := h
  cases e : a.fn f with
  | some s' => rw [e] at h; exact hA.fn f s (by rw [e]; exact h)
  | none => rw [e] at h; exact hB.fn f s h
end Go.Proofs.Ytdeohachoeopdaa

/- The points of a curve, as a group; many of them, each as often as its number says. No conditions. -/
namespace Go.Proofs.Ytdeohachoeopdaa

section
variable {F : Type} [Fld F] [DecidableEq F] {b : F}
/-- The points of the curve. -/
def CP (b : F) : Type := { P : Pt F // OnC b P }
@[reducible] def cpAG (hc : Cv b) : AG (CP b) where
  ad P Q := ⟨gadd P.1 Q.1, gadd_on hc _ _ P.2 Q.2⟩
  ng P := ⟨gneg P.1, gneg_on _ P.2⟩
  ze := ⟨none, True.intro⟩
  ad_ze P := Subtype.ext (gadd_none _)
  ad_cm P Q := Subtype.ext (gadd_comm hc _ _ P.2 Q.2)
  ad_as P Q S := Subtype.ext (gadd_assoc hc _ _ _ P.2 Q.2 S.2)
  ng_ad P := Subtype.ext (by
    show gadd (gneg P.1) P.1 = none
    rw [gadd_comm hc _ _ (gneg_on _ P.2) P.2, gadd_gneg hc _ P.2])
/-- A sum of multiples of points. -/
def gsum : List Nat → List (Pt F) → Pt F
  | k :: ks, P :: Ps => gadd (nmul P k) (gsum ks Ps)
  | _, _ => none
theorem gsum_on (hc : Cv b) : ∀ (ks : List Nat) (Ps : List (Pt F)), (∀ P, P ∈ Ps → OnC b P) → OnC b (gsum ks Ps)
  | [], _, _ => True.intro
  | _ :: _, [], _ => True.intro
  | k :: ks, P :: Ps, h => gadd_on hc _ _ (nmul_on hc (h P (List.mem_cons_self ..)) k) (gsum_on hc ks Ps fun Q hQ => h Q (List.mem_cons_of_mem _ hQ))

theorem ns_val (hc : Cv b) (P : CP b) : ∀ n : Nat, (letI := cpAG hc; AG.ns n P).1 = nmul P.1 n
  | 0 => rfl
  | n + 1 => by
    show gadd (letI := cpAG hc; AG.ns n P).1 P.1 = gadd (nmul P.1 n) P.1
    rw [ns_val hc P n]
theorem dot_val (hc : Cv b) : ∀ (ks : List Nat) (Ps : List (CP b)), (letI := cpAG hc; dot (ks.map fun k : Nat => (k : Int)) Ps).1 = gsum ks (Ps.map (·.1))
  | [], Ps => by
    letI := cpAG hc
    show (dot ([] : List Int) Ps).1 = none
    rw [dot_nil]
    rfl
  | _ :: _, [] => rfl
  | k :: ks, P :: Ps => by
    show gadd (letI := cpAG hc; AG.ns k P).1 (letI := cpAG hc; dot (ks.map fun k : Nat => (k : Int)) Ps).1 = gadd (nmul P.1 k) (gsum ks (Ps.map (·.1)))
    rw [ns_val, dot_val hc ks Ps]

theorem cp_rel (hc : Cv b) (z : F × F × F) (hz : z.2.2 = 0) : letI := cpAG hc; Rel (F := F) (M := CP b) (fun a P => Jc P.1 a) z := by
  letI := cpAG hc
  exact ⟨hz, fun {a b x y} h1 h2 => jpl_ok hc.two _ _ _ _ h1 h2, fun {a x} h => jtw_ok hc.two _ _ h, fun {a x} h => jng_ok _ _ h⟩

/-- All digits of all numbers. -/
def digs (n : Nat) (ks : List Nat) : List (List Int) := ks.map fun k => (dgW k n).1
theorem dig_one {k n : Nat} (hn : n = 52) (h : k < 2 ^ 256) : vlW ((dgW k n).1.drop (n - n)) = (k : Int) := by
  rw [Nat.sub_self, List.drop_zero]
  exact (dgW_all hn h).1
theorem digs_val {n : Nat} (hn : n = 52) {ks : List Nat} (hk : ∀ k, k ∈ ks → k < 2 ^ 256) : (digs n ks).map (fun l => vlW (l.drop (n - n))) = ks.map fun k : Nat => (k : Int) := by
  unfold digs
  rw [List.map_map]
  exact List.map_congr_left fun k hm => dig_one hn (hk k hm)

/-- Many points, by rows of digits, are their sum. -/
theorem many_sum {n : Nat} (hn : n = 52) (hc : Cv b) (z : F × F × F) (hz : z.2.2 = 0) {ps : List (F × F × F)} {Ps : List (Pt F)} (hl : Ps.length = ps.length) (hon : ∀ P, P ∈ Ps → OnC b P) (hp : ∀ i, i < ps.length → Jc (Ps.getD i none) (ps.getD i z)) {ks : List Nat} (hkl : ks.length = ps.length) (hk : ∀ k, k ∈ ks → k < 2 ^ 256) :
    Jc (gsum ks Ps) (alN z ps (digs n ks) n n) := by
  letI := cpAG hc
  let Qs : List (CP b) := Ps.attach.map fun P => ⟨P.1, hon P.1 P.2⟩
  have hQ : Qs.map (·.1) = Ps := by
    show (Ps.attach.map fun P => (⟨P.1, hon P.1 P.2⟩ : CP b)).map (·.1) = Ps
    rw [List.map_map]
    exact List.attach_map_subtype_val Ps
  have hQl : Qs.length = ps.length := by rw [← hl, ← hQ, List.length_map]
  have hget : ∀ i, (Qs.getD i 0).1 = Ps.getD i none := fun i => by
    rw [← hQ, List.getD_eq_getElem?_getD, List.getD_eq_getElem?_getD, List.getElem?_map]
    cases Qs[i]? <;> rfl
  have h := alN_ok (cp_rel hc z hz) (L := digs n ks) (m := n) hQl (fun i hi => by
      show Jc (Qs.getD i 0).1 (ps.getD i z)
      rw [hget]
      exact hp i hi) (by unfold digs; rw [List.length_map]; exact hkl) (fun l hm => by
      obtain ⟨k, _, rfl⟩ := List.mem_map.1 hm
      exact dgW_len k n) (fun l hm d hd => by
      obtain ⟨k, _, rfl⟩ := List.mem_map.1 hm
      exact dgW_range k n d hd) n (Nat.le_refl _)
  rw [digs_val hn hk] at h
  have h : Jc (dot (ks.map fun k : Nat => (k : Int)) Qs).1 (alN z ps (digs n ks) n n) := h
  rw [dot_val hc ks Qs, hQ] at h
  exact h
end
end Go.Proofs.Ytdeohachoeopdaa

/- Digits of many numbers, and what else the sums of both curves share. No conditions. -/
namespace Go.Proofs.Ytdeohachoeopdaa

/-- Digits that are small enough. -/
def dsOk (D : List Int) : Prop := ∀ i, -16 ≤ D.getD i 0 ∧ D.getD i 0 ≤ 16
/-- All digits of all numbers; how many places there are. -/
def dgK (N : Nat) (k : List U4) : List (List Int) := digs N (k.map (·.val))
def mst (N : Nat) : List U4 → Nat
  | [] => 0
  | _ :: _ => N
theorem dgK_len (N : Nat) (k : List U4) : (dgK N k).length = k.length := by unfold dgK digs; rw [List.length_map, List.length_map]
theorem dgK_get (N : Nat) (k : List U4) (i : Nat) (h : i < k.length) : (dgK N k).getD i [] = (dgW (k.getD i 0).val N).1 := by
  unfold dgK digs
  simp [List.getD, h]
theorem dgK_row {N : Nat} (k : List U4) (i : Nat) (h : i < k.length) : ((dgK N k).getD i []).length = N := by
  rw [dgK_get N k i h, dgW_len]
theorem dgK_dig (N : Nat) (k : List U4) (i j : Nat) : -16 ≤ ((dgK N k).getD i []).getD j 0 ∧ ((dgK N k).getD i []).getD j 0 ≤ 16 := by
  by_cases h : i < k.length
  · rw [dgK_get N k i h]
    by_cases h2 : j < (dgW (k.getD i 0).val N).1.length
    · rw [List.getD_eq_getElem?_getD, List.getElem?_eq_getElem h2]
      exact dgW_range _ _ _ (List.getElem_mem h2)
    · rw [List.getD_eq_getElem?_getD, List.getElem?_eq_none (by omega)]
      show (-16 : Int) ≤ 0 ∧ (0 : Int) ≤ 16
      exact ⟨by decide, by decide⟩
  · have : (dgK N k).getD i [] = [] := by rw [List.getD_eq_getElem?_getD, List.getElem?_eq_none (by rw [dgK_len]; omega)]; rfl
    rw [this]
    show (-16 : Int) ≤ 0 ∧ (0 : Int) ≤ 16
    exact ⟨by decide, by decide⟩
/-- The sum, as it is reckoned. -/
def smJ {F : Type} [Add F] [Sub F] [Mul F] [OfNat F 0] [DecidableEq F] (N : Nat) (z : F × F × F) (P : List (F × F × F)) (k : List U4) : F × F × F := alN z P (dgK N k) (mst N k) (mst N k)

theorem rowAt_get (L : List (List Int)) (h i : Nat) : (rowAt L h).getD i 0 = (L.getD i []).getD h 0 := by
  unfold rowAt
  rw [List.getD_eq_getElem?_getD, List.getElem?_map, List.getD_eq_getElem?_getD (l := L)]
  cases L[i]? with
  | none => rfl
  | some l => rfl
theorem row_ext {D : List Int} {L : List (List Int)} {h : Nat} (hl : D.length = L.length) (hg : ∀ j, j < L.length → D.getD j 0 = (L.getD j []).getD h 0) : D = rowAt L h := by
  have hr : (rowAt L h).length = L.length := by unfold rowAt; rw [List.length_map]
  apply List.ext_getElem (by rw [hl, hr])
  intro i h1 h2
  have e := hg i (by omega)
  rw [← rowAt_get, List.getD_eq_getElem?_getD, List.getD_eq_getElem?_getD, List.getElem?_eq_getElem h1, List.getElem?_eq_getElem h2] at e
  exact e
theorem take_snoc {α : Type} (l : List α) (z : α) {i : Nat} (h : i < l.length) : l.take i ++ [l.getD i z] = l.take (i + 1) := by
  rw [List.take_add_one, List.getElem?_eq_getElem h, List.getD_eq_getElem?_getD, List.getElem?_eq_getElem h]
  rfl

theorem map_getD {α β : Type} (f : α → β) (l : List α) (a : α) (b : β) {i : Nat} (h : i < l.length) : (l.map f).getD i b = f (l.getD i a) := by
  simp [List.getD, h]
/-- How many points are refused. -/
def chkE (a b : Int) (w : Bool) : Int := if a = b then if a > 4096 then 2 else if w then 30 else 0 else 3
theorem chk_ne {a b : Int} {w : Bool} (h : ¬ a = b) : chkE a b w = 3 := if_neg h
theorem chk_gt {a b : Int} {w : Bool} (h : a = b) (h2 : a > 4096) : chkE a b w = 2 := by unfold chkE; rw [if_pos h, if_pos h2]
theorem chk_w {a b : Int} {w : Bool} (h : a = b) (h2 : ¬ a > 4096) (hw : w = true) : chkE a b w = 30 := by unfold chkE; rw [if_pos h, if_neg h2, if_pos hw]
theorem chk_ok {a b : Int} {w : Bool} (h : a = b) (h2 : ¬ a > 4096) (hw : w = false) : chkE a b w = 0 := by unfold chkE; rw [if_pos h, if_neg h2, hw, if_neg Bool.false_ne_true]
theorem chk_zero {a b : Int} {w : Bool} (h : chkE a b w = 0) : a = b ∧ ¬ a > 4096 ∧ w = false := by
  by_cases h1 : a = b
  · by_cases h2 : a > 4096
    · rw [chk_gt h1 h2] at h; exact absurd h (by decide)
    · cases w with
      | true => rw [chk_w h1 h2 rfl] at h; exact absurd h (by decide)
      | false => exact ⟨h1, h2, rfl⟩
  · rw [chk_ne h1] at h; exact absurd h (by decide)

theorem nil_is {x : Ctx} {q : Sq} (hq : q.n = 0) {v : Value} (h : denS x (.v (.c (.val (.slice none 0 0)))) v) : denS x (.v (.c (.sl q))) v := by
  obtain ⟨h0, d, hd⟩ := h
  have e : [v] = [Value.slice none 0 0] := by cases d <;> exact hd.1
  exact ⟨rfl, 1, .inl ⟨none, 0, e, hq⟩⟩
end Go.Proofs.Ytdeohachoeopdaa

/- A block is told at another position. No conditions. -/
namespace Go.Proofs.Ytdeohachoeopdaa

/-- What stood at p stands at r now; of the others only these are known. -/
def mvCtx (x : Ctx) (keep : List Nat) (p r : Nat) : Ctx := { x with β := fun q => if q = r then x.β p else x.β q, k := fun q => if q = r then .real else if hasN q keep then x.k q else .no }

section
variable {w0 : World} {F0 : Nat → Prop} {K : Kp} {aq : List Act} {x : Ctx} {a : Act} {keep : List Nat} {p r : Nat}

theorem mv_ext (hr : x.k r = .no) : Ext (keepCtx x keep) (mvCtx x keep p r) := by
  have hne : ∀ q, (keepCtx x keep).k q ≠ .no → q ≠ r := fun q hq e => by
    subst e
    apply hq
    simp only [keepCtx, hr]
    split <;> rfl
  refine ⟨Nat.le_refl _, fun _ h => ⟨h, rfl⟩, fun q hq => ?_, fun q hq => ?_, fun q hq cs ty h => ⟨cs, h, rfl⟩⟩
  · show (if q = r then Kd.real else if hasN q keep then x.k q else .no) = _
    rw [if_neg (hne q hq)]
    rfl
  · show (if q = r then x.β p else x.β q) = x.β q
    rw [if_neg (hne q (by rw [hq]; intro h; cases h))]

/-- Slots that tell of the block at its new position, or not of it. -/
def convM (keep : List Nat) (p r : Nat) : List SV → List SV → Prop
  | [], [] => True
  | s :: l, s' :: l' => ((s' = s ∧ refS keep s = true) ∨ ∃ off, s = .v (.c (.ptr p off)) ∧ s' = .v (.c (.ptr r off))) ∧ convM keep p r l l'
  | _, _ => False
theorem mv_ptr {off : Nat} {v : Value} (h : denS x (.v (.c (.ptr p off))) v) : denS (mvCtx x keep p r) (.v (.c (.ptr r off))) v := by
  obtain ⟨h0, d, hd⟩ := h
  refine ⟨h0, d, ?_⟩
  cases d <;> (simp only [den] at hd ⊢; exact ⟨by simp [mvCtx], by rw [hd.2]; simp [mvCtx]⟩)
theorem look_mv (hr : x.k r = .no) : ∀ {tl : List Nat} {svs svs' : List SV}, convM keep p r svs svs' → ∀ t v, denS x (look .top tl svs t) v → denS (mvCtx x keep p r) (look .top tl svs' t) v
  | [], svs, svs', _, t, v, _ => by
    cases svs' <;> trivial
  | _ :: _, [], [], _, t, v, _ => trivial
  | _ :: _, [], _ :: _, h, _, _, _ => h.elim
  | _ :: _, _ :: _, [], h, _, _, _ => h.elim
  | n :: tl, s :: l, s' :: l', h, t, v, hd => by
    simp only [look] at hd ⊢
    by_cases e : t = n
    · rw [if_pos e] at hd ⊢
      rcases h.1 with ⟨e1, h1⟩ | ⟨off, e1, e2⟩
      · rw [e1]
        exact denS_ext (mv_ext hr) (keep_S h1 hd)
      · subst e1 e2
        exact mv_ptr hd
    · rw [if_neg e] at hd ⊢
      exact look_mv hr h.2 t v hd

theorem look_mem : ∀ {ml : List Nat} {ens : List (Option En)} {q : Nat}, look none ml ens q ≠ none → hasN q ml = true
  | [], _, _, h => by simp [look] at h
  | _ :: _, [], _, h => by simp [look] at h
  | n :: ml, e :: ens, q, h => by
    simp only [look] at h
    simp only [hasN]
    by_cases hq : q = n
    · rw [if_pos hq.symm]
    · rw [if_neg hq] at h
      rw [if_neg (Ne.symm hq)]
      exact look_mem h
theorem look_fl : ∀ {ml : List Nat} {ens : List (Option En)}, refEns keep ens = true → ∀ {q : Nat} {l : List It}, look none ml ens q = some (.fl l) → refIts keep l = true
  | [], _, _, _, _, h => by simp [look] at h
  | _ :: _, [], _, _, _, h => by simp [look] at h
  | n :: ml, some (.fl s) :: ens, h, q, l, hl => by
    simp only [look] at hl
    simp only [refEns, Bool.and_eq_true] at h
    by_cases hq : q = n
    · rw [if_pos hq] at hl; cases hl; exact h.1
    · rw [if_neg hq] at hl; exact look_fl h.2 hl
  | n :: ml, some (.sq s) :: ens, h, q, l, hl => by
    simp only [look] at hl
    simp only [refEns] at h
    by_cases hq : q = n
    · rw [if_pos hq] at hl; cases hl
    · rw [if_neg hq] at hl; exact look_fl h hl
  | _ :: _, none :: _, h, _, _, _ => by cases h
theorem hasN_sub {keep : List Nat} : ∀ {ml : List Nat}, (ml.all fun q => decide (q = p) || hasN q keep) = true → ∀ {q : Nat}, hasN q ml = true → q ≠ p → hasN q keep = true
  | [], _, _, h, _ => by cases h
  | n :: ml, ha, q, h, hq => by
    simp only [List.all_cons, Bool.and_eq_true] at ha
    simp only [hasN] at h
    split at h
    · rename_i e
      subst e
      have := ha.1
      simpa [hq] using this
    · exact hasN_sub ha.2 h hq

theorem Sim.move {nt nx : Nat} {tl : List Nat} {svs : List SV} {ml : List Nat} {ens : List (Option En)}
    (hs : Sim w0 F0 K aq (mkSt nt tl svs ml ens nx [] []) x a) (keep : List Nat) (p r : Nat) (hpin : K.pin = none) (hp : ∃ l, look none ml ens p = some (.fl l)) (hr : look none ml ens r = none) (hkp : hasN p keep = false) (hkr : hasN r keep = false) (hkm : (ml.all fun q => decide (q = p) || hasN q keep) = true)
    (he : refEns keep ens = true) {svs' : List SV} (hc : convM keep p r svs svs') {ml' : List Nat} {ens' : List (Option En)} (hl : ∀ q, look none ml' ens' q = if q = r then look none ml ens p else if q = p then none else look none ml ens q) :
    Sim w0 F0 K aq (mkSt nt tl svs' ml' ens' nx [] []) (mvCtx x keep p r) a := by
  have hm := hs.mem
  have hno : x.k r = .no := (hm.dom r).1 hr
  obtain ⟨l0, hp⟩ := hp
  have hreal : x.k p = .real := hm.fl p l0 hp
  have hpr : p ≠ r := fun e => by rw [e, hr] at hp; cases hp
  have hext := mv_ext (keep := keep) (p := p) hno
  have kr : (mvCtx x keep p r).k r = .real := by simp [mvCtx]
  have br : (mvCtx x keep p r).β r = x.β p := by simp [mvCtx]
  have ko : ∀ q, q ≠ r → (mvCtx x keep p r).k q = if hasN q keep then x.k q else .no := fun q hq => by simp [mvCtx, hq]
  have bo : ∀ q, q ≠ r → (mvCtx x keep p r).β q = x.β q := fun q hq => by simp [mvCtx, hq]
  have kreal : ∀ q, q ≠ r → (mvCtx x keep p r).k q = .real → x.k q = .real ∧ q ≠ p := fun q hq h => by
    rw [ko q hq] at h
    split at h
    · rename_i hk
      exact ⟨h, fun e => by rw [e, hkp] at hk; cases hk⟩
    · cases h
  have den_ok : ∀ q e cs, look none ml ens q = some e → denEn x e cs → denEn (mvCtx x keep p r) e cs := fun q e cs hq hd => by
    refine denEn_ext hext ?_
    cases e with
    | fl l => exact keep_cat (look_fl he hq) hd
    | sq q => exact ⟨hd.1, fun i hi => let ⟨c, hc, hj⟩ := hd.2 i hi; ⟨c, cat_data (x := x) (y := keepCtx x keep) rfl (fun b hb => hb) (ownFree_get q i) hc, hj⟩⟩
  refine ⟨hs.defers, hs.nt, fun t => look_mv hno hc t _ (hs.t t), ?_, ?_, ?_⟩
  · refine ⟨fun q => ?_, fun q l hq => ?_, fun q s hq hn => ?_, fun q e hq hk => ?_, fun q s hq hs e => ?_, fun q hq => ?_, fun b hb => hm.fw b hb⟩
    · show look none ml' ens' q = none ↔ _
      rw [hl]
      by_cases e : q = r
      · subst e
        rw [if_pos rfl, hp, kr]
        constructor <;> (intro h; cases h)
      · rw [if_neg e, ko q e]
        by_cases e2 : q = p
        · subst e2
          rw [if_pos rfl, hkp]
          exact ⟨fun _ => rfl, fun _ => rfl⟩
        · rw [if_neg e2]
          by_cases hk : hasN q keep = true
          · rw [if_pos hk]
            exact hm.dom q
          · rw [if_neg hk]
            refine ⟨fun _ => rfl, fun _ => ?_⟩
            by_cases hn : look none ml ens q = none
            · exact hn
            · exact absurd (hasN_sub hkm (look_mem hn) e2) hk
    · have hq : look none ml' ens' q = some (.fl l) := hq
      rw [hl] at hq
      by_cases e : q = r
      · subst e; exact kr
      · rw [if_neg e] at hq
        by_cases e2 : q = p
        · rw [if_pos e2] at hq; cases hq
        · rw [if_neg e2] at hq
          rw [ko q e, if_pos (hasN_sub hkm (look_mem (by rw [hq]; intro h; cases h)) e2)]
          exact hm.fl q l hq
    · have hq : look none ml' ens' q = some (.sq s) := hq
      rw [hl] at hq
      by_cases e : q = r
      · subst e; rw [kr] at hn; cases hn
      · rw [if_neg e] at hq
        by_cases e2 : q = p
        · rw [if_pos e2] at hq; cases hq
        · rw [if_neg e2] at hq
          rw [ko q e, if_pos (hasN_sub hkm (look_mem (by rw [hq]; intro h; cases h)) e2)] at hn
          exact hm.nil q s hq hn
    · have hq : look none ml' ens' q = some e := hq
      rw [hl] at hq
      by_cases e1 : q = r
      · subst e1
        rw [if_pos rfl] at hq
        obtain ⟨cs, ty, h1, h2⟩ := hm.ent p e hq hreal
        exact ⟨cs, ty, by rw [br]; exact h1, den_ok p e _ hq h2⟩
      · obtain ⟨g1, g2⟩ := kreal q e1 hk
        rw [if_neg e1, if_neg g2] at hq
        obtain ⟨cs, ty, h1, h2⟩ := hm.ent q e hq g1
        exact ⟨cs, ty, by rw [bo q e1]; exact h1, den_ok q e _ hq h2⟩
    · by_cases e1 : q = r
      · by_cases e2 : s = r
        · rw [e1, e2]
        · obtain ⟨g1, g2⟩ := kreal s e2 hs
          rw [e1, br, bo s e2] at e
          exact absurd (hm.inj p s hreal g1 e).symm g2
      · obtain ⟨g1, g2⟩ := kreal q e1 hq
        by_cases e2 : s = r
        · rw [e2, br, bo q e1] at e
          exact absurd (hm.inj q p g1 hreal e) g2
        · obtain ⟨g3, _⟩ := kreal s e2 hs
          rw [bo q e1, bo s e2] at e
          exact hm.inj q s g1 g3 e
    · by_cases e : q = r
      · rw [e, br]; exact hm.own p hreal
      · rw [bo q e]; exact hm.own q (kreal q e hq).1
  · have hb := hs.base
    refine ⟨hb.f0, hb.fn, hb.size, hb.keep, fun q hq hlt => ?_, hb.os, hb.tape, hb.output, fun q hq => by rw [hpin] at hq; cases hq⟩
    by_cases e : q = r
    · rw [e, br] at hlt ⊢
      exact hb.ownK p hreal hlt
    · rw [bo q e] at hlt ⊢
      exact hb.ownK q (kreal q e hq).1 hlt
  · have hf : Frs x K.ds [] aq := hs.frs
    cases hf
    exact .nil
end
end Go.Proofs.Ytdeohachoeopdaa
