/- Parts of a proof, one behind the other: Ms, Cp. No conditions. -/
import Derived.Test.YtkfcphigoncgjaaSuG
/- Many points, each as often as its number says, by rows of digits: the plain law. No conditions. -/
namespace Go.Proofs.Ytkfcphigoncgjaa

section
variable {F : Type} [Add F] [Sub F] [Mul F] [OfNat F 0] [DecidableEq F]
/-- One point is put into the row of its digit. -/
def bkS (z : F × F × F) (S : List (F × F × F)) (p : F × F × F) (d : Int) : List (F × F × F) :=
  if d > 0 then S.set d.toNat (jpl (S.getD d.toNat z) p) else if d < 0 then S.set (-d).toNat (jpl (S.getD (-d).toNat z) (jng p)) else S
/-- So many points are. -/
def bkN (z : F × F × F) (S : List (F × F × F)) (ps : List (F × F × F)) (ds : List Int) : Nat → List (F × F × F)
  | 0 => S
  | i + 1 => bkS z (bkN z S ps ds i) (ps.getD i z) (ds.getD i 0)
/-- Sums from above, and their sums. -/
def toR (z : F × F × F) (S : List (F × F × F)) : Nat → F × F × F
  | 0 => z
  | n + 1 => jpl (toR z S n) (S.getD (16 - n) z)
def toO (z : F × F × F) (S : List (F × F × F)) : Nat → F × F × F
  | 0 => z
  | n + 1 => jpl (toO z S n) (toR z S (n + 1))
def bkT (z : F × F × F) (ps : List (F × F × F)) (ds : List Int) : F × F × F := toO z (bkN z (List.replicate 17 z) ps ds ps.length) 16
/-- The digits of one place. -/
def rowAt (L : List (List Int)) (i : Nat) : List Int := L.map fun l => l.getD i 0
def alN (z : F × F × F) (ps : List (F × F × F)) (L : List (List Int)) (m : Nat) : Nat → F × F × F
  | 0 => z
  | t + 1 => jpl (jtws 5 (alN z ps L m t)) (bkT z ps (rowAt L (m - 1 - t)))
theorem bkS_len (z : F × F × F) (S : List (F × F × F)) (p : F × F × F) (d : Int) : (bkS z S p d).length = S.length := by
  unfold bkS
  split
  · exact List.length_set
  · split
    · exact List.length_set
    · rfl
theorem bkN_len (z : F × F × F) (S ps : List (F × F × F)) (ds : List Int) : ∀ i, (bkN z S ps ds i).length = S.length
  | 0 => rfl
  | i + 1 => (bkS_len ..).trans (bkN_len z S ps ds i)
end

/-! What stands for what: any relation that goes along with sums, doubles and negatives. -/
section
variable {F : Type} [Add F] [Sub F] [Mul F] [OfNat F 0] [DecidableEq F] {M : Type} [IMod M]
structure Rel (R : F × F × F → M → Prop) (z : F × F × F) : Prop where
  ze : R z 0
  pl : ∀ {a b x y}, R a x → R b y → R (jpl a b) (x + y)
  tw : ∀ {a x}, R a x → R (jtw a) (x + x)
  ng : ∀ {a x}, R a x → R (jng a) (-x)
variable {R : F × F × F → M → Prop} {z : F × F × F}

/-- Sums of multiples. -/
def wsum (T : Nat → M) : Nat → M
  | 0 => 0
  | n + 1 => wsum T n + ((n + 1 : Nat) : Int) • T (n + 1)
def updT (T : Nat → M) (d : Nat) (p : M) : Nat → M := fun i => if i = d then T i + p else T i
theorem wsum_upd (T : Nat → M) (d : Nat) (p : M) (hd : 1 ≤ d) : ∀ n, wsum (updT T d p) n = if d ≤ n then wsum T n + (d : Int) • p else wsum T n
  | 0 => by rw [if_neg (by omega)]; rfl
  | n + 1 => by
    show wsum (updT T d p) n + ((n + 1 : Nat) : Int) • updT T d p (n + 1) = _
    rw [wsum_upd T d p hd n]
    by_cases h : d ≤ n
    · rw [if_pos h, if_pos (by omega)]
      have e : updT T d p (n + 1) = T (n + 1) := if_neg (by omega)
      rw [e]
      show _ = wsum T n + ((n + 1 : Nat) : Int) • T (n + 1) + (d : Int) • p
      generalize ((n + 1 : Nat) : Int) • T (n + 1) = x
      generalize (d : Int) • p = y
      grind
    · rw [if_neg h]
      by_cases h2 : d = n + 1
      · subst h2
        rw [if_pos (Nat.le_refl _)]
        have e : updT T (n + 1) p (n + 1) = T (n + 1) + p := if_pos rfl
        rw [e, zsm_dist]
        show _ = wsum T n + ((n + 1 : Nat) : Int) • T (n + 1) + ((n + 1 : Nat) : Int) • p
        generalize ((n + 1 : Nat) : Int) • T (n + 1) = x
        generalize ((n + 1 : Nat) : Int) • p = y
        grind
      · rw [if_neg (by omega)]
        have e : updT T d p (n + 1) = T (n + 1) := if_neg (fun h => h2 h.symm)
        rw [e]
        rfl

def rM (T : Nat → M) : Nat → M
  | 0 => 0
  | n + 1 => rM T n + T (16 - n)
def oM (T : Nat → M) : Nat → M
  | 0 => 0
  | n + 1 => oM T n + rM T (n + 1)
/-- Sums from above n: each so often as it lies above n. -/
theorem oM_is (T : Nat → M) : oM T 16 = wsum T 16 := by
  simp only [oM, rM, wsum]
  grind

theorem toR_ok (hR : Rel R z) {S : List (F × F × F)} {T : Nat → M} (h : ∀ i, i ≤ 16 → R (S.getD i z) (T i)) : ∀ n, R (toR z S n) (rM T n)
  | 0 => hR.ze
  | n + 1 => hR.pl (toR_ok hR h n) (h _ (by omega))
theorem toO_ok (hR : Rel R z) {S : List (F × F × F)} {T : Nat → M} (h : ∀ i, i ≤ 16 → R (S.getD i z) (T i)) : ∀ n, R (toO z S n) (oM T n)
  | 0 => hR.ze
  | n + 1 => hR.pl (toO_ok hR h n) (toR_ok hR h (n + 1))

theorem set_getD {α : Type} (l : List α) (i j : Nat) (x z : α) (h : i < l.length) : (l.set i x).getD j z = if j = i then x else l.getD j z := by
  by_cases e : j = i
  · subst e
    simp [List.getD, h]
  · rw [if_neg e]
    simp [List.getD, List.getElem?_set_ne (Ne.symm e)]

/-- The rows after so many points, and what they stand for. -/
theorem bkN_ok (hR : Rel R z) {ps : List (F × F × F)} {Ps : List M} (hl : Ps.length = ps.length) (hp : ∀ i, i < ps.length → R (ps.getD i z) (Ps.getD i 0)) {ds : List Int} (hd : ∀ i, -16 ≤ ds.getD i 0 ∧ ds.getD i 0 ≤ 16) :
    ∀ n, n ≤ ps.length → ∃ T : Nat → M, (∀ i, i ≤ 16 → R ((bkN z (List.replicate 17 z) ps ds n).getD i z) (T i)) ∧ wsum T 16 = dot ((List.range n).map fun i => ds.getD i 0) ((List.range n).map fun i => Ps.getD i 0)
  | 0, _ => ⟨fun _ => 0, fun i hi => by
      have e : (List.replicate 17 z).getD i z = z := by
        rw [List.getD_eq_getElem?_getD, List.getElem?_replicate, if_pos (by omega)]
        rfl
      show R ((List.replicate 17 z).getD i z) 0
      rw [e]
      exact hR.ze, by
      have h : ∀ n, wsum (fun _ => (0 : M)) n = 0 := fun n => by
        induction n with
        | zero => rfl
        | succ n ih =>
          show wsum (fun _ => (0 : M)) n + ((n + 1 : Nat) : Int) • (0 : M) = 0
          rw [ih, zsm_ze, ad0]
      exact (h 16).trans (dot_nil _).symm⟩
  | n + 1, hn => by
    obtain ⟨T, h1, h2⟩ := bkN_ok hR hl hp hd n (by omega)
    have hdn := hd n
    have hlen : (bkN z (List.replicate 17 z) ps ds n).length = 17 := by rw [bkN_len, List.length_replicate]
    have hdot : dot ((List.range (n + 1)).map fun i => ds.getD i 0) ((List.range (n + 1)).map fun i => Ps.getD i 0) = dot ((List.range n).map fun i => ds.getD i 0) ((List.range n).map fun i => Ps.getD i 0) + ds.getD n 0 • Ps.getD n 0 := by
      rw [List.range_succ, List.map_append, List.map_append]
      exact dot_snoc _ _ _ _ (by simp)
    rw [hdot]
    show ∃ T : Nat → M, (∀ i, i ≤ 16 → R ((bkS z (bkN z (List.replicate 17 z) ps ds n) (ps.getD n z) (ds.getD n 0)).getD i z) (T i)) ∧ _
    have hpn := hp n (by omega)
    generalize bkN z (List.replicate 17 z) ps ds n = S at *
    generalize ds.getD n 0 = d at *
    generalize ps.getD n z = p at *
    generalize Ps.getD n 0 = P at *
    by_cases hpos : d > 0
    · obtain ⟨e, rfl⟩ := Int.eq_ofNat_of_zero_le (Int.le_of_lt hpos)
      refine ⟨updT T e P, fun i hi => ?_, ?_⟩
      · have eS : bkS z S p (e : Int) = S.set e (jpl (S.getD e z) p) := if_pos hpos
        rw [eS, set_getD _ _ _ _ _ (by omega)]
        by_cases hie : i = e
        · subst hie
          rw [if_pos rfl]
          have eT : updT T i P i = T i + P := if_pos rfl
          rw [eT]
          exact hR.pl (h1 _ hi) hpn
        · rw [if_neg hie]
          have eT : updT T e P i = T i := if_neg hie
          rw [eT]
          exact h1 _ hi
      · rw [wsum_upd _ _ _ (by omega), if_pos (by omega), h2]
    · by_cases hneg : d < 0
      · obtain ⟨e, he⟩ := Int.eq_ofNat_of_zero_le (a := -d) (by omega)
        obtain rfl : d = -(e : Int) := by omega
        refine ⟨updT T e (-P), fun i hi => ?_, ?_⟩
        · have eS : bkS z S p (-(e : Int)) = S.set e (jpl (S.getD e z) (jng p)) := by
            unfold bkS
            rw [if_neg hpos, if_pos hneg, Int.neg_neg, Int.toNat_natCast]
          rw [eS, set_getD _ _ _ _ _ (by omega)]
          by_cases hie : i = e
          · subst hie
            rw [if_pos rfl]
            have eT : updT T i (-P) i = T i + -P := if_pos rfl
            rw [eT]
            exact hR.pl (h1 _ hi) (hR.ng hpn)
          · rw [if_neg hie]
            have eT : updT T e (-P) i = T i := if_neg hie
            rw [eT]
            exact h1 _ hi
        · rw [wsum_upd _ _ _ (by omega), if_pos (by omega), h2, zsm_neg, zsm_ng]
      · obtain rfl : d = 0 := by omega
        refine ⟨T, fun i hi => ?_, ?_⟩
        · have eS : bkS z S p 0 = S := by unfold bkS; rw [if_neg (by decide), if_neg (by decide)]
          rw [eS]
          exact h1 _ hi
        · rw [h2, zsm_zero, ad0]

theorem getD_range {α : Type} (z : α) (l : List α) {n : Nat} (h : n = l.length) : ((List.range n).map fun i => l.getD i z) = l := by
  subst h
  apply List.ext_getElem
  · simp
  · intro i h1 h2
    simp [List.getD, h2]
theorem bkT_ok (hR : Rel R z) {ps : List (F × F × F)} {Ps : List M} (hl : Ps.length = ps.length) (hp : ∀ i, i < ps.length → R (ps.getD i z) (Ps.getD i 0)) {ds : List Int} (hdl : ds.length = ps.length) (hd : ∀ i, -16 ≤ ds.getD i 0 ∧ ds.getD i 0 ≤ 16) :
    R (bkT z ps ds) (dot ds Ps) := by
  obtain ⟨T, h1, h2⟩ := bkN_ok hR hl hp hd ps.length (Nat.le_refl _)
  have h3 := toO_ok hR h1 16
  rw [oM_is, h2, getD_range 0 ds hdl.symm, getD_range 0 Ps hl.symm] at h3
  exact h3

theorem jtws5 (hR : Rel R z) {a : F × F × F} {x : M} (h : R a x) : R (jtws 5 a) ((32 : Int) • x) := by
  have h1 := hR.tw (hR.tw (hR.tw (hR.tw (hR.tw h))))
  have e : x + x + (x + x) + (x + x + (x + x)) + (x + x + (x + x) + (x + x + (x + x))) + (x + x + (x + x) + (x + x + (x + x)) + (x + x + (x + x) + (x + x + (x + x)))) = (32 : Int) • x := by grind
  rw [← e]
  exact h1

theorem alN_ok (hR : Rel R z) {ps : List (F × F × F)} {Ps : List M} (hl : Ps.length = ps.length) (hp : ∀ i, i < ps.length → R (ps.getD i z) (Ps.getD i 0)) {L : List (List Int)} {m : Nat} (hL : L.length = ps.length) (hm : ∀ l, l ∈ L → l.length = m) (hd : ∀ l, l ∈ L → ∀ d, d ∈ l → -16 ≤ d ∧ d ≤ 16) :
    ∀ t, t ≤ m → R (alN z ps L m t) (dot (L.map fun l => vlW (l.drop (m - t))) Ps)
  | 0, _ => by
    have e : dot (L.map fun l => vlW (l.drop (m - 0))) Ps = 0 := by
      rw [show (L.map fun l => vlW (l.drop (m - 0))) = L.map fun _ => (0 : Int) from List.map_congr_left fun l hl => by rw [Nat.sub_zero, List.drop_eq_nil_of_le (Nat.le_of_eq (hm l hl))]; rfl]
      exact dot_zeros L Ps
    rw [e]
    exact hR.ze
  | t + 1, ht => by
    have ih := alN_ok hR hl hp hL hm hd t (by omega)
    have hrow : R (bkT z ps (rowAt L (m - 1 - t))) (dot (rowAt L (m - 1 - t)) Ps) := by
      refine bkT_ok hR hl hp (by unfold rowAt; rw [List.length_map]; exact hL) fun i => ?_
      unfold rowAt
      rw [List.getD_eq_getElem?_getD, List.getElem?_map]
      cases e : L[i]? with
      | none =>
        show (-16 : Int) ≤ 0 ∧ (0 : Int) ≤ 16
        exact ⟨by decide, by decide⟩
      | some l =>
        have hmem := List.mem_of_getElem? e
        show -16 ≤ l.getD (m - 1 - t) 0 ∧ l.getD (m - 1 - t) 0 ≤ 16
        have hlt : m - 1 - t < l.length := by rw [hm l hmem]; omega
        rw [List.getD_eq_getElem?_getD, List.getElem?_eq_getElem hlt]
        exact hd l hmem _ (List.getElem_mem hlt)
    have h := hR.pl (jtws5 hR ih) hrow
    have e : dot (L.map fun l => vlW (l.drop (m - (t + 1)))) Ps = (32 : Int) • dot (L.map fun l => vlW (l.drop (m - t))) Ps + dot (rowAt L (m - 1 - t)) Ps := by
      unfold rowAt
      refine dot_lin 32 _ _ _ L Ps fun l hmem => ?_
      have e1 : m - (t + 1) = m - 1 - t := by omega
      have e2 : m - t = m - 1 - t + 1 := by omega
      rw [e1, e2]
      exact vlW_drop l _ (by rw [hm l hmem]; omega)
    rw [e]
    exact h
end
end Go.Proofs.Ytkfcphigoncgjaa

/- The points of a curve, as a group; many of them, each as often as its number says. No conditions. -/
namespace Go.Proofs.Ytkfcphigoncgjaa

section
variable {F : Type} [Fld F] [DecidableEq F] {b : F}
/-- The points of the curve. -/
def CP (b : F) : Type := { P : Pt F // OnC b P }
@[reducible] def cpAG (hc : Cv b) : AG (CP b) where
  ad P Q := ⟨gadd P.1 Q.1, gadd_on hc _ _ P.2 Q.2⟩
  ng P := ⟨gneg P.1, gneg_on _ P.2⟩
  ze := ⟨none, True.intro⟩
  ad_ze P := Subtype.ext (gadd_none _)
  ad_cm P Q := Subtype.ext (gadd_comm hc _ _ P.2 Q.2)
  ad_as P Q S := Subtype.ext (gadd_assoc hc _ _ _ P.2 Q.2 S.2)
  ng_ad P := Subtype.ext (by
    show gadd (gneg P.1) P.1 = none
    rw [gadd_comm hc _ _ (gneg_on _ P.2) P.2, gadd_gneg hc _ P.2])
/-- A sum of multiples of points. -/
def gsum : List Nat → List (Pt F) → Pt F
  | k :: ks, P :: Ps => gadd (nmul P k) (gsum ks Ps)
  | _, _ => none
theorem gsum_on (hc : Cv b) : ∀ (ks : List Nat) (Ps : List (Pt F)), (∀ P, P ∈ Ps → OnC b P) → OnC b (gsum ks Ps)
  | [], _, _ => True.intro
  | _ :: _, [], _ => True.intro
  | k :: ks, P :: Ps, h => gadd_on hc _ _ (nmul_on hc (h P (List.mem_cons_self ..)) k) (gsum_on hc ks Ps fun Q hQ => h Q (List.mem_cons_of_mem _ hQ))

theorem ns_val (hc : Cv b) (P : CP b) : ∀ n : Nat, (letI := cpAG hc; AG.ns n P).1 = nmul P.1 n
  | 0 => rfl
  | n + 1 => by
    show gadd (letI := cpAG hc; AG.ns n P).1 P.1 = gadd (nmul P.1 n) P.1
    rw [ns_val hc P n]
theorem dot_val (hc : Cv b) : ∀ (ks : List Nat) (Ps : List (CP b)), (letI := cpAG hc; dot (ks.map fun k : Nat => (k : Int)) Ps).1 = gsum ks (Ps.map (·.1))
  | [], Ps => by
    letI := cpAG hc
    show (dot ([] : List Int) Ps).1 = none
    rw [dot_nil]
    rfl
  | _ :: _, [] => rfl
  | k :: ks, P :: Ps => by
    show gadd (letI := cpAG hc; AG.ns k P).1 (letI := cpAG hc; dot (ks.map fun k : Nat => (k : Int)) Ps).1 = gadd (nmul P.1 k) (gsum ks (Ps.map (·.1)))
    rw [ns_val, dot_val hc ks Ps]

theorem cp_rel (hc : Cv b) (z : F × F × F) (hz : z.2.2 = 0) : letI := cpAG hc; Rel (F := F) (M := CP b) (fun a P => Jc P.1 a) z := by
  letI := cpAG hc
  exact ⟨hz, fun {a b x y} h1 h2 => jpl_ok hc.two _ _ _ _ h1 h2, fun {a x} h => jtw_ok hc.two _ _ h, fun {a x} h => jng_ok _ _ h⟩

/-- All digits of all numbers. -/
def digs (n : Nat) (ks : List Nat) : List (List Int) := ks.map fun k => (dgW k n).1
theorem dig_one {k n : Nat} (hn : n = 52) (h : k < 2 ^ 256) : vlW ((dgW k n).1.drop (n - n)) = (k : Int) := by
  rw [Nat.sub_self, List.drop_zero]
  exact (dgW_all hn h).1
theorem digs_val {n : Nat} (hn : n = 52) {ks : List Nat} (hk : ∀ k, k ∈ ks → k < 2 ^ 256) : (digs n ks).map (fun l => vlW (l.drop (n - n))) = ks.map fun k : Nat => (k : Int) := by
  unfold digs
  rw [List.map_map]
  exact List.map_congr_left fun k hm => dig_one hn (hk k hm)

/-- Many points, by rows of digits, are their sum. -/
theorem many_sum {n : Nat} (hn : n = 52) (hc : Cv b) (z : F × F × F) (hz : z.2.2 = 0) {ps : List (F × F × F)} {Ps : List (Pt F)} (hl : Ps.length = ps.length) (hon : ∀ P, P ∈ Ps → OnC b P) (hp : ∀ i, i < ps.length → Jc (Ps.getD i none) (ps.getD i z)) {ks : List Nat} (hkl : ks.length = ps.length) (hk : ∀ k, k ∈ ks → k < 2 ^ 256) :
    Jc (gsum ks Ps) (alN z ps (digs n ks) n n) := by
  letI := cpAG hc
  let Qs : List (CP b) := Ps.attach.map fun P => ⟨P.1, hon P.1 P.2⟩
  have hQ : Qs.map (·.1) = Ps := by
    show (Ps.attach.map fun P => (⟨P.1, hon P.1 P.2⟩ : CP b)).map (·.1) = Ps
    rw [List.map_map]
    exact List.attach_map_subtype_val Ps
  have hQl : Qs.length = ps.length := by rw [← hl, ← hQ, List.length_map]
  have hget : ∀ i, (Qs.getD i 0).1 = Ps.getD i none := fun i => by
    rw [← hQ, List.getD_eq_getElem?_getD, List.getD_eq_getElem?_getD, List.getElem?_map]
    cases Qs[i]? <;> rfl
  have h := alN_ok (cp_rel hc z hz) (L := digs n ks) (m := n) hQl (fun i hi => by
      show Jc (Qs.getD i 0).1 (ps.getD i z)
      rw [hget]
      exact hp i hi) (by unfold digs; rw [List.length_map]; exact hkl) (fun l hm => by
      obtain ⟨k, _, rfl⟩ := List.mem_map.1 hm
      exact dgW_len k n) (fun l hm d hd => by
      obtain ⟨k, _, rfl⟩ := List.mem_map.1 hm
      exact dgW_range k n d hd) n (Nat.le_refl _)
  rw [digs_val hn hk] at h
  have h : Jc (dot (ks.map fun k : Nat => (k : Int)) Qs).1 (alN z ps (digs n ks) n n) := h
  rw [dot_val hc ks Qs, hQ] at h
  exact h
end
end Go.Proofs.Ytkfcphigoncgjaa
