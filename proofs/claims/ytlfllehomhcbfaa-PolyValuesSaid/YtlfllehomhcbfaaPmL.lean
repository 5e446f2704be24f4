/- Parts of a proof, one behind the other: Pm, PPc, WPd, PDiv, WPe, PPe, WPf, WPg, PPg, Rv, WSw, PSw, WTf, Nt, PTf, WVals. No conditions. -/
import Derived.Test.YtlfllehomhcbfaaPmK
/- Polynomials as rows of coefficients: trimming, sums, products, quotients. No conditions. -/
namespace Go.Proofs.Ytlfllehomhcbfaa

def cf (l : List Fr) (i : Nat) : Fr := l.getD i 0

theorem cf_out {l : List Fr} {i : Nat} (h : l.length ≤ i) : cf l i = 0 := by simp [cf, List.getD, h]

theorem trimN_zero (l : List Fr) : ∀ n i, trimN l n ≤ i → i < n → cf l i = 0
  | 0, i, _, h => by omega
  | n + 1, i, h1, h2 => by
    have e : trimN l (n + 1) = if l.getD n 0 = 0 then trimN l n else n + 1 := rfl
    rw [e] at h1
    split at h1
    · rename_i hz
      by_cases hi : i = n
      · subst hi; exact hz
      · exact trimN_zero l n i h1 (by omega)
    · omega

theorem trimN_last (l : List Fr) : ∀ n, trimN l n = 0 ∨ cf l (trimN l n - 1) ≠ 0
  | 0 => .inl rfl
  | n + 1 => by
    have e : trimN l (n + 1) = if l.getD n 0 = 0 then trimN l n else n + 1 := rfl
    rw [e]
    split
    · exact trimN_last l n
    · rename_i h; exact .inr h

theorem trim_zero (l : List Fr) (i : Nat) (h : trimN l l.length ≤ i) : cf l i = 0 := by
  by_cases hi : i < l.length
  · exact trimN_zero l _ i h hi
  · exact cf_out (by omega)

theorem cf_take (l : List Fr) (k i : Nat) : cf (l.take k) i = if i < k then cf l i else 0 := by
  unfold cf
  by_cases h : i < k
  · simp [List.getD, h]
  · simp [List.getD, List.getElem?_take, h]

theorem cf_drop (l : List Fr) (k i : Nat) : cf (l.drop k) i = cf l (i + k) := by
  unfold cf
  simp [List.getD, Nat.add_comm]

theorem trim_cf (l : List Fr) (i : Nat) : cf (trimF l) i = cf l i := by
  unfold trimF
  rw [cf_take]
  split
  · rfl
  · rw [trim_zero l i (by omega)]

theorem trim_map (l : List Fr) : trimF l = (List.range (trimN l l.length)).map (cf l) := by
  have := range_take (fun x : Fr => x) l 0 (trimN_le l l.length)
  unfold trimF
  rw [List.map_id'] at this
  exact this.symm

theorem trim_ext {l l' : List Fr} (h : ∀ i, cf l i = cf l' i) : trimF l = trimF l' := by
  have e : trimN l l.length = trimN l' l'.length := by
    rcases Nat.lt_trichotomy (trimN l l.length) (trimN l' l'.length) with hlt | heq | hlt
    · exfalso
      rcases trimN_last l' l'.length with h0 | hne
      · omega
      · exact hne (by rw [← h, trim_zero l _ (by omega)])
    · exact heq
    · exfalso
      rcases trimN_last l l.length with h0 | hne
      · omega
      · exact hne (by rw [h, trim_zero l' _ (by omega)])
  rw [trim_map, trim_map, e]
  exact List.map_congr_left fun i _ => h i

theorem trim_trim (l : List Fr) : trimF (trimF l) = trimF l := trim_ext (trim_cf l)

theorem cf_range (f : Nat → Fr) (n i : Nat) (h : ∀ j, n ≤ j → f j = 0) : cf ((List.range n).map f) i = f i := by
  unfold cf
  by_cases hi : i < n
  · simp [List.getD, hi]
  · have : ((List.range n).map f).length ≤ i := by simp; omega
    simp [List.getD, hi, h i (by omega)]

/-! Sums. -/
def sumF (f : Nat → Fr) : Nat → Fr
  | 0 => 0
  | n + 1 => sumF f n + f n

theorem sumF_congr {f g : Nat → Fr} : ∀ {n : Nat}, (∀ i, i < n → f i = g i) → sumF f n = sumF g n
  | 0, _ => rfl
  | n + 1, h => by
    show sumF f n + f n = sumF g n + g n
    rw [sumF_congr fun i hi => h i (by omega), h n (by omega)]

theorem sumF_zero {f : Nat → Fr} : ∀ {n : Nat}, (∀ i, i < n → f i = 0) → sumF f n = 0
  | 0, _ => rfl
  | n + 1, h => by
    show sumF f n + f n = 0
    rw [sumF_zero fun i hi => h i (by omega), h n (by omega)]
    exact fr_add_zero 0

theorem sumF_one {f : Nat → Fr} (j : Nat) : ∀ {n : Nat}, j < n → (∀ i, i < n → i ≠ j → f i = 0) → sumF f n = f j
  | 0, h, _ => by omega
  | n + 1, hj, h => by
    show sumF f n + f n = f j
    by_cases e : n = j
    · subst e
      rw [sumF_zero fun i hi => h i (by omega) (by omega), fr_zero_add]
    · rw [sumF_one j (by omega) fun i hi hne => h i (by omega) hne, h n (by omega) e, fr_add_zero]

/-- Coefficient i of a product. -/
def mulC (a b : List Fr) (i : Nat) : Fr := sumF (fun k => cf a k * cf b (i - k)) (i + 1)
def mulL (a b : List Fr) : List Fr := (List.range (a.length + b.length)).map (mulC a b)
def addL (a b : List Fr) : List Fr := (List.range (Nat.max a.length b.length)).map fun i => cf a i + cf b i

theorem mulL_cf (a b : List Fr) (i : Nat) : cf (mulL a b) i = mulC a b i := by
  refine cf_range _ _ _ fun j hj => sumF_zero fun k hk => ?_
  by_cases h : a.length ≤ k
  · rw [cf_out h, fr_zero_mul]
  · rw [cf_out (l := b) (by omega), fr_mul_zero]

theorem addL_cf (a b : List Fr) (i : Nat) : cf (addL a b) i = cf a i + cf b i := by
  refine cf_range (fun i => cf a i + cf b i) _ _ fun j hj => ?_
  have h1 := Nat.le_max_left a.length b.length
  have h2 := Nat.le_max_right a.length b.length
  have hj : max a.length b.length ≤ j := hj
  rw [cf_out (l := a) (by omega), cf_out (l := b) (by omega), fr_add_zero]

theorem mulC_congr {a a' b b' : List Fr} (ha : ∀ i, cf a i = cf a' i) (hb : ∀ i, cf b i = cf b' i) (i : Nat) : mulC a b i = mulC a' b' i :=
  sumF_congr fun k _ => by rw [ha, hb]

/-- A product with X^n + c. -/
theorem mulC_two (a b : List Fr) (c : Fr) (n : Nat) (hn : 0 < n) (h0 : cf b 0 = c) (h1 : cf b n = 1) (h : ∀ j, j ≠ 0 → j ≠ n → cf b j = 0) (i : Nat) : mulC a b i = cf a i * c + (if n ≤ i then cf a (i - n) else 0) := by
  show sumF (fun k => cf a k * cf b (i - k)) i + cf a i * cf b (i - i) = _
  rw [Nat.sub_self, h0]
  have e : sumF (fun k => cf a k * cf b (i - k)) i = if n ≤ i then cf a (i - n) else 0 := by
    split
    · rename_i hle
      rw [sumF_one (i - n) (by omega) fun k hk hne => by rw [h (i - k) (by omega) (by omega), fr_mul_zero]]
      rw [show i - (i - n) = n from by omega, h1, fr_mul_one]
    · exact sumF_zero fun k hk => by rw [h (i - k) (by omega) (by omega), fr_mul_zero]
  rw [e]
  exact fr_add_comm _ _

/-! The quotient by X - z. -/
def divL (z : Fr) : List Fr → List Fr × Fr
  | [] => ([], 0)
  | c :: l => ((divL z l).2 :: (divL z l).1, (divL z l).2 * z + c)

theorem divL_len (z : Fr) : ∀ l, (divL z l).1.length = l.length
  | [] => rfl
  | c :: l => by show (divL z l).1.length + 1 = l.length + 1; rw [divL_len z l]

theorem div_alg0 {r : Nat} [NeZero r] (q z c : Fin r) : q * (0 - z) + 0 + (q * z + c) = c := by grind
theorem div_alg1 {r : Nat} [NeZero r] (a b z c : Fin r) (h : a * (0 - z) + 0 + b = c) : a * (0 - z) + b + 0 = c := by grind

theorem divL_cf (z : Fr) : ∀ (l : List Fr) (i : Nat), cf (divL z l).1 i * (0 - z) + (if 1 ≤ i then cf (divL z l).1 (i - 1) else 0) + (if i = 0 then (divL z l).2 else 0) = cf l i
  | [], i => by
    have e : ∀ j, cf (divL z []).1 j = 0 := fun j => rfl
    have e2 : (divL z []).2 = 0 := rfl
    have e3 : cf [] i = 0 := rfl
    rw [e, e, e2, e3, fr_zero_mul]
    split <;> split <;> rfl
  | c :: l, 0 => by
    have e : cf (divL z (c :: l)).1 0 = (divL z l).2 := rfl
    rw [e, if_neg (by decide), if_pos rfl]
    exact div_alg0 _ _ _
  | c :: l, i + 1 => by
    have ih := divL_cf z l i
    have e : cf (divL z (c :: l)).1 (i + 1) = cf (divL z l).1 i := rfl
    have e2 : cf (c :: l) (i + 1) = cf l i := rfl
    rw [e, e2, if_pos (by omega), if_neg (by omega), Nat.add_sub_cancel]
    cases i with
    | zero =>
      rw [if_neg (by decide), if_pos rfl] at ih
      exact div_alg1 _ _ _ _ ih
    | succ j =>
      rw [if_pos (by omega), if_neg (by omega), Nat.add_sub_cancel] at ih
      exact ih

/-! The quotient by X^n - 1. -/
theorem fold_alg0 {r : Nat} [NeZero r] (x y l : Fin r) (h : x = l + y) : y * (0 - 1) + 0 + x = l := by grind
theorem fold_alg1 {r : Nat} [NeZero r] (x y l : Fin r) (h : x = l + y) : y * (0 - 1) + x + 0 = l := by grind

/-- What the rows of quotient and rest come from. -/
theorem fold_cf {n : Nat} (L l : List Fr) (hl : l.length = L.length) (h : ∀ j, cf l j = cf L j + cf l (j + n)) (i : Nat) :
    cf (l.drop (min n l.length)) i * (0 - 1) + (if n ≤ i then cf (l.drop (min n l.length)) (i - n) else 0) + cf (l.take (min n l.length)) i = cf L i := by
  have hU : ∀ j, cf (l.drop (min n l.length)) j = cf l (j + n) := by
    intro j
    rw [cf_drop]
    by_cases hc : n ≤ l.length
    · rw [Nat.min_eq_left hc]
    · rw [Nat.min_eq_right (by omega), cf_out (by omega), cf_out (by omega)]
  have hV : cf (l.take (min n l.length)) i = if i < n then cf l i else 0 := by
    rw [cf_take]
    by_cases hc : n ≤ l.length
    · rw [Nat.min_eq_left hc]
    · rw [Nat.min_eq_right (by omega)]
      by_cases hi : i < l.length
      · rw [if_pos hi, if_pos (by omega)]
      · rw [if_neg hi, cf_out (by omega)]
        split <;> rfl
  rw [hU, hV]
  by_cases hi : i < n
  · rw [if_neg (by omega), if_pos hi]
    exact fold_alg0 _ _ _ (h i)
  · rw [if_pos (by omega), if_neg hi, hU, show i - n + n = i from by omega]
    exact fold_alg1 _ _ _ (h i)

theorem cf_set (l : List Fr) (k : Nat) (x : Fr) (hk : k < l.length) (j : Nat) : cf (l.set k x) j = if j = k then x else cf l j := by
  unfold cf
  by_cases h : j = k
  · subst h; simp [List.getD, hk]
  · simp [List.getD, h, Ne.symm h]

/-- One step of the folding. -/
theorem fold_step {n : Nat} (hn : 0 < n) (L l : List Fr) {i : Nat} (hi : i < l.length) (hni : n ≤ i) (h : ∀ j, cf l j = cf L j + (if i < j + n then cf l (j + n) else 0)) (j : Nat) :
    cf (l.set (i - n) (cf l (i - n) + cf l i)) j = cf L j + (if i ≤ j + n then cf (l.set (i - n) (cf l (i - n) + cf l i)) (j + n) else 0) := by
  rw [cf_set _ _ _ (by omega), cf_set _ _ _ (by omega)]
  by_cases hj : j = i - n
  · subst hj
    rw [if_pos rfl, if_pos (by omega), if_neg (by omega), show i - n + n = i from by omega]
    have := h (i - n)
    rw [if_neg (by omega), fr_add_zero] at this
    rw [this]
  · rw [if_neg hj, h j]
    by_cases hc : i < j + n
    · rw [if_pos hc, if_pos (by omega), if_neg (by omega)]
    · rw [if_neg hc, if_neg (by omega)]

theorem fold_init {n : Nat} (L : List Fr) (j : Nat) : cf L j = cf L j + (if L.length ≤ j + n then cf L (j + n) else 0) := by
  split
  · rw [cf_out (i := j + n) (by omega), fr_add_zero]
  · rw [fr_add_zero]

end Go.Proofs.Ytlfllehomhcbfaa

/- The reference's sums, products, X^n - 1; the quotients: contracts. No conditions. -/
namespace Go.Proofs.Ytlfllehomhcbfaa

theorem map_in_out (l : List Fr) : (l.map outF).map inF = l := by
  rw [List.map_map]
  have e : (inF ∘ outF) = fun x : Fr => x := funext in_out
  rw [e, List.map_id']

theorem map_range_out (f : Nat → Fr) (n : Nat) : ((List.range n).map fun j => outF (f j)) = ((List.range n).map f).map outF := by
  rw [List.map_map]; rfl

theorem range_snoc {α : Type} (f : Nat → α) (i : Nat) : (List.range i).map f ++ [f i] = (List.range (i + 1)).map f := by simp [List.range_succ]

theorem refAdd_fnd (a b : List U4) (ha : a.length ≤ 1073741824) (hb : b.length ≤ 1073741824) : FnD Try.prog 33 [.v (.c (.sl (.fr a))), .v (.c (.sl (.fr b)))]
    (.v (.c (.slc 0 0 (trimF (addL (a.map inF) (b.map inF))).length 4))) [.sq (.fr ((trimF (addL (a.map inF) (b.map inF))).map outF))] := by
  refine fn_start (fn := Try.f33) (c := bodyOf Try.f33) Try.func33 rfl rfl fun x a0 hk hF hs => ?_
  refine adIn a b trivial hs fun ac cY aY hs1 => ?_
  have hm1 := Nat.le_max_left a.length b.length
  have hm2 := Nat.le_max_right a.length b.length
  have hm3 : max a.length b.length ≤ 1073741824 := Nat.max_le.2 ⟨ha, hb⟩
  have hm4 : max a.length b.length = a.length ∨ max a.length b.length = b.length := by omega
  generalize hM : max a.length b.length = M at hm1 hm2 hm3 hm4
  have hR : addL (a.map inF) (b.map inF) = (List.range M).map fun i => cf (a.map inF) i + cf (b.map inF) i := by
    unfold addL
    rw [List.length_map, List.length_map]
    show List.map _ (List.range (max a.length b.length)) = _
    rw [hM]
  refine loop_rule (ι := { i : Nat // i ≤ M }) (fun i => adS a b i.1 ((List.range i.1).map fun j => outF (cf (a.map inF) j + cf (b.map inF) j)) i.1) (fun i => M - i.1) (c := lpC adIn_k) (k := lpR adIn_k) (by kernel_rfl) (fun i ih ac cY aY hs => ?_) ⟨0, Nat.zero_le _⟩ hs1
  obtain ⟨i, hi⟩ := i
  simp only at ih hs
  have hl : ((List.range i).map fun j => outF (cf (a.map inF) j + cf (b.map inF) j)).length = i := by simp
  have hnx : cleanU (outF ((a.map inF).getD i 0) + outF ((b.map inF).getD i 0)) = outF (cf (a.map inF) i + cf (b.map inF) i) := addU_out _ _
  by_cases h1 : i < a.length
  · refine adM a b i _ i ⟨by simp [h1], by omega, by omega, by rw [hl]; omega, by rw [hl]; unfold maxLen; omega, hl.symm, rfl, trivial⟩ hs fun ac cY aY hs2 => ?_
    rw [hl, Int.toNat_natCast, hnx, range_snoc (fun j => outF (cf (a.map inF) j + cf (b.map inF) j)), wrap_id (by omega) (by omega)] at hs2
    exact ih ⟨i + 1, by omega⟩ (by show M - (i + 1) < M - i; omega) ac cY aY (hs2.nx _)
  by_cases h2 : i < b.length
  · refine adN a b i _ i ⟨by simp [h1], by simp [h2], by omega, by omega, by rw [hl]; omega, by rw [hl]; unfold maxLen; omega, hl.symm, rfl, trivial⟩ hs fun ac cY aY hs2 => ?_
    rw [hl, Int.toNat_natCast, hnx, range_snoc (fun j => outF (cf (a.map inF) j + cf (b.map inF) j)), wrap_id (by omega) (by omega)] at hs2
    exact ih ⟨i + 1, by omega⟩ (by show M - (i + 1) < M - i; omega) ac cY aY (hs2.nx _)
  · have e : i = M := by omega
    rw [hR, ← e]
    have r := adX_end a b i ((List.range i).map fun j => outF (cf (a.map inF) j + cf (b.map inF) j)) i
    have e2 : ((List.range i).map fun j => outF (cf (a.map inF) j + cf (b.map inF) j)).map inF = (List.range i).map fun j => cf (a.map inF) j + cf (b.map inF) j := by rw [map_range_out, map_in_out]
    rw [e2] at r
    exact run_end2 envQ3_ok hk hF r ⟨by simp [h1], by simp [h2], rfl, hl.symm, rfl, by rw [hl]; omega, trivial⟩ (fun y v hd => hd) hs

theorem refMul_fnd (a b : List U4) (ha : a.length ≤ 1073741824) (hb : b.length ≤ 1073741824) : FnD Try.prog 34 [.v (.c (.sl (.fr a))), .v (.c (.sl (.fr b)))]
    (.v (.c (.slc 0 0 (trimF (mulL (a.map inF) (b.map inF))).length 4))) [.sq (.fr ((trimF (mulL (a.map inF) (b.map inF))).map outF))] := by
  refine fn_start (fn := Try.f34) (c := bodyOf Try.f34) Try.func34 rfl rfl fun x a0 hk hF hs => ?_
  refine mlIn a b trivial hs fun ac cY aY hs1 => ?_
  have hR : mulL (a.map inF) (b.map inF) = (List.range (a.length + b.length)).map (mulC (a.map inF) (b.map inF)) := by
    unfold mulL
    rw [List.length_map, List.length_map]
  have hw : IntKind.wrap IntKind.i64 ((a.length : Int) + (b.length : Int)) = ((a.length + b.length : Nat) : Int) := by rw [wrap_id (by omega) (by omega)]; omega
  refine loop_rule (ι := { i : Nat // i ≤ a.length + b.length }) (fun i => mlS a b i.1 ((List.range i.1).map fun j => outF (mulC (a.map inF) (b.map inF) j)) i.1) (fun i => a.length + b.length - i.1) (c := lpC mlIn_k) (k := lpR mlIn_k) (by kernel_rfl) (fun i ih ac cY aY hs => ?_) ⟨0, Nat.zero_le _⟩ hs1
  obtain ⟨i, hi⟩ := i
  simp only at ih hs
  have hl : ((List.range i).map fun j => outF (mulC (a.map inF) (b.map inF) j)).length = i := by simp
  by_cases h1 : i < a.length + b.length
  · refine mlI a b i _ i ⟨by rw [hw]; simp only [decide_eq_true_eq]; omega, trivial⟩ hs fun ac cY aY hs2 => ?_
    have e0 : (0 : U4) = outF (sumF (fun k => cf (a.map inF) k * cf (b.map inF) (i - k)) 0) := ((outF_zero _).2 rfl).symm
    rw [e0] at hs2
    refine loop_rule (ι := { k : Nat // k ≤ i + 1 }) (fun k => mlT a b i ((List.range i).map fun j => outF (mulC (a.map inF) (b.map inF) j)) i (sumF (fun k => cf (a.map inF) k * cf (b.map inF) (i - k)) k.1) k.1) (fun k => i + 1 - k.1) (c := lpC mlI_k) (k := lpR mlI_k) (by kernel_rfl) (fun k ih2 ac cY aY hs => ?_) ⟨0, Nat.zero_le _⟩ hs2
    obtain ⟨k, hk2⟩ := k
    simp only at ih2 hs
    have hs_ : sumF (fun k => cf (a.map inF) k * cf (b.map inF) (i - k)) (k + 1) = sumF (fun k => cf (a.map inF) k * cf (b.map inF) (i - k)) k + cf (a.map inF) k * cf (b.map inF) (i - k) := rfl
    by_cases hki : k ≤ i
    · have hwk : IntKind.wrap IntKind.i64 ((i : Int) - (k : Int)) = ((i - k : Nat) : Int) := by rw [wrap_id (by omega) (by omega)]; omega
      have hw1 : IntKind.wrap IntKind.i64 ((k : Int) + 1) = ((k + 1 : Nat) : Int) := by rw [wrap_id (by omega) (by omega)]; omega
      by_cases hka : k < a.length
      · by_cases hkb : i - k < b.length
        · refine mlA a b i _ i _ k (by rw [hwk]; exact ⟨by simp [hki], by simp [hka], by simp only [decide_eq_true_eq]; omega, by omega, by omega, outF_lt _, trivial⟩) hs fun ac cY aY hs3 => ?_
          rw [hwk, hw1, Int.toNat_natCast, Int.toNat_natCast, mulU_out, addU_out] at hs3
          refine ih2 ⟨k + 1, by omega⟩ (by show i + 1 - (k + 1) < i + 1 - k; omega) ac cY aY ?_
          simp only [hs_]
          exact hs3.nx _
        · refine mlB a b i _ i _ k (by rw [hwk]; exact ⟨by simp [hki], by simp [hka], by simp only [decide_eq_false_iff_not]; omega, trivial⟩) hs fun ac cY aY hs3 => ?_
          rw [hw1] at hs3
          refine ih2 ⟨k + 1, by omega⟩ (by show i + 1 - (k + 1) < i + 1 - k; omega) ac cY aY ?_
          simp only [hs_]
          rw [cf_out (l := b.map inF) (by rw [List.length_map]; omega), fr_mul_zero, fr_add_zero]
          exact hs3.nx _
      · refine mlC a b i _ i _ k ⟨by simp [hki], by simp only [decide_eq_false_iff_not]; omega, trivial⟩ hs fun ac cY aY hs3 => ?_
        rw [hw1] at hs3
        refine ih2 ⟨k + 1, by omega⟩ (by show i + 1 - (k + 1) < i + 1 - k; omega) ac cY aY ?_
        simp only [hs_]
        rw [cf_out (l := a.map inF) (by rw [List.length_map]; omega), fr_zero_mul, fr_add_zero]
        exact hs3.nx _
    · have e : k = i + 1 := by omega
      refine mlE a b i _ i _ k ⟨by simp only [decide_eq_false_iff_not]; omega, by rw [hl]; omega, by rw [hl]; unfold maxLen; omega, hl.symm, rfl, trivial⟩ hs fun ac cY aY hs3 => ?_
      have e4 : outF (sumF (fun k => cf (a.map inF) k * cf (b.map inF) (i - k)) k) = outF (mulC (a.map inF) (b.map inF) i) := by rw [e]; rfl
      rw [hl, e4, range_snoc (fun j => outF (mulC (a.map inF) (b.map inF) j)), wrap_id (by omega) (by omega)] at hs3
      exact ih ⟨i + 1, by omega⟩ (by show a.length + b.length - (i + 1) < a.length + b.length - i; omega) ac cY aY (hs3.nx _)
  · have e : i = a.length + b.length := by omega
    rw [hR, ← e]
    have r := mlX_end a b i ((List.range i).map fun j => outF (mulC (a.map inF) (b.map inF) j)) i
    have e2 : ((List.range i).map fun j => outF (mulC (a.map inF) (b.map inF) j)).map inF = (List.range i).map (mulC (a.map inF) (b.map inF)) := by rw [map_range_out, map_in_out]
    rw [e2] at r
    exact run_end2 envQ3_ok hk hF r ⟨by rw [hw]; simp only [decide_eq_false_iff_not]; omega, rfl, hl.symm, rfl, by rw [hl]; omega, trivial⟩ (fun y v hd => hd) hs

/-- X^n - 1. -/
def zeroL (n : Nat) : List Fr := ((List.replicate (n + 1) 0).set 0 (0 - 1)).set n 1

theorem set0_getD (w : U4) (n : Nat) (h : 1 ≤ n) : ((List.replicate (n + 1) (0 : U4)).set 0 w).getD n 0 = 0 := by
  simp [List.getD, show ¬ 0 = n from by omega]

theorem zero_fnd (n : Nat) (h1 : 1 ≤ n) (h2 : n ≤ 1073741824) : FnD Try.prog 40 [.v (.c (.int .i64 (n : Int)))] (.v (.c (.slc 0 0 (n + 1) 4))) [.sq (.fr ((zeroL n).map outF))] := by
  have r := zeR n
  have hw : IntKind.wrap IntKind.i64 ((n : Int) + 1) = ((n + 1 : Nat) : Int) := by rw [wrap_id (by omega) (by omega)]; omega
  have hz : outF (0 : Fr) = 0 := (outF_zero _).2 rfl
  have e : ((List.replicate (n + 1) (0 : U4)).set 0 (outF (0 - 1))).set n (cleanU (((List.replicate (n + 1) (0 : U4)).set 0 (outF (0 - 1))).getD n 0 + Fin.ofNat B4 1)) = (zeroL n).map outF := by
    have hg := set0_getD (outF (0 - 1)) n h1
    have e1 : cleanU (outF 0 + Fin.ofNat B4 1) = outF 1 := by rw [← out_one1, addU_out, fr_zero_add]
    rw [hz] at e1
    rw [hg, e1]
    unfold zeroL
    rw [List.map_set, List.map_set, List.map_replicate, hz]
  rw [hw, Int.toNat_natCast, Int.toNat_natCast, e] at r
  clear e hz hw
  refine fn_sound envQ3_ok Try.func40 r ?_
  clear r
  have hlen : n < (((List.replicate (n + 1) (0 : U4)).set 0 (outF (0 - 1)))).length := by rw [List.length_set, List.length_replicate]; omega
  have hlen0 : 0 < (List.replicate (n + 1) (0 : U4)).length := by rw [List.length_replicate]; omega
  refine ⟨by omega, rfl, by omega, by omega, rfl, by omega, by omega, rfl, hlen0, by omega, by omega, rfl, hlen, by omega, by omega, by omega, by omega, by omega, by omega, by omega, by omega, by omega, by omega, rfl, hlen, trivial⟩

theorem divL_idx (z : Fr) (L : List Fr) (m : Nat) (h : m < L.length) : divL z (L.drop m) = ((divL z (L.drop (m + 1))).2 :: (divL z (L.drop (m + 1))).1, (divL z (L.drop (m + 1))).2 * z + L.getD m 0) := by
  rw [List.drop_eq_getElem_cons h]
  have e : L.getD m 0 = L[m] := by simp [List.getD, h]
  rw [e]
  rfl

theorem byLinear_fnd (a : List U4) (z : U4) (ha : a.length ≤ 262144) : FnD Try.prog 30 [.v (.c (.sl (.fr a))), .v (.a [.ob (.fr z)])]
    (.t [.c (.slc 0 0 (trimF (divL (inF z) (a.map inF)).1).length 4), .a [.ob (.fr (outF (divL (inF z) (a.map inF)).2))], .c (.int .i64 0)]) [.sq (.fr ((trimF (divL (inF z) (a.map inF)).1).map outF))] := by
  refine fn_start (fn := Try.f30) (c := bodyOf Try.f30) Try.func30 rfl rfl fun x a0 hk hF hs => ?_
  have hlong : longB [a] = false := by simp [longB]; omega
  refine blIn a z ⟨rfl, rfl, rfl, hlong, by omega, trivial⟩ hs fun ac cY aY hs1 => ?_
  rw [wrap_id (by omega) (by omega)] at hs1
  have hlen : (a.map inF).length = a.length := List.length_map ..
  generalize a.map inF = L at hs1 hlen ⊢
  rw [← hlen] at hs1
  have hla : L.length ≤ 262144 := by omega
  clear hlen hlong ha
  refine loop_rule (ι := { m : Nat // m ≤ L.length }) (fun m => blS (L.take m.1 ++ (divL (inF z) (L.drop m.1)).1) (inF z) (divL (inF z) (L.drop m.1)).2 L.length ((m.1 : Int) - 1)) (fun m => m.1) (c := lpC blIn_k) (k := lpR blIn_k) (by kernel_rfl) (fun m ih ac cY aY hs => ?_)
    ⟨L.length, Nat.le_refl _⟩ (by simp only [List.take_length, List.drop_length]; show Sim _ _ _ _ (blS (L ++ []) (inF z) 0 L.length ((L.length : Int) - 1)) cY aY; rw [List.append_nil]; exact hs1.nx _)
  obtain ⟨m, hm⟩ := m
  simp only at ih hs
  have hll : (L.take m ++ (divL (inF z) (L.drop m)).1).length = L.length := by rw [List.length_append, divL_len, List.length_take, List.length_drop]; omega
  cases m with
  | zero =>
    rw [List.take_zero, List.nil_append, List.drop_zero] at hs hll
    refine run_end2 envQ3_ok hk hF (blX_end _ _ _ _ _) ⟨by simp only [decide_eq_false_iff_not]; omega, rfl, hll.symm, rfl, by omega, trivial⟩ (fun y v hd => hd) hs
  | succ m =>
    have hmi : ((m + 1 : Nat) : Int) - 1 = (m : Int) := by omega
    rw [hmi] at hs
    refine blN _ _ _ _ _ ⟨by simp only [decide_eq_true_eq]; omega, by omega, by omega, rfl, by omega, by omega, by omega, rfl, by omega, trivial⟩ hs fun ac cY aY hs2 => ?_
    rw [wrap_id (by omega) (by omega), Int.toNat_natCast] at hs2
    have hg : (L.take (m + 1) ++ (divL (inF z) (L.drop (m + 1))).1).getD m 0 = L.getD m 0 := by
      have h1 : m < (L.take (m + 1)).length := by rw [List.length_take]; omega
      unfold List.getD
      rw [List.getElem?_append_left h1, List.getElem?_take_of_lt (Nat.lt_succ_self m)]
    have hset : (L.take (m + 1) ++ (divL (inF z) (L.drop (m + 1))).1).set m (divL (inF z) (L.drop (m + 1))).2 = L.take m ++ (divL (inF z) (L.drop m)).1 := by
      rw [divL_idx _ _ _ (show m < L.length from by omega), List.take_succ_eq_append_getElem (show m < L.length from by omega), List.append_assoc, List.set_append_right _ _ (by rw [List.length_take]; omega)]
      rw [List.length_take, Nat.min_eq_left (by omega), Nat.sub_self]
      rfl
    have hw2 : (divL (inF z) (L.drop m)).2 = (divL (inF z) (L.drop (m + 1))).2 * inF z + L.getD m 0 := by rw [divL_idx _ _ _ (show m < L.length from by omega)]
    rw [hg, hset, ← hw2] at hs2
    exact ih ⟨m, by omega⟩ (Nat.lt_succ_self m) ac cY aY (hs2.nx _)

end Go.Proofs.Ytlfllehomhcbfaa

/- The quotient by X^n - 1: contract; PolyDivides, walked. No conditions. -/
namespace Go.Proofs.Ytlfllehomhcbfaa

def foldI (n : Nat) : Nat → List Fr → List Fr
  | 0, l => l
  | i + 1, l => if n ≤ i then foldI n i (l.set (i - n) (cf l (i - n) + cf l i)) else l

theorem foldI_len (n : Nat) : ∀ i l, (foldI n i l).length = l.length
  | 0, _ => rfl
  | i + 1, l => by
    show (if n ≤ i then foldI n i (l.set (i - n) (cf l (i - n) + cf l i)) else l).length = _
    split
    · rw [foldI_len n i, List.length_set]
    · rfl

theorem foldI_cf {n : Nat} (hn : 0 < n) (L : List Fr) : ∀ (k : Nat) (l : List Fr), k ≤ l.length → (∀ j, cf l j = cf L j + (if k ≤ j + n then cf l (j + n) else 0)) → ∀ j, cf (foldI n k l) j = cf L j + cf (foldI n k l) (j + n)
  | 0, l, _, h, j => by
    have := h j
    rw [if_pos (Nat.zero_le _)] at this
    exact this
  | i + 1, l, hk, h, j => by
    have e : foldI n (i + 1) l = if n ≤ i then foldI n i (l.set (i - n) (cf l (i - n) + cf l i)) else l := rfl
    rw [e]
    by_cases hni : n ≤ i
    · rw [if_pos hni]
      refine foldI_cf hn L i _ (by rw [List.length_set]; omega) (fold_step hn L l (by omega) hni fun j => ?_) j
      have := h j
      exact this
    · rw [if_neg hni]
      have := h j
      rw [if_pos (by omega)] at this
      exact this

def zOk (n : Int) : Bool := decide (1 ≤ n) && decide (n ≤ 262144)
def bzF (a : List U4) (n : Int) : List Fr := foldI n.toNat a.length (a.map inF)
def bzU (a : List U4) (n : Int) : List U4 := if zOk n then (trimF ((bzF a n).drop (min n.toNat a.length))).map outF else []
def bzV (a : List U4) (n : Int) : List U4 := if zOk n then (trimF ((bzF a n).take (min n.toNat a.length))).map outF else []

theorem FnD.nil22 {P : Program} {f : Nat} {args : List SV} {c : V1} {es : Nat} {q q' : Sq} (h : FnD P f args (.t [.c (.val (.slice none 0 0)), .c (.val (.slice none 0 0)), c]) []) (hq : q.n = 0) (hq' : q'.n = 0) :
    FnD P f args (.t [.c (.slc 0 0 0 es), .c (.slc 1 0 0 es), c]) [.sq q, .sq q'] := by
  have h1 : FnD P f args (.t [.c (.slc 0 0 0 es), .c (.val (.slice none 0 0)), c]) [.sq q] :=
    h.nil (r' := .t [.c (.slc 0 0 0 es), .c (.val (.slice none 0 0)), c]) (q := q) hq fun y v hk ⟨vs, e, hd⟩ => by
      cases hd with | cons h1 hd => exact ⟨_, e, .cons (nil_slc hk h1) hd⟩
  exact h1.nil (r' := .t [.c (.slc 0 0 0 es), .c (.slc 1 0 0 es), c]) (q := q') hq' fun y v hk ⟨vs, e, hd⟩ => by
    cases hd with | cons h1 hd => cases hd with | cons h2 hd => exact ⟨_, e, .cons h1 (.cons (nil_slc hk h2) hd)⟩

theorem byZero_fnd (a : List U4) (n : Int) (ha : a.length ≤ 262144) : FnD Try.prog 38 [.v (.c (.sl (.fr a))), .v (.c (.int .i64 n))]
    (.t [.c (.slc 0 0 (bzU a n).length 4), .c (.slc 1 0 (bzV a n).length 4), .c (.int .i64 (if zOk n then 0 else 1))]) [.sq (.fr (bzU a n)), .sq (.fr (bzV a n))] := by
  have hlong : longB [a] = false := by simp [longB]; omega
  cases hz : zOk n with
  | false =>
    have eU : bzU a n = [] := by unfold bzU; rw [hz]; rfl
    have eV : bzV a n = [] := by unfold bzV; rw [hz]; rfl
    rw [eU, eV]
    refine FnD.nil22 ?_ rfl rfl
    have hz : ¬ (1 ≤ n ∧ n ≤ 262144) := by
      intro h
      have h2 : zOk n = true := by simp [zOk, h.1, h.2]
      rw [hz] at h2
      cases h2
    refine fn_start (fn := Try.f38) (c := bodyOf Try.f38) Try.func38 rfl rfl fun x a0 hk hF hs => ?_
    by_cases h1 : n < 1
    · exact run_end envQ3_ok hk hF (bzB_end a n) ⟨rfl, rfl, rfl, hlong, by simp [h1], trivial⟩ (fun y v hd => hd) hs
    · exact run_end envQ3_ok hk hF (bzC_end a n) ⟨rfl, rfl, rfl, hlong, by simp only [decide_eq_false_iff_not]; omega, by simp only [decide_eq_true_eq]; omega, trivial⟩ (fun y v hd => hd) hs
  | true =>
    have eU : bzU a n = (trimF ((bzF a n).drop (min n.toNat a.length))).map outF := by unfold bzU; rw [hz]; rfl
    have eV : bzV a n = (trimF ((bzF a n).take (min n.toNat a.length))).map outF := by unfold bzV; rw [hz]; rfl
    have hzz : 1 ≤ n ∧ n ≤ 262144 := by simpa [zOk] using hz
    rw [eU, eV, List.length_map, List.length_map]
    obtain ⟨m, rfl⟩ := Int.eq_ofNat_of_zero_le (show 0 ≤ n by omega)
    unfold bzF
    rw [Int.toNat_natCast]
    refine fn_start (fn := Try.f38) (c := bodyOf Try.f38) Try.func38 rfl rfl fun x a0 hk hF hs => ?_
    refine bzIn a m ⟨rfl, rfl, rfl, hlong, by simp only [decide_eq_false_iff_not]; omega, by simp only [decide_eq_false_iff_not]; omega, by omega, trivial⟩ hs fun ac cY aY hs1 => ?_
    rw [wrap_id (by omega) (by omega)] at hs1
    have hlen : (a.map inF).length = a.length := List.length_map ..
    generalize a.map inF = L at hs1 hlen ⊢
    rw [← hlen] at hs1 ⊢
    have hla : L.length ≤ 262144 := by omega
    have hm1 : 1 ≤ m := by omega
    clear hlen hlong ha hz eU eV hzz hs
    refine loop_rule (ι := { p : Nat × List Fr // p.1 ≤ L.length ∧ p.2.length = L.length ∧ foldI m p.1 p.2 = foldI m L.length L }) (fun p => bzS m L.length p.1.2 ((p.1.1 : Int) - 1)) (fun p => p.1.1) (c := lpC bzIn_k) (k := lpR bzIn_k) (by kernel_rfl) (fun p ih ac cY aY hs => ?_)
      ⟨(L.length, L), Nat.le_refl _, rfl, rfl⟩ hs1
    obtain ⟨⟨k, l⟩, hk1, hl1, hf1⟩ := p
    simp only at ih hs hk1 hl1 hf1
    by_cases hki : m + 1 ≤ k
    · obtain ⟨i, rfl⟩ : ∃ i, k = i + 1 := ⟨k - 1, by omega⟩
      have e1 : ((i + 1 : Nat) : Int) - 1 = (i : Int) := by omega
      have e2 : IntKind.wrap IntKind.i64 ((i : Int) - (m : Int)) = ((i - m : Nat) : Int) := by rw [wrap_id (by omega) (by omega)]; omega
      have e3 : IntKind.wrap IntKind.i64 ((i : Int) - 1) = (i : Int) - 1 := wrap_id (by omega) (by omega)
      rw [e1] at hs
      refine bzN m L.length l i (by rw [e2]; exact ⟨by simp only [decide_eq_true_eq]; omega, by omega, by omega, rfl, by omega, by omega, by omega, rfl, by omega, by omega, by omega, rfl, by omega, trivial⟩) hs fun ac cY aY hs2 => ?_
      rw [e2, e3, Int.toNat_natCast, Int.toNat_natCast] at hs2
      refine ih ⟨(i, l.set (i - m) (cf l (i - m) + cf l i)), by show i ≤ L.length; omega, by rw [List.length_set]; exact hl1, ?_⟩ (by show i < i + 1; omega) ac cY aY (hs2.nx _)
      rw [← hf1]
      show _ = if m ≤ i then foldI m i (l.set (i - m) (cf l (i - m) + cf l i)) else l
      rw [if_pos (by omega)]
    · have hfl : l = foldI m L.length L := by
        rw [← hf1]
        cases k with
        | zero => rfl
        | succ i =>
          show l = if m ≤ i then foldI m i (l.set (i - m) (cf l (i - m) + cf l i)) else l
          rw [if_neg (by omega)]
      have hmin : (if ((L.length : Nat) : Int) < (m : Int) then ((L.length : Nat) : Int) else (m : Int)).toNat = min m L.length := by
        split <;> omega
      have hmin2 : (0 : Int) ≤ (if ((L.length : Nat) : Int) < (m : Int) then ((L.length : Nat) : Int) else (m : Int)) ∧ (if ((L.length : Nat) : Int) < (m : Int) then ((L.length : Nat) : Int) else (m : Int)) ≤ ((L.length : Nat) : Int) := by
        split <;> omega
      have r := bzX_end m L.length l ((k : Int) - 1)
      have hd1 : ((l.drop (min m L.length)).take (L.length - min m L.length)) = l.drop (min m L.length) := by
        rw [List.take_of_length_le]
        rw [List.length_drop]; omega
      rw [hmin, List.drop_zero, hd1] at r
      rw [← hfl]
      have hdl : (l.drop (min m L.length)).length ≤ 262144 := by rw [List.length_drop]; omega
      have htl : (l.take (min m L.length)).length ≤ 262144 := by rw [List.length_take]; omega
      exact run_end2 envQ3_ok hk hF r ⟨by simp only [decide_eq_false_iff_not]; omega, rfl, rfl, hmin2.1, hmin2.2, by omega, rfl, by omega, rfl, rfl, hmin2.1, hmin2.2, by omega, rfl, by omega, trivial⟩ (fun y v hd => hd) hs

def refAddSpec : FnSpec
  | [.v (.c (.sl (.fr a))), .v (.c (.sl (.fr b)))] => some ([a.length ≤ 1073741824, b.length ≤ 1073741824], .v (.c (.slc 0 0 (trimF (addL (a.map inF) (b.map inF))).length 4)), [.sq (.fr ((trimF (addL (a.map inF) (b.map inF))).map outF))])
  | _ => none
noncomputable def envR1 : Env := envQ3.set (addT envQ3.fn 33 refAddSpec)
theorem envR1_ok : EnvOk Try.prog envR1 := env_add envQ3_ok 33 refAddSpec (enters_of Try.func33 rfl rfl) fun args o r es h ho => by
  unfold refAddSpec at h
  split at h
  · cases h; exact refAdd_fnd _ _ ho.1 ho.2.1
  · cases h
def refMulSpec : FnSpec
  | [.v (.c (.sl (.fr a))), .v (.c (.sl (.fr b)))] => some ([a.length ≤ 1073741824, b.length ≤ 1073741824], .v (.c (.slc 0 0 (trimF (mulL (a.map inF) (b.map inF))).length 4)), [.sq (.fr ((trimF (mulL (a.map inF) (b.map inF))).map outF))])
  | _ => none
noncomputable def envR2 : Env := envR1.set (addT envR1.fn 34 refMulSpec)
theorem envR2_ok : EnvOk Try.prog envR2 := env_add envR1_ok 34 refMulSpec (enters_of Try.func34 rfl rfl) fun args o r es h ho => by
  unfold refMulSpec at h
  split at h
  · cases h; exact refMul_fnd _ _ ho.1 ho.2.1
  · cases h
def zeroPSpec : FnSpec
  | [.v (.c (.int .i64 n))] => some ([1 ≤ n, n ≤ 1073741824], .v (.c (.slc 0 0 (n.toNat + 1) 4)), [.sq (.fr ((zeroL n.toNat).map outF))])
  | _ => none
noncomputable def envR3 : Env := envR2.set (addT envR2.fn 40 zeroPSpec)
theorem envR3_ok : EnvOk Try.prog envR3 := env_add envR2_ok 40 zeroPSpec (enters_of Try.func40 rfl rfl) fun args o r es h ho => by
  unfold zeroPSpec at h
  split at h
  · cases h; exact (by rename_i n; obtain ⟨m, rfl⟩ := Int.eq_ofNat_of_zero_le (show 0 ≤ n by have := ho.1; omega); exact zero_fnd m (by have := ho.1; omega) (by have := ho.2.1; omega))
  · cases h
def byLinearSpec : FnSpec
  | [.v (.c (.sl (.fr a))), .v (.a [.ob (.fr z)])] => some ([a.length ≤ 262144], .t [.c (.slc 0 0 (trimF (divL (inF z) (a.map inF)).1).length 4), .a [.ob (.fr (outF (divL (inF z) (a.map inF)).2))], .c (.int .i64 0)], [.sq (.fr ((trimF (divL (inF z) (a.map inF)).1).map outF))])
  | _ => none
noncomputable def envR4 : Env := envR3.set (addT envR3.fn 30 byLinearSpec)
theorem envR4_ok : EnvOk Try.prog envR4 := env_add envR3_ok 30 byLinearSpec (enters_of Try.func30 rfl rfl) fun args o r es h ho => by
  unfold byLinearSpec at h
  split at h
  · cases h; exact byLinear_fnd _ _ ho.1
  · cases h
def byZeroSpec : FnSpec
  | [.v (.c (.sl (.fr a))), .v (.c (.int .i64 n))] => some ([a.length ≤ 262144], .t [.c (.slc 0 0 (bzU a n).length 4), .c (.slc 1 0 (bzV a n).length 4), .c (.int .i64 (if zOk n then 0 else 1))], [.sq (.fr (bzU a n)), .sq (.fr (bzV a n))])
  | _ => none
noncomputable def envR5 : Env := envR4.set (addT envR4.fn 38 byZeroSpec)
theorem envR5_ok : EnvOk Try.prog envR5 := env_add envR4_ok 38 byZeroSpec (enters_of Try.func38 rfl rfl) fun args o r es h ho => by
  unfold byZeroSpec at h
  split at h
  · cases h; exact byZero_fnd _ _ ho.1
  · cases h
--@env envR5 envR5_ok
theorem al16  : fnRes envR5 Try.f39 3000 [] [true] [] [] = (Option.some ([((0 : Int) ≤ (3 : Int)), ((3 : Int) < (18446744073709551616 : Int)), ((0 : Int) ≤ (0 : Int)), ((0 : Int) < (18446744073709551616 : Int)), ((0 : Int) ≤ (0 : Int)), ((0 : Int) < (18446744073709551616 : Int)), ((0 : Int) ≤ (0 : Int)), ((0 : Int) < (18446744073709551616 : Int)), (0 = 0), (2 = 2), (4 = 4), (2 ≤ 8796093022208), (((1 : Int) == (1 : Int)) = true), ((0 : Int) ≤ (0 : Int)), ((0 : Int) < (1 : Int)), (0 = 0), (0 < 1), ((0 : Int) ≤ (3 : Int)), ((3 : Int) < (18446744073709551616 : Int)), ((0 : Int) ≤ (0 : Int)), ((0 : Int) < (18446744073709551616 : Int)), ((0 : Int) ≤ (0 : Int)), ((0 : Int) < (18446744073709551616 : Int)), ((0 : Int) ≤ (0 : Int)), ((0 : Int) < (18446744073709551616 : Int))], ((SV.v (V1.c (It.bool (ite (true = true) (decide ((List.getD (List.map outF (trimF (List.map inF ([(Fin.ofNat B4 3)] ++ [(0 : U4)])))) 0 (0 : U4)) = (Fin.ofNat B4 3))) (Bool.not (decide ((List.getD (List.map outF (trimF (List.map inF ([(Fin.ofNat B4 3)] ++ [(0 : U4)])))) 0 (0 : U4)) = (Fin.ofNat B4 3)))))))), []))) := by kernel_rfl

theorem alive39_fnd : FnD Try.prog 39 [] (.v (.c (.lit true))) [] := by
  have e : decide ((List.getD (List.map outF (trimF (List.map inF ([(Fin.ofNat B4 3)] ++ [(0 : U4)])))) 0 (0 : U4)) = (Fin.ofNat B4 3)) = true := by kernel_rfl
  refine (fn_sound envR5_ok Try.func39 al16 (by and_intros <;> first | trivial | decide)).conv (fun _ _ h => h) fun y v hd => ?_
  rw [if_pos rfl, e] at hd
  exact bool_lit hd

def true39Spec : FnSpec
  | [] => some ([], .v (.c (.lit true)), [])
  | _ => none
noncomputable def envR : Env := envR5.set (addT envR5.fn 39 true39Spec)
theorem envR_ok : EnvOk Try.prog envR := env_add envR5_ok 39 true39Spec (enters_of Try.func39 rfl rfl) fun args o r es h _ => by
  unfold true39Spec at h
  split at h
  · cases h; exact alive39_fnd
  · cases h
--@env envR envR_ok
theorem pdA (a : List U4) (z : U4) (n : Int) : fnRes envR Try.f5 3000 [.v (.c (.sl (.fr a))), .v (.a [.ob (.fr z)]), .v (.c (.int .i64 n))] [false, false, false, false, true, true, true] [] [] = (Option.some ([((List.length (List.take 40 a)) ≤ 262144), (0 < rN), ((Fin.val (cleanU z)) < rN), ((0 : Int) ≤ (1 : Int)), ((1 : Int) < (18446744073709551616 : Int)), ((0 : Int) ≤ (0 : Int)), ((0 : Int) < (18446744073709551616 : Int)), ((0 : Int) ≤ (0 : Int)), ((0 : Int) < (18446744073709551616 : Int)), ((0 : Int) ≤ (0 : Int)), ((0 : Int) < (18446744073709551616 : Int)), (((0 : Int) != (0 : Int)) = false), (0 = 0), ((List.length (trimF (Prod.fst (divL (inF z) (List.map inF (List.take 40 a)))))) = (List.length (List.map outF (trimF (Prod.fst (divL (inF z) (List.map inF (List.take 40 a)))))))), (4 = 4), (0 = 0), (2 = (List.length ([(outF ((inF (0 : U4)) - (inF (cleanU z))))] ++ [(Fin.ofNat B4 1)]))), (4 = 4), ((List.length (List.map outF (trimF (Prod.fst (divL (inF z) (List.map inF (List.take 40 a))))))) ≤ 1073741824), ((List.length ([(outF ((inF (0 : U4)) - (inF (cleanU z))))] ++ [(Fin.ofNat B4 1)])) ≤ 1073741824), (0 = 0), ((List.length (trimF (mulL (List.map inF (List.map outF (trimF (Prod.fst (divL (inF z) (List.map inF (List.take 40 a))))))) (List.map inF ([(outF ((inF (0 : U4)) - (inF (cleanU z))))] ++ [(Fin.ofNat B4 1)]))))) = (List.length (List.map outF (trimF (mulL (List.map inF (List.map outF (trimF (Prod.fst (divL (inF z) (List.map inF (List.take 40 a))))))) (List.map inF ([(outF ((inF (0 : U4)) - (inF (cleanU z))))] ++ [(Fin.ofNat B4 1)]))))))), (4 = 4), (0 = 0), (1 = 1), (4 = 4), ((List.length (List.map outF (trimF (mulL (List.map inF (List.map outF (trimF (Prod.fst (divL (inF z) (List.map inF (List.take 40 a))))))) (List.map inF ([(outF ((inF (0 : U4)) - (inF (cleanU z))))] ++ [(Fin.ofNat B4 1)])))))) ≤ 1073741824), (1 ≤ 1073741824), ((List.length (List.take 40 a)) ≤ 1099511627776), (0 = 0), ((List.length (trimF (addL (List.map inF (List.map outF (trimF (mulL (List.map inF (List.map outF (trimF (Prod.fst (divL (inF z) (List.map inF (List.take 40 a))))))) (List.map inF ([(outF ((inF (0 : U4)) - (inF (cleanU z))))] ++ [(Fin.ofNat B4 1)])))))) (List.map inF [(outF (Prod.snd (divL (inF z) (List.map inF (List.take 40 a)))))])))) = (List.length (List.map outF (trimF (addL (List.map inF (List.map outF (trimF (mulL (List.map inF (List.map outF (trimF (Prod.fst (divL (inF z) (List.map inF (List.take 40 a))))))) (List.map inF ([(outF ((inF (0 : U4)) - (inF (cleanU z))))] ++ [(Fin.ofNat B4 1)])))))) (List.map inF [(outF (Prod.snd (divL (inF z) (List.map inF (List.take 40 a)))))])))))), (4 = 4), (0 = 0), ((List.length (trimF (List.map inF (List.take 40 a)))) = (List.length (List.map outF (trimF (List.map inF (List.take 40 a)))))), (4 = 4), ((Bool.not (decide ((List.map outF (trimF (addL (List.map inF (List.map outF (trimF (mulL (List.map inF (List.map outF (trimF (Prod.fst (divL (inF z) (List.map inF (List.take 40 a))))))) (List.map inF ([(outF ((inF (0 : U4)) - (inF (cleanU z))))] ++ [(Fin.ofNat B4 1)])))))) (List.map inF [(outF (Prod.snd (divL (inF z) (List.map inF (List.take 40 a)))))])))) = (List.map outF (trimF (List.map inF (List.take 40 a))))))) = false), (0 = 0), ((List.length (trimF (Prod.fst (divL (inF z) (List.map inF (List.take 40 a)))))) = (List.length (List.map outF (trimF (Prod.fst (divL (inF z) (List.map inF (List.take 40 a)))))))), (4 = 4), ((List.length (List.map outF (trimF (Prod.fst (divL (inF z) (List.map inF (List.take 40 a))))))) ≤ 1099511627776), (0 = 0), ((List.length (trimF (Prod.fst (divL (inF z) (List.map inF (List.take 40 a)))))) = (List.length (List.map outF (trimF (Prod.fst (divL (inF z) (List.map inF (List.take 40 a)))))))), (4 = 4), (0 = 0), ((List.length (trimF (List.map inF (List.map outF (trimF (Prod.fst (divL (inF z) (List.map inF (List.take 40 a))))))))) = (List.length (List.map outF (trimF (List.map inF (List.map outF (trimF (Prod.fst (divL (inF z) (List.map inF (List.take 40 a))))))))))), (4 = 4), ((Bool.not (decide ((List.map outF (trimF (Prod.fst (divL (inF z) (List.map inF (List.take 40 a)))))) = (List.map outF (trimF (List.map inF (List.map outF (trimF (Prod.fst (divL (inF z) (List.map inF (List.take 40 a)))))))))))) = false), ((Bool.not (decide ((Fin.val (outF (Prod.snd (divL (inF z) (List.map inF (List.take 40 a)))))) < 52435875175126190479447740508185965837690552500527637822603658699938581184513))) = false), ((List.length (List.take 40 a)) ≤ 262144), ((decide (n < (1 : Int))) = true), (((ite ((zOk n) = true) (0 : Int) (1 : Int)) == (1 : Int)) = true)], ((SV.v (V1.c (It.bool ((IntKind.wrap IntKind.i64 ((((List.length (bzU (List.take 40 a) n)) : Nat) : Int) + (((List.length (bzV (List.take 40 a) n)) : Nat) : Int))) == (0 : Int))))), []))) := by kernel_rfl
theorem pdB (a : List U4) (z : U4) (n : Int) : fnRes envR Try.f5 3000 [.v (.c (.sl (.fr a))), .v (.a [.ob (.fr z)]), .v (.c (.int .i64 n))] [false, false, false, false, false, true, true, true] [] [] = (Option.some ([((List.length (List.take 40 a)) ≤ 262144), (0 < rN), ((Fin.val (cleanU z)) < rN), ((0 : Int) ≤ (1 : Int)), ((1 : Int) < (18446744073709551616 : Int)), ((0 : Int) ≤ (0 : Int)), ((0 : Int) < (18446744073709551616 : Int)), ((0 : Int) ≤ (0 : Int)), ((0 : Int) < (18446744073709551616 : Int)), ((0 : Int) ≤ (0 : Int)), ((0 : Int) < (18446744073709551616 : Int)), (((0 : Int) != (0 : Int)) = false), (0 = 0), ((List.length (trimF (Prod.fst (divL (inF z) (List.map inF (List.take 40 a)))))) = (List.length (List.map outF (trimF (Prod.fst (divL (inF z) (List.map inF (List.take 40 a)))))))), (4 = 4), (0 = 0), (2 = (List.length ([(outF ((inF (0 : U4)) - (inF (cleanU z))))] ++ [(Fin.ofNat B4 1)]))), (4 = 4), ((List.length (List.map outF (trimF (Prod.fst (divL (inF z) (List.map inF (List.take 40 a))))))) ≤ 1073741824), ((List.length ([(outF ((inF (0 : U4)) - (inF (cleanU z))))] ++ [(Fin.ofNat B4 1)])) ≤ 1073741824), (0 = 0), ((List.length (trimF (mulL (List.map inF (List.map outF (trimF (Prod.fst (divL (inF z) (List.map inF (List.take 40 a))))))) (List.map inF ([(outF ((inF (0 : U4)) - (inF (cleanU z))))] ++ [(Fin.ofNat B4 1)]))))) = (List.length (List.map outF (trimF (mulL (List.map inF (List.map outF (trimF (Prod.fst (divL (inF z) (List.map inF (List.take 40 a))))))) (List.map inF ([(outF ((inF (0 : U4)) - (inF (cleanU z))))] ++ [(Fin.ofNat B4 1)]))))))), (4 = 4), (0 = 0), (1 = 1), (4 = 4), ((List.length (List.map outF (trimF (mulL (List.map inF (List.map outF (trimF (Prod.fst (divL (inF z) (List.map inF (List.take 40 a))))))) (List.map inF ([(outF ((inF (0 : U4)) - (inF (cleanU z))))] ++ [(Fin.ofNat B4 1)])))))) ≤ 1073741824), (1 ≤ 1073741824), ((List.length (List.take 40 a)) ≤ 1099511627776), (0 = 0), ((List.length (trimF (addL (List.map inF (List.map outF (trimF (mulL (List.map inF (List.map outF (trimF (Prod.fst (divL (inF z) (List.map inF (List.take 40 a))))))) (List.map inF ([(outF ((inF (0 : U4)) - (inF (cleanU z))))] ++ [(Fin.ofNat B4 1)])))))) (List.map inF [(outF (Prod.snd (divL (inF z) (List.map inF (List.take 40 a)))))])))) = (List.length (List.map outF (trimF (addL (List.map inF (List.map outF (trimF (mulL (List.map inF (List.map outF (trimF (Prod.fst (divL (inF z) (List.map inF (List.take 40 a))))))) (List.map inF ([(outF ((inF (0 : U4)) - (inF (cleanU z))))] ++ [(Fin.ofNat B4 1)])))))) (List.map inF [(outF (Prod.snd (divL (inF z) (List.map inF (List.take 40 a)))))])))))), (4 = 4), (0 = 0), ((List.length (trimF (List.map inF (List.take 40 a)))) = (List.length (List.map outF (trimF (List.map inF (List.take 40 a)))))), (4 = 4), ((Bool.not (decide ((List.map outF (trimF (addL (List.map inF (List.map outF (trimF (mulL (List.map inF (List.map outF (trimF (Prod.fst (divL (inF z) (List.map inF (List.take 40 a))))))) (List.map inF ([(outF ((inF (0 : U4)) - (inF (cleanU z))))] ++ [(Fin.ofNat B4 1)])))))) (List.map inF [(outF (Prod.snd (divL (inF z) (List.map inF (List.take 40 a)))))])))) = (List.map outF (trimF (List.map inF (List.take 40 a))))))) = false), (0 = 0), ((List.length (trimF (Prod.fst (divL (inF z) (List.map inF (List.take 40 a)))))) = (List.length (List.map outF (trimF (Prod.fst (divL (inF z) (List.map inF (List.take 40 a)))))))), (4 = 4), ((List.length (List.map outF (trimF (Prod.fst (divL (inF z) (List.map inF (List.take 40 a))))))) ≤ 1099511627776), (0 = 0), ((List.length (trimF (Prod.fst (divL (inF z) (List.map inF (List.take 40 a)))))) = (List.length (List.map outF (trimF (Prod.fst (divL (inF z) (List.map inF (List.take 40 a)))))))), (4 = 4), (0 = 0), ((List.length (trimF (List.map inF (List.map outF (trimF (Prod.fst (divL (inF z) (List.map inF (List.take 40 a))))))))) = (List.length (List.map outF (trimF (List.map inF (List.map outF (trimF (Prod.fst (divL (inF z) (List.map inF (List.take 40 a))))))))))), (4 = 4), ((Bool.not (decide ((List.map outF (trimF (Prod.fst (divL (inF z) (List.map inF (List.take 40 a)))))) = (List.map outF (trimF (List.map inF (List.map outF (trimF (Prod.fst (divL (inF z) (List.map inF (List.take 40 a)))))))))))) = false), ((Bool.not (decide ((Fin.val (outF (Prod.snd (divL (inF z) (List.map inF (List.take 40 a)))))) < 52435875175126190479447740508185965837690552500527637822603658699938581184513))) = false), ((List.length (List.take 40 a)) ≤ 262144), ((decide (n < (1 : Int))) = false), ((decide (n > (262144 : Int))) = true), (((ite ((zOk n) = true) (0 : Int) (1 : Int)) == (1 : Int)) = true)], ((SV.v (V1.c (It.bool ((IntKind.wrap IntKind.i64 ((((List.length (bzU (List.take 40 a) n)) : Nat) : Int) + (((List.length (bzV (List.take 40 a) n)) : Nat) : Int))) == (0 : Int))))), []))) := by kernel_rfl
theorem pdC (a : List U4) (z : U4) (n : Int) : fnRes envR Try.f5 3000 [.v (.c (.sl (.fr a))), .v (.a [.ob (.fr z)]), .v (.c (.int .i64 n))] [false, false, false, false, false, false, true, true, true, true] [] [] = (Option.some ([((List.length (List.take 40 a)) ≤ 262144), (0 < rN), ((Fin.val (cleanU z)) < rN), ((0 : Int) ≤ (1 : Int)), ((1 : Int) < (18446744073709551616 : Int)), ((0 : Int) ≤ (0 : Int)), ((0 : Int) < (18446744073709551616 : Int)), ((0 : Int) ≤ (0 : Int)), ((0 : Int) < (18446744073709551616 : Int)), ((0 : Int) ≤ (0 : Int)), ((0 : Int) < (18446744073709551616 : Int)), (((0 : Int) != (0 : Int)) = false), (0 = 0), ((List.length (trimF (Prod.fst (divL (inF z) (List.map inF (List.take 40 a)))))) = (List.length (List.map outF (trimF (Prod.fst (divL (inF z) (List.map inF (List.take 40 a)))))))), (4 = 4), (0 = 0), (2 = (List.length ([(outF ((inF (0 : U4)) - (inF (cleanU z))))] ++ [(Fin.ofNat B4 1)]))), (4 = 4), ((List.length (List.map outF (trimF (Prod.fst (divL (inF z) (List.map inF (List.take 40 a))))))) ≤ 1073741824), ((List.length ([(outF ((inF (0 : U4)) - (inF (cleanU z))))] ++ [(Fin.ofNat B4 1)])) ≤ 1073741824), (0 = 0), ((List.length (trimF (mulL (List.map inF (List.map outF (trimF (Prod.fst (divL (inF z) (List.map inF (List.take 40 a))))))) (List.map inF ([(outF ((inF (0 : U4)) - (inF (cleanU z))))] ++ [(Fin.ofNat B4 1)]))))) = (List.length (List.map outF (trimF (mulL (List.map inF (List.map outF (trimF (Prod.fst (divL (inF z) (List.map inF (List.take 40 a))))))) (List.map inF ([(outF ((inF (0 : U4)) - (inF (cleanU z))))] ++ [(Fin.ofNat B4 1)]))))))), (4 = 4), (0 = 0), (1 = 1), (4 = 4), ((List.length (List.map outF (trimF (mulL (List.map inF (List.map outF (trimF (Prod.fst (divL (inF z) (List.map inF (List.take 40 a))))))) (List.map inF ([(outF ((inF (0 : U4)) - (inF (cleanU z))))] ++ [(Fin.ofNat B4 1)])))))) ≤ 1073741824), (1 ≤ 1073741824), ((List.length (List.take 40 a)) ≤ 1099511627776), (0 = 0), ((List.length (trimF (addL (List.map inF (List.map outF (trimF (mulL (List.map inF (List.map outF (trimF (Prod.fst (divL (inF z) (List.map inF (List.take 40 a))))))) (List.map inF ([(outF ((inF (0 : U4)) - (inF (cleanU z))))] ++ [(Fin.ofNat B4 1)])))))) (List.map inF [(outF (Prod.snd (divL (inF z) (List.map inF (List.take 40 a)))))])))) = (List.length (List.map outF (trimF (addL (List.map inF (List.map outF (trimF (mulL (List.map inF (List.map outF (trimF (Prod.fst (divL (inF z) (List.map inF (List.take 40 a))))))) (List.map inF ([(outF ((inF (0 : U4)) - (inF (cleanU z))))] ++ [(Fin.ofNat B4 1)])))))) (List.map inF [(outF (Prod.snd (divL (inF z) (List.map inF (List.take 40 a)))))])))))), (4 = 4), (0 = 0), ((List.length (trimF (List.map inF (List.take 40 a)))) = (List.length (List.map outF (trimF (List.map inF (List.take 40 a)))))), (4 = 4), ((Bool.not (decide ((List.map outF (trimF (addL (List.map inF (List.map outF (trimF (mulL (List.map inF (List.map outF (trimF (Prod.fst (divL (inF z) (List.map inF (List.take 40 a))))))) (List.map inF ([(outF ((inF (0 : U4)) - (inF (cleanU z))))] ++ [(Fin.ofNat B4 1)])))))) (List.map inF [(outF (Prod.snd (divL (inF z) (List.map inF (List.take 40 a)))))])))) = (List.map outF (trimF (List.map inF (List.take 40 a))))))) = false), (0 = 0), ((List.length (trimF (Prod.fst (divL (inF z) (List.map inF (List.take 40 a)))))) = (List.length (List.map outF (trimF (Prod.fst (divL (inF z) (List.map inF (List.take 40 a)))))))), (4 = 4), ((List.length (List.map outF (trimF (Prod.fst (divL (inF z) (List.map inF (List.take 40 a))))))) ≤ 1099511627776), (0 = 0), ((List.length (trimF (Prod.fst (divL (inF z) (List.map inF (List.take 40 a)))))) = (List.length (List.map outF (trimF (Prod.fst (divL (inF z) (List.map inF (List.take 40 a)))))))), (4 = 4), (0 = 0), ((List.length (trimF (List.map inF (List.map outF (trimF (Prod.fst (divL (inF z) (List.map inF (List.take 40 a))))))))) = (List.length (List.map outF (trimF (List.map inF (List.map outF (trimF (Prod.fst (divL (inF z) (List.map inF (List.take 40 a))))))))))), (4 = 4), ((Bool.not (decide ((List.map outF (trimF (Prod.fst (divL (inF z) (List.map inF (List.take 40 a)))))) = (List.map outF (trimF (List.map inF (List.map outF (trimF (Prod.fst (divL (inF z) (List.map inF (List.take 40 a)))))))))))) = false), ((Bool.not (decide ((Fin.val (outF (Prod.snd (divL (inF z) (List.map inF (List.take 40 a)))))) < 52435875175126190479447740508185965837690552500527637822603658699938581184513))) = false), ((List.length (List.take 40 a)) ≤ 262144), ((decide (n < (1 : Int))) = false), ((decide (n > (262144 : Int))) = false), ((decide (n > (60 : Int))) = true), (((ite ((zOk n) = true) (0 : Int) (1 : Int)) == (0 : Int)) = true), (((((List.length (bzU (List.take 40 a) n)) : Nat) : Int) == (0 : Int)) = true), ((List.length (List.take 40 a)) ≤ 1099511627776), (0 = 0), ((List.length (bzV (List.take 40 a) n)) = (List.length (bzV (List.take 40 a) n))), (4 = 4), (0 = 0), ((List.length (trimF (List.map inF (List.take 40 a)))) = (List.length (List.map outF (trimF (List.map inF (List.take 40 a)))))), (4 = 4)], ((SV.v (V1.c (It.bool (decide ((bzV (List.take 40 a) n) = (List.map outF (trimF (List.map inF (List.take 40 a))))))))), []))) := by kernel_rfl
theorem pdD (a : List U4) (z : U4) (n : Int) : fnRes envR Try.f5 3000 [.v (.c (.sl (.fr a))), .v (.a [.ob (.fr z)]), .v (.c (.int .i64 n))] [false, false, false, false, false, false, false, true, true, true, true, true] [] [] = (Option.some ([((List.length (List.take 40 a)) ≤ 262144), (0 < rN), ((Fin.val (cleanU z)) < rN), ((0 : Int) ≤ (1 : Int)), ((1 : Int) < (18446744073709551616 : Int)), ((0 : Int) ≤ (0 : Int)), ((0 : Int) < (18446744073709551616 : Int)), ((0 : Int) ≤ (0 : Int)), ((0 : Int) < (18446744073709551616 : Int)), ((0 : Int) ≤ (0 : Int)), ((0 : Int) < (18446744073709551616 : Int)), (((0 : Int) != (0 : Int)) = false), (0 = 0), ((List.length (trimF (Prod.fst (divL (inF z) (List.map inF (List.take 40 a)))))) = (List.length (List.map outF (trimF (Prod.fst (divL (inF z) (List.map inF (List.take 40 a)))))))), (4 = 4), (0 = 0), (2 = (List.length ([(outF ((inF (0 : U4)) - (inF (cleanU z))))] ++ [(Fin.ofNat B4 1)]))), (4 = 4), ((List.length (List.map outF (trimF (Prod.fst (divL (inF z) (List.map inF (List.take 40 a))))))) ≤ 1073741824), ((List.length ([(outF ((inF (0 : U4)) - (inF (cleanU z))))] ++ [(Fin.ofNat B4 1)])) ≤ 1073741824), (0 = 0), ((List.length (trimF (mulL (List.map inF (List.map outF (trimF (Prod.fst (divL (inF z) (List.map inF (List.take 40 a))))))) (List.map inF ([(outF ((inF (0 : U4)) - (inF (cleanU z))))] ++ [(Fin.ofNat B4 1)]))))) = (List.length (List.map outF (trimF (mulL (List.map inF (List.map outF (trimF (Prod.fst (divL (inF z) (List.map inF (List.take 40 a))))))) (List.map inF ([(outF ((inF (0 : U4)) - (inF (cleanU z))))] ++ [(Fin.ofNat B4 1)]))))))), (4 = 4), (0 = 0), (1 = 1), (4 = 4), ((List.length (List.map outF (trimF (mulL (List.map inF (List.map outF (trimF (Prod.fst (divL (inF z) (List.map inF (List.take 40 a))))))) (List.map inF ([(outF ((inF (0 : U4)) - (inF (cleanU z))))] ++ [(Fin.ofNat B4 1)])))))) ≤ 1073741824), (1 ≤ 1073741824), ((List.length (List.take 40 a)) ≤ 1099511627776), (0 = 0), ((List.length (trimF (addL (List.map inF (List.map outF (trimF (mulL (List.map inF (List.map outF (trimF (Prod.fst (divL (inF z) (List.map inF (List.take 40 a))))))) (List.map inF ([(outF ((inF (0 : U4)) - (inF (cleanU z))))] ++ [(Fin.ofNat B4 1)])))))) (List.map inF [(outF (Prod.snd (divL (inF z) (List.map inF (List.take 40 a)))))])))) = (List.length (List.map outF (trimF (addL (List.map inF (List.map outF (trimF (mulL (List.map inF (List.map outF (trimF (Prod.fst (divL (inF z) (List.map inF (List.take 40 a))))))) (List.map inF ([(outF ((inF (0 : U4)) - (inF (cleanU z))))] ++ [(Fin.ofNat B4 1)])))))) (List.map inF [(outF (Prod.snd (divL (inF z) (List.map inF (List.take 40 a)))))])))))), (4 = 4), (0 = 0), ((List.length (trimF (List.map inF (List.take 40 a)))) = (List.length (List.map outF (trimF (List.map inF (List.take 40 a)))))), (4 = 4), ((Bool.not (decide ((List.map outF (trimF (addL (List.map inF (List.map outF (trimF (mulL (List.map inF (List.map outF (trimF (Prod.fst (divL (inF z) (List.map inF (List.take 40 a))))))) (List.map inF ([(outF ((inF (0 : U4)) - (inF (cleanU z))))] ++ [(Fin.ofNat B4 1)])))))) (List.map inF [(outF (Prod.snd (divL (inF z) (List.map inF (List.take 40 a)))))])))) = (List.map outF (trimF (List.map inF (List.take 40 a))))))) = false), (0 = 0), ((List.length (trimF (Prod.fst (divL (inF z) (List.map inF (List.take 40 a)))))) = (List.length (List.map outF (trimF (Prod.fst (divL (inF z) (List.map inF (List.take 40 a)))))))), (4 = 4), ((List.length (List.map outF (trimF (Prod.fst (divL (inF z) (List.map inF (List.take 40 a))))))) ≤ 1099511627776), (0 = 0), ((List.length (trimF (Prod.fst (divL (inF z) (List.map inF (List.take 40 a)))))) = (List.length (List.map outF (trimF (Prod.fst (divL (inF z) (List.map inF (List.take 40 a)))))))), (4 = 4), (0 = 0), ((List.length (trimF (List.map inF (List.map outF (trimF (Prod.fst (divL (inF z) (List.map inF (List.take 40 a))))))))) = (List.length (List.map outF (trimF (List.map inF (List.map outF (trimF (Prod.fst (divL (inF z) (List.map inF (List.take 40 a))))))))))), (4 = 4), ((Bool.not (decide ((List.map outF (trimF (Prod.fst (divL (inF z) (List.map inF (List.take 40 a)))))) = (List.map outF (trimF (List.map inF (List.map outF (trimF (Prod.fst (divL (inF z) (List.map inF (List.take 40 a)))))))))))) = false), ((Bool.not (decide ((Fin.val (outF (Prod.snd (divL (inF z) (List.map inF (List.take 40 a)))))) < 52435875175126190479447740508185965837690552500527637822603658699938581184513))) = false), ((List.length (List.take 40 a)) ≤ 262144), ((decide (n < (1 : Int))) = false), ((decide (n > (262144 : Int))) = false), ((decide (n > (60 : Int))) = false), (((ite ((zOk n) = true) (0 : Int) (1 : Int)) == (0 : Int)) = true), ((decide ((((List.length (bzV (List.take 40 a) n)) : Nat) : Int) ≤ n)) = true), ((1 : Int) ≤ n), (n ≤ (1073741824 : Int)), (0 = 0), ((List.length (bzU (List.take 40 a) n)) = (List.length (bzU (List.take 40 a) n))), (4 = 4), (0 = 0), (((n).toNat + 1) = (List.length (List.map outF (zeroL (n).toNat)))), (4 = 4), ((List.length (bzU (List.take 40 a) n)) ≤ 1073741824), ((List.length (List.map outF (zeroL (n).toNat))) ≤ 1073741824), (0 = 0), ((List.length (trimF (mulL (List.map inF (bzU (List.take 40 a) n)) (List.map inF (List.map outF (zeroL (n).toNat)))))) = (List.length (List.map outF (trimF (mulL (List.map inF (bzU (List.take 40 a) n)) (List.map inF (List.map outF (zeroL (n).toNat)))))))), (4 = 4), (0 = 0), ((List.length (bzV (List.take 40 a) n)) = (List.length (bzV (List.take 40 a) n))), (4 = 4), ((List.length (List.map outF (trimF (mulL (List.map inF (bzU (List.take 40 a) n)) (List.map inF (List.map outF (zeroL (n).toNat))))))) ≤ 1073741824), ((List.length (bzV (List.take 40 a) n)) ≤ 1073741824), ((List.length (List.take 40 a)) ≤ 1099511627776), (0 = 0), ((List.length (trimF (addL (List.map inF (List.map outF (trimF (mulL (List.map inF (bzU (List.take 40 a) n)) (List.map inF (List.map outF (zeroL (n).toNat))))))) (List.map inF (bzV (List.take 40 a) n))))) = (List.length (List.map outF (trimF (addL (List.map inF (List.map outF (trimF (mulL (List.map inF (bzU (List.take 40 a) n)) (List.map inF (List.map outF (zeroL (n).toNat))))))) (List.map inF (bzV (List.take 40 a) n))))))), (4 = 4), (0 = 0), ((List.length (trimF (List.map inF (List.take 40 a)))) = (List.length (List.map outF (trimF (List.map inF (List.take 40 a)))))), (4 = 4), ((decide ((List.map outF (trimF (addL (List.map inF (List.map outF (trimF (mulL (List.map inF (bzU (List.take 40 a) n)) (List.map inF (List.map outF (zeroL (n).toNat))))))) (List.map inF (bzV (List.take 40 a) n))))) = (List.map outF (trimF (List.map inF (List.take 40 a)))))) = true), (0 = 0), ((List.length (bzU (List.take 40 a) n)) = (List.length (bzU (List.take 40 a) n))), (4 = 4), ((List.length (bzU (List.take 40 a) n)) ≤ 1099511627776), (0 = 0), ((List.length (bzU (List.take 40 a) n)) = (List.length (bzU (List.take 40 a) n))), (4 = 4), (0 = 0), ((List.length (trimF (List.map inF (bzU (List.take 40 a) n)))) = (List.length (List.map outF (trimF (List.map inF (bzU (List.take 40 a) n)))))), (4 = 4), ((decide ((bzU (List.take 40 a) n) = (List.map outF (trimF (List.map inF (bzU (List.take 40 a) n)))))) = true), (0 = 0), ((List.length (bzV (List.take 40 a) n)) = (List.length (bzV (List.take 40 a) n))), (4 = 4), ((List.length (bzV (List.take 40 a) n)) ≤ 1099511627776), (0 = 0), ((List.length (bzV (List.take 40 a) n)) = (List.length (bzV (List.take 40 a) n))), (4 = 4), (0 = 0), ((List.length (trimF (List.map inF (bzV (List.take 40 a) n)))) = (List.length (List.map outF (trimF (List.map inF (bzV (List.take 40 a) n)))))), (4 = 4)], ((SV.v (V1.c (It.bool (decide ((bzV (List.take 40 a) n) = (List.map outF (trimF (List.map inF (bzV (List.take 40 a) n))))))))), []))) := by kernel_rfl
end Go.Proofs.Ytlfllehomhcbfaa

/- PolyDivides answers true for every polynomial and number. No conditions. -/
namespace Go.Proofs.Ytlfllehomhcbfaa

theorem trim_le (l : List Fr) : (trimF l).length ≤ l.length := by rw [trimF_len]; exact trimN_le _ _
theorem mulL_len (a b : List Fr) : (mulL a b).length = a.length + b.length := by simp [mulL]
theorem addL_len (a b : List Fr) : (addL a b).length = max a.length b.length := by
  unfold addL
  rw [List.length_map, List.length_range]

theorem in_clean (z : U4) : inF (cleanU z) = inF z := by rw [clean_out, in_out]

theorem lin_row (z : U4) : ∃ X : List U4, ([outF (inF 0 - inF (cleanU z))] ++ [Fin.ofNat B4 1]) = X ∧ X.length = 2 ∧ X.map inF = [0 - inF z, 1] := by
  refine ⟨_, rfl, rfl, ?_⟩
  have h0 : inF (0 : U4) = 0 := Fin.ext rfl
  show [inF (outF (inF 0 - inF (cleanU z))), inF (Fin.ofNat B4 1)] = _
  rw [in_out, in_clean, h0, ← out_one1, in_out]

theorem one_row (w : Fr) : ([outF w] : List U4).map inF = [w] := by
  show [inF (outF w)] = _
  rw [in_out]

/-- The quotient by X - z, times it, and what is left. -/
theorem lin_id (z : Fr) (L : List Fr) : trimF (addL (trimF (mulL (trimF (divL z L).1) [0 - z, 1])) [(divL z L).2]) = trimF L := by
  refine trim_ext fun i => ?_
  rw [addL_cf, trim_cf, mulL_cf, mulC_congr (trim_cf _) (fun _ => rfl), mulC_two _ _ (0 - z) 1 (by decide) rfl rfl (fun j h0 h1 => cf_out (by show 2 ≤ j; omega))]
  have := divL_cf z L i
  have e : cf [(divL z L).2] i = if i = 0 then (divL z L).2 else 0 := by
    cases i with
    | zero => rfl
    | succ i => exact (cf_out (by show 1 ≤ i + 1; omega)).trans (if_neg (by omega)).symm
  rw [e]
  exact this

theorem zeroL_cf (n : Nat) (hn : 0 < n) : cf (zeroL n) 0 = 0 - 1 ∧ cf (zeroL n) n = 1 ∧ ∀ j, j ≠ 0 → j ≠ n → cf (zeroL n) j = 0 := by
  unfold zeroL
  have hl : (List.replicate (n + 1) (0 : Fr)).length = n + 1 := List.length_replicate
  have hr : ∀ j, cf (List.replicate (n + 1) (0 : Fr)) j = 0 := by
    intro j
    unfold cf List.getD
    rw [List.getElem?_replicate]
    split <;> rfl
  refine ⟨?_, ?_, fun j h0 h1 => ?_⟩
  · rw [cf_set _ _ _ (by rw [List.length_set, hl]; omega), if_neg (by omega), cf_set _ _ _ (by rw [hl]; omega), if_pos rfl]
  · rw [cf_set _ _ _ (by rw [List.length_set, hl]; omega), if_pos rfl]
  · rw [cf_set _ _ _ (by rw [List.length_set, hl]; omega), if_neg h1, cf_set _ _ _ (by rw [hl]; omega), if_neg h0]
    exact hr j

/-- The quotient by X^n - 1, times it, and what is left. -/
theorem zero_id (n : Nat) (hn : 0 < n) (L : List Fr) : trimF (addL (trimF (mulL (trimF ((foldI n L.length L).drop (min n L.length))) (zeroL n))) (trimF ((foldI n L.length L).take (min n L.length)))) = trimF L := by
  refine trim_ext fun i => ?_
  obtain ⟨z0, z1, z2⟩ := zeroL_cf n hn
  rw [addL_cf, trim_cf, trim_cf, mulL_cf, mulC_congr (trim_cf _) (fun _ => rfl), mulC_two _ _ (0 - 1) n hn z0 z1 z2]
  have hl := foldI_len n L.length L
  have h := fold_cf L (foldI n L.length L) hl (foldI_cf hn L L.length L (Nat.le_refl _) fun j => fold_init L j) i
  rw [hl] at h
  exact h

theorem zeroL_len (n : Nat) : (zeroL n).length = n + 1 := by
  unfold zeroL
  rw [List.length_set, List.length_set, List.length_replicate]

theorem less_lit (w : Fr) : decide ((outF w).val < 52435875175126190479447740508185965837690552500527637822603658699938581184513) = true := decide_eq_true (outF_lt w)

theorem mulL_trim_len (p q : List Fr) : (trimF (mulL p q)).length ≤ p.length + q.length := Nat.le_trans (trim_le _) (Nat.le_of_eq (mulL_len p q))

theorem clean_lt (z : U4) : (cleanU z).val < rN := by rw [clean_out]; exact outF_lt _

theorem foldI_none (n : Nat) : ∀ (k : Nat) (l : List Fr), k ≤ n → foldI n k l = l
  | 0, _, _ => rfl
  | i + 1, l, h => by
    show (if n ≤ i then foldI n i (l.set (i - n) (cf l (i - n) + cf l i)) else l) = l
    rw [if_neg (by omega)]

theorem trim_nil : trimF [] = [] := rfl

theorem div_pre (a : List U4) (z : U4) : (a.take 40).length ≤ 40 ∧ (trimF (divL (inF z) (List.map inF (a.take 40))).1).length ≤ 40 ∧
    (trimF (mulL (trimF (divL (inF z) (List.map inF (a.take 40))).1) [0 - inF z, 1])).length ≤ 42 ∧ ∃ X : List U4, ([outF (inF 0 - inF (cleanU z))] ++ [Fin.ofNat B4 1]) = X ∧ X.length = 2 ∧ X.map inF = [0 - inF z, 1] := by
  have hA : (a.take 40).length ≤ 40 := by rw [List.length_take]; omega
  have b1 : (trimF (divL (inF z) (List.map inF (a.take 40))).1).length ≤ 40 := by
    refine Nat.le_trans (trim_le _) ?_
    rw [divL_len, List.length_map]
    exact hA
  refine ⟨hA, b1, Nat.le_trans (mulL_trim_len _ _) (by show _ + 2 ≤ 42; omega), lin_row z⟩

theorem bz_no {a : List U4} {n : Int} (h : zOk n = false) : bzU a n = [] ∧ bzV a n = [] := by
  unfold bzU bzV
  rw [h]
  exact ⟨rfl, rfl⟩

theorem bz_long {a : List U4} {m : Nat} (h : zOk m = true) (hm : a.length ≤ m) : bzU a m = [] ∧ bzV a m = (trimF (a.map inF)).map outF := by
  unfold bzU bzV bzF
  have hl : (a.map inF).length = a.length := List.length_map ..
  rw [h, if_pos rfl, if_pos rfl, Int.toNat_natCast, foldI_none m _ _ hm, Nat.min_eq_right hm, ← hl, List.drop_length, List.take_length]
  exact ⟨rfl, rfl⟩

theorem bz_yes {a : List U4} {m : Nat} (h : zOk m = true) (hm : 0 < m) : ∃ U V : List Fr, bzU a m = (trimF U).map outF ∧ bzV a m = (trimF V).map outF ∧ (trimF U).length ≤ a.length ∧ (trimF V).length ≤ a.length ∧ (trimF V).length ≤ m ∧
    trimF (addL (trimF (mulL (trimF U) (zeroL m))) (trimF V)) = trimF (a.map inF) := by
  have hl : (a.map inF).length = a.length := List.length_map ..
  have hid := zero_id m hm (a.map inF)
  rw [hl] at hid
  have hf := foldI_len m a.length (a.map inF)
  rw [hl] at hf
  unfold bzU bzV bzF
  rw [h, if_pos rfl, if_pos rfl, Int.toNat_natCast]
  generalize foldI m a.length (a.map inF) = F at *
  refine ⟨_, _, rfl, rfl, ?_, ?_, ?_, hid⟩
  · refine Nat.le_trans (trim_le _) ?_
    rw [List.length_drop]; omega
  · refine Nat.le_trans (trim_le _) ?_
    rw [List.length_take]; omega
  · refine Nat.le_trans (trim_le _) ?_
    rw [List.length_take]; omega

theorem divA_fnd (a : List U4) (z : U4) (n : Int) (h1 : n < 1) : FnD Try.prog 5 [.v (.c (.sl (.fr a))), .v (.a [.ob (.fr z)]), .v (.c (.int .i64 n))] (.v (.c (.bool true))) [] := by
  obtain ⟨hA, b1, b2, X, hX, hXl, hXm⟩ := div_pre a z
  have b3 := clean_lt z
  have b4 : 0 < rN := by decide
  have hz : zOk n = false := by simp [zOk]; omega
  obtain ⟨eU, eV⟩ := bz_no (a := a.take 40) hz
  have r := pdA a z n
  rw [eU, eV, hz] at r
  generalize a.take 40 = A at *
  rw [hX] at r
  clear hX
  simp only [map_in_out, hXm, one_row, lin_id, trim_trim, less_lit, List.length_map] at r
  refine (fn_sound envR_ok Try.func5 r ?_).conv (fun _ _ h => h) fun y v hd => ?_
  · clear r
    and_intros <;> first | assumption | trivial | omega | decide | (simp only [decide_eq_true_eq]; omega) | (simp only [decide_eq_false_iff_not]; omega)
  · exact hd

theorem divB_fnd (a : List U4) (z : U4) (n : Int) (h1 : n > 262144) : FnD Try.prog 5 [.v (.c (.sl (.fr a))), .v (.a [.ob (.fr z)]), .v (.c (.int .i64 n))] (.v (.c (.bool true))) [] := by
  obtain ⟨hA, b1, b2, X, hX, hXl, hXm⟩ := div_pre a z
  have b3 := clean_lt z
  have b4 : 0 < rN := by decide
  have hz : zOk n = false := by simp [zOk]; omega
  obtain ⟨eU, eV⟩ := bz_no (a := a.take 40) hz
  have h2 : ¬ n < 1 := by omega
  have r := pdB a z n
  rw [eU, eV, hz] at r
  generalize a.take 40 = A at *
  rw [hX] at r
  clear hX
  simp only [map_in_out, hXm, one_row, lin_id, trim_trim, less_lit, List.length_map] at r
  refine (fn_sound envR_ok Try.func5 r ?_).conv (fun _ _ h => h) fun y v hd => ?_
  · clear r
    and_intros <;> first | assumption | trivial | omega | decide | (simp only [decide_eq_true_eq]; omega) | (simp only [decide_eq_false_iff_not]; omega)
  · exact hd

theorem divC_fnd (a : List U4) (z : U4) (m : Nat) (h1 : 60 < m) (h2 : m ≤ 262144) : FnD Try.prog 5 [.v (.c (.sl (.fr a))), .v (.a [.ob (.fr z)]), .v (.c (.int .i64 (m : Int)))] (.v (.c (.bool true))) [] := by
  obtain ⟨hA, b1, b2, X, hX, hXl, hXm⟩ := div_pre a z
  have b3 := clean_lt z
  have b4 : 0 < rN := by decide
  have hz : zOk m = true := by simp [zOk]; omega
  obtain ⟨eU, eV⟩ := bz_long (a := a.take 40) hz (by omega)
  have r := pdC a z m
  rw [eU, eV, hz] at r
  generalize a.take 40 = A at *
  rw [hX] at r
  clear hX
  simp only [map_in_out, hXm, one_row, lin_id, trim_trim, less_lit, List.length_map] at r
  refine (fn_sound envR_ok Try.func5 r ?_).conv (fun _ _ h => h) fun y v hd => ?_
  · clear r
    and_intros <;> first | assumption | trivial | omega | decide | (simp only [decide_eq_true_eq]; omega) | (simp only [decide_eq_false_iff_not]; omega)
  · exact hd

theorem divD_fnd (a : List U4) (z : U4) (m : Nat) (h1 : 1 ≤ m) (h2 : m ≤ 60) : FnD Try.prog 5 [.v (.c (.sl (.fr a))), .v (.a [.ob (.fr z)]), .v (.c (.int .i64 (m : Int)))] (.v (.c (.bool true))) [] := by
  obtain ⟨hA, b1, b2, X, hX, hXl, hXm⟩ := div_pre a z
  have b3 := clean_lt z
  have b4 : 0 < rN := by decide
  have hz : zOk m = true := by simp [zOk]; omega
  obtain ⟨U, V, eU, eV, c1, c2, c3, hid⟩ := bz_yes (a := a.take 40) hz h1
  have r := pdD a z m
  rw [eU, eV, hz, Int.toNat_natCast] at r
  have c4 : (trimF (mulL (trimF U) (zeroL m))).length ≤ 40 + (m + 1) := Nat.le_trans (mulL_trim_len _ _) (by rw [zeroL_len]; omega)
  have c5 := zeroL_len m
  generalize a.take 40 = A at *
  rw [hX] at r
  clear hX
  simp only [map_in_out, hXm, one_row, lin_id, trim_trim, less_lit, List.length_map, hid] at r
  refine (fn_sound envR_ok Try.func5 r ?_).conv (fun _ _ h => h) fun y v hd => ?_
  · clear r
    clear hXm eU eV hid
    generalize (trimF (mulL (trimF (divL (inF z) (List.map inF A)).1) [0 - inF z, 1])).length = n2 at b2 ⊢
    generalize (trimF (divL (inF z) (List.map inF A)).1).length = n1 at b1 ⊢
    generalize (trimF (mulL (trimF U) (zeroL m))).length = n3 at c4 ⊢
    generalize (trimF U).length = n4 at c1 ⊢
    generalize (trimF V).length = n5 at c2 c3 ⊢
    generalize (zeroL m).length = n6 at c5 ⊢
    generalize A.length = n7 at *
    generalize X.length = n8 at *
    generalize (cleanU z).val = n9 at *
    generalize rN = n10 at *
    and_intros <;> first | exact True.intro | (simp only [decide_eq_true_eq]; omega) | (simp only [decide_eq_false_iff_not]; omega) | omega | decide | rfl
  · exact hd

end Go.Proofs.Ytlfllehomhcbfaa

/- Sums, differences, multiples of polynomials; PolyAdds, walked. No conditions. -/
namespace Go.Proofs.Ytlfllehomhcbfaa

theorem val_nil_sl {x : Ctx} {q : Sq} (hq : q.n = 0) {v : Value} (h : denS x (.v (.c (.val (.slice none 0 0)))) v) : denS x (.v (.c (.sl q))) v := by
  have e := (D_val h).1
  subst e
  exact ⟨rfl, 1, .inl ⟨none, 0, rfl, hq⟩⟩

def in74S : FnSpec
  | [.v (.c (.sl (.fr a)))] => some ([a.length ≤ 8796093022208], .v (.c (.slc 0 0 a.length 4)), [.sq (.s (a.map inF))])
  | [.v (.c (.val (.slice none 0 0)))] => some ([], .v (.c (.slc 0 0 0 4)), [.sq (.s [])])
  | _ => none
noncomputable def envS1 : Env := envR.set (addT envR.fn 74 in74S)
theorem envS1_ok : EnvOk Try.prog envS1 := env_add envR_ok 74 in74S (enters_of Try.func74 rfl rfl) fun args o r es h ho => by
  unfold in74S at h
  split at h
  · cases h; exact in_fnd _ ho.1
  · cases h
    refine (in_fnd [] (by decide)).conv (fun x vs hd => ?_) (fun _ _ h => h)
    cases hd with | cons ha hd =>
    cases hd
    exact .cons (val_nil_sl rfl ha) .nil
  · cases h

--@env envS1 envS1_ok
noncomputable def jaIn_k : List KI := (run envS1 false 3000 ((fun (a b : List U4) => (⟨[.code (bodyOf Try.f82)], .normal, initSt Try.f82.ntmps [.v (.c (.sl (.fr a))), .v (.c (.sl (.fr b))), .v (.c (.clo 75 []))]⟩ : Cfg)) default default) [false]).cfg.k
theorem jaIn_hk (a b : List U4) : (run envS1 false 3000 ((⟨[.code (bodyOf Try.f82)], .normal, initSt Try.f82.ntmps [.v (.c (.sl (.fr a))), .v (.c (.sl (.fr b))), .v (.c (.clo 75 []))]⟩ : Cfg)) [false]).cfg.k = jaIn_k := by kernel_rfl
theorem jaIn (a b : List U4) {w0 : World} {F0 : Nat → Prop} {K : Kp} {ac : List Act} {Q : Exit → Act → World → Prop} {cX : Ctx} {aX : Act} (ho : AllP [(0 = 0), (2 = (List.length ([a] ++ [b]))), (1 = 1), ((longB ([a] ++ [b])) = false), ((List.length a) ≤ 8796093022208), ((List.length b) ≤ 8796093022208), ((0 : Int) ≤ (ite ((((List.length b) : Nat) : Int) > (((List.length a) : Nat) : Int)) (((List.length b) : Nat) : Int) (((List.length a) : Nat) : Int))), ((ite ((((List.length b) : Nat) : Int) > (((List.length a) : Nat) : Int)) (((List.length b) : Nat) : Int) (((List.length a) : Nat) : Int)) = (ite ((((List.length b) : Nat) : Int) > (((List.length a) : Nat) : Int)) (((List.length b) : Nat) : Int) (((List.length a) : Nat) : Int))), (((32 : Int) * (ite ((((List.length b) : Nat) : Int) > (((List.length a) : Nat) : Int)) (((List.length b) : Nat) : Int) (((List.length a) : Nat) : Int))) ≤ (281474976710656 : Int)), ((ite ((((List.length b) : Nat) : Int) > (((List.length a) : Nat) : Int)) (((List.length b) : Nat) : Int) (((List.length a) : Nat) : Int)) ≤ (9223372036854775807 : Int))]) (hs : Sim w0 F0 K ac (initSt Try.f82.ntmps [.v (.c (.sl (.fr a))), .v (.c (.sl (.fr b))), .v (.c (.clo 75 []))]) cX aX) (hK : ∀ ac cY aY, Sim w0 F0 K ac (mkSt 59 [2, 8, 9, 10, 29, 30] [(.v (.c (.clo 75 ([] : List (Prod Nat Nat))))), (.v (.c (.slc 128 0 (List.length a) 4))), (.v (.c (.slc 160 0 (List.length b) 4))), (.v (.c (.slc 288 0 ((ite ((((List.length b) : Nat) : Int) > (((List.length a) : Nat) : Int)) (((List.length b) : Nat) : Int) (((List.length a) : Nat) : Int))).toNat 4))), (.v (.c (.int .i64 ((((ite ((((List.length b) : Nat) : Int) > (((List.length a) : Nat) : Int)) (((List.length b) : Nat) : Int) (((List.length a) : Nat) : Int))).toNat : Nat) : Int)))), (.v (.c (.int .i64 (0 : Int))))] [128, 160, 288] [(some (.sq (.s (List.map inF a)))), (some (.sq (.s (List.map inF b)))), (some (.sq (.s (List.replicate ((ite ((((List.length b) : Nat) : Int) > (((List.length a) : Nat) : Int)) (((List.length b) : Nat) : Int) (((List.length a) : Nat) : Int))).toNat (0 : Fr)))))] 368 [] []) cY aY → Wq Try.prog Q (jaIn_k) ac Exit.normal aY cY.w) : Wq Try.prog Q ([.code (bodyOf Try.f82)]) ac .normal aX cX.w :=
  run_at2 (o := ⟨_, _, _, _, _, _, _⟩) envS1_ok (by kernel_rfl) (jaIn_hk a b) ho hs hK
noncomputable def jaS (A B : List Fr) (la lb M : Nat) (L : List Fr) (i : Nat) : St := mkSt 59 [2, 8, 9, 10, 29, 30] [(SV.v (V1.c (It.clo 75 ([] : List (Prod Nat Nat))))), .v (.c (.slc 128 0 la 4)), .v (.c (.slc 160 0 lb 4)), .v (.c (.slc 288 0 M 4)), .v (.c (.int .i64 (M : Int))), .v (.c (.int .i64 (i : Int)))] [128, 160, 288] [some (.sq (.s A)), some (.sq (.s B)), some (.sq (.s L))] 368 [] []
theorem jaA_hk (A B : List Fr) (la lb M : Nat) (L : List Fr) (i : Nat) : (run envS1 false 3000 ((⟨lpIn jaIn_k, .normal, jaS A B la lb M L i⟩ : Cfg)) [true, true, true]).cfg.k = lpBk jaIn_k := by kernel_rfl
theorem jaA (A B : List Fr) (la lb M : Nat) (L : List Fr) (i : Nat) {w0 : World} {F0 : Nat → Prop} {K : Kp} {ac : List Act} {Q : Exit → Act → World → Prop} {cX : Ctx} {aX : Act} (ho : AllP [((decide (((i : Nat) : Int) < ((M : Nat) : Int))) = true), ((decide (((i : Nat) : Int) < ((la : Nat) : Int))) = true), ((0 : Int) ≤ ((i : Nat) : Int)), (((i : Nat) : Int) < ((la : Nat) : Int)), (0 = 0), ((((i : Nat) : Int)).toNat < (List.length A)), ((decide (((i : Nat) : Int) < ((lb : Nat) : Int))) = true), ((0 : Int) ≤ ((i : Nat) : Int)), (((i : Nat) : Int) < ((lb : Nat) : Int)), (0 = 0), ((((i : Nat) : Int)).toNat < (List.length B)), ((0 : Int) ≤ ((i : Nat) : Int)), (((i : Nat) : Int) < ((M : Nat) : Int)), (0 = 0), ((((i : Nat) : Int)).toNat < (List.length L))]) (hs : Sim w0 F0 K ac (jaS A B la lb M L i) cX aX) (hK : ∀ ac cY aY, Sim w0 F0 K ac (mkSt 59 [2, 8, 9, 10, 29, 30] [(.v (.c (.clo 75 ([] : List (Prod Nat Nat))))), (.v (.c (.slc 128 0 la 4))), (.v (.c (.slc 160 0 lb 4))), (.v (.c (.slc 288 0 M 4))), (.v (.c (.int .i64 ((M : Nat) : Int)))), (.v (.c (.int .i64 (IntKind.wrap .i64 (((i : Nat) : Int) + (1 : Int))))))] [128, 160, 288] [(some (.sq (.s A))), (some (.sq (.s B))), (some (.sq (.s (List.set L (((i : Nat) : Int)).toNat ((List.getD A (((i : Nat) : Int)).toNat (0 : Fr)) + (List.getD B (((i : Nat) : Int)).toNat (0 : Fr)))))))] 896 [] []) cY aY → Wq Try.prog Q (lpBk jaIn_k) ac Exit.normal aY cY.w) : Wq Try.prog Q (lpIn jaIn_k) ac .normal aX cX.w :=
  run_at2 (o := ⟨_, _, _, _, _, _, _⟩) envS1_ok (by kernel_rfl) (jaA_hk A B la lb M L i) ho hs hK
theorem jaB_hk (A B : List Fr) (la lb M : Nat) (L : List Fr) (i : Nat) : (run envS1 false 3000 ((⟨lpIn jaIn_k, .normal, jaS A B la lb M L i⟩ : Cfg)) [true, true, false]).cfg.k = lpBk jaIn_k := by kernel_rfl
theorem jaB (A B : List Fr) (la lb M : Nat) (L : List Fr) (i : Nat) {w0 : World} {F0 : Nat → Prop} {K : Kp} {ac : List Act} {Q : Exit → Act → World → Prop} {cX : Ctx} {aX : Act} (ho : AllP [((decide (((i : Nat) : Int) < ((M : Nat) : Int))) = true), ((decide (((i : Nat) : Int) < ((la : Nat) : Int))) = true), ((0 : Int) ≤ ((i : Nat) : Int)), (((i : Nat) : Int) < ((la : Nat) : Int)), (0 = 0), ((((i : Nat) : Int)).toNat < (List.length A)), ((decide (((i : Nat) : Int) < ((lb : Nat) : Int))) = false), ((0 : Int) ≤ ((i : Nat) : Int)), (((i : Nat) : Int) < ((M : Nat) : Int)), (0 = 0), ((((i : Nat) : Int)).toNat < (List.length L))]) (hs : Sim w0 F0 K ac (jaS A B la lb M L i) cX aX) (hK : ∀ ac cY aY, Sim w0 F0 K ac (mkSt 59 [2, 8, 9, 10, 29, 30] [(.v (.c (.clo 75 ([] : List (Prod Nat Nat))))), (.v (.c (.slc 128 0 la 4))), (.v (.c (.slc 160 0 lb 4))), (.v (.c (.slc 288 0 M 4))), (.v (.c (.int .i64 ((M : Nat) : Int)))), (.v (.c (.int .i64 (IntKind.wrap .i64 (((i : Nat) : Int) + (1 : Int))))))] [128, 160, 288] [(some (.sq (.s A))), (some (.sq (.s B))), (some (.sq (.s (List.set L (((i : Nat) : Int)).toNat ((List.getD A (((i : Nat) : Int)).toNat (0 : Fr)) + (0 : Fr))))))] 816 [] []) cY aY → Wq Try.prog Q (lpBk jaIn_k) ac Exit.normal aY cY.w) : Wq Try.prog Q (lpIn jaIn_k) ac .normal aX cX.w :=
  run_at2 (o := ⟨_, _, _, _, _, _, _⟩) envS1_ok (by kernel_rfl) (jaB_hk A B la lb M L i) ho hs hK
theorem jaC_hk (A B : List Fr) (la lb M : Nat) (L : List Fr) (i : Nat) : (run envS1 false 3000 ((⟨lpIn jaIn_k, .normal, jaS A B la lb M L i⟩ : Cfg)) [true, false, true]).cfg.k = lpBk jaIn_k := by kernel_rfl
theorem jaC (A B : List Fr) (la lb M : Nat) (L : List Fr) (i : Nat) {w0 : World} {F0 : Nat → Prop} {K : Kp} {ac : List Act} {Q : Exit → Act → World → Prop} {cX : Ctx} {aX : Act} (ho : AllP [((decide (((i : Nat) : Int) < ((M : Nat) : Int))) = true), ((decide (((i : Nat) : Int) < ((la : Nat) : Int))) = false), ((decide (((i : Nat) : Int) < ((lb : Nat) : Int))) = true), ((0 : Int) ≤ ((i : Nat) : Int)), (((i : Nat) : Int) < ((lb : Nat) : Int)), (0 = 0), ((((i : Nat) : Int)).toNat < (List.length B)), ((0 : Int) ≤ ((i : Nat) : Int)), (((i : Nat) : Int) < ((M : Nat) : Int)), (0 = 0), ((((i : Nat) : Int)).toNat < (List.length L))]) (hs : Sim w0 F0 K ac (jaS A B la lb M L i) cX aX) (hK : ∀ ac cY aY, Sim w0 F0 K ac (mkSt 59 [2, 8, 9, 10, 29, 30] [(.v (.c (.clo 75 ([] : List (Prod Nat Nat))))), (.v (.c (.slc 128 0 la 4))), (.v (.c (.slc 160 0 lb 4))), (.v (.c (.slc 288 0 M 4))), (.v (.c (.int .i64 ((M : Nat) : Int)))), (.v (.c (.int .i64 (IntKind.wrap .i64 (((i : Nat) : Int) + (1 : Int))))))] [128, 160, 288] [(some (.sq (.s A))), (some (.sq (.s B))), (some (.sq (.s (List.set L (((i : Nat) : Int)).toNat ((0 : Fr) + (List.getD B (((i : Nat) : Int)).toNat (0 : Fr)))))))] 816 [] []) cY aY → Wq Try.prog Q (lpBk jaIn_k) ac Exit.normal aY cY.w) : Wq Try.prog Q (lpIn jaIn_k) ac .normal aX cX.w :=
  run_at2 (o := ⟨_, _, _, _, _, _, _⟩) envS1_ok (by kernel_rfl) (jaC_hk A B la lb M L i) ho hs hK
theorem jaX_end (A B : List Fr) (la lb M : Nat) (L : List Fr) (i : Nat) : runEnd envS1 Try.f82 false 3000 (⟨lpIn jaIn_k, .normal, jaS A B la lb M L i⟩) [false] [400] [] = (Option.some ([((decide (((i : Nat) : Int) < ((M : Nat) : Int))) = false), (0 = 0), (M = (List.length L)), (4 = 4), ((List.length L) ≤ 8796093022208)], ((SV.t [(V1.c (It.slc 0 0 (List.length (trimF L)) 4)), (V1.c (It.int IntKind.i64 (0 : Int)))]), [(En.sq (Sq.fr (List.map outF (trimF L))))]))) := by kernel_rfl
noncomputable def jsIn_k : List KI := (run envS1 false 3000 ((fun (a b : List U4) => (⟨[.code (bodyOf Try.f82)], .normal, initSt Try.f82.ntmps [.v (.c (.sl (.fr a))), .v (.c (.sl (.fr b))), .v (.c (.clo 83 []))]⟩ : Cfg)) default default) [false]).cfg.k
theorem jsIn_hk (a b : List U4) : (run envS1 false 3000 ((⟨[.code (bodyOf Try.f82)], .normal, initSt Try.f82.ntmps [.v (.c (.sl (.fr a))), .v (.c (.sl (.fr b))), .v (.c (.clo 83 []))]⟩ : Cfg)) [false]).cfg.k = jsIn_k := by kernel_rfl
theorem jsIn (a b : List U4) {w0 : World} {F0 : Nat → Prop} {K : Kp} {ac : List Act} {Q : Exit → Act → World → Prop} {cX : Ctx} {aX : Act} (ho : AllP [(0 = 0), (2 = (List.length ([a] ++ [b]))), (1 = 1), ((longB ([a] ++ [b])) = false), ((List.length a) ≤ 8796093022208), ((List.length b) ≤ 8796093022208), ((0 : Int) ≤ (ite ((((List.length b) : Nat) : Int) > (((List.length a) : Nat) : Int)) (((List.length b) : Nat) : Int) (((List.length a) : Nat) : Int))), ((ite ((((List.length b) : Nat) : Int) > (((List.length a) : Nat) : Int)) (((List.length b) : Nat) : Int) (((List.length a) : Nat) : Int)) = (ite ((((List.length b) : Nat) : Int) > (((List.length a) : Nat) : Int)) (((List.length b) : Nat) : Int) (((List.length a) : Nat) : Int))), (((32 : Int) * (ite ((((List.length b) : Nat) : Int) > (((List.length a) : Nat) : Int)) (((List.length b) : Nat) : Int) (((List.length a) : Nat) : Int))) ≤ (281474976710656 : Int)), ((ite ((((List.length b) : Nat) : Int) > (((List.length a) : Nat) : Int)) (((List.length b) : Nat) : Int) (((List.length a) : Nat) : Int)) ≤ (9223372036854775807 : Int))]) (hs : Sim w0 F0 K ac (initSt Try.f82.ntmps [.v (.c (.sl (.fr a))), .v (.c (.sl (.fr b))), .v (.c (.clo 83 []))]) cX aX) (hK : ∀ ac cY aY, Sim w0 F0 K ac (mkSt 59 [2, 8, 9, 10, 29, 30] [(.v (.c (.clo 83 ([] : List (Prod Nat Nat))))), (.v (.c (.slc 128 0 (List.length a) 4))), (.v (.c (.slc 160 0 (List.length b) 4))), (.v (.c (.slc 288 0 ((ite ((((List.length b) : Nat) : Int) > (((List.length a) : Nat) : Int)) (((List.length b) : Nat) : Int) (((List.length a) : Nat) : Int))).toNat 4))), (.v (.c (.int .i64 ((((ite ((((List.length b) : Nat) : Int) > (((List.length a) : Nat) : Int)) (((List.length b) : Nat) : Int) (((List.length a) : Nat) : Int))).toNat : Nat) : Int)))), (.v (.c (.int .i64 (0 : Int))))] [128, 160, 288] [(some (.sq (.s (List.map inF a)))), (some (.sq (.s (List.map inF b)))), (some (.sq (.s (List.replicate ((ite ((((List.length b) : Nat) : Int) > (((List.length a) : Nat) : Int)) (((List.length b) : Nat) : Int) (((List.length a) : Nat) : Int))).toNat (0 : Fr)))))] 368 [] []) cY aY → Wq Try.prog Q (jsIn_k) ac Exit.normal aY cY.w) : Wq Try.prog Q ([.code (bodyOf Try.f82)]) ac .normal aX cX.w :=
  run_at2 (o := ⟨_, _, _, _, _, _, _⟩) envS1_ok (by kernel_rfl) (jsIn_hk a b) ho hs hK
noncomputable def jsS (A B : List Fr) (la lb M : Nat) (L : List Fr) (i : Nat) : St := mkSt 59 [2, 8, 9, 10, 29, 30] [(SV.v (V1.c (It.clo 83 ([] : List (Prod Nat Nat))))), .v (.c (.slc 128 0 la 4)), .v (.c (.slc 160 0 lb 4)), .v (.c (.slc 288 0 M 4)), .v (.c (.int .i64 (M : Int))), .v (.c (.int .i64 (i : Int)))] [128, 160, 288] [some (.sq (.s A)), some (.sq (.s B)), some (.sq (.s L))] 368 [] []
theorem jsA_hk (A B : List Fr) (la lb M : Nat) (L : List Fr) (i : Nat) : (run envS1 false 3000 ((⟨lpIn jsIn_k, .normal, jsS A B la lb M L i⟩ : Cfg)) [true, true, true]).cfg.k = lpBk jsIn_k := by kernel_rfl
theorem jsA (A B : List Fr) (la lb M : Nat) (L : List Fr) (i : Nat) {w0 : World} {F0 : Nat → Prop} {K : Kp} {ac : List Act} {Q : Exit → Act → World → Prop} {cX : Ctx} {aX : Act} (ho : AllP [((decide (((i : Nat) : Int) < ((M : Nat) : Int))) = true), ((decide (((i : Nat) : Int) < ((la : Nat) : Int))) = true), ((0 : Int) ≤ ((i : Nat) : Int)), (((i : Nat) : Int) < ((la : Nat) : Int)), (0 = 0), ((((i : Nat) : Int)).toNat < (List.length A)), ((decide (((i : Nat) : Int) < ((lb : Nat) : Int))) = true), ((0 : Int) ≤ ((i : Nat) : Int)), (((i : Nat) : Int) < ((lb : Nat) : Int)), (0 = 0), ((((i : Nat) : Int)).toNat < (List.length B)), ((0 : Int) ≤ ((i : Nat) : Int)), (((i : Nat) : Int) < ((M : Nat) : Int)), (0 = 0), ((((i : Nat) : Int)).toNat < (List.length L))]) (hs : Sim w0 F0 K ac (jsS A B la lb M L i) cX aX) (hK : ∀ ac cY aY, Sim w0 F0 K ac (mkSt 59 [2, 8, 9, 10, 29, 30] [(.v (.c (.clo 83 ([] : List (Prod Nat Nat))))), (.v (.c (.slc 128 0 la 4))), (.v (.c (.slc 160 0 lb 4))), (.v (.c (.slc 288 0 M 4))), (.v (.c (.int .i64 ((M : Nat) : Int)))), (.v (.c (.int .i64 (IntKind.wrap .i64 (((i : Nat) : Int) + (1 : Int))))))] [128, 160, 288] [(some (.sq (.s A))), (some (.sq (.s B))), (some (.sq (.s (List.set L (((i : Nat) : Int)).toNat ((List.getD A (((i : Nat) : Int)).toNat (0 : Fr)) - (List.getD B (((i : Nat) : Int)).toNat (0 : Fr)))))))] 896 [] []) cY aY → Wq Try.prog Q (lpBk jsIn_k) ac Exit.normal aY cY.w) : Wq Try.prog Q (lpIn jsIn_k) ac .normal aX cX.w :=
  run_at2 (o := ⟨_, _, _, _, _, _, _⟩) envS1_ok (by kernel_rfl) (jsA_hk A B la lb M L i) ho hs hK
theorem jsB_hk (A B : List Fr) (la lb M : Nat) (L : List Fr) (i : Nat) : (run envS1 false 3000 ((⟨lpIn jsIn_k, .normal, jsS A B la lb M L i⟩ : Cfg)) [true, true, false]).cfg.k = lpBk jsIn_k := by kernel_rfl
theorem jsB (A B : List Fr) (la lb M : Nat) (L : List Fr) (i : Nat) {w0 : World} {F0 : Nat → Prop} {K : Kp} {ac : List Act} {Q : Exit → Act → World → Prop} {cX : Ctx} {aX : Act} (ho : AllP [((decide (((i : Nat) : Int) < ((M : Nat) : Int))) = true), ((decide (((i : Nat) : Int) < ((la : Nat) : Int))) = true), ((0 : Int) ≤ ((i : Nat) : Int)), (((i : Nat) : Int) < ((la : Nat) : Int)), (0 = 0), ((((i : Nat) : Int)).toNat < (List.length A)), ((decide (((i : Nat) : Int) < ((lb : Nat) : Int))) = false), ((0 : Int) ≤ ((i : Nat) : Int)), (((i : Nat) : Int) < ((M : Nat) : Int)), (0 = 0), ((((i : Nat) : Int)).toNat < (List.length L))]) (hs : Sim w0 F0 K ac (jsS A B la lb M L i) cX aX) (hK : ∀ ac cY aY, Sim w0 F0 K ac (mkSt 59 [2, 8, 9, 10, 29, 30] [(.v (.c (.clo 83 ([] : List (Prod Nat Nat))))), (.v (.c (.slc 128 0 la 4))), (.v (.c (.slc 160 0 lb 4))), (.v (.c (.slc 288 0 M 4))), (.v (.c (.int .i64 ((M : Nat) : Int)))), (.v (.c (.int .i64 (IntKind.wrap .i64 (((i : Nat) : Int) + (1 : Int))))))] [128, 160, 288] [(some (.sq (.s A))), (some (.sq (.s B))), (some (.sq (.s (List.set L (((i : Nat) : Int)).toNat ((List.getD A (((i : Nat) : Int)).toNat (0 : Fr)) - (0 : Fr))))))] 816 [] []) cY aY → Wq Try.prog Q (lpBk jsIn_k) ac Exit.normal aY cY.w) : Wq Try.prog Q (lpIn jsIn_k) ac .normal aX cX.w :=
  run_at2 (o := ⟨_, _, _, _, _, _, _⟩) envS1_ok (by kernel_rfl) (jsB_hk A B la lb M L i) ho hs hK
theorem jsC_hk (A B : List Fr) (la lb M : Nat) (L : List Fr) (i : Nat) : (run envS1 false 3000 ((⟨lpIn jsIn_k, .normal, jsS A B la lb M L i⟩ : Cfg)) [true, false, true]).cfg.k = lpBk jsIn_k := by kernel_rfl
theorem jsC (A B : List Fr) (la lb M : Nat) (L : List Fr) (i : Nat) {w0 : World} {F0 : Nat → Prop} {K : Kp} {ac : List Act} {Q : Exit → Act → World → Prop} {cX : Ctx} {aX : Act} (ho : AllP [((decide (((i : Nat) : Int) < ((M : Nat) : Int))) = true), ((decide (((i : Nat) : Int) < ((la : Nat) : Int))) = false), ((decide (((i : Nat) : Int) < ((lb : Nat) : Int))) = true), ((0 : Int) ≤ ((i : Nat) : Int)), (((i : Nat) : Int) < ((lb : Nat) : Int)), (0 = 0), ((((i : Nat) : Int)).toNat < (List.length B)), ((0 : Int) ≤ ((i : Nat) : Int)), (((i : Nat) : Int) < ((M : Nat) : Int)), (0 = 0), ((((i : Nat) : Int)).toNat < (List.length L))]) (hs : Sim w0 F0 K ac (jsS A B la lb M L i) cX aX) (hK : ∀ ac cY aY, Sim w0 F0 K ac (mkSt 59 [2, 8, 9, 10, 29, 30] [(.v (.c (.clo 83 ([] : List (Prod Nat Nat))))), (.v (.c (.slc 128 0 la 4))), (.v (.c (.slc 160 0 lb 4))), (.v (.c (.slc 288 0 M 4))), (.v (.c (.int .i64 ((M : Nat) : Int)))), (.v (.c (.int .i64 (IntKind.wrap .i64 (((i : Nat) : Int) + (1 : Int))))))] [128, 160, 288] [(some (.sq (.s A))), (some (.sq (.s B))), (some (.sq (.s (List.set L (((i : Nat) : Int)).toNat ((0 : Fr) - (List.getD B (((i : Nat) : Int)).toNat (0 : Fr)))))))] 816 [] []) cY aY → Wq Try.prog Q (lpBk jsIn_k) ac Exit.normal aY cY.w) : Wq Try.prog Q (lpIn jsIn_k) ac .normal aX cX.w :=
  run_at2 (o := ⟨_, _, _, _, _, _, _⟩) envS1_ok (by kernel_rfl) (jsC_hk A B la lb M L i) ho hs hK
theorem jsX_end (A B : List Fr) (la lb M : Nat) (L : List Fr) (i : Nat) : runEnd envS1 Try.f82 false 3000 (⟨lpIn jsIn_k, .normal, jsS A B la lb M L i⟩) [false] [400] [] = (Option.some ([((decide (((i : Nat) : Int) < ((M : Nat) : Int))) = false), (0 = 0), (M = (List.length L)), (4 = 4), ((List.length L) ≤ 8796093022208)], ((SV.t [(V1.c (It.slc 0 0 (List.length (trimF L)) 4)), (V1.c (It.int IntKind.i64 (0 : Int)))]), [(En.sq (Sq.fr (List.map outF (trimF L))))]))) := by kernel_rfl
noncomputable def rsIn_k : List KI := (run envS1 false 3000 ((fun (a : List U4) (k : U4) => (⟨[.code (bodyOf Try.f46)], .normal, initSt Try.f46.ntmps [.v (.c (.sl (.fr a))), .v (.a [.ob (.fr k)])]⟩ : Cfg)) default default) []).cfg.k
theorem rsIn_hk (a : List U4) (k : U4) : (run envS1 false 3000 ((⟨[.code (bodyOf Try.f46)], .normal, initSt Try.f46.ntmps [.v (.c (.sl (.fr a))), .v (.a [.ob (.fr k)])]⟩ : Cfg)) []).cfg.k = rsIn_k := by kernel_rfl
theorem rsIn (a : List U4) (k : U4) {w0 : World} {F0 : Nat → Prop} {K : Kp} {ac : List Act} {Q : Exit → Act → World → Prop} {cX : Ctx} {aX : Act} (ho : AllP []) (hs : Sim w0 F0 K ac (initSt Try.f46.ntmps [.v (.c (.sl (.fr a))), .v (.a [.ob (.fr k)])]) cX aX) (hK : ∀ ac cY aY, Sim w0 F0 K ac (mkSt 25 [0, 3, 5, 9, 10] [(.v (.c (.sl (.fr a)))), (.v (.c (.ptr 16 0))), (.v (.c (.slc 48 0 0 4))), (.v (.c (.int .i64 (((List.length a) : Nat) : Int)))), (.v (.c (.int .i64 (0 : Int))))] [16, 48] [(some (.fl [(.ob (.fr k))])), (some (.sq (.fr ([] : List U4))))] 128 [] []) cY aY → Wq Try.prog Q (rsIn_k) ac Exit.normal aY cY.w) : Wq Try.prog Q ([.code (bodyOf Try.f46)]) ac .normal aX cX.w :=
  run_at2 (o := ⟨_, _, _, _, _, _, _⟩) envS1_ok (by kernel_rfl) (rsIn_hk a k) ho hs hK
noncomputable def rsS (a : List U4) (k : U4) (M N : Nat) (L : List U4) (i : Nat) : St := mkSt 25 [0, 3, 5, 9, 10] [(SV.v (V1.c (It.sl (Sq.fr a)))), (SV.v (V1.c (It.ptr 16 0))), .v (.c (.slc 48 0 N 4)), .v (.c (.int .i64 (M : Int))), .v (.c (.int .i64 (i : Int)))] [16, 48] [(Option.some (En.fl [(It.ob (Ob.fr k))])), some (.sq (.fr L))] 128 [] []
theorem rsN_hk (a : List U4) (k : U4) (M N : Nat) (L : List U4) (i : Nat) : (run envS1 false 3000 ((⟨lpIn rsIn_k, .normal, rsS a k M N L i⟩ : Cfg)) [true]).cfg.k = lpBk rsIn_k := by kernel_rfl
theorem rsN (a : List U4) (k : U4) (M N : Nat) (L : List U4) (i : Nat) {w0 : World} {F0 : Nat → Prop} {K : Kp} {ac : List Act} {Q : Exit → Act → World → Prop} {cX : Ctx} {aX : Act} (ho : AllP [((decide (((i : Nat) : Int) < ((M : Nat) : Int))) = true), ((0 : Int) ≤ ((i : Nat) : Int)), ((Fin.val (cleanU k)) < rN), ((((List.length L) + 1) * 32) ≤ 140737488355328), (((List.length L) + 1) ≤ maxLen), (N = (List.length L)), (1 = 1)]) (hs : Sim w0 F0 K ac (rsS a k M N L i) cX aX) (hK : ∀ ac cY aY, Sim w0 F0 K ac (mkSt 25 [0, 3, 5, 9, 10] [(.v (.c (.sl (.fr a)))), (.v (.c (.ptr 16 0))), (.v (.c (.slc 48 0 ((List.length L) + 1) 4))), (.v (.c (.int .i64 ((M : Nat) : Int)))), (.v (.c (.int .i64 (IntKind.wrap .i64 (((i : Nat) : Int) + (1 : Int))))))] [16, 48] [(some (.fl [(.ob (.fr k))])), (some (.sq (.fr (L ++ [(mulU (outF (List.getD (List.map inF a) (((i : Nat) : Int)).toNat (0 : Fr))) (cleanU k))]))))] 368 [] []) cY aY → Wq Try.prog Q (lpBk rsIn_k) ac Exit.normal aY cY.w) : Wq Try.prog Q (lpIn rsIn_k) ac .normal aX cX.w :=
  run_at2 (o := ⟨_, _, _, _, _, _, _⟩) envS1_ok (by kernel_rfl) (rsN_hk a k M N L i) ho hs hK
theorem rsX_end (a : List U4) (k : U4) (M N : Nat) (L : List U4) (i : Nat) : runEnd envS1 Try.f46 false 3000 (⟨lpIn rsIn_k, .normal, rsS a k M N L i⟩) [false] [160] [] = (Option.some ([((decide (((i : Nat) : Int) < ((M : Nat) : Int))) = false), (0 = 0), (N = (List.length L)), (4 = 4), ((List.length L) ≤ 1099511627776)], ((SV.v (V1.c (It.slc 0 0 (List.length (trimF (List.map inF L))) 4))), [(En.sq (Sq.fr (List.map outF (trimF (List.map inF L)))))]))) := by kernel_rfl
end Go.Proofs.Ytlfllehomhcbfaa

/- Sums, differences, multiples of polynomials: contracts. No conditions. -/
namespace Go.Proofs.Ytlfllehomhcbfaa

def subL (a b : List Fr) : List Fr := (List.range (Nat.max a.length b.length)).map fun i => cf a i - cf b i
def scaleL (a : List Fr) (k : Fr) : List Fr := (List.range a.length).map fun i => cf a i * k

theorem sub_self0 {r : Nat} [NeZero r] : (0 : Fin r) - 0 = 0 := by grind

theorem subL_cf (a b : List Fr) (i : Nat) : cf (subL a b) i = cf a i - cf b i := by
  refine cf_range (fun i => cf a i - cf b i) _ _ fun j hj => ?_
  have h1 := Nat.le_max_left a.length b.length
  have h2 := Nat.le_max_right a.length b.length
  have hj : max a.length b.length ≤ j := hj
  rw [cf_out (l := a) (by omega), cf_out (l := b) (by omega)]
  exact sub_self0

theorem scaleL_cf (a : List Fr) (k : Fr) (i : Nat) : cf (scaleL a k) i = cf a i * k := by
  refine cf_range (fun i => cf a i * k) _ _ fun j hj => ?_
  rw [cf_out (l := a) hj, fr_zero_mul]

theorem max_int (m n : Nat) : (if (n : Int) > (m : Int) then (n : Int) else (m : Int)) = ((max m n : Nat) : Int) := by
  split <;> omega
theorem max_two (m n : Nat) : m ≤ max m n ∧ n ≤ max m n ∧ (max m n = m ∨ max m n = n) := by omega

theorem long_two {a b : List U4} (ha : a.length ≤ 262144) (hb : b.length ≤ 262144) : longB ([a] ++ [b]) = false := by
  show (decide (262144 < a.length) || (decide (262144 < b.length) || false)) = false
  rw [decide_eq_false (by omega), decide_eq_false (by omega)]
  rfl

theorem joinAdd_fnd (a b : List U4) (ha : a.length ≤ 262144) (hb : b.length ≤ 262144) : FnD Try.prog 82 [.v (.c (.sl (.fr a))), .v (.c (.sl (.fr b))), .v (.c (.clo 75 []))]
    (.t [.c (.slc 0 0 (trimF (addL (a.map inF) (b.map inF))).length 4), .c (.int .i64 0)]) [.sq (.fr ((trimF (addL (a.map inF) (b.map inF))).map outF))] := by
  refine fn_start (fn := Try.f82) (c := bodyOf Try.f82) Try.func82 rfl rfl fun x a0 hk hF hs => ?_
  have hM := max_int a.length b.length
  have hM2 := max_two a.length b.length
  refine jaIn a b (by rw [hM]; exact ⟨rfl, rfl, rfl, long_two ha hb, by omega, by omega, by omega, rfl, by omega, by omega, trivial⟩) hs fun ac cY aY hs1 => ?_
  rw [hM, Int.toNat_natCast] at hs1
  have hR : addL (a.map inF) (b.map inF) = (List.range (max a.length b.length)).map fun i => cf (a.map inF) i + cf (b.map inF) i := by
    unfold addL
    rw [List.length_map, List.length_map]
  have hAl : (a.map inF).length = a.length := List.length_map ..
  have hBl : (b.map inF).length = b.length := List.length_map ..
  generalize a.map inF = A at *
  generalize b.map inF = B at *
  generalize max a.length b.length = M at *
  generalize a.length = la at *
  generalize b.length = lb at *
  clear hM hs
  refine loop_rule (ι := { i : Nat // i ≤ M }) (fun i => jaS A B la lb M ((List.range i.1).map (fun i => cf A i + cf B i) ++ List.replicate (M - i.1) 0) i.1) (fun i => M - i.1) (c := lpC jaIn_k) (k := lpR jaIn_k) (by kernel_rfl) (fun i ih ac cY aY hs => ?_) ⟨0, Nat.zero_le _⟩ hs1
  obtain ⟨i, hi⟩ := i
  simp only at ih hs
  have hl := fill_len (fun i => cf A i + cf B i) 0 hi
  by_cases h : i < M
  · have hw : IntKind.wrap IntKind.i64 ((i : Int) + 1) = ((i + 1 : Nat) : Int) := by rw [wrap_id (by omega) (by omega)]; omega
    have hset := fill_set (fun i => cf A i + cf B i) 0 h
    by_cases h1 : i < la
    · by_cases h2 : i < lb
      · refine jaA A B la lb M _ i ⟨by simp [h], by simp [h1], by omega, by omega, rfl, by omega, by simp [h2], by omega, by omega, rfl, by omega, by omega, by omega, rfl, by omega, trivial⟩ hs fun ac cY aY hs2 => ?_
        rw [hw, Int.toNat_natCast] at hs2
        have hs2 := hs2
        rw [show A.getD i 0 + B.getD i 0 = cf A i + cf B i from rfl, hset] at hs2
        exact ih ⟨i + 1, by omega⟩ (by show M - (i + 1) < M - i; omega) ac cY aY (hs2.nx _)
      · refine jaB A B la lb M _ i ⟨by simp [h], by simp [h1], by omega, by omega, rfl, by omega, by simp [h2], by omega, by omega, rfl, by omega, trivial⟩ hs fun ac cY aY hs2 => ?_
        rw [hw, Int.toNat_natCast] at hs2
        have e0 : A.getD i 0 + 0 = cf A i + cf B i := by rw [cf_out (l := B) (by omega)]; rfl
        rw [e0, hset] at hs2
        exact ih ⟨i + 1, by omega⟩ (by show M - (i + 1) < M - i; omega) ac cY aY (hs2.nx _)
    · have h2 : i < lb := by omega
      refine jaC A B la lb M _ i ⟨by simp [h], by simp [h1], by simp [h2], by omega, by omega, rfl, by omega, by omega, by omega, rfl, by omega, trivial⟩ hs fun ac cY aY hs2 => ?_
      rw [hw, Int.toNat_natCast] at hs2
      have e0 : (0 : Fr) + B.getD i 0 = cf A i + cf B i := by rw [cf_out (l := A) (by omega)]; rfl
      rw [e0, hset] at hs2
      exact ih ⟨i + 1, by omega⟩ (by show M - (i + 1) < M - i; omega) ac cY aY (hs2.nx _)
  · have e : i = M := by omega
    rw [e, Nat.sub_self, List.replicate_zero, List.append_nil, ← hR] at hs
    have hRl : (addL A B).length = M := by rw [hR, List.length_map, List.length_range]
    exact run_end2 envS1_ok hk hF (jaX_end A B la lb M _ M) ⟨by simp, rfl, hRl.symm, rfl, by omega, trivial⟩ (fun y v hd => hd) hs

theorem joinSub_fnd (a b : List U4) (ha : a.length ≤ 262144) (hb : b.length ≤ 262144) : FnD Try.prog 82 [.v (.c (.sl (.fr a))), .v (.c (.sl (.fr b))), .v (.c (.clo 83 []))]
    (.t [.c (.slc 0 0 (trimF (subL (a.map inF) (b.map inF))).length 4), .c (.int .i64 0)]) [.sq (.fr ((trimF (subL (a.map inF) (b.map inF))).map outF))] := by
  refine fn_start (fn := Try.f82) (c := bodyOf Try.f82) Try.func82 rfl rfl fun x a0 hk hF hs => ?_
  have hM := max_int a.length b.length
  have hM2 := max_two a.length b.length
  refine jsIn a b (by rw [hM]; exact ⟨rfl, rfl, rfl, long_two ha hb, by omega, by omega, by omega, rfl, by omega, by omega, trivial⟩) hs fun ac cY aY hs1 => ?_
  rw [hM, Int.toNat_natCast] at hs1
  have hR : subL (a.map inF) (b.map inF) = (List.range (max a.length b.length)).map fun i => cf (a.map inF) i - cf (b.map inF) i := by
    unfold subL
    rw [List.length_map, List.length_map]
  have hAl : (a.map inF).length = a.length := List.length_map ..
  have hBl : (b.map inF).length = b.length := List.length_map ..
  generalize a.map inF = A at *
  generalize b.map inF = B at *
  generalize max a.length b.length = M at *
  generalize a.length = la at *
  generalize b.length = lb at *
  clear hM hs
  refine loop_rule (ι := { i : Nat // i ≤ M }) (fun i => jsS A B la lb M ((List.range i.1).map (fun i => cf A i - cf B i) ++ List.replicate (M - i.1) 0) i.1) (fun i => M - i.1) (c := lpC jsIn_k) (k := lpR jsIn_k) (by kernel_rfl) (fun i ih ac cY aY hs => ?_) ⟨0, Nat.zero_le _⟩ hs1
  obtain ⟨i, hi⟩ := i
  simp only at ih hs
  have hl := fill_len (fun i => cf A i - cf B i) 0 hi
  by_cases h : i < M
  · have hw : IntKind.wrap IntKind.i64 ((i : Int) + 1) = ((i + 1 : Nat) : Int) := by rw [wrap_id (by omega) (by omega)]; omega
    have hset := fill_set (fun i => cf A i - cf B i) 0 h
    by_cases h1 : i < la
    · by_cases h2 : i < lb
      · refine jsA A B la lb M _ i ⟨by simp [h], by simp [h1], by omega, by omega, rfl, by omega, by simp [h2], by omega, by omega, rfl, by omega, by omega, by omega, rfl, by omega, trivial⟩ hs fun ac cY aY hs2 => ?_
        rw [hw, Int.toNat_natCast] at hs2
        have hs2 := hs2
        rw [show A.getD i 0 - B.getD i 0 = cf A i - cf B i from rfl, hset] at hs2
        exact ih ⟨i + 1, by omega⟩ (by show M - (i + 1) < M - i; omega) ac cY aY (hs2.nx _)
      · refine jsB A B la lb M _ i ⟨by simp [h], by simp [h1], by omega, by omega, rfl, by omega, by simp [h2], by omega, by omega, rfl, by omega, trivial⟩ hs fun ac cY aY hs2 => ?_
        rw [hw, Int.toNat_natCast] at hs2
        have e0 : A.getD i 0 - 0 = cf A i - cf B i := by rw [cf_out (l := B) (by omega)]; rfl
        rw [e0, hset] at hs2
        exact ih ⟨i + 1, by omega⟩ (by show M - (i + 1) < M - i; omega) ac cY aY (hs2.nx _)
    · have h2 : i < lb := by omega
      refine jsC A B la lb M _ i ⟨by simp [h], by simp [h1], by simp [h2], by omega, by omega, rfl, by omega, by omega, by omega, rfl, by omega, trivial⟩ hs fun ac cY aY hs2 => ?_
      rw [hw, Int.toNat_natCast] at hs2
      have e0 : (0 : Fr) - B.getD i 0 = cf A i - cf B i := by rw [cf_out (l := A) (by omega)]; rfl
      rw [e0, hset] at hs2
      exact ih ⟨i + 1, by omega⟩ (by show M - (i + 1) < M - i; omega) ac cY aY (hs2.nx _)
  · have e : i = M := by omega
    rw [e, Nat.sub_self, List.replicate_zero, List.append_nil, ← hR] at hs
    have hRl : (subL A B).length = M := by rw [hR, List.length_map, List.length_range]
    exact run_end2 envS1_ok hk hF (jsX_end A B la lb M _ M) ⟨by simp, rfl, hRl.symm, rfl, by omega, trivial⟩ (fun y v hd => hd) hs

theorem refScale_fnd (a : List U4) (k : U4) (ha : a.length ≤ 1073741824) : FnD Try.prog 46 [.v (.c (.sl (.fr a))), .v (.a [.ob (.fr k)])]
    (.v (.c (.slc 0 0 (trimF (scaleL (a.map inF) (inF k))).length 4))) [.sq (.fr ((trimF (scaleL (a.map inF) (inF k))).map outF))] := by
  refine fn_start (fn := Try.f46) (c := bodyOf Try.f46) Try.func46 rfl rfl fun x a0 hk hF hs => ?_
  refine rsIn a k trivial hs fun ac cY aY hs1 => ?_
  refine loop_rule (ι := { i : Nat // i ≤ a.length }) (fun i => rsS a k a.length i.1 ((List.range i.1).map fun j => outF (cf (a.map inF) j * inF k)) i.1) (fun i => a.length - i.1) (c := lpC rsIn_k) (k := lpR rsIn_k) (by kernel_rfl) (fun i ih ac cY aY hs => ?_) ⟨0, Nat.zero_le _⟩ hs1
  obtain ⟨i, hi⟩ := i
  simp only at ih hs
  have hl : ((List.range i).map fun j => outF (cf (a.map inF) j * inF k)).length = i := by rw [List.length_map, List.length_range]
  by_cases h : i < a.length
  · refine rsN a k a.length i _ i ⟨by simp [h], by omega, clean_lt k, by rw [hl]; omega, by rw [hl]; unfold maxLen; omega, hl.symm, rfl, trivial⟩ hs fun ac cY aY hs2 => ?_
    rw [hl, Int.toNat_natCast, clean_out, mulU_out, show (a.map inF).getD i 0 = cf (a.map inF) i from rfl, range_snoc (fun j => outF (cf (a.map inF) j * inF k)), wrap_id (by omega) (by omega)] at hs2
    exact ih ⟨i + 1, by omega⟩ (by show a.length - (i + 1) < a.length - i; omega) ac cY aY (hs2.nx _)
  · have e : i = a.length := by omega
    have hR : scaleL (a.map inF) (inF k) = (List.range a.length).map fun j => cf (a.map inF) j * inF k := by
      unfold scaleL
      rw [List.length_map]
    have r := rsX_end a k a.length i ((List.range i).map fun j => outF (cf (a.map inF) j * inF k)) i
    have e2 : ((List.range i).map fun j => outF (cf (a.map inF) j * inF k)).map inF = scaleL (a.map inF) (inF k) := by rw [map_range_out, map_in_out, hR, e]
    rw [e2] at r
    exact run_end2 envS1_ok hk hF r ⟨by simp [h], rfl, hl.symm, rfl, by rw [hl]; omega, trivial⟩ (fun y v hd => hd) hs

end Go.Proofs.Ytlfllehomhcbfaa

/- Multiples of polynomials; sums and differences joined, walked. No conditions. -/
namespace Go.Proofs.Ytlfllehomhcbfaa

/-- Stepped into besides: join, and what Scale hands it. -/
noncomputable def inlJ (T : Nat → Option Func) (f : Nat) : Option Func := if f = 82 then some Try.f82 else if f = 84 then some Try.f84 else T f
noncomputable def envJn : Env := { envS1 with inl := inlJ envS1.inl }
theorem envJn_ok : EnvOk Try.prog envJn := by
  refine ⟨envS1_ok.ty, envS1_ok.mixed, envS1_ok.fn, envS1_ok.mu, fun f fn h => ?_, envS1_ok.ex, envS1_ok.inv⟩
  have h : inlJ envS1.inl f = some fn := h
  unfold inlJ at h
  split at h
  · rename_i hf; cases h; subst hf; exact ⟨Try.func82, enters_of Try.func82 rfl rfl⟩
  split at h
  · rename_i hf; cases h; subst hf; exact ⟨Try.func84, enters_of Try.func84 rfl rfl⟩
  exact envS1_ok.inl f fn h

--@env envJn envJn_ok
noncomputable def scIn_k : List KI := (run envJn false 3000 ((fun (a : List U4) (k : U4) => (⟨[.code (bodyOf Try.f43)], .normal, initSt Try.f43.ntmps [.v (.c (.sl (.fr a))), .v (.a [.ob (.fr k)])]⟩ : Cfg)) default default) [false]).cfg.k
theorem scIn_hk (a : List U4) (k : U4) : (run envJn false 3000 ((⟨[.code (bodyOf Try.f43)], .normal, initSt Try.f43.ntmps [.v (.c (.sl (.fr a))), .v (.a [.ob (.fr k)])]⟩ : Cfg)) [false]).cfg.k = scIn_k := by kernel_rfl
theorem scIn (a : List U4) (k : U4) {w0 : World} {F0 : Nat → Prop} {K : Kp} {ac : List Act} {Q : Exit → Act → World → Prop} {cX : Ctx} {aX : Act} (ho : AllP [(0 = 0), (2 = (List.length ([a] ++ [[]]))), (1 = 1), ((longB ([a] ++ [[]])) = false), ((List.length a) ≤ 8796093022208), ((0 : Int) ≤ (ite ((0 : Int) > (((List.length a) : Nat) : Int)) (0 : Int) (((List.length a) : Nat) : Int))), ((ite ((0 : Int) > (((List.length a) : Nat) : Int)) (0 : Int) (((List.length a) : Nat) : Int)) = (ite ((0 : Int) > (((List.length a) : Nat) : Int)) (0 : Int) (((List.length a) : Nat) : Int))), (((32 : Int) * (ite ((0 : Int) > (((List.length a) : Nat) : Int)) (0 : Int) (((List.length a) : Nat) : Int))) ≤ (281474976710656 : Int)), ((ite ((0 : Int) > (((List.length a) : Nat) : Int)) (0 : Int) (((List.length a) : Nat) : Int)) ≤ (9223372036854775807 : Int))]) (hs : Sim w0 F0 K ac (initSt Try.f43.ntmps [.v (.c (.sl (.fr a))), .v (.a [.ob (.fr k)])]) cX aX) (hK : ∀ ac cY aY, Sim w0 F0 K ac (mkSt 59 [2, 8, 9, 10, 29, 30] [(.v (.c (.clo 84 [(96, 0)]))), (.v (.c (.slc 272 0 (List.length a) 4))), (.v (.c (.slc 304 0 0 4))), (.v (.c (.slc 432 0 ((ite ((0 : Int) > (((List.length a) : Nat) : Int)) (0 : Int) (((List.length a) : Nat) : Int))).toNat 4))), (.v (.c (.int .i64 ((((ite ((0 : Int) > (((List.length a) : Nat) : Int)) (0 : Int) (((List.length a) : Nat) : Int))).toNat : Nat) : Int)))), (.v (.c (.int .i64 (0 : Int))))] [96, 272, 304, 432] [(some (.fl [(.ob (.s (inF k)))])), (some (.sq (.s (List.map inF a)))), (some (.sq (.s ([] : List Fr)))), (some (.sq (.s (List.replicate ((ite ((0 : Int) > (((List.length a) : Nat) : Int)) (0 : Int) (((List.length a) : Nat) : Int))).toNat (0 : Fr)))))] 512 [[]] [([], 14)]) cY aY → Wq Try.prog Q (scIn_k) ac Exit.normal aY cY.w) : Wq Try.prog Q ([.code (bodyOf Try.f43)]) ac .normal aX cX.w :=
  run_at2 (o := ⟨_, _, _, _, _, _, _⟩) envJn_ok (by kernel_rfl) (scIn_hk a k) ho hs hK
noncomputable def scS (A : List Fr) (kk : Fr) (la M : Nat) (L : List Fr) (i : Nat) : St := mkSt 59 [2, 8, 9, 10, 29, 30] [(SV.v (V1.c (It.clo 84 [(96, 0)]))), .v (.c (.slc 272 0 la 4)), (SV.v (V1.c (It.slc 304 0 0 4))), .v (.c (.slc 432 0 M 4)), .v (.c (.int .i64 (M : Int))), .v (.c (.int .i64 (i : Int)))] [96, 272, 304, 432] [some (.fl [.ob (.s kk)]), some (.sq (.s A)), (Option.some (En.sq (Sq.s ([] : List Fr)))), some (.sq (.s L))] 512 [[]] [([], 14)]
theorem scN_hk (A : List Fr) (kk : Fr) (la M : Nat) (L : List Fr) (i : Nat) : (run envJn false 3000 ((⟨lpIn scIn_k, .normal, scS A kk la M L i⟩ : Cfg)) [true, true, false]).cfg.k = lpBk scIn_k := by kernel_rfl
theorem scN (A : List Fr) (kk : Fr) (la M : Nat) (L : List Fr) (i : Nat) {w0 : World} {F0 : Nat → Prop} {K : Kp} {ac : List Act} {Q : Exit → Act → World → Prop} {cX : Ctx} {aX : Act} (ho : AllP [((decide (((i : Nat) : Int) < ((M : Nat) : Int))) = true), ((decide (((i : Nat) : Int) < ((la : Nat) : Int))) = true), ((0 : Int) ≤ ((i : Nat) : Int)), (((i : Nat) : Int) < ((la : Nat) : Int)), (0 = 0), ((((i : Nat) : Int)).toNat < (List.length A)), ((decide (((i : Nat) : Int) < (0 : Int))) = false), ((0 : Int) ≤ ((i : Nat) : Int)), (((i : Nat) : Int) < ((M : Nat) : Int)), (0 = 0), ((((i : Nat) : Int)).toNat < (List.length L))]) (hs : Sim w0 F0 K ac (scS A kk la M L i) cX aX) (hK : ∀ ac cY aY, Sim w0 F0 K ac (mkSt 59 [2, 8, 9, 10, 29, 30] [(.v (.c (.clo 84 [(96, 0)]))), (.v (.c (.slc 272 0 la 4))), (.v (.c (.slc 304 0 0 4))), (.v (.c (.slc 432 0 M 4))), (.v (.c (.int .i64 ((M : Nat) : Int)))), (.v (.c (.int .i64 (IntKind.wrap .i64 (((i : Nat) : Int) + (1 : Int))))))] [96, 272, 304, 432] [(some (.fl [(.ob (.s kk))])), (some (.sq (.s A))), (some (.sq (.s ([] : List Fr)))), (some (.sq (.s (List.set L (((i : Nat) : Int)).toNat ((List.getD A (((i : Nat) : Int)).toNat (0 : Fr)) * kk)))))] 1056 [[]] [([], 14)]) cY aY → Wq Try.prog Q (lpBk scIn_k) ac Exit.normal aY cY.w) : Wq Try.prog Q (lpIn scIn_k) ac .normal aX cX.w :=
  run_at2 (o := ⟨_, _, _, _, _, _, _⟩) envJn_ok (by kernel_rfl) (scN_hk A kk la M L i) ho hs hK
theorem scX_end (A : List Fr) (kk : Fr) (la M : Nat) (L : List Fr) (i : Nat) : runEnd envJn Try.f43 false 3000 (⟨lpIn scIn_k, .normal, scS A kk la M L i⟩) [false] [544] [] = (Option.some ([((decide (((i : Nat) : Int) < ((M : Nat) : Int))) = false), (0 = 0), (M = (List.length L)), (4 = 4), ((List.length L) ≤ 8796093022208)], ((SV.t [(V1.c (It.slc 0 0 (List.length (trimF L)) 4)), (V1.c (It.int IntKind.i64 (0 : Int)))]), [(En.sq (Sq.fr (List.map outF (trimF L))))]))) := by kernel_rfl

theorem max_zero (m : Nat) : (if (0 : Int) > (m : Int) then (0 : Int) else (m : Int)) = (m : Int) := if_neg (by omega)

theorem scale_fnd (a : List U4) (k : U4) (ha : a.length ≤ 262144) : FnD Try.prog 43 [.v (.c (.sl (.fr a))), .v (.a [.ob (.fr k)])]
    (.t [.c (.slc 0 0 (trimF (scaleL (a.map inF) (inF k))).length 4), .c (.int .i64 0)]) [.sq (.fr ((trimF (scaleL (a.map inF) (inF k))).map outF))] := by
  refine fn_start (fn := Try.f43) (c := bodyOf Try.f43) Try.func43 rfl rfl fun x a0 hk hF hs => ?_
  have hM := max_zero a.length
  refine scIn a k (by rw [hM]; exact ⟨rfl, rfl, rfl, long_two ha (Nat.zero_le _), by omega, by omega, rfl, by omega, by omega, trivial⟩) hs fun ac cY aY hs1 => ?_
  rw [hM, Int.toNat_natCast] at hs1
  have hR : scaleL (a.map inF) (inF k) = (List.range a.length).map fun i => cf (a.map inF) i * inF k := by
    unfold scaleL
    rw [List.length_map]
  have hAl : (a.map inF).length = a.length := List.length_map ..
  generalize a.map inF = A at *
  generalize inF k = K at *
  generalize a.length = M at *
  clear hM hs
  refine loop_rule (ι := { i : Nat // i ≤ M }) (fun i => scS A K M M ((List.range i.1).map (fun i => cf A i * K) ++ List.replicate (M - i.1) 0) i.1) (fun i => M - i.1) (c := lpC scIn_k) (k := lpR scIn_k) (by kernel_rfl) (fun i ih ac cY aY hs => ?_) ⟨0, Nat.zero_le _⟩ hs1
  obtain ⟨i, hi⟩ := i
  simp only at ih hs
  have hl := fill_len (fun i => cf A i * K) 0 hi
  by_cases h : i < M
  · have hw : IntKind.wrap IntKind.i64 ((i : Int) + 1) = ((i + 1 : Nat) : Int) := by rw [wrap_id (by omega) (by omega)]; omega
    have hset := fill_set (fun i => cf A i * K) 0 h
    refine scN A K M M _ i ⟨by simp [h], by simp [h], by omega, by omega, rfl, by omega, by simp only [decide_eq_false_iff_not]; omega, by omega, by omega, rfl, by omega, trivial⟩ hs fun ac cY aY hs2 => ?_
    rw [hw, Int.toNat_natCast, show A.getD i 0 * K = cf A i * K from rfl, hset] at hs2
    exact ih ⟨i + 1, by omega⟩ (by show M - (i + 1) < M - i; omega) ac cY aY (hs2.nx _)
  · have e : i = M := by omega
    rw [e, Nat.sub_self, List.replicate_zero, List.append_nil, ← hR] at hs
    have hRl : (scaleL A K).length = M := by rw [hR, List.length_map, List.length_range]
    exact run_end2 envJn_ok hk hF (scX_end A K M M _ M) ⟨by simp, rfl, hRl.symm, rfl, by omega, trivial⟩ (fun y v hd => hd) hs

def join82Spec : FnSpec
  | [.v (.c (.sl (.fr a))), .v (.c (.sl (.fr b))), .v (.c (.clo 75 []))] => some ([a.length ≤ 262144, b.length ≤ 262144], .t [.c (.slc 0 0 (trimF (addL (a.map inF) (b.map inF))).length 4), .c (.int .i64 0)], [.sq (.fr ((trimF (addL (a.map inF) (b.map inF))).map outF))])
  | [.v (.c (.sl (.fr a))), .v (.c (.sl (.fr b))), .v (.c (.clo 83 []))] => some ([a.length ≤ 262144, b.length ≤ 262144], .t [.c (.slc 0 0 (trimF (subL (a.map inF) (b.map inF))).length 4), .c (.int .i64 0)], [.sq (.fr ((trimF (subL (a.map inF) (b.map inF))).map outF))])
  | _ => none
noncomputable def envT1 : Env := envS1.set (addT envS1.fn 82 join82Spec)
theorem envT1_ok : EnvOk Try.prog envT1 := env_add envS1_ok 82 join82Spec (enters_of Try.func82 rfl rfl) fun args o r es h ho => by
  unfold join82Spec at h
  split at h
  · cases h; exact joinAdd_fnd _ _ ho.1 ho.2.1
  · cases h; exact joinSub_fnd _ _ ho.1 ho.2.1
  · cases h
def scaleSpec : FnSpec
  | [.v (.c (.sl (.fr a))), .v (.a [.ob (.fr k)])] => some ([a.length ≤ 262144], .t [.c (.slc 0 0 (trimF (scaleL (a.map inF) (inF k))).length 4), .c (.int .i64 0)], [.sq (.fr ((trimF (scaleL (a.map inF) (inF k))).map outF))])
  | _ => none
noncomputable def envT2 : Env := envT1.set (addT envT1.fn 43 scaleSpec)
theorem envT2_ok : EnvOk Try.prog envT2 := env_add envT1_ok 43 scaleSpec (enters_of Try.func43 rfl rfl) fun args o r es h ho => by
  unfold scaleSpec at h
  split at h
  · cases h; exact scale_fnd _ _ ho.1
  · cases h
def refScaleSpec : FnSpec
  | [.v (.c (.sl (.fr a))), .v (.a [.ob (.fr k)])] => some ([a.length ≤ 1073741824], .v (.c (.slc 0 0 (trimF (scaleL (a.map inF) (inF k))).length 4)), [.sq (.fr ((trimF (scaleL (a.map inF) (inF k))).map outF))])
  | _ => none
noncomputable def envT3 : Env := envT2.set (addT envT2.fn 46 refScaleSpec)
theorem envT3_ok : EnvOk Try.prog envT3 := env_add envT2_ok 46 refScaleSpec (enters_of Try.func46 rfl rfl) fun args o r es h ho => by
  unfold refScaleSpec at h
  split at h
  · cases h; exact refScale_fnd _ _ ho.1
  · cases h
--@env envT3 envT3_ok
theorem ad41 (a b : List U4) : fnRes envT3 Try.f41 3000 [.v (.c (.sl (.fr a))), .v (.c (.sl (.fr b)))] [] [80] [] = (Option.some ([((List.length a) ≤ 262144), ((List.length b) ≤ 262144)], ((SV.t [(V1.c (It.slc 0 0 (List.length (trimF (addL (List.map inF a) (List.map inF b)))) 4)), (V1.c (It.int IntKind.i64 (0 : Int)))]), [(En.sq (Sq.fr (List.map outF (trimF (addL (List.map inF a) (List.map inF b))))))]))) := by kernel_rfl
theorem sb42 (a b : List U4) : fnRes envT3 Try.f42 3000 [.v (.c (.sl (.fr a))), .v (.c (.sl (.fr b)))] [] [80] [] = (Option.some ([((List.length a) ≤ 262144), ((List.length b) ≤ 262144)], ((SV.t [(V1.c (It.slc 0 0 (List.length (trimF (subL (List.map inF a) (List.map inF b)))) 4)), (V1.c (It.int IntKind.i64 (0 : Int)))]), [(En.sq (Sq.fr (List.map outF (trimF (subL (List.map inF a) (List.map inF b))))))]))) := by kernel_rfl
theorem rs45 (a b : List U4) : fnRes envT3 Try.f45 3000 [.v (.c (.sl (.fr a))), .v (.c (.sl (.fr b)))] [] [96] [] = (Option.some ([((-(1 : Int)) = (-(1 : Int))), ((List.length b) ≤ 1073741824), (0 = 0), ((List.length (trimF (scaleL (List.map inF b) (inF (outF ((0 : Fr) - (1 : Fr))))))) = (List.length (List.map outF (trimF (scaleL (List.map inF b) (inF (outF ((0 : Fr) - (1 : Fr))))))))), (4 = 4), ((List.length a) ≤ 1073741824), ((List.length (List.map outF (trimF (scaleL (List.map inF b) (inF (outF ((0 : Fr) - (1 : Fr)))))))) ≤ 1073741824)], ((SV.v (V1.c (It.slc 0 0 (List.length (trimF (addL (List.map inF a) (List.map inF (List.map outF (trimF (scaleL (List.map inF b) (inF (outF ((0 : Fr) - (1 : Fr))))))))))) 4))), [(En.sq (Sq.fr (List.map outF (trimF (addL (List.map inF a) (List.map inF (List.map outF (trimF (scaleL (List.map inF b) (inF (outF ((0 : Fr) - (1 : Fr)))))))))))))]))) := by kernel_rfl

theorem add_neg_mul {r : Nat} [NeZero r] (x y : Fin r) : x + y * (0 - 1) = x - y := by grind

theorem sub_scale (A B : List Fr) : trimF (addL A (trimF (scaleL B (0 - 1)))) = trimF (subL A B) := by
  refine trim_ext fun i => ?_
  rw [addL_cf, trim_cf, scaleL_cf, subL_cf]
  exact add_neg_mul _ _

theorem scaleL_len (A : List Fr) (k : Fr) : (scaleL A k).length = A.length := by
  unfold scaleL
  rw [List.length_map, List.length_range]

theorem refSub_fnd (a b : List U4) (ha : a.length ≤ 1073741824) (hb : b.length ≤ 1073741824) : FnD Try.prog 45 [.v (.c (.sl (.fr a))), .v (.c (.sl (.fr b)))]
    (.v (.c (.slc 0 0 (trimF (subL (a.map inF) (b.map inF))).length 4))) [.sq (.fr ((trimF (subL (a.map inF) (b.map inF))).map outF))] := by
  have r := rs45 a b
  have hl : (trimF (scaleL (b.map inF) (0 - 1))).length ≤ 1073741824 := by
    refine Nat.le_trans (trim_le _) ?_
    rw [scaleL_len, List.length_map]
    exact hb
  rw [in_out, map_in_out, sub_scale] at r
  rw [List.length_map] at r
  exact fn_sound envT3_ok Try.func45 r ⟨rfl, hb, rfl, rfl, rfl, ha, hl, trivial⟩

def add41Spec : FnSpec
  | [.v (.c (.sl (.fr a))), .v (.c (.sl (.fr b)))] => some ([a.length ≤ 262144, b.length ≤ 262144], .t [.c (.slc 0 0 (trimF (addL (a.map inF) (b.map inF))).length 4), .c (.int .i64 0)], [.sq (.fr ((trimF (addL (a.map inF) (b.map inF))).map outF))])
  | _ => none
noncomputable def envT4 : Env := envT3.set (addT envT3.fn 41 add41Spec)
theorem envT4_ok : EnvOk Try.prog envT4 := env_add envT3_ok 41 add41Spec (enters_of Try.func41 rfl rfl) fun args o r es h ho => by
  unfold add41Spec at h
  split at h
  · cases h; exact fn_sound envT3_ok Try.func41 (ad41 _ _) ho
  · cases h
def sub42Spec : FnSpec
  | [.v (.c (.sl (.fr a))), .v (.c (.sl (.fr b)))] => some ([a.length ≤ 262144, b.length ≤ 262144], .t [.c (.slc 0 0 (trimF (subL (a.map inF) (b.map inF))).length 4), .c (.int .i64 0)], [.sq (.fr ((trimF (subL (a.map inF) (b.map inF))).map outF))])
  | _ => none
noncomputable def envT5 : Env := envT4.set (addT envT4.fn 42 sub42Spec)
theorem envT5_ok : EnvOk Try.prog envT5 := env_add envT4_ok 42 sub42Spec (enters_of Try.func42 rfl rfl) fun args o r es h ho => by
  unfold sub42Spec at h
  split at h
  · cases h; exact fn_sound envT3_ok Try.func42 (sb42 _ _) ho
  · cases h
def refSubSpec : FnSpec
  | [.v (.c (.sl (.fr a))), .v (.c (.sl (.fr b)))] => some ([a.length ≤ 1073741824, b.length ≤ 1073741824], .v (.c (.slc 0 0 (trimF (subL (a.map inF) (b.map inF))).length 4)), [.sq (.fr ((trimF (subL (a.map inF) (b.map inF))).map outF))])
  | _ => none
noncomputable def envT : Env := envT5.set (addT envT5.fn 45 refSubSpec)
theorem envT_ok : EnvOk Try.prog envT := env_add envT5_ok 45 refSubSpec (enters_of Try.func45 rfl rfl) fun args o r es h ho => by
  unfold refSubSpec at h
  split at h
  · cases h; exact refSub_fnd _ _ ho.1 ho.2.1
  · cases h
--@env envT envT_ok
theorem pa6 (a b : List U4) (k : U4) : fnRes envT Try.f6 3000 [.v (.c (.sl (.fr a))), .v (.c (.sl (.fr b))), .v (.a [.ob (.fr k)])] [true, true, true, true, true, true, true] [] [] = (Option.some ([((List.length (List.take 40 a)) ≤ 262144), ((List.length (List.take 40 b)) ≤ 262144), ((List.length (List.take 40 a)) ≤ 262144), ((List.length (List.take 40 b)) ≤ 262144), ((List.length (List.take 40 a)) ≤ 262144), (((0 : Int) == (0 : Int)) = true), (((0 : Int) == (0 : Int)) = true), (((0 : Int) == (0 : Int)) = true), ((List.length (List.take 40 a)) ≤ 8796093022208), ((List.length (List.take 40 a)) ≤ 1099511627776), (0 = 0), ((List.length (trimF (List.map inF (List.take 40 a)))) = (List.length (List.map outF (trimF (List.map inF (List.take 40 a)))))), (4 = 4), (0 = 0), ((List.length (trimF (List.map inF (List.take 40 a)))) = (List.length (List.map outF (trimF (List.map inF (List.take 40 a)))))), (4 = 4), ((decide ((List.map outF (trimF (List.map inF (List.take 40 a)))) = (List.map outF (trimF (List.map inF (List.take 40 a)))))) = true), ((List.length (List.take 40 a)) ≤ 1073741824), ((List.length (List.take 40 b)) ≤ 1073741824), (0 = 0), ((List.length (trimF (addL (List.map inF (List.take 40 a)) (List.map inF (List.take 40 b))))) = (List.length (List.map outF (trimF (addL (List.map inF (List.take 40 a)) (List.map inF (List.take 40 b))))))), (4 = 4), (0 = 0), ((List.length (trimF (addL (List.map inF (List.take 40 a)) (List.map inF (List.take 40 b))))) = (List.length (List.map outF (trimF (addL (List.map inF (List.take 40 a)) (List.map inF (List.take 40 b))))))), (4 = 4), ((decide ((List.map outF (trimF (addL (List.map inF (List.take 40 a)) (List.map inF (List.take 40 b))))) = (List.map outF (trimF (addL (List.map inF (List.take 40 a)) (List.map inF (List.take 40 b))))))) = true), ((List.length (List.take 40 a)) ≤ 1073741824), ((List.length (List.take 40 b)) ≤ 1073741824), (0 = 0), ((List.length (trimF (subL (List.map inF (List.take 40 a)) (List.map inF (List.take 40 b))))) = (List.length (List.map outF (trimF (subL (List.map inF (List.take 40 a)) (List.map inF (List.take 40 b))))))), (4 = 4), (0 = 0), ((List.length (trimF (subL (List.map inF (List.take 40 a)) (List.map inF (List.take 40 b))))) = (List.length (List.map outF (trimF (subL (List.map inF (List.take 40 a)) (List.map inF (List.take 40 b))))))), (4 = 4), ((decide ((List.map outF (trimF (subL (List.map inF (List.take 40 a)) (List.map inF (List.take 40 b))))) = (List.map outF (trimF (subL (List.map inF (List.take 40 a)) (List.map inF (List.take 40 b))))))) = true), ((List.length (List.take 40 a)) ≤ 1073741824), (0 = 0), ((List.length (trimF (scaleL (List.map inF (List.take 40 a)) (inF k)))) = (List.length (List.map outF (trimF (scaleL (List.map inF (List.take 40 a)) (inF k)))))), (4 = 4), (0 = 0), ((List.length (trimF (scaleL (List.map inF (List.take 40 a)) (inF k)))) = (List.length (List.map outF (trimF (scaleL (List.map inF (List.take 40 a)) (inF k)))))), (4 = 4)], ((SV.v (V1.c (It.bool (decide ((List.map outF (trimF (scaleL (List.map inF (List.take 40 a)) (inF k)))) = (List.map outF (trimF (scaleL (List.map inF (List.take 40 a)) (inF k))))))))), []))) := by kernel_rfl
end Go.Proofs.Ytlfllehomhcbfaa

/- Values and products of polynomials, and what is too long, walked. No conditions. -/
namespace Go.Proofs.Ytlfllehomhcbfaa

--@env envT envT_ok
theorem atA_end (a : List U4) (z : U4) : runEnd envT Try.f58 false 3000 (⟨[.code (bodyOf Try.f58)], .normal, initSt Try.f58.ntmps [.v (.c (.sl (.fr a))), .v (.a [.ob (.fr z)])]⟩) [true] [] [] = (Option.some ([(0 = 0), (1 = 1), (1 = 1), ((longB [a]) = true)], ((SV.t [(V1.a [(It.ob (Ob.fr (0 : U4)))]), (V1.c (It.int IntKind.i64 (2 : Int)))]), []))) := by kernel_rfl
noncomputable def atIn_k : List KI := (run envT false 3000 ((fun (a : List U4) (z : U4) => (⟨[.code (bodyOf Try.f58)], .normal, initSt Try.f58.ntmps [.v (.c (.sl (.fr a))), .v (.a [.ob (.fr z)])]⟩ : Cfg)) default default) [false]).cfg.k
theorem atIn_hk (a : List U4) (z : U4) : (run envT false 3000 ((⟨[.code (bodyOf Try.f58)], .normal, initSt Try.f58.ntmps [.v (.c (.sl (.fr a))), .v (.a [.ob (.fr z)])]⟩ : Cfg)) [false]).cfg.k = atIn_k := by kernel_rfl
theorem atIn (a : List U4) (z : U4) {w0 : World} {F0 : Nat → Prop} {K : Kp} {ac : List Act} {Q : Exit → Act → World → Prop} {cX : Ctx} {aX : Act} (ho : AllP [(0 = 0), (1 = 1), (1 = 1), ((longB [a]) = false)]) (hs : Sim w0 F0 K ac (initSt Try.f58.ntmps [.v (.c (.sl (.fr a))), .v (.a [.ob (.fr z)])]) cX aX) (hK : ∀ ac cY aY, Sim w0 F0 K ac (mkSt 33 [0, 4, 6, 7, 8] [(.v (.c (.sl (.fr a)))), (.v (.c (.ptr 32 0))), (.v (.c (.ptr 112 0))), (.v (.c (.ptr 160 0))), (.v (.c (.int .i64 (IntKind.wrap .i64 ((((List.length a) : Nat) : Int) - (1 : Int))))))] [32, 112, 160] [(some (.fl [(.ob (.fr (0 : U4)))])), (some (.fl [(.ob (.s (0 : Fr)))])), (some (.fl [(.ob (.s (inF z)))]))] 256 [] []) cY aY → Wq Try.prog Q (atIn_k) ac Exit.normal aY cY.w) : Wq Try.prog Q ([.code (bodyOf Try.f58)]) ac .normal aX cX.w :=
  run_at2 (o := ⟨_, _, _, _, _, _, _⟩) envT_ok (by kernel_rfl) (atIn_hk a z) ho hs hK
noncomputable def plIn_k : List KI := (run envT false 3000 ((fun (A B : List Fr) => (⟨[.code (bodyOf Try.f91)], .normal, initSt Try.f91.ntmps [.v (.c (.sl (.s A))), .v (.c (.sl (.s B)))]⟩ : Cfg)) default default) []).cfg.k
theorem plIn_hk (A B : List Fr) : (run envT false 3000 ((⟨[.code (bodyOf Try.f91)], .normal, initSt Try.f91.ntmps [.v (.c (.sl (.s A))), .v (.c (.sl (.s B)))]⟩ : Cfg)) []).cfg.k = plIn_k := by kernel_rfl
theorem plIn (A B : List Fr) {w0 : World} {F0 : Nat → Prop} {K : Kp} {ac : List Act} {Q : Exit → Act → World → Prop} {cX : Ctx} {aX : Act} (ho : AllP [((0 : Int) ≤ (IntKind.wrap .i64 ((IntKind.wrap .i64 ((((List.length A) : Nat) : Int) + (((List.length B) : Nat) : Int))) - (1 : Int)))), ((IntKind.wrap .i64 ((IntKind.wrap .i64 ((((List.length A) : Nat) : Int) + (((List.length B) : Nat) : Int))) - (1 : Int))) = (IntKind.wrap .i64 ((IntKind.wrap .i64 ((((List.length A) : Nat) : Int) + (((List.length B) : Nat) : Int))) - (1 : Int)))), (((32 : Int) * (IntKind.wrap .i64 ((IntKind.wrap .i64 ((((List.length A) : Nat) : Int) + (((List.length B) : Nat) : Int))) - (1 : Int)))) ≤ (281474976710656 : Int)), ((IntKind.wrap .i64 ((IntKind.wrap .i64 ((((List.length A) : Nat) : Int) + (((List.length B) : Nat) : Int))) - (1 : Int))) ≤ (9223372036854775807 : Int))]) (hs : Sim w0 F0 K ac (initSt Try.f91.ntmps [.v (.c (.sl (.s A))), .v (.c (.sl (.s B)))]) cX aX) (hK : ∀ ac cY aY, Sim w0 F0 K ac (mkSt 50 [1, 5, 17, 18, 19] [(.v (.c (.sl (.s B)))), (.v (.c (.slc 128 0 ((IntKind.wrap .i64 ((IntKind.wrap .i64 ((((List.length A) : Nat) : Int) + (((List.length B) : Nat) : Int))) - (1 : Int)))).toNat 4))), (.v (.c (.sl (.s A)))), (.v (.c (.int .i64 (((List.length A) : Nat) : Int)))), (.v (.c (.int .i64 (0 : Int))))] [128] [(some (.sq (.s (List.replicate ((IntKind.wrap .i64 ((IntKind.wrap .i64 ((((List.length A) : Nat) : Int) + (((List.length B) : Nat) : Int))) - (1 : Int)))).toNat (0 : Fr)))))] 208 [] []) cY aY → Wq Try.prog Q (plIn_k) ac Exit.normal aY cY.w) : Wq Try.prog Q ([.code (bodyOf Try.f91)]) ac .normal aX cX.w :=
  run_at2 (o := ⟨_, _, _, _, _, _, _⟩) envT_ok (by kernel_rfl) (plIn_hk A B) ho hs hK
noncomputable def atS (a : List U4) (z w : Fr) (i : Int) : St := mkSt 33 [0, 4, 6, 7, 8] [(SV.v (V1.c (It.sl (Sq.fr a)))), (SV.v (V1.c (It.ptr 32 0))), (SV.v (V1.c (It.ptr 112 0))), (SV.v (V1.c (It.ptr 160 0))), .v (.c (.int .i64 i))] [32, 112, 160] [(Option.some (En.fl [(It.ob (Ob.fr (0 : U4)))])), some (.fl [.ob (.s w)]), some (.fl [.ob (.s z)])] 256 [] []
theorem atN_hk (a : List U4) (z w : Fr) (i : Int) : (run envT false 3000 ((⟨lpIn atIn_k, .normal, atS a z w i⟩ : Cfg)) [true]).cfg.k = lpBk atIn_k := by kernel_rfl
theorem atN (a : List U4) (z w : Fr) (i : Int) {w0 : World} {F0 : Nat → Prop} {K : Kp} {ac : List Act} {Q : Exit → Act → World → Prop} {cX : Ctx} {aX : Act} (ho : AllP [((decide (i ≥ (0 : Int))) = true), ((0 : Int) ≤ i), (i < (((List.length a) : Nat) : Int))]) (hs : Sim w0 F0 K ac (atS a z w i) cX aX) (hK : ∀ ac cY aY, Sim w0 F0 K ac (mkSt 33 [0, 4, 6, 7, 8] [(.v (.c (.sl (.fr a)))), (.v (.c (.ptr 32 0))), (.v (.c (.ptr 112 0))), (.v (.c (.ptr 160 0))), (.v (.c (.int .i64 (IntKind.wrap .i64 (i - (1 : Int))))))] [32, 112, 160] [(some (.fl [(.ob (.fr (0 : U4)))])), (some (.fl [(.ob (.s ((w * z) + (inF (List.getD a (i).toNat (0 : U4))))))])), (some (.fl [(.ob (.s z))]))] 496 [] []) cY aY → Wq Try.prog Q (lpBk atIn_k) ac Exit.normal aY cY.w) : Wq Try.prog Q (lpIn atIn_k) ac .normal aX cX.w :=
  run_at2 (o := ⟨_, _, _, _, _, _, _⟩) envT_ok (by kernel_rfl) (atN_hk a z w i) ho hs hK
theorem atX_end (a : List U4) (z w : Fr) (i : Int) : runEnd envT Try.f58 false 3000 (⟨lpIn atIn_k, .normal, atS a z w i⟩) [false] [] [] = (Option.some ([((decide (i ≥ (0 : Int))) = false)], ((SV.t [(V1.a [(It.ob (Ob.fr (outF w)))]), (V1.c (It.int IntKind.i64 (0 : Int)))]), []))) := by kernel_rfl
noncomputable def plS (A B : List Fr) (la M : Nat) (L : List Fr) (i : Nat) : St := mkSt 50 [1, 5, 17, 18, 19] [(SV.v (V1.c (It.sl (Sq.s B)))), .v (.c (.slc 128 0 M 4)), (SV.v (V1.c (It.sl (Sq.s A)))), .v (.c (.int .i64 (la : Int))), .v (.c (.int .i64 (i : Int)))] [128] [some (.sq (.s L))] 208 [] []
noncomputable def plI_k : List KI := (run envT false 3000 ((fun (A B : List Fr) (la M : Nat) (L : List Fr) (i : Nat) => (⟨lpIn plIn_k, .normal, plS A B la M L i⟩ : Cfg)) default default default default default default) [true]).cfg.k
theorem plI_hk (A B : List Fr) (la M : Nat) (L : List Fr) (i : Nat) : (run envT false 3000 ((⟨lpIn plIn_k, .normal, plS A B la M L i⟩ : Cfg)) [true]).cfg.k = plI_k := by kernel_rfl
theorem plI (A B : List Fr) (la M : Nat) (L : List Fr) (i : Nat) {w0 : World} {F0 : Nat → Prop} {K : Kp} {ac : List Act} {Q : Exit → Act → World → Prop} {cX : Ctx} {aX : Act} (ho : AllP [((decide (((i : Nat) : Int) < ((la : Nat) : Int))) = true), ((0 : Int) ≤ ((i : Nat) : Int)), (((i : Nat) : Int) < (((List.length A) : Nat) : Int))]) (hs : Sim w0 F0 K ac (plS A B la M L i) cX aX) (hK : ∀ ac cY aY, Sim w0 F0 K ac (mkSt 50 [1, 5, 6, 7, 17, 18, 19, 24, 25, 26] [(.v (.c (.sl (.s B)))), (.v (.c (.slc 128 0 M 4))), (.v (.c (.int .i64 ((i : Nat) : Int)))), (.v (.c (.ptr 272 0))), (.v (.c (.sl (.s A)))), (.v (.c (.int .i64 ((la : Nat) : Int)))), (.v (.c (.int .i64 ((i : Nat) : Int)))), (.v (.c (.sl (.s B)))), (.v (.c (.int .i64 (((List.length B) : Nat) : Int)))), (.v (.c (.int .i64 (0 : Int))))] [128, 272] [(some (.sq (.s L))), (some (.fl [(.ob (.s (List.getD A (((i : Nat) : Int)).toNat (0 : Fr))))]))] 368 [] []) cY aY → Wq Try.prog Q (plI_k) ac Exit.normal aY cY.w) : Wq Try.prog Q (lpIn plIn_k) ac .normal aX cX.w :=
  run_at2 (o := ⟨_, _, _, _, _, _, _⟩) envT_ok (by kernel_rfl) (plI_hk A B la M L i) ho hs hK
noncomputable def plT (A B : List Fr) (la lb M : Nat) (L : List Fr) (i : Nat) (x : Fr) (k : Nat) : St := mkSt 50 [1, 5, 6, 7, 17, 18, 19, 24, 25, 26] [(SV.v (V1.c (It.sl (Sq.s B)))), .v (.c (.slc 128 0 M 4)), .v (.c (.int .i64 (i : Int))), (SV.v (V1.c (It.ptr 272 0))), (SV.v (V1.c (It.sl (Sq.s A)))), .v (.c (.int .i64 (la : Int))), .v (.c (.int .i64 (i : Int))), (SV.v (V1.c (It.sl (Sq.s B)))), .v (.c (.int .i64 (lb : Int))), .v (.c (.int .i64 (k : Int)))] [128, 272] [some (.sq (.s L)), some (.fl [.ob (.s x)])] 368 [] []
theorem plN_hk (A B : List Fr) (la lb M : Nat) (L : List Fr) (i : Nat) (x : Fr) (k : Nat) : (run envT false 3000 ((⟨lpIn plI_k, .normal, plT A B la lb M L i x k⟩ : Cfg)) [true]).cfg.k = lpBk plI_k := by kernel_rfl
theorem plN (A B : List Fr) (la lb M : Nat) (L : List Fr) (i : Nat) (x : Fr) (k : Nat) {w0 : World} {F0 : Nat → Prop} {K : Kp} {ac : List Act} {Q : Exit → Act → World → Prop} {cX : Ctx} {aX : Act} (ho : AllP [((decide (((k : Nat) : Int) < ((lb : Nat) : Int))) = true), ((0 : Int) ≤ ((k : Nat) : Int)), (((k : Nat) : Int) < (((List.length B) : Nat) : Int)), ((0 : Int) ≤ (IntKind.wrap .i64 (((i : Nat) : Int) + ((k : Nat) : Int)))), ((IntKind.wrap .i64 (((i : Nat) : Int) + ((k : Nat) : Int))) < ((M : Nat) : Int)), (0 = 0), (((IntKind.wrap .i64 (((i : Nat) : Int) + ((k : Nat) : Int)))).toNat < (List.length L)), ((0 : Int) ≤ (IntKind.wrap .i64 (((i : Nat) : Int) + ((k : Nat) : Int)))), ((IntKind.wrap .i64 (((i : Nat) : Int) + ((k : Nat) : Int))) < ((M : Nat) : Int)), (0 = 0), (((IntKind.wrap .i64 (((i : Nat) : Int) + ((k : Nat) : Int)))).toNat < (List.length L))]) (hs : Sim w0 F0 K ac (plT A B la lb M L i x k) cX aX) (hK : ∀ ac cY aY, Sim w0 F0 K ac (mkSt 50 [1, 5, 6, 7, 17, 18, 19, 24, 25, 26] [(.v (.c (.sl (.s B)))), (.v (.c (.slc 128 0 M 4))), (.v (.c (.int .i64 ((i : Nat) : Int)))), (.v (.c (.ptr 272 0))), (.v (.c (.sl (.s A)))), (.v (.c (.int .i64 ((la : Nat) : Int)))), (.v (.c (.int .i64 ((i : Nat) : Int)))), (.v (.c (.sl (.s B)))), (.v (.c (.int .i64 ((lb : Nat) : Int)))), (.v (.c (.int .i64 (IntKind.wrap .i64 (((k : Nat) : Int) + (1 : Int))))))] [128, 272] [(some (.sq (.s (List.set L ((IntKind.wrap .i64 (((i : Nat) : Int) + ((k : Nat) : Int)))).toNat ((List.getD L ((IntKind.wrap .i64 (((i : Nat) : Int) + ((k : Nat) : Int)))).toNat (0 : Fr)) + (x * (List.getD B (((k : Nat) : Int)).toNat (0 : Fr)))))))), (some (.fl [(.ob (.s x))]))] 768 [] []) cY aY → Wq Try.prog Q (lpBk plI_k) ac Exit.normal aY cY.w) : Wq Try.prog Q (lpIn plI_k) ac .normal aX cX.w :=
  run_at2 (o := ⟨_, _, _, _, _, _, _⟩) envT_ok (by kernel_rfl) (plN_hk A B la lb M L i x k) ho hs hK
theorem plE_hk (A B : List Fr) (la lb M : Nat) (L : List Fr) (i : Nat) (x : Fr) (k : Nat) : (run envT false 3000 ((⟨lpIn plI_k, .normal, plT A B la lb M L i x k⟩ : Cfg)) [false]).cfg.k = lpBk plIn_k := by kernel_rfl
theorem plE (A B : List Fr) (la lb M : Nat) (L : List Fr) (i : Nat) (x : Fr) (k : Nat) {w0 : World} {F0 : Nat → Prop} {K : Kp} {ac : List Act} {Q : Exit → Act → World → Prop} {cX : Ctx} {aX : Act} (ho : AllP [((decide (((k : Nat) : Int) < ((lb : Nat) : Int))) = false)]) (hs : Sim w0 F0 K ac (plT A B la lb M L i x k) cX aX) (hK : ∀ ac cY aY, Sim w0 F0 K ac (mkSt 50 [1, 5, 17, 18, 19] [(.v (.c (.sl (.s B)))), (.v (.c (.slc 128 0 M 4))), (.v (.c (.sl (.s A)))), (.v (.c (.int .i64 ((la : Nat) : Int)))), (.v (.c (.int .i64 (IntKind.wrap .i64 (((i : Nat) : Int) + (1 : Int))))))] [128] [(some (.sq (.s L)))] 416 [] []) cY aY → Wq Try.prog Q (lpBk plIn_k) ac Exit.normal aY cY.w) : Wq Try.prog Q (lpIn plI_k) ac .normal aX cX.w :=
  run_at2 (o := ⟨_, _, _, _, _, _, _⟩) envT_ok (by kernel_rfl) (plE_hk A B la lb M L i x k) ho hs hK
theorem plX_end (A B : List Fr) (la M : Nat) (L : List Fr) (i : Nat) : runEnd envT Try.f91 false 3000 (⟨lpIn plIn_k, .normal, plS A B la M L i⟩) [false] [240] [] = (Option.some ([((decide (((i : Nat) : Int) < ((la : Nat) : Int))) = false), (0 = 0), (M = (List.length L)), (4 = 4), ((List.length L) ≤ 8796093022208)], ((SV.v (V1.c (It.slc 0 0 (List.length (trimF L)) 4))), [(En.sq (Sq.fr (List.map outF (trimF L))))]))) := by kernel_rfl
theorem jaL_end (a b : List U4) : runEnd envT Try.f82 false 3000 (⟨[.code (bodyOf Try.f82)], .normal, initSt Try.f82.ntmps [.v (.c (.sl (.fr a))), .v (.c (.sl (.fr b))), .v (.c (.clo 75 []))]⟩) [true] [] [] = (Option.some ([(0 = 0), (2 = (List.length ([a] ++ [b]))), (1 = 1), ((longB ([a] ++ [b])) = true)], ((SV.t [(V1.c (It.val (Value.slice Option.none 0 0))), (V1.c (It.int IntKind.i64 (2 : Int)))]), []))) := by kernel_rfl
theorem jsL_end (a b : List U4) : runEnd envT Try.f82 false 3000 (⟨[.code (bodyOf Try.f82)], .normal, initSt Try.f82.ntmps [.v (.c (.sl (.fr a))), .v (.c (.sl (.fr b))), .v (.c (.clo 83 []))]⟩) [true] [] [] = (Option.some ([(0 = 0), (2 = (List.length ([a] ++ [b]))), (1 = 1), ((longB ([a] ++ [b])) = true)], ((SV.t [(V1.c (It.val (Value.slice Option.none 0 0))), (V1.c (It.int IntKind.i64 (2 : Int)))]), []))) := by kernel_rfl
--@env envJn envJn_ok
theorem scL_end (a : List U4) (k : U4) : runEnd envJn Try.f43 false 3000 (⟨[.code (bodyOf Try.f43)], .normal, initSt Try.f43.ntmps [.v (.c (.sl (.fr a))), .v (.a [.ob (.fr k)])]⟩) [true] [] [] = (Option.some ([(0 = 0), (2 = (List.length ([a] ++ [[]]))), (1 = 1), ((longB ([a] ++ [[]])) = true)], ((SV.t [(V1.c (It.val (Value.slice Option.none 0 0))), (V1.c (It.int IntKind.i64 (2 : Int)))]), []))) := by kernel_rfl
end Go.Proofs.Ytlfllehomhcbfaa

/- Values and products of polynomials, and what is too long: contracts. No conditions. -/
namespace Go.Proofs.Ytlfllehomhcbfaa

theorem at58_fnd (a : List U4) (z : U4) (ha : longB [a] = false) : FnD Try.prog 58 [.v (.c (.sl (.fr a))), .v (.a [.ob (.fr z)])] (.t [.a [.ob (.fr (outF (divL (inF z) (a.map inF)).2))], .c (.int .i64 0)]) [] := by
  have hla : a.length ≤ 262144 := by simpa [longB] using ha
  refine fn_start (fn := Try.f58) (c := bodyOf Try.f58) Try.func58 rfl rfl fun x a0 hk hF hs => ?_
  refine atIn a z ⟨rfl, rfl, rfl, ha, trivial⟩ hs fun ac cY aY hs1 => ?_
  rw [wrap_id (by omega) (by omega)] at hs1
  refine loop_rule (ι := { m : Nat // m ≤ a.length }) (fun m => atS a (inF z) (divL (inF z) ((a.map inF).drop m.1)).2 ((m.1 : Int) - 1)) (fun m => m.1) (c := lpC atIn_k) (k := lpR atIn_k) (by kernel_rfl) (fun m ih ac cY aY hs => ?_)
    ⟨a.length, Nat.le_refl _⟩ (by
      have e : (a.map inF).drop a.length = [] := List.drop_eq_nil_of_le (by rw [List.length_map]; exact Nat.le_refl _)
      simp only [e]
      exact hs1.nx _)
  obtain ⟨m, hm⟩ := m
  simp only at ih hs
  cases m with
  | zero =>
    rw [List.drop_zero] at hs
    exact run_end2 envT_ok hk hF (atX_end _ _ _ _) ⟨by simp only [decide_eq_false_iff_not]; omega, trivial⟩ (fun y v hd => hd) hs
  | succ m =>
    have hmi : ((m + 1 : Nat) : Int) - 1 = (m : Int) := by omega
    rw [hmi] at hs
    refine atN _ _ _ _ ⟨by simp only [decide_eq_true_eq]; omega, by omega, by omega, trivial⟩ hs fun ac cY aY hs2 => ?_
    rw [wrap_id (by omega) (by omega), Int.toNat_natCast] at hs2
    have hw2 : (divL (inF z) ((a.map inF).drop m)).2 = (divL (inF z) ((a.map inF).drop (m + 1))).2 * inF z + inF (a.getD m 0) := by
      rw [divL_idx _ _ _ (show m < (a.map inF).length by rw [List.length_map]; omega), getD_in a m (by omega)]
    rw [← hw2] at hs2
    exact ih ⟨m, by omega⟩ (Nat.lt_succ_self m) ac cY aY (hs2.nx _)

/-! Products, row by row. -/
def rowG (A B : List Fr) (j r : Nat) : Fr := if r ≤ j then cf A r * cf B (j - r) else 0
def rowC (A B : List Fr) (i j : Nat) : Fr := sumF (rowG A B j) i

theorem sumF_more {f : Nat → Fr} {n : Nat} (h : ∀ i, n ≤ i → f i = 0) : ∀ m, n ≤ m → sumF f m = sumF f n
  | 0, hm => by have : n = 0 := by omega
                subst this; rfl
  | m + 1, hm => by
    by_cases e : n = m + 1
    · rw [e]
    · show sumF f m + f m = _
      rw [sumF_more h m (by omega), h m (by omega), fr_add_zero]

theorem rowC_mulC (A B : List Fr) (j : Nat) : rowC A B A.length j = mulC A B j := by
  have h1 : mulC A B j = sumF (rowG A B j) (j + 1) := sumF_congr fun r hr => by
    unfold rowG
    rw [if_pos (by omega)]
  rw [h1]
  unfold rowC
  have hA : ∀ i, A.length ≤ i → rowG A B j i = 0 := fun i hi => by
    unfold rowG
    rw [cf_out hi, fr_zero_mul]
    split <;> rfl
  have hj : ∀ i, j + 1 ≤ i → rowG A B j i = 0 := fun i hi => by
    unfold rowG
    rw [if_neg (by omega)]
  rw [← sumF_more hA (max A.length (j + 1)) (by omega), ← sumF_more hj (max A.length (j + 1)) (by omega)]

theorem range_set {α : Type} (f : Nat → α) (n k : Nat) (x : α) : ((List.range n).map f).set k x = (List.range n).map fun j => if j = k then x else f j := by
  apply List.ext_getElem
  · simp
  · intro i h1 h2
    simp only [List.length_map, List.length_range] at h2
    rw [List.getElem_set]
    simp only [List.getElem_map, List.getElem_range]
    by_cases h : k = i
    · rw [if_pos h, if_pos h.symm]
    · rw [if_neg h, if_neg (fun e => h e.symm)]

theorem range_get (f : Nat → Fr) (n k : Nat) (h : k < n) : ((List.range n).map f).getD k 0 = f k := by simp [List.getD, h]

/-- Row i, so far. -/
def rowK (A B : List Fr) (i k j : Nat) : Fr := rowC A B i j + (if i ≤ j ∧ j - i < k then cf A i * cf B (j - i) else 0)

theorem rowK_zero (A B : List Fr) (i j : Nat) : rowK A B i 0 j = rowC A B i j := by
  unfold rowK
  rw [if_neg (by omega), fr_add_zero]

theorem rowK_step (A B : List Fr) (i k j : Nat) : (if j = i + k then rowK A B i k (i + k) + cf A i * cf B k else rowK A B i k j) = rowK A B i (k + 1) j := by
  unfold rowK
  by_cases h : j = i + k
  · subst h
    rw [if_pos rfl, if_neg (by omega), if_pos (by omega), fr_add_zero, Nat.add_sub_cancel_left]
  · rw [if_neg h]
    by_cases h2 : i ≤ j ∧ j - i < k
    · rw [if_pos h2, if_pos (by omega)]
    · rw [if_neg h2, if_neg (by omega)]

theorem rowK_full (A B : List Fr) (i j : Nat) : rowK A B i B.length j = rowC A B (i + 1) j := by
  unfold rowK
  show _ = rowC A B i j + rowG A B j i
  congr 1
  unfold rowG
  by_cases h : i ≤ j
  · rw [if_pos h]
    by_cases h2 : j - i < B.length
    · rw [if_pos ⟨h, h2⟩]
    · rw [if_neg (by omega), cf_out (l := B) (by omega), fr_mul_zero]
  · rw [if_neg (by omega), if_neg h]

theorem plain_fnd (A B : List Fr) (hA : 0 < A.length) (hB : 0 < B.length) (hA2 : A.length ≤ 1073741824) (hB2 : B.length ≤ 1073741824) : FnD Try.prog 91 [.v (.c (.sl (.s A))), .v (.c (.sl (.s B)))]
    (.v (.c (.slc 0 0 (trimF (mulL A B)).length 4))) [.sq (.fr ((trimF (mulL A B)).map outF))] := by
  refine fn_start (fn := Try.f91) (c := bodyOf Try.f91) Try.func91 rfl rfl fun x a0 hk hF hs => ?_
  have hw : IntKind.wrap IntKind.i64 ((IntKind.wrap IntKind.i64 (((A.length : Nat) : Int) + ((B.length : Nat) : Int))) - 1) = ((A.length + B.length - 1 : Nat) : Int) := by
    rw [wrap_id (n := (A.length : Int) + (B.length : Int)) (by omega) (by omega), wrap_id (by omega) (by omega)]; omega
  refine plIn A B (by rw [hw]; exact ⟨by omega, rfl, by omega, by omega, trivial⟩) hs fun ac cY aY hs1 => ?_
  rw [hw, Int.toNat_natCast] at hs1
  clear hs hw
  have hM : A.length + B.length = A.length + B.length - 1 + 1 := by omega
  generalize hMd : A.length + B.length - 1 = M at hs1 hM
  have hR : trimF ((List.range M).map (rowC A B A.length)) = trimF (mulL A B) := by
    refine trim_ext fun i => ?_
    rw [mulL_cf, ← rowC_mulC]
    refine cf_range (rowC A B A.length) _ _ fun j hj => ?_
    rw [rowC_mulC]
    refine sumF_zero fun k _ => ?_
    by_cases h : A.length ≤ k
    · rw [cf_out h, fr_zero_mul]
    · rw [cf_out (l := B) (by omega), fr_mul_zero]
  have h0 : List.replicate M (0 : Fr) = (List.range M).map (rowC A B 0) := by
    have e : rowC A B 0 = fun _ => 0 := rfl
    rw [e]
    rw [List.map_const', List.length_range]
  rw [h0] at hs1
  clear h0
  refine loop_rule (ι := { i : Nat // i ≤ A.length }) (fun i => plS A B A.length M ((List.range M).map (rowC A B i.1)) i.1) (fun i => A.length - i.1) (c := lpC plIn_k) (k := lpR plIn_k) (by kernel_rfl) (fun i ih ac cY aY hs => ?_) ⟨0, Nat.zero_le _⟩ hs1
  obtain ⟨i, hi⟩ := i
  simp only at ih hs
  have hl : ∀ f : Nat → Fr, ((List.range M).map f).length = M := fun f => by rw [List.length_map, List.length_range]
  by_cases h : i < A.length
  · refine plI A B A.length M _ i ⟨by simp [h], by omega, by omega, trivial⟩ hs fun ac cY aY hs2 => ?_
    rw [Int.toNat_natCast] at hs2
    have e0 : (List.range M).map (rowC A B i) = (List.range M).map (rowK A B i 0) := List.map_congr_left fun j _ => (rowK_zero A B i j).symm
    rw [e0] at hs2
    refine loop_rule (ι := { k : Nat // k ≤ B.length }) (fun k => plT A B A.length B.length M ((List.range M).map (rowK A B i k.1)) i (cf A i) k.1) (fun k => B.length - k.1) (c := lpC plI_k) (k := lpR plI_k) (by kernel_rfl) (fun k ih2 ac cY aY hs => ?_) ⟨0, Nat.zero_le _⟩ hs2
    obtain ⟨k, hk2⟩ := k
    simp only at ih2 hs
    by_cases hkb : k < B.length
    · have hwk : IntKind.wrap IntKind.i64 ((i : Int) + (k : Int)) = ((i + k : Nat) : Int) := by rw [wrap_id (by omega) (by omega)]; omega
      have hw1 : IntKind.wrap IntKind.i64 ((k : Int) + 1) = ((k + 1 : Nat) : Int) := by rw [wrap_id (by omega) (by omega)]; omega
      have hlM := hl (rowK A B i k)
      have hfit : i + k < M := by omega
      refine plN A B A.length B.length M _ i _ k ?_ hs fun ac cY aY hs3 => ?_
      · rw [hwk, hlM]
        and_intros <;> first | exact True.intro | omega | rfl | (simp only [decide_eq_true_eq]; omega)
      · rw [hwk, hw1, Int.toNat_natCast, Int.toNat_natCast, range_get _ _ _ hfit, range_set] at hs3
        have e2 : ((List.range M).map fun j => if j = i + k then rowK A B i k (i + k) + cf A i * B.getD k 0 else rowK A B i k j) = (List.range M).map (rowK A B i (k + 1)) := List.map_congr_left fun j _ => rowK_step A B i k j
        rw [e2] at hs3
        exact ih2 ⟨k + 1, by omega⟩ (by show B.length - (k + 1) < B.length - k; omega) ac cY aY (hs3.nx _)
    · have e : k = B.length := by omega
      refine plE A B A.length B.length M _ i _ k ⟨by simp only [decide_eq_false_iff_not]; omega, trivial⟩ hs fun ac cY aY hs3 => ?_
      have e3 : (List.range M).map (rowK A B i k) = (List.range M).map (rowC A B (i + 1)) := List.map_congr_left fun j _ => by rw [e]; exact rowK_full A B i j
      rw [e3, wrap_id (by omega) (by omega)] at hs3
      exact ih ⟨i + 1, by omega⟩ (by show A.length - (i + 1) < A.length - i; omega) ac cY aY (hs3.nx _)
  · have e : i = A.length := by omega
    rw [e] at hs
    have r := plX_end A B A.length M ((List.range M).map (rowC A B A.length)) A.length
    rw [hR] at r
    exact run_end2 envT_ok hk hF r ⟨by simp, rfl, (hl _).symm, rfl, by rw [hl]; omega, trivial⟩ (fun y v hd => hd) hs

end Go.Proofs.Ytlfllehomhcbfaa

/- Bits turned round: what the iterator's places are. No conditions. -/
namespace Go.Proofs.Ytlfllehomhcbfaa

/-- Bits of two kinds change places. -/
def swp (m s x : Int) : Int := bitsOp .or .u64 (bitsOp .and .u64 (Int.fdiv x s) m) (IntKind.wrap .u64 ((bitsOp .and .u64 x m) * s))
def rvbV (x : Int) : Int := bitsOp .or .u64 (Int.fdiv (swp 281470681808895 65536 (swp 71777214294589695 256 x)) 4294967296) (IntKind.wrap .u64 (swp 281470681808895 65536 (swp 71777214294589695 256 x) * 4294967296))
def revV (x : Int) : Int := rvbV (swp 1085102592571150095 16 (swp 3689348814741910323 4 (swp 6148914691236517205 2 x)))

def swpB (m : BitVec 64) (s : Nat) (x : BitVec 64) : BitVec 64 := ((x >>> s) &&& m) ||| ((x &&& m) <<< s)

theorem and_bv (x y : BitVec 64) : bitsOp .and .u64 (x.toNat : Int) (y.toNat : Int) = ((x &&& y).toNat : Int) := by
  show IntKind.wrap IntKind.u64 ((BitVec.ofInt 64 (x.toNat : Int) &&& BitVec.ofInt 64 (y.toNat : Int)).toNat : Int) = _
  rw [BitVec.ofInt_natCast, BitVec.ofInt_natCast, BitVec.ofNat_toNat, BitVec.ofNat_toNat]
  exact wrap_u (by omega) (by have := (BitVec.setWidth 64 x &&& BitVec.setWidth 64 y).isLt; omega) |>.trans (by simp)

theorem or_bv (x y : BitVec 64) : bitsOp .or .u64 (x.toNat : Int) (y.toNat : Int) = ((x ||| y).toNat : Int) := by
  show IntKind.wrap IntKind.u64 ((BitVec.ofInt 64 (x.toNat : Int) ||| BitVec.ofInt 64 (y.toNat : Int)).toNat : Int) = _
  rw [BitVec.ofInt_natCast, BitVec.ofInt_natCast, BitVec.ofNat_toNat, BitVec.ofNat_toNat]
  exact wrap_u (by omega) (by have := (BitVec.setWidth 64 x ||| BitVec.setWidth 64 y).isLt; omega) |>.trans (by simp)

theorem shr_bv (x : BitVec 64) (s : Nat) : Int.fdiv (x.toNat : Int) ((2 ^ s : Nat) : Int) = ((x >>> s).toNat : Int) := by
  rw [BitVec.toNat_ushiftRight, Nat.shiftRight_eq_div_pow, Int.fdiv_eq_ediv_of_nonneg _ (Int.natCast_nonneg _)]
  exact (Int.natCast_ediv _ _).symm

theorem shl_bv (x : BitVec 64) (s : Nat) : IntKind.wrap IntKind.u64 ((x.toNat : Int) * ((2 ^ s : Nat) : Int)) = ((x <<< s).toNat : Int) := by
  rw [BitVec.toNat_shiftLeft, Nat.shiftLeft_eq, wrap_u64, ← Int.natCast_mul]
  omega

theorem swp_bv (m : BitVec 64) (s : Nat) (x : BitVec 64) : swp (m.toNat : Int) ((2 ^ s : Nat) : Int) (x.toNat : Int) = ((swpB m s x).toNat : Int) := by
  unfold swp swpB
  rw [shr_bv, and_bv, and_bv, shl_bv, or_bv]

def swap32 (x : BitVec 64) : BitVec 64 := (x >>> 32) ||| (x <<< 32)
def revB (x : BitVec 64) : BitVec 64 := swap32 (swpB 281470681808895#64 16 (swpB 71777214294589695#64 8 (swpB 1085102592571150095#64 4 (swpB 3689348814741910323#64 2 (swpB 6148914691236517205#64 1 x)))))

theorem revV_bv (x : BitVec 64) : revV (x.toNat : Int) = ((revB x).toNat : Int) := by
  unfold revV rvbV revB swap32
  have h1 := swp_bv 6148914691236517205#64 1 x
  have h2 := swp_bv 3689348814741910323#64 2 (swpB 6148914691236517205#64 1 x)
  have h3 := swp_bv 1085102592571150095#64 4 (swpB 3689348814741910323#64 2 (swpB 6148914691236517205#64 1 x))
  have h4 := swp_bv 71777214294589695#64 8 (swpB 1085102592571150095#64 4 (swpB 3689348814741910323#64 2 (swpB 6148914691236517205#64 1 x)))
  have h5 := swp_bv 281470681808895#64 16 (swpB 71777214294589695#64 8 (swpB 1085102592571150095#64 4 (swpB 3689348814741910323#64 2 (swpB 6148914691236517205#64 1 x))))
  have h1 : swp 6148914691236517205 2 (x.toNat : Int) = _ := h1
  rw [h1]
  have h2 : swp 3689348814741910323 4 ((swpB 6148914691236517205#64 1 x).toNat : Int) = _ := h2
  rw [h2]
  have h3 : swp 1085102592571150095 16 _ = _ := h3
  rw [h3]
  have h4 : swp 71777214294589695 256 _ = _ := h4
  rw [h4]
  have h5 : swp 281470681808895 65536 _ = _ := h5
  rw [h5]
  generalize swpB 281470681808895#64 16 _ = y
  have g1 : Int.fdiv (y.toNat : Int) 4294967296 = _ := shr_bv y 32
  have g2 : IntKind.wrap .u64 ((y.toNat : Int) * 4294967296) = _ := shl_bv y 32
  rw [g1, g2, or_bv]

theorem swpB_bit (m : BitVec 64) (s : Nat) (p : Nat → Nat) (h : ∀ i, i < 64 → (m.getLsbD i = true ∧ p i = s + i ∧ (i < s ∨ m.getLsbD (i - s) = false)) ∨ (m.getLsbD i = false ∧ s ≤ i ∧ m.getLsbD (i - s) = true ∧ p i = i - s)) (x : BitVec 64) {i : Nat} (hi : i < 64) :
    (swpB m s x).getLsbD i = x.getLsbD (p i) := by
  unfold swpB
  rw [BitVec.getLsbD_or, BitVec.getLsbD_and, BitVec.getLsbD_ushiftRight, BitVec.getLsbD_shiftLeft, BitVec.getLsbD_and]
  rcases h i hi with ⟨h1, h2, h3⟩ | ⟨h1, h2, h3, h4⟩
  · rw [h1, h2]
    rcases h3 with h3 | h3
    · simp [h3]
    · simp [h3]
  · rw [h1, h3, h4]
    simp [hi, Nat.not_lt.2 h2]

theorem swap32_bit (x : BitVec 64) {i : Nat} (hi : i < 64) : (swap32 x).getLsbD i = x.getLsbD (if i < 32 then 32 + i else i - 32) := by
  unfold swap32
  rw [BitVec.getLsbD_or, BitVec.getLsbD_ushiftRight, BitVec.getLsbD_shiftLeft]
  by_cases h : i < 32
  · simp [h]
  · simp only [h, if_false, hi, decide_true, decide_false, Bool.not_false, Bool.true_and]
    rw [BitVec.getLsbD_of_ge x (32 + i) (by omega)]
    simp

def par (s i : Nat) : Nat := if i / s % 2 = 0 then s + i else i - s

theorem revB_bit (x : BitVec 64) {i : Nat} (hi : i < 64) : (revB x).getLsbD i = x.getLsbD (63 - i) := by
  unfold revB
  have hp : ∀ i, i < 64 → par 1 i < 64 ∧ par 2 i < 64 ∧ par 4 i < 64 ∧ par 8 i < 64 ∧ par 16 i < 64 ∧ (if i < 32 then 32 + i else i - 32) < 64 := by decide
  have he : ∀ i, i < 64 → par 1 (par 2 (par 4 (par 8 (par 16 (if i < 32 then 32 + i else i - 32))))) = 63 - i := by decide
  rw [swap32_bit _ hi, swpB_bit _ 16 (par 16) (by decide) _ (hp _ hi).2.2.2.2.2]
  have h1 := (hp _ (hp _ hi).2.2.2.2.2).2.2.2.2.1
  rw [swpB_bit _ 8 (par 8) (by decide) _ h1]
  have h2 := (hp _ h1).2.2.2.1
  rw [swpB_bit _ 4 (par 4) (by decide) _ h2]
  have h3 := (hp _ h2).2.2.1
  rw [swpB_bit _ 2 (par 2) (by decide) _ h3]
  have h4 := (hp _ h3).2.1
  rw [swpB_bit _ 1 (par 1) (by decide) _ h4, he _ hi]

/-- So many bits turned round. -/
def brv : Nat → Nat → Nat
  | 0, _ => 0
  | m + 1, i => 2 ^ m * (i % 2) + brv m (i / 2)

theorem brv_lt : ∀ m i, brv m i < 2 ^ m
  | 0, _ => by simp [brv]
  | m + 1, i => by
    have := brv_lt m (i / 2)
    have h2 : i % 2 < 2 := Nat.mod_lt _ (by decide)
    simp only [brv, Nat.pow_succ]
    rcases (by omega : i % 2 = 0 ∨ i % 2 = 1) with h | h <;> rw [h] <;> omega

theorem brv_bit : ∀ m i k, (brv m i).testBit k = (decide (k < m) && i.testBit (m - 1 - k))
  | 0, _, k => by simp [brv]
  | m + 1, i, k => by
    simp only [brv]
    rw [Nat.testBit_two_pow_mul_add _ (brv_lt m (i / 2)), brv_bit m (i / 2) k]
    by_cases h : k < m
    · simp only [h, if_true, decide_true, Bool.true_and, Nat.add_sub_cancel]
      rw [show decide (k < m + 1) = true from by simp; omega, Bool.true_and, show m - k = (m - 1 - k) + 1 from by omega, Nat.testBit_succ]
    · simp only [h, if_false]
      by_cases h2 : k = m
      · subst h2
        simp [Nat.testBit_zero]
      · rw [show decide (k < m + 1) = false from by simp; omega, Bool.false_and, Nat.testBit_lt_two_pow]
        exact Nat.lt_of_lt_of_le (Nat.mod_lt _ (by decide)) (by have := Nat.one_lt_two_pow (n := k - m) (by omega); omega)

theorem rev_place {m i : Nat} (hm : 0 < m) (hm2 : m ≤ 16) (hi : i < 2 ^ m) : IntKind.wrap .i64 (Int.fdiv (revV (IntKind.wrap .u64 (i : Int))) ((2 : Int) ^ (Min.min (IntKind.wrap .i64 ((64 : Int) - (m : Int))).toNat 64))) = ((brv m i : Nat) : Int) := by
  have hp : 2 ^ m ≤ 2 ^ 16 := Nat.pow_le_pow_right (by decide) hm2
  have hi64 : i < 18446744073709551616 := by omega
  rw [wrap_u (by omega) (by omega), wrap_id (n := (64 : Int) - (m : Int)) (by omega) (by omega)]
  have e1 : min (((64 : Int) - (m : Int)).toNat) 64 = 64 - m := by omega
  rw [e1]
  have e2 : (i : Int) = ((BitVec.ofNat 64 i).toNat : Int) := by
    rw [BitVec.toNat_ofNat, Nat.mod_eq_of_lt hi64]
  rw [e2, revV_bv]
  have e3 : ((2 : Int) ^ (64 - m)) = ((2 ^ (64 - m) : Nat) : Int) := by simp
  rw [e3, shr_bv]
  have e4 : (revB (BitVec.ofNat 64 i) >>> (64 - m)).toNat = brv m i := by
    apply Nat.eq_of_testBit_eq
    intro k
    rw [brv_bit, BitVec.testBit_toNat, BitVec.getLsbD_ushiftRight]
    by_cases h : k < m
    · rw [revB_bit _ (by omega), show decide (k < m) = true from by simp [h], Bool.true_and, BitVec.getLsbD_ofNat, show 63 - (64 - m + k) = m - 1 - k from by omega]
      simp
      omega
    · rw [BitVec.getLsbD_of_ge _ _ (by omega)]
      simp [h]
  rw [e4]
  have := brv_lt m i
  exact wrap_id (by omega) (by omega)
end Go.Proofs.Ytlfllehomhcbfaa

/- Places whose bits are turned round; the swaps' iterator, walked. No conditions. -/
namespace Go.Proofs.Ytlfllehomhcbfaa

--@env envO envO_ok
theorem rvb (x : Int) : fnRes envO Try.f120 3000 [.v (.c (.int .u64 x))] [] [] [] = (Option.some ([((0 : Int) ≤ (8 : Int)), ((0 : Int) ≤ (8 : Int)), ((0 : Int) ≤ (16 : Int)), ((0 : Int) ≤ (16 : Int)), ((0 : Int) ≤ (32 : Int)), ((0 : Int) ≤ (32 : Int))], ((SV.v (V1.c (It.int IntKind.u64 (bitsOp BinOp.or IntKind.u64 (Int.fdiv (bitsOp BinOp.or IntKind.u64 (bitsOp BinOp.and IntKind.u64 (Int.fdiv (bitsOp BinOp.or IntKind.u64 (bitsOp BinOp.and IntKind.u64 (Int.fdiv x (256 : Int)) (71777214294589695 : Int)) (IntKind.wrap IntKind.u64 ((bitsOp BinOp.and IntKind.u64 x (71777214294589695 : Int)) * (256 : Int)))) (65536 : Int)) (281470681808895 : Int)) (IntKind.wrap IntKind.u64 ((bitsOp BinOp.and IntKind.u64 (bitsOp BinOp.or IntKind.u64 (bitsOp BinOp.and IntKind.u64 (Int.fdiv x (256 : Int)) (71777214294589695 : Int)) (IntKind.wrap IntKind.u64 ((bitsOp BinOp.and IntKind.u64 x (71777214294589695 : Int)) * (256 : Int)))) (281470681808895 : Int)) * (65536 : Int)))) (4294967296 : Int)) (IntKind.wrap IntKind.u64 ((bitsOp BinOp.or IntKind.u64 (bitsOp BinOp.and IntKind.u64 (Int.fdiv (bitsOp BinOp.or IntKind.u64 (bitsOp BinOp.and IntKind.u64 (Int.fdiv x (256 : Int)) (71777214294589695 : Int)) (IntKind.wrap IntKind.u64 ((bitsOp BinOp.and IntKind.u64 x (71777214294589695 : Int)) * (256 : Int)))) (65536 : Int)) (281470681808895 : Int)) (IntKind.wrap IntKind.u64 ((bitsOp BinOp.and IntKind.u64 (bitsOp BinOp.or IntKind.u64 (bitsOp BinOp.and IntKind.u64 (Int.fdiv x (256 : Int)) (71777214294589695 : Int)) (IntKind.wrap IntKind.u64 ((bitsOp BinOp.and IntKind.u64 x (71777214294589695 : Int)) * (256 : Int)))) (281470681808895 : Int)) * (65536 : Int)))) * (4294967296 : Int))))))), []))) := by kernel_rfl

theorem rvb_fnd (x : Int) : FnD Try.prog 120 [.v (.c (.int .u64 x))] (.v (.c (.int .u64 (rvbV x)))) [] :=
  fn_sound envO_ok Try.func120 (rvb x) ⟨by decide, by decide, by decide, by decide, by decide, by decide, trivial⟩
def rvbSpec : FnSpec
  | [.v (.c (.int .u64 x))] => some ([], .v (.c (.int .u64 (rvbV x))), [])
  | _ => none
noncomputable def envW1 : Env := envO.set (addT envO.fn 120 rvbSpec)
theorem envW1_ok : EnvOk Try.prog envW1 := env_add envO_ok 120 rvbSpec (enters_of Try.func120 rfl rfl) fun args o r es h _ => by
  unfold rvbSpec at h
  split at h
  · cases h; exact rvb_fnd _
  · cases h
--@env envW1 envW1_ok
theorem rev (x : Int) : fnRes envW1 Try.f116 3000 [.v (.c (.int .u64 x))] [] [] [] = (Option.some ([((0 : Int) ≤ (1 : Int)), ((0 : Int) ≤ (1 : Int)), ((0 : Int) ≤ (2 : Int)), ((0 : Int) ≤ (2 : Int)), ((0 : Int) ≤ (4 : Int)), ((0 : Int) ≤ (4 : Int))], ((SV.v (V1.c (It.int IntKind.u64 (rvbV (bitsOp BinOp.or IntKind.u64 (bitsOp BinOp.and IntKind.u64 (Int.fdiv (bitsOp BinOp.or IntKind.u64 (bitsOp BinOp.and IntKind.u64 (Int.fdiv (bitsOp BinOp.or IntKind.u64 (bitsOp BinOp.and IntKind.u64 (Int.fdiv x (2 : Int)) (6148914691236517205 : Int)) (IntKind.wrap IntKind.u64 ((bitsOp BinOp.and IntKind.u64 x (6148914691236517205 : Int)) * (2 : Int)))) (4 : Int)) (3689348814741910323 : Int)) (IntKind.wrap IntKind.u64 ((bitsOp BinOp.and IntKind.u64 (bitsOp BinOp.or IntKind.u64 (bitsOp BinOp.and IntKind.u64 (Int.fdiv x (2 : Int)) (6148914691236517205 : Int)) (IntKind.wrap IntKind.u64 ((bitsOp BinOp.and IntKind.u64 x (6148914691236517205 : Int)) * (2 : Int)))) (3689348814741910323 : Int)) * (4 : Int)))) (16 : Int)) (1085102592571150095 : Int)) (IntKind.wrap IntKind.u64 ((bitsOp BinOp.and IntKind.u64 (bitsOp BinOp.or IntKind.u64 (bitsOp BinOp.and IntKind.u64 (Int.fdiv (bitsOp BinOp.or IntKind.u64 (bitsOp BinOp.and IntKind.u64 (Int.fdiv x (2 : Int)) (6148914691236517205 : Int)) (IntKind.wrap IntKind.u64 ((bitsOp BinOp.and IntKind.u64 x (6148914691236517205 : Int)) * (2 : Int)))) (4 : Int)) (3689348814741910323 : Int)) (IntKind.wrap IntKind.u64 ((bitsOp BinOp.and IntKind.u64 (bitsOp BinOp.or IntKind.u64 (bitsOp BinOp.and IntKind.u64 (Int.fdiv x (2 : Int)) (6148914691236517205 : Int)) (IntKind.wrap IntKind.u64 ((bitsOp BinOp.and IntKind.u64 x (6148914691236517205 : Int)) * (2 : Int)))) (3689348814741910323 : Int)) * (4 : Int)))) (1085102592571150095 : Int)) * (16 : Int)))))))), []))) := by kernel_rfl
theorem rev_fnd (x : Int) : FnD Try.prog 116 [.v (.c (.int .u64 x))] (.v (.c (.int .u64 (revV x)))) [] :=
  fn_sound envW1_ok Try.func116 (rev x) ⟨by decide, by decide, by decide, by decide, by decide, by decide, trivial⟩
def revSpec : FnSpec
  | [.v (.c (.int .u64 x))] => some ([], .v (.c (.int .u64 (revV x))), [])
  | _ => none
noncomputable def envW2 : Env := envW1.set (addT envW1.fn 116 revSpec)
theorem envW2_ok : EnvOk Try.prog envW2 := env_add envW1_ok 116 revSpec (enters_of Try.func116 rfl rfl) fun args o r es h _ => by
  unfold revSpec at h
  split at h
  · cases h; exact rev_fnd _
  · cases h

noncomputable def inlW (T : Nat → Option Func) (f : Nat) : Option Func := if f = 107 then some Try.f107 else T f
noncomputable def envW : Env := { envW2 with inl := inlW envW2.inl }
theorem envW_ok : EnvOk Try.prog envW := by
  refine ⟨envW2_ok.ty, envW2_ok.mixed, envW2_ok.fn, envW2_ok.mu, fun f fn h => ?_, envW2_ok.ex, envW2_ok.inv⟩
  have h : inlW envW2.inl f = some fn := h
  unfold inlW at h
  split at h
  · rename_i hf; cases h; subst hf; exact ⟨Try.func107, enters_of Try.func107 rfl rfl⟩
  exact envW2_ok.inl f fn h

--@env envW envW_ok
noncomputable def sw_k : List KI := (run envW false 3000 ((fun (l : Nat) (log : Int) => (⟨[.code (bodyOf Try.f115)], .normal, ⟨argT [.v (.c (.val (.func (.yield l) #[] #[]))), .v (.c (.ptr 0 0))], one (.fl [.int .i64 log]), Try.f115.ntmps, 16, []⟩⟩ : Cfg)) default default) []).cfg.k
theorem sw_hk (l : Nat) (log : Int) : (run envW false 3000 ((⟨[.code (bodyOf Try.f115)], .normal, ⟨argT [.v (.c (.val (.func (.yield l) #[] #[]))), .v (.c (.ptr 0 0))], one (.fl [.int .i64 log]), Try.f115.ntmps, 16, []⟩⟩ : Cfg)) []).cfg.k = sw_k := by kernel_rfl
theorem sw (l : Nat) (log : Int) {w0 : World} {F0 : Nat → Prop} {K : Kp} {ac : List Act} {Q : Exit → Act → World → Prop} {cX : Ctx} {aX : Act} (ho : AllP [((0 : Int) ≤ log)]) (hs : Sim w0 F0 K ac (⟨argT [.v (.c (.val (.func (.yield l) #[] #[]))), .v (.c (.ptr 0 0))], one (.fl [.int .i64 log]), Try.f115.ntmps, 16, []⟩) cX aX) (hK : ∀ ac cY aY, Sim w0 F0 K ac (mkSt 30 [0, 1, 6, 7] [(.v (.c (.val (Value.func (Fn.yield l) (Array.mk ([] : List Value)) (Array.mk ([] : List Value)))))), (.v (.c (.ptr 0 0))), (.v (.c (.int .i64 (IntKind.wrap .i64 ((1 : Int) * ((2 : Int) ^ (Min.min (log).toNat 64))))))), (.v (.c (.int .i64 (0 : Int))))] [0] [(some (.fl [(.int .i64 log)]))] 64 [] []) cY aY → Wq Try.prog Q (sw_k) ac Exit.normal aY cY.w) : Wq Try.prog Q ([.code (bodyOf Try.f115)]) ac .normal aX cX.w :=
  run_at2 (o := ⟨_, _, _, _, _, _, _⟩) envW_ok (by kernel_rfl) (sw_hk l log) ho hs hK
noncomputable def swS (l : Nat) (log n i : Int) : St := mkSt 30 [0, 1, 6, 7] [(SV.v (V1.c (It.val (Value.func (Fn.yield l) (Array.mk ([] : List Value)) (Array.mk ([] : List Value)))))), (SV.v (V1.c (It.ptr 0 0))), .v (.c (.int .i64 n)), .v (.c (.int .i64 i))] [0] [(Option.some (En.fl [(It.int IntKind.i64 log)]))] 64 [] []
noncomputable def swY_k : List KI := (run envW false 3000 ((fun (l : Nat) (log n i : Int) => (⟨lpIn sw_k, .normal, swS l log n i⟩ : Cfg)) default default default default) [true, true, true]).cfg.k
theorem swY_hk (l : Nat) (log n i : Int) : (run envW false 3000 ((⟨lpIn sw_k, .normal, swS l log n i⟩ : Cfg)) [true, true, true]).cfg.k = swY_k := by kernel_rfl
theorem swY (l : Nat) (log n i : Int) {w0 : World} {F0 : Nat → Prop} {K : Kp} {ac : List Act} {Q : Exit → Act → World → Prop} {cX : Ctx} {aX : Act} (ho : AllP [((decide (i < n)) = true), ((decide (log > (0 : Int))) = true), ((0 : Int) ≤ (IntKind.wrap .i64 ((64 : Int) - log))), ((decide (i < (IntKind.wrap .i64 (Int.fdiv (revV (IntKind.wrap .u64 i)) ((2 : Int) ^ (Min.min ((IntKind.wrap .i64 ((64 : Int) - log))).toNat 64)))))) = true)]) (hs : Sim w0 F0 K ac (swS l log n i) cX aX) (hK : ∀ ac cY aY, Sim w0 F0 K ac (mkSt 30 [0, 1, 6, 7, 22, 23, 24, 25] [(.v (.c (.val (Value.func (Fn.yield l) (Array.mk ([] : List Value)) (Array.mk ([] : List Value)))))), (.v (.c (.ptr 0 0))), (.v (.c (.int .i64 n))), (.v (.c (.int .i64 i))), (.v (.c (.lit true))), (.v (.c (.val (Value.func (Fn.yield l) (Array.mk ([] : List Value)) (Array.mk ([] : List Value)))))), (.v (.c (.int .i64 i))), (.v (.c (.int .i64 (IntKind.wrap .i64 (Int.fdiv (revV (IntKind.wrap .u64 i)) ((2 : Int) ^ (Min.min ((IntKind.wrap .i64 ((64 : Int) - log))).toNat 64)))))))] [0] [(some (.fl [(.int .i64 log)]))] 400 [] []) cY aY → Wq Try.prog Q (swY_k) ac Exit.normal aY cY.w) : Wq Try.prog Q (lpIn sw_k) ac .normal aX cX.w :=
  run_at2 (o := ⟨_, _, _, _, _, _, _⟩) envW_ok (by kernel_rfl) (swY_hk l log n i) ho hs hK
theorem swB_hk (l : Nat) (log n i j : Int) : (run envW false 3000 ((⟨opsNext swY_k, .normal, ⟨setT (look .top [0, 1, 6, 7, 22, 23, 24, 25] [(.v (.c (.val (.func (.yield l) #[] #[])))), .v (.c (.ptr 0 0)), .v (.c (.int .i64 n)), .v (.c (.int .i64 i)), .v (.c (.lit true)), (.v (.c (.val (.func (.yield l) #[] #[])))), .v (.c (.int .i64 i)), .v (.c (.int .i64 j))]) 26 (.v (.c (.lit true))), one (.fl [.int .i64 log]), 30, 400, []⟩⟩ : Cfg)) []).cfg.k = lpBk sw_k := by kernel_rfl
theorem swB (l : Nat) (log n i j : Int) {w0 : World} {F0 : Nat → Prop} {K : Kp} {ac : List Act} {Q : Exit → Act → World → Prop} {cX : Ctx} {aX : Act} (ho : AllP []) (hs : Sim w0 F0 K ac (⟨setT (look .top [0, 1, 6, 7, 22, 23, 24, 25] [(.v (.c (.val (.func (.yield l) #[] #[])))), .v (.c (.ptr 0 0)), .v (.c (.int .i64 n)), .v (.c (.int .i64 i)), .v (.c (.lit true)), (.v (.c (.val (.func (.yield l) #[] #[])))), .v (.c (.int .i64 i)), .v (.c (.int .i64 j))]) 26 (.v (.c (.lit true))), one (.fl [.int .i64 log]), 30, 400, []⟩) cX aX) (hK : ∀ ac cY aY, Sim w0 F0 K ac (mkSt 30 [0, 1, 6, 7] [(.v (.c (.val (Value.func (Fn.yield l) (Array.mk ([] : List Value)) (Array.mk ([] : List Value)))))), (.v (.c (.ptr 0 0))), (.v (.c (.int .i64 n))), (.v (.c (.int .i64 (IntKind.wrap .i64 (i + (1 : Int))))))] [0] [(some (.fl [(.int .i64 log)]))] 464 [] []) cY aY → Wq Try.prog Q (lpBk sw_k) ac Exit.normal aY cY.w) : Wq Try.prog Q (opsNext swY_k) ac .normal aX cX.w :=
  run_at2 (o := ⟨_, _, _, _, _, _, _⟩) envW_ok (by kernel_rfl) (swB_hk l log n i j) ho hs hK
theorem swN_hk (l : Nat) (log n i : Int) : (run envW false 3000 ((⟨lpIn sw_k, .normal, swS l log n i⟩ : Cfg)) [true, true, false]).cfg.k = lpBk sw_k := by kernel_rfl
theorem swN (l : Nat) (log n i : Int) {w0 : World} {F0 : Nat → Prop} {K : Kp} {ac : List Act} {Q : Exit → Act → World → Prop} {cX : Ctx} {aX : Act} (ho : AllP [((decide (i < n)) = true), ((decide (log > (0 : Int))) = true), ((0 : Int) ≤ (IntKind.wrap .i64 ((64 : Int) - log))), ((decide (i < (IntKind.wrap .i64 (Int.fdiv (revV (IntKind.wrap .u64 i)) ((2 : Int) ^ (Min.min ((IntKind.wrap .i64 ((64 : Int) - log))).toNat 64)))))) = false)]) (hs : Sim w0 F0 K ac (swS l log n i) cX aX) (hK : ∀ ac cY aY, Sim w0 F0 K ac (mkSt 30 [0, 1, 6, 7] [(.v (.c (.val (Value.func (Fn.yield l) (Array.mk ([] : List Value)) (Array.mk ([] : List Value)))))), (.v (.c (.ptr 0 0))), (.v (.c (.int .i64 n))), (.v (.c (.int .i64 (IntKind.wrap .i64 (i + (1 : Int))))))] [0] [(some (.fl [(.int .i64 log)]))] 480 [] []) cY aY → Wq Try.prog Q (lpBk sw_k) ac Exit.normal aY cY.w) : Wq Try.prog Q (lpIn sw_k) ac .normal aX cX.w :=
  run_at2 (o := ⟨_, _, _, _, _, _, _⟩) envW_ok (by kernel_rfl) (swN_hk l log n i) ho hs hK
theorem swZ_hk (l : Nat) (log n i : Int) : (run envW false 3000 ((⟨lpIn sw_k, .normal, swS l log n i⟩ : Cfg)) [true, false, false]).cfg.k = lpBk sw_k := by kernel_rfl
theorem swZ (l : Nat) (log n i : Int) {w0 : World} {F0 : Nat → Prop} {K : Kp} {ac : List Act} {Q : Exit → Act → World → Prop} {cX : Ctx} {aX : Act} (ho : AllP [((decide (i < n)) = true), ((decide (log > (0 : Int))) = false), ((decide (i < (0 : Int))) = false)]) (hs : Sim w0 F0 K ac (swS l log n i) cX aX) (hK : ∀ ac cY aY, Sim w0 F0 K ac (mkSt 30 [0, 1, 6, 7] [(.v (.c (.val (Value.func (Fn.yield l) (Array.mk ([] : List Value)) (Array.mk ([] : List Value)))))), (.v (.c (.ptr 0 0))), (.v (.c (.int .i64 n))), (.v (.c (.int .i64 (IntKind.wrap .i64 (i + (1 : Int))))))] [0] [(some (.fl [(.int .i64 log)]))] 352 [] []) cY aY → Wq Try.prog Q (lpBk sw_k) ac Exit.normal aY cY.w) : Wq Try.prog Q (lpIn sw_k) ac .normal aX cX.w :=
  run_at2 (o := ⟨_, _, _, _, _, _, _⟩) envW_ok (by kernel_rfl) (swZ_hk l log n i) ho hs hK
theorem swX_hk (l : Nat) (log n i : Int) : (run envW false 3000 ((⟨lpIn sw_k, .normal, swS l log n i⟩ : Cfg)) [false]).cfg.k = [] := by kernel_rfl
theorem swX (l : Nat) (log n i : Int) {w0 : World} {F0 : Nat → Prop} {K : Kp} {ac : List Act} {Q : Exit → Act → World → Prop} {cX : Ctx} {aX : Act} (ho : AllP [((decide (i < n)) = false)]) (hs : Sim w0 F0 K ac (swS l log n i) cX aX) (hK : ∀ ac cY aY, Sim w0 F0 K ac (mkSt 30 [] [] [0] [(some (.fl [(.int .i64 log)]))] 80 [] []) cY aY → Wq Try.prog Q ([]) ac Exit.normal aY cY.w) : Wq Try.prog Q (lpIn sw_k) ac .normal aX cX.w :=
  run_at2 (o := ⟨_, _, _, _, _, _, _⟩) envW_ok (by kernel_rfl) (swX_hk l log n i) ho hs hK
end Go.Proofs.Ytlfllehomhcbfaa

/- The swaps' iterator yields the places of which the first has the greater one as its bits turned round. No conditions. -/
namespace Go.Proofs.Ytlfllehomhcbfaa

/-- The pairs among the first so many places. -/
def prs (log : Nat) : Nat → List (Nat × Nat)
  | 0 => []
  | i + 1 => prs log i ++ (if i < brv log i then [(i, brv log i)] else [])

theorem prs_pre (log : Nat) : ∀ {n i : Nat}, i ≤ n → ∃ t, prs log n = prs log i ++ t
  | 0, i, h => ⟨[], by rw [show i = 0 from by omega]; simp⟩
  | n + 1, i, h => by
    by_cases h1 : i = n + 1
    · exact ⟨[], by rw [h1]; simp⟩
    · obtain ⟨t, ht⟩ := prs_pre log (n := n) (i := i) (by omega)
      exact ⟨_, by simp only [prs]; rw [ht, List.append_assoc]⟩

def prEnc (z : Nat × Nat) : List Value := [.int .i64 (z.1 : Int), .int .i64 (z.2 : Int)]

theorem shl_one {log : Nat} (h : log ≤ 16) : IntKind.wrap .i64 ((1 : Int) * ((2 : Int) ^ (min ((log : Int)).toNat 64))) = ((2 ^ log : Nat) : Int) := by
  have hp : 2 ^ log ≤ 2 ^ 16 := Nat.pow_le_pow_right (by decide) h
  rw [Int.one_mul, show min ((log : Int)).toNat 64 = log from by omega]
  have e3 : ((2 : Int) ^ log) = ((2 ^ log : Nat) : Int) := by simp
  rw [e3]
  generalize 2 ^ log = n at *
  exact wrap_id (by omega) (by omega)

theorem box_den {y : Ctx} {p : Nat} {log : Int} : ∀ (cs : Array Value) ty, y.w.heap[y.β p]? = some (.cells cs ty (0, 0)) → denEn y (.fl [.int .i64 log]) cs.toList → denEn (itCtx y p) (.fl [.int .i64 log]) cs.toList := by
  intro cs ty _ h
  exact pure_En (e := .fl [.int .i64 log]) rfl h

theorem swaps_iter {x : Ctx} {p log : Nat} {M : List (Nat × Nat) → Nat → Option En} (hlog : log ≤ 16) (hM : ∀ s, M s p = some (.fl [.int .i64 (log : Int)])) : IterC Try.prog x 115 [(p, 0)] prEnc (prs log (2 ^ log)) M := by
  intro l J W hgrow hread hyield hJ
  have key : Wq Try.prog (bodyPost Try.prog Try.f115 fun e W' => (∃ v, e = Ending.returned v) ∧ J (prs log (2 ^ log)) W') [.code (bodyOf Try.f115)] [] .normal { tmps := [Value.func (.yield l) #[] #[], .pointer (some ⟨x.β p, 0, none⟩)].toArray ++ Array.replicate 28 undef, defers := [] } W := ?_
  · exact calls_of_wp (c := bodyOf Try.f115) Try.func115 rfl ((wpIn_wide (n := 0)).1 key.wp)
  obtain ⟨y, rfl, hm, hc⟩ := hread [] W hJ
  obtain ⟨hr, hβ⟩ := hc (p, 0) List.mem_cons_self
  have hr : y.k p = .real := hr
  have hβ : y.β p = x.β p := hβ
  have hp2 : 2 ^ log ≤ 2 ^ 16 := Nat.pow_le_pow_right (by decide) hlog
  have hargs : denSs (itCtx y p) [.v (.c (.val (.func (.yield l) #[] #[]))), .v (.c (.ptr 0 0))] [.func (.yield l) #[] #[], .pointer (some ⟨x.β p, 0, none⟩)] :=
    .cons ⟨rfl, 0, rfl, rfl⟩ (.cons ⟨rfl, 0, rfl, by show _ = [Value.pointer (some ⟨y.β p, 0, none⟩)]; rw [hβ]⟩ .nil)
  have hs := it_sim (nx := 16) (nt := 30) (a := { tmps := [Value.func (.yield l) #[] #[], .pointer (some ⟨x.β p, 0, none⟩)].toArray ++ Array.replicate 28 undef, defers := [] }) hm (hM []) hr box_den rfl (by simp) (argT_den hargs 28)
  change Wq Try.prog _ _ _ _ _ (itCtx y p).w
  refine sw l (log : Int) ⟨by omega, trivial⟩ hs fun ac cY aY hs1 => ?_
  rw [shl_one hlog] at hs1
  let I : { i : Nat // i ≤ 2 ^ log } → List Act → Act → World → Prop := fun i ac a w => ∃ y z, z.w = w ∧ y.k p = .real ∧ y.β p = x.β p ∧ Mem y (M (prs log i.1)) ∧ J (prs log i.1) y.w ∧ Sim y.w y.F (kPin (itCtx y p)) ac (swS l (log : Int) ((2 ^ log : Nat) : Int) (i.1 : Int)) z a
  refine loop_inv I (fun i => 2 ^ log - i.1) (c := lpC sw_k) (k := lpR sw_k) (by kernel_rfl) (fun i ih ac b w hI => ?_) ⟨0, Nat.zero_le _⟩ ⟨y, cY, rfl, hr, hβ, hm, hJ, hs1.nx _⟩
  obtain ⟨i, hi⟩ := i
  obtain ⟨y, z, rfl, hr, hβ, hm, hJ, hs⟩ := hI
  simp only at hm hJ hs ih
  have hmb : Mem (itCtx y p) (one (.fl [.int .i64 (log : Int)])) := it_mem hm (hM _) hr box_den
  by_cases h : i < 2 ^ log
  · have hd : decide ((i : Int) < ((2 ^ log : Nat) : Int)) = true := decide_eq_true (Int.ofNat_lt.2 h)
    have hw : IntKind.wrap IntKind.i64 ((i : Int) + 1) = ((i + 1 : Nat) : Int) := by rw [wrap_id (by omega) (by omega)]; omega
    by_cases h0 : log = 0
    · subst h0
      refine swZ l _ _ _ ⟨hd, by simp, by simp, trivial⟩ hs fun ac cZ aZ hs2 => ?_
      rw [hw] at hs2
      have e : prs 0 (i + 1) = prs 0 i := by simp [prs, brv]
      exact ih ⟨i + 1, by omega⟩ (by show 2 ^ 0 - (i + 1) < 2 ^ 0 - i; omega) ac aZ _ ⟨y, cZ, rfl, hr, hβ, by rw [e]; exact hm, by rw [e]; exact hJ, hs2.nx _⟩
    · have hj := rev_place (m := log) (i := i) (by omega) hlog h
      have hpos : decide ((log : Int) > (0 : Int)) = true := by simp; omega
      have hsub : (0 : Int) ≤ IntKind.wrap IntKind.i64 ((64 : Int) - (log : Int)) := by rw [wrap_id (by omega) (by omega)]; omega
      by_cases h1 : i < brv log i
      · have e : prs log (i + 1) = prs log i ++ [(i, brv log i)] := by simp [prs, h1]
        refine swY l _ _ _ ⟨hd, hpos, hsub, by rw [hj]; simp [h1], trivial⟩ hs fun ac cZ aZ hs2 => ?_
        rw [hj] at hs2
        obtain ⟨hg, hk2, hβ2⟩ := it_back hmb rfl hs2 rfl
        have hJ2 := hgrow _ _ _ hJ hg
        obtain ⟨t, ht⟩ := prs_pre log (n := 2 ^ log) (i := i + 1) (by omega)
        refine yield_at (R := fun W' => J (prs log (i + 1)) W') (dst := some 26) (f := .tmp 23) (args := [.tmp 24, .tmp 25]) (by kernel_rfl) hs2 (l := l) rfl (vs := prEnc (i, brv log i)) ?_ ?_ fun W' hJ3 => ?_
        · have h24 := D_int (hs2.t 24)
          have h25 := D_int (hs2.t 25)
          show [aZ.tmps.getD 24 undef, aZ.tmps.getD 25 undef] = _
          rw [h24, h25]
          rfl
        · have := hyield (prs log i) (i, brv log i) _ hJ2 ⟨t, by rw [ht, e, List.append_assoc]; rfl⟩
          rw [← e] at this
          exact this
        · obtain ⟨y3, rfl, hm3, hc3⟩ := hread _ _ hJ3
          obtain ⟨hr3, hβ3⟩ := hc3 (p, 0) List.mem_cons_self
          have hs3 := it_again (nx' := 400) (dst := 26) (b := true) hs2 (by kernel_rfl) rfl hm3 (hM _) hr3 box_den (by rw [hβ2, hβ]; exact hβ3.symm) (by decide)
          change Wq Try.prog _ _ _ _ _ (itCtx y3 p).w
          refine swB l _ _ _ _ trivial hs3 fun ac cV aV hs4 => ?_
          rw [hw] at hs4
          exact ih ⟨i + 1, by omega⟩ (by show 2 ^ log - (i + 1) < 2 ^ log - i; omega) ac aV _ ⟨y3, cV, rfl, hr3, hβ3, hm3, hJ3, hs4.nx _⟩
      · have e : prs log (i + 1) = prs log i := by simp [prs, h1]
        refine swN l _ _ _ ⟨hd, hpos, hsub, by rw [hj]; simp; omega, trivial⟩ hs fun ac cZ aZ hs2 => ?_
        rw [hw] at hs2
        exact ih ⟨i + 1, by omega⟩ (by show 2 ^ log - (i + 1) < 2 ^ log - i; omega) ac aZ _ ⟨y, cZ, rfl, hr, hβ, by rw [e]; exact hm, by rw [e]; exact hJ, hs2.nx _⟩
  · have e : i = 2 ^ log := by omega
    subst e
    refine swX l _ _ _ ⟨by simp, trivial⟩ hs fun ac cZ aZ hs2 => ?_
    obtain ⟨hg, _, _⟩ := it_back hmb rfl hs2 rfl
    exact ⟨it_end envW1_ok hs2 rfl rfl rfl (fun v => ⟨⟨v, rfl⟩, hgrow _ _ _ hJ hg⟩) (.inr rfl)⟩

end Go.Proofs.Ytlfllehomhcbfaa

/- The transform, walked: places change, then rounds of sums and differences. No conditions. -/
namespace Go.Proofs.Ytlfllehomhcbfaa

--@env envW envW_ok
noncomputable def tf_k : List KI := (run envW false 3000 ((fun (L : List Fr) (n : Nat) (log : Int) (w : Fr) => (⟨[.code (bodyOf Try.f86)], .normal, muSt Try.f86.ntmps 0 n 4 (.sq (.s L)) [.v (.c (.int .i64 log)), .v (.a [.ob (.s w)])]⟩ : Cfg)) default default default default) []).cfg.k
theorem tf_hk (L : List Fr) (n : Nat) (log : Int) (w : Fr) : (run envW false 3000 ((⟨[.code (bodyOf Try.f86)], .normal, muSt Try.f86.ntmps 0 n 4 (.sq (.s L)) [.v (.c (.int .i64 log)), .v (.a [.ob (.s w)])]⟩ : Cfg)) []).cfg.k = tf_k := by kernel_rfl
theorem tf (L : List Fr) (n : Nat) (log : Int) (w : Fr) {w0 : World} {F0 : Nat → Prop} {K : Kp} {ac : List Act} {Q : Exit → Act → World → Prop} {cX : Ctx} {aX : Act} (ho : AllP []) (hs : Sim w0 F0 K ac (muSt Try.f86.ntmps 0 n 4 (.sq (.s L)) [.v (.c (.int .i64 log)), .v (.a [.ob (.s w)])]) cX aX) (hK : ∀ ac cY aY, Sim w0 F0 K ac (mkSt 102 [3, 5, 16] [(.v (.c (.ptr 16 0))), (.v (.c (.ptr 32 0))), (.v (.c (.clo 115 [(64, 0)])))] [0, 16, 32, 64] [(some (.sq (.s L))), (some (.fl [(.slc 0 0 n 4)])), (some (.fl [(.ob (.s w))])), (some (.fl [(.int .i64 log)]))] 128 [] []) cY aY → Wq Try.prog Q (tf_k) ac Exit.normal aY cY.w) : Wq Try.prog Q ([.code (bodyOf Try.f86)]) ac .normal aX cX.w :=
  run_at2 (o := ⟨_, _, _, _, _, _, _⟩) envW_ok (by kernel_rfl) (tf_hk L n log w) ho hs hK
noncomputable def tfS (L : List Fr) (n : Nat) (log : Int) (w : Fr) : St := mkSt 102 [3, 5, 16] [(SV.v (V1.c (It.ptr 16 0))), (SV.v (V1.c (It.ptr 32 0))), (SV.v (V1.c (It.clo 115 [(64, 0)])))] [0, 16, 32, 64] [some (.sq (.s L)), (Option.some (En.fl [(It.slc 0 0 n 4)])), (Option.some (En.fl [(It.ob (Ob.s w))])), (Option.some (En.fl [(It.int IntKind.i64 log)]))] 128 [] []
theorem tfA_hk (L : List Fr) (n : Nat) (log : Int) (w : Fr) (i j : Nat) : (run envW false 3000 ((⟨[.code (rfA tf_k)], .normal, roundSt (tfS L n log w) [(17, .v (.c (.int .i64 (i : Int)))), (18, .v (.c (.int .i64 (j : Int))))]⟩ : Cfg)) []).cfg.k = [] := by kernel_rfl
theorem tfA (L : List Fr) (n : Nat) (log : Int) (w : Fr) (i j : Nat) {w0 : World} {F0 : Nat → Prop} {K : Kp} {ac : List Act} {Q : Exit → Act → World → Prop} {cX : Ctx} {aX : Act} {ρ : Option Nat} (ho : AllP []) (hs : Sim w0 F0 K ac (roundSt (tfS L n log w) [(17, .v (.c (.int .i64 (i : Int)))), (18, .v (.c (.int .i64 (j : Int))))]) cX aX) (hK : ∀ cY aY, Sim w0 F0 K ac (mkSt 102 [3, 5, 6, 7] [(.v (.c (.ptr 16 0))), (.v (.c (.ptr 32 0))), (.v (.c (.int .i64 ((i : Nat) : Int)))), (.v (.c (.int .i64 ((j : Nat) : Int))))] [0, 16, 32, 64] [(some (.sq (.s L))), (some (.fl [(.slc 0 0 n 4)])), (some (.fl [(.ob (.s w))])), (some (.fl [(.int .i64 log)]))] 160 [[3, 5, 16]] [([(.v (.c (.ptr 16 0))), (.v (.c (.ptr 32 0))), (.v (.c (.clo 115 [(64, 0)])))], 102)]) cY aY → Wq Try.prog Q ([]) ac Exit.normal aY cY.w ρ) : Wq Try.prog Q ([.code (rfA tf_k)]) ac .normal aX cX.w ρ :=
  run_atT (o := ⟨_, _, _, _, _, _, _⟩) envW_ok (by kernel_rfl) (tfA_hk L n log w i j) ho (by kernel_rfl) (by kernel_rfl) hs hK
noncomputable def tfB (L : List Fr) (n : Nat) (log : Int) (w : Fr) (i j : Nat) : St := mkSt 102 [3, 5, 6, 7] [(SV.v (V1.c (It.ptr 16 0))), (SV.v (V1.c (It.ptr 32 0))), (SV.v (V1.c (It.int IntKind.i64 ((i : Nat) : Int)))), (SV.v (V1.c (It.int IntKind.i64 ((j : Nat) : Int))))] [0, 16, 32, 64] [some (.sq (.s L)), (Option.some (En.fl [(It.slc 0 0 n 4)])), (Option.some (En.fl [(It.ob (Ob.s w))])), (Option.some (En.fl [(It.int IntKind.i64 log)]))] 160 [[3, 5, 16]] [([(SV.v (V1.c (It.ptr 16 0))), (SV.v (V1.c (It.ptr 32 0))), (SV.v (V1.c (It.clo 115 [(64, 0)])))], 102)]
theorem tfC_hk (L : List Fr) (n : Nat) (log : Int) (w : Fr) (i j : Nat) : (run envW false 3000 ((⟨[.code (rfB tf_k)], .normal, tfB L n log w i j⟩ : Cfg)) []).cfg.k = [] := by kernel_rfl
theorem tfC (L : List Fr) (n : Nat) (log : Int) (w : Fr) (i j : Nat) {w0 : World} {F0 : Nat → Prop} {K : Kp} {ac : List Act} {Q : Exit → Act → World → Prop} {cX : Ctx} {aX : Act} {ρ : Option Nat} (ho : AllP [((0 : Int) ≤ ((j : Nat) : Int)), (((j : Nat) : Int) < ((n : Nat) : Int)), (0 = 0), ((((j : Nat) : Int)).toNat < (List.length L)), ((0 : Int) ≤ ((i : Nat) : Int)), (((i : Nat) : Int) < ((n : Nat) : Int)), (0 = 0), ((((i : Nat) : Int)).toNat < (List.length L)), ((0 : Int) ≤ ((i : Nat) : Int)), (((i : Nat) : Int) < ((n : Nat) : Int)), (0 = 0), ((((i : Nat) : Int)).toNat < (List.length L)), ((0 : Int) ≤ ((j : Nat) : Int)), (((j : Nat) : Int) < ((n : Nat) : Int)), (0 = 0), ((((j : Nat) : Int)).toNat < (List.length (List.set L (((i : Nat) : Int)).toNat (List.getD L (((j : Nat) : Int)).toNat (0 : Fr)))))]) (hs : Sim w0 F0 K ac (tfB L n log w i j) cX aX) (hK : ∀ cY aY, Sim w0 F0 K ac (mkSt 102 [] [] [0, 16, 32, 64] [(some (.sq (.s (List.set (List.set L (((i : Nat) : Int)).toNat (List.getD L (((j : Nat) : Int)).toNat (0 : Fr))) (((j : Nat) : Int)).toNat (List.getD L (((i : Nat) : Int)).toNat (0 : Fr)))))), (some (.fl [(.slc 0 0 n 4)])), (some (.fl [(.ob (.s w))])), (some (.fl [(.int .i64 log)]))] 416 [[3, 5, 16]] [([(.v (.c (.ptr 16 0))), (.v (.c (.ptr 32 0))), (.v (.c (.clo 115 [(64, 0)])))], 102)]) cY aY → Wq Try.prog Q ([]) ac Exit.normal aY cY.w ρ) : Wq Try.prog Q ([.code (rfB tf_k)]) ac .normal aX cX.w ρ :=
  run_atT (o := ⟨_, _, _, _, _, _, _⟩) envW_ok (by kernel_rfl) (tfC_hk L n log w i j) ho (by kernel_rfl) (by kernel_rfl) hs hK
noncomputable def tfE (L : List Fr) (n : Nat) (log : Int) (w : Fr) : St := mkSt 102 [] [] [0, 16, 32, 64] [some (.sq (.s L)), (Option.some (En.fl [(It.slc 0 0 n 4)])), (Option.some (En.fl [(It.ob (Ob.s w))])), (Option.some (En.fl [(It.int IntKind.i64 log)]))] 416 [[3, 5, 16]] [([(SV.v (V1.c (It.ptr 16 0))), (SV.v (V1.c (It.ptr 32 0))), (SV.v (V1.c (It.clo 115 [(64, 0)])))], 102)]
noncomputable def tg_k : List KI := (run envW false 3000 ((fun (L : List Fr) (n : Nat) (log : Int) (w : Fr) => (⟨rfR tf_k, .normal, tfS L n log w⟩ : Cfg)) default default default default) []).cfg.k
theorem tg_hk (L : List Fr) (n : Nat) (log : Int) (w : Fr) : (run envW false 3000 ((⟨rfR tf_k, .normal, tfS L n log w⟩ : Cfg)) []).cfg.k = tg_k := by kernel_rfl
theorem tg (L : List Fr) (n : Nat) (log : Int) (w : Fr) {w0 : World} {F0 : Nat → Prop} {K : Kp} {ac : List Act} {Q : Exit → Act → World → Prop} {cX : Ctx} {aX : Act} (ho : AllP [((2 : Int) ≠ (0 : Int)), ((0 : Int) ≤ (ite ((1 : Int) > (IntKind.wrap .i64 (Int.tdiv ((n : Nat) : Int) (2 : Int)))) (1 : Int) (IntKind.wrap .i64 (Int.tdiv ((n : Nat) : Int) (2 : Int))))), ((ite ((1 : Int) > (IntKind.wrap .i64 (Int.tdiv ((n : Nat) : Int) (2 : Int)))) (1 : Int) (IntKind.wrap .i64 (Int.tdiv ((n : Nat) : Int) (2 : Int)))) ≤ (8796093022208 : Int))]) (hs : Sim w0 F0 K ac (tfS L n log w) cX aX) (hK : ∀ ac cY aY, Sim w0 F0 K ac (mkSt 102 [3, 8, 9] [(.v (.c (.ptr 16 0))), (.v (.c (.slc 208 0 ((ite ((1 : Int) > (IntKind.wrap .i64 (Int.tdiv ((n : Nat) : Int) (2 : Int)))) (1 : Int) (IntKind.wrap .i64 (Int.tdiv ((n : Nat) : Int) (2 : Int))))).toNat 4))), (.v (.c (.int .i64 (1 : Int))))] [0, 16, 208] [(some (.sq (.s L))), (some (.fl [(.slc 0 0 n 4)])), (some (.sq (.s (powF w ((ite ((1 : Int) > (IntKind.wrap .i64 (Int.tdiv ((n : Nat) : Int) (2 : Int)))) (1 : Int) (IntKind.wrap .i64 (Int.tdiv ((n : Nat) : Int) (2 : Int))))).toNat))))] 256 [] []) cY aY → Wq Try.prog Q (tg_k) ac Exit.normal aY cY.w) : Wq Try.prog Q (rfR tf_k) ac .normal aX cX.w :=
  run_at2 (o := ⟨_, _, _, _, _, _, _⟩) envW_ok (by kernel_rfl) (tg_hk L n log w) ho hs hK
noncomputable def tgS (L A : List Fr) (n m : Nat) (half : Int) : St := mkSt 102 [3, 8, 9] [(SV.v (V1.c (It.ptr 16 0))), .v (.c (.slc 208 0 m 4)), .v (.c (.int .i64 half))] [0, 16, 208] [some (.sq (.s L)), (Option.some (En.fl [(It.slc 0 0 n 4)])), some (.sq (.s A))] 256 [] []
noncomputable def th_k : List KI := (run envW false 3000 ((fun (L A : List Fr) (n m : Nat) (half : Int) => (⟨lpIn tg_k, .normal, tgS L A n m half⟩ : Cfg)) default default default default default) [true]).cfg.k
theorem th_hk (L A : List Fr) (n m : Nat) (half : Int) : (run envW false 3000 ((⟨lpIn tg_k, .normal, tgS L A n m half⟩ : Cfg)) [true]).cfg.k = th_k := by kernel_rfl
theorem th (L A : List Fr) (n m : Nat) (half : Int) {w0 : World} {F0 : Nat → Prop} {K : Kp} {ac : List Act} {Q : Exit → Act → World → Prop} {cX : Ctx} {aX : Act} (ho : AllP [((decide (half < ((n : Nat) : Int))) = true), ((IntKind.wrap .i64 ((2 : Int) * half)) ≠ (0 : Int))]) (hs : Sim w0 F0 K ac (tgS L A n m half) cX aX) (hK : ∀ ac cY aY, Sim w0 F0 K ac (mkSt 102 [3, 8, 9, 10, 11] [(.v (.c (.ptr 16 0))), (.v (.c (.slc 208 0 m 4))), (.v (.c (.int .i64 half))), (.v (.c (.int .i64 (IntKind.wrap .i64 (Int.tdiv ((n : Nat) : Int) (IntKind.wrap .i64 ((2 : Int) * half))))))), (.v (.c (.int .i64 (0 : Int))))] [0, 16, 208] [(some (.sq (.s L))), (some (.fl [(.slc 0 0 n 4)])), (some (.sq (.s A)))] 432 [] []) cY aY → Wq Try.prog Q (th_k) ac Exit.normal aY cY.w) : Wq Try.prog Q (lpIn tg_k) ac .normal aX cX.w :=
  run_at2 (o := ⟨_, _, _, _, _, _, _⟩) envW_ok (by kernel_rfl) (th_hk L A n m half) ho hs hK
noncomputable def thS (L A : List Fr) (n m : Nat) (half st fr : Int) : St := mkSt 102 [3, 8, 9, 10, 11] [(SV.v (V1.c (It.ptr 16 0))), (SV.v (V1.c (It.slc 208 0 m 4))), (SV.v (V1.c (It.int IntKind.i64 half))), .v (.c (.int .i64 st)), .v (.c (.int .i64 fr))] [0, 16, 208] [(Option.some (En.sq (Sq.s L))), (Option.some (En.fl [(It.slc 0 0 n 4)])), (Option.some (En.sq (Sq.s A)))] 432 [] []
noncomputable def ti_k : List KI := (run envW false 3000 ((fun (L A : List Fr) (n m : Nat) (half st fr : Int) => (⟨lpIn th_k, .normal, thS L A n m half st fr⟩ : Cfg)) default default default default default default default) [true]).cfg.k
theorem ti_hk (L A : List Fr) (n m : Nat) (half st fr : Int) : (run envW false 3000 ((⟨lpIn th_k, .normal, thS L A n m half st fr⟩ : Cfg)) [true]).cfg.k = ti_k := by kernel_rfl
theorem ti (L A : List Fr) (n m : Nat) (half st fr : Int) {w0 : World} {F0 : Nat → Prop} {K : Kp} {ac : List Act} {Q : Exit → Act → World → Prop} {cX : Ctx} {aX : Act} (ho : AllP [((decide (fr < ((n : Nat) : Int))) = true)]) (hs : Sim w0 F0 K ac (thS L A n m half st fr) cX aX) (hK : ∀ ac cY aY, Sim w0 F0 K ac (mkSt 102 [3, 8, 9, 10, 11, 58, 59] [(.v (.c (.ptr 16 0))), (.v (.c (.slc 208 0 m 4))), (.v (.c (.int .i64 half))), (.v (.c (.int .i64 st))), (.v (.c (.int .i64 fr))), (.v (.c (.int .i64 half))), (.v (.c (.int .i64 (0 : Int))))] [0, 16, 208] [(some (.sq (.s L))), (some (.fl [(.slc 0 0 n 4)])), (some (.sq (.s A)))] 528 [] []) cY aY → Wq Try.prog Q (ti_k) ac Exit.normal aY cY.w) : Wq Try.prog Q (lpIn th_k) ac .normal aX cX.w :=
  run_at2 (o := ⟨_, _, _, _, _, _, _⟩) envW_ok (by kernel_rfl) (ti_hk L A n m half st fr) ho hs hK
noncomputable def tiS (L A : List Fr) (n m : Nat) (half st fr i : Int) : St := mkSt 102 [3, 8, 9, 10, 11, 58, 59] [(SV.v (V1.c (It.ptr 16 0))), (SV.v (V1.c (It.slc 208 0 m 4))), (SV.v (V1.c (It.int IntKind.i64 half))), (SV.v (V1.c (It.int IntKind.i64 st))), (SV.v (V1.c (It.int IntKind.i64 fr))), (SV.v (V1.c (It.int IntKind.i64 half))), .v (.c (.int .i64 i))] [0, 16, 208] [(Option.some (En.sq (Sq.s L))), (Option.some (En.fl [(It.slc 0 0 n 4)])), (Option.some (En.sq (Sq.s A)))] 528 [] []
theorem tj_hk (L A : List Fr) (n m : Nat) (half st fr i : Int) : (run envW false 3000 ((⟨lpIn ti_k, .normal, tiS L A n m half st fr i⟩ : Cfg)) [true]).cfg.k = lpBk ti_k := by kernel_rfl
theorem tj (L A : List Fr) (n m : Nat) (half st fr i : Int) {w0 : World} {F0 : Nat → Prop} {K : Kp} {ac : List Act} {Q : Exit → Act → World → Prop} {cX : Ctx} {aX : Act} (ho : AllP [((decide (i < half)) = true), ((0 : Int) ≤ (IntKind.wrap .i64 (fr + i))), ((IntKind.wrap .i64 (fr + i)) < ((n : Nat) : Int)), (0 = 0), (((IntKind.wrap .i64 (fr + i))).toNat < (List.length L)), ((0 : Int) ≤ (IntKind.wrap .i64 ((IntKind.wrap .i64 (fr + i)) + half))), ((IntKind.wrap .i64 ((IntKind.wrap .i64 (fr + i)) + half)) < ((n : Nat) : Int)), (0 = 0), (((IntKind.wrap .i64 ((IntKind.wrap .i64 (fr + i)) + half))).toNat < (List.length L)), ((0 : Int) ≤ (IntKind.wrap .i64 (i * st))), ((IntKind.wrap .i64 (i * st)) < ((m : Nat) : Int)), (0 = 0), (((IntKind.wrap .i64 (i * st))).toNat < (List.length A)), ((0 : Int) ≤ (IntKind.wrap .i64 (fr + i))), ((IntKind.wrap .i64 (fr + i)) < ((n : Nat) : Int)), (0 = 0), (((IntKind.wrap .i64 (fr + i))).toNat < (List.length L)), ((0 : Int) ≤ (IntKind.wrap .i64 ((IntKind.wrap .i64 (fr + i)) + half))), ((IntKind.wrap .i64 ((IntKind.wrap .i64 (fr + i)) + half)) < ((n : Nat) : Int)), (0 = 0), (((IntKind.wrap .i64 ((IntKind.wrap .i64 (fr + i)) + half))).toNat < (List.length (List.set L ((IntKind.wrap .i64 (fr + i))).toNat ((List.getD L ((IntKind.wrap .i64 (fr + i))).toNat (0 : Fr)) + ((List.getD L ((IntKind.wrap .i64 ((IntKind.wrap .i64 (fr + i)) + half))).toNat (0 : Fr)) * (List.getD A ((IntKind.wrap .i64 (i * st))).toNat (0 : Fr)))))))]) (hs : Sim w0 F0 K ac (tiS L A n m half st fr i) cX aX) (hK : ∀ ac cY aY, Sim w0 F0 K ac (mkSt 102 [3, 8, 9, 10, 11, 58, 59] [(.v (.c (.ptr 16 0))), (.v (.c (.slc 208 0 m 4))), (.v (.c (.int .i64 half))), (.v (.c (.int .i64 st))), (.v (.c (.int .i64 fr))), (.v (.c (.int .i64 half))), (.v (.c (.int .i64 (IntKind.wrap .i64 (i + (1 : Int))))))] [0, 16, 208] [(some (.sq (.s (List.set (List.set L ((IntKind.wrap .i64 (fr + i))).toNat ((List.getD L ((IntKind.wrap .i64 (fr + i))).toNat (0 : Fr)) + ((List.getD L ((IntKind.wrap .i64 ((IntKind.wrap .i64 (fr + i)) + half))).toNat (0 : Fr)) * (List.getD A ((IntKind.wrap .i64 (i * st))).toNat (0 : Fr))))) ((IntKind.wrap .i64 ((IntKind.wrap .i64 (fr + i)) + half))).toNat ((List.getD L ((IntKind.wrap .i64 (fr + i))).toNat (0 : Fr)) - ((List.getD L ((IntKind.wrap .i64 ((IntKind.wrap .i64 (fr + i)) + half))).toNat (0 : Fr)) * (List.getD A ((IntKind.wrap .i64 (i * st))).toNat (0 : Fr)))))))), (some (.fl [(.slc 0 0 n 4)])), (some (.sq (.s A)))] 1328 [] []) cY aY → Wq Try.prog Q (lpBk ti_k) ac Exit.normal aY cY.w) : Wq Try.prog Q (lpIn ti_k) ac .normal aX cX.w :=
  run_at2 (o := ⟨_, _, _, _, _, _, _⟩) envW_ok (by kernel_rfl) (tj_hk L A n m half st fr i) ho hs hK
theorem tk_hk (L A : List Fr) (n m : Nat) (half st fr i : Int) : (run envW false 3000 ((⟨lpIn ti_k, .normal, tiS L A n m half st fr i⟩ : Cfg)) [false]).cfg.k = lpBk th_k := by kernel_rfl
theorem tk (L A : List Fr) (n m : Nat) (half st fr i : Int) {w0 : World} {F0 : Nat → Prop} {K : Kp} {ac : List Act} {Q : Exit → Act → World → Prop} {cX : Ctx} {aX : Act} (ho : AllP [((decide (i < half)) = false)]) (hs : Sim w0 F0 K ac (tiS L A n m half st fr i) cX aX) (hK : ∀ ac cY aY, Sim w0 F0 K ac (mkSt 102 [3, 8, 9, 10, 11] [(.v (.c (.ptr 16 0))), (.v (.c (.slc 208 0 m 4))), (.v (.c (.int .i64 half))), (.v (.c (.int .i64 st))), (.v (.c (.int .i64 (IntKind.wrap .i64 (fr + (IntKind.wrap .i64 ((2 : Int) * half)))))))] [0, 16, 208] [(some (.sq (.s L))), (some (.fl [(.slc 0 0 n 4)])), (some (.sq (.s A)))] 624 [] []) cY aY → Wq Try.prog Q (lpBk th_k) ac Exit.normal aY cY.w) : Wq Try.prog Q (lpIn ti_k) ac .normal aX cX.w :=
  run_at2 (o := ⟨_, _, _, _, _, _, _⟩) envW_ok (by kernel_rfl) (tk_hk L A n m half st fr i) ho hs hK
theorem tm_hk (L A : List Fr) (n m : Nat) (half st fr : Int) : (run envW false 3000 ((⟨lpIn th_k, .normal, thS L A n m half st fr⟩ : Cfg)) [false]).cfg.k = lpBk tg_k := by kernel_rfl
theorem tm (L A : List Fr) (n m : Nat) (half st fr : Int) {w0 : World} {F0 : Nat → Prop} {K : Kp} {ac : List Act} {Q : Exit → Act → World → Prop} {cX : Ctx} {aX : Act} (ho : AllP [((decide (fr < ((n : Nat) : Int))) = false)]) (hs : Sim w0 F0 K ac (thS L A n m half st fr) cX aX) (hK : ∀ ac cY aY, Sim w0 F0 K ac (mkSt 102 [3, 8, 9] [(.v (.c (.ptr 16 0))), (.v (.c (.slc 208 0 m 4))), (.v (.c (.int .i64 (IntKind.wrap .i64 (half * (2 : Int))))))] [0, 16, 208] [(some (.sq (.s L))), (some (.fl [(.slc 0 0 n 4)])), (some (.sq (.s A)))] 544 [] []) cY aY → Wq Try.prog Q (lpBk tg_k) ac Exit.normal aY cY.w) : Wq Try.prog Q (lpIn th_k) ac .normal aX cX.w :=
  run_at2 (o := ⟨_, _, _, _, _, _, _⟩) envW_ok (by kernel_rfl) (tm_hk L A n m half st fr) ho hs hK
theorem tn_hk (L A : List Fr) (n m : Nat) (half : Int) : (run envW false 3000 ((⟨lpIn tg_k, .normal, tgS L A n m half⟩ : Cfg)) [false]).cfg.k = [] := by kernel_rfl
theorem tn (L A : List Fr) (n m : Nat) (half : Int) {w0 : World} {F0 : Nat → Prop} {K : Kp} {ac : List Act} {Q : Exit → Act → World → Prop} {cX : Ctx} {aX : Act} (ho : AllP [((decide (half < ((n : Nat) : Int))) = false)]) (hs : Sim w0 F0 K ac (tgS L A n m half) cX aX) (hK : ∀ ac cY aY, Sim w0 F0 K ac (mkSt 102 [] [] [0] [(some (.sq (.s L)))] 320 [] []) cY aY → Wq Try.prog Q ([]) ac Exit.normal aY cY.w) : Wq Try.prog Q (lpIn tg_k) ac .normal aX cX.w :=
  run_at2 (o := ⟨_, _, _, _, _, _, _⟩) envW_ok (by kernel_rfl) (tn_hk L A n m half) ho hs hK
end Go.Proofs.Ytlfllehomhcbfaa

/- Values at the powers of a root, by sums and differences of halves: the plain law. No conditions. -/
namespace Go.Proofs.Ytlfllehomhcbfaa

section
variable {r : Nat} [NeZero r]

def sm (f : Nat → Fin r) : Nat → Fin r
  | 0 => 0
  | n + 1 => sm f n + f n

theorem sm_congr {f g : Nat → Fin r} : ∀ n, (∀ i, i < n → f i = g i) → sm f n = sm g n
  | 0, _ => rfl
  | n + 1, h => by
    simp only [sm]
    rw [sm_congr n (fun i hi => h i (by omega)), h n (by omega)]

theorem sm_mul (k : Fin r) (f : Nat → Fin r) : ∀ n, sm (fun i => k * f i) n = k * sm f n
  | 0 => by simp only [sm]; grind
  | n + 1 => by
    simp only [sm]
    rw [sm_mul k f n]
    grind

theorem sm_add (f g : Nat → Fin r) : ∀ n, sm (fun i => f i + g i) n = sm f n + sm g n
  | 0 => by simp only [sm]; grind
  | n + 1 => by
    simp only [sm]
    rw [sm_add f g n]
    grind

theorem sm_zero : ∀ n, sm (fun _ => (0 : Fin r)) n = 0
  | 0 => rfl
  | n + 1 => by
    simp only [sm]
    rw [sm_zero n]
    grind

theorem sm_two (f : Nat → Fin r) : ∀ n, sm f (2 * n) = sm (fun i => f (2 * i)) n + sm (fun i => f (2 * i + 1)) n
  | 0 => by simp only [sm]; grind
  | n + 1 => by
    rw [show 2 * (n + 1) = 2 * n + 1 + 1 from by omega]
    simp only [sm]
    rw [sm_two f n]
    grind

theorem brv_even (m b : Nat) : brv (m + 1) (2 * b) = brv m b := by
  simp only [brv]
  rw [show 2 * b % 2 = 0 from by omega, show 2 * b / 2 = b from by omega]
  omega
theorem brv_odd (m b : Nat) : brv (m + 1) (2 * b + 1) = brv m b + 2 ^ m := by
  simp only [brv]
  rw [show (2 * b + 1) % 2 = 1 from by omega, show (2 * b + 1) / 2 = b from by omega]
  omega
theorem brv_zero : ∀ m, brv m 0 = 0
  | 0 => rfl
  | m + 1 => by
    have := brv_even m 0
    simp only [Nat.mul_zero] at this
    rw [this, brv_zero m]
theorem brv_brv {m i : Nat} (h : i < 2 ^ m) : brv m (brv m i) = i := by
  apply Nat.eq_of_testBit_eq
  intro k
  rw [brv_bit, brv_bit]
  by_cases hk : k < m
  · rw [show decide (k < m) = true from by simp [hk], show decide (m - 1 - k < m) = true from by simp; omega, Bool.true_and, Bool.true_and, show m - 1 - (m - 1 - k) = k from by omega]
  · rw [show decide (k < m) = false from by simp [hk], Bool.false_and, Nat.testBit_lt_two_pow]
    exact Nat.lt_of_lt_of_le h (Nat.pow_le_pow_right (by decide) (by omega))

variable (c W : Nat → Fin r)

/-- What stands at a place of a block, when blocks are so long. -/
def blkV (m k b i : Nat) : Fin r := sm (fun j => c (brv m b + j * 2 ^ m) * W (i * j * 2 ^ m)) (2 ^ k)

variable (h0 : W 0 = 1) (ha : ∀ a b, W (a + b) = W a * W b)
include h0 ha

omit h0 in
theorem blkV_low (m k b i : Nat) : blkV c W m (k + 1) b i = blkV c W (m + 1) k (2 * b) i + W (i * 2 ^ m) * blkV c W (m + 1) k (2 * b + 1) i := by
  unfold blkV
  rw [Nat.pow_succ 2 k, Nat.mul_comm (2 ^ k) 2, sm_two, ← sm_mul]
  refine congr (congrArg _ (sm_congr _ fun t _ => ?_)) (sm_congr _ fun t _ => ?_)
  · rw [brv_even, Nat.pow_succ]
    rw [show 2 * t * 2 ^ m = t * (2 ^ m * 2) from by ac_rfl, show i * (2 * t) * 2 ^ m = i * t * (2 ^ m * 2) from by ac_rfl]
  · have e1 : brv (m + 1) (2 * b + 1) + t * 2 ^ (m + 1) = brv m b + (2 * t + 1) * 2 ^ m := by
      rw [brv_odd, Nat.pow_succ, Nat.add_mul, Nat.one_mul, Nat.mul_comm (2 ^ m) 2, ← Nat.mul_assoc, Nat.mul_comm t 2]
      omega
    have e2 : i * (2 * t + 1) * 2 ^ m = i * 2 ^ m + i * t * 2 ^ (m + 1) := by
      rw [Nat.pow_succ, Nat.mul_add, Nat.mul_one, Nat.add_mul, show i * (2 * t) * 2 ^ m = i * t * (2 ^ m * 2) from by ac_rfl, Nat.add_comm]
    rw [e1, e2, ha]
    grind

theorem W_pow (a : Nat) (h : W a = 1) : ∀ t, W (a * t) = 1
  | 0 => by rw [Nat.mul_zero]; exact h0
  | t + 1 => by
    rw [Nat.mul_succ, ha, W_pow a h t, h]
    grind

theorem blkV_high (m k b i : Nat) (hn : W (2 ^ (k + m)) = -1) : blkV c W m (k + 1) b (i + 2 ^ k) = blkV c W (m + 1) k (2 * b) i - W (i * 2 ^ m) * blkV c W (m + 1) k (2 * b + 1) i := by
  have hone : W (2 ^ k * 2 ^ (m + 1)) = 1 := by
    rw [← Nat.pow_add, show k + (m + 1) = (k + m) + 1 from by omega, Nat.pow_succ, Nat.mul_two, ha, hn]
    grind
  have hper : ∀ b', blkV c W (m + 1) k b' (i + 2 ^ k) = blkV c W (m + 1) k b' i := by
    intro b'
    unfold blkV
    refine sm_congr _ fun t _ => ?_
    rw [show (i + 2 ^ k) * t * 2 ^ (m + 1) = i * t * 2 ^ (m + 1) + 2 ^ k * 2 ^ (m + 1) * t from by rw [Nat.add_mul, Nat.add_mul, Nat.mul_right_comm (2 ^ k)], ha, W_pow W h0 ha _ hone]
    grind
  rw [blkV_low c W ha, hper, hper, Nat.add_mul, ha, ← Nat.pow_add, hn]
  grind

/-- What stands at a place when blocks are 2^k long. -/
def posV (log k q : Nat) : Fin r := blkV c W (log - k) k (q / 2 ^ k) (q % 2 ^ k)

omit ha in
theorem posV_first (log q : Nat) : posV c W log 0 q = c (brv log q) := by
  simp only [posV, blkV, Nat.pow_zero, Nat.div_one, Nat.mod_one, sm, Nat.sub_zero, Nat.zero_mul, Nat.add_zero, h0]
  grind

omit h0 ha in
theorem posV_last (log q : Nat) (hq : q < 2 ^ log) : posV c W log log q = sm (fun j => c j * W (q * j)) (2 ^ log) := by
  simp only [posV, blkV, Nat.sub_self, brv, Nat.pow_zero, Nat.mul_one, Nat.zero_add, Nat.mod_eq_of_lt hq]

theorem posV_step {log k b i : Nat} (hk : k < log) (hi : i < 2 ^ k) (hn : W (2 ^ (log - 1)) = -1) :
    posV c W log (k + 1) (b * 2 ^ (k + 1) + i) = posV c W log k (b * 2 ^ (k + 1) + i) + posV c W log k (b * 2 ^ (k + 1) + 2 ^ k + i) * W (i * 2 ^ (log - k - 1)) ∧
    posV c W log (k + 1) (b * 2 ^ (k + 1) + 2 ^ k + i) = posV c W log k (b * 2 ^ (k + 1) + i) - posV c W log k (b * 2 ^ (k + 1) + 2 ^ k + i) * W (i * 2 ^ (log - k - 1)) := by
  obtain ⟨m, rfl⟩ : ∃ m, log = m + k + 1 := ⟨log - k - 1, by omega⟩
  have hp : 0 < 2 ^ k := Nat.two_pow_pos k
  have e1 : (b * 2 ^ (k + 1) + i) / 2 ^ (k + 1) = b ∧ (b * 2 ^ (k + 1) + i) % 2 ^ (k + 1) = i := by
    have : i < 2 ^ (k + 1) := by rw [Nat.pow_succ]; omega
    rw [Nat.mul_comm b, Nat.mul_add_mod, Nat.mod_eq_of_lt this, Nat.mul_add_div (Nat.two_pow_pos _), Nat.div_eq_of_lt this]
    exact ⟨rfl, rfl⟩
  have e2 : (b * 2 ^ (k + 1) + 2 ^ k + i) / 2 ^ (k + 1) = b ∧ (b * 2 ^ (k + 1) + 2 ^ k + i) % 2 ^ (k + 1) = i + 2 ^ k := by
    have : 2 ^ k + i < 2 ^ (k + 1) := by rw [Nat.pow_succ]; omega
    rw [Nat.add_assoc, Nat.mul_comm b, Nat.mul_add_mod, Nat.mod_eq_of_lt this, Nat.mul_add_div (Nat.two_pow_pos _), Nat.div_eq_of_lt this]
    exact ⟨rfl, Nat.add_comm _ _⟩
  have e3 : (b * 2 ^ (k + 1) + i) / 2 ^ k = 2 * b ∧ (b * 2 ^ (k + 1) + i) % 2 ^ k = i := by
    rw [show b * 2 ^ (k + 1) = 2 ^ k * (2 * b) from by rw [Nat.pow_succ]; ac_rfl, Nat.mul_add_mod, Nat.mod_eq_of_lt hi, Nat.mul_add_div hp, Nat.div_eq_of_lt hi]
    exact ⟨rfl, rfl⟩
  have e4 : (b * 2 ^ (k + 1) + 2 ^ k + i) / 2 ^ k = 2 * b + 1 ∧ (b * 2 ^ (k + 1) + 2 ^ k + i) % 2 ^ k = i := by
    rw [show b * 2 ^ (k + 1) + 2 ^ k = 2 ^ k * (2 * b + 1) from by rw [Nat.pow_succ, Nat.mul_add, Nat.mul_one]; congr 1; ac_rfl, Nat.mul_add_mod, Nat.mod_eq_of_lt hi, Nat.mul_add_div hp, Nat.div_eq_of_lt hi]
    exact ⟨rfl, rfl⟩
  have h1 := blkV_low c W ha m k b i
  have h2 := blkV_high c W h0 ha m k b i (by rw [← hn]; congr 2; omega)
  unfold posV
  rw [e1.1, e1.2, e2.1, e2.2, e3.1, e3.2, e4.1, e4.2, show m + k + 1 - (k + 1) = m from by omega, show m + k + 1 - k = m + 1 from by omega, show m + 1 - 1 = m from by omega, h1, h2]
  constructor <;> grind

end
/-- Places that are done, and others. -/
def mix {r : Nat} (f g : Nat → Fin r) (fr half i q : Nat) : Fin r := if q < fr ∨ (fr ≤ q ∧ q < fr + i) ∨ (fr + half ≤ q ∧ q < fr + half + i) then g q else f q
section
variable {r : Nat} {f g : Nat → Fin r} {fr half i n q : Nat}

theorem mix_start : mix f g 0 half 0 q = f q := by
  unfold mix
  rw [if_neg (by omega)]
theorem mix_end (h : q < n) : mix f g n half 0 q = g q := by
  unfold mix
  rw [if_pos (.inl h)]
theorem mix_next : mix f g fr half half q = mix f g (fr + 2 * half) half 0 q := by
  unfold mix
  by_cases h : q < fr + 2 * half
  · rw [if_pos (by omega), if_pos (.inl h)]
  · rw [if_neg (by omega), if_neg (by omega)]
theorem mix_at1 (h : i < half) : mix f g fr half i (fr + i) = f (fr + i) := by
  unfold mix
  rw [if_neg (by omega)]
theorem mix_at2 : mix f g fr half i (fr + half + i) = f (fr + half + i) := by
  unfold mix
  rw [if_neg (by omega)]
theorem mix_step (h : i < half) : (if q = fr + half + i then g (fr + half + i) else if q = fr + i then g (fr + i) else mix f g fr half i q) = mix f g fr half (i + 1) q := by
  unfold mix
  by_cases h1 : q = fr + half + i
  · subst h1
    rw [if_pos rfl, if_pos (by omega)]
  · rw [if_neg h1]
    by_cases h2 : q = fr + i
    · subst h2
      rw [if_pos rfl, if_pos (by omega)]
    · rw [if_neg h2]
      by_cases h3 : q < fr ∨ (fr ≤ q ∧ q < fr + i) ∨ (fr + half ≤ q ∧ q < fr + half + i)
      · rw [if_pos h3, if_pos (by omega)]
      · rw [if_neg h3, if_neg (by omega)]

end

/-! Rows as tables. -/
def tab (n : Nat) (F : Nat → Fr) : List Fr := (List.range n).map F
theorem tab_len (n : Nat) (F : Nat → Fr) : (tab n F).length = n := by simp [tab]
theorem tab_congr {n : Nat} {F G : Nat → Fr} (h : ∀ q, q < n → F q = G q) : tab n F = tab n G := by
  unfold tab
  refine List.map_congr_left fun q hq => h q (List.mem_range.1 hq)
theorem tab_get {n : Nat} {F : Nat → Fr} {q : Nat} (h : q < n) : (tab n F).getD q 0 = F q := by
  simp [tab, List.getD, h]
theorem tab_set {n : Nat} {F : Nat → Fr} {p : Nat} {v : Fr} : (tab n F).set p v = tab n (fun q => if q = p then v else F q) := by
  apply List.ext_getElem
  · simp [tab]
  · intro q h1 h2
    simp only [tab, List.getElem_set, List.getElem_map, List.getElem_range]
    by_cases h : q = p
    · simp [h]
    · rw [if_neg (fun e => h e.symm), if_neg h]
theorem tab_self (l : List Fr) : l = tab l.length (fun q => l.getD q 0) := by
  apply List.ext_getElem
  · simp [tab]
  · intro q h1 h2
    simp [tab, List.getD, h1]

/-- Two elements change places. -/
def swp2 (l : List Fr) (z : Nat × Nat) : List Fr := (l.set z.1 (l.getD z.2 0)).set z.2 (l.getD z.1 0)
def swA (l : List Fr) (zs : List (Nat × Nat)) : List Fr := zs.foldl swp2 l
theorem swA_len (l : List Fr) : ∀ zs, (swA l zs).length = l.length := by
  intro zs
  unfold swA
  induction zs generalizing l with
  | nil => rfl
  | cons z zs ih =>
    simp only [List.foldl_cons]
    rw [ih]
    simp [swp2]
theorem swA_snoc (l : List Fr) (zs : List (Nat × Nat)) (z : Nat × Nat) : swA l (zs ++ [z]) = swp2 (swA l zs) z := by
  unfold swA
  rw [List.foldl_append]
  rfl

def swF (c : Nat → Fr) (log i q : Nat) : Fr := if min q (brv log q) < i then c (brv log q) else c q

theorem swF_zero (c : Nat → Fr) (log q : Nat) : swF c log 0 q = c q := by
  unfold swF
  rw [if_neg (by omega)]
theorem swF_all (c : Nat → Fr) {log q : Nat} (h : q < 2 ^ log) : swF c log (2 ^ log) q = c (brv log q) := by
  unfold swF
  rw [if_pos (by have := Nat.min_le_left q (brv log q); omega)]

theorem swF_step {c : Nat → Fr} {log i : Nat} (hi : i < 2 ^ log) (h : i < brv log i) :
    swp2 (tab (2 ^ log) (swF c log i)) (i, brv log i) = tab (2 ^ log) (swF c log (i + 1)) := by
  have hb := brv_lt log i
  unfold swp2
  simp only
  rw [tab_get hb, tab_get hi, tab_set, tab_set]
  refine tab_congr fun q hq => ?_
  have hbb := brv_brv hi
  have hqq := brv_brv hq
  unfold swF
  by_cases h1 : q = brv log i
  · subst h1
    rw [if_pos rfl, hbb, if_neg (by omega), if_pos (by omega)]
  · rw [if_neg h1]
    by_cases h2 : q = i
    · subst h2
      rw [if_pos rfl, hbb, if_neg (by omega), if_pos (by omega)]
    · rw [if_neg h2]
      have h3 : brv log q ≠ i := fun e => h1 (by rw [← hqq, e])
      by_cases h4 : min q (brv log q) < i
      · rw [if_pos h4, if_pos (by omega)]
      · rw [if_neg h4, if_neg (by omega)]

theorem swF_skip {c : Nat → Fr} {log i : Nat} (hi : i < 2 ^ log) (h : ¬ i < brv log i) : tab (2 ^ log) (swF c log i) = tab (2 ^ log) (swF c log (i + 1)) := by
  refine tab_congr fun q hq => ?_
  have hqq := brv_brv hq
  have hbb := brv_brv hi
  unfold swF
  by_cases h4 : min q (brv log q) < i
  · rw [if_pos h4, if_pos (by omega)]
  · rw [if_neg h4]
    by_cases h5 : min q (brv log q) < i + 1
    · rw [if_pos h5]
      by_cases h2 : q = i
      · subst h2
        rw [show brv log q = q from by omega]
      · have h3 : brv log q = i := by omega
        have : q = brv log i := by rw [← h3, hqq]
        omega
    · rw [if_neg h5]

end Go.Proofs.Ytlfllehomhcbfaa

/- The transform: values at the powers of a root, in their places. No conditions. -/
namespace Go.Proofs.Ytlfllehomhcbfaa

theorem swA_prs (c : Nat → Fr) (log : Nat) : ∀ i, i ≤ 2 ^ log → swA (tab (2 ^ log) c) (prs log i) = tab (2 ^ log) (swF c log i)
  | 0, _ => by
    show tab _ c = _
    exact tab_congr fun q _ => (swF_zero c log q).symm
  | i + 1, h => by
    simp only [prs]
    by_cases h1 : i < brv log i
    · rw [if_pos h1, swA_snoc, swA_prs c log i (by omega), swF_step (by omega) h1]
    · rw [if_neg h1, List.append_nil, swA_prs c log i (by omega), swF_skip (by omega) h1]

theorem prs_mem {log : Nat} : ∀ {n : Nat} {z : Nat × Nat}, z ∈ prs log n → z.1 < n ∧ z.2 < 2 ^ log
  | 0, z, h => by cases h
  | n + 1, z, h => by
    simp only [prs, List.mem_append] at h
    rcases h with h | h
    · have := prs_mem h; omega
    · split at h
      · simp only [List.mem_singleton] at h
        subst h
        exact ⟨by simp, brv_lt _ _⟩
      · cases h

/-- The values of a polynomial at the powers of a number. -/
def nttL (c : Nat → Fr) (w : Fr) (n : Nat) : List Fr := tab n (fun q => sm (fun j => c j * powN w (q * j)) n)

def prVals (z : Nat × Nat) : List SV := [.v (.c (.int .i64 (z.1 : Int))), .v (.c (.int .i64 (z.2 : Int)))]

theorem tf_assign {L : List Fr} {n log : Nat} {w : Fr} {z : Nat × Nat} {w1 : World} {F1 : Nat → Prop} {K1 : Kp} {as1 : List Act} {Q1 : Exit → Act → World → Prop} {l : Nat} {y : Ctx} {b : Act} (hs : Sim w1 F1 K1 as1 (roundSt (tfS L n log w) ([17, 18].zip (prVals z))) y b)
    (hQ : ∀ y' b', Sim w1 F1 K1 as1 (tfB L n log w z.1 z.2) y' b' → Q1 .normal b' y'.w) : Wq Try.prog Q1 [.code (rfA tf_k)] as1 .normal b y.w (some l) := by
  exact tfA L n log w z.1 z.2 trivial hs fun cZ aZ hs3 => ⟨hQ _ _ (hs3.nx _)⟩

theorem tf_body {L : List Fr} {n log : Nat} {w : Fr} {z : Nat × Nat} (h1 : z.1 < n) (h2 : z.2 < n) (hl : L.length = n) {w1 : World} {F1 : Nat → Prop} {K1 : Kp} {as1 : List Act} {Q1 : Exit → Act → World → Prop} {l : Nat} {y : Ctx} {b : Act} (hs : Sim w1 F1 K1 as1 (tfB L n log w z.1 z.2) y b)
    (hQ : ∀ y' b', Sim w1 F1 K1 as1 (tfE (swp2 L z) n log w) y' b' → Q1 .normal b' y'.w) : Wq Try.prog Q1 [.code (rfB tf_k)] as1 .normal b y.w (some l) := by
  refine tfC L n (log : Int) w z.1 z.2 (by and_intros <;> first | rfl | trivial | omega | (simp only [List.length_set, Int.toNat_natCast]; omega)) hs fun cZ aZ hs3 => ⟨hQ _ _ ?_⟩
  rw [Int.toNat_natCast, Int.toNat_natCast] at hs3
  exact hs3.nx _

theorem powF_get {w : Fr} {m e : Nat} (h : e < m) : (powF w m).getD e 0 = powN w e := tab_get (F := powN w) h

section
variable {w0 : World} {F0 : Nat → Prop} {K : Kp} {Q : Exit → Act → World → Prop}

theorem tf_inner {f g : Nat → Fr} {w : Fr} {N M H T fr : Nat} (hN : N ≤ 65536) (hM : M ≤ 65536) (hfr : fr + 2 * H ≤ N) (hT : ∀ i, i < H → i * T < M)
    (hst : ∀ i, i < H → g (fr + i) = f (fr + i) + f (fr + H + i) * powN w (i * T) ∧ g (fr + H + i) = f (fr + i) - f (fr + H + i) * powN w (i * T))
    (hK : ∀ ac y b, Sim w0 F0 K ac (thS (tab N (mix f g (fr + 2 * H) H 0)) (powF w M) N M (H : Int) (T : Int) ((fr + 2 * H : Nat) : Int)) y b → Wq Try.prog Q (lpBk th_k) ac .normal b y.w)
    {k0 : List KI} (hl : loopOf k0 = some (lpC ti_k, lpR ti_k)) {ac : List Act} {y : Ctx} {b : Act} (hs : Sim w0 F0 K ac (tiS (tab N (mix f g fr H 0)) (powF w M) N M (H : Int) (T : Int) (fr : Int) 0) y b) : Wq Try.prog Q k0 ac .normal b y.w := by
  refine loop_rule (ι := { i : Nat // i ≤ H }) (fun i => tiS (tab N (mix f g fr H i.1)) (powF w M) N M (H : Int) (T : Int) (fr : Int) (i.1 : Int)) (fun i => H - i.1) hl (fun i ih ac cY aY hs => ?_) ⟨0, Nat.zero_le _⟩ hs
  obtain ⟨i, hi⟩ := i
  simp only at ih hs
  by_cases h : i < H
  · have hiT := hT i h
    have hw1 : IntKind.wrap .i64 ((fr : Int) + (i : Int)) = ((fr + i : Nat) : Int) := by rw [wrap_id (by omega) (by omega)]; omega
    have hw2 : IntKind.wrap .i64 (((fr + i : Nat) : Int) + (H : Int)) = ((fr + H + i : Nat) : Int) := by rw [wrap_id (by omega) (by omega)]; omega
    have hw3 : IntKind.wrap .i64 ((i : Int) * (T : Int)) = ((i * T : Nat) : Int) := by
      rw [← Int.natCast_mul]
      generalize i * T = e at *
      exact wrap_id (by omega) (by omega)
    have hw4 : IntKind.wrap .i64 ((i : Int) + 1) = ((i + 1 : Nat) : Int) := by rw [wrap_id (by omega) (by omega)]; omega
    have hlenA : (powF w M).length = M := powF_len w M
    have hlenL : (tab N (mix f g fr H i)).length = N := tab_len _ _
    obtain ⟨hs1, hs2⟩ := hst i h
    refine tj _ _ _ _ _ _ _ _ ?_ hs fun ac cZ aZ hs3 => ?_
    · rw [hw1, hw2, hw3]
      simp only [Int.toNat_natCast, List.length_set, hlenA, hlenL]
      clear hs1 hs2 hst hT hw1 hw2 hw3 hw4 hlenA hlenL ih hs
      generalize i * T = e at *
      and_intros <;> first | rfl | trivial | omega | (apply decide_eq_true; omega)
    · rw [hw1, hw2, hw3, hw4] at hs3
      simp only [Int.toNat_natCast] at hs3
      rw [tab_get (by omega), tab_get (by omega), powF_get hiT, mix_at1 h, mix_at2, ← hs1, ← hs2, tab_set, tab_set, tab_congr fun q _ => mix_step (q := q) h] at hs3
      exact ih ⟨i + 1, by omega⟩ (by show H - (i + 1) < H - i; omega) ac cZ aZ (hs3.nx _)
  · have e : i = H := by omega
    subst e
    refine tk _ _ _ _ _ _ _ _ ⟨by simp, trivial⟩ hs fun ac cZ aZ hs3 => ?_
    have hw5 : IntKind.wrap .i64 ((2 : Int) * (i : Int)) = ((2 * i : Nat) : Int) := by rw [wrap_id (by omega) (by omega)]; omega
    have hw6 : IntKind.wrap .i64 ((fr : Int) + ((2 * i : Nat) : Int)) = ((fr + 2 * i : Nat) : Int) := by rw [wrap_id (by omega) (by omega)]; omega
    rw [hw5, hw6, tab_congr fun q _ => mix_next (q := q)] at hs3
    exact hK _ _ _ (hs3.nx _)

/-- One round of sums and differences. -/
theorem tf_round {f g : Nat → Fr} {w : Fr} {N M H T B : Nat} (hN : N ≤ 65536) (hM : M ≤ 65536) (hH : 0 < H) (hB : B * (2 * H) = N) (hT : ∀ i, i < H → i * T < M) (hTN : N / (2 * H) = T)
    (hst : ∀ b i, i < H → g (b * (2 * H) + i) = f (b * (2 * H) + i) + f (b * (2 * H) + H + i) * powN w (i * T) ∧ g (b * (2 * H) + H + i) = f (b * (2 * H) + i) - f (b * (2 * H) + H + i) * powN w (i * T))
    (hK : ∀ ac y b, Sim w0 F0 K ac (tgS (tab N g) (powF w M) N M ((2 * H : Nat) : Int)) y b → Wq Try.prog Q (lpBk tg_k) ac .normal b y.w)
    {ac : List Act} {y : Ctx} {b : Act} (hs : Sim w0 F0 K ac (tgS (tab N f) (powF w M) N M (H : Int)) y b) (hHN : H < N) : Wq Try.prog Q (lpIn tg_k) ac .normal b y.w := by
  have hw1 : IntKind.wrap .i64 ((2 : Int) * (H : Int)) = ((2 * H : Nat) : Int) := by rw [wrap_id (by omega) (by omega)]; omega
  have hw2 : IntKind.wrap .i64 (Int.tdiv (N : Int) ((2 * H : Nat) : Int)) = (T : Int) := by
    rw [Int.tdiv_eq_ediv_of_nonneg (by omega), ← Int.natCast_ediv, hTN]
    have : T ≤ N := by rw [← hTN]; exact Nat.div_le_self _ _
    exact wrap_id (by omega) (by omega)
  refine th _ _ _ _ _ ⟨by simp; omega, by rw [hw1]; omega, trivial⟩ hs fun ac cY aY hs1 => ?_
  rw [hw1, hw2, tab_congr fun q _ => (mix_start (f := f) (g := g) (half := H) (q := q)).symm] at hs1
  refine loop_rule (ι := { b : Nat // b ≤ B }) (fun b => thS (tab N (mix f g (b.1 * (2 * H)) H 0)) (powF w M) N M (H : Int) (T : Int) ((b.1 * (2 * H) : Nat) : Int)) (fun b => B - b.1) (c := lpC th_k) (k := lpR th_k) (by kernel_rfl) (fun b ih ac cY aY hs => ?_) ⟨0, Nat.zero_le _⟩ (by simp only [Nat.zero_mul]; exact hs1.nx _)
  obtain ⟨b, hb⟩ := b
  simp only at ih hs
  have hle : b * (2 * H) ≤ N := by rw [← hB]; exact Nat.mul_le_mul_right _ hb
  by_cases h : b < B
  · have hle2 : b * (2 * H) + 2 * H ≤ N := by
      rw [← hB, ← Nat.succ_mul]
      exact Nat.mul_le_mul_right _ h
    have hst' := hst b
    have he : (b + 1) * (2 * H) = b * (2 * H) + 2 * H := Nat.succ_mul _ _
    have ih' := ih ⟨b + 1, h⟩ (by show B - (b + 1) < B - b; omega)
    simp only [he] at ih'
    generalize b * (2 * H) = fr at *
    refine ti _ _ _ _ _ _ _ ⟨by simp; omega, trivial⟩ hs fun ac cZ aZ hs3 => ?_
    exact tf_inner hN hM hle2 hT hst' (fun ac y b hs => ih' ac y b hs) (by kernel_rfl) (hs3.nx _)
  · have e : b = B := by omega
    subst e
    rw [hB] at hs
    refine tm _ _ _ _ _ _ _ ⟨by simp, trivial⟩ hs fun ac cZ aZ hs3 => ?_
    have hw3 : IntKind.wrap .i64 ((H : Int) * (2 : Int)) = ((2 * H : Nat) : Int) := by rw [wrap_id (by omega) (by omega)]; omega
    rw [hw3, tab_congr fun q hq => mix_end hq] at hs3
    exact hK _ _ _ (hs3.nx _)

theorem tf_rounds {c : Nat → Fr} {log M : Nat} {w : Fr} (hlog : log ≤ 16) (hw : 0 < log → powN w (2 ^ (log - 1)) = -1) (hM : M ≤ 65536) (hM2 : 2 ^ log ≤ 2 * M)
    (hK : ∀ ac y b, Sim w0 F0 K ac (tgS (tab (2 ^ log) (posV c (powN w) log log)) (powF w M) (2 ^ log) M ((2 ^ log : Nat) : Int)) y b → Wq Try.prog Q (lpIn tg_k) ac .normal b y.w)
    {ac : List Act} {y : Ctx} {b : Act} (hs : Sim w0 F0 K ac (tgS (tab (2 ^ log) (posV c (powN w) log 0)) (powF w M) (2 ^ log) M 1) y b) : Wq Try.prog Q tg_k ac .normal b y.w := by
  have hp2 : 2 ^ log ≤ 2 ^ 16 := Nat.pow_le_pow_right (by decide) hlog
  refine loop_rule (ι := { k : Nat // k ≤ log }) (fun k => tgS (tab (2 ^ log) (posV c (powN w) log k.1)) (powF w M) (2 ^ log) M ((2 ^ k.1 : Nat) : Int)) (fun k => log - k.1) (c := lpC tg_k) (k := lpR tg_k) (by kernel_rfl) (fun k ih ac cY aY hs => ?_) ⟨0, Nat.zero_le _⟩ hs
  obtain ⟨k, hk⟩ := k
  simp only at ih hs
  by_cases h : k < log
  · have ih' := ih ⟨k + 1, h⟩ (by show log - (k + 1) < log - k; omega)
    simp only at ih'
    have hstep := fun b i (hi : i < 2 ^ k) => posV_step c (powN w) rfl (fun a b => powN_add w a b) (b := b) h hi (hw (by omega))
    have eN : 2 ^ log = 2 ^ (log - k - 1) * (2 * 2 ^ k) := by
      rw [← Nat.pow_succ', ← Nat.pow_add]
      congr 1
      omega
    have e2 : 2 ^ (k + 1) = 2 * 2 ^ k := Nat.pow_succ'
    rw [e2] at ih'
    simp only [e2] at hstep
    have hH := Nat.two_pow_pos k
    have hT0 := Nat.two_pow_pos (log - k - 1)
    generalize 2 ^ k = H at *
    generalize posV c (powN w) log k = f at *
    generalize posV c (powN w) log (k + 1) = g at *
    generalize 2 ^ (log - k - 1) = T at *
    generalize 2 ^ log = N at *
    have hTH : N = T * H + T * H := by rw [eN, Nat.mul_left_comm, Nat.two_mul]
    refine tf_round (B := T) (T := T) (by omega) hM hH eN.symm (fun i hi => ?_) ?_ hstep ih' hs ?_
    · have h1 : i * T < H * T := Nat.mul_lt_mul_of_pos_right hi hT0
      rw [Nat.mul_comm H T] at h1
      omega
    · rw [eN, Nat.mul_div_cancel _ (by omega)]
    · have h1 : 1 * H ≤ T * H := Nat.mul_le_mul_right _ hT0
      omega
  · have e : k = log := by omega
    subst e
    exact hK _ _ _ hs

end

theorem transform_mu (c : Nat → Fr) (log : Nat) (w : Fr) (hlog : log ≤ 16) (hw : 0 < log → powN w (2 ^ (log - 1)) = -1) :
    MuC Try.prog 86 0 (2 ^ log) 4 (.sq (.s (tab (2 ^ log) c))) [.v (.c (.int .i64 (log : Int))), .v (.a [.ob (.s w)])] (.sq (.s (nttL c w (2 ^ log)))) := by
  refine mu_start_m (c := bodyOf Try.f86) Try.func86 rfl rfl fun x a hk hm0 hs => ?_
  have hp2 : 2 ^ log ≤ 2 ^ 16 := Nat.pow_le_pow_right (by decide) hlog
  have hpos : 0 < 2 ^ log := Nat.two_pow_pos log
  refine tf _ _ _ _ trivial hs fun ac cY aY hs1 => ?_
  obtain ⟨e1, e2⟩ := isRf_eq (k := tf_k) (by kernel_rfl)
  rw [e1]
  have eP : (rfP tf_k).toList = [17, 18] := by kernel_rfl
  have eG : rfG tf_k = .tmp 16 := by kernel_rfl
  have hlen : ∀ pre, (swA (tab (2 ^ log) c) pre).length = 2 ^ log := fun pre => by rw [swA_len, tab_len]
  refine range_rule (ps := rfP tf_k) e2 hs1 (gf := 115) (caps := [(64, 0)]) (enters_of Try.func115 rfl rfl) (fun pre => tfS (swA (tab (2 ^ log) c) pre) (2 ^ log) (log : Int) w) (fun s => by rw [eG]; rfl) ⟨_, rfl⟩ (prs log (2 ^ log)) prVals prEnc
    (fun y z => .cons ⟨rfl, 0, rfl⟩ (.cons ⟨rfl, 0, rfl⟩ .nil)) (fun z => by rw [← Array.length_toList, eP]; rfl) (fun pre p hp => ?_) (swaps_iter hlog fun s => rfl) (fun pre z => tfB (swA (tab (2 ^ log) c) pre) (2 ^ log) (log : Int) w z.1 z.2)
    (fun pre z => tfE (swA (tab (2 ^ log) c) (pre ++ [z])) (2 ^ log) (log : Int) w) (fun pre z => ⟨_, rfl⟩) (fun pre z hz w1 F1 K1 as1 Q1 l y b hs2 hQ => ?_) (fun pre z hz w1 F1 K1 as1 Q1 l y b hs2 hQ => ?_) fun D y hs2 hD hF hd => ?_
  · rw [eP] at hp
    have h102 : (tfS (swA (tab (2 ^ log) c) pre) (2 ^ log) (log : Int) w).nt = 102 := rfl
    rw [h102]
    simp only [List.mem_cons, List.not_mem_nil, or_false] at hp
    rcases hp with rfl | rfl <;> decide
  · rw [eP] at hs2
    exact tf_assign hs2 hQ
  · obtain ⟨t, ht⟩ := hz
    obtain ⟨g1, g2⟩ := prs_mem (log := log) (z := z) (n := 2 ^ log) (by rw [ht]; simp)
    rw [swA_snoc] at hQ
    exact tf_body g1 g2 (hlen pre) hs2 hQ
  · have hs3 := hs2.marked rfl rfl D
    have eL : swA (tab (2 ^ log) c) (prs log (2 ^ log)) = tab (2 ^ log) (posV c (powN w) log 0) := by
      rw [swA_prs c log _ (Nat.le_refl _)]
      refine tab_congr fun q hq => ?_
      rw [swF_all c hq]
      exact (posV_first c (powN w) rfl log q).symm
    rw [eL] at hs3
    obtain ⟨M, hMe⟩ : ∃ M, M = max (2 ^ log / 2) 1 := ⟨_, rfl⟩
    have hm : (if (1 : Int) > IntKind.wrap .i64 (Int.tdiv ((2 ^ log : Nat) : Int) (2 : Int)) then (1 : Int) else IntKind.wrap .i64 (Int.tdiv ((2 ^ log : Nat) : Int) (2 : Int))) = (M : Int) := by
      generalize 2 ^ log = N at *
      have e : IntKind.wrap .i64 (Int.tdiv (N : Int) (2 : Int)) = ((N / 2 : Nat) : Int) := by
        rw [Int.tdiv_eq_ediv_of_nonneg (by omega)]
        exact wrap_id (by omega) (by omega)
      rw [e, hMe]
      split <;> omega
    have hMb : M ≤ 65536 ∧ 2 ^ log ≤ 2 * M := by
      clear hm
      have he : 2 ^ log = 1 ∨ 2 ^ log = 2 * 2 ^ (log - 1) := by
        cases log with
        | zero => exact .inl rfl
        | succ l => exact .inr Nat.pow_succ'
      generalize 2 ^ (log - 1) = N2 at *
      generalize 2 ^ log = N at *
      omega
    refine tg _ _ (log : Int) w ⟨by decide, by rw [hm]; omega, by rw [hm]; omega, trivial⟩ hs3 fun ac cZ aZ hs4 => ?_
    rw [hm, Int.toNat_natCast] at hs4
    refine tf_rounds hlog hw hMb.1 hMb.2 (fun ac y2 b2 hs5 => ?_) (hs4.nx _)
    refine tn _ _ _ _ _ ⟨by simp, trivial⟩ hs5 fun ac cV aV hs6 => ⟨?_⟩
    have eR : tab (2 ^ log) (posV c (powN w) log log) = nttL c w (2 ^ log) := tab_congr fun q hq => posV_last c (powN w) log q hq
    rw [eR] at hs6
    exact mu_finish envW_ok hk hm0 rfl hs2 hD hF hd rfl rfl rfl (fun _ _ h => h) (.inr ⟨_, _, rfl, rfl, rfl⟩) hs6

end Go.Proofs.Ytlfllehomhcbfaa

/- Values at a domain's elements, and the reference's: walked. No conditions. -/
namespace Go.Proofs.Ytlfllehomhcbfaa

def halfNeg (log : Int) (w : Fr) : Prop := 0 < log → powN w (2 ^ (log.toNat - 1)) = -1
def ntt (L : List Fr) (w : Fr) (n : Nat) : List Fr := nttL (fun q => L.getD q 0) w n
def nttSpec : MuS := fun off len es e rest =>
  match off, es, e, rest with
  | 0, 4, .sq (.s L), [.v (.c (.int .i64 log)), .v (.a [.ob (.s w)])] => some ([0 ≤ log, log ≤ 16, len = 2 ^ log.toNat, L.length = len, halfNeg log w], .sq (.s (ntt L w len)))
  | _, _, _, _ => none

theorem ntt_mu {L : List Fr} {log : Int} {w : Fr} {len : Nat} (ho : AllP [0 ≤ log, log ≤ 16, len = 2 ^ log.toNat, L.length = len, halfNeg log w]) : MuC Try.prog 86 0 len 4 (.sq (.s L)) [.v (.c (.int .i64 log)), .v (.a [.ob (.s w)])] (.sq (.s (ntt L w len))) := by
  obtain ⟨h0, h1, h2, h3, h4, _⟩ := ho
  obtain ⟨k, rfl⟩ := Int.eq_ofNat_of_zero_le h0
  have h2 : len = 2 ^ k := h2
  subst h2
  have e : L = tab (2 ^ k) (fun q => L.getD q 0) := by rw [← h3]; exact tab_self L
  have := transform_mu (fun q => L.getD q 0) k w (by omega) (fun hk => h4 (by omega))
  rw [← e] at this
  exact this

noncomputable def envV : Env := { envW with mu := fun g => if g = 86 then some (mu1 nttSpec) else envW.mu g }
theorem envV_ok : EnvOk Try.prog envV :=
  env_mu envW_ok 86 nttSpec (enters_of Try.func86 rfl rfl) fun off len es e rest o e' h ho _ _ => by
    unfold nttSpec at h
    split at h
    · cases h
      exact ntt_mu ho
    · cases h

--@env envV envV_ok
noncomputable def vlIn_k : List KI := (run envV false 3000 ((fun (log : Int) (w s : U4) (l : List U4) => (⟨[.code (bodyOf Try.f47)], .normal, initSt Try.f47.ntmps [.v (.a [.int .i64 log, .ob (.fr w)]), .v (.a [.ob (.fr s)]), .v (.c (.sl (.fr l)))]⟩ : Cfg)) default default default default) [false, false]).cfg.k
theorem vlIn_hk (log : Int) (w s : U4) (l : List U4) : (run envV false 3000 ((⟨[.code (bodyOf Try.f47)], .normal, initSt Try.f47.ntmps [.v (.a [.int .i64 log, .ob (.fr w)]), .v (.a [.ob (.fr s)]), .v (.c (.sl (.fr l)))]⟩ : Cfg)) [false, false]).cfg.k = vlIn_k := by kernel_rfl
theorem vlIn (log : Int) (w s : U4) (l : List U4) {w0 : World} {F0 : Nat → Prop} {K : Kp} {ac : List Act} {Q : Exit → Act → World → Prop} {cX : Ctx} {aX : Act} (ho : AllP [((Bool.not (domOk log w)) = false), ((0 : Int) ≤ log), ((decide ((((List.length l) : Nat) : Int) > (IntKind.wrap .i64 ((1 : Int) * ((2 : Int) ^ (Min.min (log).toNat 64)))))) = false), ((0 : Int) ≤ log), ((0 : Int) ≤ (IntKind.wrap .i64 ((1 : Int) * ((2 : Int) ^ (Min.min (log).toNat 64))))), ((IntKind.wrap .i64 ((1 : Int) * ((2 : Int) ^ (Min.min (log).toNat 64)))) = (IntKind.wrap .i64 ((1 : Int) * ((2 : Int) ^ (Min.min (log).toNat 64))))), (((32 : Int) * (IntKind.wrap .i64 ((1 : Int) * ((2 : Int) ^ (Min.min (log).toNat 64))))) ≤ (281474976710656 : Int)), ((IntKind.wrap .i64 ((1 : Int) * ((2 : Int) ^ (Min.min (log).toNat 64)))) ≤ (9223372036854775807 : Int)), ((0 : Int) ≤ (1 : Int)), ((1 : Int) < (18446744073709551616 : Int))]) (hs : Sim w0 F0 K ac (initSt Try.f47.ntmps [.v (.a [.int .i64 log, .ob (.fr w)]), .v (.a [.ob (.fr s)]), .v (.c (.sl (.fr l)))]) cX aX) (hK : ∀ ac cY aY, Sim w0 F0 K ac (mkSt 58 [3, 8, 9, 10, 31, 32, 33] [(.v (.c (.ptr 16 0))), (.v (.c (.slc 304 0 ((IntKind.wrap .i64 ((1 : Int) * ((2 : Int) ^ (Min.min (log).toNat 64))))).toNat 4))), (.v (.c (.ptr 384 0))), (.v (.c (.ptr 400 0))), (.v (.c (.sl (.fr l)))), (.v (.c (.int .i64 (((List.length l) : Nat) : Int)))), (.v (.c (.int .i64 (0 : Int))))] [16, 304, 384, 400] [(some (.fl [(.int .i64 log), (.ob (.fr w))])), (some (.sq (.s (List.replicate ((IntKind.wrap .i64 ((1 : Int) * ((2 : Int) ^ (Min.min (log).toNat 64))))).toNat (0 : Fr))))), (some (.fl [(.ob (.s (inF s)))])), (some (.fl [(.ob (.s (Fin.ofNat rN 1)))]))] 496 [] []) cY aY → Wq Try.prog Q (vlIn_k) ac Exit.normal aY cY.w) : Wq Try.prog Q ([.code (bodyOf Try.f47)]) ac .normal aX cX.w :=
  run_at2 (o := ⟨_, _, _, _, _, _, _⟩) envV_ok (by kernel_rfl) (vlIn_hk log w s l) ho hs hK
noncomputable def raIn_k : List KI := (run envV false 3000 ((fun (l : List U4) (x : U4) => (⟨[.code (bodyOf Try.f87)], .normal, initSt Try.f87.ntmps [.v (.c (.sl (.fr l))), .v (.a [.ob (.fr x)])]⟩ : Cfg)) default default) []).cfg.k
theorem raIn_hk (l : List U4) (x : U4) : (run envV false 3000 ((⟨[.code (bodyOf Try.f87)], .normal, initSt Try.f87.ntmps [.v (.c (.sl (.fr l))), .v (.a [.ob (.fr x)])]⟩ : Cfg)) []).cfg.k = raIn_k := by kernel_rfl
theorem raIn (l : List U4) (x : U4) {w0 : World} {F0 : Nat → Prop} {K : Kp} {ac : List Act} {Q : Exit → Act → World → Prop} {cX : Ctx} {aX : Act} (ho : AllP []) (hs : Sim w0 F0 K ac (initSt Try.f87.ntmps [.v (.c (.sl (.fr l))), .v (.a [.ob (.fr x)])]) cX aX) (hK : ∀ ac cY aY, Sim w0 F0 K ac (mkSt 25 [0, 3, 4, 5, 6] [(.v (.c (.sl (.fr l)))), (.v (.c (.ptr 16 0))), (.v (.c (.ptr 32 0))), (.v (.c (.ptr 64 0))), (.v (.c (.int .i64 (IntKind.wrap .i64 ((((List.length l) : Nat) : Int) - (1 : Int))))))] [16, 32, 64] [(some (.fl [(.ob (.fr x))])), (some (.fl [(.ob (.fr (0 : U4)))])), (some (.fl [(.ob (.fr (0 : U4)))]))] 160 [] []) cY aY → Wq Try.prog Q (raIn_k) ac Exit.normal aY cY.w) : Wq Try.prog Q ([.code (bodyOf Try.f87)]) ac .normal aX cX.w :=
  run_at2 (o := ⟨_, _, _, _, _, _, _⟩) envV_ok (by kernel_rfl) (raIn_hk l x) ho hs hK
noncomputable def vlS (log : Int) (w s : U4) (l : List U4) (N : Nat) (L : List Fr) (x : Fr) (i : Nat) : St := mkSt 58 [3, 8, 9, 10, 31, 32, 33] [(SV.v (V1.c (It.ptr 16 0))), .v (.c (.slc 304 0 N 4)), (SV.v (V1.c (It.ptr 384 0))), (SV.v (V1.c (It.ptr 400 0))), (SV.v (V1.c (It.sl (Sq.fr l)))), (SV.v (V1.c (It.int IntKind.i64 (((List.length l) : Nat) : Int)))), .v (.c (.int .i64 (i : Int)))] [16, 304, 384, 400] [(Option.some (En.fl [(It.int IntKind.i64 log), (It.ob (Ob.fr w))])), some (.sq (.s L)), (Option.some (En.fl [(It.ob (Ob.s (inF s)))])), some (.fl [.ob (.s x)])] 496 [] []
theorem vlN_hk (log : Int) (w s : U4) (l : List U4) (N : Nat) (L : List Fr) (x : Fr) (i : Nat) : (run envV false 3000 ((⟨lpIn vlIn_k, .normal, vlS log w s l N L x i⟩ : Cfg)) [true]).cfg.k = lpBk vlIn_k := by kernel_rfl
theorem vlN (log : Int) (w s : U4) (l : List U4) (N : Nat) (L : List Fr) (x : Fr) (i : Nat) {w0 : World} {F0 : Nat → Prop} {K : Kp} {ac : List Act} {Q : Exit → Act → World → Prop} {cX : Ctx} {aX : Act} (ho : AllP [((decide (((i : Nat) : Int) < (((List.length l) : Nat) : Int))) = true), ((0 : Int) ≤ ((i : Nat) : Int)), (((i : Nat) : Int) < (((List.length l) : Nat) : Int)), ((0 : Int) ≤ ((i : Nat) : Int)), (((i : Nat) : Int) < ((N : Nat) : Int)), (0 = 0), ((((i : Nat) : Int)).toNat < (List.length L))]) (hs : Sim w0 F0 K ac (vlS log w s l N L x i) cX aX) (hK : ∀ ac cY aY, Sim w0 F0 K ac (mkSt 58 [3, 8, 9, 10, 31, 32, 33] [(.v (.c (.ptr 16 0))), (.v (.c (.slc 304 0 N 4))), (.v (.c (.ptr 384 0))), (.v (.c (.ptr 400 0))), (.v (.c (.sl (.fr l)))), (.v (.c (.int .i64 (((List.length l) : Nat) : Int)))), (.v (.c (.int .i64 (IntKind.wrap .i64 (((i : Nat) : Int) + (1 : Int))))))] [16, 304, 384, 400] [(some (.fl [(.int .i64 log), (.ob (.fr w))])), (some (.sq (.s (List.set L (((i : Nat) : Int)).toNat ((inF (List.getD l (((i : Nat) : Int)).toNat (0 : U4))) * x))))), (some (.fl [(.ob (.s (inF s)))])), (some (.fl [(.ob (.s (x * (inF s))))]))] 832 [] []) cY aY → Wq Try.prog Q (lpBk vlIn_k) ac Exit.normal aY cY.w) : Wq Try.prog Q (lpIn vlIn_k) ac .normal aX cX.w :=
  run_at2 (o := ⟨_, _, _, _, _, _, _⟩) envV_ok (by kernel_rfl) (vlN_hk log w s l N L x i) ho hs hK
theorem vlX_end (log : Int) (w s : U4) (l : List U4) (N : Nat) (L : List Fr) (x : Fr) (i : Nat) : runEnd envV Try.f47 false 3000 (⟨lpIn vlIn_k, .normal, vlS log w s l N L x i⟩) [false] [640] [] = (Option.some ([((decide (((i : Nat) : Int) < (((List.length l) : Nat) : Int))) = false), ((0 : Int) ≤ log), (log ≤ (16 : Int)), (N = (2 ^ (log).toNat)), ((List.length L) = N), (halfNeg log (inF w)), (0 = 0), (N = (List.length (ntt L (inF w) N))), (4 = 4), ((List.length (ntt L (inF w) N)) ≤ 8796093022208)], ((SV.t [(V1.c (It.slc 0 0 (List.length (ntt L (inF w) N)) 4)), (V1.c (It.int IntKind.i64 (0 : Int)))]), [(En.sq (Sq.fr (List.map outF (ntt L (inF w) N))))]))) := by kernel_rfl
theorem vlA (log : Int) (w s : U4) (l : List U4) : fnRes envV Try.f47 3000 [.v (.a [.int .i64 log, .ob (.fr w)]), .v (.a [.ob (.fr s)]), .v (.c (.sl (.fr l)))] [true] [] [] = (Option.some ([((Bool.not (domOk log w)) = true)], ((SV.t [(V1.c (It.val (Value.slice Option.none 0 0))), (V1.c (It.int IntKind.i64 (40 : Int)))]), []))) := by kernel_rfl
theorem vlB (log : Int) (w s : U4) (l : List U4) : fnRes envV Try.f47 3000 [.v (.a [.int .i64 log, .ob (.fr w)]), .v (.a [.ob (.fr s)]), .v (.c (.sl (.fr l)))] [false, true] [] [] = (Option.some ([((Bool.not (domOk log w)) = false), ((0 : Int) ≤ log), ((decide ((((List.length l) : Nat) : Int) > (IntKind.wrap IntKind.i64 ((1 : Int) * ((2 : Int) ^ (Min.min (log).toNat 64)))))) = true)], ((SV.t [(V1.c (It.val (Value.slice Option.none 0 0))), (V1.c (It.int IntKind.i64 (3 : Int)))]), []))) := by kernel_rfl
noncomputable def raS (l : List U4) (x o : U4) (i : Int) : St := mkSt 25 [0, 3, 4, 5, 6] [(SV.v (V1.c (It.sl (Sq.fr l)))), (SV.v (V1.c (It.ptr 16 0))), (SV.v (V1.c (It.ptr 32 0))), (SV.v (V1.c (It.ptr 64 0))), .v (.c (.int .i64 i))] [16, 32, 64] [(Option.some (En.fl [(It.ob (Ob.fr x))])), (Option.some (En.fl [(It.ob (Ob.fr (0 : U4)))])), some (.fl [.ob (.fr o)])] 160 [] []
theorem raN_hk (l : List U4) (x o : U4) (i : Int) : (run envV false 3000 ((⟨lpIn raIn_k, .normal, raS l x o i⟩ : Cfg)) [true]).cfg.k = lpBk raIn_k := by kernel_rfl
theorem raN (l : List U4) (x o : U4) (i : Int) {w0 : World} {F0 : Nat → Prop} {K : Kp} {ac : List Act} {Q : Exit → Act → World → Prop} {cX : Ctx} {aX : Act} (ho : AllP [((decide (i ≥ (0 : Int))) = true), ((Fin.val x) < rN), ((0 : Int) ≤ i), (i < (((List.length l) : Nat) : Int))]) (hs : Sim w0 F0 K ac (raS l x o i) cX aX) (hK : ∀ ac cY aY, Sim w0 F0 K ac (mkSt 25 [0, 3, 4, 5, 6] [(.v (.c (.sl (.fr l)))), (.v (.c (.ptr 16 0))), (.v (.c (.ptr 32 0))), (.v (.c (.ptr 64 0))), (.v (.c (.int .i64 (IntKind.wrap .i64 (i - (1 : Int))))))] [16, 32, 64] [(some (.fl [(.ob (.fr x))])), (some (.fl [(.ob (.fr (0 : U4)))])), (some (.fl [(.ob (.fr (cleanU ((mulU o x) + (cleanU (List.getD l (i).toNat (0 : U4)))))))]))] 400 [] []) cY aY → Wq Try.prog Q (lpBk raIn_k) ac Exit.normal aY cY.w) : Wq Try.prog Q (lpIn raIn_k) ac .normal aX cX.w :=
  run_at2 (o := ⟨_, _, _, _, _, _, _⟩) envV_ok (by kernel_rfl) (raN_hk l x o i) ho hs hK
theorem raX_end (l : List U4) (x o : U4) (i : Int) : runEnd envV Try.f87 false 3000 (⟨lpIn raIn_k, .normal, raS l x o i⟩) [false] [] [] = (Option.some ([((decide (i ≥ (0 : Int))) = false)], ((SV.v (V1.a [(It.ob (Ob.fr o))])), []))) := by kernel_rfl
end Go.Proofs.Ytlfllehomhcbfaa
