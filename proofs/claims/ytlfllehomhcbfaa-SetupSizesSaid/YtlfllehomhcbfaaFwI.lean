/- Rows of elements: set, pushed, cut, joined, all zero. Lemmas for the executor's soundness; no conditions. -/
import Derived.Test.YtlfllehomhcbfaaFwH
namespace Go.Proofs.Ytlfllehomhcbfaa

theorem get_size (q : Sq) (i : Nat) : itsSize (q.get i) = q.es := by
  have flat : ∀ (l : List (Fp × Fp × Fp)) (n k : Nat), itsSize (flatPt l k n) = 18 * n := by
    intro l n
    induction n with
    | zero => intro k; rfl
    | succ n ih => intro k; simp only [flatPt, itsSize, It.size, Ob.k, ih]; omega
  cases q
  case ptt l => simp only [Sq.get, Sq.es, flat]
  all_goals rfl

theorem getD_set' {α : Type} (l : List α) (i j : Nat) (y d : α) : (l.set i y).getD j d = if j = i ∧ i < l.length then y else l.getD j d := by
  by_cases h : j = i
  · subst h
    by_cases hl : j < l.length
    · simp [hl]
    · simp [hl]
  · simp [h, List.getElem?_set_ne (Ne.symm h)]

theorem set_spec {q q' : Sq} {i : Nat} {its : List It} (h : q.set i its = some q') :
    q'.n = q.n ∧ q'.es = q.es ∧ itsSize its = q.es ∧ (∀ j, j ≠ i → q'.get j = q.get j) ∧ (i < q.n → ∀ x d cs, catL (den x d) its cs → catL (den x d) (q'.get i) cs) := by
  unfold Sq.set at h
  split at h
  all_goals first
    | (cases h
       refine ⟨by simp [Sq.n], rfl, rfl, fun j hj => by simp only [Sq.get, getD_set', hj, false_and, if_false], fun hi x d cs hc => ?_⟩
       simp only [Sq.n] at hi
       simp only [Sq.get, getD_set', hi, and_self, if_true, GateD.its, OpD.its, G1D.its, G2D.its, ptIts, pt2Its]
       first
         | exact hc
         | (refine catL_mono (fun i vs h => ?_) hc; exact h)
         | (obtain ⟨c1, c2, e1, g1, c3, c4, e2, g2, c5, c6, e3, g3, g4⟩ := hc
            exact ⟨c1, c2, e1, g1, c3, c4, e2, g2, c5, c6, e3, by cases d <;> simpa [den] using g3, g4⟩)
         | (obtain ⟨c1, c2, e1, g1, c3, c4, e2, g2, c5, c6, e3, g3, c7, c8, e4, g4, c9, c10, e5, g5, g6⟩ := hc
            exact ⟨c1, c2, e1, g1, c3, c4, e2, g2, c5, c6, e3, g3, c7, c8, e4, g4, c9, c10, e5, by cases d <;> simpa [den] using g5, g6⟩))
    | cases h

theorem getD_left {α : Type} (l l' : List α) (j : Nat) (d : α) (h : j < l.length) : (l ++ l').getD j d = l.getD j d := by
  simp only [List.getD_eq_getElem?_getD, List.getElem?_append_left h]
theorem getD_right {α : Type} (l l' : List α) (j : Nat) (d : α) : (l ++ l').getD (l.length + j) d = l'.getD j d := by
  simp only [List.getD_eq_getElem?_getD, List.getElem?_append_right (Nat.le_add_right _ _), Nat.add_sub_cancel_left]

theorem push_spec {q q' : Sq} {its : List It} (h : q.push its = some q') :
    q'.n = q.n + 1 ∧ q'.es = q.es ∧ itsSize its = q.es ∧ (∀ j, j < q.n → q'.get j = q.get j) ∧ (∀ x d cs, catL (den x d) its cs → catL (den x d) (q'.get q.n) cs) := by
  unfold Sq.push at h
  split at h
  all_goals first
    | (cases h
       refine ⟨by simp [Sq.n], rfl, rfl, fun j hj => by simp only [Sq.n] at hj; simp only [Sq.get, getD_left _ _ _ _ hj], fun x d cs hc => ?_⟩
       simp only [Sq.get, Sq.n, List.getD_eq_getElem?_getD, List.getElem?_concat_length, Option.getD_some, GateD.its, G1D.its, G2D.its, ptIts, pt2Its]
       first
         | exact hc
         | (obtain ⟨c1, c2, e1, g1, c3, c4, e2, g2, c5, c6, e3, g3, g4⟩ := hc
            exact ⟨c1, c2, e1, g1, c3, c4, e2, g2, c5, c6, e3, by cases d <;> simpa [den] using g3, g4⟩)
         | (obtain ⟨c1, c2, e1, g1, c3, c4, e2, g2, c5, c6, e3, g3, c7, c8, e4, g4, c9, c10, e5, g5, g6⟩ := hc
            exact ⟨c1, c2, e1, g1, c3, c4, e2, g2, c5, c6, e3, g3, c7, c8, e4, g4, c9, c10, e5, by cases d <;> simpa [den] using g5, g6⟩))
    | cases h

theorem app_spec {q q' r : Sq} (h : q.app q' = some r) :
    r.n = q.n + q'.n ∧ r.es = q.es ∧ q'.es = q.es ∧ (∀ j, j < q.n → r.get j = q.get j) ∧ (∀ j, j < q'.n → r.get (q.n + j) = q'.get j) := by
  unfold Sq.app at h
  split at h
  all_goals first
    | (cases h
       exact ⟨by simp [Sq.n], rfl, rfl, fun j hj => by simp only [Sq.n] at hj; simp only [Sq.get, getD_left _ _ _ _ hj], fun j _ => by simp only [Sq.get, Sq.n, getD_right]⟩)
    | cases h

theorem getD_cut {α : Type} (l : List α) (lo n j : Nat) (d : α) (h : j < n) : ((l.drop lo).take n).getD j d = l.getD (lo + j) d := by
  simp [h]

theorem cut_spec (q : Sq) (lo n : Nat) (h : lo + n ≤ q.n) : (q.cut lo n).n = n ∧ (q.cut lo n).es = q.es ∧ ∀ j, j < n → (q.cut lo n).get j = q.get (lo + j) := by
  cases q <;> simp only [Sq.n] at h <;>
  exact ⟨by simp only [Sq.cut, Sq.n, List.length_take, List.length_drop]; omega, rfl, fun j hj => by simp only [Sq.cut, Sq.get, getD_cut _ _ _ _ _ hj]⟩

theorem zeros_spec {q z : Sq} {n : Nat} (h : zeros q n = some z) : z.n = n ∧ z.es = q.es ∧ ∃ z1, zeros q 1 = some z1 ∧ ∀ i, i < n → z.get i = z1.get 0 := by
  cases q <;> simp only [zeros, Option.some.injEq] at h <;> try (cases h; done)
  all_goals
    subst h
    exact ⟨by simp [Sq.n], rfl, _, rfl, fun i hi => by simp [Sq.get, hi]⟩

/-- A block's cells hold the elements of a row. -/
theorem denEn_get {x : Ctx} {q : Sq} {cs : List Value} (h : denEn x (.sq q) cs) {i : Nat} (hi : i < q.n) :
    ∃ c d, catL (den x d) (q.get i) c ∧ c.length = q.es ∧ i * q.es + q.es ≤ cs.length ∧ ∀ (j : Nat) (v : Value), c[j]? = some v → cs[i * q.es + j]? = some v := by
  obtain ⟨c, hc, hj⟩ := h.2 i hi
  obtain ⟨d, hc⟩ := catL_ex hc
  have hl := catL_len hc
  rw [get_size] at hl
  have : (i + 1) * q.es ≤ q.n * q.es := Nat.mul_le_mul_right _ hi
  rw [Nat.add_mul, Nat.one_mul] at this
  have := h.1
  exact ⟨c, d, hc, hl, by omega, hj⟩

/-- The same row in a block of which one element is written anew. -/
theorem denEn_set {x : Ctx} {q q' : Sq} {cs c' : List Value} {i : Nat} {its : List It} (h : denEn x (.sq q) cs) (hi : i < q.n) (hs : q.set i its = some q') {d : Nat} (hc : catL (den x d) its c') :
    denEn x (.sq q') (cs.take (i * q.es) ++ c' ++ cs.drop (i * q.es + q.es)) := by
  obtain ⟨h1, h2, h3, h4, h5⟩ := set_spec hs
  have hl := catL_len hc
  rw [h3] at hl
  have hle : (i + 1) * q.es ≤ q.n * q.es := Nat.mul_le_mul_right _ hi
  rw [Nat.add_mul, Nat.one_mul] at hle
  have hn := h.1
  refine ⟨?_, fun j hj => ?_⟩
  · rw [h1, h2]; simp only [List.length_append, List.length_take, List.length_drop, hl]; omega
  · rw [h1] at hj
    by_cases hji : j = i
    · subst hji
      refine ⟨c', catL_D (h5 hi x d c' hc), fun k v hk => ?_⟩
      rw [h2, List.append_assoc, List.getElem?_append_right (by simp only [List.length_take]; omega), List.length_take, Nat.min_eq_left (by omega), Nat.add_sub_cancel_left]
      rw [List.getElem?_append_left (by
        rcases Nat.lt_or_ge k c'.length with hh | hh
        · exact hh
        · rw [List.getElem?_eq_none hh] at hk; cases hk)]
      exact hk
    · obtain ⟨c, d', hcj, hlc, hfit, hcell⟩ := denEn_get h hj
      refine ⟨c, by rw [h4 j hji]; exact catL_D hcj, fun k v hk => ?_⟩
      have hk' : k < q.es := by
        rcases Nat.lt_or_ge k c.length with hh | hh
        · omega
        · rw [List.getElem?_eq_none hh] at hk; cases hk
      rw [h2, ← hcell k v hk]
      rcases Nat.lt_or_gt_of_ne hji with hlt | hgt
      · have hm : (j + 1) * q.es ≤ i * q.es := Nat.mul_le_mul_right _ hlt
        rw [Nat.add_mul, Nat.one_mul] at hm
        rw [List.append_assoc, List.getElem?_append_left (by simp only [List.length_take]; omega), List.getElem?_take_of_lt (by omega)]
      · have hm : (i + 1) * q.es ≤ j * q.es := Nat.mul_le_mul_right _ hgt
        rw [Nat.add_mul, Nat.one_mul] at hm
        rw [List.getElem?_append_right (by simp only [List.length_append, List.length_take, hl]; omega)]
        simp only [List.length_append, List.length_take, hl, Nat.min_eq_left (show i * q.es ≤ cs.length by omega), List.getElem?_drop]
        congr 1
        omega

end Go.Proofs.Ytlfllehomhcbfaa
