/- An operation of a region, and regions: what the executor tells of them is what they do. No conditions. -/
import Derived.Test.YtlfllehomhcbfaaFwT
namespace Go.Proofs.Ytlfllehomhcbfaa

section
variable {P : Program} {w0 : World} {F0 K : Nat → Prop} {as : List Act} {env : Env} {al : Nat → Bool} {dec : List (Nat × Bool)} {ops : Array Oper} {p : Nat} {o : Oper} {σ σ' : St} {ob : List Prop} {x : Ctx} {a : Act}

theorem decideV_den {d : Nat} {v v' : SV} {o' : List Prop} {u : Value} (h : decideV dec d v = (o', v')) (ho : AllP o') (hd : denS x v u) : denS x v' u := by
  unfold decideV at h
  split at h
  · rename_i b
    split at h
    · cases h
      obtain ⟨rfl, _⟩ := ho
      have := D_bool hd
      subst this
      exact den_lit _
    · cases h; exact hd
  · cases h; exact hd

theorem wanted_of {b : Bool} (hs : ∀ t, denS x (σ.t t) (a.tmps.getD t undef)) (h : wantedS ops.toList o σ.t = some b) : Region.wanted o (yielded ops a.tmps) = b := by
  unfold wantedS at h
  unfold Region.wanted
  cases hg : o.guard with
  | none => simp only [hg] at h ⊢; cases h; rfl
  | some g =>
    obtain ⟨j, want⟩ := g
    simp only [hg] at h ⊢
    cases hb : (ops.toList[j]?).bind (·.dst) with
    | none => simp only [hb] at h; cases h
    | some d =>
      simp only [hb] at h
      have hb' : (ops[j]?).bind (·.dst) = some d := by simpa using hb
      split at h
      · rename_i b' hlit
        cases h
        have hd := hs d
        rw [hlit] at hd
        have hv := D_lit hd
        have hget : a.tmps[d]? = some (.bool b') := by
          rw [Array.getD_eq_getD_getElem?] at hv
          cases hh : a.tmps[d]? with
          | none => rw [hh] at hv; simp [undef] at hv
          | some u => rw [hh] at hv; simpa using hv
        have hy : yielded ops a.tmps j = some b' := by
          unfold yielded
          rw [hb']
          simp [hget]
        rw [hy]
        cases b' <;> cases want <;> rfl
      · cases h

theorem opStep_wp {Q : Exit → Act → World → Prop} {Kt : Act → World → Prop} {i : Nat} (hE : EnvOk P env) (hs : Sim w0 F0 K as σ x a) (hi : ops[i]? = some o) (h : opStep env al dec ops.toList p o σ = some (ob, σ')) (ho : AllP ob) (hal : ∀ q, al q = true → q < p)
    (hK : ∀ y a', Sim w0 F0 K as σ' y a' → Kt a' y.w) : wpOp P ops Q i Kt a x.w := by
  unfold wpOp
  simp only [hi]
  rw [opStep_eq] at h
  split at h
  · rename_i hw
    rw [wanted_of hs.t hw]
    simp only [if_true]
    left
    unfold opDo at h
    split at h
    · cases h
    · rename_i r hr
      split at h
      · rename_i hups
        rw [upsOk_mem] at hups
        have hfresh : ∀ q e, (q, e) ∈ r.ups → (if al q = true then σ.m q else none) = none → σ.m q = none := by
          intro q e hq hv
          have := hups q e hq
          cases hm : σ.m q with
          | none => rfl
          | some e' => simp only [hm] at this; simp [this, hm] at hv
        have hsub : ∀ q e, (if al q = true then σ.m q else none) = some e → σ.m q = some e := by
          intro q e hv
          split at hv
          · exact hv
          · cases hv
        have hp : ∀ q, p ≤ q → (if al q = true then σ.m q else none) = none := by
          intro q hq
          have : ¬ al q = true := fun h => by have := hal q h; omega
          simp [this]
        have main : AllP r.obl → ∀ {Kt' : Act → World → Prop}, (∀ v y, Tr x r.kill y (setsM (killM σ.m r.kill) r.ups) → denS y r.val v → Kt' (a.put o.dst v) y.w) → o.wp P a x.w Kt' Q := fun hob _ hn =>
          (opRes_sound hE (fun o => ev_den hs.t o) hs.mem hsub hr hob hp hfresh).wp hn
        split at h
        · rename_i hd
          cases h
          refine main ho fun v y ht _ => hK y _ ?_
          have := hs.step ht (dst := none) (sv := .top) (v := v) (nx := σ.nx) (fun d h => by cases h)
          rw [hd]; exact this
        · rename_i d hd
          split at h
          · rename_i hlt
            cases hdv : decideV dec d r.val with
            | mk o' s =>
              simp only [hdv] at h
              cases h
              have ho := AllP_append.1 ho
              refine main ho.2 fun v y ht hden => hK y _ ?_
              have := hs.step ht (dst := some d) (sv := s) (v := v) (nx := σ.nx) (fun d' h => by cases h; exact ⟨hlt, decideV_den hdv ho.1 hden⟩)
              rw [hd]; exact this
          · cases h
      · cases h
  · rename_i hw
    rw [wanted_of hs.t hw]
    simp only [Bool.false_eq_true, if_false]
    split at h
    · rename_i e he
      split at h
      · rename_i hlt
        cases h
        refine hK x _ ?_
        have := hs.step (Tr.refl hs.mem) (dst := some e) (sv := .top) (v := undef) (nx := σ.nx) (fun d' h => by cases h; exact ⟨hlt, trivial⟩)
        rw [he]; exact this
      · cases h
    · rename_i he
      cases h
      refine hK x _ ?_
      have := hs.step (Tr.refl hs.mem) (dst := none) (sv := .top) (v := undef) (nx := σ.nx) (fun d' h => by cases h)
      rw [he]; exact this
  · cases h

/-! Order open. -/
theorem alOf_lt {lo anc p q : Nat} (h : alOf lo anc p q = true) : q < p := by
  unfold alOf at h
  simp only [Bool.and_eq_true] at h
  simpa using h.1

theorem ancFold_bit {acc : List Nat} : ∀ {l : List Edge} {j : Nat}, (ancFold acc l).testBit j = true → ∃ e ∈ l, Region.binds .any e = true ∧ (j = e.on ∨ (acc.getD e.on 0).testBit j = true)
  | [], j, h => by simp [ancFold] at h
  | e :: l, j, h => by
    simp only [ancFold] at h
    split at h
    · rename_i hb
      simp only [Nat.testBit_or, Bool.or_eq_true] at h
      rcases h with (h | h) | h
      · rw [Nat.testBit_two_pow] at h
        exact ⟨e, by simp, hb, .inl (by simpa using (of_decide_eq_true h).symm)⟩
      · exact ⟨e, by simp, hb, .inr h⟩
      · obtain ⟨e', he', h'⟩ := ancFold_bit h
        exact ⟨e', by simp [he'], h'⟩
    · obtain ⟨e', he', h'⟩ := ancFold_bit h
      exact ⟨e', by simp [he'], h'⟩

theorem okWith_get {anc : Nat} : ∀ {l : List Oper} {k : Nat}, okWith env ops o anc l k = true → ∀ j x, l[j]? = some x → anc.testBit (k + j) = true ∨ conflict env ops x o = false
  | [], _, _, j, x, h => by simp at h
  | y :: l, k, h, j, x, hx => by
    simp only [okWith, Bool.and_eq_true, Bool.or_eq_true, Bool.not_eq_true'] at h
    cases j with
    | zero => simp only [List.getElem?_cons_zero, Option.some.injEq] at hx; subst hx; exact h.1
    | succ j =>
      simp only [List.getElem?_cons_succ] at hx
      have := okWith_get h.2 j x hx
      rw [show k + 1 + j = k + (j + 1) from by omega] at this
      exact this

theorem drawOk_get {anc : List Nat} : ∀ {l : List Oper} {k : Nat}, drawOk env ops anc l k = true → ∀ j x, l[j]? = some x →
    edgesOk (k + j) x = true ∧ anc.getD (k + j) 0 = ancOf anc x ∧ okWith env ops x (anc.getD (k + j) 0) (ops.toList.take (k + j)) 0 = true
  | [], _, _, j, x, h => by simp at h
  | y :: l, k, h, j, x, hx => by
    simp only [drawOk, Bool.and_eq_true, and_assoc] at h
    cases j with
    | zero =>
      simp only [List.getElem?_cons_zero, Option.some.injEq] at hx
      subst hx
      exact ⟨h.1, Nat.eq_of_beq_eq_true h.2.1, h.2.2.1⟩
    | succ j =>
      simp only [List.getElem?_cons_succ] at hx
      have := drawOk_get h.2.2.2 j x hx
      rw [show k + 1 + j = k + (j + 1) from by omega] at this
      exact this

/-- One that touches none of those ahead of it may go first. -/
theorem drawRun_first {anc : List Nat} {lo : Nat} {i : Nat} {oi : Oper} {post : List (Nat × Oper)} : ∀ {pre : List (Nat × Oper)} {σ σ' : St} {ob : List Prop},
    (∀ q ∈ pre, q.1 < i ∧ (anc.getD i 0).testBit q.1 = false ∧ conflict env ops q.2 oi = false) →
    drawRun env dec ops.toList anc lo (pre ++ (i, oi) :: post) σ = some (ob, σ') → AllP ob →
    ∃ ob1 ob2 σ1, opStep env (alOf lo (anc.getD i 0) (lo + 16 * i)) dec ops.toList (lo + 16 * i) oi σ = some (ob1, σ1) ∧ AllP ob1 ∧ drawRun env dec ops.toList anc lo (pre ++ post) σ1 = some (ob2, σ') ∧ AllP ob2
  | [], σ, σ', ob, _, h, ho => by
    simp only [List.nil_append, drawRun] at h ⊢
    split at h
    · rename_i ob1 σ1 h1
      split at h
      · rename_i ob2 σ2 h2
        cases h
        have ho := AllP_append.1 ho
        exact ⟨ob1, ob2, σ1, h1, ho.1, h2, ho.2⟩
      · cases h
    · cases h
  | (j, oj) :: pre, σ, σ', ob, hc, h, ho => by
    simp only [List.cons_append, drawRun] at h
    split at h
    · rename_i obj σj hj
      split at h
      · rename_i obr σr hr
        cases h
        have ho := AllP_append.1 ho
        obtain ⟨ob1, ob2, σ1, g1, g2, g3, g4⟩ := drawRun_first (fun q hq => hc q (List.mem_cons_of_mem _ hq)) hr ho.2
        obtain ⟨hlt, hbit, hcon⟩ := hc (j, oj) (by simp)
        have hcon' := hcon
        simp only [conflict, Bool.or_eq_false_iff] at hcon'
        obtain ⟨n1, n2, _, _⟩ := clash_spec (mcls_le env oj) (mcls_le env oi) hcon'.2
        obtain ⟨s1, ups1, d1, rfl⟩ := opStep_does n1 hj
        obtain ⟨s2, ups2, d2, rfl⟩ := opStep_does n2 g1
        have hno : ∀ q, lo + 16 * j ≤ q → q < lo + 16 * j + 16 → alOf lo (anc.getD i 0) (lo + 16 * i) q = false := by
          intro q h1 h2
          unfold alOf
          have hq : (q - lo) / 16 = j := by omega
          have hb : Nat.blt q lo = false := by
            cases hh : Nat.blt q lo with
            | false => rfl
            | true => have : q < lo := by simpa using hh
                      omega
          rw [hq, hbit, hb]
          simp
        obtain ⟨e1, e2, e3⟩ := swap hcon (by omega) (fun q h => alOf_lt h) (fun q h => alOf_lt h) hno d1 d2
        rw [e3] at g3
        refine ⟨ob1, obj ++ ob2, _, does_opStep e1, g2, ?_, AllP_append.2 ⟨ho.1, g4⟩⟩
        simp only [List.cons_append, drawRun, does_opStep e2, g3]
      · cases h
    · cases h

end
end Go.Proofs.Ytlfllehomhcbfaa
