/- Regions whose order is open: any order tells what the text's order tells. No conditions. -/
import Derived.Test.YtlfllehomhcbfaaFwS
namespace Go.Proofs.Ytlfllehomhcbfaa

theorem wantedS_congr {ops : Array Oper} {o : Oper} {t t' : Nat → SV} (h : ∀ d ∈ o.looksAt ops, t' d = t d) : wantedS ops.toList o t' = wantedS ops.toList o t := by
  unfold wantedS
  cases hg : o.guard with
  | none => rfl
  | some g =>
    obtain ⟨j, want⟩ := g
    simp only
    cases hb : (ops.toList[j]?).bind (·.dst) with
    | none => rfl
    | some d =>
      have : d ∈ o.looksAt ops := by
        unfold Oper.looksAt
        refine List.mem_append_right _ ?_
        have hb' : (ops[j]?).bind (·.dst) = some d := by simpa using hb
        simp [hg, hb']
      simp only [h d this]

theorem ev_congr {ops : Array Oper} {o : Oper} {σ σ' : St} (h : ∀ d ∈ o.looksAt ops, σ'.t d = σ.t d) : ∀ x ∈ o.op.operands, σ'.ev x = σ.ev x := by
  intro x hx
  cases x with
  | tmp t =>
    refine h t ?_
    exact List.mem_append_left _ (List.mem_filterMap.2 ⟨.tmp t, by simpa using hx, rfl⟩)
  | const v => rfl
  | global g => rfl
  | func f => rfl

section
variable {env : Env} {al : Nat → Bool} {dec : List (Nat × Bool)} {ops : Array Oper} {p : Nat} {o : Oper} {σ σ' : St} {ob : List Prop} {s : SV} {ups : List (Nat × En)}

theorem Does.move (h : Does env al dec ops.toList p o σ ob s ups) (hnt : σ'.nt = σ.nt) (ht : ∀ d ∈ o.looksAt ops, σ'.t d = σ.t d) (h4 : mcls env o ≠ 4)
    (hm : reads (mcls env o) = true → viewS al σ'.m = viewS al σ.m) (hu : upsOk al σ.m p ups = true → upsOk al σ'.m p ups = true) : Does env al dec ops.toList p o σ' ob s ups := by
  have hop : ∀ r, opRes env σ.ev (viewS al σ.m) p o = some r → opRes env σ'.ev (viewS al σ'.m) p o = some r := by
    intro r hr
    rw [opRes_congr (ev_congr ht)]
    by_cases hr' : reads (mcls env o) = true
    · rw [hm hr']; exact hr
    · rw [opRes_view (viewS al σ.m) (by simpa using hr') h4]; exact hr
  cases h with
  | skip hw hd => exact .skip (by rw [wantedS_congr ht]; exact hw) (fun d hd' => by rw [hnt]; exact hd d hd')
  | plain r hw hd hr hk hups => exact .plain r (by rw [wantedS_congr ht]; exact hw) hd (hop r hr) hk (hu hups)
  | dst r d ob s hw hd hlt hr hk hups hdv => exact .dst r d ob s (by rw [wantedS_congr ht]; exact hw) hd (by rw [hnt]; exact hlt) (hop r hr) hk (hu hups) hdv

theorem upsOk_mem : ∀ {ups : List (Nat × En)} {m : Nat → Option En}, upsOk al m p ups = true ↔ ∀ q e, (q, e) ∈ ups → (match m q with | some _ => al q = true | none => p ≤ q ∧ q < p + 16)
  | [], m => by simp [upsOk]
  | (q, e) :: l, m => by
    simp only [upsOk, Bool.and_eq_true, upsOk_mem (ups := l), List.mem_cons, Prod.mk.injEq]
    constructor
    · rintro ⟨h1, h2⟩ q' e' (⟨rfl, rfl⟩ | h)
      · cases hm : m q' with
        | some x => simp only [hm] at h1; exact h1
        | none =>
          simp only [hm, Bool.and_eq_true] at h1
          exact ⟨by simpa using h1.1, by simpa using h1.2⟩
      · exact h2 q' e' h
    · intro h
      refine ⟨?_, fun q' e' h' => h q' e' (.inr h')⟩
      have := h q e (.inl ⟨rfl, rfl⟩)
      cases hm : m q with
      | some x => simp only [hm] at this; exact this
      | none =>
        simp only [hm] at this
        simp only [Bool.and_eq_true]
        exact ⟨by simpa using this.1, by simpa using this.2⟩

theorem Does.facts (h : Does env al dec ops.toList p o σ ob s ups) (h4 : mcls env o ≠ 4) : upsOk al σ.m p ups = true ∧ (mcls env o ≠ 3 → ∀ q e, (q, e) ∈ ups → p ≤ q) ∧ (mcls env o = 3 → ∀ q e, (q, e) ∈ ups → viewS al σ.m q ≠ none) := by
  cases h with
  | skip hw hd => exact ⟨rfl, fun _ q e h => (by cases h), fun _ q e h => (by cases h)⟩
  | plain r hw hd hr hk hups => exact ⟨hups, (opRes_ups (fun f => rfl) hr h4).2⟩
  | dst r d ob s hw hd hlt hr hk hups hdv => exact ⟨hups, (opRes_ups (fun f => rfl) hr h4).2⟩

theorem setsM_out : ∀ {ups : List (Nat × En)} {m : Nat → Option En} {q : Nat}, (∀ e, (q, e) ∉ ups) → setsM m ups q = m q
  | [], m, q, _ => rfl
  | (q', e) :: l, m, q, h => by
    simp only [setsM]
    rw [setsM_out (ups := l) (fun e' he => h e' (List.mem_cons_of_mem _ he))]
    have : q ≠ q' := fun e' => h e (by rw [e']; exact List.mem_cons_self ..)
    simp [this]

theorem setsM_none : ∀ {ups : List (Nat × En)} {m : Nat → Option En} {q : Nat}, setsM m ups q = none → m q = none
  | [], m, q, h => h
  | (q', e) :: l, m, q, h => by
    simp only [setsM] at h
    have := setsM_none (ups := l) h
    by_cases hq : q = q'
    · simp [hq] at this
    · simpa [hq] using this

theorem setsM_congr : ∀ {ups : List (Nat × En)} {m m' : Nat → Option En} {q : Nat}, m q = m' q → setsM m ups q = setsM m' ups q
  | [], m, m', q, h => h
  | (q', e) :: l, m, m', q, h => by
    simp only [setsM]
    refine setsM_congr (ups := l) ?_
    by_cases hq : q = q' <;> simp [hq, h]

theorem setsM_in : ∀ {ups : List (Nat × En)} {m m' : Nat → Option En} {q : Nat} {e : En}, (q, e) ∈ ups → setsM m ups q = setsM m' ups q
  | (q', e') :: l, m, m', q, e, h => by
    simp only [setsM]
    by_cases hq : q = q'
    · exact setsM_congr (ups := l) (by simp [hq])
    · refine setsM_in (ups := l) (e := e) ?_
      rcases List.mem_cons.1 h with h | h
      · cases h; exact absurd rfl hq
      · exact h

theorem setsM_comm {ups ups' : List (Nat × En)} {m : Nat → Option En} (h : ∀ q e e', (q, e) ∈ ups → (q, e') ∉ ups') : setsM (setsM m ups) ups' = setsM (setsM m ups') ups := by
  funext q
  by_cases h1 : ∃ e, (q, e) ∈ ups
  · obtain ⟨e, he⟩ := h1
    have hout : ∀ e', (q, e') ∉ ups' := fun e' => h q e e' he
    rw [setsM_out hout]
    exact setsM_in he
  · have hout : ∀ e, (q, e) ∉ ups := fun e he => h1 ⟨e, he⟩
    rw [setsM_out (m := setsM m ups') hout]
    exact setsM_congr (setsM_out hout)

/-- Two that do not touch each other. -/
theorem swap {o1 o2 : Oper} {p1 p2 : Nat} {al1 al2 : Nat → Bool} {ob1 ob2 : List Prop} {s1 s2 : SV} {ups1 ups2 : List (Nat × En)} (hcon : conflict env ops o1 o2 = false)
    (hp : p1 + 16 ≤ p2) (hal1 : ∀ q, al1 q = true → q < p1) (hal2 : ∀ q, al2 q = true → q < p2) (hno : ∀ q, p1 ≤ q → q < p1 + 16 → al2 q = false)
    (h1 : Does env al1 dec ops.toList p1 o1 σ ob1 s1 ups1) (h2 : Does env al2 dec ops.toList p2 o2 (updS σ o1.dst s1 ups1) ob2 s2 ups2) :
    Does env al2 dec ops.toList p2 o2 σ ob2 s2 ups2 ∧ Does env al1 dec ops.toList p1 o1 (updS σ o2.dst s2 ups2) ob1 s1 ups1 ∧ updS (updS σ o1.dst s1 ups1) o2.dst s2 ups2 = updS (updS σ o2.dst s2 ups2) o1.dst s1 ups1 := by
  simp only [conflict, Bool.or_eq_false_iff, Bool.not_eq_false'] at hcon
  obtain ⟨hap, hcl⟩ := hcon
  obtain ⟨a1, a2, a3⟩ := Oper.apart_spec hap
  obtain ⟨n1, n2, c1, c2⟩ := clash_spec (mcls_le env o1) (mcls_le env o2) hcl
  obtain ⟨u1, f1, g1⟩ := h1.facts n1
  obtain ⟨u2, f2, g2⟩ := h2.facts n2
  rw [upsOk_mem] at u1 u2
  -- where the first writes
  have w1 : ∀ q e, (q, e) ∈ ups1 → (mcls env o1 ≠ 3 ∧ σ.m q = none ∧ p1 ≤ q ∧ q < p1 + 16) ∨ (mcls env o1 = 3 ∧ σ.m q ≠ none ∧ q < p1) := by
    intro q e hq
    have hu := u1 q e hq
    by_cases h3 : mcls env o1 = 3
    · right
      have := g1 h3 q e hq
      simp only [viewS] at this
      split at this
      · rename_i hal; exact ⟨h3, this, hal1 q hal⟩
      · exact absurd rfl this
    · left
      have hge := f1 h3 q e hq
      cases hm : σ.m q with
      | some x => simp only [hm] at hu; have := hal1 q hu; omega
      | none => simp only [hm] at hu; exact ⟨h3, rfl, hu⟩
  have w2 : ∀ q e, (q, e) ∈ ups2 → (mcls env o2 ≠ 3 ∧ σ.m q = none ∧ p2 ≤ q ∧ q < p2 + 16) ∨ (mcls env o2 = 3 ∧ (mcls env o1 ≠ 3 → σ.m q ≠ none) ∧ al2 q = true) := by
    intro q e hq
    have hu := u2 q e hq
    by_cases h3 : mcls env o2 = 3
    · right
      have hv := g2 h3 q e hq
      simp only [viewS] at hv
      split at hv
      · rename_i hal
        refine ⟨h3, fun hne1 hnone => hv ?_, hal⟩
        have hout : ∀ e, (q, e) ∉ ups1 := by
          intro e' he'
          rcases w1 q e' he' with ⟨_, _, h5, h6⟩ | ⟨h5, _⟩
          · rw [hno q h5 h6] at hal; cases hal
          · exact hne1 h5
        simp only [updS]
        rw [setsM_out hout]; exact hnone
      · exact absurd rfl hv
    · left
      have hge := f2 h3 q e hq
      cases hm : (updS σ o1.dst s1 ups1).m q with
      | some x => simp only [hm] at hu; have := hal2 q hu; omega
      | none => simp only [hm] at hu; exact ⟨h3, setsM_none hm, hu⟩
  have disj : ∀ q e e', (q, e) ∈ ups1 → (q, e') ∉ ups2 := by
    intro q e e' h h'
    rcases w1 q e h with ⟨i1, i2, i3, i4⟩ | ⟨i1, i2, i3⟩
    · rcases w2 q e' h' with ⟨j1, j2, j3, j4⟩ | ⟨j1, j2, j3⟩
      · omega
      · exact j2 i1 i2
    · rcases w2 q e' h' with ⟨j1, j2, j3, j4⟩ | ⟨j1, j2, j3⟩
      · omega
      · have : reads (mcls env o2) = true := by rw [j1]; rfl
        exact c1 this i1
  have view2 : reads (mcls env o2) = true → viewS al2 σ.m = viewS al2 (updS σ o1.dst s1 ups1).m := by
    intro hr
    funext q
    simp only [viewS]
    split
    · rename_i hal
      simp only [updS]
      rw [setsM_out]
      intro e he
      rcases w1 q e he with ⟨_, _, h5, h6⟩ | ⟨h5, _⟩
      · rw [hno q h5 h6] at hal; cases hal
      · exact c1 hr h5
    · rfl
  have h2' : Does env al2 dec ops.toList p2 o2 σ ob2 s2 ups2 := by
    refine h2.move rfl (fun d hd => ?_) n2 view2 (fun _ => ?_)
    · simp only [updS]
      cases hd1 : o1.dst with
      | none => rfl
      | some e =>
        have : d ≠ e := fun he => a1 e hd1 (he ▸ hd)
        simp [setO, setT, this]
    · rw [upsOk_mem]
      intro q e hq
      have hu := u2 q e hq
      rcases w2 q e hq with ⟨j1, j2, j3, j4⟩ | ⟨j1, j2, j3⟩
      · rw [j2]; exact ⟨j3, j4⟩
      · have hne1 : mcls env o1 ≠ 3 := c1 (by rw [j1]; rfl)
        cases hm : σ.m q with
        | none => exact absurd hm (j2 hne1)
        | some x => exact j3
  refine ⟨h2', ?_, ?_⟩
  · refine h1.move rfl (fun d hd => ?_) n1 (fun hr => ?_) (fun _ => ?_)
    · simp only [updS]
      cases hd2 : o2.dst with
      | none => rfl
      | some e =>
        have : d ≠ e := fun he => a3 e hd2 (he ▸ hd)
        simp [setO, setT, this]
    · funext q
      simp only [viewS]
      split
      · rename_i hal
        simp only [updS]
        rw [setsM_out]
        intro e he
        have := hal1 q hal
        rcases w2 q e he with ⟨_, _, h5, h6⟩ | ⟨h5, _⟩
        · omega
        · exact c2 hr h5
      · rfl
    · rw [upsOk_mem]
      intro q e hq
      have hu := u1 q e hq
      simp only [updS]
      rw [setsM_out (fun e' he' => disj q e e' hq he')]
      exact hu
  · simp only [updS, St.mk.injEq, and_true]
    refine ⟨?_, setsM_comm disj⟩
    cases hd1 : o1.dst with
    | none => rfl
    | some d1 =>
      cases hd2 : o2.dst with
      | none => rfl
      | some d2 =>
        have hne : d1 ≠ d2 := fun e => a2 d1 hd1 (by rw [hd2, e])
        funext x
        simp only [setO, setT]
        by_cases hx1 : x = d1
        · subst hx1; simp [hne]
        · simp [hx1]

end
end Go.Proofs.Ytlfllehomhcbfaa
