/- Two operations of a region that do not touch each other, in either order. No conditions. -/
import Derived.Test.YtlfllehomhcbfaaFwR
namespace Go.Proofs.Ytlfllehomhcbfaa

def reads (k : Nat) : Bool := k == 1 || k == 3 || k == 5

theorem clash_fin : ∀ a b : Fin 6, clash a.val b.val = false → a.val ≠ 4 ∧ b.val ≠ 4 ∧ (reads b.val = true → a.val ≠ 3) ∧ (reads a.val = true → b.val ≠ 3) := by decide

theorem clash_spec {a b : Nat} (ha : a ≤ 5) (hb : b ≤ 5) (h : clash a b = false) : a ≠ 4 ∧ b ≠ 4 ∧ (reads b = true → a ≠ 3) ∧ (reads a = true → b ≠ 3) :=
  clash_fin ⟨a, by omega⟩ ⟨b, by omega⟩ h

theorem storeRes_vis {m : Nat → Option En} {s x : SV} {i : TyI} {o : List Prop} {ups : List (Nat × En)} (h : storeRes m s x i = some (o, ups)) : ∀ q e, (q, e) ∈ ups → m q ≠ none := by
  have one : ∀ {p : Nat} {e0 e1 : En}, m p = some e0 → ∀ q e, (q, e) ∈ [(p, e1)] → m q ≠ none := by
    intro p e0 e1 hp q e hq
    simp only [List.mem_cons, List.not_mem_nil, or_false, Prod.mk.injEq] at hq
    rw [hq.1, hp]; simp
  unfold storeRes at h
  split at h
  · split at h
    · split at h
      · split at h
        · rename_i l hl
          simp only [Option.map_eq_some_iff] at h
          obtain ⟨r, _, he⟩ := h
          simp only [Prod.mk.injEq] at he
          obtain ⟨rfl, rfl⟩ := he
          exact one hl
        · rename_i q hq
          split at h
          · simp only [Option.map_eq_some_iff] at h
            obtain ⟨r, _, he⟩ := h
            simp only [Prod.mk.injEq] at he
            obtain ⟨rfl, rfl⟩ := he
            exact one hq
          · cases h
        · cases h
      · split at h
        · rename_i q hq
          split at h
          · split at h
            · simp only [Option.map_eq_some_iff] at h
              obtain ⟨r, _, he⟩ := h
              simp only [Prod.mk.injEq] at he
              obtain ⟨rfl, rfl⟩ := he
              exact one hq
            · cases h
          · cases h
        · cases h
      · cases h
    · cases h
  · cases h

section
variable {env : Env} {ρ : Operand → SV} {m : Nat → Option En} {p : Nat} {o : Oper} {r : Res}

theorem mcls_le (env : Env) (o : Oper) : mcls env o ≤ 5 := by
  unfold mcls
  split <;> try decide
  split <;> try decide
  split <;> decide

/-- Only operations that read look at memory. -/
theorem opRes_view (m' : Nat → Option En) (h : reads (mcls env o) = false) (h4 : mcls env o ≠ 4) : opRes env ρ m p o = opRes env ρ m' p o := by
  unfold mcls at h h4
  unfold opRes
  cases hop : o.op <;> simp only [hop] at h h4 ⊢ <;> try (first | rfl | (exact absurd rfl h4) | (cases h; done))
  case call c =>
    cases hc : c.callee with
    | builtin b =>
      simp only [hc] at h h4 ⊢
      cases b <;> first | rfl | exact absurd rfl h4
    | invoke _ _ => simp only [hc] at h4; exact absurd rfl h4
    | value f =>
      simp only [hc] at h h4
      cases f with
      | func g =>
        simp only at h h4
        cases hg : env.fn g with
        | none => simp only [hg] at h4; exact absurd rfl h4
        | some s => simp only [hg] at h; cases h
      | tmp t => exact absurd rfl h4
      | const v => exact absurd rfl h4
      | global g => exact absurd rfl h4

theorem number_ge : ∀ (es : List En) (p q : Nat) (e : En), (q, e) ∈ number p es → p ≤ q
  | [], _, _, _, h => by cases h
  | _ :: es, p, q, e, h => by
    simp only [number, List.mem_cons, Prod.mk.injEq] at h
    rcases h with ⟨rfl, _⟩ | h
    · exact Nat.le_refl _
    · have := number_ge es (p + 1) q e h; omega

theorem pureV_ups {i : It} (h : pureV i = some r) : r.ups = [] ∧ r.kill = none := by cases h; exact ⟨rfl, rfl⟩
theorem withO_ups {x : Option (List Prop × It)} (h : withO x = some r) : r.ups = [] ∧ r.kill = none := by
  obtain ⟨_, _, _, rfl⟩ := withO_some h; exact ⟨rfl, rfl⟩

/-- What is written: new blocks, or, by a store, what is seen. -/
theorem opRes_ups (hρ : ∀ f, ρ (.func f) = .v (.c (.clo f []))) (h : opRes env ρ m p o = some r) (h4 : mcls env o ≠ 4) :
    r.kill = none ∧ (mcls env o ≠ 3 → ∀ q e, (q, e) ∈ r.ups → p ≤ q) ∧ (mcls env o = 3 → ∀ q e, (q, e) ∈ r.ups → m q ≠ none) := by
  have fin0 : r.ups = [] ∧ r.kill = none → r.kill = none ∧ (mcls env o ≠ 3 → ∀ q e, (q, e) ∈ r.ups → p ≤ q) ∧ (mcls env o = 3 → ∀ q e, (q, e) ∈ r.ups → m q ≠ none) := by
    rintro ⟨h1, h2⟩
    exact ⟨h2, fun _ q e hq => (by rw [h1] at hq; cases hq), fun _ q e hq => (by rw [h1] at hq; cases hq)⟩
  have fin1 : mcls env o ≠ 3 → (∃ e, r.ups = [(p, e)]) ∧ r.kill = none → r.kill = none ∧ (mcls env o ≠ 3 → ∀ q e, (q, e) ∈ r.ups → p ≤ q) ∧ (mcls env o = 3 → ∀ q e, (q, e) ∈ r.ups → m q ≠ none) := by
    rintro hne ⟨⟨e0, h1⟩, h2⟩
    refine ⟨h2, fun _ q e hq => ?_, fun h3 => absurd h3 hne⟩
    rw [h1] at hq
    simp only [List.mem_cons, List.not_mem_nil, or_false, Prod.mk.injEq] at hq
    omega
  unfold opRes at h
  cases hop : o.op <;> simp only [hop] at h
  case store t ad v =>
    have h3 : mcls env o = 3 := by simp [mcls, hop]
    split at h
    · split at h
      · rename_i ob ups hs
        cases h
        exact ⟨rfl, fun hne => absurd h3 hne, fun _ => storeRes_vis hs⟩
      · cases h
    · cases h
  case call c =>
    cases hc : c.callee with
    | invoke _ _ => simp only [hc] at h; cases h
    | builtin b =>
      simp only [hc] at h
      cases b <;> simp only [] at h <;> try (first | (cases h; done) | (exfalso; apply h4; simp [mcls, hop, hc]; done))
      all_goals
        repeat' split at h
        all_goals first | (cases h; done) | exact fin0 (pureV_ups h)
    | value f =>
      have key : ∀ {g : Nat} {args : List SV} {s : FnSpec}, env.fn g = some s → mcls env o ≠ 3 → callRes env m p g args = some r → r.kill = none ∧ (mcls env o ≠ 3 → ∀ q e, (q, e) ∈ r.ups → p ≤ q) ∧ (mcls env o = 3 → ∀ q e, (q, e) ∈ r.ups → m q ≠ none) := by
        intro g args s hg hne hr
        unfold callRes at hr
        simp only [hg] at hr
        repeat' split at hr
        all_goals first
          | (cases hr; done)
          | (cases hr; exact ⟨rfl, fun _ q e hq => number_ge _ p q e hq, fun h3 => absurd h3 hne⟩)
      cases f with
      | func g =>
        cases hg : env.fn g with
        | none => exfalso; apply h4; simp [mcls, hop, hc, hg]
        | some s =>
          have hne : mcls env o ≠ 3 := by simp [mcls, hop, hc, hg]
          simp only [hc, hρ] at h
          exact key hg hne h
      | tmp t => exfalso; apply h4; simp [mcls, hop, hc]
      | const v => exfalso; apply h4; simp [mcls, hop, hc]
      | global g => exfalso; apply h4; simp [mcls, hop, hc]
  all_goals
    repeat' split at h
    all_goals first
      | (cases h; done)
      | exact fin0 (pureV_ups h)
      | exact fin0 (withO_ups h)
      | (cases h; exact fin0 ⟨rfl, rfl⟩)
      | (cases h; exact fin1 (by simp [mcls, hop]) ⟨⟨_, rfl⟩, rfl⟩)

end

/-! One operation, as what it turns. -/
def wantedS (ops : List Oper) (o : Oper) (t : Nat → SV) : Option Bool :=
  match o.guard with
  | none => some true
  | some (j, want) => match (ops[j]?).bind (·.dst) with
    | none => none
    | some d => match t d with
      | .v (.c (.lit b)) => some (b == want)
      | _ => none

def setO (t : Nat → SV) : Option Nat → SV → Nat → SV
  | none, _ => t
  | some d, s => setT t d s

def updS (σ : St) (dst : Option Nat) (s : SV) (ups : List (Nat × En)) : St := { σ with t := setO σ.t dst s, m := setsM σ.m ups }

def viewS (al : Nat → Bool) (m : Nat → Option En) : Nat → Option En := fun q => if al q then m q else none

inductive Does (env : Env) (al : Nat → Bool) (dec : List (Nat × Bool)) (ops : List Oper) (p : Nat) (o : Oper) (σ : St) : List Prop → SV → List (Nat × En) → Prop
  | skip : wantedS ops o σ.t = some false → (∀ d, o.dst = some d → d < σ.nt) → Does env al dec ops p o σ [] .top []
  | plain (r : Res) : wantedS ops o σ.t = some true → o.dst = none → opRes env σ.ev (viewS al σ.m) p o = some r → r.kill = none → upsOk al σ.m p r.ups = true → Does env al dec ops p o σ r.obl .top r.ups
  | dst (r : Res) (d : Nat) (ob : List Prop) (s : SV) : wantedS ops o σ.t = some true → o.dst = some d → d < σ.nt → opRes env σ.ev (viewS al σ.m) p o = some r → r.kill = none → upsOk al σ.m p r.ups = true → decideV dec d r.val = (ob, s) → Does env al dec ops p o σ (ob ++ r.obl) s r.ups

theorem opStep_eq (env : Env) (al : Nat → Bool) (dec : List (Nat × Bool)) (ops : List Oper) (p : Nat) (o : Oper) (σ : St) : opStep env al dec ops p o σ =
    match wantedS ops o σ.t with
    | some true => opDo env al dec p o σ
    | some false => (match o.dst with
      | some e => if e < σ.nt then some ([], { σ with t := setT σ.t e .top }) else none
      | none => some ([], σ))
    | none => none := by
  unfold opStep wantedS
  cases hg : o.guard with
  | none => simp only
  | some g =>
    obtain ⟨j, want⟩ := g
    simp only
    cases hb : (ops[j]?).bind (·.dst) with
    | none => simp only
    | some d =>
      simp only
      generalize σ.t d = sv
      cases sv with
      | v a =>
        cases a with
        | c i =>
          cases i
          case lit b => simp only; cases hbw : b == want <;> simp <;> rfl
          all_goals rfl
        | a l => rfl
      | t l => rfl
      | top => rfl

theorem setsM_nil (m : Nat → Option En) : setsM m [] = m := rfl

theorem opStep_does {env : Env} {al : Nat → Bool} {dec : List (Nat × Bool)} {ops : List Oper} {p : Nat} {o : Oper} {σ σ' : St} {ob : List Prop} (h4 : mcls env o ≠ 4) (h : opStep env al dec ops p o σ = some (ob, σ')) :
    ∃ s ups, Does env al dec ops p o σ ob s ups ∧ σ' = updS σ o.dst s ups := by
  rw [opStep_eq] at h
  split at h
  · rename_i hw
    unfold opDo at h
    split at h
    · cases h
    · rename_i r hr
      obtain ⟨hk, _⟩ := opRes_ups (fun f => rfl) hr h4
      split at h
      · rename_i hups
        split at h
        · rename_i hd
          cases h
          refine ⟨.top, r.ups, .plain r hw hd hr hk hups, ?_⟩
          simp only [updS, hd, setO, hk, killT, killM, killF]
        · rename_i d hd
          split at h
          · rename_i hlt
            cases hdv : decideV dec d r.val with
            | mk o' v =>
              simp only [hdv] at h
              cases h
              refine ⟨v, r.ups, .dst r d o' v hw hd hlt hr hk hups hdv, ?_⟩
              simp only [updS, hd, setO, hk, killT, killM, killF]
          · cases h
      · cases h
  · rename_i hw
    split at h
    · rename_i e he
      split at h
      · rename_i hlt
        cases h
        exact ⟨.top, [], .skip hw (fun d hd => by rw [he] at hd; cases hd; exact hlt), by simp only [updS, he, setO, setsM_nil]⟩
      · cases h
    · rename_i he
      cases h
      exact ⟨.top, [], .skip hw (fun d hd => by rw [he] at hd; cases hd), by simp only [updS, he, setO, setsM_nil]⟩
  · cases h

theorem does_opStep {env : Env} {al : Nat → Bool} {dec : List (Nat × Bool)} {ops : List Oper} {p : Nat} {o : Oper} {σ : St} {ob : List Prop} {s : SV} {ups : List (Nat × En)} (h : Does env al dec ops p o σ ob s ups) :
    opStep env al dec ops p o σ = some (ob, updS σ o.dst s ups) := by
  rw [opStep_eq]
  cases h with
  | skip hw hd =>
    rw [hw]
    cases he : o.dst with
    | none => simp only [updS, setO, setsM_nil]
    | some d => simp only [updS, setO, setsM_nil]; rw [if_pos (hd d he)]
  | plain r hw hd hr hk hups =>
    rw [hw]
    simp only [opDo]
    unfold viewS at hr
    rw [hr]
    simp only [hups, if_true, hd, hk, killT, killM, killF, updS, setO]
  | dst r d ob s hw hd hlt hr hk hups hdv =>
    rw [hw]
    simp only [opDo]
    unfold viewS at hr
    rw [hr]
    simp only [hups, if_true, hd, hk, killT, killM, killF, updS, setO, hlt, hdv]

end Go.Proofs.Ytlfllehomhcbfaa
