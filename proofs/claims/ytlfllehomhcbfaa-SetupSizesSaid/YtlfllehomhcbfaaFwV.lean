/- Regions whose order is open, as a whole; and code, step by step. No conditions. -/
import Derived.Test.YtlfllehomhcbfaaFwU
namespace Go.Proofs.Ytlfllehomhcbfaa

section
variable {P : Program} {w0 : World} {F0 K : Nat → Prop} {as : List Act} {env : Env} {dec : List (Nat × Bool)} {ops : Array Oper} {Q : Exit → Act → World → Prop}

structure Rem (ops : Array Oper) (anc : List Nat) (listed : Array Bool) (rem : List (Nat × Oper)) : Prop where
  sorted : rem.Pairwise fun a b => a.1 < b.1
  there : ∀ i o, (i, o) ∈ rem → ops[i]? = some o
  size : listed.size = ops.size
  left : ∀ i, i < ops.size → (listed.getD i true = false ↔ ∃ o, (i, o) ∈ rem)
  closed : ∀ i, i < ops.size → listed.getD i false = true → ∀ j, (anc.getD i 0).testBit j = true → listed.getD j false = true

theorem getD_tf {l : Array Bool} {i : Nat} : l.getD i true = false ↔ (i < l.size ∧ l.getD i false = false) := by
  rcases Nat.lt_or_ge i l.size with h | h
  · simp [h]
  · simp [Array.getElem?_eq_none h]; omega

theorem draw_wp (hE : EnvOk P env) {anc : List Nat} {lo : Nat} {σ' : St} (hok : drawOk env ops anc ops.toList 0 = true) (hK : ∀ y a', Sim w0 F0 K as σ' y a' → Q .normal a' y.w) :
    ∀ (fuel : Nat) (rem : List (Nat × Oper)) (listed : Array Bool) (σ : St) (ob : List Prop) (x : Ctx) (a : Act), rem.length = fuel → Rem ops anc listed rem → drawRun env dec ops.toList anc lo rem σ = some (ob, σ') → AllP ob → Sim w0 F0 K as σ x a →
      wpAny P .any ops Q fuel listed a x.w := by
  intro fuel
  induction fuel with
  | zero =>
    intro rem listed σ ob x a hl hr hd ho hs
    have hnil : rem = [] := List.eq_nil_of_length_eq_zero hl
    subst hnil
    simp only [drawRun, Option.some.injEq, Prod.mk.injEq] at hd
    obtain ⟨_, rfl⟩ := hd
    refine ⟨?_, hK x a hs⟩
    apply List.eq_nil_iff_forall_not_mem.2
    intro i hi
    obtain ⟨h0, o, hio, _⟩ := mem_ready.1 hi
    have hlt : i < ops.size := (Array.getElem?_eq_some_iff.1 hio).1
    obtain ⟨o', ho'⟩ := (hr.left i hlt).1 h0
    cases ho'
  | succ fuel ih =>
    intro rem listed σ ob x a hl hr hd ho hs
    have hget : ∀ i o, ops[i]? = some o → edgesOk i o = true ∧ anc.getD i 0 = ancOf anc o ∧ okWith env ops o (anc.getD i 0) (ops.toList.take i) 0 = true := by
      intro i o hi
      have := drawOk_get hok i o (by simpa using hi)
      simpa using this
    refine ⟨fun hnone => ?_, fun i hi => ?_⟩
    · exfalso
      cases hrem : rem with
      | nil => rw [hrem] at hl; simp at hl
      | cons q rest =>
        obtain ⟨i, o⟩ := q
        have hio : ops[i]? = some o := hr.there i o (by rw [hrem]; simp)
        have hlt : i < ops.size := (Array.getElem?_eq_some_iff.1 hio).1
        have hmem : i ∈ Region.ready .any ops listed := by
          refine mem_ready.2 ⟨(hr.left i hlt).2 ⟨o, by rw [hrem]; simp⟩, o, hio, fun e he hb => ?_⟩
          have hedge := (hget i o hio).1
          unfold edgesOk at hedge
          have he' := List.all_eq_true.1 hedge e (Array.mem_toList_iff.2 he)
          simp only [hb, Bool.not_true, Bool.false_or] at he'
          have hlt' : e.on < i := by simpa using he'
          have hnot : ¬ listed.getD e.on true = false := by
            rw [hr.left e.on (by omega)]
            rintro ⟨o', ho'⟩
            rw [hrem] at ho'
            have hsrt := hr.sorted
            rw [hrem] at hsrt
            rcases List.mem_cons.1 ho' with h | h
            · cases h; omega
            · have := (List.pairwise_cons.1 hsrt).1 _ h
              simp only at this; omega
          rw [getD_tf] at hnot
          have hsz : e.on < listed.size := by rw [hr.size]; omega
          cases hh : listed.getD e.on false with
          | true => rfl
          | false => exact absurd ⟨hsz, hh⟩ hnot
        rw [hnone] at hmem
        cases hmem
    · obtain ⟨h0, o, hio, hall⟩ := mem_ready.1 hi
      have hlt : i < ops.size := (Array.getElem?_eq_some_iff.1 hio).1
      obtain ⟨o', ho'⟩ := (hr.left i hlt).1 h0
      have hoo : o' = o := by have := hr.there i o' ho'; rw [hio] at this; cases this; rfl
      subst hoo
      obtain ⟨pre, post, hrem⟩ := List.append_of_mem ho'
      subst hrem
      have hsrt := List.pairwise_append.1 hr.sorted
      have unlisted : ∀ q ∈ pre ++ (i, o') :: post, listed.getD q.1 false = false := by
        intro q hq
        have hq' := hr.there q.1 q.2 hq
        have hql : q.1 < ops.size := (Array.getElem?_eq_some_iff.1 hq').1
        exact (getD_tf.1 ((hr.left q.1 hql).2 ⟨q.2, hq⟩)).2
      have hanc : ∀ j, (anc.getD i 0).testBit j = true → listed.getD j false = true := by
        intro j hj
        rw [(hget i o' hio).2.1] at hj
        obtain ⟨e, he, hb, hje⟩ := ancFold_bit hj
        have hle := hall e (Array.mem_toList_iff.1 he) hb
        rcases hje with rfl | hje
        · exact hle
        · have : e.on < ops.size := by
            rcases Nat.lt_or_ge e.on listed.size with hh | hh
            · rw [← hr.size]; exact hh
            · simp [Array.getElem?_eq_none hh] at hle
          exact hr.closed e.on this hle j hje
      have hpre : ∀ q ∈ pre, q.1 < i ∧ (anc.getD i 0).testBit q.1 = false ∧ conflict env ops q.2 o' = false := by
        intro q hq
        have hqi : q.1 < i := hsrt.2.2 q hq (i, o') (by simp)
        have hqm : q ∈ pre ++ (i, o') :: post := List.mem_append_left _ hq
        have hbit : (anc.getD i 0).testBit q.1 = false := by
          cases hh : (anc.getD i 0).testBit q.1 with
          | false => rfl
          | true => have := hanc q.1 hh; rw [unlisted q hqm] at this; cases this
        refine ⟨hqi, hbit, ?_⟩
        have hq' := hr.there q.1 q.2 hqm
        have := okWith_get (hget i o' hio).2.2 q.1 q.2 (by rw [List.getElem?_take_of_lt hqi]; simpa using hq')
        rw [Nat.zero_add, hbit] at this
        exact this.resolve_left (by simp)
      obtain ⟨ob1, ob2, σ1, g1, g2, g3, g4⟩ := drawRun_first hpre hd ho
      refine opStep_wp hE hs hio g1 g2 (fun q h => alOf_lt h) fun y a' hs' => ?_
      refine ih (pre ++ post) _ σ1 ob2 y a' (by simp only [List.length_append, List.length_cons] at hl ⊢; omega) ?_ g3 g4 hs'
      have hsub : (pre ++ post).Sublist (pre ++ (i, o') :: post) := List.Sublist.append (List.Sublist.refl _) (List.sublist_cons_self _ _)
      refine ⟨hr.sorted.sublist hsub, fun j oj hj => hr.there j oj (hsub.subset hj), by simp [hr.size], fun j hj => ?_, fun j hj hlj k hk => ?_⟩
      · by_cases hji : j = i
        · subst hji
          constructor
          · intro h
            have hsz : j < listed.size := by rw [hr.size]; exact hj
            simp [hsz] at h
          · rintro ⟨oj, hoj⟩
            exfalso
            rcases List.mem_append.1 hoj with h | h
            · have := hsrt.2.2 _ h (j, o') (by simp); simp only at this; omega
            · have := (List.pairwise_cons.1 hsrt.2.1).1 _ h; simp only at this; omega
        · rw [getD_set_ne true (Ne.symm hji), hr.left j hj]
          constructor
          · rintro ⟨oj, hoj⟩
            refine ⟨oj, ?_⟩
            rcases List.mem_append.1 hoj with h | h
            · exact List.mem_append_left _ h
            · rcases List.mem_cons.1 h with h | h
              · cases h; exact absurd rfl hji
              · exact List.mem_append_right _ h
          · rintro ⟨oj, hoj⟩
            exact ⟨oj, hsub.subset hoj⟩
      · by_cases hji : j = i
        · subst hji; exact getD_set_true (hanc k hk)
        · rw [getD_set_ne false (Ne.symm hji)] at hlj
          exact getD_set_true (hr.closed j hj hlj k hk)

theorem withIx_mem : ∀ {l : List Oper} {k i : Nat} {o : Oper}, (i, o) ∈ withIx k l ↔ k ≤ i ∧ l[i - k]? = some o
  | [], k, i, o => by simp [withIx]
  | x :: l, k, i, o => by
    simp only [withIx, List.mem_cons, Prod.mk.injEq, withIx_mem (l := l)]
    constructor
    · rintro (⟨rfl, rfl⟩ | ⟨h1, h2⟩)
      · simp
      · refine ⟨by omega, ?_⟩
        rw [show i - k = (i - (k + 1)) + 1 from by omega, List.getElem?_cons_succ]; exact h2
    · rintro ⟨h1, h2⟩
      by_cases hik : i = k
      · subst hik; simp at h2; exact .inl ⟨rfl, h2.symm⟩
      · right
        refine ⟨by omega, ?_⟩
        rw [show i - k = (i - (k + 1)) + 1 from by omega, List.getElem?_cons_succ] at h2; exact h2

theorem withIx_sorted : ∀ (l : List Oper) (k : Nat), (withIx k l).Pairwise fun a b => a.1 < b.1
  | [], _ => .nil
  | x :: l, k => by
    simp only [withIx, List.pairwise_cons]
    refine ⟨fun q hq => ?_, withIx_sorted l (k + 1)⟩
    obtain ⟨i, o⟩ := q
    have := (withIx_mem.1 hq).1
    simp only; omega

theorem withIx_len : ∀ (l : List Oper) (k : Nat), (withIx k l).length = l.length
  | [], _ => rfl
  | _ :: l, k => by simp [withIx, withIx_len l]

theorem Rem.all (anc : List Nat) : Rem ops anc (Array.replicate ops.size false) (withIx 0 ops.toList) where
  sorted := withIx_sorted _ _
  there i o h := by have := (withIx_mem.1 h).2; simpa using this
  size := by simp
  left i hi := by
    constructor
    · intro _
      exact ⟨ops[i], withIx_mem.2 ⟨Nat.zero_le _, by simp [hi]⟩⟩
    · intro _; simp [hi]
  closed i hi h := by simp [hi] at h

theorem tr_drew {x : Ctx} {m : Nat → Option En} (h : Mem x m) : Tr x none { x with w := { x.w with drawn := x.w.drawn + 1 } } m := by
  have hx : Ext x { x with w := { x.w with drawn := x.w.drawn + 1 } } := ⟨Nat.le_refl _, fun _ h => ⟨h, rfl⟩, fun _ _ => rfl, fun _ _ => rfl, fun _ _ cs _ h => ⟨cs, h, rfl⟩⟩
  refine ⟨hx, ⟨h.dom, h.fl, h.nil, fun p e hp hr => ?_, h.inj, h.own, h.fw⟩, rfl, rfl, rfl, fun _ _ _ => rfl, fun _ hp => .inl ⟨hp, rfl⟩, fun _ hb => .inl hb⟩
  obtain ⟨cs, ty, hc, hd⟩ := h.ent p e hp hr
  exact ⟨cs, ty, hc, denEn_ext hx hd⟩

theorem Sim.drew {σ : St} {x : Ctx} {a : Act} (h : Sim w0 F0 K as σ x a) : Sim w0 F0 K as σ { x with w := { x.w with drawn := x.w.drawn + 1 } } a :=
  ⟨h.defers, h.nt, fun t => denS_ext (tr_drew h.mem).ext (h.t t), (tr_drew h.mem).mem, h.base.tr (tr_drew h.mem), h.frs.ext (tr_drew h.mem).ext⟩

/-! Code. -/
/-- Right behind the entry of a loop. -/
def wpL (P : Program) (c : Code) (Q : Exit → Act → World → Prop) (a : Act) (w : World) : Prop :=
  ∀ (b : Frame) (k : List Item) (cs : List Frame), ∃ e a' w', Q e a' w' ∧ Arrives P (lone (b.at a (.code c :: .inLoop c :: k)) cs w) b k cs e a' w'

theorem wp_of_wpL {c : Code} {a : Act} {w : World} (h : wpL P c Q a w) : (Code.loop c).wp P Q a w := by
  intro b k cs
  obtain ⟨e, a', w', hq, harr⟩ := h b k cs
  exact ⟨e, a', w', hq, .of_steps (.one step_loop) harr⟩

theorem wpL_unroll {c : Code} {a : Act} {w : World} (h : c.wp P (Exit.then (wpL P c Q) Q) a w) : wpL P c Q a w := by
  intro b k cs
  obtain ⟨e, a₁, w₁, hq, harr⟩ := h b (.inLoop c :: k) cs
  cases e with
  | normal =>
    obtain ⟨e₂, a₂, w₂, hq₂, harr₂⟩ := hq b k cs
    exact ⟨e₂, a₂, w₂, hq₂, .of_steps (Steps.trans harr (.one step_inLoop)) harr₂⟩
  | exit id => exact ⟨_, a₁, w₁, hq, .pass (x := .inLoop c) rfl (fun _ _ => .inl (by simp)) harr⟩
  | goto l => exact ⟨_, a₁, w₁, hq, .pass (x := .inLoop c) rfl (fun _ _ => .inl (by simp)) harr⟩
  | ret => exact ⟨_, a₁, w₁, hq, .pass (x := .inLoop c) rfl (fun _ _ => .inl (by simp)) harr⟩
  | panic ch => exact ⟨_, a₁, w₁, hq, .pass (x := .inLoop c) rfl (fun _ _ => .inl (by simp)) harr⟩
  | outgrown => exact ⟨_, a₁, w₁, hq, .pass (x := .inLoop c) rfl (fun _ _ => .inl (by simp)) harr⟩

/-- What a stack leads to, with the callers that wait. -/
def wpK (P : Program) (Q : Exit → Act → World → Prop) : List KI → List Act → Exit → Act → World → Prop
  | [], _ => Q
  | .code c :: k, as => Exit.then (c.wp P (wpK P Q k as)) (wpK P Q k as)
  | .blk id :: k, as => Exit.inBlock id (wpK P Q k as)
  | .lp c :: k, as => Exit.then (wpL P c (wpK P Q k as)) (wpK P Q k as)
  | .ops l i _ :: k, as => Exit.then (wpOps P l (wpK P Q k as) (List.range' i (l.size - i))) (wpK P Q k as)
  | .fr fn dst _ :: k, aS :: as => fun e a w => (e = .ret ∨ e = .normal) ∧ a.defers = [] ∧ ∃ v, (results fn a.tmps).run P w = .ok v w ∧ wpK P Q k as .normal (aS.put dst v) w
  | .fr _ _ _ :: _, [] => fun _ _ _ => False

end
end Go.Proofs.Ytlfllehomhcbfaa
