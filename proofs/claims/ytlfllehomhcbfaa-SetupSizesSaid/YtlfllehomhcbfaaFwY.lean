/- States told by lists; checkpoints of a run; loops; the beginning and the end of a function. No conditions. -/
import Derived.Test.YtlfllehomhcbfaaFwX
namespace Go.Proofs.Ytlfllehomhcbfaa

def look {α : Type} (d : α) : List Nat → List α → Nat → α
  | t :: tl, v :: vl, n => if n = t then v else look d tl vl n
  | _, _, _ => d

/-- A state: of so many slots these are known, and these blocks. -/
def mkFr : List (List Nat) → List (List SV × Nat) → List ((Nat → SV) × Nat)
  | tl :: ftl, (svs, n) :: r => (look .top tl svs, n) :: mkFr ftl r
  | _, _ => []

def mkSt (nt : Nat) (tl : List Nat) (svs : List SV) (ml : List Nat) (ens : List (Option En)) (nx : Nat) (ftl : List (List Nat)) (fsv : List (List SV × Nat)) : St := ⟨look .top tl svs, look none ml ens, nt, nx, mkFr ftl fsv⟩

def refIt (keep : List Nat) : It → Bool
  | .ptr p _ => hasN p keep
  | .ep p _ _ _ => hasN p keep
  | .slc p _ _ _ => hasN p keep
  | .mp p => hasN p keep
  | .clo _ c => c.all fun a => hasN a.1 keep
  | _ => true
def refIts (keep : List Nat) : List It → Bool
  | [] => true
  | i :: l => refIt keep i && refIts keep l
def refV (keep : List Nat) : V1 → Bool
  | .c i => refIt keep i
  | .a l => refIts keep l
def refVs (keep : List Nat) : List V1 → Bool
  | [] => true
  | i :: l => refV keep i && refVs keep l
def refS (keep : List Nat) : SV → Bool
  | .v a => refV keep a
  | .t l => refVs keep l
  | .top => true
def refSs (keep : List Nat) : List SV → Bool
  | [] => true
  | i :: l => refS keep i && refSs keep l
def refEns (keep : List Nat) : List (Option En) → Bool
  | [] => true
  | some (.fl l) :: r => refIts keep l && refEns keep r
  | some (.sq _) :: r => refEns keep r
  | none :: _ => false

def mapT (t : Nat → SV) : List Nat → List SV
  | [] => []
  | d :: l => t d :: mapT t l
def mapM (m : Nat → Option En) : List Nat → List (Option En)
  | [] => []
  | d :: l => m d :: mapM m l

def mapF : List ((Nat → SV) × Nat) → List (List Nat) → Option (List (List SV × Nat))
  | [], [] => some []
  | (t, n) :: fr, tl :: ftl => match mapF fr ftl with
    | some r => some ((mapT t tl, n) :: r)
    | none => none
  | _, _ => none
def refFs (keep : List Nat) : List (List SV × Nat) → Bool
  | [] => true
  | q :: l => refSs keep q.1 && refFs keep l

/-- A run up to a place, and what is known there of some slots and blocks. -/
structure At where
  obl : List Prop
  x : Exit
  svs : List SV
  ens : List (Option En)
  nt : Nat
  nx : Nat
  fsv : List (List SV × Nat)

def runAt (env : Env) (unroll : Bool) (n : Nat) (c : Cfg) (path : List Bool) (tl ml : List Nat) (ftl : List (List Nat)) : Option At :=
  match run env unroll n c path with
  | ⟨ob, _, ⟨_, x, σ⟩⟩ =>
    match mapF σ.fr ftl with
    | some fsv => if refSs ml (mapT σ.t tl) && refEns ml (mapM σ.m ml) && refFs ml fsv then some ⟨ob, x, mapT σ.t tl, mapM σ.m ml, σ.nt, σ.nx, fsv⟩ else none
    | none => none

section
variable {P : Program} {w0 : World} {F0 K : Nat → Prop} {as : List Act} {env : Env} {Q : Exit → Act → World → Prop} {x : Ctx} {a : Act}

def keepCtx (x : Ctx) (keep : List Nat) : Ctx := { x with k := fun p => if hasN p keep then x.k p else .no }

theorem keep_den {keep : List Nat} : ∀ {i : It}, refIt keep i = true → ∀ (d : Nat) (vs : List Value), den x d i vs → den (keepCtx x keep) d i vs := by
  intro i h d vs hd
  by_cases hf : ownFreeIt i = true
  · exact den_data (x := x) (y := keepCtx x keep) rfl (fun b hb => hb) d i vs hf hd
  · cases i
    case ptr p off => cases d <;> simp only [den, keepCtx, refIt] at h hd ⊢ <;> exact ⟨by rw [if_pos h]; exact hd.1, hd.2⟩
    case ep p es j off => cases d <;> simp only [den, keepCtx, refIt] at h hd ⊢ <;> exact ⟨by rw [if_pos h]; exact hd.1, hd.2⟩
    case slc p off len es => cases d <;> simp only [den, keepCtx, refIt] at h hd ⊢ <;> (rw [if_pos h]; exact hd)
    case mp p => cases d <;> simp only [den, keepCtx, refIt] at h hd ⊢ <;> exact ⟨by rw [if_pos h]; exact hd.1, hd.2⟩
    case clo f c =>
      cases d <;> simp only [den, keepCtx, refIt] at h hd ⊢ <;> exact ⟨fun b hb => by rw [if_pos (List.all_eq_true.1 h b hb)]; exact hd.1 b hb, hd.2⟩
    case dead => cases d <;> exact hd
    all_goals exact absurd rfl hf

theorem keep_cat {keep : List Nat} : ∀ {l : List It} {cs : List Value}, refIts keep l = true → catL x.D l cs → catL (keepCtx x keep).D l cs
  | [], _, _, h => h
  | i :: l, _, hr, ⟨c1, c2, e, ⟨d, h1⟩, h2⟩ => by
    simp only [refIts, Bool.and_eq_true] at hr
    exact ⟨c1, c2, e, ⟨d, keep_den hr.1 d c1 h1⟩, keep_cat hr.2 h2⟩

theorem keep_V {keep : List Nat} {s : V1} {v : Value} (hr : refV keep s = true) (h : denV x s v) : denV (keepCtx x keep) s v := by
  cases s with
  | c i => obtain ⟨h1, d, h2⟩ := h; exact ⟨h1, d, keep_den hr d _ h2⟩
  | a l => obtain ⟨cs, e, hc⟩ := h; exact ⟨cs, e, keep_cat hr hc⟩

theorem keep_Vs {keep : List Nat} : ∀ {l : List V1} {vs : List Value}, refVs keep l = true → denVs x l vs → denVs (keepCtx x keep) l vs
  | [], _, _, h => by cases h; exact .nil
  | a :: l, _, hr, h => by
    simp only [refVs, Bool.and_eq_true] at hr
    cases h with
    | cons h1 h2 => exact .cons (keep_V hr.1 h1) (keep_Vs hr.2 h2)

theorem keep_S {keep : List Nat} {s : SV} {v : Value} (hr : refS keep s = true) (h : denS x s v) : denS (keepCtx x keep) s v := by
  cases s with
  | v a => exact keep_V hr h
  | t l => obtain ⟨vs, e, hc⟩ := h; exact ⟨vs, e, keep_Vs hr hc⟩
  | top => trivial

theorem look_mapT {t : Nat → SV} : ∀ {tl : List Nat} {n : Nat}, look .top tl (mapT t tl) n = t n ∨ look .top tl (mapT t tl) n = .top
  | [], n => .inr rfl
  | d :: l, n => by
    simp only [mapT, look]
    by_cases h : n = d
    · subst h; simp
    · simp only [h, if_false]; exact look_mapT

theorem look_ref {t : Nat → SV} {keep : List Nat} : ∀ {tl : List Nat} {n : Nat}, refSs keep (mapT t tl) = true → refS keep (look .top tl (mapT t tl) n) = true
  | [], n, _ => rfl
  | d :: l, n, h => by
    simp only [mapT, refSs, Bool.and_eq_true] at h
    simp only [mapT, look]
    by_cases hd : n = d
    · simp only [hd, if_true]; exact h.1
    · simp only [hd, if_false]; exact look_ref h.2

theorem look_mapM {m : Nat → Option En} : ∀ {ml : List Nat} {p : Nat}, look none ml (mapM m ml) p = if hasN p ml then m p else none
  | [], p => rfl
  | d :: l, p => by
    simp only [mapM, look, hasN]
    by_cases h : p = d
    · subst h; simp
    · simp only [h, Ne.symm h, if_false]; exact look_mapM

theorem refEns_get {m : Nat → Option En} {keep : List Nat} : ∀ {ml : List Nat}, refEns keep (mapM m ml) = true → ∀ p, hasN p ml = true → ∃ e, m p = some e ∧ (∀ l, e = .fl l → refIts keep l = true)
  | [], _, p, h => by cases h
  | d :: l, h, p, hp => by
    simp only [hasN] at hp
    simp only [mapM] at h
    cases hm : m d with
    | none => rw [hm] at h; cases h
    | some e =>
      rw [hm] at h
      cases e with
      | fl its =>
        simp only [refEns, Bool.and_eq_true] at h
        split at hp
        · rename_i hd; subst hd; exact ⟨.fl its, hm, fun l hl => by cases hl; exact h.1⟩
        · exact refEns_get h.2 p hp
      | sq q =>
        simp only [refEns] at h
        split at hp
        · rename_i hd; subst hd; exact ⟨.sq q, hm, fun l hl => by cases hl⟩
        · exact refEns_get h p hp

theorem Frs.keep {keep : List Nat} {fr : List ((Nat → SV) × Nat)} (h : Frs x fr as) : ∀ {ftl : List (List Nat)} {fsv : List (List SV × Nat)}, mapF fr ftl = some fsv → refFs keep fsv = true → Frs (keepCtx x keep) (mkFr ftl fsv) as := by
  induction h with
  | nil =>
    intro ftl fsv hm _
    cases ftl with
    | nil => simp only [mapF] at hm; cases hm; exact .nil
    | cons _ _ => simp only [mapF] at hm; cases hm
  | cons h1 h2 h3 _ ih =>
    intro ftl fsv hm hr
    cases ftl with
    | nil => simp only [mapF] at hm; cases hm
    | cons tl ftl =>
      simp only [mapF] at hm
      split at hm
      · rename_i r hr'
        cases hm
        simp only [refFs, Bool.and_eq_true] at hr
        refine .cons h1 h2 (fun t => ?_) (ih hr' hr.2)
        have hrt := look_ref (n := t) hr.1
        rcases look_mapT (tl := tl) (n := t) with hl | hl
        · rw [hl] at hrt ⊢; exact keep_S hrt (h3 t)
        · rw [hl]; trivial
      · cases hm

theorem Sim.keep {σ : St} {tl ml : List Nat} {nx : Nat} {ftl : List (List Nat)} {fsv : List (List SV × Nat)} (h : Sim w0 F0 K as σ x a) (hr : refSs ml (mapT σ.t tl) = true) (he : refEns ml (mapM σ.m ml) = true) (hf : mapF σ.fr ftl = some fsv) (hrf : refFs ml fsv = true) :
    Sim w0 F0 K as (mkSt σ.nt tl (mapT σ.t tl) ml (mapM σ.m ml) nx ftl fsv) (keepCtx x ml) a where
  frs := h.frs.keep hf hrf
  defers := h.defers
  nt := h.nt
  t t := by
    show denS (keepCtx x ml) (look .top tl (mapT σ.t tl) t) _
    have hrt := look_ref (n := t) hr
    rcases look_mapT (t := σ.t) (tl := tl) (n := t) with hl | hl
    · rw [hl] at hrt ⊢; exact keep_S hrt (h.t t)
    · rw [hl]; trivial
  mem := by
    have hm : ∀ p, look none ml (mapM σ.m ml) p = if hasN p ml then σ.m p else none := fun p => look_mapM
    refine ⟨fun p => ?_, fun p l hp => ?_, fun p q hp hn => ?_, fun p e hp hk => ?_, fun p q hp hq he => ?_, fun p hp => ?_, h.mem.fw⟩
    · show look none ml (mapM σ.m ml) p = none ↔ _
      rw [hm]
      simp only [keepCtx]
      by_cases hk : hasN p ml = true
      · simp only [hk, if_true]; exact h.mem.dom p
      · simp [hk]
    · have hp : look none ml (mapM σ.m ml) p = some (.fl l) := hp
      rw [hm] at hp
      split at hp
      · rename_i hk; simp only [keepCtx, hk, if_true]; exact h.mem.fl p l hp
      · cases hp
    · have hp : look none ml (mapM σ.m ml) p = some (.sq q) := hp
      rw [hm] at hp
      split at hp
      · rename_i hk; simp only [keepCtx, hk, if_true] at hn; exact h.mem.nil p q hp hn
      · cases hp
    · have hp : look none ml (mapM σ.m ml) p = some e := hp
      rw [hm] at hp
      split at hp
      · rename_i hkp
        simp only [keepCtx, hkp, if_true] at hk
        obtain ⟨cs, ty, hc, hd⟩ := h.mem.ent p e hp hk
        obtain ⟨e', he', hfl⟩ := refEns_get he p hkp
        rw [hp] at he'
        cases he'
        refine ⟨cs, ty, hc, ?_⟩
        cases e with
        | fl l => exact keep_cat (hfl l rfl) hd
        | sq q => exact ⟨hd.1, fun i hi => let ⟨c, hc, hj⟩ := hd.2 i hi; ⟨c, cat_data (x := x) (y := keepCtx x ml) rfl (fun b hb => hb) (ownFree_get q i) hc, hj⟩⟩
      · cases hp
    · simp only [keepCtx] at hp hq he
      split at hp
      · split at hq
        · exact h.mem.inj p q hp hq he
        · cases hq
      · cases hp
    · simp only [keepCtx] at hp ⊢
      split at hp
      · exact h.mem.own p hp
      · cases hp
  base := by
    refine ⟨h.base.f0, h.base.fn, h.base.size, h.base.keep, fun p hp => ?_, h.base.os, h.base.tape, h.base.output⟩
    simp only [keepCtx] at hp
    split at hp
    · exact h.base.ownK p hp
    · cases hp

/-- Up to a place. -/
theorem run_at (hE : EnvOk P env) {unroll : Bool} {n : Nat} {c : Cfg} {path : List Bool} {tl ml : List Nat} {ftl : List (List Nat)} {o : At} (h : runAt env unroll n c path tl ml ftl = some o) {k' : List KI} (hk : (run env unroll n c path).cfg.k = k') (ho : AllP o.obl) (hs : Sim w0 F0 K as c.σ x a)
    (hK : ∀ as' y a', Sim w0 F0 K as' (mkSt o.nt tl o.svs ml o.ens o.nx ftl o.fsv) y a' → wpK P Q k' as' o.x a' y.w) : wpK P Q c.k as c.x a x.w := by
  unfold runAt at h
  split at h
  rename_i ob path' k e σ hrun
  split at h
  · rename_i fsv hf
    split at h
    · rename_i hc
      simp only [Bool.and_eq_true] at hc
      cases h
      have hr := run_sound (Q := Q) hE (unroll := unroll) n (c := c) (path := path) (as := as) (x := x) (a := a) (by rw [hrun]; exact ho) hs
      refine hr fun as' y a' hs' => ?_
      rw [hrun] at hs' hk ⊢
      cases hk
      exact hK as' (keepCtx y ml) a' (hs'.keep hc.1.1 hc.1.2 hf hc.2)
    · cases h
  · cases h

def loopOf : List KI → Option (Code × List KI)
  | .code (.loop c) :: k => some (c, k)
  | _ => none

/-- A loop, by what holds ahead of each round. -/
theorem loop_rule {ι : Type} (S : ι → St) (μ : ι → Nat) {k0 k : List KI} {c : Code} (hl : loopOf k0 = some (c, k))
    (round : ∀ i, (∀ j, μ j < μ i → ∀ as y b, Sim w0 F0 K as (S j) y b → wpK P Q (.lp c :: k) as .normal b y.w) → ∀ as y b, Sim w0 F0 K as (S i) y b → wpK P Q (.code c :: .lp c :: k) as .normal b y.w) (i : ι) (hs : Sim w0 F0 K as (S i) x a) :
    wpK P Q k0 as .normal a x.w := by
  have hk0 : k0 = .code (.loop c) :: k := by
    unfold loopOf at hl
    split at hl
    · cases hl; rfl
    · cases hl
  subst hk0
  have key : ∀ n i, μ i = n → ∀ as y b, Sim w0 F0 K as (S i) y b → wpL P c (wpK P Q k as) b y.w := by
    intro n
    induction n using Nat.strongRecOn with
    | _ n ih =>
      intro i hi as y b hsi
      refine wpL_unroll ?_
      exact round i (fun j hj as y b hsj => ih (μ j) (hi ▸ hj) j rfl as y b hsj) as y b hsi
  exact wp_of_wpL (key _ i rfl as x a hs)

/-! The beginning and the end of a function. -/
def Post (P : Program) (fn : Func) (x : Ctx) (r : SV) (es : List En) : Exit → Act → World → Prop :=
  bodyPost P fn fun e w' => ∃ v y, e = .returned v ∧ y.w = w' ∧ Tr x none y (fun p => es[p]?) ∧ denS y r v

theorem fn_start {f : Nat} {fn : Func} {c : Code} {args : List SV} {r : SV} {es : List En} (hf : P.funcs[f]? = some fn) (hb : fn.body = some c) (hlen : Nat.ble args.length fn.ntmps = true)
    (h : ∀ (x : Ctx) (a : Act), (∀ p, x.k p = .no) → (∀ b, x.F b → b < x.w.heap.size) → Sim x.w x.F (fun _ => True) [] (initSt fn.ntmps args) x a → wpK P (Post P fn x r es) [.code c] [] .normal a x.w) : FnD P f args r es := by
  intro x vs hk hF hden
  exact calls_of_wp hf hb (h x _ hk hF (initSim (Nat.le_of_ble_eq_true hlen) hk hF hden))

def runEnd (env : Env) (fn : Func) (unroll : Bool) (n : Nat) (c : Cfg) (path : List Bool) (ps fz : List Nat) : Option (List Prop × SV × List En) :=
  match run env unroll n c path with
  | ⟨ob, _, ⟨[], .ret, σ⟩⟩ =>
    match resSV env σ fn.results.toList with
    | some (o, r) => match rnS σ.m ps fz (tupSV r), rnEns σ.m ps fz ps with
      | some (o1, r'), some (o2, es) => if okPs ps fz then some (ob ++ (o ++ (o1 ++ o2)), r', es) else none
      | _, _ => none
    | none => none
  | _ => none

theorem lit_bool {b b' : Bool} (h : b = b') {y : Ctx} {v : Value} (hd : denS y (.v (.c (.lit b))) v) : denS y (.v (.c (.bool b'))) v := by
  subst h
  have := D_lit hd
  subst this
  exact den_bool _

theorem run_end (hE : EnvOk P env) {fn : Func} {x0 : Ctx} (hk : ∀ p, x0.k p = .no) (hF : ∀ b, x0.F b → b < x0.w.heap.size) {unroll : Bool} {n : Nat} {c : Cfg} {path : List Bool} {ps fz : List Nat} {ob : List Prop} {r rr : SV} {es : List En}
    (h : runEnd env fn unroll n c path ps fz = some (ob, r, es)) (ho : AllP ob) (hconv : ∀ y v, denS y r v → denS y rr v) (hs : Sim x0.w x0.F (fun _ => True) as c.σ x a) : wpK P (Post P fn x0 rr es) c.k as c.x a x.w := by
  unfold runEnd at h
  split at h
  · rename_i ob2 path2 σ2 hrun
    split at h
    · rename_i o3 r3 hres
      split at h
      · rename_i o1 r' o2 es' hr hes
        split at h
        · rename_i hok
          cases h
          have ho1 := AllP_append.1 ho
          have ho2 := AllP_append.1 ho1.2
          have ho3 := AllP_append.1 ho2.2
          have hrs := run_sound (Q := Post P fn x0 rr es) hE (unroll := unroll) n (c := c) (path := path) (as := as) (x := x) (a := a) (by rw [hrun]; exact ho1.1) hs
          refine hrs fun as' y a' hs => ?_
          rw [hrun] at hs ⊢
          show bodyPost P fn (fun e w' => ∃ v y, e = .returned v ∧ y.w = w' ∧ Tr x0 none y (fun p => es[p]?) ∧ denS y rr v) .ret a' y.w
          obtain ⟨v, hv, hdv⟩ := results_sound hE hs.mem hs.t hres ho2.1
          refine ⟨hs.defers, v, hv, v, finCtx y ps fz, rfl, rfl, ?_, hconv _ _ (rnS_sound hs.mem hr ho3.1 hdv)⟩
          have hmem := fin_mem hs.mem hes ho3.2 hok
          have hb := hs.base
          have nok : ∀ p, x0.k p = .real → False := fun p hp => by rw [hk p] at hp; cases hp
          have hreal : ∀ p, y.k p = .real → x0.w.heap.size ≤ y.β p := fun p hp => by
            rcases Nat.lt_or_ge (y.β p) x0.w.heap.size with h | h
            · exact absurd trivial (hb.ownK p hp h)
            · exact h
          refine ⟨⟨hb.size, fun b hb' => ⟨.inl (hb.f0 b hb'), hb.keep b (hF b hb') trivial⟩, fun p hp => absurd (hk p) hp, fun p hp => (nok p hp).elim, fun p hp => (nok p hp).elim⟩, hmem, hb.os, hb.tape, hb.output, fun b hb' _ => hb.keep b hb' trivial, fun i hi => ?_, fun b hb' => ?_⟩
          · right
            cases hp : ps[i]? with
            | none => simp only [finCtx, hp] at hi; cases hi
            | some p => simp only [finCtx, hp] at hi ⊢; exact hreal p hi
          · rcases hb' with hb' | ⟨p, _, hk', rfl⟩
            · exact hb.fn b hb'
            · exact .inr (hreal p hk')
        · cases h
      · cases h
    · cases h
  · cases h

end
end Go.Proofs.Ytlfllehomhcbfaa
