/- A function's end: results told by numbers of their own, rows that are done with frozen; what a contract asks. No conditions. -/
import Derived.Test.YtlfllehomhcbfaaFwW
namespace Go.Proofs.Ytlfllehomhcbfaa

def ixOf (p : Nat) : Nat → List Nat → Option Nat
  | _, [] => none
  | n, q :: l => if q = p then some n else ixOf p (n + 1) l

def hasN (p : Nat) : List Nat → Bool
  | [] => false
  | q :: l => if q = p then true else hasN p l

def rnIt (m : Nat → Option En) (ps fz : List Nat) : It → Option (List Prop × It)
  | .slc p off len es => match ixOf p 0 ps with
    | some i => some ([], .slc i off len es)
    | none => if hasN p fz then match m p with
        | some (.sq q) => if off = 0 ∧ es = q.es then some ([len = q.n], .sl q) else none
        | _ => none
      else none
  | .ptr p off => match ixOf p 0 ps with
    | some i => some ([], .ptr i off)
    | none => none
  | .ep p es j off => match ixOf p 0 ps with
    | some i => some ([], .ep i es j off)
    | none => none
  | .mp p => match ixOf p 0 ps with
    | some i => some ([], .mp i)
    | none => none
  | .clo f [] => some ([], .clo f [])
  | .clo _ _ => none
  | .int k n => some ([], .int k n)
  | .bool b => some ([], .bool b)
  | .lit b => some ([], .lit b)
  | .rp q i off => some ([], .rp q i off)
  | .sl q => some ([], .sl q)
  | .ob o => some ([], .ob o)
  | .val v => some ([], .val v)
  | .dead => some ([], .dead)

def rnIts (m : Nat → Option En) (ps fz : List Nat) : List It → Option (List Prop × List It)
  | [] => some ([], [])
  | i :: l => match rnIt m ps fz i, rnIts m ps fz l with
    | some (o, i), some (o', l) => some (o ++ o', i :: l)
    | _, _ => none

def rnV (m : Nat → Option En) (ps fz : List Nat) : V1 → Option (List Prop × V1)
  | .c i => match rnIt m ps fz i with
    | some (o, i) => some (o, .c i)
    | none => none
  | .a l => match rnIts m ps fz l with
    | some (o, l) => some (o, .a l)
    | none => none

def rnVs (m : Nat → Option En) (ps fz : List Nat) : List V1 → Option (List Prop × List V1)
  | [] => some ([], [])
  | i :: l => match rnV m ps fz i, rnVs m ps fz l with
    | some (o, i), some (o', l) => some (o ++ o', i :: l)
    | _, _ => none

def rnS (m : Nat → Option En) (ps fz : List Nat) : SV → Option (List Prop × SV)
  | .v a => match rnV m ps fz a with
    | some (o, a) => some (o, .v a)
    | none => none
  | .t l => match rnVs m ps fz l with
    | some (o, l) => some (o, .t l)
    | none => none
  | .top => some ([], .top)

def rnEn (m : Nat → Option En) (ps fz : List Nat) : En → Option (List Prop × En)
  | .fl l => match rnIts m ps fz l with
    | some (o, l) => some (o, .fl l)
    | none => none
  | .sq q => some ([], .sq q)

def rnEns (m : Nat → Option En) (ps fz : List Nat) : List Nat → Option (List Prop × List En)
  | [] => some ([], [])
  | p :: l => match m p with
    | some e => match rnEn m ps fz e, rnEns m ps fz l with
      | some (o, e), some (o', l) => some (o ++ o', e :: l)
      | _, _ => none
    | none => none

def okPs : List Nat → List Nat → Bool
  | [], _ => true
  | p :: l, fz => !(hasN p l) && !(hasN p fz) && okPs l fz

def fnRes (env : Env) (fn : Func) (n : Nat) (args : List SV) (path : List Bool) (ps fz : List Nat) : Option (List Prop × SV × List En) :=
  match evFn env fn n args path with
  | some (ob, _, r, σ) =>
    match rnS σ.m ps fz r, rnEns σ.m ps fz ps with
    | some (o1, r'), some (o2, es) => if okPs ps fz && Nat.ble args.length fn.ntmps then some (ob ++ (o1 ++ o2), r', es) else none
    | _, _ => none
  | none => none

theorem ixOf_spec {p : Nat} : ∀ {ps : List Nat} {n i : Nat}, ixOf p n ps = some i → n ≤ i ∧ ps[i - n]? = some p
  | [], n, i, h => by simp [ixOf] at h
  | q :: l, n, i, h => by
    simp only [ixOf] at h
    split at h
    · rename_i hq
      cases h
      simp [hq]
    · obtain ⟨h1, h2⟩ := ixOf_spec h
      refine ⟨by omega, ?_⟩
      rw [show i - n = (i - (n + 1)) + 1 from by omega, List.getElem?_cons_succ]; exact h2

theorem hasN_iff {p : Nat} : ∀ {l : List Nat}, hasN p l = true ↔ p ∈ l
  | [] => by simp [hasN]
  | q :: l => by
    simp only [hasN, List.mem_cons]
    split
    · rename_i h; simp [h]
    · rename_i h
      rw [hasN_iff (l := l)]
      constructor
      · exact fun h => .inr h
      · rintro (rfl | h')
        · exact absurd rfl h
        · exact h'

def finCtx (y : Ctx) (ps fz : List Nat) : Ctx :=
  { w := y.w, F := fun b => y.F b ∨ ∃ p, p ∈ fz ∧ y.k p = .real ∧ b = y.β p,
    k := fun i => match ps[i]? with | some p => y.k p | none => .no,
    β := fun i => match ps[i]? with | some p => y.β p | none => 0 }

section
variable {P : Program} {y : Ctx} {m : Nat → Option En} {ps fz : List Nat}

theorem ix_at {p i : Nat} (h : ixOf p 0 ps = some i) : ps[i]? = some p := by
  have := (ixOf_spec h).2
  simpa using this

theorem rnIt_sound (hm : Mem y m) {i i' : It} {o : List Prop} {vs : List Value} (h : rnIt m ps fz i = some (o, i')) (ho : AllP o) (hd : y.D i vs) : (finCtx y ps fz).D i' vs := by
  have data : ownFreeIt i = true → (finCtx y ps fz).D i vs := fun hf => D_data (x := y) (y := finCtx y ps fz) rfl (fun b hb => .inl hb) hf hd
  cases i with
  | slc p off len es =>
    have hs : ∃ v, vs = [v] ∧ denS y (.v (.c (.slc p off len es))) v := by
      have := D_len hd
      match vs, this with
      | [v], _ => exact ⟨v, rfl, rfl, hd⟩
    obtain ⟨v, rfl, hs⟩ := hs
    simp only [rnIt] at h
    split at h
    · rename_i i hi
      cases h
      have hp := ix_at hi
      refine ⟨0, ?_⟩
      rcases D_slc hs with ⟨h1, h2, h3, rfl⟩ | ⟨h1, cap, cs, ty, rfl, h4, h5, h6, h7⟩
      · exact .inl ⟨by simp only [finCtx, hp]; exact h1, h2, h3, rfl⟩
      · exact .inr ⟨by simp only [finCtx, hp]; exact h1, cap, cs, ty, by simp only [finCtx, hp], h4, h5, by simp only [finCtx, hp]; exact h6, h7⟩
    · split at h
      · rename_i hf
        split at h
        · rename_i q hq
          split at h
          · rename_i hc
            obtain ⟨rfl, rfl⟩ := hc
            cases h
            obtain ⟨rfl, _⟩ := ho
            rcases D_slc hs with ⟨hk, _, h0, rfl⟩ | ⟨hk, cap, cs, ty, rfl, hlc, hcm, hcs, hfit⟩
            · exact ⟨1, .inl ⟨none, 0, rfl, h0⟩⟩
            · obtain ⟨cs', ty', hcs', hden⟩ := hm.ent p _ hq hk
              obtain ⟨d, hd'⟩ := depth_max (R := fun d i => ∃ c, catL (den (finCtx y ps fz) d) (q.get i) c ∧ rd (finCtx y ps fz).w (finCtx y ps fz).F (y.β p) (0 + i * q.es) c) (n := q.n)
                (fun d d' i hdd ⟨c, hc, hr⟩ => ⟨c, catL_mono (fun _ _ h => den_le hdd h) hc, hr⟩) (fun i hi => by
                  obtain ⟨c, hc, hj⟩ := hden.2 i hi
                  obtain ⟨d, hc⟩ := catL_ex (cat_data (x := y) (y := finCtx y ps fz) rfl (fun b hb => .inl hb) (ownFree_get q i) hc)
                  refine ⟨d, c, hc, .inr ⟨p, hasN_iff.1 hf, hk, rfl⟩, fun j v hv => ?_⟩
                  show y.w.cell? _ = _
                  rw [cell_at hcs', Nat.zero_add]
                  exact hj j v hv)
              exact ⟨d + 1, .inr ⟨y.β p, 0, cap, rfl, hlc, by omega, hd'⟩⟩
          · cases h
        · cases h
      · cases h
  | ptr p off =>
    simp only [rnIt] at h
    split at h
    · rename_i i hi
      cases h
      have hp := ix_at hi
      obtain ⟨d, hd⟩ := hd
      refine ⟨d, ?_⟩
      cases d <;> simp only [den, finCtx, hp] at hd ⊢ <;> exact hd
    · cases h
  | ep p es j off =>
    simp only [rnIt] at h
    split at h
    · rename_i i hi
      cases h
      have hp := ix_at hi
      obtain ⟨d, hd⟩ := hd
      refine ⟨d, ?_⟩
      cases d <;> simp only [den, finCtx, hp] at hd ⊢ <;> exact hd
    · cases h
  | mp p =>
    simp only [rnIt] at h
    split at h
    · rename_i i hi
      cases h
      have hp := ix_at hi
      obtain ⟨d, hd⟩ := hd
      refine ⟨d, ?_⟩
      cases d <;> simp only [den, finCtx, hp] at hd ⊢ <;> exact hd
    · cases h
  | clo f c =>
    cases c with
    | nil => simp only [rnIt] at h; cases h; exact data rfl
    | cons c l => simp only [rnIt] at h; cases h
  | int k n => simp only [rnIt] at h; cases h; exact data rfl
  | bool b => simp only [rnIt] at h; cases h; exact data rfl
  | lit b => simp only [rnIt] at h; cases h; exact data rfl
  | rp q i off => simp only [rnIt] at h; cases h; exact data rfl
  | sl q => simp only [rnIt] at h; cases h; exact data rfl
  | ob o => simp only [rnIt] at h; cases h; exact data rfl
  | val v => simp only [rnIt] at h; cases h; exact data rfl
  | dead =>
    simp only [rnIt] at h; cases h
    obtain ⟨d, hd⟩ := hd
    refine ⟨d, ?_⟩
    cases d <;> exact hd

theorem rnIts_sound (hm : Mem y m) : ∀ {l l' : List It} {o : List Prop} {vs : List Value}, rnIts m ps fz l = some (o, l') → AllP o → catL y.D l vs → catL (finCtx y ps fz).D l' vs
  | [], _, _, _, h, _, hc => by simp [rnIts] at h; obtain ⟨_, rfl⟩ := h; exact hc
  | i :: l, _, _, _, h, ho, ⟨c1, c2, e, h1, h2⟩ => by
    simp only [rnIts] at h
    split at h
    · rename_i o1 i' o2 l' hi hl
      cases h
      have ho := AllP_append.1 ho
      exact ⟨c1, c2, e, rnIt_sound hm hi ho.1 h1, rnIts_sound hm hl ho.2 h2⟩
    · cases h

theorem rnIt_size {i i' : It} {o : List Prop} (h : rnIt m ps fz i = some (o, i')) : i'.size = i.size := by
  cases i <;> simp only [rnIt] at h
  case clo f c => cases c <;> simp only at h <;> cases h; rfl
  all_goals
    first
      | (cases h; rfl)
      | (repeat' split at h
         all_goals first | (cases h; rfl) | cases h)

theorem rnV_sound (hm : Mem y m) {a a' : V1} {o : List Prop} {v : Value} (h : rnV m ps fz a = some (o, a')) (ho : AllP o) (hd : denV y a v) : denV (finCtx y ps fz) a' v := by
  cases a with
  | c i =>
    simp only [rnV] at h
    split at h
    · rename_i o' i' hi
      cases h
      exact ⟨(rnIt_size hi).trans hd.1, rnIt_sound hm hi ho hd.2⟩
    · cases h
  | a l =>
    simp only [rnV] at h
    split at h
    · rename_i o' l' hl
      cases h
      obtain ⟨cs, e, hc⟩ := hd
      exact ⟨cs, e, rnIts_sound hm hl ho hc⟩
    · cases h

theorem rnVs_sound (hm : Mem y m) : ∀ {l l' : List V1} {o : List Prop} {vs : List Value}, rnVs m ps fz l = some (o, l') → AllP o → denVs y l vs → denVs (finCtx y ps fz) l' vs
  | [], _, _, _, h, _, hd => by simp [rnVs] at h; obtain ⟨_, rfl⟩ := h; cases hd; exact .nil
  | a :: l, _, _, _, h, ho, hd => by
    simp only [rnVs] at h
    split at h
    · rename_i o1 a' o2 l' ha hl
      cases h
      have ho := AllP_append.1 ho
      cases hd with
      | cons h1 h2 => exact .cons (rnV_sound hm ha ho.1 h1) (rnVs_sound hm hl ho.2 h2)
    · cases h

theorem rnS_sound (hm : Mem y m) {s s' : SV} {o : List Prop} {v : Value} (h : rnS m ps fz s = some (o, s')) (ho : AllP o) (hd : denS y s v) : denS (finCtx y ps fz) s' v := by
  cases s with
  | v a =>
    simp only [rnS] at h
    split at h
    · rename_i o' a' ha
      cases h
      exact rnV_sound hm ha ho hd
    · cases h
  | t l =>
    simp only [rnS] at h
    split at h
    · rename_i o' l' hl
      cases h
      obtain ⟨vs, e, hc⟩ := hd
      exact ⟨vs, e, rnVs_sound hm hl ho hc⟩
    · cases h
  | top => simp only [rnS] at h; cases h; trivial

theorem rnEn_sound (hm : Mem y m) {e e' : En} {o : List Prop} {cs : List Value} (h : rnEn m ps fz e = some (o, e')) (ho : AllP o) (hd : denEn y e cs) : denEn (finCtx y ps fz) e' cs := by
  cases e with
  | fl l =>
    simp only [rnEn] at h
    split at h
    · rename_i o' l' hl
      cases h
      exact rnIts_sound hm hl ho hd
    · cases h
  | sq q =>
    simp only [rnEn] at h
    cases h
    exact ⟨hd.1, fun i hi => let ⟨c, hc, hj⟩ := hd.2 i hi; ⟨c, cat_data (x := y) (y := finCtx y ps fz) rfl (fun b hb => .inl hb) (ownFree_get q i) hc, hj⟩⟩

theorem rnEns_get : ∀ {l : List Nat} {es : List En} {o : List Prop}, rnEns m ps fz l = some (o, es) → AllP o → es.length = l.length ∧ ∀ (i p : Nat), l[i]? = some p → ∃ e e' o', m p = some e ∧ rnEn m ps fz e = some (o', e') ∧ AllP o' ∧ es[i]? = some e'
  | [], es, o, h, _ => by simp [rnEns] at h; obtain ⟨_, rfl⟩ := h; exact ⟨rfl, fun i p hi => by simp at hi⟩
  | q :: l, es, o, h, ho => by
    simp only [rnEns] at h
    split at h
    · rename_i e he
      split at h
      · rename_i o1 e' o2 es' h1 h2
        cases h
        have ho := AllP_append.1 ho
        obtain ⟨g1, g2⟩ := rnEns_get h2 ho.2
        refine ⟨by simp [g1], fun i p hi => ?_⟩
        cases i with
        | zero =>
          simp only [List.getElem?_cons_zero, Option.some.injEq] at hi ⊢
          subst hi
          exact ⟨e, e', o1, he, h1, ho.1, rfl⟩
        | succ i =>
          simp only [List.getElem?_cons_succ] at hi ⊢
          exact g2 i p hi
      · cases h
    · cases h

theorem okPs_spec : ∀ {ps : List Nat}, okPs ps fz = true → (∀ p ∈ ps, p ∉ fz) ∧ ∀ (i j p : Nat), ps[i]? = some p → ps[j]? = some p → i = j
  | [], _ => ⟨fun p hp => (by cases hp), fun i j p hi => by simp at hi⟩
  | q :: l, h => by
    simp only [okPs, Bool.and_eq_true, Bool.not_eq_true'] at h
    obtain ⟨⟨h1, h2⟩, h3⟩ := h
    have h1' : q ∉ l := fun hq => by rw [hasN_iff.2 hq] at h1; cases h1
    have h2' : q ∉ fz := fun hq => by rw [hasN_iff.2 hq] at h2; cases h2
    obtain ⟨g1, g2⟩ := okPs_spec h3
    refine ⟨fun p hp => ?_, fun i j p hi hj => ?_⟩
    · rcases List.mem_cons.1 hp with rfl | hp
      · exact h2'
      · exact g1 p hp
    · cases i with
      | zero =>
        cases j with
        | zero => rfl
        | succ j =>
          simp only [List.getElem?_cons_zero, Option.some.injEq, List.getElem?_cons_succ] at hi hj
          subst hi
          exact absurd (List.mem_of_getElem? hj) h1'
      | succ i =>
        cases j with
        | zero =>
          simp only [List.getElem?_cons_zero, Option.some.injEq, List.getElem?_cons_succ] at hi hj
          subst hj
          exact absurd (List.mem_of_getElem? hi) h1'
        | succ j =>
          simp only [List.getElem?_cons_succ] at hi hj
          rw [g2 i j p hi hj]

theorem fin_mem (hm : Mem y m) {es : List En} {o : List Prop} (h : rnEns m ps fz ps = some (o, es)) (ho : AllP o) (hps : okPs ps fz = true) : Mem (finCtx y ps fz) (fun p => es[p]?) := by
  obtain ⟨hlen, hget⟩ := rnEns_get h ho
  obtain ⟨hfz, hinj⟩ := okPs_spec hps
  have at_ : ∀ i : Nat, (∃ p, ps[i]? = some p) ∨ ps[i]? = none := fun i => by cases ps[i]? with
    | none => exact .inr rfl
    | some p => exact .inl ⟨p, rfl⟩
  have outk : ∀ i : Nat, ps[i]? = none → (finCtx y ps fz).k i = .no := fun i h => by simp only [finCtx, h]
  have ink : ∀ i p : Nat, ps[i]? = some p → (finCtx y ps fz).k i = y.k p ∧ (finCtx y ps fz).β i = y.β p := fun i p h => by simp only [finCtx, h, and_self]
  refine ⟨fun i => ?_, fun i l hi => ?_, fun i q hi hn => ?_, fun i e hi hr => ?_, fun i j hi hj he => ?_, fun i hi hF => ?_, fun b hb => ?_⟩
  · rcases at_ i with ⟨p, hp⟩ | hp
    · obtain ⟨e, e', o', h1, _, _, h4⟩ := hget i p hp
      have hk : y.k p ≠ .no := fun hk => by rw [(hm.dom p).2 hk] at h1; cases h1
      simp only [h4, (ink i p hp).1, reduceCtorEq, hk]
    · have : ¬ i < ps.length := fun h => by simp [h] at hp
      have h2 : es[i]? = none := by simp; omega
      simp only [h2, outk i hp]
  · rcases at_ i with ⟨p, hp⟩ | hp
    · obtain ⟨e, e', o', h1, h2, _, h4⟩ := hget i p hp
      rw [(ink i p hp).1]
      rw [h4] at hi
      cases hi
      cases e with
      | fl l0 => exact hm.fl p l0 h1
      | sq q => simp only [rnEn] at h2; cases h2
    · have : ¬ i < ps.length := fun h => by simp [h] at hp
      have h2 : es[i]? = none := by simp; omega
      simp only [h2] at hi
      cases hi
  · rcases at_ i with ⟨p, hp⟩ | hp
    · obtain ⟨e, e', o', h1, h2, _, h4⟩ := hget i p hp
      rw [(ink i p hp).1] at hn
      rw [h4] at hi
      cases hi
      cases e with
      | fl l0 =>
        simp only [rnEn] at h2
        split at h2 <;> cases h2
      | sq q0 => simp only [rnEn] at h2; cases h2; exact hm.nil p _ h1 hn
    · rw [outk i hp] at hn; cases hn
  · rcases at_ i with ⟨p, hp⟩ | hp
    · obtain ⟨e0, e', o', h1, h2, h3, h4⟩ := hget i p hp
      rw [(ink i p hp).1] at hr
      rw [h4] at hi
      cases hi
      obtain ⟨cs, ty, hc, hd⟩ := hm.ent p e0 h1 hr
      exact ⟨cs, ty, by rw [(ink i p hp).2]; exact hc, rnEn_sound hm h2 h3 hd⟩
    · rw [outk i hp] at hr; cases hr
  · rcases at_ i with ⟨p, hp⟩ | hp
    · rcases at_ j with ⟨q, hq⟩ | hq
      · rw [(ink i p hp).1] at hi
        rw [(ink j q hq).1] at hj
        rw [(ink i p hp).2, (ink j q hq).2] at he
        have := hm.inj p q hi hj he
        subst this
        exact hinj i j p hp hq
      · rw [outk j hq] at hj; cases hj
    · rw [outk i hp] at hi; cases hi
  · rcases at_ i with ⟨p, hp⟩ | hp
    · rw [(ink i p hp).1] at hi
      rw [(ink i p hp).2] at hF
      rcases hF with hF | ⟨q, hq, hk, he⟩
      · exact hm.own p hi hF
      · have := hm.inj p q hi hk he
        subst this
        exact hfz p (List.mem_of_getElem? hp) hq
    · rw [outk i hp] at hi; cases hi
  · rcases hb with hb | ⟨p, _, hk, rfl⟩
    · exact hm.fw b hb
    · exact hm.lt hk

theorem fn_sound {env : Env} (hE : EnvOk P env) {f : Nat} {fn : Func} (hf : P.funcs[f]? = some fn) {n : Nat} {args : List SV} {path : List Bool} {ob : List Prop} {r : SV} {es : List En} (h : fnRes env fn n args path ps fz = some (ob, r, es)) (ho : AllP ob) : FnD P f args r es := by
  unfold fnRes at h
  split at h
  · rename_i ob1 path' r1 σ hev
    split at h
    · rename_i o1 r' o2 es' hr hes
      split at h
      · rename_i hc
        simp only [Bool.and_eq_true] at hc
        cases h
        have ho := AllP_append.1 ho
        have ho2 := AllP_append.1 ho.2
        intro x vs hk hF hden
        unfold evFn at hev
        split at hev
        · rename_i c hbody
          split at hev
          · rename_i ob2 path2 σ2 hrun
            split at hev
            · rename_i o3 rr hres
              cases hev
              have ho1 := AllP_append.1 ho.1
              have hlen : args.length ≤ fn.ntmps := Nat.le_of_ble_eq_true hc.2
              refine calls_of_wp hf hbody ?_
              have hinit := initSim (fn := fn) hlen hk hF hden
              have hrs := run_sound (Q := bodyPost P fn fun e w' => ∃ v y, e = .returned v ∧ y.w = w' ∧ Tr x none y (fun p => es[p]?) ∧ denS y r v) hE (unroll := true) n (c := ⟨[.code c], .normal, initSt fn.ntmps args⟩) (path := path) (by rw [hrun]; exact ho1.1) hinit
              refine hrs fun as' y a' hs => ?_
              rw [hrun] at hs ⊢
              show bodyPost P fn _ .ret a' y.w
              obtain ⟨v, hv, hdv⟩ := results_sound hE hs.mem hs.t hres ho1.2
              refine ⟨hs.defers, v, hv, v, finCtx y ps fz, rfl, rfl, ?_, rnS_sound hs.mem hr ho2.1 hdv⟩
              have hmem := fin_mem hs.mem hes ho2.2 hc.1
              have hb := hs.base
              have nok : ∀ p, x.k p = .real → False := fun p hp => by rw [hk p] at hp; cases hp
              have hreal : ∀ p, y.k p = .real → x.w.heap.size ≤ y.β p := fun p hp => by
                rcases Nat.lt_or_ge (y.β p) x.w.heap.size with h | h
                · exact absurd trivial (hb.ownK p hp h)
                · exact h
              refine ⟨⟨hb.size, fun b hb' => ⟨.inl (hb.f0 b hb'), hb.keep b (hF b hb') trivial⟩, fun p hp => absurd (hk p) hp, fun p hp => (nok p hp).elim, fun p hp => (nok p hp).elim⟩, hmem, hb.os, hb.tape, hb.output, fun b hb' _ => hb.keep b hb' trivial, fun i hi => ?_, fun b hb' => ?_⟩
              · right
                cases hp : ps[i]? with
                | none => simp only [finCtx, hp] at hi; cases hi
                | some p => simp only [finCtx, hp] at hi ⊢; exact hreal p hi
              · rcases hb' with hb' | ⟨p, _, hk', rfl⟩
                · exact hb.fn b hb'
                · exact .inr (hreal p hk')
            · cases hev
          · cases hev
        · cases hev
      · cases h
    · cases h
  · cases h

end
end Go.Proofs.Ytlfllehomhcbfaa
